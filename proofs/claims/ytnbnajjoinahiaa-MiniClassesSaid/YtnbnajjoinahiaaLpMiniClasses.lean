/- Plain law of MiniClasses. -/
import Derived.Test.YtnbnajjoinahiaaPT3
import Derived.Test.YtnbnajjoinahiaaPM0
set_option linter.unusedVariables false
set_option linter.unusedSimpArgs false
set_option maxRecDepth 100000
namespace Go.Proofs.Ytnbnajjoinahiaa.AI
theorem mc_L2 {N : Nat} {A : List (List Bool)} {y : List Bool} {i : Nat} {r : List Bool} (hr : A[i]? = some r) (hrl : r.length = A.length) (hm : A.length ≤ 1000) : ∀ (d k n : Nat), k + d = A.length → d < n → law08_MiniClasses_L2 N A y A y i n k = some (.inl ()) := by
 intro d
 induction d with
 | zero =>
  intro k n hk hn
  obtain ⟨n, rfl⟩ : ∃ x, n = x + 1 := ⟨n - 1, by omega⟩
  rw [law08_MiniClasses_L2, if_neg (by omega)]
 | succ d ih =>
  intro k n hk hn
  obtain ⟨n, rfl⟩ : ∃ x, n = x + 1 := ⟨n - 1, by omega⟩
  have hkr : k < r.length := by omega
  rw [law08_MiniClasses_L2, if_pos (by omega)]
  simp only [atI_at hr, Option.bind_some, atI_get hkr]
  rw [wk (by omega), ih (k + 1) n (by omega) (by omega)]
  by_cases g : r[k] = true
  ·
   rw [if_pos g, if_pos g]
  ·
   rw [if_neg g, if_neg g]
theorem mc_L3 {N : Nat} (hN : 1000000000000 < N) {A : List (List Bool)} {y : List Bool} (hy : y.length = A.length) (hA : ∀ r ∈ A, r.length = A.length) (hm : A.length ≤ 1000) : ∀ (d k n : Nat), k + d = A.length → d < n → law08_MiniClasses_L3 N A y A y n k = some (.inl ()) := by
 intro d
 induction d with
 | zero =>
  intro k n hk hn
  obtain ⟨n, rfl⟩ : ∃ x, n = x + 1 := ⟨n - 1, by omega⟩
  rw [law08_MiniClasses_L3, if_neg (by omega)]
 | succ d ih =>
  intro k n hk hn
  obtain ⟨n, rfl⟩ : ∃ x, n = x + 1 := ⟨n - 1, by omega⟩
  have hky : k < y.length := by omega
  have hkA : k < A.length := by omega
  have e2 := mc_L2 (N := N) (y := y) (List.getElem?_eq_getElem hkA) (hA _ (List.getElem_mem hkA)) hm A.length 0 N (by omega) (by omega)
  rw [law08_MiniClasses_L3, if_pos (by omega), atI_get hky, Option.bind_some, Option.bind_some, atI_get hkA, Option.bind_some, Option.bind_some, if_pos rfl, show law08_MiniClasses_L2 N A y A y k N 0 = _ from e2, Option.bind_some, wk (by omega)]
  simp only
  rw [ih (k + 1) n (by omega) (by omega)]
  by_cases g : y[k] = true
  ·
   rw [if_pos g, if_pos g]
  ·
   rw [if_neg g, if_neg g]
theorem miniClasses_plain {N : Nat} (hN : 1000000000000 < N) (l0 : List (Vector Int 16)) (l1 : List Int) : law08_MiniClasses N l0 l1 = some true := by
 unfold law08_MiniClasses law08_great
 rw [alive08 hN, Option.bind_some, if_pos rfl]
 by_cases g1 : 40 < (l0.length : Int)
 ·
  rw [if_pos g1, Option.bind_some, if_pos rfl]
 rw [if_neg g1, Option.bind_some]
 by_cases g2 : decide (300 < (l1.length : Int)) = true
 ·
  rw [if_pos g2]
 rw [if_neg g2]
 obtain ⟨b, er, hr⟩ := r7_eq hN l0 l1
 obtain ⟨b', er', hr'⟩ := right_eq hN l0 l1
 by_cases g4 : RightP l0 l1
 ·
  obtain ⟨y, A, cls, q, e1, e2, hyl, _, _, _, _, hC, e3, e4⟩ := both_sem hN g4
  have hcl := hC.len
  rw [e3, Option.bind_some, e1, Option.bind_some, er, Option.bind_some, if_pos (hr.2 g4), e4, Option.bind_some, e2, Option.bind_some, if_pos rfl, if_pos rfl]
  rw [show law08_MiniClasses_L3 N _ y _ y N 0 = _ from mc_L3 hN (y := y) (by simp; omega) (fun r hr => by
   obtain ⟨x, _, rfl⟩ := List.mem_map.1 hr; simp) (by simp; omega) cls.length 0 N (by simp) (by omega), Option.bind_some]
 ·
  have hb : b = false := by cases b with | true => exact absurd (hr.1 rfl) g4 | false => rfl
  have hb' : b' = false := by cases b' with | true => exact absurd (hr'.1 rfl) g4 | false => rfl
  subst hb; subst hb'
  obtain ⟨e1, e2⟩ := not_right er'
  rw [e2, Option.bind_some, e1, Option.bind_some, er, Option.bind_some, if_neg (by simp)]
  rfl
end Go.Proofs.Ytnbnajjoinahiaa.AI
