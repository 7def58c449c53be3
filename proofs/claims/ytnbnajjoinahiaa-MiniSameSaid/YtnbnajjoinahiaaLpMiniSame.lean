/- Plain law of MiniSame. -/
import Derived.Test.YtnbnajjoinahiaaPT4
import Derived.Test.YtnbnajjoinahiaaPM0
set_option linter.unusedVariables false
set_option linter.unusedSimpArgs false
set_option maxRecDepth 100000
namespace Go.Proofs.Ytnbnajjoinahiaa.AI
theorem eq16_iff {N : Nat} {l0 l2 : List (Vector Int 16)} (hl : l0.length = l2.length) (hm : l0.length ≤ 1000) : ∀ (d i n : Nat), i + d = l0.length → d < n → slices_Equal_16int16int_L1 N l0 l2 n i = some (if l0.drop i = l2.drop i then .inl () else .inr ()) := by
 intro d
 induction d with
 | zero =>
  intro i n hd hn
  obtain ⟨n, rfl⟩ : ∃ x, n = x + 1 := ⟨n - 1, by omega⟩
  rw [slices_Equal_16int16int_L1, if_neg (by omega), List.drop_eq_nil_of_le (by omega), List.drop_eq_nil_of_le (by omega), if_pos rfl]
 | succ d ih =>
  intro i n hd hn
  obtain ⟨n, rfl⟩ : ∃ x, n = x + 1 := ⟨n - 1, by omega⟩
  have h0 : i < l0.length := by omega
  have h2 : i < l2.length := by omega
  rw [slices_Equal_16int16int_L1, if_pos (by omega), atI_get h0, Option.bind_some, atI_get h2, Option.bind_some, wk (by omega), ih (i + 1) n (by omega) (by omega), List.drop_eq_getElem_cons h0, List.drop_eq_getElem_cons h2]
  simp only [List.cons.injEq]
  by_cases g : l0[i] = l2[i]
  ·
   rw [if_pos g]; simp [g]
  ·
   rw [if_neg g]; simp [g]
theorem eqI_iff {N : Nat} {l0 l2 : List Int} (hl : l0.length = l2.length) (hm : l0.length ≤ 1000) : ∀ (d i n : Nat), i + d = l0.length → d < n → slices_Equal_intint_L1 N l0 l2 n i = some (if l0.drop i = l2.drop i then .inl () else .inr ()) := by
 intro d
 induction d with
 | zero =>
  intro i n hd hn
  obtain ⟨n, rfl⟩ : ∃ x, n = x + 1 := ⟨n - 1, by omega⟩
  rw [slices_Equal_intint_L1, if_neg (by omega), List.drop_eq_nil_of_le (by omega), List.drop_eq_nil_of_le (by omega), if_pos rfl]
 | succ d ih =>
  intro i n hd hn
  obtain ⟨n, rfl⟩ : ∃ x, n = x + 1 := ⟨n - 1, by omega⟩
  have h0 : i < l0.length := by omega
  have h2 : i < l2.length := by omega
  rw [slices_Equal_intint_L1, if_pos (by omega), atI_get h0, Option.bind_some, atI_get h2, Option.bind_some, wk (by omega), ih (i + 1) n (by omega) (by omega), List.drop_eq_getElem_cons h0, List.drop_eq_getElem_cons h2]
  simp only [List.cons.injEq]
  by_cases g : l0[i] = l2[i]
  ·
   rw [if_pos g]; simp [g]
  ·
   rw [if_neg g]; simp [g]
theorem eq16_dec {N : Nat} (hN : 1000000000000 < N) {l0 l2 : List (Vector Int 16)} (h0 : l0.length ≤ 1000) : slices_Equal_16int16int N l0 l2 = some (decide (l0 = l2)) := by
 unfold slices_Equal_16int16int
 by_cases g0 : (l0.length : Int) = (l2.length : Int)
 ·
  rw [if_pos g0]
  have e1 := eq16_iff (N := N) (show l0.length = l2.length by omega) h0 l0.length 0 N (by omega) (by omega)
  rw [List.drop_zero, List.drop_zero] at e1
  rw [show slices_Equal_16int16int_L1 N l0 l2 N 0 = _ from e1, Option.bind_some]
  by_cases q0 : l0 = l2
  ·
   simp [q0]
  ·
   simp [q0]
 ·
  rw [if_neg g0]
  have : ¬ l0 = l2 := fun e => g0 (by rw [e])
  simp [this]
theorem eqI_dec {N : Nat} (hN : 1000000000000 < N) {l0 l2 : List Int} (h0 : l0.length ≤ 1000) : slices_Equal_intint N l0 l2 = some (decide (l0 = l2)) := by
 unfold slices_Equal_intint
 by_cases g0 : (l0.length : Int) = (l2.length : Int)
 ·
  rw [if_pos g0]
  have e1 := eqI_iff (N := N) (show l0.length = l2.length by omega) h0 l0.length 0 N (by omega) (by omega)
  rw [List.drop_zero, List.drop_zero] at e1
  rw [show slices_Equal_intint_L1 N l0 l2 N 0 = _ from e1, Option.bind_some]
  by_cases q0 : l0 = l2
  ·
   simp [q0]
  ·
   simp [q0]
 ·
  rw [if_neg g0]
  have : ¬ l0 = l2 := fun e => g0 (by rw [e])
  simp [this]
theorem same_dec {N : Nat} (hN : 1000000000000 < N) {l0 l2 rs rs' : List (Vector Int 16)} {l1 l3 us us' : List Int} (e1 : mini_Small N l0 l1 = some (rs, us)) (e2 : mini_Small N l2 l3 = some (rs', us')) (h1 : rs.length ≤ 1000) (h2 : us.length ≤ 1000) :
  mini_Same N l0 l1 l2 l3 = some (decide (0 < rs.length ∧ rs = rs' ∧ us = us')) := by
 unfold mini_Same
 rw [e1, Option.bind_some]
 simp only
 rw [e2, Option.bind_some]
 simp only
 rw [eq16_dec hN h1, eqI_dec hN h2]
 by_cases g : 0 < rs.length
 ·
  rw [if_pos (by omega), Option.bind_some]
  by_cases q0 : rs = rs'
  ·
   by_cases q1 : us = us'
   ·
    subst q0; simp [q1, g]
   ·
    simp [q0, q1]
  ·
   simp [q0]
 ·
  rw [if_neg (by omega)]; simp [g]
theorem sm_any {N : Nat} (hN : 1000000000000 < N) {l0 : List (Vector Int 16)} {l1 : List Int} : ∃ rs us, mini_Small N l0 l1 = some (rs, us) ∧ rs.length ≤ 200 ∧ us.length ≤ 200 ∧ (¬ RightP l0 l1 → rs = []) ∧ (RightP l0 l1 → ref08_Small N l0 l1 = some (rs, us) ∧ 0 < rs.length) := by
 by_cases g : RightP l0 l1
 ·
  obtain ⟨rs, us, e1, e2, hR⟩ := small_both hN g
  exact ⟨rs, us, e1, hR.2.1, by rw [hR.2.2.1]; exact hR.2.1, fun h => absurd g h, fun _ => ⟨e2, List.length_pos_iff.2 hR.1⟩⟩
 ·
  obtain ⟨b', er', hr'⟩ := right_eq hN l0 l1
  have hb' : b' = false := by cases b' with | true => exact absurd (hr'.1 rfl) g | false => rfl
  subst hb'
  exact ⟨[], [], small_none er', by simp, by simp, fun _ => rfl, fun h => absurd h g⟩
theorem miniSame_plain {N : Nat} (hN : 1000000000000 < N) (l0 : List (Vector Int 16)) (l1 : List Int) (l2 : List (Vector Int 16)) (l3 : List Int) : law08_MiniSame N l0 l1 l2 l3 = some true := by
 have hgr : ∀ (a : List (Vector Int 16)) (b : List Int), ∃ g, law08_great N a b = some g := fun a b => by
  unfold law08_great
  by_cases q : 40 < (a.length : Int)
  ·
   rw [if_pos q]; exact ⟨_, rfl⟩
  ·
   rw [if_neg q]; exact ⟨_, rfl⟩
 unfold law08_MiniSame
 obtain ⟨g, eg⟩ := hgr l0 l1
 obtain ⟨g', eg'⟩ := hgr l2 l3
 rw [alive08 hN, Option.bind_some, if_pos rfl, eg, Option.bind_some]
 by_cases q : g = true
 ·
  rw [if_pos q]
 rw [if_neg q, eg', Option.bind_some]
 by_cases q' : g' = true
 ·
  rw [if_pos q']
 rw [if_neg q']
 obtain ⟨b, er, hr⟩ := r7_eq hN l0 l1
 obtain ⟨b', er', hr'⟩ := r7_eq hN l2 l3
 obtain ⟨rs, us, e1, h1, h2, h3, h4⟩ := sm_any hN (l0 := l0) (l1 := l1)
 obtain ⟨rs', us', e1', h1', h2', h3', h4'⟩ := sm_any hN (l0 := l2) (l1 := l3)
 have hs := same_dec hN e1 e1' (by omega) (by omega)
 rw [er, Option.bind_some]
 by_cases p : RightP l0 l1
 ·
  obtain ⟨k1, k2⟩ := h4 p
  rw [if_pos (hr.2 p), er', Option.bind_some]
  by_cases p' : RightP l2 l3
  ·
   obtain ⟨k1', k2'⟩ := h4' p'
   rw [if_pos (hr'.2 p'), hs, Option.bind_some, k1, Option.bind_some]
   simp only
   rw [k1', Option.bind_some]
   simp only
   rw [same7_dec hN (by omega) (by omega), Option.bind_some]
   simp [k2]
  ·
   rw [if_neg (fun h => p' (hr'.1 h)), hs, Option.bind_some]
   have := h3' p'
   subst this
   have : ¬ rs = [] := fun e => by rw [e] at k2; simp at k2
   simp [this]
 ·
  rw [if_neg (fun h => p (hr.1 h)), hs, Option.bind_some]
  have := h3 p
  subst this
  simp
end Go.Proofs.Ytnbnajjoinahiaa.AI
