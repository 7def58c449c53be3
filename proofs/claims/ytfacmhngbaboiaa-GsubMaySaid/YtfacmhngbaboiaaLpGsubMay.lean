/- Plain law of GsubMay. -/
import Derived.Test.YtfacmhngbaboiaaGS3
set_option linter.unusedVariables false
set_option linter.unusedSimpArgs false
set_option maxRecDepth 100000
namespace Go.Proofs.Ytfacmhngbaboiaa.AI
section
variable {N : Nat} {k d : Int} {c s14 : List TSpan} {al : Bool} {o : List (List Int)} {l : List (List TLig)} {r : List TCtx} {l7 : List TValue} {l8 l11 : List (List TTwo)} {l9 l10 : List TClass} {l12 : List TArr2_TAnchor} {l13 : List TMark} {l15 : List (List (List TAnchor))}
theorem gmL2 {i : Nat} {x : List Int} (hi : o[i]? = some x) (hx : ∀ y ∈ x, 0 ≤ y ∧ y ≤ 65535) (hl : x.length ≤ 16) : ∀ (e j n : Nat), j + e = x.length → e < n → law12_GsubMay_L2 N (i : Int) k c al d o l r l7 l8 l9 l10 l11 l12 l13 s14 l15 n j = some (.inl ()) := by
 intro e
 induction e with
 | zero =>
  intro j n hj hn
  obtain ⟨n, rfl⟩ : ∃ x, n = x + 1 := ⟨n - 1, by omega⟩
  rw [law12_GsubMay_L2, atI_at hi, Option.bind_some, if_neg (by omega)]
 | succ e ih =>
  intro j n hj hn
  obtain ⟨n, rfl⟩ : ∃ x, n = x + 1 := ⟨n - 1, by omega⟩
  have hjl : j < x.length := by omega
  have hy := hx x[j] (List.getElem_mem hjl)
  rw [law12_GsubMay_L2, atI_at hi, Option.bind_some, if_pos (by omega), atI_at (List.getElem?_eq_getElem hjl), Option.bind_some, if_neg (by omega), if_neg (by omega), w64 (x := (j : Int) + 1) (by omega) (by omega), show (j : Int) + 1 = ((j + 1 : Nat) : Int) by omega]
  exact ih (j + 1) n (by omega) (by omega)
theorem gmL3 (hN : 1000000000000 < N) (hv : ∀ x ∈ o, ∀ y ∈ x, 0 ≤ y ∧ y ≤ 65535) (hi : ∀ x ∈ o, x.length ≤ 16) (ho : o.length ≤ 500) : ∀ (e j n : Nat), j + e = o.length → e < n → law12_GsubMay_L3 N k c al d o l r l7 l8 l9 l10 l11 l12 l13 s14 l15 n j = some (.inl ()) := by
 intro e
 induction e with
 | zero =>
  intro j n hj hn
  obtain ⟨n, rfl⟩ : ∃ x, n = x + 1 := ⟨n - 1, by omega⟩
  rw [law12_GsubMay_L3, if_neg (by omega)]
 | succ e ih =>
  intro j n hj hn
  obtain ⟨n, rfl⟩ : ∃ x, n = x + 1 := ⟨n - 1, by omega⟩
  have hjl : j < o.length := by omega
  have hm := List.getElem_mem hjl
  have h2 := gmL2 (N := N) (k := k) (d := d) (c := c) (al := al) (l := l) (r := r) (l7 := l7) (l8 := l8) (l9 := l9) (l10 := l10) (l11 := l11) (l12 := l12) (l13 := l13) (s14 := s14) (l15 := l15) (List.getElem?_eq_getElem hjl) (hv _ hm) (hi _ hm) o[j].length 0 N (by omega) (by have := hi _ hm; omega)
  rw [law12_GsubMay_L3, if_pos (by omega), show law12_GsubMay_L2 N (j : Int) k c al d o l r l7 l8 l9 l10 l11 l12 l13 s14 l15 N 0 = _ from h2, Option.bind_some, w64 (x := (j : Int) + 1) (by omega) (by omega), show (j : Int) + 1 = ((j + 1 : Nat) : Int) by omega]
  exact ih (j + 1) n (by omega) (by omega)
theorem gmAll (hN : 1000000000000 < N) (hv : ∀ x ∈ o, ∀ y ∈ x, 0 ≤ y ∧ y ≤ 65535) (hi : ∀ x ∈ o, x.length ≤ 16) (ho : o.length ≤ 500) : law12_GsubMay_L3 N k c al d o l r l7 l8 l9 l10 l11 l12 l13 s14 l15 N 0 = some (.inl ()) :=
 gmL3 hN hv hi ho o.length 0 N (by omega) (by omega)
theorem gThings (hN : 1000000000000 < N) (hS : Small o l r) : ∃ v, gsub_Things N k c al d o l r l7 l8 l9 l10 l11 l12 l13 s14 l15 = some v ∧ 1 ≤ v := by
 refine ⟨_, gsub_eq (by omega) hS, ?_⟩
 have a1 : 0 ≤ sm wTo o := sm_nn fun x _ => by unfold wTo; omega
 have a2 : 0 ≤ sm wLigs l := sm_nn fun x _ => wLigs_nn x
 have a3 : 0 ≤ sm wCtx r := sm_nn fun x _ => wCtx_nn x
 omega
end
theorem gsubMay_plain {N : Nat} (hN : 1000000000000 < N) {b : List Int} (hb : Bytes b) (p k : Int) : law12_GsubMay N b p k = some true := by
 unfold law12_GsubMay
 by_cases g1 : 800 < (b.length : Int)
 ·
  rw [if_pos g1]
 by_cases g2 : 800 < p
 ·
  rw [if_neg g1, if_pos g2]
 by_cases g3 : p < -800
 ·
  rw [if_neg g1, if_neg g2, if_pos g3]
 rw [if_neg g1, if_neg g2, if_neg g3, gRead_eq hN hb (by omega) (by omega) (by omega)]
 cases e : gRead N b p k with
 | none => rfl
 | some g =>
  have gg := gRead_good hN hb (by omega) (by omega) (by omega) e
  obtain ⟨gk, gc, ga, gd, go, gl, gr⟩ := g
  obtain ⟨s, dd, v, cc, kk, ii, _⟩ := gg
  simp only at s dd v cc kk ii ⊢
  simp only [Option.bind_some, if_true]
  rw [rCount_eq hN cc, Option.bind_some]
  have ho := s.t
  have al := fun a => gmAll (N := N) (k := gk) (d := gd) (c := gc) (al := a) (l := gl) (r := gr) (l7 := []) (l8 := []) (l9 := []) (l10 := []) (l11 := []) (l12 := []) (l13 := []) (s14 := []) (l15 := []) hN v ii ho
  have th := fun a => gThings (N := N) (k := gk) (d := gd) (c := gc) (al := a) (l7 := []) (l8 := []) (l9 := []) (l10 := []) (l11 := []) (l12 := []) (l13 := []) (s14 := []) (l15 := []) hN s
  have fin : ∀ a, ((law12_GsubMay_L3 N gk gc a gd go gl gr [] [] [] [] [] [] [] [] [] N 0).bind fun o => match o with
    | .inl _ => ((gsub_Things N gk gc a gd go gl gr [] [] [] [] [] [] [] [] []).bind fun y => if 1 ≤ y then (if 0 ≤ gd then (some (decide (gd ≤ 65535))) else some false) else some false)
    | .inr (_) => some false) = some true := fun a => by
   obtain ⟨x, e1, e2⟩ := th a
   rw [al a, Option.bind_some]
   simp only
   rw [e1, Option.bind_some, if_pos e2, if_pos dd.1]
   simp [dd.2]
  rcases kk with ⟨h, ⟨h2, h3⟩ | ⟨h2, h3⟩⟩ | ⟨h, h3⟩ | ⟨h, h3⟩ | h | h
  ·
   rw [if_pos h]
   subst h2
   rw [if_pos rfl, if_neg (by rw [h3]; simp)]
   exact fin true
  ·
   rw [if_pos h]
   subst h2
   rw [if_neg (by decide), if_pos h3]
   exact fin false
  ·
   rcases h with h | h | h
   ·
    rw [if_neg (by omega), if_pos h, if_pos h3]; exact fin ga
   ·
    rw [if_neg (by omega), if_neg (by omega), if_pos h, if_pos h3]; exact fin ga
   ·
    rw [if_neg (by omega), if_neg (by omega), if_neg (by omega), if_pos h, if_pos h3]; exact fin ga
  ·
   rw [if_neg (by omega), if_neg (by omega), if_neg (by omega), if_neg (by omega), if_pos h, if_pos h3]; exact fin ga
  ·
   rw [if_neg (by omega), if_neg (by omega), if_neg (by omega), if_neg (by omega), if_neg (by omega), if_pos h]; exact fin ga
  ·
   rw [if_neg (by omega), if_neg (by omega), if_neg (by omega), if_neg (by omega), if_neg (by omega), if_neg (by omega), if_pos h]; exact fin ga
end Go.Proofs.Ytfacmhngbaboiaa.AI
