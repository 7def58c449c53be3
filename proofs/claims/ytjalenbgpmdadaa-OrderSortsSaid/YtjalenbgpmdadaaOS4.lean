/- Plain laws of the library's stable sort: all of it. -/
import Derived.Test.YtjalenbgpmdadaaOS3
set_option linter.unusedVariables false
set_option linter.unusedSimpArgs false
set_option maxRecDepth 100000
namespace Go.Proofs.Ytjalenbgpmdadaa.AI
inductive Bl (l : List Int) (k : Nat) : List Int → List Int → Prop
 | last {D0 D : List Int} : D0.length ≤ k → D.Perm D0 → srt l D → Bl l k D0 D
 | cons {X0 X Y0 Y : List Int} : X0.length = k → X.Perm X0 → srt l X → Bl l k Y0 Y → Bl l k (X0 ++ Y0) (X ++ Y)
theorem Bl.perm {l : List Int} {k : Nat} {D0 D : List Int} (h : Bl l k D0 D) : D.Perm D0 := by
 induction h with
 | last _ h _ => exact h
 | cons _ h _ _ ih => exact h.append ih
theorem Bl.split {l : List Int} {k : Nat} {D0 D : List Int} (h : Bl l k D0 D) (hk : k ≤ D.length) : ∃ X0 X Y0 Y, D0 = X0 ++ Y0 ∧ D = X ++ Y ∧ X0.length = k ∧ X.Perm X0 ∧ srt l X ∧ Bl l k Y0 Y := by
 cases h with
 | last h1 h2 h3 => exact ⟨D0, D, [], [], by simp, by simp, by have := h2.length_eq; omega, h2, h3, .last (by simp) (List.Perm.refl _) List.Pairwise.nil⟩
 | cons h1 h2 h3 h4 => exact ⟨_, _, _, _, rfl, rfl, h1, h2, h3, h4⟩
theorem Bl.done {l : List Int} {k : Nat} {D0 D : List Int} (h : Bl l k D0 D) (hk : D.length ≤ k) : D.Perm D0 ∧ srt l D := by
 refine ⟨h.perm, ?_⟩
 cases h with
 | last h1 h2 h3 => exact h3
 | cons h1 h2 h3 h4 =>
  have e1 := h2.length_eq
  simp only [List.length_append] at hk
  rename_i X0 X Y0 Y
  have : Y = [] := List.eq_nil_of_length_eq_zero (by omega)
  rw [this, List.append_nil]; exact h3
def asc (X : List Int) : Prop := X.Pairwise (· < ·)
theorem inr_perm {l X Y : List Int} (h : X.Perm Y) (hY : inr l Y) : inr l X := fun e he => hY e (h.mem_iff.1 he)
theorem w20 {a : Nat} (h : a ≤ 1000000) : IntKind.i64.wrap ((a : Int) + 20) = ((a + 20 : Nat) : Int) := by rw [w64 (by omega) (by omega)]; omega
theorem st_L1 {N : Nat} (hN : 1000000000000 < N) {l : List Int} {F T n0 : Nat} (hT : T ≤ 100000) (hn0 : F + n0 = T) : ∀ (d n a : Nat) (D L R : List Int), D.length < d → d ≤ n → a + D.length = n0 → L.length = F + a → inr l D → asc D →
  ∃ (a' : Nat) (P D1 : List Int) (P0 : List Int), slices_stableCmpFunc_int_row_L1 N F T n0 l n a ((a : Int) + 20) (L ++ D ++ R) = some ((a' : Int), L ++ P ++ D1 ++ R) ∧ D = P0 ++ D1 ∧ a' = a + P.length ∧ D1.length < 20 ∧ P.length = P0.length ∧ (∀ Y0 Y, Bl l 20 Y0 Y → Bl l 20 (P0 ++ Y0) (P ++ Y)) := by
 intro d
 induction d with
 | zero => intro n a D L R h; omega
 | succ d ih =>
  intro n a D L R h1 h2 h3 h4 h5 h6
  obtain ⟨n, rfl⟩ : ∃ x, n = x + 1 := ⟨n - 1, by omega⟩
  rw [slices_stableCmpFunc_int_row_L1]
  by_cases g : (a : Int) + 20 ≤ (n0 : Int)
  ·
   obtain ⟨X, D', rfl, hX, hD⟩ := take_split (X := D) (k := 20) (by omega)
   simp only [List.length_append] at h1 h3 hD
   have h6' := List.pairwise_append.1 h6
   obtain ⟨Z, e, zp, zs⟩ := ins_eq hN (l := l) (X := X) (L := L) (R := D' ++ R) (F := F) (T := T) (a := a) (b := a + 20) hT (by omega) h4 (by omega) (fun e he => h5 e (by simp [he])) h6'.1
   have zl := zp.length_eq
   obtain ⟨a', P, D1, P0, e1, e2, e3, e4, e5, e6⟩ := ih n (a + 20) D' (L ++ Z) R (by omega) (by omega) (by omega) (by simp; omega) (fun e he => h5 e (by simp [he])) h6'.2.1
   refine ⟨a', Z ++ P, D1, X ++ P0, ?_, by rw [e2]; simp, by simp; omega, e4, by simp; omega, fun Y0 Y hY => ?_⟩
   ·
    rw [if_pos g, show (a : Int) + 20 = ((a + 20 : Nat) : Int) by omega, show L ++ (X ++ D') ++ R = L ++ X ++ (D' ++ R) by simp, e, Option.bind_some, w20 (by omega), show L ++ Z ++ (D' ++ R) = L ++ Z ++ D' ++ R by simp, show ((a + 20 + 20 : Nat) : Int) = ((a + 20 : Nat) : Int) + 20 by omega, e1]
    simp
   ·
    rw [List.append_assoc, List.append_assoc]
    exact .cons hX zp zs (e6 Y0 Y hY)
  ·
   rw [if_neg g]
   exact ⟨a, [], D, [], by simp, rfl, rfl, by omega, rfl, fun _ _ h => h⟩
theorem st_L3 {N : Nat} (hN : 1000000000000 < N) {l : List Int} {F T n0 k : Nat} (hT : T ≤ 100000) (hn0 : F + n0 = T) (hk : 1 ≤ k) (hk2 : k ≤ 100000) : ∀ (d n a : Nat) (D0 D L R : List Int), D.length < d → d ≤ n → a + D.length = n0 → L.length = F + a → inr l D0 → asc D0 → Bl l k D0 D →
  ∃ (a' : Nat) (P P0 E0 E : List Int), slices_stableCmpFunc_int_row_L3 N F T n0 k l n a ((a : Int) + 2 * (k : Int)) (L ++ D ++ R) = some ((a' : Int), L ++ P ++ E ++ R) ∧ D0 = P0 ++ E0 ∧ a' = a + P.length ∧ E.length < 2 * k ∧ a' + E.length = n0 ∧ Bl l k E0 E ∧ (∀ Y0 Y, Bl l (2 * k) Y0 Y → Bl l (2 * k) (P0 ++ Y0) (P ++ Y)) := by
 intro d
 induction d with
 | zero => intro n a D0 D L R h; omega
 | succ d ih =>
  intro n a D0 D L R h1 h2 h3 h4 h5 h6 h7
  obtain ⟨n, rfl⟩ : ∃ x, n = x + 1 := ⟨n - 1, by omega⟩
  rw [slices_stableCmpFunc_int_row_L3]
  by_cases g : (a : Int) + 2 * (k : Int) ≤ (n0 : Int)
  ·
   obtain ⟨X0, X, Q0, Q, rfl, rfl, x1, x2, x3, x4⟩ := h7.split (by omega)
   have xl := x2.length_eq
   simp only [List.length_append] at h1 h3
   obtain ⟨Y0, Y, E0, E, rfl, rfl, y1, y2, y3, y4⟩ := x4.split (by omega)
   have yl := y2.length_eq
   simp only [List.length_append] at h1 h3
   have p1 := List.pairwise_append.1 h6
   have p2 := List.pairwise_append.1 p1.2.1
   obtain ⟨Z, e, zp, zs⟩ := sym_eq hN (l := l) (F := F) (T := T) hT (2 * k + 1) N X Y L (E ++ R) a (a + k) (a + 2 * k) (by omega) (by omega) (by omega) (by omega) (by omega) (by omega) h4 (by omega) (by simp; omega) (inr_perm x2 fun e he => h5 e (by simp [he])) (inr_perm y2 fun e he => h5 e (by simp [he])) x3 y3 (fun x hx y hy => p1.2.2 x (x2.mem_iff.1 hx) y (by simp [y2.mem_iff.1 hy]))
   have zl := zp.length_eq
   simp only [List.length_append] at zl
   obtain ⟨a', P, P0, F0, G, e1, e2, e3, e4, e5, e6, e7⟩ := ih n (a + 2 * k) E0 E (L ++ Z) R (by omega) (by omega) (by omega) (by simp; omega) (fun e he => h5 e (by simp [he])) p2.2.1 y4
   refine ⟨a', Z ++ P, X0 ++ Y0 ++ P0, F0, G, ?_, by rw [e2]; simp, by simp; omega, e4, e5, e6, fun U0 U hU => ?_⟩
   ·
    rw [if_pos g, wadd (a := a) (b := k) (by omega) (by omega), show (a : Int) + 2 * (k : Int) = ((a + 2 * k : Nat) : Int) by omega, show L ++ (X ++ (Y ++ E)) ++ R = L ++ X ++ Y ++ (E ++ R) by simp, e, Option.bind_some, w64 (x := 2 * (k : Int)) (by omega) (by omega), w64 (by omega) (by omega), show L ++ Z ++ (E ++ R) = L ++ Z ++ E ++ R by simp, e1]
    simp
   ·
    rw [show X0 ++ Y0 ++ P0 ++ U0 = (X0 ++ Y0) ++ (P0 ++ U0) by simp, show Z ++ P ++ U = Z ++ (P ++ U) by simp]
    exact Bl.cons (X0 := X0 ++ Y0) (by simp; omega) (zp.trans (x2.append y2)) zs (e7 U0 U hU)
  ·
   rw [if_neg g]
   exact ⟨a, [], [], D0, D, by simp, rfl, rfl, by omega, h3, h7, fun _ _ h => h⟩
theorem st_L4 {N : Nat} (hN : 1000000000000 < N) {l : List Int} {F T n0 : Nat} (hT : T ≤ 100000) (hn0 : F + n0 = T) : ∀ (d n k : Nat) (D0 D L R : List Int), n0 - k < d → d ≤ n → 1 ≤ k → k ≤ 300000 → D.length = n0 → L.length = F → inr l D0 → asc D0 → Bl l k D0 D →
  ∃ Z, slices_stableCmpFunc_int_row_L4 N F T n0 l n k (L ++ D ++ R) = some (L ++ Z ++ R) ∧ Z.Perm D0 ∧ srt l Z := by
 intro d
 induction d with
 | zero => intro n k D0 D L R h; omega
 | succ d ih =>
  intro n k D0 D L R h1 h2 h3 h3' h4 h5 h6 h7 h8
  obtain ⟨n, rfl⟩ : ∃ x, n = x + 1 := ⟨n - 1, by omega⟩
  rw [slices_stableCmpFunc_int_row_L4]
  by_cases g : (k : Int) < (n0 : Int)
  ·
   obtain ⟨a', P, P0, E0, E, e1, e2, e3, e4, e5, e6, e7⟩ := st_L3 hN (l := l) (F := F) (T := T) (n0 := n0) (k := k) hT hn0 h3 (by omega) (n0 + 1) N 0 D0 D L R (by omega) (by omega) (by omega) (by omega) h6 h7 h8
   have hk2 : IntKind.i64.wrap ((k : Int) * 2) = ((2 * k : Nat) : Int) := by rw [w64 (by omega) (by omega)]; omega
   have e1' : slices_stableCmpFunc_int_row_L3 N F T n0 k l N 0 (IntKind.i64.wrap (2 * (k : Int))) (L ++ D ++ R) = some ((a' : Int), L ++ P ++ E ++ R) := by
    rw [w64 (by omega) (by omega), ← e1, show ((0 : Nat) : Int) + 2 * (k : Int) = 2 * (k : Int) by omega]; rfl
   rw [if_pos g, e1', Option.bind_some]
   simp only
   rw [wadd (a := a') (b := k) (by omega) (by omega), hk2]
   subst e2
   have p1 := List.pairwise_append.1 h7
   by_cases g2 : ((a' + k : Nat) : Int) < (n0 : Int)
   ·
    obtain ⟨X0, X, Y0, Y, rfl, rfl, x1, x2, x3, x4⟩ := e6.split (by omega)
    have xl := x2.length_eq
    simp only [List.length_append] at e4 e5
    have y5 := x4.done (by omega)
    have p2 := List.pairwise_append.1 p1.2.1
    obtain ⟨Z, e, zp, zs⟩ := sym_eq hN (l := l) (F := F) (T := T) hT (2 * k + 1) N X Y (L ++ P) R a' (a' + k) n0 (by omega) (by omega) (by omega) (by omega) (by omega) (by omega) (by simp; omega) (by omega) (by simp; omega) (inr_perm x2 fun e he => h6 e (by simp [he])) (inr_perm y5.1 fun e he => h6 e (by simp [he])) x3 y5.2 (fun x hx y hy => p2.2.2 x (x2.mem_iff.1 hx) y (y5.1.mem_iff.1 hy))
    have zl := zp.length_eq
    simp only [List.length_append] at zl
    have hB : Bl l (2 * k) (P0 ++ (X0 ++ Y0)) (P ++ Z) := e7 _ _ (.last (by have := y5.1.length_eq; simp; omega) (zp.trans (x2.append y5.1)) zs)
    obtain ⟨Z', e', zp', zs'⟩ := ih n (2 * k) _ _ L R (by omega) (by omega) (by omega) (by omega) (by simp; omega) h5 h6 h7 hB
    rw [if_pos g2, show L ++ P ++ (X ++ Y) ++ R = L ++ P ++ X ++ Y ++ R by simp, e, Option.bind_some, show L ++ P ++ Z ++ R = L ++ (P ++ Z) ++ R by simp, e']
    exact ⟨Z', rfl, zp', zs'⟩
   ·
    have y5 := e6.done (by omega)
    have hB : Bl l (2 * k) (P0 ++ E0) (P ++ E) := e7 _ _ (.last (by have := y5.1.length_eq; omega) y5.1 y5.2)
    obtain ⟨Z', e', zp', zs'⟩ := ih n (2 * k) _ _ L R (by omega) (by omega) (by omega) (by omega) (by simp; omega) h5 h6 h7 hB
    rw [if_neg g2, show L ++ P ++ E ++ R = L ++ (P ++ E) ++ R by simp, e']
    exact ⟨Z', rfl, zp', zs'⟩
  ·
   rw [if_neg g]
   have := h8.done (by omega)
   exact ⟨D, rfl, this.1, this.2⟩
theorem sort_eq {N : Nat} (hN : 1000000000000 < N) {l D L R : List Int} {F T : Nat} (hT : T ≤ 100000) (hL : L.length = F) (hD : F + D.length = T) (hi : inr l D) (ha : asc D) :
  ∃ Z, slices_SortStableFunc_intint_row N (L ++ D ++ R) F T l = some (L ++ Z ++ R) ∧ Z.Perm D ∧ srt l Z := by
 unfold slices_SortStableFunc_intint_row slices_stableCmpFunc_int_row
 rw [Int.toNat_natCast, Int.toNat_natCast, show T - F = D.length by omega]
 obtain ⟨a', P, D1, P0, e1, e2, e3, e4, e5, e6⟩ := st_L1 hN (l := l) (F := F) (T := T) (n0 := D.length) hT hD (D.length + 1) N 0 D L R (by omega) (by omega) (by omega) (by omega) hi ha
 have e1' : slices_stableCmpFunc_int_row_L1 N F T D.length l N 0 20 (L ++ D ++ R) = some ((a' : Int), L ++ P ++ D1 ++ R) := e1
 rw [e1', Option.bind_some]
 simp only
 subst e2
 simp only [List.length_append] at hD
 have p1 := List.pairwise_append.1 ha
 obtain ⟨Z, e, zp, zs⟩ := ins_eq hN (l := l) (X := D1) (L := L ++ P) (R := R) (F := F) (T := T) (a := a') (b := (P0 ++ D1).length) hT (by simp; omega) (by simp; omega) (by simp; omega) (fun e he => hi e (by simp [he])) p1.2.1
 rw [e, Option.bind_some]
 have hB : Bl l 20 (P0 ++ D1) (P ++ Z) := e6 _ _ (.last (by omega) zp zs)
 have zl := zp.length_eq
 obtain ⟨Z', e', zp', zs'⟩ := st_L4 hN (l := l) (F := F) (T := T) (n0 := (P0 ++ D1).length) hT (by simp; omega) ((P0 ++ D1).length + 1) N 20 (P0 ++ D1) (P ++ Z) L R (by omega) (by simp; omega) (by omega) (by omega) (by simp; omega) hL hi ha hB
 rw [show L ++ P ++ Z ++ R = L ++ (P ++ Z) ++ R by simp, show slices_stableCmpFunc_int_row_L4 N F T (P0 ++ D1).length l N 20 (L ++ (P ++ Z) ++ R) = _ from e', Option.bind_some, Option.bind_some]
 exact ⟨Z', rfl, zp', zs'⟩
end Go.Proofs.Ytjalenbgpmdadaa.AI
