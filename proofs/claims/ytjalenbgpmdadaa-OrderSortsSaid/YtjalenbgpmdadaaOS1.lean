/- Part of a proof. -/
import Derived.Test.YtjalenbgpmdadaaOS0
set_option linter.unusedVariables false
set_option linter.unusedSimpArgs false
set_option maxRecDepth 100000
namespace Go.Proofs.Ytjalenbgpmdadaa.AI
theorem getM {P Q : List Int} {x : Int} {k : Nat} (h : P.length = k) : (P ++ x :: Q)[k]? = some x := by
 subst h; simp
theorem setM {P Q : List Int} {x y : Int} {k : Nat} (h : P.length = k) : (P ++ x :: Q).set k y = P ++ y :: Q := by
 subst h; simp
theorem at_s {s : List Int} {F T j : Nat} {x : Int} (hj : F + j < T) (h : s[F + j]? = some x) : atI (slI s (F : Int) (T : Int)) (j : Int) = some x := by
 rw [atI_nat]
 unfold slI
 rw [Int.toNat_natCast, Int.toNat_natCast, List.getElem?_take, if_pos (by omega), List.getElem?_drop]
 exact h
def kk (l : List Int) (e : Int) : Int := (l[e.toNat]?).getD 0
def inr (l s : List Int) : Prop := ∀ e ∈ s, 0 ≤ e ∧ e < (l.length : Int)
def ltk (l : List Int) (u v : Int) : Prop := kk l u < kk l v ∨ (kk l u = kk l v ∧ u < v)
theorem atI_kk {l : List Int} {e : Int} (h : 0 ≤ e ∧ e < (l.length : Int)) : atI l e = some (kk l e) := by
 obtain ⟨k, rfl⟩ := Int.eq_ofNat_of_zero_le h.1
 have hk : k < l.length := by have := h.2; omega
 rw [atI_get hk]
 unfold kk
 rw [Int.toNat_natCast, List.getElem?_eq_getElem hk]; rfl
theorem cmp_eq {N : Nat} {l : List Int} {x y : Int} (hx : 0 ≤ x ∧ x < (l.length : Int)) (hy : 0 ≤ y ∧ y < (l.length : Int)) : ∃ c, buffer_Sort_1 N x y l = some c ∧ (c < 0 ↔ kk l x < kk l y) := by
 unfold buffer_Sort_1
 rw [atI_kk hx, Option.bind_some, atI_kk hy, Option.bind_some]
 by_cases g1 : kk l x < kk l y
 ·
  rw [if_pos g1]; exact ⟨_, rfl, by omega⟩
 ·
  rw [if_neg g1]
  by_cases g2 : kk l y < kk l x
  ·
   rw [if_pos g2]; exact ⟨_, rfl, by omega⟩
  ·
   rw [if_neg g2]; exact ⟨_, rfl, by omega⟩
theorem wadd {a b : Nat} (h : a ≤ 1000000) (h' : b ≤ 1000000) : IntKind.i64.wrap ((a : Int) + (b : Int)) = ((a + b : Nat) : Int) := by rw [w64 (by omega) (by omega)]; omega
theorem wsub {a b : Nat} (h : a ≤ 1000000) (h' : b ≤ a) : IntKind.i64.wrap ((a : Int) - (b : Int)) = ((a - b : Nat) : Int) := by rw [w64 (by omega) (by omega)]; omega
theorem wpre {a : Nat} (h : a ≤ 1000000) (h' : 1 ≤ a) : IntKind.i64.wrap ((a : Int) - 1) = ((a - 1 : Nat) : Int) := by rw [w64 (by omega) (by omega)]; omega
theorem midS {a b : Nat} (h : a + b ≤ 1000000) : IntKind.i64.wrap ((IntKind.u64.wrap (IntKind.i64.wrap ((a : Int) + (b : Int)))).fdiv 2) = (((a + b) / 2 : Nat) : Int) := by
 rw [w64 (x := (a : Int) + (b : Int)) (by omega) (by omega), show IntKind.u64.wrap ((a : Int) + (b : Int)) = (a : Int) + (b : Int) from IntWalk.u64_in _ ⟨by omega, by omega⟩, Int.fdiv_eq_ediv_of_nonneg _ (by omega), w64 (by omega) (by omega)]
 omega
theorem swap_L1 {N : Nat} {l R : List Int} {F T a b c : Nat} (hT : T ≤ 100000) : ∀ (X Y L M : List Int) (i n : Nat), X.length = Y.length → L.length = F + a + i → L.length + X.length + M.length = F + b + i → i + X.length = c → F + b + c ≤ T → X.length < n →
  slices_swapRangeCmpFunc_int_row_L1 N F T a b c l n i (L ++ X ++ M ++ Y ++ R) = some (L ++ Y ++ M ++ X ++ R)
 | [], Y, L, M, i, n, h1, h2, h3, h4, h5, h6 => by
  obtain ⟨n, rfl⟩ : ∃ x, n = x + 1 := ⟨n - 1, by omega⟩
  have : Y = [] := List.eq_nil_of_length_eq_zero h1.symm
  subst this
  simp only [List.length_nil] at h4
  rw [slices_swapRangeCmpFunc_int_row_L1, if_neg (by omega)]
 | x :: X, [], L, M, i, n, h1, h2, h3, h4, h5, h6 => by simp at h1
 | x :: X, y :: Y, L, M, i, n, h1, h2, h3, h4, h5, h6 => by
  obtain ⟨n, rfl⟩ : ∃ x, n = x + 1 := ⟨n - 1, by omega⟩
  simp only [List.length_cons] at h1 h3 h4 h6
  have e1 : L ++ x :: X ++ M ++ y :: Y ++ R = (L ++ x :: X ++ M) ++ y :: (Y ++ R) := by simp
  have e2 : L ++ x :: X ++ M ++ y :: Y ++ R = L ++ x :: (X ++ M ++ y :: (Y ++ R)) := by simp
  have lb : (L ++ x :: X ++ M).length = F + (b + i) := by simp; omega
  have la : L.length = F + (a + i) := by omega
  have lb' : (L ++ y :: X ++ M).length = F + (b + i) := by simp; omega
  have s1 : (L ++ x :: X ++ M ++ y :: Y ++ R).set (F + (a + i)) y = (L ++ y :: X ++ M) ++ y :: (Y ++ R) := by rw [e2, setM la]; simp
  rw [slices_swapRangeCmpFunc_int_row_L1, if_pos (by omega), wadd (by omega) (by omega), wadd (by omega) (by omega), wk (by omega)]
  rw [at_s (x := y) (by omega) (by rw [e1]; exact getM lb), Option.bind_some, at_s (x := x) (by omega) (by rw [e2]; exact getM la), Option.bind_some]
  simp only [Int.toNat_natCast]
  rw [s1, at_s (x := y) (by omega) (getM lb'), Option.bind_some, setM lb']
  have := swap_L1 (N := N) (l := l) (R := R) (F := F) (T := T) (a := a) (b := b) (c := c) hT X Y (L ++ [y]) (M ++ [x]) (i + 1) n (by omega) (by simp; omega) (by simp; omega) (by omega) h5 (by omega)
  rw [show L ++ y :: X ++ M ++ x :: (Y ++ R) = L ++ [y] ++ X ++ (M ++ [x]) ++ Y ++ R by simp, this]
  simp
theorem swap_eq {N : Nat} (hN : 1000000000000 < N) {l L X M Y R : List Int} {F T a b c : Nat} (hT : T ≤ 100000) (h1 : X.length = c) (h1' : Y.length = c) (h2 : L.length = F + a) (h3 : L.length + X.length + M.length = F + b) (h5 : F + b + c ≤ T) :
  slices_swapRangeCmpFunc_int_row N (L ++ X ++ M ++ Y ++ R) F T a b c l = some (L ++ Y ++ M ++ X ++ R) := by
 unfold slices_swapRangeCmpFunc_int_row
 rw [show slices_swapRangeCmpFunc_int_row_L1 N F T a b c l N 0 (L ++ X ++ M ++ Y ++ R) = _ from swap_L1 hT X Y L M 0 N (by omega) (by omega) (by omega) (by omega) h5 (by omega), Option.bind_some]
theorem take_split {α : Type} {X : List α} {k : Nat} (h : k ≤ X.length) : ∃ U V, X = U ++ V ∧ U.length = k ∧ V.length = X.length - k := ⟨X.take k, X.drop k, (List.take_append_drop k X).symm, by simp; omega, by simp⟩
theorem rot_L1 {N : Nat} (hN : 1000000000000 < N) {l : List Int} {F T m : Nat} (hT : T ≤ 100000) : ∀ (d n : Nat) (X Y L R : List Int), X.length + Y.length < d → d ≤ n → 0 < X.length → 0 < Y.length → L.length + X.length = F + m → F + m + Y.length ≤ T → F ≤ L.length →
  ∃ (k : Nat) (L' X' Y' R' : List Int), slices_rotateCmpFunc_int_row_L1 N F T m l n X.length Y.length (L ++ X ++ Y ++ R) = some ((k : Int), L' ++ X' ++ Y' ++ R') ∧ X'.length = k ∧ Y'.length = k ∧ L'.length + k = F + m ∧ F + m + k ≤ T ∧ F ≤ L'.length ∧ L' ++ Y' ++ X' ++ R' = L ++ Y ++ X ++ R := by
 intro d
 induction d with
 | zero => intro n X Y L R h; omega
 | succ d ih =>
  intro n X Y L R hd hn h0 h1 h2 h3 h4
  obtain ⟨n, rfl⟩ : ∃ x, n = x + 1 := ⟨n - 1, by omega⟩
  rw [slices_rotateCmpFunc_int_row_L1]
  by_cases g : (X.length : Int) = (Y.length : Int)
  ·
   rw [if_pos g]
   exact ⟨X.length, L, X, Y, R, rfl, rfl, by omega, by omega, by omega, h4, rfl⟩
  rw [if_neg g]
  by_cases g2 : (Y.length : Int) < (X.length : Int)
  ·
   rw [if_pos g2]
   obtain ⟨U, V, rfl, hU, hV⟩ := take_split (X := X) (k := Y.length) (by omega)
   rw [List.length_append] at hV g2 h2 hd h0
   rw [wsub (a := m) (b := (U ++ V).length) (by omega) (by simp; omega), show L ++ (U ++ V) ++ Y ++ R = L ++ U ++ V ++ Y ++ R by simp]
   rw [swap_eq hN hT (c := Y.length) hU rfl (by simp; omega) (by omega) (by omega), Option.bind_some, wsub (by simp; omega) (by simp; omega)]
   obtain ⟨k, L', X', Y', R', e, k1, k2, k3, k4, k5, k6⟩ := ih n V U (L ++ Y) R (by omega) (by omega) (by omega) (by omega) (by simp; omega) (by omega) (by simp; omega)
   refine ⟨k, L', X', Y', R', ?_, k1, k2, k3, k4, k5, by rw [k6]; simp⟩
   rw [show (((U ++ V).length - Y.length : Nat) : Int) = (V.length : Int) by simp; omega, show (Y.length : Int) = (U.length : Int) by omega]
   exact e
  ·
   rw [if_neg g2]
   obtain ⟨V, W, rfl, hV, hW⟩ := take_split (X := Y) (k := Y.length - X.length) (by omega)
   rw [List.length_append] at hV hW g2 g h3 hd h1
   have hW' : W.length = X.length := by omega
   rw [wsub (a := m) (b := X.length) (by omega) (by omega), wadd (a := m) (b := (V ++ W).length) (by omega) (by simp; omega), wsub (a := m + (V ++ W).length) (b := X.length) (by simp; omega) (by simp; omega), show L ++ X ++ (V ++ W) ++ R = L ++ X ++ V ++ W ++ R by simp]
   rw [swap_eq hN hT (c := X.length) rfl hW' (by omega) (by simp; omega) (by simp; omega), Option.bind_some, wsub (by simp; omega) (by simp; omega)]
   obtain ⟨k, L', X', Y', R', e, k1, k2, k3, k4, k5, k6⟩ := ih n W V L (X ++ R) (by omega) (by omega) (by omega) (by omega) (by omega) (by omega) h4
   refine ⟨k, L', X', Y', R', ?_, k1, k2, k3, k4, k5, by rw [k6]; simp⟩
   rw [show (((V ++ W).length - X.length : Nat) : Int) = (V.length : Int) by simp; omega, show (X.length : Int) = (W.length : Int) by omega, show L ++ W ++ V ++ X ++ R = L ++ W ++ V ++ (X ++ R) by simp]
   exact e
theorem rot_eq {N : Nat} (hN : 1000000000000 < N) {l L X Y R : List Int} {F T a m b : Nat} (hT : T ≤ 100000) (hX : X.length = m - a) (hY : Y.length = b - m) (ha : a < m) (hb : m < b) (hL : L.length = F + a) (hbT : F + b ≤ T) :
  slices_rotateCmpFunc_int_row N (L ++ X ++ Y ++ R) F T a m b l = some (L ++ Y ++ X ++ R) := by
 unfold slices_rotateCmpFunc_int_row
 obtain ⟨k, L', X', Y', R', e, k1, k2, k3, k4, k5, k6⟩ := rot_L1 hN (l := l) (F := F) (T := T) (m := m) hT (X.length + Y.length + 1) N X Y L R (by omega) (by omega) (by omega) (by omega) (by omega) (by omega) (by omega)
 rw [wsub (by omega) (by omega), wsub (by omega) (by omega), ← hX, ← hY, e, Option.bind_some]
 simp only
 rw [wsub (by omega) (by omega), show L' ++ X' ++ Y' ++ R' = L' ++ X' ++ [] ++ Y' ++ R' by simp, swap_eq hN hT k1 k2 (by omega) (by simp; omega) (by omega), Option.bind_some, ← k6]
 simp
end Go.Proofs.Ytjalenbgpmdadaa.AI
