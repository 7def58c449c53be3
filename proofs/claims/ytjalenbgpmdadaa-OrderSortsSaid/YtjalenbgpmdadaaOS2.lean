/- Part of a proof. -/
import Derived.Test.YtjalenbgpmdadaaOS1
set_option linter.unusedVariables false
set_option linter.unusedSimpArgs false
set_option maxRecDepth 100000
namespace Go.Proofs.Ytjalenbgpmdadaa.AI
def srt (l X : List Int) : Prop := X.Pairwise (ltk l)
theorem last_split {X : List Int} {d : Nat} (h : X.length = d + 1) : ∃ U y, X = U ++ [y] ∧ U.length = d := by
 obtain ⟨U, V, rfl, hU, hV⟩ := take_split (X := X) (k := d) (by omega)
 have : V.length = 1 := by omega
 obtain ⟨y, rfl⟩ := List.length_eq_one_iff.1 this
 exact ⟨U, y, rfl, hU⟩
theorem ins_L2 {N : Nat} {l : List Int} {F T a b : Nat} {i1 : Int} (hT : T ≤ 100000) : ∀ (d : Nat) (X1 : List Int) (x : Int) (X2 L R : List Int) (j n : Nat), X1.length = d → L.length = F + a → j = a + d → F + j < T → d < n → inr l (X1 ++ x :: X2) → srt l (X1 ++ X2) → (∀ z ∈ X2, kk l x < kk l z) → (∀ z ∈ X1, z < x) →
  ∃ Z, slices_insertionSortCmpFunc_int_row_L2 N F T a b i1 l n j (L ++ X1 ++ x :: X2 ++ R) = some (L ++ Z ++ R) ∧ Z.Perm (X1 ++ x :: X2) ∧ srt l Z := by
 intro d
 induction d with
 | zero =>
  intro X1 x X2 L R j n h1 h2 h3 h4 h5 h6 h7 h8 h9
  obtain ⟨n, rfl⟩ : ∃ x, n = x + 1 := ⟨n - 1, by omega⟩
  have : X1 = [] := List.eq_nil_of_length_eq_zero h1
  subst this
  rw [slices_insertionSortCmpFunc_int_row_L2, if_neg (by omega)]
  refine ⟨x :: X2, by simp, by simp, List.Pairwise.cons (fun z hz => .inl (h8 z hz)) h7⟩
 | succ d ih =>
  intro X1 x X2 L R j n h1 h2 h3 h4 h5 h6 h7 h8 h9
  obtain ⟨n, rfl⟩ : ∃ x, n = x + 1 := ⟨n - 1, by omega⟩
  obtain ⟨U, y, rfl, hU⟩ := last_split h1
  have hx := h6 x (by simp)
  have hy := h6 y (by simp)
  have e1 : L ++ (U ++ [y]) ++ x :: X2 ++ R = (L ++ U ++ [y]) ++ x :: (X2 ++ R) := by simp
  have e2 : L ++ (U ++ [y]) ++ x :: X2 ++ R = (L ++ U) ++ y :: (x :: (X2 ++ R)) := by simp
  have l1 : (L ++ U ++ [y]).length = F + j := by simp; omega
  have l2 : (L ++ U).length = F + (j - 1) := by simp; omega
  have s1 : (L ++ (U ++ [y]) ++ x :: X2 ++ R).set (F + j) y = (L ++ U) ++ y :: (y :: (X2 ++ R)) := by rw [e1, setM l1]; simp
  rw [slices_insertionSortCmpFunc_int_row_L2, if_pos (by omega), wpre (by omega) (by omega)]
  rw [at_s (x := x) h4 (by rw [e1]; exact getM l1), Option.bind_some, at_s (x := y) (by omega) (by rw [e2]; exact getM l2), Option.bind_some]
  obtain ⟨c, ec, hc⟩ := cmp_eq (N := N) hx hy
  rw [ec, Option.bind_some]
  simp only [Int.toNat_natCast]
  by_cases g : c < 0
  ·
   rw [if_pos g, s1, at_s (x := y) (by omega) (getM l2), Option.bind_some, setM l2]
   obtain ⟨Z, e, hp, hs⟩ := ih U x (y :: X2) L R (j - 1) n hU h2 (by omega) (by omega) (by omega) (fun e he => h6 e (by simp at he ⊢; rcases he with h | h | h | h <;> simp [h])) (by simpa [srt] using h7) (fun z hz => by
    rcases List.mem_cons.1 hz with rfl | hz
    ·
     exact hc.1 g
    ·
     exact h8 z hz) (fun z hz => h9 z (by simp [hz]))
   refine ⟨Z, by rw [← e]; simp, hp.trans ?_, hs⟩
   rw [List.append_assoc]
   exact List.Perm.append_left _ (List.Perm.swap _ _ _)
  ·
   rw [if_neg g]
   have hk : ¬ kk l x < kk l y := fun q => g (hc.2 q)
   refine ⟨U ++ [y] ++ x :: X2, by simp, List.Perm.refl _, ?_⟩
   unfold srt at h7 ⊢
   rw [List.pairwise_append] at h7 ⊢
   refine ⟨h7.1, List.Pairwise.cons (fun z hz => .inl (h8 z hz)) h7.2.1, fun u hu v hv => ?_⟩
   rcases List.mem_cons.1 hv with rfl | hv
   ·
    have hux := h9 u hu
    have hle : kk l u ≤ kk l y := by
     rcases List.mem_append.1 hu with hu | hu
     ·
      have := (List.pairwise_append.1 h7.1).2.2 u hu y (by simp)
      rcases this with h | h <;> omega
     ·
      rw [List.mem_singleton.1 hu]; exact Int.le_refl _
    by_cases q : kk l u < kk l v
    ·
     exact .inl q
    ·
     exact .inr ⟨by omega, hux⟩
   ·
    exact h7.2.2 u hu v hv
theorem ins_L3 {N : Nat} (hN : 1000000000000 < N) {l : List Int} {F T a b : Nat} (hT : T ≤ 100000) : ∀ (X2 X1 L R : List Int) (i n : Nat), X1.length + a = i → i + X2.length = b → L.length = F + a → F + b ≤ T → X2.length < n → inr l (X1 ++ X2) → srt l X1 → X2.Pairwise (· < ·) → (∀ z ∈ X1, ∀ w ∈ X2, z < w) →
  ∃ Z, slices_insertionSortCmpFunc_int_row_L3 N F T a b l n i (L ++ X1 ++ X2 ++ R) = some (L ++ Z ++ R) ∧ Z.Perm (X1 ++ X2) ∧ srt l Z
 | [], X1, L, R, i, n, h1, h2, h3, h4, h5, h6, h7, h8, h9 => by
  obtain ⟨n, rfl⟩ : ∃ x, n = x + 1 := ⟨n - 1, by omega⟩
  simp only [List.length_nil] at h2
  rw [slices_insertionSortCmpFunc_int_row_L3, if_neg (by omega)]
  exact ⟨X1, by simp, by simp, h7⟩
 | x :: X2, X1, L, R, i, n, h1, h2, h3, h4, h5, h6, h7, h8, h9 => by
  obtain ⟨n, rfl⟩ : ∃ x, n = x + 1 := ⟨n - 1, by omega⟩
  simp only [List.length_cons] at h2 h5
  rw [slices_insertionSortCmpFunc_int_row_L3, if_pos (by omega), wk (by omega)]
  obtain ⟨Z, e, hp, hs⟩ := ins_L2 (N := N) (l := l) (F := F) (T := T) (a := a) (b := b) (i1 := (i : Int)) hT X1.length X1 x [] L (X2 ++ R) i N rfl h3 (by omega) (by omega) (by omega) (fun e he => h6 e (by simp at he ⊢; rcases he with h | h <;> simp [h])) (by simpa using h7) (by simp) (fun z hz => h9 z hz x (by simp))
  rw [show L ++ X1 ++ x :: X2 ++ R = L ++ X1 ++ [x] ++ (X2 ++ R) by simp, e, Option.bind_some]
  rw [List.pairwise_cons] at h8
  have hZl := hp.length_eq
  simp only [List.length_append, List.length_cons, List.length_nil] at hZl
  obtain ⟨Z', e', hp', hs'⟩ := ins_L3 hN hT X2 Z L R (i + 1) n (by omega) (by omega) h3 h4 (by omega) (fun e he => by
   rcases List.mem_append.1 he with he | he
   ·
    have := hp.mem_iff.1 he
    exact h6 e (by simp at this ⊢; rcases this with h | h <;> simp [h])
   ·
    exact h6 e (by simp [he])) hs h8.2 (fun z hz w hw => by
   have := hp.mem_iff.1 hz
   rcases List.mem_append.1 this with h | h
   ·
    exact h9 z h w (by simp [hw])
   ·
    rw [List.mem_singleton.1 h]; exact h8.1 w hw)
  refine ⟨Z', by rw [← e']; simp, hp'.trans ?_, hs'⟩
  have := hp.append_right X2
  simpa using this
theorem ins_eq {N : Nat} (hN : 1000000000000 < N) {l X L R : List Int} {F T a b : Nat} (hT : T ≤ 100000) (hX : X.length + a = b) (hL : L.length = F + a) (hb : F + b ≤ T) (hi : inr l X) (hasc : X.Pairwise (· < ·)) :
  ∃ Z, slices_insertionSortCmpFunc_int_row N (L ++ X ++ R) F T a b l = some (L ++ Z ++ R) ∧ Z.Perm X ∧ srt l Z := by
 unfold slices_insertionSortCmpFunc_int_row
 rw [wk (by omega)]
 cases X with
 | nil =>
  obtain ⟨M, rfl⟩ : ∃ x, N = x + 1 := ⟨N - 1, by omega⟩
  simp only [List.length_nil] at hX
  rw [slices_insertionSortCmpFunc_int_row_L3, if_neg (by omega), Option.bind_some]
  exact ⟨[], rfl, List.Perm.refl _, List.Pairwise.nil⟩
 | cons x X =>
  rw [List.pairwise_cons] at hasc
  simp only [List.length_cons] at hX
  obtain ⟨Z, e, hp, hs⟩ := ins_L3 hN (l := l) (F := F) (T := T) (a := a) (b := b) hT X [x] L R (a + 1) N (by simp; omega) (by omega) hL hb (by omega) (by simpa using hi) (List.pairwise_singleton _ _) hasc.2 (fun z hz w hw => by rw [List.mem_singleton.1 hz]; exact hasc.1 w hw)
  rw [show L ++ x :: X ++ R = L ++ [x] ++ X ++ R by simp, e, Option.bind_some]
  exact ⟨Z, rfl, by simpa using hp, hs⟩
theorem up_L2 {N : Nat} {l R : List Int} {F T r : Nat} {x : Int} (hT : T ≤ 100000) (hr : F + r ≤ T) : ∀ (Y L : List Int) (i n : Nat), L.length = F + i → i + Y.length + 1 = r → Y.length < n →
  slices_symMergeCmpFunc_int_row_L2 N F T r l n i (L ++ x :: (Y ++ R)) = some (L ++ Y ++ x :: R)
 | [], L, i, n, h1, h2, h3 => by
  obtain ⟨n, rfl⟩ : ∃ x, n = x + 1 := ⟨n - 1, by omega⟩
  simp only [List.length_nil] at h2
  rw [slices_symMergeCmpFunc_int_row_L2, wpre (by omega) (by omega), if_neg (by omega)]
  simp
 | y :: Y, L, i, n, h1, h2, h3 => by
  obtain ⟨n, rfl⟩ : ∃ x, n = x + 1 := ⟨n - 1, by omega⟩
  simp only [List.length_cons] at h2 h3
  have e1 : L ++ x :: (y :: Y ++ R) = (L ++ [x]) ++ y :: (Y ++ R) := by simp
  have l1 : (L ++ [x]).length = F + (i + 1) := by simp; omega
  have l2 : (L ++ [y]).length = F + (i + 1) := by simp; omega
  rw [slices_symMergeCmpFunc_int_row_L2, wpre (by omega) (by omega), if_pos (by omega), wk (by omega)]
  rw [at_s (x := y) (by omega) (by rw [e1]; exact getM l1), Option.bind_some, at_s (x := x) (by omega) (getM h1), Option.bind_some]
  simp only [Int.toNat_natCast]
  rw [setM h1, show L ++ y :: (y :: Y ++ R) = (L ++ [y]) ++ y :: (Y ++ R) by simp, at_s (x := y) (by omega) (getM l2), Option.bind_some, setM l2, up_L2 hT hr Y (L ++ [y]) (i + 1) n l2 (by omega) (by omega)]
  simp
theorem down_L4 {N : Nat} {l : List Int} {F T r : Nat} {y : Int} (hT : T ≤ 100000) : ∀ (d : Nat) (X L R : List Int) (i n : Nat), X.length = d → L.length = F + r → r + d = i → F + i < T → d < n →
  slices_symMergeCmpFunc_int_row_L4 N F T r l n i (L ++ X ++ y :: R) = some (L ++ y :: (X ++ R)) := by
 intro d
 induction d with
 | zero =>
  intro X L R i n h0 h1 h2 h3 h4
  obtain ⟨n, rfl⟩ : ∃ x, n = x + 1 := ⟨n - 1, by omega⟩
  have : X = [] := List.eq_nil_of_length_eq_zero h0
  subst this
  rw [slices_symMergeCmpFunc_int_row_L4, if_neg (by omega)]
  simp
 | succ d ih =>
  intro X L R i n h0 h1 h2 h3 h4
  obtain ⟨n, rfl⟩ : ∃ x, n = x + 1 := ⟨n - 1, by omega⟩
  obtain ⟨U, x, rfl, hU⟩ := last_split h0
  have e1 : L ++ (U ++ [x]) ++ y :: R = (L ++ U) ++ x :: (y :: R) := by simp
  have l1 : (L ++ (U ++ [x])).length = F + i := by simp; omega
  have l2 : (L ++ U).length = F + (i - 1) := by simp; omega
  rw [slices_symMergeCmpFunc_int_row_L4, if_pos (by omega), wpre (by omega) (by omega)]
  rw [at_s (x := x) (by omega) (by rw [e1]; exact getM l2), Option.bind_some, at_s (x := y) (by omega) (getM l1), Option.bind_some]
  simp only [Int.toNat_natCast]
  rw [setM l1, show L ++ (U ++ [x]) ++ x :: R = (L ++ U) ++ x :: (x :: R) by simp, at_s (x := x) (by omega) (getM l2), Option.bind_some, setM l2, ih U L (x :: R) (i - 1) n hU h1 (by omega) (by omega) (by omega)]
  simp
end Go.Proofs.Ytjalenbgpmdadaa.AI
