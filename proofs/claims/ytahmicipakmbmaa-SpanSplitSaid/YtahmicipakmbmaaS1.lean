/- Plain laws of package span: ranges that are right, halving, joining, counting, by the program and by the reference. Conditions: at most 5000 ranges where they are right; else none. -/
import Derived.Test.YtahmicipakmbmaaZ3
import Derived.Test.YtahmicipakmbmaaZ5
import Derived.Test.YtahmicipakmbmaaZTy
namespace Go.Proofs.Ytahmicipakmbmaa.Pure
open Go.RowKit Go.Proofs.Ytahmicipakmbmaa.Z Go.Proofs.YtahmicipakmbmaaW.PrintWords Go.Proofs.YtahmicipakmbmaaW.PrintLast

theorem w64 {n : Int} (h0 : -9223372036854775808 ≤ n) (h1 : n ≤ 9223372036854775807) : wrap64 n = n := by unfold wrap64; omega
theorem w32 {n : Int} (h0 : -2147483648 ≤ n) (h1 : n ≤ 2147483647) : wrap32 n = n := by unfold wrap32; omega
theorem getD_eq (l : List S45) (j : Nat) (h : j < l.length) : l.getD j z45 = l[j] := by
  rw [List.getD_eq_getElem?_getD, List.getElem?_eq_getElem h]; rfl
/-- What rightness says of the first range, and of those behind it. -/
theorem go_cons {m a : Int} {x : S45} {xs : List S45} : span_Right.go m a (x :: xs) = true ↔ a < x.f0 ∧ x.f0 ≤ x.f1 ∧ x.f1 ≤ 1114111 ∧ 0 ≤ x.f2 ∧ x.f2 ≤ m ∧ span_Right.go m x.f1 xs = true := by
  simp only [span_Right.go]
  constructor
  · intro h
    repeat' split at h
    all_goals first | cases h; done | exact ⟨by omega, by omega, by omega, by omega, by omega, h⟩
  · rintro ⟨h1, h2, h3, h4, h5, h6⟩
    rw [if_neg (by omega), if_neg (by omega), if_neg (by omega), if_neg (by omega), if_neg (by omega)]
    exact h6
theorem go_nil (m a : Int) : span_Right.go m a [] = true := rfl
theorem go_weak {m a b : Int} {l : List S45} (hb : b ≤ a) (h : span_Right.go m a l = true) : span_Right.go m b l = true := by
  cases l with
  | nil => rfl
  | cons x xs =>
    rw [go_cons] at h ⊢
    exact ⟨by omega, h.2⟩
/-- Each range of a right list lies behind a, and is right itself. -/
theorem go_mem {m : Int} : ∀ {a : Int} {l : List S45}, span_Right.go m a l = true → ∀ x ∈ l, a < x.f0 ∧ x.f0 ≤ x.f1 ∧ x.f1 ≤ 1114111 ∧ 0 ≤ x.f2 ∧ x.f2 ≤ m := by
  intro a l
  induction l generalizing a with
  | nil => intro _ x hx; simp at hx
  | cons y ys ih =>
    intro h x hx
    rw [go_cons] at h
    rcases List.mem_cons.1 hx with rfl | hx
    · exact ⟨h.1, h.2.1, h.2.2.1, h.2.2.2.1, h.2.2.2.2.1⟩
    · have := ih h.2.2.2.2.2 x hx
      exact ⟨by omega, this.2⟩
theorem refRight_l0 (l : List S45) (m : Int) (hl : l.length ≤ 5000) : ∀ (d j k : Nat) (a : Int), j + d = l.length → d < k → -1 ≤ a → (j = 0 → a = -1) → (∀ _ : 0 < j, (l.getD (j - 1) z45).f1 = a) →
    reedpenref02_Right.l0 k l m (j : Int) = some (span_Right.go m a (l.drop j)) := by
  intro d
  induction d with
  | zero =>
    intro j k a hj hk _ _ _
    obtain ⟨k, rfl⟩ : ∃ q, k = q + 1 := ⟨k - 1, by omega⟩
    simp only [reedpenref02_Right.l0]
    rw [if_neg (by omega), List.drop_of_length_le (by omega)]
    rfl
  | succ d ih =>
    intro j k a hj hk ha h0 h1
    obtain ⟨k, rfl⟩ : ∃ q, k = q + 1 := ⟨k - 1, by omega⟩
    simp only [reedpenref02_Right.l0]
    rw [if_pos (by omega), if_pos (by omega), find_rd l j (by omega), List.drop_eq_getElem_cons (show j < l.length by omega)]
    have hw : wrap64 ((j : Int) + 1) = ((j + 1 : Nat) : Int) := by unfold wrap64; omega
    rw [hw]
    simp only [span_Right.go]
    generalize hx : l[j]'(by omega) = x
    have hnext : ∀ (_ : -1 ≤ x.f1), reedpenref02_Right.l0 k l m ((j + 1 : Nat) : Int) = some (span_Right.go m x.f1 (l.drop (j + 1))) := fun hx1 =>
      ih (j + 1) k x.f1 (by omega) (by omega) hx1 (fun h => absurd h (by omega)) (fun _ => by rw [show j + 1 - 1 = j by omega, getD_eq l j (by omega), hx])
    by_cases hj0 : j = 0
    · have := h0 hj0
      rw [if_neg (show ¬ ((j : Int) > 0) by omega)]
      repeat' split
      all_goals first | rfl | omega | exact hnext (by omega) | skip
    · have hp : rd_T45 l (wrap64 ((j : Int) - 1)) = l.getD (j - 1) z45 := by
        rw [w64 (by omega) (by omega), show ((j : Int) - 1) = ((j - 1 : Nat) : Int) by omega]
        unfold rd_T45; rw [Int.toNat_natCast]
      rw [if_pos (show (j : Int) > 0 by omega), hp, h1 (by omega), w64 (n := (j : Int) - 1) (by omega) (by omega)]
      rw [if_pos (show (0 : Int) ≤ (j : Int) - 1 by omega), if_pos (show (j : Int) - 1 < (l.length : Int) by omega)]
      repeat' split
      all_goals first | rfl | omega | exact hnext (by omega) | skip
theorem refRight (l : List S45) (m : Int) (k : Nat) (hk : l.length < k) : reedpenref02_Right.f k l m = some (span_Right.v l m) := by
  unfold reedpenref02_Right.f span_Right.v
  by_cases h : (l.length : Int) > 5000
  · rw [if_pos h, if_pos h]
  · rw [if_neg h, if_neg h]
    have := refRight_l0 l m (by omega) l.length 0 k (-1) (by omega) hk (by omega) (fun _ => rfl) (fun h => absurd h (by omega))
    simpa using this
theorem right_go {l : List S45} {m : Int} (h : span_Right.v l m = true) : l.length ≤ 5000 ∧ span_Right.go m (-1) l = true := by
  have h1 := span_Right.short h
  unfold span_Right.v at h
  rw [if_neg (by omega)] at h
  exact ⟨h1, h⟩
theorem go_right {l : List S45} {m : Int} (h1 : l.length ≤ 5000) (h : span_Right.go m (-1) l = true) : span_Right.v l m = true := by
  unfold span_Right.v
  rw [if_neg (by omega)]
  exact h
/-! ### finding -/
/-- The first range that has a code. -/
def fnd : List S45 → Int → Int × Bool
  | [], _ => (0, false)
  | x :: xs, c => if x.f0 ≤ c ∧ c ≤ x.f1 then (x.f2, true) else fnd xs c
theorem refFind_l0 (l : List S45) (c : Int) (hl : l.length ≤ 5000) : ∀ (d j k : Nat), j + d = l.length → d < k → reedpenref02_Find.l0 k l c (j : Int) = some (fnd (l.drop j) c) := by
  intro d
  induction d with
  | zero =>
    intro j k hj hk
    obtain ⟨k, rfl⟩ : ∃ q, k = q + 1 := ⟨k - 1, by omega⟩
    simp only [reedpenref02_Find.l0]
    rw [if_neg (by omega), List.drop_of_length_le (by omega)]
    rfl
  | succ d ih =>
    intro j k hj hk
    obtain ⟨k, rfl⟩ : ∃ q, k = q + 1 := ⟨k - 1, by omega⟩
    simp only [reedpenref02_Find.l0]
    have hw : wrap64 ((j : Int) + 1) = ((j + 1 : Nat) : Int) := by unfold wrap64; omega
    rw [if_pos (by omega), if_pos (by omega), find_rd l j (by omega), hw, ih (j + 1) k (by omega) (by omega), List.drop_eq_getElem_cons (show j < l.length by omega)]
    simp only [fnd]
    repeat' split
    all_goals first | rfl | omega
theorem refFind (l : List S45) (c : Int) (hl : l.length ≤ 5000) (k : Nat) (hk : l.length < k) : reedpenref02_Find.f k l c = some (fnd l c) := by
  unfold reedpenref02_Find.f
  have := refFind_l0 l c hl l.length 0 k (by omega) hk
  simpa using this
theorem s_spec (l : List S45) (c : Int) (hm : ∀ i j, i ≤ j → j < l.length → (l.getD i z45).f1 ≤ (l.getD j z45).f1) : ∀ (k i j : Nat), i ≤ j → j ≤ l.length → j - i ≤ k →
    (∀ t, t < i → (l.getD t z45).f1 < c) → (∀ t, j ≤ t → t < l.length → c ≤ (l.getD t z45).f1) →
    (∀ t, t < span_Find.s l c k i j → (l.getD t z45).f1 < c) ∧ (∀ t, span_Find.s l c k i j ≤ t → t < l.length → c ≤ (l.getD t z45).f1) := by
  intro k
  induction k with
  | zero =>
    intro i j hij hj hk h1 h2
    have : i = j := by omega
    subst this
    exact ⟨h1, h2⟩
  | succ k ih =>
    intro i j hij hj hk h1 h2
    simp only [span_Find.s]
    by_cases hlt : i < j
    · rw [if_pos hlt]
      by_cases hc : c ≤ (l.getD ((i + j) / 2) z45).f1
      · rw [if_pos hc]
        exact ih i ((i + j) / 2) (by omega) (by omega) (by omega) h1 (fun t ht htl => by have := hm ((i + j) / 2) t ht htl; omega)
      · rw [if_neg hc]
        exact ih ((i + j) / 2 + 1) j (by omega) hj (by omega) (fun t ht => by have := hm t ((i + j) / 2) (by omega) (by omega); omega) h2
    · rw [if_neg hlt]
      have : i = j := by omega
      subst this
      exact ⟨h1, h2⟩
theorem go_get {m : Int} : ∀ {a : Int} {l : List S45}, span_Right.go m a l = true → ∀ i j, i < j → j < l.length → (l.getD i z45).f1 < (l.getD j z45).f0 := by
  intro a l
  induction l generalizing a with
  | nil => intro _ i j _ h; simp at h
  | cons x xs ih =>
    intro h i j hij hj
    rw [go_cons] at h
    obtain ⟨j, rfl⟩ : ∃ q, j = q + 1 := ⟨j - 1, by omega⟩
    simp at hj
    cases i with
    | zero =>
      simp only [List.getD_cons_zero, List.getD_cons_succ]
      have := go_mem h.2.2.2.2.2 (xs.getD j z45) (by rw [getD_eq xs j hj]; exact List.getElem_mem hj)
      exact this.1
    | succ i =>
      simp only [List.getD_cons_succ]
      exact ih h.2.2.2.2.2 i j (by omega) hj
theorem go_at {m a : Int} {l : List S45} (h : span_Right.go m a l = true) (i : Nat) (hi : i < l.length) : (l.getD i z45).f0 ≤ (l.getD i z45).f1 := by
  have := go_mem h (l.getD i z45) (by rw [getD_eq l i hi]; exact List.getElem_mem hi)
  exact this.2.1
theorem fnd_skip (c : Int) : ∀ (l : List S45) (n : Nat), (∀ t, t < n → t < l.length → (l.getD t z45).f1 < c) → fnd l c = fnd (l.drop n) c := by
  intro l
  induction l with
  | nil => intro n _; simp
  | cons x xs ih =>
    intro n h
    cases n with
    | zero => rfl
    | succ n =>
      have h0 := h 0 (by omega) (by simp)
      simp only [List.getD_cons_zero] at h0
      simp only [fnd, List.drop_succ_cons]
      rw [if_neg (by omega)]
      exact ih n (fun t ht htl => by have := h (t + 1) (by omega) (by simpa using htl); simpa using this)
theorem fnd_ahead (c : Int) : ∀ (l : List S45), (∀ x ∈ l, c < x.f0) → fnd l c = (0, false) := by
  intro l
  induction l with
  | nil => intro _; rfl
  | cons x xs ih =>
    intro h
    simp only [fnd]
    rw [if_neg (by have := h x (by simp); omega)]
    exact ih (fun y hy => h y (by simp [hy]))
theorem ownFind (l : List S45) (c : Int) : span_Find.f l c = some (if span_Right.v l 9223372036854775807 = true then fnd l c else (0, false)) := by
  unfold span_Find.f
  by_cases hr : span_Right.v l 9223372036854775807 = true
  · rw [if_pos hr, if_pos hr]
    obtain ⟨hl, hg⟩ := right_go hr
    have hm : ∀ i j, i ≤ j → j < l.length → (l.getD i z45).f1 ≤ (l.getD j z45).f1 := by
      intro i j hij hj
      rcases Nat.lt_or_ge i j with h | h
      · have h1 := go_get hg i j h hj
        have h2 := go_at hg j hj
        omega
      · have : i = j := by omega
        subst this; omega
    have hs := s_spec l c hm l.length 0 l.length (by omega) (by omega) (by omega) (fun t ht => absurd ht (by omega)) (fun t h1 h2 => absurd h1 (by omega))
    have hle := span_Find.s_le l c l.length 0 l.length (by omega)
    generalize span_Find.s l c l.length 0 l.length = i at hs hle
    rw [fnd_skip c l i (fun t ht _ => hs.1 t ht)]
    by_cases hi : i = l.length
    · rw [if_pos hi, List.drop_of_length_le (by omega)]; rfl
    · rw [if_neg hi]
      have hil : i < l.length := by omega
      rw [List.drop_eq_getElem_cons hil]
      have h2 := hs.2 i (by omega) hil
      rw [getD_eq l i hil] at h2 ⊢
      by_cases hc : c < l[i].f0
      · rw [if_pos hc]
        simp only [fnd]
        rw [if_neg (by omega), fnd_ahead c _ (fun x hx => by
          obtain ⟨t, ht, rfl⟩ := List.getElem_of_mem hx
          rw [List.getElem_drop]
          simp only [List.length_drop] at ht
          have h3 := go_get hg i (i + 1 + t) (by omega) (by omega)
          rw [getD_eq l i hil, getD_eq l (i + 1 + t) (by omega)] at h3
          have h4 := go_at hg i hil
          rw [getD_eq l i hil] at h4
          omega)]
      · rw [if_neg hc]
        simp only [fnd]
        rw [if_pos (by omega)]
  · rw [if_neg hr, if_neg hr]
end Go.Proofs.Ytahmicipakmbmaa.Pure
