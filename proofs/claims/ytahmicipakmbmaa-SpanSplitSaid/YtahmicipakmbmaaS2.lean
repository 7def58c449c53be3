/- Plain laws of package span: the fewest ranges and their codes, by the program and by the reference. Conditions: at most 5000 ranges, that are right; else none. -/
import Derived.Test.YtahmicipakmbmaaS1
import Derived.Test.YtahmicipakmbmaaZ7
import Derived.Test.YtahmicipakmbmaaZ8
namespace Go.Proofs.Ytahmicipakmbmaa.Pure
open Go.RowKit Go.Proofs.Ytahmicipakmbmaa.Z Go.Proofs.YtahmicipakmbmaaW.PrintWords Go.Proofs.YtahmicipakmbmaaW.PrintLast

/-- A range that is being joined, and those behind it. -/
def grp : S45 → List S45 → List S45
  | c, [] => [c]
  | c, x :: xs => if c.f2 = x.f2 ∧ c.f1 + 1 = x.f0 then grp ⟨c.f0, x.f1, c.f2⟩ xs else c :: grp x xs
def jn : List S45 → List S45
  | [] => []
  | x :: xs => grp x xs
theorem grp_len : ∀ (l : List S45) (c : S45), (grp c l).length ≤ l.length + 1 := by
  intro l
  induction l with
  | nil => intro c; simp [grp]
  | cons x xs ih =>
    intro c
    simp only [grp]
    split
    · have := ih ⟨c.f0, x.f1, c.f2⟩; simp; omega
    · have := ih x; simp; omega
theorem jn_len (l : List S45) : (jn l).length ≤ l.length := by
  cases l with
  | nil => simp [jn]
  | cons x xs => have := grp_len xs x; simp [jn]; omega
theorem rd_last (acc : List S45) (c : S45) : rd_T45 (acc ++ [c]) (acc.length : Int) = c := by
  unfold rd_T45
  rw [Int.toNat_natCast, List.getD_eq_getElem?_getD]
  simp
theorem set_last (acc : List S45) (c d : S45) : (acc ++ [c]).set acc.length d = acc ++ [d] := by
  simp
/-- The program's loop, with a range that is being joined at the end of what is made. -/
theorem join_l0 (l : List S45) (hl : l.length ≤ 5000) {m a : Int} (hg : span_Right.go m a l = true) (ham : -1 ≤ a) : ∀ (d j k : Nat) (acc : List S45) (c : S45), j + d = l.length → d < k → acc.length + 1 ≤ j → (-1 ≤ c.f1 ∧ c.f1 ≤ 1114111) →
    span_Join.l0 k (acc ++ [c]) l (l.length : Int) (j : Int) = some (acc ++ grp c (l.drop j)) := by
  intro d
  induction d with
  | zero =>
    intro j k acc c hj hk _ _
    obtain ⟨k, rfl⟩ : ∃ q, k = q + 1 := ⟨k - 1, by omega⟩
    simp only [span_Join.l0]
    rw [if_neg (by omega), List.drop_of_length_le (by omega)]
    rfl
  | succ d ih =>
    intro j k acc c hj hk ha hc
    obtain ⟨k, rfl⟩ : ∃ q, k = q + 1 := ⟨k - 1, by omega⟩
    simp only [span_Join.l0]
    have hw : wrap64 ((j : Int) + 1) = ((j + 1 : Nat) : Int) := by unfold wrap64; omega
    have hlen : (acc ++ [c]).length = acc.length + 1 := by simp
    have hwl : wrap64 (((acc ++ [c]).length : Int) - 1) = (acc.length : Int) := by rw [hlen]; unfold wrap64; omega
    rw [if_pos (by omega), if_pos (by omega), if_pos (by omega), if_pos (by omega), hwl, if_pos (by omega), if_pos (by omega), rd_last, find_rd l j (by omega), hw, List.drop_eq_getElem_cons (show j < l.length by omega)]
    have hx := go_mem hg (l[j]'(by omega)) (List.getElem_mem (by omega))
    generalize l[j]'(by omega) = x at hx
    rw [w32 (n := c.f1 + 1) (by omega) (by omega), Int.toNat_natCast, set_last]
    simp only [grp]
    by_cases h1 : c.f2 = x.f2
    · rw [if_pos h1]
      by_cases h2 : c.f1 + 1 = x.f0
      · rw [if_pos h2, if_pos ⟨h1, h2⟩]
        exact ih (j + 1) k acc ⟨c.f0, x.f1, c.f2⟩ (by omega) (by omega) (by omega) (by simp only; omega)
      · rw [if_neg h2, if_neg (show ¬ (c.f2 = x.f2 ∧ c.f1 + 1 = x.f0) from fun h => h2 h.2), if_pos (by simp; omega)]
        have := ih (j + 1) k (acc ++ [c]) x (by omega) (by omega) (by omega) (by omega)
        simpa using this
    · rw [if_neg h1, if_neg (show ¬ (c.f2 = x.f2 ∧ c.f1 + 1 = x.f0) from fun h => h1 h.1), if_pos (by simp; omega)]
      have := ih (j + 1) k (acc ++ [c]) x (by omega) (by omega) (by omega) (by omega)
      simpa using this
theorem ownJoin (l : List S45) (k : Nat) (hk : l.length < k) : span_Join.f k l = some (if span_Right.v l 9223372036854775807 = true then jn l else []) := by
  unfold span_Join.f
  rw [span_Right.f_v l _ k hk]
  simp only [Option.bind_some]
  by_cases hr : span_Right.v l 9223372036854775807 = true
  · rw [if_pos hr, if_pos hr]
    obtain ⟨hl, hg⟩ := right_go hr
    cases l with
    | nil =>
      obtain ⟨k, rfl⟩ : ∃ q, k = q + 1 := ⟨k - 1, by omega⟩
      simp only [span_Join.l0]
      rw [if_neg (by simp)]
      rfl
    | cons x xs =>
      obtain ⟨k, rfl⟩ : ∃ q, k = q + 1 := ⟨k - 1, by omega⟩
      have hx := go_mem hg x (by simp)
      simp only [span_Join.l0]
      rw [if_pos (by simp), if_pos (by omega), if_pos (by simp), if_neg (by simp), if_pos (by simp)]
      have h0 : rd_T45 (x :: xs) 0 = x := rfl
      rw [h0, show wrap64 ((0 : Int) + 1) = ((1 : Nat) : Int) by unfold wrap64; omega]
      have := join_l0 (x :: xs) hl hg (by omega) xs.length 1 k [] x (by simp; omega) (by simpa using hk) (by simp) (by omega)
      simpa [jn] using this
  · rw [if_neg hr, if_neg hr]
theorem rd_getD (l : List S45) (j : Nat) : rd_T45 l (j : Int) = l.getD j z45 := by
  unfold rd_T45; rw [Int.toNat_natCast]
/-- The reference's two loops. -/
theorem refJoin_both (l : List S45) (hl : l.length ≤ 5000) {m a : Int} (hg : span_Right.go m a l = true) (ha : -1 ≤ a) : ∀ (d : Nat),
    (∀ (i k : Nat) (acc : List S45), i + d = l.length → 2 * d + 1 ≤ k → acc.length ≤ i → reedpenref02_Join.l0 k l acc (i : Int) = some (acc ++ jn (l.drop i))) ∧
    (∀ (j k i : Nat) (acc : List S45), j + d = l.length → 2 * d + 2 ≤ k → i < j → acc.length ≤ i →
      reedpenref02_Join.l1 k l acc (i : Int) (j : Int) = some (acc ++ grp ⟨(l.getD i z45).f0, (l.getD (j - 1) z45).f1, (l.getD i z45).f2⟩ (l.drop j))) := by
  intro d
  induction d with
  | zero =>
    have hA : ∀ (i k : Nat) (acc : List S45), i + 0 = l.length → 2 * 0 + 1 ≤ k → acc.length ≤ i → reedpenref02_Join.l0 k l acc (i : Int) = some (acc ++ jn (l.drop i)) := by
      intro i k acc hi hk _
      obtain ⟨k, rfl⟩ : ∃ q, k = q + 1 := ⟨k - 1, by omega⟩
      simp only [reedpenref02_Join.l0]
      rw [if_neg (by omega), List.drop_of_length_le (by omega)]
      simp [jn]
    refine ⟨hA, ?_⟩
    intro j k i acc hj hk hij hacc
    obtain ⟨k, rfl⟩ : ∃ q, k = q + 1 := ⟨k - 1, by omega⟩
    simp only [reedpenref02_Join.l1]
    have hw : wrap64 ((j : Int) - 1) = ((j - 1 : Nat) : Int) := by unfold wrap64; omega
    rw [if_neg (by omega), if_pos (by omega), if_pos (by omega), hw, if_pos (by omega), if_pos (by omega), if_pos (by omega), rd_getD, rd_getD, hA j k _ (by omega) (by omega) (by simp; omega), List.drop_of_length_le (by omega)]
    simp [jn, grp]
  | succ d ih =>
    obtain ⟨ihA, ihB⟩ := ih
    have hA : ∀ (i k : Nat) (acc : List S45), i + (d + 1) = l.length → 2 * (d + 1) + 1 ≤ k → acc.length ≤ i → reedpenref02_Join.l0 k l acc (i : Int) = some (acc ++ jn (l.drop i)) := by
      intro i k acc hi hk hacc
      obtain ⟨k, rfl⟩ : ∃ q, k = q + 1 := ⟨k - 1, by omega⟩
      simp only [reedpenref02_Join.l0]
      have hw : wrap64 ((i : Int) + 1) = ((i + 1 : Nat) : Int) := by unfold wrap64; omega
      rw [if_pos (by omega), hw, ihB (i + 1) k i acc (by omega) (by omega) (by omega) hacc, List.drop_eq_getElem_cons (show i < l.length by omega)]
      rw [show i + 1 - 1 = i by omega, getD_eq l i (by omega)]
      rfl
    refine ⟨hA, ?_⟩
    intro j k i acc hj hk hij hacc
    obtain ⟨k, rfl⟩ : ∃ q, k = q + 1 := ⟨k - 1, by omega⟩
    simp only [reedpenref02_Join.l1]
    have hw : wrap64 ((j : Int) - 1) = ((j - 1 : Nat) : Int) := by unfold wrap64; omega
    have hw1 : wrap64 ((j : Int) + 1) = ((j + 1 : Nat) : Int) := by unfold wrap64; omega
    have hB1 := ihB (j + 1) k i acc (by omega) (by omega) (by omega) hacc
    have hA1 := hA j k (acc ++ [⟨(l.getD i z45).f0, (l.getD (j - 1) z45).f1, (l.getD i z45).f2⟩]) (by omega) (by omega) (by simp; omega)
    rw [List.drop_eq_getElem_cons (show j < l.length by omega)] at hA1 ⊢
    rw [show j + 1 - 1 = j by omega] at hB1
    rw [if_pos (by omega), if_pos (by omega), if_pos (by omega), if_pos (by omega), hw, hw1, rd_getD, rd_getD, rd_getD]
    have hx := go_mem hg (l[j]'(by omega)) (List.getElem_mem (by omega))
    have hp := go_mem hg (l.getD (j - 1) z45) (by rw [getD_eq l (j - 1) (by omega)]; exact List.getElem_mem (by omega))
    rw [getD_eq l j (by omega)] at hB1 ⊢
    rw [w32 (by omega) (by omega)]
    simp only [grp]
    by_cases h1 : (l[j]'(by omega)).f2 = (l.getD i z45).f2
    · rw [if_pos h1, if_pos (by omega), if_pos (by omega)]
      by_cases h2 : (l[j]'(by omega)).f0 - (l.getD (j - 1) z45).f1 = 1
      · rw [if_pos h2, if_pos ⟨h1.symm, by omega⟩]
        exact hB1
      · rw [if_neg h2, if_neg (show ¬ ((l.getD i z45).f2 = (l[j]'(by omega)).f2 ∧ (l.getD (j - 1) z45).f1 + 1 = (l[j]'(by omega)).f0) from fun h => h2 (by omega)), if_pos (by omega), hA1]
        simp [jn]
    · rw [if_neg h1, if_pos (by omega), if_pos (by omega), if_neg (show ¬ ((l.getD i z45).f2 = (l[j]'(by omega)).f2 ∧ (l.getD (j - 1) z45).f1 + 1 = (l[j]'(by omega)).f0) from fun h => h1 h.1.symm), if_pos (by omega), hA1]
      simp [jn]
theorem refJoin (l : List S45) (hr : span_Right.v l 9223372036854775807 = true) (k : Nat) (hk : 2 * l.length + 1 ≤ k) : reedpenref02_Join.f k l = some (jn l) := by
  obtain ⟨hl, hg⟩ := right_go hr
  unfold reedpenref02_Join.f
  have := (refJoin_both l hl hg (by omega) l.length).1 0 k [] (by omega) hk (by simp)
  simpa using this
/-! ### counting -/
def cnt : List S45 → Int
  | [] => 0
  | x :: xs => (x.f1 - x.f0 + 1) + cnt xs
theorem cnt_bound {m : Int} : ∀ {a : Int} {l : List S45}, span_Right.go m a l = true → -1 ≤ a → 0 ≤ cnt l ∧ (l ≠ [] → cnt l ≤ 1114111 - a) ∧ cnt l ≤ 1114112 := by
  intro a l
  induction l generalizing a with
  | nil => intro _ _; simp [cnt]
  | cons x xs ih =>
    intro h ha
    rw [go_cons] at h
    obtain ⟨h1, h2, h3⟩ := ih h.2.2.2.2.2 (by omega)
    simp only [cnt]
    cases xs with
    | nil => simp only [cnt] at *; exact ⟨by omega, fun _ => by omega, by omega⟩
    | cons y ys =>
      have := h2 (by simp)
      exact ⟨by omega, fun _ => by omega, by omega⟩
theorem count_l0 (l : List S45) (hl : l.length ≤ 5000) {m a : Int} (hg : span_Right.go m a l = true) (ha : -1 ≤ a) : ∀ (d j k : Nat) (n : Int), j + d = l.length → d < k → 0 ≤ n → n ≤ 1114112 * 5000 - 1114112 * (d : Int) →
    span_Count.l0 k n l (l.length : Int) (j : Int) = some (n + cnt (l.drop j)) := by
  intro d
  induction d with
  | zero =>
    intro j k n hj hk _ _
    obtain ⟨k, rfl⟩ : ∃ q, k = q + 1 := ⟨k - 1, by omega⟩
    simp only [span_Count.l0]
    rw [if_neg (by omega), List.drop_of_length_le (by omega)]
    simp [cnt]
  | succ d ih =>
    intro j k n hj hk h0 h1
    obtain ⟨k, rfl⟩ : ∃ q, k = q + 1 := ⟨k - 1, by omega⟩
    simp only [span_Count.l0]
    have hw : wrap64 ((j : Int) + 1) = ((j + 1 : Nat) : Int) := by unfold wrap64; omega
    rw [if_pos (by omega), if_pos (by omega), if_pos (by omega), find_rd l j (by omega), hw, List.drop_eq_getElem_cons (show j < l.length by omega)]
    have hx := go_mem hg (l[j]'(by omega)) (List.getElem_mem (by omega))
    generalize l[j]'(by omega) = x at hx
    rw [w32 (n := x.f1 - x.f0) (by omega) (by omega), w64 (n := x.f1 - x.f0) (by omega) (by omega), w64 (n := x.f1 - x.f0 + 1) (by omega) (by omega), w64 (n := n + (x.f1 - x.f0 + 1)) (by omega) (by omega)]
    rw [ih (j + 1) k _ (by omega) (by omega) (by omega) (by omega)]
    simp only [cnt]
    congr 1
    omega
theorem ownCount (l : List S45) (k : Nat) (hk : l.length < k) : span_Count.f k l = some (if span_Right.v l 9223372036854775807 = true then cnt l else 0) := by
  unfold span_Count.f
  rw [span_Right.f_v l _ k hk]
  simp only [Option.bind_some]
  by_cases hr : span_Right.v l 9223372036854775807 = true
  · rw [if_pos hr, if_pos hr]
    obtain ⟨hl, hg⟩ := right_go hr
    have := count_l0 l hl hg (by omega) l.length 0 k 0 (by omega) hk (by omega) (by omega)
    simpa using this
  · rw [if_neg hr, if_neg hr]
/-! ### the same lists -/
theorem same_l0 (l : List S45) (hl : l.length ≤ 5000) : ∀ (d j k : Nat), j + d = l.length → d < k → reedpenref02_Same.l0 k l l (j : Int) = some true := by
  intro d
  induction d with
  | zero =>
    intro j k hj hk
    obtain ⟨k, rfl⟩ : ∃ q, k = q + 1 := ⟨k - 1, by omega⟩
    simp only [reedpenref02_Same.l0]
    rw [if_neg (by omega)]
  | succ d ih =>
    intro j k hj hk
    obtain ⟨k, rfl⟩ : ∃ q, k = q + 1 := ⟨k - 1, by omega⟩
    simp only [reedpenref02_Same.l0]
    have hw : wrap64 ((j : Int) + 1) = ((j + 1 : Nat) : Int) := by unfold wrap64; omega
    rw [if_pos (by omega), if_pos (by omega), if_pos (by omega), if_neg (by simp), hw]
    exact ih (j + 1) k (by omega) (by omega)
theorem same_self (l : List S45) (hl : l.length ≤ 5000) (k : Nat) (hk : l.length < k) : reedpenref02_Same.f k l l = some true := by
  unfold reedpenref02_Same.f
  rw [if_pos rfl]
  have := same_l0 l hl l.length 0 k (by omega) hk
  simpa using this
end Go.Proofs.Ytahmicipakmbmaa.Pure
