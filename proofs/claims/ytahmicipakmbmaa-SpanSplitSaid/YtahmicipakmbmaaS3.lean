/- Plain laws of joined ranges: right, as many codes, the same found, joined for good; and of a range that is parted in two. Conditions: ranges that are right. -/
import Derived.Test.YtahmicipakmbmaaS2
namespace Go.Proofs.Ytahmicipakmbmaa.Pure
open Go.RowKit Go.Proofs.Ytahmicipakmbmaa.Z Go.Proofs.YtahmicipakmbmaaW.PrintWords Go.Proofs.YtahmicipakmbmaaW.PrintLast

theorem grp_go {m : Int} : ∀ (l : List S45) (a : Int) (c : S45), span_Right.go m a (c :: l) = true → span_Right.go m a (grp c l) = true := by
  intro l
  induction l with
  | nil => intro a c h; exact h
  | cons x xs ih =>
    intro a c h
    rw [go_cons, go_cons] at h
    simp only [grp]
    split
    · refine ih a _ ?_
      rw [go_cons]
      exact ⟨h.1, by simp only; omega, h.2.2.2.2.2.2.2.1, h.2.2.2.1, h.2.2.2.2.1, h.2.2.2.2.2.2.2.2.2.2⟩
    · rw [go_cons]
      refine ⟨h.1, h.2.1, h.2.2.1, h.2.2.2.1, h.2.2.2.2.1, ih c.f1 x ?_⟩
      rw [go_cons]
      exact h.2.2.2.2.2
theorem jn_go {m a : Int} {l : List S45} (h : span_Right.go m a l = true) : span_Right.go m a (jn l) = true := by
  cases l with
  | nil => rfl
  | cons x xs => exact grp_go xs a x h
theorem jn_right {l : List S45} {m : Int} (h : span_Right.v l m = true) : span_Right.v (jn l) m = true := by
  obtain ⟨hl, hg⟩ := right_go h
  have := jn_len l
  exact go_right (by omega) (jn_go hg)
theorem grp_head : ∀ (l : List S45) (c : S45), ∃ y ys, grp c l = y :: ys ∧ y.f0 = c.f0 ∧ y.f2 = c.f2 := by
  intro l
  induction l with
  | nil => intro c; exact ⟨c, [], rfl, rfl, rfl⟩
  | cons x xs ih =>
    intro c
    simp only [grp]
    split
    · obtain ⟨y, ys, h, h1, h2⟩ := ih ⟨c.f0, x.f1, c.f2⟩
      exact ⟨y, ys, h, h1, h2⟩
    · exact ⟨c, _, rfl, rfl, rfl⟩
/-- No two neighbours could be joined. -/
def NA : List S45 → Prop
  | [] => True
  | [_] => True
  | x :: y :: r => ¬ (x.f2 = y.f2 ∧ x.f1 + 1 = y.f0) ∧ NA (y :: r)
theorem grp_NA : ∀ (l : List S45) (c : S45), NA (grp c l) := by
  intro l
  induction l with
  | nil => intro c; exact trivial
  | cons x xs ih =>
    intro c
    simp only [grp]
    split
    · exact ih _
    · rename_i h
      obtain ⟨y, ys, hy, h1, h2⟩ := grp_head xs x
      have hn := ih x
      rw [hy] at hn ⊢
      refine ⟨?_, hn⟩
      rw [h1, h2]
      exact h
theorem jn_NA (l : List S45) : NA (jn l) := by
  cases l with
  | nil => exact trivial
  | cons x xs => exact grp_NA xs x
theorem grp_of_NA : ∀ (l : List S45) (c : S45), NA (c :: l) → grp c l = c :: l := by
  intro l
  induction l with
  | nil => intro c _; rfl
  | cons x xs ih =>
    intro c h
    simp only [grp]
    rw [if_neg h.1, ih x h.2]
theorem jn_jn (l : List S45) : jn (jn l) = jn l := by
  have h := jn_NA l
  generalize jn l = j at h
  cases j with
  | nil => rfl
  | cons x xs => exact grp_of_NA xs x h
theorem NA_at : ∀ (l : List S45), NA l → ∀ i, i + 1 < l.length → ¬ ((l.getD i z45).f2 = (l.getD (i + 1) z45).f2 ∧ (l.getD i z45).f1 + 1 = (l.getD (i + 1) z45).f0) := by
  intro l
  induction l with
  | nil => intro _ i hi; simp at hi
  | cons x xs ih =>
    intro h i hi
    cases xs with
    | nil => simp at hi
    | cons y ys =>
      cases i with
      | zero => simpa using h.1
      | succ i =>
        have := ih h.2 i (by simpa using hi)
        simpa using this
theorem cnt_grp : ∀ (l : List S45) (c : S45), cnt (grp c l) = cnt (c :: l) := by
  intro l
  induction l with
  | nil => intro c; rfl
  | cons x xs ih =>
    intro c
    simp only [grp]
    split
    · rename_i h
      rw [ih]
      simp only [cnt]
      omega
    · simp only [cnt]
      rw [ih]
      simp only [cnt]
theorem cnt_jn (l : List S45) : cnt (jn l) = cnt l := by
  cases l with
  | nil => rfl
  | cons x xs => exact cnt_grp xs x
theorem fnd_grp {m : Int} (q : Int) : ∀ (l : List S45) (a : Int) (c : S45), span_Right.go m a (c :: l) = true → fnd (grp c l) q = fnd (c :: l) q := by
  intro l
  induction l with
  | nil => intro a c _; rfl
  | cons x xs ih =>
    intro a c h
    have h0 := h
    rw [go_cons, go_cons] at h
    simp only [grp]
    split
    · rename_i hm
      rw [ih a _ (by rw [go_cons]; exact ⟨h.1, by simp only; omega, h.2.2.2.2.2.2.2.1, h.2.2.2.1, h.2.2.2.2.1, h.2.2.2.2.2.2.2.2.2.2⟩)]
      simp only [fnd]
      by_cases h1 : c.f0 ≤ q ∧ q ≤ c.f1
      · rw [if_pos h1, if_pos (by omega)]
      · rw [if_neg h1]
        by_cases h2 : x.f0 ≤ q ∧ q ≤ x.f1
        · rw [if_pos h2, if_pos (by omega), hm.1]
        · rw [if_neg h2, if_neg (by omega)]
    · have := ih c.f1 x (by rw [go_cons]; exact h.2.2.2.2.2)
      simp only [fnd]
      rw [this]
      simp only [fnd]
theorem fnd_jn {m a : Int} {l : List S45} (q : Int) (h : span_Right.go m a l = true) : fnd (jn l) q = fnd l q := by
  cases l with
  | nil => rfl
  | cons x xs => exact fnd_grp q xs a x h
/-! ### a range that is parted -/
theorem go_split {m c : Int} {x : S45} {s : List S45} (h1 : x.f0 ≤ c) (h2 : c < x.f1) : ∀ (p : List S45) (a : Int), span_Right.go m a (p ++ x :: s) = true → span_Right.go m a (p ++ ⟨x.f0, c, x.f2⟩ :: ⟨c + 1, x.f1, x.f2⟩ :: s) = true := by
  intro p
  induction p with
  | nil =>
    intro a h
    rw [List.nil_append, go_cons] at h ⊢
    refine ⟨h.1, h1, by simp only; omega, h.2.2.2.1, h.2.2.2.2.1, ?_⟩
    rw [go_cons]
    exact ⟨by simp only; omega, by simp only; omega, h.2.2.1, h.2.2.2.1, h.2.2.2.2.1, h.2.2.2.2.2⟩
  | cons y p ih =>
    intro a h
    rw [List.cons_append, go_cons] at h ⊢
    exact ⟨h.1, h.2.1, h.2.2.1, h.2.2.2.1, h.2.2.2.2.1, ih _ h.2.2.2.2.2⟩
theorem fnd_split {m c : Int} {x : S45} {s : List S45} (h1 : x.f0 ≤ c) (h2 : c < x.f1) : ∀ (p : List S45) (a : Int), span_Right.go m a (p ++ x :: s) = true →
    fnd (p ++ ⟨x.f0, c, x.f2⟩ :: ⟨c + 1, x.f1, x.f2⟩ :: s) c = (x.f2, true) ∧ fnd (p ++ ⟨x.f0, c, x.f2⟩ :: ⟨c + 1, x.f1, x.f2⟩ :: s) (c + 1) = (x.f2, true) := by
  intro p
  induction p with
  | nil =>
    intro a _
    simp only [List.nil_append, fnd]
    rw [if_pos (by omega), if_neg (by omega), if_pos (by omega)]
    exact ⟨rfl, rfl⟩
  | cons y p ih =>
    intro a h
    rw [List.cons_append, go_cons] at h
    have hx := go_mem h.2.2.2.2.2 x (by simp)
    simp only [List.cons_append, fnd]
    rw [if_neg (by omega), if_neg (by omega)]
    exact ih _ h.2.2.2.2.2
theorem grp_split {c : Int} {x : S45} {s : List S45} : ∀ (p : List S45) (y : S45), grp y (p ++ ⟨x.f0, c, x.f2⟩ :: ⟨c + 1, x.f1, x.f2⟩ :: s) = grp y (p ++ x :: s) := by
  intro p
  induction p with
  | nil =>
    intro y
    simp only [List.nil_append, grp]
    split
    · rename_i h
      rw [if_pos (by simp [h.1])]
    · rw [if_pos (by simp)]
  | cons z p ih =>
    intro y
    simp only [List.cons_append, grp]
    split
    · exact ih _
    · rw [ih]
theorem jn_split {c : Int} {x : S45} {s : List S45} (p : List S45) : jn (p ++ ⟨x.f0, c, x.f2⟩ :: ⟨c + 1, x.f1, x.f2⟩ :: s) = jn (p ++ x :: s) := by
  cases p with
  | nil =>
    simp only [List.nil_append, jn, grp]
    rw [if_pos (by simp)]
  | cons y p => exact grp_split p y
theorem cnt_split {c : Int} {x : S45} {s : List S45} : ∀ (p : List S45), cnt (p ++ ⟨x.f0, c, x.f2⟩ :: ⟨c + 1, x.f1, x.f2⟩ :: s) = cnt (p ++ x :: s) := by
  intro p
  induction p with
  | nil => simp only [List.nil_append, cnt]; omega
  | cons y p ih => simp only [List.cons_append, cnt]; rw [ih]
end Go.Proofs.Ytahmicipakmbmaa.Pure
