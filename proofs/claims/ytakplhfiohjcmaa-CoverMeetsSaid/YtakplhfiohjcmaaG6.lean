/- Contracts of layer 10: With. -/
import Derived.Test.YtakplhfiohjcmaaG5
set_option linter.unusedVariables false
set_option linter.unusedSimpArgs false
set_option maxRecDepth 100000
namespace Go.Proofs.Ytakplhfiohjcmaa.AI
open Go.Proofs (Try.prog)
/-- Spans of glyphs below a bound, in order, none of them empty. -/
structure Sp (lo hi : Int) (l : List Span) : Prop where
  rl : RL lo l
  top : ∀ s ∈ l, s.b < hi
theorem RL.app : ∀ {l : List Span} {lo : Int} {s : Span}, RL lo l → (∀ x ∈ l, x.b + 2 ≤ s.a) → lo ≤ s.a → s.a ≤ s.b → s.b ≤ 65535 → RL lo (l ++ [s])
  | [], lo, s, _, _, h1, h2, h3 => ⟨h1, h2, h3, trivial⟩
  | x :: r, lo, s, h, hx, h1, h2, h3 => ⟨h.1, h.2.1, h.2.2.1, RL.app h.2.2.2 (fun y hy => hx y (List.mem_cons_of_mem _ hy)) (hx x List.mem_cons_self) h2 h3⟩
theorem RL.last : ∀ {l : List Span} {lo : Int} {x : Span} {b : Int}, RL lo (l ++ [x]) → x.b ≤ b → b ≤ 65535 → RL lo (l ++ [⟨x.a, b⟩])
  | [], lo, x, b, h, h1, h2 => ⟨h.1, by show x.a ≤ b; have := h.2.1; omega, h2, trivial⟩
  | y :: r, lo, x, b, h, h1, h2 => ⟨h.1, h.2.1, h.2.2.1, RL.last h.2.2.2 h1 h2⟩
theorem RL.lasts : ∀ {l : List Span} {lo : Int} {x : Span}, RL lo (l ++ [x]) → ∀ y ∈ l, y.b + 2 ≤ x.a
  | [], lo, x, h, y, hy => by cases hy
  | z :: r, lo, x, h, y, hy => by
    rcases List.mem_cons.1 hy with rfl | hy
    · have : ∀ (r : List Span) (lo : Int), RL lo (r ++ [x]) → lo ≤ x.a := by
        intro r
        induction r with
        | nil => intro lo h; exact h.1
        | cons w r ih => intro lo h; have := ih _ h.2.2.2; have := h.1; have := h.2.1; omega
      exact this r _ h.2.2.2
    · exact RL.lasts h.2.2.2 y hy
def inn (l : List Span) (g : Int) : Prop := ∃ s ∈ l, s.a ≤ g ∧ g ≤ s.b
theorem split_last {l : List Span} {x : Span} (h : l.getLast? = some x) : l = l.dropLast ++ [x] := by
  have hne : l ≠ [] := by rintro rfl; simp at h
  have := List.dropLast_concat_getLast hne
  rw [List.getLast?_eq_some_getLast hne] at h
  cases h
  exact this.symm
/-- What one more span does. -/
theorem jn_spec {l : List Span} {s : Span} (h : RL 0 l) (hs : ∀ x ∈ l, x.b < s.a) (h0 : 0 ≤ s.a) (h1 : s.a ≤ s.b) (h2 : s.b ≤ 65535) :
    RL 0 (jn l s) ∧ (∀ x ∈ jn l s, x.b ≤ s.b) ∧ cnt (jn l s) = cnt l + (s.b - s.a + 1) ∧ (∀ g, inn (jn l s) g ↔ inn l g ∨ (s.a ≤ g ∧ g ≤ s.b)) ∧ (jn l s).length ≤ l.length + 1 := by
  unfold jn
  cases hg : l.getLast? with
  | none =>
    have : l = [] := by simpa using hg
    subst this
    simp only
    refine ⟨⟨h0, h1, h2, trivial⟩, by simp, by simp [cnt], fun g => ?_, by simp⟩
    simp [inn]
  | some x =>
    have hl := split_last hg
    have hxm : x ∈ l := List.mem_of_getLast? hg
    have hxs := hs x hxm
    simp only
    split
    · rename_i he
      rw [hl] at h
      have hx1 : x.a ≤ x.b := by
        have : ∀ (r : List Span) (lo : Int), RL lo (r ++ [x]) → x.a ≤ x.b := by
          intro r
          induction r with
          | nil => intro lo h; exact h.2.1
          | cons w r ih => intro lo h; exact ih _ h.2.2.2
        exact this _ _ h
      refine ⟨RL.last h (by omega) h2, ?_, ?_, fun g => ?_, ?_⟩
      · intro y hy
        rcases List.mem_append.1 hy with hy | hy
        · have := hs y (by rw [hl]; exact List.mem_append_left _ hy); omega
        · simp at hy; subst hy; simp
      · conv => rhs; rw [hl]
        simp only [cnt_app, cnt]
        omega
      · conv => rhs; rw [hl]
        simp only [inn, List.mem_append, List.mem_singleton]
        constructor
        · rintro ⟨y, hy | rfl, h3, h4⟩
          · exact .inl ⟨y, .inl hy, h3, h4⟩
          · by_cases hb : g ≤ x.b
            · exact .inl ⟨x, .inr rfl, h3, hb⟩
            · right; simp only at h4; omega
        · rintro (⟨y, hy | rfl, h3, h4⟩ | h3)
          · exact ⟨y, .inl hy, h3, h4⟩
          · exact ⟨_, .inr rfl, h3, by simp only; omega⟩
          · exact ⟨_, .inr rfl, by simp only; omega, by simp only; omega⟩
      · have := congrArg List.length hl
        simp at this ⊢
    · rename_i he
      have hgap : ∀ y ∈ l, y.b + 2 ≤ s.a := by
        intro y hy
        rw [hl] at hy h
        rcases List.mem_append.1 hy with hy | hy
        · have h3 := RL.lasts h y hy
          have : ∀ (r : List Span) (lo : Int), RL lo (r ++ [x]) → x.a ≤ x.b := by
            intro r
            induction r with
            | nil => intro lo h; exact h.2.1
            | cons w r ih => intro lo h; exact ih _ h.2.2.2
          have := this _ _ h
          omega
        · simp at hy; subst hy; omega
      refine ⟨RL.app h hgap h0 h1 h2, ?_, ?_, fun g => ?_, by simp⟩
      · intro y hy
        rcases List.mem_append.1 hy with hy | hy
        · have := hs y hy; omega
        · simp at hy; subst hy; simp
      · simp only [cnt_app, cnt]; omega
      · simp only [inn, List.mem_append, List.mem_singleton]
        constructor
        · rintro ⟨y, hy | rfl, h3, h4⟩
          · exact .inl ⟨y, hy, h3, h4⟩
          · exact .inr ⟨h3, h4⟩
        · rintro (⟨y, hy, h3, h4⟩ | h3)
          · exact ⟨y, .inl hy, h3, h4⟩
          · exact ⟨s, .inr rfl, h3⟩
theorem idx_inn : ∀ {l : List Span} {lo g n : Int}, RL lo l → 0 ≤ n → (0 ≤ idx l g n ↔ inn l g)
  | [], lo, g, n, _, _ => by simp [idx, inn]
  | s :: r, lo, g, n, h, hn => by
    have h1 := h.2.1
    simp only [idx, inn, List.mem_cons]
    by_cases h2 : g < s.a
    · rw [if_pos h2]
      constructor
      · intro h; omega
      · rintro ⟨y, rfl | hy, h3, h4⟩
        · omega
        · have : ∀ (r : List Span) (lo : Int), RL lo r → ∀ y ∈ r, lo ≤ y.a := by
            intro r
            induction r with
            | nil => intro lo _ y hy; cases hy
            | cons w r ih =>
              intro lo h y hy
              rcases List.mem_cons.1 hy with rfl | hy
              · exact h.1
              · have := ih _ h.2.2.2 y hy; have := h.1; have := h.2.1; omega
          have := this r _ h.2.2.2 y hy
          omega
    · rw [if_neg h2]
      by_cases h3 : g ≤ s.b
      · rw [if_pos h3]
        constructor
        · intro _; exact ⟨s, .inl rfl, by omega, h3⟩
        · intro _; omega
      · rw [if_neg h3]
        have ih := idx_inn (l := r) (g := g) (n := n + (s.b - s.a + 1)) h.2.2.2 (by omega)
        rw [ih]
        constructor
        · rintro ⟨y, hy, h5⟩; exact ⟨y, .inr hy, h5⟩
        · rintro ⟨y, rfl | hy, h5, h6⟩
          · omega
          · exact ⟨y, hy, h5, h6⟩
end Go.Proofs.Ytakplhfiohjcmaa.AI
