/- Layer 10, plain: what Both has. -/
import Derived.Test.YtakplhfiohjcmaaG11
set_option linter.unusedVariables false
set_option linter.unusedSimpArgs false
namespace Go.Proofs.Ytakplhfiohjcmaa.AI
theorem pt_spec {o : List Span} {a b : Int} (h : RL 0 o) (hb : ∀ z ∈ o, z.b < a) (h0 : 0 ≤ a) (h1 : b ≤ 65535) :
    RL 0 (pt o a b) ∧ (∀ z ∈ pt o a b, z.b ≤ b ∨ z.b < a) ∧ cnt (pt o a b) = cnt o + max 0 (b - a + 1) ∧ ∀ g, inn (pt o a b) g ↔ inn o g ∨ (a ≤ g ∧ g ≤ b) := by
  unfold pt
  by_cases hab : a ≤ b
  · rw [if_pos hab]
    obtain ⟨j1, j2, j3, j4, j5⟩ := jn_spec (s := ⟨a, b⟩) h (fun x hx => hb x hx) h0 hab h1
    exact ⟨j1, fun z hz => .inl (j2 z hz), by rw [j3]; simp only; omega, j4⟩
  · rw [if_neg hab]
    refine ⟨h, fun z hz => .inr (hb z hz), by omega, fun g => ?_⟩
    constructor
    · exact .inl
    · rintro (h | h)
      · exact h
      · omega
theorem RL.lows : ∀ {l : List Span} {lo : Int}, RL lo l → ∀ y ∈ l, lo ≤ y.a ∧ y.a ≤ y.b ∧ y.b ≤ 65535
  | [], lo, _, y, hy => by cases hy
  | x :: r, lo, h, y, hy => by
    rcases List.mem_cons.1 hy with rfl | hy
    · exact ⟨h.1, h.2.1, h.2.2.1⟩
    · have := RL.lows h.2.2.2 y hy
      have := h.1; have := h.2.1
      omega
theorem inn_cons {y : Span} {r : List Span} {g : Int} : inn (y :: r) g ↔ (y.a ≤ g ∧ g ≤ y.b) ∨ inn r g := by
  simp only [inn, List.mem_cons]
  constructor
  · rintro ⟨z, rfl | hz, h⟩
    · exact .inl h
    · exact .inr ⟨z, hz, h⟩
  · rintro (h | ⟨z, hz, h⟩)
    · exact ⟨y, .inl rfl, h⟩
    · exact ⟨z, .inr hz, h⟩
theorem inn_low {r : List Span} {lo g : Int} (h : RL lo r) (hg : inn r g) : lo ≤ g := by
  obtain ⟨z, hz, h1, h2⟩ := hg
  have := RL.lows h z hz
  omega
theorem inB_false {x : Span} (hx : okS x) : ∀ {ys : List Span} {lo at_ : Int} {o : List Span}, RL lo ys → RL 0 o → (∀ z ∈ o, z.b < at_ ∧ z.b ≤ x.b) → x.a ≤ at_ → (at_ = x.a ∨ at_ ≤ lo) →
    RL 0 (inB false x ys (o, at_)).1 ∧ (∀ z ∈ (inB false x ys (o, at_)).1, z.b ≤ x.b) ∧ cnt (inB false x ys (o, at_)).1 ≤ cnt o + (x.b + 1 - min at_ (x.b + 1)) ∧ ∀ g, inn (inB false x ys (o, at_)).1 g ↔ inn o g ∨ (x.a ≤ g ∧ g ≤ x.b ∧ inn ys g)
  | [], lo, at_, o, _, ho, hz, _, _ => ⟨ho, fun z h => (hz z h).2, by simp only [inB]; omega, fun g => by simp [inB, inn]⟩
  | y :: r, lo, at_, o, h, ho, hz, ha, hat => by
    obtain ⟨h1, h2, h3, h4⟩ := h
    obtain ⟨x1, x2, x3⟩ := hx
    simp only [inB]
    by_cases hs : y.b < x.a ∨ y.a > x.b
    · have e : stY false x (o, at_) y = (o, at_) := if_pos hs
      rw [e]
      obtain ⟨g1, g2, g3, g4⟩ := inB_false ⟨x1, x2, x3⟩ h4 ho hz ha (by omega)
      refine ⟨g1, g2, g3, fun g => ?_⟩
      rw [g4, inn_cons]
      constructor
      · rintro (h | ⟨h5, h6, h7⟩)
        · exact .inl h
        · exact .inr ⟨h5, h6, .inr h7⟩
      · rintro (h | ⟨h5, h6, h7 | h7⟩)
        · exact .inl h
        · omega
        · exact .inr ⟨h5, h6, h7⟩
    · have e : stY false x (o, at_) y = (pt o (max at_ y.a) (min x.b y.b), y.b + 1) := if_neg hs
      rw [e]
      obtain ⟨p1, p2, p3, p4⟩ := pt_spec (a := max at_ y.a) (b := min x.b y.b) ho (fun z h => by have := hz z h; omega) (by omega) (by omega)
      obtain ⟨g1, g2, g3, g4⟩ := inB_false (ys := r) (lo := y.b + 2) (at_ := y.b + 1) ⟨x1, x2, x3⟩ h4 p1 (fun z h => by
        have := p2 z h
        by_cases hm : z ∈ o
        · have := hz z hm; omega
        · have : z.b ≤ min x.b y.b := by
            unfold pt at h
            split at h
            · obtain ⟨_, j2, _⟩ := jn_spec (s := ⟨max at_ y.a, min x.b y.b⟩) ho (fun x hx => by have := hz x hx; simp only; omega) (by simp only; omega) ‹_› (by simp only; omega)
              exact j2 z h
            · exact (hm h).elim
          omega) (by omega) (.inr (by omega))
      refine ⟨g1, g2, by rw [p3] at g3; omega, fun g => ?_⟩
      rw [g4, p4, inn_cons]
      constructor
      · rintro ((h | h) | ⟨h5, h6, h7⟩)
        · exact .inl h
        · exact .inr ⟨by omega, by omega, .inl (by omega)⟩
        · exact .inr ⟨h5, h6, .inr h7⟩
      · rintro (h | ⟨h5, h6, h7 | h7⟩)
        · exact .inl (.inl h)
        · exact .inl (.inr (by omega))
        · exact .inr ⟨h5, h6, h7⟩
theorem inB_true {x : Span} (hx : okS x) : ∀ {ys : List Span} {lo at_ : Int} {o : List Span}, RL lo ys → RL 0 o → (∀ z ∈ o, z.b < at_ ∧ z.b ≤ x.b) → x.a ≤ at_ → (at_ = x.a ∨ at_ ≤ lo) →
    RL 0 (inB true x ys (o, at_)).1 ∧ (∀ z ∈ (inB true x ys (o, at_)).1, z.b < (inB true x ys (o, at_)).2 ∧ z.b ≤ x.b) ∧ at_ ≤ (inB true x ys (o, at_)).2 ∧ cnt (inB true x ys (o, at_)).1 ≤ cnt o + (min (inB true x ys (o, at_)).2 (x.b + 1) - min at_ (x.b + 1)) ∧
      (∀ g, inn (inB true x ys (o, at_)).1 g ↔ inn o g ∨ (at_ ≤ g ∧ g ≤ x.b ∧ g < (inB true x ys (o, at_)).2 ∧ ¬ inn ys g)) ∧ ∀ g, (inB true x ys (o, at_)).2 ≤ g → g ≤ x.b → ¬ inn ys g
  | [], lo, at_, o, _, ho, hz, _, _ => ⟨ho, hz, Int.le_refl _, by simp only [inB]; omega, fun g => by
      simp only [inB]
      constructor
      · exact .inl
      · rintro (h | h)
        · exact h
        · omega, fun g _ _ => by simp [inn]⟩
  | y :: r, lo, at_, o, h, ho, hz, ha, hat => by
    obtain ⟨h1, h2, h3, h4⟩ := h
    obtain ⟨x1, x2, x3⟩ := hx
    simp only [inB]
    by_cases hs : y.b < x.a ∨ y.a > x.b
    · have e : stY true x (o, at_) y = (o, at_) := if_pos hs
      rw [e]
      obtain ⟨g1, g2, g3, g4, g5, g6⟩ := inB_true ⟨x1, x2, x3⟩ h4 ho hz ha (by omega)
      refine ⟨g1, g2, g3, g4, fun g => ?_, fun g q1 q2 => ?_⟩
      · rw [g5, inn_cons]
        constructor
        · rintro (h | ⟨h5, h6, h7, h8⟩)
          · exact .inl h
          · exact .inr ⟨h5, h6, h7, by rintro (h9 | h9); omega; exact h8 h9⟩
        · rintro (h | ⟨h5, h6, h7, h8⟩)
          · exact .inl h
          · exact .inr ⟨h5, h6, h7, fun h9 => h8 (.inr h9)⟩
      · rw [inn_cons]
        rintro (h9 | h9)
        · omega
        · exact g6 g q1 q2 h9
    · have e : stY true x (o, at_) y = (pt o at_ (y.a - 1), y.b + 1) := if_neg hs
      rw [e]
      obtain ⟨p1, p2, p3, p4⟩ := pt_spec (a := at_) (b := y.a - 1) ho (fun z h => (hz z h).1) (by omega) (by omega)
      obtain ⟨g1, g2, g3, g4, g5, g6⟩ := inB_true (ys := r) (lo := y.b + 2) (at_ := y.b + 1) ⟨x1, x2, x3⟩ h4 p1 (fun z h => by
        by_cases hm : z ∈ o
        · have := hz z hm; omega
        · have : z.b ≤ y.a - 1 := by
            unfold pt at h
            split at h
            · obtain ⟨_, j2, _⟩ := jn_spec (s := ⟨at_, y.a - 1⟩) ho (fun x hx => (hz x hx).1) (by simp only; omega) ‹_› (by simp only; omega)
              exact j2 z h
            · exact (hm h).elim
          omega) (by omega) (.inr (by omega))
      refine ⟨g1, g2, by omega, by rw [p3] at g4; omega, fun g => ?_, fun g q1 q2 => ?_⟩
      · rw [g5, p4, inn_cons]
        constructor
        · rintro ((h | h) | ⟨h5, h6, h7, h8⟩)
          · exact .inl h
          · refine .inr ⟨h.1, by omega, by omega, ?_⟩
            rintro (h9 | h9)
            · omega
            · have := inn_low h4 h9; omega
          · exact .inr ⟨by omega, h6, h7, by rintro (h9 | h9); omega; exact h8 h9⟩
        · rintro (h | ⟨h5, h6, h7, h8⟩)
          · exact .inl (.inl h)
          · by_cases hg : g < y.a
            · exact .inl (.inr ⟨h5, by omega⟩)
            · refine .inr ⟨?_, h6, h7, fun h9 => h8 (.inr h9)⟩
              have : ¬ (y.a ≤ g ∧ g ≤ y.b) := fun h9 => h8 (.inl h9)
              omega
      · rw [inn_cons]
        rintro (h9 | h9)
        · omega
        · exact g6 g q1 q2 h9
end Go.Proofs.Ytakplhfiohjcmaa.AI
