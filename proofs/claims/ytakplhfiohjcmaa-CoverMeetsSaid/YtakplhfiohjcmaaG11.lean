/- Layer 10, plain: what With and Both have. -/
import Derived.Test.YtakplhfiohjcmaaG10
set_option linter.unusedVariables false
set_option linter.unusedSimpArgs false
namespace Go.Proofs.Ytakplhfiohjcmaa.AI
def CL : Int → List Cls → Prop
  | _, [] => True
  | lo, c :: r => lo ≤ c.a ∧ c.a ≤ c.b ∧ c.b ≤ 65535 ∧ 1 ≤ c.c ∧ CL (c.b + 1) r
theorem ClassesP.cl {l : List Cls} (h : ClassesP l) : CL 0 l := by
  have : ∀ (d i : Nat) (lo : Int), i + d = l.length → (∀ s, l[i]? = some s → lo ≤ s.a) → CL lo (l.drop i) := by
    intro d
    induction d with
    | zero => intro i lo hi _; rw [List.drop_eq_nil_of_le (by omega)]; trivial
    | succ d ih =>
      intro i lo hi hlo
      obtain ⟨s, hs, hd⟩ := drop_cons hi
      rw [hd]
      have g := h.2 i (by omega)
      refine ⟨hlo s hs, g.le s hs, g.hi s hs, g.one s hs, ih (i + 1) _ (by omega) fun t ht => ?_⟩
      have := (h.2 (i + 1) (by have := (List.getElem?_eq_some_iff.1 ht).1; omega)).gap t s (by omega) ht (by simpa using hs)
      omega
  have h0 := this l.length 0 0 (by omega) fun s hs => (h.2 0 (by have := (List.getElem?_eq_some_iff.1 hs).1; omega)).lo s hs
  simpa using h0
theorem CL.low : ∀ {l : List Cls} {lo : Int}, CL lo l → ∀ c ∈ l, lo ≤ c.a ∧ c.a ≤ c.b ∧ c.b ≤ 65535 ∧ 1 ≤ c.c
  | [], lo, _, c, hc => by cases hc
  | x :: r, lo, h, c, hc => by
    rcases List.mem_cons.1 hc with rfl | hc
    · exact ⟨h.1, h.2.1, h.2.2.1, h.2.2.2.1⟩
    · have := CL.low h.2.2.2.2 c hc
      have := h.1; have := h.2.1
      omega
theorem wth_spec {k : Int} : ∀ {m : List Cls} {lo : Int} {o : List Span}, CL lo m → 0 ≤ lo → RL 0 o → (∀ x ∈ o, x.b < lo) →
    RL 0 (wth k m o) ∧ (∀ g, inn (wth k m o) g ↔ inn o g ∨ ∃ c ∈ m, (k = 0 ∨ c.c = k) ∧ c.a ≤ g ∧ g ≤ c.b) ∧ (wth k m o).length ≤ o.length + m.length
  | [], lo, o, _, _, ho, _ => ⟨ho, fun g => by simp [wth], by simp [wth]⟩
  | c :: r, lo, o, h, h0, ho, hb => by
    obtain ⟨h1, h2, h3, h4, h5⟩ := h
    simp only [wth]
    by_cases hk : k = 0 ∨ c.c = k
    · rw [if_pos hk]
      obtain ⟨j1, j2, j3, j4, j5⟩ := jn_spec (s := ⟨c.a, c.b⟩) ho (fun x hx => by have := hb x hx; simp only; omega) (by simp only; omega) h2 h3
      obtain ⟨g1, g2, g3⟩ := wth_spec (k := k) h5 (by omega) j1 (fun x hx => by have := j2 x hx; simp only at this; omega)
      refine ⟨g1, fun g => ?_, by simp only [List.length_cons]; omega⟩
      rw [g2, j4]
      simp only [List.mem_cons]
      constructor
      · rintro ((h | h) | ⟨c', hc, h⟩)
        · exact .inl h
        · exact .inr ⟨c, .inl rfl, hk, h⟩
        · exact .inr ⟨c', .inr hc, h⟩
      · rintro (h | ⟨c', rfl | hc, h⟩)
        · exact .inl (.inl h)
        · exact .inl (.inr h.2)
        · exact .inr ⟨c', hc, h⟩
    · rw [if_neg hk]
      obtain ⟨g1, g2, g3⟩ := wth_spec (k := k) h5 (by omega) ho (fun x hx => by have := hb x hx; omega)
      refine ⟨g1, fun g => ?_, by simp only [List.length_cons]; omega⟩
      rw [g2]
      simp only [List.mem_cons]
      constructor
      · rintro (h | ⟨c', hc, h⟩)
        · exact .inl h
        · exact .inr ⟨c', .inr hc, h⟩
      · rintro (h | ⟨c', rfl | hc, h⟩)
        · exact .inl h
        · exact (hk h.1).elim
        · exact .inr ⟨c', hc, h⟩
theorem ofc_zero : ∀ {m : List Cls} {lo g : Int}, CL lo m → (ofc m g = 0 ↔ ¬ ∃ c ∈ m, c.a ≤ g ∧ g ≤ c.b)
  | [], lo, g, _ => by simp [ofc]
  | c :: r, lo, g, h => by
    simp only [ofc, List.mem_cons]
    by_cases hc : c.a ≤ g ∧ g ≤ c.b
    · rw [if_pos hc]
      have := h.2.2.2.1
      constructor
      · intro h; omega
      · intro hn; exact (hn ⟨c, .inl rfl, hc⟩).elim
    · rw [if_neg hc, ofc_zero h.2.2.2.2]
      constructor
      · rintro hn ⟨c', rfl | hc', h'⟩
        · exact hc h'
        · exact hn ⟨c', hc', h'⟩
      · rintro hn ⟨c', hc', h'⟩
        exact hn ⟨c', .inr hc', h'⟩
theorem ofc_class : ∀ {m : List Cls} {lo g k : Int}, CL lo m → k ≠ 0 → (ofc m g = k ↔ ∃ c ∈ m, c.c = k ∧ c.a ≤ g ∧ g ≤ c.b)
  | [], lo, g, k, _, hk => by simp [ofc]; omega
  | c :: r, lo, g, k, h, hk => by
    simp only [ofc, List.mem_cons]
    by_cases hc : c.a ≤ g ∧ g ≤ c.b
    · rw [if_pos hc]
      constructor
      · intro h; exact ⟨c, .inl rfl, h, hc⟩
      · rintro ⟨c', rfl | hc', h1, h2⟩
        · exact h1
        · have := (CL.low h.2.2.2.2 c' hc').1
          omega
    · rw [if_neg hc, ofc_class h.2.2.2.2 hk]
      constructor
      · rintro ⟨c', hc', h'⟩; exact ⟨c', .inr hc', h'⟩
      · rintro ⟨c', rfl | hc', h'⟩
        · exact (hc h'.2).elim
        · exact ⟨c', hc', h'⟩
end Go.Proofs.Ytakplhfiohjcmaa.AI
