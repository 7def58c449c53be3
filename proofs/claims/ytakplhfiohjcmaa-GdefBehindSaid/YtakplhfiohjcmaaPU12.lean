/- Plain laws: the groups of the table cmap. -/
import Derived.Test.YtakplhfiohjcmaaPU9
set_option linter.unusedVariables false
set_option linter.unusedSimpArgs false
namespace Go.Proofs.Ytakplhfiohjcmaa.AI
theorem w32 {x : Int} (h : -2147483648 ≤ x) (h' : x ≤ 2147483647) : IntKind.i32.wrap x = x := IntWalk.i32_in _ ⟨by omega, by omega⟩
def GOk (g : Int) (x : TGroup) : Prop := 0 ≤ x.From ∧ x.From ≤ x.To ∧ x.To ≤ 1114111 ∧ 1 ≤ x.Glyph ∧ x.Glyph + (x.To - x.From) < g
def GRl (p x : TGroup) : Prop := p.To < x.From ∧ ¬ (x.From = p.To + 1 ∧ x.Glyph = p.Glyph + (p.To - p.From) + 1)
structure GInv (g : Int) (l : List TGroup) (e : Int) : Prop where
  ok : ∀ x ∈ l, GOk g x
  rl : ∀ (i : Nat) (p x : TGroup), l[i]? = some p → l[i + 1]? = some x → GRl p x
  hi : ∀ x ∈ l, x.To ≤ e
  len : (l.length : Int) ≤ e + 1
theorem GInv.nil {g : Int} : GInv g [] (-1) := ⟨by simp, by simp, by simp, by simp⟩
theorem GInv.mono {g e e' : Int} {l : List TGroup} (h : GInv g l e) (he : e ≤ e') : GInv g l e' := ⟨h.ok, h.rl, fun x hx => by have := h.hi x hx; omega, by have := h.len; omega⟩
theorem GInv.snoc {g e : Int} {l : List TGroup} (h : GInv g l e) {y : TGroup} (hy : GOk g y) (he : e < y.From) (hr : ∀ p, 0 < l.length → l[l.length - 1]? = some p → ¬ (y.From = p.To + 1 ∧ y.Glyph = p.Glyph + (p.To - p.From) + 1)) : GInv g (l ++ [y]) y.To := by
  obtain ⟨y1, y2, y3, y4, y5⟩ := hy
  refine ⟨fun x hx => ?_, fun i p x hp hx => ?_, fun x hx => ?_, ?_⟩
  · rcases List.mem_append.1 hx with hx | hx
    · exact h.ok x hx
    · simp at hx; subst hx; exact ⟨y1, y2, y3, y4, y5⟩
  · have hi : i + 1 < l.length + 1 := by have := (List.getElem?_eq_some_iff.1 hx).1; simpa using this
    rw [List.getElem?_append_left (by omega)] at hp
    by_cases hh : i + 1 < l.length
    · rw [List.getElem?_append_left hh] at hx
      exact h.rl i p x hp hx
    · have : i = l.length - 1 := by omega
      subst this
      rw [show l.length - 1 + 1 = l.length by omega] at hx
      simp at hx
      subst hx
      exact ⟨by have := h.hi p (List.mem_of_getElem? hp); omega, hr p (by omega) hp⟩
  · rcases List.mem_append.1 hx with hx | hx
    · have := h.hi x hx; omega
    · simp at hx; subst hx; omega
  · have := h.len
    simp; omega
theorem GInv.ext {g e t : Int} {l : List TGroup} (h : GInv g l e) {p : TGroup} (hl : 0 < l.length) (hp : l[l.length - 1]? = some p) (h1 : p.To ≤ t) (h2 : t ≤ 1114111) (h3 : p.Glyph + (t - p.From) < g) (h4 : e ≤ t) : GInv g (l.set (l.length - 1) ⟨p.From, t, p.Glyph⟩) t := by
  obtain ⟨y1, y2, y3, y4, y5⟩ := h.ok p (List.mem_of_getElem? hp)
  have hy : GOk g ⟨p.From, t, p.Glyph⟩ := ⟨y1, by show p.From ≤ t; omega, h2, y4, h3⟩
  refine ⟨fun x hx => ?_, fun i q x hq hx => ?_, fun x hx => ?_, ?_⟩
  · rcases List.mem_or_eq_of_mem_set hx with hx | rfl
    · exact h.ok x hx
    · exact hy
  · have hi : i + 1 < l.length := by have := (List.getElem?_eq_some_iff.1 hx).1; simpa using this
    rw [List.getElem?_set_ne (by omega)] at hq
    by_cases hh : i + 1 = l.length - 1
    · rw [hh, List.getElem?_set_self (by omega)] at hx
      cases hx
      exact h.rl i q p hq (by rw [hh]; exact hp)
    · rw [List.getElem?_set_ne (by omega)] at hx
      exact h.rl i q x hq hx
  · rcases List.mem_or_eq_of_mem_set hx with hx | rfl
    · have := h.hi x hx; omega
    · exact Int.le_refl _
  · have := h.len; simp; omega
theorem add_in {g e a c t k : Int} {l : List TGroup} (h : GInv g l e) (he : e < a) (hec : e ≤ c) (hc : c ≤ 1114111) (ht : t ≤ c) (ha : 0 ≤ a) (ha2 : a ≤ 1114112) (hk : 1 ≤ k) (hg : g ≤ 65536) (hkg : a ≤ t → k + (t - a) < g) :
    ∃ m, (if t < a then (some l) else (
      if 0 < (l.length : Int) then (
        (atI l (IntKind.i64.wrap ((l.length : Int) - 1))).bind fun x =>
        if IntKind.i32.wrap (x.To + 1) = IntKind.i32.wrap a then (
          if IntKind.i64.wrap ((IntKind.i64.wrap (x.Glyph + (IntKind.i64.wrap (IntKind.i32.wrap (x.To - x.From))))) + 1) = k then (
            some (List.set l (IntKind.i64.wrap ((l.length : Int) - 1)).toNat (TGroup.mk x.From (IntKind.i32.wrap t) x.Glyph))
          ) else (
            if (l.length + 1) * 16 ≤ 140737488355328 then (
              some (l ++ [TGroup.mk (IntKind.i32.wrap a) (IntKind.i32.wrap t) k])
            ) else none
          )
        ) else (
          if (l.length + 1) * 16 ≤ 140737488355328 then (
            some (l ++ [TGroup.mk (IntKind.i32.wrap a) (IntKind.i32.wrap t) k])
          ) else none
        )
      ) else (
        if (l.length + 1) * 16 ≤ 140737488355328 then (
          some (l ++ [TGroup.mk (IntKind.i32.wrap a) (IntKind.i32.wrap t) k])
        ) else none
      ))) = some m ∧ GInv g m c := by
  have hlen := h.len
  by_cases h1 : t < a
  · exact ⟨l, if_pos h1, h.mono hec⟩
  have hk2 := hkg (by omega)
  have cap : (l.length + 1) * 16 ≤ 140737488355328 := by omega
  have app : (∀ p, 0 < l.length → l[l.length - 1]? = some p → ¬ (a = p.To + 1 ∧ k = p.Glyph + (p.To - p.From) + 1)) → GInv g (l ++ [⟨a, t, k⟩]) c := fun hr =>
    (h.snoc (y := ⟨a, t, k⟩) ⟨ha, by show a ≤ t; omega, by show t ≤ 1114111; omega, hk, hk2⟩ he hr).mono ht
  rw [if_neg h1, if_pos cap, w32 (x := a) (by omega) (by omega), w32 (x := t) (by omega) (by omega)]
  by_cases h2 : 0 < (l.length : Int)
  · have hp := List.getElem?_eq_getElem (l := l) (i := l.length - 1) (by omega)
    generalize l[l.length - 1]'(by omega) = x at hp
    obtain ⟨y1, y2, y3, y4, y5⟩ := h.ok x (List.mem_of_getElem? hp)
    rw [if_pos h2, w64 (x := (l.length : Int) - 1) (by omega) (by omega), show (l.length : Int) - 1 = ((l.length - 1 : Nat) : Int) by omega, atI_at hp, Option.bind_some,
      w32 (x := x.To + 1) (by omega) (by omega), w32 (x := x.To - x.From) (by omega) (by omega), w64 (x := x.To - x.From) (by omega) (by omega), w64 (x := x.Glyph + (x.To - x.From)) (by omega) (by omega), w64 (x := x.Glyph + (x.To - x.From) + 1) (by omega) (by omega)]
    by_cases h3 : x.To + 1 = a
    · rw [if_pos h3]
      by_cases h4 : x.Glyph + (x.To - x.From) + 1 = k
      · rw [if_pos h4]
        exact ⟨_, rfl, (h.ext (by omega) hp (t := t) (by omega) (by omega) (by omega) (by omega)).mono ht⟩
      · rw [if_neg h4]
        exact ⟨_, rfl, app fun p _ hp' => by rw [hp] at hp'; cases hp'; omega⟩
    · rw [if_neg h3]
      exact ⟨_, rfl, app fun p _ hp' => by rw [hp] at hp'; cases hp'; omega⟩
  · rw [if_neg h2]
    exact ⟨_, rfl, app fun p h0 _ => by omega⟩
theorem add_spec {N : Nat} {g e a c k : Int} {l : List TGroup} (h : GInv g l e) (he0 : -1 ≤ e) (he : e < a) (hac : a ≤ c) (hc : c ≤ 1114111) (hk : 0 ≤ k) (hk2 : k ≤ 4294967296) (hg0 : 0 ≤ g) (hg : g ≤ 65536) : ∃ m, gdef_list_add_row N l g a c k = some m ∧ GInv g m c := by
  unfold gdef_list_add_row
  by_cases h0 : k = 0
  · rw [if_pos h0, w64 (x := a + 1) (by omega) (by omega), w64 (x := a + 1 + g) (by omega) (by omega), w64 (x := a + 1 + g - 1) (by omega) (by omega), w64 (x := a + 1 + g - 1 - 1) (by omega) (by omega)]
    exact add_in h (by omega) (by omega) hc (by omega) (by omega) (by omega) (by omega) hg (by omega)
  · rw [if_neg h0, w64 (x := a + g) (by omega) (by omega), w64 (x := a + g - 1) (by omega) (by omega), w64 (x := a + g - 1 - k) (by omega) (by omega)]
    exact add_in h (by omega) (by omega) hc (by omega) (by omega) (by omega) (by omega) hg (by omega)

theorem wide_L1 {N : Nat} {g : Int} (hg0 : 0 ≤ g) (hg : g ≤ 65536) {y : Bool} {l : List Int} (hl : l.length ≤ 1000000000) (hx : ∀ x ∈ l, 0 ≤ x ∧ x < 4294967296) : ∀ (n k : Nat) (e : Int) (s : List TGroup), l.length - k < n → k ≤ l.length + 2 → GInv g s e → -1 ≤ e → e ≤ 1114111 →
    ∃ r, gdef_list_wide_nil_L1 N l y g n e k s = some r ∧ ∀ m, r = .inl m → ∃ e', e' ≤ 1114111 ∧ GInv g m e' := by
  intro n
  induction n with
  | zero => intro k e s hn; omega
  | succ n ih =>
    intro k e s hn hkl hs he he2
    rw [gdef_list_wide_nil_L1]
    by_cases h1 : k + 2 < l.length
    · have hx0 := List.getElem?_eq_getElem (l := l) (i := k) (by omega)
      have hx1 := List.getElem?_eq_getElem (l := l) (i := k + 1) (by omega)
      have hx2 := List.getElem?_eq_getElem (l := l) (i := k + 2) (by omega)
      generalize l[k]'(by omega) = x0 at hx0
      generalize l[k + 1]'(by omega) = x1 at hx1
      generalize l[k + 2]'(by omega) = x2 at hx2
      have b0 := hx x0 (List.mem_of_getElem? hx0); have b1 := hx x1 (List.mem_of_getElem? hx1); have b2 := hx x2 (List.mem_of_getElem? hx2)
      rw [w64 (x := (k : Int) + 2) (by omega) (by omega), if_pos (by omega), atI_at hx0, Option.bind_some, w64 (x := (k : Int) + 1) (by omega) (by omega), atI_of (k := k + 1) (by omega) hx1, Option.bind_some]
      by_cases h2 : x0 ≤ e
      · rw [if_pos h2]; exact ⟨_, rfl, fun m h => by cases h⟩
      rw [if_neg h2]
      by_cases h3 : x1 < x0
      · rw [if_pos h3]; exact ⟨_, rfl, fun m h => by cases h⟩
      rw [if_neg h3]
      by_cases h4 : 1114111 < x1
      · rw [if_pos h4]; exact ⟨_, rfl, fun m h => by cases h⟩
      obtain ⟨m, hm, hi⟩ := add_spec (N := N) hs he (show e < x0 by omega) (show x0 ≤ x1 by omega) (by omega) b2.1 (by omega) hg0 hg
      rw [if_neg h4, atI_of (k := k + 2) (by omega) hx2, Option.bind_some, hm, Option.bind_some, w64 (x := (k : Int) + 3) (by omega) (by omega), show (k : Int) + 3 = ((k + 3 : Nat) : Int) by omega]
      exact ih (k + 3) x1 m (by omega) (by omega) hi (by omega) (by omega)
    · rw [w64 (x := (k : Int) + 2) (by omega) (by omega), if_neg (by omega)]
      exact ⟨_, rfl, fun m h => by cases h; exact ⟨e, he2, hs⟩⟩
theorem wide_spec {N : Nat} (hN : 1000000000000 < N) {b : List Int} (hb : Bytes b) (hl : b.length ≤ 1000000000) {g i : Int} (hg0 : 0 ≤ g) (hg : g ≤ 65536) (hi : i ≤ 100000000000) (hi' : -100000000000 ≤ i) :
    ∃ r, gdef_list_wide_nil N g b i = some r ∧ (r.1 = true → ∃ e, e ≤ 1114111 ∧ GInv g r.2 e) := by
  have hu := u32_range hb (i + 12)
  unfold gdef_list_wide_nil
  rw [w64 (x := i + 12) (by omega) (by omega), w64 (x := i + 16) (by omega) (by omega), U32_eq hN hb hl _ (by omega), Option.bind_some]
  by_cases h1 : u32 b (i + 12) < 0
  · simp only [h1, if_true, Bool.false_eq_true, if_false]
    exact ⟨_, rfl, fun h => by cases h⟩
  simp only [h1, if_false, if_true]
  by_cases h2 : 5000 < u32 b (i + 12)
  · simp only [h2, if_true]
    exact ⟨_, rfl, fun h => by cases h⟩
  simp only [h2, if_false]
  rw [w64 (x := 3 * u32 b (i + 12)) (by omega) (by omega), Row_eq4 hN hb hl _ _ (by omega) (by omega), Option.bind_some]
  have key : ∀ (l : List Int) (y : Bool), l.length ≤ 1000000000 → (∀ x ∈ l, 0 ≤ x ∧ x < 4294967296) → ∃ r, ((gdef_list_wide_nil_L1 N l y g N (-1) 0 []).bind fun o => match o with | .inl m => some (y, m) | .inr m => some (false, m)) = some r ∧ (r.1 = true → ∃ e, e ≤ 1114111 ∧ GInv g r.2 e) := by
    intro l y hl2 hx
    obtain ⟨r, h3, h4⟩ := wide_L1 (N := N) hg0 hg (y := y) hl2 hx N 0 (-1) [] (by omega) (by omega) GInv.nil (by omega) (by omega)
    rw [show ((0 : Nat) : Int) = 0 from rfl] at h3
    rw [h3, Option.bind_some]
    cases r with
    | inl m => exact ⟨_, rfl, fun _ => h4 m rfl⟩
    | inr m => exact ⟨_, rfl, fun h => by cases h⟩
  by_cases h3 : (0 : Int) ≤ 3 * u32 b (i + 12) ∧ 0 ≤ i + 16 ∧ i + 16 + 4 * (3 * u32 b (i + 12)) ≤ (b.length : Int)
  · rw [if_pos h3]
    refine key (row32 b (i + 16) (3 * u32 b (i + 12)).toNat) true (by rw [row32_len]; omega) fun x hx => ?_
    obtain ⟨k, hk, rfl⟩ := List.mem_map.1 hx
    have hk := List.mem_range.1 hk
    have r1 := u32_range hb (i + 16 + 4 * (k : Int)); have r2 := (not_congr (u32_neg hb (i := i + 16 + 4 * (k : Int)))).2 (by omega)
    omega
  · rw [if_neg h3]
    exact key [] false (by simp) (by simp)
end Go.Proofs.Ytakplhfiohjcmaa.AI
