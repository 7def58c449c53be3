/- The plain law of GdefMay. -/
import Derived.Test.YtakplhfiohjcmaaPU13
set_option linter.unusedVariables false
set_option linter.unusedSimpArgs false
namespace Go.Proofs.Ytakplhfiohjcmaa.AI
theorem May_L1 {N : Nat} {g e : Int} {l : List TGroup} (h : GInv g l e) (he : e ≤ 1114111) (hg : l = [] ∨ g ≤ 65536) : ∀ (d k n : Nat), k + d = l.length → d < n → law15_GdefMay_L1 N g l n k = some (.inl ()) := by
  have hlen := h.len
  intro d
  induction d with
  | zero =>
    intro k n hk hn
    obtain ⟨n, rfl⟩ : ∃ x, n = x + 1 := ⟨n - 1, by omega⟩
    rw [law15_GdefMay_L1, if_neg (by omega)]
  | succ d ih =>
    intro k n hk hn
    obtain ⟨n, rfl⟩ : ∃ x, n = x + 1 := ⟨n - 1, by omega⟩
    obtain ⟨x, hx, hd⟩ := drop_cons hk
    have hg : g ≤ 65536 := by
      rcases hg with rfl | hg
      · simp at hx
      · exact hg
    obtain ⟨y1, y2, y3, y4, y5⟩ := h.ok x (List.mem_of_getElem? hx)
    have hi := ih (k + 1) n (by omega) (by omega)
    rw [show ((k + 1 : Nat) : Int) = (k : Int) + 1 by omega] at hi
    rw [law15_GdefMay_L1, if_pos (by omega), atI_at hx, Option.bind_some, if_neg (by omega), if_neg (by omega), if_neg (by omega), if_neg (by omega), w32 (x := x.To - x.From) (by omega) (by omega), w64 (x := x.To - x.From) (by omega) (by omega), w64 (x := x.Glyph + (x.To - x.From)) (by omega) (by omega), if_neg (by omega), w64 (x := (k : Int) + 1) (by omega) (by omega)]
    by_cases h1 : 0 < (k : Int)
    · have hp := List.getElem?_eq_getElem (l := l) (i := k - 1) (by omega)
      generalize l[k - 1]'(by omega) = p at hp
      obtain ⟨z1, z2, z3, z4, z5⟩ := h.ok p (List.mem_of_getElem? hp)
      obtain ⟨r1, r2⟩ := h.rl (k - 1) p x hp (by rw [show k - 1 + 1 = k by omega]; exact hx)
      rw [if_pos h1, w64 (x := (k : Int) - 1) (by omega) (by omega), atI_of (k := k - 1) (by omega) hp, Option.bind_some, if_neg (by omega), w32 (x := p.To + 1) (by omega) (by omega), w32 (x := p.To - p.From) (by omega) (by omega), w64 (x := p.To - p.From) (by omega) (by omega), w64 (x := p.Glyph + (p.To - p.From)) (by omega) (by omega), w64 (x := p.Glyph + (p.To - p.From) + 1) (by omega) (by omega)]
      by_cases h2 : x.From = p.To + 1
      · rw [if_pos h2, if_neg (fun h3 => r2 ⟨h2, h3⟩)]; exact hi
      · rw [if_neg h2]; exact hi
    · rw [if_neg h1]; exact hi
theorem GdefMay_plain {N : Nat} (hN : 1000000000000 < N) {b : List Int} (hb : Bytes b) {i g : Int} : law15_GdefMay N b i g = some true := by
  unfold law15_GdefMay
  by_cases h1 : 1000 < (b.length : Int)
  · rw [if_pos h1]
  by_cases h2 : 1000 < i
  · rw [if_neg h1, if_pos h2]
  by_cases h3 : i < -1000
  · rw [if_neg h1, if_neg h2, if_pos h3]
  rw [if_neg h1, if_neg h2, if_neg h3]
  obtain ⟨⟨l, ok⟩, h4, h5, e, h6, h7⟩ := Codes_spec (g := g) hN hb (by omega) (by omega : i ≤ 1000000000) (by omega)
  have hg : l = [] ∨ g ≤ 65536 := by
    by_cases hg : g ≤ 65536
    · exact .inr hg
    · left
      have : gdef_Codes N b i g = some ([], false) := by unfold gdef_Codes; rw [if_neg (by omega), if_pos (by omega)]
      rw [this] at h4
      cases h4; rfl
  replace h7 : GInv g l e := h7
  have hlen := h7.len
  have hm := May_L1 (N := N) h7 h6 hg l.length 0 N (by omega) (by omega)
  rw [show ((0 : Nat) : Int) = 0 from rfl] at hm
  rw [h4]
  cases ok with
  | true => simp only [Option.bind_some, if_true, hm]
  | false =>
    have : l = [] := h5 rfl
    subst this
    simp only [Option.bind_some, Bool.false_eq_true, if_false, List.length_nil, Int.natCast_zero, Int.lt_irrefl, hm]
end Go.Proofs.Ytakplhfiohjcmaa.AI
