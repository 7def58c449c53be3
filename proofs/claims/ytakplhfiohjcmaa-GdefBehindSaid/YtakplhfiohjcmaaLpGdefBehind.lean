/- The plain law of GdefBehind. -/
import Derived.Test.YtakplhfiohjcmaaPU15
set_option linter.unusedVariables false
set_option linter.unusedSimpArgs false
namespace Go.Proofs.Ytakplhfiohjcmaa.AI
theorem GdefBehind_plain {N : Nat} (hN : 1000000000000 < N) {b m : List Int} (hb : Bytes b) (hm : Bytes m) {g : Int} : law15_GdefBehind N b m g = some true := by
  unfold law15_GdefBehind
  by_cases h1 : 1000 < (b.length : Int)
  · rw [if_pos h1]
  by_cases h2 : 300 < (m.length : Int)
  · rw [if_neg h1, if_pos h2]
  have hl1 : b.length ≤ 1000000000 := by omega
  have hl : (b ++ m).length ≤ 1000000000 := by simp only [List.length_append]; omega
  rw [if_neg h1, if_neg h2, if_pos (by omega), if_pos (by omega), Read_eq hN hb hl1 0 (by omega) (by omega), Read_eq hN (hb.app hm) hl 0 (by omega) (by omega)]
  simp only [Option.bind_some]
  have tail : ((gdef_Codes N b 0 g).bind fun (y_43, y_44) =>
            (gdef_Codes N (b ++ m) 0 g).bind fun (y_46, y_47) =>
            if y_44 = true then (
              if y_47 = true then (
                (ref15_Groups N y_43 y_46).bind fun y_53 =>
                some y_53
              ) else (
                some false
              )
            ) else (
              some true
            )) = some true := by
    obtain ⟨⟨l, ok⟩, c1, c2, e, c3, c4⟩ := Codes_spec (g := g) hN hb hl1 (show (0 : Int) ≤ 1000000000 by omega) (by omega)
    obtain ⟨⟨l', ok'⟩, d1, d2, e', d3, d4⟩ := Codes_spec (g := g) hN (hb.app hm) hl (show (0 : Int) ≤ 1000000000 by omega) (by omega)
    have hlen : (l.length : Int) ≤ e + 1 := c4.len
    cases ok with
    | false => simp only [c1, d1, Option.bind_some, Bool.false_eq_true, if_false]
    | true =>
      simp only [c1, Codes_T hN hb hm hl (by omega) (by omega) c1, Option.bind_some, if_true]
      rw [Groups_eq hN (by omega)]
      rfl
  cases hg : gread N b 0 with
  | none =>
    cases gread N (b ++ m) 0 with
    | none => simp only [readR, Bool.false_eq_true, if_false]; exact tail
    | some p => obtain ⟨x, y, z⟩ := p; simp only [readR, Bool.false_eq_true, if_false]; exact tail
  | some p =>
    rw [gread_app hN hb hm hl (by omega) (by omega) hg]
    obtain ⟨x, y, z⟩ := p
    obtain ⟨g1, g2, g3, g4⟩ := gread_len hN hb hl1 (by omega) (by omega) hg
    simp only [readR, if_true]
    rw [rSame_eq hN g1 g2 g3 g4, Option.bind_some, if_pos rfl]
    exact tail
end Go.Proofs.Ytakplhfiohjcmaa.AI
