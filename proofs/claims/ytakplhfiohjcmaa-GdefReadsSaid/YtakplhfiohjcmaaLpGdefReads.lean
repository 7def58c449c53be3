/- The plain law of GdefReads. -/
import Derived.Test.YtakplhfiohjcmaaPU10
set_option linter.unusedVariables false
set_option linter.unusedSimpArgs false
namespace Go.Proofs.Ytakplhfiohjcmaa.AI
theorem GdefReads_plain {N : Nat} (hN : 1000000000000 < N) {b : List Int} (hb : Bytes b) (i : Int) : law15_GdefReads N b i = some true := by
  unfold law15_GdefReads
  by_cases h1 : 1000 < (b.length : Int)
  · rw [if_pos h1]
  by_cases h2 : 1000 < i
  · rw [if_neg h1, if_pos h2]
  by_cases h3 : i < -1000
  · rw [if_neg h1, if_neg h2, if_pos h3]
  rw [if_neg h1, if_neg h2, if_neg h3, Read_eq hN hb (by omega) i (by omega) (by omega), rRead_eq hN hb (by omega) i (by omega) (by omega)]
  simp only [Option.bind_some]
  cases hg : gread N b i with
  | none => simp only [readR, Bool.false_eq_true, if_false]; rw [rSame_eq hN (by simp) (by simp) (by simp) (by simp)]; rfl
  | some p =>
    obtain ⟨x, y, z⟩ := p
    obtain ⟨g1, g2, g3, g4⟩ := gread_len hN hb (by omega) (by omega) (by omega) hg
    simp only [readR, if_true]
    rw [rSame_eq hN g1 g2 g3 g4]
    rfl
end Go.Proofs.Ytakplhfiohjcmaa.AI
