/- The plain law of CoverReads. -/
import Derived.Test.YtakplhfiohjcmaaPU8
set_option linter.unusedVariables false
set_option linter.unusedSimpArgs false
namespace Go.Proofs.Ytakplhfiohjcmaa.AI
theorem CoverReads_plain {N : Nat} (hN : 1000000000000 < N) {b : List Int} (hb : Bytes b) (i : Int) : law10_CoverReads N b i = some true := by
  unfold law10_CoverReads
  by_cases h1 : 3000 < (b.length : Int)
  · rw [if_pos h1]
  by_cases h2 : 3000 < i
  · rw [if_neg h1, if_pos h2]
  by_cases h3 : i < -3000
  · rw [if_neg h1, if_neg h2, if_pos h3]
  rw [if_neg h1, if_neg h2, if_neg h3]
  obtain ⟨l, c1, c2, c3, c4⟩ := Cover_same hN hb (by omega) i (by omega) (by omega)
  obtain ⟨m, d1, d2, d3, d4, d5⟩ := Classes_same hN hb (by omega) i (by omega) (by omega)
  have hl : l.length ≤ 1000000000 := by
    cases hc : covOk b i with
    | false => rw [c3 hc]; simp
    | true => rcases RL.len (c4 hc).1 (Int.le_refl 0) with h | h
              · omega
              · rw [h]; simp
  simp only [c1, c2, d1, d2, Option.bind_some]
  clear c1 c2 d1 d2 c3 c4 d3 d5
  cases covOk b i <;> cases clsOk b i <;> simp [Same_eq hN hl, SameClasses_eq hN (show m.length ≤ 1000000000 by omega)]
end Go.Proofs.Ytakplhfiohjcmaa.AI
