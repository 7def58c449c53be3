/- Plain law of ContextChains. -/
import Derived.Test.YtakplhfiohjcmaaCX11
set_option linter.unusedVariables false
set_option linter.unusedSimpArgs false
set_option maxRecDepth 100000
namespace Go.Proofs.Ytakplhfiohjcmaa.AI
theorem contextChains_plain {N : Nat} (hN : 1000000000000 < N) {b : List Int} (hb : Bytes b) (p : Int) : law11_ContextChains N b p = some true := by
  unfold law11_ContextChains
  rw [alive11 hN, Option.bind_some, if_pos rfl]
  by_cases g1 : 1000 < (b.length : Int)
  · rw [if_pos g1]
  by_cases g2 : 1000 < p
  · rw [if_neg g1, if_pos g2]
  by_cases g3 : p < -1000
  · rw [if_neg g1, if_neg g2, if_pos g3]
  rw [if_neg g1, if_neg g2, if_neg g3]
  unfold context_Chain
  rw [table_eq hN hb (by omega) (by omega) (by omega)]
  obtain ⟨l, e, h⟩ := rTable_eq hN hb (by omega) (p := p) (ch := true) (by omega) (by omega) (by omega)
  simp only [Option.bind_some]
  rw [e]
  cases e2 : tableM N b p true with
  | none =>
    simp only [Option.bind_some, Option.isSome_none, Bool.false_eq_true, if_false]
    rw [Same_refl hN (by simp) (by simp)]
    rfl
  | some r =>
    have ok := tableM_ok hN hb (by omega) (by omega) (by omega) e2
    simp only [Option.bind_some, Option.isSome_some, if_true]
    rw [h r e2, Same_refl hN ok.1 ok.2]
    rfl
end Go.Proofs.Ytakplhfiohjcmaa.AI
