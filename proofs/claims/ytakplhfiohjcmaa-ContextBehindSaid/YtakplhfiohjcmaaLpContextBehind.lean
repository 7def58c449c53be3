/- Plain law of ContextBehind. -/
import Derived.Test.YtakplhfiohjcmaaCX8
set_option linter.unusedVariables false
set_option linter.unusedSimpArgs false
set_option maxRecDepth 100000
namespace Go.Proofs.Ytakplhfiohjcmaa.AI
theorem contextBehind_plain {N : Nat} (hN : 1000000000000 < N) {b m : List Int} (hb : Bytes b) (hm : Bytes m) (ch : Bool) : law11_ContextBehind N b m ch = some true := by
  unfold law11_ContextBehind
  rw [alive11 hN, Option.bind_some, if_pos rfl]
  by_cases g1 : 1000 < (b.length : Int)
  · rw [if_pos g1]
  by_cases g2 : 300 < (m.length : Int)
  · rw [if_neg g1, if_pos g2]
  rw [if_neg g1, if_neg g2, if_pos (by omega), if_pos (by omega)]
  have hl : (b ++ m).length ≤ 1000000 := by simp only [List.length_append]; omega
  unfold context_Context context_Chain
  have t1 := fun ch => table_eq hN hb (p := 0) (ch := ch) (by omega) (by omega) (by omega)
  have t2 := fun ch => table_eq hN (hb.app hm) (p := 0) (ch := ch) hl (by omega) (by omega)
  simp only [t1, t2, Option.bind_some]
  cases ch with
  | true =>
    simp only [if_true]
    cases e : tableM N b 0 true with
    | none => simp
    | some r =>
      have e2 := tableM_app hN hb hm hl (by omega) (by omega) e
      have ok := tableM_ok hN hb (by omega) (by omega) (by omega) e
      simp only [e2, if_true, Same_refl hN ok.1 ok.2, Option.bind_some]
  | false =>
    simp only [Bool.false_eq_true, if_false]
    cases e : tableM N b 0 false with
    | none => simp
    | some r =>
      have e2 := tableM_app hN hb hm hl (by omega) (by omega) e
      have ok := tableM_ok hN hb (by omega) (by omega) (by omega) e
      simp only [e2, if_true, Same_refl hN ok.1 ok.2, Option.bind_some]
end Go.Proofs.Ytakplhfiohjcmaa.AI
