/- Plain law of GsubBehind. -/
import Derived.Test.YtfacmhngbaboiaaGS5
set_option linter.unusedVariables false
set_option linter.unusedSimpArgs false
set_option maxRecDepth 100000
namespace Go.Proofs.Ytfacmhngbaboiaa.AI
theorem gsubBehind_plain {N : Nat} (hN : 1000000000000 < N) {b m : List Int} (hb : Bytes b) (hm : Bytes m) (k : Int) : law12_GsubBehind N b m k = some true := by
 unfold law12_GsubBehind
 by_cases g1 : 800 < (b.length : Int)
 ·
  rw [if_pos g1]
 by_cases g2 : 300 < (m.length : Int)
 ·
  rw [if_neg g1, if_pos g2]
 have hl : (b ++ m).length ≤ 2000 := by simp only [List.length_append]; omega
 rw [if_neg g1, if_neg g2, if_pos (by omega), if_pos (by omega), gRead_eq hN hb (by omega) (by omega) (by omega), gRead_eq hN (hb.app hm) (by omega) (by omega) (by omega)]
 cases e : gRead N b 0 k with
 | none => rfl
 | some g =>
  rw [gRead_app hN hb hm (by omega) (by omega) (by omega) (by omega) e]
  have gg := gRead_good hN hb (by omega) (by omega) (by omega) e
  have gf := gRead_fine hN hb (by omega) (by omega) (by omega) e
  simp only [Option.bind_some, if_true]
  rw [gSame_refl hN gg gf]
  rfl
end Go.Proofs.Ytfacmhngbaboiaa.AI
