/- Plain laws of layer 11: the other reader's parts. -/
import Derived.Test.YtfacmhngbaboiaaCX8
set_option linter.unusedVariables false
set_option linter.unusedSimpArgs false
set_option maxRecDepth 100000
namespace Go.Proofs.Ytfacmhngbaboiaa.AI
section
variable {N : Nat} (hN : 1000000000000 < N) {b : List Int} (hb : Bytes b) (hl : b.length ≤ 1000000)
include hN hb hl
end
section
variable {N : Nat} (hN : 1000000000000 < N) {b : List Int} (hb : Bytes b) (hl : b.length ≤ 1000000)
include hN hb hl
end
end Go.Proofs.Ytfacmhngbaboiaa.AI
