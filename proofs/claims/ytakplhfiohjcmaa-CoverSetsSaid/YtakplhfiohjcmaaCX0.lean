/- Part of a proof. -/
import Derived.Test.YtakplhfiohjcmaaPU8
set_option linter.unusedVariables false
set_option linter.unusedSimpArgs false
namespace Go.Proofs.Ytakplhfiohjcmaa.AI
end Go.Proofs.Ytakplhfiohjcmaa.AI
