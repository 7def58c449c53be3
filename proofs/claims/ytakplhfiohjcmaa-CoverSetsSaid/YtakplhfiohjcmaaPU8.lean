/- Plain laws: class tables by the document. -/
import Derived.Test.YtakplhfiohjcmaaPU7
set_option linter.unusedVariables false
set_option linter.unusedSimpArgs false
namespace Go.Proofs.Ytakplhfiohjcmaa.AI

end Go.Proofs.Ytakplhfiohjcmaa.AI
