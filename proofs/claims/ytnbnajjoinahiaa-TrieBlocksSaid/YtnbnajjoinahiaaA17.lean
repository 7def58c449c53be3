/- The abstract machine, part 17: small helps for walks. -/
import Derived.Test.YtnbnajjoinahiaaA16
import Derived.IntWalk
set_option linter.unusedVariables false
namespace Go.Proofs.Ytnbnajjoinahiaa.AI

end Go.Proofs.Ytnbnajjoinahiaa.AI
