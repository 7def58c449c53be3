/- The abstract machine, part 17: small helps for walks. -/
import Derived.Test.YtjalenbgpmdadaaA16
import Derived.IntWalk
set_option linter.unusedVariables false
namespace Go.Proofs.Ytjalenbgpmdadaa.AI

end Go.Proofs.Ytjalenbgpmdadaa.AI
