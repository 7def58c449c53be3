/- The abstract machine, part 17: small helps for walks. -/
import Derived.Test.YtejkiahbknjmaaaA16
import Derived.IntWalk
set_option linter.unusedVariables false
namespace Go.Proofs.Ytejkiahbknjmaaa.AI

end Go.Proofs.Ytejkiahbknjmaaa.AI
