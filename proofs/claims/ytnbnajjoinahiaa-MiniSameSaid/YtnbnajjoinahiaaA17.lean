/- The abstract machine, part 17: small helps for walks. -/
import Derived.Test.YtnbnajjoinahiaaA16
import Derived.IntWalk
set_option linter.unusedVariables false
namespace Go.Proofs.Ytnbnajjoinahiaa.AI

theorem wrapI {x : Int} (h : -4611686018427387904 ≤ x) (h' : x ≤ 4611686018427387904) : IntKind.i64.wrap x = x :=
 IntWalk.i64_in _ ⟨by omega, by omega⟩
end Go.Proofs.Ytnbnajjoinahiaa.AI
