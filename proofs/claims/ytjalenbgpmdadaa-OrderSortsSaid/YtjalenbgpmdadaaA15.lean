/- Part of a proof. -/
import Derived.Test.YtjalenbgpmdadaaR0
set_option linter.unusedVariables false
set_option linter.unusedSimpArgs false
namespace Go.Proofs.Ytjalenbgpmdadaa.AI

section
variable (call : FuncId → List AV → List AObj → Option (AEnd × List AObj))
def okB (ta : ATm) : Option Nat → Bool
 | some t => Nat.blt t ta.n
 | none => true
end
section
variable {P : Program} {call : FuncId → List AV → List AObj → Option (AEnd × List AObj)}
end
end Go.Proofs.Ytjalenbgpmdadaa.AI
