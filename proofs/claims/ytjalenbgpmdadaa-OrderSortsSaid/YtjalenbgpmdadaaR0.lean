/- Part of a proof. -/
import Derived.Test.YtjalenbgpmdadaaA14
import Derived.Recover
set_option linter.unusedVariables false
set_option linter.unusedSimpArgs false
namespace Go.Proofs.Ytjalenbgpmdadaa.AI

theorem M_dfr {P : Program} {n0 : Nat} {Q : AExit → ATm → List AObj → Prop} {k : List AItem} {n : Nat} {l : List (Nat × AV)} {ds : List (Fn × List AV × List AV)} {H : List AObj} {d : Nat} {g : FuncId} {xs : List AX} :
  M P n0 Q (.code (.dfr d g xs) :: k) ⟨n, l, ds⟩ H = (d < n ∧ M P n0 Q k ⟨n, (d, .fn (.func g) [] (xs.map (AX.ev ⟨n, l, ds⟩))) :: l, (.func g, xs.map (AX.ev ⟨n, l, ds⟩), []) :: ds⟩ H) := by rw [M]

end Go.Proofs.Ytjalenbgpmdadaa.AI
