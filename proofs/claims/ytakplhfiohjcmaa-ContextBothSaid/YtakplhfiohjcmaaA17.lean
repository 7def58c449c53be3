/- The abstract machine, part 17: small helps for walks. -/
import Derived.Test.YtakplhfiohjcmaaA16
import Derived.IntWalk
set_option linter.unusedVariables false
namespace Go.Proofs.Ytakplhfiohjcmaa.AI

theorem drop_cons {α : Type} {l : List α} {i d : Nat} (h : i + (d + 1) = l.length) : ∃ x, l[i]? = some x ∧ l.drop i = x :: l.drop (i + 1) :=
 ⟨l[i]'(by omega), List.getElem?_eq_getElem _, List.drop_eq_getElem_cons _⟩
end Go.Proofs.Ytakplhfiohjcmaa.AI
