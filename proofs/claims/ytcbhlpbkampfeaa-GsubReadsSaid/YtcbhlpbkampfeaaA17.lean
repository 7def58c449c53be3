import Derived.Test.YtcbhlpbkampfeaaA16
import Derived.IntWalk
/- The abstract machine, part 17: small helps for walks. -/
set_option linter.unusedVariables false
namespace Go.Proofs.Ytcbhlpbkampfeaa.AI

theorem Xil {α : Type} {l : List α} {i d : Nat} (h : i + (d + 1) = l.length) : ∃ x, l[i]? = some x ∧ l.drop i = x :: l.drop (i + 1) :=
 ⟨l[i]'(by omega), List.getElem?_eq_getElem _, List.drop_eq_getElem_cons _⟩
end Go.Proofs.Ytcbhlpbkampfeaa.AI
