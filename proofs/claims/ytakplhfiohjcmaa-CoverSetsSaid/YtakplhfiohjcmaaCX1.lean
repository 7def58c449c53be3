/- Part of a proof. -/
import Derived.Test.YtakplhfiohjcmaaCX0
set_option linter.unusedVariables false
set_option linter.unusedSimpArgs false
set_option maxRecDepth 100000
namespace Go.Proofs.Ytakplhfiohjcmaa.AI
def S {α : Type} : Option α → α ⊕ Unit
 | some x => .inl x
 | none => .inr ()
def row (b : List Int) (p n : Int) : Option (List Int) := if 0 ≤ n ∧ 0 ≤ p ∧ p + 2 * n ≤ (b.length : Int) then some (row16 b p n.toNat) else none
section
variable {N : Nat} (hN : 1000000000000 < N) {b : List Int} (hb : Bytes b) (hl : b.length ≤ 1000000)
include hN hb hl
end
section
variable {N : Nat} (hN : 1000000000000 < N) {b : List Int} (hb : Bytes b) (hl : b.length ≤ 1000000)
include hN hb hl
end
section
variable {N : Nat} (hN : 1000000000000 < N) {b : List Int} (hb : Bytes b) (hl : b.length ≤ 1000000)
include hN hb hl
end
section
variable {N : Nat} (hN : 1000000000000 < N) {b : List Int} (hb : Bytes b) (hl : b.length ≤ 1000000)
include hN hb hl
end
end Go.Proofs.Ytakplhfiohjcmaa.AI
