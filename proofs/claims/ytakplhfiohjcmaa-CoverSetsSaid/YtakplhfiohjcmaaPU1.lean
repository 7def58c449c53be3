/- Part of a proof. -/
import Derived.Test.YtakplhfiohjcmaacsP
import Derived.IntWalk
set_option linter.unusedVariables false
set_option linter.unusedSimpArgs false
namespace Go.Proofs.Ytakplhfiohjcmaa.AI

def Bytes (b : List Int) : Prop := ∀ x ∈ b, 0 ≤ x ∧ x < 256
theorem w64 {x : Int} (h : -4611686018427387904 ≤ x) (h' : x ≤ 4611686018427387904) : IntKind.i64.wrap x = x := IntWalk.i64_in _ ⟨by omega, by omega⟩
theorem atI_at {α : Type} {l : List α} {k : Nat} {x : α} (h : l[k]? = some x) : atI l (k : Int) = some x := by rw [atI_nat, h]
def gb (b : List Int) (i : Int) : Int := (b[i.toNat]?).getD 0
def u16 (b : List Int) (i : Int) : Int := if 0 ≤ i ∧ i + 2 ≤ (b.length : Int) then gb b i * 256 + gb b (i + 1) else -1
end Go.Proofs.Ytakplhfiohjcmaa.AI
