/- Plain laws of layer 11: its laws are alive. -/
import Derived.Test.YtakplhfiohjcmaaCX6
set_option maxRecDepth 100000
namespace Go.Proofs.Ytakplhfiohjcmaa.AI
theorem alive11_go (M : Nat) : law11_alive (M + 40) = some true := by rfl
theorem alive11 {N : Nat} (hN : 1000000000000 < N) : law11_alive N = some true := by
 obtain ⟨M, rfl⟩ : ∃ M, N = M + 40 := ⟨N - 40, by omega⟩
 exact alive11_go M
end Go.Proofs.Ytakplhfiohjcmaa.AI
