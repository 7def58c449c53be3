/- Plain laws of layer 8: its laws are alive. -/
import Derived.Test.YtnbnajjoinahiaaPM1
set_option maxRecDepth 100000
namespace Go.Proofs.Ytnbnajjoinahiaa.AI
theorem alive08_go (M : Nat) : law08_alive (M + 60) = some true := by rfl
theorem alive08 {N : Nat} (hN : 1000000000000 < N) : law08_alive N = some true := by
 obtain ⟨M, rfl⟩ : ∃ M, N = M + 60 := ⟨N - 60, by omega⟩
 exact alive08_go M
end Go.Proofs.Ytnbnajjoinahiaa.AI
