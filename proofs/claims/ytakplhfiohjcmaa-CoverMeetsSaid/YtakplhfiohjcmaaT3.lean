import Derived.Test.YtakplhfiohjcmaaF2
namespace Go.Proofs.Ytakplhfiohjcmaa.AI
def tab10 : List (Nat × ACode × Nat × List RV) := [E17, E18, E20, E26, E28, E29, E31, E33, E34, E53, E54, E55, E57, E58, E59, E60, E61, E62, E71, E77, E78, E79, E80]
theorem tab10_ok : AllOk Go.Proofs.Try.prog tab10 := ⟨e17, e18, e20, e26, e28, e29, e31, e33, e34, e53, e54, e55, e57, e58, e59, e60, e61, e62, e71, e77, e78, e79, e80, trivial⟩
theorem alive : ACalls Go.Proofs.Try.prog 17 [] [] fun e H => H = [] ∧ e = .ret (.bool true) := ACalls.told (m := 300) (n := 20) tab10_ok (by decide +kernel)
end Go.Proofs.Ytakplhfiohjcmaa.AI
