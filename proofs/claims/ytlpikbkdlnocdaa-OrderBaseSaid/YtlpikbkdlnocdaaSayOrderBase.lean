-- PRINTED BY mprint.py (a program of this session, over the kit's printer): Lean checks it
import Derived.Test.YtlpikbkdlnocdaaY9
import Derived.Test.YtlpikbkdlnocdaaYTy
namespace Go.Proofs.Ytlpikbkdlnocdaa.Y
open Go.RowKit Go.Proofs.YtlpikbkdlnocdaaW.PrintWords
/-- The one plain statement of reedpenlaw26_OrderBase. -/
def reedpenlaw26_OrderBase.Pure : Prop := ∀ (x0 : S23) (l1 : List Int) (a2 : Int) (l3 : List Bool), wf23 x0 → (l1.length ≤ maxLen ∧ ∀ y_ ∈ l1, (Lit.int .i64 y_).wf = true) → (Lit.int .i64 a2).wf = true → (l3.length ≤ maxLen ∧ ∀ y_ ∈ l3, True) → ∃ k, reedpenlaw26_OrderBase.f k x0.f0 x0.f1 x0.f2 x0.f3 l1 a2 l3 = some true
end Go.Proofs.Ytlpikbkdlnocdaa.Y
