-- PRINTED BY mprint.py (a program of this session, over the kit's printer): Lean checks it
import Derived.Test.YtlpikbkdlnocdaaY8
import Derived.Test.YtlpikbkdlnocdaaYTy
namespace Go.Proofs.Ytlpikbkdlnocdaa.Y
open Go.RowKit Go.Proofs.YtlpikbkdlnocdaaW.PrintWords
/-- The one plain statement of reedpenlaw26_OrderFirst. -/
def reedpenlaw26_OrderFirst.Pure : Prop := ∀ (x0 : S23) (l1 : List Int) (a2 : Bool), wf23 x0 → (l1.length ≤ maxLen ∧ ∀ y_ ∈ l1, (Lit.int .i64 y_).wf = true) → ∃ k, reedpenlaw26_OrderFirst.f k x0.f0 x0.f1 x0.f2 x0.f3 l1 a2 = some true
end Go.Proofs.Ytlpikbkdlnocdaa.Y
