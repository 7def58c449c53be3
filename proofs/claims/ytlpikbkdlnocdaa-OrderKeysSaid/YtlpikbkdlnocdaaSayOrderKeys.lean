-- PRINTED BY mprint.py (a program of this session, over the kit's printer): Lean checks it
import Derived.Test.YtlpikbkdlnocdaaK8
import Derived.Test.YtlpikbkdlnocdaaKTy
namespace Go.Proofs.Ytlpikbkdlnocdaa.K
open Go.RowKit Go.Proofs.YtlpikbkdlnocdaaW.PrintWords
/-- The one plain statement of reedpenlaw26_OrderKeys. -/
def reedpenlaw26_OrderKeys.Pure : Prop := ∀ (x0 : S23) (l1 : List Int) (l2 : List Int) (a3 : Int) (a4 : Int), wf23 x0 → (l1.length ≤ maxLen ∧ ∀ y_ ∈ l1, (Lit.int .i64 y_).wf = true) → (l2.length ≤ maxLen ∧ ∀ y_ ∈ l2, (Lit.int .i64 y_).wf = true) → (Lit.int .i64 a3).wf = true → (Lit.int .i64 a4).wf = true → ∃ k, reedpenlaw26_OrderKeys.f k x0.f0 x0.f1 x0.f2 x0.f3 l1 l2 a3 a4 = some true
end Go.Proofs.Ytlpikbkdlnocdaa.K
