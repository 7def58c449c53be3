-- PRINTED BY mprint.py (a program of this session, over the kit's printer): Lean checks it
import Derived.Test.YtahmicipakmbmaaZ5
import Derived.Test.YtahmicipakmbmaaZTy
namespace Go.Proofs.Ytahmicipakmbmaa.Z
open Go.RowKit Go.Proofs.YtahmicipakmbmaaW.PrintWords
/-- The one plain statement of reedpenlaw02_SpanRight. -/
def reedpenlaw02_SpanRight.Pure : Prop := ∀ (l0 : List (S45)) (a1 : Int) (a2 : Int), (l0.length ≤ maxLen ∧ ∀ y_ ∈ l0, wf45 y_) → (Lit.int .i64 a1).wf = true → (Lit.int .i32 a2).wf = true → ∃ k, reedpenlaw02_SpanRight.f k l0 a1 a2 = some true
end Go.Proofs.Ytahmicipakmbmaa.Z
