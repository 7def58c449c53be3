-- PRINTED BY mprint.py (a program of this session, over the kit's printer): Lean checks it
import Derived.Test.YtahmicipakmbmaaZ8
import Derived.Test.YtahmicipakmbmaaZTy
namespace Go.Proofs.Ytahmicipakmbmaa.Z
open Go.RowKit Go.Proofs.YtahmicipakmbmaaW.PrintWords
/-- The one plain statement of reedpenlaw02_SpanJoins. -/
def reedpenlaw02_SpanJoins.Pure : Prop := ∀ (l0 : List (S45)), (l0.length ≤ maxLen ∧ ∀ y_ ∈ l0, wf45 y_) → ∃ k, reedpenlaw02_SpanJoins.f k l0 = some true
end Go.Proofs.Ytahmicipakmbmaa.Z
