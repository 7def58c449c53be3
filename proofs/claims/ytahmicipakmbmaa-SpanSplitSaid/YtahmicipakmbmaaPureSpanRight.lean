/- Whether every code is valid, and all ranges are right, is the document's: the plain law behind SpanRight. Conditions: none but that the arguments are ranges and numbers. -/
import Derived.Test.YtahmicipakmbmaaSaySpanRight
import Derived.Test.YtahmicipakmbmaaS1
namespace Go.Proofs.Ytahmicipakmbmaa.Pure
open Go.RowKit Go.Proofs.Ytahmicipakmbmaa.Z Go.Proofs.YtahmicipakmbmaaW.PrintWords Go.Proofs.YtahmicipakmbmaaW.PrintLast

theorem alive2_at : reedpenlaw02_alive.f 20 = some true := by decide +kernel
theorem alive2 (k : Nat) (h : 20 ≤ k) : reedpenlaw02_alive.f k = some true := at_rounds reedpenlaw02_alive.mono h alive2_at
theorem valid_same (c : Int) : ∃ b, span_Valid.f c = some b ∧ reedpenref02_Valid.f c = some b := by
  unfold span_Valid.f reedpenref02_Valid.f
  by_cases h1 : 0 ≤ c <;> by_cases h2 : c ≤ 1114111 <;> by_cases h3 : c < 55296 <;> by_cases h4 : c > 57343 <;> simp [h1, h2, h3, h4] <;> omega
theorem SpanRight : reedpenlaw02_SpanRight.Pure := by
  intro l m c _ _ _
  refine ⟨l.length + 21, ?_⟩
  unfold reedpenlaw02_SpanRight.f
  rw [alive2 _ (by omega)]
  obtain ⟨b, h1, h2⟩ := valid_same c
  rw [h1, h2, span_Right.f_v l m _ (by omega), refRight l m _ (by omega)]
  simp
end Go.Proofs.Ytahmicipakmbmaa.Pure
