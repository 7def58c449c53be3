/- What the statements' arguments are by sight: types of this seat. -/
import Derived.Test.YtakplhfiohjcmaaG3
set_option linter.unusedVariables false
namespace Go.Proofs.Ytakplhfiohjcmaa.AI
open Go.Proofs
instance : Inhabited Span := ⟨⟨0, 0⟩⟩
def wf38 (x : Span) : Prop := (Lit.int .i64 x.a).wf = true ∧ (Lit.int .i64 x.b).wf = true
theorem reads38 : Reads Try.prog 38 eSpan wf38 :=
  (Reads.struct Try.underlying38 (by kernel_rfl) (FReads.cons (m := 1) (n := 1) (Reads.int Try.underlying3) rfl (by kernel_rfl) (FReads.last (Reads.int Try.underlying3) rfl (by kernel_rfl)))).iso (fun p => ⟨p.1, p.2⟩) (fun _ => rfl) (fun _ h => h)
theorem reads24 : Reads Try.prog 24 (fun l : List Span => [.vec false (l.map eSpan)]) (fun l => l.length ≤ maxLen ∧ ∀ x ∈ l, wf38 x) := Reads.slice Try.underlying24 reads38
instance : Inhabited Cls := ⟨⟨0, 0, 0⟩⟩
def wf48 (x : Cls) : Prop := (Lit.int .i64 x.a).wf = true ∧ (Lit.int .i64 x.b).wf = true ∧ (Lit.int .i64 x.c).wf = true
theorem reads48 : Reads Try.prog 48 eCls wf48 :=
  (Reads.struct Try.underlying48 (by kernel_rfl) (FReads.cons (m := 1) (n := 2) (Reads.int Try.underlying3) rfl (by kernel_rfl) (FReads.cons (m := 1) (n := 1) (Reads.int Try.underlying3) rfl (by kernel_rfl) (FReads.last (Reads.int Try.underlying3) rfl (by kernel_rfl))))).iso (fun p => ⟨p.1, p.2.1, p.2.2⟩) (fun _ => rfl) (fun _ h => h)
theorem reads27 : Reads Try.prog 27 (fun l : List Cls => [.vec false (l.map eCls)]) (fun l => l.length ≤ maxLen ∧ ∀ x ∈ l, wf48 x) := Reads.slice Try.underlying27 reads48
end Go.Proofs.Ytakplhfiohjcmaa.AI
