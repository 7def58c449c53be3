-- PRINTED BY mprint.py (a program of this session, over the kit's printer): Lean checks it
import Derived.Test.YtahmicipakmbmaaZ0
import Derived.Test.YtahmicipakmbmaaOp
namespace Go.Proofs.Ytahmicipakmbmaa.Z
open Go.RowKit Go.Proofs.YtahmicipakmbmaaW.PrintWords Go.Proofs.Ytahmicipakmbmaa.Op
set_option linter.unusedVariables false
def wf45 (x : S45) : Prop := (((Lit.int .i32 x.f0).wf = true) ∧ (((Lit.int .i32 x.f1).wf = true) ∧ ((Lit.int .i64 x.f2).wf = true)))
instance : Inhabited S45 := ⟨z45⟩
theorem opens45 : Opens Try.prog 45 k45 wf45 := ((Opens.struct Try.underlying45 (by kernel_rfl) (FOpens.cons (Opens.int Try.underlying21) rfl (by kernel_rfl) (FOpens.cons (Opens.int Try.underlying21) rfl (by kernel_rfl) (FOpens.last (Opens.int Try.underlying3) rfl (by kernel_rfl))))).iso (fun x : S45 => (x.f0, x.f1, x.f2)) (fun p => ⟨p.1, p.2.1, p.2.2⟩) (fun _ => rfl)).imp (fun _ h => h)
end Go.Proofs.Ytahmicipakmbmaa.Z
