/- Part of a proof. -/
import Derived.Test.YtfacmhngbaboiaaA20
set_option linter.unusedVariables false
namespace Go.Proofs.Ytfacmhngbaboiaa.AI
abbrev om (d s : Nat) : IOp := ⟨some d, .mov (.t s), none⟩
abbrev oo (d : Nat) (op : AOp) : IOp := ⟨some d, op, none⟩
abbrev og (d : Nat) (op : AOp) (g : Nat) (b : Bool) : IOp := ⟨some d, op, some (g, b)⟩
abbrev dd (o : IOp) (ix : Nat) : DOp := ⟨o, ix, [], false⟩
abbrev ki (n : Int) : AX := .k (.int .i64 n)
abbrev kb (b : Bool) : AX := .k (.bool b)
abbrev nn : AV := .vec true []
attribute [go_sem] om oo og dd ki kb nn
theorem ACalls.useA {P : Program} {f : FuncId} {args : List AV} {Hs Hs' : List AObj} {v : AV} (h : ACalls P f args Hs (fun e H => H = Hs' ∧ e = .ret v)) (σ : List Nat) {H : List AObj}
 {args' : List AV} {v' : AV} {H' : List AObj} {Q : AEnd → List AObj → Prop} (hr : Q (.ret v') H') (hσ : σ.Nodup := by decide)
 (ho : Fits (renS σ H.length) H σ Hs := by repeat (first | exact trivial | refine ⟨by first | rfl | simp only [go_sem, seval], ?_⟩))
 (ha : subs (renS σ H.length) args = args' := by first | rfl | simp only [go_sem, seval]) (hv : v.sub (renS σ H.length) = v' := by first | rfl | simp only [go_sem, seval])
 (hH : merge σ H (Hs'.map (AObj.sub (renS σ H.length))) = H' := by first | rfl | simp only [go_sem, seval]) : ACalls P f args' H Q := ACalls.use h σ hσ ho ha hv hH hr
theorem ACalls.panA {P : Program} {f : FuncId} {args : List AV} {Hs Hs' : List AObj} {v : AV} (h : ACalls P f args Hs (fun e H => H = Hs' ∧ e = .pan v)) (σ : List Nat) {H : List AObj}
 {args' : List AV} {v' : AV} {H' : List AObj} {Q : AEnd → List AObj → Prop} (hr : Q (.pan v') H') (hσ : σ.Nodup := by decide)
 (ho : Fits (renS σ H.length) H σ Hs := by repeat (first | exact trivial | refine ⟨by first | rfl | simp only [go_sem, seval], ?_⟩))
 (ha : subs (renS σ H.length) args = args' := by first | rfl | simp only [go_sem, seval]) (hv : v.sub (renS σ H.length) = v' := by first | rfl | simp only [go_sem, seval])
 (hH : merge σ H (Hs'.map (AObj.sub (renS σ H.length))) = H' := by first | rfl | simp only [go_sem, seval]) : ACalls P f args' H Q := ACalls.usePan h σ hσ ho ha hv hH hr
theorem outVB {H : List AObj} : RefV 0 [.tup [.vec true [], .bool false]] H [.tup [.vec false [], .bool false]] [] := RefV.trans (RefV.out (v' := .tup [.vec true [], .bool false]) rfl) (RefV.weak (Wks.cons (Wk.tup (Wks.cons Wk.vec (Wks.cons (Wk.refl _) (Wks.nil)))) Wks.nil) (WkH.refl _))
theorem ck0 {P : Program} {Q : AExit → ATm → List AObj → Prop} {H : List AObj} {k : List AItem} {ta : ATm} {d : Option Nat} {os : List IOp} {v : AV} (h : M P 0 Q (.ops os :: k) (putD ta d v) H) : CallK P 0 Q d os k ta (.ret v) H := CallK_go (Nat.zero_le _) h
abbrev NG (f : Func) : Prop := (f.name == "runtime.NumGoroutine") = false
end Go.Proofs.Ytfacmhngbaboiaa.AI
