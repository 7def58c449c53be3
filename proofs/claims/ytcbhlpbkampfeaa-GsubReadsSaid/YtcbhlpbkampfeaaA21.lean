import Derived.Test.YtcbhlpbkampfeaaA20
/- Part of a proof. -/
set_option linter.unusedVariables false
namespace Go.Proofs.Ytcbhlpbkampfeaa.AI
abbrev om (d s : Nat) : IOp := ⟨some d, .mov (.t s), none⟩
abbrev oo (d : Nat) (op : AOp) : IOp := ⟨some d, op, none⟩
abbrev og (d : Nat) (op : AOp) (g : Nat) (b : Bool) : IOp := ⟨some d, op, some (g, b)⟩
abbrev dd (o : IOp) (ix : Nat) : DOp := ⟨o, ix, [], false⟩
abbrev ki (n : Int) : AX := .k (.int .i64 n)
abbrev kb (b : Bool) : AX := .k (.bool b)
abbrev nn : AV := .vec true []
attribute [go_sem] om oo og dd ki kb nn
theorem Xa.useA {P : Program} {f : FuncId} {args : List AV} {Hs Hs' : List AObj} {v : AV} (h : Xa P f args Hs (fun e H => H = Hs' ∧ e = .ret v)) (σ : List Nat) {H : List AObj}
  {args' : List AV} {v' : AV} {H' : List AObj} {Q : AEnd → List AObj → Prop} (hr : Q (.ret v') H') (hσ : σ.Nodup := by decide)
  (ho : Fits (renS σ H.length) H σ Hs := by repeat (first | exact trivial | refine ⟨by first | rfl | simp only [go_sem, seval], ?_⟩))
  (ha : subs (renS σ H.length) args = args' := by first | rfl | simp only [go_sem, seval]) (hv : v.sub (renS σ H.length) = v' := by first | rfl | simp only [go_sem, seval])
  (hH : merge σ H (Hs'.map (AObj.sub (renS σ H.length))) = H' := by first | rfl | simp only [go_sem, seval]) : Xa P f args' H Q := Xa.use h σ hσ ho ha hv hH hr
theorem Xa.panA {P : Program} {f : FuncId} {args : List AV} {Hs Hs' : List AObj} {v : AV} (h : Xa P f args Hs (fun e H => H = Hs' ∧ e = .pan v)) (σ : List Nat) {H : List AObj}
  {args' : List AV} {v' : AV} {H' : List AObj} {Q : AEnd → List AObj → Prop} (hr : Q (.pan v') H') (hσ : σ.Nodup := by decide)
  (ho : Fits (renS σ H.length) H σ Hs := by repeat (first | exact trivial | refine ⟨by first | rfl | simp only [go_sem, seval], ?_⟩))
  (ha : subs (renS σ H.length) args = args' := by first | rfl | simp only [go_sem, seval]) (hv : v.sub (renS σ H.length) = v' := by first | rfl | simp only [go_sem, seval])
  (hH : merge σ H (Hs'.map (AObj.sub (renS σ H.length))) = H' := by first | rfl | simp only [go_sem, seval]) : Xa P f args' H Q := Xa.usePan h σ hσ ho ha hv hH hr
theorem outVB {H : List AObj} : RefV 0 [.tup [.vec true [], .bool false]] H [.tup [.vec false [], .bool false]] [] := RefV.trans (RefV.out (v' := .tup [.vec true [], .bool false]) rfl) (RefV.weak (Wks.cons (Wk.tup (Wks.cons Wk.vec (Wks.cons (Wk.refl _) (Wks.nil)))) Wks.nil) (WkH.refl _))
theorem Xlu {n : Nat} {σ : List Nat} {H os : List AObj} (h : n ≤ H.length) : n ≤ (merge σ H os).length := by
 simp only [merge, List.length_append, Xef]
 omega
theorem Xa.goA {P : Program} {f : FuncId} {args : List AV} {Hs Hs' : List AObj} {v : AV} (h : Xa P f args Hs (fun e H => H = Hs' ∧ e = .ret v)) (σ : List Nat) {H : List AObj} {args' : List AV} {n0 : Nat} {Q : AExit → ATm → List AObj → Prop} {d : Option Nat} {os : List IOp} {k : List AItem} {ta : ATm}
  (hr : M P n0 Q (.ops os :: k) (putD ta d (v.sub (renS σ H.length))) (merge σ H (Hs'.map (AObj.sub (renS σ H.length))))) (hn : n0 ≤ H.length := by first | exact Nat.zero_le _ | simp) (hσ : σ.Nodup := by decide)
  (ho : Fits (renS σ H.length) H σ Hs := by repeat (first | exact trivial | refine ⟨by first | rfl | simp only [go_sem, seval], ?_⟩))
  (ha : subs (renS σ H.length) args = args' := by first | rfl | simp only [go_sem, seval]) : Xa P f args' H (CallK P n0 Q d os k ta) := Xa.use h σ hσ ho ha rfl rfl (Xk8 (Xlu hn) hr)
theorem Xa.go0 {P : Program} {f : FuncId} {args : List AV} {v : AV} (h : Xa P f args [] (fun e H => H = [] ∧ e = .ret v)) {H : List AObj} {n0 : Nat} {Q : AExit → ATm → List AObj → Prop} {d : Option Nat} {os : List IOp} {k : List AItem} {ta : ATm}
  (hr : M P n0 Q (.ops os :: k) (putD ta d v) H) (hn : n0 ≤ H.length := by first | exact Nat.zero_le _ | simp) (ha : subs (renS [] H.length) args = args := by rfl) (hv : v.sub (renS [] H.length) = v := by rfl) : Xa P f args H (CallK P n0 Q d os k ta) := Xa.use0 h ha hv (Xk8 hn hr)
theorem tk {α : Type} (e : α → List AV) (l : List α) : List.take l.length (l.map e) = l.map e := List.take_of_length_le (by simp)
theorem no0 {α : Type} {o : α} {p : Prop} (h : none = some o) : p := nomatch h
theorem guardE {c : Prop} [Decidable c] {α : Type} {a : Option α} {r : α} (h : (if c then a else none) = some r) : (c = True) ∧ a = some r := ⟨eq_true (Xc7 h).1, (Xc7 h).2⟩
theorem iteS {c : Prop} [Decidable c] {α : Type} {a b : Option α} {r : Option α} (h : (if c then a else b) = r) : ((c = True) ∧ a = r) ∨ ((c = False) ∧ b = r) := by
  by_cases hc : c
  · rw [if_pos hc] at h; exact .inl ⟨eq_true hc, h⟩
  · rw [if_neg hc] at h; exact .inr ⟨eq_false hc, h⟩
theorem iteB {c : Bool} {α : Type} {a b : Option α} {r : Option α} (h : (if c = true then a else b) = r) : (c = true ∧ a = r) ∨ (c = false ∧ b = r) := by
 cases c with
 | true => exact .inl ⟨rfl, h⟩
 | false => exact .inr ⟨rfl, h⟩
theorem si {α : Type} {a b : α} (h : some a = some b) : a = b := Option.some.inj h
theorem pj {α β : Type} {a c : α} {b d : β} (h : (a, b) = (c, d)) : a = c ∧ b = d := Prod.mk.inj h
abbrev NG (f : Func) : Prop := (f.name == "runtime.NumGoroutine") = false
end Go.Proofs.Ytcbhlpbkampfeaa.AI
