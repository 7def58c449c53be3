/- Part of a proof. -/
import Derived.Test.YtnbnajjoinahiaaA20
set_option linter.unusedVariables false
namespace Go.Proofs.Ytnbnajjoinahiaa.AI
abbrev om (d s : Nat) : IOp := ⟨some d, .mov (.t s), none⟩
abbrev oo (d : Nat) (op : AOp) : IOp := ⟨some d, op, none⟩
abbrev og (d : Nat) (op : AOp) (g : Nat) (b : Bool) : IOp := ⟨some d, op, some (g, b)⟩
abbrev dd (o : IOp) (ix : Nat) : DOp := ⟨o, ix, [], false⟩
abbrev ki (n : Int) : AX := .k (.int .i64 n)
abbrev kb (b : Bool) : AX := .k (.bool b)
abbrev nn : AV := .vec true []
attribute [go_sem] om oo og dd ki kb nn
theorem ACalls.go0 {P : Program} {f : FuncId} {args : List AV} {v : AV} (h : ACalls P f args [] (fun e H => H = [] ∧ e = .ret v)) {H : List AObj} {n0 : Nat} {Q : AExit → ATm → List AObj → Prop} {d : Option Nat} {os : List IOp} {k : List AItem} {ta : ATm}
  (hr : M P n0 Q (.ops os :: k) (putD ta d v) H) (hn : n0 ≤ H.length := by first | exact Nat.zero_le _ | simp) (ha : subs (renS [] H.length) args = args := by rfl) (hv : v.sub (renS [] H.length) = v := by rfl) : ACalls P f args H (CallK P n0 Q d os k ta) := ACalls.use0 h ha hv (CallK_go hn hr)
theorem tk {α : Type} (e : α → List AV) (l : List α) : List.take l.length (l.map e) = l.map e := List.take_of_length_le (by simp)
theorem no0 {α : Type} {o : α} {p : Prop} (h : none = some o) : p := nomatch h
theorem guardE {c : Prop} [Decidable c] {α : Type} {a : Option α} {r : α} (h : (if c then a else none) = some r) : (c = True) ∧ a = some r := ⟨eq_true (guardS h).1, (guardS h).2⟩
theorem iteS {c : Prop} [Decidable c] {α : Type} {a b : Option α} {r : Option α} (h : (if c then a else b) = r) : ((c = True) ∧ a = r) ∨ ((c = False) ∧ b = r) := by
  by_cases hc : c
  · rw [if_pos hc] at h; exact .inl ⟨eq_true hc, h⟩
  · rw [if_neg hc] at h; exact .inr ⟨eq_false hc, h⟩
theorem iteB {c : Bool} {α : Type} {a b : Option α} {r : Option α} (h : (if c = true then a else b) = r) : (c = true ∧ a = r) ∨ (c = false ∧ b = r) := by
 cases c with
 | true => exact .inl ⟨rfl, h⟩
 | false => exact .inr ⟨rfl, h⟩
theorem si {α : Type} {a b : α} (h : some a = some b) : a = b := Option.some.inj h
theorem pj {α β : Type} {a c : α} {b d : β} (h : (a, b) = (c, d)) : a = c ∧ b = d := Prod.mk.inj h
abbrev NG (f : Func) : Prop := (f.name == "runtime.NumGoroutine") = false
end Go.Proofs.Ytnbnajjoinahiaa.AI
