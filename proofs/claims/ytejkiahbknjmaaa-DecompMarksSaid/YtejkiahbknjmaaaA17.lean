/- The abstract machine, part 17: small helps for walks. -/
import Derived.Test.YtejkiahbknjmaaaA16
import Derived.IntWalk
set_option linter.unusedVariables false
namespace Go.Proofs.Ytejkiahbknjmaaa.AI

theorem wrapS (i : Nat) (h : i + 1 ≤ 9223372036854775807) : IntKind.i64.wrap ((i : Int) + 1) = ((i + 1 : Nat) : Int) := by
  rw [IntWalk.i64_in _ ⟨by omega, by omega⟩]; rfl
theorem wrapP (i : Nat) (h : 0 < i) (h' : i ≤ 9223372036854775807) : IntKind.i64.wrap ((i : Int) - 1) = ((i - 1 : Nat) : Int) := by
  rw [IntWalk.i64_in _ ⟨by omega, by omega⟩]; omega
theorem wrapI {x : Int} (h : -4611686018427387904 ≤ x) (h' : x ≤ 4611686018427387904) : IntKind.i64.wrap x = x :=
  IntWalk.i64_in _ ⟨by omega, by omega⟩
theorem drop_cons {α : Type} {l : List α} {i d : Nat} (h : i + (d + 1) = l.length) : ∃ x, l[i]? = some x ∧ l.drop i = x :: l.drop (i + 1) :=
  ⟨l[i]'(by omega), List.getElem?_eq_getElem _, List.drop_eq_getElem_cons _⟩
theorem map_at {α : Type} {l : List α} {i : Nat} {x : α} (f : α → List AV) (h : l[i]? = some x) : (l.map f)[i]? = some (f x) := by rw [List.getElem?_map, h]; rfl
/-- A contract that speaks of no memory, at any memory. -/
theorem ACalls.lift0 {P : Program} {f : FuncId} {args : List AV} {Q : AEnd → Prop} (h : ACalls P f args [] (fun e H' => H' = [] ∧ Q e)) {H : List AObj} (ha : subs (renS [] H.length) args = args) {Q' : AEnd → List AObj → Prop}
    (hr : ∀ ae, Q ae → Q' (ae.sub (renS [] H.length)) H) : ACalls P f args H Q' := by
  refine ACalls.at h [] H List.nodup_nil rfl (fun i j o hi => by simp at hi) ha ?_
  rintro ae _ ⟨rfl, hq⟩
  have := hr ae hq
  simpa [merge, back] using this
end Go.Proofs.Ytejkiahbknjmaaa.AI
