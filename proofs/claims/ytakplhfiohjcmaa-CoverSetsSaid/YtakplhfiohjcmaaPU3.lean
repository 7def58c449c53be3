/- Part of a proof. -/
import Derived.Test.YtakplhfiohjcmaaPU1
import Derived.Test.YtakplhfiohjcmaaPU2
set_option linter.unusedVariables false
set_option linter.unusedSimpArgs false
namespace Go.Proofs.Ytakplhfiohjcmaa.AI

def row16 (b : List Int) (i : Int) (n : Nat) : List Int := (List.range n).map fun (k : Nat) => u16 b (i + 2 * (k : Int))
theorem joined_eq {N : Nat} {l : List TSpan} {a c : Int} (hl : l.length ≤ 1000000000000) (ht : ∀ x ∈ l, 0 ≤ x.To ∧ x.To ≤ 65535) : cover_joined_row N l a c = some (jn l ⟨a, c⟩) := by
 unfold cover_joined_row jn
 cases hg : l.getLast? with
 | none =>
  have : l = [] := by simpa using hg
  subst this
  rfl
 | some x =>
  obtain ⟨h0, hx⟩ := getLast_at hg
  have hxt := ht x (List.mem_of_getLast? hg)
  have e : IntKind.i64.wrap ((l.length : Int) - 1) = ((l.length - 1 : Nat) : Int) := by rw [w64 (by omega) (by omega)]; omega
  rw [if_pos (by omega), e, atI_at hx, Option.bind_some, w64 (x := x.To + 1) (by omega) (by omega)]
  by_cases h : x.To + 1 = a
  ·
   rw [if_pos h]
   simp only [h, if_true]
   congr 1
   have hs := split_last hg
   have e2 : (((l.length - 1 : Nat) : Int)).toNat = l.dropLast.length := by simp
   rw [e2]
   conv => lhs; rw [hs]
   rw [List.dropLast_concat, List.set_append_right _ _ (Nat.le_refl _)]
   simp
  ·
   rw [if_neg h, if_pos (by omega)]
   simp only [h, if_false]

end Go.Proofs.Ytakplhfiohjcmaa.AI
