/- Part of a proof. -/
import Derived.Test.YtakplhfiohjcmaaPU8
set_option linter.unusedVariables false
set_option linter.unusedSimpArgs false
namespace Go.Proofs.Ytakplhfiohjcmaa.AI
def clsL (N : Nat) (b : List Int) (i : Int) : List TClass := ((cover_Classes N b i).getD ([], false)).1
def covL (N : Nat) (b : List Int) (i : Int) : List TSpan := ((cover_Cover N b i).getD ([], false)).1
theorem clsL_eq {N : Nat} (hN : 1000000000000 < N) {b : List Int} (hb : Bytes b) (hl : b.length ≤ 1000000000) (i : Int) (hi : i ≤ 100000000000) (hi' : -100000000000 ≤ i) :
  cover_Classes N b i = some (clsL N b i, clsOk b i) ∧ ref10_Classes N b i = some (clsL N b i, clsOk b i) ∧ (clsOk b i = false → clsL N b i = []) ∧ (clsL N b i).length ≤ 65536 := by
 obtain ⟨l, h1, h2, h3, h4, h5⟩ := Classes_same hN hb hl i hi hi'
 have e : clsL N b i = l := by unfold clsL; rw [h1]; rfl
 rw [e]
 exact ⟨h1, h2, h3, h4⟩
theorem covL_eq {N : Nat} (hN : 1000000000000 < N) {b : List Int} (hb : Bytes b) (hl : b.length ≤ 1000000000) (i : Int) (hi : i ≤ 100000000000) (hi' : -100000000000 ≤ i) :
    cover_Cover N b i = some (covL N b i, covOk b i) ∧ ref10_Cover N b i = some (covL N b i, covOk b i) ∧ (covOk b i = false → covL N b i = []) ∧ (covL N b i).length ≤ 65536 := by
  obtain ⟨l, h1, h2, h3, h4⟩ := Cover_same hN hb hl i hi hi'
  have e : covL N b i = l := by unfold covL; rw [h1]; rfl
  rw [e]
  refine ⟨h1, h2, h3, ?_⟩
  cases hc : covOk b i with
  | false => rw [h3 hc]; simp
  | true => rcases RL.len (h4 hc).1 (Int.le_refl 0) with h | h
            · omega
            · rw [h]; simp
end Go.Proofs.Ytakplhfiohjcmaa.AI
