/- Part of a proof. -/
import Derived.Test.YtnbnajjoinahiaaPT2
set_option linter.unusedVariables false
set_option linter.unusedSimpArgs false
set_option maxRecDepth 100000
namespace Go.Proofs.Ytnbnajjoinahiaa.AI
theorem bools_eq {P : Nat → Prop} {n : Nat} {y y' : List Bool} (hy : y.length = n) (hy' : y'.length = n) (h : ∀ i, i < n → (y[i]? = some true ↔ P i)) (h' : ∀ i, i < n → (y'[i]? = some true ↔ P i)) : y = y' := by
 refine List.ext_getElem (by omega) fun i h1 h2 => ?_
 have a := h i (by omega)
 have b := h' i (by omega)
 rw [List.getElem?_eq_getElem h1] at a
 rw [List.getElem?_eq_getElem h2] at b
 have c := a.trans b.symm
 cases e1 : y[i] <;> cases e2 : y'[i] <;> simp_all
theorem both_sem {N : Nat} (hN : 1000000000000 < N) {l0 : List (Vector Int 16)} {l1 : List Int} (h : RightP l0 l1) : ∃ y A cls q, mini_Dead N l0 l1 = some y ∧ ref08_Dead N l0 l1 = some y ∧ y.length = l0.length ∧ (∀ i : Nat, i < l0.length → (y[i]? = some true ↔ Dd l0 l1 i)) ∧ A = alRs y 0 l0 ∧ Liv l0 l1 A ∧
  mini_classes N l0 l1 = some cls ∧ Cls l0 l1 cls q ∧ mini_Alike N l0 l1 = some (cls.map fun x => cls.map fun z => decide (x = z)) ∧ ref08_Alike N l0 l1 = some (cls.map fun x => cls.map fun z => decide (x = z)) := by
 obtain ⟨hne, hm, hl, _, _⟩ := id h
 obtain ⟨y, hy, hyl, hys⟩ := dead_sem hN h
 obtain ⟨y', hy', hyl', hys'⟩ := rdead_sem hN h
 have e := bools_eq hyl hyl' hys hys'
 subst e
 have hA := liv_of h hyl hys
 obtain ⟨cls, q, ec, hC⟩ := classes_sem hN h hy hyl hA
 have hcl := hC.len
 obtain ⟨g, eg, hg⟩ := ralike_sem hN h
 refine ⟨y, _, cls, q, hy, hy', hyl, hys, rfl, hA, ec, hC, alike_eq hN h ec (by omega), ?_⟩
 rw [eg]
 congr 1
 refine List.ext_getElem (by simp; omega) fun i h1 h2 => ?_
 have hi : i < l1.length := by simpa using h1
 rw [List.getElem_map, List.getElem_map, List.getElem_range]
 refine List.ext_getElem (by simp; omega) fun k h3 h4 => ?_
 have hk : k < l1.length := by simpa using h3
 rw [List.getElem_map, List.getElem_map, List.getElem_range]
 have hc := hC.iff i k (by omega) (by omega)
 rw [List.getElem?_eq_getElem (by omega), List.getElem?_eq_getElem (by omega)] at hc
 have hgk := hg i k hi hk
 by_cases e1 : cls[i]'(by omega) = cls[k]'(by omega)
 ·
  rw [decide_eq_true e1]
  exact hgk.2 (hc.1 (by rw [e1]))
 ·
  rw [decide_eq_false e1]
  cases e2 : g i k with
  | false => rfl
  | true => exact absurd (Option.some.inj (hc.2 (hgk.1 e2))) e1
end Go.Proofs.Ytnbnajjoinahiaa.AI
