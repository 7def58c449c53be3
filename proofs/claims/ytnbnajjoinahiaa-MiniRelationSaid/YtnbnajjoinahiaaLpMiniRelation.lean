/- Plain law of MiniRelation. -/
import Derived.Test.YtnbnajjoinahiaaPM4
import Derived.Test.YtnbnajjoinahiaaPM0
set_option linter.unusedVariables false
set_option linter.unusedSimpArgs false
set_option maxRecDepth 100000
namespace Go.Proofs.Ytnbnajjoinahiaa.AI
theorem ix_of {n a : Int} (hn : 0 < n) (h : 0 ≤ a ∧ a ≤ 255) : ∃ i : Nat, (IntKind.i64.wrap a).tmod n = (i : Int) ∧ (i : Int) < n := by
 rw [w64 (by omega) (by omega), Int.tmod_eq_emod_of_nonneg h.1]
 have h1 := Int.emod_nonneg a (show n ≠ 0 by omega)
 have h2 := Int.emod_lt_of_pos a hn
 exact ⟨(a % n).toNat, by omega, by omega⟩
theorem miniRelation_plain {N : Nat} (hN : 1000000000000 < N) (l0 : List (Vector Int 16)) (l1 : List Int) {a b c : Int} (ha : 0 ≤ a ∧ a ≤ 255) (hb : 0 ≤ b ∧ b ≤ 255) (hc : 0 ≤ c ∧ c ≤ 255) : law08_MiniRelation N l0 l1 a b c = some true := by
 unfold law08_MiniRelation law08_great
 rw [alive08 hN, Option.bind_some, if_pos rfl]
 by_cases g1 : 40 < (l0.length : Int)
 ·
  rw [if_pos g1, Option.bind_some, if_pos rfl]
 rw [if_neg g1, Option.bind_some]
 by_cases g2 : decide (300 < (l1.length : Int)) = true
 ·
  rw [if_pos g2]
 rw [if_neg g2]
 by_cases g3 : (l0.length : Int) = 0
 ·
  rw [if_pos g3]
 rw [if_neg g3]
 obtain ⟨r, er, hr⟩ := right_eq hN l0 l1
 rw [er, Option.bind_some]
 by_cases g4 : r = true
 ·
  rw [if_pos g4]
  have hR := hr.1 g4
  obtain ⟨y, hy, hyl, _, _⟩ := dead_eq hN hR (fun _ => True) trivial (fun _ _ _ _ _ _ _ => trivial)
  obtain ⟨c0, out, q, e, hI, hcl, hRf, _⟩ := classes_eq hN hR hy hyl (fun cls => ∀ i j : Nat, i < l0.length → j < l0.length → cls[i]? = cls[j]? → l1[i]? = l1[j]?) (fun i j _ _ h => h) (fun cls out k hl hI hRf i j hi hj h =>
   hI i j hi hj (kyL_last (by omega) (by omega) ((hRf.same i j (by omega) (by omega)).1 h)))
  have hol : out.length = l0.length := by rw [hRf.len, hcl]
  have key : ∀ i j : Nat, i < l0.length → j < l0.length → out[i]? = out[j]? → l1[i]? = l1[j]? := fun i j hi hj h => hI i j hi hj (kyL_last (by omega) (by omega) ((hRf.same i j (by omega) (by omega)).1 h))
  rw [alike_eq hN hR e (by omega), Option.bind_some, if_pos g3]
  obtain ⟨i, ei, hi⟩ := ix_of (n := (l0.length : Int)) (by omega) ha
  obtain ⟨j, ej, hj⟩ := ix_of (n := (l0.length : Int)) (by omega) hb
  obtain ⟨k, ek, hk⟩ := ix_of (n := (l0.length : Int)) (by omega) hc
  have hi' : i < out.length := by omega
  have hj' : j < out.length := by omega
  have hk' : k < out.length := by omega
  have hl1 : l1.length = l0.length := hR.2.2.1
  have row : ∀ p (hp : p < out.length), atI (out.map fun x => out.map fun y => decide (x = y)) (p : Int) = some (out.map fun y => decide (out[p] = y)) := fun p hp => atI_at (by rw [List.getElem?_map, List.getElem?_eq_getElem hp]; rfl)
  have cel : ∀ p q (hp : p < out.length) (hq : q < out.length), atI (out.map fun y => decide (out[p] = y)) (q : Int) = some (decide (out[p] = out[q])) := fun p q hp hq => atI_at (by rw [List.getElem?_map, List.getElem?_eq_getElem hq]; rfl)
  have rul : ∀ p (hp : p < out.length), atI l1 (p : Int) = some (l1[p]'(by omega)) := fun p hp => atI_get (by omega)
  have keq : out[i] = out[j] → l1[i]'(by omega) = l1[j]'(by omega) := fun h => by
   have := key i j (by omega) (by omega) (by rw [List.getElem?_eq_getElem hi', List.getElem?_eq_getElem hj', h])
   rw [List.getElem?_eq_getElem (by omega), List.getElem?_eq_getElem (by omega)] at this
   exact Option.some.inj this
  rw [ei, ej, ek]
  simp only [row i hi', row j hj', cel i i hi' hi', cel i j hi' hj', cel j i hj' hi', cel j k hj' hk', cel i k hi' hk', rul i hi', rul j hj', Option.bind_some, decide_true, if_true]
  by_cases h1 : out[i] = out[j]
  ·
   by_cases h2 : out[j] = out[k]
   ·
    simp [h1, h2, keq h1]
   ·
    simp [h1, h2, keq h1]
  ·
   have h1' : ¬ out[j] = out[i] := fun h => h1 h.symm
   simp [h1, h1']
 ·
  rw [if_neg g4]
end Go.Proofs.Ytnbnajjoinahiaa.AI
