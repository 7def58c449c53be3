/- Plain laws of layer 8: which states are alike. -/
import Derived.Test.YtnbnajjoinahiaaPM3
set_option linter.unusedVariables false
set_option linter.unusedSimpArgs false
set_option maxRecDepth 100000
namespace Go.Proofs.Ytnbnajjoinahiaa.AI
theorem clone_eq {N : Nat} {l : List Int} (hl : l.length ≤ 1000000) : slices_Clone_intint N l = some l := by
  unfold slices_Clone_intint
  by_cases h : l = []
  · rw [if_pos h, h]
  · rw [if_neg h, if_pos (by omega)]
theorem classes_eq {N : Nat} (hN : 1000000000000 < N) {l0 : List (Vector Int 16)} {l1 : List Int} (h : RightP l0 l1) {y : List Bool} (hy : mini_Dead N l0 l1 = some y) (hyl : y.length = l0.length) (I : List Int → Prop) (h0 : I l1)
  (hI : ∀ cls out k, cls.length = l0.length → I cls → Refd (alRs y 0 l0) cls out k → I out) : ∃ c0 out q, mini_classes N l0 l1 = some out ∧ I c0 ∧ c0.length = l0.length ∧ Refd (alRs y 0 l0) c0 out q ∧ (∀ v : Nat, v < q → ((v : Nat) : Int) ∈ c0) := by
 have ha := alive_eq hN h hy hyl
 obtain ⟨_, hm, hl, _, hr⟩ := h
 have hlen := alRs_len y l0 0
 obtain ⟨c0, out, q, e, g⟩ := classes_L1 hN (rows := alRs y 0 l0) (l1 := l1) (by omega) (by rw [hlen]; exact alRs_ok (by omega) hr) I (by rw [hlen]; exact hI) 300 N l1 0 (by omega) (by omega) (by omega) (fun v hv => by omega) h0
 unfold mini_classes
 rw [ha, Option.bind_some]
 simp only
 rw [clone_eq (by omega), Option.bind_some, show mini_classes_L1 N (alRs y 0 l0) l1 N l1 0 = _ from e, Option.bind_some]
 rw [hlen] at g
 exact ⟨c0, out, q, rfl, g⟩
theorem alike_L3 {N : Nat} {c : List Int} {x i : Int} {s : List (List Bool)} (hl : c.length ≤ 1000) : ∀ (d k n : Nat) (A R : List Bool), k + d = c.length → d < n → A.length = k → R.length = d →
  mini_Alike_L3 N c x i s n k (A ++ R) = some (A ++ (c.drop k).map fun y => decide (x = y)) := by
 intro d
 induction d with
 | zero =>
  intro k n A R hk hn hA hR
  obtain ⟨n, rfl⟩ : ∃ x, n = x + 1 := ⟨n - 1, by omega⟩
  rw [mini_Alike_L3, if_neg (by omega), List.drop_eq_nil_of_le (by omega), List.eq_nil_of_length_eq_zero hR]; rfl
 | succ d ih =>
  intro k n A R hk hn hA hR
  obtain ⟨n, rfl⟩ : ∃ x, n = x + 1 := ⟨n - 1, by omega⟩
  have hkl : k < c.length := by omega
  obtain ⟨r, R, rfl⟩ : ∃ r R', R = r :: R' := by cases R with | nil => simp at hR | cons r R => exact ⟨r, R, rfl⟩
  have e1 : (A ++ r :: R).set k (decide (x = c[k])) = (A ++ [decide (x = c[k])]) ++ R := by subst hA; simp
  rw [mini_Alike_L3, if_pos (by omega), atI_get hkl, Option.bind_some, atI_at (x := r) (by subst hA; simp), Option.bind_some, wk (by omega), Int.toNat_natCast, e1, ih (k + 1) n _ R (by omega) (by omega) (by simp [hA]) (by simpa using hR), List.drop_eq_getElem_cons hkl]
  simp only [List.map_cons, List.append_assoc, List.cons_append, List.nil_append]
theorem alike_L4 {N : Nat} (hN : 1000000000000 < N) {c : List Int} (hl : c.length ≤ 1000) : ∀ (d k n : Nat) (s : List (List Bool)), k + d = c.length → d < n → s.length ≤ k →
  mini_Alike_L4 N c n k s = some (s ++ (c.drop k).map fun x => c.map fun y => decide (x = y)) := by
 intro d
 induction d with
 | zero =>
  intro k n s hk hn hs
  obtain ⟨n, rfl⟩ : ∃ x, n = x + 1 := ⟨n - 1, by omega⟩
  rw [mini_Alike_L4, if_neg (by omega), List.drop_eq_nil_of_le (by omega)]; simp
 | succ d ih =>
  intro k n s hk hn hs
  obtain ⟨n, rfl⟩ : ∃ x, n = x + 1 := ⟨n - 1, by omega⟩
  have hkl : k < c.length := by omega
  have h3 := alike_L3 (N := N) (c := c) (x := c[k]) (i := (k : Int)) (s := s) hl c.length 0 N [] (List.replicate c.length false) (by omega) (by omega) rfl (by simp)
  rw [List.nil_append, List.nil_append, List.drop_zero] at h3
  rw [mini_Alike_L4, if_pos (by omega), atI_get hkl, Option.bind_some, if_pos (by omega), if_pos (by omega), show mini_Alike_L3 N c c[k] k s N 0 _ = _ from h3, Option.bind_some, if_pos (by omega), wk (by omega), ih (k + 1) n _ (by omega) (by omega) (by simp; omega), List.drop_eq_getElem_cons hkl]
  simp only [List.map_cons, List.append_assoc, List.cons_append, List.nil_append]
theorem alike_eq {N : Nat} (hN : 1000000000000 < N) {l0 : List (Vector Int 16)} {l1 : List Int} (h : RightP l0 l1) {c : List Int} (hc : mini_classes N l0 l1 = some c) (hl : c.length ≤ 1000) : mini_Alike N l0 l1 = some (c.map fun x => c.map fun y => decide (x = y)) := by
 obtain ⟨b, e, hb⟩ := right_eq hN l0 l1
 rw [hb.2 h] at e
 have h4 := alike_L4 hN hl c.length 0 N [] (by omega) (by omega) (by simp)
 rw [List.nil_append, List.drop_zero] at h4
 unfold mini_Alike
 rw [e, Option.bind_some, if_pos rfl, hc, Option.bind_some, show mini_Alike_L4 N c N 0 [] = _ from h4, Option.bind_some]
end Go.Proofs.Ytnbnajjoinahiaa.AI
