/- Plain laws of layer 8: classes made finer. -/
import Derived.Test.YtnbnajjoinahiaaPM1
set_option linter.unusedVariables false
set_option linter.unusedSimpArgs false
set_option maxRecDepth 100000
namespace Go.Proofs.Ytnbnajjoinahiaa.AI
def kyF (cls : List Int) (x : Int) : Int := if 0 ≤ x then (cls[x.toNat]?).getD 0 else -1
theorem refine_L2 {N : Nat} {cls : List Int} {i : Int} {r : Vector Int 16} {l0 : List (Vector Int 16)} {l1 : List Int} {m : List (Vector Int 17 × Int)} {s : List Int} {ci : Int} (hr : okRow (cls.length : Int) r) : ∀ (d k n : Nat) (v : Vector Int 17) (R : List Int), k + d = 16 → d < n → R.length = d →
  v.toList = (r.toList.take k).map (kyF cls) ++ R ++ [ci] → ∃ y, mini_refine_L2 N cls i r l0 l1 m s n k v = some y ∧ y.toList = r.toList.map (kyF cls) ++ [ci] := by
 intro d
 induction d with
 | zero =>
  intro k n v R hk hn hR hv
  obtain ⟨n, rfl⟩ : ∃ x, n = x + 1 := ⟨n - 1, by omega⟩
  rw [mini_refine_L2, if_neg (by omega)]
  refine ⟨v, rfl, ?_⟩
  rw [hv, List.take_of_length_le (by rw [vlen]; omega), List.eq_nil_of_length_eq_zero hR, List.append_nil]
 | succ d ih =>
  intro k n v R hk hn hR hv
  obtain ⟨n, rfl⟩ : ∃ x, n = x + 1 := ⟨n - 1, by omega⟩
  obtain ⟨q, R, rfl⟩ : ∃ r R', R = r :: R' := by cases R with | nil => simp at hR | cons r R => exact ⟨r, R, rfl⟩
  have hkl : k < r.toList.length := by rw [vlen]; omega
  have hx := hr r.toList[k] (List.getElem_mem hkl)
  have hA : ((r.toList.take k).map (kyF cls)).length = k := by rw [List.length_map, List.length_take, vlen]; omega
  have hvk : k < v.toList.length := by rw [vlen]; omega
  have put : ∀ (u : Vector Int 17) (z q : Int), u.toList = (r.toList.take k).map (kyF cls) ++ (q :: R) ++ [ci] → (u.setIfInBounds k z).toList = (r.toList.take k).map (kyF cls) ++ (z :: R) ++ [ci] := fun u z q hu => by
   rw [Vector.toList_setIfInBounds, hu, List.append_assoc, List.set_append_right _ _ (by omega), hA, Nat.sub_self]
   simp only [List.cons_append, List.set_cons_zero, List.append_assoc]
  have done : ∀ (u : Vector Int 17), u.toList = (r.toList.take k).map (kyF cls) ++ (kyF cls r.toList[k] :: R) ++ [ci] → u.toList = (r.toList.take (k + 1)).map (kyF cls) ++ R ++ [ci] := fun u hu => by
   rw [hu, List.take_succ_eq_append_getElem hkl, List.map_append]
   simp only [List.map_cons, List.map_nil, List.append_assoc, List.cons_append, List.nil_append]
  have hp1 := put v (-1) q hv
  have hvk1 : k < (v.setIfInBounds k (-1)).toList.length := by rw [vlen]; omega
  rw [mini_refine_L2, if_pos (by omega), atI_get hkl, Option.bind_some, atI_get hvk, Option.bind_some, wk (by omega), Int.toNat_natCast]
  by_cases g : 0 ≤ r.toList[k]
  ·
   have hq : r.toList[k].toNat < cls.length := by have := hx.2; omega
   have ha : atI cls r.toList[k] = some (kyF cls r.toList[k]) := by
    generalize r.toList[k] = x at g hq ⊢
    obtain ⟨j, rfl⟩ := Int.eq_ofNat_of_zero_le g
    rw [Int.toNat_natCast] at hq
    unfold kyF
    rw [if_pos g, Int.toNat_natCast, List.getElem?_eq_getElem hq, atI_get hq]; rfl
   rw [if_pos g, ha, Option.bind_some, atI_get hvk1, Option.bind_some]
   exact ih (k + 1) n _ R (by omega) (by omega) (by simpa using hR) (done _ (put _ _ (-1) hp1))
  ·
   rw [if_neg g]
   refine ih (k + 1) n _ R (by omega) (by omega) (by simpa using hR) (done _ ?_)
   rw [hp1]; unfold kyF; rw [if_neg g]
def kyL (rows : List (Vector Int 16)) (cls : List Int) (i : Nat) : List Int := ((rows[i]?).map fun r => r.toList.map (kyF cls)).getD [] ++ [(cls[i]?).getD 0]
theorem mfind_key {l : List (Vector Int 17 × Int)} {k : Vector Int 17} {p : Nat} (h : mfind l k = some p) : ∃ e, l[p]? = some e ∧ e.1 = k := mfind_at h
theorem mfind_app {l : List (Vector Int 17 × Int)} {k : Vector Int 17} {p : Nat} (h : mfind l k = some p) (e : Vector Int 17 × Int) : mfind (l ++ [e]) k = some p := by
 unfold mfind at *
 rw [List.findIdx?_append, h]; rfl
theorem mfind_new {l : List (Vector Int 17 × Int)} {k : Vector Int 17} (h : mfind l k = none) (v : Int) : mfind (l ++ [(k, v)]) k = some l.length := by
 unfold mfind at *
 rw [List.findIdx?_append, h]
 simp [List.findIdx?_cons]
structure RInv (rows : List (Vector Int 16)) (cls : List Int) (k : Nat) (m : List (Vector Int 17 × Int)) (s : List Int) : Prop where
 len : s.length = cls.length
 num : ∀ (p : Nat) (e : Vector Int 17 × Int), m[p]? = some e → e.2 = (p : Int)
 has : ∀ i : Nat, i < k → ∃ (y : Vector Int 17) (p : Nat), y.toList = kyL rows cls i ∧ mfind m y = some p ∧ s[i]? = some (p : Int)
 got : ∀ p : Nat, p < m.length → ∃ i : Nat, i < k ∧ s[i]? = some (p : Int)
 le : m.length ≤ k
theorem refine_L3 {N : Nat} (hN : 1000000000000 < N) {rows : List (Vector Int 16)} {l1 cls : List Int} (hl : cls.length = rows.length) (hm : rows.length ≤ 200) (hr : ∀ r ∈ rows, okRow (rows.length : Int) r) : ∀ (d k n : Nat) (m : List (Vector Int 17 × Int)) (s : List Int), k + d = cls.length → d < n → RInv rows cls k m s →
  ∃ m' s', mini_refine_L3 N cls rows l1 n k m s = some (m', s') ∧ RInv rows cls cls.length m' s' := by
 intro d
 induction d with
 | zero =>
  intro k n m s hk hn hI
  obtain ⟨n, rfl⟩ : ∃ x, n = x + 1 := ⟨n - 1, by omega⟩
  rw [mini_refine_L3, if_neg (by omega)]
  refine ⟨m, s, rfl, ?_⟩
  rw [show cls.length = k by omega]; exact hI
 | succ d ih =>
  intro k n m s hk hn hI
  obtain ⟨n, rfl⟩ : ∃ x, n = x + 1 := ⟨n - 1, by omega⟩
  have hkl : k < cls.length := by omega
  have hkr : k < rows.length := by omega
  have hks : k < s.length := by have := hI.len; omega
  obtain ⟨y, hy, hyl⟩ := refine_L2 (N := N) (cls := cls) (i := (k : Int)) (r := rows[k]) (l0 := rows) (l1 := l1) (m := m) (s := s) (ci := cls[k]) (by rw [hl]; exact hr _ (List.getElem_mem hkr)) 16 0 N (Vector.setIfInBounds (Vector.replicate 17 (0 : Int)) 16 cls[k]) (List.replicate 16 0) (by omega) (by omega) (by simp) (by
   rw [Vector.toList_setIfInBounds]; rfl)
  have hyk : y.toList = kyL rows cls k := by
   rw [hyl]; unfold kyL
   rw [List.getElem?_eq_getElem hkr, List.getElem?_eq_getElem hkl]; rfl
  rw [mini_refine_L3, if_pos (by omega), atI_get hkl, Option.bind_some, show atI (Vector.replicate 17 (0 : Int)).toList 16 = some 0 from rfl, Option.bind_some, atI_get hkr, Option.bind_some, show mini_refine_L2 N cls k rows[k] rows l1 m s N 0 _ = _ from hy, Option.bind_some, wk (by omega), Int.toNat_natCast]
  cases hf : mfind m y with
  | some p =>
   obtain ⟨e, he, hek⟩ := mfind_key hf
   have hmh : mhas m y = true := by unfold mhas; rw [hf]; rfl
   have hmg : mget m y = (p : Int) := by unfold mget; rw [hf]; simp only [he, Option.map_some, Option.getD_some]; exact hI.num p e he
   have hpl : p < m.length := (List.getElem?_eq_some_iff.1 he).1
   rw [if_pos hmh, atI_get hks, Option.bind_some, hmg]
   refine ih (k + 1) n _ _ (by omega) (by omega) ⟨by simpa using hI.len, hI.num, fun i hi => ?_, fun q hq => ?_, by have := hI.le; omega⟩
   ·
    by_cases e : i = k
    ·
     subst e; exact ⟨y, p, hyk, hf, by simp [hks]⟩
    ·
     obtain ⟨y', p', a1, a2, a3⟩ := hI.has i (by omega)
     exact ⟨y', p', a1, a2, by rw [List.getElem?_set_ne (Ne.symm e)]; exact a3⟩
   ·
    obtain ⟨i, hi, hs⟩ := hI.got q hq
    exact ⟨i, by omega, by rw [List.getElem?_set_ne (by omega)]; exact hs⟩
  | none =>
   have hmh : ¬ mhas m y = true := by unfold mhas; rw [hf]; simp
   have hmp : mput m y (m.length : Int) = m ++ [(y, (m.length : Int))] := by unfold mput; rw [hf]
   rw [if_neg hmh, atI_get hks, Option.bind_some, hmp]
   refine ih (k + 1) n _ _ (by omega) (by omega) ⟨by simpa using hI.len, fun p e he => ?_, fun i hi => ?_, fun q hq => ?_, by have := hI.le; simp; omega⟩
   ·
    rw [List.getElem?_append] at he
    split at he
    ·
     exact hI.num p e he
    ·
     have hz : p - m.length = 0 := by have := (List.getElem?_eq_some_iff.1 he).1; simp at this; omega
     rw [hz] at he; simp at he; subst he
     simp only; omega
   ·
    by_cases e : i = k
    ·
     subst e; exact ⟨y, m.length, hyk, mfind_new hf _, by simp [hks]⟩
    ·
     obtain ⟨y', p', a1, a2, a3⟩ := hI.has i (by omega)
     exact ⟨y', p', a1, mfind_app a2 _, by rw [List.getElem?_set_ne (Ne.symm e)]; exact a3⟩
   ·
    rw [List.length_append, List.length_cons, List.length_nil] at hq
    by_cases e : q = m.length
    ·
     subst e; exact ⟨k, by omega, by simp [hks]⟩
    ·
     obtain ⟨i, hi, hs⟩ := hI.got q (by omega)
     exact ⟨i, by omega, by rw [List.getElem?_set_ne (by omega)]; exact hs⟩
end Go.Proofs.Ytnbnajjoinahiaa.AI
