/- Part of a proof. -/
import Derived.Test.YtnbnajjoinahiaaPS2
set_option linter.unusedVariables false
set_option linter.unusedSimpArgs false
set_option maxRecDepth 100000
namespace Go.Proofs.Ytnbnajjoinahiaa.AI
def mkm : Nat → List Int → List (Int × Int)
 | _, [] => []
 | k, a :: l => (a, (k : Int)) :: mkm (k + 1) l
def idx (l : List Int) (a : Int) : Option Nat := l.findIdx? fun x => decide (a = x)
theorem mfind_mkm (a : Int) : ∀ (l : List Int) (k : Nat), mfind (mkm k l) a = idx l a
 | [], k => rfl
 | b :: l, k => by
  have ih := mfind_mkm a l (k + 1)
  unfold mfind idx at *
  simp only [mkm, List.findIdx?_cons, ih]
theorem mkm_get : ∀ {l : List Int} {k p : Nat}, (mkm k l)[p]? = (l[p]?).map fun a => (a, ((k + p : Nat) : Int))
 | [], k, p => by simp [mkm]
 | a :: l, k, 0 => by simp [mkm]
 | a :: l, k, p + 1 => by simp only [mkm, List.getElem?_cons_succ]; rw [mkm_get (l := l), show k + 1 + p = k + (p + 1) by omega]
theorem mkm_app : ∀ (l : List Int) (k : Nat) (a : Int), mkm k (l ++ [a]) = mkm k l ++ [(a, ((k + l.length : Nat) : Int))]
 | [], k, a => by simp [mkm]
 | b :: l, k, a => by simp only [List.cons_append, mkm, mkm_app l, List.length_cons, show k + 1 + l.length = k + (l.length + 1) by omega]
theorem idx_some {l : List Int} {a : Int} {p : Nat} (h : idx l a = some p) : l[p]? = some a := by
 unfold idx at h
 rw [List.findIdx?_eq_some_iff_getElem] at h
 obtain ⟨hl, h1, _⟩ := h
 rw [List.getElem?_eq_getElem hl, of_decide_eq_true h1]
theorem idx_none {l : List Int} {a : Int} (h : idx l a = none) : a ∉ l := by
 unfold idx at h
 rw [List.findIdx?_eq_none_iff] at h
 intro hm
 have := h a hm
 simp at this
theorem idx_nd {l : List Int} {a : Int} {p : Nat} (hn : l.Nodup) (h : l[p]? = some a) : idx l a = some p := by
 cases hi : idx l a with
 | none => exact absurd (List.mem_of_getElem? h) (idx_none hi)
 | some p' =>
  have h' := idx_some hi
  obtain ⟨h1, e1⟩ := List.getElem?_eq_some_iff.1 h
  obtain ⟨h2, e2⟩ := List.getElem?_eq_some_iff.1 h'
  rw [(List.getElem_inj (h₀ := h2) (h₁ := h1) hn).1 (by rw [e1, e2])]
theorem mhas_mkm (l : List Int) (k : Nat) (a : Int) : mhas (mkm k l) a = (idx l a).isSome := by unfold mhas; rw [mfind_mkm]
theorem mget_mkm {l : List Int} {a : Int} {p : Nat} (h : idx l a = some p) : mget (mkm 0 l) a = (p : Int) := by
 unfold mget
 rw [mfind_mkm, h]
 simp only [mkm_get, idx_some h, Option.map_some, Option.getD_some, Nat.zero_add]
theorem mput_mkm {l : List Int} {a : Int} (h : idx l a = none) : mput (mkm 0 l) a (l.length : Int) = mkm 0 (l ++ [a]) := by
 unfold mput
 rw [mfind_mkm, h]
 simp only [mkm_app, Nat.zero_add]
def clx (cls : List Int) (x : Int) : Int := (cls[x.toNat]?).getD 0
def scanR (cl : Int → Int) : List Int → List Int → List Int × List Int
 | [], s => (s, [])
 | x :: r, s => if x < 0 then ((scanR cl r s).1, x :: (scanR cl r s).2) else match idx (s.map cl) (cl x) with
  | some p => ((scanR cl r s).1, (p : Int) :: (scanR cl r s).2)
  | none => ((scanR cl r (s ++ [x])).1, (s.length : Int) :: (scanR cl r (s ++ [x])).2)
def canR : Nat → List Int → Nat → Prop
 | n, [], n' => n = n'
 | n, x :: r, n' => (x < 0 ∧ canR n r n') ∨ (0 ≤ x ∧ x < (n : Int) ∧ canR n r n') ∨ (x = (n : Int) ∧ canR (n + 1) r n')
theorem scan_can (cl : Int → Int) : ∀ (r s : List Int), canR s.length (scanR cl r s).2 (scanR cl r s).1.length
 | [], s => rfl
 | x :: r, s => by
  by_cases h : x < 0
  ·
   simp only [scanR, if_pos h, canR]
   exact .inl ⟨h, scan_can cl r s⟩
  ·
   simp only [scanR, if_neg h]
   cases hi : idx (s.map cl) (cl x) with
   | some p =>
    have hp := (List.getElem?_eq_some_iff.1 (idx_some hi)).1
    simp only [canR]
    exact .inr (.inl ⟨by omega, by rw [List.length_map] at hp; omega, scan_can cl r s⟩)
   | none =>
    simp only [canR]
    have := scan_can cl r (s ++ [x])
    rw [List.length_append, List.length_singleton] at this
    exact .inr (.inr ⟨trivial, this⟩)
theorem scan_ext (cl : Int → Int) : ∀ (r s : List Int), ∃ t, (scanR cl r s).1 = s ++ t ∧ ∀ x ∈ t, x ∈ r ∧ 0 ≤ x
 | [], s => ⟨[], by simp [scanR], by simp⟩
 | x :: r, s => by
  by_cases h : x < 0
  ·
   simp only [scanR, if_pos h]
   obtain ⟨t, e, ht⟩ := scan_ext cl r s
   exact ⟨t, e, fun z hz => ⟨List.mem_cons_of_mem _ (ht z hz).1, (ht z hz).2⟩⟩
  ·
   simp only [scanR, if_neg h]
   cases hi : idx (s.map cl) (cl x) with
   | some p =>
    obtain ⟨t, e, ht⟩ := scan_ext cl r s
    exact ⟨t, e, fun z hz => ⟨List.mem_cons_of_mem _ (ht z hz).1, (ht z hz).2⟩⟩
   | none =>
    obtain ⟨t, e, ht⟩ := scan_ext cl r (s ++ [x])
    refine ⟨x :: t, by simp only [e, List.append_assoc, List.cons_append, List.nil_append], fun z hz => ?_⟩
    rcases List.mem_cons.1 hz with rfl | hz
    ·
     exact ⟨by simp, by omega⟩
    ·
     exact ⟨List.mem_cons_of_mem _ (ht z hz).1, (ht z hz).2⟩
theorem scan_nd (cl : Int → Int) : ∀ (r s : List Int), (s.map cl).Nodup → ((scanR cl r s).1.map cl).Nodup
 | [], s, h => h
 | x :: r, s, h => by
  by_cases h' : x < 0
  ·
   simp only [scanR, if_pos h']; exact scan_nd cl r s h
  ·
   simp only [scanR, if_neg h']
   cases hi : idx (s.map cl) (cl x) with
   | some p => exact scan_nd cl r s h
   | none =>
    refine scan_nd cl r (s ++ [x]) ?_
    rw [List.map_append, List.nodup_append]
    refine ⟨h, by simp, fun a ha b hb e => ?_⟩
    simp only [List.map_cons, List.map_nil, List.mem_singleton] at hb
    subst hb; subst e
    exact idx_none hi ha
theorem scan_cell (cl : Int → Int) : ∀ (r s : List Int), (scanR cl r s).2.length = r.length ∧ ∀ (k : Nat) (a e : Int), r[k]? = some a → (scanR cl r s).2[k]? = some e → (a < 0 ∧ e = a) ∨ (0 ≤ a ∧ ∃ (p : Nat) (z : Int), e = (p : Int) ∧ (scanR cl r s).1[p]? = some z ∧ cl z = cl a)
 | [], s => ⟨rfl, fun k a e h => by simp at h⟩
 | x :: r, s => by
  by_cases h : x < 0
  ·
   simp only [scanR, if_pos h, List.length_cons]
   obtain ⟨h1, h2⟩ := scan_cell cl r s
   refine ⟨by omega, fun k a e ha he => ?_⟩
   cases k with
   | zero =>
    simp only [List.getElem?_cons_zero, Option.some.injEq] at ha he
    subst ha; subst he; exact .inl ⟨h, rfl⟩
   | succ k => exact h2 k a e (by simpa using ha) (by simpa using he)
  ·
   simp only [scanR, if_neg h]
   cases hi : idx (s.map cl) (cl x) with
   | some p =>
    obtain ⟨h1, h2⟩ := scan_cell cl r s
    simp only [List.length_cons]
    refine ⟨by omega, fun k a e ha he => ?_⟩
    cases k with
    | zero =>
     simp only [List.getElem?_cons_zero, Option.some.injEq] at ha he
     subst ha; subst he
     have hp := idx_some hi
     rw [List.getElem?_map] at hp
     obtain ⟨z, hz, hc⟩ := Option.map_eq_some_iff.1 hp
     obtain ⟨t, et, _⟩ := scan_ext cl r s
     exact .inr ⟨by omega, p, z, rfl, by rw [et, List.getElem?_append_left (List.getElem?_eq_some_iff.1 hz).1]; exact hz, hc⟩
    | succ k => exact h2 k a e (by simpa using ha) (by simpa using he)
   | none =>
    obtain ⟨h1, h2⟩ := scan_cell cl r (s ++ [x])
    simp only [List.length_cons]
    refine ⟨by omega, fun k a e ha he => ?_⟩
    cases k with
    | zero =>
     simp only [List.getElem?_cons_zero, Option.some.injEq] at ha he
     subst ha; subst he
     obtain ⟨t, et, _⟩ := scan_ext cl r (s ++ [x])
     exact .inr ⟨by omega, s.length, x, rfl, by rw [et]; simp, rfl⟩
    | succ k => exact h2 k a e (by simpa using ha) (by simpa using he)
theorem small_L3 {N : Nat} {cls : List Int} {i : Int} {x : Vector Int 16} {y7 : List (Vector Int 16)} {y8 : List Int} {s18 : List (Vector Int 16)} {s19 : List Int} (hx : okRow (cls.length : Int) x) : ∀ (d k n : Nat) (s : List Int) (v : Vector Int 16), k + d = 16 → d < n → s.length + d ≤ 1000000 → v.toList.drop k = x.toList.drop k →
  ∃ v', mini_Small_L3 N cls i x y7 y8 s18 s19 n k (mkm 0 (s.map (clx cls))) s v = some (mkm 0 ((scanR (clx cls) (x.toList.drop k) s).1.map (clx cls)), (scanR (clx cls) (x.toList.drop k) s).1, v') ∧ v'.toList = v.toList.take k ++ (scanR (clx cls) (x.toList.drop k) s).2 := by
 intro d
 induction d with
 | zero =>
  intro k n s v hk hn hs hv
  obtain ⟨n, rfl⟩ : ∃ x, n = x + 1 := ⟨n - 1, by omega⟩
  rw [mini_Small_L3, if_neg (by omega), List.drop_eq_nil_of_le (by rw [vlen]; omega)]
  exact ⟨v, rfl, by rw [List.take_of_length_le (by rw [vlen]; omega)]; simp [scanR]⟩
 | succ d ih =>
  intro k n s v hk hn hs hv
  obtain ⟨n, rfl⟩ : ∃ x, n = x + 1 := ⟨n - 1, by omega⟩
  have hkl : k < x.toList.length := by rw [vlen]; omega
  have hkv : k < v.toList.length := by rw [vlen]; omega
  have hok := hx _ (List.getElem_mem hkl)
  have hdrop := List.drop_eq_getElem_cons hkl
  have hv1 : v.toList[k] = x.toList[k] ∧ v.toList.drop (k + 1) = x.toList.drop (k + 1) := by
   rw [List.drop_eq_getElem_cons hkl, List.drop_eq_getElem_cons hkv] at hv
   exact ⟨(List.cons.inj hv).1, (List.cons.inj hv).2⟩
  have hput : ∀ z : Int, (v.setIfInBounds k z).toList.drop (k + 1) = x.toList.drop (k + 1) := fun z => by
   rw [Vector.toList_setIfInBounds, List.drop_set_of_lt (by omega)]; exact hv1.2
  have htk : ∀ z : Int, (v.setIfInBounds k z).toList.take (k + 1) = v.toList.take k ++ [z] := fun z => by
   rw [Vector.toList_setIfInBounds, List.take_succ_eq_append_getElem (by rw [List.length_set]; exact hkv), List.take_set_of_le (Nat.le_refl _), List.getElem_set_self]
  rw [mini_Small_L3, if_pos (by omega), atI_get hkl, Option.bind_some, wk (by omega), Int.toNat_natCast, hdrop]
  generalize hxk : x.toList[k] = a at hok hv1
  by_cases g : a < 0
  ·
   rw [if_pos g]
   simp only [scanR, if_pos g]
   obtain ⟨v', e, h'⟩ := ih (k + 1) n s v (by omega) (by omega) (by omega) hv1.2
   refine ⟨v', e, ?_⟩
   rw [h', List.take_succ_eq_append_getElem hkv, hv1.1]; simp
  ·
   rw [if_neg g]
   obtain ⟨q, rfl⟩ := Int.eq_ofNat_of_zero_le (show 0 ≤ a by omega)
   have hq : q < cls.length := by have := hok.2; omega
   have hcl : clx cls (q : Int) = cls[q] := by unfold clx; rw [Int.toNat_natCast, List.getElem?_eq_getElem hq]; rfl
   rw [atI_get hq, Option.bind_some, ← hcl]
   simp only [scanR, if_neg g, mhas_mkm]
   cases hi : idx (s.map (clx cls)) (clx cls (q : Int)) with
   | some p =>
    rw [if_pos (show (some p).isSome = true from rfl), atI_get hkv, Option.bind_some, mget_mkm hi]
    obtain ⟨v', e, h'⟩ := ih (k + 1) n s (v.setIfInBounds k (p : Int)) (by omega) (by omega) (by omega) (hput _)
    refine ⟨v', e, ?_⟩
    rw [h', htk]; simp
   | none =>
    have hm := mput_mkm hi
    rw [List.length_map] at hm
    have hm2 : (s.map (clx cls)) ++ [clx cls (q : Int)] = (s ++ [(q : Int)]).map (clx cls) := by simp
    rw [hm2] at hm
    rw [if_neg (show ¬ (none : Option Nat).isSome = true by simp), if_pos (by omega), atI_get hkv, Option.bind_some, hm]
    obtain ⟨v', e, h'⟩ := ih (k + 1) n (s ++ [(q : Int)]) (v.setIfInBounds k (s.length : Int)) (by omega) (by omega) (by simp; omega) (hput _)
    refine ⟨v', e, ?_⟩
    rw [h', htk]; simp
end Go.Proofs.Ytnbnajjoinahiaa.AI
