/- Part of a proof. -/
import Derived.Test.YtnbnajjoinahiaaPT3
import Derived.Test.YtnbnajjoinahiaaPS4
set_option linter.unusedVariables false
set_option linter.unusedSimpArgs false
set_option maxRecDepth 100000
namespace Go.Proofs.Ytnbnajjoinahiaa.AI
def tabC (cls : List Int) : List (List Bool) := cls.map fun x => cls.map fun z => decide (x = z)
theorem tab_at {cls : List Int} {z x : Nat} (hz : z < cls.length) (hx : x < cls.length) : ∃ r, atI (tabC cls) (z : Int) = some r ∧ atI r (x : Int) = some (decide (clx cls (z : Int) = clx cls (x : Int))) := by
 refine ⟨_, atI_at (by unfold tabC; rw [List.getElem?_map, List.getElem?_eq_getElem hz]; rfl), atI_at ?_⟩
 rw [List.getElem?_map, List.getElem?_eq_getElem hx]
 unfold clx
 rw [Int.toNat_natCast, Int.toNat_natCast, List.getElem?_eq_getElem hz, List.getElem?_eq_getElem hx]; rfl
section
variable {N : Nat} {cls : List Int} {y : List Bool} {i : Int} {c : Nat} {x : Nat} {l0 : List (Vector Int 16)} {l1 s : List Int} {rs : List (Vector Int 16)} {us : List Int}
theorem sm8_none (hc : c < 16) (hs : ∀ z ∈ s, 0 ≤ z ∧ z < (cls.length : Int)) (hx : x < cls.length) (hsl : s.length ≤ 1000) (hi : idx (s.map (clx cls)) (clx cls (x : Int)) = none) : ∀ (d k n : Nat) (v : Vector Int 16), k + d = s.length → d < n →
  ref08_Small_L8 N (tabC cls) y i c x l0 l1 s rs us n k v = some v := by
 intro d
 induction d with
 | zero =>
  intro k n v hk hn
  obtain ⟨n, rfl⟩ : ∃ x, n = x + 1 := ⟨n - 1, by omega⟩
  rw [ref08_Small_L8, if_neg (by omega)]
 | succ d ih =>
  intro k n v hk hn
  obtain ⟨n, rfl⟩ : ∃ x, n = x + 1 := ⟨n - 1, by omega⟩
  have hks : k < s.length := by omega
  have hz := hs _ (List.getElem_mem hks)
  have hne : ¬ clx cls s[k] = clx cls (x : Int) := fun e => idx_none hi (by rw [← e]; exact List.mem_map.2 ⟨_, List.getElem_mem hks, rfl⟩)
  rw [ref08_Small_L8, if_pos (by omega), atI_get hks, Option.bind_some]
  generalize s[k] = z at hz hne
  obtain ⟨z, rfl⟩ := Int.eq_ofNat_of_zero_le hz.1
  obtain ⟨r, h1, h2⟩ := tab_at (cls := cls) (z := z) (x := x) (by omega) hx
  rw [h1, Option.bind_some, h2, Option.bind_some, if_neg (by simpa using hne), wk (by omega)]
  exact ih (k + 1) n v (by omega) (by omega)
theorem sm8_some (hc : c < 16) (hs : ∀ z ∈ s, 0 ≤ z ∧ z < (cls.length : Int)) (hx : x < cls.length) (hsl : s.length ≤ 1000) (hnd : (s.map (clx cls)).Nodup) {p : Nat} (hi : idx (s.map (clx cls)) (clx cls (x : Int)) = some p) : ∀ (d k n : Nat) (v : Vector Int 16), k + d = s.length → d < n →
  ref08_Small_L8 N (tabC cls) y i c x l0 l1 s rs us n k v = some (if k ≤ p then v.setIfInBounds c (p : Int) else v) := by
 have hp := idx_some hi
 have hps : p < s.length := by have := (List.getElem?_eq_some_iff.1 hp).1; simpa using this
 intro d
 induction d with
 | zero =>
  intro k n v hk hn
  obtain ⟨n, rfl⟩ : ∃ x, n = x + 1 := ⟨n - 1, by omega⟩
  rw [ref08_Small_L8, if_neg (by omega), if_neg (by omega)]
 | succ d ih =>
  intro k n v hk hn
  obtain ⟨n, rfl⟩ : ∃ x, n = x + 1 := ⟨n - 1, by omega⟩
  have hks : k < s.length := by omega
  have hz := hs _ (List.getElem_mem hks)
  have hiff : clx cls s[k] = clx cls (x : Int) ↔ k = p := by
   have hk' : (s.map (clx cls))[k]? = some (clx cls s[k]) := by rw [List.getElem?_map, List.getElem?_eq_getElem hks]; rfl
   constructor
   ·
    intro e
    rw [e] at hk'
    have := idx_nd hnd hk'
    rw [hi] at this
    exact (Option.some.inj this).symm
   ·
    intro e
    subst e
    rw [hp] at hk'
    exact (Option.some.inj hk').symm
  rw [ref08_Small_L8, if_pos (by omega), atI_get hks, Option.bind_some]
  generalize s[k] = z at hz hiff
  obtain ⟨z, rfl⟩ := Int.eq_ofNat_of_zero_le hz.1
  obtain ⟨r, h1, h2⟩ := tab_at (cls := cls) (z := z) (x := x) (by omega) hx
  rw [h1, Option.bind_some, h2, Option.bind_some, wk (by omega)]
  by_cases e : k = p
  ·
   rw [if_pos (by simpa using hiff.2 e), atI_get (by rw [vlen]; exact hc), Option.bind_some, Int.toNat_natCast, ih (k + 1) n _ (by omega) (by omega), if_neg (by omega), if_pos (by omega), e]
  ·
   rw [if_neg (by simpa using fun h => e (hiff.1 h)), ih (k + 1) n _ (by omega) (by omega)]
   by_cases h3 : k ≤ p
   ·
    rw [if_pos h3, if_pos (by omega)]
   ·
    rw [if_neg h3, if_neg (by omega)]
end
theorem sm9 {N : Nat} (hN : 1000000000000 < N) {l0 : List (Vector Int 16)} {l1 cls : List Int} (h : RightP l0 l1) {y : List Bool} (hyl : y.length = l0.length) (hyd : ∀ i : Nat, i < l0.length → (y[i]? = some true ↔ Dd l0 l1 i)) (hcl : cls.length = l0.length) {i f : Nat} (hf : f < l0.length) {rs : List (Vector Int 16)} {us : List Int} :
  ∀ (d c n : Nat) (s : List Int) (v : Vector Int 16), c + d = 16 → d < n → s.length + d ≤ 1000 → s[i]? = some (f : Int) → (∀ z ∈ s, 0 ≤ z ∧ z < (cls.length : Int)) → (s.map (clx cls)).Nodup →
   ∃ v', ref08_Small_L9 N (tabC cls) y i l0 l1 rs us n c s v = some ((scanR (clx cls) ((alR y f l0[f]).toList.drop c) s).1, v') ∧ v'.toList = v.toList.take c ++ (scanR (clx cls) ((alR y f l0[f]).toList.drop c) s).2 := by
 obtain ⟨_, hm, hl, _, hr⟩ := id h
 intro d
 induction d with
 | zero =>
  intro c n s v hc hn hs hsi hsn hnd
  obtain ⟨n, rfl⟩ : ∃ x, n = x + 1 := ⟨n - 1, by omega⟩
  rw [ref08_Small_L9, if_neg (by omega), List.drop_eq_nil_of_le (by rw [vlen]; omega)]
  exact ⟨v, rfl, by rw [List.take_of_length_le (by rw [vlen]; omega)]; simp [scanR]⟩
 | succ d ih =>
  intro c n s v hc hn hs hsi hsn hnd
  obtain ⟨n, rfl⟩ : ∃ x, n = x + 1 := ⟨n - 1, by omega⟩
  have hc16 : c < 16 := by omega
  have hcv : c < v.toList.length := by rw [vlen]; exact hc16
  have hcA : c < (alR y f l0[f]).toList.length := by rw [vlen]; exact hc16
  have hrow : l0[f]? = some l0[f] := List.getElem?_eq_getElem hf
  have hok := okRow_at (hr _ (List.getElem_mem hf)) hc16
  have hAc : (alR y f l0[f]).toList[c] = alF y f (l0[f].toList[c]'(by rw [vlen]; exact hc16)) := by simp [alR]
  have htk : ∀ (u : Vector Int 16) (z : Int), u.toList.take c = v.toList.take c → (u.setIfInBounds c z).toList.take (c + 1) = v.toList.take c ++ [z] := fun u z hu => by
   rw [Vector.toList_setIfInBounds, List.take_succ_eq_append_getElem (by rw [List.length_set, vlen]; exact hc16), List.take_set_of_le (Nat.le_refl _), List.getElem_set_self, hu]
  have htk0 : ∀ (z : Int), (v.setIfInBounds c z).toList.take c = v.toList.take c := fun z => by
   rw [Vector.toList_setIfInBounds, List.take_set_of_le (Nat.le_refl _)]
  -- -1 is told
  have minus : alF y f (l0[f].toList[c]'(by rw [vlen]; exact hc16)) = -1 → ∃ v', ref08_Small_L9 N (tabC cls) y i l0 l1 rs us n ((c + 1 : Nat) : Int) s (v.setIfInBounds c (-1)) = some ((scanR (clx cls) ((alR y f l0[f]).toList.drop c) s).1, v') ∧ v'.toList = v.toList.take c ++ (scanR (clx cls) ((alR y f l0[f]).toList.drop c) s).2 := by
   intro ha
   obtain ⟨v', e, h'⟩ := ih (c + 1) n s (v.setIfInBounds c (-1)) (by omega) (by omega) (by omega) hsi hsn hnd
   rw [List.drop_eq_getElem_cons hcA, hAc, ha]
   simp only [scanR, if_pos (show (-1 : Int) < 0 by omega)]
   refine ⟨v', e, ?_⟩
   rw [h', htk v _ rfl]; simp
  rw [ref08_Small_L9, if_pos (by omega), atI_get hcv, Option.bind_some, atI_at hsi, Option.bind_some, atI_get hf, Option.bind_some, atI_get (by rw [vlen]; exact hc16), Option.bind_some, wk (by omega), Int.toNat_natCast]
  generalize hxe : l0[f].toList[c]'(by rw [vlen]; exact hc16) = x at hok minus hAc
  by_cases g : x < 0
  ·
   rw [if_pos g]
   refine minus ?_
   unfold alF
   split
   ·
    rfl
   ·
    have := hok.1; omega
  rw [if_neg g]
  obtain ⟨x, rfl⟩ := Int.eq_ofNat_of_zero_le (show 0 ≤ x by omega)
  have hx0 : x < l0.length := by have := hok.2; omega
  have hxy : x < y.length := by omega
  have hdq : dQ y (x : Int) = y[x] := by unfold dQ; rw [Int.toNat_natCast, List.getElem?_eq_getElem hxy]; rfl
  rw [atI_get hxy, Option.bind_some]
  by_cases g2 : y[x] = true
  ·
   rw [if_pos g2]
   refine minus ?_
   unfold alF
   rw [hdq, g2]; simp
  rw [if_neg g2]
  have hal : alF y f (x : Int) = (x : Int) := by
   have h1 : dQ y (f : Int) = false := by
    cases hh : dQ y (f : Int) with
    | false => rfl
    | true =>
     have h5 := dQ_get (y := y) (x := (f : Int)) (by omega) (by omega)
     rw [hh, Int.toNat_natCast] at h5
     have hdf := (hyd f hf).1 h5
     have : y[x]? = some true := (hyd x hx0).2 fun w => by
      have := hdf ((c : Int) :: w)
      unfold lang at this
      rw [stp_at hrow hc16, hxe] at this
      exact this
     rw [List.getElem?_eq_getElem hxy] at this
     exact absurd (Option.some.inj this) g2
   have h2 : y[x] = false := by cases hh : y[x] with | true => exact absurd hh g2 | false => rfl
   unfold alF
   rw [h1, hdq, h2]; simp
  rw [List.drop_eq_getElem_cons hcA, hAc, hal]
  simp only [scanR, if_neg g]
  cases hi : idx (s.map (clx cls)) (clx cls (x : Int)) with
  | some p =>
   have e8 := sm8_some (N := N) (y := y) (i := (i : Int)) (l0 := l0) (l1 := l1) (rs := rs) (us := us) hc16 hsn (show x < cls.length by omega) (by omega) hnd hi s.length 0 N (v.setIfInBounds c (-1)) (by omega) (by omega)
   rw [if_pos (Nat.zero_le _)] at e8
   rw [show ref08_Small_L8 N (tabC cls) y i c x l0 l1 s rs us N 0 _ = _ from e8, Option.bind_some, atI_at (x := (p : Int)) (by rw [Vector.toList_setIfInBounds, List.getElem?_set_self (by rw [vlen]; exact hc16)]), Option.bind_some, if_neg (by omega)]
   obtain ⟨v', e, h'⟩ := ih (c + 1) n s ((v.setIfInBounds c (-1)).setIfInBounds c (p : Int)) (by omega) (by omega) (by omega) hsi hsn hnd
   refine ⟨v', e, ?_⟩
   rw [h', htk _ _ (htk0 _)]; simp
  | none =>
   have e8 := sm8_none (N := N) (y := y) (i := (i : Int)) (l0 := l0) (l1 := l1) (rs := rs) (us := us) hc16 hsn (show x < cls.length by omega) (by omega) hi s.length 0 N (v.setIfInBounds c (-1)) (by omega) (by omega)
   rw [show ref08_Small_L8 N (tabC cls) y i c x l0 l1 s rs us N 0 _ = _ from e8, Option.bind_some, atI_at (x := (-1 : Int)) (by rw [Vector.toList_setIfInBounds, List.getElem?_set_self (by rw [vlen]; exact hc16)]), Option.bind_some, if_pos (by omega), if_pos (by omega)]
   have hil := (List.getElem?_eq_some_iff.1 hsi).1
   obtain ⟨v', e, h'⟩ := ih (c + 1) n (s ++ [(x : Int)]) ((v.setIfInBounds c (-1)).setIfInBounds c (s.length : Int)) (by omega) (by omega) (by simp; omega) (by rw [List.getElem?_append_left hil]; exact hsi) (fun z hz => by
    rcases List.mem_append.1 hz with hz | hz
    ·
     exact hsn z hz
    ·
     rw [List.mem_singleton.1 hz]; exact ⟨by omega, by omega⟩) (by
    rw [List.map_append, List.nodup_append]
    refine ⟨hnd, by simp, fun a ha b hb e => ?_⟩
    simp only [List.map_cons, List.map_nil, List.mem_singleton] at hb
    subst hb; subst e
    exact idx_none hi ha)
   refine ⟨v', e, ?_⟩
   rw [h', htk _ _ (htk0 _)]; simp
theorem goes_ref {N : Nat} (hN : 1000000000000 < N) {l0 : List (Vector Int 16)} {l1 cls : List Int} {q : Nat} (h : RightP l0 l1) {y : List Bool} (hyl : y.length = l0.length) (hyd : ∀ i : Nat, i < l0.length → (y[i]? = some true ↔ Dd l0 l1 i)) (hC : Cls l0 l1 cls q) :
  Goes l0 l1 (alRs y 0 l0) cls q (fun n i s rs us => ref08_Small_L10 N (tabC cls) y l0 l1 n i s rs us) := by
 obtain ⟨_, hm, hl, _, hr⟩ := id h
 refine ⟨fun n i s rs us hi => by
  simp only
  rw [ref08_Small_L10, if_neg (by omega)], fun n i s rs us f v' hf hS hsq hsi hv' hRi => ?_⟩
 simp only
 have hf0 : f < l0.length := by rw [alRs_len] at hf; exact hf
 have hAf : (alRs y 0 l0)[f] = alR y f l0[f] := by
  have := alRs_get y (l := l0) (k := 0) (i := f)
  rw [List.getElem?_eq_getElem hf, List.getElem?_eq_getElem hf0, Option.map_some, Nat.zero_add] at this
  exact Option.some.inj this
 rw [hAf] at hv' hRi ⊢
 have hcl := hC.len
 have hq := hC.le
 have hil := (List.getElem?_eq_some_iff.1 hsi).1
 have hrl := hS.rlen
 have hul := hS.ulen
 obtain ⟨v2, e9, h2⟩ := sm9 (cls := cls) (rs := rs) (us := us) hN h hyl hyd hcl (i := i) hf0 16 0 N s (Vector.replicate 16 0) (by omega) (by omega) (by omega) hsi (by rw [hcl]; exact hS.sin) hS.nd
 rw [List.drop_zero] at e9 h2
 rw [List.take_zero, List.nil_append] at h2
 have : v2 = v' := Vector.toList_inj.1 (by rw [h2, hv'])
 subst this
 have hout : atI l1 (f : Int) = some (outc l1 (f : Int)) := by rw [outc_at (by omega), atI_get (by omega)]
 rw [ref08_Small_L10, if_pos (by omega), show ref08_Small_L9 N (tabC cls) y i l0 l1 rs us N 0 s _ = _ from e9, Option.bind_some]
 simp only
 rw [if_pos (by omega), atI_at hRi, Option.bind_some, hout, Option.bind_some, if_pos (by omega), wk (by omega)]
theorem small_both {N : Nat} (hN : 1000000000000 < N) {l0 : List (Vector Int 16)} {l1 : List Int} (h : RightP l0 l1) : ∃ rs us, mini_Small N l0 l1 = some (rs, us) ∧ ref08_Small N l0 l1 = some (rs, us) ∧ RightP rs us := by
 obtain ⟨y, A, cls, q, e1, e2, hyl, hyd, rfl, hA, ec, hC, e3, e4⟩ := both_sem hN h
 obtain ⟨s, rs, us, e, hS, hF⟩ := small_sem0 hN h e1 hyl hA ec hC
 refine ⟨rs, us, e, ?_, (hS.right h hA hC).1⟩
 have hg := hF _ (goes_ref hN h hyl hyd hC)
 have e4' : ref08_Alike N l0 l1 = some (tabC cls) := e4
 unfold ref08_Small
 rw [e4', Option.bind_some, e2, Option.bind_some, show ref08_Small_L10 N _ y l0 l1 N 0 [0] [] [] = _ from hg, Option.bind_some]
theorem small_none {N : Nat} {l0 : List (Vector Int 16)} {l1 : List Int} (e : dfa_Right N l0 l1 = some false) : mini_Small N l0 l1 = some ([], []) := by
 unfold mini_Small
 rw [e, Option.bind_some, if_neg (by simp)]
theorem same7_iff1 {N : Nat} {l0 l2 : List (Vector Int 16)} {l1 l3 : List Int} (hl : l0.length = l2.length) (hm : l0.length ≤ 1000) : ∀ (d i n : Nat), i + d = l0.length → d < n → ref07_Same_L1 N l0 l1 l2 l3 n i = some (if l0.drop i = l2.drop i then .inl () else .inr ()) := by
 intro d
 induction d with
 | zero =>
  intro i n hd hn
  obtain ⟨n, rfl⟩ : ∃ x, n = x + 1 := ⟨n - 1, by omega⟩
  rw [ref07_Same_L1, if_neg (by omega), List.drop_eq_nil_of_le (by omega), List.drop_eq_nil_of_le (by omega), if_pos rfl]
 | succ d ih =>
  intro i n hd hn
  obtain ⟨n, rfl⟩ : ∃ x, n = x + 1 := ⟨n - 1, by omega⟩
  have h0 : i < l0.length := by omega
  have h2 : i < l2.length := by omega
  rw [ref07_Same_L1, if_pos (by omega), atI_get h0, Option.bind_some, atI_get h2, Option.bind_some, wk (by omega), ih (i + 1) n (by omega) (by omega), List.drop_eq_getElem_cons h0, List.drop_eq_getElem_cons h2]
  simp only [List.cons.injEq]
  by_cases g : l0[i] = l2[i]
  ·
   rw [if_pos g]; simp [g]
  ·
   rw [if_neg g]; simp [g]
theorem same7_iff2 {N : Nat} {l0 l2 : List (Vector Int 16)} {l1 l3 : List Int} (hl : l1.length = l3.length) (hm : l1.length ≤ 1000) : ∀ (d i n : Nat), i + d = l1.length → d < n → ref07_Same_L2 N l0 l1 l2 l3 n i = some (if l1.drop i = l3.drop i then .inl () else .inr ()) := by
 intro d
 induction d with
 | zero =>
  intro i n hd hn
  obtain ⟨n, rfl⟩ : ∃ x, n = x + 1 := ⟨n - 1, by omega⟩
  rw [ref07_Same_L2, if_neg (by omega), List.drop_eq_nil_of_le (by omega), List.drop_eq_nil_of_le (by omega), if_pos rfl]
 | succ d ih =>
  intro i n hd hn
  obtain ⟨n, rfl⟩ : ∃ x, n = x + 1 := ⟨n - 1, by omega⟩
  have h0 : i < l1.length := by omega
  have h2 : i < l3.length := by omega
  rw [ref07_Same_L2, if_pos (by omega), atI_get h0, Option.bind_some, atI_get h2, Option.bind_some, wk (by omega), ih (i + 1) n (by omega) (by omega), List.drop_eq_getElem_cons h0, List.drop_eq_getElem_cons h2]
  simp only [List.cons.injEq]
  by_cases g : l1[i] = l3[i]
  ·
   rw [if_pos g]; simp [g]
  ·
   rw [if_neg g]; simp [g]
theorem same7_dec {N : Nat} (hN : 1000000000000 < N) {l0 l2 : List (Vector Int 16)} {l1 l3 : List Int} (h0 : l0.length ≤ 1000) (h1 : l1.length ≤ 1000) : ref07_Same N l0 l1 l2 l3 = some (decide (l0 = l2 ∧ l1 = l3)) := by
 unfold ref07_Same
 by_cases g0 : (l0.length : Int) = (l2.length : Int)
 ·
  rw [if_pos g0]
  by_cases g1 : (l1.length : Int) = (l3.length : Int)
  ·
   rw [if_pos g1]
   have e1 := same7_iff1 (N := N) (l1 := l1) (l3 := l3) (show l0.length = l2.length by omega) h0 l0.length 0 N (by omega) (by omega)
   have e2 := same7_iff2 (N := N) (l0 := l0) (l2 := l2) (show l1.length = l3.length by omega) h1 l1.length 0 N (by omega) (by omega)
   rw [List.drop_zero, List.drop_zero] at e1 e2
   rw [show ref07_Same_L1 N l0 l1 l2 l3 N 0 = _ from e1, Option.bind_some]
   by_cases q0 : l0 = l2
   ·
    rw [if_pos q0]
    simp only
    rw [show ref07_Same_L2 N l0 l1 l2 l3 N 0 = _ from e2, Option.bind_some]
    by_cases q1 : l1 = l3
    ·
     simp [q0, q1]
    ·
     simp [q0, q1]
   ·
    simp [q0]
  ·
   rw [if_neg g1]
   have : ¬ l1 = l3 := fun e => g1 (by rw [e])
   simp [this]
 ·
  rw [if_neg g0]
  have : ¬ l0 = l2 := fun e => g0 (by rw [e])
  simp [this]
end Go.Proofs.Ytnbnajjoinahiaa.AI
