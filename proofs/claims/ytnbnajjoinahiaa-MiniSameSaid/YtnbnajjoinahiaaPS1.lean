/- Part of a proof. -/
import Derived.Test.YtnbnajjoinahiaaPM4
set_option linter.unusedVariables false
set_option linter.unusedSimpArgs false
set_option maxRecDepth 100000
namespace Go.Proofs.Ytnbnajjoinahiaa.AI
def cel (rows : List (Vector Int 16)) (x c : Int) : Int := ((rows[x.toNat]?).bind fun r => r.toList[c.toNat]?).getD (-1)
def stp (rows : List (Vector Int 16)) (x c : Int) : Int := if 0 ≤ x ∧ 0 ≤ c then cel rows x c else -1
def outc (rule : List Int) (x : Int) : Int := if 0 ≤ x then (rule[x.toNat]?).getD (-1) else -1
def lang (rows : List (Vector Int 16)) (rule : List Int) : List Int → Int → Int
 | [], x => outc rule x
 | c :: w, x => lang rows rule w (stp rows x c)
def Dd (rows : List (Vector Int 16)) (rule : List Int) (x : Int) : Prop := ∀ w, lang rows rule w x = -1
theorem stp_neg {rows : List (Vector Int 16)} {x c : Int} (h : x < 0) : stp rows x c = -1 := by unfold stp; rw [if_neg (by omega)]
theorem lang_neg {rows : List (Vector Int 16)} {rule : List Int} : ∀ (w : List Int) {x : Int}, x < 0 → lang rows rule w x = -1
 | [], x, h => by unfold lang outc; rw [if_neg (by omega)]
 | c :: w, x, h => by unfold lang; rw [stp_neg h]; exact lang_neg w (by omega)
theorem cel_at {rows : List (Vector Int 16)} {i k : Nat} {r : Vector Int 16} (hr : rows[i]? = some r) (hk : k < 16) : cel rows (i : Int) (k : Int) = r.toList[k]'(by rw [vlen]; exact hk) := by
 unfold cel
 rw [Int.toNat_natCast, Int.toNat_natCast, hr, Option.bind_some, List.getElem?_eq_getElem (by rw [vlen]; exact hk)]; rfl
theorem stp_at {rows : List (Vector Int 16)} {i k : Nat} {r : Vector Int 16} (hr : rows[i]? = some r) (hk : k < 16) : stp rows (i : Int) (k : Int) = r.toList[k]'(by rw [vlen]; exact hk) := by
 unfold stp; rw [if_pos ⟨by omega, by omega⟩]; exact cel_at hr hk
theorem stp_cases {rows : List (Vector Int 16)} (x c : Int) : stp rows x c = -1 ∨ ∃ (i k : Nat) (r : Vector Int 16), x = (i : Int) ∧ c = (k : Int) ∧ rows[i]? = some r ∧ k < 16 := by
 by_cases h : 0 ≤ x ∧ 0 ≤ c
 ·
  obtain ⟨i, rfl⟩ := Int.eq_ofNat_of_zero_le h.1
  obtain ⟨k, rfl⟩ := Int.eq_ofNat_of_zero_le h.2
  cases hr : rows[i]? with
  | none => left; unfold stp; rw [if_pos h]; unfold cel; rw [Int.toNat_natCast, hr]; rfl
  | some r =>
   by_cases hk : k < 16
   ·
    exact .inr ⟨i, k, r, rfl, rfl, hr, hk⟩
   ·
    left; unfold stp; rw [if_pos h]; unfold cel; rw [Int.toNat_natCast, Int.toNat_natCast, hr, Option.bind_some, List.getElem?_eq_none (by rw [vlen]; omega)]; rfl
 ·
  left; unfold stp; rw [if_neg h]
theorem outc_at {rule : List Int} {i : Nat} (hi : i < rule.length) : outc rule (i : Int) = rule[i] := by
 unfold outc; rw [if_pos (by omega), Int.toNat_natCast, List.getElem?_eq_getElem hi]; rfl
theorem okRow_at {n : Int} {r : Vector Int 16} (h : okRow n r) {k : Nat} (hk : k < 16) : okN n (r.toList[k]'(by rw [vlen]; exact hk)) := h _ (List.getElem_mem _)
theorem stp_ok {rows : List (Vector Int 16)} (hr : ∀ r ∈ rows, okRow (rows.length : Int) r) (x c : Int) : okN (rows.length : Int) (stp rows x c) := by
  rcases stp_cases (rows := rows) x c with h | ⟨i, k, r, rfl, rfl, h, hk⟩
  · rw [h]; exact ⟨by omega, by omega⟩
  · rw [stp_at h hk]; exact okRow_at (hr r (List.mem_of_getElem? h)) hk
theorem dQ_get {y : List Bool} {x : Int} (h0 : 0 ≤ x) (h : x < (y.length : Int)) : y[x.toNat]? = some (dQ y x) := by
 unfold dQ; rw [List.getElem?_eq_getElem (by omega)]; rfl
theorem dead_sem {N : Nat} (hN : 1000000000000 < N) {l0 : List (Vector Int 16)} {l1 : List Int} (h : RightP l0 l1) : ∃ y, mini_Dead N l0 l1 = some y ∧ y.length = l0.length ∧ ∀ i : Nat, i < l0.length → (y[i]? = some true ↔ Dd l0 l1 i) := by
 obtain ⟨_, hm, hl, hru, hr⟩ := id h
 obtain ⟨y, e, hyl, hc, hlen, h1, h2⟩ := dead_eq hN h (fun y => y.length = l0.length ∧ (∀ i : Nat, i < l0.length → y[i]? = some false → ¬ Dd l0 l1 i) ∧ ∀ i : Nat, y[i]? = some true → outc l1 i < 0)
  ⟨by unfold dead0; simp [hl], fun i hi hy hd => by
   have hi1 : i < l1.length := by omega
   unfold dead0 at hy
   rw [List.getElem?_map, List.getElem?_eq_getElem hi1] at hy
   have h3 := of_decide_eq_false (Option.some.inj hy)
   have h4 := hd []
   unfold lang at h4
   rw [outc_at hi1] at h4; omega, fun i hy => by
   unfold dead0 at hy
   rw [List.getElem?_map] at hy
   obtain ⟨x, hx, hx'⟩ := Option.map_eq_some_iff.1 hy
   obtain ⟨hi1, he⟩ := List.getElem?_eq_some_iff.1 hx
   rw [outc_at hi1, he]; exact of_decide_eq_true hx'⟩
  (fun y i r ⟨a1, a2, a3⟩ hy hr' hn => by
   refine ⟨by simpa using a1, fun j hj hy' hd => ?_, fun j hy' => ?_⟩
   ·
    by_cases e : j = i
    ·
     subst e
     refine hn fun x hx h0 => ?_
     obtain ⟨k, hk, rfl⟩ := List.getElem_of_mem hx
     have hk' : k < 16 := by rw [vlen] at hk; exact hk
     have hok := okRow_at (hr r (List.mem_of_getElem? hr')) hk'
     generalize he : r.toList[k] = x at h0 hok
     obtain ⟨q, rfl⟩ := Int.eq_ofNat_of_zero_le h0
     have hq : q < l0.length := by have := hok.2; omega
     cases hd' : dQ y (q : Int) with
     | true => rfl
     | false =>
      have h5 := dQ_get (y := y) (x := (q : Int)) (by omega) (by omega)
      rw [hd', Int.toNat_natCast] at h5
      exfalso
      refine a2 q hq h5 fun w => ?_
      have := hd ((k : Int) :: w)
      unfold lang at this
      rw [stp_at hr' hk', he] at this
      exact this
    ·
     rw [List.getElem?_set_ne (Ne.symm e)] at hy'
     exact a2 j hj hy' hd
   ·
    by_cases e : j = i
    ·
     subst e
     obtain ⟨hlt, _⟩ := List.getElem?_eq_some_iff.1 hy
     rw [List.getElem?_set_self hlt] at hy'; cases hy'
    ·
     rw [List.getElem?_set_ne (Ne.symm e)] at hy'
     exact a3 j hy')
 refine ⟨y, e, hyl, fun i hi => ⟨fun hy w => ?_, fun hd => ?_⟩⟩
 ·
  induction w generalizing i with
  | nil =>
   unfold lang
   have h3 := h2 i hy
   have hi1 : i < l1.length := by omega
   have h4 := hru l1[i] (List.getElem_mem hi1)
   rw [outc_at hi1] at h3 ⊢
   have := h4.1; omega
  | cons c w ih =>
   unfold lang
   rcases stp_cases (rows := l0) (i : Int) c with h' | ⟨i', k, r, hi', rfl, hr', hk⟩
   ·
    rw [h']; exact lang_neg w (by omega)
   ·
    have : i' = i := by omega
    subst this
    have hok := okRow_at (hr r (List.mem_of_getElem? hr')) hk
    have ha := hc i' r hy hr'
    have hmem : r.toList[k]'(by rw [vlen]; exact hk) ∈ r.toList := List.getElem_mem _
    rw [stp_at hr' hk]
    generalize r.toList[k]'(by rw [vlen]; exact hk) = x at hok hmem
    by_cases h0 : 0 ≤ x
    ·
     obtain ⟨q, rfl⟩ := Int.eq_ofNat_of_zero_le h0
     have hq : q < l0.length := by have := hok.2; omega
     have h5 := dQ_get (y := y) (x := (q : Int)) (by omega) (by omega)
     rw [ha _ hmem h0, Int.toNat_natCast] at h5
     exact ih q hq h5
    ·
     exact lang_neg w (by omega)
 ·
  have hi' : i < y.length := by omega
  cases hv : y[i] with
  | true => rw [List.getElem?_eq_getElem hi', hv]
  | false => exact absurd hd (h1 i hi (by rw [List.getElem?_eq_getElem hi', hv]))
structure Liv (l0 : List (Vector Int 16)) (l1 : List Int) (A : List (Vector Int 16)) : Prop where
 len : A.length = l0.length
 same : ∀ w x, lang A l1 w x = lang l0 l1 w x
 liv : ∀ x c, 0 ≤ stp A x c → ¬ Dd l0 l1 (stp A x c)
 ok : ∀ r ∈ A, okRow (A.length : Int) r
theorem liv_of {l0 : List (Vector Int 16)} {l1 : List Int} (h : RightP l0 l1) {y : List Bool} (hyl : y.length = l0.length) (hy : ∀ i : Nat, i < l0.length → (y[i]? = some true ↔ Dd l0 l1 i)) : Liv l0 l1 (alRs y 0 l0) := by
 obtain ⟨_, hm, hl, hru, hr⟩ := id h
 have hlen := alRs_len y l0 0
 have hdd : ∀ x : Int, 0 ≤ x → x < (l0.length : Int) → dQ y x = true → Dd l0 l1 x := fun x h0 h1 hd => by
  obtain ⟨q, rfl⟩ := Int.eq_ofNat_of_zero_le h0
  have h5 := dQ_get (y := y) (x := (q : Int)) (by omega) (by omega)
  rw [hd, Int.toNat_natCast] at h5
  exact (hy q (by omega)).1 h5
 have hst : ∀ (x c : Int), stp (alRs y 0 l0) x c = -1 ∨ ∃ (i k : Nat) (r : Vector Int 16), x = (i : Int) ∧ c = (k : Int) ∧ l0[i]? = some r ∧ ∃ hk : k < 16, stp (alRs y 0 l0) x c = alF y i (r.toList[k]'(by rw [vlen]; exact hk)) := fun x c => by
  rcases stp_cases (rows := alRs y 0 l0) x c with h' | ⟨i, k, r, rfl, rfl, h', hk⟩
  ·
   exact .inl h'
  ·
   rw [alRs_get] at h'
   obtain ⟨r0, h1, h2⟩ := Option.map_eq_some_iff.1 h'
   refine .inr ⟨i, k, r0, rfl, rfl, h1, hk, ?_⟩
   rw [stp_at (r := r) (by rw [alRs_get, h1, ← h2]; rfl) hk]
   subst h2
   simp [alR]
 refine ⟨hlen, fun w => ?_, fun x c h0 hd => ?_, by rw [hlen]; exact alRs_ok (by omega) hr⟩
 ·
  induction w with
  | nil => intro x; rfl
  | cons c w ih =>
   intro x
   unfold lang
   rw [ih]
   rcases stp_cases (rows := l0) x c with h' | ⟨i, k, r, rfl, rfl, hr', hk⟩
   ·
    rcases hst x c with h2 | ⟨i, k, r, rfl, rfl, h2, hk, _⟩
    ·
     rw [h', h2]
    ·
     rename_i h3
     rw [h3]
     rw [stp_at h2 hk] at h' ⊢
     rw [h']
     unfold alF
     split
     ·
      rfl
     ·
      rfl
   ·
    rcases hst i k with h2 | ⟨i', k', r', hi', hk', h2, hk2, h3⟩
    ·
     have hA : (alRs y 0 l0)[i]? = some (alR y i r) := by rw [alRs_get, hr']; simp
     rw [h2, lang_neg w (by omega)]
     rw [stp_at hA hk] at h2
     have h4 : alF y i (r.toList[k]'(by rw [vlen]; exact hk)) = -1 := by rw [← h2]; simp [alR]
     unfold alF at h4
     split at h4
     ·
      rename_i g
      have hi : i < l0.length := (List.getElem?_eq_some_iff.1 hr').1
      rw [Bool.or_eq_true, Bool.and_eq_true] at g
      rcases g with g | ⟨g1, g2⟩
      ·
       have := hdd i (by omega) (by omega) g ((k : Int) :: w)
       unfold lang at this
       rw [← this]
      ·
       have hok := okRow_at (hr r (List.mem_of_getElem? hr')) hk
       rw [stp_at hr' hk]
       exact (hdd _ (of_decide_eq_true g1) hok.2 g2 w).symm
     ·
      rw [stp_at hr' hk, h4, lang_neg w (by omega)]
    ·
     have : i' = i := by omega
     subst this
     have : k' = k := by omega
     subst this
     rw [hr'] at h2; cases h2
     rw [h3, stp_at hr' hk]
     unfold alF
     split
     ·
      rename_i g
      rw [lang_neg w (by omega)]
      have hi : i' < l0.length := (List.getElem?_eq_some_iff.1 hr').1
      rw [Bool.or_eq_true, Bool.and_eq_true] at g
      rcases g with g | ⟨g1, g2⟩
      ·
       have := hdd i' (by omega) (by omega) g ((k' : Int) :: w)
       unfold lang at this
       rw [stp_at hr' hk] at this
       rw [← this]
      ·
       have hok := okRow_at (hr r (List.mem_of_getElem? hr')) hk
       exact (hdd _ (of_decide_eq_true g1) hok.2 g2 w).symm
     ·
      rfl
 ·
  rcases hst x c with h2 | ⟨i, k, r, rfl, rfl, hr', hk, h3⟩
  ·
   omega
  ·
   rw [h3] at h0 hd
   unfold alF at h0 hd
   split at h0
   ·
    omega
   ·
    rename_i g
    rw [if_neg g] at hd
    apply g
    have hok := okRow_at (hr r (List.mem_of_getElem? hr')) hk
    generalize r.toList[k]'(by rw [vlen]; exact hk) = z at h0 hd hok
    obtain ⟨q, rfl⟩ := Int.eq_ofNat_of_zero_le h0
    have h5 := (hy q (by have := hok.2; omega)).2 hd
    rw [Bool.or_eq_true, Bool.and_eq_true]
    exact .inr ⟨by simp, by unfold dQ; rw [Int.toNat_natCast, h5]; rfl⟩
end Go.Proofs.Ytnbnajjoinahiaa.AI
