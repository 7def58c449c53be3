/- Part of a proof. -/
import Derived.Test.YtnbnajjoinahiaaPT1
set_option linter.unusedVariables false
set_option linter.unusedSimpArgs false
set_option maxRecDepth 100000
namespace Go.Proofs.Ytnbnajjoinahiaa.AI
def tF (l0 : List (Vector Int 16)) (l1 : List Int) (y : List Bool) (i c : Nat) : Nat := if i = l1.length then l1.length else if cel l0 i c < 0 then l1.length else if dQ y (cel l0 i c) = true then l1.length else (cel l0 i c).toNat
theorem to_eq {N : Nat} {l0 : List (Vector Int 16)} {l1 : List Int} (h : RightP l0 l1) {y : List Bool} (hy : y.length = l0.length) {i c : Nat} (hi : i ≤ l1.length) (hc : c < 16) : ref08_to N l0 l1 y i c = some ((tF l0 l1 y i c : Nat) : Int) := by
 obtain ⟨_, hm, hl, hru, hr⟩ := id h
 unfold ref08_to tF
 by_cases g : i = l1.length
 ·
  rw [if_pos (by omega), if_pos g]
 have hi0 : i < l0.length := by omega
 have hrow : l0[i]? = some l0[i] := List.getElem?_eq_getElem hi0
 have hcl := cel_at hrow hc
 have hok := okRow_at (hr _ (List.getElem_mem hi0)) hc
 rw [if_neg (by omega), if_neg g, atI_get hi0, Option.bind_some, atI_get (by rw [vlen]; exact hc), Option.bind_some, hcl]
 generalize l0[i].toList[c]'(by rw [vlen]; exact hc) = x at hok
 by_cases g2 : x < 0
 ·
  rw [if_pos g2, if_pos g2]
 rw [if_neg g2, if_neg g2]
 have hq : atI y x = some (dQ y x) := by
  obtain ⟨q, rfl⟩ := Int.eq_ofNat_of_zero_le (show 0 ≤ x by omega)
  have hq : q < y.length := by have := hok.2; omega
  rw [atI_get hq]; unfold dQ; rw [Int.toNat_natCast, List.getElem?_eq_getElem hq]; rfl
 rw [hq, Option.bind_some]
 by_cases g3 : dQ y x = true
 ·
  rw [if_pos g3, if_pos g3]
 ·
  rw [if_neg g3, if_neg g3]; congr 1; omega
theorem lang_top {l0 : List (Vector Int 16)} {l1 : List Int} (hl : l1.length = l0.length) : ∀ w, lang l0 l1 w (l1.length : Int) = -1
 | [] => by unfold lang outc; rw [if_pos (by omega), Int.toNat_natCast, List.getElem?_eq_none (by omega)]; rfl
 | c :: w => by
  unfold lang
  rcases stp_cases (rows := l0) (l1.length : Int) c with h | ⟨i, k, r, hi, _, hr, _⟩
  ·
   rw [h]; exact lang_neg w (by omega)
  ·
   have := (List.getElem?_eq_some_iff.1 hr).1; omega
theorem tF_le {l0 : List (Vector Int 16)} {l1 : List Int} (h : RightP l0 l1) {y : List Bool} {i c : Nat} (hi : i ≤ l1.length) (hc : c < 16) : tF l0 l1 y i c ≤ l1.length := by
 obtain ⟨_, hm, hl, hru, hr⟩ := id h
 unfold tF
 by_cases g : i = l1.length
 ·
  rw [if_pos g]; exact Nat.le_refl _
 rw [if_neg g]
 have hi0 : i < l0.length := by omega
 have hok := okRow_at (hr _ (List.getElem_mem hi0)) hc
 rw [cel_at (List.getElem?_eq_getElem hi0) hc]
 generalize l0[i].toList[c]'(by rw [vlen]; exact hc) = x at hok
 have := hok.2
 split
 ·
  exact Nat.le_refl _
 ·
  split
  ·
   exact Nat.le_refl _
  ·
   omega
theorem tF_lang {l0 : List (Vector Int 16)} {l1 : List Int} (h : RightP l0 l1) {y : List Bool} (hy : y.length = l0.length) (hd : ∀ i : Nat, i < l0.length → (y[i]? = some true ↔ Dd l0 l1 i)) {i c : Nat} (hi : i ≤ l1.length) (hc : c < 16) (w : List Int) : lang l0 l1 w (tF l0 l1 y i c : Nat) = lang l0 l1 w (stp l0 i c) := by
 obtain ⟨_, hm, hl, hru, hr⟩ := id h
 have htop := lang_top (l0 := l0) hl w
 unfold tF
 by_cases g : i = l1.length
 ·
  rw [if_pos g, htop]
  rcases stp_cases (rows := l0) (i : Int) c with h' | ⟨i', k, r, hi', _, hr', _⟩
  ·
   rw [h', lang_neg w (by omega)]
  ·
   have := (List.getElem?_eq_some_iff.1 hr').1; omega
 rw [if_neg g]
 have hi0 : i < l0.length := by omega
 have hrow : l0[i]? = some l0[i] := List.getElem?_eq_getElem hi0
 have hok := okRow_at (hr _ (List.getElem_mem hi0)) hc
 rw [cel_at hrow hc, stp_at hrow hc]
 generalize l0[i].toList[c]'(by rw [vlen]; exact hc) = x at hok
 by_cases g2 : x < 0
 ·
  rw [if_pos g2, htop, lang_neg w g2]
 rw [if_neg g2]
 obtain ⟨q, rfl⟩ := Int.eq_ofNat_of_zero_le (show 0 ≤ x by omega)
 have hq : q < l0.length := by have := hok.2; omega
 by_cases g3 : dQ y (q : Int) = true
 ·
  rw [if_pos g3, htop]
  have h5 := dQ_get (y := y) (x := (q : Int)) (by omega) (by omega)
  rw [g3, Int.toNat_natCast] at h5
  exact ((hd q hq).1 h5 w).symm
 ·
  rw [if_neg g3, Int.toNat_natCast]
def gT (T : List (List Bool)) (i k : Nat) : Bool := ((T[i]?).bind fun r => r[k]?).getD false
theorem gT_at {T : List (List Bool)} {i k : Nat} {r : List Bool} (h : T[i]? = some r) (hk : k < r.length) : r[k]? = some (gT T i k) := by
 unfold gT; rw [h, Option.bind_some, List.getElem?_eq_getElem hk]; rfl
structure TJ (l0 : List (Vector Int 16)) (l1 : List Int) (m : Nat) (T : List (List Bool)) : Prop where
 len : T.length = m
 rows : ∀ r ∈ T, r.length = m
 sound : ∀ i k : Nat, i < m → k < m → gT T i k = true → ∃ w, lang l0 l1 w i ≠ lang l0 l1 w k
 sym : ∀ i k : Nat, i < m → k < m → gT T i k = gT T k i
 init : ∀ i k : Nat, i < m → k < m → gT T i k = false → outc l1 i = outc l1 k
theorem TJ.row {l0 : List (Vector Int 16)} {l1 : List Int} {m : Nat} {T : List (List Bool)} (h : TJ l0 l1 m T) {i : Nat} (hi : i < m) : ∃ r, T[i]? = some r ∧ r.length = m := by
 have hl := h.len
 exact ⟨T[i]'(by omega), List.getElem?_eq_getElem _, h.rows _ (List.getElem_mem _)⟩
def up (T : List (List Bool)) (i k : Nat) : List (List Bool) := match T[i]? with
 | some r => T.set i (r.set k true)
 | none => T
theorem up_at {T : List (List Bool)} {i k : Nat} {r : List Bool} (h : T[i]? = some r) : up T i k = T.set i (r.set k true) := by unfold up; rw [h]
theorem gT_up {T : List (List Bool)} {i k : Nat} {r : List Bool} (h : T[i]? = some r) (hk : k < r.length) (a b : Nat) : gT (up T i k) a b = if a = i ∧ b = k then true else gT T a b := by
 have hi := (List.getElem?_eq_some_iff.1 h).1
 rw [up_at h]
 unfold gT
 by_cases ha : a = i
 ·
  subst ha
  rw [List.getElem?_set_self hi, h, Option.bind_some, Option.bind_some]
  by_cases hb : b = k
  ·
   subst hb; rw [List.getElem?_set_self hk, if_pos ⟨rfl, rfl⟩]; rfl
  ·
   rw [List.getElem?_set_ne (Ne.symm hb), if_neg (fun q => hb q.2)]
 ·
  rw [List.getElem?_set_ne (Ne.symm ha), if_neg (fun q => ha q.1)]
def cntT : List (List Bool) → Nat
 | [] => 0
 | r :: T => cnt r + cntT T
theorem cntT_le {m : Nat} : ∀ {T : List (List Bool)}, (∀ r ∈ T, r.length = m) → cntT T ≤ T.length * m
 | [], _ => Nat.zero_le _
 | r :: T, h => by
  have h1 := cntT_le (m := m) (T := T) (fun x hx => h x (List.mem_cons_of_mem _ hx))
  have h2 := cnt_le r
  have h3 := h r List.mem_cons_self
  simp only [cntT, List.length_cons, Nat.add_mul, Nat.one_mul]
  omega
theorem cntT_set : ∀ {T : List (List Bool)} {i : Nat} {r r' : List Bool}, T[i]? = some r → cntT (T.set i r') + cnt r = cntT T + cnt r'
 | [], i, r, r', h => by simp at h
 | x :: T, 0, r, r', h => by simp at h; subst h; simp only [List.set_cons_zero, cntT]; omega
 | x :: T, i + 1, r, r', h => by have := cntT_set (T := T) (i := i) (r := r) (r' := r') (by simpa using h); simp only [List.set_cons_succ, cntT]; omega
theorem cntT_up {T : List (List Bool)} {i k : Nat} {r : List Bool} (h : T[i]? = some r) (hk : k < r.length) (hf : gT T i k = false) : cntT (up T i k) = cntT T + 1 := by
 have h1 := gT_at h hk
 rw [hf] at h1
 have h2 := cnt_up h1
 have h3 := cntT_set (r' := r.set k true) h
 rw [up_at h]; omega
theorem TJ.up2 {l0 : List (Vector Int 16)} {l1 : List Int} {m : Nat} {T : List (List Bool)} (h : TJ l0 l1 m T) {i k : Nat} (hi : i < m) (hk : k < m) (hne : k ≠ i) (hf : gT T i k = false) (hw : ∃ w, lang l0 l1 w i ≠ lang l0 l1 w k) :
  ∃ r r2, T[i]? = some r ∧ (T.set i (r.set k true))[k]? = some r2 ∧ i < r2.length ∧ TJ l0 l1 m ((T.set i (r.set k true)).set k (r2.set i true)) ∧ cntT T < cntT ((T.set i (r.set k true)).set k (r2.set i true)) ∧ gT ((T.set i (r.set k true)).set k (r2.set i true)) i k = true := by
 obtain ⟨r, hr, hrl⟩ := h.row hi
 obtain ⟨r2, hr2, hrl2⟩ := h.row hk
 have hlen := h.len
 have h2 : (T.set i (r.set k true))[k]? = some r2 := by rw [List.getElem?_set_ne (Ne.symm hne)]; exact hr2
 have e1 : T.set i (r.set k true) = up T i k := (up_at hr).symm
 have g1 := gT_up hr (k := k) (by omega)
 rw [e1] at h2
 have g2 := gT_up h2 (k := i) (by omega)
 have c1 := cntT_up hr (by omega) hf
 have hf2 : gT (up T i k) k i = false := by rw [g1, if_neg (fun q => hne q.1), h.sym k i hk hi, hf]
 have c2 := cntT_up h2 (by omega) hf2
 have hg : ∀ a b, gT (up (up T i k) k i) a b = if (a = k ∧ b = i) ∨ (a = i ∧ b = k) then true else gT T a b := fun a b => by
  rw [g2, g1]
  by_cases q1 : a = k ∧ b = i
  ·
   rw [if_pos q1, if_pos (.inl q1)]
  ·
   rw [if_neg q1]
   by_cases q2 : a = i ∧ b = k
   ·
    rw [if_pos q2, if_pos (.inr q2)]
   ·
    rw [if_neg q2, if_neg (fun q => q.elim q1 q2)]
 refine ⟨r, r2, hr, by rw [e1]; exact h2, by omega, ?_, ?_, ?_⟩
 ·
  rw [e1, ← up_at h2]
  refine ⟨?_, ?_, ?_, ?_, ?_⟩
  ·
   rw [up_at h2, ← e1]; simpa using hlen
  ·
   rw [up_at h2, ← e1]
   intro x hx
   rcases List.mem_or_eq_of_mem_set hx with hx | hx
   ·
    rcases List.mem_or_eq_of_mem_set hx with hx | hx
    ·
     exact h.rows x hx
    ·
     rw [hx]; simpa using hrl
   ·
    rw [hx]; simpa using hrl2
  ·
   intro a b ha hb hab
   rw [hg] at hab
   split at hab
   ·
    rename_i q
    rcases q with ⟨rfl, rfl⟩ | ⟨rfl, rfl⟩
    ·
     obtain ⟨w, hw⟩ := hw; exact ⟨w, Ne.symm hw⟩
    ·
     exact hw
   ·
    exact h.sound a b ha hb hab
  ·
   intro a b ha hb
   rw [hg, hg, h.sym a b ha hb]
   by_cases q : (a = k ∧ b = i) ∨ (a = i ∧ b = k)
   ·
    rw [if_pos q, if_pos (q.symm.imp And.symm And.symm)]
   ·
    rw [if_neg q, if_neg (fun p => q (p.symm.imp And.symm And.symm))]
  ·
   intro a b ha hb hab
   rw [hg] at hab
   split at hab
   ·
    cases hab
   ·
    exact h.init a b ha hb hab
 ·
  rw [e1, ← up_at h2]; omega
 ·
  rw [e1, ← up_at h2, hg, if_pos (.inr ⟨rfl, rfl⟩)]
theorem raI_eq {l1 : List Int} {i : Nat} (hi : i ≤ l1.length) : raI l1 (i : Int) = some (outc l1 i) := by
  unfold raI
  by_cases h : i < l1.length
  · rw [if_pos (by omega), outc_at h, atI_get h]
  · rw [if_neg (by omega)]; unfold outc; rw [if_pos (by omega), Int.toNat_natCast, List.getElem?_eq_none (by omega)]; rfl
def rowI (l1 : List Int) (m i : Nat) : List Bool := (List.range m).map fun j : Nat => decide (¬ outc l1 (i : Int) = outc l1 (j : Int))
theorem rowI_len (l1 : List Int) (m i : Nat) : (rowI l1 m i).length = m := by simp [rowI]
theorem ap1 {N : Nat} {l0 : List (Vector Int 16)} {l1 : List Int} (hm : l1.length ≤ 1000) {i : Nat} (hi : i ≤ l1.length) : ∀ (d k n : Nat) (T : List (List Bool)) (R : List Bool), k + d = l1.length + 1 → d < n → R.length = d → T[i]? = some ((rowI l1 (l1.length + 1) i).take k ++ R) →
  ref08_Alike_L1 N l0 l1 i n k T = some (T.set i (rowI l1 (l1.length + 1) i)) := by
 intro d
 induction d with
 | zero =>
  intro k n T R hk hn hR hT
  obtain ⟨n, rfl⟩ : ∃ x, n = x + 1 := ⟨n - 1, by omega⟩
  rw [ref08_Alike_L1, if_neg (by omega)]
  rw [List.eq_nil_of_length_eq_zero hR, List.append_nil, List.take_of_length_le (by rw [rowI_len]; omega)] at hT
  congr 1
  refine List.ext_getElem? fun j => ?_
  rw [List.getElem?_set]
  split
  ·
   rename_i e; subst e; rw [hT, if_pos (List.getElem?_eq_some_iff.1 hT).1]
  ·
   rfl
 | succ d ih =>
  intro k n T R hk hn hR hT
  obtain ⟨n, rfl⟩ : ∃ x, n = x + 1 := ⟨n - 1, by omega⟩
  obtain ⟨b, R, rfl⟩ : ∃ r R', R = r :: R' := by cases R with | nil => simp at hR | cons r R => exact ⟨r, R, rfl⟩
  have hiT := (List.getElem?_eq_some_iff.1 hT).1
  have hkr : k < (rowI l1 (l1.length + 1) i).length := by rw [rowI_len]; omega
  have hA : ((rowI l1 (l1.length + 1) i).take k).length = k := by rw [List.length_take]; omega
  have hrk : (rowI l1 (l1.length + 1) i)[k] = decide (¬ outc l1 (i : Int) = outc l1 (k : Int)) := by simp [rowI]
  rw [ref08_Alike_L1, if_pos (by omega), raI_eq hi, Option.bind_some, raI_eq (show k ≤ l1.length by omega), Option.bind_some, atI_at hT, Option.bind_some, atI_at (x := b) (by rw [List.getElem?_append_right (by omega), hA, Nat.sub_self]; rfl), Option.bind_some, wk (by omega), Int.toNat_natCast, Int.toNat_natCast]
  have e1 : ((rowI l1 (l1.length + 1) i).take k ++ b :: R).set k (decide (¬ outc l1 (i : Int) = outc l1 (k : Int))) = (rowI l1 (l1.length + 1) i).take (k + 1) ++ R := by
   rw [List.set_append_right _ _ (by omega), hA, Nat.sub_self, List.set_cons_zero, List.take_succ_eq_append_getElem hkr, hrk]; simp
  rw [e1, ih (k + 1) n (T.set i ((rowI l1 (l1.length + 1) i).take (k + 1) ++ R)) R (by omega) (by omega) (by simpa using hR) (List.getElem?_set_self hiT), List.set_set]
theorem ap2 {N : Nat} (hN : 1000000000000 < N) {l0 : List (Vector Int 16)} {l1 : List Int} (hm : l1.length ≤ 1000) : ∀ (d i n : Nat), i + d = l1.length + 1 → d < n →
  ref08_Alike_L2 N l0 l1 (l1.length + 1) n i ((List.range i).map (rowI l1 (l1.length + 1))) = some ((List.range (l1.length + 1)).map (rowI l1 (l1.length + 1))) := by
 intro d
 induction d with
 | zero =>
  intro i n hi hn
  obtain ⟨n, rfl⟩ : ∃ x, n = x + 1 := ⟨n - 1, by omega⟩
  rw [ref08_Alike_L2, if_neg (by omega), show i = l1.length + 1 by omega]
 | succ d ih =>
  intro i n hi hn
  obtain ⟨n, rfl⟩ : ∃ x, n = x + 1 := ⟨n - 1, by omega⟩
  have e1 := ap1 (N := N) (l0 := l0) hm (i := i) (by omega) (l1.length + 1) 0 N ((List.range i).map (rowI l1 (l1.length + 1)) ++ [List.replicate (l1.length + 1) false]) (List.replicate (l1.length + 1) false) (by omega) (by omega) (by simp) (by
   rw [List.getElem?_append_right (by simp)]; simp)
  have e2 : ((List.range i).map (rowI l1 (l1.length + 1)) ++ [List.replicate (l1.length + 1) false]).set i (rowI l1 (l1.length + 1) i) = (List.range (i + 1)).map (rowI l1 (l1.length + 1)) := by
   rw [List.set_append_right _ _ (by simp), List.length_map, List.length_range, Nat.sub_self, List.set_cons_zero, List.range_succ, List.map_append]; rfl
  rw [e2] at e1
  rw [ref08_Alike_L2, if_pos (by omega), if_pos (by simp), show ref08_Alike_L1 N l0 l1 i N 0 _ = _ from e1, Option.bind_some, if_pos (by simp), wk (by omega)]
  exact ih (i + 1) n (by omega) (by omega)
theorem tj0 {l0 : List (Vector Int 16)} {l1 : List Int} : TJ l0 l1 (l1.length + 1) ((List.range (l1.length + 1)).map (rowI l1 (l1.length + 1))) := by
 have hg : ∀ i k : Nat, i < l1.length + 1 → k < l1.length + 1 → gT ((List.range (l1.length + 1)).map (rowI l1 (l1.length + 1))) i k = decide (¬ outc l1 (i : Int) = outc l1 (k : Int)) := fun i k hi hk => by
  unfold gT
  rw [List.getElem?_map, List.getElem?_range hi, Option.map_some, Option.bind_some]
  unfold rowI
  rw [List.getElem?_map, List.getElem?_range hk]; rfl
 refine ⟨by simp, fun r hr => ?_, fun i k hi hk h => ?_, fun i k hi hk => ?_, fun i k hi hk h => ?_⟩
 ·
  obtain ⟨i, _, rfl⟩ := List.mem_map.1 hr; exact rowI_len _ _ _
 ·
  rw [hg i k hi hk] at h
  exact ⟨[], of_decide_eq_true h⟩
 ·
  rw [hg i k hi hk, hg k i hk hi]
  exact decide_eq_decide.2 ⟨Ne.symm, Ne.symm⟩
 ·
  rw [hg i k hi hk] at h
  exact Decidable.not_not.1 (of_decide_eq_false h)
section
variable {N : Nat} {l0 : List (Vector Int 16)} {l1 : List Int} {y : List Bool}
def Cl (l0 : List (Vector Int 16)) (l1 : List Int) (y : List Bool) (T : List (List Bool)) (i k : Nat) : Prop := gT T i k = true ∨ ∀ c, c < 16 → gT T (tF l0 l1 y i c) (tF l0 l1 y k c) = false
theorem ap3 (h : RightP l0 l1) (hy : y.length = l0.length) (hd : ∀ i : Nat, i < l0.length → (y[i]? = some true ↔ Dd l0 l1 i)) {i k : Nat} (hi : i < l1.length + 1) (hk : k < i) : ∀ (d c n : Nat) (q : Bool) (T : List (List Bool)), c + d = 16 → d < n → TJ l0 l1 (l1.length + 1) T →
  ∃ q' T', ref08_Alike_L3 N l0 l1 y i k n c q T = some (q', T') ∧ TJ l0 l1 (l1.length + 1) T' ∧
   ((q' = q ∧ T' = T ∧ (gT T i k = true ∨ ∀ c', c ≤ c' → c' < 16 → gT T (tF l0 l1 y i c') (tF l0 l1 y k c') = false)) ∨ (q' = true ∧ cntT T < cntT T')) := by
 intro d
 induction d with
 | zero =>
  intro c n q T hc hn hJ
  obtain ⟨n, rfl⟩ : ∃ x, n = x + 1 := ⟨n - 1, by omega⟩
  rw [ref08_Alike_L3, if_neg (by omega)]
  exact ⟨q, T, rfl, hJ, .inl ⟨rfl, rfl, .inr fun c' h1 h2 => by omega⟩⟩
 | succ d ih =>
  intro c n q T hc hn hJ
  obtain ⟨n, rfl⟩ : ∃ x, n = x + 1 := ⟨n - 1, by omega⟩
  obtain ⟨r, hr, hrl⟩ := hJ.row hi
  have hc16 : c < 16 := by omega
  rw [ref08_Alike_L3, if_pos (by omega), atI_at hr, Option.bind_some, atI_at (gT_at hr (show k < r.length by omega)), Option.bind_some]
  by_cases g : gT T i k = true
  ·
   rw [if_pos g]; exact ⟨q, T, rfl, hJ, .inl ⟨rfl, rfl, .inl g⟩⟩
  rw [if_neg g, to_eq h hy (by omega) hc16, Option.bind_some, to_eq h hy (show k ≤ l1.length by omega) hc16, Option.bind_some]
  have ha := tF_le h (y := y) (show i ≤ l1.length by omega) hc16
  have hb := tF_le h (y := y) (show k ≤ l1.length by omega) hc16
  obtain ⟨ra, hra, hral⟩ := hJ.row (show tF l0 l1 y i c < l1.length + 1 by omega)
  have gf : gT T i k = false := by cases hh : gT T i k with | true => exact absurd hh g | false => rfl
  rw [atI_at hra, Option.bind_some, atI_at (gT_at hra (show tF l0 l1 y k c < ra.length by omega)), Option.bind_some, if_neg (by omega), wk (by omega)]
  by_cases g2 : gT T (tF l0 l1 y i c) (tF l0 l1 y k c) = true
  ·
   rw [if_pos g2]
   obtain ⟨w, hw⟩ := hJ.sound _ _ (by omega) (by omega) g2
   rw [tF_lang h hy hd (show i ≤ l1.length by omega) hc16, tF_lang h hy hd (show k ≤ l1.length by omega) hc16] at hw
   obtain ⟨r', r2, hr', hr2, hr2l, hJ2, hcn, hgt⟩ := hJ.up2 hi (show k < l1.length + 1 by omega) (by omega) gf ⟨(c : Int) :: w, hw⟩
   rw [hr] at hr'; cases hr'
   obtain ⟨q', T', e, h1, h2⟩ := ih (c + 1) n true _ (by omega) (by omega) hJ2
   rw [Int.toNat_natCast, Int.toNat_natCast, atI_at hr2, Option.bind_some, atI_get hr2l, Option.bind_some]
   refine ⟨q', T', e, h1, .inr ?_⟩
   rcases h2 with ⟨h2, h3, _⟩ | ⟨h2, h3⟩
   ·
    exact ⟨h2, by rw [h3]; exact hcn⟩
   ·
    exact ⟨h2, by omega⟩
  ·
   rw [if_neg g2]
   have g2f : gT T (tF l0 l1 y i c) (tF l0 l1 y k c) = false := by cases hh : gT T (tF l0 l1 y i c) (tF l0 l1 y k c) with | true => exact absurd hh g2 | false => rfl
   obtain ⟨q', T', e, h1, h2⟩ := ih (c + 1) n q T (by omega) (by omega) hJ
   refine ⟨q', T', e, h1, ?_⟩
   rcases h2 with ⟨h2, h3, h4⟩ | h2
   ·
    refine .inl ⟨h2, h3, ?_⟩
    rcases h4 with h4 | h4
    ·
     exact .inl h4
    ·
     refine .inr fun c' h5 h6 => ?_
     rcases Nat.lt_or_ge c c' with h7 | h7
     ·
      exact h4 c' h7 h6
     ·
      have : c' = c := by omega
      subst this; exact g2f
   ·
    exact .inr h2
theorem ap4 (hN : 1000000000000 < N) (h : RightP l0 l1) (hy : y.length = l0.length) (hd : ∀ i : Nat, i < l0.length → (y[i]? = some true ↔ Dd l0 l1 i)) {i : Nat} (hi : i < l1.length + 1) : ∀ (d k n : Nat) (q : Bool) (T : List (List Bool)), k + d = i → d < n → TJ l0 l1 (l1.length + 1) T →
  ∃ q' T', ref08_Alike_L4 N l0 l1 y i n k q T = some (q', T') ∧ TJ l0 l1 (l1.length + 1) T' ∧ ((q' = q ∧ T' = T ∧ ∀ k', k ≤ k' → k' < i → Cl l0 l1 y T i k') ∨ (q' = true ∧ cntT T < cntT T')) := by
 obtain ⟨_, hm, hl, _, _⟩ := id h
 intro d
 induction d with
 | zero =>
  intro k n q T hk hn hJ
  obtain ⟨n, rfl⟩ : ∃ x, n = x + 1 := ⟨n - 1, by omega⟩
  rw [ref08_Alike_L4, if_neg (by omega)]
  exact ⟨q, T, rfl, hJ, .inl ⟨rfl, rfl, fun k' h1 h2 => by omega⟩⟩
 | succ d ih =>
  intro k n q T hk hn hJ
  obtain ⟨n, rfl⟩ : ∃ x, n = x + 1 := ⟨n - 1, by omega⟩
  obtain ⟨q1, T1, e1, hJ1, h1⟩ := ap3 (N := N) h hy hd hi (show k < i by omega) 16 0 N q T (by omega) (by omega) hJ
  rw [ref08_Alike_L4, if_pos (by omega), show ref08_Alike_L3 N l0 l1 y i k N 0 q T = _ from e1, Option.bind_some]
  simp only
  rw [wk (by omega)]
  obtain ⟨q', T', e, h2, h3⟩ := ih (k + 1) n q1 T1 (by omega) (by omega) hJ1
  refine ⟨q', T', e, h2, ?_⟩
  rcases h1 with ⟨rfl, rfl, h1⟩ | ⟨rfl, h1⟩
  ·
   rcases h3 with ⟨h3, h4, h5⟩ | h3
   ·
    refine .inl ⟨h3, h4, fun k' h6 h7 => ?_⟩
    rcases Nat.lt_or_ge k k' with h8 | h8
    ·
     exact h5 k' h8 h7
    ·
     have : k' = k := by omega
     subst this
     rcases h1 with h1 | h1
     ·
      exact .inl h1
     ·
      exact .inr fun c hc => h1 c (Nat.zero_le _) hc
   ·
    exact .inr h3
  ·
   refine .inr ?_
   rcases h3 with ⟨h3, h4, _⟩ | ⟨h3, h4⟩
   ·
    exact ⟨h3, by rw [h4]; exact h1⟩
   ·
    exact ⟨h3, by omega⟩
theorem ap5 (hN : 1000000000000 < N) (h : RightP l0 l1) (hy : y.length = l0.length) (hd : ∀ i : Nat, i < l0.length → (y[i]? = some true ↔ Dd l0 l1 i)) : ∀ (d i n : Nat) (q : Bool) (T : List (List Bool)), i + d = l1.length + 1 → d < n → TJ l0 l1 (l1.length + 1) T →
  ∃ q' T', ref08_Alike_L5 N l0 l1 y n i q T = some (q', T') ∧ TJ l0 l1 (l1.length + 1) T' ∧ ((q' = q ∧ T' = T ∧ ∀ i', i ≤ i' → i' < l1.length + 1 → ∀ k', k' < i' → Cl l0 l1 y T i' k') ∨ (q' = true ∧ cntT T < cntT T')) := by
 obtain ⟨_, hm, hl, _, _⟩ := id h
 intro d
 induction d with
 | zero =>
  intro i n q T hi hn hJ
  obtain ⟨n, rfl⟩ : ∃ x, n = x + 1 := ⟨n - 1, by omega⟩
  rw [ref08_Alike_L5, if_neg (by omega)]
  exact ⟨q, T, rfl, hJ, .inl ⟨rfl, rfl, fun k' h1 h2 => by omega⟩⟩
 | succ d ih =>
  intro i n q T hi hn hJ
  obtain ⟨n, rfl⟩ : ∃ x, n = x + 1 := ⟨n - 1, by omega⟩
  obtain ⟨q1, T1, e1, hJ1, h1⟩ := ap4 hN h hy hd (show i < l1.length + 1 by omega) i 0 N q T (by omega) (by omega) hJ
  rw [ref08_Alike_L5, if_pos (by omega), show ref08_Alike_L4 N l0 l1 y i N 0 q T = _ from e1, Option.bind_some]
  simp only
  rw [wk (by omega)]
  obtain ⟨q', T', e, h2, h3⟩ := ih (i + 1) n q1 T1 (by omega) (by omega) hJ1
  refine ⟨q', T', e, h2, ?_⟩
  rcases h1 with ⟨rfl, rfl, h1⟩ | ⟨rfl, h1⟩
  ·
   rcases h3 with ⟨h3, h4, h5⟩ | h3
   ·
    refine .inl ⟨h3, h4, fun i' h6 h7 k' hk' => ?_⟩
    rcases Nat.lt_or_ge i i' with h8 | h8
    ·
     exact h5 i' h8 h7 k' hk'
    ·
     have : i' = i := by omega
     subst this
     exact h1 k' (Nat.zero_le _) hk'
   ·
    exact .inr h3
  ·
   refine .inr ?_
   rcases h3 with ⟨h3, h4, _⟩ | ⟨h3, h4⟩
   ·
    exact ⟨h3, by rw [h4]; exact h1⟩
   ·
    exact ⟨h3, by omega⟩
theorem ap6 (hN : 1000000000000 < N) (h : RightP l0 l1) (hy : y.length = l0.length) (hd : ∀ i : Nat, i < l0.length → (y[i]? = some true ↔ Dd l0 l1 i)) : ∀ (d n : Nat) (T : List (List Bool)), (l1.length + 1) * (l1.length + 1) ≤ cntT T + d → d + 1 < n → TJ l0 l1 (l1.length + 1) T →
  ∃ T', ref08_Alike_L6 N l0 l1 y n true T = some T' ∧ TJ l0 l1 (l1.length + 1) T' ∧ ∀ i', i' < l1.length + 1 → ∀ k', k' < i' → Cl l0 l1 y T' i' k' := by
 obtain ⟨_, hm, hl, _, _⟩ := id h
 intro d
 induction d with
 | zero =>
  intro n T hd' hn hJ
  obtain ⟨n, rfl⟩ : ∃ x, n = x + 2 := ⟨n - 2, by omega⟩
  obtain ⟨q1, T1, e1, hJ1, h1⟩ := ap5 hN h hy hd (l1.length + 1) 0 N false T (by omega) (by omega) hJ
  rw [ref08_Alike_L6, if_pos rfl, show ref08_Alike_L5 N l0 l1 y N 0 false T = _ from e1, Option.bind_some]
  simp only
  rcases h1 with ⟨rfl, rfl, h1⟩ | ⟨rfl, h1⟩
  ·
   rw [ref08_Alike_L6, if_neg (by simp)]
   exact ⟨T1, rfl, hJ1, fun i' h2 => h1 i' (Nat.zero_le _) h2⟩
  ·
   have := cntT_le (T := T1) hJ1.rows
   rw [hJ1.len] at this; omega
 | succ d ih =>
  intro n T hd' hn hJ
  obtain ⟨n, rfl⟩ : ∃ x, n = x + 2 := ⟨n - 2, by omega⟩
  obtain ⟨q1, T1, e1, hJ1, h1⟩ := ap5 hN h hy hd (l1.length + 1) 0 N false T (by omega) (by omega) hJ
  rw [ref08_Alike_L6, if_pos rfl, show ref08_Alike_L5 N l0 l1 y N 0 false T = _ from e1, Option.bind_some]
  simp only
  rcases h1 with ⟨rfl, rfl, h1⟩ | ⟨rfl, h1⟩
  ·
   rw [ref08_Alike_L6, if_neg (by simp)]
   exact ⟨T1, rfl, hJ1, fun i' h2 => h1 i' (Nat.zero_le _) h2⟩
  ·
   exact ih (n + 1) T1 (by omega) (by omega) hJ1
theorem ap_end (h : RightP l0 l1) (hy : y.length = l0.length) (hd : ∀ i : Nat, i < l0.length → (y[i]? = some true ↔ Dd l0 l1 i)) {T : List (List Bool)} (hJ : TJ l0 l1 (l1.length + 1) T) (hC : ∀ i', i' < l1.length + 1 → ∀ k', k' < i' → Cl l0 l1 y T i' k') :
  ∀ (w : List Int) (i k : Nat), i < l1.length + 1 → k < l1.length + 1 → gT T i k = false → lang l0 l1 w i = lang l0 l1 w k := by
 intro w
 induction w with
 | nil => intro i k hi hk hg; exact hJ.init i k hi hk hg
 | cons c w ih =>
  intro i k hi hk hg
  unfold lang
  by_cases hc : 0 ≤ c ∧ c < 16
  ·
   obtain ⟨c, rfl⟩ := Int.eq_ofNat_of_zero_le hc.1
   have hc16 : c < 16 := by omega
   rw [← tF_lang h hy hd (show i ≤ l1.length by omega) hc16, ← tF_lang h hy hd (show k ≤ l1.length by omega) hc16]
   have ha := tF_le h (y := y) (show i ≤ l1.length by omega) hc16
   have hb := tF_le h (y := y) (show k ≤ l1.length by omega) hc16
   rcases Nat.lt_trichotomy k i with h1 | h1 | h1
   ·
    rcases hC i hi k h1 with h2 | h2
    ·
     rw [hg] at h2; cases h2
    ·
     exact ih _ _ (by omega) (by omega) (h2 c hc16)
   ·
    subst h1; rfl
   ·
    rw [hJ.sym i k hi hk] at hg
    rcases hC k hk i h1 with h2 | h2
    ·
     rw [hg] at h2; cases h2
    ·
     exact (ih _ _ (by omega) (by omega) (h2 c hc16)).symm
  ·
   have hz : ∀ x : Int, stp l0 x c = -1 := fun x => by
    rcases stp_cases (rows := l0) x c with h | ⟨_, k, _, _, rfl, _, hk⟩
    ·
     exact h
    ·
     omega
   rw [hz, hz]
theorem ap7 (hm : l1.length ≤ 1000) {T : List (List Bool)} {i : Nat} {r : List Bool} (hr : T[i]? = some r) (hrl : l1.length ≤ r.length) : ∀ (d k n : Nat) (A R : List Bool), k + d = l1.length → d < n → A.length = k → R.length = d →
  ref08_Alike_L7 N l1 T i n k (A ++ R) = some (A ++ (List.range' k d).map fun j => !gT T i j) := by
 intro d
 induction d with
 | zero =>
  intro k n A R hk hn hA hR
  obtain ⟨n, rfl⟩ : ∃ x, n = x + 1 := ⟨n - 1, by omega⟩
  rw [ref08_Alike_L7, if_neg (by omega), List.eq_nil_of_length_eq_zero hR]; rfl
 | succ d ih =>
  intro k n A R hk hn hA hR
  obtain ⟨n, rfl⟩ : ∃ x, n = x + 1 := ⟨n - 1, by omega⟩
  obtain ⟨b, R, rfl⟩ : ∃ r R', R = r :: R' := by cases R with | nil => simp at hR | cons r R => exact ⟨r, R, rfl⟩
  have e1 : (A ++ b :: R).set k (!gT T i k) = (A ++ [!gT T i k]) ++ R := by subst hA; simp
  rw [ref08_Alike_L7, if_pos (by omega), atI_at hr, Option.bind_some, atI_at (gT_at hr (show k < r.length by omega)), Option.bind_some, atI_at (x := b) (by subst hA; simp), Option.bind_some, wk (by omega), Int.toNat_natCast, e1, ih (k + 1) n _ R (by omega) (by omega) (by simp [hA]) (by simpa using hR), List.range'_succ]
  simp only [List.map_cons, List.append_assoc, List.cons_append, List.nil_append]
theorem ap8 (hN : 1000000000000 < N) (hm : l1.length ≤ 1000) {T : List (List Bool)} (hT : T.length = l1.length + 1) (hr : ∀ r ∈ T, r.length = l1.length + 1) : ∀ (d i n : Nat) (s : List (List Bool)), i + d = l1.length → d < n → s.length = i →
  ref08_Alike_L8 N l1 T n i s = some (s ++ (List.range' i d).map fun j => (List.range l1.length).map fun k => !gT T j k) := by
 intro d
 induction d with
 | zero =>
  intro i n s hi hn hs
  obtain ⟨n, rfl⟩ : ∃ x, n = x + 1 := ⟨n - 1, by omega⟩
  rw [ref08_Alike_L8, if_neg (by omega)]; simp
 | succ d ih =>
  intro i n s hi hn hs
  obtain ⟨n, rfl⟩ : ∃ x, n = x + 1 := ⟨n - 1, by omega⟩
  have hiT : i < T.length := by omega
  have hrow : T[i]? = some T[i] := List.getElem?_eq_getElem hiT
  have e7 := ap7 (N := N) hm hrow (by rw [hr _ (List.getElem_mem hiT)]; omega) l1.length 0 N [] (List.replicate l1.length false) (by omega) (by omega) rfl (by simp)
  rw [List.nil_append, List.nil_append, ← List.range_eq_range'] at e7
  rw [ref08_Alike_L8, if_pos (by omega), if_pos (by omega), show ref08_Alike_L7 N l1 T i N 0 _ = _ from e7, Option.bind_some, if_pos (by omega), wk (by omega), ih (i + 1) n _ (by omega) (by omega) (by simp [hs]), List.range'_succ]
  simp only [List.map_cons, List.append_assoc, List.cons_append, List.nil_append]
end
theorem ralike_sem {N : Nat} (hN : 1000000000000 < N) {l0 : List (Vector Int 16)} {l1 : List Int} (h : RightP l0 l1) : ∃ g : Nat → Nat → Bool, ref08_Alike N l0 l1 = some ((List.range l1.length).map fun i => (List.range l1.length).map fun k => g i k) ∧ ∀ i k : Nat, i < l1.length → k < l1.length → (g i k = true ↔ ∀ w, lang l0 l1 w i = lang l0 l1 w k) := by
 obtain ⟨_, hm, hl, _, _⟩ := id h
 obtain ⟨y, ey, hyl, hd⟩ := rdead_sem hN h
 have e2 := ap2 (l0 := l0) hN (l1 := l1) (by omega) (l1.length + 1) 0 N (by omega) (by omega)
 have hsq : (l1.length + 1) * (l1.length + 1) ≤ 201 * 201 := Nat.mul_le_mul (by omega) (by omega)
 obtain ⟨T, e6, hJ, hC⟩ := ap6 hN h hyl hd 40401 N _ (by omega) (by omega) tj0
 have e8 := ap8 hN (l1 := l1) (by omega) hJ.len hJ.rows l1.length 0 N [] (by omega) (by omega) rfl
 rw [List.nil_append, ← List.range_eq_range'] at e8
 have hall : (T.all fun r => r.length == l1.length + 1) = true := by
  rw [List.all_eq_true]; intro r hr; simpa using hJ.rows r hr
 refine ⟨fun i k => !gT T i k, ?_, fun i k hi hk => ?_⟩
 ·
  unfold ref08_Alike
  rw [ey, Option.bind_some, if_pos (by omega), show ref08_Alike_L2 N l0 l1 (l1.length + 1) N 0 [] = _ from e2, Option.bind_some, if_pos (by simp), e6, Option.bind_some, if_pos ⟨hJ.len, hall⟩]
  exact e8
 ·
  constructor
  ·
   intro hg
   have : gT T i k = false := by cases hh : gT T i k with | true => (simp only [hh] at hg; cases hg) | false => rfl
   exact fun w => ap_end h hyl hd hJ hC w i k (by omega) (by omega) this
  ·
   intro hw
   cases hh : gT T i k with
   | true =>
    obtain ⟨w, hne⟩ := hJ.sound i k (by omega) (by omega) hh
    exact absurd (hw w) hne
   | false => simp only [hh]; rfl
end Go.Proofs.Ytnbnajjoinahiaa.AI
