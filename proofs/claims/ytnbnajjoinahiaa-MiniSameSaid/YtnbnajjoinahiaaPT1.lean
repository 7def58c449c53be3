/- Part of a proof. -/
import Derived.Test.YtnbnajjoinahiaaPS2
set_option linter.unusedVariables false
set_option linter.unusedSimpArgs false
set_option maxRecDepth 100000
namespace Go.Proofs.Ytnbnajjoinahiaa.AI
theorem r7_L2 {N : Nat} {l0 : List (Vector Int 16)} {l1 : List Int} {i : Nat} {r : Vector Int 16} (hr : l0[i]? = some r) : ∀ (d k n : Nat), k + d = 16 → d < n →
  ref07_Right_L2 N l1 i l0 n k = some (if ∀ x ∈ r.toList.drop k, okN (l1.length : Int) x then .inl () else .inr ()) := by
 intro d
 induction d with
 | zero =>
  intro k n hk hn
  obtain ⟨n, rfl⟩ : ∃ x, n = x + 1 := ⟨n - 1, by omega⟩
  rw [ref07_Right_L2, if_neg (by omega), List.drop_eq_nil_of_le (by rw [vlen]; omega), if_pos (by simp)]
 | succ d ih =>
  intro k n hk hn
  obtain ⟨n, rfl⟩ : ∃ x, n = x + 1 := ⟨n - 1, by omega⟩
  have hkl : k < r.toList.length := by rw [vlen]; omega
  rw [ref07_Right_L2, if_pos (by omega), atI_at hr, Option.bind_some, atI_get hkl, Option.bind_some, wk (by omega), ih (k + 1) n (by omega) (by omega), List.drop_eq_getElem_cons hkl]
  simp only [List.mem_cons, forall_eq_or_imp]
  by_cases h1 : r.toList[k] < -1
  ·
   rw [if_pos h1, if_neg (fun h => by have := h.1.1; omega)]
  rw [if_neg h1]
  by_cases h2 : (l1.length : Int) ≤ r.toList[k]
  ·
   rw [if_pos h2, if_neg (fun h => by have := h.1.2; omega)]
  rw [if_neg h2]
  have h3 : okN (l1.length : Int) r.toList[k] := ⟨by omega, by omega⟩
  by_cases h4 : ∀ x ∈ r.toList.drop (k + 1), okN (l1.length : Int) x
  ·
   rw [if_pos h4, if_pos ⟨h3, h4⟩]
  ·
   rw [if_neg h4, if_neg (fun h => h4 h.2)]
theorem r7_L3 {N : Nat} (hN : 1000000000000 < N) {l0 : List (Vector Int 16)} {l1 : List Int} (hl : l1.length = l0.length) (hm : l0.length ≤ 200) : ∀ (d k n : Nat), k + d = l0.length → d < n →
  ∃ o, ref07_Right_L3 N l1 l0 n k = some o ∧ (o = .inl () ↔ (∀ x ∈ l1.drop k, okN 16 x) ∧ ∀ r ∈ l0.drop k, okRow (l0.length : Int) r) := by
 intro d
 induction d with
 | zero =>
  intro k n hk hn
  obtain ⟨n, rfl⟩ : ∃ x, n = x + 1 := ⟨n - 1, by omega⟩
  rw [ref07_Right_L3, if_neg (by omega), List.drop_eq_nil_of_le (by omega), List.drop_eq_nil_of_le (by omega)]
  exact ⟨_, rfl, by simp⟩
 | succ d ih =>
  intro k n hk hn
  obtain ⟨n, rfl⟩ : ∃ x, n = x + 1 := ⟨n - 1, by omega⟩
  have hkl : k < l0.length := by omega
  have hk1 : k < l1.length := by omega
  have h2 := r7_L2 (N := N) (l0 := l0) (l1 := l1) (i := k) (r := l0[k]) (List.getElem?_eq_getElem hkl) 16 0 N (by omega) (by omega)
  rw [List.drop_zero, hl] at h2
  rw [ref07_Right_L3, if_pos (by omega), atI_get hk1, Option.bind_some, wk (by omega), List.drop_eq_getElem_cons hkl, List.drop_eq_getElem_cons hk1]
  simp only [List.mem_cons, forall_eq_or_imp]
  by_cases g1 : l1[k] < -1
  ·
   rw [if_pos g1]; exact ⟨_, rfl, by simp; intro h; have := h.1; omega⟩
  rw [if_neg g1]
  by_cases g2 : 15 < l1[k]
  ·
   rw [if_pos g2]; exact ⟨_, rfl, by simp; intro h; have := h.2; omega⟩
  rw [if_neg g2, show ref07_Right_L2 N l1 k l0 N 0 = _ from h2, Option.bind_some]
  have h3 : okN 16 l1[k] := ⟨by omega, by omega⟩
  by_cases g4 : ∀ x ∈ l0[k].toList, okN (l0.length : Int) x
  ·
   rw [if_pos g4]
   obtain ⟨o, e, he⟩ := ih (k + 1) n (by omega) (by omega)
   exact ⟨o, e, by rw [he]; exact ⟨fun h => ⟨⟨h3, h.1⟩, g4, h.2⟩, fun h => ⟨h.1.2, h.2.2⟩⟩⟩
  ·
   rw [if_neg g4]
   exact ⟨_, rfl, by simp; intro _ _ h; exact absurd h g4⟩
theorem r7_eq {N : Nat} (hN : 1000000000000 < N) (l0 : List (Vector Int 16)) (l1 : List Int) : ∃ b, ref07_Right N l0 l1 = some b ∧ (b = true ↔ RightP l0 l1) := by
 unfold ref07_Right
 by_cases g1 : (l1.length : Int) < 1
 ·
  rw [if_pos g1]; exact ⟨_, rfl, by simp; intro h; exact absurd (List.eq_nil_of_length_eq_zero (by have := h.2.2.1; omega)) h.1⟩
 rw [if_neg g1]
 by_cases g2 : 200 < (l1.length : Int)
 ·
  rw [if_pos g2]; exact ⟨_, rfl, by simp; intro h; have := h.2.1; have := h.2.2.1; omega⟩
 rw [if_neg g2]
 by_cases g3 : (l0.length : Int) = (l1.length : Int)
 ·
  rw [if_pos g3]
  obtain ⟨o, e, he⟩ := r7_L3 hN (l0 := l0) (l1 := l1) (by omega) (by omega) l0.length 0 N (by omega) (by omega)
  rw [List.drop_zero, List.drop_zero] at he
  rw [show ref07_Right_L3 N l1 l0 N 0 = _ from e, Option.bind_some]
  cases o with
  | inl u => exact ⟨_, rfl, by simp; exact ⟨fun h => by subst h; simp at g3; omega, by omega, by omega, he.1 rfl⟩⟩
  | inr u => exact ⟨_, rfl, by simp; intro h; have := he.2 ⟨h.2.2.2.1, h.2.2.2.2⟩; cases this⟩
 ·
  rw [if_neg g3]; exact ⟨_, rfl, by simp; intro h; have := h.2.2.1; omega⟩
theorem dd_of {l0 : List (Vector Int 16)} {l1 : List Int} (h : RightP l0 l1) (S : Nat → Prop) (hS : ∀ (i : Nat) (r : Vector Int 16), S i → l0[i]? = some r → outc l1 i < 0 ∧ ∀ (k q : Nat) (hk : k < 16), r.toList[k]'(by rw [vlen]; exact hk) = (q : Int) → S q) :
  ∀ (w : List Int) (i : Nat), i < l0.length → S i → lang l0 l1 w i = -1 := by
 obtain ⟨_, hm, hl, hru, hr⟩ := id h
 intro w
 induction w with
 | nil =>
  intro i hi hs
  obtain ⟨h1, _⟩ := hS i _ hs (List.getElem?_eq_getElem hi)
  have hi1 : i < l1.length := by omega
  have h4 := hru l1[i] (List.getElem_mem hi1)
  unfold lang
  rw [outc_at hi1] at h1 ⊢
  have := h4.1; omega
 | cons c w ih =>
  intro i hi hs
  unfold lang
  rcases stp_cases (rows := l0) (i : Int) c with h' | ⟨i', k, r, hi', rfl, hr', hk⟩
  ·
   rw [h']; exact lang_neg w (by omega)
  ·
   have : i' = i := by omega
   subst this
   have hok := okRow_at (hr r (List.mem_of_getElem? hr')) hk
   obtain ⟨_, h2⟩ := hS i' r hs hr'
   rw [stp_at hr' hk]
   generalize hxe : r.toList[k]'(by rw [vlen]; exact hk) = x at hok
   by_cases h0 : 0 ≤ x
   ·
    obtain ⟨q, rfl⟩ := Int.eq_ofNat_of_zero_le h0
    exact ih q (by have := hok.2; omega) (h2 k q hk hxe)
   ·
    exact lang_neg w (by omega)
theorem set_same {l : List Bool} {i : Nat} {b : Bool} (h : l[i]? = some b) : l.set i b = l := by
 refine List.ext_getElem? fun j => ?_
 rw [List.getElem?_set]
 split
 ·
  rename_i e; subst e; rw [h, if_pos (List.getElem?_eq_some_iff.1 h).1]
 ·
  rfl
theorem cnt_up : ∀ {l : List Bool} {i : Nat}, l[i]? = some false → cnt (l.set i true) = cnt l + 1
 | [], i, h => by simp at h
 | b :: l, 0, h => by simp at h; subst h; simp [cnt]; omega
 | b :: l, i + 1, h => by have := cnt_up (l := l) (i := i) (by simpa using h); simp only [List.set_cons_succ, cnt]; omega
theorem dead5 {N : Nat} {l0 : List (Vector Int 16)} {l1 : List Int} {rd : Int} {i : Nat} {r : Vector Int 16} (hr : l0[i]? = some r) (hok : okRow (l1.length : Int) r) : ∀ (d k n : Nat) (s : List Bool), k + d = 16 → d < n → s.length = l1.length → i < s.length →
  ∃ s', ref08_Dead_L5 N l1 rd i l0 n k s = some s' ∧ ((s' = s ∧ (s[i]? = some true ∨ ∀ (c q : Nat) (hc : c < 16), k ≤ c → r.toList[c]'(by rw [vlen]; exact hc) = (q : Int) → s[q]? = some false)) ∨
   (s' = s.set i true ∧ s[i]? = some false ∧ ∃ (c q : Nat) (hc : c < 16), r.toList[c]'(by rw [vlen]; exact hc) = (q : Int) ∧ s[q]? = some true)) := by
 intro d
 induction d with
 | zero =>
  intro k n s hk hn hs hi
  obtain ⟨n, rfl⟩ : ∃ x, n = x + 1 := ⟨n - 1, by omega⟩
  rw [ref08_Dead_L5, if_neg (by omega)]
  exact ⟨s, rfl, .inl ⟨rfl, .inr fun c q hc hkc => by omega⟩⟩
 | succ d ih =>
  intro k n s hk hn hs hi
  obtain ⟨n, rfl⟩ : ∃ x, n = x + 1 := ⟨n - 1, by omega⟩
  have hk16 : k < 16 := by omega
  have hkl : k < r.toList.length := by rw [vlen]; omega
  have hx := okRow_at hok hk16
  have hsi : s[i]? = some s[i] := List.getElem?_eq_getElem hi
  rw [ref08_Dead_L5, if_pos (by omega), atI_get hi, Option.bind_some, wk (by omega), Int.toNat_natCast]
  by_cases g : s[i] = true
  ·
   rw [if_pos g, set_same (by rw [hsi, g])]
   obtain ⟨s', e, h⟩ := ih (k + 1) n s (by omega) (by omega) hs hi
   refine ⟨s', e, ?_⟩
   rcases h with ⟨h1, _⟩ | ⟨_, h2, _⟩
   ·
    exact .inl ⟨h1, .inl (by rw [hsi, g])⟩
   ·
    rw [hsi, g] at h2; cases h2
  rw [if_neg g, atI_at hr, Option.bind_some, atI_get hkl, Option.bind_some]
  have gf : s[i] = false := by cases h : s[i] with | true => exact absurd h g | false => rfl
  have step : (∀ q : Nat, r.toList[k] = (q : Int) → s[q]? = some false) → ∃ s', ref08_Dead_L5 N l1 rd i l0 n ((k + 1 : Nat) : Int) s = some s' ∧ ((s' = s ∧ (s[i]? = some true ∨ ∀ (c q : Nat) (hc : c < 16), k ≤ c → r.toList[c]'(by rw [vlen]; exact hc) = (q : Int) → s[q]? = some false)) ∨
   (s' = s.set i true ∧ s[i]? = some false ∧ ∃ (c q : Nat) (hc : c < 16), r.toList[c]'(by rw [vlen]; exact hc) = (q : Int) ∧ s[q]? = some true)) := by
   intro hq
   obtain ⟨s', e, h⟩ := ih (k + 1) n s (by omega) (by omega) hs hi
   refine ⟨s', e, ?_⟩
   rcases h with ⟨h1, h2⟩ | h
   ·
    refine .inl ⟨h1, ?_⟩
    rcases h2 with h2 | h2
    ·
     exact .inl h2
    ·
     refine .inr fun c q hc hkc he => ?_
     rcases Nat.lt_or_ge k c with h3 | h3
     ·
      exact h2 c q hc h3 he
     ·
      have : c = k := by omega
      subst this; exact hq q he
   ·
    exact .inr h
  by_cases g2 : 0 ≤ r.toList[k]
  ·
   rw [if_pos g2]
   generalize hxk : r.toList[k] = x at g2 hx step
   obtain ⟨q, rfl⟩ := Int.eq_ofNat_of_zero_le g2
   have hq : q < s.length := by have := hx.2; omega
   rw [atI_get hq, Option.bind_some]
   by_cases g3 : s[q] = true
   ·
    rw [g3]
    have hi2 : (s.set i true)[i]? = some true := by rw [List.getElem?_set_self hi]
    obtain ⟨s', e, h⟩ := ih (k + 1) n (s.set i true) (by omega) (by omega) (by simpa using hs) (by simpa using hi)
    refine ⟨s', e, .inr ?_⟩
    rcases h with ⟨h1, _⟩ | ⟨_, h2, _⟩
    ·
     exact ⟨h1, by rw [hsi, gf], k, q, hk16, hxk, by rw [List.getElem?_eq_getElem hq, g3]⟩
    ·
     rw [hi2] at h2; cases h2
   ·
    have g3f : s[q] = false := by cases h : s[q] with | true => exact absurd h g3 | false => rfl
    rw [g3f, set_same (by rw [hsi, gf])]
    exact step fun q' h => by
     have : q' = q := by omega
     subst this; rw [List.getElem?_eq_getElem hq, g3f]
  ·
   rw [if_neg g2, set_same (by rw [hsi, gf])]
   exact step fun q h => by omega
def LCk (l0 : List (Vector Int 16)) (l1 : List Int) (s : List Bool) (i : Nat) : Prop := s[i]? = some true ∨ (outc l1 i < 0 ∧ ∀ (r : Vector Int 16) (c q : Nat) (hc : c < 16), l0[i]? = some r → r.toList[c]'(by rw [vlen]; exact hc) = (q : Int) → s[q]? = some false)
def LJ (l0 : List (Vector Int 16)) (l1 : List Int) (s : List Bool) : Prop := ∀ i : Nat, s[i]? = some true → ¬ Dd l0 l1 i
theorem dead6 {N : Nat} (hN : 1000000000000 < N) {l0 : List (Vector Int 16)} {l1 : List Int} (h : RightP l0 l1) (rd : Int) : ∀ (d k n : Nat) (s : List Bool), k + d = l1.length → d < n → s.length = l1.length → LJ l0 l1 s →
  ∃ s', ref08_Dead_L6 N l1 rd l0 n k s = some s' ∧ s'.length = l1.length ∧ LJ l0 l1 s' ∧ ((s' = s ∧ ∀ i, k ≤ i → i < l1.length → LCk l0 l1 s i) ∨ (cnt s < cnt s' ∧ ¬ ∀ i, k ≤ i → i < l1.length → LCk l0 l1 s i)) := by
 obtain ⟨_, hm, hl, hru, hr⟩ := id h
 intro d
 induction d with
 | zero =>
  intro k n s hk hn hs hJ
  obtain ⟨n, rfl⟩ : ∃ x, n = x + 1 := ⟨n - 1, by omega⟩
  rw [ref08_Dead_L6, if_neg (by omega)]
  exact ⟨s, rfl, hs, hJ, .inl ⟨rfl, fun i h1 h2 => by omega⟩⟩
 | succ d ih =>
  intro k n s hk hn hs hJ
  obtain ⟨n, rfl⟩ : ∃ x, n = x + 1 := ⟨n - 1, by omega⟩
  have hk1 : k < l1.length := by omega
  have hks : k < s.length := by omega
  have hk0 : k < l0.length := by omega
  have hsk : s[k]? = some s[k] := List.getElem?_eq_getElem hks
  have hrow : l0[k]? = some l0[k] := List.getElem?_eq_getElem hk0
  have hok : okRow (l1.length : Int) l0[k] := by rw [hl]; exact hr _ (List.getElem_mem hk0)
  rw [ref08_Dead_L6, if_pos (by omega), atI_get hks, Option.bind_some, wk (by omega), Int.toNat_natCast]
  -- all stays as it is
  have stay : LCk l0 l1 s k → ∃ s', ref08_Dead_L6 N l1 rd l0 n ((k + 1 : Nat) : Int) s = some s' ∧ s'.length = l1.length ∧ LJ l0 l1 s' ∧ ((s' = s ∧ ∀ i, k ≤ i → i < l1.length → LCk l0 l1 s i) ∨ (cnt s < cnt s' ∧ ¬ ∀ i, k ≤ i → i < l1.length → LCk l0 l1 s i)) := by
   intro hc
   obtain ⟨s', e, h1, h2, h3⟩ := ih (k + 1) n s (by omega) (by omega) hs hJ
   refine ⟨s', e, h1, h2, ?_⟩
   rcases h3 with ⟨h3, h4⟩ | ⟨h3, h4⟩
   ·
    refine .inl ⟨h3, fun i hi hi' => ?_⟩
    rcases Nat.lt_or_ge k i with h5 | h5
    ·
     exact h4 i h5 hi'
    ·
     have : i = k := by omega
     subst this; exact hc
   ·
    exact .inr ⟨h3, fun h5 => h4 fun i hi hi' => h5 i (by omega) hi'⟩
  -- a state is found to live
  have found : s[k]? = some false → ¬ Dd l0 l1 k → ¬ LCk l0 l1 s k → ∃ s', ref08_Dead_L6 N l1 rd l0 n ((k + 1 : Nat) : Int) (s.set k true) = some s' ∧ s'.length = l1.length ∧ LJ l0 l1 s' ∧ ((s' = s ∧ ∀ i, k ≤ i → i < l1.length → LCk l0 l1 s i) ∨ (cnt s < cnt s' ∧ ¬ ∀ i, k ≤ i → i < l1.length → LCk l0 l1 s i)) := by
   intro hf hd hc
   obtain ⟨s', e, h1, h2, h3⟩ := ih (k + 1) n (s.set k true) (by omega) (by omega) (by simpa using hs) (fun i hi => by
    by_cases e : i = k
    ·
     subst e; exact hd
    ·
     rw [List.getElem?_set_ne (Ne.symm e)] at hi; exact hJ i hi)
   have hcu := cnt_up hf
   refine ⟨s', e, h1, h2, .inr ⟨?_, fun h5 => hc (h5 k (Nat.le_refl _) hk1)⟩⟩
   rcases h3 with ⟨h3, _⟩ | ⟨h3, _⟩
   ·
    rw [h3]; omega
   ·
    omega
  by_cases g : s[k] = true
  ·
   have hst : s[k]? = some true := by rw [hsk, g]
   rw [if_pos g, set_same hst]
   obtain ⟨s1, e1, h1⟩ := dead5 (N := N) (rd := rd) hrow hok 16 0 N s (by omega) (by omega) hs hks
   have : s1 = s := by
    rcases h1 with ⟨h1, _⟩ | ⟨_, h1, _⟩
    ·
     exact h1
    ·
     rw [hst] at h1; cases h1
   subst this
   rw [show ref08_Dead_L5 N l1 rd k l0 N 0 s1 = _ from e1, Option.bind_some]
   exact stay (.inl hst)
  have gf : s[k] = false := by cases h : s[k] with | true => exact absurd h g | false => rfl
  have hsf : s[k]? = some false := by rw [hsk, gf]
  rw [if_neg g, atI_get hk1, Option.bind_some]
  have hout := outc_at hk1
  by_cases g2 : 0 ≤ l1[k]
  ·
   rw [decide_eq_true g2]
   have hi2 : (s.set k true)[k]? = some true := by rw [List.getElem?_set_self hks]
   obtain ⟨s1, e1, h1⟩ := dead5 (N := N) (rd := rd) hrow hok 16 0 N (s.set k true) (by omega) (by omega) (by simpa using hs) (by simpa using hks)
   have : s1 = s.set k true := by
    rcases h1 with ⟨h1, _⟩ | ⟨_, h1, _⟩
    ·
     exact h1
    ·
     rw [hi2] at h1; cases h1
   subst this
   rw [show ref08_Dead_L5 N l1 rd k l0 N 0 (s.set k true) = _ from e1, Option.bind_some]
   refine found hsf (fun hd => ?_) (fun hc => ?_)
   ·
    have := hd []
    unfold lang at this
    rw [hout] at this; omega
   ·
    rcases hc with hc | ⟨hc, _⟩
    ·
     rw [hsf] at hc; cases hc
    ·
     rw [hout] at hc; omega
  ·
   rw [decide_eq_false g2, set_same hsf]
   obtain ⟨s1, e1, h1⟩ := dead5 (N := N) (rd := rd) hrow hok 16 0 N s (by omega) (by omega) hs hks
   rw [show ref08_Dead_L5 N l1 rd k l0 N 0 s = _ from e1, Option.bind_some]
   rcases h1 with ⟨rfl, h1⟩ | ⟨rfl, _, c, q, hc, hq, hsq⟩
   ·
    refine stay ?_
    rcases h1 with h1 | h1
    ·
     exact .inl h1
    ·
     refine .inr ⟨by rw [hout]; omega, fun r c q hc hr' he => ?_⟩
     rw [hrow] at hr'; cases hr'
     exact h1 c q hc (Nat.zero_le _) he
   ·
    refine found hsf (fun hd => ?_) (fun hcc => ?_)
    ·
     refine hJ q hsq fun w => ?_
     have := hd ((c : Int) :: w)
     unfold lang at this
     rw [stp_at hrow hc, hq] at this
     exact this
    ·
     rcases hcc with hcc | ⟨_, hcc⟩
     ·
      rw [hsf] at hcc; cases hcc
     ·
      have := hcc _ c q hc hrow hq
      rw [hsq] at this; cases this
theorem dead7 {N : Nat} (hN : 1000000000000 < N) {l0 : List (Vector Int 16)} {l1 : List Int} (h : RightP l0 l1) : ∀ (d k n : Nat) (s : List Bool), k + d = l1.length + 1 → d < n → s.length = l1.length → LJ l0 l1 s → ((∀ i, i < l1.length → LCk l0 l1 s i) ∨ k ≤ cnt s) →
  ∃ s', ref08_Dead_L7 N l1 l0 n k s = some s' ∧ s'.length = l1.length ∧ LJ l0 l1 s' ∧ ∀ i, i < l1.length → LCk l0 l1 s' i := by
 obtain ⟨_, hm, hl, hru, hr⟩ := id h
 intro d
 induction d with
 | zero =>
  intro k n s hk hn hs hJ hC
  obtain ⟨n, rfl⟩ : ∃ x, n = x + 1 := ⟨n - 1, by omega⟩
  rw [ref08_Dead_L7, if_neg (by omega)]
  refine ⟨s, rfl, hs, hJ, ?_⟩
  rcases hC with hC | hC
  ·
   exact hC
  ·
   have := cnt_le s; omega
 | succ d ih =>
  intro k n s hk hn hs hJ hC
  obtain ⟨n, rfl⟩ : ∃ x, n = x + 1 := ⟨n - 1, by omega⟩
  obtain ⟨s1, e1, h1, h2, h3⟩ := dead6 hN h (k : Int) l1.length 0 N s (by omega) (by omega) hs hJ
  rw [ref08_Dead_L7, if_pos (by omega), show ref08_Dead_L6 N l1 k l0 N 0 s = _ from e1, Option.bind_some, wk (by omega)]
  refine ih (k + 1) n s1 (by omega) (by omega) h1 h2 ?_
  rcases h3 with ⟨rfl, h4⟩ | ⟨h3, h4⟩
  ·
   exact .inl fun i hi => h4 i (Nat.zero_le _) hi
  ·
   rcases hC with hC | hC
   ·
    exact absurd (fun i _ hi => hC i hi) h4
   ·
    exact .inr (by omega)
theorem dead8 {N : Nat} {l1 : List Int} {y : List Bool} (hy : y.length = l1.length) (hm : l1.length ≤ 1000) : ∀ (d k n : Nat) (s : List Bool), k + d = l1.length → d < n → s.length = k →
  ref08_Dead_L8 N l1 y n k s = some (s ++ (y.drop k).map not) := by
 intro d
 induction d with
 | zero =>
  intro k n s hk hn hs
  obtain ⟨n, rfl⟩ : ∃ x, n = x + 1 := ⟨n - 1, by omega⟩
  rw [ref08_Dead_L8, if_neg (by omega), List.drop_eq_nil_of_le (by omega)]; simp
 | succ d ih =>
  intro k n s hk hn hs
  obtain ⟨n, rfl⟩ : ∃ x, n = x + 1 := ⟨n - 1, by omega⟩
  have hky : k < y.length := by omega
  rw [ref08_Dead_L8, if_pos (by omega), atI_get hky, Option.bind_some, if_pos (by omega), wk (by omega), ih (k + 1) n _ (by omega) (by omega) (by simp [hs]), List.drop_eq_getElem_cons hky]
  simp only [List.map_cons, List.append_assoc, List.cons_append, List.nil_append]
theorem rdead_sem {N : Nat} (hN : 1000000000000 < N) {l0 : List (Vector Int 16)} {l1 : List Int} (h : RightP l0 l1) : ∃ y, ref08_Dead N l0 l1 = some y ∧ y.length = l0.length ∧ ∀ i : Nat, i < l0.length → (y[i]? = some true ↔ Dd l0 l1 i) := by
 obtain ⟨_, hm, hl, hru, hr⟩ := id h
 obtain ⟨s, e, h1, h2, h3⟩ := dead7 hN h (l1.length + 1) 0 N (List.replicate l1.length false) (by omega) (by omega) (by simp) (fun i hi => by
  rw [List.getElem?_replicate] at hi
  split at hi <;> cases hi) (.inr (Nat.zero_le _))
 have e8 := dead8 (N := N) (l1 := l1) (y := s) h1 (by omega) l1.length 0 N [] (by omega) (by omega) rfl
 rw [List.drop_zero, List.nil_append] at e8
 refine ⟨s.map not, ?_, by simp [h1, hl], fun i hi => ?_⟩
 ·
  unfold ref08_Dead
  rw [if_pos (by omega), if_pos (by omega), show ref08_Dead_L7 N l1 l0 N 0 _ = _ from e, Option.bind_some, show ref08_Dead_L8 N l1 s N 0 [] = _ from e8, Option.bind_some]
 ·
  have his : i < s.length := by omega
  rw [List.getElem?_map, List.getElem?_eq_getElem his]
  cases hs : s[i] with
  | true =>
   simp
   exact h2 i (by rw [List.getElem?_eq_getElem his, hs])
  | false =>
   simp
   refine fun w => dd_of h (fun i => s[i]? = some false) (fun j r hj hrj => ?_) w i hi (by rw [List.getElem?_eq_getElem his, hs])
   have hjl := (List.getElem?_eq_some_iff.1 hrj).1
   rcases h3 j (by omega) with h4 | ⟨h4, h5⟩
   ·
    rw [hj] at h4; cases h4
   ·
    exact ⟨h4, fun k q hk hq => h5 r k q hk hrj hq⟩
end Go.Proofs.Ytnbnajjoinahiaa.AI
