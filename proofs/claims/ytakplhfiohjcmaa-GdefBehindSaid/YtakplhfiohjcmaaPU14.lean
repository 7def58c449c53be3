/- Plain laws: bytes behind turn nothing: numbers, coverages, class tables, the table GDEF. -/
import Derived.Test.YtakplhfiohjcmaaPU10
set_option linter.unusedVariables false
set_option linter.unusedSimpArgs false
namespace Go.Proofs.Ytakplhfiohjcmaa.AI
theorem Bytes.app {b m : List Int} (h : Bytes b) (h' : Bytes m) : Bytes (b ++ m) := fun x hx => by
  rcases List.mem_append.1 hx with hx | hx
  · exact h x hx
  · exact h' x hx
theorem gb_app {b m : List Int} {i : Int} (h0 : 0 ≤ i) (h1 : i < (b.length : Int)) : gb (b ++ m) i = gb b i := by
  unfold gb
  rw [List.getElem?_append_left (by omega)]
theorem u16_app {b m : List Int} (hb : Bytes b) {i : Int} (h : 0 ≤ u16 b i) : u16 (b ++ m) i = u16 b i := by
  have h1 := (not_congr (u16_neg hb (i := i))).1 (by omega)
  unfold u16
  rw [if_pos (by simp; omega), if_pos (by omega), gb_app (by omega) (by omega), gb_app (by omega) (by omega)]
theorem u32_app {b m : List Int} (hb : Bytes b) {i : Int} (h : 0 ≤ u32 b i) : u32 (b ++ m) i = u32 b i := by
  have h1 := (not_congr (u32_neg hb (i := i))).1 (by omega)
  unfold u32
  rw [if_pos (by simp; omega), if_pos (by omega), gb_app (by omega) (by omega), gb_app (by omega) (by omega), gb_app (by omega) (by omega), gb_app (by omega) (by omega)]
theorem row16_app {b m : List Int} (hb : Bytes b) {i : Int} {n : Nat} (h : ∀ x ∈ row16 b i n, 0 ≤ x) : row16 (b ++ m) i n = row16 b i n := by
  unfold row16 at h ⊢
  refine List.map_congr_left fun k hk => u16_app hb (h _ (List.mem_map.2 ⟨k, hk, rfl⟩))
theorem row32_app {b m : List Int} (hb : Bytes b) {i : Int} {n : Nat} (h : ∀ x ∈ row32 b i n, 0 ≤ x) : row32 (b ++ m) i n = row32 b i n := by
  unfold row32 at h ⊢
  refine List.map_congr_left fun k hk => u32_app hb (h _ (List.mem_map.2 ⟨k, hk, rfl⟩))
theorem trips_app {b m : List Int} (hb : Bytes b) {i : Int} {n : Nat} (h : ∀ x ∈ trips b i n, 0 ≤ x.e0 ∧ 0 ≤ x.e1 ∧ 0 ≤ x.e2) : trips (b ++ m) i n = trips b i n := by
  unfold trips at h ⊢
  refine List.map_congr_left fun k hk => ?_
  obtain ⟨h1, h2, h3⟩ := h _ (List.mem_map.2 ⟨k, hk, rfl⟩)
  simp only [trip] at h1 h2 h3 ⊢
  rw [u16_app hb h1, u16_app hb h2, u16_app hb h3]
theorem trips_app' {b m : List Int} (hb : Bytes b) {i : Int} {n : Nat} {c : Bool} (h : riseZ c (-1) 0 (trips b i n) = true) : trips (b ++ m) i n = trips b i n :=
  trips_app hb fun x hx => by have := riseZ_low h x hx; omega
theorem cov_app {b m : List Int} (hb : Bytes b) {i : Int} (h : covOk b i = true) : covOk (b ++ m) i = true ∧ ∀ g, covIn (b ++ m) i g ↔ covIn b i g := by
  have h0 := h
  unfold covOk at h
  by_cases h1 : u16 b i = 1
  · rw [if_pos h1, Bool.and_eq_true, decide_eq_true_eq] at h
    have e1 := u16_app (m := m) hb (i := i) (by omega); have e2 := u16_app (m := m) hb h.1
    have e3 := row16_app (m := m) hb (i := i + 4) (n := (u16 b (i + 2)).toNat) (fun x hx => by have := rise_gt h.2 x hx; omega)
    refine ⟨by unfold covOk at h0 ⊢; rw [e1, e2, e3, if_pos h1]; rw [if_pos h1] at h0; exact h0, fun g => ?_⟩
    unfold covIn
    rw [e1, e2, if_pos h1, if_pos h1, e3]
  · rw [if_neg h1] at h
    by_cases h2 : u16 b i = 2
    · rw [if_pos h2, Bool.and_eq_true, decide_eq_true_eq] at h
      have e1 := u16_app (m := m) hb (i := i) (by omega); have e2 := u16_app (m := m) hb h.1
      have e3 := trips_app' (m := m) hb h.2
      refine ⟨by unfold covOk at h0 ⊢; rw [e1, e2, e3, if_neg h1, if_pos h2]; rw [if_neg h1, if_pos h2] at h0; exact h0, fun g => ?_⟩
      unfold covIn
      rw [e1, e2, if_neg h1, if_neg h1, e3]
    · rw [if_neg h2] at h; cases h
theorem covL_app {N : Nat} (hN : 1000000000000 < N) {b m : List Int} (hb : Bytes b) (hm : Bytes m) (hl : (b ++ m).length ≤ 1000000000) (i : Int) (hi : i ≤ 100000000000) (hi' : -100000000000 ≤ i) (h : covOk b i = true) : covOk (b ++ m) i = true ∧ covL N (b ++ m) i = covL N b i := by
  have hl1 : b.length ≤ 1000000000 := by simp at hl; omega
  obtain ⟨h1, h2⟩ := cov_app (m := m) hb h
  obtain ⟨l, c1, c2, c3⟩ := Cover_spec hN hb hl1 i hi hi'
  obtain ⟨l', d1, d2, d3⟩ := Cover_spec hN (hb.app hm) hl i hi hi'
  refine ⟨h1, ?_⟩
  have e : l' = l := RL.uniq (d3 h1).1 (c3 h).1 fun g => ((d3 h1).2 g).trans ((h2 g).trans ((c3 h).2 g).symm)
  unfold covL
  rw [c1, d1, e]
  rfl
theorem cls_app {b m : List Int} (hb : Bytes b) {i : Int} (h : clsOk b i = true) : clsOk (b ++ m) i = true ∧ ∀ g, clsV (b ++ m) i g = clsV b i g := by
  have h0 := h
  unfold clsOk at h
  by_cases h1 : u16 b i = 1
  · rw [if_pos h1, decide_eq_true_eq] at h
    have g2 := (u16_neg hb (i := i + 2))
    have n2 : 0 ≤ u16 b (i + 2) := by have := u16_range hb (i + 2); have := (not_congr (u16_neg hb (i := i + 4))).1 (by omega); have := (not_congr (u16_neg hb (i := i))).1 (by omega); have := (not_congr g2).2 (by omega); omega
    have e1 := u16_app (m := m) hb (i := i) (by omega); have e2 := u16_app (m := m) hb n2; have e4 := u16_app (m := m) hb h.1
    have hin := (not_congr (u16_neg hb (i := i))).1 (by omega)
    refine ⟨?_, fun g => ?_⟩
    · unfold clsOk
      rw [e1, if_pos h1, e2, e4]
      simp only [decide_eq_true_eq, List.length_append]
      omega
    · unfold clsV
      rw [e1, if_pos h1, if_pos h1, e2]
      rw [e4]
      split
      · rename_i hg
        have hn := (not_congr (u16_neg hb (i := i + 6 + 2 * (g - u16 b (i + 2))))).2 (by omega)
        exact u16_app hb (by omega)
      · rfl
  · rw [if_neg h1] at h
    by_cases h2 : u16 b i = 2
    · rw [if_pos h2, Bool.and_eq_true, decide_eq_true_eq] at h
      have e1 := u16_app (m := m) hb (i := i) (by omega); have e2 := u16_app (m := m) hb h.1
      have e3 := trips_app' (m := m) hb h.2
      refine ⟨by unfold clsOk at h0 ⊢; rw [e1, e2, e3, if_neg h1, if_pos h2]; rw [if_neg h1, if_pos h2] at h0; exact h0, fun g => ?_⟩
      unfold clsV
      rw [e1, e2, if_neg h1, if_neg h1, e3]
    · rw [if_neg h2] at h; cases h
theorem clsL_app {N : Nat} (hN : 1000000000000 < N) {b m : List Int} (hb : Bytes b) (hm : Bytes m) (hl : (b ++ m).length ≤ 1000000000) (i : Int) (hi : i ≤ 100000000000) (hi' : -100000000000 ≤ i) (h : clsOk b i = true) : clsOk (b ++ m) i = true ∧ clsL N (b ++ m) i = clsL N b i := by
  have hl1 : b.length ≤ 1000000000 := by simp at hl; omega
  obtain ⟨h1, h2⟩ := cls_app (m := m) hb h
  obtain ⟨l, c1, c2, c3⟩ := Classes_spec hN hb hl1 i hi hi'
  obtain ⟨l', d1, d2, d3⟩ := Classes_spec hN (hb.app hm) hl i hi hi'
  refine ⟨h1, ?_⟩
  have e : l' = l := KL.uniq (d3 h1).1 (c3 h).1 fun g _ => by rw [(d3 h1).2.2 g, (c3 h).2.2 g, h2 g]
  unfold clsL
  rw [c1, d1, e]
  rfl
theorem dcl_app {N : Nat} (hN : 1000000000000 < N) {b m : List Int} (hb : Bytes b) (hm : Bytes m) (hl : (b ++ m).length ≤ 1000000000) (i p : Int) (hi : i ≤ 10000000000) (hi' : -10000000000 ≤ i) (h : dclOk b i p = true) : dclOk (b ++ m) i p = true ∧ dclL N (b ++ m) i p = dclL N b i p := by
  have ur := u16_range hb p
  unfold dclOk at h
  by_cases h1 : u16 b p < 0
  · rw [if_pos h1] at h; cases h
  rw [if_neg h1] at h
  have e := u16_app (m := m) hb (i := p) (by omega)
  unfold dclOk dclL
  rw [e, if_neg h1, if_neg h1, if_neg h1]
  by_cases h2 : u16 b p = 0
  · rw [if_pos h2, if_pos h2, if_pos h2]; exact ⟨rfl, rfl⟩
  · rw [if_neg h2] at h
    rw [if_neg h2, if_neg h2, if_neg h2]
    exact clsL_app hN hb hm hl _ (by omega) (by omega) h
theorem gset_app {N : Nat} (hN : 1000000000000 < N) {b m : List Int} (hb : Bytes b) (hm : Bytes m) (hl : (b ++ m).length ≤ 1000000000) {j : Int} (hj : j ≤ 10000000000) (hj' : -10000000000 ≤ j) : ∀ {l : List Int} {s : List (List TSpan)}, gset N b j l = some s → gset N (b ++ m) j l = some s
  | [], s, h => h
  | k :: r, s, h => by
    have hl1 : b.length ≤ 1000000000 := by simp at hl; omega
    simp only [gset] at h ⊢
    split at h
    · cases h
    · rename_i hk
      split at h
      · rename_i hc
        obtain ⟨c1, c2⟩ := covL_app hN hb hm hl (j + k) (by omega) (by omega) hc
        cases hg : gset N b j r with
        | none => rw [hg] at h; cases h
        | some s' =>
          rw [hg] at h
          rw [if_neg (by simp only [List.length_append]; omega), if_pos c1, gset_app hN hb hm hl hj hj' hg, c2]
          exact h
      · cases h
theorem dsets_app {N : Nat} (hN : 1000000000000 < N) {b m : List Int} (hb : Bytes b) (hm : Bytes m) (hl : (b ++ m).length ≤ 1000000000) {i p : Int} (hi : i ≤ 1000000000) (hi' : -1000000000 ≤ i) {s : List (List TSpan)} (h : dsets N b i p = some s) : dsets N (b ++ m) i p = some s := by
  have ur := u16_range hb p
  unfold dsets at h ⊢
  by_cases h1 : u16 b p < 0
  · rw [if_pos h1] at h; cases h
  rw [if_neg h1] at h
  rw [u16_app (m := m) hb (i := p) (by omega), if_neg h1]
  by_cases h2 : u16 b p = 0
  · rw [if_pos h2] at h ⊢; exact h
  rw [if_neg h2] at h ⊢
  by_cases h3 : u16 b (i + u16 b p) = 1 ∧ 0 ≤ u16 b (i + u16 b p + 2) ∧ u16 b (i + u16 b p + 2) ≤ 64
  · rw [if_pos h3] at h
    rw [u16_app (m := m) hb (i := i + u16 b p) (by omega), u16_app (m := m) hb (i := i + u16 b p + 2) h3.2.1, if_pos h3]
    rw [row32_app hb (fun x hx => ?_)]
    · exact gset_app hN hb hm hl (by omega) (by omega) h
    · rcases Int.lt_or_le x 0 with hh | hh
      · rw [gset_neg ⟨x, hx, hh⟩] at h; cases h
      · exact hh
  · rw [if_neg h3] at h; cases h
theorem gread_app {N : Nat} (hN : 1000000000000 < N) {b m : List Int} (hb : Bytes b) (hm : Bytes m) (hl : (b ++ m).length ≤ 1000000000) {i : Int} (hi : i ≤ 1000000000) (hi' : -1000000000 ≤ i) {s : List TClass × List TClass × List (List TSpan)} (h : gread N b i = some s) : gread N (b ++ m) i = some s := by
  unfold gread at h ⊢
  by_cases h1 : (u32 b i = 65536 ∨ u32 b i = 65538) ∧ i + 12 ≤ (b.length : Int) ∧ dclOk b i (i + 4) = true ∧ dclOk b i (i + 10) = true
  · rw [if_pos h1] at h
    obtain ⟨h1, h2, h3, h4⟩ := h1
    obtain ⟨a1, a2⟩ := dcl_app hN hb hm hl i (i + 4) (by omega) (by omega) h3
    obtain ⟨b1, b2⟩ := dcl_app hN hb hm hl i (i + 10) (by omega) (by omega) h4
    rw [u32_app (m := m) hb (i := i) (by omega), if_pos ⟨h1, by simp only [List.length_append]; omega, a1, b1⟩, a2, b2]
    by_cases h5 : u32 b i = 65536
    · rw [if_pos h5] at h ⊢; exact h
    · rw [if_neg h5] at h ⊢
      cases hd : dsets N b i (i + 12) with
      | none => rw [hd] at h; cases h
      | some z => rw [hd] at h; rw [dsets_app hN hb hm hl hi hi' hd]; exact h
  · rw [if_neg h1] at h; cases h
end Go.Proofs.Ytakplhfiohjcmaa.AI
