/- Part of a proof. -/
import Derived.Test.YtfacmhngbaboiaaPU8
set_option linter.unusedVariables false
set_option linter.unusedSimpArgs false
namespace Go.Proofs.Ytfacmhngbaboiaa.AI
theorem Bytes.app {b m : List Int} (h : Bytes b) (h' : Bytes m) : Bytes (b ++ m) := fun x hx => by
  rcases List.mem_append.1 hx with hx | hx
  · exact h x hx
  · exact h' x hx
def clsL (N : Nat) (b : List Int) (i : Int) : List TClass := ((cover_Classes N b i).getD ([], false)).1
def covL (N : Nat) (b : List Int) (i : Int) : List TSpan := ((cover_Cover N b i).getD ([], false)).1
theorem clsL_eq {N : Nat} (hN : 1000000000000 < N) {b : List Int} (hb : Bytes b) (hl : b.length ≤ 1000000000) (i : Int) (hi : i ≤ 100000000000) (hi' : -100000000000 ≤ i) :
  cover_Classes N b i = some (clsL N b i, clsOk b i) ∧ ref10_Classes N b i = some (clsL N b i, clsOk b i) ∧ (clsOk b i = false → clsL N b i = []) ∧ (clsL N b i).length ≤ 65536 := by
 obtain ⟨l, h1, h2, h3, h4, h5⟩ := Classes_same hN hb hl i hi hi'
 have e : clsL N b i = l := by unfold clsL; rw [h1]; rfl
 rw [e]
 exact ⟨h1, h2, h3, h4⟩
theorem covL_eq {N : Nat} (hN : 1000000000000 < N) {b : List Int} (hb : Bytes b) (hl : b.length ≤ 1000000000) (i : Int) (hi : i ≤ 100000000000) (hi' : -100000000000 ≤ i) :
    cover_Cover N b i = some (covL N b i, covOk b i) ∧ ref10_Cover N b i = some (covL N b i, covOk b i) ∧ (covOk b i = false → covL N b i = []) ∧ (covL N b i).length ≤ 65536 := by
  obtain ⟨l, h1, h2, h3, h4⟩ := Cover_same hN hb hl i hi hi'
  have e : covL N b i = l := by unfold covL; rw [h1]; rfl
  rw [e]
  refine ⟨h1, h2, h3, ?_⟩
  cases hc : covOk b i with
  | false => rw [h3 hc]; simp
  | true => rcases RL.len (h4 hc).1 (Int.le_refl 0) with h | h
            · omega
            · rw [h]; simp
theorem gb_app {b m : List Int} {i : Int} (h0 : 0 ≤ i) (h1 : i < (b.length : Int)) : gb (b ++ m) i = gb b i := by
 unfold gb
 rw [List.getElem?_append_left (by omega)]
theorem u16_app {b m : List Int} (hb : Bytes b) {i : Int} (h : 0 ≤ u16 b i) : u16 (b ++ m) i = u16 b i := by
 have h1 := (not_congr (u16_neg hb (i := i))).1 (by omega)
 unfold u16
 rw [if_pos (by simp; omega), if_pos (by omega), gb_app (by omega) (by omega), gb_app (by omega) (by omega)]
theorem row16_app {b m : List Int} (hb : Bytes b) {i : Int} {n : Nat} (h : ∀ x ∈ row16 b i n, 0 ≤ x) : row16 (b ++ m) i n = row16 b i n := by
 unfold row16 at h ⊢
 refine List.map_congr_left fun k hk => u16_app hb (h _ (List.mem_map.2 ⟨k, hk, rfl⟩))
theorem trips_app {b m : List Int} (hb : Bytes b) {i : Int} {n : Nat} (h : ∀ x ∈ trips b i n, 0 ≤ x.e0 ∧ 0 ≤ x.e1 ∧ 0 ≤ x.e2) : trips (b ++ m) i n = trips b i n := by
 unfold trips at h ⊢
 refine List.map_congr_left fun k hk => ?_
 obtain ⟨h1, h2, h3⟩ := h _ (List.mem_map.2 ⟨k, hk, rfl⟩)
 simp only [trip] at h1 h2 h3 ⊢
 rw [u16_app hb h1, u16_app hb h2, u16_app hb h3]
theorem trips_app' {b m : List Int} (hb : Bytes b) {i : Int} {n : Nat} {c : Bool} (h : riseZ c (-1) 0 (trips b i n) = true) : trips (b ++ m) i n = trips b i n :=
 trips_app hb fun x hx => by have := riseZ_low h x hx; omega
theorem cov_app {b m : List Int} (hb : Bytes b) {i : Int} (h : covOk b i = true) : covOk (b ++ m) i = true ∧ ∀ g, covIn (b ++ m) i g ↔ covIn b i g := by
 have h0 := h
 unfold covOk at h
 by_cases h1 : u16 b i = 1
 ·
  rw [if_pos h1, Bool.and_eq_true, decide_eq_true_eq] at h
  have e1 := u16_app (m := m) hb (i := i) (by omega); have e2 := u16_app (m := m) hb h.1
  have e3 := row16_app (m := m) hb (i := i + 4) (n := (u16 b (i + 2)).toNat) (fun x hx => by have := rise_gt h.2 x hx; omega)
  refine ⟨by unfold covOk at h0 ⊢; rw [e1, e2, e3, if_pos h1]; rw [if_pos h1] at h0; exact h0, fun g => ?_⟩
  unfold covIn
  rw [e1, e2, if_pos h1, if_pos h1, e3]
 ·
  rw [if_neg h1] at h
  by_cases h2 : u16 b i = 2
  ·
   rw [if_pos h2, Bool.and_eq_true, decide_eq_true_eq] at h
   have e1 := u16_app (m := m) hb (i := i) (by omega); have e2 := u16_app (m := m) hb h.1
   have e3 := trips_app' (m := m) hb h.2
   refine ⟨by unfold covOk at h0 ⊢; rw [e1, e2, e3, if_neg h1, if_pos h2]; rw [if_neg h1, if_pos h2] at h0; exact h0, fun g => ?_⟩
   unfold covIn
   rw [e1, e2, if_neg h1, if_neg h1, e3]
  ·
   rw [if_neg h2] at h; cases h
theorem covL_app {N : Nat} (hN : 1000000000000 < N) {b m : List Int} (hb : Bytes b) (hm : Bytes m) (hl : (b ++ m).length ≤ 1000000000) (i : Int) (hi : i ≤ 100000000000) (hi' : -100000000000 ≤ i) (h : covOk b i = true) : covOk (b ++ m) i = true ∧ covL N (b ++ m) i = covL N b i := by
 have hl1 : b.length ≤ 1000000000 := by simp at hl; omega
 obtain ⟨h1, h2⟩ := cov_app (m := m) hb h
 obtain ⟨l, c1, c2, c3⟩ := Cover_spec hN hb hl1 i hi hi'
 obtain ⟨l', d1, d2, d3⟩ := Cover_spec hN (hb.app hm) hl i hi hi'
 refine ⟨h1, ?_⟩
 have e : l' = l := RL.uniq (d3 h1).1 (c3 h).1 fun g => ((d3 h1).2 g).trans ((h2 g).trans ((c3 h).2 g).symm)
 unfold covL
 rw [c1, d1, e]
 rfl
theorem cls_app {b m : List Int} (hb : Bytes b) {i : Int} (h : clsOk b i = true) : clsOk (b ++ m) i = true ∧ ∀ g, clsV (b ++ m) i g = clsV b i g := by
 have h0 := h
 unfold clsOk at h
 by_cases h1 : u16 b i = 1
 ·
  rw [if_pos h1, decide_eq_true_eq] at h
  have g2 := (u16_neg hb (i := i + 2))
  have n2 : 0 ≤ u16 b (i + 2) := by have := u16_range hb (i + 2); have := (not_congr (u16_neg hb (i := i + 4))).1 (by omega); have := (not_congr (u16_neg hb (i := i))).1 (by omega); have := (not_congr g2).2 (by omega); omega
  have e1 := u16_app (m := m) hb (i := i) (by omega); have e2 := u16_app (m := m) hb n2; have e4 := u16_app (m := m) hb h.1
  have hin := (not_congr (u16_neg hb (i := i))).1 (by omega)
  refine ⟨?_, fun g => ?_⟩
  ·
   unfold clsOk
   rw [e1, if_pos h1, e2, e4]
   simp only [decide_eq_true_eq, List.length_append]
   omega
  ·
   unfold clsV
   rw [e1, if_pos h1, if_pos h1, e2]
   rw [e4]
   split
   ·
    rename_i hg
    have hn := (not_congr (u16_neg hb (i := i + 6 + 2 * (g - u16 b (i + 2))))).2 (by omega)
    exact u16_app hb (by omega)
   ·
    rfl
 ·
  rw [if_neg h1] at h
  by_cases h2 : u16 b i = 2
  ·
   rw [if_pos h2, Bool.and_eq_true, decide_eq_true_eq] at h
   have e1 := u16_app (m := m) hb (i := i) (by omega); have e2 := u16_app (m := m) hb h.1
   have e3 := trips_app' (m := m) hb h.2
   refine ⟨by unfold clsOk at h0 ⊢; rw [e1, e2, e3, if_neg h1, if_pos h2]; rw [if_neg h1, if_pos h2] at h0; exact h0, fun g => ?_⟩
   unfold clsV
   rw [e1, e2, if_neg h1, if_neg h1, e3]
  ·
   rw [if_neg h2] at h; cases h
theorem clsL_app {N : Nat} (hN : 1000000000000 < N) {b m : List Int} (hb : Bytes b) (hm : Bytes m) (hl : (b ++ m).length ≤ 1000000000) (i : Int) (hi : i ≤ 100000000000) (hi' : -100000000000 ≤ i) (h : clsOk b i = true) : clsOk (b ++ m) i = true ∧ clsL N (b ++ m) i = clsL N b i := by
 have hl1 : b.length ≤ 1000000000 := by simp at hl; omega
 obtain ⟨h1, h2⟩ := cls_app (m := m) hb h
 obtain ⟨l, c1, c2, c3⟩ := Classes_spec hN hb hl1 i hi hi'
 obtain ⟨l', d1, d2, d3⟩ := Classes_spec hN (hb.app hm) hl i hi hi'
 refine ⟨h1, ?_⟩
 have e : l' = l := KL.uniq (d3 h1).1 (c3 h).1 fun g _ => by rw [(d3 h1).2.2 g, (c3 h).2.2 g, h2 g]
 unfold clsL
 rw [c1, d1, e]
 rfl
end Go.Proofs.Ytfacmhngbaboiaa.AI
