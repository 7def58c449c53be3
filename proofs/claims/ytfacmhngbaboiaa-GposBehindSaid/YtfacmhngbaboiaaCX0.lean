/- Part of a proof. -/
import Derived.Test.YtfacmhngbaboiaaPU8
set_option linter.unusedVariables false
set_option linter.unusedSimpArgs false
namespace Go.Proofs.Ytfacmhngbaboiaa.AI
theorem Bytes.app {b m : List Int} (h : Bytes b) (h' : Bytes m) : Bytes (b ++ m) := fun x hx => by
  rcases List.mem_append.1 hx with hx | hx
  · exact h x hx
  · exact h' x hx
def clsL (N : Nat) (b : List Int) (i : Int) : List Xg := ((ZQ N b i).getD ([], false)).1
def covL (N : Nat) (b : List Int) (i : Int) : List TSpan := ((QJ N b i).getD ([], false)).1
theorem Xj8 {N : Nat} (hN : 1000000000000 < N) {b : List Int} (hb : Bytes b) (hl : b.length ≤ 1000000000) (i : Int) (hi : i ≤ 100000000000) (hi' : -100000000000 ≤ i) :
  ZQ N b i = some (clsL N b i, clsOk b i) ∧ Xac N b i = some (clsL N b i, clsOk b i) ∧ (clsOk b i = false → clsL N b i = []) ∧ (clsL N b i).length ≤ 65536 := by
 obtain ⟨l, h1, h2, h3, h4, h5⟩ := Xfn hN hb hl i hi hi'
 have e : clsL N b i = l := by unfold clsL; rw [h1]; rfl
 rw [e]
 exact ⟨h1, h2, h3, h4⟩
theorem Xin {N : Nat} (hN : 1000000000000 < N) {b : List Int} (hb : Bytes b) (hl : b.length ≤ 1000000000) (i : Int) (hi : i ≤ 100000000000) (hi' : -100000000000 ≤ i) :
    QJ N b i = some (covL N b i, covOk b i) ∧ Xbt N b i = some (covL N b i, covOk b i) ∧ (covOk b i = false → covL N b i = []) ∧ (covL N b i).length ≤ 65536 := by
  obtain ⟨l, h1, h2, h3, h4⟩ := Xh2 hN hb hl i hi hi'
  have e : covL N b i = l := by unfold covL; rw [h1]; rfl
  rw [e]
  refine ⟨h1, h2, h3, ?_⟩
  cases hc : covOk b i with
  | false => rw [h3 hc]; simp
  | true => rcases RL.len (h4 hc).1 (Int.le_refl 0) with h | h
            · omega
            · rw [h]; simp
theorem Xhu {b m : List Int} {i : Int} (h0 : 0 ≤ i) (h1 : i < (b.length : Int)) : gb (b ++ m) i = gb b i := by
 unfold gb
 rw [List.getElem?_append_left (by omega)]
theorem Jp {b m : List Int} (hb : Bytes b) {i : Int} (h : 0 ≤ u16 b i) : u16 (b ++ m) i = u16 b i := by
 have h1 := (not_congr (Zr hb (i := i))).1 (by omega)
 unfold u16
 rw [if_pos (by simp; omega), if_pos (by omega), Xhu (by omega) (by omega), Xhu (by omega) (by omega)]
theorem Xiw {b m : List Int} (hb : Bytes b) {i : Int} {n : Nat} (h : ∀ x ∈ row16 b i n, 0 ≤ x) : row16 (b ++ m) i n = row16 b i n := by
 unfold row16 at h ⊢
 refine List.map_congr_left fun k hk => Jp hb (h _ (List.mem_map.2 ⟨k, hk, rfl⟩))
theorem trips_app {b m : List Int} (hb : Bytes b) {i : Int} {n : Nat} (h : ∀ x ∈ trips b i n, 0 ≤ x.e0 ∧ 0 ≤ x.e1 ∧ 0 ≤ x.e2) : trips (b ++ m) i n = trips b i n := by
 unfold trips at h ⊢
 refine List.map_congr_left fun k hk => ?_
 obtain ⟨h1, h2, h3⟩ := h _ (List.mem_map.2 ⟨k, hk, rfl⟩)
 simp only [trip] at h1 h2 h3 ⊢
 rw [Jp hb h1, Jp hb h2, Jp hb h3]
theorem Xhe {b m : List Int} (hb : Bytes b) {i : Int} {n : Nat} {c : Bool} (h : riseZ c (-1) 0 (trips b i n) = true) : trips (b ++ m) i n = trips b i n :=
 trips_app hb fun x hx => by have := JU h x hx; omega
theorem cov_app {b m : List Int} (hb : Bytes b) {i : Int} (h : covOk b i = true) : covOk (b ++ m) i = true ∧ ∀ g, covIn (b ++ m) i g ↔ covIn b i g := by
 have h0 := h
 unfold covOk at h
 by_cases h1 : u16 b i = 1
 ·
  rw [if_pos h1, Bool.and_eq_true, decide_eq_true_eq] at h
  have e1 := Jp (m := m) hb (i := i) (by omega); have e2 := Jp (m := m) hb h.1
  have e3 := Xiw (m := m) hb (i := i + 4) (n := (u16 b (i + 2)).toNat) (fun x hx => by have := Xh8 h.2 x hx; omega)
  refine ⟨by unfold covOk at h0 ⊢; rw [e1, e2, e3, if_pos h1]; rw [if_pos h1] at h0; exact h0, fun g => ?_⟩
  unfold covIn
  rw [e1, e2, if_pos h1, if_pos h1, e3]
 ·
  rw [if_neg h1] at h
  by_cases h2 : u16 b i = 2
  ·
   rw [if_pos h2, Bool.and_eq_true, decide_eq_true_eq] at h
   have e1 := Jp (m := m) hb (i := i) (by omega); have e2 := Jp (m := m) hb h.1
   have e3 := Xhe (m := m) hb h.2
   refine ⟨by unfold covOk at h0 ⊢; rw [e1, e2, e3, if_neg h1, if_pos h2]; rw [if_neg h1, if_pos h2] at h0; exact h0, fun g => ?_⟩
   unfold covIn
   rw [e1, e2, if_neg h1, if_neg h1, e3]
  ·
   rw [if_neg h2] at h; cases h
theorem Xky {N : Nat} (hN : 1000000000000 < N) {b m : List Int} (hb : Bytes b) (hm : Bytes m) (hl : (b ++ m).length ≤ 1000000000) (i : Int) (hi : i ≤ 100000000000) (hi' : -100000000000 ≤ i) (h : covOk b i = true) : covOk (b ++ m) i = true ∧ covL N (b ++ m) i = covL N b i := by
 have hl1 : b.length ≤ 1000000000 := by simp at hl; omega
 obtain ⟨h1, h2⟩ := cov_app (m := m) hb h
 obtain ⟨l, c1, c2, c3⟩ := Xe7 hN hb hl1 i hi hi'
 obtain ⟨l', d1, d2, d3⟩ := Xe7 hN (hb.app hm) hl i hi hi'
 refine ⟨h1, ?_⟩
 have e : l' = l := RL.uniq (d3 h1).1 (c3 h).1 fun g => ((d3 h1).2 g).trans ((h2 g).trans ((c3 h).2 g).symm)
 unfold covL
 rw [c1, d1, e]
 rfl
theorem cls_app {b m : List Int} (hb : Bytes b) {i : Int} (h : clsOk b i = true) : clsOk (b ++ m) i = true ∧ ∀ g, clsV (b ++ m) i g = clsV b i g := by
 have h0 := h
 unfold clsOk at h
 by_cases h1 : u16 b i = 1
 ·
  rw [if_pos h1, decide_eq_true_eq] at h
  have g2 := (Zr hb (i := i + 2))
  have n2 : 0 ≤ u16 b (i + 2) := by have := YL hb (i + 2); have := (not_congr (Zr hb (i := i + 4))).1 (by omega); have := (not_congr (Zr hb (i := i))).1 (by omega); have := (not_congr g2).2 (by omega); omega
  have e1 := Jp (m := m) hb (i := i) (by omega); have e2 := Jp (m := m) hb n2; have e4 := Jp (m := m) hb h.1
  have hin := (not_congr (Zr hb (i := i))).1 (by omega)
  refine ⟨?_, fun g => ?_⟩
  ·
   unfold clsOk
   rw [e1, if_pos h1, e2, e4]
   simp only [decide_eq_true_eq, List.length_append]
   omega
  ·
   unfold clsV
   rw [e1, if_pos h1, if_pos h1, e2]
   rw [e4]
   split
   ·
    rename_i hg
    have hn := (not_congr (Zr hb (i := i + 6 + 2 * (g - u16 b (i + 2))))).2 (by omega)
    exact Jp hb (by omega)
   ·
    rfl
 ·
  rw [if_neg h1] at h
  by_cases h2 : u16 b i = 2
  ·
   rw [if_pos h2, Bool.and_eq_true, decide_eq_true_eq] at h
   have e1 := Jp (m := m) hb (i := i) (by omega); have e2 := Jp (m := m) hb h.1
   have e3 := Xhe (m := m) hb h.2
   refine ⟨by unfold clsOk at h0 ⊢; rw [e1, e2, e3, if_neg h1, if_pos h2]; rw [if_neg h1, if_pos h2] at h0; exact h0, fun g => ?_⟩
   unfold clsV
   rw [e1, e2, if_neg h1, if_neg h1, e3]
  ·
   rw [if_neg h2] at h; cases h
theorem Xk3 {N : Nat} (hN : 1000000000000 < N) {b m : List Int} (hb : Bytes b) (hm : Bytes m) (hl : (b ++ m).length ≤ 1000000000) (i : Int) (hi : i ≤ 100000000000) (hi' : -100000000000 ≤ i) (h : clsOk b i = true) : clsOk (b ++ m) i = true ∧ clsL N (b ++ m) i = clsL N b i := by
 have hl1 : b.length ≤ 1000000000 := by simp at hl; omega
 obtain ⟨h1, h2⟩ := cls_app (m := m) hb h
 obtain ⟨l, c1, c2, c3⟩ := Xcz hN hb hl1 i hi hi'
 obtain ⟨l', d1, d2, d3⟩ := Xcz hN (hb.app hm) hl i hi hi'
 refine ⟨h1, ?_⟩
 have e : l' = l := KL.uniq (d3 h1).1 (c3 h).1 fun g _ => by rw [(d3 h1).2.2 g, (c3 h).2.2 g, h2 g]
 unfold clsL
 rw [c1, d1, e]
 rfl
end Go.Proofs.Ytfacmhngbaboiaa.AI
