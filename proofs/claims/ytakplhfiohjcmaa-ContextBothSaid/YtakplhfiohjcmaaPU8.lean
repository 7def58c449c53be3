/- Plain laws: class tables by the document. -/
import Derived.Test.YtakplhfiohjcmaaPU7
set_option linter.unusedVariables false
set_option linter.unusedSimpArgs false
namespace Go.Proofs.Ytakplhfiohjcmaa.AI

theorem Table_L2 {N : Nat} (hN : 1000000000000 < N) {b : List Int} (hb : Bytes b) (hl : b.length ≤ 1000000000) {i f : Int} (hi : 0 ≤ i + 6) {m : Nat} (hm : m ≤ 65535) (hf : 0 ≤ f) (hfm : f + m ≤ 65536) : ∀ (d k n : Nat) (t : List Int), k + d = m → d < n → t.length = 65536 → i + 6 + 2 * (k : Int) ≤ (b.length : Int) →
  ∃ t', ref10_Table_L2 N b i m f n k t = some (if i + 6 + 2 * (m : Int) ≤ (b.length : Int) then .inl t' else .inr t') ∧ (i + 6 + 2 * (m : Int) ≤ (b.length : Int) → t'.length = 65536 ∧ ∀ g, 0 ≤ g → gb t' g = if f + k ≤ g ∧ g < f + m then u16 b (i + 6 + 2 * (g - f)) else gb t g) := by
 intro d
 induction d with
 | zero =>
  intro k n t hk hn ht hin
  obtain ⟨n, rfl⟩ : ∃ x, n = x + 1 := ⟨n - 1, by omega⟩
  have e : k = m := by omega
  subst e
  rw [ref10_Table_L2, if_neg (by omega)]
  exact ⟨t, by rw [if_pos hin], fun _ => ⟨ht, fun g _ => by rw [if_neg (by omega)]⟩⟩
 | succ d ih =>
  intro k n t hk hn ht hin
  obtain ⟨n, rfl⟩ : ∃ x, n = x + 1 := ⟨n - 1, by omega⟩
  have hu := u16_range hb (i + 6 + 2 * (k : Int))
  rw [ref10_Table_L2, if_pos (by omega), w64 (x := i + 6) (by omega) (by omega), w64 (x := 2 * (k : Int)) (by omega) (by omega), w64 (x := i + 6 + 2 * (k : Int)) (by omega) (by omega), rU16_eq hN hb hl _ (by omega), Option.bind_some]
  by_cases h : u16 b (i + 6 + 2 * (k : Int)) < 0
  ·
   rw [if_pos h]
   have := (u16_neg hb (i := i + 6 + 2 * (k : Int))).1 h
   exact ⟨t, by rw [if_neg (by omega)], fun h2 => by omega⟩
  ·
   rw [if_neg h, w64 (x := f + (k : Int)) (by omega) (by omega), atI_gb (by omega) (by omega), Option.bind_some, w64 (by omega) (by omega)]
   have hh := (not_congr (u16_neg hb (i := i + 6 + 2 * (k : Int)))).1 h
   obtain ⟨t', g1, g2⟩ := ih (k + 1) n (t.set (f + (k : Int)).toNat (u16 b (i + 6 + 2 * (k : Int)))) (by omega) (by omega) (by simpa using ht) (by omega)
   refine ⟨t', by rw [show ((k + 1 : Nat) : Int) = (k : Int) + 1 by omega] at g1; exact g1, fun h2 => ⟨(g2 h2).1, fun g hg => ?_⟩⟩
   rw [(g2 h2).2 g hg, gb_set (by omega) (by omega) hg]
   by_cases e : g = f + k
   ·
    rw [if_neg (by omega), if_pos e, if_pos (by omega)]; congr 1; omega
   ·
    rw [if_neg e]
    by_cases e2 : f + (k : Int) ≤ g ∧ g < f + m
    ·
     rw [if_pos (by omega), if_pos e2]
    ·
     rw [if_neg (by omega), if_neg e2]
theorem clsT_max {c : Bool} : ∀ {l : List TArr3_I64} {a n g : Int}, riseZ c a n l = true → clsT l g 0 = if 0 < clsT l g (-1) then clsT l g (-1) else 0
 | [], _, _, _, _ => rfl
 | x :: r, a, n, g, h => by
  have hx := riseZ_low h x List.mem_cons_self
  simp only [riseZ, Bool.and_eq_true] at h
  by_cases e : x.e0 ≤ g ∧ g ≤ x.e1
  ·
   have q : ∀ d, clsT (x :: r) g d = x.e2 := fun d => if_pos e
   simp only [q]
   by_cases e2 : 0 < x.e2
   ·
    rw [if_pos e2]
   ·
    rw [if_neg e2]; omega
  ·
   have q : ∀ d, clsT (x :: r) g d = clsT r g d := fun d => if_neg e
   simp only [q]
   exact clsT_max h.2
def pos (t : List Int) (g : Int) : Int := if 0 < gb t g then gb t g else 0
theorem Table_cls {N : Nat} (hN : 1000000000000 < N) {b : List Int} (hb : Bytes b) (hl : b.length ≤ 1000000000) (i : Int) (hi : i ≤ 100000000000) (hi' : -100000000000 ≤ i) :
  ∃ t, ref10_Table N b i true = some (t, clsOk b i) ∧ (clsOk b i = true → t.length = 65536 ∧ (∀ g, 0 ≤ g → g < 65536 → pos t g = clsV b i g) ∧ ∀ g, 0 ≤ g → gb t g ≤ 65535) := by
 obtain ⟨t0, h1, h2, h3⟩ := Table_L1 (N := N) (b := b) (i := i) (c := true) 65536 0 N (List.replicate 65536 0) (by omega) (by omega) List.length_replicate
 have h30 : ∀ g, 0 ≤ g → g < 65536 → gb t0 g = -1 := fun g hg hg2 => by rw [h3 g hg, if_pos (by omega)]
 have hle : ∀ t : List Int, t.length = 65536 → (∀ g, 0 ≤ g → g < 65536 → gb t g ≤ 65535) → ∀ g, 0 ≤ g → gb t g ≤ 65535 := fun t ht h g hg => by
  by_cases e : g < 65536
  ·
   exact h g hg e
  ·
   unfold gb; rw [List.getElem?_eq_none (by omega)]; simp
 unfold ref10_Table
 rw [show ((0 : Nat) : Int) = 0 from rfl] at h1
 rw [h1, Option.bind_some, rU16_eq hN hb hl _ (by omega), Option.bind_some]
 have hu := u16_range hb (i + 2); have hu4 := u16_range hb (i + 4)
 by_cases e1 : u16 b i = 1
 ·
  rw [if_pos e1, w64 (x := i + 2) (by omega) (by omega), rU16_eq hN hb hl _ (by omega), Option.bind_some, if_pos rfl, w64 (x := i + 4) (by omega) (by omega), rU16_eq hN hb hl _ (by omega), Option.bind_some]
  have ec : clsOk b i = decide (0 ≤ u16 b (i + 4) ∧ u16 b (i + 2) + u16 b (i + 4) ≤ 65536 ∧ i + 6 + 2 * u16 b (i + 4) ≤ (b.length : Int)) := if_pos e1
  by_cases h4 : u16 b (i + 4) < 0
  ·
   have hc : clsOk b i = false := by rw [ec]; exact decide_eq_false (by omega)
   rw [if_pos h4, hc]
   exact ⟨t0, rfl, fun h => by cases h⟩
  ·
   have hin := (not_congr (u16_neg hb (i := i + 4))).1 h4
   have h2' : ¬ u16 b (i + 2) < 0 := fun h2 => by
    have hh : u16 b i < 0 := (u16_neg hb).2 (fun h => (u16_neg hb (i := i + 2)).1 h2 ⟨by omega, by omega⟩)
    omega
   rw [if_neg h4, w64 (x := u16 b (i + 2) + u16 b (i + 4)) (by omega) (by omega)]
   by_cases h5 : 65536 < u16 b (i + 2) + u16 b (i + 4)
   ·
    have hc : clsOk b i = false := by rw [ec]; exact decide_eq_false (by omega)
    rw [if_pos h5, hc]
    exact ⟨t0, rfl, fun h => by cases h⟩
   ·
    rw [if_neg h5]
    obtain ⟨m, hm⟩ := Int.eq_ofNat_of_zero_le (show 0 ≤ u16 b (i + 4) by omega)
    have h0i : 0 ≤ i := by
     by_cases h : 0 ≤ i
     ·
      exact h
     ·
      have := (u16_neg hb (i := i)).2 (by omega); omega
    obtain ⟨t', g1, g2⟩ := Table_L2 hN hb hl (i := i) (f := u16 b (i + 2)) (by omega) (m := m) (by omega) (by omega) (by omega) m 0 N t0 (by omega) (by omega) h2 (by omega)
    rw [hm]
    rw [show ((0 : Nat) : Int) = 0 from rfl] at g1
    rw [g1, Option.bind_some]
    have hc : clsOk b i = decide (i + 6 + 2 * (m : Int) ≤ (b.length : Int)) := by rw [ec, hm]; exact decide_eq_decide.2 ⟨fun h => h.2.2, fun h => ⟨by omega, by omega, h⟩⟩
    rw [hc]
    by_cases h6 : i + 6 + 2 * (m : Int) ≤ (b.length : Int)
    ·
     simp only [h6, if_true, decide_true]
     obtain ⟨k1, k2⟩ := g2 h6
     refine ⟨t', rfl, fun _ => ⟨k1, fun g hg hg2 => ?_, hle t' k1 (fun g hg hg2 => ?_)⟩⟩
     ·
      unfold pos clsV
      rw [if_pos e1, k2 g hg, hm]
      by_cases h7 : u16 b (i + 2) ≤ g ∧ g < u16 b (i + 2) + m
      ·
       rw [if_pos (by omega : u16 b (i + 2) + ((0 : Nat) : Int) ≤ g ∧ g < u16 b (i + 2) + m), if_pos h7]
       have h8 := (not_congr (u16_neg hb (i := i + 6 + 2 * (g - u16 b (i + 2))))).2 (by omega)
       by_cases h9 : 0 < u16 b (i + 6 + 2 * (g - u16 b (i + 2)))
       ·
        rw [if_pos h9]
       ·
        rw [if_neg h9]; omega
      ·
       rw [if_neg (by omega : ¬ (u16 b (i + 2) + ((0 : Nat) : Int) ≤ g ∧ g < u16 b (i + 2) + m)), if_neg h7, h30 g hg hg2]; rfl
     ·
      rw [k2 g hg]
      split
      ·
       have := u16_range hb (i + 6 + 2 * (g - u16 b (i + 2))); omega
      ·
       rw [h30 g hg hg2]; omega
    ·
     simp only [h6, if_false, decide_false]
     exact ⟨t', rfl, fun h => by cases h⟩
 ·
  rw [if_neg e1]
  by_cases e2 : u16 b i = 2
  ·
   rw [if_pos e2, w64 (x := i + 2) (by omega) (by omega), rU16_eq hN hb hl _ (by omega), Option.bind_some]
   have ec : clsOk b i = (decide (0 ≤ u16 b (i + 2)) && riseZ true (-1) 0 (trips b (i + 4) (u16 b (i + 2)).toNat)) := by unfold clsOk; rw [if_neg e1, if_pos e2]
   by_cases h4 : u16 b (i + 2) < 0
   ·
    rw [if_pos h4]
    have hc : clsOk b i = false := by rw [ec, decide_eq_false (by omega)]; rfl
    rw [hc]
    exact ⟨t0, rfl, fun h => by cases h⟩
   ·
    rw [if_neg h4]
    obtain ⟨m, hm⟩ := Int.eq_ofNat_of_zero_le (show 0 ≤ u16 b (i + 2) by omega)
    obtain ⟨t', g1, g2⟩ := Table_L5_2 hN hb hl hi hi' (c := true) (f := u16 b i) e1 (m := m) (by omega) m 0 N 0 (-1) t0 (by omega) (by omega) h2 (by omega) (by omega) (by omega)
    rw [hm]
    rw [show ((0 : Nat) : Int) = 0 from rfl, List.drop_zero] at g1
    rw [List.drop_zero] at g2
    rw [g1, Option.bind_some]
    have hc : clsOk b i = riseZ true (-1) 0 (trips b (i + 4) m) := by rw [ec, hm, decide_eq_true (by omega)]; rfl
    rw [hc]
    by_cases hr : riseZ true (-1) 0 (trips b (i + 4) m) = true
    ·
     simp only [hr, if_true]
     obtain ⟨k1, k2⟩ := g2 hr
     refine ⟨t', rfl, fun _ => ⟨k1, fun g hg hg2 => ?_, hle t' k1 (fun g hg hg2 => ?_)⟩⟩
     ·
      unfold pos clsV
      rw [if_neg e1, hm, (k2 g hg hg2).2 rfl, h30 g hg hg2]
      exact (clsT_max hr).symm
     ·
      rw [(k2 g hg hg2).2 rfl, h30 g hg hg2]
      have : ∀ l : List TArr3_I64, (∀ x ∈ l, x.e2 ≤ 65535) → clsT l g (-1) ≤ 65535 := by
       intro l
       induction l with
       | nil => intro _; simp [clsT]
       | cons x r ih =>
        intro h
        simp only [clsT]
        split
        ·
         exact h x List.mem_cons_self
        ·
         exact ih (fun y hy => h y (List.mem_cons_of_mem _ hy))
      exact this _ (fun x hx => by obtain ⟨k, _, rfl⟩ := trips_mem hx; exact (trip_range hb _ k).2.2)
    ·
     have hr2 : riseZ true (-1) 0 (trips b (i + 4) m) = false := by simpa using hr
     simp only [hr2, Bool.false_eq_true, if_false]
     exact ⟨t', rfl, fun h => by cases h⟩
  ·
   rw [if_neg e2]
   have hc : clsOk b i = false := by unfold clsOk; rw [if_neg e1, if_neg e2]
   rw [hc]
   exact ⟨t0, rfl, fun h => by cases h⟩

theorem rClasses_L3 {N : Nat} {t : List Int} {i : Int} {s : List TClass} (ht : t.length = 65536) (hi0 : 0 ≤ i) (hi1 : i < 65536) : ∀ (d n : Nat) (k : Int), k + d = 65536 → d ≤ n → 0 < n → 0 ≤ k → k < 65536 →
  ∃ k', ref10_Classes_L3 N t i s n k = some k' ∧ k ≤ k' ∧ k' < 65536 ∧ (∀ j, k < j → j ≤ k' → gb t j = gb t i) ∧ (k' + 1 < 65536 → gb t (k' + 1) ≠ gb t i) := by
 intro d
 induction d with
 | zero => intro n k hk hn hn0 h0 h1; omega
 | succ d ih =>
  intro n k hk hn hn0 h0 h1
  obtain ⟨n, rfl⟩ : ∃ x, n = x + 1 := ⟨n - 1, by omega⟩
  rw [ref10_Classes_L3, w64 (x := k + 1) (by omega) (by omega)]
  by_cases h2 : k + 1 < 65536
  ·
   rw [if_pos h2, atI_gb (by omega) (by omega), Option.bind_some, atI_gb hi0 (by omega), Option.bind_some]
   by_cases h3 : gb t (k + 1) = gb t i
   ·
    rw [if_pos h3]
    obtain ⟨k', g1, g2, g3, g4, g5⟩ := ih n (k + 1) (by omega) (by omega) (by omega) (by omega) h2
    exact ⟨k', g1, by omega, g3, fun j hj hj2 => by
     by_cases e : j = k + 1
     ·
      rw [e]; exact h3
     ·
      exact g4 j (by omega) hj2, g5⟩
   ·
    rw [if_neg h3]
    exact ⟨k, rfl, Int.le_refl _, h1, fun j hj hj2 => by omega, fun _ => h3⟩
  ·
   rw [if_neg h2]
   exact ⟨k, rfl, Int.le_refl _, h1, fun j hj hj2 => by omega, fun h => by omega⟩
theorem rClasses_L4 {N : Nat} (hN : 1000000000000 < N) {t : List Int} (ht : t.length = 65536) : ∀ (d n : Nat) (i : Int) (s : List TClass), i + d = 65536 → d < n → 0 ≤ i → (s.length : Int) ≤ i → KL 0 0 s → (∀ x ∈ s, x.To < i) → (∀ x ∈ s, x.To + 1 = i → i < 65536 → gb t i ≠ x.Class) → (∀ g, 0 ≤ g → g < i → cof s g = pos t g) →
  ∃ m, ref10_Classes_L4 N t n i s = some m ∧ KL 0 0 m ∧ ∀ g, 0 ≤ g → g < 65536 → cof m g = pos t g := by
 intro d
 induction d using Nat.strongRecOn with
 | _ d ih =>
  intro n i s hi hn h0 hsi hr hto hlast hin
  obtain ⟨n, rfl⟩ : ∃ x, n = x + 1 := ⟨n - 1, by omega⟩
  rw [ref10_Classes_L4]
  by_cases h1 : i < 65536
  ·
   rw [if_pos h1, atI_gb h0 (by omega), Option.bind_some]
   by_cases h2 : gb t i ≤ 0
   ·
    rw [if_pos h2, w64 (by omega) (by omega)]
    refine ih (d - 1) (by omega) n (i + 1) s (by omega) (by omega) (by omega) (by omega) hr (fun x hx => by have := hto x hx; omega) (fun x hx e => by have := hto x hx; omega) ?_
    intro g hg hg2
    by_cases eg : g = i
    ·
     subst eg
     unfold pos
     rw [if_neg (by omega)]
     exact cof_gt (fun x hx => by have := hto x hx; omega)
    ·
     exact hin g hg (by omega)
   ·
    rw [if_neg h2]
    obtain ⟨k', g1, g2, g3, g4, g5⟩ := rClasses_L3 (N := N) (s := s) ht h0 h1 d N i hi (by omega) (by omega) h0 h1
    rw [g1, Option.bind_some, if_pos (by omega), w64 (x := k' + 1) (by omega) (by omega)]
    refine ih (d - (k' + 1 - i).toNat) (by omega) n (k' + 1) (s ++ [⟨i, k', gb t i⟩]) (by omega) (by omega) (by omega) (by simp; omega) (KL.snoc (s := ⟨i, k', gb t i⟩) g2 (by simp only; omega) (by simp only; omega) hr hto h0 (fun _ _ => by simp only; omega) (fun x hx e => ?_)) ?_ ?_ ?_
    ·
     exact (hlast x (List.mem_of_getLast? hx) e h1).symm
    ·
     intro x hx
     rcases List.mem_append.1 hx with hx | hx
     ·
      have := hto x hx; omega
     ·
      simp at hx; subst hx; simp only; omega
    ·
     intro x hx e hlt
     rcases List.mem_append.1 hx with hx | hx
     ·
      have := hto x hx; omega
     ·
      simp at hx; subst hx; exact g5 hlt
    ·
     intro g hg hg2
     rw [cof_snoc (s := ⟨i, k', gb t i⟩) hto]
     simp only
     by_cases hgi : i ≤ g ∧ g ≤ k'
     ·
      have e : gb t g = gb t i := by
       by_cases eg : g = i
       ·
        rw [eg]
       ·
        exact g4 g (by omega) hgi.2
      rw [if_pos hgi]
      unfold pos
      rw [e, if_pos (by omega)]
     ·
      rw [if_neg hgi]
      exact hin g hg (by omega)
  ·
   rw [if_neg h1]
   exact ⟨s, rfl, hr, fun g hg hg2 => hin g hg (by omega)⟩
theorem clsV_out {b : List Int} (hb : Bytes b) {i g : Int} (h : clsOk b i = true) (hg : ¬ (0 ≤ g ∧ g < 65536)) : clsV b i g = 0 := by
 unfold clsOk at h
 unfold clsV
 by_cases e1 : u16 b i = 1
 ·
  rw [if_pos e1] at h ⊢
  have h1 := of_decide_eq_true h
  have hu := u16_range hb (i + 2)
  have h2' : ¬ u16 b (i + 2) < 0 := fun h2 => by
   have h4 := (not_congr (u16_neg hb (i := i + 4))).1 (by omega)
   have hh : u16 b i < 0 := (u16_neg hb).2 (fun h => (u16_neg hb (i := i + 2)).1 h2 ⟨by omega, by omega⟩)
   omega
  rw [if_neg (by omega)]
 ·
  rw [if_neg e1] at h ⊢
  by_cases e2 : u16 b i = 2
  ·
   rw [if_pos e2] at h
   exact clsT_out (fun ⟨x, hx, h3⟩ => by
    have := riseZ_low (Bool.and_eq_true_iff.1 h).2 x hx
    have := trips_le hb x hx
    omega)
  ·
   rw [if_neg e2] at h; cases h
theorem rClasses_spec {N : Nat} (hN : 1000000000000 < N) {b : List Int} (hb : Bytes b) (hl : b.length ≤ 1000000000) (i : Int) (hi : i ≤ 100000000000) (hi' : -100000000000 ≤ i) :
  ∃ l, ref10_Classes N b i = some (l, clsOk b i) ∧ (clsOk b i = false → l = []) ∧ (clsOk b i = true → KL 0 0 l ∧ ∀ g, 0 ≤ g → cof l g = clsV b i g) := by
 obtain ⟨t, h1, h2⟩ := Table_cls hN hb hl i hi hi'
 unfold ref10_Classes
 rw [h1, Option.bind_some]
 cases hc : clsOk b i with
 | false => exact ⟨[], rfl, fun _ => rfl, fun h => by cases h⟩
 | true =>
  obtain ⟨h3, h4, h5⟩ := h2 hc
  simp only [if_true]
  obtain ⟨m, g1, g2, g3⟩ := rClasses_L4 hN h3 65536 N 0 [] (by omega) (by omega) (by omega) (by simp) trivial (by simp) (by simp) (fun g _ _ => by omega)
  rw [g1, Option.bind_some]
  refine ⟨m, rfl, (fun h => by cases h), fun _ => ⟨g2, fun g hg => ?_⟩⟩
  by_cases e : g < 65536
  ·
   rw [g3 g hg e, h4 g hg e]
  ·
   rw [clsV_out hb hc (by omega)]
   exact cof_gt (fun x hx => by have := KL.lows g2 x hx; omega)
theorem Classes_same {N : Nat} (hN : 1000000000000 < N) {b : List Int} (hb : Bytes b) (hl : b.length ≤ 1000000000) (i : Int) (hi : i ≤ 100000000000) (hi' : -100000000000 ≤ i) :
  ∃ l, cover_Classes N b i = some (l, clsOk b i) ∧ ref10_Classes N b i = some (l, clsOk b i) ∧ (clsOk b i = false → l = []) ∧ l.length ≤ 65536 ∧ (clsOk b i = true → KL 0 0 l ∧ ∀ g, cof l g = clsV b i g) := by
 obtain ⟨l, h1, h2, h3⟩ := Classes_spec hN hb hl i hi hi'
 obtain ⟨m, g1, g2, g3⟩ := rClasses_spec hN hb hl i hi hi'
 have e : m = l := by
  cases hc : clsOk b i with
  | false => rw [h2 hc, g2 hc]
  | true => exact KL.uniq (g3 hc).1 (h3 hc).1 (fun g hg => by rw [(g3 hc).2 g hg, (h3 hc).2.2])
 subst e
 refine ⟨m, h1, g1, h2, ?_, fun hc => ⟨(h3 hc).1, (h3 hc).2.2⟩⟩
 cases hc : clsOk b i with
 | false => rw [h2 hc]; simp
 | true => exact (h3 hc).2.1
end Go.Proofs.Ytakplhfiohjcmaa.AI
