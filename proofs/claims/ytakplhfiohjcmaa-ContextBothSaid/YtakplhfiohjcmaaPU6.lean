/- Plain laws: the document's coverage. -/
import Derived.Test.YtakplhfiohjcmaaPU5
set_option linter.unusedVariables false
set_option linter.unusedSimpArgs false
namespace Go.Proofs.Ytakplhfiohjcmaa.AI

def bb (t : List Bool) (g : Int) : Bool := (t[g.toNat]?).getD false
theorem bb_at {b : List Bool} {i : Int} (h0 : 0 ≤ i) (h1 : i < (b.length : Int)) : atI b i = some (bb b i) := by
 have : i.toNat < b.length := by omega
 unfold atI
 rw [if_pos h0, bb, List.getElem?_eq_getElem this]; rfl
theorem bb_set {t : List Bool} {k g : Int} (hk : 0 ≤ k) (hk2 : k < (t.length : Int)) (hg : 0 ≤ g) (v : Bool) : bb (t.set k.toNat v) g = if g = k then v else bb t g := by
 unfold bb
 rw [List.getElem?_set]
 by_cases h : g = k
 ·
  subst h
  rw [if_pos rfl, if_pos rfl, if_pos (by omega)]; rfl
 ·
  rw [if_neg h, if_neg (by omega)]
theorem bb_out {t : List Bool} {g : Int} (h : (t.length : Int) ≤ g) : bb t g = false := by
 unfold bb
 rw [List.getElem?_eq_none (by omega)]; rfl
theorem Spans_L3 {N : Nat} {t : List Bool} {i : Int} {s : List TSpan} (hl : t.length ≤ 1000000) : ∀ (d n : Nat) (k : Int), k + d = (t.length : Int) → d ≤ n → 0 < n → 0 ≤ k → k < (t.length : Int) →
  ∃ k', ref10_Spans_row_L3 N i t s n k = some k' ∧ k ≤ k' ∧ k' < (t.length : Int) ∧ (∀ j, k < j → j ≤ k' → bb t j = true) ∧ bb t (k' + 1) = false := by
 intro d
 induction d with
 | zero => intro n k hk hn hn0 h0 h1; omega
 | succ d ih =>
  intro n k hk hn hn0 h0 h1
  obtain ⟨n, rfl⟩ : ∃ x, n = x + 1 := ⟨n - 1, by omega⟩
  rw [ref10_Spans_row_L3, w64 (x := k + 1) (by omega) (by omega)]
  by_cases h2 : k + 1 < (t.length : Int)
  ·
   rw [if_pos h2, bb_at (by omega) h2, Option.bind_some]
   by_cases h3 : bb t (k + 1) = true
   ·
    rw [if_pos h3]
    obtain ⟨k', g1, g2, g3, g4, g5⟩ := ih n (k + 1) (by omega) (by omega) (by omega) (by omega) h2
    exact ⟨k', g1, by omega, g3, fun j hj hj2 => by
     by_cases e : j = k + 1
     ·
      rw [e]; exact h3
     ·
      exact g4 j (by omega) hj2, g5⟩
   ·
    rw [if_neg h3]
    exact ⟨k, rfl, Int.le_refl _, h1, fun j hj hj2 => by omega, by simpa using h3⟩
  ·
   rw [if_neg h2]
   exact ⟨k, rfl, Int.le_refl _, h1, fun j hj hj2 => by omega, bb_out (by omega)⟩
theorem Spans_L4 {N : Nat} (hN : 1000000000000 < N) {t : List Bool} (hl : t.length ≤ 65536) : ∀ (d n : Nat) (i : Int) (s : List TSpan), i + d = (t.length : Int) → d < n → 0 ≤ i → s.length ≤ 65536 → (s.length : Int) ≤ i → RL 0 s → (∀ x ∈ s, x.To < i) → (∀ x ∈ s, x.To + 1 = i → bb t i = false) → (∀ g, 0 ≤ g → g < i → (inn s g ↔ bb t g = true)) →
  ∃ m, ref10_Spans_row_L4 N t n i s = some m ∧ RL 0 m ∧ ∀ g, 0 ≤ g → (inn m g ↔ bb t g = true) := by
 intro d
 induction d using Nat.strongRecOn with
 | _ d ih =>
  intro n i s hi hn h0 hs hsi hr ht hlast hin
  obtain ⟨n, rfl⟩ : ∃ x, n = x + 1 := ⟨n - 1, by omega⟩
  rw [ref10_Spans_row_L4]
  by_cases h1 : i < (t.length : Int)
  ·
   rw [if_pos h1, bb_at h0 h1, Option.bind_some]
   by_cases h2 : bb t i = true
   ·
    rw [if_pos h2]
    obtain ⟨k', g1, g2, g3, g4, g5⟩ := Spans_L3 (N := N) (i := i) (s := s) (t := t) (by omega) d N i hi (by omega) (by omega) h0 h1
    rw [g1, Option.bind_some, if_pos (by omega), w64 (x := k' + 1) (by omega) (by omega)]
    have hgap : ∀ x ∈ s, x.To + 2 ≤ i := fun x hx => by
     have := ht x hx
     by_cases e : x.To + 1 = i
     ·
      have := hlast x hx e; rw [h2] at this; cases this
     ·
      omega
    refine ih (d - (k' + 1 - i).toNat) (by omega) n (k' + 1) (s ++ [⟨i, k'⟩]) (by omega) (by omega) (by omega) (by simp; omega) (by simp; omega) (RL.app hr hgap h0 g2 (by simp only; omega)) ?_ ?_ ?_
    ·
     intro x hx
     rcases List.mem_append.1 hx with hx | hx
     ·
      have := ht x hx; omega
     ·
      simp at hx; subst hx; simp only; omega
    ·
     intro x hx _; exact g5
    ·
     intro g hg hg2
     have e : inn (s ++ [⟨i, k'⟩]) g ↔ inn s g ∨ (i ≤ g ∧ g ≤ k') := by
      simp only [inn, List.mem_append, List.mem_singleton]
      constructor
      ·
       rintro ⟨y, hy | rfl, h3⟩
       ·
        exact .inl ⟨y, hy, h3⟩
       ·
        exact .inr h3
      ·
       rintro (⟨y, hy, h3⟩ | h3)
       ·
        exact ⟨y, .inl hy, h3⟩
       ·
        exact ⟨⟨i, k'⟩, .inr rfl, h3⟩
     rw [e]
     by_cases hgi : g < i
     ·
      rw [hin g hg hgi]
      constructor
      ·
       rintro (h | h)
       ·
        exact h
       ·
        omega
      ·
       exact .inl
     ·
      have hb : bb t g = true := by
       by_cases eg : g = i
       ·
        rw [eg]; exact h2
       ·
        exact g4 g (by omega) (by omega)
      simp only [hb, iff_true]
      exact .inr ⟨by omega, by omega⟩
   ·
    rw [if_neg h2, w64 (by omega) (by omega)]
    refine ih (d - 1) (by omega) n (i + 1) s (by omega) (by omega) (by omega) hs (by omega) hr (fun x hx => by have := ht x hx; omega) (fun x hx e => by have := ht x hx; omega) ?_
    intro g hg hg2
    by_cases eg : g = i
    ·
     subst eg
     have e0 : bb t g = false := by simpa using h2
     rw [e0]
     constructor
     ·
      rintro ⟨x, hx, h3, h4⟩
      have := ht x hx; omega
     ·
      intro h; cases h
    ·
     exact hin g hg (by omega)
  ·
   rw [if_neg h1]
   refine ⟨s, rfl, hr, fun g hg => ?_⟩
   by_cases hgi : g < i
   ·
    exact hin g hg hgi
   ·
    rw [bb_out (by omega)]
    simp only [Bool.false_eq_true, iff_false]
    rintro ⟨x, hx, h3, h4⟩
    have := ht x hx; omega
theorem Spans_eq {N : Nat} (hN : 1000000000000 < N) {t : List Bool} (hl : t.length ≤ 65536) : ∃ m, ref10_Spans_row N t = some m ∧ RL 0 m ∧ ∀ g, 0 ≤ g → (inn m g ↔ bb t g = true) := by
 obtain ⟨m, h1, h2⟩ := Spans_L4 hN hl t.length N 0 [] (by omega) (by omega) (by omega) (by simp) (by simp) trivial (by simp) (by simp) (fun g _ _ => by omega)
 exact ⟨m, by unfold ref10_Spans_row; rw [h1]; rfl, h2⟩

theorem Cover_L1 {N : Nat} {t : List Int} (ht : t.length = 65536) : ∀ (d k n : Nat) (s : List Bool), k + d = 65536 → d < n → s.length = 65536 →
  ∃ s', ref10_Cover_L1 N t n k s = some s' ∧ s'.length = 65536 ∧ ∀ g, 0 ≤ g → bb s' g = if (k : Int) ≤ g ∧ g < 65536 then decide (0 ≤ gb t g) else bb s g := by
 intro d
 induction d with
 | zero =>
  intro k n s hk hn hs
  obtain ⟨n, rfl⟩ : ∃ x, n = x + 1 := ⟨n - 1, by omega⟩
  rw [ref10_Cover_L1, if_neg (by omega)]
  exact ⟨s, rfl, hs, fun g _ => by rw [if_neg (by omega)]⟩
 | succ d ih =>
  intro k n s hk hn hs
  obtain ⟨n, rfl⟩ : ∃ x, n = x + 1 := ⟨n - 1, by omega⟩
  rw [ref10_Cover_L1, if_pos (by omega), atI_gb (by omega) (by omega), Option.bind_some, bb_at (by omega) (by omega), Option.bind_some, w64 (by omega) (by omega)]
  obtain ⟨s', h1, h2, h3⟩ := ih (k + 1) n (s.set k (decide (0 ≤ gb t k))) (by omega) (by omega) (by simpa using hs)
  refine ⟨s', by simpa using h1, h2, fun g hg => ?_⟩
  have hs2 := bb_set (t := s) (k := (k : Int)) (g := g) (by omega) (by omega) hg (decide (0 ≤ gb t k))
  simp only [Int.toNat_natCast] at hs2
  rw [h3 g hg, hs2]
  by_cases e : g = (k : Int)
  ·
   rw [if_neg (by omega), if_pos e, if_pos (by omega), e]
  ·
   rw [if_neg e]
   by_cases h4 : (k : Int) ≤ g ∧ g < 65536
   ·
    rw [if_pos (by omega), if_pos h4]
   ·
    rw [if_neg (by omega), if_neg h4]
theorem Table_cov {N : Nat} (hN : 1000000000000 < N) {b : List Int} (hb : Bytes b) (hl : b.length ≤ 1000000000) (i : Int) (hi : i ≤ 100000000000) (hi' : -100000000000 ≤ i) :
  ∃ t, ref10_Table N b i false = some (t, covOk b i) ∧ (covOk b i = true → t.length = 65536 ∧ ∀ g, 0 ≤ g → g < 65536 → (0 ≤ gb t g ↔ covIn b i g)) := by
 obtain ⟨t0, h1, h2, h3⟩ := Table_L1 (N := N) (b := b) (i := i) (c := false) 65536 0 N (List.replicate 65536 0) (by omega) (by omega) List.length_replicate
 have h30 : ∀ g, 0 ≤ g → g < 65536 → gb t0 g = -1 := fun g hg hg2 => by rw [h3 g hg, if_pos (by omega)]
 unfold ref10_Table
 rw [show ((0 : Nat) : Int) = 0 from rfl] at h1
 rw [h1, Option.bind_some, rU16_eq hN hb hl _ (by omega), Option.bind_some]
 have hu := u16_range hb (i + 2)
 by_cases e1 : u16 b i = 1
 ·
  rw [if_pos e1, w64 (x := i + 2) (by omega) (by omega), rU16_eq hN hb hl _ (by omega), Option.bind_some, if_neg (by decide)]
  have ec : covOk b i = (decide (0 ≤ u16 b (i + 2)) && rise (-1) (row16 b (i + 4) (u16 b (i + 2)).toNat)) := if_pos e1
  by_cases h4 : u16 b (i + 2) < 0
  ·
   rw [if_pos h4]
   have hc : covOk b i = false := by rw [ec, decide_eq_false (by omega)]; rfl
   rw [hc]
   exact ⟨t0, rfl, fun h => by cases h⟩
  ·
   rw [if_neg h4]
   obtain ⟨m, hm⟩ := Int.eq_ofNat_of_zero_le (show 0 ≤ u16 b (i + 2) by omega)
   obtain ⟨t', g1, g2⟩ := Table_L5_1 hN hb hl hi hi' (c := false) (m := m) (by omega) m 0 N 0 (-1) t0 (by omega) (by omega) h2 (by omega)
   rw [e1, hm]
   rw [show ((0 : Nat) : Int) = 0 from rfl, List.drop_zero] at g1
   rw [List.drop_zero] at g2
   rw [g1, Option.bind_some]
   have hc : covOk b i = rise (-1) (row16 b (i + 4) m) := by rw [ec, hm, decide_eq_true (by omega)]; rfl
   rw [hc]
   by_cases hr : rise (-1) (row16 b (i + 4) m) = true
   ·
    simp only [hr, if_true]
    refine ⟨t', rfl, fun _ => ⟨(g2 hr).1, fun g hg hg2 => ?_⟩⟩
    rw [(g2 hr).2 g hg hg2, h30 g hg hg2]
    simp [covIn, e1, hm]
   ·
    have hr2 : rise (-1) (row16 b (i + 4) m) = false := by simpa using hr
    simp only [hr2, Bool.false_eq_true, if_false]
    exact ⟨t', rfl, fun h => by cases h⟩
 ·
  rw [if_neg e1]
  by_cases e2 : u16 b i = 2
  ·
   rw [if_pos e2, w64 (x := i + 2) (by omega) (by omega), rU16_eq hN hb hl _ (by omega), Option.bind_some]
   have ec : covOk b i = (decide (0 ≤ u16 b (i + 2)) && riseZ false (-1) 0 (trips b (i + 4) (u16 b (i + 2)).toNat)) := by unfold covOk; rw [if_neg e1, if_pos e2]
   by_cases h4 : u16 b (i + 2) < 0
   ·
    rw [if_pos h4]
    have hc : covOk b i = false := by rw [ec, decide_eq_false (by omega)]; rfl
    rw [hc]
    exact ⟨t0, rfl, fun h => by cases h⟩
   ·
    rw [if_neg h4]
    obtain ⟨m, hm⟩ := Int.eq_ofNat_of_zero_le (show 0 ≤ u16 b (i + 2) by omega)
    obtain ⟨t', g1, g2⟩ := Table_L5_2 hN hb hl hi hi' (c := false) (f := u16 b i) e1 (m := m) (by omega) m 0 N 0 (-1) t0 (by omega) (by omega) h2 (by omega) (by omega) (by omega)
    rw [hm]
    rw [show ((0 : Nat) : Int) = 0 from rfl, List.drop_zero] at g1
    rw [List.drop_zero] at g2
    rw [g1, Option.bind_some]
    have hc : covOk b i = riseZ false (-1) 0 (trips b (i + 4) m) := by rw [ec, hm, decide_eq_true (by omega)]; rfl
    rw [hc]
    by_cases hr : riseZ false (-1) 0 (trips b (i + 4) m) = true
    ·
     simp only [hr, if_true]
     refine ⟨t', rfl, fun _ => ⟨(g2 hr).1, fun g hg hg2 => ?_⟩⟩
     rw [((g2 hr).2 g hg hg2).1, h30 g hg hg2]
     simp [covIn, e1, hm]
    ·
     have hr2 : riseZ false (-1) 0 (trips b (i + 4) m) = false := by simpa using hr
     simp only [hr2, Bool.false_eq_true, if_false]
     exact ⟨t', rfl, fun h => by cases h⟩
  ·
   rw [if_neg e2]
   have hc : covOk b i = false := by unfold covOk; rw [if_neg e1, if_neg e2]
   rw [hc]
   exact ⟨t0, rfl, fun h => by cases h⟩
theorem covIn_range {b : List Int} (hb : Bytes b) {i g : Int} (h : covOk b i = true) (hg : covIn b i g) : 0 ≤ g ∧ g < 65536 := by
 unfold covOk at h
 unfold covIn at hg
 by_cases e1 : u16 b i = 1
 ·
  rw [if_pos e1] at h hg
  have := rise_gt (Bool.and_eq_true_iff.1 h).2 g hg
  obtain ⟨k, _, rfl⟩ := row16_mem hg
  have := u16_range hb (i + 4 + 2 * (k : Int)); omega
 ·
  rw [if_neg e1] at h hg
  by_cases e2 : u16 b i = 2
  ·
   rw [if_pos e2] at h
   obtain ⟨x, hx, h1, h2⟩ := hg
   have := riseZ_low (Bool.and_eq_true_iff.1 h).2 x hx
   have := trips_le hb x hx
   omega
  ·
   rw [if_neg e2] at h; cases h
theorem rCover_spec {N : Nat} (hN : 1000000000000 < N) {b : List Int} (hb : Bytes b) (hl : b.length ≤ 1000000000) (i : Int) (hi : i ≤ 100000000000) (hi' : -100000000000 ≤ i) :
  ∃ l, ref10_Cover N b i = some (l, covOk b i) ∧ (covOk b i = false → l = []) ∧ (covOk b i = true → RL 0 l ∧ ∀ g, inn l g ↔ covIn b i g) := by
 obtain ⟨t, h1, h2⟩ := Table_cov hN hb hl i hi hi'
 unfold ref10_Cover
 rw [h1, Option.bind_some]
 cases hc : covOk b i with
 | false => exact ⟨[], rfl, fun _ => rfl, fun h => by cases h⟩
 | true =>
  obtain ⟨h3, h4⟩ := h2 hc
  simp only [if_true]
  obtain ⟨s, g1, g2, g3⟩ := Cover_L1 (N := N) h3 65536 0 N (List.replicate 65536 false) (by omega) (by omega) List.length_replicate
  rw [show ((0 : Nat) : Int) = 0 from rfl] at g1
  rw [g1, Option.bind_some]
  obtain ⟨m, k1, k2, k3⟩ := Spans_eq hN (t := s) (by omega)
  rw [k1, Option.bind_some]
  refine ⟨m, rfl, (fun h => by cases h), fun _ => ⟨k2, fun g => ?_⟩⟩
  by_cases hg : 0 ≤ g ∧ g < 65536
  ·
   rw [k3 g hg.1, g3 g hg.1, if_pos (by omega), decide_eq_true_eq, h4 g hg.1 hg.2]
  ·
   constructor
   ·
    rintro ⟨x, hx, h5, h6⟩
    have := RL.lows k2 x hx; omega
   ·
    intro h5
    exact (hg (covIn_range hb hc h5)).elim
theorem Cover_same {N : Nat} (hN : 1000000000000 < N) {b : List Int} (hb : Bytes b) (hl : b.length ≤ 1000000000) (i : Int) (hi : i ≤ 100000000000) (hi' : -100000000000 ≤ i) :
  ∃ l, cover_Cover N b i = some (l, covOk b i) ∧ ref10_Cover N b i = some (l, covOk b i) ∧ (covOk b i = false → l = []) ∧ (covOk b i = true → RL 0 l ∧ ∀ g, inn l g ↔ covIn b i g) := by
 obtain ⟨l, h1, h2, h3⟩ := Cover_spec hN hb hl i hi hi'
 obtain ⟨m, g1, g2, g3⟩ := rCover_spec hN hb hl i hi hi'
 have e : m = l := by
  cases hc : covOk b i with
  | false => rw [h2 hc, g2 hc]
  | true => exact RL.uniq (g3 hc).1 (h3 hc).1 (fun g => by rw [(g3 hc).2, (h3 hc).2])
 subst e
 exact ⟨m, h1, g1, h2, h3⟩
theorem RL.len : ∀ {l : List TSpan} {lo : Int}, RL lo l → 0 ≤ lo → (l.length : Int) ≤ 65536 - lo ∨ l = []
 | [], lo, _, _ => .inr rfl
 | x :: r, lo, h, h0 => by
  left
  have h1 := h.1; have h2 := h.2.1; have h3 := h.2.2.1
  rcases RL.len h.2.2.2 (by omega) with h4 | h4
  ·
   simp only [List.length_cons]; omega
  ·
   subst h4; simp; omega
end Go.Proofs.Ytakplhfiohjcmaa.AI
