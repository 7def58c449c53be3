/- Part of a proof. -/
import Derived.Test.YtakplhfiohjcmaaPU4
set_option linter.unusedVariables false
set_option linter.unusedSimpArgs false
namespace Go.Proofs.Ytakplhfiohjcmaa.AI

theorem gb_set {t : List Int} {k g : Int} (hk : 0 ≤ k) (hk2 : k < (t.length : Int)) (hg : 0 ≤ g) (v : Int) : gb (t.set k.toNat v) g = if g = k then v else gb t g := by
 unfold gb
 rw [List.getElem?_set]
 by_cases h : g = k
 ·
  subst h
  rw [if_pos rfl, if_pos rfl, if_pos (by omega)]; rfl
 ·
  rw [if_neg h, if_neg (by omega)]
theorem atI_gb {t : List Int} {k : Int} (hk : 0 ≤ k) (hk2 : k < (t.length : Int)) : atI t k = some (gb t k) := by unfold atI; rw [if_pos hk]; exact gb_at hk hk2
theorem Table_L1 {N : Nat} {b : List Int} {i : Int} {c : Bool} : ∀ (d k n : Nat) (t : List Int), k + d = 65536 → d < n → t.length = 65536 →
  ∃ t', ref10_Table_L1 N b i c n k t = some t' ∧ t'.length = 65536 ∧ ∀ g, 0 ≤ g → gb t' g = if (k : Int) ≤ g ∧ g < 65536 then -1 else gb t g := by
 intro d
 induction d with
 | zero =>
  intro k n t hk hn ht
  obtain ⟨n, rfl⟩ : ∃ x, n = x + 1 := ⟨n - 1, by omega⟩
  rw [ref10_Table_L1, if_neg (by omega)]
  exact ⟨t, rfl, ht, fun g _ => by rw [if_neg (by omega)]⟩
 | succ d ih =>
  intro k n t hk hn ht
  obtain ⟨n, rfl⟩ : ∃ x, n = x + 1 := ⟨n - 1, by omega⟩
  rw [ref10_Table_L1, if_pos (by omega), atI_gb (by omega) (by omega), Option.bind_some, w64 (by omega) (by omega)]
  obtain ⟨t', h1, h2, h3⟩ := ih (k + 1) n (t.set k (-1)) (by omega) (by omega) (by simpa using ht)
  refine ⟨t', by simpa using h1, h2, fun g hg => ?_⟩
  have hs := gb_set (t := t) (k := (k : Int)) (g := g) (by omega) (by omega) hg (-1)
  simp only [Int.toNat_natCast] at hs
  rw [h3 g hg, hs]
  by_cases e : g = (k : Int)
  ·
   rw [if_neg (by omega), if_pos e, if_pos (by omega)]
  ·
   rw [if_neg e]
   by_cases h4 : (k : Int) ≤ g ∧ g < 65536
   ·
    rw [if_pos (by omega), if_pos h4]
   ·
    rw [if_neg (by omega), if_neg h4]
theorem Table_L4 {N : Nat} {b : List Int} {i : Int} {c : Bool} {f m y k z : Int} (hy : y ≤ 65535) : ∀ (d n : Nat) (nx x : Int) (t : List Int), x + d = y + 1 → d < n → t.length = 65536 → 0 ≤ x → 0 ≤ nx → nx + (d : Int) ≤ 10000000000 →
  ∃ t', ref10_Table_L4 N b i c f m y k z n nx x t = some (nx + d, t') ∧ t'.length = 65536 ∧ ∀ g, 0 ≤ g → gb t' g = if x ≤ g ∧ g ≤ y then (if c = true then z else nx + (g - x)) else gb t g := by
 intro d
 induction d with
 | zero =>
  intro n nx x t hk hn ht hx hnx hnx2
  obtain ⟨n, rfl⟩ : ∃ x, n = x + 1 := ⟨n - 1, by omega⟩
  rw [ref10_Table_L4, if_neg (by omega)]
  exact ⟨t, by simp, ht, fun g _ => by rw [if_neg (by omega)]⟩
 | succ d ih =>
  intro n nx x t hk hn ht hx hnx hnx2
  obtain ⟨n, rfl⟩ : ∃ x, n = x + 1 := ⟨n - 1, by omega⟩
  rw [ref10_Table_L4, if_pos (by omega), atI_gb (by omega) (by omega), Option.bind_some, w64 (x := nx + 1) (by omega) (by omega), w64 (x := x + 1) (by omega) (by omega)]
  cases c with
  | true =>
   obtain ⟨t', h1, h2, h3⟩ := ih n (nx + 1) (x + 1) (t.set x.toNat z) (by omega) (by omega) (by simpa using ht) (by omega) (by omega) (by omega)
   refine ⟨t', ?_, h2, fun g hg => ?_⟩
   ·
    rw [if_pos rfl, h1]; congr 2; omega
   ·
    rw [h3 g hg, gb_set hx (by omega) hg]
    simp only [if_true]
    by_cases e : g = x
    ·
     rw [if_neg (by omega), if_pos e, if_pos (by omega)]
    ·
     rw [if_neg e]
     by_cases h4 : x ≤ g ∧ g ≤ y
     ·
      rw [if_pos (by omega), if_pos h4]
     ·
      rw [if_neg (by omega), if_neg h4]
  | false =>
   obtain ⟨t', h1, h2, h3⟩ := ih n (nx + 1) (x + 1) ((t.set x.toNat z).set x.toNat nx) (by omega) (by omega) (by simpa using ht) (by omega) (by omega) (by omega)
   refine ⟨t', ?_, h2, fun g hg => ?_⟩
   ·
    rw [if_neg (by decide), h1]; congr 2; omega
   ·
    rw [h3 g hg, gb_set hx (by simp; omega) hg, gb_set hx (by omega) hg]
    simp only [Bool.false_eq_true, if_false]
    by_cases e : g = x
    ·
     rw [if_neg (by omega), if_pos e, if_pos (by omega)]; omega
    ·
     rw [if_neg e, if_neg e]
     by_cases h4 : x ≤ g ∧ g ≤ y
     ·
      rw [if_pos (by omega), if_pos h4]; omega
     ·
      rw [if_neg (by omega), if_neg h4]
def clsT : List TArr3_I64 → Int → Int → Int
 | [], g, d => d
 | x :: r, g, d => if x.e0 ≤ g ∧ g ≤ x.e1 then x.e2 else clsT r g d
theorem riseZ_low {c : Bool} : ∀ {l : List TArr3_I64} {a n : Int}, riseZ c a n l = true → ∀ x ∈ l, a < x.e0 ∧ x.e0 ≤ x.e1 ∧ 0 ≤ x.e2
 | [], _, _, _, x, hx => by cases hx
 | y :: r, a, n, h, x, hx => by
  simp only [riseZ, Bool.and_eq_true, decide_eq_true_eq] at h
  rcases List.mem_cons.1 hx with rfl | hx
  ·
   exact ⟨h.1.1.1.2, h.1.1.2, h.1.1.1.1⟩
  ·
   have := riseZ_low h.2 x hx; omega
theorem clsT_out : ∀ {l : List TArr3_I64} {g d : Int}, ¬ inT l g → clsT l g d = d
 | [], _, _, _ => rfl
 | x :: r, g, d, h => by
  simp only [clsT]
  rw [if_neg (fun e => h ⟨x, List.mem_cons_self, e⟩)]
  exact clsT_out (fun ⟨y, hy, e⟩ => h ⟨y, List.mem_cons_of_mem _ hy, e⟩)
theorem Table_L5_1 {N : Nat} (hN : 1000000000000 < N) {b : List Int} (hb : Bytes b) (hl : b.length ≤ 1000000000) {i : Int} (hi : i ≤ 100000000000) (hi' : -100000000000 ≤ i) {c : Bool} {m : Nat} (hm : m ≤ 65535) : ∀ (d k n : Nat) (nx a : Int) (t : List Int), k + d = m → d < n → t.length = 65536 → -1 ≤ a →
  ∃ t', ref10_Table_L5 N b i c 1 m n nx a k t = some (if rise a ((row16 b (i + 4) m).drop k) = true then .inl t' else .inr t') ∧ (rise a ((row16 b (i + 4) m).drop k) = true → t'.length = 65536 ∧ ∀ g, 0 ≤ g → g < 65536 → (0 ≤ gb t' g ↔ 0 ≤ gb t g ∨ g ∈ (row16 b (i + 4) m).drop k)) := by
 intro d
 induction d with
 | zero =>
  intro k n nx a t hk hn ht ha
  obtain ⟨n, rfl⟩ : ∃ x, n = x + 1 := ⟨n - 1, by omega⟩
  rw [ref10_Table_L5, if_neg (by omega), List.drop_eq_nil_of_le (by rw [row16_len]; omega)]
  exact ⟨t, rfl, fun _ => ⟨ht, fun g _ _ => by simp⟩⟩
 | succ d ih =>
  intro k n nx a t hk hn ht ha
  obtain ⟨n, rfl⟩ : ∃ x, n = x + 1 := ⟨n - 1, by omega⟩
  have hx := row16_at (b := b) (i := i + 4) (show k < m by omega)
  have hd : (row16 b (i + 4) m).drop k = u16 b (i + 4 + 2 * (k : Int)) :: (row16 b (i + 4) m).drop (k + 1) := by
   obtain ⟨hlt, e⟩ := List.getElem?_eq_some_iff.1 hx
   rw [List.drop_eq_getElem_cons hlt, e]
  have hu := u16_range hb (i + 4 + 2 * (k : Int))
  rw [ref10_Table_L5, if_pos (by omega), if_pos rfl, w64 (x := i + 4) (by omega) (by omega), w64 (x := 2 * (k : Int)) (by omega) (by omega), w64 (x := i + 4 + 2 * (k : Int)) (by omega) (by omega), rU16_eq hN hb hl _ (by omega), Option.bind_some, hd]
  by_cases h : u16 b (i + 4 + 2 * (k : Int)) ≤ a
  ·
   rw [if_pos h]
   exact ⟨t, by rw [if_neg (by simp [rise]; omega)], fun h2 => by simp [rise] at h2; omega⟩
  ·
   rw [if_neg h, atI_gb (by omega) (by omega), Option.bind_some, w64 (by omega) (by omega)]
   obtain ⟨t', h1, h2⟩ := ih (k + 1) n nx (u16 b (i + 4 + 2 * (k : Int))) (t.set (u16 b (i + 4 + 2 * (k : Int))).toNat k) (by omega) (by omega) (by simpa using ht) (by omega)
   have e : rise a (u16 b (i + 4 + 2 * (k : Int)) :: (row16 b (i + 4) m).drop (k + 1)) = rise (u16 b (i + 4 + 2 * (k : Int))) ((row16 b (i + 4) m).drop (k + 1)) := by simp [rise]; omega
   rw [e]
   refine ⟨t', by rw [show ((k + 1 : Nat) : Int) = (k : Int) + 1 by omega] at h1; exact h1, fun hr => ⟨(h2 hr).1, fun g hg hg2 => ?_⟩⟩
   rw [(h2 hr).2 g hg hg2, gb_set (by omega) (by omega) hg, List.mem_cons]
   by_cases e2 : g = u16 b (i + 4 + 2 * (k : Int))
   ·
    simp [e2]
   ·
    simp [e2]
theorem Table_L5_2 {N : Nat} (hN : 1000000000000 < N) {b : List Int} (hb : Bytes b) (hl : b.length ≤ 1000000000) {i : Int} (hi : i ≤ 100000000000) (hi' : -100000000000 ≤ i) {c : Bool} {f : Int} (hf : f ≠ 1) {m : Nat} (hm : m ≤ 65535) : ∀ (d k n : Nat) (nx a : Int) (t : List Int), k + d = m → d < n → t.length = 65536 → -1 ≤ a → 0 ≤ nx → nx ≤ 100000 * (k : Int) →
  ∃ t', ref10_Table_L5 N b i c f m n nx a k t = some (if riseZ c a nx ((trips b (i + 4) m).drop k) = true then .inl t' else .inr t') ∧ (riseZ c a nx ((trips b (i + 4) m).drop k) = true → t'.length = 65536 ∧ ∀ g, 0 ≤ g → g < 65536 →
   ((0 ≤ gb t' g ↔ 0 ≤ gb t g ∨ inT ((trips b (i + 4) m).drop k) g) ∧ (c = true → gb t' g = clsT ((trips b (i + 4) m).drop k) g (gb t g)))) := by
 intro d
 induction d with
 | zero =>
  intro k n nx a t hk hn ht ha hnx hnx2
  obtain ⟨n, rfl⟩ : ∃ x, n = x + 1 := ⟨n - 1, by omega⟩
  rw [ref10_Table_L5, if_neg (by omega), List.drop_eq_nil_of_le (by rw [trips_len]; omega)]
  exact ⟨t, rfl, fun _ => ⟨ht, fun g _ _ => ⟨by simp [inT], fun _ => rfl⟩⟩⟩
 | succ d ih =>
  intro k n nx a t hk hn ht ha hnx hnx2
  obtain ⟨n, rfl⟩ : ∃ x, n = x + 1 := ⟨n - 1, by omega⟩
  have hx := trips_at (b := b) (i := i + 4) (show k < m by omega)
  have hd : (trips b (i + 4) m).drop k = trip b (i + 4) k :: (trips b (i + 4) m).drop (k + 1) := by
   obtain ⟨hlt, e⟩ := List.getElem?_eq_some_iff.1 hx
   rw [List.drop_eq_getElem_cons hlt, e]
  have hr := trip_range hb (i + 4) k
  have e0 : u16 b (i + 4 + 6 * (k : Int)) = (trip b (i + 4) k).e0 := rfl
  have e1 : u16 b (i + 6 + 6 * (k : Int)) = (trip b (i + 4) k).e1 := by simp only [trip]; congr 1; omega
  have e2 : u16 b (i + 8 + 6 * (k : Int)) = (trip b (i + 4) k).e2 := by simp only [trip]; congr 1; omega
  rw [ref10_Table_L5, if_pos (by omega), if_neg hf, w64 (x := i + 4) (by omega) (by omega), w64 (x := 6 * (k : Int)) (by omega) (by omega), w64 (x := i + 6) (by omega) (by omega), w64 (x := i + 8) (by omega) (by omega), w64 (x := i + 4 + _) (by omega) (by omega), w64 (x := i + 6 + _) (by omega) (by omega), w64 (x := i + 8 + _) (by omega) (by omega),
   rU16_eq hN hb hl _ (by omega), Option.bind_some, rU16_eq hN hb hl _ (by omega), Option.bind_some, rU16_eq hN hb hl _ (by omega), Option.bind_some, e0, e1, e2, hd]
  by_cases h1 : (trip b (i + 4) k).e2 < 0
  ·
   rw [if_pos h1]
   exact ⟨t, by rw [if_neg (by simp [riseZ]; omega)], fun h2 => by simp [riseZ] at h2; omega⟩
  rw [if_neg h1]
  by_cases h2 : (trip b (i + 4) k).e0 ≤ a
  ·
   rw [if_pos h2]
   exact ⟨t, by rw [if_neg (by simp [riseZ]; omega)], fun h3 => by simp [riseZ] at h3; omega⟩
  rw [if_neg h2]
  by_cases h3 : (trip b (i + 4) k).e1 < (trip b (i + 4) k).e0
  ·
   rw [if_pos h3]
   exact ⟨t, by rw [if_neg (by simp [riseZ]; omega)], fun h4 => by simp [riseZ] at h4; omega⟩
  rw [if_neg h3]
  have hgo : (c = true ∨ (trip b (i + 4) k).e2 = nx) →
    ∃ t', ((ref10_Table_L4 N b i c f m (trip b (i + 4) k).e1 k (trip b (i + 4) k).e2 N nx (trip b (i + 4) k).e0 t).bind fun (y_3057, y_3058) => ref10_Table_L5 N b i c f m n y_3057 (trip b (i + 4) k).e1 (IntKind.i64.wrap ((k : Int) + 1)) y_3058) = some (if riseZ c a nx (trip b (i + 4) k :: (trips b (i + 4) m).drop (k + 1)) = true then .inl t' else .inr t') ∧
     (riseZ c a nx (trip b (i + 4) k :: (trips b (i + 4) m).drop (k + 1)) = true → t'.length = 65536 ∧ ∀ g, 0 ≤ g → g < 65536 → ((0 ≤ gb t' g ↔ 0 ≤ gb t g ∨ inT (trip b (i + 4) k :: (trips b (i + 4) m).drop (k + 1)) g) ∧ (c = true → gb t' g = clsT (trip b (i + 4) k :: (trips b (i + 4) m).drop (k + 1)) g (gb t g)))) := by
   intro hc
   obtain ⟨t1, j1, j2, j3⟩ := Table_L4 (N := N) (b := b) (i := i) (c := c) (f := f) (m := m) (k := k) (z := (trip b (i + 4) k).e2) hr.2.1 ((trip b (i + 4) k).e1 + 1 - (trip b (i + 4) k).e0).toNat N nx (trip b (i + 4) k).e0 t (by omega) (by omega) ht (by omega) hnx (by omega)
   rw [j1, Option.bind_some]
   obtain ⟨t', g1, g2⟩ := ih (k + 1) n (nx + (((trip b (i + 4) k).e1 + 1 - (trip b (i + 4) k).e0).toNat : Int)) (trip b (i + 4) k).e1 t1 (by omega) (by omega) j2 (by omega) (by omega) (by omega)
   have ee : (nx + (((trip b (i + 4) k).e1 + 1 - (trip b (i + 4) k).e0).toNat : Int)) = nx + ((trip b (i + 4) k).e1 - (trip b (i + 4) k).e0 + 1) := by omega
   have e : riseZ c a nx (trip b (i + 4) k :: (trips b (i + 4) m).drop (k + 1)) = riseZ c (trip b (i + 4) k).e1 (nx + (((trip b (i + 4) k).e1 + 1 - (trip b (i + 4) k).e0).toNat : Int)) ((trips b (i + 4) m).drop (k + 1)) := by
    rw [ee]
    simp only [riseZ]
    rw [decide_eq_true (by omega : 0 ≤ (trip b (i + 4) k).e2), decide_eq_true (by omega : a < (trip b (i + 4) k).e0), decide_eq_true (by omega : (trip b (i + 4) k).e0 ≤ (trip b (i + 4) k).e1)]
    rcases hc with hc | hc <;> simp [hc]
   rw [e]
   refine ⟨t', ?_, fun hz => ⟨(g2 hz).1, fun g hg hg2 => ?_⟩⟩
   ·
    simp only
    rw [w64 (by omega) (by omega), ← g1, show ((k + 1 : Nat) : Int) = (k : Int) + 1 by omega]
   ·
    obtain ⟨q1, q2⟩ := (g2 hz).2 g hg hg2
    have hlow := riseZ_low hz
    refine ⟨?_, fun hct => ?_⟩
    ·
     rw [q1, j3 g hg]
     simp only [inT, List.mem_cons]
     by_cases hin : (trip b (i + 4) k).e0 ≤ g ∧ g ≤ (trip b (i + 4) k).e1
     ·
      rw [if_pos hin]
      constructor
      ·
       intro _; exact .inr ⟨_, .inl rfl, hin⟩
      ·
       intro _; left
       split <;> omega
     ·
      rw [if_neg hin]
      constructor
      ·
       rintro (h | ⟨x, hx, h⟩)
       ·
        exact .inl h
       ·
        exact .inr ⟨x, .inr hx, h⟩
      ·
       rintro (h | ⟨x, rfl | hx, h⟩)
       ·
        exact .inl h
       ·
        exact (hin h).elim
       ·
        exact .inr ⟨x, hx, h⟩
    ·
     rw [q2 hct, j3 g hg]
     simp only [clsT]
     by_cases hin : (trip b (i + 4) k).e0 ≤ g ∧ g ≤ (trip b (i + 4) k).e1
     ·
      rw [if_pos hin, if_pos hin, if_pos hct]
      exact clsT_out (fun ⟨x, hx, h⟩ => by have := hlow x hx; omega)
     ·
      rw [if_neg hin, if_neg hin]
  by_cases hc : c = true
  ·
   rw [if_pos hc]; exact hgo (.inl hc)
  ·
   rw [if_neg hc]
   by_cases h4 : (trip b (i + 4) k).e2 = nx
   ·
    rw [if_pos h4]; exact hgo (.inr h4)
   ·
    rw [if_neg h4]
    exact ⟨t, by rw [if_neg (by simp [riseZ, hc, h4])], fun h5 => by simp [riseZ, hc, h4] at h5⟩
end Go.Proofs.Ytakplhfiohjcmaa.AI
