/- Part of a proof. -/
import Derived.Test.YtakplhfiohjcmaaPU3
set_option linter.unusedVariables false
set_option linter.unusedSimpArgs false
namespace Go.Proofs.Ytakplhfiohjcmaa.AI

def idxT : Int → List TArr3_I64 → Bool
 | _, [] => true
 | n, x :: r => decide (x.e2 = n) && idxT (n + (x.e1 - x.e0 + 1)) r
def rgs : List TSpan → List TArr3_I64 → List TSpan
 | s, [] => s
 | s, x :: r => rgs (jn s ⟨x.e0, x.e1⟩) r
theorem ranges_L1 {N : Nat} {l : List TArr3_I64} (hl : l.length ≤ 70000) : ∀ (d k n : Nat) (a c : Int) (s : List TSpan), k + d = l.length → d < n → riseT a (l.drop k) = true → (∀ x ∈ l, x.e1 ≤ 65535) → -1 ≤ a → 0 ≤ c → c ≤ 100000 * (k : Int) → s.length ≤ k → (∀ x ∈ s, 0 ≤ x.To ∧ x.To ≤ 65535) →
  cover_ranges_L1 N l n c k s = some (if idxT c (l.drop k) = true then .inl (rgs s (l.drop k)) else .inr ()) := by
 intro d
 induction d with
 | zero =>
  intro k n a c s hk hn hr hb ha hc hck hs ht
  obtain ⟨n, rfl⟩ : ∃ x, n = x + 1 := ⟨n - 1, by omega⟩
  rw [cover_ranges_L1, if_neg (by omega), List.drop_eq_nil_of_le (by omega)]
  rfl
 | succ d ih =>
  intro k n a c s hk hn hr hb ha hc hck hs ht
  obtain ⟨n, rfl⟩ : ∃ x, n = x + 1 := ⟨n - 1, by omega⟩
  obtain ⟨x, hx, hd⟩ := drop_cons hk
  have hxb := hb x (List.mem_of_getElem? hx)
  rw [hd] at hr
  simp only [riseT, Bool.and_eq_true, decide_eq_true_eq] at hr
  rw [cover_ranges_L1, if_pos (by omega), atI_at hx, Option.bind_some, hd]
  by_cases h : x.e2 = c
  ·
   rw [if_pos h, joined_eq (by omega) ht, Option.bind_some, w64 (x := x.e1 - x.e0) (by omega) (by omega), w64 (x := x.e1 - x.e0 + 1) (by omega) (by omega), w64 (x := c + _) (by omega) (by omega), w64 (by omega) (by omega)]
   have := ih (k + 1) n x.e1 (c + (x.e1 - x.e0 + 1)) (jn s ⟨x.e0, x.e1⟩) (by omega) (by omega) hr.2 hb (by omega) (by omega) (by omega) (by have := jn_len s ⟨x.e0, x.e1⟩; omega) (jn_b ht ⟨by simp only; omega, hxb⟩)
   rw [show ((k + 1 : Nat) : Int) = (k : Int) + 1 by omega] at this
   rw [this]
   have e : idxT c (x :: l.drop (k + 1)) = idxT (c + (x.e1 - x.e0 + 1)) (l.drop (k + 1)) := by simp [idxT, h]
   rw [e]
   rfl
  ·
   rw [if_neg h, if_neg (by simp [idxT, h])]
def inT (l : List TArr3_I64) (g : Int) : Prop := ∃ x ∈ l, x.e0 ≤ g ∧ g ≤ x.e1
theorem rgs_spec : ∀ {l : List TArr3_I64} {s : List TSpan} {a : Int}, riseT a l = true → -1 ≤ a → (∀ x ∈ l, x.e1 ≤ 65535) → RL 0 s → (∀ x ∈ s, x.To ≤ a) → RL 0 (rgs s l) ∧ ∀ g, inn (rgs s l) g ↔ inn s g ∨ inT l g
 | [], s, a, _, _, _, hs, _ => ⟨hs, fun g => by simp [rgs, inT]⟩
 | x :: r, s, a, h, ha, hb, hs, ht => by
  simp only [riseT, Bool.and_eq_true, decide_eq_true_eq] at h
  have hx := hb x List.mem_cons_self
  obtain ⟨g1, g2, g3, g4, g5⟩ := jn_spec (s := ⟨x.e0, x.e1⟩) hs (fun y hy => by have := ht y hy; simp only; omega) (by simp only; omega) h.1.2 hx
  obtain ⟨k1, k2⟩ := rgs_spec h.2 (by omega) (fun y hy => hb y (List.mem_cons_of_mem _ hy)) g1 (fun y hy => g2 y hy)
  refine ⟨k1, fun g => ?_⟩
  simp only [rgs]
  rw [k2, g4]
  simp only [inT, List.mem_cons]
  clear h
  constructor
  ·
   rintro ((h | h) | ⟨y, hy, h⟩)
   ·
    exact .inl h
   ·
    exact .inr ⟨x, .inl rfl, h⟩
   ·
    exact .inr ⟨y, .inr hy, h⟩
  ·
   rintro (h | ⟨y, rfl | hy, h⟩)
   ·
    exact .inl (.inl h)
   ·
    exact .inl (.inr h)
   ·
    exact .inr ⟨y, hy, h⟩

def riseZ (cls : Bool) : Int → Int → List TArr3_I64 → Bool
 | _, _, [] => true
 | a, n, x :: r => decide (0 ≤ x.e2) && decide (a < x.e0) && decide (x.e0 ≤ x.e1) && (cls || decide (x.e2 = n)) && riseZ cls x.e1 (n + (x.e1 - x.e0 + 1)) r
theorem riseZ_T {cls : Bool} : ∀ {l : List TArr3_I64} {a n : Int}, riseZ cls a n l = true ↔ (riseT a l = true ∧ (∀ x ∈ l, 0 ≤ x.e2) ∧ (cls = true ∨ idxT n l = true))
 | [], a, n => by simp [riseZ, riseT, idxT]
 | x :: r, a, n => by
  simp only [riseZ, riseT, idxT, Bool.and_eq_true, decide_eq_true_eq, Bool.or_eq_true, List.mem_cons, forall_eq_or_imp, riseZ_T]
  constructor
  ·
   rintro ⟨⟨⟨⟨h1, h2⟩, h3⟩, h4⟩, h5, h6, h7⟩
   exact ⟨⟨⟨h2, h3⟩, h5⟩, ⟨h1, h6⟩, by rcases h4 with h4 | h4 <;> rcases h7 with h7 | h7 <;> simp [*]⟩
  ·
   rintro ⟨⟨⟨h2, h3⟩, h5⟩, ⟨h1, h6⟩, h7⟩
   exact ⟨⟨⟨⟨h1, h2⟩, h3⟩, by rcases h7 with h7 | h7 <;> simp [*]⟩, h5, h6, by rcases h7 with h7 | h7 <;> simp [*]⟩
theorem trip_range {b : List Int} (hb : Bytes b) (i : Int) (k : Nat) : (trip b i k).e0 ≤ 65535 ∧ (trip b i k).e1 ≤ 65535 ∧ (trip b i k).e2 ≤ 65535 := by
 have h1 := u16_range hb (i + 6 * (k : Int)); have h2 := u16_range hb (i + 6 * (k : Int) + 2); have h3 := u16_range hb (i + 6 * (k : Int) + 4)
 simp only [trip]; omega
theorem trips_mem {b : List Int} {i : Int} {n : Nat} {x : TArr3_I64} (h : x ∈ trips b i n) : ∃ k, k < n ∧ x = trip b i k := by
 simp only [trips, List.mem_map, List.mem_range] at h
 obtain ⟨k, hk, rfl⟩ := h
 exact ⟨k, hk, rfl⟩
theorem trips_there {b : List Int} (hb : Bytes b) {i : Int} {n : Nat} (h0 : 0 ≤ i) (h1 : i ≤ (b.length : Int)) : (∀ x ∈ trips b i n, 0 ≤ x.e2) ↔ i + 6 * (n : Int) ≤ (b.length : Int) := by
 constructor
 ·
  intro h
  cases n with
  | zero => simpa using h1
  | succ n =>
   have := h (trip b i n) (by simp only [trips, List.mem_map, List.mem_range]; exact ⟨n, by omega, rfl⟩)
   by_cases hh : i + 6 * (n : Int) + 4 + 2 ≤ (b.length : Int)
   ·
    omega
   ·
    have hn := (u16_neg hb (i := i + 6 * (n : Int) + 4)).2 (by omega)
    simp only [trip] at this; omega
 ·
  intro h x hx
  obtain ⟨k, hk, rfl⟩ := trips_mem hx
  have hn := (not_congr (u16_neg hb (i := i + 6 * (k : Int) + 4))).2 (by omega)
  simp only [trip]; omega

def covOk (b : List Int) (i : Int) : Bool :=
 if u16 b i = 1 then decide (0 ≤ u16 b (i + 2)) && rise (-1) (row16 b (i + 4) (u16 b (i + 2)).toNat)
 else if u16 b i = 2 then decide (0 ≤ u16 b (i + 2)) && riseZ false (-1) 0 (trips b (i + 4) (u16 b (i + 2)).toNat)
 else false
def covIn (b : List Int) (i g : Int) : Prop :=
 if u16 b i = 1 then g ∈ row16 b (i + 4) (u16 b (i + 2)).toNat else inT (trips b (i + 4) (u16 b (i + 2)).toNat) g
theorem row16_mem {b : List Int} {i : Int} {n : Nat} {x : Int} (h : x ∈ row16 b i n) : ∃ k : Nat, k < n ∧ x = u16 b (i + 2 * (k : Int)) := by
 simp only [row16, List.mem_map, List.mem_range] at h
 obtain ⟨k, hk, rfl⟩ := h
 exact ⟨k, hk, rfl⟩
theorem rise_gt : ∀ {l : List Int} {a : Int}, rise a l = true → ∀ x ∈ l, a < x
 | [], a, _, x, hx => by cases hx
 | y :: r, a, h, x, hx => by
  simp only [rise, Bool.and_eq_true, decide_eq_true_eq] at h
  rcases List.mem_cons.1 hx with rfl | hx
  ·
   exact h.1
  ·
   have := rise_gt h.2 x hx; omega
theorem glyphs_eq {N : Nat} (hN : 1000000000000 < N) {b : List Int} (hb : Bytes b) (hl : b.length ≤ 1000000000) (i : Int) (hi : i ≤ 100000000000) (hi' : -100000000000 ≤ i) :
  cover_glyphs N b i = some (if decide (0 ≤ u16 b (i + 2)) && rise (-1) (row16 b (i + 4) (u16 b (i + 2)).toNat) then (gls [] (row16 b (i + 4) (u16 b (i + 2)).toNat), true) else ([], false)) := by
 unfold cover_glyphs
 have hu := u16_range hb (i + 2)
 rw [w64 (x := i + 2) (by omega) (by omega), w64 (x := i + 4) (by omega) (by omega), U16_eq hN hb hl _ (by omega), Option.bind_some]
 by_cases h1 : u16 b (i + 2) < 0
 ·
  simp only [h1, if_true]
  rw [Row_eq hN hb hl _ _ (by omega) (by omega), Option.bind_some]
  have e : decide (0 ≤ u16 b (i + 2)) = false := decide_eq_false (by omega)
  rw [e]
  split <;> simp_all
 ·
  simp only [h1, if_false]
  rw [Row_eq hN hb hl _ _ (by omega) (by omega), Option.bind_some]
  have hin := (not_congr (u16_neg hb (i := i + 2))).1 h1
  have e : decide (0 ≤ u16 b (i + 2)) = true := decide_eq_true (by omega)
  rw [e, Bool.true_and]
  by_cases h2 : i + 4 + 2 * u16 b (i + 2) ≤ (b.length : Int)
  ·
   simp only [show (0 ≤ u16 b (i + 2) ∧ 0 ≤ i + 4 ∧ i + 4 + 2 * u16 b (i + 2) ≤ (b.length : Int)) from ⟨by omega, by omega, h2⟩, and_self, if_true]
   have hg := glyphs_L1 (N := N) (l := row16 b (i + 4) (u16 b (i + 2)).toNat) (by rw [row16_len]; omega) (fun x hx => by obtain ⟨k, _, rfl⟩ := row16_mem hx; have := u16_range hb (i + 4 + 2 * (k : Int)); omega)
    (u16 b (i + 2)).toNat 0 N (-1) [] (by rw [row16_len]; omega) (by omega) (by omega) (by simp) (by simp)
   rw [show ((0 : Nat) : Int) = 0 from rfl, List.drop_zero] at hg
   rw [hg]
   by_cases h3 : rise (-1) (row16 b (i + 4) (u16 b (i + 2)).toNat) = true
   ·
    simp only [h3, if_true]; rfl
   ·
    simp only [h3, if_false]; rfl
  ·
   have hno : ¬ (0 ≤ u16 b (i + 2) ∧ 0 ≤ i + 4 ∧ i + 4 + 2 * u16 b (i + 2) ≤ (b.length : Int)) := fun h => h2 h.2.2
   simp only [hno, if_false, if_true]
   have hf : ¬ rise (-1) (row16 b (i + 4) (u16 b (i + 2)).toNat) = true := fun h => by
    have hpos : 0 < (u16 b (i + 2)).toNat := by omega
    have := rise_gt h (u16 b (i + 4 + 2 * (((u16 b (i + 2)).toNat - 1 : Nat) : Int))) (by simp only [row16, List.mem_map, List.mem_range]; exact ⟨_, by omega, rfl⟩)
    have hn := (u16_neg hb (i := i + 4 + 2 * (((u16 b (i + 2)).toNat - 1 : Nat) : Int))).2 (by omega)
    have := u16_range hb (i + 4 + 2 * (((u16 b (i + 2)).toNat - 1 : Nat) : Int))
    omega
   simp only [hf, if_false]
   rfl
theorem triples_eq {N : Nat} (hN : 1000000000000 < N) {b : List Int} (hb : Bytes b) (hl : b.length ≤ 1000000000) (i : Int) (hi : i ≤ 100000000000) (hi' : -100000000000 ≤ i) :
  cover_triples N b i = some (if decide (0 ≤ u16 b (i + 2)) && riseZ true (-1) 0 (trips b (i + 4) (u16 b (i + 2)).toNat) then (trips b (i + 4) (u16 b (i + 2)).toNat, true) else ([], false)) := by
 unfold cover_triples
 have hu := u16_range hb (i + 2)
 rw [w64 (x := i + 2) (by omega) (by omega), w64 (x := i + 4) (by omega) (by omega), U16_eq hN hb hl _ (by omega), Option.bind_some]
 by_cases h1 : u16 b (i + 2) < 0
 ·
  simp only [h1, if_true]
  rw [w64 (x := 3 * 0) (by omega) (by omega), Row_eq hN hb hl _ _ (by omega) (by omega), Option.bind_some]
  have e : decide (0 ≤ u16 b (i + 2)) = false := decide_eq_false (by omega)
  rw [e]
  split <;> simp_all
 ·
  simp only [h1, if_false]
  rw [w64 (x := 3 * u16 b (i + 2)) (by omega) (by omega), Row_eq hN hb hl _ _ (by omega) (by omega), Option.bind_some]
  have hin := (not_congr (u16_neg hb (i := i + 2))).1 h1
  have e : decide (0 ≤ u16 b (i + 2)) = true := decide_eq_true (by omega)
  rw [e, Bool.true_and]
  have hth := trips_there hb (i := i + 4) (n := (u16 b (i + 2)).toNat) (by omega) (by omega)
  by_cases h2 : i + 4 + 2 * (3 * u16 b (i + 2)) ≤ (b.length : Int)
  ·
   simp only [show (0 ≤ 3 * u16 b (i + 2) ∧ 0 ≤ i + 4 ∧ i + 4 + 2 * (3 * u16 b (i + 2)) ≤ (b.length : Int)) from ⟨by omega, by omega, h2⟩, and_self, if_true]
   have hg := triples_L1 (N := N) (b := b) (i := i + 4) (m := (u16 b (i + 2)).toNat) (by omega) hb (u16 b (i + 2)).toNat 0 N (-1) (by omega) (by omega)
   rw [show ((3 * 0 : Nat) : Int) = 0 from rfl, List.drop_zero, List.take_zero, show 3 * (u16 b (i + 2)).toNat = (3 * u16 b (i + 2)).toNat by omega] at hg
   rw [hg]
   have e2 : riseZ true (-1) 0 (trips b (i + 4) (u16 b (i + 2)).toNat) = riseT (-1) (trips b (i + 4) (u16 b (i + 2)).toNat) := by
    rw [Bool.eq_iff_iff, riseZ_T]
    exact ⟨fun h => h.1, fun h => ⟨h, hth.2 (by omega), .inl rfl⟩⟩
   rw [e2]
   by_cases h3 : riseT (-1) (trips b (i + 4) (u16 b (i + 2)).toNat) = true
   ·
    simp only [h3, if_true]; rfl
   ·
    simp only [h3, if_false]; rfl
  ·
   have hno : ¬ (0 ≤ 3 * u16 b (i + 2) ∧ 0 ≤ i + 4 ∧ i + 4 + 2 * (3 * u16 b (i + 2)) ≤ (b.length : Int)) := fun h => h2 h.2.2
   simp only [hno, if_false, if_true]
   have hf : ¬ riseZ true (-1) 0 (trips b (i + 4) (u16 b (i + 2)).toNat) = true := fun h => by
    have := hth.1 (riseZ_T.1 h).2.1
    omega
   simp only [hf, if_false]
   rfl
theorem trips_le {b : List Int} (hb : Bytes b) {i : Int} {n : Nat} : ∀ x ∈ trips b i n, x.e1 ≤ 65535 := fun x hx => by
 obtain ⟨k, _, rfl⟩ := trips_mem hx
 exact (trip_range hb i k).2.1
theorem Cover_spec {N : Nat} (hN : 1000000000000 < N) {b : List Int} (hb : Bytes b) (hl : b.length ≤ 1000000000) (i : Int) (hi : i ≤ 100000000000) (hi' : -100000000000 ≤ i) :
  ∃ l, cover_Cover N b i = some (l, covOk b i) ∧ (covOk b i = false → l = []) ∧ (covOk b i = true → RL 0 l ∧ ∀ g, inn l g ↔ covIn b i g) := by
 have hf : cover_format N b i = some (if u16 b i < 0 then 0 else u16 b i) := by
  unfold cover_format
  rw [U16_eq hN hb hl _ (by omega), Option.bind_some]
  by_cases h : u16 b i < 0
  ·
   simp only [h, if_true]; rfl
  ·
   simp only [h, if_false, if_true]
 unfold cover_Cover
 rw [hf, Option.bind_some]
 by_cases h1 : u16 b i = 1
 ·
  have e : (if u16 b i < 0 then 0 else u16 b i) = 1 := by rw [h1]; rfl
  rw [e, if_pos rfl, glyphs_eq hN hb hl i hi hi', Option.bind_some]
  have ec : covOk b i = (decide (0 ≤ u16 b (i + 2)) && rise (-1) (row16 b (i + 4) (u16 b (i + 2)).toNat)) := if_pos h1
  rw [← ec]
  cases hc : covOk b i with
  | false => exact ⟨[], rfl, fun _ => rfl, fun h => by cases h⟩
  | true =>
   rw [hc] at ec
   have hr := (Bool.and_eq_true_iff.1 ec.symm).2
   obtain ⟨g1, g2⟩ := gls_spec (s := []) hr (by omega) (fun x hx => by obtain ⟨k, _, rfl⟩ := row16_mem hx; have := u16_range hb (i + 4 + 2 * (k : Int)); omega) trivial (by simp)
   refine ⟨_, rfl, (fun h => by cases h), fun _ => ⟨g1, fun g => ?_⟩⟩
   rw [g2]
   simp [inn, covIn, h1]
 ·
  by_cases h2 : u16 b i = 2
  ·
   have e : (if u16 b i < 0 then 0 else u16 b i) = 2 := by rw [h2]; rfl
   rw [e, if_neg (by decide), if_pos rfl]
   have ec : covOk b i = (decide (0 ≤ u16 b (i + 2)) && riseZ false (-1) 0 (trips b (i + 4) (u16 b (i + 2)).toNat)) := by unfold covOk; rw [if_neg h1, if_pos h2]
   unfold cover_ranges
   rw [triples_eq hN hb hl i hi hi', Option.bind_some]
   by_cases h3 : (decide (0 ≤ u16 b (i + 2)) && riseZ true (-1) 0 (trips b (i + 4) (u16 b (i + 2)).toNat)) = true
   ·
    simp only [h3, if_true]
    have hz := (Bool.and_eq_true_iff.1 h3)
    have hT := (riseZ_T.1 hz.2)
    have hu := u16_range hb (i + 2)
    have hg := ranges_L1 (N := N) (l := trips b (i + 4) (u16 b (i + 2)).toNat) (by rw [trips_len]; omega) (u16 b (i + 2)).toNat 0 N (-1) 0 [] (by rw [trips_len]; omega) (by omega) hT.1 (trips_le hb) (by omega) (by omega) (by omega) (by simp) (by simp)
    rw [show ((0 : Nat) : Int) = 0 from rfl, List.drop_zero] at hg
    rw [hg]
    have ei : covOk b i = idxT 0 (trips b (i + 4) (u16 b (i + 2)).toNat) := by
     rw [ec, hz.1, Bool.true_and, Bool.eq_iff_iff, riseZ_T]
     exact ⟨fun h => h.2.2.resolve_left (by decide), fun h => ⟨hT.1, hT.2.1, .inr h⟩⟩
    rw [← ei]
    cases hc : covOk b i with
    | false => exact ⟨[], rfl, fun _ => rfl, fun h => by cases h⟩
    | true =>
     obtain ⟨g1, g2⟩ := rgs_spec (s := []) hT.1 (by omega) (trips_le hb) trivial (by simp)
     refine ⟨_, rfl, (fun h => by cases h), fun _ => ⟨g1, fun g => ?_⟩⟩
     rw [g2]
     simp [inn, covIn, h1]
   ·
    have hc : covOk b i = false := by
     rw [ec]
     cases hd : decide (0 ≤ u16 b (i + 2)) with
     | false => rfl
     | true =>
      rw [hd, Bool.true_and] at h3
      rw [Bool.true_and]
      cases hz : riseZ false (-1) 0 (trips b (i + 4) (u16 b (i + 2)).toNat) with
      | false => rfl
      | true => exact (h3 (riseZ_T.2 ⟨(riseZ_T.1 hz).1, (riseZ_T.1 hz).2.1, .inl rfl⟩)).elim
    simp only [h3, if_false, hc]
    exact ⟨[], rfl, fun _ => rfl, fun h => by cases h⟩
  ·
   have hc : covOk b i = false := by unfold covOk; rw [if_neg h1, if_neg h2]
   have e1 : ¬ (if u16 b i < 0 then 0 else u16 b i) = 1 := by split <;> omega
   have e2 : ¬ (if u16 b i < 0 then 0 else u16 b i) = 2 := by split <;> omega
   rw [if_neg e1, if_neg e2, hc]
   exact ⟨[], rfl, fun _ => rfl, fun h => by cases h⟩
end Go.Proofs.Ytakplhfiohjcmaa.AI
