/- Plain law of TrieBlocks. -/
import Derived.Test.YtnbnajjoinahiaaTR3
set_option linter.unusedVariables false
set_option linter.unusedSimpArgs false
set_option maxRecDepth 100000
namespace Go.Proofs.Ytnbnajjoinahiaa.AI
theorem set_true {s : List Bool} {i : Nat} (hi : i < s.length) (j : Nat) : (s.set i true)[j]? = some true ↔ s[j]? = some true ∨ j = i := by
  by_cases h : j = i
  · subst h; rw [List.getElem?_set_self hi]; simp
  · rw [List.getElem?_set_ne (Ne.symm h)]; simp [h]
def ed (r : TRange) (j : Nat) : Prop := (j : Int) = r.From / 128 ∨ (j : Int) = r.To / 128
theorem q128 {x : Int} (h : 0 ≤ x) (h' : x ≤ 1114111) : IntKind.i64.wrap ((IntKind.i64.wrap x).tdiv 128) = x / 128 := by
 rw [w64 (x := x) (by omega) (by omega), Int.tdiv_eq_ediv_of_nonneg h, w64 (by omega) (by omega)]
theorem edge_L2 {N : Nat} {l : List TRange} {i : Nat} {r : TRange} (hr : l[i]? = some r) (h0 : 0 ≤ r.From) (h1 : okV 255 r) : ∀ (d n b : Nat) (s : List Bool), r.To / 128 + 1 - (b : Int) ≤ (d : Int) → d < n → r.From / 128 ≤ (b : Int) → s.length = 8704 →
  ∃ s', ref03_Edges_L2 N l i n b s = some s' ∧ s'.length = 8704 ∧ ∀ j : Nat, s'[j]? = some true ↔ s[j]? = some true ∨ (b ≤ j ∧ ed r j) := by
 obtain ⟨o1, o2, _, _⟩ := h1
 have q1 := q128 h0 (by omega)
 have q2 := q128 (x := r.To) (by omega) (by omega)
 intro d
 induction d with
 | zero =>
  intro n b s hd hn hb hs
  obtain ⟨n, rfl⟩ : ∃ x, n = x + 1 := ⟨n - 1, by omega⟩
  rw [ref03_Edges_L2, atI_at hr, Option.bind_some, q2, if_neg (by omega)]
  refine ⟨s, rfl, hs, fun j => ⟨.inl, fun h => ?_⟩⟩
  rcases h with h | ⟨h, h'⟩
  ·
   exact h
  ·
   unfold ed at h'; omega
 | succ d ih =>
  intro n b s hd hn hb hs
  obtain ⟨n, rfl⟩ : ∃ x, n = x + 1 := ⟨n - 1, by omega⟩
  rw [ref03_Edges_L2, atI_at hr, Option.bind_some, q2, q1]
  by_cases g : (b : Int) ≤ r.To / 128
  ·
   have hbs : b < s.length := by omega
   have hw : IntKind.i64.wrap ((b : Int) + 1) = ((b + 1 : Nat) : Int) := wk (by omega)
   rw [if_pos g, hw, Int.toNat_natCast]
   have hit : ed r b → ∃ s', ref03_Edges_L2 N l i n ((b + 1 : Nat) : Int) (s.set b true) = some s' ∧ s'.length = 8704 ∧ ∀ j : Nat, s'[j]? = some true ↔ s[j]? = some true ∨ (b ≤ j ∧ ed r j) := by
    intro he
    obtain ⟨s', e, h2, h3⟩ := ih n (b + 1) (s.set b true) (by omega) (by omega) (by omega) (by simpa using hs)
    refine ⟨s', e, h2, fun j => ?_⟩
    rw [h3, set_true hbs]
    constructor
    ·
     rintro ((h | h) | ⟨h, h'⟩)
     ·
      exact .inl h
     ·
      exact .inr ⟨by omega, h ▸ he⟩
     ·
      exact .inr ⟨by omega, h'⟩
    ·
     rintro (h | ⟨h, h'⟩)
     ·
      exact .inl (.inl h)
     ·
      rcases Nat.eq_or_lt_of_le h with h4 | h4
      ·
       exact .inl (.inr h4.symm)
      ·
       exact .inr ⟨h4, h'⟩
   by_cases c1 : (b : Int) = r.From / 128
   ·
    rw [if_pos c1, atI_get hbs, Option.bind_some]
    exact hit (.inl c1)
   ·
    rw [if_neg c1]
    by_cases c2 : (b : Int) = r.To / 128
    ·
     rw [if_pos c2, atI_get hbs, Option.bind_some]
     exact hit (.inr c2)
    ·
     rw [if_neg c2]
     obtain ⟨s', e, h2, h3⟩ := ih n (b + 1) s (by omega) (by omega) (by omega) hs
     refine ⟨s', e, h2, fun j => ?_⟩
     rw [h3]
     constructor
     ·
      rintro (h | ⟨h, h'⟩)
      ·
       exact .inl h
      ·
       exact .inr ⟨by omega, h'⟩
     ·
      rintro (h | ⟨h, h'⟩)
      ·
       exact .inl h
      ·
       rcases Nat.eq_or_lt_of_le h with h4 | h4
       ·
        subst h4; unfold ed at h'; omega
       ·
        exact .inr ⟨h4, h'⟩
  ·
   rw [if_neg g]
   refine ⟨s, rfl, hs, fun j => ⟨.inl, fun h => ?_⟩⟩
   rcases h with h | ⟨h, h'⟩
   ·
    exact h
   ·
    unfold ed at h'; omega
theorem edge_L3 {N : Nat} (hN : 1000000000000 < N) {l : List TRange} (hl : Rt 255 l) : ∀ (d i n : Nat) (s : List Bool), i + d = l.length → d < n → s.length = 8704 →
  ∃ s', ref03_Edges_L3 N l n i s = some s' ∧ s'.length = 8704 ∧ ∀ j : Nat, s'[j]? = some true ↔ s[j]? = some true ∨ ∃ r ∈ l.drop i, ed r j := by
 obtain ⟨hll, hch⟩ := hl
 intro d
 induction d with
 | zero =>
  intro i n s hi hn hs
  obtain ⟨n, rfl⟩ : ∃ x, n = x + 1 := ⟨n - 1, by omega⟩
  rw [ref03_Edges_L3, if_neg (by omega), List.drop_eq_nil_of_le (by omega)]
  exact ⟨s, rfl, hs, fun j => by simp⟩
 | succ d ih =>
  intro i n s hi hn hs
  obtain ⟨n, rfl⟩ : ∃ x, n = x + 1 := ⟨n - 1, by omega⟩
  have hil : i < l.length := by omega
  have hx := chR_mem hch _ (List.getElem_mem hil)
  obtain ⟨o1, o2, _, _⟩ := id hx.2
  have hq : IntKind.i64.wrap ((IntKind.i64.wrap l[i].From).tdiv 128) = (((l[i].From / 128).toNat : Nat) : Int) := by rw [q128 (by omega) (by omega)]; omega
  obtain ⟨s1, e1, h1, h2⟩ := edge_L2 (N := N) (List.getElem?_eq_getElem hil) (by omega) hx.2 9000 N (l[i].From / 128).toNat s (by omega) (by omega) (by omega) hs
  obtain ⟨s', e, h3, h4⟩ := ih (i + 1) n s1 (by omega) (by omega) h1
  rw [ref03_Edges_L3, if_pos (by omega), atI_get hil, Option.bind_some, hq, e1, Option.bind_some, wk (by omega)]
  refine ⟨s', e, h3, fun j => ?_⟩
  rw [h4, h2, List.drop_eq_getElem_cons hil]
  constructor
  ·
   rintro ((h | ⟨_, h⟩) | ⟨r, hr, h⟩)
   ·
    exact .inl h
   ·
    exact .inr ⟨_, List.mem_cons_self, h⟩
   ·
    exact .inr ⟨r, List.mem_cons_of_mem _ hr, h⟩
  ·
   rintro (h | ⟨r, hr, h⟩)
   ·
    exact .inl (.inl h)
   ·
    rcases List.mem_cons.1 hr with rfl | hr
    ·
     refine .inl (.inr ⟨?_, h⟩)
     unfold ed at h
     omega
    ·
     exact .inr ⟨r, hr, h⟩
def fI (P : Nat → Bool) (a d : Nat) : List Int := ((List.range' a d).filter P).map fun j : Nat => (j : Int)
theorem fI_cons (P : Nat → Bool) (a d : Nat) : fI P a (d + 1) = if P a = true then (a : Int) :: fI P (a + 1) d else fI P (a + 1) d := by
 unfold fI
 rw [List.range'_succ, List.filter_cons]
 split <;> rfl
theorem fI_head {P : Nat → Bool} {a d : Nat} {x : Int} {L : List Int} (h : fI P a d = x :: L) : (a : Int) ≤ x := by
 have : x ∈ fI P a d := by rw [h]; exact List.mem_cons_self
 unfold fI at this
 obtain ⟨j, hj, rfl⟩ := List.mem_map.1 this
 have := (List.mem_range'_1.1 (List.mem_filter.1 hj).1).1
 omega
theorem edge_L4 {N : Nat} {y : List Bool} (hy : y.length = 8704) {P : Nat → Bool} (hP : ∀ j, j < 8704 → (P j = true ↔ (y.set 432 true)[j]? = some true)) : ∀ (d i n : Nat) (s : List Int), i + d = 8704 → d < n → s.length ≤ i →
  ref03_Edges_L4 N y n i s = some (s ++ fI P i d) := by
 intro d
 induction d with
 | zero =>
  intro i n s hi hn hs
  obtain ⟨n, rfl⟩ : ∃ x, n = x + 1 := ⟨n - 1, by omega⟩
  rw [ref03_Edges_L4, if_neg (by omega)]
  simp [fI]
 | succ d ih =>
  intro i n s hi hn hs
  obtain ⟨n, rfl⟩ : ∃ x, n = x + 1 := ⟨n - 1, by omega⟩
  have hl : i < (y.set 432 true).length := by rw [List.length_set]; omega
  have hp := hP i (by omega)
  rw [List.getElem?_eq_getElem hl] at hp
  rw [ref03_Edges_L4, if_pos (by omega), atI_get hl, Option.bind_some, wk (by omega), fI_cons]
  by_cases g : (y.set 432 true)[i] = true
  ·
   rw [if_pos g, if_pos (by omega), if_pos (hp.2 (by rw [g])), ih (i + 1) n _ (by omega) (by omega) (by simp; omega)]
   simp
  ·
   rw [if_neg g, if_neg (fun h => g (Option.some.inj (hp.1 h))), ih (i + 1) n s (by omega) (by omega) (by omega)]
theorem edges_eq {N : Nat} (hN : 1000000000000 < N) {l : List TRange} (hl : Rt 255 l) : ∃ P : Nat → Bool, ref03_Edges N l = some (fI P 0 8704) ∧ ∀ j, j < 8704 → (∃ r ∈ l, ed r j) → P j = true := by
 obtain ⟨y, e, h1, h2⟩ := edge_L3 hN hl l.length 0 N (List.replicate 8704 false) (by omega) (by have := hl.1; omega) (by rw [List.length_replicate])
 rw [List.drop_zero] at h2
 have h3 : (432 : Nat) < y.length := by omega
 refine ⟨fun j => decide ((y.set 432 true)[j]? = some true), ?_, fun j hj hr => ?_⟩
 ·
  unfold ref03_Edges
  rw [show ref03_Edges_L3 N l N 0 _ = _ from e, Option.bind_some, show atI y 432 = some y[432] from atI_get (k := 432) h3, Option.bind_some]
  have := edge_L4 (N := N) h1 (P := fun j => decide ((y.set 432 true)[j]? = some true)) (fun j _ => by simp) 8704 0 N [] (by omega) (by omega) (by simp)
  rw [List.nil_append] at this
  rw [show ref03_Edges_L4 N y N 0 [] = _ from this, Option.bind_some]
 ·
  refine decide_eq_true ?_
  rw [set_true h3]
  exact .inl ((h2 j).2 (.inr hr))
theorem flat_block {l : List TRange} {b : Nat} (h : ∀ r ∈ l, ¬ ed r b) {k : Nat} (hk : k < 128) : valc l ((b : Int) * 128 + (k : Int)) = valc l ((b : Int) * 128) := by
 have hv : vld ((b : Int) * 128 + (k : Int)) = vld ((b : Int) * 128) := by unfold vld; exact decide_eq_decide.2 (by omega)
 have hf : ∀ {A : List TRange}, (∀ r ∈ A, ¬ ed r b) → fnd A ((b : Int) * 128 + (k : Int)) = fnd A ((b : Int) * 128) := by
  intro A
  induction A with
  | nil => intro _; rfl
  | cons r A ih =>
   intro h
   have h1 := h r List.mem_cons_self
   unfold ed at h1
   simp only [fnd]
   by_cases g : r.From ≤ (b : Int) * 128 ∧ (b : Int) * 128 ≤ r.To
   ·
    rw [if_pos g, if_pos (by omega)]
   ·
    rw [if_neg g, if_neg (by omega)]
    exact ih fun x hx => h x (List.mem_cons_of_mem _ hx)
 unfold valc
 rw [hv, hf h]
def Flat (l : List TRange) (b : Nat) : Prop := ∀ k : Nat, k < 128 → valc l ((b : Int) * 128 + (k : Int)) = valc l ((b : Int) * 128)
theorem blk_L5 {N : Nat} (hN : 1000000000000 < N) {l : List TRange} (hl : Rt 255 l) {E : List Int} {i4 : Int} {b : Nat} (hb : b < 8704) {s6 : List Bool} {s7 : List (Vector Int 128)} : ∀ (d k n : Nat) (q : Bool) (v : Vector Int 128), k + d = 128 → d < n → (∀ j, j < k → gv v j = valc l ((b : Int) * 128 + (j : Int))) → (q = true ↔ ∀ j, j < k → valc l ((b : Int) * 128 + (j : Int)) = valc l ((b : Int) * 128)) →
  ∃ q' v', ref03_Blocks_L5 N l E i4 b s6 s7 n q k v = some (q', v') ∧ Blk l b v' ∧ (q' = true ↔ Flat l b) := by
 intro d
 induction d with
 | zero =>
  intro k n q v hk hn hv hq
  obtain ⟨n, rfl⟩ : ∃ x, n = x + 1 := ⟨n - 1, by omega⟩
  rw [ref03_Blocks_L5, if_neg (by omega)]
  exact ⟨q, v, rfl, fun j hj => hv j (by omega), hq.trans ⟨fun h j hj => h j (by omega), fun h j hj => h j (by omega)⟩⟩
 | succ d ih =>
  intro k n q v hk hn hv hq
  obtain ⟨n, rfl⟩ : ∃ x, n = x + 1 := ⟨n - 1, by omega⟩
  have hk' : k < 128 := by omega
  have hc : IntKind.i32.wrap (IntKind.i64.wrap (IntKind.i64.wrap ((b : Int) * 128) + (k : Int))) = (b : Int) * 128 + (k : Int) := by
   rw [w64 (x := (b : Int) * 128) (by omega) (by omega), w64 (by omega) (by omega), w32 (by omega) (by omega)]
  have hset : ∀ j, j < k + 1 → gv (v.setIfInBounds k (valc l ((b : Int) * 128 + (k : Int)))) j = valc l ((b : Int) * 128 + (j : Int)) := fun j hj => by
   rw [gv_set hk']
   by_cases e : j = k
   ·
    rw [if_pos e, e]
   ·
    rw [if_neg e]; exact hv j (by omega)
  rw [ref03_Blocks_L5, if_pos (by omega), hc, rget_eq hN hl.1, Option.bind_some, gv_at hk', Option.bind_some, wk (by omega), Int.toNat_natCast]
  by_cases g : q = true
  ·
   have h0 := hset 0 (by omega)
   rw [Int.natCast_zero, Int.add_zero] at h0
   rw [if_pos g, gv_at hk', Option.bind_some, show atI (v.setIfInBounds k (valc l ((b : Int) * 128 + (k : Int)))).toList 0 = _ from gv_at (k := 0) (by omega), Option.bind_some, hset k (by omega), h0]
   refine ih (k + 1) n _ _ (by omega) (by omega) hset ?_
   rw [decide_eq_true_iff]
   constructor
   ·
    intro h j hj
    by_cases e : j = k
    ·
     rw [e]; exact h
    ·
     exact hq.1 g j (by omega)
   ·
    intro h; exact h k (by omega)
  ·
   rw [if_neg g]
   refine ih (k + 1) n false _ (by omega) (by omega) hset ⟨fun h => (by cases h), fun h => ?_⟩
   exact absurd (hq.2 fun j hj => h j (by omega)) g
theorem blk_L6 {N : Nat} {l : List TRange} {E : List Int} {i4 i5 : Int} {s6 : List Bool} {s7 : List (Vector Int 128)} {v : Vector Int 128} (hm : s7.length ≤ 100000) : ∀ (d i n : Nat) (q : Bool), i + d = s7.length → d < n → ∃ q', ref03_Blocks_L6 N l E i4 i5 s6 s7 v n q i = some q' ∧ (q' = true ↔ q = true ∨ v ∈ s7.drop i) := by
 intro d
 induction d with
 | zero =>
  intro i n q hi hn
  obtain ⟨n, rfl⟩ : ∃ x, n = x + 1 := ⟨n - 1, by omega⟩
  rw [ref03_Blocks_L6, if_neg (by omega), List.drop_eq_nil_of_le (by omega)]
  exact ⟨q, rfl, by simp⟩
 | succ d ih =>
  intro i n q hi hn
  obtain ⟨n, rfl⟩ : ∃ x, n = x + 1 := ⟨n - 1, by omega⟩
  have his : i < s7.length := by omega
  rw [ref03_Blocks_L6, if_pos (by omega), wk (by omega), List.drop_eq_getElem_cons his]
  by_cases g : q = true
  ·
   obtain ⟨q', e, h⟩ := ih (i + 1) n true (by omega) (by omega)
   rw [if_pos g]
   exact ⟨q', e, by rw [h]; simp [g]⟩
  ·
   rw [if_neg g, atI_get his, Option.bind_some]
   obtain ⟨q', e, h⟩ := ih (i + 1) n (decide (s7[i] = v) != false) (by omega) (by omega)
   refine ⟨q', e, ?_⟩
   rw [h, List.mem_cons]
   have : (decide (s7[i] = v) != false) = true ↔ v = s7[i] := by
    by_cases e1 : s7[i] = v
    ·
     simp [e1]
    ·
     simp [e1]; exact fun e2 => e1 e2.symm
   rw [this]
   simp [g]
structure Bc (l : List TRange) (b : Nat) (s6 : List Bool) (s7 : List (Vector Int 128)) : Prop where
 len : s6.length = 256
 le : s7.length ≤ b
 plain : ∀ v : Nat, v < 256 → (s6[v]? = some true ↔ ∃ i, i < b ∧ Flat l i ∧ valc l ((i : Int) * 128) = (v : Int))
 nd : s7.Nodup
 odd : ∀ x, x ∈ s7 ↔ ∃ i, i < b ∧ Blk l i x ∧ ¬ Flat l i
theorem Bc.flat {l : List TRange} (hl : Rt 255 l) {b : Nat} {s6 : List Bool} {s7 : List (Vector Int 128)} (h : Bc l b s6 s7) (hf : Flat l b) : ∃ w : Nat, valc l ((b : Int) * 128) = (w : Int) ∧ w < 256 ∧ Bc l (b + 1) (s6.set w true) s7 := by
  have hv := valc_in (by omega) hl.2 ((b : Int) * 128)
  refine ⟨(valc l ((b : Int) * 128)).toNat, by omega, by omega, by simpa using h.len, by have := h.le; omega, fun v hv' => ?_, h.nd, fun x => ?_⟩
  · rw [set_true (by rw [h.len]; omega), h.plain v hv']
    constructor
    · rintro (⟨i, h1, h2⟩ | h1)
      · exact ⟨i, by omega, h2⟩
      · exact ⟨b, by omega, hf, by omega⟩
    · rintro ⟨i, h1, h2, h3⟩
      by_cases e : i = b
      · subst e; exact .inr (by omega)
      · exact .inl ⟨i, by omega, h2, h3⟩
  · rw [h.odd]
    constructor
    · rintro ⟨i, h1, h2⟩; exact ⟨i, by omega, h2⟩
    · rintro ⟨i, h1, h2, h3⟩
      by_cases e : i = b
      · subst e; exact absurd hf h3
      · exact ⟨i, by omega, h2, h3⟩
theorem Bc.old {l : List TRange} {b : Nat} {s6 : List Bool} {s7 : List (Vector Int 128)} (h : Bc l b s6 s7) (hf : ¬ Flat l b) {v : Vector Int 128} (hB : Blk l b v) (hv : v ∈ s7) : Bc l (b + 1) s6 s7 := by
 refine ⟨h.len, by have := h.le; omega, fun w hw => ?_, h.nd, fun x => ?_⟩
 ·
  rw [h.plain w hw]
  constructor
  ·
   rintro ⟨i, h1, h2⟩; exact ⟨i, by omega, h2⟩
  ·
   rintro ⟨i, h1, h2, h3⟩
   by_cases e : i = b
   ·
    subst e; exact absurd h2 hf
   ·
    exact ⟨i, by omega, h2, h3⟩
 ·
  rw [h.odd]
  constructor
  ·
   rintro ⟨i, h1, h2⟩; exact ⟨i, by omega, h2⟩
  ·
   rintro ⟨i, h1, h2, h3⟩
   by_cases e : i = b
   ·
    subst e
    rw [h2.one hB]
    exact (h.odd v).1 hv
   ·
    exact ⟨i, by omega, h2, h3⟩
theorem Bc.new {l : List TRange} {b : Nat} {s6 : List Bool} {s7 : List (Vector Int 128)} (h : Bc l b s6 s7) (hf : ¬ Flat l b) {v : Vector Int 128} (hB : Blk l b v) (hv : v ∉ s7) : Bc l (b + 1) s6 (s7 ++ [v]) := by
 refine ⟨h.len, by have := h.le; simp; omega, fun w hw => ?_, ?_, fun x => ?_⟩
 ·
  rw [h.plain w hw]
  constructor
  ·
   rintro ⟨i, h1, h2⟩; exact ⟨i, by omega, h2⟩
  ·
   rintro ⟨i, h1, h2, h3⟩
   by_cases e : i = b
   ·
    subst e; exact absurd h2 hf
   ·
    exact ⟨i, by omega, h2, h3⟩
 ·
  rw [List.nodup_append]
  refine ⟨h.nd, by simp, fun x hx y hy e => ?_⟩
  rw [List.mem_singleton.1 hy] at e
  exact hv (e ▸ hx)
 ·
  rw [List.mem_append, h.odd, List.mem_singleton]
  constructor
  ·
   rintro (⟨i, h1, h2⟩ | rfl)
   ·
    exact ⟨i, by omega, h2⟩
   ·
    exact ⟨b, by omega, hB, hf⟩
  ·
   rintro ⟨i, h1, h2, h3⟩
   by_cases e : i = b
   ·
    subst e; exact .inr (h2.one hB)
   ·
    exact .inl ⟨i, by omega, h2, h3⟩
theorem blk_L7 {N : Nat} (hN : 1000000000000 < N) {l : List TRange} (hl : Rt 255 l) {P : Nat → Bool} (hP : ∀ j, j < 8704 → (∃ r ∈ l, ed r j) → P j = true) {E : List Int} (hE : E.length ≤ 100000) : ∀ (d b n i4 : Nat) (s6 : List Bool) (s7 : List (Vector Int 128)), b + d = 8704 → d < n → i4 ≤ E.length → E.drop i4 = fI P b d → Bc l b s6 s7 →
  ∃ s6' s7', ref03_Blocks_L7 N l E n i4 b s6 s7 = some (s6', s7') ∧ Bc l 8704 s6' s7' := by
 intro d
 induction d with
 | zero =>
  intro b n i4 s6 s7 hb hn hi hd h
  obtain ⟨n, rfl⟩ : ∃ x, n = x + 1 := ⟨n - 1, by omega⟩
  rw [ref03_Blocks_L7, if_neg (by omega)]
  exact ⟨s6, s7, rfl, by rw [show 8704 = b by omega]; exact h⟩
 | succ d ih =>
  intro b n i4 s6 s7 hb hn hi hd h
  obtain ⟨n, rfl⟩ : ∃ x, n = x + 1 := ⟨n - 1, by omega⟩
  have hc : IntKind.i32.wrap (IntKind.i64.wrap ((b : Int) * 128)) = (b : Int) * 128 := by rw [w64 (by omega) (by omega), w32 (by omega) (by omega)]
  have hw : IntKind.i64.wrap ((b : Int) + 1) = ((b + 1 : Nat) : Int) := wk (by omega)
  rw [fI_cons] at hd
  have hle := h.le
  -- no edge
  have plainly : P b = false → ∃ s6' s7', ((ref03_Get N l (IntKind.i32.wrap (IntKind.i64.wrap ((b : Int) * 128)))).bind fun y_12 => (atI s6 y_12).bind fun x_14 => ref03_Blocks_L7 N l E n i4 (IntKind.i64.wrap ((b : Int) + 1)) (List.set s6 (y_12).toNat true) s7) = some (s6', s7') ∧ Bc l 8704 s6' s7' := by
   intro hp
   have hf : Flat l b := fun k hk => flat_block (fun r hr he => by
    have := hP b (by omega) ⟨r, hr, he⟩
    rw [hp] at this; cases this) hk
   obtain ⟨w, e1, h1, h2⟩ := h.flat hl hf
   rw [hc, rget_eq hN hl.1, Option.bind_some, e1, atI_get (show w < s6.length by rw [h.len]; exact h1), Option.bind_some, hw, Int.toNat_natCast]
   rw [if_neg (by simp [hp])] at hd
   exact ih (b + 1) n i4 _ _ (by omega) (by omega) hi hd h2
  rw [ref03_Blocks_L7, if_pos (by omega)]
  by_cases g1 : (i4 : Int) = (E.length : Int)
  ·
   rw [if_pos g1]
   refine plainly ?_
   cases hp : P b with
   | false => rfl
   | true =>
    rw [List.drop_eq_nil_of_le (by omega), if_pos hp] at hd
    cases hd
  rw [if_neg g1]
  have hi' : i4 < E.length := by omega
  rw [atI_get hi', Option.bind_some]
  rw [List.drop_eq_getElem_cons hi'] at hd
  by_cases g2 : E[i4] = (b : Int)
  ·
   have hp : P b = true := by
    cases hp : P b with
    | true => rfl
    | false =>
     rw [if_neg (by simp [hp])] at hd
     have := fI_head hd.symm
     omega
   rw [if_pos hp] at hd
   have hd' := (List.cons.inj hd).2
   obtain ⟨q', v', e5, hB, hq⟩ := blk_L5 hN hl (E := E) (i4 := (i4 : Int)) (b := b) (by omega) (s6 := s6) (s7 := s7) 128 0 N true (Vector.replicate 128 0) (by omega) (by omega) (fun j hj => by omega) ⟨fun _ j hj => by omega, fun _ => rfl⟩
   rw [if_pos g2, show ref03_Blocks_L5 N l E i4 b s6 s7 N true 0 _ = _ from e5, Option.bind_some]
   simp only
   rw [wk (k := i4) (by omega), hw]
   by_cases g3 : q' = true
   ·
    obtain ⟨w, e1, h1, h2⟩ := h.flat hl (hq.1 g3)
    have h0 := hB 0 (by omega)
    rw [Int.natCast_zero, Int.add_zero, e1] at h0
    rw [if_pos g3, show atI v'.toList 0 = _ from gv_at (k := 0) (by omega), Option.bind_some, h0, atI_get (show w < s6.length by rw [h.len]; exact h1), Option.bind_some, Int.toNat_natCast]
    exact ih (b + 1) n (i4 + 1) _ _ (by omega) (by omega) (by omega) hd' h2
   ·
    rw [if_neg g3]
    have hnf : ¬ Flat l b := fun hf => g3 (hq.2 hf)
    obtain ⟨q6, e6, h6⟩ := blk_L6 (N := N) (l := l) (E := E) (i4 := (i4 : Int)) (i5 := (b : Int)) (s6 := s6) (s7 := s7) (v := v') (by omega) s7.length 0 N false (by omega) (by omega)
    rw [List.drop_zero] at h6
    rw [show ref03_Blocks_L6 N l E i4 b s6 s7 v' N false 0 = _ from e6, Option.bind_some]
    by_cases g4 : q6 = true
    ·
     rw [if_pos g4]
     have hm : v' ∈ s7 := by
      rcases h6.1 g4 with h7 | h7
      ·
       cases h7
      ·
       exact h7
     exact ih (b + 1) n (i4 + 1) _ _ (by omega) (by omega) (by omega) hd' (h.old hnf hB hm)
    ·
     rw [if_neg g4, if_pos (by omega)]
     have hm : v' ∉ s7 := fun h7 => g4 (h6.2 (.inr h7))
     exact ih (b + 1) n (i4 + 1) _ _ (by omega) (by omega) (by omega) hd' (h.new hnf hB hm)
  ·
   rw [if_neg g2]
   refine plainly ?_
   cases hp : P b with
   | false => rfl
   | true =>
    rw [if_pos hp] at hd
    exact absurd (List.cons.inj hd).1 g2
def tr (s : List Bool) (v : Nat) : Bool := decide (s[v]? = some true)
theorem blk_L8 {N : Nat} {s : List Bool} (hs : s.length = 256) : ∀ (d i n a : Nat), i + d = 256 → d < n → a + d ≤ 100000 → ref03_Blocks_L8 N s n a i = some (((a + ((List.range' i d).filter (tr s)).length : Nat) : Int)) := by
 intro d
 induction d with
 | zero =>
  intro i n a hi hn ha
  obtain ⟨n, rfl⟩ : ∃ x, n = x + 1 := ⟨n - 1, by omega⟩
  rw [ref03_Blocks_L8, if_neg (by omega)]; simp
 | succ d ih =>
  intro i n a hi hn ha
  obtain ⟨n, rfl⟩ : ∃ x, n = x + 1 := ⟨n - 1, by omega⟩
  have his : i < s.length := by omega
  rw [ref03_Blocks_L8, if_pos (by omega), atI_get his, Option.bind_some, wk (k := i) (by omega), List.range'_succ, List.filter_cons]
  have ht : tr s i = s[i] := by unfold tr; rw [List.getElem?_eq_getElem his]; cases s[i] <;> rfl
  rw [ht]
  by_cases g : s[i] = true
  ·
   rw [if_pos g, if_pos g, wk (k := a) (by omega), ih (i + 1) n (a + 1) (by omega) (by omega) (by omega)]
   simp only [List.length_cons]
   congr 2; omega
  ·
   rw [if_neg g, if_neg g, ih (i + 1) n a (by omega) (by omega) (by omega)]
theorem rblocks_eq {N : Nat} (hN : 1000000000000 < N) {l : List TRange} (hl : Rt 255 l) {idx : List Int} {bl : List (Vector Int 128)} (h : Tr l 8704 idx bl) : ref03_Blocks N l = some (bl.length : Int) := by
 obtain ⟨P, e, hP⟩ := edges_eq hN hl
 have hElen : (fI P 0 8704).length ≤ 100000 := by
  unfold fI
  rw [List.length_map]
  have := List.length_filter_le P (List.range' 0 8704)
  rw [List.length_range'] at this
  omega
 obtain ⟨s6, s7, e7, hB⟩ := blk_L7 hN hl hP hElen 8704 0 N 0 (List.replicate 256 false) [] (by omega) (by omega) (Nat.zero_le _) (by rw [List.drop_zero]) ⟨by simp, by simp, fun v hv => by
  rw [List.getElem?_replicate]
  constructor
  ·
   intro h; split at h <;> cases h
  ·
   rintro ⟨i, h1, _⟩; omega, List.nodup_nil, fun x => by
  constructor
  ·
   intro h; cases h
  ·
   rintro ⟨i, h1, _⟩; omega⟩
 have e8 := blk_L8 (N := N) hB.len 256 0 N s7.length (by omega) (by omega) (by have := hB.le; omega)
 have hlen : bl.length = (s7 ++ ((List.range' 0 256).filter (tr s6)).map fun v : Nat => Vector.replicate 128 (v : Int)).length := by
  have hconst : ∀ v : Nat, ∀ k, k < 128 → gv (Vector.replicate 128 (v : Int)) k = (v : Int) := fun v k hk => by
   unfold gv; rw [Vector.toList_replicate, List.getElem?_replicate, if_pos hk]; rfl
  refine nodup_len h.nd ?_ fun x => ?_
  ·
   rw [List.nodup_append]
   refine ⟨hB.nd, ?_, fun x hx y hy e => ?_⟩
   ·
    refine List.pairwise_map.2 (List.Pairwise.imp ?_ (List.Pairwise.filter _ List.nodup_range'))
    intro a b hne he
    have := congrArg (fun v => gv v 0) he
    try simp only at this
    rw [hconst a 0 (by omega), hconst b 0 (by omega)] at this
    omega
   ·
    obtain ⟨v, _, rfl⟩ := List.mem_map.1 hy
    obtain ⟨i, _, h1, h2⟩ := (hB.odd x).1 hx
    subst e
    apply h2
    intro k hk
    have a1 := h1 k hk
    have a0 := h1 0 (by omega)
    rw [hconst v k hk] at a1
    rw [hconst v 0 (by omega), Int.natCast_zero, Int.add_zero] at a0
    rw [← a1, ← a0]
  ·
   rw [h.mem, List.mem_append, hB.odd]
   constructor
   ·
    rintro ⟨i, hi, hx⟩
    by_cases hf : Flat l i
    ·
     right
     have hv := valc_in (by omega) hl.2 ((i : Int) * 128)
     refine List.mem_map.2 ⟨(valc l ((i : Int) * 128)).toNat, List.mem_filter.2 ⟨List.mem_range'_1.2 ⟨by omega, by omega⟩, ?_⟩, ?_⟩
     ·
      unfold tr
      exact decide_eq_true ((hB.plain _ (by omega)).2 ⟨i, hi, hf, by omega⟩)
     ·
      refine gv_ext fun k hk => ?_
      rw [hconst _ k hk, hx k hk, hf k hk]; omega
    ·
     exact .inl ⟨i, hi, hx, hf⟩
   ·
    rintro (⟨i, hi, hx, _⟩ | hx)
    ·
     exact ⟨i, hi, hx⟩
    ·
     obtain ⟨v, hv, rfl⟩ := List.mem_map.1 hx
     obtain ⟨h1, h2⟩ := List.mem_filter.1 hv
     have h3 := List.mem_range'_1.1 h1
     obtain ⟨i, hi, hf, hiv⟩ := (hB.plain v (by omega)).1 (of_decide_eq_true h2)
     exact ⟨i, hi, fun k hk => by rw [hconst v k hk, hf k hk, hiv]⟩
 rw [List.length_append, List.length_map] at hlen
 unfold ref03_Blocks
 rw [e, Option.bind_some, show ref03_Blocks_L7 N l _ N 0 0 _ [] = _ from e7, Option.bind_some]
 simp only
 rw [show ref03_Blocks_L8 N s6 N (s7.length : Int) 0 = _ from e8, Option.bind_some, hlen]
theorem trieBlocks_plain {N : Nat} (hN : 1000000000000 < N) (l : List TRange) : law03_TrieBlocks N l = some true := by
 unfold law03_TrieBlocks
 rw [alive03 hN, Option.bind_some, if_pos rfl]
 by_cases g1 : 60 < (l.length : Int)
 ·
  rw [if_pos g1]
 rw [if_neg g1]
 obtain ⟨b, eb, hb⟩ := rright_eq hN l 255
 rw [eb, Option.bind_some]
 by_cases g : Rt 255 l
 ·
  rw [if_pos (hb.2 g), (new_eq hN l (by omega)).1 g, Option.bind_some]
  simp only
  obtain ⟨i0, b0, e0, t0⟩ := blocks_eq hN g (st := 0) (as := 0) (.inl ⟨rfl, rfl, rfl, rfl⟩)
  rw [e0, Option.bind_some]
  simp only
  rw [rblocks_eq hN g t0, Option.bind_some, if_pos rfl]
  unfold trie_Trie_Built_row trie_Trie_Asked_row
  rw [Option.bind_some, if_pos (by decide), Option.bind_some]
  rfl
 ·
  rw [if_neg (fun h => g (hb.1 h))]
end Go.Proofs.Ytnbnajjoinahiaa.AI
