/- Part of a proof. -/
import Derived.Test.YtfacmhngbaboiaaCX8
import Derived.Test.YtfacmhngbaboiaaCX9
import Derived.Test.YtfacmhngbaboiaaPU9U
set_option linter.unusedVariables false
set_option linter.unusedSimpArgs false
set_option maxRecDepth 100000
namespace Go.Proofs.Ytfacmhngbaboiaa.AI
def Two {α : Type} (e e' : Option (α ⊕ Unit)) (P : α → Prop) : Prop := ∃ r r', e = some r ∧ e' = some r' ∧ (∀ y, r = .inl y → r' = .inl y) ∧ ∀ y, r' = .inl y → P y
section
variable {α β : Type} {e e' : Option (α ⊕ Unit)} {P : α → Prop} {Q : β → Prop}
theorem Two.b {F F' : α ⊕ Unit → Option (β ⊕ Unit)} (h : Two e e' P) (hi : ∀ y, P y → Two (F (.inl y)) (F' (.inl y)) Q) (hr : F (.inr ()) = some (.inr ())) (hr' : F' (.inr ()) = some (.inr ())) : Two (e.bind F) (e'.bind F') Q := by
 obtain ⟨r, r', rfl, rfl, h1, h2⟩ := h
 rw [Option.bind_some, Option.bind_some]
 cases r with
 | inl y =>
  rw [h1 y rfl]
  exact hi y (h2 y (h1 y rfl))
 | inr u =>
  cases u
  rw [hr]
  cases r' with
  | inl y =>
   obtain ⟨s, s', g1, g2, g3, g4⟩ := hi y (h2 y rfl)
   exact ⟨_, s', rfl, g2, (fun z hz => by cases hz), g4⟩
  | inr u => cases u; rw [hr']; exact ⟨_, _, rfl, rfl, (fun z hz => by cases hz), (fun z hz => by cases hz)⟩
theorem Two.i {y : α} (h : P y) : Two (some (.inl y)) (some (.inl y)) P := ⟨_, _, rfl, rfl, fun _ h => h, fun z hz => by cases hz; exact h⟩
theorem Two.r : Two (some (.inr ())) (some (.inr ())) P := ⟨_, _, rfl, rfl, fun _ h => h, fun z hz => by cases hz⟩
theorem Two.S {o o' : Option α} (h : ∀ x, o = some x → o' = some x) (hp : ∀ x, o' = some x → P x) : Two (some (S o)) (some (S o')) P := by
 refine ⟨_, _, rfl, rfl, fun y hy => ?_, fun y hy => ?_⟩
 ·
  cases o with
  | none => cases hy
  | some x => cases hy; rw [h _ rfl]; rfl
 ·
  cases o' with
  | none => cases hy
  | some x => cases hy; exact hp _ rfl
theorem Two.half {y : α} (h : P y) : Two (some (.inr ())) (some (.inl y)) P := ⟨_, _, rfl, rfl, (fun z hz => by cases hz), (fun z hz => by cases hz; exact h)⟩
theorem Two.mono {P' : α → Prop} (h : Two e e' P) (hp : ∀ y, P y → P' y) : Two e e' P' := by
 obtain ⟨r, r', h1, h2, h3, h4⟩ := h
 exact ⟨r, r', h1, h2, h3, fun y hy => hp y (h4 y hy)⟩
end
theorem pmust_eq {N : Nat} (x : Bool) : gpos_must N x = some (if x = true then .inl () else .inr ()) := by
 unfold gpos_must
 cases x <;> rfl
theorem must_2 {N : Nat} {c c' : Bool} (h : c = true → c' = true) : Two (gpos_must N c) (gpos_must N c') (fun _ => c' = true) := by
 rw [pmust_eq, pmust_eq]
 refine ⟨_, _, rfl, rfl, fun y hy => ?_, fun y hy => ?_⟩
 ·
  cases c with
  | true => rw [h rfl]; exact hy
  | false => cases hy
 ·
  cases c' with
  | true => rfl
  | false => cases hy
section
variable {N : Nat} (hN : 1000000000000 < N) {b : List Int} (hb : Bytes b) (hl : b.length ≤ 2000)
include hN hb hl
theorem pnumber_eq {a p : Int} (hp : p ≤ 1000000000000) : gpos_reader_number N b a p = some (S (num b p)) := by
 unfold gpos_reader_number num
 rw [U16_eq hN hb (by omega) p hp, Option.bind_some]
 by_cases h : u16 b p < 0
 ·
  rw [if_pos h, if_pos h]; rfl
 ·
  rw [if_neg h, if_neg h]; rfl
theorem prow_eq {a p n : Int} (hp : p ≤ 1000000000000) (hn : n ≤ 1000000000000) : gpos_reader_row N b a p n = some (S (row b p n)) := by
 unfold gpos_reader_row row
 rw [Row_eq hN hb (by omega) p n hp hn, Option.bind_some]
 by_cases h : 0 ≤ n ∧ 0 ≤ p ∧ p + 2 * n ≤ (b.length : Int)
 ·
  rw [if_pos h, if_pos h]; rfl
 ·
  rw [if_neg h, if_neg h]; rfl
end
section
variable {N : Nat} (hN : 1000000000000 < N) {b m : List Int} (hb : Bytes b) (hm : Bytes m) (hl : (b ++ m).length ≤ 2000)
include hN hb hm hl
omit hN hb hm in
theorem short : b.length ≤ 2000 := by simp only [List.length_append] at hl; omega
theorem number_2 {a p : Int} (hp : p ≤ 1000000000) : Two (gpos_reader_number N b a p) (gpos_reader_number N (b ++ m) a p) (fun x => 0 ≤ x ∧ x ≤ 65535 ∧ 0 ≤ p ∧ p + 2 ≤ 2000) := by
 rw [pnumber_eq hN hb (short hl) (by omega), pnumber_eq hN (hb.app hm) hl (by omega)]
 refine Two.S (fun x h => num_app hb h) fun x h => ?_
 obtain ⟨_, h1, h2, h3, h4⟩ := num_some (hb.app hm) h
 exact ⟨h1, h2, h3, by omega⟩
theorem row_2 {a p n : Int} (hp : p ≤ 1000000000) (hn : n ≤ 1000000000) : Two (gpos_reader_row N b a p n) (gpos_reader_row N (b ++ m) a p n) (fun l => (l.length : Int) = n ∧ 0 ≤ n ∧ 0 ≤ p ∧ p + 2 * n ≤ 2000 ∧ ∀ x ∈ l, 0 ≤ x ∧ x ≤ 65535) := by
 rw [prow_eq hN hb (short hl) (by omega) (by omega), prow_eq hN (hb.app hm) hl (by omega) (by omega)]
 refine Two.S (fun x h => row_app hb h) fun x h => ?_
 obtain ⟨_, h1, h2, h3, h4, h5⟩ := row_some (hb.app hm) h
 exact ⟨h1, h2, h3, by omega, h5⟩
theorem spans_2 {a p : Int} (ha : -1000000 ≤ a) (ha' : a ≤ 1000000) (hp : p ≤ 1000000000) : Two (gpos_reader_spans N b a p) (gpos_reader_spans N (b ++ m) a p) (fun s => RL 0 s ∧ s.length ≤ 65536 ∧ 0 ≤ p ∧ p + 2 ≤ 2000) := by
 unfold gpos_reader_spans
 refine Two.b (number_2 hN hb hm hl hp) ?_ rfl rfl
 rintro x ⟨h1, h2, h3, h4⟩
 dsimp only
 have hs := short hl
 rw [w64 (x := a + x) (by omega) (by omega), (covL_eq hN hb (by omega) (a + x) (by omega) (by omega)).1, (covL_eq hN (hb.app hm) (by omega) (a + x) (by omega) (by omega)).1, Option.bind_some, Option.bind_some]
 dsimp only
 have post : ∀ s, cov N (b ++ m) (a + x) = some s → RL 0 s ∧ s.length ≤ 65536 ∧ 0 ≤ p ∧ p + 2 ≤ 2000 := fun s h => by
  have g := cov_rl hN (hb.app hm) (by omega) (by omega) (by omega) h
  exact ⟨g.1, g.2, h3, h4⟩
 unfold cov at post
 rw [pmust_eq, pmust_eq, Option.bind_some, Option.bind_some]
 by_cases hc : covOk b (a + x) = true
 ·
  obtain ⟨g1, g2⟩ := covL_app hN hb hm (by omega) (a + x) (by omega) (by omega) hc
  rw [if_pos g1] at post
  rw [if_pos hc, if_pos g1, ← g2]
  exact Two.i (post _ rfl)
 ·
  rw [if_neg hc]
  by_cases hd : covOk (b ++ m) (a + x) = true
  ·
   rw [if_pos hd] at post ⊢
   exact Two.half (post _ rfl)
  ·
   rw [if_neg hd]
   exact Two.r
theorem classes_2 {a p : Int} (ha : -1000000 ≤ a) (ha' : a ≤ 1000000) (hp : p ≤ 1000000000) : Two (gpos_reader_classes N b a p) (gpos_reader_classes N (b ++ m) a p) (fun s => s.length ≤ 65536 ∧ 0 ≤ p ∧ p + 2 ≤ 2000) := by
 unfold gpos_reader_classes
 refine Two.b (number_2 hN hb hm hl hp) ?_ rfl rfl
 rintro x ⟨h1, h2, h3, h4⟩
 dsimp only
 have hs := short hl
 have c1 := clsL_eq hN hb (by omega) (a + x) (by omega) (by omega)
 have c2 := clsL_eq hN (hb.app hm) (by omega) (a + x) (by omega) (by omega)
 rw [w64 (x := a + x) (by omega) (by omega), c1.1, c2.1, Option.bind_some, Option.bind_some]
 dsimp only
 rw [pmust_eq, pmust_eq, Option.bind_some, Option.bind_some]
 by_cases hc : clsOk b (a + x) = true
 ·
  obtain ⟨g1, g2⟩ := clsL_app hN hb hm (by omega) (a + x) (by omega) (by omega) hc
  rw [if_pos hc, if_pos g1, ← g2]
  exact Two.i ⟨c2.2.2.2, h3, h4⟩
 ·
  rw [if_neg hc]
  by_cases hd : clsOk (b ++ m) (a + x) = true
  ·
   rw [if_pos hd]
   exact Two.half ⟨c2.2.2.2, h3, h4⟩
  ·
   rw [if_neg hd]
   exact Two.r
theorem count_2 {a p lo hi : Int} (hp : p ≤ 1000000000) : Two (gpos_reader_count N b a p lo hi) (gpos_reader_count N (b ++ m) a p lo hi) (fun x => lo ≤ x ∧ x ≤ hi ∧ 0 ≤ x ∧ x ≤ 65535 ∧ 0 ≤ p ∧ p + 2 ≤ 2000) := by
 unfold gpos_reader_count
 refine Two.b (number_2 hN hb hm hl hp) ?_ rfl rfl
 rintro x ⟨h1, h2, h3, h4⟩
 dsimp only
 by_cases g : lo ≤ x
 ·
  rw [if_pos g]
  refine Two.b (must_2 id) ?_ rfl rfl
  rintro u hu
  exact Two.i ⟨g, of_decide_eq_true hu, h1, h2, h3, h4⟩
 ·
  rw [if_neg g]
  exact Two.r
theorem exactly_2 {a p n : Int} (hp : p ≤ 1000000000) : Two (gpos_reader_exactly N b a p n) (gpos_reader_exactly N (b ++ m) a p n) (fun x => x = n ∧ 0 ≤ n ∧ n ≤ 65535 ∧ 0 ≤ p ∧ p + 2 ≤ 2000) := by
 unfold gpos_reader_exactly
 refine Two.b (count_2 hN hb hm hl hp) ?_ rfl rfl
 rintro x ⟨h1, h2, h3, h4, h5, h6⟩
 exact Two.i ⟨by omega, by omega, by omega, h5, h6⟩
theorem value_2 {a p : Int} (hp : p ≤ 1000000000) : Two (gpos_reader_value N b a p) (gpos_reader_value N (b ++ m) a p) (fun x => 0 ≤ p ∧ p + 2 ≤ 2000) := by
 unfold gpos_reader_value
 refine Two.b (count_2 hN hb hm hl hp) ?_ rfl rfl
 rintro x ⟨h1, h2, h3, h4, h5, h6⟩
 exact Two.i ⟨h5, h6⟩
theorem signed_2 {a p : Int} (hp : p ≤ 1000000000) : Two (gpos_reader_signed N b a p) (gpos_reader_signed N (b ++ m) a p) (fun x => 0 ≤ p ∧ p + 2 ≤ 2000) := by
 unfold gpos_reader_signed
 refine Two.b (number_2 hN hb hm hl hp) ?_ rfl rfl
 rintro x ⟨h1, h2, h3, h4⟩
 exact Two.i ⟨h3, h4⟩
theorem value1_L1 {a f : Int} : ∀ (d n : Nat) (k p v1 v2 v3 v4 v5 v6 v7 v8 : Int), k + d = 8 → 0 ≤ k → d < n → -1000000 ≤ p → p ≤ 1000000 →
  Two (gpos_reader_value_1_L1 N b a f n k p v1 v2 v3 v4 v5 v6 v7 v8) (gpos_reader_value_1_L1 N (b ++ m) a f n k p v1 v2 v3 v4 v5 v6 v7 v8) (fun r => r.1 = p ∨ (0 ≤ r.1 ∧ r.1 ≤ 2000)) := by
 intro d
 induction d with
 | zero =>
  intro n k p v1 v2 v3 v4 v5 v6 v7 v8 hk h0 hn g1 g2
  obtain ⟨n, rfl⟩ : ∃ x, n = x + 1 := ⟨n - 1, by omega⟩
  rw [gpos_reader_value_1_L1, gpos_reader_value_1_L1, if_neg (by omega), if_neg (by omega)]
  exact Two.i (.inl rfl)
 | succ d ih =>
  intro n k p v1 v2 v3 v4 v5 v6 v7 v8 hk h0 hn g1 g2
  obtain ⟨n, rfl⟩ : ∃ x, n = x + 1 := ⟨n - 1, by omega⟩
  have h8 : k < 8 := by omega
  rw [gpos_reader_value_1_L1, gpos_reader_value_1_L1]
  simp only [if_pos h8, if_pos h0]
  rw [w64 (x := k + 1) (by omega) (by omega)]
  by_cases hf : andInt .i64 (f.fdiv (2 ^ (min (k).toNat 64))) 1 = 1
  ·
   rw [if_pos hf, if_pos hf]
   refine Two.b (signed_2 hN hb hm hl (by omega)) ?_ rfl rfl
   rintro x ⟨h1, h2⟩
   dsimp only
   rw [w64 (x := p + 2) (by omega) (by omega)]
   have go : ∀ v1 v2 v3 v4 v5 v6 v7 v8, Two (gpos_reader_value_1_L1 N b a f n (k + 1) (p + 2) v1 v2 v3 v4 v5 v6 v7 v8) (gpos_reader_value_1_L1 N (b ++ m) a f n (k + 1) (p + 2) v1 v2 v3 v4 v5 v6 v7 v8) (fun r => r.1 = p ∨ (0 ≤ r.1 ∧ r.1 ≤ 2000)) := fun v1 v2 v3 v4 v5 v6 v7 v8 =>
    (ih n (k + 1) (p + 2) v1 v2 v3 v4 v5 v6 v7 v8 (by omega) (by omega) (by omega) (by omega) (by omega)).mono fun y hy => .inr (by omega)
   have hcase : k = 0 ∨ k = 1 ∨ k = 2 ∨ k = 3 ∨ k = 4 ∨ k = 5 ∨ k = 6 ∨ k = 7 := by omega
   rcases hcase with rfl | rfl | rfl | rfl | rfl | rfl | rfl | rfl <;> exact go _ _ _ _ _ _ _ _
  ·
   rw [if_neg hf, if_neg hf]
   exact ih n (k + 1) p v1 v2 v3 v4 v5 v6 v7 v8 (by omega) (by omega) (by omega) g1 g2
theorem value1_2 {a p f : Int} (g1 : -1000000 ≤ p) (g2 : p ≤ 1000000) : Two (gpos_reader_value_1 N b a p f) (gpos_reader_value_1 N (b ++ m) a p f) (fun r => r.2.2.2.2 = p ∨ (0 ≤ r.2.2.2.2 ∧ r.2.2.2.2 ≤ 2000)) := by
 unfold gpos_reader_value_1
 refine Two.b (value1_L1 hN hb hm hl 8 N 0 p 0 0 0 0 0 0 0 0 (by omega) (by omega) (by omega) g1 g2) ?_ rfl rfl
 rintro ⟨q, r1, r2, r3, r4, r5, r6, r7, r8⟩ h
 exact Two.i h
theorem adjust_L1 {a f k : Int} {c : List TSpan} (hk : k ≤ 65535) : ∀ (d n : Nat) (i p : Int) (s : List TValue), i + d = k → 0 ≤ i → d < n → -1000000 ≤ p → p ≤ 1000000 → (s.length : Int) = i →
  Two (gpos_reader_adjust_L1 N k b a c f n i p s) (gpos_reader_adjust_L1 N k (b ++ m) a c f n i p s) (fun r => (r.2.length : Int) = k) := by
 intro d
 induction d with
 | zero =>
  intro n i p s hi h0 hn g1 g2 hs
  obtain ⟨n, rfl⟩ : ∃ x, n = x + 1 := ⟨n - 1, by omega⟩
  rw [gpos_reader_adjust_L1, gpos_reader_adjust_L1, if_neg (by omega), if_neg (by omega)]
  exact Two.i (by dsimp only; omega)
 | succ d ih =>
  intro n i p s hi h0 hn g1 g2 hs
  obtain ⟨n, rfl⟩ : ∃ x, n = x + 1 := ⟨n - 1, by omega⟩
  rw [gpos_reader_adjust_L1, gpos_reader_adjust_L1, if_pos (by omega), if_pos (by omega)]
  refine Two.b (value1_2 hN hb hm hl g1 g2) ?_ rfl rfl
  rintro ⟨r1, r2, r3, r4, q⟩ h
  dsimp only at h ⊢
  rw [if_pos (by omega), if_pos (by omega), w64 (x := i + 1) (by omega) (by omega)]
  exact ih n (i + 1) q _ (by omega) (by omega) (by omega) (by omega) (by omega) (by simp only [List.length_append, List.length_cons, List.length_nil]; omega)
theorem adjust_L2 {a f : Int} {c : List TSpan} {p : Int} (g1 : -1000000 ≤ p) (g2 : p ≤ 1000000) :
  Two (gpos_reader_adjust_L2 N b a c f N 0 p []) (gpos_reader_adjust_L2 N (b ++ m) a c f N 0 p []) (fun r => r.2.length = 1) := by
 obtain ⟨n, rfl⟩ : ∃ x, N = x + 1 + 1 := ⟨N - 2, by omega⟩
 rw [gpos_reader_adjust_L2, gpos_reader_adjust_L2, if_pos (by omega), if_pos (by omega)]
 refine Two.b (value1_2 hN hb hm hl g1 g2) ?_ rfl rfl
 rintro ⟨r1, r2, r3, r4, q⟩ h
 dsimp only at h ⊢
 rw [if_pos (by simp), if_pos (by simp), w64 (x := 0 + 1) (by omega) (by omega), gpos_reader_adjust_L2, gpos_reader_adjust_L2, if_neg (by omega), if_neg (by omega)]
 exact Two.i rfl
end
end Go.Proofs.Ytfacmhngbaboiaa.AI
