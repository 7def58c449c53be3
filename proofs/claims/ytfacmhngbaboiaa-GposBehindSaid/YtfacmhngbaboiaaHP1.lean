/- Part of a proof. -/
import Derived.Test.YtfacmhngbaboiaaCX8
import Derived.Test.YtfacmhngbaboiaaCX9
import Derived.Test.YtfacmhngbaboiaaPU9U
set_option linter.unusedVariables false
set_option linter.unusedSimpArgs false
set_option maxRecDepth 100000
namespace Go.Proofs.Ytfacmhngbaboiaa.AI
def Two {α : Type} (e e' : Option (α ⊕ Unit)) (P : α → Prop) : Prop := ∃ r r', e = some r ∧ e' = some r' ∧ (∀ y, r = .inl y → r' = .inl y) ∧ ∀ y, r' = .inl y → P y
section
variable {α β : Type} {e e' : Option (α ⊕ Unit)} {P : α → Prop} {Q : β → Prop}
theorem Two.b {F F' : α ⊕ Unit → Option (β ⊕ Unit)} (h : Two e e' P) (hi : ∀ y, P y → Two (F (.inl y)) (F' (.inl y)) Q) (hr : F (.inr ()) = some (.inr ())) (hr' : F' (.inr ()) = some (.inr ())) : Two (e.bind F) (e'.bind F') Q := by
 obtain ⟨r, r', rfl, rfl, h1, h2⟩ := h
 rw [Option.bind_some, Option.bind_some]
 cases r with
 | inl y =>
  rw [h1 y rfl]
  exact hi y (h2 y (h1 y rfl))
 | inr u =>
  cases u
  rw [hr]
  cases r' with
  | inl y =>
   obtain ⟨s, s', g1, g2, g3, g4⟩ := hi y (h2 y rfl)
   exact ⟨_, s', rfl, g2, (fun z hz => by cases hz), g4⟩
  | inr u => cases u; rw [hr']; exact ⟨_, _, rfl, rfl, (fun z hz => by cases hz), (fun z hz => by cases hz)⟩
theorem Two.i {y : α} (h : P y) : Two (some (.inl y)) (some (.inl y)) P := ⟨_, _, rfl, rfl, fun _ h => h, fun z hz => by cases hz; exact h⟩
theorem Two.r : Two (some (.inr ())) (some (.inr ())) P := ⟨_, _, rfl, rfl, fun _ h => h, fun z hz => by cases hz⟩
theorem Two.S {o o' : Option α} (h : ∀ x, o = some x → o' = some x) (hp : ∀ x, o' = some x → P x) : Two (some (S o)) (some (S o')) P := by
 refine ⟨_, _, rfl, rfl, fun y hy => ?_, fun y hy => ?_⟩
 ·
  cases o with
  | none => cases hy
  | some x => cases hy; rw [h _ rfl]; rfl
 ·
  cases o' with
  | none => cases hy
  | some x => cases hy; exact hp _ rfl
theorem Two.half {y : α} (h : P y) : Two (some (.inr ())) (some (.inl y)) P := ⟨_, _, rfl, rfl, (fun z hz => by cases hz), (fun z hz => by cases hz; exact h)⟩
theorem Two.mono {P' : α → Prop} (h : Two e e' P) (hp : ∀ y, P y → P' y) : Two e e' P' := by
 obtain ⟨r, r', h1, h2, h3, h4⟩ := h
 exact ⟨r, r', h1, h2, h3, fun y hy => hp y (h4 y hy)⟩
end
theorem Xae {N : Nat} (x : Bool) : Yb N x = some (if x = true then .inl () else .inr ()) := by
 unfold Yb
 cases x <;> rfl
theorem Xhp {N : Nat} {c c' : Bool} (h : c = true → c' = true) : Two (Yb N c) (Yb N c') (fun _ => c' = true) := by
 rw [Xae, Xae]
 refine ⟨_, _, rfl, rfl, fun y hy => ?_, fun y hy => ?_⟩
 ·
  cases c with
  | true => rw [h rfl]; exact hy
  | false => cases hy
 ·
  cases c' with
  | true => rfl
  | false => cases hy
section
variable {N : Nat} (hN : 1000000000000 < N) {b : List Int} (hb : Bytes b) (hl : b.length ≤ 2000)
include hN hb hl
theorem Xhn {a p : Int} (hp : p ≤ 1000000000000) : XB N b a p = some (S (num b p)) := by
 unfold XB num
 rw [U16_eq hN hb (by omega) p hp, Option.bind_some]
 by_cases h : u16 b p < 0
 ·
  rw [if_pos h, if_pos h]; rfl
 ·
  rw [if_neg h, if_neg h]; rfl
theorem prow_eq {a p n : Int} (hp : p ≤ 1000000000000) (hn : n ≤ 1000000000000) : Zk N b a p n = some (S (row b p n)) := by
 unfold Zk row
 rw [Xfm hN hb (by omega) p n hp hn, Option.bind_some]
 by_cases h : 0 ≤ n ∧ 0 ≤ p ∧ p + 2 * n ≤ (b.length : Int)
 ·
  rw [if_pos h, if_pos h]; rfl
 ·
  rw [if_neg h, if_neg h]; rfl
end
section
variable {N : Nat} (hN : 1000000000000 < N) {b m : List Int} (hb : Bytes b) (hm : Bytes m) (hl : (b ++ m).length ≤ 2000)
include hN hb hm hl
omit hN hb hm in
theorem short : b.length ≤ 2000 := by simp only [List.length_append] at hl; omega
theorem QZ {a p : Int} (hp : p ≤ 1000000000) : Two (XB N b a p) (XB N (b ++ m) a p) (fun x => 0 ≤ x ∧ x ≤ 65535 ∧ 0 ≤ p ∧ p + 2 ≤ 2000) := by
 rw [Xhn hN hb (short hl) (by omega), Xhn hN (hb.app hm) hl (by omega)]
 refine Two.S (fun x h => JN hb h) fun x h => ?_
 obtain ⟨_, h1, h2, h3, h4⟩ := YJ (hb.app hm) h
 exact ⟨h1, h2, h3, by omega⟩
theorem row_2 {a p n : Int} (hp : p ≤ 1000000000) (hn : n ≤ 1000000000) : Two (Zk N b a p n) (Zk N (b ++ m) a p n) (fun l => (l.length : Int) = n ∧ 0 ≤ n ∧ 0 ≤ p ∧ p + 2 * n ≤ 2000 ∧ ∀ x ∈ l, 0 ≤ x ∧ x ≤ 65535) := by
 rw [prow_eq hN hb (short hl) (by omega) (by omega), prow_eq hN (hb.app hm) hl (by omega) (by omega)]
 refine Two.S (fun x h => Js hb h) fun x h => ?_
 obtain ⟨_, h1, h2, h3, h4, h5⟩ := XN (hb.app hm) h
 exact ⟨h1, h2, h3, by omega, h5⟩
theorem Xf4 {a p : Int} (ha : -1000000 ≤ a) (ha' : a ≤ 1000000) (hp : p ≤ 1000000000) : Two (YF N b a p) (YF N (b ++ m) a p) (fun s => RL 0 s ∧ s.length ≤ 65536 ∧ 0 ≤ p ∧ p + 2 ≤ 2000) := by
 unfold YF
 refine Two.b (QZ hN hb hm hl hp) ?_ rfl rfl
 rintro x ⟨h1, h2, h3, h4⟩
 dsimp only
 have hs := short hl
 rw [w64 (x := a + x) (by omega) (by omega), (Xin hN hb (by omega) (a + x) (by omega) (by omega)).1, (Xin hN (hb.app hm) (by omega) (a + x) (by omega) (by omega)).1, Option.bind_some, Option.bind_some]
 dsimp only
 have post : ∀ s, cov N (b ++ m) (a + x) = some s → RL 0 s ∧ s.length ≤ 65536 ∧ 0 ≤ p ∧ p + 2 ≤ 2000 := fun s h => by
  have g := cov_rl hN (hb.app hm) (by omega) (by omega) (by omega) h
  exact ⟨g.1, g.2, h3, h4⟩
 unfold cov at post
 rw [Xae, Xae, Option.bind_some, Option.bind_some]
 by_cases hc : covOk b (a + x) = true
 ·
  obtain ⟨g1, g2⟩ := Xky hN hb hm (by omega) (a + x) (by omega) (by omega) hc
  rw [if_pos g1] at post
  rw [if_pos hc, if_pos g1, ← g2]
  exact Two.i (post _ rfl)
 ·
  rw [if_neg hc]
  by_cases hd : covOk (b ++ m) (a + x) = true
  ·
   rw [if_pos hd] at post ⊢
   exact Two.half (post _ rfl)
  ·
   rw [if_neg hd]
   exact Two.r
theorem Xje {a p : Int} (ha : -1000000 ≤ a) (ha' : a ≤ 1000000) (hp : p ≤ 1000000000) : Two (Zc N b a p) (Zc N (b ++ m) a p) (fun s => s.length ≤ 65536 ∧ 0 ≤ p ∧ p + 2 ≤ 2000) := by
 unfold Zc
 refine Two.b (QZ hN hb hm hl hp) ?_ rfl rfl
 rintro x ⟨h1, h2, h3, h4⟩
 dsimp only
 have hs := short hl
 have c1 := Xj8 hN hb (by omega) (a + x) (by omega) (by omega)
 have c2 := Xj8 hN (hb.app hm) (by omega) (a + x) (by omega) (by omega)
 rw [w64 (x := a + x) (by omega) (by omega), c1.1, c2.1, Option.bind_some, Option.bind_some]
 dsimp only
 rw [Xae, Xae, Option.bind_some, Option.bind_some]
 by_cases hc : clsOk b (a + x) = true
 ·
  obtain ⟨g1, g2⟩ := Xk3 hN hb hm (by omega) (a + x) (by omega) (by omega) hc
  rw [if_pos hc, if_pos g1, ← g2]
  exact Two.i ⟨c2.2.2.2, h3, h4⟩
 ·
  rw [if_neg hc]
  by_cases hd : clsOk (b ++ m) (a + x) = true
  ·
   rw [if_pos hd]
   exact Two.half ⟨c2.2.2.2, h3, h4⟩
  ·
   rw [if_neg hd]
   exact Two.r
theorem Xcu {a p lo hi : Int} (hp : p ≤ 1000000000) : Two (Yd N b a p lo hi) (Yd N (b ++ m) a p lo hi) (fun x => lo ≤ x ∧ x ≤ hi ∧ 0 ≤ x ∧ x ≤ 65535 ∧ 0 ≤ p ∧ p + 2 ≤ 2000) := by
 unfold Yd
 refine Two.b (QZ hN hb hm hl hp) ?_ rfl rfl
 rintro x ⟨h1, h2, h3, h4⟩
 dsimp only
 by_cases g : lo ≤ x
 ·
  rw [if_pos g]
  refine Two.b (Xhp id) ?_ rfl rfl
  rintro u hu
  exact Two.i ⟨g, of_decide_eq_true hu, h1, h2, h3, h4⟩
 ·
  rw [if_neg g]
  exact Two.r
theorem Xcq {a p n : Int} (hp : p ≤ 1000000000) : Two (Yu N b a p n) (Yu N (b ++ m) a p n) (fun x => x = n ∧ 0 ≤ n ∧ n ≤ 65535 ∧ 0 ≤ p ∧ p + 2 ≤ 2000) := by
 unfold Yu
 refine Two.b (Xcu hN hb hm hl hp) ?_ rfl rfl
 rintro x ⟨h1, h2, h3, h4, h5, h6⟩
 exact Two.i ⟨by omega, by omega, by omega, h5, h6⟩
theorem Xjj {a p : Int} (hp : p ≤ 1000000000) : Two (Zf N b a p) (Zf N (b ++ m) a p) (fun x => 0 ≤ p ∧ p + 2 ≤ 2000) := by
 unfold Zf
 refine Two.b (Xcu hN hb hm hl hp) ?_ rfl rfl
 rintro x ⟨h1, h2, h3, h4, h5, h6⟩
 exact Two.i ⟨h5, h6⟩
theorem Xh7 {a p : Int} (hp : p ≤ 1000000000) : Two (YV N b a p) (YV N (b ++ m) a p) (fun x => 0 ≤ p ∧ p + 2 ≤ 2000) := by
 unfold YV
 refine Two.b (QZ hN hb hm hl hp) ?_ rfl rfl
 rintro x ⟨h1, h2, h3, h4⟩
 exact Two.i ⟨h3, h4⟩
theorem value1_L1 {a f : Int} : ∀ (d n : Nat) (k p v1 v2 v3 v4 v5 v6 v7 v8 : Int), k + d = 8 → 0 ≤ k → d < n → -1000000 ≤ p → p ≤ 1000000 →
  Two (Xq N b a f n k p v1 v2 v3 v4 v5 v6 v7 v8) (Xq N (b ++ m) a f n k p v1 v2 v3 v4 v5 v6 v7 v8) (fun r => r.1 = p ∨ (0 ≤ r.1 ∧ r.1 ≤ 2000)) := by
 intro d
 induction d with
 | zero =>
  intro n k p v1 v2 v3 v4 v5 v6 v7 v8 hk h0 hn g1 g2
  obtain ⟨n, rfl⟩ : ∃ x, n = x + 1 := ⟨n - 1, by omega⟩
  rw [Xq, Xq, if_neg (by omega), if_neg (by omega)]
  exact Two.i (.inl rfl)
 | succ d ih =>
  intro n k p v1 v2 v3 v4 v5 v6 v7 v8 hk h0 hn g1 g2
  obtain ⟨n, rfl⟩ : ∃ x, n = x + 1 := ⟨n - 1, by omega⟩
  have h8 : k < 8 := by omega
  rw [Xq, Xq]
  simp only [if_pos h8, if_pos h0]
  rw [w64 (x := k + 1) (by omega) (by omega)]
  by_cases hf : Xk7 .i64 (f.fdiv (2 ^ (min (k).toNat 64))) 1 = 1
  ·
   rw [if_pos hf, if_pos hf]
   refine Two.b (Xh7 hN hb hm hl (by omega)) ?_ rfl rfl
   rintro x ⟨h1, h2⟩
   dsimp only
   rw [w64 (x := p + 2) (by omega) (by omega)]
   have go : ∀ v1 v2 v3 v4 v5 v6 v7 v8, Two (Xq N b a f n (k + 1) (p + 2) v1 v2 v3 v4 v5 v6 v7 v8) (Xq N (b ++ m) a f n (k + 1) (p + 2) v1 v2 v3 v4 v5 v6 v7 v8) (fun r => r.1 = p ∨ (0 ≤ r.1 ∧ r.1 ≤ 2000)) := fun v1 v2 v3 v4 v5 v6 v7 v8 =>
    (ih n (k + 1) (p + 2) v1 v2 v3 v4 v5 v6 v7 v8 (by omega) (by omega) (by omega) (by omega) (by omega)).mono fun y hy => .inr (by omega)
   have hcase : k = 0 ∨ k = 1 ∨ k = 2 ∨ k = 3 ∨ k = 4 ∨ k = 5 ∨ k = 6 ∨ k = 7 := by omega
   rcases hcase with rfl | rfl | rfl | rfl | rfl | rfl | rfl | rfl <;> exact go _ _ _ _ _ _ _ _
  ·
   rw [if_neg hf, if_neg hf]
   exact ih n (k + 1) p v1 v2 v3 v4 v5 v6 v7 v8 (by omega) (by omega) (by omega) g1 g2
theorem Xc0 {a p f : Int} (g1 : -1000000 ≤ p) (g2 : p ≤ 1000000) : Two (Yf N b a p f) (Yf N (b ++ m) a p f) (fun r => r.2.2.2.2 = p ∨ (0 ≤ r.2.2.2.2 ∧ r.2.2.2.2 ≤ 2000)) := by
 unfold Yf
 refine Two.b (value1_L1 hN hb hm hl 8 N 0 p 0 0 0 0 0 0 0 0 (by omega) (by omega) (by omega) g1 g2) ?_ rfl rfl
 rintro ⟨q, r1, r2, r3, r4, r5, r6, r7, r8⟩ h
 exact Two.i h
theorem adjust_L1 {a f k : Int} {c : List TSpan} (hk : k ≤ 65535) : ∀ (d n : Nat) (i p : Int) (s : List Yg), i + d = k → 0 ≤ i → d < n → -1000000 ≤ p → p ≤ 1000000 → (s.length : Int) = i →
  Two (Ya N k b a c f n i p s) (Ya N k (b ++ m) a c f n i p s) (fun r => (r.2.length : Int) = k) := by
 intro d
 induction d with
 | zero =>
  intro n i p s hi h0 hn g1 g2 hs
  obtain ⟨n, rfl⟩ : ∃ x, n = x + 1 := ⟨n - 1, by omega⟩
  rw [Ya, Ya, if_neg (by omega), if_neg (by omega)]
  exact Two.i (by dsimp only; omega)
 | succ d ih =>
  intro n i p s hi h0 hn g1 g2 hs
  obtain ⟨n, rfl⟩ : ∃ x, n = x + 1 := ⟨n - 1, by omega⟩
  rw [Ya, Ya, if_pos (by omega), if_pos (by omega)]
  refine Two.b (Xc0 hN hb hm hl g1 g2) ?_ rfl rfl
  rintro ⟨r1, r2, r3, r4, q⟩ h
  dsimp only at h ⊢
  rw [if_pos (by omega), if_pos (by omega), w64 (x := i + 1) (by omega) (by omega)]
  exact ih n (i + 1) q _ (by omega) (by omega) (by omega) (by omega) (by omega) (by simp only [List.length_append, List.length_cons, List.length_nil]; omega)
theorem adjust_L2 {a f : Int} {c : List TSpan} {p : Int} (g1 : -1000000 ≤ p) (g2 : p ≤ 1000000) :
  Two (XZ N b a c f N 0 p []) (XZ N (b ++ m) a c f N 0 p []) (fun r => r.2.length = 1) := by
 obtain ⟨n, rfl⟩ : ∃ x, N = x + 1 + 1 := ⟨N - 2, by omega⟩
 rw [XZ, XZ, if_pos (by omega), if_pos (by omega)]
 refine Two.b (Xc0 hN hb hm hl g1 g2) ?_ rfl rfl
 rintro ⟨r1, r2, r3, r4, q⟩ h
 dsimp only at h ⊢
 rw [if_pos (by simp), if_pos (by simp), w64 (x := 0 + 1) (by omega) (by omega), XZ, XZ, if_neg (by omega), if_neg (by omega)]
 exact Two.i rfl
end
end Go.Proofs.Ytfacmhngbaboiaa.AI
