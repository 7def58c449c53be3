/- Part of a proof. -/
import Derived.Test.YtfacmhngbaboiaaHP1
set_option linter.unusedVariables false
set_option linter.unusedSimpArgs false
set_option maxRecDepth 100000
namespace Go.Proofs.Ytfacmhngbaboiaa.AI
structure GP (k : Int) (c : List TSpan) (al : Bool) (d : Int) (o : List (List Int)) (l : List (List TLig)) (r : List TCtx) (vals : List Yg) (pairs : List (List TTwo)) (first second : List Xg) (grid : List (List TTwo)) (curs : List Xp) (marks : List TMark) (base : List TSpan) (bases : List (List (List Xw))) : Prop where
 e1 : al = false
 e2 : d = 0
 e3 : o = []
 e4 : l = []
 rc : RL 0 c
 rb : RL 0 base
 ctx : r.length ≤ 64 ∧ ∀ x ∈ r, CtxOk x
 n1 : vals.length ≤ 65537
 n2 : pairs.length ≤ 65537 ∧ ∀ x ∈ pairs, x.length ≤ 65537
 n3 : first.length ≤ 65536 ∧ second.length ≤ 65536
 n4 : grid.length ≤ 64 ∧ ∀ x ∈ grid, x.length ≤ 65537
 n5 : curs.length ≤ 65537 ∧ marks.length ≤ 65537 ∧ bases.length ≤ 65537
 n6 : ∀ x ∈ bases, x.length ≤ 16 ∧ ∀ y ∈ x, y.length ≤ 64
 may : (k = 11 ∧ ((vals.length : Int) = cnt c ∨ vals.length = 1)) ∨ (k = 12 ∧ ((grid = [] ∧ (pairs.length : Int) = cnt c) ∨ (pairs = [] ∧ 1 ≤ grid.length ∧ ∃ w : Int, 1 ≤ w ∧ w ≤ 64 ∧ ∀ x ∈ grid, (x.length : Int) = w))) ∨ (k = 13 ∧ (curs.length : Int) = cnt c) ∨
  ((k = 17 ∨ k = 18) ∧ c = []) ∨ ((k = 14 ∨ k = 15 ∨ k = 16) ∧ (marks.length : Int) = cnt c ∧ (bases.length : Int) = cnt base ∧ ∃ w : Int, (∀ x ∈ bases, 1 ≤ x.length ∧ (k ≠ 15 → x.length = 1) ∧ ∀ y ∈ x, (y.length : Int) = w) ∧ ∀ x ∈ marks, 0 ≤ x.Class ∧ x.Class < w ∧ x.At.Is = true)
abbrev T16g := Int × List TSpan × Bool × Int × List (List Int) × List (List TLig) × List TCtx × List Yg × List (List TTwo) × List Xg × List Xg × List (List TTwo) × List Xp × List TMark × List TSpan × List (List (List Xw))
abbrev T17g := Int × List TSpan × Bool × Int × List (List Int) × List (List TLig) × List TCtx × List Yg × List (List TTwo) × List Xg × List Xg × List (List TTwo) × List Xp × List TMark × List TSpan × List (List (List Xw)) × Int
def GP16 : T16g → Prop
 | (k, c, al, d, o, l, r, vals, pairs, first, second, grid, curs, marks, base, bases) => GP k c al d o l r vals pairs first second grid curs marks base bases
def GP17 : T17g → Prop
 | (k, c, al, d, o, l, r, vals, pairs, first, second, grid, curs, marks, base, bases, _) => GP k c al d o l r vals pairs first second grid curs marks base bases
section
variable {N : Nat} (hN : 1000000000000 < N) {b m : List Int} (hb : Bytes b) (hm : Bytes m) (hl : (b ++ m).length ≤ 2000)
include hN hb hm hl
theorem Xfv {a p f : Int} (ha : -1000000 ≤ a) (ha' : a ≤ 1000000) (g1 : -900000 ≤ p) (g2 : p ≤ 900000) : Two (YK N b a p f) (YK N (b ++ m) a p f) GP17 := by
 unfold YK
 refine Two.b (Xf4 hN hb hm hl ha ha' (by omega)) ?_ rfl rfl
 rintro c ⟨c1, c2, h1, h2⟩
 dsimp only
 rw [w64 (x := p + 2) (by omega) (by omega)]
 refine Two.b (Xjj hN hb hm hl (by omega)) ?_ rfl rfl
 rintro v ⟨h3, h4⟩
 dsimp only
 have cc := (JH c1 0).2.2.2
 rw [w64 (x := p + 2 + 2) (by omega) (by omega)]
 by_cases hf : f = 2
 ·
  simp only [if_pos hf]
  rw [Xc8 hN c1 c2, Option.bind_some, Option.bind_some]
  refine Two.b (Xcq hN hb hm hl (by omega)) ?_ rfl rfl
  rintro n ⟨rfl, n1, n2, h5, h6⟩
  dsimp only
  refine Two.b (Xhp id) ?_ rfl rfl
  rintro u hu
  dsimp only
  have hu := of_decide_eq_true hu
  rw [w64 (x := p + 2 + 2 + 2) (by omega) (by omega)]
  refine Two.b (adjust_L1 hN hb hm hl (by omega) (cnt c).toNat N 0 (p + 2 + 2 + 2) [] (by omega) (by omega) (by omega) (by omega) (by omega) rfl) ?_ rfl rfl
  rintro ⟨q, s⟩ hs
  dsimp only at hs
  refine Two.i ?_
  exact ⟨rfl, rfl, rfl, rfl, c1, trivial, by simp, by omega, by simp, by simp, by simp, by simp, by simp, .inl ⟨rfl, .inl hs⟩⟩
 ·
  simp only [if_neg hf]
  refine Two.b (adjust_L2 hN hb hm hl (by omega) (by omega)) ?_ rfl rfl
  rintro ⟨q, s⟩ hs
  dsimp only at hs
  refine Two.i ?_
  exact ⟨rfl, rfl, rfl, rfl, c1, trivial, by simp, by omega, by simp, by simp, by simp, by simp, by simp, .inl ⟨rfl, .inr hs⟩⟩
theorem pair_L3 {a w k2 i2 f1 f2 : Int} {c : List TSpan} {c1 c2 : List Xg} {s2 : List (List TTwo)} (hw : w ≤ 65535) : ∀ (d n : Nat) (i p : Int) (s : List TTwo), i + d = w → 0 ≤ i → d < n → -1000000 ≤ p → p ≤ 1000000 → (s.length : Int) = i →
  Two (Yt N w k2 i2 b a c c1 c2 s2 f1 f2 n i p s) (Yt N w k2 i2 (b ++ m) a c c1 c2 s2 f1 f2 n i p s) (fun r => -1000000 ≤ r.1 ∧ r.1 ≤ 1000000 ∧ (r.2.length : Int) = w) := by
 intro d
 induction d with
 | zero =>
  intro n i p s hi h0 hn g1 g2 hs
  obtain ⟨n, rfl⟩ : ∃ x, n = x + 1 := ⟨n - 1, by omega⟩
  rw [Yt, Yt, if_neg (by omega), if_neg (by omega)]
  exact Two.i (by dsimp only; omega)
 | succ d ih =>
  intro n i p s hi h0 hn g1 g2 hs
  obtain ⟨n, rfl⟩ : ∃ x, n = x + 1 := ⟨n - 1, by omega⟩
  rw [Yt, Yt, if_pos (by omega), if_pos (by omega)]
  refine Two.b (Xc0 hN hb hm hl g1 g2) ?_ rfl rfl
  rintro ⟨r1, r2, r3, r4, q⟩ h
  dsimp only at h ⊢
  refine Two.b (Xc0 hN hb hm hl (by omega) (by omega)) ?_ rfl rfl
  rintro ⟨t1, t2, t3, t4, q2⟩ h'
  dsimp only at h' ⊢
  rw [if_pos (by omega), if_pos (by omega), w64 (x := i + 1) (by omega) (by omega)]
  exact ih n (i + 1) q2 _ (by omega) (by omega) (by omega) (by omega) (by omega) (by simp only [List.length_append, List.length_cons, List.length_nil]; omega)
theorem pair_L4 {a w k f1 f2 : Int} {c : List TSpan} {c1 c2 : List Xg} (hw0 : 0 ≤ w) (hw : w ≤ 65535) (hk : k ≤ 65535) : ∀ (d n : Nat) (i p : Int) (s : List (List TTwo)), i + d = k → 0 ≤ i → d < n → -1000000 ≤ p → p ≤ 1000000 → (s.length : Int) = i → (∀ x ∈ s, (x.length : Int) = w) →
  Two (Yr N w k b a c c1 c2 f1 f2 n i p s) (Yr N w k (b ++ m) a c c1 c2 f1 f2 n i p s) (fun r => (r.2.length : Int) = k ∧ ∀ x ∈ r.2, (x.length : Int) = w) := by
 intro d
 induction d with
 | zero =>
  intro n i p s hi h0 hn g1 g2 hs hx
  obtain ⟨n, rfl⟩ : ∃ x, n = x + 1 := ⟨n - 1, by omega⟩
  rw [Yr, Yr, if_neg (by omega), if_neg (by omega)]
  exact Two.i ⟨by dsimp only; omega, hx⟩
 | succ d ih =>
  intro n i p s hi h0 hn g1 g2 hs hx
  obtain ⟨n, rfl⟩ : ∃ x, n = x + 1 := ⟨n - 1, by omega⟩
  rw [Yr, Yr, if_pos (by omega), if_pos (by omega)]
  refine Two.b (pair_L3 hN hb hm hl hw w.toNat N 0 p [] (by omega) (by omega) (by omega) g1 g2 rfl) ?_ rfl rfl
  rintro ⟨q, t⟩ ⟨h1, h2, h3⟩
  dsimp only at h1 h2 h3 ⊢
  rw [if_pos (by omega), if_pos (by omega), w64 (x := i + 1) (by omega) (by omega)]
  refine ih n (i + 1) q _ (by omega) (by omega) (by omega) (by omega) (by omega) (by simp only [List.length_append, List.length_cons, List.length_nil]; omega) fun x hx' => ?_
  rcases List.mem_append.1 hx' with hx' | hx'
  ·
   exact hx x hx'
  ·
   rw [List.mem_singleton.1 hx']; exact h3
theorem pair_L7 {a x0 w i1 i2 f1 f2 : Int} {y : List Int} {c : List TSpan} {s2 : List (List TTwo)} (hw : w ≤ 65535) : ∀ (d n : Nat) (i p : Int) (s : List TTwo), i + d = w → 0 ≤ i → d < n → -900000 ≤ p → p ≤ 900000 → (s.length : Int) = i →
  Two (Yq N y i1 w b a i2 c s2 f1 f2 x0 n i p s) (Yq N y i1 w (b ++ m) a i2 c s2 f1 f2 x0 n i p s) (fun r => (r.length : Int) = w) := by
 intro d
 induction d with
 | zero =>
  intro n i p s hi h0 hn g1 g2 hs
  obtain ⟨n, rfl⟩ : ∃ x, n = x + 1 := ⟨n - 1, by omega⟩
  rw [Yq, Yq, if_neg (by omega), if_neg (by omega)]
  exact Two.i (by omega)
 | succ d ih =>
  intro n i p s hi h0 hn g1 g2 hs
  obtain ⟨n, rfl⟩ : ∃ x, n = x + 1 := ⟨n - 1, by omega⟩
  rw [Yq, Yq, if_pos (by omega), if_pos (by omega)]
  refine Two.b (QZ hN hb hm hl (by omega)) ?_ rfl rfl
  rintro g ⟨j1, j2, j3, j4⟩
  dsimp only
  rw [w64 (x := p + 2) (by omega) (by omega)]
  refine Two.b (Xc0 hN hb hm hl (by omega) (by omega)) ?_ rfl rfl
  rintro ⟨r1, r2, r3, r4, q⟩ h
  dsimp only at h ⊢
  refine Two.b (Xc0 hN hb hm hl (by omega) (by omega)) ?_ rfl rfl
  rintro ⟨t1, t2, t3, t4, q2⟩ h'
  dsimp only at h' ⊢
  rw [if_pos (by omega), if_pos (by omega), w64 (x := i + 1) (by omega) (by omega)]
  exact ih n (i + 1) q2 _ (by omega) (by omega) (by omega) (by omega) (by omega) (by simp only [List.length_append, List.length_cons, List.length_nil]; omega)
theorem pair_L8 {a f1 f2 p : Int} {y : List Int} {c : List TSpan} (ha : -700000 ≤ a) (ha' : a ≤ 700000) (hy : ∀ x ∈ y, 0 ≤ x ∧ x ≤ 65535) (hyl : y.length ≤ 65537) : ∀ (d k n : Nat) (s : List (List TTwo)), k + d = y.length → d < n → s.length = k → (∀ x ∈ s, x.length ≤ 65537) →
  Two (Yp N y b a c f1 f2 n k p s) (Yp N y (b ++ m) a c f1 f2 n k p s) (fun r => r.2.length = y.length ∧ ∀ x ∈ r.2, x.length ≤ 65537) := by
 intro d
 induction d with
 | zero =>
  intro k n s hi hn hs hx
  obtain ⟨n, rfl⟩ : ∃ x, n = x + 1 := ⟨n - 1, by omega⟩
  rw [Yp, Yp, if_neg (by omega), if_neg (by omega)]
  exact Two.i ⟨by dsimp only; omega, hx⟩
 | succ d ih =>
  intro k n s hi hn hs hx
  obtain ⟨n, rfl⟩ : ∃ x, n = x + 1 := ⟨n - 1, by omega⟩
  have hkl : k < y.length := by omega
  have hv := hy y[k] (List.getElem_mem hkl)
  rw [Yp, Yp, if_pos (by omega), if_pos (by omega), YI (List.getElem?_eq_getElem hkl), Option.bind_some, Option.bind_some]
  simp only [YC, Option.bind_some]
  rw [w64 (x := a + y[k]) (by omega) (by omega)]
  refine Two.b (QZ hN hb hm hl (by omega)) ?_ rfl rfl
  rintro g ⟨j1, j2, j3, j4⟩
  dsimp only
  rw [w64 (x := a + y[k] + 2) (by omega) (by omega)]
  refine Two.b (pair_L7 hN hb hm hl (by omega) g.toNat N 0 (a + y[k] + 2) [] (by omega) (by omega) (by omega) (by omega) (by omega) rfl) ?_ rfl rfl
  rintro t ht
  dsimp only at ht ⊢
  rw [if_pos (by omega), if_pos (by omega), w64 (x := (k : Int) + 1) (by omega) (by omega), show (k : Int) + 1 = ((k + 1 : Nat) : Int) by omega]
  refine ih (k + 1) n _ (by omega) (by omega) (by simp only [List.length_append, List.length_cons, List.length_nil]; omega) fun x hx' => ?_
  rcases List.mem_append.1 hx' with hx' | hx'
  ·
   exact hx x hx'
  ·
   rw [List.mem_singleton.1 hx']; omega
theorem Xki {a p f : Int} (ha : -700000 ≤ a) (ha' : a ≤ 700000) (g1 : -900000 ≤ p) (g2 : p ≤ 900000) : Two (YZ N b a p f) (YZ N (b ++ m) a p f) GP17 := by
 unfold YZ
 refine Two.b (Xf4 hN hb hm hl (by omega) (by omega) (by omega)) ?_ rfl rfl
 rintro c ⟨c1, c2, h1, h2⟩
 dsimp only
 rw [w64 (x := p + 2) (by omega) (by omega)]
 refine Two.b (Xjj hN hb hm hl (by omega)) ?_ rfl rfl
 rintro v ⟨h3, h4⟩
 dsimp only
 have cc := (JH c1 0).2.2.2
 rw [w64 (x := p + 2 + 2) (by omega) (by omega)]
 refine Two.b (Xjj hN hb hm hl (by omega)) ?_ rfl rfl
 rintro v2 ⟨h5, h6⟩
 dsimp only
 rw [w64 (x := p + 2 + 2 + 2) (by omega) (by omega)]
 by_cases hf : f = 2
 ·
  simp only [if_pos hf]
  refine Two.b (Xje hN hb hm hl (by omega) (by omega) (by omega)) ?_ rfl rfl
  rintro k1 ⟨l1, h7, h8⟩
  dsimp only
  rw [w64 (x := p + 2 + 2 + 2 + 2) (by omega) (by omega)]
  refine Two.b (Xje hN hb hm hl (by omega) (by omega) (by omega)) ?_ rfl rfl
  rintro k2 ⟨l2, h9, h10⟩
  dsimp only
  rw [w64 (x := p + 2 + 2 + 2 + 2 + 2) (by omega) (by omega)]
  refine Two.b (Xcu hN hb hm hl (by omega)) ?_ rfl rfl
  rintro x ⟨x1, x2, x3, x4, x5, x6⟩
  dsimp only
  rw [w64 (x := p + 2 + 2 + 2 + 2 + 2 + 2) (by omega) (by omega)]
  refine Two.b (Xcu hN hb hm hl (by omega)) ?_ rfl rfl
  rintro y ⟨y1, y2, y3, y4, y5, y6⟩
  dsimp only
  rw [w64 (x := p + 2 + 2 + 2 + 2 + 2 + 2 + 2) (by omega) (by omega)]
  refine Two.b (pair_L4 hN hb hm hl (by omega) (by omega) (by omega) x.toNat N 0 _ [] (by omega) (by omega) (by omega) (by omega) (by omega) rfl (by simp)) ?_ rfl rfl
  rintro ⟨q, s⟩ ⟨s1, s2⟩
  dsimp only at s1 s2
  refine Two.i ?_
  exact ⟨rfl, rfl, rfl, rfl, c1, trivial, by simp, by simp, by simp, ⟨l1, l2⟩, ⟨by omega, fun z hz => by have := s2 z hz; omega⟩, by simp, by simp, .inr (.inl ⟨rfl, .inr ⟨rfl, by omega, y, y1, y2, s2⟩⟩)⟩
 ·
  simp only [if_neg hf]
  rw [Xc8 hN c1 c2, Option.bind_some, Option.bind_some]
  refine Two.b (Xcq hN hb hm hl (by omega)) ?_ rfl rfl
  rintro n ⟨rfl, n1, n2, h7, h8⟩
  dsimp only
  rw [w64 (x := p + 2 + 2 + 2 + 2) (by omega) (by omega)]
  refine Two.b (row_2 hN hb hm hl (by omega) (by omega)) ?_ rfl rfl
  rintro y ⟨y1, y2, y3, y4, y5⟩
  dsimp only
  refine Two.b (pair_L8 hN hb hm hl ha ha' y5 (by omega) y.length 0 N [] (by omega) (by omega) rfl (by simp)) ?_ rfl rfl
  rintro ⟨q, s⟩ ⟨s1, s2⟩
  dsimp only at s1 s2
  refine Two.i ?_
  exact ⟨rfl, rfl, rfl, rfl, c1, trivial, by simp, by simp, ⟨by omega, s2⟩, by simp, by simp, by simp, by simp, .inr (.inl ⟨rfl, .inl ⟨rfl, by omega⟩⟩)⟩
theorem Xk8 {a p o : Int} (ha : -900000 ≤ a) (ha' : a ≤ 900000) (h0 : 0 ≤ o) (h1 : o ≤ 65535) : Two (Zl N b a p o) (Zl N (b ++ m) a p o) (fun _ => True) := by
 unfold Zl
 by_cases ho : o = 0
 ·
  simp only [if_pos ho]; exact Two.i (P := fun _ => True) trivial
 ·
  simp only [if_neg ho, YC, Option.bind_some]
  rw [w64 (x := a + o) (by omega) (by omega)]
  refine Two.b (Xcu hN hb hm hl (by omega)) ?_ rfl rfl
  rintro x ⟨x1, x2, x3, x4, x5, x6⟩
  dsimp only
  rw [w64 (x := a + o + 2) (by omega) (by omega)]
  refine Two.b (Xh7 hN hb hm hl (by omega)) ?_ rfl rfl
  rintro y ⟨y1, y2⟩
  dsimp only
  rw [w64 (x := a + o + 2 + 2) (by omega) (by omega)]
  refine Two.b (Xh7 hN hb hm hl (by omega)) ?_ rfl rfl
  rintro z ⟨z1, z2⟩
  dsimp only
  rw [w64 (x := a + o + 2 + 2 + 2) (by omega) (by omega), w64 (x := x - 1) (by omega) (by omega)]
  refine Two.b (row_2 hN hb hm hl (by omega) (by omega)) ?_ rfl rfl
  rintro l _
  exact Two.i (P := fun _ => True) trivial
theorem Xly {a p : Int} {y : List Int} (ha : -900000 ≤ a) (ha' : a ≤ 900000) (hy : ∀ x ∈ y, 0 ≤ x ∧ x ≤ 65535) (hyl : y.length ≤ 65537) : ∀ (d k n : Nat) (s : List Xw), k + d = y.length → d < n → s.length = k →
  Two (XT N y b a n k p s) (XT N y (b ++ m) a n k p s) (fun r => r.1 = p ∧ r.2.length = y.length) := by
 intro d
 induction d with
 | zero =>
  intro k n s hi hn hs
  obtain ⟨n, rfl⟩ : ∃ x, n = x + 1 := ⟨n - 1, by omega⟩
  rw [XT, XT, if_neg (by omega), if_neg (by omega)]
  exact Two.i ⟨rfl, by dsimp only; omega⟩
 | succ d ih =>
  intro k n s hi hn hs
  obtain ⟨n, rfl⟩ : ∃ x, n = x + 1 := ⟨n - 1, by omega⟩
  have hkl : k < y.length := by omega
  have hv := hy y[k] (List.getElem_mem hkl)
  rw [XT, XT, if_pos (by omega), if_pos (by omega), YI (List.getElem?_eq_getElem hkl), Option.bind_some, Option.bind_some]
  refine Two.b (Xk8 hN hb hm hl ha ha' hv.1 hv.2) ?_ rfl rfl
  rintro ⟨t1, t2, t3⟩ _
  dsimp only
  rw [if_pos (by omega), if_pos (by omega), w64 (x := (k : Int) + 1) (by omega) (by omega), show (k : Int) + 1 = ((k + 1 : Nat) : Int) by omega]
  exact ih (k + 1) n _ (by omega) (by omega) (by simp only [List.length_append, List.length_cons, List.length_nil]; omega)
theorem Xg8 {a p n : Int} (ha : -900000 ≤ a) (ha' : a ≤ 900000) (hp : p ≤ 1000000000) (hn : n ≤ 65535) : Two (YM N b a p n) (YM N (b ++ m) a p n) (fun r => (r.1.length : Int) = n ∧ r.2 = p + 2 * n ∧ 0 ≤ p ∧ p + 2 * n ≤ 2000) := by
 unfold YM
 refine Two.b (row_2 hN hb hm hl hp (by omega)) ?_ rfl rfl
 rintro y ⟨y1, y2, y3, y4, y5⟩
 dsimp only
 rw [w64 (x := n * 2) (by omega) (by omega), w64 (x := p + n * 2) (by omega) (by omega)]
 refine Two.b (Xly hN hb hm hl ha ha' y5 (by omega) y.length 0 N [] (by omega) (by omega) rfl) ?_ rfl rfl
 rintro ⟨q, s⟩ ⟨s1, s2⟩
 dsimp only at s1 s2
 exact Two.i ⟨by dsimp only; omega, by dsimp only; omega, y3, y4⟩
theorem Xlv {a k : Int} {c : List TSpan} (ha : -900000 ≤ a) (ha' : a ≤ 900000) (hk : k ≤ 65535) : ∀ (d n : Nat) (i p : Int) (s : List Xp), i + d = k → 0 ≤ i → d < n → -1000000 ≤ p → p ≤ 1000000 → (s.length : Int) = i →
  Two (XR N k b a c n i p s) (XR N k (b ++ m) a c n i p s) (fun r => (r.2.length : Int) = k) := by
 intro d
 induction d with
 | zero =>
  intro n i p s hi h0 hn g1 g2 hs
  obtain ⟨n, rfl⟩ : ∃ x, n = x + 1 := ⟨n - 1, by omega⟩
  rw [XR, XR, if_neg (by omega), if_neg (by omega)]
  exact Two.i (by dsimp only; omega)
 | succ d ih =>
  intro n i p s hi h0 hn g1 g2 hs
  obtain ⟨n, rfl⟩ : ∃ x, n = x + 1 := ⟨n - 1, by omega⟩
  rw [XR, XR, if_pos (by omega), if_pos (by omega)]
  refine Two.b (Xg8 hN hb hm hl ha ha' (by omega) (by omega)) ?_ rfl rfl
  rintro ⟨t, q⟩ ⟨t1, t2, t3, t4⟩
  dsimp only at t1 t2 ⊢
  have a0 : atI t 0 = some (t[0]'(by omega)) := YI (k := 0) (List.getElem?_eq_getElem (by omega))
  have a1 : atI t 1 = some (t[1]'(by omega)) := YI (k := 1) (List.getElem?_eq_getElem (by omega))
  rw [a0, a1, Option.bind_some, Option.bind_some]
  simp only [Option.bind_some]
  rw [if_pos (by omega), if_pos (by omega), w64 (x := i + 1) (by omega) (by omega)]
  exact ih n (i + 1) q _ (by omega) (by omega) (by omega) (by omega) (by omega) (by simp only [List.length_append, List.length_cons, List.length_nil]; omega)
theorem Xjb {a p : Int} (ha : -700000 ≤ a) (ha' : a ≤ 700000) (g1 : -900000 ≤ p) (g2 : p ≤ 900000) : Two (Zb N b a p) (Zb N (b ++ m) a p) GP17 := by
 unfold Zb
 refine Two.b (Xf4 hN hb hm hl (by omega) (by omega) (by omega)) ?_ rfl rfl
 rintro c ⟨c1, c2, h1, h2⟩
 dsimp only
 have cc := (JH c1 0).2.2.2
 rw [w64 (x := p + 2) (by omega) (by omega), Xc8 hN c1 c2, Option.bind_some, Option.bind_some]
 refine Two.b (Xcq hN hb hm hl (by omega)) ?_ rfl rfl
 rintro n ⟨rfl, n1, n2, h5, h6⟩
 dsimp only
 rw [w64 (x := p + 2 + 2) (by omega) (by omega)]
 refine Two.b (Xlv hN hb hm hl (by omega) (by omega) (by omega) (cnt c).toNat N 0 (p + 2 + 2) [] (by omega) (by omega) (by omega) (by omega) (by omega) rfl) ?_ rfl rfl
 rintro ⟨q, s⟩ hs
 dsimp only at hs
 refine Two.i ?_
 exact ⟨rfl, rfl, rfl, rfl, c1, trivial, by simp, by simp, by simp, by simp, by simp, ⟨by omega, by simp, by simp⟩, by simp, .inr (.inr (.inl ⟨rfl, hs⟩))⟩
end
end Go.Proofs.Ytfacmhngbaboiaa.AI
