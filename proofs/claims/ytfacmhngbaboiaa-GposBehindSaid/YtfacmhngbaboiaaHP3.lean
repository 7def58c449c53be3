/- Plain laws of layer 13: marks; subtables. -/
import Derived.Test.YtfacmhngbaboiaaHP2
set_option linter.unusedVariables false
set_option linter.unusedSimpArgs false
set_option maxRecDepth 100000
namespace Go.Proofs.Ytfacmhngbaboiaa.AI
section
variable {α : Type} {e e' x : Option (α ⊕ Unit)} {P : α → Prop}
theorem Two.right (h : Two x e' P) : Two (some (.inr ())) e' P := by
 obtain ⟨r, r', h1, h2, h3, h4⟩ := h
 exact ⟨_, r', rfl, h2, (fun y hy => by cases hy), h4⟩
end
section
variable {N : Nat} (hN : 1000000000000 < N) {b m : List Int} (hb : Bytes b) (hm : Bytes m) (hl : (b ++ m).length ≤ 2000)
include hN hb hm hl
theorem marks_L1 {kd w k a p2 o1 o2 : Int} {c cb : List TSpan} (ha : -700000 ≤ a + o1) (ha' : a + o1 ≤ 700000) (hw : 1 ≤ w) (hw2 : w ≤ 64) (hk : k ≤ 65535) : ∀ (d n : Nat) (i : Int) (s : List TMark) (p : Int), i + d = k → 0 ≤ i → d < n → -1000000 ≤ p → p ≤ 1000000 → (s.length : Int) = i → (∀ x ∈ s, 0 ≤ x.Class ∧ x.Class < w ∧ x.At.Is = true) →
  Two (Yn N kd w k b a p2 c cb o1 o2 n i s p) (Yn N kd w k (b ++ m) a p2 c cb o1 o2 n i s p) (fun r => (r.length : Int) = k ∧ ∀ x ∈ r, 0 ≤ x.Class ∧ x.Class < w ∧ x.At.Is = true) := by
 intro d
 induction d with
 | zero =>
  intro n i s p hi h0 hn g1 g2 hs hx
  obtain ⟨n, rfl⟩ : ∃ x, n = x + 1 := ⟨n - 1, by omega⟩
  rw [Yn, Yn, if_neg (by omega), if_neg (by omega)]
  exact Two.i ⟨by omega, hx⟩
 | succ d ih =>
  intro n i s p hi h0 hn g1 g2 hs hx
  obtain ⟨n, rfl⟩ : ∃ x, n = x + 1 := ⟨n - 1, by omega⟩
  rw [Yn, Yn, if_pos (by omega), if_pos (by omega), w64 (x := a + o1) (by omega) (by omega), w64 (x := w - 1) (by omega) (by omega)]
  refine Two.b (Xcu hN hb hm hl (by omega)) ?_ rfl rfl
  rintro x ⟨x1, x2, x3, x4, x5, x6⟩
  dsimp only
  rw [w64 (x := p + 2) (by omega) (by omega)]
  refine Two.b (QZ hN hb hm hl (by omega)) ?_ rfl rfl
  rintro y ⟨y1, y2, y3, y4⟩
  dsimp only
  rw [w64 (x := p + 2 + 2) (by omega) (by omega)]
  refine Two.b (Xk8 hN hb hm hl (by omega) (by omega) y1 y2) ?_ rfl rfl
  rintro ⟨t1, t2, t3⟩ _
  dsimp only
  refine Two.b (Xhp id) ?_ rfl rfl
  rintro u hu
  dsimp only
  rw [if_pos (by omega), if_pos (by omega), w64 (x := i + 1) (by omega) (by omega)]
  refine ih n (i + 1) _ _ (by omega) (by omega) (by omega) (by omega) (by omega) (by simp only [List.length_append, List.length_cons, List.length_nil]; omega) fun z hz => ?_
  rcases List.mem_append.1 hz with hz | hz
  ·
   exact hx z hz
  ·
   rw [List.mem_singleton.1 hz]; exact ⟨x1, by dsimp only; omega, hu⟩
theorem marks_L6 {kd w k j q a o2 p3 p4 x0 : Int} {c cb : List TSpan} {mk : List TMark} {s2 : List (List (List Xw))} (ha : -700000 ≤ a + o2) (ha' : a + o2 ≤ 700000) (h0x : 0 ≤ x0) (hx0 : x0 ≤ 65535) (hw : 1 ≤ w) (hw2 : w ≤ 64) (hq : q ≤ 16) : ∀ (d n : Nat) (i p : Int) (s : List (List Xw)), i + d = q → 0 ≤ i → d < n → -1000000 ≤ p → p ≤ 1000000 → (s.length : Int) = i → (∀ x ∈ s, (x.length : Int) = w) →
  Two (Ym N kd w k j q b a p3 c cb mk s2 o2 p4 x0 n i p s) (Ym N kd w k j q (b ++ m) a p3 c cb mk s2 o2 p4 x0 n i p s) (fun r => (r.length : Int) = q ∧ ∀ x ∈ r, (x.length : Int) = w) := by
 intro d
 induction d with
 | zero =>
  intro n i p s hi h0 hn g1 g2 hs hx
  obtain ⟨n, rfl⟩ : ∃ x, n = x + 1 := ⟨n - 1, by omega⟩
  rw [Ym, Ym, if_neg (by omega), if_neg (by omega)]
  exact Two.i ⟨by omega, hx⟩
 | succ d ih =>
  intro n i p s hi h0 hn g1 g2 hs hx
  obtain ⟨n, rfl⟩ : ∃ x, n = x + 1 := ⟨n - 1, by omega⟩
  rw [Ym, Ym, if_pos (by omega), if_pos (by omega), w64 (x := a + o2) (by omega) (by omega), w64 (x := a + o2 + x0) (by omega) (by omega)]
  refine Two.b (Xg8 hN hb hm hl (by omega) (by omega) (by omega) (by omega)) ?_ rfl rfl
  rintro ⟨t, z⟩ ⟨t1, t2, t3, t4⟩
  dsimp only at t1 t2 ⊢
  rw [if_pos (by omega), if_pos (by omega), w64 (x := i + 1) (by omega) (by omega)]
  refine ih n (i + 1) _ _ (by omega) (by omega) (by omega) (by omega) (by omega) (by simp only [List.length_append, List.length_cons, List.length_nil]; omega) fun z hz => ?_
  rcases List.mem_append.1 hz with hz | hz
  ·
   exact hx z hz
  ·
   rw [List.mem_singleton.1 hz]; exact t1
theorem marks_L7 {kd w k j a o2 p p3 : Int} {c cb : List TSpan} {mk : List TMark} {s2 : List (List (List Xw))} (ha : -700000 ≤ a + o2) (ha' : a + o2 ≤ 700000) (hw : 1 ≤ w) (hw2 : w ≤ 64) (g1 : -1000000 ≤ p) (g2 : p ≤ 1000000) :
  Two (Yl N kd w k j b a p3 c cb mk s2 o2 N 0 p []) (Yl N kd w k j (b ++ m) a p3 c cb mk s2 o2 N 0 p []) (fun r => -1000000 ≤ r.1 ∧ r.1 ≤ 1000000 ∧ r.2.length = 1 ∧ ∀ x ∈ r.2, (x.length : Int) = w) := by
 obtain ⟨n, rfl⟩ : ∃ x, N = x + 1 + 1 := ⟨N - 2, by omega⟩
 rw [Yl, Yl, if_pos (by omega), if_pos (by omega), w64 (x := a + o2) (by omega) (by omega)]
 refine Two.b (Xg8 hN hb hm hl (by omega) (by omega) (by omega) (by omega)) ?_ rfl rfl
 rintro ⟨t, z⟩ ⟨t1, t2, t3, t4⟩
 dsimp only at t1 t2 ⊢
 rw [if_pos (by simp), if_pos (by simp), w64 (x := 0 + 1) (by omega) (by omega), Yl, Yl, if_neg (by omega), if_neg (by omega)]
 refine Two.i ⟨by dsimp only; omega, by dsimp only; omega, rfl, fun x hx => ?_⟩
 rw [List.mem_singleton.1 hx]; exact t1
theorem marks_L8 {kd w k a o2 p3 : Int} {c cb : List TSpan} {mk : List TMark} (ha : -700000 ≤ a + o2) (ha' : a + o2 ≤ 600000) (hw : 1 ≤ w) (hw2 : w ≤ 64) (hk : k ≤ 65535) (hkd : 0 ≤ kd) (hkd2 : kd ≤ 65535) : ∀ (d n : Nat) (i : Int) (s : List (List (List Xw))) (p : Int), i + d = k → 0 ≤ i → d < n → -1000000 ≤ p → p ≤ 1000000 → (s.length : Int) = i →
  (∀ x ∈ s, (1 ≤ x.length ∧ x.length ≤ 16) ∧ (kd + 10 ≠ 15 → x.length = 1) ∧ ∀ y ∈ x, (y.length : Int) = w) →
  Two (XK N kd w k b a p3 c cb mk o2 n i s p) (XK N kd w k (b ++ m) a p3 c cb mk o2 n i s p) (fun r => (r.length : Int) = k ∧ ∀ x ∈ r, (1 ≤ x.length ∧ x.length ≤ 16) ∧ (kd + 10 ≠ 15 → x.length = 1) ∧ ∀ y ∈ x, (y.length : Int) = w) := by
 intro d
 induction d with
 | zero =>
  intro n i s p hi h0 hn g1 g2 hs hx
  obtain ⟨n, rfl⟩ : ∃ x, n = x + 1 := ⟨n - 1, by omega⟩
  rw [XK, XK, if_neg (by omega), if_neg (by omega)]
  exact Two.i ⟨by omega, hx⟩
 | succ d ih =>
  intro n i s p hi h0 hn g1 g2 hs hx
  obtain ⟨n, rfl⟩ : ∃ x, n = x + 1 := ⟨n - 1, by omega⟩
  have next : ∀ (t : List (List Xw)) (q : Int), -1000000 ≤ q → q ≤ 1000000 → ((1 ≤ t.length ∧ t.length ≤ 16) ∧ (kd + 10 ≠ 15 → t.length = 1) ∧ ∀ y ∈ t, (y.length : Int) = w) → Two (if (s.length + 1) * 24 ≤ 140737488355328 then (XK N kd w k b a p3 c cb mk o2 n (IntKind.i64.wrap (i + 1)) (s ++ [t]) q) else none)
    (if (s.length + 1) * 24 ≤ 140737488355328 then (XK N kd w k (b ++ m) a p3 c cb mk o2 n (IntKind.i64.wrap (i + 1)) (s ++ [t]) q) else none) (fun r => (r.length : Int) = k ∧ ∀ x ∈ r, (1 ≤ x.length ∧ x.length ≤ 16) ∧ (kd + 10 ≠ 15 → x.length = 1) ∧ ∀ y ∈ x, (y.length : Int) = w) := by
   intro t q q1 q2 ht
   rw [if_pos (by omega), if_pos (by omega), w64 (x := i + 1) (by omega) (by omega)]
   refine ih n (i + 1) _ _ (by omega) (by omega) (by omega) q1 q2 (by simp only [List.length_append, List.length_cons, List.length_nil]; omega) fun z hz => ?_
   rcases List.mem_append.1 hz with hz | hz
   ·
    exact hx z hz
   ·
    rw [List.mem_singleton.1 hz]; exact ht
  have hik : i < k := by omega
  rw [XK, XK]
  simp only [if_pos hik]
  rw [w64 (x := kd + 10) (by omega) (by omega), w64 (x := a + o2) (by omega) (by omega)]
  by_cases hf : kd + 10 = 15
  ·
   simp only [if_pos hf, YC, Option.bind_some]
   refine Two.b (QZ hN hb hm hl (by omega)) ?_ rfl rfl
   rintro y ⟨y1, y2, y3, y4⟩
   dsimp only
   rw [w64 (x := a + o2 + y) (by omega) (by omega)]
   refine Two.b (Xcu hN hb hm hl (by omega)) ?_ rfl rfl
   rintro q ⟨x1, x2, x3, x4, x5, x6⟩
   dsimp only
   rw [w64 (x := a + o2 + y + 2) (by omega) (by omega)]
   refine Two.b (marks_L6 hN hb hm hl (by omega) (by omega) y1 y2 hw hw2 x2 q.toNat N 0 (a + o2 + y + 2) [] (by omega) (by omega) (by omega) (by omega) (by omega) rfl (by simp)) ?_ rfl rfl
   rintro t ⟨t1, t2⟩
   dsimp only
   rw [w64 (x := p + 2) (by omega) (by omega)]
   exact next t (p + 2) (by omega) (by omega) ⟨by omega, fun h => absurd hf h, t2⟩
  ·
   simp only [if_neg hf]
   refine Two.b (marks_L7 hN hb hm hl (by omega) (by omega) hw hw2 g1 g2) ?_ rfl rfl
   rintro ⟨q, t⟩ ⟨t1, t2, t3, t4⟩
   dsimp only at t1 t2 t3 t4 ⊢
   exact next t q t1 t2 ⟨by omega, fun _ => t3, t4⟩
theorem marks_2 {a p kd : Int} (ha : -300000 ≤ a) (ha' : a ≤ 300000) (g1 : -900000 ≤ p) (g2 : p ≤ 900000) (hkd : 4 ≤ kd) (hkd2 : kd ≤ 6 ∨ 9 < kd ∧ kd ≤ 65535 ∨ 6 < kd ∧ kd ≤ 9) (hk6 : kd ≤ 6) : Two (ZB N b a p kd) (ZB N (b ++ m) a p kd) GP16 := by
 unfold ZB
 refine Two.b (Xf4 hN hb hm hl (by omega) (by omega) (by omega)) ?_ rfl rfl
 rintro c ⟨c1, c2, h1, h2⟩
 dsimp only
 rw [w64 (x := p + 2) (by omega) (by omega)]
 refine Two.b (Xf4 hN hb hm hl (by omega) (by omega) (by omega)) ?_ rfl rfl
 rintro cb ⟨b1, b2, h3, h4⟩
 dsimp only
 have cc := (JH c1 0).2.2.2
 have cc2 := (JH b1 0).2.2.2
 rw [w64 (x := p + 2 + 2) (by omega) (by omega)]
 refine Two.b (Xcu hN hb hm hl (by omega)) ?_ rfl rfl
 rintro w ⟨w1, w2, w3, w4, w5, w6⟩
 dsimp only
 rw [w64 (x := p + 2 + 2 + 2) (by omega) (by omega)]
 refine Two.b (QZ hN hb hm hl (by omega)) ?_ rfl rfl
 rintro o1 ⟨o1a, o1b, o1c, o1d⟩
 dsimp only
 simp only [YC, Option.bind_some]
 rw [w64 (x := p + 2 + 2 + 2 + 2) (by omega) (by omega)]
 refine Two.b (QZ hN hb hm hl (by omega)) ?_ rfl rfl
 rintro o2 ⟨o2a, o2b, o2c, o2d⟩
 dsimp only
 rw [Xc8 hN c1 c2, Option.bind_some, Option.bind_some, w64 (x := a + o1) (by omega) (by omega)]
 refine Two.b (Xcq hN hb hm hl (by omega)) ?_ rfl rfl
 rintro n ⟨rfl, n1, n2, h5, h6⟩
 dsimp only
 rw [w64 (x := a + o1 + 2) (by omega) (by omega)]
 refine Two.b (marks_L1 hN hb hm hl (by omega) (by omega) w1 w2 (by omega) (cnt c).toNat N 0 [] (a + o1 + 2) (by omega) (by omega) (by omega) (by omega) (by omega) rfl (by simp)) ?_ rfl rfl
 rintro mk ⟨m1, m2⟩
 dsimp only
 rw [Xc8 hN b1 b2, Option.bind_some, Option.bind_some, w64 (x := a + o2) (by omega) (by omega)]
 refine Two.b (Xcq hN hb hm hl (by omega)) ?_ rfl rfl
 rintro n ⟨rfl, n3, n4, h7, h8⟩
 dsimp only
 rw [w64 (x := a + o2 + 2) (by omega) (by omega)]
 refine Two.b (marks_L8 hN hb hm hl (by omega) (by omega) w1 w2 (by omega) (by omega) (by omega) (cnt cb).toNat N 0 [] (a + o2 + 2) (by omega) (by omega) (by omega) (by omega) (by omega) rfl (by simp)) ?_ rfl rfl
 rintro s ⟨s1, s2⟩
 dsimp only
 rw [w64 (x := kd + 10) (by omega) (by omega)]
 refine Two.i ?_
 exact ⟨rfl, rfl, rfl, rfl, c1, b1, by simp, by simp, by simp, by simp, by simp, ⟨by simp, by omega, by omega⟩, fun x hx => ⟨(s2 x hx).1.2, fun y hy => by have := (s2 x hx).2.2 y hy; omega⟩, .inr (.inr (.inr (.inr ⟨by omega, m1, s1, w, fun x hx => ⟨(s2 x hx).1.1, (s2 x hx).2.1, (s2 x hx).2.2⟩, m2⟩)))⟩
theorem table_2 {a : Int} {ch : Bool} (ha : -700000 ≤ a) (ha' : a ≤ 700000) : ∃ o o' : Option (List TCtx × Int), Xd0 N b a ch = o ∧ Xd0 N (b ++ m) a ch = o' ∧ (∀ r, o = some r → o' = some r) ∧ ∀ r, o' = some r → r.1.length ≤ 64 ∧ ∀ x ∈ r.1, CtxOk x := by
  refine ⟨_, _, rfl, rfl, fun r h => ?_, fun r h => ?_⟩
  · exact Xld hN hb hm (by omega) (by omega) (by omega) h
  · exact tableM_ok hN (hb.app hm) (by omega) (by omega) (by omega) h
theorem Xhw {a q kd : Int} (ha : -300000 ≤ a) (ha' : a ≤ 300000) (hkd : kd + 10 = 17) : Two (YU N b a q kd) (YU N (b ++ m) a q kd) GP16 := by
 unfold YU JG
 obtain ⟨o, o', e1, e2, h1, h2⟩ := table_2 hN hb hm hl (a := a) (ch := false) (by omega) (by omega)
 have hs := short hl
 rw [Xfs hN hb (by omega) (by omega) (by omega), Xfs hN (hb.app hm) (by omega) (by omega) (by omega), e1, e2, w64 (x := kd + 10) (by omega) (by omega)]
 cases o with
 | some r =>
  rw [h1 r rfl]
  simp only [Option.bind_some]
  rw [Xae]
  refine Two.i ?_
  exact ⟨rfl, rfl, rfl, rfl, trivial, trivial, h2 r (h1 r rfl), by simp, by simp, by simp, by simp, by simp, by simp, .inr (.inr (.inr (.inl ⟨.inl hkd, rfl⟩)))⟩
 | none =>
  cases o' with
  | none => exact Two.r
  | some r =>
   refine Two.half ?_
   exact ⟨rfl, rfl, rfl, rfl, trivial, trivial, h2 r rfl, by simp, by simp, by simp, by simp, by simp, by simp, .inr (.inr (.inr (.inl ⟨.inl hkd, rfl⟩)))⟩
theorem Xk5 {a q kd : Int} (ha : -300000 ≤ a) (ha' : a ≤ 300000) (hkd : kd + 10 = 18) : Two (YA N b a q kd) (YA N (b ++ m) a q kd) GP16 := by
 unfold YA Xaj
 obtain ⟨o, o', e1, e2, h1, h2⟩ := table_2 hN hb hm hl (a := a) (ch := true) (by omega) (by omega)
 have hs := short hl
 rw [Xfs hN hb (by omega) (by omega) (by omega), Xfs hN (hb.app hm) (by omega) (by omega) (by omega), e1, e2, w64 (x := kd + 10) (by omega) (by omega)]
 cases o with
 | some r =>
  rw [h1 r rfl]
  simp only [Option.bind_some]
  rw [Xae]
  refine Two.i ?_
  exact ⟨rfl, rfl, rfl, rfl, trivial, trivial, h2 r (h1 r rfl), by simp, by simp, by simp, by simp, by simp, by simp, .inr (.inr (.inr (.inl ⟨.inr hkd, rfl⟩)))⟩
 | none =>
  cases o' with
  | none => exact Two.r
  | some r =>
   refine Two.half ?_
   exact ⟨rfl, rfl, rfl, rfl, trivial, trivial, h2 r rfl, by simp, by simp, by simp, by simp, by simp, by simp, .inr (.inr (.inr (.inl ⟨.inr hkd, rfl⟩)))⟩
theorem kind_2 {a kd : Int} (ha : -300000 ≤ a) (ha' : a ≤ 300000) (hkd : 0 ≤ kd) (hkd2 : kd ≤ 65535) (h9 : kd ≠ 9) : Two (QW N b a kd) (QW N (b ++ m) a kd) GP16 := by
 unfold QW
 have t16 : ∀ {e e' : Option (T16g ⊕ Unit)}, Two e e' GP16 → Two (e.bind fun o => match o with | .inl (k, c, al, d, o, l, r, vals, pairs, first, second, grid, curs, marks, base, bases) => some (.inl (k, c, al, d, o, l, r, vals, pairs, first, second, grid, curs, marks, base, bases)) | .inr _ => some (.inr ())) (e'.bind fun o => match o with | .inl (k, c, al, d, o, l, r, vals, pairs, first, second, grid, curs, marks, base, bases) => some (.inl (k, c, al, d, o, l, r, vals, pairs, first, second, grid, curs, marks, base, bases)) | .inr _ => some (.inr ())) GP16 := by
  intro e e' h
  refine Two.b h ?_ rfl rfl
  rintro ⟨k, c, al, d, o, l, r, vals, pairs, first, second, grid, curs, marks, base, bases⟩ hh
  exact Two.i hh
 have t17 : ∀ {e e' : Option (T17g ⊕ Unit)}, Two e e' GP17 → Two (e.bind fun o => match o with | .inl (k, c, al, d, o, l, r, vals, pairs, first, second, grid, curs, marks, base, bases, _) => some (.inl (k, c, al, d, o, l, r, vals, pairs, first, second, grid, curs, marks, base, bases)) | .inr _ => some (.inr ())) (e'.bind fun o => match o with | .inl (k, c, al, d, o, l, r, vals, pairs, first, second, grid, curs, marks, base, bases, _) => some (.inl (k, c, al, d, o, l, r, vals, pairs, first, second, grid, curs, marks, base, bases)) | .inr _ => some (.inr ())) GP16 := by
  intro e e' h
  refine Two.b h ?_ rfl rfl
  rintro ⟨k, c, al, d, o, l, r, vals, pairs, first, second, grid, curs, marks, base, bases, q⟩ hh
  exact Two.i hh
 rw [w64 (x := kd + 10) (by omega) (by omega)]
 by_cases k7 : kd + 10 = 17
 ·
  simp only [if_pos k7]
  exact t16 (Xhw hN hb hm hl ha ha' k7)
 simp only [if_neg k7]
 by_cases k8 : kd + 10 = 18
 ·
  simp only [if_pos k8]
  exact t16 (Xk5 hN hb hm hl ha ha' k8)
 simp only [if_neg k8]
 by_cases k1 : 1 ≤ kd
 rotate_left
 ·
  simp only [if_neg k1]; exact Two.r
 simp only [if_pos k1]
 refine Two.b (Xhp id) ?_ rfl rfl
 rintro u hu
 dsimp only
 have hu := of_decide_eq_true hu
 refine Two.b (QZ hN hb hm hl (by omega)) ?_ rfl rfl
 rintro f ⟨f1, f2, f3, f4⟩
 dsimp only
 rw [w64 (x := a + 2) (by omega) (by omega)]
 by_cases k2 : kd ≤ 2
 ·
  simp only [if_pos k2]
  by_cases e1 : f = 1
  ·
   simp only [if_pos e1]
   by_cases e2 : kd = 1
   ·
    simp only [if_pos e2]; exact t17 (Xfv hN hb hm hl (by omega) (by omega) (by omega) (by omega))
   ·
    simp only [if_neg e2]; exact t17 (Xki hN hb hm hl (by omega) (by omega) (by omega) (by omega))
  ·
   simp only [if_neg e1]
   by_cases e3 : f = 2
   ·
    simp only [if_pos e3]
    by_cases e2 : kd = 1
    ·
     simp only [if_pos e2]; exact t17 (Xfv hN hb hm hl (by omega) (by omega) (by omega) (by omega))
    ·
     simp only [if_neg e2]; exact t17 (Xki hN hb hm hl (by omega) (by omega) (by omega) (by omega))
   ·
    simp only [if_neg e3]; exact Two.r
 ·
  simp only [if_neg k2]
  by_cases e1 : f = 1
  ·
   simp only [if_pos e1, if_neg h9]
   by_cases e2 : kd = 3
   ·
    simp only [if_pos e2]; exact t17 (Xjb hN hb hm hl (by omega) (by omega) (by omega) (by omega))
   ·
    simp only [if_neg e2]; exact t16 (marks_2 hN hb hm hl ha ha' (by omega) (by omega) (by omega) (by omega) (by omega))
  ·
   simp only [if_neg e1]; exact Two.r
end
end Go.Proofs.Ytfacmhngbaboiaa.AI
