/- The plain law of OrderSorts. -/
import Derived.Test.YtjalenbgpmdadaaOS7
set_option linter.unusedVariables false
set_option linter.unusedSimpArgs false
set_option maxRecDepth 100000
namespace Go.Proofs.Ytjalenbgpmdadaa.AI
theorem see_L2 {N : Nat} {f : Int} {b : Nat} {l : List TGlyph} (hl : l.length ≤ 1000)
  (h5 : ∀ (i j : Nat) (x y : TGlyph), l[i]? = some x → l[j]? = some y → x.Id = (b : Int) → y.Cat = 5 → y.Pos = 1 → f ≤ y.Id → ¬ i ≤ j)
  (h6 : ∀ (j : Nat) (y : TGlyph), l[j]? = some y → y.Cat = 6 → ∃ (i : Nat) (x : TGlyph), i < j ∧ l[i]? = some x ∧ x.Id = (b : Int)) :
  ∀ (d k n : Nat) (q : Bool), k + d = l.length → d < n → (q = true ↔ ∃ (i : Nat) (x : TGlyph), i < k ∧ l[i]? = some x ∧ x.Id = (b : Int)) → law26_OrderSorts_L2 N f b l n q k = some (.inl ()) := by
 intro d
 induction d with
 | zero =>
  intro k n q hk hn hq
  obtain ⟨n, rfl⟩ : ∃ x, n = x + 1 := ⟨n - 1, by omega⟩
  rw [law26_OrderSorts_L2, if_neg (by omega)]
 | succ d ih =>
  intro k n q hk hn hq
  obtain ⟨n, rfl⟩ : ∃ x, n = x + 1 := ⟨n - 1, by omega⟩
  obtain ⟨x, hx⟩ := getl (show k < l.length by omega)
  rw [law26_OrderSorts_L2, if_pos (by omega), if_pos (by omega), atI_at hx, Option.bind_some, wk (by omega)]
  have up : ∀ {q' : Bool}, (q' = true ↔ q = true ∨ x.Id = (b : Int)) → law26_OrderSorts_L2 N f b l n q' ((k + 1 : Nat) : Int) = some (.inl ()) := by
   intro q' h
   refine ih (k + 1) n q' (by omega) (by omega) (h.trans ⟨?_, ?_⟩)
   ·
    rintro (h | h)
    ·
     obtain ⟨i, y, a, b, c⟩ := hq.1 h
     exact ⟨i, y, by omega, b, c⟩
    ·
     exact ⟨k, x, by omega, hx, h⟩
   ·
    rintro ⟨i, y, a, b, c⟩
    by_cases g : i = k
    ·
     subst g; rw [hx] at b; cases b; exact .inr c
    ·
     exact .inl (hq.2 ⟨i, y, by omega, b, c⟩)
  have n5 : x.Cat = 5 → x.Pos = 1 → f ≤ x.Id → q = true ∨ x.Id = (b : Int) → False := by
   intro a1 a2 a3 h
   rcases h with h | h
   ·
    obtain ⟨i, y, c1, c2, c3⟩ := hq.1 h
    exact h5 i k y x c2 hx c3 a1 a2 a3 (by omega)
   ·
    exact h5 k k x x hx hx h a1 a2 a3 (Nat.le_refl _)
  have n6 : x.Cat = 6 → q = true := fun h => hq.2 (by
   obtain ⟨i, y, a, b, c⟩ := h6 k x hx h
   exact ⟨i, y, a, b, c⟩)
  by_cases gb : x.Id = (b : Int)
  ·
   rw [if_pos gb]
   have t := up (q' := true) ⟨fun _ => .inr gb, fun _ => rfl⟩
   by_cases g5 : x.Cat = 5
   ·
    rw [if_pos g5]
    by_cases g1 : x.Pos = 1
    ·
     rw [if_pos g1]
     by_cases gf : f ≤ x.Id
     ·
      exact (n5 g5 g1 gf (.inr gb)).elim
     ·
      rw [if_neg gf, t, ite_self]
    ·
     rw [if_neg g1, t, ite_self]
   ·
    rw [if_neg g5, t, ite_self]
  ·
   rw [if_neg gb]
   have t := up (q' := q) ⟨fun h => .inl h, fun h => h.resolve_right gb⟩
   have six : ∀ {a : Option (Unit ⊕ Unit)}, (if x.Cat = 6 then (if q = true then law26_OrderSorts_L2 N f b l n q ((k + 1 : Nat) : Int) else a) else law26_OrderSorts_L2 N f b l n q ((k + 1 : Nat) : Int)) = some (.inl ()) := by
    intro a
    by_cases g6 : x.Cat = 6
    ·
     rw [if_pos g6, if_pos (n6 g6), t]
    ·
     rw [if_neg g6, t]
   by_cases g5 : x.Cat = 5
   ·
    rw [if_pos g5]
    by_cases g1 : x.Pos = 1
    ·
     rw [if_pos g1]
     by_cases gf : f ≤ x.Id
     ·
      rw [if_pos gf, if_neg (fun h => n5 g5 g1 gf (.inl h)), if_neg (by omega), t]
     ·
      rw [if_neg gf]; exact six
    ·
     rw [if_neg g1]; exact six
   ·
    rw [if_neg g5]; exact six
theorem see_neg {N : Nat} (hN : 1000000000000 < N) {f b : Int} {l : List TGlyph} (hb : b < 0) : law26_OrderSorts_L2 N f b l N false 0 = some (.inl ()) := by
 obtain ⟨n, hn⟩ : ∃ x, N = x + 1 := ⟨N - 1, by omega⟩
 rw [show law26_OrderSorts_L2 N f b l N false 0 = law26_OrderSorts_L2 N f b l (n + 1) false 0 by rw [← hn], law26_OrderSorts_L2]
 split
 ·
  rw [if_neg (by omega)]
 ·
  rfl
theorem kk_at {l : List Int} {k : Nat} {x : Int} (h : l[k]? = some x) : kk l (k : Int) = x := by unfold kk; rw [Int.toNat_natCast, h]; rfl
theorem orderSorts_plain {N : Nat} (hN : 1000000000000 < N) (w : ByteArray) (l q : List Int) (wo : Bool) (be : List Bool) : law26_OrderSorts N w l q wo be = some true := by
 unfold law26_OrderSorts
 rw [alive26 hN, Option.bind_some, if_pos rfl]
 by_cases g1 : 60 < (l.length : Int)
 ·
  rw [if_pos g1]
 by_cases g2 : 300 < (be.length : Int)
 ·
  rw [if_neg g1, if_pos g2]
 by_cases g3 : 300 < (q.length : Int)
 ·
  rw [if_neg g1, if_neg g2, if_pos g3]
 obtain ⟨k, s, la, re, eo⟩ := of_tot hN w
 obtain ⟨f, ef, f0, f1, f2⟩ := else_eq hN (l := l) (by omega) k s la re wo
 obtain ⟨b, eb, hb⟩ := base_eq hN (l := l) (by omega) k s la re f0 f1 be
 obtain ⟨ks, ek, kl, hks⟩ := keys_eq hN (l := l) (q := q) (by omega) k s la re hb
 obtain ⟨run, er, rl, hr⟩ := run_L1 (N := N) (l := l) (q := q) (f := f) (b := b) (by omega) kl (fun i k h => ⟨(hks i k h).1, (hks i k h).2.1⟩) l.length N [] (by simp) (by omega) (fun j x h => by simp at h)
 obtain ⟨r, y, Z, es, sl, hy, hZ, hs, hz⟩ := gsort_eq hN (l := run) (ks := ks) (by omega) (by omega)
 have hbl : b < (l.length : Int) := by
  rcases hb with hb | ⟨m, c, h1, h2, h3, h4⟩
  ·
   omega
  ·
   have := (List.getElem?_eq_some_iff.1 h3).1; omega
 rw [if_neg g1, if_neg g2, if_neg g3, eo, Option.bind_some]
 simp only
 rw [ef, Option.bind_some, eb, Option.bind_some, ek, Option.bind_some, if_neg (by omega), if_neg (by omega), if_neg (by omega), if_pos (by omega)]
 rcases hb with hb | ⟨m, c, rfl, h2, h3, h4⟩
 ·
  rw [if_neg (by omega), show law26_OrderSorts_L1 N l q f b ks N 0 [] = some (.inl run) from er, Option.bind_some]
  simp only
  rw [es, Option.bind_some, see_neg hN hb]
  rfl
 ·
  have hm := (List.getElem?_eq_some_iff.1 h3).1
  obtain ⟨kb, hkb⟩ := getl (show m < ks.length by omega)
  have kb3 : kb = 3 := ((hks m kb hkb).2.2 (by omega)).1 rfl
  subst kb3
  have nat : ∀ {j : Nat} {z : Int}, Z[j]? = some z → ∃ e : Nat, z = (e : Int) ∧ e < l.length ∧ ∃ x, r[j]? = some x ∧ x.Id = (e : Int) ∧ l[e]? = some x.Cat ∧ x.Pos = (q[e]?).getD 0 := by
   intro j z hj
   obtain ⟨z0, z1⟩ := hZ.2.2.1 z (List.mem_of_getElem? hj)
   obtain ⟨e, rfl⟩ := Int.eq_ofNat_of_zero_le z0
   have hrj := hz j e hj
   rw [Int.toNat_natCast] at hrj
   obtain ⟨x, hx⟩ := getl (show e < y.length by have := hy.1; omega)
   obtain ⟨x', hx', a1, a2, a3⟩ := hy.2 e x hx
   obtain ⟨b1, b2, b3⟩ := hr e x' hx'
   exact ⟨e, rfl, by omega, x, by rw [hrj, hx], by omega, by rw [a2]; exact b2, by rw [a3]; exact b3⟩
  have look : ∀ {j : Nat} {x : TGlyph}, r[j]? = some x → ∃ e : Nat, Z[j]? = some (e : Int) ∧ e < l.length ∧ x.Id = (e : Int) ∧ l[e]? = some x.Cat ∧ x.Pos = (q[e]?).getD 0 := by
   intro j x hx
   have hj := (List.getElem?_eq_some_iff.1 hx).1
   obtain ⟨z, hzj⟩ := getl (show j < Z.length by have := hZ.1; omega)
   obtain ⟨e, rfl, h1, x', h2, h3, h4, h5⟩ := nat hzj
   rw [hx] at h2; cases h2
   exact ⟨e, hzj, h1, h3, h4, h5⟩
  have key : ∀ {e : Nat}, e < l.length → ∃ k, kk ks (e : Int) = k ∧ kok l q f (m : Int) e k := by
   intro e he
   obtain ⟨k, hk⟩ := getl (show e < ks.length by omega)
   exact ⟨k, kk_at hk, hks e k hk⟩
  have ord : ∀ {i j : Nat} {a b : Int}, i < j → Z[i]? = some a → Z[j]? = some b → kk ks a ≤ kk ks b := by
   intro i j a b hij ha hb
   obtain ⟨p1, p1'⟩ := List.getElem?_eq_some_iff.1 ha
   obtain ⟨p2, p2'⟩ := List.getElem?_eq_some_iff.1 hb
   have := List.pairwise_iff_getElem.1 hs i j p1 p2 hij
   rw [p1', p2'] at this
   rcases this with h | h <;> omega
  have km : kk ks (m : Int) = 3 := kk_at hkb
  rw [if_pos (by omega), if_neg (by omega), atI_at hkb, Option.bind_some, if_pos rfl, show law26_OrderSorts_L1 N l q f m ks N 0 [] = some (.inl run) from er, Option.bind_some]
  simp only
  have e9 : law26_OrderSorts_L2 N f m r N false 0 = some (.inl ()) := see_L2 (N := N) (f := f) (b := m) (l := r) (by omega) (by
   intro i j x z hx hz' hi c5 p1 hf hij
   obtain ⟨e, a1, a2, a3, a4, a5⟩ := look hx
   obtain ⟨e', b1, b2, b3, b4, b5⟩ := look hz'
   have : e = m := by omega
   subst this
   obtain ⟨k', c1, c2⟩ := key b2
   have k1 : k' = 1 := (c2.2.2 (by omega)).2.2 (by omega) (by rw [b4, c5]) (by omega)
   by_cases g : i = j
   ·
    subst g
    rw [a1] at b1
    have : (e : Int) = (e' : Int) := Option.some.inj b1
    have : e = e' := by omega
    subst this
    omega
   ·
    have := ord (by omega) a1 b1
    omega) (by
   intro j z hz' c6
   obtain ⟨e', b1, b2, b3, b4, b5⟩ := look hz'
   rw [c6] at b4
   have hf' : f ≤ (e' : Int) := by
    rcases Int.lt_or_le (e' : Int) f with h | h
    ·
     exact absurd b4 (f2 e' h)
    ·
     exact h
   obtain ⟨k', c1, c2⟩ := key b2
   have k9 : k' = 9 := (c2.2.2 (by omega)).2.1 hf' b4
   have hmem := hZ.2.2.2 m (by omega)
   obtain ⟨i, hi, hi'⟩ := List.getElem_of_mem hmem
   have hiz : Z[i]? = some (m : Int) := by rw [List.getElem?_eq_getElem hi, hi']
   obtain ⟨e, a0, a1, x, a2, a3, a4, a5⟩ := nat hiz
   refine ⟨i, x, ?_, a2, by omega⟩
   rcases Nat.lt_trichotomy i j with h | h | h
   ·
    exact h
   ·
    subst h
    rw [hiz] at b1
    have h := Option.some.inj b1
    rw [← h] at c1
    omega
   ·
    have := ord h b1 hiz
    omega) r.length 0 N false (by omega) (by omega) ⟨fun h => (by cases h), fun ⟨i, x, h, _⟩ => (by omega)⟩
  rw [es, Option.bind_some, e9]
  rfl
end Go.Proofs.Ytjalenbgpmdadaa.AI
