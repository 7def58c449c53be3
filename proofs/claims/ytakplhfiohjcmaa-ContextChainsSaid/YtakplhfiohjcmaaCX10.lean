/- Plain laws of layer 11: the other reader's third format, sets and rules. -/
import Derived.Test.YtakplhfiohjcmaaCX9
set_option linter.unusedVariables false
set_option linter.unusedSimpArgs false
set_option maxRecDepth 100000
namespace Go.Proofs.Ytakplhfiohjcmaa.AI
theorem cntr_u16 {b : List Int} {q lo : Int} (h : 0 ≤ lo) : cntr b q lo 16 = if u16 b q < lo then none else if 16 < u16 b q then none else some (u16 b q) := by
 unfold cntr num
 by_cases h1 : u16 b q < 0
 ·
  rw [if_pos h1, if_pos (by omega)]; rfl
 ·
  rw [if_neg h1, Option.bind_some]
  by_cases h2 : u16 b q < lo
  ·
   rw [if_pos h2, if_neg (by omega)]
  ·
   rw [if_neg h2]
   by_cases h3 : 16 < u16 b q
   ·
    rw [if_pos h3, if_neg (by omega)]
   ·
    rw [if_neg h3, if_pos (by omega)]
def Told {α : Type} (x : Option (List TCtx × Bool)) (y : Option α) (f : α → List TCtx) : Prop := ∃ l, x = some (l, y.isSome) ∧ ∀ r, y = some r → l = f r
theorem Told.no {α : Type} {l : List TCtx} {f : α → List TCtx} : Told (some (l, false)) (none : Option α) f := ⟨l, rfl, fun r h => by cases h⟩
theorem Told.yes {α : Type} {a : α} {f : α → List TCtx} : Told (some (f a, true)) (some a) f := ⟨f a, rfl, fun r h => by cases h; rfl⟩
theorem third3_pos {N : Nat} {b : List Int} (hb : Bytes b) {P base q : Int} {s1 s2 s3 : List TSet} (h : third3 N b P base = some (q, s1, s2, s3)) : 0 ≤ q ∧ q ≤ (b.length : Int) := by
 unfold third3 at h
 obtain ⟨⟨l1, q1⟩, e1, h⟩ := Option.bind_eq_some_iff.1 h
 obtain ⟨t1, e2, h⟩ := Option.bind_eq_some_iff.1 h
 obtain ⟨⟨l2, q2⟩, e3, h⟩ := Option.bind_eq_some_iff.1 h
 obtain ⟨t2, e4, h⟩ := Option.bind_eq_some_iff.1 h
 obtain ⟨⟨l3, q3⟩, e5, h⟩ := Option.bind_eq_some_iff.1 h
 obtain ⟨t3, e6, h⟩ := Option.bind_eq_some_iff.1 h
 cases h
 obtain ⟨n, c1, c2, c3, c4, c5, c6, c7, _⟩ := seqM_some hb e5 (by omega) (by omega)
 exact ⟨c6, c7⟩
section
variable {N : Nat} (hN : 1000000000000 < N) {b : List Int} (hb : Bytes b) (hl : b.length ≤ 1000000)
include hN hb hl
theorem rThird_eq {p : Int} {ch : Bool} (h0 : -10000 ≤ p) (h1 : p ≤ 10000) (hl2 : b.length ≤ 10000) : Told (ref11_Third N b p ch) (coveredM N b (p + 2) p ch) (fun r => r.1) := by
 unfold ref11_Third
 cases ch with
 | true =>
  obtain ⟨M, hM⟩ : ∃ M, N = M + 4 := ⟨N - 4, by omega⟩
  have e := third_L1 hN hb hl (P := p + 2) (base := p) (M := M) (by omega) (by omega) (by omega) (by omega)
  rw [← hM] at e
  rw [if_pos rfl, w64 (x := p + 2) (by omega) (by omega), e, Option.bind_some]
  have hc : coveredM N b (p + 2) p true = (third3 N b (p + 2) p).bind fun r => (cntr b r.1 0 16).bind fun n4 => (acts b (r.2.2.1.length : Int) n4.toNat (r.1 + 2)).bind fun a => some ([⟨r.2.1, r.2.2.1, r.2.2.2, a.1⟩], a.2) := by
   rw [cov_chain hb]
   unfold third3
   simp only [Option.bind_assoc, Option.bind_some]
  rw [hc]
  cases e3 : third3 N b (p + 2) p with
  | none => exact Told.no
  | some r =>
   obtain ⟨q, s1, s2, s3⟩ := r
   have hq := third3_pos hb e3
   simp only [Option.bind_some]
   rw [rU16_eq hN hb (by omega) q (by omega), Option.bind_some, cntr_u16 (by omega)]
   by_cases g1 : u16 b q < 0
   ·
    rw [if_pos g1, if_pos g1]; exact Told.no
   ·
    rw [if_neg g1, if_neg g1]
    by_cases g2 : 16 < u16 b q
    ·
     rw [if_pos g2, if_pos g2]; exact Told.no
    ·
     rw [if_neg g2, if_neg g2, w64 (x := q + 2) (by omega) (by omega), rActs_eq hN hb hl (by omega) (by omega) (by omega) (by omega), Option.bind_some, Option.bind_some]
     cases acts b (s2.length : Int) (u16 b q).toNat (q + 2) with
     | none => exact Told.no
     | some a => exact Told.yes (a := ([⟨s1, s2, s3, a.1⟩], a.2)) (f := fun r => r.1)
 | false =>
  rw [if_neg (by decide), w64 (x := p + 2) (by omega) (by omega), w64 (x := p + 4) (by omega) (by omega), rU16_eq hN hb (by omega) _ (by omega), Option.bind_some, rU16_eq hN hb (by omega) _ (by omega), Option.bind_some]
  unfold coveredM
  rw [if_neg (show ¬ (false = true) by decide), cntr_u16 (by omega), cntr_u16 (by omega), show p + 2 + 2 = p + 4 by omega]
  by_cases g1 : u16 b (p + 2) < 1
  ·
   rw [if_pos g1, if_pos g1]; exact Told.no
  rw [if_neg g1, if_neg g1]
  by_cases g2 : 16 < u16 b (p + 2)
  ·
   rw [if_pos g2, if_pos g2]; exact Told.no
  rw [if_neg g2, if_neg g2, Option.bind_some]
  by_cases g3 : u16 b (p + 4) < 0
  ·
   rw [if_pos g3, if_pos g3]; exact Told.no
  rw [if_neg g3, if_neg g3]
  by_cases g4 : 16 < u16 b (p + 4)
  ·
   rw [if_pos g4, if_pos g4]; exact Told.no
  have hin := (not_congr (u16_neg hb (i := p + 4))).1 (by omega)
  rw [if_neg g4, if_neg g4, Option.bind_some, w64 (x := p + 6) (by omega) (by omega), rRow_eq hN hb hl (by omega) (by omega) (by omega), Option.bind_some, rowR_row hb (by omega) (by omega) (by omega), show p + 4 + 2 = p + 6 by omega]
  cases e1 : row b (p + 6) (u16 b (p + 2)) with
  | none => exact Told.no
  | some l =>
   have hr := row_some hb e1
   simp only [if_true, Option.bind_some]
   rw [rCovers_eq hN hb hl (by omega) (by omega) hr.2.2.2.2.2 (by omega), Option.bind_some, w64 (x := 2 * u16 b (p + 2)) (by omega) (by omega), w64 (x := p + 6 + 2 * u16 b (p + 2)) (by omega) (by omega), rActs_eq hN hb hl (by omega) (by omega) (by omega) (by omega), show p + 6 + u16 b (p + 2) * 2 = p + 6 + 2 * u16 b (p + 2) by omega]
   cases covs N b p l with
   | none => 
    simp only [Option.bind_some, Option.bind_none]
    exact Told.no
   | some s2 =>
    simp only [Option.bind_some]
    cases acts b (u16 b (p + 2)) (u16 b (p + 4)).toNat (p + 6 + 2 * u16 b (p + 2)) with
    | none => exact Told.no
    | some a => exact Told.yes (a := ([⟨[], s2, [], a.1⟩], a.2)) (f := fun r => r.1)
end
theorem rWith_L2 {N : Nat} {c : List TClass} {a : Int} {i : Nat} {x : TClass} (hi : c[i]? = some x) (hx : x.To ≤ 65535) : ∀ (d n : Nat) (k : Int) (t : List Bool), (x.To - k + 1).toNat = d → d < n → 0 ≤ k → t.length = 65536 →
  ∃ t', ref11_With_L2 N c a (i : Int) n k t = some t' ∧ t'.length = 65536 ∧ ∀ g, 0 ≤ g → (bb t' g = true ↔ bb t g = true ∨ ((a = 0 ∨ x.Class = a) ∧ k ≤ g ∧ g ≤ x.To)) := by
 intro d
 induction d with
 | zero =>
  intro n k t hk hn h0 ht
  obtain ⟨n, rfl⟩ : ∃ x, n = x + 1 := ⟨n - 1, by omega⟩
  rw [ref11_With_L2, atI_at hi, Option.bind_some, if_neg (by omega)]
  refine ⟨t, rfl, ht, fun g hg => ?_⟩
  constructor
  ·
   exact .inl
  ·
   rintro (h | ⟨_, h1, h2⟩)
   ·
    exact h
   ·
    omega
 | succ d ih =>
  intro n k t hk hn h0 ht
  obtain ⟨n, rfl⟩ : ∃ x, n = x + 1 := ⟨n - 1, by omega⟩
  rw [ref11_With_L2, atI_at hi, Option.bind_some, if_pos (by omega), bb_at (by omega) (by omega), Option.bind_some, w64 (x := k + 1) (by omega) (by omega)]
  have step : (a = 0 ∨ x.Class = a) → ∃ t', ref11_With_L2 N c a (i : Int) n (k + 1) (List.set t k.toNat true) = some t' ∧ t'.length = 65536 ∧ ∀ g, 0 ≤ g → (bb t' g = true ↔ bb t g = true ∨ ((a = 0 ∨ x.Class = a) ∧ k ≤ g ∧ g ≤ x.To)) := fun hc => by
   obtain ⟨t', e, hl, hg⟩ := ih n (k + 1) (List.set t k.toNat true) (by omega) (by omega) (by omega) (by simp [ht])
   refine ⟨t', e, hl, fun g h => ?_⟩
   rw [hg g h, bb_set (by omega) (by omega) h]
   by_cases hk2 : g = k
   ·
    rw [if_pos hk2]
    constructor
    ·
     exact fun _ => .inr ⟨hc, by omega, by omega⟩
    ·
     exact fun _ => .inl rfl
   ·
    rw [if_neg hk2]
    constructor
    ·
     rintro (h | ⟨h1, h2, h3⟩)
     ·
      exact .inl h
     ·
      exact .inr ⟨h1, by omega, h3⟩
    ·
     rintro (h | ⟨h1, h2, h3⟩)
     ·
      exact .inl h
     ·
      exact .inr ⟨h1, by omega, h3⟩
  by_cases h1 : a = 0
  ·
   rw [if_pos h1]; exact step (.inl h1)
  ·
   rw [if_neg h1]
   by_cases h2 : x.Class = a
   ·
    rw [if_pos h2]; exact step (.inr h2)
   ·
    rw [if_neg h2]
    refine ⟨t, rfl, ht, fun g hg => ?_⟩
    constructor
    ·
     exact .inl
    ·
     rintro (h | ⟨h3 | h3, _⟩)
     ·
      exact h
     ·
      exact (h1 h3).elim
     ·
      exact (h2 h3).elim
theorem rWith_L3 {N : Nat} (hN : 1000000000000 < N) {c : List TClass} {a : Int} (hc : CB c) : ∀ (d k n : Nat) (t : List Bool), k + d = c.length → d < n → t.length = 65536 →
  ∃ t', ref11_With_L3 N c a n k t = some t' ∧ t'.length = 65536 ∧ ∀ g, 0 ≤ g → (bb t' g = true ↔ bb t g = true ∨ ∃ x ∈ c.drop k, (a = 0 ∨ x.Class = a) ∧ x.From ≤ g ∧ g ≤ x.To) := by
 intro d
 induction d with
 | zero =>
  intro k n t hk hn ht
  obtain ⟨n, rfl⟩ : ∃ x, n = x + 1 := ⟨n - 1, by omega⟩
  rw [ref11_With_L3, if_neg (by omega), List.drop_eq_nil_of_le (by omega)]
  exact ⟨t, rfl, ht, fun g hg => by simp⟩
 | succ d ih =>
  intro k n t hk hn ht
  obtain ⟨n, rfl⟩ : ∃ x, n = x + 1 := ⟨n - 1, by omega⟩
  have hkl : k < c.length := by omega
  have hx := CL.low hc.1 c[k] (List.getElem_mem hkl)
  have hcl := hc.2
  obtain ⟨t1, e1, l1, g1⟩ := rWith_L2 (N := N) (a := a) (List.getElem?_eq_getElem hkl) hx.2.2.1 _ N c[k].From t rfl (by omega) (by omega) ht
  rw [ref11_With_L3, if_pos (by omega), atI_at (List.getElem?_eq_getElem hkl), Option.bind_some, e1, Option.bind_some, w64 (x := (k : Int) + 1) (by omega) (by omega), show (k : Int) + 1 = ((k + 1 : Nat) : Int) by omega, List.drop_eq_getElem_cons hkl]
  obtain ⟨t2, e2, l2, g2⟩ := ih (k + 1) n t1 (by omega) (by omega) l1
  refine ⟨t2, e2, l2, fun g hg => ?_⟩
  rw [g2 g hg, g1 g hg]
  simp only [List.mem_cons]
  constructor
  ·
   rintro ((h | h) | ⟨y, hy, h⟩)
   ·
    exact .inl h
   ·
    exact .inr ⟨c[k], .inl rfl, h⟩
   ·
    exact .inr ⟨y, .inr hy, h⟩
  ·
   rintro (h | ⟨y, rfl | hy, h⟩)
   ·
    exact .inl (.inl h)
   ·
    exact .inl (.inr h)
   ·
    exact .inr ⟨y, hy, h⟩
theorem inn_neg {l : List TSpan} (h : RL 0 l) {g : Int} (hg : g < 0) : ¬ inn l g := fun hh => by
 have := inn_low h hh
 omega
theorem rWith_eq {N : Nat} (hN : 1000000000000 < N) {c : List TClass} (hc : CB c) (a : Int) : ref11_With N c a = some (wth a c [], decide (a = 0)) := by
 unfold ref11_With
 have hcl := hc.2
 obtain ⟨t, e, l, g⟩ := rWith_L3 hN (a := a) hc c.length 0 N (List.replicate 65536 false) (by omega) (by omega) (by rw [List.length_replicate])
 rw [show ref11_With_L3 N c a N 0 (List.replicate 65536 false) = _ from e, Option.bind_some]
 obtain ⟨m, e2, r2, g2⟩ := Spans_eq hN (t := t) (by omega)
 rw [e2, Option.bind_some]
 obtain ⟨r3, g3, _⟩ := wth_spec (k := a) (m := c) (lo := 0) (o := []) hc.1 (Int.le_refl _) trivial (by simp)
 have : m = wth a c [] := RL.uniq r2 r3 fun x => by
  by_cases hx : 0 ≤ x
  ·
   rw [g2 x hx, g x hx, g3 x, List.drop_zero, bb_rep]
   simp [inn]
  ·
   exact ⟨fun h => (inn_neg r2 (by omega) h).elim, fun h => (inn_neg r3 (by omega) h).elim⟩
 rw [this]
def stM (f : Int) (c : List TClass) (l : List Int) : List TSet := if f = 1 then l.map glyphT else l.map (setC c)
theorem stM_len (f : Int) (c : List TClass) (l : List Int) : (stM f c l).length = l.length := by unfold stM; split <;> simp
theorem rSets_L1 {N : Nat} (hN : 1000000000000 < N) {f : Int} {l : List Int} {c : List TClass} (hc : CB c) (hl : l.length ≤ 1000000) : ∀ (d k n : Nat) (s : List TSet), k + d = l.length → d < n → s.length ≤ k → ref11_Sets_L1 N l f c n k s = some (s ++ stM f c (l.drop k)) := by
 intro d
 induction d with
 | zero =>
  intro k n s hk hn hs
  obtain ⟨n, rfl⟩ : ∃ x, n = x + 1 := ⟨n - 1, by omega⟩
  rw [ref11_Sets_L1, if_neg (by omega), List.drop_eq_nil_of_le (by omega)]
  unfold stM
  split <;> simp
 | succ d ih =>
  intro k n s hk hn hs
  obtain ⟨n, rfl⟩ : ∃ x, n = x + 1 := ⟨n - 1, by omega⟩
  have hkl : k < l.length := by omega
  have e : stM f c (l.drop k) = (if f = 1 then glyphT l[k] else setC c l[k]) :: stM f c (l.drop (k + 1)) := by
   rw [List.drop_eq_getElem_cons hkl]
   unfold stM
   by_cases h : f = 1
   ·
    rw [if_pos h, if_pos h, if_pos h]; rfl
   ·
    rw [if_neg h, if_neg h, if_neg h]; rfl
  rw [ref11_Sets_L1, if_pos (by omega), atI_at (List.getElem?_eq_getElem hkl), Option.bind_some, Option.bind_some, rWith_eq hN hc, Option.bind_some, w64 (x := (k : Int) + 1) (by omega) (by omega), show (k : Int) + 1 = ((k + 1 : Nat) : Int) by omega, e]
  by_cases h : f = 1
  ·
   rw [if_pos h, if_pos h, if_pos (by omega), ih (k + 1) n _ (by omega) (by omega) (by simp; omega), List.append_assoc]
   rfl
  ·
   rw [if_neg h, if_neg h]
   simp only
   rw [if_pos (by omega), ih (k + 1) n _ (by omega) (by omega) (by simp; omega), List.append_assoc]
   rfl
theorem rSets_eq {N : Nat} (hN : 1000000000000 < N) {f : Int} {l : List Int} {c : List TClass} (hc : CB c) (hl : l.length ≤ 1000000) : ref11_Sets N l f c = some (stM f c l) := by
 unfold ref11_Sets
 have h := rSets_L1 hN (f := f) hc hl l.length 0 N [] (by omega) (by omega) (by simp)
 rw [List.drop_zero, List.nil_append] at h
 rw [show ref11_Sets_L1 N l f c N 0 [] = _ from h, Option.bind_some]
abbrev TRB := List TSet × List TSet × List TSet × List TAct × Bool
def ToldR (x : Option TRB) (y : Option TR) : Prop := ∃ r, x = some r ∧ r.2.2.2.2 = y.isSome ∧ ∀ q, y = some q → r.1 = q.1 ∧ r.2.1 = q.2.1 ∧ r.2.2.1 = q.2.2.1 ∧ r.2.2.2.1 = q.2.2.2.1
theorem ToldR.no {a b c : List TSet} {d : List TAct} : ToldR (some (a, b, c, d, false)) none := ⟨_, rfl, rfl, fun q h => by cases h⟩
theorem ToldR.yes {a b c : List TSet} {d : List TAct} {p : Int} : ToldR (some (a, b, c, d, true)) (some (a, b, c, d, p)) := ⟨_, rfl, rfl, fun q h => by cases h; exact ⟨rfl, rfl, rfl, rfl⟩⟩
section
variable {N : Nat} (hN : 1000000000000 < N) {b : List Int} (hb : Bytes b) (hl : b.length ≤ 1000000)
include hN hb hl
theorem rTail_eq {q : Int} (h0 : -100000 ≤ q) (h1 : q ≤ 100000) (sA sB : List TSet) (l3 : List Int) (f : Int) {c3 : List TClass} (g3 : CB c3) (hl3 : l3.length ≤ 16) {long : Int} {sB' : List TSet} (hB : sB' = sB) :
  ToldR ((ref10_U16 N b q).bind fun y_30 => if y_30 < 0 then some (sA, sB, stM f c3 l3, [], false) else if 16 < y_30 then some (sA, sB, stM f c3 l3, [], false) else (ref11_Acts N b (IntKind.i64.wrap (q + 2)) y_30 long).bind fun (y_36, y_37) => some (sA, sB, stM f c3 l3, y_36, y_37))
   ((cntr b q 0 16).bind fun n4 => (acts b long n4.toNat (q + 2)).bind fun a => some (sA, sB', stM f c3 l3, a.1, a.2)) := by
 subst hB
 rw [rU16_eq hN hb (by omega) q (by omega), Option.bind_some, cntr_u16 (by omega)]
 by_cases g1 : u16 b q < 0
 ·
  rw [if_pos g1, if_pos g1]; exact ToldR.no
 rw [if_neg g1, if_neg g1]
 by_cases g2 : 16 < u16 b q
 ·
  rw [if_pos g2, if_pos g2]; exact ToldR.no
 rw [if_neg g2, if_neg g2, w64 (x := q + 2) (by omega) (by omega), rActs_eq hN hb hl (by omega) (by omega) (by omega) (by omega), Option.bind_some, Option.bind_some]
 cases acts b long (u16 b q).toNat (q + 2) with
 | none => exact ToldR.no
 | some a => exact ToldR.yes
theorem rRule_eq {p f : Int} {ch : Bool} {sp : List TSpan} {nt : Bool} {c1 c2 c3 : List TClass} (h0 : -1000000 ≤ p) (h1 : p ≤ 1000000) (hl2 : b.length ≤ 10000) (g1 : CB c1) (g2 : CB c2) (g3 : CB c3) :
  ToldR (ref11_Rule N b p f ch sp nt c1 c2 c3) (ruleM b (stM f c1) (stM f c2) (stM f c3) ⟨sp, nt⟩ ch p) := by
 unfold ref11_Rule
 cases ch with
 | true =>
  rw [if_pos rfl, rule_chain hb]
  obtain ⟨l, q, ok, e, hs⟩ := rSeq_eq hN hb hl (p := p) (lo := 0) (cut := 0) (by omega) (by omega) (by omega) (by omega) (by omega)
  rw [e, Option.bind_some]
  cases s1 : seqM b p 0 0 with
  | none =>
   rw [s1] at hs
   obtain ⟨rfl, rfl⟩ := hs
   exact ToldR.no
  | some r1 =>
   rw [s1] at hs
   obtain ⟨l1, q1⟩ := r1
   obtain ⟨rfl, rfl, rfl⟩ := hs
   obtain ⟨n1, k1, k2, k3, k4, k5, k6, k7, k8, k9, k10⟩ := seqM_some hb s1 (by omega) (by omega)
   simp only [Option.bind_some, if_true]
   rw [rSets_eq hN g1 (by omega), Option.bind_some]
   obtain ⟨la, qa, ok, e, hs⟩ := rSeq_eq hN hb hl (p := q) (lo := 1) (cut := 1) (by omega) (by omega) (by omega) (by omega) (by omega)
   rw [e, Option.bind_some]
   cases s2 : seqM b q 1 1 with
   | none =>
    rw [s2] at hs
    obtain ⟨rfl, rfl⟩ := hs
    exact ToldR.no
   | some r1 =>
    rw [s2] at hs
    obtain ⟨l1, q1⟩ := r1
    obtain ⟨rfl, rfl, rfl⟩ := hs
    obtain ⟨n2, d1, d2, d3, d4, d5, d6, d7, d8, d9, d10⟩ := seqM_some hb s2 (by omega) (by omega)
    simp only [Option.bind_some, if_true]
    rw [rSets_eq hN g2 (by omega), Option.bind_some]
    obtain ⟨lc, qc, ok, e, hs⟩ := rSeq_eq hN hb hl (p := qa) (lo := 0) (cut := 0) (by omega) (by omega) (by omega) (by omega) (by omega)
    rw [e]
    have hlen := stM_len f c2 la
    by_cases hn : stM f c2 la = []
    ·
     rw [if_pos hn, Option.bind_some]
     have z : la.length = 0 := by rw [← hlen, hn]; rfl
     cases s3 : seqM b qa 0 0 with
     | none =>
      rw [s3] at hs
      obtain ⟨rfl, rfl⟩ := hs
      exact ToldR.no
     | some r1 =>
      rw [s3] at hs
      obtain ⟨l1, q1⟩ := r1
      obtain ⟨rfl, rfl, rfl⟩ := hs
      obtain ⟨n3, f1, f2, f3, f4, f5, f6, f7, f8, f9, f10⟩ := seqM_some hb s3 (by omega) (by omega)
      simp only [Option.bind_some, if_true]
      rw [rSets_eq hN g3 (by omega), Option.bind_some, z]
      exact rTail_eq hN hb hl (by omega) (by omega) _ _ _ _ g3 (by omega) (by rw [hn])
    ·
     rw [if_neg hn, if_pos (by omega), Option.bind_some]
     cases s3 : seqM b qa 0 0 with
     | none =>
      rw [s3] at hs
      obtain ⟨rfl, rfl⟩ := hs
      exact ToldR.no
     | some r1 =>
      rw [s3] at hs
      obtain ⟨l1, q1⟩ := r1
      obtain ⟨rfl, rfl, rfl⟩ := hs
      obtain ⟨n3, f1, f2, f3, f4, f5, f6, f7, f8, f9, f10⟩ := seqM_some hb s3 (by omega) (by omega)
      simp only [Option.bind_some, if_true]
      rw [rSets_eq hN g3 (by omega), Option.bind_some, show ((1 + (stM f c2 la).length : Nat) : Int) = 1 + (la.length : Int) by omega]
      exact rTail_eq hN hb hl (by omega) (by omega) _ _ _ _ g3 (by omega) rfl
 | false =>
  rw [if_neg (by decide), w64 (x := p + 2) (by omega) (by omega), w64 (x := p + 4) (by omega) (by omega), rU16_eq hN hb (by omega) _ (by omega), Option.bind_some, rU16_eq hN hb (by omega) _ (by omega), Option.bind_some]
  unfold ruleM
  rw [if_neg (show ¬ (false = true) by decide), cntr_u16 (by omega), cntr_u16 (by omega), show p + 2 + 2 = p + 4 by omega]
  by_cases v1 : u16 b p < 1
  ·
   rw [if_pos v1, if_pos v1]; exact ToldR.no
  rw [if_neg v1, if_neg v1]
  by_cases v2 : 16 < u16 b p
  ·
   rw [if_pos v2, if_pos v2]; exact ToldR.no
  rw [if_neg v2, if_neg v2, Option.bind_some]
  by_cases v3 : u16 b (p + 2) < 0
  ·
   rw [if_pos v3, if_pos v3]; exact ToldR.no
  rw [if_neg v3, if_neg v3]
  by_cases v4 : 16 < u16 b (p + 2)
  ·
   rw [if_pos v4, if_pos v4]; exact ToldR.no
  have hin := (not_congr (u16_neg hb (i := p + 2))).1 (by omega)
  rw [if_neg v4, if_neg v4, Option.bind_some, w64 (x := u16 b p - 1) (by omega) (by omega), w64 (x := 2 * (u16 b p - 1)) (by omega) (by omega), w64 (x := p + 4 + 2 * (u16 b p - 1)) (by omega) (by omega), rRow_eq hN hb hl (by omega) (by omega) (by omega), Option.bind_some, rowR_row hb (by omega) (by omega) (by omega),
   rActs_eq hN hb hl (by omega) (by omega) (by omega) (by omega), show p + 4 + (u16 b p - 1) * 2 = p + 4 + 2 * (u16 b p - 1) by omega]
  cases e1 : row b (p + 4) (u16 b p - 1) with
  | none =>
   simp only [Option.bind_some, Bool.false_eq_true, if_false]
   rw [rSets_eq hN g2 (by simp), Option.bind_some]
   have z : stM f c2 [] = [] := by unfold stM; split <;> rfl
   rw [if_pos z]
   exact ToldR.no
  | some l =>
   have hr := row_some hb e1
   simp only [Option.bind_some, if_true]
   rw [rSets_eq hN g2 (by omega), Option.bind_some]
   have hlen := stM_len f c2 l
   by_cases hn : stM f c2 l = []
   ·
    rw [if_pos hn]
    cases acts b (u16 b p) (u16 b (p + 2)).toNat (p + 4 + 2 * (u16 b p - 1)) with
    | none => exact ToldR.no
    | some a => simp only [Option.bind_some]; rw [hn]; exact ToldR.yes
   ·
    rw [if_neg hn, if_pos (by omega)]
    cases acts b (u16 b p) (u16 b (p + 2)).toNat (p + 4 + 2 * (u16 b p - 1)) with
    | none => exact ToldR.no
    | some a => exact ToldR.yes
end
end Go.Proofs.Ytakplhfiohjcmaa.AI
