/- Part of a proof. -/
import Derived.Test.YtakplhfiohjcmaaCX0
set_option linter.unusedVariables false
set_option linter.unusedSimpArgs false
set_option maxRecDepth 100000
namespace Go.Proofs.Ytakplhfiohjcmaa.AI
def S {α : Type} : Option α → α ⊕ Unit
 | some x => .inl x
 | none => .inr ()
def num (b : List Int) (p : Int) : Option Int := if u16 b p < 0 then none else some (u16 b p)
theorem num_some {b : List Int} (hb : Bytes b) {p x : Int} (h : num b p = some x) : x = u16 b p ∧ 0 ≤ x ∧ x ≤ 65535 ∧ 0 ≤ p ∧ p + 2 ≤ (b.length : Int) := by
 unfold num at h
 split at h
 ·
  cases h
 ·
  rename_i h0
  have e := Option.some.inj h
  have r := u16_range hb p
  have n := not_congr (u16_neg hb (i := p))
  have := n.1 h0
  refine ⟨e.symm, by omega, by omega, by omega, by omega⟩
def row (b : List Int) (p n : Int) : Option (List Int) := if 0 ≤ n ∧ 0 ≤ p ∧ p + 2 * n ≤ (b.length : Int) then some (row16 b p n.toNat) else none
theorem row_some {b : List Int} (hb : Bytes b) {p n : Int} {l : List Int} (h : row b p n = some l) : l = row16 b p n.toNat ∧ (l.length : Int) = n ∧ 0 ≤ n ∧ 0 ≤ p ∧ p + 2 * n ≤ (b.length : Int) ∧ ∀ x ∈ l, 0 ≤ x ∧ x ≤ 65535 := by
 unfold row at h
 split at h
 ·
  rename_i h0
  have e := Option.some.inj h
  subst e
  refine ⟨rfl, by rw [row16_len]; omega, h0.1, h0.2.1, h0.2.2, fun x hx => ?_⟩
  obtain ⟨k, hk, rfl⟩ := row16_mem hx
  have r := u16_range hb (p + 2 * (k : Int))
  have n1 := not_congr (u16_neg hb (i := p + 2 * (k : Int)))
  have : ¬ u16 b (p + 2 * (k : Int)) < 0 := by rw [n1]; omega
  omega
 ·
  cases h
theorem must_eq {N : Nat} (x : Bool) : context_must N x = some (if x = true then .inl () else .inr ()) := by
 unfold context_must
 cases x <;> rfl
section
variable {N : Nat} (hN : 1000000000000 < N) {b : List Int} (hb : Bytes b) (hl : b.length ≤ 1000000)
include hN hb hl
theorem number_eq {p : Int} (hp : p ≤ 1000000000000) : context_reader_number N b p = some (S (num b p)) := by
 unfold context_reader_number num
 rw [U16_eq hN hb (by omega) p hp, Option.bind_some]
 by_cases h : u16 b p < 0
 ·
  rw [if_pos h, if_pos h]; rfl
 ·
  rw [if_neg h, if_neg h]; rfl
theorem rowr_eq {p n : Int} (hp : p ≤ 1000000000000) (hn : n ≤ 1000000000000) : context_reader_row N b p n = some (S (row b p n)) := by
 unfold context_reader_row row
 rw [Row_eq hN hb (by omega) p n hp hn, Option.bind_some]
 by_cases h : 0 ≤ n ∧ 0 ≤ p ∧ p + 2 * n ≤ (b.length : Int)
 ·
  rw [if_pos h, if_pos h]; rfl
 ·
  rw [if_neg h, if_neg h]; rfl
end
def cntr (b : List Int) (p lo hi : Int) : Option Int := (num b p).bind fun n => if lo ≤ n ∧ n ≤ hi then some n else none
theorem cntr_some {b : List Int} (hb : Bytes b) {p lo hi x : Int} (h : cntr b p lo hi = some x) : lo ≤ x ∧ x ≤ hi ∧ num b p = some x ∧ 0 ≤ x ∧ x ≤ 65535 ∧ 0 ≤ p ∧ p + 2 ≤ (b.length : Int) := by
 unfold cntr at h
 obtain ⟨n, h1, h2⟩ := Option.bind_eq_some_iff.1 h
 split at h2
 ·
  rename_i h3
  cases h2
  obtain ⟨_, h4⟩ := num_some hb h1
  exact ⟨h3.1, h3.2, h1, h4⟩
 ·
  cases h2
section
variable {N : Nat} (hN : 1000000000000 < N) {b : List Int} (hb : Bytes b) (hl : b.length ≤ 1000000)
include hN hb hl
theorem count_eq {p lo hi : Int} (hp : p ≤ 1000000000000) : context_reader_count N b p lo hi = some (S (cntr b p lo hi)) := by
 unfold context_reader_count cntr
 rw [number_eq hN hb hl hp, Option.bind_some]
 cases num b p with
 | none => rfl
 | some x =>
  simp only [S, Option.bind_some]
  by_cases h1 : lo ≤ x
  ·
   rw [if_pos h1, must_eq, Option.bind_some]
   by_cases h2 : x ≤ hi
   ·
    simp [h1, h2]
   ·
    simp [h1, h2]
  ·
   rw [if_neg h1, must_eq, Option.bind_some]; simp [h1]
end
def cov (N : Nat) (b : List Int) (p : Int) : Option (List TSpan) := if covOk b p = true then some (covL N b p) else none
def covs (N : Nat) (b : List Int) (base : Int) : List Int → Option (List TSet)
 | [] => some []
 | o :: l => (cov N b (base + o)).bind fun s => (covs N b base l).bind fun r => some (⟨s, false⟩ :: r)
theorem covs_len {N : Nat} {b : List Int} {base : Int} : ∀ {l : List Int} {r : List TSet}, covs N b base l = some r → r.length = l.length
 | [], r, h => by cases h; rfl
 | o :: l, r, h => by
  simp only [covs] at h
  obtain ⟨s, h1, h2⟩ := Option.bind_eq_some_iff.1 h
  obtain ⟨q, h3, h4⟩ := Option.bind_eq_some_iff.1 h2
  cases h4
  simp [covs_len h3]
section
variable {N : Nat} (hN : 1000000000000 < N) {b : List Int} (hb : Bytes b) (hl : b.length ≤ 1000000)
include hN hb hl
theorem covers_L1 {p base : Int} (h0 : -1000000000 ≤ base) (h1 : base ≤ 1000000000) {l : List Int} (hx : ∀ x ∈ l, 0 ≤ x ∧ x ≤ 65535) (hll : l.length ≤ 1000000) : ∀ (d k n : Nat) (s : List TSet), k + d = l.length → d < n → s.length ≤ k →
  context_reader_covers_L1 N base l b p n k s = some (match covs N b base (l.drop k) with | some r => .inl (s ++ r) | none => .inr ()) := by
 intro d
 induction d with
 | zero =>
  intro k n s hk hn hs
  obtain ⟨n, rfl⟩ : ∃ x, n = x + 1 := ⟨n - 1, by omega⟩
  rw [context_reader_covers_L1, if_neg (by omega), List.drop_eq_nil_of_le (by omega)]
  simp [covs]
 | succ d ih =>
  intro k n s hk hn hs
  obtain ⟨n, rfl⟩ : ∃ x, n = x + 1 := ⟨n - 1, by omega⟩
  have hkl : k < l.length := by omega
  have hat : l[k]? = some l[k] := List.getElem?_eq_getElem hkl
  have hb2 := hx l[k] (List.getElem_mem hkl)
  rw [context_reader_covers_L1, if_pos (by omega), atI_at hat, Option.bind_some, w64 (x := base + l[k]) (by omega) (by omega), (covL_eq hN hb (by omega) (base + l[k]) (by omega) (by omega)).1, Option.bind_some]
  simp only
  rw [must_eq, Option.bind_some, List.drop_eq_getElem_cons hkl]
  simp only [covs, cov]
  cases hc : covOk b (base + l[k]) with
  | false => rfl
  | true =>
   simp only [if_true, Option.bind_some]
   rw [if_pos (by omega), w64 (x := (k : Int) + 1) (by omega) (by omega), show (k : Int) + 1 = ((k + 1 : Nat) : Int) by omega, ih (k + 1) n _ (by omega) (by omega) (by simp; omega)]
   cases covs N b base (l.drop (k + 1)) with
   | none => rfl
   | some r => simp
theorem covers_eq {p base : Int} (h0 : -1000000000 ≤ base) (h1 : base ≤ 1000000000) {l : List Int} (hx : ∀ x ∈ l, 0 ≤ x ∧ x ≤ 65535) (hll : l.length ≤ 1000000) : context_reader_covers N b p base l = some (S (covs N b base l)) := by
 unfold context_reader_covers
 have h := covers_L1 hN hb hl (p := p) h0 h1 hx hll l.length 0 N [] (by omega) (by omega) (by simp)
 rw [List.drop_zero] at h
 rw [show context_reader_covers_L1 N base l b p N 0 [] = _ from h, Option.bind_some]
 cases covs N b base l with
 | none => rfl
 | some r => rfl
end
def acts (b : List Int) (long : Int) : Nat → Int → Option (List TAct × Int)
 | 0, p => some ([], p)
 | n + 1, p => (num b p).bind fun x => (num b (p + 2)).bind fun y => if x < long then (acts b long n (p + 4)).bind fun r => some (⟨x, y⟩ :: r.1, r.2) else none
theorem acts_some {b : List Int} (hb : Bytes b) {long : Int} : ∀ {n : Nat} {p q : Int} {l : List TAct}, acts b long n p = some (l, q) → l.length = n ∧ q = p + 4 * (n : Int) ∧ (∀ x ∈ l, 0 ≤ x.At ∧ x.At < long) ∧ (n = 0 ∨ (0 ≤ p ∧ q ≤ (b.length : Int)))
 | 0, p, q, l, h => by cases h; simp
 | n + 1, p, q, l, h => by
  simp only [acts] at h
  obtain ⟨x, h1, h2⟩ := Option.bind_eq_some_iff.1 h
  obtain ⟨y, h3, h4⟩ := Option.bind_eq_some_iff.1 h2
  split at h4
  ·
   rename_i hlt
   obtain ⟨⟨r, q'⟩, h5, h6⟩ := Option.bind_eq_some_iff.1 h4
   cases h6
   obtain ⟨g1, g2, g3, g4⟩ := acts_some hb h5
   obtain ⟨_, n1, n2, n3, n4⟩ := num_some hb h1
   obtain ⟨_, m1, m2, m3, m4⟩ := num_some hb h3
   refine ⟨by simp [g1], by simp only [g2]; omega, ?_, .inr ⟨n3, ?_⟩⟩
   ·
    intro z hz
    rcases List.mem_cons.1 hz with rfl | hz
    ·
     exact ⟨n1, hlt⟩
    ·
     exact g3 z hz
   ·
    rcases g4 with g4 | g4
    ·
     subst g4; simp only at g2 ⊢; omega
    ·
     exact g4.2
  ·
   cases h4
section
variable {N : Nat} (hN : 1000000000000 < N) {b : List Int} (hb : Bytes b) (hl : b.length ≤ 1000000)
include hN hb hl
theorem acts_L1 {long : Int} {m : Nat} (hm : m ≤ 1000) : ∀ (d k n : Nat) (p : Int) (s : List TAct), k + d = m → d < n → s.length ≤ k → p ≤ 1000000000 → -1000000000 ≤ p →
  context_reader_acts_L1 N long m b n k p s = some (match acts b long d p with | some r => .inl (r.2, s ++ r.1) | none => .inr ()) := by
 intro d
 induction d with
 | zero =>
  intro k n p s hk hn hs hp hp'
  obtain ⟨n, rfl⟩ : ∃ x, n = x + 1 := ⟨n - 1, by omega⟩
  rw [context_reader_acts_L1, if_neg (by omega)]
  simp [acts]
 | succ d ih =>
  intro k n p s hk hn hs hp hp'
  obtain ⟨n, rfl⟩ : ∃ x, n = x + 1 := ⟨n - 1, by omega⟩
  rw [context_reader_acts_L1, if_pos (by omega), number_eq hN hb hl (by omega), Option.bind_some]
  simp only [acts]
  cases h1 : num b p with
  | none => rfl
  | some x =>
   obtain ⟨_, n1, n2, n3, n4⟩ := num_some hb h1
   simp only [S, Option.bind_some]
   rw [w64 (x := p + 2) (by omega) (by omega), number_eq hN hb hl (by omega), Option.bind_some]
   cases h2 : num b (p + 2) with
   | none => rfl
   | some y =>
    simp only [S, Option.bind_some]
    rw [must_eq, Option.bind_some]
    by_cases h3 : x < long
    ·
     simp only [h3, decide_true, if_true]
     rw [if_pos (by omega), w64 (x := p + 2 + 2) (by omega) (by omega), w64 (x := (k : Int) + 1) (by omega) (by omega), show (k : Int) + 1 = ((k + 1 : Nat) : Int) by omega, show p + 2 + 2 = p + 4 by omega,
      ih (k + 1) n (p + 4) _ (by omega) (by omega) (by simp; omega) (by omega) (by omega)]
     cases acts b long d (p + 4) with
     | none => rfl
     | some r => simp
    ·
     simp [h3]
theorem acts_eq {p n long : Int} (hp : p ≤ 1000000000) (hp' : -1000000000 ≤ p) (h0 : 0 ≤ n) (hn : n ≤ 1000) : context_reader_acts N b p n long = some (S (acts b long n.toNat p)) := by
 obtain ⟨m, rfl⟩ := Int.eq_ofNat_of_zero_le h0
 unfold context_reader_acts
 have h := acts_L1 hN hb hl (long := long) (m := m) (by omega) m 0 N p [] (by omega) (by omega) (by simp) hp hp'
 rw [show context_reader_acts_L1 N long (m : Int) b N 0 p [] = _ from h, Option.bind_some, Int.toNat_natCast]
 cases acts b long m p with
 | none => rfl
 | some r => rfl
end
end Go.Proofs.Ytakplhfiohjcmaa.AI
