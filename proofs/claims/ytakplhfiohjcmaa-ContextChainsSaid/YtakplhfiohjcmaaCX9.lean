/- Plain laws of layer 11: the other reader's parts. -/
import Derived.Test.YtakplhfiohjcmaaCX8
set_option linter.unusedVariables false
set_option linter.unusedSimpArgs false
set_option maxRecDepth 100000
namespace Go.Proofs.Ytakplhfiohjcmaa.AI
def rowR (b : List Int) (p n : Int) : List Int × Bool := if (∀ x ∈ row16 b p n.toNat, 0 ≤ x) then (row16 b p n.toNat, true) else ([], false)
theorem row16_drop {b : List Int} {p : Int} {k m : Nat} (h : k < m) : (row16 b p m).drop k = u16 b (p + 2 * (k : Int)) :: (row16 b p m).drop (k + 1) := by
 have hk : k < (row16 b p m).length := by rw [row16_len]; exact h
 rw [List.drop_eq_getElem_cons hk]
 have := row16_at (b := b) (i := p) h
 rw [List.getElem?_eq_getElem hk] at this
 rw [Option.some.inj this]
theorem rowR_row {b : List Int} (hb : Bytes b) {p n : Int} (h0 : 0 ≤ n) (h1 : 0 ≤ p) (h2 : p ≤ (b.length : Int)) : rowR b p n = (match row b p n with | some l => (l, true) | none => ([], false)) := by
 unfold rowR row
 by_cases h : p + 2 * n ≤ (b.length : Int)
 ·
  rw [if_pos (show 0 ≤ n ∧ 0 ≤ p ∧ p + 2 * n ≤ (b.length : Int) from ⟨h0, h1, h⟩), if_pos]
  intro x hx
  obtain ⟨k, hk, rfl⟩ := row16_mem hx
  have n1 := not_congr (u16_neg hb (i := p + 2 * (k : Int)))
  have : ¬ u16 b (p + 2 * (k : Int)) < 0 := by rw [n1]; omega
  omega
 ·
  rw [if_neg (show ¬ (0 ≤ n ∧ 0 ≤ p ∧ p + 2 * n ≤ (b.length : Int)) from fun hh => h hh.2.2), if_neg]
  intro hh
  obtain ⟨m, hm⟩ : ∃ m : Nat, n = (m : Int) + 1 := ⟨(n - 1).toNat, by omega⟩
  have h3 := hh (u16 b (p + 2 * (m : Int))) (by
   unfold row16
   exact List.mem_map.2 ⟨m, List.mem_range.2 (by omega), rfl⟩)
  have := (not_congr (u16_neg hb (i := p + 2 * (m : Int)))).1 (by omega)
  omega
theorem rActs_L1 {N : Nat} {b : List Int} {long p : Int} {m : Nat} (hm : m ≤ 1000) (hy : ∀ x ∈ row16 b p (2 * m), 0 ≤ x) : ∀ (d k n : Nat) (s : List TAct), k + d = m → d < n → s.length ≤ k →
  ref11_Acts_L1 N (m : Int) long (row16 b p (2 * m)) n k s = some (match acts b long d (p + 4 * (k : Int)) with | some r => .inl (s ++ r.1) | none => .inr ()) := by
 intro d
 induction d with
 | zero =>
  intro k n s hk hn hs
  obtain ⟨n, rfl⟩ : ∃ x, n = x + 1 := ⟨n - 1, by omega⟩
  rw [ref11_Acts_L1, if_neg (by omega)]
  simp [acts]
 | succ d ih =>
  intro k n s hk hn hs
  obtain ⟨n, rfl⟩ : ∃ x, n = x + 1 := ⟨n - 1, by omega⟩
  have e1 := row16_at (b := b) (i := p) (n := 2 * m) (k := 2 * k) (by omega)
  have e2 := row16_at (b := b) (i := p) (n := 2 * m) (k := 2 * k + 1) (by omega)
  have v1 := hy _ (List.mem_of_getElem? e1)
  have v2 := hy _ (List.mem_of_getElem? e2)
  rw [show p + 2 * ((2 * k : Nat) : Int) = p + 4 * (k : Int) by omega] at e1 v1
  rw [show p + 2 * ((2 * k + 1 : Nat) : Int) = p + 4 * (k : Int) + 2 by omega] at e2 v2
  have m1 : num b (p + 4 * (k : Int)) = some (u16 b (p + 4 * (k : Int))) := if_neg (by omega)
  have m2 : num b (p + 4 * (k : Int) + 2) = some (u16 b (p + 4 * (k : Int) + 2)) := if_neg (by omega)
  rw [ref11_Acts_L1, if_pos (by omega), w64 (x := 2 * (k : Int)) (by omega) (by omega), atI_of (by omega) e1, Option.bind_some, w64 (x := 2 * (k : Int) + 1) (by omega) (by omega), atI_of (by omega) e2, Option.bind_some]
  simp only [acts, m1, m2, Option.bind_some]
  by_cases h : u16 b (p + 4 * (k : Int)) < long
  ·
   rw [if_neg (by omega), if_pos h, if_pos (by omega), w64 (x := (k : Int) + 1) (by omega) (by omega), show (k : Int) + 1 = ((k + 1 : Nat) : Int) by omega, ih (k + 1) n _ (by omega) (by omega) (by simp; omega), show p + 4 * ((k + 1 : Nat) : Int) = p + 4 * (k : Int) + 4 by omega]
   cases acts b long d (p + 4 * (k : Int) + 4) with
   | none => rfl
   | some r => simp
  ·
   rw [if_pos (by omega), if_neg h]
section
variable {N : Nat} (hN : 1000000000000 < N) {b : List Int} (hb : Bytes b) (hl : b.length ≤ 1000000)
include hN hb hl
theorem rRow_L1 {p : Int} (hp : p ≤ 100000000) (hp' : -100000000 ≤ p) {m : Nat} (hm : m ≤ 1000000) : ∀ (d k n : Nat) (s : List Int), k + d = m → d < n → s.length ≤ k →
  ref11_Row_L1 N b p (m : Int) n k s = some (if (∀ x ∈ (row16 b p m).drop k, 0 ≤ x) then .inl (s ++ (row16 b p m).drop k) else .inr ()) := by
 intro d
 induction d with
 | zero =>
  intro k n s hk hn hs
  obtain ⟨n, rfl⟩ : ∃ x, n = x + 1 := ⟨n - 1, by omega⟩
  rw [ref11_Row_L1, if_neg (by omega), List.drop_eq_nil_of_le (by rw [row16_len]; omega)]
  simp
 | succ d ih =>
  intro k n s hk hn hs
  obtain ⟨n, rfl⟩ : ∃ x, n = x + 1 := ⟨n - 1, by omega⟩
  rw [ref11_Row_L1, if_pos (by omega), w64 (x := 2 * (k : Int)) (by omega) (by omega), w64 (x := p + 2 * (k : Int)) (by omega) (by omega), rU16_eq hN hb (by omega) _ (by omega), Option.bind_some, row16_drop (by omega)]
  by_cases h : u16 b (p + 2 * (k : Int)) < 0
  ·
   rw [if_pos h, if_neg]
   intro hh
   have := hh _ (List.mem_cons_self)
   omega
  ·
   rw [if_neg h, if_pos (by omega), w64 (x := (k : Int) + 1) (by omega) (by omega), show (k : Int) + 1 = ((k + 1 : Nat) : Int) by omega, ih (k + 1) n _ (by omega) (by omega) (by simp; omega)]
   by_cases h2 : ∀ x ∈ (row16 b p m).drop (k + 1), 0 ≤ x
   ·
    rw [if_pos h2, if_pos]
    ·
     simp
    ·
     intro x hx
     rcases List.mem_cons.1 hx with rfl | hx
     ·
      omega
     ·
      exact h2 x hx
   ·
    rw [if_neg h2, if_neg]
    exact fun hh => h2 fun x hx => hh x (List.mem_cons_of_mem _ hx)
theorem rRow_eq {p n : Int} (hp : p ≤ 100000000) (hp' : -100000000 ≤ p) (hn : n ≤ 1000000) : ref11_Row N b p n = some (rowR b p n) := by
 unfold ref11_Row
 by_cases h0 : 0 ≤ n
 ·
  obtain ⟨m, rfl⟩ := Int.eq_ofNat_of_zero_le h0
  have h := rRow_L1 hN hb hl hp hp' (m := m) (by omega) m 0 N [] (by omega) (by omega) (by simp)
  rw [List.drop_zero, List.nil_append] at h
  rw [show ref11_Row_L1 N b p (m : Int) N 0 [] = _ from h, Option.bind_some]
  unfold rowR
  rw [Int.toNat_natCast]
  by_cases h2 : ∀ x ∈ row16 b p m, 0 ≤ x
  ·
   rw [if_pos h2, if_pos h2]
  ·
   rw [if_neg h2, if_neg h2]
 ·
  obtain ⟨M, rfl⟩ : ∃ x, N = x + 1 := ⟨N - 1, by omega⟩
  rw [ref11_Row_L1, if_neg (by omega), Option.bind_some]
  unfold rowR
  rw [show n.toNat = 0 by omega]
  simp [row16]
theorem rActs_eq {p n long : Int} (hp : p ≤ 1000000) (hp' : -1000000 ≤ p) (h0 : 0 ≤ n) (hn : n ≤ 16) : ref11_Acts N b p n long = some (match acts b long n.toNat p with | some r => (r.1, true) | none => ([], false)) := by
 obtain ⟨m, rfl⟩ := Int.eq_ofNat_of_zero_le h0
 unfold ref11_Acts
 rw [w64 (x := 2 * (m : Int)) (by omega) (by omega), rRow_eq hN hb hl (by omega) (by omega) (by omega), Option.bind_some]
 unfold rowR
 rw [show (2 * (m : Int)).toNat = 2 * m by omega, Int.toNat_natCast]
 by_cases h : ∀ x ∈ row16 b p (2 * m), 0 ≤ x
 ·
  rw [if_pos h]
  simp only [if_true]
  rw [if_neg (by omega), if_neg (by omega)]
  have e := rActs_L1 (N := N) (long := long) (m := m) (by omega) h m 0 N [] (by omega) (by omega) (by simp)
  rw [show p + 4 * ((0 : Nat) : Int) = p by omega] at e
  rw [show ref11_Acts_L1 N (m : Int) long (row16 b p (2 * m)) N 0 [] = _ from e, Option.bind_some]
  cases acts b long m p <;> rfl
 ·
  rw [if_neg h]
  simp only [Bool.false_eq_true, if_false]
  cases e : acts b long m p with
  | none => rfl
  | some r =>
   obtain ⟨l, q⟩ := r
   have a := acts_some hb e
   exfalso
   apply h
   intro x hx
   obtain ⟨k, hk, rfl⟩ := row16_mem hx
   have a4 := a.2.2.2
   have n1 := not_congr (u16_neg hb (i := p + 2 * (k : Int)))
   have : ¬ u16 b (p + 2 * (k : Int)) < 0 := by rw [n1]; omega
   omega
def seqM (b : List Int) (p lo cut : Int) : Option (List Int × Int) := (cntr b p lo 16).bind fun n => (row b (p + 2) (n - cut)).bind fun l => some (l, p + 2 + (n - cut) * 2)
theorem rSeq_eq {p lo cut : Int} (hp : p ≤ 1000000) (hp' : -1000000 ≤ p) (hc : 0 ≤ cut) (hlo : cut ≤ lo) (h16 : lo ≤ 16) : ∃ l q ok, ref11_Seq N b p lo cut = some (l, q, ok) ∧ (match seqM b p lo cut with | some r => l = r.1 ∧ q = r.2 ∧ ok = true | none => l = [] ∧ ok = false) := by
 unfold ref11_Seq seqM cntr num
 rw [rU16_eq hN hb (by omega) p (by omega), Option.bind_some]
 have r := u16_range hb p
 by_cases h1 : u16 b p < lo
 ·
  rw [if_pos h1]
  refine ⟨_, _, _, rfl, ?_⟩
  by_cases h2 : u16 b p < 0
  ·
   rw [if_pos h2]; exact ⟨rfl, rfl⟩
  ·
   rw [if_neg h2, Option.bind_some, if_neg (by omega)]; exact ⟨rfl, rfl⟩
 ·
  rw [if_neg h1, if_neg (show ¬ u16 b p < 0 by omega), Option.bind_some]
  by_cases h3 : 16 < u16 b p
  ·
   rw [if_pos h3, if_neg (by omega)]
   exact ⟨_, _, _, rfl, rfl, rfl⟩
  ·
   have hin := (not_congr (u16_neg hb (i := p))).1 (by omega)
   rw [if_neg h3, if_pos (by omega), Option.bind_some, w64 (x := p + 2) (by omega) (by omega), w64 (x := u16 b p - cut) (by omega) (by omega), w64 (x := 2 * (u16 b p - cut)) (by omega) (by omega), w64 (x := p + 2 + 2 * (u16 b p - cut)) (by omega) (by omega),
    rRow_eq hN hb hl (by omega) (by omega) (by omega), Option.bind_some, rowR_row hb (by omega) (by omega) (by omega)]
   cases row b (p + 2) (u16 b p - cut) with
   | none => exact ⟨_, _, _, rfl, rfl, rfl⟩
   | some l => exact ⟨_, _, _, rfl, rfl, by simp only; omega, rfl⟩
theorem rCovers_L1 {base : Int} (h0 : -1000000 ≤ base) (h1 : base ≤ 1000000) {l : List Int} (hx : ∀ x ∈ l, 0 ≤ x ∧ x ≤ 65535) (hll : l.length ≤ 1000000) : ∀ (d k n : Nat) (s : List TSet), k + d = l.length → d < n → s.length ≤ k →
  ref11_Covers_L1 N b base l n k s = some (match covs N b base (l.drop k) with | some r => .inl (s ++ r) | none => .inr ()) := by
 intro d
 induction d with
 | zero =>
  intro k n s hk hn hs
  obtain ⟨n, rfl⟩ : ∃ x, n = x + 1 := ⟨n - 1, by omega⟩
  rw [ref11_Covers_L1, if_neg (by omega), List.drop_eq_nil_of_le (by omega)]
  simp [covs]
 | succ d ih =>
  intro k n s hk hn hs
  obtain ⟨n, rfl⟩ : ∃ x, n = x + 1 := ⟨n - 1, by omega⟩
  have hkl : k < l.length := by omega
  have hb2 := hx l[k] (List.getElem_mem hkl)
  rw [ref11_Covers_L1, if_pos (by omega), atI_at (List.getElem?_eq_getElem hkl), Option.bind_some, w64 (x := base + l[k]) (by omega) (by omega), (covL_eq hN hb (by omega) (base + l[k]) (by omega) (by omega)).2.1, Option.bind_some, List.drop_eq_getElem_cons hkl]
  simp only [covs, cov]
  cases hc : covOk b (base + l[k]) with
  | false => rfl
  | true =>
   simp only [if_true, Option.bind_some]
   rw [if_pos (by omega), w64 (x := (k : Int) + 1) (by omega) (by omega), show (k : Int) + 1 = ((k + 1 : Nat) : Int) by omega, ih (k + 1) n _ (by omega) (by omega) (by simp; omega)]
   cases covs N b base (l.drop (k + 1)) with
   | none => rfl
   | some r => simp
theorem rCovers_eq {base : Int} (h0 : -1000000 ≤ base) (h1 : base ≤ 1000000) {l : List Int} (hx : ∀ x ∈ l, 0 ≤ x ∧ x ≤ 65535) (hll : l.length ≤ 1000000) : ref11_Covers N b base l = some (match covs N b base l with | some r => (r, true) | none => ([], false)) := by
 unfold ref11_Covers
 have h := rCovers_L1 hN hb hl h0 h1 hx hll l.length 0 N [] (by omega) (by omega) (by simp)
 rw [List.drop_zero] at h
 rw [show ref11_Covers_L1 N b base l N 0 [] = _ from h, Option.bind_some]
 cases covs N b base l with
 | none => rfl
 | some r => rfl
end
theorem seqM_some {b : List Int} (hb : Bytes b) {p lo cut : Int} {l : List Int} {q : Int} (h : seqM b p lo cut = some (l, q)) (hc : 0 ≤ cut) (hlo : cut ≤ lo) : ∃ n, cntr b p lo 16 = some n ∧ row b (p + 2) (n - cut) = some l ∧ q = p + 2 + (n - cut) * 2 ∧ (∀ x ∈ l, 0 ≤ x ∧ x ≤ 65535) ∧ l.length ≤ 16 ∧ 0 ≤ q ∧ q ≤ (b.length : Int) ∧ lo ≤ n ∧ n ≤ 16 ∧ (l.length : Int) = n - cut := by
 unfold seqM at h
 obtain ⟨n, e1, h⟩ := Option.bind_eq_some_iff.1 h
 obtain ⟨l2, e2, h⟩ := Option.bind_eq_some_iff.1 h
 cases h
 have c := cntr_some hb e1
 have r := row_some hb e2
 exact ⟨n, e1, e2, rfl, r.2.2.2.2.2, by omega, by omega, by omega, c.1, c.2.1, r.2.1⟩
theorem cov_chain {N : Nat} {b : List Int} (hb : Bytes b) {P base : Int} : coveredM N b P base true = (seqM b P 0 0).bind fun r1 => (covs N b base r1.1).bind fun s1 => (seqM b r1.2 1 0).bind fun r2 => (covs N b base r2.1).bind fun s2 => (seqM b r2.2 0 0).bind fun r3 => (covs N b base r3.1).bind fun s3 =>
  (cntr b r3.2 0 16).bind fun n4 => (acts b (s2.length : Int) n4.toNat (r3.2 + 2)).bind fun a => some ([⟨s1, s2, s3, a.1⟩], a.2) := by
 unfold coveredM seqM
 rw [if_pos rfl]
 cases e1 : cntr b P 0 16 with
 | none => rfl
 | some n1 =>
  simp only [Option.bind_some, Int.sub_zero]
  cases e2 : row b (P + 2) n1 with
  | none => rfl
  | some l1 =>
   simp only [Option.bind_some]
   cases e3 : covs N b base l1 with
   | none => rfl
   | some s1 =>
    simp only [Option.bind_some]
    cases e4 : cntr b (P + 2 + n1 * 2) 1 16 with
    | none => rfl
    | some n2 =>
     simp only [Option.bind_some]
     cases e5 : row b (P + 2 + n1 * 2 + 2) n2 with
     | none => rfl
     | some l2 =>
      simp only [Option.bind_some]
      cases e6 : covs N b base l2 with
      | none => rfl
      | some s2 =>
       have q1 := row_some hb e5
       have q2 := covs_len e6
       simp only [Option.bind_some]
       rw [show ((s2.length : Nat) : Int) = n2 by omega]
       cases e7 : cntr b (P + 2 + n1 * 2 + 2 + n2 * 2) 0 16 with
       | none => rfl
       | some n3 =>
        simp only [Option.bind_some]
        cases row b (P + 2 + n1 * 2 + 2 + n2 * 2 + 2) n3 <;> rfl
theorem rule_chain {b : List Int} (hb : Bytes b) {mb mi ma : List Int → List TSet} {t : TSet} {p : Int} : ruleM b mb mi ma t true p = (seqM b p 0 0).bind fun r1 => (seqM b r1.2 1 1).bind fun r2 => (seqM b r2.2 0 0).bind fun r3 =>
  (cntr b r3.2 0 16).bind fun n4 => (acts b (1 + (r2.1.length : Int)) n4.toNat (r3.2 + 2)).bind fun a => some (mb r1.1, t :: mi r2.1, ma r3.1, a.1, a.2) := by
 unfold ruleM seqM
 rw [if_pos rfl]
 cases e1 : cntr b p 0 16 with
 | none => rfl
 | some n1 =>
  simp only [Option.bind_some, Int.sub_zero]
  cases e2 : row b (p + 2) n1 with
  | none => rfl
  | some l1 =>
   simp only [Option.bind_some]
   cases e4 : cntr b (p + 2 + n1 * 2) 1 16 with
   | none => rfl
   | some n2 =>
    simp only [Option.bind_some]
    cases e5 : row b (p + 2 + n1 * 2 + 2) (n2 - 1) with
    | none => rfl
    | some l2 =>
     have q1 := row_some hb e5
     simp only [Option.bind_some]
     rw [show 1 + ((l2.length : Nat) : Int) = n2 by omega]
     cases e7 : cntr b (p + 2 + n1 * 2 + 2 + (n2 - 1) * 2) 0 16 with
     | none => rfl
     | some n3 =>
      simp only [Option.bind_some]
      cases row b (p + 2 + n1 * 2 + 2 + (n2 - 1) * 2 + 2) n3 <;> rfl
def third3 (N : Nat) (b : List Int) (P base : Int) : Option (Int × List TSet × List TSet × List TSet) := (seqM b P 0 0).bind fun r1 => (covs N b base r1.1).bind fun s1 => (seqM b r1.2 1 0).bind fun r2 => (covs N b base r2.1).bind fun s2 => (seqM b r2.2 0 0).bind fun r3 => (covs N b base r3.1).bind fun s3 => some (r3.2, s1, s2, s3)
section
variable {N : Nat} (hN : 1000000000000 < N) {b : List Int} (hb : Bytes b) (hl : b.length ≤ 1000000)
include hN hb hl
theorem third_L1 {P base : Int} (h0 : -100000 ≤ base) (h1 : base ≤ 100000) (h2 : -100000 ≤ P) (h3 : P ≤ 100000) {M : Nat} : ref11_Third_L1 N b base (M + 4) P 0 [] [] [] = some (match third3 N b P base with | some r => .inl r | none => .inr ()) := by
 unfold third3
 rw [ref11_Third_L1, if_pos (by decide), if_neg (by decide)]
 obtain ⟨l, q, ok, e, hs⟩ := rSeq_eq hN hb hl (p := P) (lo := 0) (cut := 0) (by omega) (by omega) (by omega) (by omega) (by omega)
 rw [e, Option.bind_some]
 cases s1 : seqM b P 0 0 with
 | none =>
  rw [s1] at hs
  obtain ⟨rfl, rfl⟩ := hs
  simp only
  rw [rCovers_eq hN hb hl (by omega) (by omega) (by simp) (by simp), Option.bind_some]
  rfl
 | some r1 =>
  rw [s1] at hs
  obtain ⟨l1, q1⟩ := r1
  obtain ⟨rfl, rfl, rfl⟩ := hs
  obtain ⟨n1, c1, c2, c3, c4, c5, c6, c7, c8, c9, c10⟩ := seqM_some hb s1 (by omega) (by omega)
  simp only [Option.bind_some]
  rw [rCovers_eq hN hb hl (by omega) (by omega) c4 (by omega), Option.bind_some]
  cases v1 : covs N b base l with
  | none => rfl
  | some s1 =>
   simp only [Option.bind_some, if_true]
   rw [show IntKind.i64.wrap (0 + 1) = 1 from rfl, ref11_Third_L1, if_pos (by decide), if_pos rfl]
   obtain ⟨la, qa, ok, e, hs⟩ := rSeq_eq hN hb hl (p := q) (lo := 1) (cut := 0) (by omega) (by omega) (by omega) (by omega) (by omega)
   rw [e, Option.bind_some]
   cases s2 : seqM b q 1 0 with
   | none =>
    rw [s2] at hs
    obtain ⟨rfl, rfl⟩ := hs
    simp only
    rw [rCovers_eq hN hb hl (by omega) (by omega) (by simp) (by simp), Option.bind_some]
    rfl
   | some r1 =>
    rw [s2] at hs
    obtain ⟨l1, q1⟩ := r1
    obtain ⟨rfl, rfl, rfl⟩ := hs
    obtain ⟨n2, d1, d2, d3, d4, d5, d6, d7, d8, d9, d10⟩ := seqM_some hb s2 (by omega) (by omega)
    simp only [Option.bind_some]
    rw [rCovers_eq hN hb hl (by omega) (by omega) d4 (by omega), Option.bind_some]
    cases v2 : covs N b base la with
    | none => rfl
    | some s2 =>
     simp only [Option.bind_some, if_true]
     rw [if_neg (by decide), show IntKind.i64.wrap (1 + 1) = 2 from rfl, ref11_Third_L1, if_pos (by decide), if_neg (by decide)]
     obtain ⟨lc, qc, ok, e, hs⟩ := rSeq_eq hN hb hl (p := qa) (lo := 0) (cut := 0) (by omega) (by omega) (by omega) (by omega) (by omega)
     rw [e, Option.bind_some]
     cases s3 : seqM b qa 0 0 with
     | none =>
      rw [s3] at hs
      obtain ⟨rfl, rfl⟩ := hs
      simp only
      rw [rCovers_eq hN hb hl (by omega) (by omega) (by simp) (by simp), Option.bind_some]
      rfl
     | some r1 =>
      rw [s3] at hs
      obtain ⟨l1, q1⟩ := r1
      obtain ⟨rfl, rfl, rfl⟩ := hs
      obtain ⟨n3, g1, g2, g3, g4, g5, g6, g7, g8, g9, g10⟩ := seqM_some hb s3 (by omega) (by omega)
      simp only [Option.bind_some]
      rw [rCovers_eq hN hb hl (by omega) (by omega) g4 (by omega), Option.bind_some]
      cases v3 : covs N b base lc with
      | none => rfl
      | some s3 =>
       simp only [Option.bind_some, if_true]
       rw [if_neg (by decide), show IntKind.i64.wrap (2 + 1) = 3 from rfl, ref11_Third_L1, if_neg (by decide)]
end
end Go.Proofs.Ytakplhfiohjcmaa.AI
