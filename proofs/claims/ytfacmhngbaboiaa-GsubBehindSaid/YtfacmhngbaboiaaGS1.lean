/- Part of a proof. -/
import Derived.Test.YtfacmhngbaboiaaCX8
import Derived.Test.YtfacmhngbaboiaaCX9
import Derived.Test.YtfacmhngbaboiaaPU9U
set_option linter.unusedVariables false
set_option linter.unusedSimpArgs false
set_option maxRecDepth 100000
namespace Go.Proofs.Ytfacmhngbaboiaa.AI
abbrev T16 := Int × List TSpan × Bool × Int × List (List Int) × List (List TLig) × List TCtx × List TValue × List (List TTwo) × List TClass × List TClass × List (List TTwo) × List TArr2_TAnchor × List TMark × List TSpan × List (List (List TAnchor))
abbrev T17 := Int × List TSpan × Bool × Int × List (List Int) × List (List TLig) × List TCtx × List TValue × List (List TTwo) × List TClass × List TClass × List (List TTwo) × List TArr2_TAnchor × List TMark × List TSpan × List (List (List TAnchor)) × Int
structure G7 where
 k : Int
 c : List TSpan
 all : Bool
 d : Int
 o : List (List Int)
 l : List (List TLig)
 r : List TCtx
def G7.t (g : G7) : T16 := (g.k, g.c, g.all, g.d, g.o, g.l, g.r, [], [], [], [], [], [], [], [], [])
def G7.p (x : G7 × Int) : T17 := (x.1.k, x.1.c, x.1.all, x.1.d, x.1.o, x.1.l, x.1.r, [], [], [], [], [], [], [], [], [], x.2)
def eachM (b : List Int) (p : Int) (sp : List TSpan) : Option (List Int × Int) := (num b p).bind fun n => if n = cnt sp then (row b (p + 2) n).bind fun l => some (l, p + 2 + n * 2) else none
def onesM (l : List Int) : List (List Int) := l.map fun x => [x]
def seqs (b : List Int) (base lo : Int) : List Int → Option (List (List Int))
 | [] => some []
 | x :: r => (seqM b (base + x) lo 0).bind fun q => (seqs b base lo r).bind fun t => some (q.1 :: t)
def ligs1 (b : List Int) (P : Int) : List Int → Option (List TLig)
 | [] => some []
 | y :: r => (num b (P + y)).bind fun g => (seqM b (P + y + 2) 1 1).bind fun q => (ligs1 b P r).bind fun t => some (⟨q.1, g⟩ :: t)
def ligsM (b : List Int) (base : Int) : Int → List Int → Option (List (List TLig))
 | _, [] => some []
 | tot, x :: r => (num b (base + x)).bind fun n => if tot + n ≤ 256 then (row b (base + x + 2) n).bind fun l => (ligs1 b (base + x) l).bind fun q => (ligsM b base (tot + n) r).bind fun t => some (q :: t) else none
def gSingle (N : Nat) (b : List Int) (base p f : Int) : Option (G7 × Int) := (num b p).bind fun o => (cov N b (base + o)).bind fun c =>
 if f = 1 then (num b (p + 2)).bind fun d => some (⟨1, c, true, d, [], [], []⟩, p + 2 + 2) else if f = 2 then (eachM b (p + 2) c).bind fun r => some (⟨1, c, false, 0, onesM r.1, [], []⟩, r.2) else none
def gSeveral (N : Nat) (b : List Int) (base p k lo : Int) : Option (G7 × Int) := (num b p).bind fun o => (cov N b (base + o)).bind fun c => (eachM b (p + 2) c).bind fun r => (seqs b base lo r.1).bind fun s => some (⟨k, c, false, 0, s, [], []⟩, r.2)
def gLigs (N : Nat) (b : List Int) (base p : Int) : Option (G7 × Int) := (num b p).bind fun o => (cov N b (base + o)).bind fun c => (eachM b (p + 2) c).bind fun r => (ligsM b base 0 r.1).bind fun s => some (⟨4, c, false, 0, [], s, []⟩, r.2)
def gSets (N : Nat) (b : List Int) (base p : Int) : Option (List TSet × Int) := (seqM b p 0 0).bind fun q => (covs N b base q.1).bind fun s => some (s, q.2)
def gReverse (N : Nat) (b : List Int) (base p : Int) : Option (G7 × Int) := (num b p).bind fun o => (cov N b (base + o)).bind fun c => (gSets N b base (p + 2)).bind fun s1 => (gSets N b base s1.2).bind fun s2 => (eachM b s2.2 c).bind fun r => some (⟨8, c, false, 0, onesM r.1, [], [⟨s1.1, [], s2.1, []⟩]⟩, r.2)
def gKind (N : Nat) (b : List Int) (p k : Int) (x : Option G7) : Option G7 :=
 if k = 5 then (tableM N b p false).map fun r => ⟨5, [], false, 0, [], [], r.1⟩ else if k = 6 then (tableM N b p true).map fun r => ⟨6, [], false, 0, [], [], r.1⟩
 else if 1 ≤ k ∧ k ≤ 8 then (num b p).bind fun f => if f = 1 ∨ k = 1 then
  (if k = 1 then (gSingle N b p (p + 2) f).map (·.1) else if k = 2 then (gSeveral N b p (p + 2) 2 0).map (·.1) else if k = 3 then (gSeveral N b p (p + 2) 3 1).map (·.1) else if k = 4 then (gLigs N b p (p + 2)).map (·.1) else if k = 7 then x else (gReverse N b p (p + 2)).map (·.1))
  else none
 else none
def gElse (N : Nat) (b : List Int) (p : Int) : Option G7 := (num b (p + 2)).bind fun k => if 0 ≤ u32 b (p + 2 + 2) ∧ k ≠ 7 ∧ u32 b (p + 2 + 2) ≤ (b.length : Int) then gKind N b (p + u32 b (p + 2 + 2)) k none else none
def gRead (N : Nat) (b : List Int) (p k : Int) : Option G7 := gKind N b p k (gElse N b p)
theorem gmust_eq {N : Nat} (x : Bool) : gsub_must N x = some (if x = true then .inl () else .inr ()) := by
 unfold gsub_must
 cases x <;> rfl
theorem eachM_some {b : List Int} (hb : Bytes b) {p : Int} {sp : List TSpan} {l : List Int} {q : Int} (h : eachM b p sp = some (l, q)) : (l.length : Int) = cnt sp ∧ (∀ x ∈ l, 0 ≤ x ∧ x ≤ 65535) ∧ 0 ≤ q ∧ q ≤ (b.length : Int) ∧ 2 * (l.length : Int) ≤ (b.length : Int) := by
 unfold eachM at h
 obtain ⟨n, e1, h⟩ := Option.bind_eq_some_iff.1 h
 split at h
 ·
  obtain ⟨l2, e2, h⟩ := Option.bind_eq_some_iff.1 h
  cases h
  have c := num_some hb e1
  have r := row_some hb e2
  exact ⟨by omega, r.2.2.2.2.2, by omega, by omega, by omega⟩
 ·
  cases h
theorem gones_L1 {N : Nat} {l : List Int} (hl' : l.length ≤ 1000000) : ∀ (d k n : Nat) (s : List (List Int)), k + d = l.length → d < n → s.length ≤ k → gsub_ones_L1 N l n k s = some (s ++ onesM (l.drop k)) := by
 intro d
 induction d with
 | zero =>
  intro k n s hk hn hs
  obtain ⟨n, rfl⟩ : ∃ x, n = x + 1 := ⟨n - 1, by omega⟩
  rw [gsub_ones_L1, if_neg (by omega), List.drop_eq_nil_of_le (by omega)]; simp [onesM]
 | succ d ih =>
  intro k n s hk hn hs
  obtain ⟨n, rfl⟩ : ∃ x, n = x + 1 := ⟨n - 1, by omega⟩
  have hkl : k < l.length := by omega
  rw [gsub_ones_L1, if_pos (by omega), atI_at (List.getElem?_eq_getElem hkl), Option.bind_some, if_pos (by omega), w64 (x := (k : Int) + 1) (by omega) (by omega), show (k : Int) + 1 = ((k + 1 : Nat) : Int) by omega, ih (k + 1) n _ (by omega) (by omega) (by simp; omega), List.drop_eq_getElem_cons hkl, onesM, onesM, List.map_cons, List.append_assoc]
  rfl
theorem gones_eq {N : Nat} (hN : 1000000000000 < N) {l : List Int} (hl' : l.length ≤ 1000000) : gsub_ones N l = some (onesM l) := by
 unfold gsub_ones
 have h := gones_L1 (N := N) hl' l.length 0 N [] (by omega) (by omega) (by simp)
 rw [List.drop_zero, List.nil_append] at h
 rw [show gsub_ones_L1 N l N 0 [] = _ from h, Option.bind_some]
theorem gSets_some {N : Nat} {b : List Int} (hb : Bytes b) {base p q : Int} {s : List TSet} (h : gSets N b base p = some (s, q)) : 0 ≤ q ∧ q ≤ (b.length : Int) := by
 unfold gSets at h
 obtain ⟨⟨l, q'⟩, e1, h⟩ := Option.bind_eq_some_iff.1 h
 obtain ⟨t, e2, h⟩ := Option.bind_eq_some_iff.1 h
 cases h
 obtain ⟨n, c1, c2, c3, c4, c5, c6, c7, _⟩ := seqM_some hb e1 (by omega) (by omega)
 exact ⟨c6, c7⟩
section
variable {N : Nat} (hN : 1000000000000 < N) {b : List Int} (hb : Bytes b) (hl : b.length ≤ 100000)
include hN hb hl
theorem gnumber_eq {a p : Int} (hp : p ≤ 1000000000000) : gsub_reader_number N b a p = some (S (num b p)) := by
 unfold gsub_reader_number num
 rw [U16_eq hN hb (by omega) p hp, Option.bind_some]
 by_cases h : u16 b p < 0
 ·
  rw [if_pos h, if_pos h]; rfl
 ·
  rw [if_neg h, if_neg h]; rfl
theorem gspans_eq {base q o : Int} (h0 : -1000000000 ≤ base) (h1 : base ≤ 1000000000) (h2 : 0 ≤ o) (h3 : o ≤ 65535) : gsub_reader_spans N b base q o = some (S (cov N b (base + o))) := by
 unfold gsub_reader_spans cov
 rw [w64 (x := base + o) (by omega) (by omega), (covL_eq hN hb (by omega) (base + o) (by omega) (by omega)).1, Option.bind_some]
 simp only
 rw [gmust_eq, Option.bind_some]
 cases covOk b (base + o) <;> rfl
theorem grow_eq {a p n : Int} (hp : p ≤ 1000000000000) (hn : n ≤ 1000000000000) : gsub_reader_row N b a p n = some (S (row b p n)) := by
 unfold gsub_reader_row row
 rw [Row_eq hN hb (by omega) p n hp hn, Option.bind_some]
 by_cases h : 0 ≤ n ∧ 0 ≤ p ∧ p + 2 * n ≤ (b.length : Int)
 ·
  rw [if_pos h, if_pos h]; rfl
 ·
  rw [if_neg h, if_neg h]; rfl
theorem geach_eq {a p : Int} {sp : List TSpan} (h0 : -1000000 ≤ p) (h1 : p ≤ 1000000) (hsp : RL 0 sp) : gsub_reader_each N b a p sp = some (S (eachM b p sp)) := by
 unfold gsub_reader_each eachM
 rw [gnumber_eq hN hb hl (by omega), Option.bind_some]
 cases e1 : num b p with
 | none => rfl
 | some n =>
  obtain ⟨_, na, nb, _⟩ := num_some hb e1
  simp only [S, Option.bind_some]
  rw [Count_eq hN hsp hsp.l6, Option.bind_some, gmust_eq, Option.bind_some]
  by_cases h : n = cnt sp
  ·
   rw [if_pos (by simpa using h), if_pos h]
   simp only
   rw [w64 (x := p + 2) (by omega) (by omega), grow_eq hN hb hl (by omega) (by omega), Option.bind_some, w64 (x := n * 2) (by omega) (by omega), w64 (x := p + 2 + n * 2) (by omega) (by omega)]
   cases row b (p + 2) n <;> rfl
  ·
   rw [if_neg (by simpa using h), if_neg h]
theorem glist_eq {a p lo cut : Int} (h0 : -1000000 ≤ p) (h1 : p ≤ 1000000) (h2 : 0 ≤ lo) (hc : 0 ≤ cut) (hc2 : cut ≤ lo) (h16 : lo ≤ 16) : gsub_reader_list N b a p lo cut = some (S (seqM b p lo cut)) := by
 unfold gsub_reader_list seqM cntr
 rw [gnumber_eq hN hb hl (by omega), Option.bind_some]
 cases e1 : num b p with
 | none => rfl
 | some n =>
  obtain ⟨_, na, nb, _⟩ := num_some hb e1
  simp only [S, Option.bind_some]
  by_cases g1 : lo ≤ n
  ·
   rw [if_pos g1, gmust_eq, Option.bind_some]
   by_cases g2 : n ≤ 16
   ·
    rw [if_pos (by simpa using g2), if_pos ⟨g1, g2⟩, Option.bind_some]
    simp only
    rw [w64 (x := p + 2) (by omega) (by omega), w64 (x := n - cut) (by omega) (by omega), grow_eq hN hb hl (by omega) (by omega), Option.bind_some, w64 (x := (n - cut) * 2) (by omega) (by omega), w64 (x := p + 2 + (n - cut) * 2) (by omega) (by omega)]
    cases row b (p + 2) (n - cut) <;> rfl
   ·
    rw [if_neg (by simpa using g2), if_neg (fun h => g2 h.2)]; rfl
  ·
   rw [if_neg g1, gmust_eq, if_neg (show ¬ (lo ≤ n ∧ n ≤ 16) from fun h => g1 h.1)]; rfl
theorem gsingle_eq {base p f : Int} (h0 : -1000000 ≤ base) (h1 : base ≤ 1000000) (h2 : -2000000 ≤ p) (h3 : p ≤ 900000) (h4 : -900000 ≤ p) : gsub_reader_single N b base p f = some (S ((gSingle N b base p f).map G7.p)) := by
 unfold gsub_reader_single gSingle
 rw [gnumber_eq hN hb hl (by omega), Option.bind_some]
 cases e1 : num b p with
 | none => rfl
 | some o =>
  obtain ⟨_, oa, ob, _⟩ := num_some hb e1
  simp only [S, Option.bind_some]
  rw [gspans_eq hN hb hl (by omega) (by omega) oa ob, Option.bind_some]
  cases e2 : cov N b (base + o) with
  | none => rfl
  | some c =>
   have cr := cov_rl hN hb (by omega) (by omega) (by omega) e2
   simp only [S, Option.bind_some]
   rw [w64 (x := p + 2) (by omega) (by omega)]
   by_cases g1 : f = 1
   ·
    rw [if_pos g1, if_pos g1, gnumber_eq hN hb hl (by omega), Option.bind_some, w64 (x := p + 2 + 2) (by omega) (by omega)]
    cases num b (p + 2) <;> rfl
   ·
    rw [if_neg g1, if_neg g1, gmust_eq, Option.bind_some]
    by_cases g2 : f = 2
    ·
     rw [if_pos (by simpa using g2), if_pos g2]
     simp only
     rw [geach_eq hN hb hl (by omega) (by omega) cr.1, Option.bind_some]
     cases e3 : eachM b (p + 2) c with
     | none => rfl
     | some r =>
      obtain ⟨l, q⟩ := r
      have er := eachM_some hb e3
      have cc := (cnt_parts cr.1 0).2.2.2
      simp only [S, Option.bind_some]
      rw [gones_eq hN (by omega)]
      rfl
    ·
     rw [if_neg (by simpa using g2), if_neg g2]; rfl
theorem gseveral_L1 {base lo k4 q2 : Int} {c : List TSpan} (h0 : -1000000 ≤ base + 100000) (h0' : -900000 ≤ base) (h1 : base ≤ 900000) (h2 : 0 ≤ lo) (h16 : lo ≤ 16) {y : List Int} (hy : ∀ x ∈ y, 0 ≤ x ∧ x ≤ 65535) (hyl : y.length ≤ 1000000) : ∀ (d k n : Nat) (s : List (List Int)), k + d = y.length → d < n → s.length ≤ k →
  gsub_reader_several_L1 N lo y b base q2 k4 c n k s = some (S ((seqs b base lo (y.drop k)).map fun t => s ++ t)) := by
 intro d
 induction d with
 | zero =>
  intro k n s hk hn hs
  obtain ⟨n, rfl⟩ : ∃ x, n = x + 1 := ⟨n - 1, by omega⟩
  rw [gsub_reader_several_L1, if_neg (by omega), List.drop_eq_nil_of_le (by omega)]
  simp [seqs, S]
 | succ d ih =>
  intro k n s hk hn hs
  obtain ⟨n, rfl⟩ : ∃ x, n = x + 1 := ⟨n - 1, by omega⟩
  have hkl : k < y.length := by omega
  have hx := hy y[k] (List.getElem_mem hkl)
  rw [gsub_reader_several_L1, if_pos (by omega), atI_at (List.getElem?_eq_getElem hkl), Option.bind_some, gsub_reader_part, Option.bind_some, w64 (x := base + y[k]) (by omega) (by omega), glist_eq hN hb hl (by omega) (by omega) h2 (by omega) (by omega) h16, Option.bind_some, List.drop_eq_getElem_cons hkl]
  simp only [seqs]
  cases e1 : seqM b (base + y[k]) lo 0 with
  | none => rfl
  | some q =>
   simp only [S, Option.bind_some]
   rw [if_pos (by omega), w64 (x := (k : Int) + 1) (by omega) (by omega), show (k : Int) + 1 = ((k + 1 : Nat) : Int) by omega, ih (k + 1) n _ (by omega) (by omega) (by simp; omega)]
   cases seqs b base lo (y.drop (k + 1)) with
   | none => rfl
   | some t => simp [S]
theorem gseveral_eq {base p k lo : Int} (h0 : -900000 ≤ base) (h1 : base ≤ 900000) (h2 : 0 ≤ lo) (h16 : lo ≤ 16) (h3 : p ≤ 900000) (h4 : -900000 ≤ p) : gsub_reader_several N b base p k lo = some (S ((gSeveral N b base p k lo).map G7.p)) := by
 unfold gsub_reader_several gSeveral
 rw [gnumber_eq hN hb hl (by omega), Option.bind_some]
 cases e1 : num b p with
 | none => rfl
 | some o =>
  obtain ⟨_, oa, ob, _⟩ := num_some hb e1
  simp only [S, Option.bind_some]
  rw [gspans_eq hN hb hl (by omega) (by omega) oa ob, Option.bind_some]
  cases e2 : cov N b (base + o) with
  | none => rfl
  | some c =>
   have cr := cov_rl hN hb (by omega) (by omega) (by omega) e2
   simp only [S, Option.bind_some]
   rw [w64 (x := p + 2) (by omega) (by omega), geach_eq hN hb hl (by omega) (by omega) cr.1, Option.bind_some]
   cases e3 : eachM b (p + 2) c with
   | none => rfl
   | some r =>
    obtain ⟨l, q⟩ := r
    have er := eachM_some hb e3
    have cc := (cnt_parts cr.1 0).2.2.2
    simp only [S, Option.bind_some]
    have e := gseveral_L1 hN hb hl (base := base) (lo := lo) (k4 := k) (q2 := q) (c := c) (by omega) h0 h1 h2 h16 er.2.1 (by omega) l.length 0 N [] (by omega) (by omega) (by simp)
    rw [List.drop_zero] at e
    rw [show gsub_reader_several_L1 N lo l b base q k c N 0 [] = _ from e, Option.bind_some]
    cases seqs b base lo l <;> rfl
theorem gligs_L3 {base tot n4 x i15 q2 : Int} {y9 l : List Int} {c : List TSpan} {s16 : List (List TLig)} (h0' : -800000 ≤ base) (h1 : base ≤ 800000) (hx0 : 0 ≤ x) (hx1 : x ≤ 65535) (hy : ∀ x ∈ l, 0 ≤ x ∧ x ≤ 65535) (hyl : l.length ≤ 1000000) : ∀ (d k n : Nat) (j : Int) (s : List TLig), k + d = l.length → d < n → s.length ≤ k →
  gsub_reader_ligatures_L3 N tot n4 y9 i15 l b base q2 c s16 x n k j s = some (S ((ligs1 b (base + x) (l.drop k)).map fun t => s ++ t)) := by
 intro d
 induction d with
 | zero =>
  intro k n j s hk hn hs
  obtain ⟨n, rfl⟩ : ∃ x, n = x + 1 := ⟨n - 1, by omega⟩
  rw [gsub_reader_ligatures_L3, if_neg (by omega), List.drop_eq_nil_of_le (by omega)]
  simp [ligs1, S]
 | succ d ih =>
  intro k n j s hk hn hs
  obtain ⟨n, rfl⟩ : ∃ x, n = x + 1 := ⟨n - 1, by omega⟩
  have hkl : k < l.length := by omega
  have hx := hy l[k] (List.getElem_mem hkl)
  rw [gsub_reader_ligatures_L3, if_pos (by omega), atI_at (List.getElem?_eq_getElem hkl), Option.bind_some, gsub_reader_part, Option.bind_some, w64 (x := base + x) (by omega) (by omega), w64 (x := base + x + l[k]) (by omega) (by omega), w64 (x := base + x + l[k] + 2) (by omega) (by omega), gnumber_eq hN hb hl (by omega), Option.bind_some, List.drop_eq_getElem_cons hkl]
  simp only [ligs1]
  cases e1 : num b (base + x + l[k]) with
  | none => rfl
  | some g =>
   simp only [S, Option.bind_some]
   rw [glist_eq hN hb hl (by omega) (by omega) (by omega) (by omega) (by omega) (by omega), Option.bind_some]
   cases e2 : seqM b (base + x + l[k] + 2) 1 1 with
   | none => rfl
   | some q =>
    simp only [S, Option.bind_some]
    rw [if_pos (by omega), w64 (x := (k : Int) + 1) (by omega) (by omega), show (k : Int) + 1 = ((k + 1 : Nat) : Int) by omega, ih (k + 1) n _ _ (by omega) (by omega) (by simp; omega)]
    cases ligs1 b (base + x) (l.drop (k + 1)) with
    | none => rfl
    | some t => simp [S]
theorem gligs_L4 {base q2 : Int} {y : List Int} {c : List TSpan} (h0' : -800000 ≤ base) (h1 : base ≤ 800000) (hy : ∀ x ∈ y, 0 ≤ x ∧ x ≤ 65535) (hyl : y.length ≤ 1000000) : ∀ (d k n : Nat) (tot : Int) (s : List (List TLig)), k + d = y.length → d < n → s.length ≤ k → 0 ≤ tot → tot ≤ 256 →
  gsub_reader_ligatures_L4 N y b base q2 c n tot k s = some (S ((ligsM b base tot (y.drop k)).map fun t => s ++ t)) := by
 intro d
 induction d with
 | zero =>
  intro k n tot s hk hn hs ht ht2
  obtain ⟨n, rfl⟩ : ∃ x, n = x + 1 := ⟨n - 1, by omega⟩
  rw [gsub_reader_ligatures_L4, if_neg (by omega), List.drop_eq_nil_of_le (by omega)]
  simp [ligsM, S]
 | succ d ih =>
  intro k n tot s hk hn hs ht ht2
  obtain ⟨n, rfl⟩ : ∃ x, n = x + 1 := ⟨n - 1, by omega⟩
  have hkl : k < y.length := by omega
  have hx := hy y[k] (List.getElem_mem hkl)
  rw [gsub_reader_ligatures_L4, if_pos (by omega), atI_at (List.getElem?_eq_getElem hkl), Option.bind_some, gsub_reader_part, Option.bind_some, w64 (x := base + y[k]) (by omega) (by omega), gnumber_eq hN hb hl (by omega), Option.bind_some, List.drop_eq_getElem_cons hkl]
  simp only [ligsM]
  cases e1 : num b (base + y[k]) with
  | none => rfl
  | some m =>
   obtain ⟨_, ma, mb, _⟩ := num_some hb e1
   simp only [S, Option.bind_some]
   rw [w64 (x := tot + m) (by omega) (by omega), gmust_eq, Option.bind_some]
   by_cases g1 : tot + m ≤ 256
   ·
    rw [if_pos (by simpa using g1), if_pos g1]
    simp only
    rw [w64 (x := base + y[k] + 2) (by omega) (by omega), grow_eq hN hb hl (by omega) (by omega), Option.bind_some]
    cases e2 : row b (base + y[k] + 2) m with
    | none => rfl
    | some l =>
     obtain ⟨_, ll, _, _, _, lx⟩ := row_some hb e2
     simp only [S, Option.bind_some]
     have e := fun j => gligs_L3 hN hb hl (base := base) (tot := tot) (n4 := m) (x := y[k]) (i15 := (k : Int)) (q2 := q2) (y9 := y) (l := l) (c := c) (s16 := s) h0' h1 hx.1 hx.2 lx (by omega) l.length 0 N j [] (by omega) (by omega) (by simp)
     simp only [List.drop_zero] at e
     rw [show gsub_reader_ligatures_L3 N tot m y (k : Int) l b base q2 c s y[k] N 0 _ [] = _ from e _, Option.bind_some]
     cases e4 : ligs1 b (base + y[k]) l with
     | none => rfl
     | some t =>
      simp only [S, Option.map_some, Option.bind_some, List.nil_append]
      rw [if_pos (by omega), w64 (x := (k : Int) + 1) (by omega) (by omega), show (k : Int) + 1 = ((k + 1 : Nat) : Int) by omega, ih (k + 1) n _ _ (by omega) (by omega) (by simp; omega) (by omega) g1]
      cases ligsM b base (tot + m) (y.drop (k + 1)) with
      | none => rfl
      | some t => simp [S]
   ·
    rw [if_neg (by simpa using g1), if_neg g1]; rfl
theorem gligs_eq {base p : Int} (h0 : -800000 ≤ base) (h1 : base ≤ 800000) (h3 : p ≤ 900000) (h4 : -900000 ≤ p) : gsub_reader_ligatures N b base p = some (S ((gLigs N b base p).map G7.p)) := by
 unfold gsub_reader_ligatures gLigs
 rw [gnumber_eq hN hb hl (by omega), Option.bind_some]
 cases e1 : num b p with
 | none => rfl
 | some o =>
  obtain ⟨_, oa, ob, _⟩ := num_some hb e1
  simp only [S, Option.bind_some]
  rw [gspans_eq hN hb hl (by omega) (by omega) oa ob, Option.bind_some]
  cases e2 : cov N b (base + o) with
  | none => rfl
  | some c =>
   have cr := cov_rl hN hb (by omega) (by omega) (by omega) e2
   simp only [S, Option.bind_some]
   rw [w64 (x := p + 2) (by omega) (by omega), geach_eq hN hb hl (by omega) (by omega) cr.1, Option.bind_some]
   cases e3 : eachM b (p + 2) c with
   | none => rfl
   | some r =>
    obtain ⟨l, q⟩ := r
    have er := eachM_some hb e3
    have cc := (cnt_parts cr.1 0).2.2.2
    simp only [S, Option.bind_some]
    have e := gligs_L4 hN hb hl (base := base) (q2 := q) (c := c) h0 h1 er.2.1 (by omega) l.length 0 N 0 [] (by omega) (by omega) (by simp) (by omega) (by omega)
    rw [List.drop_zero] at e
    rw [show gsub_reader_ligatures_L4 N l b base q c N 0 0 [] = _ from e, Option.bind_some]
    cases ligsM b base 0 l <;> rfl
theorem gsets_L1 {base q2 : Int} {y : List Int} (h0' : -800000 ≤ base) (h1 : base ≤ 800000) (hy : ∀ x ∈ y, 0 ≤ x ∧ x ≤ 65535) (hyl : y.length ≤ 1000000) : ∀ (d k n : Nat) (s : List TSet), k + d = y.length → d < n → s.length ≤ k →
  gsub_reader_sets_L1 N y b base q2 n k s = some (S ((covs N b base (y.drop k)).map fun t => s ++ t)) := by
 intro d
 induction d with
 | zero =>
  intro k n s hk hn hs
  obtain ⟨n, rfl⟩ : ∃ x, n = x + 1 := ⟨n - 1, by omega⟩
  rw [gsub_reader_sets_L1, if_neg (by omega), List.drop_eq_nil_of_le (by omega)]
  simp [covs, S]
 | succ d ih =>
  intro k n s hk hn hs
  obtain ⟨n, rfl⟩ : ∃ x, n = x + 1 := ⟨n - 1, by omega⟩
  have hkl : k < y.length := by omega
  have hx := hy y[k] (List.getElem_mem hkl)
  rw [gsub_reader_sets_L1, if_pos (by omega), atI_at (List.getElem?_eq_getElem hkl), Option.bind_some, gspans_eq hN hb hl (by omega) (by omega) hx.1 hx.2, Option.bind_some, List.drop_eq_getElem_cons hkl]
  simp only [covs]
  cases cov N b (base + y[k]) with
  | none => rfl
  | some q =>
   simp only [S, Option.bind_some]
   rw [if_pos (by omega), w64 (x := (k : Int) + 1) (by omega) (by omega), show (k : Int) + 1 = ((k + 1 : Nat) : Int) by omega, ih (k + 1) n _ (by omega) (by omega) (by simp; omega)]
   cases covs N b base (y.drop (k + 1)) with
   | none => rfl
   | some t => simp [S]
theorem gsets_eq {base p : Int} (h0 : -800000 ≤ base) (h1 : base ≤ 800000) (h3 : p ≤ 900000) (h4 : -900000 ≤ p) : gsub_reader_sets N b base p = some (S (gSets N b base p)) := by
 unfold gsub_reader_sets gSets
 rw [glist_eq hN hb hl (by omega) (by omega) (by omega) (by omega) (by omega) (by omega), Option.bind_some]
 cases e1 : seqM b p 0 0 with
 | none => rfl
 | some r =>
  obtain ⟨l, q⟩ := r
  obtain ⟨n, c1, c2, c3, c4, c5, _⟩ := seqM_some hb e1 (by omega) (by omega)
  simp only [S, Option.bind_some]
  have e := gsets_L1 hN hb hl (base := base) (q2 := q) h0 h1 c4 (by omega) l.length 0 N [] (by omega) (by omega) (by simp)
  rw [List.drop_zero] at e
  rw [show gsub_reader_sets_L1 N l b base q N 0 [] = _ from e, Option.bind_some]
  cases covs N b base l <;> rfl
theorem greverse_eq {base p : Int} (h0 : -800000 ≤ base) (h1 : base ≤ 800000) (h3 : p ≤ 800000) (h4 : -800000 ≤ p) : gsub_reader_reverse N b base p = some (S ((gReverse N b base p).map G7.p)) := by
 unfold gsub_reader_reverse gReverse
 rw [gnumber_eq hN hb hl (by omega), Option.bind_some]
 cases e1 : num b p with
 | none => rfl
 | some o =>
  obtain ⟨_, oa, ob, _⟩ := num_some hb e1
  simp only [S, Option.bind_some]
  rw [gspans_eq hN hb hl (by omega) (by omega) oa ob, Option.bind_some]
  cases e2 : cov N b (base + o) with
  | none => rfl
  | some c =>
   have cr := cov_rl hN hb (by omega) (by omega) (by omega) e2
   simp only [S, Option.bind_some]
   rw [w64 (x := p + 2) (by omega) (by omega), gsets_eq hN hb hl (by omega) (by omega) (by omega) (by omega), Option.bind_some]
   cases e3 : gSets N b base (p + 2) with
   | none => rfl
   | some r =>
    obtain ⟨s1, q1⟩ := r
    have b1 := gSets_some hb e3
    simp only [S, Option.bind_some]
    rw [gsets_eq hN hb hl (by omega) (by omega) (by omega) (by omega), Option.bind_some]
    cases e4 : gSets N b base q1 with
    | none => rfl
    | some r =>
     obtain ⟨s2, q2⟩ := r
     have b2 := gSets_some hb e4
     simp only [S, Option.bind_some]
     rw [geach_eq hN hb hl (by omega) (by omega) cr.1, Option.bind_some]
     cases e5 : eachM b q2 c with
     | none => rfl
     | some r =>
      obtain ⟨l, q⟩ := r
      have er := eachM_some hb e5
      have cc := (cnt_parts cr.1 0).2.2.2
      simp only [S, Option.bind_some]
      rw [gones_eq hN (by omega)]
      rfl
end
end Go.Proofs.Ytfacmhngbaboiaa.AI
