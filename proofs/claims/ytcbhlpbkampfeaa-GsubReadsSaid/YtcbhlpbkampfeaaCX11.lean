import Derived.Test.YtcbhlpbkampfeaaPU9U
import Derived.Test.YtcbhlpbkampfeaaguP
import Derived.IntWalk
set_option linter.unusedVariables false
set_option linter.unusedSimpArgs false
set_option maxRecDepth 100000
namespace Go.Proofs.Ytcbhlpbkampfeaa.AI
abbrev T16 := Int × List TSpan × Bool × Int × List (List Int) × List (List TLig) × List TCtx × List Qw × List (List TTwo) × List Xb × List Xb × List (List TTwo) × List XE × List TMark × List TSpan × List (List (List XK))
abbrev T17 := Int × List TSpan × Bool × Int × List (List Int) × List (List TLig) × List TCtx × List Qw × List (List TTwo) × List Xb × List Xb × List (List TTwo) × List XE × List TMark × List TSpan × List (List (List XK)) × Int
structure G7 where
 k : Int
 c : List TSpan
 all : Bool
 d : Int
 o : List (List Int)
 l : List (List TLig)
 r : List TCtx
def G7.t (g : G7) : T16 := (g.k, g.c, g.all, g.d, g.o, g.l, g.r, [], [], [], [], [], [], [], [], [])
def G7.p (x : G7 × Int) : T17 := (x.1.k, x.1.c, x.1.all, x.1.d, x.1.o, x.1.l, x.1.r, [], [], [], [], [], [], [], [], [], x.2)
def eachM (b : List Int) (p : Int) (sp : List TSpan) : Option (List Int × Int) := (num b p).bind fun n => if n = cnt sp then (row b (p + 2) n).bind fun l => some (l, p + 2 + n * 2) else none
def onesM (l : List Int) : List (List Int) := l.map fun x => [x]
def seqs (b : List Int) (base lo : Int) : List Int → Option (List (List Int))
 | [] => some []
 | x :: r => (seqM b (base + x) lo 0).bind fun q => (seqs b base lo r).bind fun t => some (q.1 :: t)
def ligs1 (b : List Int) (P : Int) : List Int → Option (List TLig)
 | [] => some []
 | y :: r => (num b (P + y)).bind fun g => (seqM b (P + y + 2) 1 1).bind fun q => (ligs1 b P r).bind fun t => some (⟨q.1, g⟩ :: t)
def ligsM (b : List Int) (base : Int) : Int → List Int → Option (List (List TLig))
 | _, [] => some []
 | tot, x :: r => (num b (base + x)).bind fun n => if tot + n ≤ 256 then (row b (base + x + 2) n).bind fun l => (ligs1 b (base + x) l).bind fun q => (ligsM b base (tot + n) r).bind fun t => some (q :: t) else none
def Xa3 (N : Nat) (b : List Int) (base p f : Int) : Option (G7 × Int) := (num b p).bind fun o => (cov N b (base + o)).bind fun c =>
 if f = 1 then (num b (p + 2)).bind fun d => some (⟨1, c, true, d, [], [], []⟩, p + 2 + 2) else if f = 2 then (eachM b (p + 2) c).bind fun r => some (⟨1, c, false, 0, onesM r.1, [], []⟩, r.2) else none
def Jk (N : Nat) (b : List Int) (base p k lo : Int) : Option (G7 × Int) := (num b p).bind fun o => (cov N b (base + o)).bind fun c => (eachM b (p + 2) c).bind fun r => (seqs b base lo r.1).bind fun s => some (⟨k, c, false, 0, s, [], []⟩, r.2)
def gLigs (N : Nat) (b : List Int) (base p : Int) : Option (G7 × Int) := (num b p).bind fun o => (cov N b (base + o)).bind fun c => (eachM b (p + 2) c).bind fun r => (ligsM b base 0 r.1).bind fun s => some (⟨4, c, false, 0, [], s, []⟩, r.2)
def gSets (N : Nat) (b : List Int) (base p : Int) : Option (List TSet × Int) := (seqM b p 0 0).bind fun q => (covs N b base q.1).bind fun s => some (s, q.2)
def Xak (N : Nat) (b : List Int) (base p : Int) : Option (G7 × Int) := (num b p).bind fun o => (cov N b (base + o)).bind fun c => (gSets N b base (p + 2)).bind fun s1 => (gSets N b base s1.2).bind fun s2 => (eachM b s2.2 c).bind fun r => some (⟨8, c, false, 0, onesM r.1, [], [⟨s1.1, [], s2.1, []⟩]⟩, r.2)
def gKind (N : Nat) (b : List Int) (p k : Int) (x : Option G7) : Option G7 :=
 if k = 5 then (Js N b p false).map fun r => ⟨5, [], false, 0, [], [], r.1⟩ else if k = 6 then (Js N b p true).map fun r => ⟨6, [], false, 0, [], [], r.1⟩
 else if 1 ≤ k ∧ k ≤ 8 then (num b p).bind fun f => if f = 1 ∨ k = 1 then
  (if k = 1 then (Xa3 N b p (p + 2) f).map (·.1) else if k = 2 then (Jk N b p (p + 2) 2 0).map (·.1) else if k = 3 then (Jk N b p (p + 2) 3 1).map (·.1) else if k = 4 then (gLigs N b p (p + 2)).map (·.1) else if k = 7 then x else (Xak N b p (p + 2)).map (·.1))
  else none
 else none
def gElse (N : Nat) (b : List Int) (p : Int) : Option G7 := (num b (p + 2)).bind fun k => if 0 ≤ u32 b (p + 2 + 2) ∧ k ≠ 7 ∧ u32 b (p + 2 + 2) ≤ (b.length : Int) then gKind N b (p + u32 b (p + 2 + 2)) k none else none
def gRead (N : Nat) (b : List Int) (p k : Int) : Option G7 := gKind N b p k (gElse N b p)
theorem Qj {N : Nat} (x : Bool) : Yh N x = some (if x = true then .inl () else .inr ()) := by
 unfold Yh
 cases x <;> rfl
theorem Ju {b : List Int} (hb : Bytes b) {p : Int} {sp : List TSpan} {l : List Int} {q : Int} (h : eachM b p sp = some (l, q)) : (l.length : Int) = cnt sp ∧ (∀ x ∈ l, 0 ≤ x ∧ x ≤ 65535) ∧ 0 ≤ q ∧ q ≤ (b.length : Int) ∧ 2 * (l.length : Int) ≤ (b.length : Int) := by
 unfold eachM at h
 obtain ⟨n, e1, h⟩ := Option.bind_eq_some_iff.1 h
 split at h
 ·
  obtain ⟨l2, e2, h⟩ := Option.bind_eq_some_iff.1 h
  cases h
  have c := Xy hb e1
  have r := Xw hb e2
  exact ⟨by omega, r.2.2.2.2.2, by omega, by omega, by omega⟩
 ·
  cases h
theorem gones_L1 {N : Nat} {l : List Int} (hl' : l.length ≤ 1000000) : ∀ (d k n : Nat) (s : List (List Int)), k + d = l.length → d < n → s.length ≤ k → QH N l n k s = some (s ++ onesM (l.drop k)) := by
 intro d
 induction d with
 | zero =>
  intro k n s hk hn hs
  obtain ⟨n, rfl⟩ : ∃ x, n = x + 1 := ⟨n - 1, by omega⟩
  rw [QH, if_neg (by omega), List.drop_eq_nil_of_le (by omega)]; simp [onesM]
 | succ d ih =>
  intro k n s hk hn hs
  obtain ⟨n, rfl⟩ : ∃ x, n = x + 1 := ⟨n - 1, by omega⟩
  have hkl : k < l.length := by omega
  rw [QH, if_pos (by omega), XY (List.getElem?_eq_getElem hkl), Option.bind_some, if_pos (by omega), w64 (x := (k : Int) + 1) (by omega) (by omega), show (k : Int) + 1 = ((k + 1 : Nat) : Int) by omega, ih (k + 1) n _ (by omega) (by omega) (by simp; omega), List.drop_eq_getElem_cons hkl, onesM, onesM, List.map_cons, List.append_assoc]
  rfl
theorem Xo3 {N : Nat} (hN : 1000000000000 < N) {l : List Int} (hl' : l.length ≤ 1000000) : Xb2 N l = some (onesM l) := by
 unfold Xb2
 have h := gones_L1 (N := N) hl' l.length 0 N [] (by omega) (by omega) (by simp)
 rw [List.drop_zero, List.nil_append] at h
 rw [show QH N l N 0 [] = _ from h, Option.bind_some]
theorem Xb4 {N : Nat} {b : List Int} (hb : Bytes b) {base p q : Int} {s : List TSet} (h : gSets N b base p = some (s, q)) : 0 ≤ q ∧ q ≤ (b.length : Int) := by
 unfold gSets at h
 obtain ⟨⟨l, q'⟩, e1, h⟩ := Option.bind_eq_some_iff.1 h
 obtain ⟨t, e2, h⟩ := Option.bind_eq_some_iff.1 h
 cases h
 obtain ⟨n, c1, c2, c3, c4, c5, c6, c7, _⟩ := Qz hb e1 (by omega) (by omega)
 exact ⟨c6, c7⟩
section
variable {N : Nat} (hN : 1000000000000 < N) {b : List Int} (hb : Bytes b) (hl : b.length ≤ 100000)
include hN hb hl
theorem ZT {a p : Int} (hp : p ≤ 1000000000000) : Xv N b a p = some (S (num b p)) := by
 unfold Xv num
 rw [U16_eq hN hb (by omega) p hp, Option.bind_some]
 by_cases h : u16 b p < 0
 ·
  rw [if_pos h, if_pos h]; rfl
 ·
  rw [if_neg h, if_neg h]; rfl
theorem Xdb {base q o : Int} (h0 : -1000000000 ≤ base) (h1 : base ≤ 1000000000) (h2 : 0 ≤ o) (h3 : o ≤ 65535) : Yv N b base q o = some (S (cov N b (base + o))) := by
 unfold Yv cov
 rw [w64 (x := base + o) (by omega) (by omega), (Xis hN hb (by omega) (base + o) (by omega) (by omega)).1, Option.bind_some]
 simp only
 rw [Qj, Option.bind_some]
 cases covOk b (base + o) <;> rfl
theorem Xnn {a p n : Int} (hp : p ≤ 1000000000000) (hn : n ≤ 1000000000000) : ZI N b a p n = some (S (row b p n)) := by
 unfold ZI row
 rw [Xgh hN hb (by omega) p n hp hn, Option.bind_some]
 by_cases h : 0 ≤ n ∧ 0 ≤ p ∧ p + 2 * n ≤ (b.length : Int)
 ·
  rw [if_pos h, if_pos h]; rfl
 ·
  rw [if_neg h, if_neg h]; rfl
theorem Xgx {a p : Int} {sp : List TSpan} (h0 : -1000000 ≤ p) (h1 : p ≤ 1000000) (hsp : RL 0 sp) : YQ N b a p sp = some (S (eachM b p sp)) := by
 unfold YQ eachM
 rw [ZT hN hb hl (by omega), Option.bind_some]
 cases e1 : num b p with
 | none => rfl
 | some n =>
  obtain ⟨_, na, nb, _⟩ := Xy hb e1
  simp only [S, Option.bind_some]
  rw [Xpx hN hsp hsp.l6, Option.bind_some, Qj, Option.bind_some]
  by_cases h : n = cnt sp
  ·
   rw [if_pos (by simpa using h), if_pos h]
   simp only
   rw [w64 (x := p + 2) (by omega) (by omega), Xnn hN hb hl (by omega) (by omega), Option.bind_some, w64 (x := n * 2) (by omega) (by omega), w64 (x := p + 2 + n * 2) (by omega) (by omega)]
   cases row b (p + 2) n <;> rfl
  ·
   rw [if_neg (by simpa using h), if_neg h]
theorem Xkw {a p lo cut : Int} (h0 : -1000000 ≤ p) (h1 : p ≤ 1000000) (h2 : 0 ≤ lo) (hc : 0 ≤ cut) (hc2 : cut ≤ lo) (h16 : lo ≤ 16) : Zn N b a p lo cut = some (S (seqM b p lo cut)) := by
 unfold Zn seqM cntr
 rw [ZT hN hb hl (by omega), Option.bind_some]
 cases e1 : num b p with
 | none => rfl
 | some n =>
  obtain ⟨_, na, nb, _⟩ := Xy hb e1
  simp only [S, Option.bind_some]
  by_cases g1 : lo ≤ n
  ·
   rw [if_pos g1, Qj, Option.bind_some]
   by_cases g2 : n ≤ 16
   ·
    rw [if_pos (by simpa using g2), if_pos ⟨g1, g2⟩, Option.bind_some]
    simp only
    rw [w64 (x := p + 2) (by omega) (by omega), w64 (x := n - cut) (by omega) (by omega), Xnn hN hb hl (by omega) (by omega), Option.bind_some, w64 (x := (n - cut) * 2) (by omega) (by omega), w64 (x := p + 2 + (n - cut) * 2) (by omega) (by omega)]
    cases row b (p + 2) (n - cut) <;> rfl
   ·
    rw [if_neg (by simpa using g2), if_neg (fun h => g2 h.2)]; rfl
  ·
   rw [if_neg g1, Qj, if_neg (show ¬ (lo ≤ n ∧ n ≤ 16) from fun h => g1 h.1)]; rfl
theorem Xdu {base p f : Int} (h0 : -1000000 ≤ base) (h1 : base ≤ 1000000) (h2 : -2000000 ≤ p) (h3 : p ≤ 900000) (h4 : -900000 ≤ p) : Yx N b base p f = some (S ((Xa3 N b base p f).map G7.p)) := by
 unfold Yx Xa3
 rw [ZT hN hb hl (by omega), Option.bind_some]
 cases e1 : num b p with
 | none => rfl
 | some o =>
  obtain ⟨_, oa, ob, _⟩ := Xy hb e1
  simp only [S, Option.bind_some]
  rw [Xdb hN hb hl (by omega) (by omega) oa ob, Option.bind_some]
  cases e2 : cov N b (base + o) with
  | none => rfl
  | some c =>
   have cr := Xdg hN hb (by omega) (by omega) (by omega) e2
   simp only [S, Option.bind_some]
   rw [w64 (x := p + 2) (by omega) (by omega)]
   by_cases g1 : f = 1
   ·
    rw [if_pos g1, if_pos g1, ZT hN hb hl (by omega), Option.bind_some, w64 (x := p + 2 + 2) (by omega) (by omega)]
    cases num b (p + 2) <;> rfl
   ·
    rw [if_neg g1, if_neg g1, Qj, Option.bind_some]
    by_cases g2 : f = 2
    ·
     rw [if_pos (by simpa using g2), if_pos g2]
     simp only
     rw [Xgx hN hb hl (by omega) (by omega) cr.1, Option.bind_some]
     cases e3 : eachM b (p + 2) c with
     | none => rfl
     | some r =>
      obtain ⟨l, q⟩ := r
      have er := Ju hb e3
      have cc := (Jd cr.1 0).2.2.2
      simp only [S, Option.bind_some]
      rw [Xo3 hN (by omega)]
      rfl
    ·
     rw [if_neg (by simpa using g2), if_neg g2]; rfl
theorem Xnm {base lo k4 q2 : Int} {c : List TSpan} (h0 : -1000000 ≤ base + 100000) (h0' : -900000 ≤ base) (h1 : base ≤ 900000) (h2 : 0 ≤ lo) (h16 : lo ≤ 16) {y : List Int} (hy : ∀ x ∈ y, 0 ≤ x ∧ x ≤ 65535) (hyl : y.length ≤ 1000000) : ∀ (d k n : Nat) (s : List (List Int)), k + d = y.length → d < n → s.length ≤ k →
  Ya N lo y b base q2 k4 c n k s = some (S ((seqs b base lo (y.drop k)).map fun t => s ++ t)) := by
 intro d
 induction d with
 | zero =>
  intro k n s hk hn hs
  obtain ⟨n, rfl⟩ : ∃ x, n = x + 1 := ⟨n - 1, by omega⟩
  rw [Ya, if_neg (by omega), List.drop_eq_nil_of_le (by omega)]
  simp [seqs, S]
 | succ d ih =>
  intro k n s hk hn hs
  obtain ⟨n, rfl⟩ : ∃ x, n = x + 1 := ⟨n - 1, by omega⟩
  have hkl : k < y.length := by omega
  have hx := hy y[k] (List.getElem_mem hkl)
  rw [Ya, if_pos (by omega), XY (List.getElem?_eq_getElem hkl), Option.bind_some, YP, Option.bind_some, w64 (x := base + y[k]) (by omega) (by omega), Xkw hN hb hl (by omega) (by omega) h2 (by omega) (by omega) h16, Option.bind_some, List.drop_eq_getElem_cons hkl]
  simp only [seqs]
  cases e1 : seqM b (base + y[k]) lo 0 with
  | none => rfl
  | some q =>
   simp only [S, Option.bind_some]
   rw [if_pos (by omega), w64 (x := (k : Int) + 1) (by omega) (by omega), show (k : Int) + 1 = ((k + 1 : Nat) : Int) by omega, ih (k + 1) n _ (by omega) (by omega) (by simp; omega)]
   cases seqs b base lo (y.drop (k + 1)) with
   | none => rfl
   | some t => simp [S]
theorem Xcp {base p k lo : Int} (h0 : -900000 ≤ base) (h1 : base ≤ 900000) (h2 : 0 ≤ lo) (h16 : lo ≤ 16) (h3 : p ≤ 900000) (h4 : -900000 ≤ p) : Xr N b base p k lo = some (S ((Jk N b base p k lo).map G7.p)) := by
 unfold Xr Jk
 rw [ZT hN hb hl (by omega), Option.bind_some]
 cases e1 : num b p with
 | none => rfl
 | some o =>
  obtain ⟨_, oa, ob, _⟩ := Xy hb e1
  simp only [S, Option.bind_some]
  rw [Xdb hN hb hl (by omega) (by omega) oa ob, Option.bind_some]
  cases e2 : cov N b (base + o) with
  | none => rfl
  | some c =>
   have cr := Xdg hN hb (by omega) (by omega) (by omega) e2
   simp only [S, Option.bind_some]
   rw [w64 (x := p + 2) (by omega) (by omega), Xgx hN hb hl (by omega) (by omega) cr.1, Option.bind_some]
   cases e3 : eachM b (p + 2) c with
   | none => rfl
   | some r =>
    obtain ⟨l, q⟩ := r
    have er := Ju hb e3
    have cc := (Jd cr.1 0).2.2.2
    simp only [S, Option.bind_some]
    have e := Xnm hN hb hl (base := base) (lo := lo) (k4 := k) (q2 := q) (c := c) (by omega) h0 h1 h2 h16 er.2.1 (by omega) l.length 0 N [] (by omega) (by omega) (by simp)
    rw [List.drop_zero] at e
    rw [show Ya N lo l b base q k c N 0 [] = _ from e, Option.bind_some]
    cases seqs b base lo l <;> rfl
theorem gligs_L3 {base tot n4 x i15 q2 : Int} {y9 l : List Int} {c : List TSpan} {s16 : List (List TLig)} (h0' : -800000 ≤ base) (h1 : base ≤ 800000) (hx0 : 0 ≤ x) (hx1 : x ≤ 65535) (hy : ∀ x ∈ l, 0 ≤ x ∧ x ≤ 65535) (hyl : l.length ≤ 1000000) : ∀ (d k n : Nat) (j : Int) (s : List TLig), k + d = l.length → d < n → s.length ≤ k →
  XU N tot n4 y9 i15 l b base q2 c s16 x n k j s = some (S ((ligs1 b (base + x) (l.drop k)).map fun t => s ++ t)) := by
 intro d
 induction d with
 | zero =>
  intro k n j s hk hn hs
  obtain ⟨n, rfl⟩ : ∃ x, n = x + 1 := ⟨n - 1, by omega⟩
  rw [XU, if_neg (by omega), List.drop_eq_nil_of_le (by omega)]
  simp [ligs1, S]
 | succ d ih =>
  intro k n j s hk hn hs
  obtain ⟨n, rfl⟩ : ∃ x, n = x + 1 := ⟨n - 1, by omega⟩
  have hkl : k < l.length := by omega
  have hx := hy l[k] (List.getElem_mem hkl)
  rw [XU, if_pos (by omega), XY (List.getElem?_eq_getElem hkl), Option.bind_some, YP, Option.bind_some, w64 (x := base + x) (by omega) (by omega), w64 (x := base + x + l[k]) (by omega) (by omega), w64 (x := base + x + l[k] + 2) (by omega) (by omega), ZT hN hb hl (by omega), Option.bind_some, List.drop_eq_getElem_cons hkl]
  simp only [ligs1]
  cases e1 : num b (base + x + l[k]) with
  | none => rfl
  | some g =>
   simp only [S, Option.bind_some]
   rw [Xkw hN hb hl (by omega) (by omega) (by omega) (by omega) (by omega) (by omega), Option.bind_some]
   cases e2 : seqM b (base + x + l[k] + 2) 1 1 with
   | none => rfl
   | some q =>
    simp only [S, Option.bind_some]
    rw [if_pos (by omega), w64 (x := (k : Int) + 1) (by omega) (by omega), show (k : Int) + 1 = ((k + 1 : Nat) : Int) by omega, ih (k + 1) n _ _ (by omega) (by omega) (by simp; omega)]
    cases ligs1 b (base + x) (l.drop (k + 1)) with
    | none => rfl
    | some t => simp [S]
theorem gligs_L4 {base q2 : Int} {y : List Int} {c : List TSpan} (h0' : -800000 ≤ base) (h1 : base ≤ 800000) (hy : ∀ x ∈ y, 0 ≤ x ∧ x ≤ 65535) (hyl : y.length ≤ 1000000) : ∀ (d k n : Nat) (tot : Int) (s : List (List TLig)), k + d = y.length → d < n → s.length ≤ k → 0 ≤ tot → tot ≤ 256 →
  XT N y b base q2 c n tot k s = some (S ((ligsM b base tot (y.drop k)).map fun t => s ++ t)) := by
 intro d
 induction d with
 | zero =>
  intro k n tot s hk hn hs ht ht2
  obtain ⟨n, rfl⟩ : ∃ x, n = x + 1 := ⟨n - 1, by omega⟩
  rw [XT, if_neg (by omega), List.drop_eq_nil_of_le (by omega)]
  simp [ligsM, S]
 | succ d ih =>
  intro k n tot s hk hn hs ht ht2
  obtain ⟨n, rfl⟩ : ∃ x, n = x + 1 := ⟨n - 1, by omega⟩
  have hkl : k < y.length := by omega
  have hx := hy y[k] (List.getElem_mem hkl)
  rw [XT, if_pos (by omega), XY (List.getElem?_eq_getElem hkl), Option.bind_some, YP, Option.bind_some, w64 (x := base + y[k]) (by omega) (by omega), ZT hN hb hl (by omega), Option.bind_some, List.drop_eq_getElem_cons hkl]
  simp only [ligsM]
  cases e1 : num b (base + y[k]) with
  | none => rfl
  | some m =>
   obtain ⟨_, ma, mb, _⟩ := Xy hb e1
   simp only [S, Option.bind_some]
   rw [w64 (x := tot + m) (by omega) (by omega), Qj, Option.bind_some]
   by_cases g1 : tot + m ≤ 256
   ·
    rw [if_pos (by simpa using g1), if_pos g1]
    simp only
    rw [w64 (x := base + y[k] + 2) (by omega) (by omega), Xnn hN hb hl (by omega) (by omega), Option.bind_some]
    cases e2 : row b (base + y[k] + 2) m with
    | none => rfl
    | some l =>
     obtain ⟨_, ll, _, _, _, lx⟩ := Xw hb e2
     simp only [S, Option.bind_some]
     have e := fun j => gligs_L3 hN hb hl (base := base) (tot := tot) (n4 := m) (x := y[k]) (i15 := (k : Int)) (q2 := q2) (y9 := y) (l := l) (c := c) (s16 := s) h0' h1 hx.1 hx.2 lx (by omega) l.length 0 N j [] (by omega) (by omega) (by simp)
     simp only [List.drop_zero] at e
     rw [show XU N tot m y (k : Int) l b base q2 c s y[k] N 0 _ [] = _ from e _, Option.bind_some]
     cases e4 : ligs1 b (base + y[k]) l with
     | none => rfl
     | some t =>
      simp only [S, Option.map_some, Option.bind_some, List.nil_append]
      rw [if_pos (by omega), w64 (x := (k : Int) + 1) (by omega) (by omega), show (k : Int) + 1 = ((k + 1 : Nat) : Int) by omega, ih (k + 1) n _ _ (by omega) (by omega) (by simp; omega) (by omega) g1]
      cases ligsM b base (tot + m) (y.drop (k + 1)) with
      | none => rfl
      | some t => simp [S]
   ·
    rw [if_neg (by simpa using g1), if_neg g1]; rfl
theorem Xo5 {base p : Int} (h0 : -800000 ≤ base) (h1 : base ≤ 800000) (h3 : p ≤ 900000) (h4 : -900000 ≤ p) : YG N b base p = some (S ((gLigs N b base p).map G7.p)) := by
 unfold YG gLigs
 rw [ZT hN hb hl (by omega), Option.bind_some]
 cases e1 : num b p with
 | none => rfl
 | some o =>
  obtain ⟨_, oa, ob, _⟩ := Xy hb e1
  simp only [S, Option.bind_some]
  rw [Xdb hN hb hl (by omega) (by omega) oa ob, Option.bind_some]
  cases e2 : cov N b (base + o) with
  | none => rfl
  | some c =>
   have cr := Xdg hN hb (by omega) (by omega) (by omega) e2
   simp only [S, Option.bind_some]
   rw [w64 (x := p + 2) (by omega) (by omega), Xgx hN hb hl (by omega) (by omega) cr.1, Option.bind_some]
   cases e3 : eachM b (p + 2) c with
   | none => rfl
   | some r =>
    obtain ⟨l, q⟩ := r
    have er := Ju hb e3
    have cc := (Jd cr.1 0).2.2.2
    simp only [S, Option.bind_some]
    have e := gligs_L4 hN hb hl (base := base) (q2 := q) (c := c) h0 h1 er.2.1 (by omega) l.length 0 N 0 [] (by omega) (by omega) (by simp) (by omega) (by omega)
    rw [List.drop_zero] at e
    rw [show XT N l b base q c N 0 0 [] = _ from e, Option.bind_some]
    cases ligsM b base 0 l <;> rfl
theorem gsets_L1 {base q2 : Int} {y : List Int} (h0' : -800000 ≤ base) (h1 : base ≤ 800000) (hy : ∀ x ∈ y, 0 ≤ x ∧ x ≤ 65535) (hyl : y.length ≤ 1000000) : ∀ (d k n : Nat) (s : List TSet), k + d = y.length → d < n → s.length ≤ k →
  Yo N y b base q2 n k s = some (S ((covs N b base (y.drop k)).map fun t => s ++ t)) := by
 intro d
 induction d with
 | zero =>
  intro k n s hk hn hs
  obtain ⟨n, rfl⟩ : ∃ x, n = x + 1 := ⟨n - 1, by omega⟩
  rw [Yo, if_neg (by omega), List.drop_eq_nil_of_le (by omega)]
  simp [covs, S]
 | succ d ih =>
  intro k n s hk hn hs
  obtain ⟨n, rfl⟩ : ∃ x, n = x + 1 := ⟨n - 1, by omega⟩
  have hkl : k < y.length := by omega
  have hx := hy y[k] (List.getElem_mem hkl)
  rw [Yo, if_pos (by omega), XY (List.getElem?_eq_getElem hkl), Option.bind_some, Xdb hN hb hl (by omega) (by omega) hx.1 hx.2, Option.bind_some, List.drop_eq_getElem_cons hkl]
  simp only [covs]
  cases cov N b (base + y[k]) with
  | none => rfl
  | some q =>
   simp only [S, Option.bind_some]
   rw [if_pos (by omega), w64 (x := (k : Int) + 1) (by omega) (by omega), show (k : Int) + 1 = ((k + 1 : Nat) : Int) by omega, ih (k + 1) n _ (by omega) (by omega) (by simp; omega)]
   cases covs N b base (y.drop (k + 1)) with
   | none => rfl
   | some t => simp [S]
theorem Xou {base p : Int} (h0 : -800000 ≤ base) (h1 : base ≤ 800000) (h3 : p ≤ 900000) (h4 : -900000 ≤ p) : ZR N b base p = some (S (gSets N b base p)) := by
 unfold ZR gSets
 rw [Xkw hN hb hl (by omega) (by omega) (by omega) (by omega) (by omega) (by omega), Option.bind_some]
 cases e1 : seqM b p 0 0 with
 | none => rfl
 | some r =>
  obtain ⟨l, q⟩ := r
  obtain ⟨n, c1, c2, c3, c4, c5, _⟩ := Qz hb e1 (by omega) (by omega)
  simp only [S, Option.bind_some]
  have e := gsets_L1 hN hb hl (base := base) (q2 := q) h0 h1 c4 (by omega) l.length 0 N [] (by omega) (by omega) (by simp)
  rw [List.drop_zero] at e
  rw [show Yo N l b base q N 0 [] = _ from e, Option.bind_some]
  cases covs N b base l <;> rfl
theorem Xia {base p : Int} (h0 : -800000 ≤ base) (h1 : base ≤ 800000) (h3 : p ≤ 800000) (h4 : -800000 ≤ p) : YX N b base p = some (S ((Xak N b base p).map G7.p)) := by
 unfold YX Xak
 rw [ZT hN hb hl (by omega), Option.bind_some]
 cases e1 : num b p with
 | none => rfl
 | some o =>
  obtain ⟨_, oa, ob, _⟩ := Xy hb e1
  simp only [S, Option.bind_some]
  rw [Xdb hN hb hl (by omega) (by omega) oa ob, Option.bind_some]
  cases e2 : cov N b (base + o) with
  | none => rfl
  | some c =>
   have cr := Xdg hN hb (by omega) (by omega) (by omega) e2
   simp only [S, Option.bind_some]
   rw [w64 (x := p + 2) (by omega) (by omega), Xou hN hb hl (by omega) (by omega) (by omega) (by omega), Option.bind_some]
   cases e3 : gSets N b base (p + 2) with
   | none => rfl
   | some r =>
    obtain ⟨s1, q1⟩ := r
    have b1 := Xb4 hb e3
    simp only [S, Option.bind_some]
    rw [Xou hN hb hl (by omega) (by omega) (by omega) (by omega), Option.bind_some]
    cases e4 : gSets N b base q1 with
    | none => rfl
    | some r =>
     obtain ⟨s2, q2⟩ := r
     have b2 := Xb4 hb e4
     simp only [S, Option.bind_some]
     rw [Xgx hN hb hl (by omega) (by omega) cr.1, Option.bind_some]
     cases e5 : eachM b q2 c with
     | none => rfl
     | some r =>
      obtain ⟨l, q⟩ := r
      have er := Ju hb e5
      have cc := (Jd cr.1 0).2.2.2
      simp only [S, Option.bind_some]
      rw [Xo3 hN (by omega)]
      rfl
end
section
variable {N : Nat} (hN : 1000000000000 < N) {b : List Int} (hb : Bytes b) (hl : b.length ≤ 100000)
include hN hb hl
theorem Xf8 {p q k : Int} (h0 : -700000 ≤ p) (h1 : p ≤ 700000) : YO N b p q k = some (S ((Js N b p false).map fun r => G7.t ⟨k, [], false, 0, [], [], r.1⟩)) := by
 unfold YO JH
 rw [Xn6 hN hb (by omega) (by omega) (by omega), Option.bind_some]
 cases Js N b p false <;> rfl
theorem Xjx {p q k : Int} (h0 : -700000 ≤ p) (h1 : p ≤ 700000) : Yw N b p q k = some (S ((Js N b p true).map fun r => G7.t ⟨k, [], false, 0, [], [], r.1⟩)) := by
 unfold Yw Xao
 rw [Xn6 hN hb (by omega) (by omega) (by omega), Option.bind_some]
 cases Js N b p true <;> rfl
theorem gkind_eq {p k : Int} (h0 : -500000 ≤ p) (h1 : p ≤ 500000) (h7 : k ≠ 7) : Xac N b p k = some (S ((gKind N b p k none).map G7.t)) := by
 unfold Xac gKind
 by_cases k5 : k = 5
 ·
  rw [if_pos k5, if_pos k5, Xf8 hN hb hl (by omega) (by omega), Option.bind_some, k5]
  cases Js N b p false <;> rfl
 rw [if_neg k5, if_neg k5]
 by_cases k6 : k = 6
 ·
  rw [if_pos k6, if_pos k6, Xjx hN hb hl (by omega) (by omega), Option.bind_some, k6]
  cases Js N b p true <;> rfl
 rw [if_neg k6, if_neg k6]
 by_cases g1 : 1 ≤ k
 rotate_left
 ·
  rw [if_neg g1, if_neg (show ¬ (1 ≤ k ∧ k ≤ 8) from fun h => g1 h.1), Qj]; rfl
 rw [if_pos g1, Qj, Option.bind_some]
 by_cases g8 : k ≤ 8
 rotate_left
 ·
  rw [if_neg (by simpa using g8), if_neg (show ¬ (1 ≤ k ∧ k ≤ 8) from fun h => g8 h.2)]; rfl
 rw [if_pos (by simpa using g8), if_pos (show 1 ≤ k ∧ k ≤ 8 from ⟨g1, g8⟩)]
 simp only
 rw [ZT hN hb hl (by omega), Option.bind_some]
 cases e1 : num b p with
 | none => rfl
 | some f =>
  obtain ⟨_, fa, fb, _⟩ := Xy hb e1
  simp only [S, Option.bind_some]
  rw [w64 (x := p + 2) (by omega) (by omega)]
  by_cases f1 : f = 1
  ·
   rw [if_pos f1, if_pos (show f = 1 ∨ k = 1 from .inl f1), Qj, if_pos rfl, Option.bind_some]
   simp only
   by_cases k1 : k = 1
   ·
    rw [if_pos k1, if_pos k1, Xdu hN hb hl (by omega) (by omega) (by omega) (by omega) (by omega), Option.bind_some]
    cases Xa3 N b p (p + 2) f <;> rfl
   rw [if_neg k1, if_neg k1]
   by_cases k2 : k = 2
   ·
    rw [if_pos k2, if_pos k2, show Xr N b p (p + 2) k 0 = Xr N b p (p + 2) 2 0 by rw [k2], Xcp hN hb hl (by omega) (by omega) (by omega) (by omega) (by omega) (by omega), Option.bind_some]
    cases Jk N b p (p + 2) 2 0 <;> rfl
   rw [if_neg k2, if_neg k2]
   by_cases k3 : k = 3
   ·
    rw [if_pos k3, if_pos k3, show Xr N b p (p + 2) k 1 = Xr N b p (p + 2) 3 1 by rw [k3], Xcp hN hb hl (by omega) (by omega) (by omega) (by omega) (by omega) (by omega), Option.bind_some]
    cases Jk N b p (p + 2) 3 1 <;> rfl
   rw [if_neg k3, if_neg k3]
   by_cases k4 : k = 4
   ·
    rw [if_pos k4, if_pos k4, Xo5 hN hb hl (by omega) (by omega) (by omega) (by omega), Option.bind_some]
    cases gLigs N b p (p + 2) <;> rfl
   rw [if_neg k4, if_neg k4]
   rw [if_neg h7, if_neg h7, Xia hN hb hl (by omega) (by omega) (by omega) (by omega), Option.bind_some]
   cases Xak N b p (p + 2) <;> rfl
  ·
   rw [if_neg f1, Qj, Option.bind_some]
   by_cases k1 : k = 1
   ·
    rw [if_pos (show f = 1 ∨ k = 1 from .inr k1), if_pos (by simpa using k1)]
    simp only
    rw [if_pos k1, Xdu hN hb hl (by omega) (by omega) (by omega) (by omega) (by omega), Option.bind_some]
    cases Xa3 N b p (p + 2) f <;> rfl
   ·
    rw [if_neg (show ¬ (f = 1 ∨ k = 1) from fun h => h.elim f1 k1), if_neg (by simpa using k1)]; rfl
theorem gelse_eq {p : Int} (h0 : -300000 ≤ p) (h1 : p ≤ 300000) : Ze N b p (p + 2) = some (S ((gElse N b p).map G7.t)) := by
 unfold Ze gElse
 rw [ZT hN hb hl (by omega), Option.bind_some]
 cases e1 : num b (p + 2) with
 | none => rfl
 | some k =>
  simp only [S, Option.bind_some]
  rw [w64 (x := p + 2 + 2) (by omega) (by omega), U32_eq hN hb (by omega) _ (by omega), Option.bind_some]
  by_cases g1 : u32 b (p + 2 + 2) < 0
  ·
   rw [if_pos g1, if_neg (show ¬ (0 ≤ u32 b (p + 2 + 2) ∧ k ≠ 7 ∧ u32 b (p + 2 + 2) ≤ (b.length : Int)) from fun h => by omega)]
   simp only [Bool.false_eq_true, if_false]
   rw [Qj]; rfl
  ·
   rw [if_neg g1]
   simp only [if_true]
   by_cases g7 : k = 7
   ·
    rw [if_pos g7, if_neg (show ¬ (0 ≤ u32 b (p + 2 + 2) ∧ k ≠ 7 ∧ u32 b (p + 2 + 2) ≤ (b.length : Int)) from fun h => h.2.1 g7), Qj]; rfl
   ·
    rw [if_neg g7, Qj, Option.bind_some]
    by_cases gl : u32 b (p + 2 + 2) ≤ (b.length : Int)
    ·
     rw [if_pos (by simpa using gl), if_pos (show 0 ≤ u32 b (p + 2 + 2) ∧ k ≠ 7 ∧ u32 b (p + 2 + 2) ≤ (b.length : Int) from ⟨by omega, g7, gl⟩)]
     simp only
     rw [w64 (x := p + u32 b (p + 2 + 2)) (by omega) (by omega), gkind_eq hN hb hl (by omega) (by omega) g7, Option.bind_some]
     cases gKind N b (p + u32 b (p + 2 + 2)) k none <;> rfl
    ·
     rw [if_neg (by simpa using gl), if_neg (show ¬ (0 ≤ u32 b (p + 2 + 2) ∧ k ≠ 7 ∧ u32 b (p + 2 + 2) ≤ (b.length : Int)) from fun h => gl h.2.2)]; rfl
theorem gread_eq {p k : Int} (h0 : -300000 ≤ p) (h1 : p ≤ 300000) : Xc9 N b p k = some (S ((gRead N b p k).map G7.t)) := by
 unfold Xc9 gRead gKind
 by_cases k5 : k = 5
 ·
  rw [if_pos k5, if_pos k5, Xf8 hN hb hl (by omega) (by omega), Option.bind_some, k5]
  cases Js N b p false <;> rfl
 rw [if_neg k5, if_neg k5]
 by_cases k6 : k = 6
 ·
  rw [if_pos k6, if_pos k6, Xjx hN hb hl (by omega) (by omega), Option.bind_some, k6]
  cases Js N b p true <;> rfl
 rw [if_neg k6, if_neg k6]
 by_cases g1 : 1 ≤ k
 rotate_left
 ·
  rw [if_neg g1, if_neg (show ¬ (1 ≤ k ∧ k ≤ 8) from fun h => g1 h.1), Qj]; rfl
 rw [if_pos g1, Qj, Option.bind_some]
 by_cases g8 : k ≤ 8
 rotate_left
 ·
  rw [if_neg (by simpa using g8), if_neg (show ¬ (1 ≤ k ∧ k ≤ 8) from fun h => g8 h.2)]; rfl
 rw [if_pos (by simpa using g8), if_pos (show 1 ≤ k ∧ k ≤ 8 from ⟨g1, g8⟩)]
 simp only
 rw [ZT hN hb hl (by omega), Option.bind_some]
 cases e1 : num b p with
 | none => rfl
 | some f =>
  obtain ⟨_, fa, fb, _⟩ := Xy hb e1
  simp only [S, Option.bind_some]
  rw [w64 (x := p + 2) (by omega) (by omega)]
  by_cases f1 : f = 1
  ·
   rw [if_pos f1, if_pos (show f = 1 ∨ k = 1 from .inl f1), Qj, if_pos rfl, Option.bind_some]
   simp only
   by_cases k1 : k = 1
   ·
    rw [if_pos k1, if_pos k1, Xdu hN hb hl (by omega) (by omega) (by omega) (by omega) (by omega), Option.bind_some]
    cases Xa3 N b p (p + 2) f <;> rfl
   rw [if_neg k1, if_neg k1]
   by_cases k2 : k = 2
   ·
    rw [if_pos k2, if_pos k2, show Xr N b p (p + 2) k 0 = Xr N b p (p + 2) 2 0 by rw [k2], Xcp hN hb hl (by omega) (by omega) (by omega) (by omega) (by omega) (by omega), Option.bind_some]
    cases Jk N b p (p + 2) 2 0 <;> rfl
   rw [if_neg k2, if_neg k2]
   by_cases k3 : k = 3
   ·
    rw [if_pos k3, if_pos k3, show Xr N b p (p + 2) k 1 = Xr N b p (p + 2) 3 1 by rw [k3], Xcp hN hb hl (by omega) (by omega) (by omega) (by omega) (by omega) (by omega), Option.bind_some]
    cases Jk N b p (p + 2) 3 1 <;> rfl
   rw [if_neg k3, if_neg k3]
   by_cases k4 : k = 4
   ·
    rw [if_pos k4, if_pos k4, Xo5 hN hb hl (by omega) (by omega) (by omega) (by omega), Option.bind_some]
    cases gLigs N b p (p + 2) <;> rfl
   rw [if_neg k4, if_neg k4]
   by_cases k7 : k = 7
   ·
    rw [if_pos k7, if_pos k7, gelse_eq hN hb hl (by omega) (by omega), Option.bind_some]
    cases gElse N b p <;> rfl
   rw [if_neg k7, if_neg k7, Xia hN hb hl (by omega) (by omega) (by omega) (by omega), Option.bind_some]
   cases Xak N b p (p + 2) <;> rfl
  ·
   rw [if_neg f1, Qj, Option.bind_some]
   by_cases k1 : k = 1
   ·
    rw [if_pos (show f = 1 ∨ k = 1 from .inr k1), if_pos (by simpa using k1)]
    simp only
    rw [if_pos k1, Xdu hN hb hl (by omega) (by omega) (by omega) (by omega) (by omega), Option.bind_some]
    cases Xa3 N b p (p + 2) f <;> rfl
   ·
    rw [if_neg (show ¬ (f = 1 ∨ k = 1) from fun h => h.elim f1 k1), if_neg (by simpa using k1)]; rfl
theorem gRead_eq {p k : Int} (h0 : -300000 ≤ p) (h1 : p ≤ 300000) : Xda N b p k = some (match gRead N b p k with
  | some g => (g.k, g.c, g.all, g.d, g.o, g.l, g.r, [], [], [], [], [], [], [], [], [], true)
  | none => (0, [], false, 0, [], [], [], [], [], [], [], [], [], [], [], [], false)) := by
 unfold Xda
 rw [gread_eq hN hb hl (by omega) (by omega), Option.bind_some]
 cases gRead N b p k <;> rfl
end
abbrev R : Int := 140737488351232
structure Small (l_4 : List (List Int)) (l_5 : List (List TLig)) (l_6 : List TCtx) : Prop where
 t : l_4.length ≤ 500
 t1 : ∀ x ∈ l_4, (x.length : Int) * 8 ≤ R
 g : l_5.length ≤ 500
 g1 : ∀ x ∈ l_5, x.length ≤ 500
 g2 : ∀ x ∈ l_5, ∀ y ∈ x, (y.Parts.length : Int) * 8 ≤ R
 c : l_6.length ≤ 100
 c1 : ∀ c ∈ l_6, c.Back.length ≤ 100 ∧ c.In.length ≤ 100 ∧ c.Ahead.length ≤ 100 ∧ (c.Acts.length : Int) * 16 ≤ R
 c2 : ∀ c ∈ l_6, (∀ s ∈ c.Back, (s.Spans.length : Int) * 16 ≤ R) ∧ (∀ s ∈ c.In, (s.Spans.length : Int) * 16 ≤ R) ∧ (∀ s ∈ c.Ahead, (s.Spans.length : Int) * 16 ≤ R)
structure GoodG (g : G7) : Prop where
 s : Small g.o g.l g.r
 d : 0 ≤ g.d ∧ g.d ≤ 65535
 v : ∀ x ∈ g.o, ∀ y ∈ x, 0 ≤ y ∧ y ≤ 65535
 c : RL 0 g.c
 k : (g.k = 1 ∧ ((g.all = true ∧ g.o = []) ∨ (g.all = false ∧ (g.o.length : Int) = cnt g.c))) ∨ ((g.k = 2 ∨ g.k = 3 ∨ g.k = 8) ∧ (g.o.length : Int) = cnt g.c) ∨ (g.k = 4 ∧ (g.l.length : Int) = cnt g.c) ∨ g.k = 5 ∨ g.k = 6
 i : ∀ x ∈ g.o, x.length ≤ 16
 m : (g.k = 1 ∧ g.l = [] ∧ g.r = []) ∨ ((g.k = 2 ∨ g.k = 3) ∧ g.l = [] ∧ g.r = []) ∨ g.k = 4 ∨ g.k = 5 ∨ g.k = 6 ∨ g.k = 8
theorem Xlq {l : List Int} (h : ∀ x ∈ l, 0 ≤ x ∧ x ≤ 65535) : ∀ x ∈ onesM l, x.length = 1 ∧ ∀ y ∈ x, 0 ≤ y ∧ y ≤ 65535 := fun x hx => by
 obtain ⟨y, hy, rfl⟩ := List.mem_map.1 hx
 exact ⟨rfl, fun z hz => by rw [List.mem_singleton.1 hz]; exact h y hy⟩
theorem Xoa {b : List Int} (hb : Bytes b) {base lo : Int} (h0 : 0 ≤ lo) : ∀ {l : List Int} {t : List (List Int)}, seqs b base lo l = some t → t.length = l.length ∧ ∀ x ∈ t, x.length ≤ 16 ∧ ∀ y ∈ x, 0 ≤ y ∧ y ≤ 65535
 | [], t, h => by cases h; simp
 | x :: r, t, h => by
  simp only [seqs] at h
  obtain ⟨⟨q, e⟩, e1, h⟩ := Option.bind_eq_some_iff.1 h
  obtain ⟨t2, e2, h⟩ := Option.bind_eq_some_iff.1 h
  cases h
  obtain ⟨n, c1, c2, c3, c4, c5, _⟩ := Qz hb e1 (by omega) (by omega)
  obtain ⟨g1, g2⟩ := Xoa hb h0 e2
  refine ⟨by simp [g1], fun x hx => ?_⟩
  rcases List.mem_cons.1 hx with rfl | hx
  ·
   exact ⟨c5, c4⟩
  ·
   exact g2 x hx
theorem Xlw {b : List Int} (hb : Bytes b) {P : Int} : ∀ {l : List Int} {t : List TLig}, ligs1 b P l = some t → t.length = l.length ∧ ∀ x ∈ t, x.Parts.length ≤ 16
 | [], t, h => by cases h; simp
 | x :: r, t, h => by
  simp only [ligs1] at h
  obtain ⟨g, e0, h⟩ := Option.bind_eq_some_iff.1 h
  obtain ⟨⟨q, e⟩, e1, h⟩ := Option.bind_eq_some_iff.1 h
  obtain ⟨t2, e2, h⟩ := Option.bind_eq_some_iff.1 h
  cases h
  obtain ⟨n, c1, c2, c3, c4, c5, _⟩ := Qz hb e1 (by omega) (by omega)
  obtain ⟨g1, g2⟩ := Xlw hb e2
  refine ⟨by simp [g1], fun x hx => ?_⟩
  rcases List.mem_cons.1 hx with rfl | hx
  ·
   exact c5
  ·
   exact g2 x hx
theorem Xh0 {b : List Int} (hb : Bytes b) {base : Int} : ∀ {l : List Int} {tot : Int} {t : List (List TLig)}, 0 ≤ tot → ligsM b base tot l = some t → t.length = l.length ∧ ∀ x ∈ t, x.length ≤ 256 ∧ ∀ y ∈ x, y.Parts.length ≤ 16
 | [], tot, t, _, h => by cases h; simp
 | x :: r, tot, t, h0, h => by
  simp only [ligsM] at h
  obtain ⟨n, e0, h⟩ := Option.bind_eq_some_iff.1 h
  split at h
  ·
   rename_i hle
   obtain ⟨l, e1, h⟩ := Option.bind_eq_some_iff.1 h
   obtain ⟨q, e2, h⟩ := Option.bind_eq_some_iff.1 h
   obtain ⟨t2, e3, h⟩ := Option.bind_eq_some_iff.1 h
   cases h
   have c := Xy hb e0
   have rr := Xw hb e1
   obtain ⟨g1, g2⟩ := Xlw hb e2
   obtain ⟨g3, g4⟩ := Xh0 hb (tot := tot + n) (by omega) e3
   refine ⟨by simp [g3], fun x hx => ?_⟩
   rcases List.mem_cons.1 hx with rfl | hx
   ·
    exact ⟨by omega, g2⟩
   ·
    exact g4 x hx
  ·
   cases h
theorem R_val : R = 140737488351232 := rfl
theorem Xm1 {o : List (List Int)} (h : o.length ≤ 500) (h1 : ∀ x ∈ o, x.length ≤ 16) : Small o [] [] :=
 ⟨h, fun x hx => by have := h1 x hx; have := R_val; omega, by simp, by simp, by simp, by simp, by simp, by simp⟩
theorem small_r {o : List (List Int)} {r : List TCtx} (h : o.length ≤ 500) (h1 : ∀ x ∈ o, x.length ≤ 16) (hr : r.length ≤ 64) (hc : ∀ c ∈ r, CtxOk c) : Small o [] r :=
 ⟨h, fun x hx => by have := h1 x hx; have := R_val; omega, by simp, by simp, by simp, by omega, fun c h => by have := hc c h; exact ⟨by have := this.1; omega, by have := this.2.1; omega, by have := this.2.2.1; omega, by have := this.2.2.2.1; have := R_val; omega⟩,
  fun c h => ⟨fun s hs => by have := (hc c h).2.2.2.2.1 s hs; unfold SetOk at this; have := R_val; omega, fun s hs => by have := (hc c h).2.2.2.2.2.1 s hs; unfold SetOk at this; have := R_val; omega, fun s hs => by have := (hc c h).2.2.2.2.2.2 s hs; unfold SetOk at this; have := R_val; omega⟩⟩
section
variable {N : Nat} (hN : 1000000000000 < N) {b : List Int} (hb : Bytes b) (hl : b.length ≤ 1000)
include hN hb hl
theorem Xl6 {base p f : Int} (h0 : -700000 ≤ base) (h1 : base ≤ 700000) {r : G7 × Int} (h : Xa3 N b base p f = some r) : GoodG r.1 := by
 unfold Xa3 at h
 obtain ⟨o, e1, h⟩ := Option.bind_eq_some_iff.1 h
 obtain ⟨c, e2, h⟩ := Option.bind_eq_some_iff.1 h
 have oo := Xy hb e1
 have cr := Xdg hN hb (by omega) (by omega) (by omega) e2
 split at h
 ·
  obtain ⟨d, e3, h⟩ := Option.bind_eq_some_iff.1 h
  cases h
  have dd := Xy hb e3
  exact ⟨Xm1 (by simp) (by simp), ⟨dd.2.1, dd.2.2.1⟩, by simp, cr.1, .inl ⟨rfl, .inl ⟨rfl, rfl⟩⟩, by simp, .inl ⟨rfl, rfl, rfl⟩⟩
 ·
  split at h
  ·
   obtain ⟨⟨l, q⟩, e3, h⟩ := Option.bind_eq_some_iff.1 h
   cases h
   have er := Ju hb e3
   have om := Xlq er.2.1
   have ol : (onesM l).length = l.length := by simp [onesM]
   exact ⟨Xm1 (by simp only; omega) (fun x hx => by have := (om x hx).1; omega), by simp, fun x hx => (om x hx).2, cr.1, .inl ⟨rfl, .inr ⟨rfl, by simp only; omega⟩⟩, fun x hx => by have := (om x hx).1; omega, .inl ⟨rfl, rfl, rfl⟩⟩
  ·
   cases h
theorem Xex {base p k lo : Int} (h0 : -700000 ≤ base) (h1 : base ≤ 700000) (hk : k = 2 ∨ k = 3) (hlo : 0 ≤ lo) {r : G7 × Int} (h : Jk N b base p k lo = some r) : GoodG r.1 := by
 unfold Jk at h
 obtain ⟨o, e1, h⟩ := Option.bind_eq_some_iff.1 h
 obtain ⟨c, e2, h⟩ := Option.bind_eq_some_iff.1 h
 obtain ⟨⟨l, q⟩, e3, h⟩ := Option.bind_eq_some_iff.1 h
 obtain ⟨s, e4, h⟩ := Option.bind_eq_some_iff.1 h
 cases h
 have oo := Xy hb e1
 have cr := Xdg hN hb (by omega) (by omega) (by omega) e2
 have er := Ju hb e3
 obtain ⟨s1, s2⟩ := Xoa hb hlo e4
 exact ⟨Xm1 (by simp only at *; omega) (fun x hx => (s2 x hx).1), by simp, fun x hx => (s2 x hx).2, cr.1, .inr (.inl ⟨by rcases hk with h | h <;> simp [h], by simp only at *; omega⟩), fun x hx => (s2 x hx).1, .inr (.inl ⟨hk, rfl, rfl⟩)⟩
theorem Xqi {base p : Int} (h0 : -700000 ≤ base) (h1 : base ≤ 700000) {r : G7 × Int} (h : gLigs N b base p = some r) : GoodG r.1 := by
 unfold gLigs at h
 obtain ⟨o, e1, h⟩ := Option.bind_eq_some_iff.1 h
 obtain ⟨c, e2, h⟩ := Option.bind_eq_some_iff.1 h
 obtain ⟨⟨l, q⟩, e3, h⟩ := Option.bind_eq_some_iff.1 h
 obtain ⟨s, e4, h⟩ := Option.bind_eq_some_iff.1 h
 cases h
 have oo := Xy hb e1
 have cr := Xdg hN hb (by omega) (by omega) (by omega) e2
 have er := Ju hb e3
 obtain ⟨s1, s2⟩ := Xh0 hb (Int.le_refl 0) e4
 exact ⟨⟨by simp, by simp, by simp only at *; omega, fun x hx => by have := (s2 x hx).1; omega, fun x hx y hy => by have := (s2 x hx).2 y hy; have := R_val; omega, by simp, by simp, by simp⟩, by simp, by simp, cr.1, .inr (.inr (.inl ⟨rfl, by simp only at *; omega⟩)), by simp, .inr (.inr (.inl rfl))⟩
theorem Xgy {base p : Int} (h0 : -700000 ≤ base) (h1 : base ≤ 700000) {s : List TSet} {q : Int} (h : gSets N b base p = some (s, q)) : s.length ≤ 16 ∧ ∀ x ∈ s, SetOk x := by
 unfold gSets at h
 obtain ⟨⟨l, q'⟩, e1, h⟩ := Option.bind_eq_some_iff.1 h
 obtain ⟨t, e2, h⟩ := Option.bind_eq_some_iff.1 h
 cases h
 obtain ⟨n, c1, c2, c3, c4, c5, _⟩ := Qz hb e1 (by omega) (by omega)
 have l1 : s.length = l.length := QN e2
 have l2 := JD hN hb (by omega) (by omega) (by omega) c4 e2
 exact ⟨by omega, fun x hx => by have := (l2 x hx).2; unfold SetOk; omega⟩
theorem Xkx {base p : Int} (h0 : -700000 ≤ base) (h1 : base ≤ 700000) {r : G7 × Int} (h : Xak N b base p = some r) : GoodG r.1 := by
 unfold Xak at h
 obtain ⟨o, e1, h⟩ := Option.bind_eq_some_iff.1 h
 obtain ⟨c, e2, h⟩ := Option.bind_eq_some_iff.1 h
 obtain ⟨⟨s1, q1⟩, e3, h⟩ := Option.bind_eq_some_iff.1 h
 obtain ⟨⟨s2, q2⟩, e4, h⟩ := Option.bind_eq_some_iff.1 h
 obtain ⟨⟨l, q⟩, e5, h⟩ := Option.bind_eq_some_iff.1 h
 cases h
 have oo := Xy hb e1
 have cr := Xdg hN hb (by omega) (by omega) (by omega) e2
 have er := Ju hb e5
 have om := Xlq er.2.1
 have ol : (onesM l).length = l.length := by simp [onesM]
 have a1 := Xgy hN hb hl h0 h1 e3
 have a2 := Xgy hN hb hl h0 h1 e4
 exact ⟨small_r (by simp only; omega) (fun x hx => by have := (om x hx).1; omega) (by simp) (fun x hx => by rw [List.mem_singleton.1 hx]; exact ⟨a1.1, by simp, a2.1, by simp, a1.2, by simp, a2.2⟩), by simp, fun x hx => (om x hx).2, cr.1, .inr (.inl ⟨.inr (.inr rfl), by simp only; omega⟩), fun x hx => by have := (om x hx).1; omega, .inr (.inr (.inr (.inr (.inr rfl))))⟩
theorem Xie {p k : Int} {ch : Bool} (h0 : -700000 ≤ p) (h1 : p ≤ 700000) (hk : k = 5 ∨ k = 6) {r : List TCtx × Int} (h : Js N b p ch = some r) : GoodG ⟨k, [], false, 0, [], [], r.1⟩ := by
 have ok := Xle hN hb (by omega) (by omega) (by omega) h
 exact ⟨small_r (by simp) (by simp) ok.1 ok.2, by simp, by simp, trivial, .inr (.inr (.inr hk)), by simp, .inr (.inr (.inr (by rcases hk with h | h; exact .inl h; exact .inr (.inl h))))⟩
theorem Xjz {p k : Int} {x : Option G7} (h0 : -700000 ≤ p) (h1 : p ≤ 700000) (hx : ∀ g, x = some g → GoodG g) {g : G7} (h : gKind N b p k x = some g) : GoodG g := by
 unfold gKind at h
 split at h
 ·
  obtain ⟨r, e, rfl⟩ := Option.map_eq_some_iff.1 h
  exact Xie hN hb hl h0 h1 (.inl rfl) e
 split at h
 ·
  obtain ⟨r, e, rfl⟩ := Option.map_eq_some_iff.1 h
  exact Xie hN hb hl h0 h1 (.inr rfl) e
 split at h
 ·
  obtain ⟨f, e1, h⟩ := Option.bind_eq_some_iff.1 h
  split at h
  ·
   split at h
   ·
    obtain ⟨r, e, rfl⟩ := Option.map_eq_some_iff.1 h
    exact Xl6 hN hb hl h0 h1 e
   split at h
   ·
    obtain ⟨r, e, rfl⟩ := Option.map_eq_some_iff.1 h
    exact Xex hN hb hl h0 h1 (.inl rfl) (by omega) e
   split at h
   ·
    obtain ⟨r, e, rfl⟩ := Option.map_eq_some_iff.1 h
    exact Xex hN hb hl h0 h1 (.inr rfl) (by omega) e
   split at h
   ·
    obtain ⟨r, e, rfl⟩ := Option.map_eq_some_iff.1 h
    exact Xqi hN hb hl h0 h1 e
   split at h
   ·
    exact hx g h
   ·
    obtain ⟨r, e, rfl⟩ := Option.map_eq_some_iff.1 h
    exact Xkx hN hb hl h0 h1 e
  ·
   cases h
 ·
  cases h
theorem Xqg {p k : Int} (h0 : -300000 ≤ p) (h1 : p ≤ 300000) {g : G7} (h : gRead N b p k = some g) : GoodG g := by
 refine Xjz hN hb hl (by omega) (by omega) (fun g h => ?_) h
 unfold gElse at h
 obtain ⟨k2, e1, h⟩ := Option.bind_eq_some_iff.1 h
 split at h
 ·
  exact Xjz hN hb hl (by omega) (by omega) (fun g h => by cases h) h
 ·
  cases h
end
theorem rCount_L1 {N : Nat} {l : List TSpan} (hR : RL 0 l) (hl : l.length ≤ 65536) : ∀ (d k n : Nat) (c : Int), k + d = l.length → d < n → 0 ≤ c → c + cnt (l.drop k) ≤ 1000000 →
  ZA N l n c k = some (c + cnt (l.drop k)) := by
 intro d
 induction d with
 | zero =>
  intro k n c hk hn h0 hs
  obtain ⟨n, rfl⟩ : ∃ x, n = x + 1 := ⟨n - 1, by omega⟩
  rw [ZA, if_neg (by omega), List.drop_eq_nil_of_le (by omega)]; simp [cnt]
 | succ d ih =>
  intro k n c hk hn h0 hs
  obtain ⟨n, rfl⟩ : ∃ x, n = x + 1 := ⟨n - 1, by omega⟩
  have hkl : k < l.length := by omega
  have hx := RL.lows hR l[k] (List.getElem_mem hkl)
  have hc := Jd hR (k + 1)
  rw [ZA, if_pos (by omega), XY (List.getElem?_eq_getElem hkl), Option.bind_some]
  rw [List.drop_eq_getElem_cons hkl] at hs ⊢
  simp only [cnt] at hs ⊢
  rw [w64 (x := c + l[k].To) (by omega) (by omega), w64 (x := c + l[k].To - l[k].From) (by omega) (by omega), w64 (x := c + l[k].To - l[k].From + 1) (by omega) (by omega), w64 (x := (k : Int) + 1) (by omega) (by omega), show (k : Int) + 1 = ((k + 1 : Nat) : Int) by omega,
   ih (k + 1) n _ (by omega) (by omega) (by omega) (by omega)]
  exact congrArg some (by omega)
theorem rCount_eq {N : Nat} (hN : 1000000000000 < N) {l : List TSpan} (hR : RL 0 l) : Xay N l = some (cnt l) := by
 unfold Xay
 have hc := Jd hR 0
 have hl := hR.l6
 have h := rCount_L1 (N := N) hR hl l.length 0 N 0 (by omega) (by omega) (by omega) (by rw [List.drop_zero]; omega)
 rw [List.drop_zero] at h
 rw [show ZA N l N 0 0 = _ from h, Option.bind_some]
 exact congrArg some (by omega)
section
variable {N : Nat} (hN : 1000000000000 < N) {b m : List Int} (hb : Bytes b) (hm : Bytes m) (hl : (b ++ m).length ≤ 1000000)
include hN hb hm hl
end
structure Fine (g : G7) : Prop where
 r : g.r.length ≤ 64
 c : ∀ c ∈ g.r, CtxOk c
 l : ∀ x ∈ g.l, x.length ≤ 256 ∧ ∀ y ∈ x, y.Parts.length ≤ 16
theorem Fine.none {k d : Int} {c : List TSpan} {a : Bool} {o : List (List Int)} : Fine ⟨k, c, a, d, o, [], []⟩ := ⟨by simp, by simp, by simp⟩
section
variable {N : Nat} (hN : 1000000000000 < N) {b : List Int} (hb : Bytes b) (hl : b.length ≤ 1000)
include hN hb hl
theorem Xj0 {p k : Int} {x : Option G7} (h0 : -700000 ≤ p) (h1 : p ≤ 700000) (hx : ∀ g, x = some g → Fine g) {g : G7} (h : gKind N b p k x = some g) : Fine g := by
 have tab : ∀ {ch : Bool} {r : List TCtx × Int} {k : Int}, Js N b p ch = some r → Fine ⟨k, [], false, 0, [], [], r.1⟩ := fun h => by
  have ok := Xle hN hb (by omega) (by omega) (by omega) h
  exact ⟨ok.1, ok.2, by simp⟩
 have sev : ∀ {q k lo : Int} {r : G7 × Int}, Jk N b p q k lo = some r → Fine r.1 := fun h => by
  unfold Jk at h
  obtain ⟨o, e1, h⟩ := Option.bind_eq_some_iff.1 h
  obtain ⟨c, e2, h⟩ := Option.bind_eq_some_iff.1 h
  obtain ⟨q, e3, h⟩ := Option.bind_eq_some_iff.1 h
  obtain ⟨s, e4, h⟩ := Option.bind_eq_some_iff.1 h
  cases h
  exact Fine.none
 unfold gKind at h
 split at h
 ·
  obtain ⟨r, e, rfl⟩ := Option.map_eq_some_iff.1 h
  exact tab e
 split at h
 ·
  obtain ⟨r, e, rfl⟩ := Option.map_eq_some_iff.1 h
  exact tab e
 split at h
 ·
  obtain ⟨f, e1, h⟩ := Option.bind_eq_some_iff.1 h
  split at h
  ·
   split at h
   ·
    obtain ⟨r, e, rfl⟩ := Option.map_eq_some_iff.1 h
    unfold Xa3 at e
    obtain ⟨o, e1, e⟩ := Option.bind_eq_some_iff.1 e
    obtain ⟨c, e2, e⟩ := Option.bind_eq_some_iff.1 e
    split at e
    ·
     obtain ⟨d, e3, e⟩ := Option.bind_eq_some_iff.1 e
     cases e; exact Fine.none
    ·
     split at e
     ·
      obtain ⟨q, e3, e⟩ := Option.bind_eq_some_iff.1 e
      cases e; exact Fine.none
     ·
      cases e
   split at h
   ·
    obtain ⟨r, e, rfl⟩ := Option.map_eq_some_iff.1 h
    exact sev e
   split at h
   ·
    obtain ⟨r, e, rfl⟩ := Option.map_eq_some_iff.1 h
    exact sev e
   split at h
   ·
    obtain ⟨r, e, rfl⟩ := Option.map_eq_some_iff.1 h
    unfold gLigs at e
    obtain ⟨o, e1, e⟩ := Option.bind_eq_some_iff.1 e
    obtain ⟨c, e2, e⟩ := Option.bind_eq_some_iff.1 e
    obtain ⟨q, e3, e⟩ := Option.bind_eq_some_iff.1 e
    obtain ⟨s, e4, e⟩ := Option.bind_eq_some_iff.1 e
    cases e
    exact ⟨by simp, by simp, (Xh0 hb (Int.le_refl 0) e4).2⟩
   split at h
   ·
    exact hx g h
   ·
    obtain ⟨r, e, rfl⟩ := Option.map_eq_some_iff.1 h
    unfold Xak at e
    obtain ⟨o, e1, e⟩ := Option.bind_eq_some_iff.1 e
    obtain ⟨c, e2, e⟩ := Option.bind_eq_some_iff.1 e
    obtain ⟨⟨s1, q1⟩, e3, e⟩ := Option.bind_eq_some_iff.1 e
    obtain ⟨⟨s2, q2⟩, e4, e⟩ := Option.bind_eq_some_iff.1 e
    obtain ⟨q, e5, e⟩ := Option.bind_eq_some_iff.1 e
    cases e
    have a1 := Xgy hN hb hl h0 h1 e3
    have a2 := Xgy hN hb hl h0 h1 e4
    exact ⟨by simp, fun x hx => by rw [List.mem_singleton.1 hx]; exact ⟨a1.1, by simp, a2.1, by simp, a1.2, by simp, a2.2⟩, by simp⟩
  ·
   cases h
 ·
  cases h
theorem Xqh {p k : Int} (h0 : -300000 ≤ p) (h1 : p ≤ 300000) {g : G7} (h : gRead N b p k = some g) : Fine g := by
 refine Xj0 hN hb hl (by omega) (by omega) (fun g h => ?_) h
 unfold gElse at h
 obtain ⟨k2, e1, h⟩ := Option.bind_eq_some_iff.1 h
 split at h
 ·
  exact Xj0 hN hb hl (by omega) (by omega) (fun g h => by cases h) h
 ·
  cases h
end
theorem Ints_L1 {N : Nat} {l : List Int} (hl : l.length ≤ 1000000) : ∀ (d k n : Nat), k + d = l.length → d < n → Qh N l l n k = some (.inl ()) := by
 intro d
 induction d with
 | zero =>
  intro k n hk hn
  obtain ⟨n, rfl⟩ : ∃ x, n = x + 1 := ⟨n - 1, by omega⟩
  rw [Qh, if_neg (by omega)]
 | succ d ih =>
  intro k n hk hn
  obtain ⟨n, rfl⟩ : ∃ x, n = x + 1 := ⟨n - 1, by omega⟩
  have hkl : k < l.length := by omega
  rw [Qh, if_pos (by omega), XY (List.getElem?_eq_getElem hkl), Option.bind_some, Option.bind_some, if_pos rfl, w64 (x := (k : Int) + 1) (by omega) (by omega), show (k : Int) + 1 = ((k + 1 : Nat) : Int) by omega]
  exact ih (k + 1) n (by omega) (by omega)
theorem Xmv {N : Nat} (hN : 1000000000000 < N) {l : List Int} (hl : l.length ≤ 1000000) : Xat N l l = some true := by
 unfold Xat
 rw [if_pos rfl, show Qh N l l N 0 = _ from Ints_L1 hl l.length 0 N (by omega) (by omega)]
 rfl
theorem Lists_L1 {N : Nat} (hN : 1000000000000 < N) {l : List (List Int)} (hl : l.length ≤ 1000000) (h : ∀ x ∈ l, x.length ≤ 1000000) : ∀ (d k n : Nat), k + d = l.length → d < n → Zz N l l n k = some (.inl ()) := by
 intro d
 induction d with
 | zero =>
  intro k n hk hn
  obtain ⟨n, rfl⟩ : ∃ x, n = x + 1 := ⟨n - 1, by omega⟩
  rw [Zz, if_neg (by omega)]
 | succ d ih =>
  intro k n hk hn
  obtain ⟨n, rfl⟩ : ∃ x, n = x + 1 := ⟨n - 1, by omega⟩
  have hkl : k < l.length := by omega
  rw [Zz, if_pos (by omega), XY (List.getElem?_eq_getElem hkl), Option.bind_some, Option.bind_some, Xmv hN (h _ (List.getElem_mem hkl)), Option.bind_some, if_pos rfl, w64 (x := (k : Int) + 1) (by omega) (by omega), show (k : Int) + 1 = ((k + 1 : Nat) : Int) by omega]
  exact ih (k + 1) n (by omega) (by omega)
theorem Xqq {N : Nat} (hN : 1000000000000 < N) {l : List (List Int)} (hl : l.length ≤ 1000000) (h : ∀ x ∈ l, x.length ≤ 1000000) : JO N l l = some true := by
 unfold JO
 rw [if_pos rfl, show Zz N l l N 0 = _ from Lists_L1 hN hl h l.length 0 N (by omega) (by omega)]
 rfl
theorem LigsS_L2 {N : Nat} (hN : 1000000000000 < N) {l : List (List TLig)} {i : Nat} {x : List TLig} (hi : l[i]? = some x) (hl : x.length ≤ 1000000) (h : ∀ y ∈ x, y.Parts.length ≤ 16) : ∀ (d k n : Nat), k + d = x.length → d < n → ZY N l l (i : Int) n k = some (.inl ()) := by
 intro d
 induction d with
 | zero =>
  intro k n hk hn
  obtain ⟨n, rfl⟩ : ∃ x, n = x + 1 := ⟨n - 1, by omega⟩
  rw [ZY, XY hi, Option.bind_some, if_neg (by omega)]
 | succ d ih =>
  intro k n hk hn
  obtain ⟨n, rfl⟩ : ∃ x, n = x + 1 := ⟨n - 1, by omega⟩
  have hkl : k < x.length := by omega
  have e := XY (List.getElem?_eq_getElem hkl)
  rw [ZY, XY hi, Option.bind_some, if_pos (by omega), e, Option.bind_some, Option.bind_some, e, Option.bind_some, if_pos rfl, Xmv hN (by have := h _ (List.getElem_mem hkl); omega), Option.bind_some, if_pos rfl, w64 (x := (k : Int) + 1) (by omega) (by omega), show (k : Int) + 1 = ((k + 1 : Nat) : Int) by omega]
  exact ih (k + 1) n (by omega) (by omega)
theorem LigsS_L3 {N : Nat} (hN : 1000000000000 < N) {l : List (List TLig)} (hl : l.length ≤ 1000000) (h : ∀ x ∈ l, x.length ≤ 256 ∧ ∀ y ∈ x, y.Parts.length ≤ 16) : ∀ (d k n : Nat), k + d = l.length → d < n → ZX N l l n k = some (.inl ()) := by
 intro d
 induction d with
 | zero =>
  intro k n hk hn
  obtain ⟨n, rfl⟩ : ∃ x, n = x + 1 := ⟨n - 1, by omega⟩
  rw [ZX, if_neg (by omega)]
 | succ d ih =>
  intro k n hk hn
  obtain ⟨n, rfl⟩ : ∃ x, n = x + 1 := ⟨n - 1, by omega⟩
  have hkl : k < l.length := by omega
  have hx := h _ (List.getElem_mem hkl)
  rw [ZX, if_pos (by omega), XY (List.getElem?_eq_getElem hkl), Option.bind_some, Option.bind_some, if_pos rfl, show ZY N l l (k : Int) N 0 = _ from LigsS_L2 hN (List.getElem?_eq_getElem hkl) (by omega) hx.2 l[k].length 0 N (by omega) (by omega), Option.bind_some, w64 (x := (k : Int) + 1) (by omega) (by omega), show (k : Int) + 1 = ((k + 1 : Nat) : Int) by omega]
  exact ih (k + 1) n (by omega) (by omega)
theorem Xqr {N : Nat} (hN : 1000000000000 < N) {l : List (List TLig)} (hl : l.length ≤ 1000000) (h : ∀ x ∈ l, x.length ≤ 256 ∧ ∀ y ∈ x, y.Parts.length ≤ 16) : Xar N l l = some true := by
 unfold Xar
 rw [if_pos rfl, show ZX N l l N 0 = _ from LigsS_L3 hN hl h l.length 0 N (by omega) (by omega)]
 rfl
theorem Xqf {N : Nat} (hN : 1000000000000 < N) {g : G7} (hg : GoodG g) (hf : Fine g) : Xaq N g.k g.c g.all g.d g.o g.l g.r [] [] [] [] [] [] [] [] [] g.k g.c g.all g.d g.o g.l g.r [] [] [] [] [] [] [] [] [] = some true := by
 unfold Xaq
 have ho := hg.s.t
 have hgl := hg.s.g
 have hc := hg.c.l6
 rw [if_pos rfl, SameSp hN (by omega), Option.bind_some, if_pos rfl, if_pos rfl, Xqq hN (by omega) (fun x hx => by have := hg.i x hx; omega), Option.bind_some, if_pos rfl, Xqr hN (by omega) hf.l, Option.bind_some, if_pos rfl, Same_refl hN hf.r hf.c]
 cases g.all <;> rfl
theorem Xdv {b : List Int} {q lo : Int} (h : 0 ≤ lo) : cntr b q lo 16 = if u16 b q < lo then none else if 16 < u16 b q then none else some (u16 b q) := by
 unfold cntr num
 by_cases h1 : u16 b q < 0
 ·
  rw [if_pos h1, if_pos (by omega)]; rfl
 ·
  rw [if_neg h1, Option.bind_some]
  by_cases h2 : u16 b q < lo
  ·
   rw [if_pos h2, if_neg (by omega)]
  ·
   rw [if_neg h2]
   by_cases h3 : 16 < u16 b q
   ·
    rw [if_pos h3, if_neg (by omega)]
   ·
    rw [if_neg h3, if_pos (by omega)]
def Told {α : Type} (x : Option (List TCtx × Bool)) (y : Option α) (f : α → List TCtx) : Prop := ∃ l, x = some (l, y.isSome) ∧ ∀ r, y = some r → l = f r
theorem Told.no {α : Type} {l : List TCtx} {f : α → List TCtx} : Told (some (l, false)) (none : Option α) f := ⟨l, rfl, fun r h => by cases h⟩
theorem Told.yes {α : Type} {a : α} {f : α → List TCtx} : Told (some (f a, true)) (some a) f := ⟨f a, rfl, fun r h => by cases h; rfl⟩
theorem Xp0 {N : Nat} {b : List Int} (hb : Bytes b) {P base q : Int} {s1 s2 s3 : List TSet} (h : Xg7 N b P base = some (q, s1, s2, s3)) : 0 ≤ q ∧ q ≤ (b.length : Int) := by
 unfold Xg7 at h
 obtain ⟨⟨l1, q1⟩, e1, h⟩ := Option.bind_eq_some_iff.1 h
 obtain ⟨t1, e2, h⟩ := Option.bind_eq_some_iff.1 h
 obtain ⟨⟨l2, q2⟩, e3, h⟩ := Option.bind_eq_some_iff.1 h
 obtain ⟨t2, e4, h⟩ := Option.bind_eq_some_iff.1 h
 obtain ⟨⟨l3, q3⟩, e5, h⟩ := Option.bind_eq_some_iff.1 h
 obtain ⟨t3, e6, h⟩ := Option.bind_eq_some_iff.1 h
 cases h
 obtain ⟨n, c1, c2, c3, c4, c5, c6, c7, _⟩ := Qz hb e5 (by omega) (by omega)
 exact ⟨c6, c7⟩
section
variable {N : Nat} (hN : 1000000000000 < N) {b : List Int} (hb : Bytes b) (hl : b.length ≤ 1000000)
include hN hb hl
theorem rThird_eq {p : Int} {ch : Bool} (h0 : -10000 ≤ p) (h1 : p ≤ 10000) (hl2 : b.length ≤ 10000) : Told (Xaz N b p ch) (JE N b (p + 2) p ch) (fun r => r.1) := by
 unfold Xaz
 cases ch with
 | true =>
  obtain ⟨M, hM⟩ : ∃ M, N = M + 4 := ⟨N - 4, by omega⟩
  have e := third_L1 hN hb hl (P := p + 2) (base := p) (M := M) (by omega) (by omega) (by omega) (by omega)
  rw [← hM] at e
  rw [if_pos rfl, w64 (x := p + 2) (by omega) (by omega), e, Option.bind_some]
  have hc : JE N b (p + 2) p true = (Xg7 N b (p + 2) p).bind fun r => (cntr b r.1 0 16).bind fun n4 => (acts b (r.2.2.1.length : Int) n4.toNat (r.1 + 2)).bind fun a => some ([⟨r.2.1, r.2.2.1, r.2.2.2, a.1⟩], a.2) := by
   rw [cov_chain hb]
   unfold Xg7
   simp only [Option.bind_assoc, Option.bind_some]
  rw [hc]
  cases e3 : Xg7 N b (p + 2) p with
  | none => exact Told.no
  | some r =>
   obtain ⟨q, s1, s2, s3⟩ := r
   have hq := Xp0 hb e3
   simp only [Option.bind_some]
   rw [Yj hN hb (by omega) q (by omega), Option.bind_some, Xdv (by omega)]
   by_cases g1 : u16 b q < 0
   ·
    rw [if_pos g1, if_pos g1]; exact Told.no
   ·
    rw [if_neg g1, if_neg g1]
    by_cases g2 : 16 < u16 b q
    ·
     rw [if_pos g2, if_pos g2]; exact Told.no
    ·
     rw [if_neg g2, if_neg g2, w64 (x := q + 2) (by omega) (by omega), Xgw hN hb hl (by omega) (by omega) (by omega) (by omega), Option.bind_some, Option.bind_some]
     cases acts b (s2.length : Int) (u16 b q).toNat (q + 2) with
     | none => exact Told.no
     | some a => exact Told.yes (a := ([⟨s1, s2, s3, a.1⟩], a.2)) (f := fun r => r.1)
 | false =>
  rw [if_neg (by decide), w64 (x := p + 2) (by omega) (by omega), w64 (x := p + 4) (by omega) (by omega), Yj hN hb (by omega) _ (by omega), Option.bind_some, Yj hN hb (by omega) _ (by omega), Option.bind_some]
  unfold JE
  rw [if_neg (show ¬ (false = true) by decide), Xdv (by omega), Xdv (by omega), show p + 2 + 2 = p + 4 by omega]
  by_cases g1 : u16 b (p + 2) < 1
  ·
   rw [if_pos g1, if_pos g1]; exact Told.no
  rw [if_neg g1, if_neg g1]
  by_cases g2 : 16 < u16 b (p + 2)
  ·
   rw [if_pos g2, if_pos g2]; exact Told.no
  rw [if_neg g2, if_neg g2, Option.bind_some]
  by_cases g3 : u16 b (p + 4) < 0
  ·
   rw [if_pos g3, if_pos g3]; exact Told.no
  rw [if_neg g3, if_neg g3]
  by_cases g4 : 16 < u16 b (p + 4)
  ·
   rw [if_pos g4, if_pos g4]; exact Told.no
  have hin := (not_congr (Yr hb (i := p + 4))).1 (by omega)
  rw [if_neg g4, if_neg g4, Option.bind_some, w64 (x := p + 6) (by omega) (by omega), Xbo hN hb hl (by omega) (by omega) (by omega), Option.bind_some, Xah hb (by omega) (by omega) (by omega), show p + 4 + 2 = p + 6 by omega]
  cases e1 : row b (p + 6) (u16 b (p + 2)) with
  | none => exact Told.no
  | some l =>
   have hr := Xw hb e1
   simp only [if_true, Option.bind_some]
   rw [Ji hN hb hl (by omega) (by omega) hr.2.2.2.2.2 (by omega), Option.bind_some, w64 (x := 2 * u16 b (p + 2)) (by omega) (by omega), w64 (x := p + 6 + 2 * u16 b (p + 2)) (by omega) (by omega), Xgw hN hb hl (by omega) (by omega) (by omega) (by omega), show p + 6 + u16 b (p + 2) * 2 = p + 6 + 2 * u16 b (p + 2) by omega]
   cases covs N b p l with
   | none => 
    simp only [Option.bind_some, Option.bind_none]
    exact Told.no
   | some s2 =>
    simp only [Option.bind_some]
    cases acts b (u16 b (p + 2)) (u16 b (p + 4)).toNat (p + 6 + 2 * u16 b (p + 2)) with
    | none => exact Told.no
    | some a => exact Told.yes (a := ([⟨[], s2, [], a.1⟩], a.2)) (f := fun r => r.1)
end
theorem rWith_L2 {N : Nat} {c : List Xb} {a : Int} {i : Nat} {x : Xb} (hi : c[i]? = some x) (hx : x.To ≤ 65535) : ∀ (d n : Nat) (k : Int) (t : List Bool), (x.To - k + 1).toNat = d → d < n → 0 ≤ k → t.length = 65536 →
  ∃ t', Zv N c a (i : Int) n k t = some t' ∧ t'.length = 65536 ∧ ∀ g, 0 ≤ g → (bb t' g = true ↔ bb t g = true ∨ ((a = 0 ∨ x.Class = a) ∧ k ≤ g ∧ g ≤ x.To)) := by
 intro d
 induction d with
 | zero =>
  intro n k t hk hn h0 ht
  obtain ⟨n, rfl⟩ : ∃ x, n = x + 1 := ⟨n - 1, by omega⟩
  rw [Zv, XY hi, Option.bind_some, if_neg (by omega)]
  refine ⟨t, rfl, ht, fun g hg => ?_⟩
  constructor
  ·
   exact .inl
  ·
   rintro (h | ⟨_, h1, h2⟩)
   ·
    exact h
   ·
    omega
 | succ d ih =>
  intro n k t hk hn h0 ht
  obtain ⟨n, rfl⟩ : ∃ x, n = x + 1 := ⟨n - 1, by omega⟩
  rw [Zv, XY hi, Option.bind_some, if_pos (by omega), bb_at (by omega) (by omega), Option.bind_some, w64 (x := k + 1) (by omega) (by omega)]
  have step : (a = 0 ∨ x.Class = a) → ∃ t', Zv N c a (i : Int) n (k + 1) (List.set t k.toNat true) = some t' ∧ t'.length = 65536 ∧ ∀ g, 0 ≤ g → (bb t' g = true ↔ bb t g = true ∨ ((a = 0 ∨ x.Class = a) ∧ k ≤ g ∧ g ≤ x.To)) := fun hc => by
   obtain ⟨t', e, hl, hg⟩ := ih n (k + 1) (List.set t k.toNat true) (by omega) (by omega) (by omega) (by simp [ht])
   refine ⟨t', e, hl, fun g h => ?_⟩
   rw [hg g h, bb_set (by omega) (by omega) h]
   by_cases hk2 : g = k
   ·
    rw [if_pos hk2]
    constructor
    ·
     exact fun _ => .inr ⟨hc, by omega, by omega⟩
    ·
     exact fun _ => .inl rfl
   ·
    rw [if_neg hk2]
    constructor
    ·
     rintro (h | ⟨h1, h2, h3⟩)
     ·
      exact .inl h
     ·
      exact .inr ⟨h1, by omega, h3⟩
    ·
     rintro (h | ⟨h1, h2, h3⟩)
     ·
      exact .inl h
     ·
      exact .inr ⟨h1, by omega, h3⟩
  by_cases h1 : a = 0
  ·
   rw [if_pos h1]; exact step (.inl h1)
  ·
   rw [if_neg h1]
   by_cases h2 : x.Class = a
   ·
    rw [if_pos h2]; exact step (.inr h2)
   ·
    rw [if_neg h2]
    refine ⟨t, rfl, ht, fun g hg => ?_⟩
    constructor
    ·
     exact .inl
    ·
     rintro (h | ⟨h3 | h3, _⟩)
     ·
      exact h
     ·
      exact (h1 h3).elim
     ·
      exact (h2 h3).elim
theorem rWith_L3 {N : Nat} (hN : 1000000000000 < N) {c : List Xb} {a : Int} (hc : CB c) : ∀ (d k n : Nat) (t : List Bool), k + d = c.length → d < n → t.length = 65536 →
  ∃ t', ZZ N c a n k t = some t' ∧ t'.length = 65536 ∧ ∀ g, 0 ≤ g → (bb t' g = true ↔ bb t g = true ∨ ∃ x ∈ c.drop k, (a = 0 ∨ x.Class = a) ∧ x.From ≤ g ∧ g ≤ x.To) := by
 intro d
 induction d with
 | zero =>
  intro k n t hk hn ht
  obtain ⟨n, rfl⟩ : ∃ x, n = x + 1 := ⟨n - 1, by omega⟩
  rw [ZZ, if_neg (by omega), List.drop_eq_nil_of_le (by omega)]
  exact ⟨t, rfl, ht, fun g hg => by simp⟩
 | succ d ih =>
  intro k n t hk hn ht
  obtain ⟨n, rfl⟩ : ∃ x, n = x + 1 := ⟨n - 1, by omega⟩
  have hkl : k < c.length := by omega
  have hx := CL.low hc.1 c[k] (List.getElem_mem hkl)
  have hcl := hc.2
  obtain ⟨t1, e1, l1, g1⟩ := rWith_L2 (N := N) (a := a) (List.getElem?_eq_getElem hkl) hx.2.2.1 _ N c[k].From t rfl (by omega) (by omega) ht
  rw [ZZ, if_pos (by omega), XY (List.getElem?_eq_getElem hkl), Option.bind_some, e1, Option.bind_some, w64 (x := (k : Int) + 1) (by omega) (by omega), show (k : Int) + 1 = ((k + 1 : Nat) : Int) by omega, List.drop_eq_getElem_cons hkl]
  obtain ⟨t2, e2, l2, g2⟩ := ih (k + 1) n t1 (by omega) (by omega) l1
  refine ⟨t2, e2, l2, fun g hg => ?_⟩
  rw [g2 g hg, g1 g hg]
  simp only [List.mem_cons]
  constructor
  ·
   rintro ((h | h) | ⟨y, hy, h⟩)
   ·
    exact .inl h
   ·
    exact .inr ⟨c[k], .inl rfl, h⟩
   ·
    exact .inr ⟨y, .inr hy, h⟩
  ·
   rintro (h | ⟨y, rfl | hy, h⟩)
   ·
    exact .inl (.inl h)
   ·
    exact .inl (.inr h)
   ·
    exact .inr ⟨y, hy, h⟩
theorem Xku {l : List TSpan} (h : RL 0 l) {g : Int} (hg : g < 0) : ¬ inn l g := fun hh => by
 have := inn_low h hh
 omega
theorem rWith_eq {N : Nat} (hN : 1000000000000 < N) {c : List Xb} (hc : CB c) (a : Int) : Xbw N c a = some (wth a c [], decide (a = 0)) := by
 unfold Xbw
 have hcl := hc.2
 obtain ⟨t, e, l, g⟩ := rWith_L3 hN (a := a) hc c.length 0 N (List.replicate 65536 false) (by omega) (by omega) (by rw [List.length_replicate])
 rw [show ZZ N c a N 0 (List.replicate 65536 false) = _ from e, Option.bind_some]
 obtain ⟨m, e2, r2, g2⟩ := Xk7 hN (t := t) (by omega)
 rw [e2, Option.bind_some]
 obtain ⟨r3, g3, _⟩ := Xeh (k := a) (m := c) (lo := 0) (o := []) hc.1 (Int.le_refl _) trivial (by simp)
 have : m = wth a c [] := RL.uniq r2 r3 fun x => by
  by_cases hx : 0 ≤ x
  ·
   rw [g2 x hx, g x hx, g3 x, List.drop_zero, bb_rep]
   simp [inn]
  ·
   exact ⟨fun h => (Xku r2 (by omega) h).elim, fun h => (Xku r3 (by omega) h).elim⟩
 rw [this]
def stM (f : Int) (c : List Xb) (l : List Int) : List TSet := if f = 1 then l.map Xb3 else l.map (setC c)
theorem stM_len (f : Int) (c : List Xb) (l : List Int) : (stM f c l).length = l.length := by unfold stM; split <;> simp
theorem rSets_L1 {N : Nat} (hN : 1000000000000 < N) {f : Int} {l : List Int} {c : List Xb} (hc : CB c) (hl : l.length ≤ 1000000) : ∀ (d k n : Nat) (s : List TSet), k + d = l.length → d < n → s.length ≤ k → Zw N l f c n k s = some (s ++ stM f c (l.drop k)) := by
 intro d
 induction d with
 | zero =>
  intro k n s hk hn hs
  obtain ⟨n, rfl⟩ : ∃ x, n = x + 1 := ⟨n - 1, by omega⟩
  rw [Zw, if_neg (by omega), List.drop_eq_nil_of_le (by omega)]
  unfold stM
  split <;> simp
 | succ d ih =>
  intro k n s hk hn hs
  obtain ⟨n, rfl⟩ : ∃ x, n = x + 1 := ⟨n - 1, by omega⟩
  have hkl : k < l.length := by omega
  have e : stM f c (l.drop k) = (if f = 1 then Xb3 l[k] else setC c l[k]) :: stM f c (l.drop (k + 1)) := by
   rw [List.drop_eq_getElem_cons hkl]
   unfold stM
   by_cases h : f = 1
   ·
    rw [if_pos h, if_pos h, if_pos h]; rfl
   ·
    rw [if_neg h, if_neg h, if_neg h]; rfl
  rw [Zw, if_pos (by omega), XY (List.getElem?_eq_getElem hkl), Option.bind_some, Option.bind_some, rWith_eq hN hc, Option.bind_some, w64 (x := (k : Int) + 1) (by omega) (by omega), show (k : Int) + 1 = ((k + 1 : Nat) : Int) by omega, e]
  by_cases h : f = 1
  ·
   rw [if_pos h, if_pos h, if_pos (by omega), ih (k + 1) n _ (by omega) (by omega) (by simp; omega), List.append_assoc]
   rfl
  ·
   rw [if_neg h, if_neg h]
   simp only
   rw [if_pos (by omega), ih (k + 1) n _ (by omega) (by omega) (by simp; omega), List.append_assoc]
   rfl
theorem Xdp {N : Nat} (hN : 1000000000000 < N) {f : Int} {l : List Int} {c : List Xb} (hc : CB c) (hl : l.length ≤ 1000000) : Jg N l f c = some (stM f c l) := by
 unfold Jg
 have h := rSets_L1 hN (f := f) hc hl l.length 0 N [] (by omega) (by omega) (by simp)
 rw [List.drop_zero, List.nil_append] at h
 rw [show Zw N l f c N 0 [] = _ from h, Option.bind_some]
abbrev TRB := List TSet × List TSet × List TSet × List TAct × Bool
def ToldR (x : Option TRB) (y : Option TR) : Prop := ∃ r, x = some r ∧ r.2.2.2.2 = y.isSome ∧ ∀ q, y = some q → r.1 = q.1 ∧ r.2.1 = q.2.1 ∧ r.2.2.1 = q.2.2.1 ∧ r.2.2.2.1 = q.2.2.2.1
theorem ToldR.no {a b c : List TSet} {d : List TAct} : ToldR (some (a, b, c, d, false)) none := ⟨_, rfl, rfl, fun q h => by cases h⟩
theorem ToldR.yes {a b c : List TSet} {d : List TAct} {p : Int} : ToldR (some (a, b, c, d, true)) (some (a, b, c, d, p)) := ⟨_, rfl, rfl, fun q h => by cases h; exact ⟨rfl, rfl, rfl, rfl⟩⟩
section
variable {N : Nat} (hN : 1000000000000 < N) {b : List Int} (hb : Bytes b) (hl : b.length ≤ 1000000)
include hN hb hl
theorem Xoe {q : Int} (h0 : -100000 ≤ q) (h1 : q ≤ 100000) (sA sB : List TSet) (l3 : List Int) (f : Int) {c3 : List Xb} (g3 : CB c3) (hl3 : l3.length ≤ 16) {long : Int} {sB' : List TSet} (hB : sB' = sB) :
  ToldR ((Xz N b q).bind fun y_30 => if y_30 < 0 then some (sA, sB, stM f c3 l3, [], false) else if 16 < y_30 then some (sA, sB, stM f c3 l3, [], false) else (QV N b (IntKind.i64.wrap (q + 2)) y_30 long).bind fun (y_36, y_37) => some (sA, sB, stM f c3 l3, y_36, y_37))
   ((cntr b q 0 16).bind fun n4 => (acts b long n4.toNat (q + 2)).bind fun a => some (sA, sB', stM f c3 l3, a.1, a.2)) := by
 subst hB
 rw [Yj hN hb (by omega) q (by omega), Option.bind_some, Xdv (by omega)]
 by_cases g1 : u16 b q < 0
 ·
  rw [if_pos g1, if_pos g1]; exact ToldR.no
 rw [if_neg g1, if_neg g1]
 by_cases g2 : 16 < u16 b q
 ·
  rw [if_pos g2, if_pos g2]; exact ToldR.no
 rw [if_neg g2, if_neg g2, w64 (x := q + 2) (by omega) (by omega), Xgw hN hb hl (by omega) (by omega) (by omega) (by omega), Option.bind_some, Option.bind_some]
 cases acts b long (u16 b q).toNat (q + 2) with
 | none => exact ToldR.no
 | some a => exact ToldR.yes
theorem Xof {p f : Int} {ch : Bool} {sp : List TSpan} {nt : Bool} {c1 c2 c3 : List Xb} (h0 : -1000000 ≤ p) (h1 : p ≤ 1000000) (hl2 : b.length ≤ 10000) (g1 : CB c1) (g2 : CB c2) (g3 : CB c3) :
  ToldR (Jt N b p f ch sp nt c1 c2 c3) (ruleM b (stM f c1) (stM f c2) (stM f c3) ⟨sp, nt⟩ ch p) := by
 unfold Jt
 cases ch with
 | true =>
  rw [if_pos rfl, Xp3 hb]
  obtain ⟨l, q, ok, e, hs⟩ := Xck hN hb hl (p := p) (lo := 0) (cut := 0) (by omega) (by omega) (by omega) (by omega) (by omega)
  rw [e, Option.bind_some]
  cases s1 : seqM b p 0 0 with
  | none =>
   rw [s1] at hs
   obtain ⟨rfl, rfl⟩ := hs
   exact ToldR.no
  | some r1 =>
   rw [s1] at hs
   obtain ⟨l1, q1⟩ := r1
   obtain ⟨rfl, rfl, rfl⟩ := hs
   obtain ⟨n1, k1, k2, k3, k4, k5, k6, k7, k8, k9, k10⟩ := Qz hb s1 (by omega) (by omega)
   simp only [Option.bind_some, if_true]
   rw [Xdp hN g1 (by omega), Option.bind_some]
   obtain ⟨la, qa, ok, e, hs⟩ := Xck hN hb hl (p := q) (lo := 1) (cut := 1) (by omega) (by omega) (by omega) (by omega) (by omega)
   rw [e, Option.bind_some]
   cases s2 : seqM b q 1 1 with
   | none =>
    rw [s2] at hs
    obtain ⟨rfl, rfl⟩ := hs
    exact ToldR.no
   | some r1 =>
    rw [s2] at hs
    obtain ⟨l1, q1⟩ := r1
    obtain ⟨rfl, rfl, rfl⟩ := hs
    obtain ⟨n2, d1, d2, d3, d4, d5, d6, d7, d8, d9, d10⟩ := Qz hb s2 (by omega) (by omega)
    simp only [Option.bind_some, if_true]
    rw [Xdp hN g2 (by omega), Option.bind_some]
    obtain ⟨lc, qc, ok, e, hs⟩ := Xck hN hb hl (p := qa) (lo := 0) (cut := 0) (by omega) (by omega) (by omega) (by omega) (by omega)
    rw [e]
    have hlen := stM_len f c2 la
    by_cases hn : stM f c2 la = []
    ·
     rw [if_pos hn, Option.bind_some]
     have z : la.length = 0 := by rw [← hlen, hn]; rfl
     cases s3 : seqM b qa 0 0 with
     | none =>
      rw [s3] at hs
      obtain ⟨rfl, rfl⟩ := hs
      exact ToldR.no
     | some r1 =>
      rw [s3] at hs
      obtain ⟨l1, q1⟩ := r1
      obtain ⟨rfl, rfl, rfl⟩ := hs
      obtain ⟨n3, f1, f2, f3, f4, f5, f6, f7, f8, f9, f10⟩ := Qz hb s3 (by omega) (by omega)
      simp only [Option.bind_some, if_true]
      rw [Xdp hN g3 (by omega), Option.bind_some, z]
      exact Xoe hN hb hl (by omega) (by omega) _ _ _ _ g3 (by omega) (by rw [hn])
    ·
     rw [if_neg hn, if_pos (by omega), Option.bind_some]
     cases s3 : seqM b qa 0 0 with
     | none =>
      rw [s3] at hs
      obtain ⟨rfl, rfl⟩ := hs
      exact ToldR.no
     | some r1 =>
      rw [s3] at hs
      obtain ⟨l1, q1⟩ := r1
      obtain ⟨rfl, rfl, rfl⟩ := hs
      obtain ⟨n3, f1, f2, f3, f4, f5, f6, f7, f8, f9, f10⟩ := Qz hb s3 (by omega) (by omega)
      simp only [Option.bind_some, if_true]
      rw [Xdp hN g3 (by omega), Option.bind_some, show ((1 + (stM f c2 la).length : Nat) : Int) = 1 + (la.length : Int) by omega]
      exact Xoe hN hb hl (by omega) (by omega) _ _ _ _ g3 (by omega) rfl
 | false =>
  rw [if_neg (by decide), w64 (x := p + 2) (by omega) (by omega), w64 (x := p + 4) (by omega) (by omega), Yj hN hb (by omega) _ (by omega), Option.bind_some, Yj hN hb (by omega) _ (by omega), Option.bind_some]
  unfold ruleM
  rw [if_neg (show ¬ (false = true) by decide), Xdv (by omega), Xdv (by omega), show p + 2 + 2 = p + 4 by omega]
  by_cases v1 : u16 b p < 1
  ·
   rw [if_pos v1, if_pos v1]; exact ToldR.no
  rw [if_neg v1, if_neg v1]
  by_cases v2 : 16 < u16 b p
  ·
   rw [if_pos v2, if_pos v2]; exact ToldR.no
  rw [if_neg v2, if_neg v2, Option.bind_some]
  by_cases v3 : u16 b (p + 2) < 0
  ·
   rw [if_pos v3, if_pos v3]; exact ToldR.no
  rw [if_neg v3, if_neg v3]
  by_cases v4 : 16 < u16 b (p + 2)
  ·
   rw [if_pos v4, if_pos v4]; exact ToldR.no
  have hin := (not_congr (Yr hb (i := p + 2))).1 (by omega)
  rw [if_neg v4, if_neg v4, Option.bind_some, w64 (x := u16 b p - 1) (by omega) (by omega), w64 (x := 2 * (u16 b p - 1)) (by omega) (by omega), w64 (x := p + 4 + 2 * (u16 b p - 1)) (by omega) (by omega), Xbo hN hb hl (by omega) (by omega) (by omega), Option.bind_some, Xah hb (by omega) (by omega) (by omega),
   Xgw hN hb hl (by omega) (by omega) (by omega) (by omega), show p + 4 + (u16 b p - 1) * 2 = p + 4 + 2 * (u16 b p - 1) by omega]
  cases e1 : row b (p + 4) (u16 b p - 1) with
  | none =>
   simp only [Option.bind_some, Bool.false_eq_true, if_false]
   rw [Xdp hN g2 (by simp), Option.bind_some]
   have z : stM f c2 [] = [] := by unfold stM; split <;> rfl
   rw [if_pos z]
   exact ToldR.no
  | some l =>
   have hr := Xw hb e1
   simp only [Option.bind_some, if_true]
   rw [Xdp hN g2 (by omega), Option.bind_some]
   have hlen := stM_len f c2 l
   by_cases hn : stM f c2 l = []
   ·
    rw [if_pos hn]
    cases acts b (u16 b p) (u16 b (p + 2)).toNat (p + 4 + 2 * (u16 b p - 1)) with
    | none => exact ToldR.no
    | some a => simp only [Option.bind_some]; rw [hn]; exact ToldR.yes
   ·
    rw [if_neg hn, if_pos (by omega)]
    cases acts b (u16 b p) (u16 b (p + 2)).toNat (p + 4 + 2 * (u16 b p - 1)) with
    | none => exact ToldR.no
    | some a => exact ToldR.yes
end
def Inc : Int → List Int → Prop
 | _, [] => True
 | lo, x :: r => lo ≤ x ∧ Inc (x + 1) r
theorem Inc.low : ∀ {l : List Int} {lo : Int}, Inc lo l → ∀ x ∈ l, lo ≤ x
 | y :: r, lo, h, x, hx => by
  rcases List.mem_cons.1 hx with rfl | hx
  ·
   exact h.1
  ·
   have := Inc.low h.2 x hx; have := h.1; omega
theorem Inc.mono {lo lo' : Int} (hl : lo' ≤ lo) : ∀ {l : List Int}, Inc lo l → Inc lo' l
 | [], _ => trivial
 | x :: r, h => ⟨by have := h.1; omega, h.2⟩
theorem Inc.uniq : ∀ {l m : List Int} {lo lo' : Int}, Inc lo l → Inc lo' m → (∀ g, g ∈ l ↔ g ∈ m) → l = m
 | [], [], _, _, _, _, _ => rfl
 | [], y :: s, _, _, _, _, h => by have := (h y).2 List.mem_cons_self; cases this
 | x :: r, [], _, _, _, _, h => by have := (h x).1 List.mem_cons_self; cases this
 | x :: r, y :: s, lo, lo', h1, h2, h => by
  have a := (h x).1 List.mem_cons_self
  have b := (h y).2 List.mem_cons_self
  have e : x = y := by
   rcases List.mem_cons.1 a with a | a
   ·
    exact a
   ·
    rcases List.mem_cons.1 b with b | b
    ·
     exact b.symm
    ·
     have := Inc.low h2.2 x a; have := Inc.low h1.2 y b; omega
  subst e
  refine congrArg _ (Inc.uniq h1.2 h2.2 fun g => ⟨fun hg => ?_, fun hg => ?_⟩)
  ·
   have := Inc.low h1.2 g hg
   rcases List.mem_cons.1 ((h g).1 (List.mem_cons_of_mem _ hg)) with h | h
   ·
    omega
   ·
    exact h
  ·
   have := Inc.low h2.2 g hg
   rcases List.mem_cons.1 ((h g).2 (List.mem_cons_of_mem _ hg)) with h | h
   ·
    omega
   ·
    exact h
theorem Inc.app {m : List Int} {k : Int} (hm : Inc k m) : ∀ {l : List Int} {lo : Int}, Inc lo l → (∀ x ∈ l, x < k) → lo ≤ k → Inc lo (l ++ m)
 | [], lo, _, _, h => hm.mono h
 | x :: r, lo, h, hk, _ => ⟨h.1, Inc.app hm h.2 (fun y hy => hk y (List.mem_cons_of_mem _ hy)) (by have := hk x List.mem_cons_self; omega)⟩
theorem rgO_mem {a b g : Int} : g ∈ rgO a b ↔ a ≤ g ∧ g ≤ b := by
 unfold rgO
 simp only [List.mem_map, List.mem_range]
 constructor
 ·
  rintro ⟨k, hk, rfl⟩; omega
 ·
  intro h
  exact ⟨(g - a).toNat, by omega, by omega⟩
theorem rgO_inc : ∀ (d : Nat) (a b : Int), (b - a + 1).toNat = d → Inc a (rgO a b)
 | 0, a, b, h => by rw [rgO_nil (by omega)]; trivial
 | d + 1, a, b, h => by
  rw [Xod (by omega)]
  exact ⟨Int.le_refl _, rgO_inc d (a + 1) b (by omega)⟩
theorem Xid : ∀ {l : List TSpan} {g : Int}, g ∈ glO l ↔ inn l g
 | [], g => by simp [glO, inn]
 | x :: r, g => by rw [glO, List.mem_append, rgO_mem, Xbj, Xid]
theorem glO_inc : ∀ {l : List TSpan} {lo : Int}, RL lo l → Inc lo (glO l)
 | [], _, _ => trivial
 | x :: r, lo, h => by
  obtain ⟨h1, h2, h3, h4⟩ := h
  exact Inc.app (k := x.To + 1) ((glO_inc h4).mono (by omega)) ((rgO_inc _ x.From x.To rfl).mono h1) (fun y hy => by have := rgO_mem.1 hy; omega) (by omega)
def glF (t : List Int) : Int → Nat → List Int
 | _, 0 => []
 | k, d + 1 => if 0 ≤ gb t k then k :: glF t (k + 1) d else glF t (k + 1) d
theorem Xnq {t : List Int} : ∀ {d : Nat} {k : Int}, Inc k (glF t k d)
 | 0, k => trivial
 | d + 1, k => by
  simp only [glF]
  split
  ·
   exact ⟨Int.le_refl _, Xnq⟩
  ·
   exact (Xnq).mono (by omega)
theorem Xnp {t : List Int} {g : Int} : ∀ {d : Nat} {k : Int}, g ∈ glF t k d ↔ k ≤ g ∧ g < k + (d : Int) ∧ 0 ≤ gb t g
 | 0, k => by
  simp only [glF, List.not_mem_nil, false_iff]
  omega
 | d + 1, k => by
  simp only [glF]
  split
  ·
   rename_i h
   rw [List.mem_cons, Xnp]
   constructor
   ·
    rintro (rfl | h2)
    ·
     exact ⟨Int.le_refl _, by omega, h⟩
    ·
     exact ⟨by omega, by omega, h2.2.2⟩
   ·
    intro h2
    by_cases e : g = k
    ·
     exact .inl e
    ·
     exact .inr ⟨by omega, by omega, h2.2.2⟩
  ·
   rename_i h
   rw [Xnp]
   constructor
   ·
    exact fun h2 => ⟨by omega, by omega, h2.2.2⟩
   ·
    intro h2
    have : g ≠ k := fun e => h (e ▸ h2.2.2)
    exact ⟨by omega, by omega, h2.2.2⟩
theorem Xlo {N : Nat} {b : List Int} {p y1 y3 y4 : Int} {ch : Bool} {t : List Int} {k1 k2 k3 : List Xb} (ht : t.length = 65536) : ∀ (d k n : Nat) (s : List Int), k + d = 65536 → d < n → s.length ≤ k →
  YA N b p ch y1 t y3 y4 k1 k2 k3 n k s = some (s ++ glF t k d) := by
 intro d
 induction d with
 | zero =>
  intro k n s hk hn hs
  obtain ⟨n, rfl⟩ : ∃ x, n = x + 1 := ⟨n - 1, by omega⟩
  rw [YA, if_neg (by omega)]
  simp [glF]
 | succ d ih =>
  intro k n s hk hn hs
  obtain ⟨n, rfl⟩ : ∃ x, n = x + 1 := ⟨n - 1, by omega⟩
  rw [YA, if_pos (by omega), Xff (by omega) (by omega), Option.bind_some, w64 (x := (k : Int) + 1) (by omega) (by omega), show (k : Int) + 1 = ((k + 1 : Nat) : Int) by omega]
  simp only [glF]
  by_cases h : 0 ≤ gb t (k : Int)
  ·
   rw [if_pos h, if_pos h, if_pos (by omega), ih (k + 1) n _ (by omega) (by omega) (by simp; omega), List.append_assoc, show (k : Int) + 1 = ((k + 1 : Nat) : Int) by omega]
   rfl
  ·
   rw [if_neg h, if_neg h, ih (k + 1) n _ (by omega) (by omega) (by omega), show (k : Int) + 1 = ((k + 1 : Nat) : Int) by omega]
theorem Xnx {x : Xb} {g : Int} : ∀ {c : List Xb} {lo : Int}, CL lo c → x ∈ c → x.From ≤ g → g ≤ x.To → cof c g = x.Class
 | y :: r, lo, h, hx, h1, h2 => by
  simp only [cof]
  rcases List.mem_cons.1 hx with rfl | hx
  ·
   rw [if_pos ⟨h1, h2⟩]
  ·
   have := CL.low h.2.2.2.2 x hx
   rw [if_neg (by omega)]
   exact Xnx h.2.2.2.2 hx h1 h2
theorem cof_no {g : Int} : ∀ {c : List Xb}, (∀ x ∈ c, ¬ (x.From ≤ g ∧ g ≤ x.To)) → cof c g = 0
 | [], _ => rfl
 | y :: r, h => by
  simp only [cof]
  rw [if_neg (h y List.mem_cons_self)]
  exact cof_no fun x hx => h x (List.mem_cons_of_mem _ hx)
theorem cof_wth {c : List Xb} (hc : CB c) (i g : Int) : (inn (wth i c []) g ↔ decide (i = 0) = false) ↔ cof c g = i := by
 have w := (Xeh (k := i) (m := c) (lo := 0) (o := []) hc.1 (Int.le_refl _) trivial (by simp)).2.1 g
 have w2 : inn (wth i c []) g ↔ ∃ x ∈ c, (i = 0 ∨ x.Class = i) ∧ x.From ≤ g ∧ g ≤ x.To := by rw [w]; simp [inn]
 rw [w2, decide_eq_false_iff_not]
 by_cases hg : ∃ x ∈ c, x.From ≤ g ∧ g ≤ x.To
 ·
  obtain ⟨x, hx, h1, h2⟩ := hg
  have e := Xnx hc.1 hx h1 h2
  have lo := CL.low hc.1 x hx
  rw [e]
  constructor
  ·
   intro h
   by_cases hi : i = 0
   ·
    exact (h.1 ⟨x, hx, .inl hi, h1, h2⟩ hi).elim
   ·
    obtain ⟨y, hy, h3, h4, h5⟩ := h.2 hi
    have e2 := Xnx hc.1 hy h4 h5
    rcases h3 with h3 | h3
    ·
     exact (hi h3).elim
    ·
     omega
  ·
   intro h
   exact ⟨fun _ => by omega, fun _ => ⟨x, hx, .inr h, h1, h2⟩⟩
 ·
  have e := cof_no (c := c) (g := g) fun x hx hh => hg ⟨x, hx, hh⟩
  rw [e]
  constructor
  ·
   intro h
   by_cases hi : i = 0
   ·
    omega
   ·
    obtain ⟨y, hy, h3, h4⟩ := h.2 hi
    exact (hg ⟨y, hy, h4⟩).elim
  ·
   intro h
   exact ⟨fun ⟨y, hy, h3, h4⟩ => (hg ⟨y, hy, h4⟩).elim, fun hi => (hi h.symm).elim⟩
theorem rOf_L1 {N : Nat} {c : List Xb} {g : Int} (hl : c.length ≤ 65536) : ∀ (d k n : Nat), k + d = c.length → d < n → ∃ o, QK N c g n k = some o ∧ (match o with | .inl _ => cof (c.drop k) g = 0 | .inr v => cof (c.drop k) g = v) := by
 intro d
 induction d with
 | zero =>
  intro k n hk hn
  obtain ⟨n, rfl⟩ : ∃ x, n = x + 1 := ⟨n - 1, by omega⟩
  rw [QK, if_neg (by omega), List.drop_eq_nil_of_le (by omega)]
  exact ⟨_, rfl, rfl⟩
 | succ d ih =>
  intro k n hk hn
  obtain ⟨n, rfl⟩ : ∃ x, n = x + 1 := ⟨n - 1, by omega⟩
  have hkl : k < c.length := by omega
  rw [QK, if_pos (by omega), XY (List.getElem?_eq_getElem hkl), Option.bind_some, w64 (x := (k : Int) + 1) (by omega) (by omega), show (k : Int) + 1 = ((k + 1 : Nat) : Int) by omega, List.drop_eq_getElem_cons hkl]
  simp only [cof]
  obtain ⟨o, e, h⟩ := ih (k + 1) n (by omega) (by omega)
  by_cases h1 : c[k].From ≤ g
  ·
   rw [if_pos h1]
   by_cases h2 : g ≤ c[k].To
   ·
    rw [if_pos h2, if_pos ⟨h1, h2⟩]
    exact ⟨_, rfl, rfl⟩
   ·
    rw [if_neg h2, if_neg (fun h => h2 h.2)]
    exact ⟨o, e, h⟩
  ·
   rw [if_neg h1, if_neg (fun h => h1 h.1)]
   exact ⟨o, e, h⟩
theorem rOf_eq {N : Nat} (hN : 1000000000000 < N) {c : List Xb} {g : Int} (hl : c.length ≤ 65536) : Xeo N c g = some (cof c g) := by
 unfold Xeo
 obtain ⟨o, e, h⟩ := rOf_L1 (N := N) (g := g) hl c.length 0 N (by omega) (by omega)
 rw [show QK N c g N 0 = _ from e, Option.bind_some]
 rw [List.drop_zero] at h
 cases o with
 | inl u => simp only at h ⊢; rw [h]
 | inr v => simp only at h ⊢; rw [h]
theorem rTable_L9 {N : Nat} (hN : 1000000000000 < N) {b : List Int} {p y1 y4 i : Int} {ch : Bool} {l3 gl : List Int} {k1 c2 k3 : List Xb} {s0 : List TCtx} (hc : CB c2) (hg : ∀ x ∈ gl, 0 ≤ x ∧ x < 65536) (hgl : gl.length ≤ 70000) : ∀ (d k n : Nat) (t : List Bool), k + d = gl.length → d < n → t.length = 65536 →
  ∃ t', ZB N b p ch y1 y4 l3 i k1 c2 k3 gl s0 n k t = some t' ∧ t'.length = 65536 ∧ ∀ g, 0 ≤ g → (bb t' g = true ↔ if g ∈ gl.drop k then cof c2 g = i else bb t g = true) := by
 intro d
 induction d with
 | zero =>
  intro k n t hk hn ht
  obtain ⟨n, rfl⟩ : ∃ x, n = x + 1 := ⟨n - 1, by omega⟩
  rw [ZB, if_neg (by omega), List.drop_eq_nil_of_le (by omega)]
  exact ⟨t, rfl, ht, fun g _ => by simp⟩
 | succ d ih =>
  intro k n t hk hn ht
  obtain ⟨n, rfl⟩ : ∃ x, n = x + 1 := ⟨n - 1, by omega⟩
  have hkl : k < gl.length := by omega
  have hx := hg gl[k] (List.getElem_mem hkl)
  rw [ZB, if_pos (by omega), XY (List.getElem?_eq_getElem hkl), Option.bind_some, rOf_eq hN hc.2, Option.bind_some, bb_at (by omega) (by omega), Option.bind_some, w64 (x := (k : Int) + 1) (by omega) (by omega), show (k : Int) + 1 = ((k + 1 : Nat) : Int) by omega, List.drop_eq_getElem_cons hkl]
  obtain ⟨t', e, l', h⟩ := ih (k + 1) n (List.set t gl[k].toNat (decide (cof c2 gl[k] = i))) (by omega) (by omega) (by simp [ht])
  refine ⟨t', e, l', fun g h0 => ?_⟩
  rw [h g h0, bb_set (by omega) (by omega) h0]
  by_cases h1 : g ∈ gl.drop (k + 1)
  ·
   rw [if_pos h1, if_pos (List.mem_cons_of_mem _ h1)]
  ·
   rw [if_neg h1]
   by_cases h2 : g = gl[k]
   ·
    rw [if_pos h2, if_pos (by rw [h2]; exact List.mem_cons_self), decide_eq_true_eq, h2]
   ·
    rw [if_neg h2, if_neg]
    intro h3
    rcases List.mem_cons.1 h3 with h3 | h3
    ·
     exact h2 h3
    ·
     exact h1 h3
theorem spans_of {N : Nat} (hN : 1000000000000 < N) {t : List Bool} (ht : t.length = 65536) {sp : List TSpan} (hsp : RL 0 sp) {c2 : List Xb} (hc : CB c2) {i : Int} (h : ∀ g, 0 ≤ g → (bb t g = true ↔ if g ∈ glO sp then cof c2 g = i else False)) :
  Zd N t = some (ouB (decide (i = 0)) (wth i c2 []) sp []) := by
 obtain ⟨m, e2, r2, g2⟩ := Xk7 hN (t := t) (by omega)
 rw [e2]
 obtain ⟨r3, _, g3⟩ := Xkp (nt := decide (i = 0)) (Xn2 hc i).1 hsp (Int.le_refl 0) (o := []) trivial (by simp)
 refine congrArg some (RL.uniq r2 r3 fun x => ?_)
 by_cases hx : 0 ≤ x
 ·
  rw [g2 x hx, h x hx, g3 x, cof_wth hc]
  have hn : ¬ inn [] x := fun ⟨_, h, _⟩ => by cases h
  by_cases hm : inn sp x
  ·
   rw [if_pos (Xid.2 hm)]
   exact ⟨fun h => .inr ⟨hm, h⟩, fun h => h.elim (fun h => (hn h).elim) (fun h => h.2)⟩
  ·
   rw [if_neg (fun hh => hm (Xid.1 hh))]
   exact ⟨False.elim, fun h => h.elim (fun h => hn h) (fun h => hm h.1)⟩
 ·
  exact ⟨fun h => (Xku r2 (by omega) h).elim, fun h => (Xku r3 (by omega) h).elim⟩
section
variable {N : Nat} (hN : 1000000000000 < N) {b : List Int} (hb : Bytes b) (hl : b.length ≤ 1000000)
include hN hb hl
theorem gl_same {i : Int} (hi : i ≤ 1000000) (hi' : -1000000 ≤ i) {t : List Int} (h : covOk b i = true) (ht : ∀ g, 0 ≤ g → g < 65536 → (0 ≤ gb t g ↔ covIn b i g)) : glF t 0 65536 = glO (covL N b i) := by
 obtain ⟨l, c1, c2, c3⟩ := Xka hN hb (by omega) i (by omega) (by omega)
 have e : covL N b i = l := by unfold covL; rw [c1]; rfl
 rw [e]
 refine Inc.uniq Xnq (glO_inc (c3 h).1) fun g => ?_
 rw [Xnp, Xid, (c3 h).2 g]
 constructor
 ·
  exact fun hh => (ht g hh.1 (by omega)).1 hh.2.2
 ·
  intro hh
  have r := Xit hb h hh
  exact ⟨r.1, by omega, (ht g r.1 r.2).2 hh⟩
theorem Xbf {base off : Int} (h0 : -1000000 ≤ base) (h1 : base ≤ 1000000) (h2 : 0 ≤ off) (h3 : off ≤ 65535) : Jh N b base off = some (match YN N b base off with | some c => (c, true) | none => ([], false)) := by
 unfold Jh YN
 by_cases h : off = 0
 ·
  rw [if_pos h, if_pos h]
 ·
  rw [if_neg h, if_neg h, w64 (by omega) (by omega)]
  have c := clsL_eq hN hb (by omega) (base + off) (by omega) (by omega)
  rw [c.2.1, Option.bind_some]
  unfold clsO
  cases hc : clsOk b (base + off) with
  | true => rfl
  | false => simp only; rw [c.2.2.1 hc]; rfl
def cl3 (N : Nat) (b : List Int) (P base : Int) (ch : Bool) : Option (Int × List Xb × List Xb × List Xb) :=
 if ch = true then (num b P).bind fun o1 => (YN N b base o1).bind fun c1 => (num b (P + 2)).bind fun o2 => (YN N b base o2).bind fun c2 => (num b (P + 2 + 2)).bind fun o3 => (YN N b base o3).bind fun c3 => some (P + 2 + 2 + 2, c1, c2, c3)
 else (num b P).bind fun o2 => (YN N b base o2).bind fun c2 => some (P + 2, [], c2, [])
theorem rTable_L1 {P base : Int} {ch : Bool} {t : List Int} (h0 : -100000 ≤ base) (h1 : base ≤ 100000) (h2 : -100000 ≤ P) (h3 : P ≤ 100000) {M : Nat} : Xt N b base ch 2 t (M + 4) P 0 [] [] [] = some (match cl3 N b P base ch with | some r => .inl r | none => .inr ()) := by
 unfold cl3
 cases ch with
 | true =>
  rw [if_pos rfl]
  rw [Xt, if_pos (by decide), if_pos rfl, if_pos rfl, Yj hN hb (by omega) _ (by omega), Option.bind_some]
  try unfold num
  by_cases g1 : u16 b (P) < 0
  ·
   rw [if_pos g1, if_pos g1]; rfl
  have r1 := XL hb (P)
  rw [if_neg g1, if_neg g1, Option.bind_some, Xbf hN hb hl (by omega) (by omega) (by omega) (by omega), Option.bind_some]
  cases e1 : YN N b base (u16 b (P)) with
  | none => rfl
  | some c1 =>
   simp only [Option.bind_some, if_true]
   rw [w64 (x := P + 2) (by omega) (by omega), show IntKind.i64.wrap (0 + 1) = 1 from rfl]
   rw [Xt, if_pos (by decide), if_pos rfl, if_pos rfl, Yj hN hb (by omega) _ (by omega), Option.bind_some]
   try unfold num
   by_cases g2 : u16 b (P + 2) < 0
   ·
    rw [if_pos g2, if_pos g2]; rfl
   have r2 := XL hb (P + 2)
   rw [if_neg g2, if_neg g2, Option.bind_some, Xbf hN hb hl (by omega) (by omega) (by omega) (by omega), Option.bind_some]
   cases e2 : YN N b base (u16 b (P + 2)) with
   | none => rfl
   | some c2 =>
    simp only [Option.bind_some, if_true]
    rw [if_neg (by decide), w64 (x := P + 2 + 2) (by omega) (by omega), show IntKind.i64.wrap (1 + 1) = 2 from rfl]
    rw [Xt, if_pos (by decide), if_pos rfl, if_pos rfl, Yj hN hb (by omega) _ (by omega), Option.bind_some]
    try unfold num
    by_cases g3 : u16 b (P + 2 + 2) < 0
    ·
     rw [if_pos g3, if_pos g3]; rfl
    have r3 := XL hb (P + 2 + 2)
    rw [if_neg g3, if_neg g3, Option.bind_some, Xbf hN hb hl (by omega) (by omega) (by omega) (by omega), Option.bind_some]
    cases e3 : YN N b base (u16 b (P + 2 + 2)) with
    | none => rfl
    | some c3 =>
     simp only [Option.bind_some, if_true]
     rw [if_neg (by decide), if_neg (by decide), w64 (x := P + 2 + 2 + 2) (by omega) (by omega), show IntKind.i64.wrap (2 + 1) = 3 from rfl]
     rw [Xt, if_neg (by decide)]
 | false =>
  rw [if_neg (show ¬ (false = true) by decide), Xt, if_pos (by decide), if_pos rfl, if_neg (by decide), if_neg (by decide), show IntKind.i64.wrap (0 + 1) = 1 from rfl,
   Xt, if_pos (by decide), if_pos rfl, if_neg (by decide), if_pos rfl, Yj hN hb (by omega) _ (by omega), Option.bind_some]
  unfold num
  by_cases g1 : u16 b P < 0
  ·
   rw [if_pos g1, if_pos g1]; rfl
  have r1 := XL hb P
  rw [if_neg g1, if_neg g1, Option.bind_some, Xbf hN hb hl (by omega) (by omega) (by omega) (by omega), Option.bind_some]
  cases e1 : YN N b base (u16 b P) with
  | none => rfl
  | some c2 =>
   simp only [Option.bind_some, if_true]
   rw [if_neg (by decide), w64 (x := P + 2) (by omega) (by omega), show IntKind.i64.wrap (1 + 1) = 2 from rfl, Xt, if_pos (by decide), if_pos rfl, if_neg (by decide), if_neg (by decide), show IntKind.i64.wrap (2 + 1) = 3 from rfl, Xt, if_neg (by decide)]
end
theorem rTable_L6 {N : Nat} {b : List Int} {p y1 : Int} {ch : Bool} {y4 : Int} {l3 y gl : List Int} {i : Nat} {c1 c2 c3 : List Xb} (g : Int) {rl : Int → Option TR} {x : Int} (hx : l3[i]? = some x) (h0 : -10000 ≤ p) (h1 : p ≤ 10000) (h2 : 0 ≤ x) (h3 : x ≤ 65535) (hy : ∀ x ∈ y, 0 ≤ x ∧ x ≤ 65535) (hyl : y.length ≤ 64)
  (hr : ∀ q, -1000000 ≤ q → q ≤ 1000000 → ToldR (Jt N b q y1 ch [TSpan.mk g g] false c1 c2 c3) (rl q)) : ∀ (d k n : Nat) (s : List TCtx), k + d = y.length → d < n → s.length ≤ 64 →
  ZE N b p ch y1 y4 l3 (i : Int) (y.length : Int) y c1 c2 c3 gl g n k s = some (match JK rl (p + x) (y.drop k) s with | some t => .inl t | none => .inr ()) := by
 intro d
 induction d with
 | zero =>
  intro k n s hk hn hs
  obtain ⟨n, rfl⟩ : ∃ x, n = x + 1 := ⟨n - 1, by omega⟩
  rw [ZE, if_neg (by omega), List.drop_eq_nil_of_le (by omega)]
  rfl
 | succ d ih =>
  intro k n s hk hn hs
  obtain ⟨n, rfl⟩ : ∃ x, n = x + 1 := ⟨n - 1, by omega⟩
  have hkl : k < y.length := by omega
  have hb2 := hy y[k] (List.getElem_mem hkl)
  obtain ⟨r, e, hok, hq⟩ := hr (p + x + y[k]) (by omega) (by omega)
  rw [ZE, if_pos (by omega), XY hx, Option.bind_some, XY (List.getElem?_eq_getElem hkl), Option.bind_some, w64 (x := p + x) (by omega) (by omega), w64 (x := p + x + y[k]) (by omega) (by omega), e, Option.bind_some, List.drop_eq_getElem_cons hkl]
  obtain ⟨q1, q2, q3, q4, q5⟩ := r
  simp only at hok hq ⊢
  simp only [JK]
  cases er : rl (p + x + y[k]) with
  | none =>
   rw [er] at hok
   rw [hok]
   rfl
  | some q =>
   rw [er] at hok
   obtain ⟨e1, e2, e3, e4⟩ := hq q er
   rw [hok, if_pos (show (some q).isSome = true from rfl), Option.bind_some]
   by_cases h64 : (s.length : Int) = 64
   ·
    rw [if_pos h64, if_neg (by omega)]
   ·
    rw [if_neg h64, if_pos (by omega), if_pos (by omega), w64 (x := (k : Int) + 1) (by omega) (by omega), show (k : Int) + 1 = ((k + 1 : Nat) : Int) by omega, e1, e2, e3, e4]
    exact ih (k + 1) n _ (by omega) (by omega) (by simp; omega)
theorem rTable_L8 {N : Nat} {b : List Int} {p y1 : Int} {ch : Bool} {y4 : Int} {l3 y gl : List Int} {i : Nat} {c1 c2 c3 : List Xb} (sp : List TSpan) {rl : Int → Option TR} {x : Int} (hx : l3[i]? = some x) (h0 : -10000 ≤ p) (h1 : p ≤ 10000) (h2 : 0 ≤ x) (h3 : x ≤ 65535) (hy : ∀ x ∈ y, 0 ≤ x ∧ x ≤ 65535) (hyl : y.length ≤ 64)
  (hr : ∀ q, -1000000 ≤ q → q ≤ 1000000 → ToldR (Jt N b q y1 ch sp false c1 c2 c3) (rl q)) : ∀ (d k n : Nat) (s : List TCtx), k + d = y.length → d < n → s.length ≤ 64 →
  ZC N b p ch y1 y4 l3 (i : Int) (y.length : Int) y c1 c2 c3 gl sp n k s = some (match JK rl (p + x) (y.drop k) s with | some t => .inl t | none => .inr ()) := by
 intro d
 induction d with
 | zero =>
  intro k n s hk hn hs
  obtain ⟨n, rfl⟩ : ∃ x, n = x + 1 := ⟨n - 1, by omega⟩
  rw [ZC, if_neg (by omega), List.drop_eq_nil_of_le (by omega)]
  rfl
 | succ d ih =>
  intro k n s hk hn hs
  obtain ⟨n, rfl⟩ : ∃ x, n = x + 1 := ⟨n - 1, by omega⟩
  have hkl : k < y.length := by omega
  have hb2 := hy y[k] (List.getElem_mem hkl)
  obtain ⟨r, e, hok, hq⟩ := hr (p + x + y[k]) (by omega) (by omega)
  rw [ZC, if_pos (by omega), XY hx, Option.bind_some, XY (List.getElem?_eq_getElem hkl), Option.bind_some, w64 (x := p + x) (by omega) (by omega), w64 (x := p + x + y[k]) (by omega) (by omega), e, Option.bind_some, List.drop_eq_getElem_cons hkl]
  obtain ⟨q1, q2, q3, q4, q5⟩ := r
  simp only at hok hq ⊢
  simp only [JK]
  cases er : rl (p + x + y[k]) with
  | none =>
   rw [er] at hok
   rw [hok]
   rfl
  | some q =>
   rw [er] at hok
   obtain ⟨e1, e2, e3, e4⟩ := hq q er
   rw [hok, if_pos (show (some q).isSome = true from rfl), Option.bind_some]
   by_cases h64 : (s.length : Int) = 64
   ·
    rw [if_pos h64, if_neg (by omega)]
   ·
    rw [if_neg h64, if_pos (by omega), if_pos (by omega), w64 (x := (k : Int) + 1) (by omega) (by omega), show (k : Int) + 1 = ((k + 1 : Nat) : Int) by omega, e1, e2, e3, e4]
    exact ih (k + 1) n _ (by omega) (by omega) (by simp; omega)
section
variable {N : Nat} (hN : 1000000000000 < N) {b : List Int} (hb : Bytes b) (hl : b.length ≤ 1000000)
include hN hb hl
theorem Xm5 {p : Int} {ch : Bool} {l3 gl : List Int} {c1 c2 c3 : List Xb} (hgl : gl.length = l3.length) (h0 : -10000 ≤ p) (h1 : p ≤ 10000) (hl2 : b.length ≤ 10000) (g1 : CB c1) (g2 : CB c2) (g3 : CB c3) (hx : ∀ x ∈ l3, 0 ≤ x ∧ x ≤ 65535) (hll : l3.length ≤ 100000) : ∀ (d k n : Nat) (s : List TCtx), k + d = l3.length → d < n → s.length ≤ 64 →
  XO N b p ch 1 (l3.length : Int) l3 c1 c2 c3 gl n k s = some (match listM b (glR N b ch gl) p k (l3.drop k) s with | some t => .inl t | none => .inr ()) := by
 intro d
 induction d with
 | zero =>
  intro k n s hk hn hs
  obtain ⟨n, rfl⟩ : ∃ x, n = x + 1 := ⟨n - 1, by omega⟩
  rw [XO, if_neg (by omega), List.drop_eq_nil_of_le (by omega)]
  rfl
 | succ d ih =>
  intro k n s hk hn hs
  obtain ⟨n, rfl⟩ : ∃ x, n = x + 1 := ⟨n - 1, by omega⟩
  have hkl : k < l3.length := by omega
  have hat : l3[k]? = some l3[k] := List.getElem?_eq_getElem hkl
  have hb2 := hx l3[k] (List.getElem_mem hkl)
  rw [XO, if_pos (by omega), XY hat, Option.bind_some, w64 (x := (k : Int) + 1) (by omega) (by omega), show (k : Int) + 1 = ((k + 1 : Nat) : Int) by omega, List.drop_eq_getElem_cons hkl]
  rw [listM]
  by_cases hz : l3[k] = 0
  ·
   rw [if_pos hz, if_pos hz]
   exact ih (k + 1) n s (by omega) (by omega) hs
  rw [if_neg hz, if_neg hz]
  have hkg : k < gl.length := by omega
  rw [if_pos rfl, XY (x := (gl[k]?).getD 0) (by rw [List.getElem?_eq_getElem hkg]; rfl), Option.bind_some]
  have r := XL hb (p + l3[k])
  rw [w64 (x := p + l3[k]) (by omega) (by omega), Yj hN hb (by omega) _ (by omega), Option.bind_some, w64 (x := p + l3[k] + 2) (by omega) (by omega), Xbo hN hb hl (by omega) (by omega) (by omega), Option.bind_some]
  obtain ⟨⟨ra, rb⟩, hR⟩ : ∃ z, rowR b (p + l3[k] + 2) (u16 b (p + l3[k])) = z := ⟨_, rfl⟩
  rw [hR]
  simp only
  unfold num
  by_cases v1 : u16 b (p + l3[k]) < 0
  ·
   rw [if_pos v1, if_pos v1]; rfl
  rw [if_neg v1, if_neg v1, Option.bind_some]
  by_cases v2 : 64 < u16 b (p + l3[k])
  ·
   rw [if_pos v2, if_neg (by omega)]
  have hin := (not_congr (Yr hb (i := p + l3[k]))).1 v1
  rw [if_neg v2, if_pos (show u16 b (p + l3[k]) ≤ 64 by omega)]
  rw [Xah hb (by omega) (by omega) (by omega)] at hR
  cases e1 : row b (p + l3[k] + 2) (u16 b (p + l3[k])) with
  | none => rw [e1] at hR; cases hR; rfl
  | some y =>
   rw [e1] at hR
   obtain ⟨hR1, hR2⟩ := Prod.mk.inj hR
   subst hR1
   subst hR2
   have hr := Xw hb e1
   simp only [if_true, Option.bind_some]
   have e := rTable_L6 (N := N) (b := b) (p := p) (y1 := 1) (ch := ch) (y4 := (l3.length : Int)) (l3 := l3) (y := y) (gl := gl) (i := k) (c1 := c1) (c2 := c2) (c3 := c3) ((gl[k]?).getD 0) (rl := (glR N b ch gl) k) hat h0 h1 hb2.1 hb2.2 hr.2.2.2.2.2 (by omega) (fun q v1 v2 => Xof hN hb hl v1 v2 hl2 g1 g2 g3) y.length 0 N s (by omega) (by omega) hs
   rw [List.drop_zero, hr.2.1] at e
   rw [show ZE N b p ch 1 (l3.length : Int) l3 (k : Int) (u16 b (p + l3[k])) y c1 c2 c3 gl ((gl[k]?).getD 0) N 0 s = _ from e, Option.bind_some]
   cases e8 : JK ((glR N b ch gl) k) (p + l3[k]) y s with
   | none => rfl
   | some s2 =>
    simp only [Option.bind_some]
    exact ih (k + 1) n s2 (by omega) (by omega) (Xap e8 hs)
theorem Xm6 {p : Int} {ch : Bool} {l3 gl : List Int} {c1 c2 c3 : List Xb} {sp : List TSpan} (hsp : RL 0 sp) (hgl : gl = glO sp) (h0 : -10000 ≤ p) (h1 : p ≤ 10000) (hl2 : b.length ≤ 10000) (g1 : CB c1) (g2 : CB c2) (g3 : CB c3) (hx : ∀ x ∈ l3, 0 ≤ x ∧ x ≤ 65535) (hll : l3.length ≤ 100000) : ∀ (d k n : Nat) (s : List TCtx), k + d = l3.length → d < n → s.length ≤ 64 →
  XO N b p ch 2 (l3.length : Int) l3 c1 c2 c3 gl n k s = some (match listM b (clR b ch sp c2 c1 c2 c3) p k (l3.drop k) s with | some t => .inl t | none => .inr ()) := by
 intro d
 induction d with
 | zero =>
  intro k n s hk hn hs
  obtain ⟨n, rfl⟩ : ∃ x, n = x + 1 := ⟨n - 1, by omega⟩
  rw [XO, if_neg (by omega), List.drop_eq_nil_of_le (by omega)]
  rfl
 | succ d ih =>
  intro k n s hk hn hs
  obtain ⟨n, rfl⟩ : ∃ x, n = x + 1 := ⟨n - 1, by omega⟩
  have hkl : k < l3.length := by omega
  have hat : l3[k]? = some l3[k] := List.getElem?_eq_getElem hkl
  have hb2 := hx l3[k] (List.getElem_mem hkl)
  rw [XO, if_pos (by omega), XY hat, Option.bind_some, w64 (x := (k : Int) + 1) (by omega) (by omega), show (k : Int) + 1 = ((k + 1 : Nat) : Int) by omega, List.drop_eq_getElem_cons hkl]
  rw [listM]
  by_cases hz : l3[k] = 0
  ·
   rw [if_pos hz, if_pos hz]
   exact ih (k + 1) n s (by omega) (by omega) hs
  rw [if_neg hz, if_neg hz]
  have hgm : ∀ x ∈ gl, 0 ≤ x ∧ x < 65536 := fun x hx => by
   rw [hgl] at hx
   obtain ⟨z, hz, z1, z2⟩ := Xid.1 hx
   have := RL.lows hsp z hz
   omega
  have hgn : gl.length ≤ 70000 := by have := Xno hsp; have := (Jd hsp 0).2.2.2; rw [hgl]; omega
  obtain ⟨t, e9, l9, g9⟩ := rTable_L9 hN (b := b) (p := p) (y1 := 2) (y4 := (l3.length : Int)) (i := (k : Int)) (ch := ch) (l3 := l3) (gl := gl) (k1 := c1) (c2 := c2) (k3 := c3) (s0 := s) g2 hgm hgn gl.length 0 N (List.replicate 65536 false) (by omega) (by omega) (by rw [List.length_replicate])
  rw [if_neg (by decide), show ZB N b p ch 2 (l3.length : Int) l3 (k : Int) c1 c2 c3 gl s N 0 (List.replicate 65536 false) = _ from e9, Option.bind_some, spans_of hN l9 hsp g2 (i := (k : Int)) (fun g hg => by rw [g9 g hg, List.drop_zero, hgl, bb_rep]; simp), Option.bind_some]
  have r := XL hb (p + l3[k])
  rw [w64 (x := p + l3[k]) (by omega) (by omega), Yj hN hb (by omega) _ (by omega), Option.bind_some, w64 (x := p + l3[k] + 2) (by omega) (by omega), Xbo hN hb hl (by omega) (by omega) (by omega), Option.bind_some]
  obtain ⟨⟨ra, rb⟩, hR⟩ : ∃ z, rowR b (p + l3[k] + 2) (u16 b (p + l3[k])) = z := ⟨_, rfl⟩
  rw [hR]
  simp only
  unfold num
  by_cases v1 : u16 b (p + l3[k]) < 0
  ·
   rw [if_pos v1, if_pos v1]; rfl
  rw [if_neg v1, if_neg v1, Option.bind_some]
  by_cases v2 : 64 < u16 b (p + l3[k])
  ·
   rw [if_pos v2, if_neg (by omega)]
  have hin := (not_congr (Yr hb (i := p + l3[k]))).1 v1
  rw [if_neg v2, if_pos (show u16 b (p + l3[k]) ≤ 64 by omega)]
  rw [Xah hb (by omega) (by omega) (by omega)] at hR
  cases e1 : row b (p + l3[k] + 2) (u16 b (p + l3[k])) with
  | none => rw [e1] at hR; cases hR; rfl
  | some y =>
   rw [e1] at hR
   obtain ⟨hR1, hR2⟩ := Prod.mk.inj hR
   subst hR1
   subst hR2
   have hr := Xw hb e1
   simp only [if_true, Option.bind_some]
   have e := rTable_L8 (N := N) (b := b) (p := p) (y1 := 2) (ch := ch) (y4 := (l3.length : Int)) (l3 := l3) (y := y) (gl := gl) (i := k) (c1 := c1) (c2 := c2) (c3 := c3) (ouB (decide ((k : Int) = 0)) (wth (k : Int) c2 []) sp []) (rl := (clR b ch sp c2 c1 c2 c3) k) hat h0 h1 hb2.1 hb2.2 hr.2.2.2.2.2 (by omega) (fun q v1 v2 => Xof hN hb hl v1 v2 hl2 g1 g2 g3) y.length 0 N s (by omega) (by omega) hs
   rw [List.drop_zero, hr.2.1] at e
   rw [show ZC N b p ch 2 (l3.length : Int) l3 (k : Int) (u16 b (p + l3[k])) y c1 c2 c3 gl (ouB (decide ((k : Int) = 0)) (wth (k : Int) c2 []) sp []) N 0 s = _ from e, Option.bind_some]
   cases e8 : JK ((clR b ch sp c2 c1 c2 c3) k) (p + l3[k]) y s with
   | none => rfl
   | some s2 =>
    simp only [Option.bind_some]
    exact ih (k + 1) n s2 (by omega) (by omega) (Xap e8 hs)
theorem Xln {p : Int} {ch : Bool} (h0 : -5000 ≤ p) (h1 : p ≤ 5000) (hl2 : b.length ≤ 10000) : Told (JP N b p ch) (Js N b p ch) (fun r => r.1) := by
 unfold JP Js num
 rw [Yj hN hb (by omega) _ (by omega), Option.bind_some]
 by_cases v0 : u16 b p < 0
 ·
  rw [if_pos v0, if_neg (by omega), w64 (x := p + 2) (by omega) (by omega), Yj hN hb (by omega) _ (by omega), Option.bind_some, if_neg (by omega), if_neg (by omega)]
  exact Told.no
 rw [if_neg v0, Option.bind_some]
 by_cases v3 : u16 b p = 3
 ·
  rw [if_pos v3, if_neg (by omega), if_neg (by omega), if_pos v3]
  obtain ⟨l, e, h⟩ := rThird_eq hN hb hl (p := p) (ch := ch) (by omega) (by omega) hl2
  rw [e, Option.bind_some]
  exact ⟨l, rfl, h⟩
 rw [if_neg v3, w64 (x := p + 2) (by omega) (by omega), w64 (x := p + 4) (by omega) (by omega), Yj hN hb (by omega) _ (by omega), Option.bind_some]
 have r2 := XL hb (p + 2)
 have row1 : ¬ u16 b (p + 2) < 0 → row b (p + 2) 1 = some [u16 b (p + 2)] := fun h => by
  have hin := (not_congr (Yr hb (i := p + 2))).1 h
  unfold row
  rw [if_pos (by omega)]
  have := Xai (b := b) (i := p + 2) (n := 1) (k := 0) (by omega)
  simp only [Int.toNat_one, row16, List.range_one, List.map_cons, List.map_nil]
  simp
 have row0 : u16 b (p + 2) < 0 → row b (p + 2) 1 = none := fun h => by
  have hin := (Yr hb (i := p + 2)).1 h
  unfold row
  rw [if_neg (by omega)]
 obtain ⟨M, hM⟩ : ∃ M, N = M + 4 := ⟨N - 4, by omega⟩
 obtain ⟨t, t1, t2⟩ := Xmr hN hb (by omega) (p + u16 b (p + 2)) (by omega) (by omega)
 have cr := fun s => Xdg hN hb hl (p := p + u16 b (p + 2)) (s := s) (by omega) (by omega)
 by_cases v1 : u16 b p = 1
 ·
  rw [if_pos v1, if_pos v1]
  unfold Xea
  by_cases w2 : u16 b (p + 2) < 0
  ·
   rw [if_pos w2, row0 w2]; exact Told.no
  rw [if_neg w2, row1 w2, Option.bind_some, w64 (x := p + u16 b (p + 2)) (by omega) (by omega), t1, Option.bind_some]
  simp only [covs, cov]
  cases hc : covOk b (p + u16 b (p + 2)) with
  | false => exact Told.no
  | true =>
   obtain ⟨t2, t3⟩ := t2 hc
   have crl := (cr (covL N b (p + u16 b (p + 2))) (by unfold cov; rw [if_pos hc])).1
   have hgs := gl_same hN hb hl (i := p + u16 b (p + 2)) (by omega) (by omega) hc t3
   generalize covL N b (p + u16 b (p + 2)) = sp at crl hgs
   simp only [if_true, Option.bind_some]
   rw [v1, show Xt N b p ch 1 t N (p + 4) 0 [] [] [] = some (.inl (p + 4, [], [], [])) from by
    rw [show Xt N b p ch 1 t N = Xt N b p ch 1 t (M + 4) from by rw [← hM]]; rw [Xt, if_pos (by decide), if_neg (by decide)], Option.bind_some]
   simp only
   rw [Yj hN hb (by omega) _ (by omega), Option.bind_some, show p + 2 + 2 = p + 4 by omega]
   unfold num
   by_cases w4 : u16 b (p + 4) < 0
   ·
    rw [if_pos w4, if_pos w4]; exact Told.no
   have r4 := XL hb (p + 4)
   have hin := (not_congr (Yr hb (i := p + 4))).1 w4
   rw [if_neg w4, if_neg w4, Option.bind_some, show YA N b p ch 1 t (p + 4) (u16 b (p + 4)) [] [] [] N 0 [] = some (glO sp) from by
    have := Xlo (N := N) (b := b) (p := p) (y1 := 1) (y3 := p + 4) (y4 := u16 b (p + 4)) (ch := ch) (k1 := []) (k2 := []) (k3 := []) t2 65536 0 N [] (by omega) (by omega) (by simp)
    rw [show ((0 : Nat) : Int) = 0 from rfl] at this
    rw [this, hgs]; rfl, Option.bind_some, w64 (x := p + 4 + 2) (by omega) (by omega), Xbo hN hb hl (by omega) (by omega) (by omega), Option.bind_some, Xah hb (by omega) (by omega) (by omega)]
   have gln := Xno crl
   rw [show Xd3 [(⟨sp, false⟩ : TSet)] = sp from rfl]
   cases e1 : row b (p + 4 + 2) (u16 b (p + 4)) with
   | none =>
    simp only [Option.bind_none]
    by_cases hn : u16 b (p + 4) = cnt sp
    ·
     rw [if_pos hn]; exact Told.no
    ·
     rw [if_neg hn]; exact Told.no
   | some l3 =>
    have hr := Xw hb e1
    simp only [if_true, Option.bind_some]
    by_cases hn : u16 b (p + 4) = cnt sp
    ·
     rw [if_pos hn, if_pos (by omega), ← hr.2.1]
     have e := Xm5 hN hb hl (p := p) (ch := ch) (l3 := l3) (gl := glO sp) (c1 := []) (c2 := []) (c3 := []) (by omega) (by omega) (by omega) hl2 CB.nil CB.nil CB.nil hr.2.2.2.2.2 (by omega) l3.length 0 N [] (by omega) (by omega) (by simp)
     rw [List.drop_zero] at e
     rw [show XO N b p ch 1 (l3.length : Int) l3 [] [] [] (glO sp) N 0 [] = _ from e, Option.bind_some]
     cases listM b (glR N b ch (glO sp)) p 0 l3 [] with
     | none => exact Told.no
     | some s => exact Told.yes (a := (s, _)) (f := fun r => r.1)
    ·
     rw [if_neg hn, if_neg (by omega)]; exact Told.no
 rw [if_neg v1, if_neg v1]
 by_cases v2 : u16 b p = 2
 ·
  rw [if_pos v2, if_pos v2]
  have hcl : Xbm N b (p + 2) p ch = (row b (p + 2) 1).bind fun l => (covs N b p l).bind fun r => (cl3 N b (p + 2 + 2) p ch).bind fun k => (num b k.1).bind fun n => (row b (k.1 + 2) n).bind fun l2 => (listM b (clR b ch (Xd3 r) k.2.2.1 k.2.1 k.2.2.1 k.2.2.2) p 0 l2 []).bind fun s => some (s, k.1 + 2 + n * 2) := by
   unfold Xbm cl3
   cases ch with
   | true => simp only [if_true, Option.bind_assoc, Option.bind_some]
   | false => simp only [Bool.false_eq_true, if_false, Option.bind_assoc, Option.bind_some]
  rw [hcl]
  by_cases w2 : u16 b (p + 2) < 0
  ·
   rw [if_pos w2, row0 w2]; exact Told.no
  rw [if_neg w2, row1 w2, Option.bind_some, w64 (x := p + u16 b (p + 2)) (by omega) (by omega), t1, Option.bind_some]
  simp only [covs, cov]
  cases hc : covOk b (p + u16 b (p + 2)) with
  | false => exact Told.no
  | true =>
   obtain ⟨t2, t3⟩ := t2 hc
   have crl := (cr (covL N b (p + u16 b (p + 2))) (by unfold cov; rw [if_pos hc])).1
   have hgs := gl_same hN hb hl (i := p + u16 b (p + 2)) (by omega) (by omega) hc t3
   generalize covL N b (p + u16 b (p + 2)) = sp at crl hgs
   simp only [if_true, Option.bind_some]
   have e := rTable_L1 hN hb hl (P := p + 4) (base := p) (ch := ch) (t := t) (M := M) (by omega) (by omega) (by omega) (by omega)
   rw [← hM] at e
   rw [v2, e, Option.bind_some, show p + 2 + 2 = p + 4 by omega]
   cases e3 : cl3 N b (p + 4) p ch with
   | none => exact Told.no
   | some k =>
    obtain ⟨q, c1, c2, c3⟩ := k
    have hk : q ≤ 20000 ∧ -20000 ≤ q ∧ CB c1 ∧ CB c2 ∧ CB c3 := by
     have cb : ∀ (x o : Int) (c : List Xb), num b x = some o → YN N b p o = some c → CB c := fun x o c h => QR hN hb hl (base := p) (off := o) (c := c) (by omega) (by omega) (by have := Xy hb h; omega) (by have := Xy hb h; omega)
     unfold cl3 at e3
     split at e3
     ·
      obtain ⟨o1, e4, e3⟩ := Option.bind_eq_some_iff.1 e3
      obtain ⟨d1, e5, e3⟩ := Option.bind_eq_some_iff.1 e3
      obtain ⟨o2, e6, e3⟩ := Option.bind_eq_some_iff.1 e3
      obtain ⟨d2, e7, e3⟩ := Option.bind_eq_some_iff.1 e3
      obtain ⟨o3, e8, e3⟩ := Option.bind_eq_some_iff.1 e3
      obtain ⟨d3, e9, e3⟩ := Option.bind_eq_some_iff.1 e3
      cases e3
      exact ⟨by omega, by omega, cb _ _ _ e4 e5, cb _ _ _ e6 e7, cb _ _ _ e8 e9⟩
     ·
      obtain ⟨o2, e6, e3⟩ := Option.bind_eq_some_iff.1 e3
      obtain ⟨d2, e7, e3⟩ := Option.bind_eq_some_iff.1 e3
      cases e3
      exact ⟨by omega, by omega, CB.nil, cb _ _ _ e6 e7, CB.nil⟩
    obtain ⟨k1, k2, k3, k4, k5⟩ := hk
    simp only [Option.bind_some]
    rw [Yj hN hb (by omega) _ (by omega), Option.bind_some]
    unfold num
    by_cases w4 : u16 b q < 0
    ·
     rw [if_pos w4, if_pos w4]; exact Told.no
    have r4 := XL hb q
    have hin := (not_congr (Yr hb (i := q))).1 w4
    rw [if_neg w4, if_neg w4, Option.bind_some, show YA N b p ch 2 t q (u16 b q) c1 c2 c3 N 0 [] = some (glO sp) from by
     have := Xlo (N := N) (b := b) (p := p) (y1 := 2) (y3 := q) (y4 := u16 b q) (ch := ch) (k1 := c1) (k2 := c2) (k3 := c3) t2 65536 0 N [] (by omega) (by omega) (by simp)
     rw [show ((0 : Nat) : Int) = 0 from rfl] at this
     rw [this, hgs]; rfl, Option.bind_some, w64 (x := q + 2) (by omega) (by omega), Xbo hN hb hl (by omega) (by omega) (by omega), Option.bind_some, Xah hb (by omega) (by omega) (by omega)]
    rw [show Xd3 [(⟨sp, false⟩ : TSet)] = sp from rfl]
    cases e1 : row b (q + 2) (u16 b q) with
    | none => exact Told.no
    | some l3 =>
     have hr := Xw hb e1
     simp only [if_true, Option.bind_some]
     have e := Xm6 hN hb hl (p := p) (ch := ch) (l3 := l3) (gl := glO sp) (c1 := c1) (c2 := c2) (c3 := c3) crl rfl (by omega) (by omega) hl2 k3 k4 k5 hr.2.2.2.2.2 (by omega) l3.length 0 N [] (by omega) (by omega) (by simp)
     rw [List.drop_zero, hr.2.1] at e
     rw [show XO N b p ch 2 (u16 b q) l3 c1 c2 c3 (glO sp) N 0 [] = _ from e, Option.bind_some]
     cases listM b (clR b ch sp c2 c1 c2 c3) p 0 l3 [] with
     | none => exact Told.no
     | some s => exact Told.yes (a := (s, _)) (f := fun r => r.1)
 rw [if_neg v2, if_neg v2, if_neg v3]
 exact Told.no
end
end Go.Proofs.Ytcbhlpbkampfeaa.AI
