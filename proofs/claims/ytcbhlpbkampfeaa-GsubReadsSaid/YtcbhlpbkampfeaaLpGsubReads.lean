import Derived.Test.YtcbhlpbkampfeaaCX11
set_option linter.unusedVariables false
set_option linter.unusedSimpArgs false
set_option maxRecDepth 100000
namespace Go.Proofs.Ytcbhlpbkampfeaa.AI
def R7 : Option G7 → Option (Int × List TSpan × Bool × Int × List (List Int) × List (List TLig) × List TCtx × List Qw × List (List TTwo) × List Xb × List Xb × List (List TTwo) × List XE × List TMark × List TSpan × List (List (List XK)) × Bool)
 | some g => some (g.k, g.c, g.all, g.d, g.o, g.l, g.r, [], [], [], [], [], [], [], [], [], true)
 | none => some (0, [], false, 0, [], [], [], [], [], [], [], [], [], [], [], [], false)
theorem rOnes_L1 {N : Nat} {l : List Int} (hl' : l.length ≤ 1000000) : ∀ (d k n : Nat) (s : List (List Int)), k + d = l.length → d < n → s.length ≤ k → ZV N l n k s = some (s ++ onesM (l.drop k)) := by
 intro d
 induction d with
 | zero =>
  intro k n s hk hn hs
  obtain ⟨n, rfl⟩ : ∃ x, n = x + 1 := ⟨n - 1, by omega⟩
  rw [ZV, if_neg (by omega), List.drop_eq_nil_of_le (by omega)]
  simp [onesM]
 | succ d ih =>
  intro k n s hk hn hs
  obtain ⟨n, rfl⟩ : ∃ x, n = x + 1 := ⟨n - 1, by omega⟩
  have hkl : k < l.length := by omega
  rw [ZV, if_pos (by omega), XY (List.getElem?_eq_getElem hkl), Option.bind_some, if_pos (by omega), w64 (x := (k : Int) + 1) (by omega) (by omega), show (k : Int) + 1 = ((k + 1 : Nat) : Int) by omega, ih (k + 1) n _ (by omega) (by omega) (by simp; omega), List.drop_eq_getElem_cons hkl]
  simp only [onesM, List.map_cons, List.append_assoc, List.cons_append, List.nil_append]
theorem Xog {N : Nat} (hN : 1000000000000 < N) {l : List Int} (hl' : l.length ≤ 1000000) : Jf N l = some (onesM l) := by
 unfold Jf
 have h := rOnes_L1 (N := N) hl' l.length 0 N [] (by omega) (by omega) (by simp)
 rw [List.drop_zero] at h
 rw [show ZV N l N 0 [] = _ from h]; rfl
theorem seq_in {b : List Int} (hb : Bytes b) {p lo cut q : Int} {l : List Int} (hc : 0 ≤ cut) (hlo : cut ≤ lo) (h : seqM b p lo cut = some (l, q)) : (∀ x ∈ l, 0 ≤ x ∧ x ≤ 65535) ∧ l.length ≤ 16 ∧ 0 ≤ q ∧ q ≤ (b.length : Int) := by
 unfold seqM at h
 obtain ⟨n, e1, h⟩ := Option.bind_eq_some_iff.1 h
 obtain ⟨r, e2, h⟩ := Option.bind_eq_some_iff.1 h
 cases h
 have a := XF hb e1
 have r := Xw hb e2
 exact ⟨r.2.2.2.2.2, by omega, by omega, by omega⟩
section
variable {N : Nat} (hN : 1000000000000 < N) {b : List Int} (hb : Bytes b) (hl : b.length ≤ 100000)
include hN hb hl
theorem rNum4_eq (i : Int) (hi : i ≤ 1000000000000) : QE N b i 4 = some (if u32 b i < 0 then (0, false) else (u32 b i, true)) := by
 unfold QE
 rw [Xjk (by omega) (by omega), Option.bind_some]
 by_cases h : 0 ≤ i ∧ i + 4 ≤ (b.length : Int)
 ·
  obtain ⟨m, hm⟩ : ∃ m, N = m + 5 := ⟨N - 5, by omega⟩
  have h1 := Za hb (i + ((0 : Nat) : Int)); have h2 := Za hb (i + ((0 + 1 : Nat) : Int)); have h3 := Za hb (i + ((0 + 1 + 1 : Nat) : Int))
  have hu : u32 b i = ((gb b i * 256 + gb b (i + 1)) * 256 + gb b (i + 2)) * 256 + gb b (i + 3) := if_pos h
  have h0 : XP N b i 4 N 0 0 = some (u32 b i) := by
   rw [show XP N b i 4 N 0 0 = XP N b i 4 (m + 5) 0 ((0 : Nat) : Int) by rw [← hm]; rfl]
   rw [Xdn h.1 (by omega) h.2 hb (by omega) (by omega) (by omega)]
   rw [Xdn h.1 (by omega) h.2 hb (by omega) (by omega) (by omega)]
   rw [Xdn h.1 (by omega) h.2 hb (by omega) (by omega) (by omega)]
   rw [Xdn h.1 (by omega) h.2 hb (by omega) (by omega) (by omega), rnumEnd (len := 4) (k := 0 + 1 + 1 + 1 + 1) rfl, hu]
   congr 1
   simp
  have n := not_congr (u32_neg hb (i := i))
  rw [if_pos (by simp; omega), h0, if_neg (n.2 (fun q => q h))]
  rfl
 ·
  rw [if_neg (by simp; omega), if_pos ((u32_neg hb).2 h)]
theorem rEach_eq {p : Int} {sp : List TSpan} (h0 : -1000000 ≤ p) (h1 : p ≤ 1000000) (hsp : RL 0 sp) : QB N b p sp = some (match eachM b p sp with | some r => (r.1, true) | none => ([], false)) := by
 unfold QB eachM
 rw [Yj hN hb (by omega) p (by omega), Option.bind_some, rCount_eq hN hsp, Option.bind_some]
 cases e : num b p with
 | none =>
  have : u16 b p < 0 := by
   unfold num at e; split at e
   ·
    assumption
   ·
    cases e
  rw [if_pos this]; rfl
 | some n =>
  obtain ⟨rfl, g0, g1, g2, g3⟩ := Xy hb e
  rw [if_neg (by omega), Option.bind_some]
  by_cases g : u16 b p = cnt sp
  ·
   rw [if_pos g, if_pos g, w64 (x := p + 2) (by omega) (by omega), Xbo hN hb (by omega) (by omega) (by omega) (by omega), Xah hb g0 (by omega) (by omega)]
   cases row b (p + 2) (u16 b p) <;> rfl
  ·
   rw [if_neg g, if_neg g]
theorem Xlp {base p : Int} (h0 : -800000 ≤ base) (h1 : base ≤ 800000) (h2 : -900000 ≤ p) (h3 : p ≤ 900000) :
  ∃ l q ok l2 ok2, Zt N b p 0 0 = some (l, q, ok) ∧ Qe N b base l = some (l2, ok2) ∧ match gSets N b base p with | some r => ok = true ∧ ok2 = true ∧ l2 = r.1 ∧ q = r.2 | none => ok = false ∨ ok2 = false := by
 obtain ⟨l, q, ok, e, h⟩ := Xck hN hb (by omega) (p := p) (lo := 0) (cut := 0) (by omega) (by omega) (by omega) (by omega) (by omega)
 unfold gSets
 cases es : seqM b p 0 0 with
 | none =>
  rw [es] at h
  obtain ⟨rfl, rfl⟩ := h
  exact ⟨[], q, false, _, _, e, Ji hN hb (by omega) (by omega) (by omega) (by simp) (by simp), .inl rfl⟩
 | some r =>
  rw [es] at h
  obtain ⟨rfl, rfl, rfl⟩ := h
  have si := seq_in hb (by omega) (by omega) (show seqM b p 0 0 = some (r.1, r.2) from es)
  have ec := Ji hN hb (by omega) (base := base) (by omega) (by omega) si.1 (by omega)
  simp only [Option.bind_some]
  cases hc : covs N b base r.1 with
  | none => rw [hc] at ec; exact ⟨_, _, _, _, _, e, ec, .inr rfl⟩
  | some s => rw [hc] at ec; exact ⟨_, _, _, _, _, e, ec, rfl, rfl, rfl, rfl⟩
theorem rRead_L1 {base k p : Int} {c : List TSpan} (h0 : -800000 ≤ base) (h1 : base ≤ 800000) (h2 : -900000 ≤ p) (h3 : p ≤ 900000) : Yt N b base k c N p 0 [] [] = some (match (gSets N b base p).bind fun s1 => (gSets N b base s1.2).bind fun s2 => some (s2.2, s1.1, s2.1) with | some r => .inl r | none => .inr ()) := by
 obtain ⟨m, hm⟩ : ∃ m, N = m + 3 := ⟨N - 3, by omega⟩
 rw [show Yt N b base k c N p 0 [] [] = Yt N b base k c (m + 3) p 0 [] [] by rw [← hm]]
 obtain ⟨l, q, ok, l2, ok2, e1, e2, h⟩ := Xlp hN hb hl h0 h1 h2 h3
 rw [Yt, if_pos (by omega), e1, Option.bind_some]
 simp only
 rw [e2, Option.bind_some]
 simp only
 cases eg : gSets N b base p with
 | none =>
  rw [eg] at h
  rcases h with rfl | rfl
  ·
   rfl
  ·
   cases ok <;> rfl
 | some s1 =>
  rw [eg] at h
  obtain ⟨rfl, rfl, rfl, rfl⟩ := h
  have g1 := Xb4 hb (show gSets N b base p = some (s1.1, s1.2) from eg)
  obtain ⟨l, q, ok, l2, ok2, f1, f2, h⟩ := Xlp hN hb hl h0 h1 (p := s1.2) (by omega) (by omega)
  simp only [Option.bind_some, if_true]
  rw [show IntKind.i64.wrap (0 + 1) = 1 from rfl, Yt, if_pos (by omega), f1, Option.bind_some]
  simp only
  rw [f2, Option.bind_some]
  simp only
  cases e2 : gSets N b base s1.2 with
  | none =>
   rw [e2] at h
   rcases h with rfl | rfl
   ·
    rfl
   ·
    cases ok <;> rfl
  | some s2 =>
   rw [e2] at h
   obtain ⟨rfl, rfl, rfl, rfl⟩ := h
   simp only [Option.bind_some, if_true]
   rw [if_neg (by omega), show IntKind.i64.wrap (1 + 1) = 2 from rfl, Yt, if_neg (by omega)]
theorem rRead_L4 {base x tot i k4 : Int} {y9 l : List Int} {c : List TSpan} {s0 : List (List Int)} {s16 : List (List TLig)} (h0' : -800000 ≤ base) (h1 : base ≤ 800000) (hx0 : 0 ≤ x) (hx1 : x ≤ 65535) (hy : ∀ x ∈ l, 0 ≤ x ∧ x ≤ 65535) (hyl : l.length ≤ 100000) : ∀ (d k n : Nat) (s : List TLig), k + d = l.length → d < n → s.length ≤ k →
  ZW N b base k4 y9 tot (l.length : Int) i x l c s0 s16 n k s = some (match ligs1 b (base + x) (l.drop k) with | some r => .inl (s ++ r) | none => .inr ()) := by
 intro d
 induction d with
 | zero =>
  intro k n s hk hn hs
  obtain ⟨n, rfl⟩ : ∃ x, n = x + 1 := ⟨n - 1, by omega⟩
  rw [ZW, if_neg (by omega), List.drop_eq_nil_of_le (by omega)]
  simp [ligs1]
 | succ d ih =>
  intro k n s hk hn hs
  obtain ⟨n, rfl⟩ : ∃ x, n = x + 1 := ⟨n - 1, by omega⟩
  have hkl : k < l.length := by omega
  have hb2 := hy l[k] (List.getElem_mem hkl)
  rw [ZW, if_pos (by omega), XY (List.getElem?_eq_getElem hkl), Option.bind_some, w64 (x := base + x) (by omega) (by omega), w64 (x := base + x + l[k]) (by omega) (by omega), Yj hN hb (by omega) _ (by omega), Option.bind_some, w64 (x := base + x + l[k] + 2) (by omega) (by omega), List.drop_eq_getElem_cons hkl]
  obtain ⟨q, q2, ok, e, h⟩ := Xck hN hb (by omega) (p := base + x + l[k] + 2) (lo := 1) (cut := 1) (by omega) (by omega) (by omega) (by omega) (by omega)
  rw [e, Option.bind_some]
  simp only [ligs1]
  cases en : num b (base + x + l[k]) with
  | none =>
   have : u16 b (base + x + l[k]) < 0 := by
    unfold num at en; split at en
    ·
     assumption
    ·
     cases en
   rw [if_pos this]; rfl
  | some g =>
   obtain ⟨rfl, g0, _⟩ := Xy hb en
   rw [if_neg (by omega), Option.bind_some]
   cases es : seqM b (base + x + l[k] + 2) 1 1 with
   | none => rw [es] at h; obtain ⟨rfl, rfl⟩ := h; rfl
   | some r =>
    rw [es] at h
    obtain ⟨rfl, rfl, rfl⟩ := h
    rw [if_pos rfl, if_pos (by omega), w64 (x := (k : Int) + 1) (by omega) (by omega), show (k : Int) + 1 = ((k + 1 : Nat) : Int) by omega, ih (k + 1) n _ (by omega) (by omega) (by simp; omega), Option.bind_some]
    cases ligs1 b (base + x) (l.drop (k + 1)) <;> simp
theorem rRead_L5s {base k4 lo : Int} {y : List Int} {c : List TSpan} (h4 : k4 ≠ 4) (hlo : lo = if k4 = 3 then 1 else 0) (h0' : -800000 ≤ base) (h1 : base ≤ 800000) (hy : ∀ x ∈ y, 0 ≤ x ∧ x ≤ 65535) (hyl : y.length ≤ 1000000) : ∀ (d k n : Nat) (tot : Int) (s : List (List Int)) (t : List (List TLig)), k + d = y.length → d < n → s.length ≤ k →
  Yi N b base k4 y c n tot k s t = some (match seqs b base lo (y.drop k) with | some r => .inl (s ++ r, t) | none => .inr ()) := by
 intro d
 induction d with
 | zero =>
  intro k n tot s t hk hn hs
  obtain ⟨n, rfl⟩ : ∃ x, n = x + 1 := ⟨n - 1, by omega⟩
  rw [Yi, if_neg (by omega), List.drop_eq_nil_of_le (by omega)]
  simp [seqs]
 | succ d ih =>
  intro k n tot s t hk hn hs
  obtain ⟨n, rfl⟩ : ∃ x, n = x + 1 := ⟨n - 1, by omega⟩
  have hkl : k < y.length := by omega
  have hb2 := hy y[k] (List.getElem_mem hkl)
  have step : ∀ {lo' : Int}, lo' = lo → ((Zt N b (IntKind.i64.wrap (base + y[k])) lo' 0).bind fun (y_4211, y_4212, y_4213) => if y_4213 = true then (if (s.length + 1) * 24 ≤ 140737488355328 then (Yi N b base k4 y c n tot (IntKind.i64.wrap ((k : Int) + 1)) (s ++ [y_4211]) t) else none) else some (.inr ())) = some (match seqs b base lo (y.drop k) with | some r => .inl (s ++ r, t) | none => .inr ()) := by
   intro lo' hlo'
   subst hlo'
   have l01 : 0 ≤ lo' ∧ lo' ≤ 1 := by rw [hlo]; split <;> omega
   rw [w64 (x := base + y[k]) (by omega) (by omega)]
   obtain ⟨q, q2, ok, e, h⟩ := Xck hN hb (by omega) (p := base + y[k]) (lo := lo') (cut := 0) (by omega) (by omega) (by omega) (by omega) (by omega)
   rw [e, Option.bind_some, List.drop_eq_getElem_cons hkl]
   simp only [seqs]
   cases es : seqM b (base + y[k]) lo' 0 with
   | none => rw [es] at h; obtain ⟨rfl, rfl⟩ := h; rfl
   | some r =>
    rw [es] at h
    obtain ⟨rfl, rfl, rfl⟩ := h
    rw [if_pos rfl, if_pos (by omega), w64 (x := (k : Int) + 1) (by omega) (by omega), show (k : Int) + 1 = ((k + 1 : Nat) : Int) by omega, ih (k + 1) n tot _ t (by omega) (by omega) (by simp; omega), Option.bind_some]
    cases seqs b base lo' (y.drop (k + 1)) <;> simp
  rw [Yi, if_pos (by omega), XY (List.getElem?_eq_getElem hkl), Option.bind_some, if_neg h4]
  by_cases g3 : k4 = 3
  ·
   rw [if_pos g3]; exact step (by rw [hlo, if_pos g3])
  ·
   rw [if_neg g3]; exact step (by rw [hlo, if_neg g3])
theorem rRead_L5l {base : Int} {y : List Int} {c : List TSpan} (h0' : -800000 ≤ base) (h1 : base ≤ 800000) (hy : ∀ x ∈ y, 0 ≤ x ∧ x ≤ 65535) (hyl : y.length ≤ 1000000) : ∀ (d k n : Nat) (tot : Int) (s : List (List Int)) (t : List (List TLig)), k + d = y.length → d < n → t.length ≤ k → 0 ≤ tot → tot ≤ 256 →
  Yi N b base 4 y c n tot k s t = some (match ligsM b base tot (y.drop k) with | some r => .inl (s, t ++ r) | none => .inr ()) := by
 intro d
 induction d with
 | zero =>
  intro k n tot s t hk hn hs ht ht2
  obtain ⟨n, rfl⟩ : ∃ x, n = x + 1 := ⟨n - 1, by omega⟩
  rw [Yi, if_neg (by omega), List.drop_eq_nil_of_le (by omega)]
  simp [ligsM]
 | succ d ih =>
  intro k n tot s t hk hn hs ht ht2
  obtain ⟨n, rfl⟩ : ∃ x, n = x + 1 := ⟨n - 1, by omega⟩
  have hkl : k < y.length := by omega
  have hb2 := hy y[k] (List.getElem_mem hkl)
  rw [Yi, if_pos (by omega), XY (List.getElem?_eq_getElem hkl), Option.bind_some, if_pos rfl, w64 (x := base + y[k]) (by omega) (by omega), Yj hN hb (by omega) _ (by omega), Option.bind_some, List.drop_eq_getElem_cons hkl]
  simp only [ligsM]
  cases en : num b (base + y[k]) with
  | none =>
   have : u16 b (base + y[k]) < 0 := by
    unfold num at en; split at en
    ·
     assumption
    ·
     cases en
   rw [if_pos this]; rfl
  | some g =>
   obtain ⟨rfl, g0, g1, g2, g3⟩ := Xy hb en
   rw [if_neg (by omega), w64 (x := tot + _) (by omega) (by omega), Option.bind_some]
   by_cases gt : tot + u16 b (base + y[k]) ≤ 256
   ·
    rw [if_neg (by omega), if_pos gt, w64 (x := base + y[k] + 2) (by omega) (by omega), Xbo hN hb (by omega) (by omega) (by omega) (by omega), Option.bind_some, Xah hb g0 (by omega) (by omega)]
    cases er : row b (base + y[k] + 2) (u16 b (base + y[k])) with
    | none => rfl
    | some l =>
     have r := Xw hb er
     simp only [Option.bind_some, if_true]
     have e4 := rRead_L4 hN hb hl (base := base) (x := y[k]) (tot := tot) (i := (k : Int)) (k4 := 4) (y9 := y) (l := l) (c := c) (s0 := s) (s16 := t) h0' h1 hb2.1 hb2.2 r.2.2.2.2.2 (by omega) l.length 0 N [] (by omega) (by omega) (by simp)
     rw [List.drop_zero, r.2.1] at e4
     rw [show ZW N b base 4 y tot (u16 b (base + y[k])) (k : Int) y[k] l c s t N 0 [] = _ from e4, Option.bind_some]
     cases eq1 : ligs1 b (base + y[k]) l with
     | none => rfl
     | some q =>
      simp only [Option.bind_some, List.nil_append]
      rw [if_pos (by omega), w64 (x := (k : Int) + 1) (by omega) (by omega), show (k : Int) + 1 = ((k + 1 : Nat) : Int) by omega, ih (k + 1) n _ s _ (by omega) (by omega) (by simp; omega) (by omega) gt]
      cases ligsM b base (tot + u16 b (base + y[k])) (y.drop (k + 1)) <;> simp
   ·
    rw [if_pos (by omega), if_neg gt]
end
theorem Xet {b : List Int} {p : Int} (h : num b p = none) : u16 b p < 0 := by
  unfold num at h; split at h
  · assumption
  · cases h
theorem Xns {b : List Int} (hb : Bytes b) (hl : b.length ≤ 1000) {p : Int} {c : List TSpan} {r : List Int × Int} (h : eachM b p c = some r) : (∀ x ∈ r.1, 0 ≤ x ∧ x ≤ 65535) ∧ r.1.length ≤ 1000 := by
 obtain ⟨n, e, h⟩ := Option.bind_eq_some_iff.1 (show (num b p).bind _ = some r from h)
 split at h
 ·
  obtain ⟨l, e2, h⟩ := Option.bind_eq_some_iff.1 h
  cases h
  have r := Xw hb e2
  exact ⟨r.2.2.2.2.2, by simp only; omega⟩
 ·
  cases h
theorem gKind_c {N : Nat} {b : List Int} {p k : Int} {x : Option G7} (h5 : k ≠ 5) (h6 : k ≠ 6) (h7 : k ≠ 7) : gKind N b p k x = if 1 ≤ k ∧ k ≤ 8 then (num b p).bind fun f => (num b (p + 2)).bind fun o => (cov N b (p + o)).bind fun c =>
  if k = 1 then (if f = 1 then (num b (p + 4)).bind fun d => some ⟨1, c, true, d, [], [], []⟩ else if f = 2 then (eachM b (p + 4) c).bind fun r => some ⟨1, c, false, 0, onesM r.1, [], []⟩ else none)
  else if f = 1 then (if k = 8 then (gSets N b p (p + 4)).bind fun s1 => (gSets N b p s1.2).bind fun s2 => (eachM b s2.2 c).bind fun r => some ⟨8, c, false, 0, onesM r.1, [], [⟨s1.1, [], s2.1, []⟩]⟩
   else (eachM b (p + 4) c).bind fun r => if k = 4 then (ligsM b p 0 r.1).bind fun s => some ⟨4, c, false, 0, [], s, []⟩ else (seqs b p (if k = 3 then 1 else 0) r.1).bind fun s => some ⟨k, c, false, 0, s, [], []⟩)
  else none else none := by
 unfold gKind
 rw [if_neg h5, if_neg h6]
 by_cases gk : 1 ≤ k ∧ k ≤ 8
 rotate_left
 ·
  rw [if_neg gk, if_neg gk]
 rw [if_pos gk, if_pos gk]
 cases num b p with
 | none => rfl
 | some f =>
 rw [Option.bind_some, Option.bind_some]
 have e4 : p + 2 + 2 = p + 4 := by omega
 by_cases k1 : k = 1
 ·
  rw [if_pos (.inr k1), if_pos k1]
  unfold Xa3
  rw [e4]
  cases num b (p + 2) with
  | none => rfl
  | some o =>
  rw [Option.bind_some, Option.bind_some]
  cases cov N b (p + o) with
  | none => rfl
  | some c =>
  rw [Option.bind_some, Option.bind_some, if_pos k1]
  split
  ·
   cases num b (p + 4) <;> rfl
  ·
   split
   ·
    cases eachM b (p + 4) c <;> rfl
   ·
    rfl
 by_cases f1 : f = 1
 rotate_left
 ·
  rw [if_neg (by omega)]
  cases num b (p + 2) with
  | none => rfl
  | some o =>
  rw [Option.bind_some]
  cases cov N b (p + o) with
  | none => rfl
  | some c => rw [Option.bind_some, if_neg k1, if_neg f1]
 rw [if_pos (.inl f1), if_neg k1]
 unfold Jk gLigs Xak
 rw [e4]
 cases num b (p + 2) with
 | none => simp only [Option.bind_none, Option.map_none, if_neg h7, ite_self]
 | some o =>
 simp only [Option.bind_some]
 cases cov N b (p + o) with
 | none => simp only [Option.bind_none, Option.map_none, if_neg h7, ite_self]
 | some c =>
 simp only [Option.bind_some]
 rw [if_neg k1, if_pos f1]
 by_cases k2 : k = 2
 ·
  subst k2
  rw [if_pos rfl, if_neg (by decide)]
  cases eachM b (p + 4) c with
  | none => rfl
  | some r =>
  simp only [Option.bind_some]
  rw [if_neg (by decide), if_neg (by decide)]
  cases seqs b p 0 r.1 <;> rfl
 rw [if_neg k2]
 by_cases k3 : k = 3
 ·
  subst k3
  rw [if_pos rfl, if_neg (by decide)]
  cases eachM b (p + 4) c with
  | none => rfl
  | some r =>
  simp only [Option.bind_some]
  rw [if_neg (by decide), if_pos trivial]
  cases seqs b p 1 r.1 <;> rfl
 rw [if_neg k3]
 by_cases k4 : k = 4
 ·
  subst k4
  rw [if_pos rfl, if_neg (by decide)]
  cases eachM b (p + 4) c with
  | none => rfl
  | some r =>
  simp only [Option.bind_some]
  rw [if_pos trivial]
  cases ligsM b p 0 r.1 <;> rfl
 rw [if_neg k4, if_neg h7, if_pos (show k = 8 by omega)]
 cases gSets N b p (p + 4) with
 | none => rfl
 | some s1 =>
 simp only [Option.bind_some]
 cases gSets N b p s1.2 with
 | none => rfl
 | some s2 =>
 simp only [Option.bind_some]
 cases eachM b s2.2 c <;> rfl
section
variable {N : Nat} (hN : 1000000000000 < N) {b : List Int} (hb : Bytes b) (hl : b.length ≤ 1000)
include hN hb hl
theorem rEach2 {p : Int} {c : List TSpan} (h0 : -5000 ≤ p) (h1 : p ≤ 5000) (hc : RL 0 c) : ∃ l ok, QB N b p c = some (l, ok) ∧ match eachM b p c with | some r => ok = true ∧ l = r.1 | none => ok = false := by
 have e := rEach_eq hN hb (by omega) (p := p) (sp := c) (by omega) (by omega) hc
 cases h : eachM b p c with
 | none => rw [h] at e; exact ⟨_, _, e, rfl⟩
 | some r => rw [h] at e; exact ⟨_, _, e, rfl, rfl⟩
theorem Xoh {n : Nat} {p k : Int} (h0 : -2000 ≤ p) (h1 : p ≤ 2000) (h7 : k ≠ 7) {x : Option G7} : QA N (n + 1) b p k = R7 (gKind N b p k x) := by
 rw [QA]
 by_cases g5 : k = 5
 ·
  subst g5
  unfold gKind
  rw [if_pos rfl, if_pos rfl]
  obtain ⟨l, e, h⟩ := Xln hN hb (by omega) (p := p) (ch := false) (by omega) (by omega) (by omega)
  rw [show decide ((5 : Int) = 6) = false from rfl, e, Option.bind_some]
  cases e2 : Js N b p false with
  | none => rfl
  | some r => rw [h r e2]; rfl
 by_cases g6 : k = 6
 ·
  subst g6
  unfold gKind
  rw [if_neg (by decide), if_pos rfl, if_neg (by decide), if_pos rfl]
  obtain ⟨l, e, h⟩ := Xln hN hb (by omega) (p := p) (ch := true) (by omega) (by omega) (by omega)
  rw [e, Option.bind_some]
  cases e2 : Js N b p true with
  | none => rfl
  | some r => rw [h r e2]; rfl
 rw [gKind_c g5 g6 h7, if_neg g5, if_neg g6, Yj hN hb (by omega) p (by omega), Option.bind_some, w64 (x := p + 2) (by omega) (by omega), Yj hN hb (by omega) (p + 2) (by omega), Option.bind_some]
 by_cases gk : 1 ≤ k ∧ k ≤ 8
 rotate_left
 ·
  rw [if_neg gk]
  by_cases g : k < 1
  ·
   rw [if_pos g]; rfl
  ·
   rw [if_neg g, if_pos (by omega)]; rfl
 rw [if_pos gk, if_neg (by omega), if_neg (by omega)]
 cases ef : num b p with
 | none => rw [if_pos (by have := Xet ef; omega)]; rfl
 | some f =>
 obtain ⟨hf, f0, f1, f2, f3⟩ := Xy hb ef
 rw [← hf]
 cases eo : num b (p + 2) with
 | none =>
  have ho := Xet eo
  simp only [if_pos ho, Option.bind_some, Option.bind_none, ite_self]
  rfl
 | some o =>
 obtain ⟨ho, o0, o1, o2, o3⟩ := Xy hb eo
 rw [← ho]
 simp only [if_neg (show ¬ o < 0 by omega), if_neg h7]
 have cv := Xis hN hb (by omega) (p + o) (by omega) (by omega)
 rw [w64 (x := p + o) (by omega) (by omega), cv.2.1, w64 (x := p + 4) (by omega) (by omega)]
 simp only [Option.bind_some]
 cases hc : covOk b (p + o) with
 | false =>
  have : cov N b (p + o) = none := by unfold cov; rw [hc]; rfl
  rw [this]
  simp only [Bool.false_eq_true, if_false, Option.bind_none, ite_self]
  rfl
 | true =>
 have ec : cov N b (p + o) = some (covL N b (p + o)) := by unfold cov; rw [hc]; rfl
 have hR : RL 0 (covL N b (p + o)) := (Xdg hN hb (by omega) (by omega) (by omega) ec).1
 rw [ec]
 generalize covL N b (p + o) = c at *
 simp only [Option.bind_some, if_true]
 by_cases g1 : f < 1
 ·
  rw [if_pos g1]
  simp only [if_neg (show ¬ f = 1 by omega), if_neg (show ¬ f = 2 by omega), ite_self]
  rfl
 rw [if_neg g1]
 obtain ⟨l, ok, ee, he⟩ := rEach2 hN hb hl (p := p + 4) (c := c) (by omega) (by omega) hR
 by_cases gf : f = 1
 rotate_left
 ·
  rw [if_pos (show 1 < f by omega)]
  by_cases gf2 : f = 2
  rotate_left
  ·
   rw [if_neg gf2]
   simp only [if_neg gf, if_neg gf2, ite_self]
   rfl
  rw [if_pos gf2]
  by_cases k1 : k = 1
  rotate_left
  ·
   simp only [if_neg k1, if_neg gf]; rfl
  simp only [if_pos k1, if_neg gf, if_pos gf2, if_neg (show ¬ k = 8 by omega)]
  rw [ee, Option.bind_some]
  cases em : eachM b (p + 4) c with
  | none => rw [em] at he; subst he; rfl
  | some r =>
   rw [em] at he
   obtain ⟨rfl, rfl⟩ := he
   have ei := Xns hb hl em
   simp only [if_true, Option.bind_some]
   rw [Xog hN (by omega), k1]
   rfl
 rw [if_neg (show ¬ 1 < f by omega)]
 by_cases k1 : k = 1
 ·
  simp only [if_pos k1, if_pos gf]
  rw [Yj hN hb (by omega) (p + 4) (by omega), Option.bind_some]
  cases ed : num b (p + 4) with
  | none => rw [if_pos (Xet ed)]; rfl
  | some d =>
   obtain ⟨rfl, d0, _⟩ := Xy hb ed
   rw [if_neg (by omega), k1]; rfl
 simp only [if_neg k1, if_pos gf]
 by_cases k8 : k = 8
 ·
  simp only [if_pos k8]
  rw [rRead_L1 hN hb (by omega) (by omega) (by omega) (by omega) (by omega), Option.bind_some]
  cases e1 : gSets N b p (p + 4) with
  | none => rfl
  | some s1 =>
   have g1 := Xb4 hb (show gSets N b p (p + 4) = some (s1.1, s1.2) from e1)
   simp only [Option.bind_some]
   cases e2 : gSets N b p s1.2 with
   | none => rfl
   | some s2 =>
    have g2 := Xb4 hb (show gSets N b p s1.2 = some (s2.1, s2.2) from e2)
    simp only [Option.bind_some]
    obtain ⟨l, ok, ee, he⟩ := rEach2 hN hb hl (p := s2.2) (c := c) (by omega) (by omega) hR
    rw [ee, Option.bind_some]
    cases em : eachM b s2.2 c with
    | none => rw [em] at he; subst he; rfl
    | some r =>
     rw [em] at he
     obtain ⟨rfl, rfl⟩ := he
     have ei := Xns hb hl em
     simp only [if_true, Option.bind_some]
     rw [Xog hN (by omega), k8]
     rfl
 simp only [if_neg k8]
 rw [ee, Option.bind_some]
 cases em : eachM b (p + 4) c with
 | none => rw [em] at he; subst he; rfl
 | some r =>
  rw [em] at he
  obtain ⟨rfl, rfl⟩ := he
  have ei := Xns hb hl em
  simp only [if_true, Option.bind_some]
  by_cases k4 : k = 4
  ·
   subst k4
   have e5 := rRead_L5l hN hb (by omega) (base := p) (y := r.1) (c := c) (by omega) (by omega) ei.1 (by omega) r.1.length 0 N 0 [] [] (by omega) (by omega) (by simp) (by omega) (by omega)
   rw [List.drop_zero] at e5
   rw [show Yi N b p 4 r.1 c N 0 0 [] [] = _ from e5, Option.bind_some, if_pos rfl]
   cases ligsM b p 0 r.1 <;> rfl
  ·
   have e5 := rRead_L5s hN hb (by omega) (base := p) (k4 := k) (y := r.1) (c := c) k4 rfl (by omega) (by omega) ei.1 (by omega) r.1.length 0 N 0 [] [] (by omega) (by omega) (by simp)
   rw [List.drop_zero] at e5
   rw [show Yi N b p k r.1 c N 0 0 [] [] = _ from e5, Option.bind_some, if_neg k4]
   cases seqs b p (if k = 3 then 1 else 0) r.1 <;> rfl
theorem rRead_eq {p k : Int} (h0 : -1000 ≤ p) (h1 : p ≤ 1000) : QA N N b p k = R7 (gRead N b p k) := by
 obtain ⟨m, hm⟩ : ∃ m, N = m + 2 := ⟨N - 2, by omega⟩
 rw [show QA N N b p k = QA N (m + 1 + 1) b p k by rw [show m + 1 + 1 = N by omega]]
 unfold gRead
 by_cases g7 : k = 7
 rotate_left
 ·
  exact Xoh hN hb hl (by omega) (by omega) g7
 subst g7
 rw [QA, if_neg (by decide), if_neg (by decide), Yj hN hb (by omega) p (by omega), Option.bind_some, w64 (x := p + 2) (by omega) (by omega), Yj hN hb (by omega) (p + 2) (by omega), Option.bind_some, if_neg (by decide), if_neg (by decide)]
 have e7 : gKind N b p 7 (gElse N b p) = (num b p).bind fun f => if f = 1 then gElse N b p else none := by
  unfold gKind
  rw [if_neg (by decide), if_neg (by decide), if_pos (by decide)]
  congr 1
  funext f
  by_cases f1 : f = 1
  ·
   rw [if_pos (.inl f1), if_pos f1, if_neg (by decide), if_neg (by decide), if_neg (by decide), if_neg (by decide), if_pos rfl]
  ·
   rw [if_neg (by omega), if_neg f1]
 rw [e7]
 cases ef : num b p with
 | none => rw [if_pos (by have := Xet ef; omega)]; rfl
 | some f =>
 obtain ⟨hf, f0, f1, f2, f3⟩ := Xy hb ef
 rw [← hf, Option.bind_some]
 by_cases g1 : f < 1
 ·
  rw [if_pos g1, if_neg (by omega)]; rfl
 rw [if_neg g1]
 by_cases gf : f = 1
 rotate_left
 ·
  rw [if_pos (show 1 < f by omega), if_neg gf, if_neg (show ¬ (7 : Int) = 1 by decide), ite_self]; rfl
 rw [if_neg (show ¬ 1 < f by omega), if_pos gf]
 unfold gElse
 cases eo : num b (p + 2) with
 | none => rw [if_pos (Xet eo)]; rfl
 | some o =>
 obtain ⟨ho, o0, o1, o2, o3⟩ := Xy hb eo
 rw [← ho, if_neg (show ¬ o < 0 by omega), if_pos rfl, w64 (x := p + 4) (by omega) (by omega), rNum4_eq hN hb (by omega) (p + 4) (by omega), Option.bind_some, Option.bind_some, show p + 2 + 2 = p + 4 by omega]
 by_cases g32 : u32 b (p + 4) < 0
 ·
  rw [if_pos g32, if_neg (by omega)]; rfl
 rw [if_neg g32]
 simp only [if_true]
 by_cases go : o = 7
 ·
  rw [if_pos go, if_neg (by omega)]; rfl
 rw [if_neg go]
 by_cases gl : (b.length : Int) < u32 b (p + 4)
 ·
  rw [if_pos gl, if_neg (by omega)]; rfl
 rw [if_neg gl, if_pos ⟨by omega, go, by omega⟩, w64 (x := p + u32 b (p + 4)) (by omega) (by omega), Xoh hN hb hl (by omega) (by omega) go (x := none)]
 cases gKind N b (p + u32 b (p + 4)) o none <;> rfl
end
theorem Xh9 {N : Nat} (hN : 1000000000000 < N) {b : List Int} (hb : Bytes b) (p k : Int) : Jz N b p k = some true := by
 unfold Jz
 by_cases g1 : 800 < (b.length : Int)
 ·
  rw [if_pos g1]
 by_cases g2 : 800 < p
 ·
  rw [if_neg g1, if_pos g2]
 by_cases g3 : p < -800
 ·
  rw [if_neg g1, if_neg g2, if_pos g3]
 rw [if_neg g1, if_neg g2, if_neg g3, gRead_eq hN hb (by omega) (by omega) (by omega), rRead_eq hN hb (by omega) (by omega) (by omega)]
 cases e : gRead N b p k with
 | none =>
  obtain ⟨M, rfl⟩ : ∃ M, N = M + 60 := ⟨N - 60, by omega⟩
  rfl
 | some g =>
  have gg := Xqg hN hb (by omega) (by omega) (by omega) e
  have gf := Xqh hN hb (by omega) (by omega) (by omega) e
  simp only [Option.bind_some, R7, if_true]
  rw [Xqf hN gg gf]
  rfl
end Go.Proofs.Ytcbhlpbkampfeaa.AI
