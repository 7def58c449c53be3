/- Plain laws of layer 11: the other reader's tables. -/
import Derived.Test.YtakplhfiohjcmaaCX10
set_option linter.unusedVariables false
set_option linter.unusedSimpArgs false
set_option maxRecDepth 100000
namespace Go.Proofs.Ytakplhfiohjcmaa.AI
def Inc : Int → List Int → Prop
 | _, [] => True
 | lo, x :: r => lo ≤ x ∧ Inc (x + 1) r
theorem Inc.low : ∀ {l : List Int} {lo : Int}, Inc lo l → ∀ x ∈ l, lo ≤ x
 | y :: r, lo, h, x, hx => by
  rcases List.mem_cons.1 hx with rfl | hx
  ·
   exact h.1
  ·
   have := Inc.low h.2 x hx; have := h.1; omega
theorem Inc.mono {lo lo' : Int} (hl : lo' ≤ lo) : ∀ {l : List Int}, Inc lo l → Inc lo' l
 | [], _ => trivial
 | x :: r, h => ⟨by have := h.1; omega, h.2⟩
theorem Inc.uniq : ∀ {l m : List Int} {lo lo' : Int}, Inc lo l → Inc lo' m → (∀ g, g ∈ l ↔ g ∈ m) → l = m
 | [], [], _, _, _, _, _ => rfl
 | [], y :: s, _, _, _, _, h => by have := (h y).2 List.mem_cons_self; cases this
 | x :: r, [], _, _, _, _, h => by have := (h x).1 List.mem_cons_self; cases this
 | x :: r, y :: s, lo, lo', h1, h2, h => by
  have a := (h x).1 List.mem_cons_self
  have b := (h y).2 List.mem_cons_self
  have e : x = y := by
   rcases List.mem_cons.1 a with a | a
   ·
    exact a
   ·
    rcases List.mem_cons.1 b with b | b
    ·
     exact b.symm
    ·
     have := Inc.low h2.2 x a; have := Inc.low h1.2 y b; omega
  subst e
  refine congrArg _ (Inc.uniq h1.2 h2.2 fun g => ⟨fun hg => ?_, fun hg => ?_⟩)
  ·
   have := Inc.low h1.2 g hg
   rcases List.mem_cons.1 ((h g).1 (List.mem_cons_of_mem _ hg)) with h | h
   ·
    omega
   ·
    exact h
  ·
   have := Inc.low h2.2 g hg
   rcases List.mem_cons.1 ((h g).2 (List.mem_cons_of_mem _ hg)) with h | h
   ·
    omega
   ·
    exact h
theorem Inc.app {m : List Int} {k : Int} (hm : Inc k m) : ∀ {l : List Int} {lo : Int}, Inc lo l → (∀ x ∈ l, x < k) → lo ≤ k → Inc lo (l ++ m)
 | [], lo, _, _, h => hm.mono h
 | x :: r, lo, h, hk, _ => ⟨h.1, Inc.app hm h.2 (fun y hy => hk y (List.mem_cons_of_mem _ hy)) (by have := hk x List.mem_cons_self; omega)⟩
theorem rgO_mem {a b g : Int} : g ∈ rgO a b ↔ a ≤ g ∧ g ≤ b := by
 unfold rgO
 simp only [List.mem_map, List.mem_range]
 constructor
 ·
  rintro ⟨k, hk, rfl⟩; omega
 ·
  intro h
  exact ⟨(g - a).toNat, by omega, by omega⟩
theorem rgO_inc : ∀ (d : Nat) (a b : Int), (b - a + 1).toNat = d → Inc a (rgO a b)
 | 0, a, b, h => by rw [rgO_nil (by omega)]; trivial
 | d + 1, a, b, h => by
  rw [rgO_cons (by omega)]
  exact ⟨Int.le_refl _, rgO_inc d (a + 1) b (by omega)⟩
theorem glO_mem : ∀ {l : List TSpan} {g : Int}, g ∈ glO l ↔ inn l g
 | [], g => by simp [glO, inn]
 | x :: r, g => by rw [glO, List.mem_append, rgO_mem, inn_cons, glO_mem]
theorem glO_inc : ∀ {l : List TSpan} {lo : Int}, RL lo l → Inc lo (glO l)
 | [], _, _ => trivial
 | x :: r, lo, h => by
  obtain ⟨h1, h2, h3, h4⟩ := h
  exact Inc.app (k := x.To + 1) ((glO_inc h4).mono (by omega)) ((rgO_inc _ x.From x.To rfl).mono h1) (fun y hy => by have := rgO_mem.1 hy; omega) (by omega)
def glF (t : List Int) : Int → Nat → List Int
 | _, 0 => []
 | k, d + 1 => if 0 ≤ gb t k then k :: glF t (k + 1) d else glF t (k + 1) d
theorem glF_inc {t : List Int} : ∀ {d : Nat} {k : Int}, Inc k (glF t k d)
 | 0, k => trivial
 | d + 1, k => by
  simp only [glF]
  split
  ·
   exact ⟨Int.le_refl _, glF_inc⟩
  ·
   exact (glF_inc).mono (by omega)
theorem glF_mem {t : List Int} {g : Int} : ∀ {d : Nat} {k : Int}, g ∈ glF t k d ↔ k ≤ g ∧ g < k + (d : Int) ∧ 0 ≤ gb t g
 | 0, k => by
  simp only [glF, List.not_mem_nil, false_iff]
  omega
 | d + 1, k => by
  simp only [glF]
  split
  ·
   rename_i h
   rw [List.mem_cons, glF_mem]
   constructor
   ·
    rintro (rfl | h2)
    ·
     exact ⟨Int.le_refl _, by omega, h⟩
    ·
     exact ⟨by omega, by omega, h2.2.2⟩
   ·
    intro h2
    by_cases e : g = k
    ·
     exact .inl e
    ·
     exact .inr ⟨by omega, by omega, h2.2.2⟩
  ·
   rename_i h
   rw [glF_mem]
   constructor
   ·
    exact fun h2 => ⟨by omega, by omega, h2.2.2⟩
   ·
    intro h2
    have : g ≠ k := fun e => h (e ▸ h2.2.2)
    exact ⟨by omega, by omega, h2.2.2⟩
theorem rTable_L2 {N : Nat} {b : List Int} {p y1 y3 y4 : Int} {ch : Bool} {t : List Int} {k1 k2 k3 : List TClass} (ht : t.length = 65536) : ∀ (d k n : Nat) (s : List Int), k + d = 65536 → d < n → s.length ≤ k →
  ref11_Table_L2 N b p ch y1 t y3 y4 k1 k2 k3 n k s = some (s ++ glF t k d) := by
 intro d
 induction d with
 | zero =>
  intro k n s hk hn hs
  obtain ⟨n, rfl⟩ : ∃ x, n = x + 1 := ⟨n - 1, by omega⟩
  rw [ref11_Table_L2, if_neg (by omega)]
  simp [glF]
 | succ d ih =>
  intro k n s hk hn hs
  obtain ⟨n, rfl⟩ : ∃ x, n = x + 1 := ⟨n - 1, by omega⟩
  rw [ref11_Table_L2, if_pos (by omega), atI_gb (by omega) (by omega), Option.bind_some, w64 (x := (k : Int) + 1) (by omega) (by omega), show (k : Int) + 1 = ((k + 1 : Nat) : Int) by omega]
  simp only [glF]
  by_cases h : 0 ≤ gb t (k : Int)
  ·
   rw [if_pos h, if_pos h, if_pos (by omega), ih (k + 1) n _ (by omega) (by omega) (by simp; omega), List.append_assoc, show (k : Int) + 1 = ((k + 1 : Nat) : Int) by omega]
   rfl
  ·
   rw [if_neg h, if_neg h, ih (k + 1) n _ (by omega) (by omega) (by omega), show (k : Int) + 1 = ((k + 1 : Nat) : Int) by omega]
theorem cof_mem {x : TClass} {g : Int} : ∀ {c : List TClass} {lo : Int}, CL lo c → x ∈ c → x.From ≤ g → g ≤ x.To → cof c g = x.Class
 | y :: r, lo, h, hx, h1, h2 => by
  simp only [cof]
  rcases List.mem_cons.1 hx with rfl | hx
  ·
   rw [if_pos ⟨h1, h2⟩]
  ·
   have := CL.low h.2.2.2.2 x hx
   rw [if_neg (by omega)]
   exact cof_mem h.2.2.2.2 hx h1 h2
theorem cof_no {g : Int} : ∀ {c : List TClass}, (∀ x ∈ c, ¬ (x.From ≤ g ∧ g ≤ x.To)) → cof c g = 0
 | [], _ => rfl
 | y :: r, h => by
  simp only [cof]
  rw [if_neg (h y List.mem_cons_self)]
  exact cof_no fun x hx => h x (List.mem_cons_of_mem _ hx)
theorem cof_wth {c : List TClass} (hc : CB c) (i g : Int) : (inn (wth i c []) g ↔ decide (i = 0) = false) ↔ cof c g = i := by
 have w := (wth_spec (k := i) (m := c) (lo := 0) (o := []) hc.1 (Int.le_refl _) trivial (by simp)).2.1 g
 have w2 : inn (wth i c []) g ↔ ∃ x ∈ c, (i = 0 ∨ x.Class = i) ∧ x.From ≤ g ∧ g ≤ x.To := by rw [w]; simp [inn]
 rw [w2, decide_eq_false_iff_not]
 by_cases hg : ∃ x ∈ c, x.From ≤ g ∧ g ≤ x.To
 ·
  obtain ⟨x, hx, h1, h2⟩ := hg
  have e := cof_mem hc.1 hx h1 h2
  have lo := CL.low hc.1 x hx
  rw [e]
  constructor
  ·
   intro h
   by_cases hi : i = 0
   ·
    exact (h.1 ⟨x, hx, .inl hi, h1, h2⟩ hi).elim
   ·
    obtain ⟨y, hy, h3, h4, h5⟩ := h.2 hi
    have e2 := cof_mem hc.1 hy h4 h5
    rcases h3 with h3 | h3
    ·
     exact (hi h3).elim
    ·
     omega
  ·
   intro h
   exact ⟨fun _ => by omega, fun _ => ⟨x, hx, .inr h, h1, h2⟩⟩
 ·
  have e := cof_no (c := c) (g := g) fun x hx hh => hg ⟨x, hx, hh⟩
  rw [e]
  constructor
  ·
   intro h
   by_cases hi : i = 0
   ·
    omega
   ·
    obtain ⟨y, hy, h3, h4⟩ := h.2 hi
    exact (hg ⟨y, hy, h4⟩).elim
  ·
   intro h
   exact ⟨fun ⟨y, hy, h3, h4⟩ => (hg ⟨y, hy, h4⟩).elim, fun hi => (hi h.symm).elim⟩
theorem rOf_L1 {N : Nat} {c : List TClass} {g : Int} (hl : c.length ≤ 65536) : ∀ (d k n : Nat), k + d = c.length → d < n → ∃ o, ref10_Of_L1 N c g n k = some o ∧ (match o with | .inl _ => cof (c.drop k) g = 0 | .inr v => cof (c.drop k) g = v) := by
 intro d
 induction d with
 | zero =>
  intro k n hk hn
  obtain ⟨n, rfl⟩ : ∃ x, n = x + 1 := ⟨n - 1, by omega⟩
  rw [ref10_Of_L1, if_neg (by omega), List.drop_eq_nil_of_le (by omega)]
  exact ⟨_, rfl, rfl⟩
 | succ d ih =>
  intro k n hk hn
  obtain ⟨n, rfl⟩ : ∃ x, n = x + 1 := ⟨n - 1, by omega⟩
  have hkl : k < c.length := by omega
  rw [ref10_Of_L1, if_pos (by omega), atI_at (List.getElem?_eq_getElem hkl), Option.bind_some, w64 (x := (k : Int) + 1) (by omega) (by omega), show (k : Int) + 1 = ((k + 1 : Nat) : Int) by omega, List.drop_eq_getElem_cons hkl]
  simp only [cof]
  obtain ⟨o, e, h⟩ := ih (k + 1) n (by omega) (by omega)
  by_cases h1 : c[k].From ≤ g
  ·
   rw [if_pos h1]
   by_cases h2 : g ≤ c[k].To
   ·
    rw [if_pos h2, if_pos ⟨h1, h2⟩]
    exact ⟨_, rfl, rfl⟩
   ·
    rw [if_neg h2, if_neg (fun h => h2 h.2)]
    exact ⟨o, e, h⟩
  ·
   rw [if_neg h1, if_neg (fun h => h1 h.1)]
   exact ⟨o, e, h⟩
theorem rOf_eq {N : Nat} (hN : 1000000000000 < N) {c : List TClass} {g : Int} (hl : c.length ≤ 65536) : ref10_Of N c g = some (cof c g) := by
 unfold ref10_Of
 obtain ⟨o, e, h⟩ := rOf_L1 (N := N) (g := g) hl c.length 0 N (by omega) (by omega)
 rw [show ref10_Of_L1 N c g N 0 = _ from e, Option.bind_some]
 rw [List.drop_zero] at h
 cases o with
 | inl u => simp only at h ⊢; rw [h]
 | inr v => simp only at h ⊢; rw [h]
theorem rTable_L9 {N : Nat} (hN : 1000000000000 < N) {b : List Int} {p y1 y4 i : Int} {ch : Bool} {l3 gl : List Int} {k1 c2 k3 : List TClass} {s0 : List TCtx} (hc : CB c2) (hg : ∀ x ∈ gl, 0 ≤ x ∧ x < 65536) (hgl : gl.length ≤ 70000) : ∀ (d k n : Nat) (t : List Bool), k + d = gl.length → d < n → t.length = 65536 →
  ∃ t', ref11_Table_L9 N b p ch y1 y4 l3 i k1 c2 k3 gl s0 n k t = some t' ∧ t'.length = 65536 ∧ ∀ g, 0 ≤ g → (bb t' g = true ↔ if g ∈ gl.drop k then cof c2 g = i else bb t g = true) := by
 intro d
 induction d with
 | zero =>
  intro k n t hk hn ht
  obtain ⟨n, rfl⟩ : ∃ x, n = x + 1 := ⟨n - 1, by omega⟩
  rw [ref11_Table_L9, if_neg (by omega), List.drop_eq_nil_of_le (by omega)]
  exact ⟨t, rfl, ht, fun g _ => by simp⟩
 | succ d ih =>
  intro k n t hk hn ht
  obtain ⟨n, rfl⟩ : ∃ x, n = x + 1 := ⟨n - 1, by omega⟩
  have hkl : k < gl.length := by omega
  have hx := hg gl[k] (List.getElem_mem hkl)
  rw [ref11_Table_L9, if_pos (by omega), atI_at (List.getElem?_eq_getElem hkl), Option.bind_some, rOf_eq hN hc.2, Option.bind_some, bb_at (by omega) (by omega), Option.bind_some, w64 (x := (k : Int) + 1) (by omega) (by omega), show (k : Int) + 1 = ((k + 1 : Nat) : Int) by omega, List.drop_eq_getElem_cons hkl]
  obtain ⟨t', e, l', h⟩ := ih (k + 1) n (List.set t gl[k].toNat (decide (cof c2 gl[k] = i))) (by omega) (by omega) (by simp [ht])
  refine ⟨t', e, l', fun g h0 => ?_⟩
  rw [h g h0, bb_set (by omega) (by omega) h0]
  by_cases h1 : g ∈ gl.drop (k + 1)
  ·
   rw [if_pos h1, if_pos (List.mem_cons_of_mem _ h1)]
  ·
   rw [if_neg h1]
   by_cases h2 : g = gl[k]
   ·
    rw [if_pos h2, if_pos (by rw [h2]; exact List.mem_cons_self), decide_eq_true_eq, h2]
   ·
    rw [if_neg h2, if_neg]
    intro h3
    rcases List.mem_cons.1 h3 with h3 | h3
    ·
     exact h2 h3
    ·
     exact h1 h3
theorem spans_of {N : Nat} (hN : 1000000000000 < N) {t : List Bool} (ht : t.length = 65536) {sp : List TSpan} (hsp : RL 0 sp) {c2 : List TClass} (hc : CB c2) {i : Int} (h : ∀ g, 0 ≤ g → (bb t g = true ↔ if g ∈ glO sp then cof c2 g = i else False)) :
  ref10_Spans_row N t = some (ouB (decide (i = 0)) (wth i c2 []) sp []) := by
 obtain ⟨m, e2, r2, g2⟩ := Spans_eq hN (t := t) (by omega)
 rw [e2]
 obtain ⟨r3, _, g3⟩ := ouB_spec (nt := decide (i = 0)) (wth_rl hc i).1 hsp (Int.le_refl 0) (o := []) trivial (by simp)
 refine congrArg some (RL.uniq r2 r3 fun x => ?_)
 by_cases hx : 0 ≤ x
 ·
  rw [g2 x hx, h x hx, g3 x, cof_wth hc]
  have hn : ¬ inn [] x := fun ⟨_, h, _⟩ => by cases h
  by_cases hm : inn sp x
  ·
   rw [if_pos (glO_mem.2 hm)]
   exact ⟨fun h => .inr ⟨hm, h⟩, fun h => h.elim (fun h => (hn h).elim) (fun h => h.2)⟩
  ·
   rw [if_neg (fun hh => hm (glO_mem.1 hh))]
   exact ⟨False.elim, fun h => h.elim (fun h => hn h) (fun h => hm h.1)⟩
 ·
  exact ⟨fun h => (inn_neg r2 (by omega) h).elim, fun h => (inn_neg r3 (by omega) h).elim⟩
section
variable {N : Nat} (hN : 1000000000000 < N) {b : List Int} (hb : Bytes b) (hl : b.length ≤ 1000000)
include hN hb hl
theorem gl_same {i : Int} (hi : i ≤ 1000000) (hi' : -1000000 ≤ i) {t : List Int} (h : covOk b i = true) (ht : ∀ g, 0 ≤ g → g < 65536 → (0 ≤ gb t g ↔ covIn b i g)) : glF t 0 65536 = glO (covL N b i) := by
 obtain ⟨l, c1, c2, c3⟩ := Cover_spec hN hb (by omega) i (by omega) (by omega)
 have e : covL N b i = l := by unfold covL; rw [c1]; rfl
 rw [e]
 refine Inc.uniq glF_inc (glO_inc (c3 h).1) fun g => ?_
 rw [glF_mem, glO_mem, (c3 h).2 g]
 constructor
 ·
  exact fun hh => (ht g hh.1 (by omega)).1 hh.2.2
 ·
  intro hh
  have r := covIn_range hb h hh
  exact ⟨r.1, by omega, (ht g r.1 r.2).2 hh⟩
theorem rClassesM_eq {base off : Int} (h0 : -1000000 ≤ base) (h1 : base ≤ 1000000) (h2 : 0 ≤ off) (h3 : off ≤ 65535) : ref11_Classes N b base off = some (match classesM N b base off with | some c => (c, true) | none => ([], false)) := by
 unfold ref11_Classes classesM
 by_cases h : off = 0
 ·
  rw [if_pos h, if_pos h]
 ·
  rw [if_neg h, if_neg h, w64 (by omega) (by omega)]
  have c := clsL_eq hN hb (by omega) (base + off) (by omega) (by omega)
  rw [c.2.1, Option.bind_some]
  unfold clsO
  cases hc : clsOk b (base + off) with
  | true => rfl
  | false => simp only; rw [c.2.2.1 hc]; rfl
def cl3 (N : Nat) (b : List Int) (P base : Int) (ch : Bool) : Option (Int × List TClass × List TClass × List TClass) :=
 if ch = true then (num b P).bind fun o1 => (classesM N b base o1).bind fun c1 => (num b (P + 2)).bind fun o2 => (classesM N b base o2).bind fun c2 => (num b (P + 2 + 2)).bind fun o3 => (classesM N b base o3).bind fun c3 => some (P + 2 + 2 + 2, c1, c2, c3)
 else (num b P).bind fun o2 => (classesM N b base o2).bind fun c2 => some (P + 2, [], c2, [])
theorem rTable_L1 {P base : Int} {ch : Bool} {t : List Int} (h0 : -100000 ≤ base) (h1 : base ≤ 100000) (h2 : -100000 ≤ P) (h3 : P ≤ 100000) {M : Nat} : ref11_Table_L1 N b base ch 2 t (M + 4) P 0 [] [] [] = some (match cl3 N b P base ch with | some r => .inl r | none => .inr ()) := by
 unfold cl3
 cases ch with
 | true =>
  rw [if_pos rfl]
  rw [ref11_Table_L1, if_pos (by decide), if_pos rfl, if_pos rfl, rU16_eq hN hb (by omega) _ (by omega), Option.bind_some]
  try unfold num
  by_cases g1 : u16 b (P) < 0
  ·
   rw [if_pos g1, if_pos g1]; rfl
  have r1 := u16_range hb (P)
  rw [if_neg g1, if_neg g1, Option.bind_some, rClassesM_eq hN hb hl (by omega) (by omega) (by omega) (by omega), Option.bind_some]
  cases e1 : classesM N b base (u16 b (P)) with
  | none => rfl
  | some c1 =>
   simp only [Option.bind_some, if_true]
   rw [w64 (x := P + 2) (by omega) (by omega), show IntKind.i64.wrap (0 + 1) = 1 from rfl]
   rw [ref11_Table_L1, if_pos (by decide), if_pos rfl, if_pos rfl, rU16_eq hN hb (by omega) _ (by omega), Option.bind_some]
   try unfold num
   by_cases g2 : u16 b (P + 2) < 0
   ·
    rw [if_pos g2, if_pos g2]; rfl
   have r2 := u16_range hb (P + 2)
   rw [if_neg g2, if_neg g2, Option.bind_some, rClassesM_eq hN hb hl (by omega) (by omega) (by omega) (by omega), Option.bind_some]
   cases e2 : classesM N b base (u16 b (P + 2)) with
   | none => rfl
   | some c2 =>
    simp only [Option.bind_some, if_true]
    rw [if_neg (by decide), w64 (x := P + 2 + 2) (by omega) (by omega), show IntKind.i64.wrap (1 + 1) = 2 from rfl]
    rw [ref11_Table_L1, if_pos (by decide), if_pos rfl, if_pos rfl, rU16_eq hN hb (by omega) _ (by omega), Option.bind_some]
    try unfold num
    by_cases g3 : u16 b (P + 2 + 2) < 0
    ·
     rw [if_pos g3, if_pos g3]; rfl
    have r3 := u16_range hb (P + 2 + 2)
    rw [if_neg g3, if_neg g3, Option.bind_some, rClassesM_eq hN hb hl (by omega) (by omega) (by omega) (by omega), Option.bind_some]
    cases e3 : classesM N b base (u16 b (P + 2 + 2)) with
    | none => rfl
    | some c3 =>
     simp only [Option.bind_some, if_true]
     rw [if_neg (by decide), if_neg (by decide), w64 (x := P + 2 + 2 + 2) (by omega) (by omega), show IntKind.i64.wrap (2 + 1) = 3 from rfl]
     rw [ref11_Table_L1, if_neg (by decide)]
 | false =>
  rw [if_neg (show ¬ (false = true) by decide), ref11_Table_L1, if_pos (by decide), if_pos rfl, if_neg (by decide), if_neg (by decide), show IntKind.i64.wrap (0 + 1) = 1 from rfl,
   ref11_Table_L1, if_pos (by decide), if_pos rfl, if_neg (by decide), if_pos rfl, rU16_eq hN hb (by omega) _ (by omega), Option.bind_some]
  unfold num
  by_cases g1 : u16 b P < 0
  ·
   rw [if_pos g1, if_pos g1]; rfl
  have r1 := u16_range hb P
  rw [if_neg g1, if_neg g1, Option.bind_some, rClassesM_eq hN hb hl (by omega) (by omega) (by omega) (by omega), Option.bind_some]
  cases e1 : classesM N b base (u16 b P) with
  | none => rfl
  | some c2 =>
   simp only [Option.bind_some, if_true]
   rw [if_neg (by decide), w64 (x := P + 2) (by omega) (by omega), show IntKind.i64.wrap (1 + 1) = 2 from rfl, ref11_Table_L1, if_pos (by decide), if_pos rfl, if_neg (by decide), if_neg (by decide), show IntKind.i64.wrap (2 + 1) = 3 from rfl, ref11_Table_L1, if_neg (by decide)]
end
theorem rTable_L6 {N : Nat} {b : List Int} {p y1 : Int} {ch : Bool} {y4 : Int} {l3 y gl : List Int} {i : Nat} {c1 c2 c3 : List TClass} (g : Int) {rl : Int → Option TR} {x : Int} (hx : l3[i]? = some x) (h0 : -10000 ≤ p) (h1 : p ≤ 10000) (h2 : 0 ≤ x) (h3 : x ≤ 65535) (hy : ∀ x ∈ y, 0 ≤ x ∧ x ≤ 65535) (hyl : y.length ≤ 64)
  (hr : ∀ q, -1000000 ≤ q → q ≤ 1000000 → ToldR (ref11_Rule N b q y1 ch [TSpan.mk g g] false c1 c2 c3) (rl q)) : ∀ (d k n : Nat) (s : List TCtx), k + d = y.length → d < n → s.length ≤ 64 →
  ref11_Table_L6 N b p ch y1 y4 l3 (i : Int) (y.length : Int) y c1 c2 c3 gl g n k s = some (match rulesM rl (p + x) (y.drop k) s with | some t => .inl t | none => .inr ()) := by
 intro d
 induction d with
 | zero =>
  intro k n s hk hn hs
  obtain ⟨n, rfl⟩ : ∃ x, n = x + 1 := ⟨n - 1, by omega⟩
  rw [ref11_Table_L6, if_neg (by omega), List.drop_eq_nil_of_le (by omega)]
  rfl
 | succ d ih =>
  intro k n s hk hn hs
  obtain ⟨n, rfl⟩ : ∃ x, n = x + 1 := ⟨n - 1, by omega⟩
  have hkl : k < y.length := by omega
  have hb2 := hy y[k] (List.getElem_mem hkl)
  obtain ⟨r, e, hok, hq⟩ := hr (p + x + y[k]) (by omega) (by omega)
  rw [ref11_Table_L6, if_pos (by omega), atI_at hx, Option.bind_some, atI_at (List.getElem?_eq_getElem hkl), Option.bind_some, w64 (x := p + x) (by omega) (by omega), w64 (x := p + x + y[k]) (by omega) (by omega), e, Option.bind_some, List.drop_eq_getElem_cons hkl]
  obtain ⟨q1, q2, q3, q4, q5⟩ := r
  simp only at hok hq ⊢
  simp only [rulesM]
  cases er : rl (p + x + y[k]) with
  | none =>
   rw [er] at hok
   rw [hok]
   rfl
  | some q =>
   rw [er] at hok
   obtain ⟨e1, e2, e3, e4⟩ := hq q er
   rw [hok, if_pos (show (some q).isSome = true from rfl), Option.bind_some]
   by_cases h64 : (s.length : Int) = 64
   ·
    rw [if_pos h64, if_neg (by omega)]
   ·
    rw [if_neg h64, if_pos (by omega), if_pos (by omega), w64 (x := (k : Int) + 1) (by omega) (by omega), show (k : Int) + 1 = ((k + 1 : Nat) : Int) by omega, e1, e2, e3, e4]
    exact ih (k + 1) n _ (by omega) (by omega) (by simp; omega)
theorem rTable_L8 {N : Nat} {b : List Int} {p y1 : Int} {ch : Bool} {y4 : Int} {l3 y gl : List Int} {i : Nat} {c1 c2 c3 : List TClass} (sp : List TSpan) {rl : Int → Option TR} {x : Int} (hx : l3[i]? = some x) (h0 : -10000 ≤ p) (h1 : p ≤ 10000) (h2 : 0 ≤ x) (h3 : x ≤ 65535) (hy : ∀ x ∈ y, 0 ≤ x ∧ x ≤ 65535) (hyl : y.length ≤ 64)
  (hr : ∀ q, -1000000 ≤ q → q ≤ 1000000 → ToldR (ref11_Rule N b q y1 ch sp false c1 c2 c3) (rl q)) : ∀ (d k n : Nat) (s : List TCtx), k + d = y.length → d < n → s.length ≤ 64 →
  ref11_Table_L8 N b p ch y1 y4 l3 (i : Int) (y.length : Int) y c1 c2 c3 gl sp n k s = some (match rulesM rl (p + x) (y.drop k) s with | some t => .inl t | none => .inr ()) := by
 intro d
 induction d with
 | zero =>
  intro k n s hk hn hs
  obtain ⟨n, rfl⟩ : ∃ x, n = x + 1 := ⟨n - 1, by omega⟩
  rw [ref11_Table_L8, if_neg (by omega), List.drop_eq_nil_of_le (by omega)]
  rfl
 | succ d ih =>
  intro k n s hk hn hs
  obtain ⟨n, rfl⟩ : ∃ x, n = x + 1 := ⟨n - 1, by omega⟩
  have hkl : k < y.length := by omega
  have hb2 := hy y[k] (List.getElem_mem hkl)
  obtain ⟨r, e, hok, hq⟩ := hr (p + x + y[k]) (by omega) (by omega)
  rw [ref11_Table_L8, if_pos (by omega), atI_at hx, Option.bind_some, atI_at (List.getElem?_eq_getElem hkl), Option.bind_some, w64 (x := p + x) (by omega) (by omega), w64 (x := p + x + y[k]) (by omega) (by omega), e, Option.bind_some, List.drop_eq_getElem_cons hkl]
  obtain ⟨q1, q2, q3, q4, q5⟩ := r
  simp only at hok hq ⊢
  simp only [rulesM]
  cases er : rl (p + x + y[k]) with
  | none =>
   rw [er] at hok
   rw [hok]
   rfl
  | some q =>
   rw [er] at hok
   obtain ⟨e1, e2, e3, e4⟩ := hq q er
   rw [hok, if_pos (show (some q).isSome = true from rfl), Option.bind_some]
   by_cases h64 : (s.length : Int) = 64
   ·
    rw [if_pos h64, if_neg (by omega)]
   ·
    rw [if_neg h64, if_pos (by omega), if_pos (by omega), w64 (x := (k : Int) + 1) (by omega) (by omega), show (k : Int) + 1 = ((k + 1 : Nat) : Int) by omega, e1, e2, e3, e4]
    exact ih (k + 1) n _ (by omega) (by omega) (by simp; omega)
section
variable {N : Nat} (hN : 1000000000000 < N) {b : List Int} (hb : Bytes b) (hl : b.length ≤ 1000000)
include hN hb hl
theorem rTable_L10g {p : Int} {ch : Bool} {l3 gl : List Int} {c1 c2 c3 : List TClass} (hgl : gl.length = l3.length) (h0 : -10000 ≤ p) (h1 : p ≤ 10000) (hl2 : b.length ≤ 10000) (g1 : CB c1) (g2 : CB c2) (g3 : CB c3) (hx : ∀ x ∈ l3, 0 ≤ x ∧ x ≤ 65535) (hll : l3.length ≤ 100000) : ∀ (d k n : Nat) (s : List TCtx), k + d = l3.length → d < n → s.length ≤ 64 →
  ref11_Table_L10 N b p ch 1 (l3.length : Int) l3 c1 c2 c3 gl n k s = some (match listM b (glR N b ch gl) p k (l3.drop k) s with | some t => .inl t | none => .inr ()) := by
 intro d
 induction d with
 | zero =>
  intro k n s hk hn hs
  obtain ⟨n, rfl⟩ : ∃ x, n = x + 1 := ⟨n - 1, by omega⟩
  rw [ref11_Table_L10, if_neg (by omega), List.drop_eq_nil_of_le (by omega)]
  rfl
 | succ d ih =>
  intro k n s hk hn hs
  obtain ⟨n, rfl⟩ : ∃ x, n = x + 1 := ⟨n - 1, by omega⟩
  have hkl : k < l3.length := by omega
  have hat : l3[k]? = some l3[k] := List.getElem?_eq_getElem hkl
  have hb2 := hx l3[k] (List.getElem_mem hkl)
  rw [ref11_Table_L10, if_pos (by omega), atI_at hat, Option.bind_some, w64 (x := (k : Int) + 1) (by omega) (by omega), show (k : Int) + 1 = ((k + 1 : Nat) : Int) by omega, List.drop_eq_getElem_cons hkl]
  rw [listM]
  by_cases hz : l3[k] = 0
  ·
   rw [if_pos hz, if_pos hz]
   exact ih (k + 1) n s (by omega) (by omega) hs
  rw [if_neg hz, if_neg hz]
  have hkg : k < gl.length := by omega
  rw [if_pos rfl, atI_at (x := (gl[k]?).getD 0) (by rw [List.getElem?_eq_getElem hkg]; rfl), Option.bind_some]
  have r := u16_range hb (p + l3[k])
  rw [w64 (x := p + l3[k]) (by omega) (by omega), rU16_eq hN hb (by omega) _ (by omega), Option.bind_some, w64 (x := p + l3[k] + 2) (by omega) (by omega), rRow_eq hN hb hl (by omega) (by omega) (by omega), Option.bind_some]
  obtain ⟨⟨ra, rb⟩, hR⟩ : ∃ z, rowR b (p + l3[k] + 2) (u16 b (p + l3[k])) = z := ⟨_, rfl⟩
  rw [hR]
  simp only
  unfold num
  by_cases v1 : u16 b (p + l3[k]) < 0
  ·
   rw [if_pos v1, if_pos v1]; rfl
  rw [if_neg v1, if_neg v1, Option.bind_some]
  by_cases v2 : 64 < u16 b (p + l3[k])
  ·
   rw [if_pos v2, if_neg (by omega)]
  have hin := (not_congr (u16_neg hb (i := p + l3[k]))).1 v1
  rw [if_neg v2, if_pos (show u16 b (p + l3[k]) ≤ 64 by omega)]
  rw [rowR_row hb (by omega) (by omega) (by omega)] at hR
  cases e1 : row b (p + l3[k] + 2) (u16 b (p + l3[k])) with
  | none => rw [e1] at hR; cases hR; rfl
  | some y =>
   rw [e1] at hR
   obtain ⟨hR1, hR2⟩ := Prod.mk.inj hR
   subst hR1
   subst hR2
   have hr := row_some hb e1
   simp only [if_true, Option.bind_some]
   have e := rTable_L6 (N := N) (b := b) (p := p) (y1 := 1) (ch := ch) (y4 := (l3.length : Int)) (l3 := l3) (y := y) (gl := gl) (i := k) (c1 := c1) (c2 := c2) (c3 := c3) ((gl[k]?).getD 0) (rl := (glR N b ch gl) k) hat h0 h1 hb2.1 hb2.2 hr.2.2.2.2.2 (by omega) (fun q v1 v2 => rRule_eq hN hb hl v1 v2 hl2 g1 g2 g3) y.length 0 N s (by omega) (by omega) hs
   rw [List.drop_zero, hr.2.1] at e
   rw [show ref11_Table_L6 N b p ch 1 (l3.length : Int) l3 (k : Int) (u16 b (p + l3[k])) y c1 c2 c3 gl ((gl[k]?).getD 0) N 0 s = _ from e, Option.bind_some]
   cases e8 : rulesM ((glR N b ch gl) k) (p + l3[k]) y s with
   | none => rfl
   | some s2 =>
    simp only [Option.bind_some]
    exact ih (k + 1) n s2 (by omega) (by omega) (rulesM_len e8 hs)
theorem rTable_L10c {p : Int} {ch : Bool} {l3 gl : List Int} {c1 c2 c3 : List TClass} {sp : List TSpan} (hsp : RL 0 sp) (hgl : gl = glO sp) (h0 : -10000 ≤ p) (h1 : p ≤ 10000) (hl2 : b.length ≤ 10000) (g1 : CB c1) (g2 : CB c2) (g3 : CB c3) (hx : ∀ x ∈ l3, 0 ≤ x ∧ x ≤ 65535) (hll : l3.length ≤ 100000) : ∀ (d k n : Nat) (s : List TCtx), k + d = l3.length → d < n → s.length ≤ 64 →
  ref11_Table_L10 N b p ch 2 (l3.length : Int) l3 c1 c2 c3 gl n k s = some (match listM b (clR b ch sp c2 c1 c2 c3) p k (l3.drop k) s with | some t => .inl t | none => .inr ()) := by
 intro d
 induction d with
 | zero =>
  intro k n s hk hn hs
  obtain ⟨n, rfl⟩ : ∃ x, n = x + 1 := ⟨n - 1, by omega⟩
  rw [ref11_Table_L10, if_neg (by omega), List.drop_eq_nil_of_le (by omega)]
  rfl
 | succ d ih =>
  intro k n s hk hn hs
  obtain ⟨n, rfl⟩ : ∃ x, n = x + 1 := ⟨n - 1, by omega⟩
  have hkl : k < l3.length := by omega
  have hat : l3[k]? = some l3[k] := List.getElem?_eq_getElem hkl
  have hb2 := hx l3[k] (List.getElem_mem hkl)
  rw [ref11_Table_L10, if_pos (by omega), atI_at hat, Option.bind_some, w64 (x := (k : Int) + 1) (by omega) (by omega), show (k : Int) + 1 = ((k + 1 : Nat) : Int) by omega, List.drop_eq_getElem_cons hkl]
  rw [listM]
  by_cases hz : l3[k] = 0
  ·
   rw [if_pos hz, if_pos hz]
   exact ih (k + 1) n s (by omega) (by omega) hs
  rw [if_neg hz, if_neg hz]
  have hgm : ∀ x ∈ gl, 0 ≤ x ∧ x < 65536 := fun x hx => by
   rw [hgl] at hx
   obtain ⟨z, hz, z1, z2⟩ := glO_mem.1 hx
   have := RL.lows hsp z hz
   omega
  have hgn : gl.length ≤ 70000 := by have := glO_len hsp; have := (cnt_parts hsp 0).2.2.2; rw [hgl]; omega
  obtain ⟨t, e9, l9, g9⟩ := rTable_L9 hN (b := b) (p := p) (y1 := 2) (y4 := (l3.length : Int)) (i := (k : Int)) (ch := ch) (l3 := l3) (gl := gl) (k1 := c1) (c2 := c2) (k3 := c3) (s0 := s) g2 hgm hgn gl.length 0 N (List.replicate 65536 false) (by omega) (by omega) (by rw [List.length_replicate])
  rw [if_neg (by decide), show ref11_Table_L9 N b p ch 2 (l3.length : Int) l3 (k : Int) c1 c2 c3 gl s N 0 (List.replicate 65536 false) = _ from e9, Option.bind_some, spans_of hN l9 hsp g2 (i := (k : Int)) (fun g hg => by rw [g9 g hg, List.drop_zero, hgl, bb_rep]; simp), Option.bind_some]
  have r := u16_range hb (p + l3[k])
  rw [w64 (x := p + l3[k]) (by omega) (by omega), rU16_eq hN hb (by omega) _ (by omega), Option.bind_some, w64 (x := p + l3[k] + 2) (by omega) (by omega), rRow_eq hN hb hl (by omega) (by omega) (by omega), Option.bind_some]
  obtain ⟨⟨ra, rb⟩, hR⟩ : ∃ z, rowR b (p + l3[k] + 2) (u16 b (p + l3[k])) = z := ⟨_, rfl⟩
  rw [hR]
  simp only
  unfold num
  by_cases v1 : u16 b (p + l3[k]) < 0
  ·
   rw [if_pos v1, if_pos v1]; rfl
  rw [if_neg v1, if_neg v1, Option.bind_some]
  by_cases v2 : 64 < u16 b (p + l3[k])
  ·
   rw [if_pos v2, if_neg (by omega)]
  have hin := (not_congr (u16_neg hb (i := p + l3[k]))).1 v1
  rw [if_neg v2, if_pos (show u16 b (p + l3[k]) ≤ 64 by omega)]
  rw [rowR_row hb (by omega) (by omega) (by omega)] at hR
  cases e1 : row b (p + l3[k] + 2) (u16 b (p + l3[k])) with
  | none => rw [e1] at hR; cases hR; rfl
  | some y =>
   rw [e1] at hR
   obtain ⟨hR1, hR2⟩ := Prod.mk.inj hR
   subst hR1
   subst hR2
   have hr := row_some hb e1
   simp only [if_true, Option.bind_some]
   have e := rTable_L8 (N := N) (b := b) (p := p) (y1 := 2) (ch := ch) (y4 := (l3.length : Int)) (l3 := l3) (y := y) (gl := gl) (i := k) (c1 := c1) (c2 := c2) (c3 := c3) (ouB (decide ((k : Int) = 0)) (wth (k : Int) c2 []) sp []) (rl := (clR b ch sp c2 c1 c2 c3) k) hat h0 h1 hb2.1 hb2.2 hr.2.2.2.2.2 (by omega) (fun q v1 v2 => rRule_eq hN hb hl v1 v2 hl2 g1 g2 g3) y.length 0 N s (by omega) (by omega) hs
   rw [List.drop_zero, hr.2.1] at e
   rw [show ref11_Table_L8 N b p ch 2 (l3.length : Int) l3 (k : Int) (u16 b (p + l3[k])) y c1 c2 c3 gl (ouB (decide ((k : Int) = 0)) (wth (k : Int) c2 []) sp []) N 0 s = _ from e, Option.bind_some]
   cases e8 : rulesM ((clR b ch sp c2 c1 c2 c3) k) (p + l3[k]) y s with
   | none => rfl
   | some s2 =>
    simp only [Option.bind_some]
    exact ih (k + 1) n s2 (by omega) (by omega) (rulesM_len e8 hs)
theorem rTable_eq {p : Int} {ch : Bool} (h0 : -5000 ≤ p) (h1 : p ≤ 5000) (hl2 : b.length ≤ 10000) : Told (ref11_Table N b p ch) (tableM N b p ch) (fun r => r.1) := by
 unfold ref11_Table tableM num
 rw [rU16_eq hN hb (by omega) _ (by omega), Option.bind_some]
 by_cases v0 : u16 b p < 0
 ·
  rw [if_pos v0, if_neg (by omega), w64 (x := p + 2) (by omega) (by omega), rU16_eq hN hb (by omega) _ (by omega), Option.bind_some, if_neg (by omega), if_neg (by omega)]
  exact Told.no
 rw [if_neg v0, Option.bind_some]
 by_cases v3 : u16 b p = 3
 ·
  rw [if_pos v3, if_neg (by omega), if_neg (by omega), if_pos v3]
  obtain ⟨l, e, h⟩ := rThird_eq hN hb hl (p := p) (ch := ch) (by omega) (by omega) hl2
  rw [e, Option.bind_some]
  exact ⟨l, rfl, h⟩
 rw [if_neg v3, w64 (x := p + 2) (by omega) (by omega), w64 (x := p + 4) (by omega) (by omega), rU16_eq hN hb (by omega) _ (by omega), Option.bind_some]
 have r2 := u16_range hb (p + 2)
 have row1 : ¬ u16 b (p + 2) < 0 → row b (p + 2) 1 = some [u16 b (p + 2)] := fun h => by
  have hin := (not_congr (u16_neg hb (i := p + 2))).1 h
  unfold row
  rw [if_pos (by omega)]
  have := row16_at (b := b) (i := p + 2) (n := 1) (k := 0) (by omega)
  simp only [Int.toNat_one, row16, List.range_one, List.map_cons, List.map_nil]
  simp
 have row0 : u16 b (p + 2) < 0 → row b (p + 2) 1 = none := fun h => by
  have hin := (u16_neg hb (i := p + 2)).1 h
  unfold row
  rw [if_neg (by omega)]
 obtain ⟨M, hM⟩ : ∃ M, N = M + 4 := ⟨N - 4, by omega⟩
 obtain ⟨t, t1, t2⟩ := Table_cov hN hb (by omega) (p + u16 b (p + 2)) (by omega) (by omega)
 have cr := fun s => cov_rl hN hb hl (p := p + u16 b (p + 2)) (s := s) (by omega) (by omega)
 by_cases v1 : u16 b p = 1
 ·
  rw [if_pos v1, if_pos v1]
  unfold singleM
  by_cases w2 : u16 b (p + 2) < 0
  ·
   rw [if_pos w2, row0 w2]; exact Told.no
  rw [if_neg w2, row1 w2, Option.bind_some, w64 (x := p + u16 b (p + 2)) (by omega) (by omega), t1, Option.bind_some]
  simp only [covs, cov]
  cases hc : covOk b (p + u16 b (p + 2)) with
  | false => exact Told.no
  | true =>
   obtain ⟨t2, t3⟩ := t2 hc
   have crl := (cr (covL N b (p + u16 b (p + 2))) (by unfold cov; rw [if_pos hc])).1
   have hgs := gl_same hN hb hl (i := p + u16 b (p + 2)) (by omega) (by omega) hc t3
   generalize covL N b (p + u16 b (p + 2)) = sp at crl hgs
   simp only [if_true, Option.bind_some]
   rw [v1, show ref11_Table_L1 N b p ch 1 t N (p + 4) 0 [] [] [] = some (.inl (p + 4, [], [], [])) from by
    rw [show ref11_Table_L1 N b p ch 1 t N = ref11_Table_L1 N b p ch 1 t (M + 4) from by rw [← hM]]; rw [ref11_Table_L1, if_pos (by decide), if_neg (by decide)], Option.bind_some]
   simp only
   rw [rU16_eq hN hb (by omega) _ (by omega), Option.bind_some, show p + 2 + 2 = p + 4 by omega]
   unfold num
   by_cases w4 : u16 b (p + 4) < 0
   ·
    rw [if_pos w4, if_pos w4]; exact Told.no
   have r4 := u16_range hb (p + 4)
   have hin := (not_congr (u16_neg hb (i := p + 4))).1 w4
   rw [if_neg w4, if_neg w4, Option.bind_some, show ref11_Table_L2 N b p ch 1 t (p + 4) (u16 b (p + 4)) [] [] [] N 0 [] = some (glO sp) from by
    have := rTable_L2 (N := N) (b := b) (p := p) (y1 := 1) (y3 := p + 4) (y4 := u16 b (p + 4)) (ch := ch) (k1 := []) (k2 := []) (k3 := []) t2 65536 0 N [] (by omega) (by omega) (by simp)
    rw [show ((0 : Nat) : Int) = 0 from rfl] at this
    rw [this, hgs]; rfl, Option.bind_some, w64 (x := p + 4 + 2) (by omega) (by omega), rRow_eq hN hb hl (by omega) (by omega) (by omega), Option.bind_some, rowR_row hb (by omega) (by omega) (by omega)]
   have gln := glO_len crl
   rw [show firstC [(⟨sp, false⟩ : TSet)] = sp from rfl]
   cases e1 : row b (p + 4 + 2) (u16 b (p + 4)) with
   | none =>
    simp only [Option.bind_none]
    by_cases hn : u16 b (p + 4) = cnt sp
    ·
     rw [if_pos hn]; exact Told.no
    ·
     rw [if_neg hn]; exact Told.no
   | some l3 =>
    have hr := row_some hb e1
    simp only [if_true, Option.bind_some]
    by_cases hn : u16 b (p + 4) = cnt sp
    ·
     rw [if_pos hn, if_pos (by omega), ← hr.2.1]
     have e := rTable_L10g hN hb hl (p := p) (ch := ch) (l3 := l3) (gl := glO sp) (c1 := []) (c2 := []) (c3 := []) (by omega) (by omega) (by omega) hl2 CB.nil CB.nil CB.nil hr.2.2.2.2.2 (by omega) l3.length 0 N [] (by omega) (by omega) (by simp)
     rw [List.drop_zero] at e
     rw [show ref11_Table_L10 N b p ch 1 (l3.length : Int) l3 [] [] [] (glO sp) N 0 [] = _ from e, Option.bind_some]
     cases listM b (glR N b ch (glO sp)) p 0 l3 [] with
     | none => exact Told.no
     | some s => exact Told.yes (a := (s, _)) (f := fun r => r.1)
    ·
     rw [if_neg hn, if_neg (by omega)]; exact Told.no
 rw [if_neg v1, if_neg v1]
 by_cases v2 : u16 b p = 2
 ·
  rw [if_pos v2, if_pos v2]
  have hcl : classedM N b (p + 2) p ch = (row b (p + 2) 1).bind fun l => (covs N b p l).bind fun r => (cl3 N b (p + 2 + 2) p ch).bind fun k => (num b k.1).bind fun n => (row b (k.1 + 2) n).bind fun l2 => (listM b (clR b ch (firstC r) k.2.2.1 k.2.1 k.2.2.1 k.2.2.2) p 0 l2 []).bind fun s => some (s, k.1 + 2 + n * 2) := by
   unfold classedM cl3
   cases ch with
   | true => simp only [if_true, Option.bind_assoc, Option.bind_some]
   | false => simp only [Bool.false_eq_true, if_false, Option.bind_assoc, Option.bind_some]
  rw [hcl]
  by_cases w2 : u16 b (p + 2) < 0
  ·
   rw [if_pos w2, row0 w2]; exact Told.no
  rw [if_neg w2, row1 w2, Option.bind_some, w64 (x := p + u16 b (p + 2)) (by omega) (by omega), t1, Option.bind_some]
  simp only [covs, cov]
  cases hc : covOk b (p + u16 b (p + 2)) with
  | false => exact Told.no
  | true =>
   obtain ⟨t2, t3⟩ := t2 hc
   have crl := (cr (covL N b (p + u16 b (p + 2))) (by unfold cov; rw [if_pos hc])).1
   have hgs := gl_same hN hb hl (i := p + u16 b (p + 2)) (by omega) (by omega) hc t3
   generalize covL N b (p + u16 b (p + 2)) = sp at crl hgs
   simp only [if_true, Option.bind_some]
   have e := rTable_L1 hN hb hl (P := p + 4) (base := p) (ch := ch) (t := t) (M := M) (by omega) (by omega) (by omega) (by omega)
   rw [← hM] at e
   rw [v2, e, Option.bind_some, show p + 2 + 2 = p + 4 by omega]
   cases e3 : cl3 N b (p + 4) p ch with
   | none => exact Told.no
   | some k =>
    obtain ⟨q, c1, c2, c3⟩ := k
    have hk : q ≤ 20000 ∧ -20000 ≤ q ∧ CB c1 ∧ CB c2 ∧ CB c3 := by
     have cb : ∀ (x o : Int) (c : List TClass), num b x = some o → classesM N b p o = some c → CB c := fun x o c h => classesM_cb hN hb hl (base := p) (off := o) (c := c) (by omega) (by omega) (by have := num_some hb h; omega) (by have := num_some hb h; omega)
     unfold cl3 at e3
     split at e3
     ·
      obtain ⟨o1, e4, e3⟩ := Option.bind_eq_some_iff.1 e3
      obtain ⟨d1, e5, e3⟩ := Option.bind_eq_some_iff.1 e3
      obtain ⟨o2, e6, e3⟩ := Option.bind_eq_some_iff.1 e3
      obtain ⟨d2, e7, e3⟩ := Option.bind_eq_some_iff.1 e3
      obtain ⟨o3, e8, e3⟩ := Option.bind_eq_some_iff.1 e3
      obtain ⟨d3, e9, e3⟩ := Option.bind_eq_some_iff.1 e3
      cases e3
      exact ⟨by omega, by omega, cb _ _ _ e4 e5, cb _ _ _ e6 e7, cb _ _ _ e8 e9⟩
     ·
      obtain ⟨o2, e6, e3⟩ := Option.bind_eq_some_iff.1 e3
      obtain ⟨d2, e7, e3⟩ := Option.bind_eq_some_iff.1 e3
      cases e3
      exact ⟨by omega, by omega, CB.nil, cb _ _ _ e6 e7, CB.nil⟩
    obtain ⟨k1, k2, k3, k4, k5⟩ := hk
    simp only [Option.bind_some]
    rw [rU16_eq hN hb (by omega) _ (by omega), Option.bind_some]
    unfold num
    by_cases w4 : u16 b q < 0
    ·
     rw [if_pos w4, if_pos w4]; exact Told.no
    have r4 := u16_range hb q
    have hin := (not_congr (u16_neg hb (i := q))).1 w4
    rw [if_neg w4, if_neg w4, Option.bind_some, show ref11_Table_L2 N b p ch 2 t q (u16 b q) c1 c2 c3 N 0 [] = some (glO sp) from by
     have := rTable_L2 (N := N) (b := b) (p := p) (y1 := 2) (y3 := q) (y4 := u16 b q) (ch := ch) (k1 := c1) (k2 := c2) (k3 := c3) t2 65536 0 N [] (by omega) (by omega) (by simp)
     rw [show ((0 : Nat) : Int) = 0 from rfl] at this
     rw [this, hgs]; rfl, Option.bind_some, w64 (x := q + 2) (by omega) (by omega), rRow_eq hN hb hl (by omega) (by omega) (by omega), Option.bind_some, rowR_row hb (by omega) (by omega) (by omega)]
    rw [show firstC [(⟨sp, false⟩ : TSet)] = sp from rfl]
    cases e1 : row b (q + 2) (u16 b q) with
    | none => exact Told.no
    | some l3 =>
     have hr := row_some hb e1
     simp only [if_true, Option.bind_some]
     have e := rTable_L10c hN hb hl (p := p) (ch := ch) (l3 := l3) (gl := glO sp) (c1 := c1) (c2 := c2) (c3 := c3) crl rfl (by omega) (by omega) hl2 k3 k4 k5 hr.2.2.2.2.2 (by omega) l3.length 0 N [] (by omega) (by omega) (by simp)
     rw [List.drop_zero, hr.2.1] at e
     rw [show ref11_Table_L10 N b p ch 2 (u16 b q) l3 c1 c2 c3 (glO sp) N 0 [] = _ from e, Option.bind_some]
     cases listM b (clR b ch sp c2 c1 c2 c3) p 0 l3 [] with
     | none => exact Told.no
     | some s => exact Told.yes (a := (s, _)) (f := fun r => r.1)
 rw [if_neg v2, if_neg v2, if_neg v3]
 exact Told.no
end
end Go.Proofs.Ytakplhfiohjcmaa.AI
