import Derived.Test.YtcbhlpbkampfeaaCX1
set_option linter.unusedVariables false
set_option linter.unusedSimpArgs false
set_option maxRecDepth 100000
namespace Go.Proofs.Ytcbhlpbkampfeaa.AI
def pt (o : List TSpan) (a b : Int) : List TSpan := if a ≤ b then jn o ⟨a, b⟩ else o
def wth (k : Int) : List Xb → List TSpan → List TSpan
 | [], o => o
 | c :: r, o => wth k r (if k = 0 ∨ c.Class = k then jn o ⟨c.From, c.To⟩ else o)
def stY (nt : Bool) (x : TSpan) (p : List TSpan × Int) (y : TSpan) : List TSpan × Int :=
 if y.To < x.From ∨ y.From > x.To then p else (match nt with | true => pt p.1 p.2 (y.From - 1) | false => pt p.1 (max p.2 y.From) (min x.To y.To), y.To + 1)
def inB (nt : Bool) (x : TSpan) : List TSpan → List TSpan × Int → List TSpan × Int
 | [], p => p
 | y :: r, p => inB nt x r (stY nt x p y)
def okS (s : TSpan) : Prop := 0 ≤ s.From ∧ s.From ≤ s.To ∧ s.To ≤ 65535
def okO (o : List TSpan) : Prop := ∀ x ∈ o, 0 ≤ x.To ∧ x.To ≤ 65535
theorem pt_ok {o : List TSpan} {a b : Int} (h : okO o) (h0 : 0 ≤ a) (h1 : b ≤ 65535) : okO (pt o a b) := by
  unfold pt
  split
  · exact jn_b h ⟨by simp only; omega, h1⟩
  · exact h
theorem pt_len (o : List TSpan) (a b : Int) : (pt o a b).length ≤ o.length + 1 := by
  unfold pt
  split
  · exact Xot _ _
  · omega
def stX (nt : Bool) (ys : List TSpan) (o : List TSpan) (x : TSpan) : List TSpan := match nt with
 | true => pt (inB true x ys (o, x.From)).1 (inB true x ys (o, x.From)).2 x.To
 | false => (inB false x ys (o, x.From)).1
def ouB (nt : Bool) (ys : List TSpan) : List TSpan → List TSpan → List TSpan
 | [], o => o
 | x :: r, o => ouB nt ys r (stX nt ys o x)
theorem stY_ok {nt : Bool} {x y : TSpan} {p : List TSpan × Int} (hx : okS x) (hy : okS y) (h : okO p.1) (h0 : 0 ≤ p.2) (h1 : p.2 ≤ 65536) : okO (stY nt x p y).1 ∧ 0 ≤ (stY nt x p y).2 ∧ (stY nt x p y).2 ≤ 65536 ∧ (stY nt x p y).1.length ≤ p.1.length + 1 := by
 obtain ⟨y1, y2, y3⟩ := hy
 obtain ⟨x1, x2, x3⟩ := hx
 unfold stY
 split
 ·
  exact ⟨h, h0, h1, by omega⟩
 ·
  cases nt with
  | true => exact ⟨pt_ok h h0 (by omega), by simp only; omega, by simp only; omega, pt_len _ _ _⟩
  | false => exact ⟨pt_ok h (by omega) (by omega), by simp only; omega, by simp only; omega, pt_len _ _ _⟩
theorem inB_ok {nt : Bool} {x : TSpan} (hx : okS x) : ∀ {ys : List TSpan} {p : List TSpan × Int}, (∀ y ∈ ys, okS y) → okO p.1 → 0 ≤ p.2 → p.2 ≤ 65536 → okO (inB nt x ys p).1 ∧ 0 ≤ (inB nt x ys p).2 ∧ (inB nt x ys p).2 ≤ 65536 ∧ (inB nt x ys p).1.length ≤ p.1.length + ys.length
 | [], p, _, h, h0, h1 => ⟨h, h0, h1, by simp [inB]⟩
 | y :: r, p, hy, h, h0, h1 => by
  obtain ⟨g1, g2, g3, g4⟩ := stY_ok (nt := nt) hx (hy y List.mem_cons_self) h h0 h1
  obtain ⟨k1, k2, k3, k4⟩ := inB_ok hx (fun z hz => hy z (List.mem_cons_of_mem _ hz)) g1 g2 g3
  exact ⟨k1, k2, k3, by simp only [inB, List.length_cons]; omega⟩
theorem stX_ok {nt : Bool} {x : TSpan} (hx : okS x) {ys o : List TSpan} (hy : ∀ y ∈ ys, okS y) (h : okO o) : okO (stX nt ys o x) ∧ (stX nt ys o x).length ≤ o.length + ys.length + 1 := by
 have h2 := inB_ok (nt := nt) hx (p := (o, x.From)) hy h hx.1 (by have := hx.2.1; have := hx.2.2; simp only; omega)
 unfold stX
 cases nt with
 | true => exact ⟨pt_ok h2.1 h2.2.1 hx.2.2, by have := pt_len (inB true x ys (o, x.From)).1 (inB true x ys (o, x.From)).2 x.To; have := h2.2.2.2; simp only at this ⊢; omega⟩
 | false => exact ⟨h2.1, by have := h2.2.2.2; simp only at this ⊢; omega⟩
def CL : Int → List Xb → Prop
 | _, [] => True
 | lo, c :: r => lo ≤ c.From ∧ c.From ≤ c.To ∧ c.To ≤ 65535 ∧ 1 ≤ c.Class ∧ CL (c.To + 1) r
theorem CL.low : ∀ {l : List Xb} {lo : Int}, CL lo l → ∀ c ∈ l, lo ≤ c.From ∧ c.From ≤ c.To ∧ c.To ≤ 65535 ∧ 1 ≤ c.Class
 | [], lo, _, c, hc => by cases hc
 | x :: r, lo, h, c, hc => by
  rcases List.mem_cons.1 hc with rfl | hc
  ·
   exact ⟨h.1, h.2.1, h.2.2.1, h.2.2.2.1⟩
  ·
   have := CL.low h.2.2.2.2 c hc
   have := h.1; have := h.2.1
   omega
theorem Xeh {k : Int} : ∀ {m : List Xb} {lo : Int} {o : List TSpan}, CL lo m → 0 ≤ lo → RL 0 o → (∀ x ∈ o, x.To < lo) →
  RL 0 (wth k m o) ∧ (∀ g, inn (wth k m o) g ↔ inn o g ∨ ∃ c ∈ m, (k = 0 ∨ c.Class = k) ∧ c.From ≤ g ∧ g ≤ c.To) ∧ (wth k m o).length ≤ o.length + m.length
 | [], lo, o, _, _, ho, _ => ⟨ho, fun g => by simp [wth], by simp [wth]⟩
 | c :: r, lo, o, h, h0, ho, hb => by
  obtain ⟨h1, h2, h3, h4, h5⟩ := h
  simp only [wth]
  by_cases hk : k = 0 ∨ c.Class = k
  ·
   rw [if_pos hk]
   obtain ⟨j1, j2, j3, j4, j5⟩ := Xed (s := ⟨c.From, c.To⟩) ho (fun x hx => by have := hb x hx; simp only; omega) (by simp only; omega) h2 h3
   obtain ⟨g1, g2, g3⟩ := Xeh (k := k) h5 (by omega) j1 (fun x hx => by have := j2 x hx; simp only at this; omega)
   refine ⟨g1, fun g => ?_, by simp only [List.length_cons]; omega⟩
   rw [g2, j4]
   simp only [List.mem_cons]
   constructor
   ·
    rintro ((h | h) | ⟨c', hc, h⟩)
    ·
     exact .inl h
    ·
     exact .inr ⟨c, .inl rfl, hk, h⟩
    ·
     exact .inr ⟨c', .inr hc, h⟩
   ·
    rintro (h | ⟨c', rfl | hc, h⟩)
    ·
     exact .inl (.inl h)
    ·
     exact .inl (.inr h.2)
    ·
     exact .inr ⟨c', hc, h⟩
  ·
   rw [if_neg hk]
   obtain ⟨g1, g2, g3⟩ := Xeh (k := k) h5 (by omega) ho (fun x hx => by have := hb x hx; omega)
   refine ⟨g1, fun g => ?_, by simp only [List.length_cons]; omega⟩
   rw [g2]
   simp only [List.mem_cons]
   constructor
   ·
    rintro (h | ⟨c', hc, h⟩)
    ·
     exact .inl h
    ·
     exact .inr ⟨c', .inr hc, h⟩
   ·
    rintro (h | ⟨c', rfl | hc, h⟩)
    ·
     exact .inl h
    ·
     exact (hk h.1).elim
    ·
     exact .inr ⟨c', hc, h⟩
theorem Xna {o : List TSpan} {a b : Int} (h : RL 0 o) (hb : ∀ z ∈ o, z.To < a) (h0 : 0 ≤ a) (h1 : b ≤ 65535) :
  RL 0 (pt o a b) ∧ (∀ z ∈ pt o a b, z.To ≤ b ∨ z.To < a) ∧ cnt (pt o a b) = cnt o + max 0 (b - a + 1) ∧ ∀ g, inn (pt o a b) g ↔ inn o g ∨ (a ≤ g ∧ g ≤ b) := by
 unfold pt
 by_cases hab : a ≤ b
 ·
  rw [if_pos hab]
  obtain ⟨j1, j2, j3, j4, j5⟩ := Xed (s := ⟨a, b⟩) h (fun x hx => hb x hx) h0 hab h1
  exact ⟨j1, fun z hz => .inl (j2 z hz), by rw [j3]; simp only; omega, j4⟩
 ·
  rw [if_neg hab]
  refine ⟨h, fun z hz => .inr (hb z hz), by omega, fun g => ?_⟩
  constructor
  ·
   exact .inl
  ·
   rintro (h | h)
   ·
    exact h
   ·
    omega
theorem Xbj {y : TSpan} {r : List TSpan} {g : Int} : inn (y :: r) g ↔ (y.From ≤ g ∧ g ≤ y.To) ∨ inn r g := by
  simp only [inn, List.mem_cons]
  constructor
  · rintro ⟨z, rfl | hz, h⟩
    · exact .inl h
    · exact .inr ⟨z, hz, h⟩
  · rintro (h | ⟨z, hz, h⟩)
    · exact ⟨y, .inl rfl, h⟩
    · exact ⟨z, .inr hz, h⟩
theorem inn_low {r : List TSpan} {lo g : Int} (h : RL lo r) (hg : inn r g) : lo ≤ g := by
 obtain ⟨z, hz, h1, h2⟩ := hg
 have := RL.lows h z hz
 omega
theorem Xh6 {x : TSpan} (hx : okS x) : ∀ {ys : List TSpan} {lo at_ : Int} {o : List TSpan}, RL lo ys → RL 0 o → (∀ z ∈ o, z.To < at_ ∧ z.To ≤ x.To) → x.From ≤ at_ → (at_ = x.From ∨ at_ ≤ lo) →
  RL 0 (inB false x ys (o, at_)).1 ∧ (∀ z ∈ (inB false x ys (o, at_)).1, z.To ≤ x.To) ∧ cnt (inB false x ys (o, at_)).1 ≤ cnt o + (x.To + 1 - min at_ (x.To + 1)) ∧ ∀ g, inn (inB false x ys (o, at_)).1 g ↔ inn o g ∨ (x.From ≤ g ∧ g ≤ x.To ∧ inn ys g)
 | [], lo, at_, o, _, ho, hz, _, _ => ⟨ho, fun z h => (hz z h).2, by simp only [inB]; omega, fun g => by simp [inB, inn]⟩
 | y :: r, lo, at_, o, h, ho, hz, ha, hat => by
  obtain ⟨h1, h2, h3, h4⟩ := h
  obtain ⟨x1, x2, x3⟩ := hx
  simp only [inB]
  by_cases hs : y.To < x.From ∨ y.From > x.To
  ·
   have e : stY false x (o, at_) y = (o, at_) := if_pos hs
   rw [e]
   obtain ⟨g1, g2, g3, g4⟩ := Xh6 ⟨x1, x2, x3⟩ h4 ho hz ha (by omega)
   refine ⟨g1, g2, g3, fun g => ?_⟩
   rw [g4, Xbj]
   constructor
   ·
    rintro (h | ⟨h5, h6, h7⟩)
    ·
     exact .inl h
    ·
     exact .inr ⟨h5, h6, .inr h7⟩
   ·
    rintro (h | ⟨h5, h6, h7 | h7⟩)
    ·
     exact .inl h
    ·
     omega
    ·
     exact .inr ⟨h5, h6, h7⟩
  ·
   have e : stY false x (o, at_) y = (pt o (max at_ y.From) (min x.To y.To), y.To + 1) := if_neg hs
   rw [e]
   obtain ⟨p1, p2, p3, p4⟩ := Xna (a := max at_ y.From) (b := min x.To y.To) ho (fun z h => by have := hz z h; omega) (by omega) (by omega)
   obtain ⟨g1, g2, g3, g4⟩ := Xh6 (ys := r) (lo := y.To + 2) (at_ := y.To + 1) ⟨x1, x2, x3⟩ h4 p1 (fun z h => by
    have := p2 z h
    by_cases hm : z ∈ o
    ·
     have := hz z hm; omega
    ·
     have : z.To ≤ min x.To y.To := by
      unfold pt at h
      split at h
      ·
       obtain ⟨_, j2, _⟩ := Xed (s := ⟨max at_ y.From, min x.To y.To⟩) ho (fun x hx => by have := hz x hx; simp only; omega) (by simp only; omega) ‹_› (by simp only; omega)
       exact j2 z h
      ·
       exact (hm h).elim
     omega) (by omega) (.inr (by omega))
   refine ⟨g1, g2, by rw [p3] at g3; omega, fun g => ?_⟩
   rw [g4, p4, Xbj]
   constructor
   ·
    rintro ((h | h) | ⟨h5, h6, h7⟩)
    ·
     exact .inl h
    ·
     exact .inr ⟨by omega, by omega, .inl (by omega)⟩
    ·
     exact .inr ⟨h5, h6, .inr h7⟩
   ·
    rintro (h | ⟨h5, h6, h7 | h7⟩)
    ·
     exact .inl (.inl h)
    ·
     exact .inl (.inr (by omega))
    ·
     exact .inr ⟨h5, h6, h7⟩
theorem Xkv {x : TSpan} (hx : okS x) : ∀ {ys : List TSpan} {lo at_ : Int} {o : List TSpan}, RL lo ys → RL 0 o → (∀ z ∈ o, z.To < at_ ∧ z.To ≤ x.To) → x.From ≤ at_ → (at_ = x.From ∨ at_ ≤ lo) →
  RL 0 (inB true x ys (o, at_)).1 ∧ (∀ z ∈ (inB true x ys (o, at_)).1, z.To < (inB true x ys (o, at_)).2 ∧ z.To ≤ x.To) ∧ at_ ≤ (inB true x ys (o, at_)).2 ∧ cnt (inB true x ys (o, at_)).1 ≤ cnt o + (min (inB true x ys (o, at_)).2 (x.To + 1) - min at_ (x.To + 1)) ∧
   (∀ g, inn (inB true x ys (o, at_)).1 g ↔ inn o g ∨ (at_ ≤ g ∧ g ≤ x.To ∧ g < (inB true x ys (o, at_)).2 ∧ ¬ inn ys g)) ∧ ∀ g, (inB true x ys (o, at_)).2 ≤ g → g ≤ x.To → ¬ inn ys g
 | [], lo, at_, o, _, ho, hz, _, _ => ⟨ho, hz, Int.le_refl _, by simp only [inB]; omega, fun g => by
   simp only [inB]
   constructor
   ·
    exact .inl
   ·
    rintro (h | h)
    ·
     exact h
    ·
     omega, fun g _ _ => by simp [inn]⟩
 | y :: r, lo, at_, o, h, ho, hz, ha, hat => by
  obtain ⟨h1, h2, h3, h4⟩ := h
  obtain ⟨x1, x2, x3⟩ := hx
  simp only [inB]
  by_cases hs : y.To < x.From ∨ y.From > x.To
  ·
   have e : stY true x (o, at_) y = (o, at_) := if_pos hs
   rw [e]
   obtain ⟨g1, g2, g3, g4, g5, g6⟩ := Xkv ⟨x1, x2, x3⟩ h4 ho hz ha (by omega)
   refine ⟨g1, g2, g3, g4, fun g => ?_, fun g q1 q2 => ?_⟩
   ·
    rw [g5, Xbj]
    constructor
    ·
     rintro (h | ⟨h5, h6, h7, h8⟩)
     ·
      exact .inl h
     ·
      exact .inr ⟨h5, h6, h7, by rintro (h9 | h9); omega; exact h8 h9⟩
    ·
     rintro (h | ⟨h5, h6, h7, h8⟩)
     ·
      exact .inl h
     ·
      exact .inr ⟨h5, h6, h7, fun h9 => h8 (.inr h9)⟩
   ·
    rw [Xbj]
    rintro (h9 | h9)
    ·
     omega
    ·
     exact g6 g q1 q2 h9
  ·
   have e : stY true x (o, at_) y = (pt o at_ (y.From - 1), y.To + 1) := if_neg hs
   rw [e]
   obtain ⟨p1, p2, p3, p4⟩ := Xna (a := at_) (b := y.From - 1) ho (fun z h => (hz z h).1) (by omega) (by omega)
   obtain ⟨g1, g2, g3, g4, g5, g6⟩ := Xkv (ys := r) (lo := y.To + 2) (at_ := y.To + 1) ⟨x1, x2, x3⟩ h4 p1 (fun z h => by
    by_cases hm : z ∈ o
    ·
     have := hz z hm; omega
    ·
     have : z.To ≤ y.From - 1 := by
      unfold pt at h
      split at h
      ·
       obtain ⟨_, j2, _⟩ := Xed (s := ⟨at_, y.From - 1⟩) ho (fun x hx => (hz x hx).1) (by simp only; omega) ‹_› (by simp only; omega)
       exact j2 z h
      ·
       exact (hm h).elim
     omega) (by omega) (.inr (by omega))
   refine ⟨g1, g2, by omega, by rw [p3] at g4; omega, fun g => ?_, fun g q1 q2 => ?_⟩
   ·
    rw [g5, p4, Xbj]
    constructor
    ·
     rintro ((h | h) | ⟨h5, h6, h7, h8⟩)
     ·
      exact .inl h
     ·
      refine .inr ⟨h.1, by omega, by omega, ?_⟩
      rintro (h9 | h9)
      ·
       omega
      ·
       have := inn_low h4 h9; omega
     ·
      exact .inr ⟨by omega, h6, h7, by rintro (h9 | h9); omega; exact h8 h9⟩
    ·
     rintro (h | ⟨h5, h6, h7, h8⟩)
     ·
      exact .inl (.inl h)
     ·
      by_cases hg : g < y.From
      ·
       exact .inl (.inr ⟨h5, by omega⟩)
      ·
       refine .inr ⟨?_, h6, h7, fun h9 => h8 (.inr h9)⟩
       have : ¬ (y.From ≤ g ∧ g ≤ y.To) := fun h9 => h8 (.inl h9)
       omega
   ·
    rw [Xbj]
    rintro (h9 | h9)
    ·
     omega
    ·
     exact g6 g q1 q2 h9
theorem stX_spec {nt : Bool} {ys o : List TSpan} {x : TSpan} (hx : okS x) (hy : RL 0 ys) (ho : RL 0 o) (hz : ∀ z ∈ o, z.To < x.From) :
  RL 0 (stX nt ys o x) ∧ (∀ z ∈ stX nt ys o x, z.To ≤ x.To) ∧ cnt (stX nt ys o x) ≤ cnt o + (x.To - x.From + 1) ∧ ∀ g, inn (stX nt ys o x) g ↔ inn o g ∨ (x.From ≤ g ∧ g ≤ x.To ∧ (inn ys g ↔ nt = false)) := by
 have ⟨x1, x2, x3⟩ := hx
 cases nt with
 | false =>
  obtain ⟨g1, g2, g3, g4⟩ := Xh6 hx hy ho (at_ := x.From) (fun z h => by have := hz z h; omega) (Int.le_refl _) (.inl rfl)
  refine ⟨g1, g2, by simp only [stX]; omega, fun g => ?_⟩
  simp only [stX]
  rw [g4]
  simp
 | true =>
  obtain ⟨g1, g2, g3, g4, g5, g6⟩ := Xkv hx hy ho (at_ := x.From) (fun z h => by have := hz z h; omega) (Int.le_refl _) (.inl rfl)
  obtain ⟨p1, p2, p3, p4⟩ := Xna (a := (inB true x ys (o, x.From)).2) (b := x.To) g1 (fun z h => (g2 z h).1) (by omega) (by omega)
  refine ⟨p1, fun z h => ?_, by simp only [stX]; rw [p3]; omega, fun g => ?_⟩
  ·
   simp only [stX] at h
   by_cases hm : z ∈ (inB true x ys (o, x.From)).1
   ·
    exact (g2 z hm).2
   ·
    unfold pt at h
    split at h
    ·
     obtain ⟨_, j2, _⟩ := Xed (s := ⟨(inB true x ys (o, x.From)).2, x.To⟩) g1 (fun z h => (g2 z h).1) (by simp only; omega) ‹_› (by simp only; omega)
     exact j2 z h
    ·
     exact (hm h).elim
  ·
   simp only [stX]
   rw [p4, g5]
   simp only [Bool.true_eq_false, iff_false]
   constructor
   ·
    rintro ((h | ⟨h1, h2, h3, h4⟩) | ⟨h1, h2⟩)
    ·
     exact .inl h
    ·
     exact .inr ⟨h1, h2, h4⟩
    ·
     exact .inr ⟨by omega, h2, g6 g h1 h2⟩
   ·
    rintro (h | ⟨h1, h2, h3⟩)
    ·
     exact .inl (.inl h)
    ·
     by_cases hg : g < (inB true x ys (o, x.From)).2
     ·
      exact .inl (.inr ⟨h1, h2, hg, h3⟩)
     ·
      exact .inr ⟨by omega, h2⟩
theorem Xkp {nt : Bool} {ys : List TSpan} (hy : RL 0 ys) : ∀ {l : List TSpan} {lo : Int} {o : List TSpan}, RL lo l → 0 ≤ lo → RL 0 o → (∀ z ∈ o, z.To < lo) →
  RL 0 (ouB nt ys l o) ∧ cnt (ouB nt ys l o) ≤ cnt o + cnt l ∧ ∀ g, inn (ouB nt ys l o) g ↔ inn o g ∨ (inn l g ∧ (inn ys g ↔ nt = false))
 | [], lo, o, _, _, ho, _ => ⟨ho, by simp [ouB, cnt], fun g => by simp [ouB, inn]⟩
 | x :: r, lo, o, h, h0, ho, hz => by
  obtain ⟨h1, h2, h3, h4⟩ := h
  simp only [ouB]
  obtain ⟨s1, s2, s3, s4⟩ := stX_spec (nt := nt) (x := x) ⟨by omega, h2, h3⟩ hy ho (fun z h => by have := hz z h; omega)
  obtain ⟨g1, g2, g3⟩ := Xkp hy h4 (by omega) s1 (fun z h => by have := s2 z h; omega)
  refine ⟨g1, by simp only [cnt]; omega, fun g => ?_⟩
  rw [g3, s4, Xbj]
  constructor
  ·
   rintro ((h | ⟨h5, h6, h7⟩) | ⟨h5, h6⟩)
   ·
    exact .inl h
   ·
    exact .inr ⟨.inl ⟨h5, h6⟩, h7⟩
   ·
    exact .inr ⟨.inr h5, h6⟩
  ·
   rintro (h | ⟨h5 | h5, h6⟩)
   ·
    exact .inl (.inl h)
   ·
    exact .inl (.inr ⟨h5.1, h5.2, h6⟩)
   ·
    exact .inr ⟨h5, h6⟩
def CB (c : List Xb) : Prop := CL 0 c ∧ c.length ≤ 65536
theorem KL.cl : ∀ {l : List Xb} {lo pc : Int}, KL lo pc l → CL lo l
 | [], _, _, _ => trivial
 | x :: r, lo, pc, h => ⟨h.1, h.2.1, h.2.2.1, h.2.2.2.1, KL.cl h.2.2.2.2.2⟩
theorem CB.nil : CB [] := ⟨trivial, by simp⟩
def clsO (N : Nat) (b : List Int) (p : Int) : Option (List Xb) := if clsOk b p = true then some (clsL N b p) else none
def YN (N : Nat) (b : List Int) (base off : Int) : Option (List Xb) := if off = 0 then some [] else clsO N b (base + off)
section
variable {N : Nat} (hN : 1000000000000 < N) {b : List Int} (hb : Bytes b) (hl : b.length ≤ 1000000)
include hN hb hl
theorem QR {base off : Int} (h0 : -1000000000 ≤ base) (h1 : base ≤ 1000000000) (h2 : 0 ≤ off) (h3 : off ≤ 65535) {c : List Xb} (h : YN N b base off = some c) : CB c := by
 unfold YN at h
 split at h
 ·
  cases h; exact CB.nil
 ·
  unfold clsO at h
  split at h
  ·
   rename_i hc
   cases h
   obtain ⟨l, g1, g2, g3, g4, g5⟩ := Xgi hN hb (by omega) (base + off) (by omega) (by omega)
   have e : clsL N b (base + off) = l := by unfold clsL; rw [g1]; rfl
   rw [e]
   exact ⟨(g5 hc).1.cl, g4⟩
  ·
   cases h
theorem Xcj {p base off : Int} (h0 : -1000000000 ≤ base) (h1 : base ≤ 1000000000) (h2 : 0 ≤ off) (h3 : off ≤ 65535) : Yc N b p base off = some (S (YN N b base off)) := by
 unfold Yc YN
 by_cases h : off = 0
 ·
  rw [if_pos h, if_pos h]; rfl
 ·
  rw [if_neg h, if_neg h, w64 (by omega) (by omega), (clsL_eq hN hb (by omega) (base + off) (by omega) (by omega)).1, Option.bind_some]
  simp only
  rw [Xbp, Option.bind_some]
  unfold clsO
  cases clsOk b (base + off) <;> rfl
theorem Xdg {p : Int} (h0 : -10000000000 ≤ p) (h1 : p ≤ 10000000000) {s : List TSpan} (h : cov N b p = some s) : RL 0 s ∧ s.length ≤ 65536 := by
 unfold cov at h
 split at h
 ·
  rename_i hc
  cases h
  obtain ⟨l, g1, g2, g3, g4⟩ := Xkb hN hb (by omega) p (by omega) (by omega)
  have e : covL N b p = l := by unfold covL; rw [g1]; rfl
  have := (Xis hN hb (by omega) p (by omega) (by omega)).2.2.2
  rw [e] at this ⊢
  exact ⟨(g4 hc).1, this⟩
 ·
  cases h
end
theorem RL.okS {l : List TSpan} (h : RL 0 l) : ∀ x ∈ l, okS x := fun x hx => by have := RL.lows h x hx; exact ⟨this.1, this.2.1, this.2.2⟩
theorem With_L1 {N : Nat} {a : Int} {c : List Xb} (hc : ∀ x ∈ c, 0 ≤ x.To ∧ x.To ≤ 65535) (hl : c.length ≤ 65536) : ∀ (d k n : Nat) (s : List TSpan), k + d = c.length → d < n → s.length ≤ k → (∀ x ∈ s, 0 ≤ x.To ∧ x.To ≤ 65535) →
  Zb N a c n k s = some (wth a (c.drop k) s) := by
 intro d
 induction d with
 | zero =>
  intro k n s hk hn hs ho
  obtain ⟨n, rfl⟩ : ∃ x, n = x + 1 := ⟨n - 1, by omega⟩
  rw [Zb, if_neg (by omega), List.drop_eq_nil_of_le (by omega)]; rfl
 | succ d ih =>
  intro k n s hk hn hs ho
  obtain ⟨n, rfl⟩ : ∃ x, n = x + 1 := ⟨n - 1, by omega⟩
  have hkl : k < c.length := by omega
  have hb2 := hc c[k] (List.getElem_mem hkl)
  have e1 : (k : Int) + 1 = ((k + 1 : Nat) : Int) := by omega
  have hj := Xot s ⟨c[k].From, c[k].To⟩
  have hjb := jn_b (s := ⟨c[k].From, c[k].To⟩) ho hb2
  rw [Zb, if_pos (by omega), XY (List.getElem?_eq_getElem hkl), Option.bind_some, w64 (x := (k : Int) + 1) (by omega) (by omega), e1, List.drop_eq_getElem_cons hkl]
  simp only [wth]
  by_cases h1 : a = 0
  ·
   rw [if_pos h1, Xc6 (by omega) ho, Option.bind_some, if_pos (.inl h1)]
   exact ih (k + 1) n _ (by omega) (by omega) (by omega) hjb
  ·
   rw [if_neg h1]
   by_cases h2 : c[k].Class = a
   ·
    rw [if_pos h2, Xc6 (by omega) ho, Option.bind_some, if_pos (.inr h2)]
    exact ih (k + 1) n _ (by omega) (by omega) (by omega) hjb
   ·
    rw [if_neg h2, if_neg (fun h => h.elim h1 h2)]
    exact ih (k + 1) n _ (by omega) (by omega) (by omega) ho
theorem With_eq {N : Nat} (hN : 1000000000000 < N) {c : List Xb} (hc : CB c) (a : Int) : Xav N c a = some (wth a c [], decide (a = 0)) := by
 unfold Xav
 have h := With_L1 (N := N) (a := a) (fun x hx => by have := CL.low hc.1 x hx; omega) hc.2 c.length 0 N [] (by omega) (by have := hc.2; omega) (by simp) (by simp)
 rw [List.drop_zero] at h
 rw [show Zb N a c N 0 [] = _ from h, Option.bind_some]
theorem Xn2 {c : List Xb} (hc : CB c) (a : Int) : RL 0 (wth a c []) ∧ (wth a c []).length ≤ 65536 := by
 have h := Xeh (k := a) (m := c) (lo := 0) (o := []) hc.1 (Int.le_refl _) trivial (by simp)
 exact ⟨h.1, by have := h.2.2; have := hc.2; simp only [List.length_nil] at *; omega⟩
theorem Xk9 {N : Nat} {s : List TSpan} {a c : Int} (hl : s.length ≤ 1000000000000) (ho : okO s) : Zq N a c s = some (pt s a c) := by
  unfold Zq pt
  by_cases h : a ≤ c
  · rw [if_pos h, if_pos h, Xc6 hl ho, Option.bind_some]
  · rw [if_neg h, if_neg h]
theorem Both_L2 {N : Nat} {l m : List TSpan} {i : Int} {nt : Bool} {x : TSpan} (hx : okS x) (hm : ∀ y ∈ m, okS y) (hl : m.length ≤ 65536) : ∀ (d j n : Nat) (a : Int) (s : List TSpan), j + d = m.length → d < n → okO s → 0 ≤ a → a ≤ 65536 → s.length ≤ 100000000000 + j →
  YL N l i m nt x n a j s = some ((inB nt x (m.drop j) (s, a)).2, (inB nt x (m.drop j) (s, a)).1) := by
 intro d
 induction d with
 | zero =>
  intro j n a s hj hn ho h0 h1 hs
  obtain ⟨n, rfl⟩ : ∃ x, n = x + 1 := ⟨n - 1, by omega⟩
  rw [YL, if_neg (by omega), List.drop_eq_nil_of_le (by omega)]; rfl
 | succ d ih =>
  intro j n a s hj hn ho h0 h1 hs
  obtain ⟨n, rfl⟩ : ∃ x, n = x + 1 := ⟨n - 1, by omega⟩
  have hjl : j < m.length := by omega
  have hy := hm m[j] (List.getElem_mem hjl)
  have ok := stY_ok (nt := nt) (p := (s, a)) hx hy ho h0 h1
  have e1 : (j : Int) + 1 = ((j + 1 : Nat) : Int) := by omega
  obtain ⟨y1, y2, y3⟩ := hy
  rw [YL, if_pos (by omega), XY (List.getElem?_eq_getElem hjl), Option.bind_some, w64 (x := (j : Int) + 1) (by omega) (by omega), e1, List.drop_eq_getElem_cons hjl]
  simp only [inB]
  by_cases g1 : m[j].To < x.From
  ·
   have e : stY nt x (s, a) m[j] = (s, a) := by unfold stY; rw [if_pos (.inl g1)]
   rw [if_pos g1, e]
   exact ih (j + 1) n a s (by omega) (by omega) ho h0 h1 (by omega)
  rw [if_neg g1]
  by_cases g2 : x.To < m[j].From
  ·
   have e : stY nt x (s, a) m[j] = (s, a) := by unfold stY; rw [if_pos (.inr g2)]
   rw [if_pos g2, e]
   exact ih (j + 1) n a s (by omega) (by omega) ho h0 h1 (by omega)
  rw [if_neg g2]
  cases nt with
  | true =>
   have e : stY true x (s, a) m[j] = (pt s a (m[j].From - 1), m[j].To + 1) := by unfold stY; rw [if_neg (fun h => h.elim g1 g2)]
   rw [e] at ok ⊢
   rw [if_pos rfl, w64 (x := m[j].From - 1) (by omega) (by omega), Xk9 (by omega) ho, Option.bind_some, w64 (x := m[j].To + 1) (by omega) (by omega)]
   exact ih (j + 1) n _ _ (by omega) (by omega) ok.1 ok.2.1 ok.2.2.1 (by have := ok.2.2.2; simp only at this; omega)
  | false =>
   have e : stY false x (s, a) m[j] = (pt s (max a m[j].From) (min x.To m[j].To), m[j].To + 1) := by unfold stY; rw [if_neg (fun h => h.elim g1 g2)]
   rw [e] at ok ⊢
   rw [if_neg (by decide), Xk9 (by omega) ho, Option.bind_some, w64 (x := m[j].To + 1) (by omega) (by omega)]
   exact ih (j + 1) n _ _ (by omega) (by omega) ok.1 ok.2.1 ok.2.2.1 (by have := ok.2.2.2; simp only at this; omega)
theorem Both_L3 {N : Nat} (hN : 1000000000000 < N) {l m : List TSpan} {nt : Bool} (hl : ∀ x ∈ l, okS x) (hm : ∀ y ∈ m, okS y) (hll : l.length ≤ 65536) (hml : m.length ≤ 65536) : ∀ (d k n : Nat) (s : List TSpan), k + d = l.length → d < n → okO s → s.length ≤ 65537 * k →
  Zx N l m nt n k s = some (ouB nt m (l.drop k) s) := by
 intro d
 induction d with
 | zero =>
  intro k n s hk hn ho hs
  obtain ⟨n, rfl⟩ : ∃ x, n = x + 1 := ⟨n - 1, by omega⟩
  rw [Zx, if_neg (by omega), List.drop_eq_nil_of_le (by omega)]; rfl
 | succ d ih =>
  intro k n s hk hn ho hs
  obtain ⟨n, rfl⟩ : ∃ x, n = x + 1 := ⟨n - 1, by omega⟩
  have hkl : k < l.length := by omega
  have hx := hl l[k] (List.getElem_mem hkl)
  have ok := stX_ok (nt := nt) (x := l[k]) hx hm ho
  have in_ := inB_ok (nt := nt) (x := l[k]) (p := (s, l[k].From)) hx hm ho hx.1 (by have := hx.2.1; have := hx.2.2; simp only; omega)
  have e1 : (k : Int) + 1 = ((k + 1 : Nat) : Int) := by omega
  have h2 := Both_L2 (N := N) (l := l) (i := (k : Int)) (nt := nt) hx hm hml m.length 0 N l[k].From s (by omega) (by omega) ho hx.1 (by have := hx.2.1; have := hx.2.2; omega) (by omega)
  rw [List.drop_zero] at h2
  rw [Zx, if_pos (by omega), XY (List.getElem?_eq_getElem hkl), Option.bind_some, show YL N l k m nt l[k] N l[k].From 0 s = _ from h2, Option.bind_some, w64 (x := (k : Int) + 1) (by omega) (by omega), e1, List.drop_eq_getElem_cons hkl]
  simp only [ouB]
  have hlen := in_.2.2.2
  simp only at hlen
  cases nt with
  | true =>
   rw [if_pos rfl, Xk9 (by omega) in_.1, Option.bind_some]
   exact ih (k + 1) n _ (by omega) (by omega) ok.1 (by have := ok.2; simp only [stX] at this; omega)
  | false =>
   rw [if_neg (by decide)]
   exact ih (k + 1) n _ (by omega) (by omega) ok.1 (by have := ok.2; simp only [stX] at this; omega)
theorem Both_eq {N : Nat} (hN : 1000000000000 < N) {l m : List TSpan} {nt : Bool} (hl : RL 0 l) (hm : RL 0 m) (hll : l.length ≤ 65536) (hml : m.length ≤ 65536) : Xb9 N l m nt = some (ouB nt m l []) := by
 unfold Xb9
 have h := Both_L3 hN (nt := nt) (hl.okS) (hm.okS) hll hml l.length 0 N [] (by omega) (by omega) (fun x hx => by cases hx) (by simp)
 rw [List.drop_zero] at h
 rw [show Zx N l m nt N 0 [] = _ from h, Option.bind_some]
def Xb3 (x : Int) : TSet := ⟨[⟨x, x⟩], false⟩
def setC (c : List Xb) (n : Int) : TSet := ⟨wth n c [], decide (n = 0)⟩
theorem of_L1 {N : Nat} {l : List Int} (hl : l.length ≤ 1000000) : ∀ (d k n : Nat) (s : List TSet), k + d = l.length → d < n → s.length ≤ k → Qm N l n k s = some (s ++ (l.drop k).map Xb3) := by
 intro d
 induction d with
 | zero =>
  intro k n s hk hn hs
  obtain ⟨n, rfl⟩ : ∃ x, n = x + 1 := ⟨n - 1, by omega⟩
  rw [Qm, if_neg (by omega), List.drop_eq_nil_of_le (by omega)]; simp
 | succ d ih =>
  intro k n s hk hn hs
  obtain ⟨n, rfl⟩ : ∃ x, n = x + 1 := ⟨n - 1, by omega⟩
  have hkl : k < l.length := by omega
  rw [Qm, if_pos (by omega), XY (List.getElem?_eq_getElem hkl), Option.bind_some]
  simp only [JG, Option.bind_some]
  rw [if_pos (by omega), w64 (x := (k : Int) + 1) (by omega) (by omega), show (k : Int) + 1 = ((k + 1 : Nat) : Int) by omega, ih (k + 1) n _ (by omega) (by omega) (by simp; omega), List.drop_eq_getElem_cons hkl, List.map_cons, List.append_assoc]
  rfl
theorem of_eq {N : Nat} (hN : 1000000000000 < N) {l : List Int} (hl : l.length ≤ 1000000) : Jn N l = some (l.map Xb3) := by
 unfold Jn
 have h := of_L1 (N := N) hl l.length 0 N [] (by omega) (by omega) (by simp)
 rw [List.drop_zero, List.nil_append] at h
 rw [show Qm N l N 0 [] = _ from h, Option.bind_some]
theorem ofC_L1 {N : Nat} (hN : 1000000000000 < N) {l : List Int} {c : List Xb} (hc : CB c) (hl : l.length ≤ 1000000) : ∀ (d k n : Nat) (s : List TSet), k + d = l.length → d < n → s.length ≤ k → YR N l c n k s = some (s ++ (l.drop k).map (setC c)) := by
 intro d
 induction d with
 | zero =>
  intro k n s hk hn hs
  obtain ⟨n, rfl⟩ : ∃ x, n = x + 1 := ⟨n - 1, by omega⟩
  rw [YR, if_neg (by omega), List.drop_eq_nil_of_le (by omega)]; simp
 | succ d ih =>
  intro k n s hk hn hs
  obtain ⟨n, rfl⟩ : ∃ x, n = x + 1 := ⟨n - 1, by omega⟩
  have hkl : k < l.length := by omega
  rw [YR, if_pos (by omega), XY (List.getElem?_eq_getElem hkl), Option.bind_some]
  simp only [YT, With_eq hN hc, Option.bind_some]
  rw [if_pos (by omega), w64 (x := (k : Int) + 1) (by omega) (by omega), show (k : Int) + 1 = ((k + 1 : Nat) : Int) by omega, ih (k + 1) n _ (by omega) (by omega) (by simp; omega), List.drop_eq_getElem_cons hkl, List.map_cons, List.append_assoc]
  rfl
theorem Xlr {N : Nat} (hN : 1000000000000 < N) {l : List Int} {c : List Xb} (hc : CB c) (hl : l.length ≤ 1000000) : Zy N l c = some (l.map (setC c)) := by
 unfold Zy
 have h := ofC_L1 (N := N) hN hc hl l.length 0 N [] (by omega) (by omega) (by simp)
 rw [List.drop_zero, List.nil_append] at h
 rw [show YR N l c N 0 [] = _ from h, Option.bind_some]
theorem Xnz {N : Nat} (hN : 1000000000000 < N) {l : List TSpan} {c : List Xb} (hl : RL 0 l) (hll : l.length ≤ 65536) (hc : CB c) (i : Int) : YH N i l c = some (ouB (decide (i = 0)) (wth i c []) l [], false) := by
 unfold YH
 have h := Xn2 hc i
 rw [With_eq hN hc, Option.bind_some]
 simp only
 rw [Both_eq hN hl h.1 hll h.2, Option.bind_some]
abbrev TR := List TSet × List TSet × List TSet × List TAct × Int
def ruleM (b : List Int) (mb mi ma : List Int → List TSet) (t : TSet) (ch : Bool) (p : Int) : Option TR :=
 if ch = true then
  (cntr b p 0 16).bind fun n1 => (row b (p + 2) n1).bind fun l1 =>
  (cntr b (p + 2 + n1 * 2) 1 16).bind fun n2 => (row b (p + 2 + n1 * 2 + 2) (n2 - 1)).bind fun l2 =>
  (cntr b (p + 2 + n1 * 2 + 2 + (n2 - 1) * 2) 0 16).bind fun n3 => (row b (p + 2 + n1 * 2 + 2 + (n2 - 1) * 2 + 2) n3).bind fun l3 =>
  (cntr b (p + 2 + n1 * 2 + 2 + (n2 - 1) * 2 + 2 + n3 * 2) 0 16).bind fun n4 =>
  (acts b n2 n4.toNat (p + 2 + n1 * 2 + 2 + (n2 - 1) * 2 + 2 + n3 * 2 + 2)).bind fun a => some (mb l1, t :: mi l2, ma l3, a.1, a.2)
 else
  (cntr b p 1 16).bind fun n2 => (cntr b (p + 2) 0 16).bind fun n4 => (row b (p + 2 + 2) (n2 - 1)).bind fun l2 =>
  (acts b n2 n4.toNat (p + 2 + 2 + (n2 - 1) * 2)).bind fun a => some ([], t :: mi l2, [], a.1, a.2)

theorem rule_eq {N : Nat} (hN : 1000000000000 < N) {b : List Int} (hb : Bytes b) (hl : b.length ≤ 1000000) {sp : List TSpan} {nt ch : Bool} {p : Int} (h0 : -1000000000 ≤ p) (h1 : p ≤ 1000000000) :
  ZL N b p sp nt ch = some (S (ruleM b (List.map Xb3) (List.map Xb3) (List.map Xb3) ⟨sp, nt⟩ ch p)) := by
 unfold ZL ruleM
 have w0 : IntKind.i64.wrap (p + 2) = p + 2 := w64 (by omega) (by omega)
 have w1 : IntKind.i64.wrap (p + 2 + 2) = p + 2 + 2 := w64 (by omega) (by omega)
 rw [w0]
 by_cases hc : ch = true
 ·
  rw [if_pos hc, if_pos hc]
  rw [YS hN hb hl (by omega), Option.bind_some]
  cases e1 : cntr b _ _ _ with
  | none => rfl
  | some n1 =>
   obtain ⟨n1a, n1b, _⟩ := XF hb e1
   simp only [S, Option.bind_some]
   rw [Qn hN hb hl (by omega) (by omega), Option.bind_some]
   cases e2 : row b _ _ with
   | none => rfl
   | some l1 =>
    obtain ⟨_, l1l, _, _, _, _⟩ := Xw hb e2
    simp only [S, Option.bind_some]
    rw [of_eq hN (l := l1) (by omega), Option.bind_some]
    try simp (disch := omega) only [w64]
    rw [YS hN hb hl (by omega), Option.bind_some]
    cases e3 : cntr b _ _ _ with
    | none => rfl
    | some n2 =>
     obtain ⟨n2a, n2b, _⟩ := XF hb e3
     simp only [S, Option.bind_some]
     try simp (disch := omega) only [w64]
     rw [Qn hN hb hl (by omega) (by omega), Option.bind_some]
     cases e4 : row b _ _ with
     | none => rfl
     | some l2 =>
      obtain ⟨_, l2l, _, _, _, _⟩ := Xw hb e4
      simp only [S, Option.bind_some]
      rw [of_eq hN (l := l2) (by omega), Option.bind_some]
      try simp (disch := omega) only [w64]
      cases l2 with
      | nil =>
       rw [if_pos List.map_nil]
       rw [YS hN hb hl (by omega), Option.bind_some]
       cases e5 : cntr b _ _ _ with
       | none => rfl
       | some n3 =>
        obtain ⟨n3a, n3b, _⟩ := XF hb e5
        simp only [S, Option.bind_some]
        try simp (disch := omega) only [w64]
        rw [Qn hN hb hl (by omega) (by omega), Option.bind_some]
        cases e6 : row b _ _ with
        | none => rfl
        | some l3 =>
         obtain ⟨_, l3l, _, _, _, _⟩ := Xw hb e6
         simp only [S, Option.bind_some]
         rw [of_eq hN (l := l3) (by omega), Option.bind_some]
         try simp (disch := omega) only [w64]
         rw [YS hN hb hl (by omega), Option.bind_some]
         cases e7 : cntr b _ _ _ with
         | none => rfl
         | some n4 =>
          obtain ⟨n4a, n4b, _⟩ := XF hb e7
          simp only [S, Option.bind_some]
          try simp (disch := omega) only [w64]
          rw [Xbr hN hb hl (by omega) (by omega) (by omega) (by omega), Option.bind_some]
          cases acts b n2 n4.toNat _ with
          | none => rfl
          | some x => rfl
      | cons x0 l2 =>
       rw [if_neg (by simp), if_pos (by simp only [List.length_map, List.length_cons] at *; omega)]
       rw [YS hN hb hl (by omega), Option.bind_some]
       cases e5 : cntr b _ _ _ with
       | none => rfl
       | some n3 =>
        obtain ⟨n3a, n3b, _⟩ := XF hb e5
        simp only [S, Option.bind_some]
        try simp (disch := omega) only [w64]
        rw [Qn hN hb hl (by omega) (by omega), Option.bind_some]
        cases e6 : row b _ _ with
        | none => rfl
        | some l3 =>
         obtain ⟨_, l3l, _, _, _, _⟩ := Xw hb e6
         simp only [S, Option.bind_some]
         rw [of_eq hN (l := l3) (by omega), Option.bind_some]
         try simp (disch := omega) only [w64]
         rw [YS hN hb hl (by omega), Option.bind_some]
         cases e7 : cntr b _ _ _ with
         | none => rfl
         | some n4 =>
          obtain ⟨n4a, n4b, _⟩ := XF hb e7
          simp only [S, Option.bind_some]
          try simp (disch := omega) only [w64]
          rw [Xbr hN hb hl (by omega) (by omega) (by omega) (by omega), Option.bind_some]
          cases acts b n2 n4.toNat _ with
          | none => rfl
          | some x => rfl
 ·
  rw [if_neg hc, if_neg hc]
  rw [YS hN hb hl (by omega), Option.bind_some]
  cases e1 : cntr b _ _ _ with
  | none => rfl
  | some n2 =>
   obtain ⟨n2a, n2b, _⟩ := XF hb e1
   simp only [S, Option.bind_some]
   rw [YS hN hb hl (by omega), Option.bind_some]
   cases e2 : cntr b _ _ _ with
   | none => rfl
   | some n4 =>
    obtain ⟨n4a, n4b, _⟩ := XF hb e2
    simp only [S, Option.bind_some]
    try simp (disch := omega) only [w64]
    rw [Qn hN hb hl (by omega) (by omega), Option.bind_some]
    cases e4 : row b _ _ with
    | none => rfl
    | some l2 =>
     obtain ⟨_, l2l, _, _, _, _⟩ := Xw hb e4
     simp only [S, Option.bind_some]
     rw [of_eq hN (l := l2) (by omega), Option.bind_some]
     try simp (disch := omega) only [w64]
     cases l2 with
     | nil =>
      rw [if_pos List.map_nil]
      rw [Xbr hN hb hl (by omega) (by omega) (by omega) (by omega), Option.bind_some]
      cases acts b n2 n4.toNat _ with
      | none => rfl
      | some x => rfl
     | cons x0 l2 =>
      rw [if_neg (by simp), if_pos (by simp only [List.length_map, List.length_cons] at *; omega)]
      rw [Xbr hN hb hl (by omega) (by omega) (by omega) (by omega), Option.bind_some]
      cases acts b n2 n4.toNat _ with
      | none => rfl
      | some x => rfl
theorem Xp2 {N : Nat} (hN : 1000000000000 < N) {b : List Int} (hb : Bytes b) (hl : b.length ≤ 1000000) {c1 c2 c3 : List Xb} (g1 : CB c1) (g2 : CB c2) (g3 : CB c3) {sp : List TSpan} {nt ch : Bool} {p : Int} (h0 : -1000000000 ≤ p) (h1 : p ≤ 1000000000) :
  YU N b p sp nt c1 c2 c3 ch = some (S (ruleM b (List.map (setC c1)) (List.map (setC c2)) (List.map (setC c3)) ⟨sp, nt⟩ ch p)) := by
 unfold YU ruleM
 have w0 : IntKind.i64.wrap (p + 2) = p + 2 := w64 (by omega) (by omega)
 have w1 : IntKind.i64.wrap (p + 2 + 2) = p + 2 + 2 := w64 (by omega) (by omega)
 rw [w0]
 by_cases hc : ch = true
 ·
  rw [if_pos hc, if_pos hc]
  rw [YS hN hb hl (by omega), Option.bind_some]
  cases e1 : cntr b _ _ _ with
  | none => rfl
  | some n1 =>
   obtain ⟨n1a, n1b, _⟩ := XF hb e1
   simp only [S, Option.bind_some]
   rw [Qn hN hb hl (by omega) (by omega), Option.bind_some]
   cases e2 : row b _ _ with
   | none => rfl
   | some l1 =>
    obtain ⟨_, l1l, _, _, _, _⟩ := Xw hb e2
    simp only [S, Option.bind_some]
    rw [Xlr hN g1 (l := l1) (by omega), Option.bind_some]
    try simp (disch := omega) only [w64]
    rw [YS hN hb hl (by omega), Option.bind_some]
    cases e3 : cntr b _ _ _ with
    | none => rfl
    | some n2 =>
     obtain ⟨n2a, n2b, _⟩ := XF hb e3
     simp only [S, Option.bind_some]
     try simp (disch := omega) only [w64]
     rw [Qn hN hb hl (by omega) (by omega), Option.bind_some]
     cases e4 : row b _ _ with
     | none => rfl
     | some l2 =>
      obtain ⟨_, l2l, _, _, _, _⟩ := Xw hb e4
      simp only [S, Option.bind_some]
      rw [Xlr hN g2 (l := l2) (by omega), Option.bind_some]
      try simp (disch := omega) only [w64]
      cases l2 with
      | nil =>
       rw [if_pos List.map_nil]
       rw [YS hN hb hl (by omega), Option.bind_some]
       cases e5 : cntr b _ _ _ with
       | none => rfl
       | some n3 =>
        obtain ⟨n3a, n3b, _⟩ := XF hb e5
        simp only [S, Option.bind_some]
        try simp (disch := omega) only [w64]
        rw [Qn hN hb hl (by omega) (by omega), Option.bind_some]
        cases e6 : row b _ _ with
        | none => rfl
        | some l3 =>
         obtain ⟨_, l3l, _, _, _, _⟩ := Xw hb e6
         simp only [S, Option.bind_some]
         rw [Xlr hN g3 (l := l3) (by omega), Option.bind_some]
         try simp (disch := omega) only [w64]
         rw [YS hN hb hl (by omega), Option.bind_some]
         cases e7 : cntr b _ _ _ with
         | none => rfl
         | some n4 =>
          obtain ⟨n4a, n4b, _⟩ := XF hb e7
          simp only [S, Option.bind_some]
          try simp (disch := omega) only [w64]
          rw [Xbr hN hb hl (by omega) (by omega) (by omega) (by omega), Option.bind_some]
          cases acts b n2 n4.toNat _ with
          | none => rfl
          | some x => rfl
      | cons x0 l2 =>
       rw [if_neg (by simp), if_pos (by simp only [List.length_map, List.length_cons] at *; omega)]
       rw [YS hN hb hl (by omega), Option.bind_some]
       cases e5 : cntr b _ _ _ with
       | none => rfl
       | some n3 =>
        obtain ⟨n3a, n3b, _⟩ := XF hb e5
        simp only [S, Option.bind_some]
        try simp (disch := omega) only [w64]
        rw [Qn hN hb hl (by omega) (by omega), Option.bind_some]
        cases e6 : row b _ _ with
        | none => rfl
        | some l3 =>
         obtain ⟨_, l3l, _, _, _, _⟩ := Xw hb e6
         simp only [S, Option.bind_some]
         rw [Xlr hN g3 (l := l3) (by omega), Option.bind_some]
         try simp (disch := omega) only [w64]
         rw [YS hN hb hl (by omega), Option.bind_some]
         cases e7 : cntr b _ _ _ with
         | none => rfl
         | some n4 =>
          obtain ⟨n4a, n4b, _⟩ := XF hb e7
          simp only [S, Option.bind_some]
          try simp (disch := omega) only [w64]
          rw [Xbr hN hb hl (by omega) (by omega) (by omega) (by omega), Option.bind_some]
          cases acts b n2 n4.toNat _ with
          | none => rfl
          | some x => rfl
 ·
  rw [if_neg hc, if_neg hc]
  rw [YS hN hb hl (by omega), Option.bind_some]
  cases e1 : cntr b _ _ _ with
  | none => rfl
  | some n2 =>
   obtain ⟨n2a, n2b, _⟩ := XF hb e1
   simp only [S, Option.bind_some]
   rw [YS hN hb hl (by omega), Option.bind_some]
   cases e2 : cntr b _ _ _ with
   | none => rfl
   | some n4 =>
    obtain ⟨n4a, n4b, _⟩ := XF hb e2
    simp only [S, Option.bind_some]
    try simp (disch := omega) only [w64]
    rw [Qn hN hb hl (by omega) (by omega), Option.bind_some]
    cases e4 : row b _ _ with
    | none => rfl
    | some l2 =>
     obtain ⟨_, l2l, _, _, _, _⟩ := Xw hb e4
     simp only [S, Option.bind_some]
     rw [Xlr hN g2 (l := l2) (by omega), Option.bind_some]
     try simp (disch := omega) only [w64]
     cases l2 with
     | nil =>
      rw [if_pos List.map_nil]
      rw [Xbr hN hb hl (by omega) (by omega) (by omega) (by omega), Option.bind_some]
      cases acts b n2 n4.toNat _ with
      | none => rfl
      | some x => rfl
     | cons x0 l2 =>
      rw [if_neg (by simp), if_pos (by simp only [List.length_map, List.length_cons] at *; omega)]
      rw [Xbr hN hb hl (by omega) (by omega) (by omega) (by omega), Option.bind_some]
      cases acts b n2 n4.toNat _ with
      | none => rfl
      | some x => rfl
def JK (rl : Int → Option TR) (base : Int) : List Int → List TCtx → Option (List TCtx)
 | [], s => some s
 | o :: r, s => (rl (base + o)).bind fun q => if s.length + 1 ≤ 64 then JK rl base r (s ++ [⟨q.1, q.2.1, q.2.2.1, q.2.2.2.1⟩]) else none
def listM (b : List Int) (rl : Nat → Int → Option TR) (base : Int) : Nat → List Int → List TCtx → Option (List TCtx)
 | _, [], s => some s
 | i, o :: r, s => if o = 0 then listM b rl base (i + 1) r s else (num b (base + o)).bind fun n => if n ≤ 64 then (row b (base + o + 2) n).bind fun l => (JK (rl i) (base + o) l s).bind fun s' => listM b rl base (i + 1) r s' else none
theorem Xap {rl : Int → Option TR} {base : Int} : ∀ {l : List Int} {s t : List TCtx}, JK rl base l s = some t → s.length ≤ 64 → t.length ≤ 64
 | [], s, t, h, hs => by cases h; exact hs
 | o :: r, s, t, h, hs => by
  simp only [JK] at h
  obtain ⟨q, h1, h2⟩ := Option.bind_eq_some_iff.1 h
  split at h2
  ·
   exact Xap h2 (by simp; omega)
  ·
   cases h2
def glR (N : Nat) (b : List Int) (ch : Bool) (gl : List Int) (i : Nat) (p : Int) : Option TR := ruleM b (List.map Xb3) (List.map Xb3) (List.map Xb3) (Xb3 ((gl[i]?).getD 0)) ch p
def clR (b : List Int) (ch : Bool) (sp : List TSpan) (c0 c1 c2 c3 : List Xb) (i : Nat) (p : Int) : Option TR := ruleM b (List.map (setC c1)) (List.map (setC c2)) (List.map (setC c3)) ⟨ouB (decide ((i : Int) = 0)) (wth (i : Int) c0 []) sp [], false⟩ ch p
section
variable {N : Nat} (hN : 1000000000000 < N) {b : List Int} (hb : Bytes b) (hl : b.length ≤ 1000000)
include hN hb hl
theorem Xnj {gl : List Int} {ch : Bool} {base x4 a1 : Int} {l3 y : List Int} {i : Nat} (hig : i < gl.length) (h0 : -1000000 ≤ base) (h1 : base ≤ 1000000) (h2 : 0 ≤ x4) (h3 : x4 ≤ 65535) (hy : ∀ x ∈ y, 0 ≤ x ∧ x ≤ 65535) (hyl : y.length ≤ 1000000) : ∀ (d k n : Nat) (s : List TCtx), k + d = y.length → d < n → s.length ≤ 64 →
  XI N base (i : Int) x4 l3 y b a1 gl ch n k s = some (S (JK (glR N b ch gl i) (base + x4) (y.drop k) s)) := by
 intro d
 induction d with
 | zero =>
  intro k n s hk hn hs
  obtain ⟨n, rfl⟩ : ∃ x, n = x + 1 := ⟨n - 1, by omega⟩
  rw [XI, if_neg (by omega), List.drop_eq_nil_of_le (by omega)]; rfl
 | succ d ih =>
  intro k n s hk hn hs
  obtain ⟨n, rfl⟩ : ∃ x, n = x + 1 := ⟨n - 1, by omega⟩
  have hkl : k < y.length := by omega
  have hx := hy y[k] (List.getElem_mem hkl)
  rw [XI, if_pos (by omega), XY (List.getElem?_eq_getElem hkl), Option.bind_some, w64 (x := base + x4) (by omega) (by omega), w64 (x := base + x4 + y[k]) (by omega) (by omega), w64 (x := (k : Int) + 1) (by omega) (by omega), show (k : Int) + 1 = ((k + 1 : Nat) : Int) by omega, List.drop_eq_getElem_cons hkl]
  rw [show Yp N (i : Int) gl = some ([⟨(gl[i]?).getD 0, (gl[i]?).getD 0⟩], false) from by unfold Yp; rw [XY (List.getElem?_eq_getElem hig), List.getElem?_eq_getElem hig]; rfl]
  rw [Option.bind_some]
  simp only
  rw [rule_eq hN hb hl (by omega) (by omega)]
  change (some (S ((glR N b ch gl i) (base + x4 + y[k])))).bind _ = _
  rw [Option.bind_some]
  simp only [JK]
  cases (glR N b ch gl i) (base + x4 + y[k]) with
  | none => rfl
  | some q =>
   simp only [S, Option.bind_some]
   rw [if_pos (by omega), Xbp, Option.bind_some]
   by_cases h64 : s.length + 1 ≤ 64
   ·
    rw [if_pos h64, if_pos (by simp only [decide_eq_true_eq]; omega)]
    have := ih (k + 1) n (s ++ [⟨q.1, q.2.1, q.2.2.1, q.2.2.2.1⟩]) (by omega) (by omega) (by simp; omega)
    exact this
   ·
    rw [if_neg h64, if_neg (by simp only [decide_eq_true_eq]; omega)]
theorem Xni {gl : List Int} {ch : Bool} {base a1 : Int} {l3 : List Int} (hg : gl.length = l3.length) (h0 : -1000000 ≤ base) (h1 : base ≤ 1000000) (hy : ∀ x ∈ l3, 0 ≤ x ∧ x ≤ 65535) (hyl : l3.length ≤ 1000000) : ∀ (d k n : Nat) (s : List TCtx), k + d = l3.length → d < n → s.length ≤ 64 →
  XD N base l3 b a1 gl ch n k s = some (S (listM b (glR N b ch gl) base k (l3.drop k) s)) := by
 intro d
 induction d with
 | zero =>
  intro k n s hk hn hs
  obtain ⟨n, rfl⟩ : ∃ x, n = x + 1 := ⟨n - 1, by omega⟩
  rw [XD, if_neg (by omega), List.drop_eq_nil_of_le (by omega)]; rfl
 | succ d ih =>
  intro k n s hk hn hs
  obtain ⟨n, rfl⟩ : ∃ x, n = x + 1 := ⟨n - 1, by omega⟩
  have hkl : k < l3.length := by omega
  have hx := hy l3[k] (List.getElem_mem hkl)
  rw [XD, if_pos (by omega), XY (List.getElem?_eq_getElem hkl), Option.bind_some, w64 (x := (k : Int) + 1) (by omega) (by omega), show (k : Int) + 1 = ((k + 1 : Nat) : Int) by omega, List.drop_eq_getElem_cons hkl]
  simp only [listM]
  by_cases hz : l3[k] = 0
  ·
   rw [if_pos hz, if_pos hz]
   exact ih (k + 1) n s (by omega) (by omega) hs
  ·
   rw [if_neg hz, if_neg hz, w64 (x := base + l3[k]) (by omega) (by omega), number_eq hN hb hl (by omega), Option.bind_some]
   cases h5 : num b (base + l3[k]) with
   | none => rfl
   | some m =>
    have hm := Xy hb h5
    simp only [S, Option.bind_some]
    rw [Xbp, Option.bind_some]
    by_cases h6 : m ≤ 64
    ·
     rw [if_pos h6, if_pos (by simp only [decide_eq_true_eq]; omega)]
     simp only
     rw [w64 (x := base + l3[k] + 2) (by omega) (by omega), Qn hN hb hl (by omega) (by omega), Option.bind_some]
     cases h7 : row b (base + l3[k] + 2) m with
     | none => rfl
     | some l =>
      have hr := Xw hb h7
      simp only [S, Option.bind_some]
      have e := Xnj hN hb hl (base := base) (x4 := l3[k]) (a1 := a1) (l3 := l3) (y := l) (i := k) (ch := ch) (gl := gl) (by omega) h0 h1 hx.1 hx.2 hr.2.2.2.2.2 (by omega) l.length 0 N s (by omega) (by omega) hs
      rw [List.drop_zero] at e
      rw [show XI N base (k : Int) l3[k] l3 l b a1 gl ch N 0 s = _ from e, Option.bind_some]
      cases h8 : JK (glR N b ch gl k) (base + l3[k]) l s with
      | none => rfl
      | some s2 =>
       simp only [S, Option.bind_some]
       exact ih (k + 1) n s2 (by omega) (by omega) (Xap h8 hs)
    ·
     rw [if_neg h6, if_neg (by simp only [decide_eq_true_eq]; omega)]
theorem Xnh {gl : List Int} {ch : Bool} {base a1 : Int} {l3 : List Int} (hg : gl.length = l3.length) (h0 : -1000000 ≤ base) (h1 : base ≤ 1000000) (hy : ∀ x ∈ l3, 0 ≤ x ∧ x ≤ 65535) (hyl : l3.length ≤ 1000000) :
  YM N b a1 base l3 gl ch = some (S (listM b (glR N b ch gl) base 0 l3 [])) := by
 unfold YM
 have e := Xni hN hb hl (base := base) (a1 := a1) (l3 := l3) (ch := ch) (gl := gl) hg h0 h1 hy hyl l3.length 0 N [] (by omega) (by omega) (by simp)
 rw [List.drop_zero] at e
 rw [show XD N base l3 b a1 gl ch N 0 [] = _ from e, Option.bind_some]
 cases listM b (glR N b ch gl) base 0 l3 [] <;> rfl
theorem list_L2 {sp : List TSpan} {c0 c1 c2 c3 : List Xb} {ch : Bool} (hsp : RL 0 sp) (hspl : sp.length ≤ 65536) (g0 : CB c0) (g1 : CB c1) (g2 : CB c2) (g3 : CB c3) {base x4 a1 : Int} {l3 y : List Int} {i : Nat} (h0 : -1000000 ≤ base) (h1 : base ≤ 1000000) (h2 : 0 ≤ x4) (h3 : x4 ≤ 65535) (hy : ∀ x ∈ y, 0 ≤ x ∧ x ≤ 65535) (hyl : y.length ≤ 1000000) : ∀ (d k n : Nat) (s : List TCtx), k + d = y.length → d < n → s.length ≤ 64 →
  Yb N base (i : Int) x4 l3 y b a1 sp c0 c1 c2 c3 ch n k s = some (S (JK (clR b ch sp c0 c1 c2 c3 i) (base + x4) (y.drop k) s)) := by
 intro d
 induction d with
 | zero =>
  intro k n s hk hn hs
  obtain ⟨n, rfl⟩ : ∃ x, n = x + 1 := ⟨n - 1, by omega⟩
  rw [Yb, if_neg (by omega), List.drop_eq_nil_of_le (by omega)]; rfl
 | succ d ih =>
  intro k n s hk hn hs
  obtain ⟨n, rfl⟩ : ∃ x, n = x + 1 := ⟨n - 1, by omega⟩
  have hkl : k < y.length := by omega
  have hx := hy y[k] (List.getElem_mem hkl)
  rw [Yb, if_pos (by omega), XY (List.getElem?_eq_getElem hkl), Option.bind_some, w64 (x := base + x4) (by omega) (by omega), w64 (x := base + x4 + y[k]) (by omega) (by omega), w64 (x := (k : Int) + 1) (by omega) (by omega), show (k : Int) + 1 = ((k + 1 : Nat) : Int) by omega, List.drop_eq_getElem_cons hkl]
  rw [Xnz hN hsp hspl g0]
  rw [Option.bind_some]
  simp only
  rw [Xp2 hN hb hl g1 g2 g3 (by omega) (by omega)]
  change (some (S ((clR b ch sp c0 c1 c2 c3 i) (base + x4 + y[k])))).bind _ = _
  rw [Option.bind_some]
  simp only [JK]
  cases (clR b ch sp c0 c1 c2 c3 i) (base + x4 + y[k]) with
  | none => rfl
  | some q =>
   simp only [S, Option.bind_some]
   rw [if_pos (by omega), Xbp, Option.bind_some]
   by_cases h64 : s.length + 1 ≤ 64
   ·
    rw [if_pos h64, if_pos (by simp only [decide_eq_true_eq]; omega)]
    have := ih (k + 1) n (s ++ [⟨q.1, q.2.1, q.2.2.1, q.2.2.2.1⟩]) (by omega) (by omega) (by simp; omega)
    exact this
   ·
    rw [if_neg h64, if_neg (by simp only [decide_eq_true_eq]; omega)]
theorem list_L3 {sp : List TSpan} {c0 c1 c2 c3 : List Xb} {ch : Bool} (hsp : RL 0 sp) (hspl : sp.length ≤ 65536) (g0 : CB c0) (g1 : CB c1) (g2 : CB c2) (g3 : CB c3) {base a1 : Int} {l3 : List Int} (h0 : -1000000 ≤ base) (h1 : base ≤ 1000000) (hy : ∀ x ∈ l3, 0 ≤ x ∧ x ≤ 65535) (hyl : l3.length ≤ 1000000) : ∀ (d k n : Nat) (s : List TCtx), k + d = l3.length → d < n → s.length ≤ 64 →
  XR N base l3 b a1 sp c0 c1 c2 c3 ch n k s = some (S (listM b (clR b ch sp c0 c1 c2 c3) base k (l3.drop k) s)) := by
 intro d
 induction d with
 | zero =>
  intro k n s hk hn hs
  obtain ⟨n, rfl⟩ : ∃ x, n = x + 1 := ⟨n - 1, by omega⟩
  rw [XR, if_neg (by omega), List.drop_eq_nil_of_le (by omega)]; rfl
 | succ d ih =>
  intro k n s hk hn hs
  obtain ⟨n, rfl⟩ : ∃ x, n = x + 1 := ⟨n - 1, by omega⟩
  have hkl : k < l3.length := by omega
  have hx := hy l3[k] (List.getElem_mem hkl)
  rw [XR, if_pos (by omega), XY (List.getElem?_eq_getElem hkl), Option.bind_some, w64 (x := (k : Int) + 1) (by omega) (by omega), show (k : Int) + 1 = ((k + 1 : Nat) : Int) by omega, List.drop_eq_getElem_cons hkl]
  simp only [listM]
  by_cases hz : l3[k] = 0
  ·
   rw [if_pos hz, if_pos hz]
   exact ih (k + 1) n s (by omega) (by omega) hs
  ·
   rw [if_neg hz, if_neg hz, w64 (x := base + l3[k]) (by omega) (by omega), number_eq hN hb hl (by omega), Option.bind_some]
   cases h5 : num b (base + l3[k]) with
   | none => rfl
   | some m =>
    have hm := Xy hb h5
    simp only [S, Option.bind_some]
    rw [Xbp, Option.bind_some]
    by_cases h6 : m ≤ 64
    ·
     rw [if_pos h6, if_pos (by simp only [decide_eq_true_eq]; omega)]
     simp only
     rw [w64 (x := base + l3[k] + 2) (by omega) (by omega), Qn hN hb hl (by omega) (by omega), Option.bind_some]
     cases h7 : row b (base + l3[k] + 2) m with
     | none => rfl
     | some l =>
      have hr := Xw hb h7
      simp only [S, Option.bind_some]
      have e := list_L2 hN hb hl hsp hspl g0 g1 g2 g3 (base := base) (x4 := l3[k]) (a1 := a1) (l3 := l3) (y := l) (i := k) (ch := ch) h0 h1 hx.1 hx.2 hr.2.2.2.2.2 (by omega) l.length 0 N s (by omega) (by omega) hs
      rw [List.drop_zero] at e
      rw [show Yb N base (k : Int) l3[k] l3 l b a1 sp c0 c1 c2 c3 ch N 0 s = _ from e, Option.bind_some]
      cases h8 : JK (clR b ch sp c0 c1 c2 c3 k) (base + l3[k]) l s with
      | none => rfl
      | some s2 =>
       simp only [S, Option.bind_some]
       exact ih (k + 1) n s2 (by omega) (by omega) (Xap h8 hs)
    ·
     rw [if_neg h6, if_neg (by simp only [decide_eq_true_eq]; omega)]
theorem list_eq {sp : List TSpan} {c0 c1 c2 c3 : List Xb} {ch : Bool} (hsp : RL 0 sp) (hspl : sp.length ≤ 65536) (g0 : CB c0) (g1 : CB c1) (g2 : CB c2) (g3 : CB c3) {base a1 : Int} {l3 : List Int} (h0 : -1000000 ≤ base) (h1 : base ≤ 1000000) (hy : ∀ x ∈ l3, 0 ≤ x ∧ x ≤ 65535) (hyl : l3.length ≤ 1000000) :
  YZ N b a1 base l3 sp c0 c1 c2 c3 ch = some (S (listM b (clR b ch sp c0 c1 c2 c3) base 0 l3 [])) := by
 unfold YZ
 have e := list_L3 hN hb hl hsp hspl g0 g1 g2 g3 (base := base) (a1 := a1) (l3 := l3) (ch := ch) h0 h1 hy hyl l3.length 0 N [] (by omega) (by omega) (by simp)
 rw [List.drop_zero] at e
 rw [show XR N base l3 b a1 sp c0 c1 c2 c3 ch N 0 [] = _ from e, Option.bind_some]
 cases listM b (clR b ch sp c0 c1 c2 c3) base 0 l3 [] <;> rfl
end
def rgO (a b : Int) : List Int := (List.range (b - a + 1).toNat).map fun (k : Nat) => a + (k : Int)
def glO : List TSpan → List Int
 | [] => []
 | x :: r => rgO x.From x.To ++ glO r
theorem Xno {lo : Int} : ∀ {l : List TSpan}, RL lo l → ((glO l).length : Int) = cnt l := by
 intro l
 induction l generalizing lo with
 | nil => intro _; rfl
 | cons x r ih =>
  intro h
  obtain ⟨h1, h2, h3, h4⟩ := h
  have := ih h4
  simp only [glO, rgO, List.length_append, List.length_map, List.length_range, cnt]
  omega
theorem Xod {a b : Int} (h : a ≤ b) : rgO a b = a :: rgO (a + 1) b := by
 unfold rgO
 obtain ⟨m, hm⟩ : ∃ m : Nat, b - a = m := ⟨(b - a).toNat, by omega⟩
 rw [show (b - a + 1).toNat = m + 1 by omega, show (b - (a + 1) + 1).toNat = m by omega, List.range_succ_eq_map]
 simp only [List.map_cons, List.map_map]
 refine congr (congrArg _ (by omega)) (List.map_congr_left fun k _ => ?_)
 simp only [Function.comp]
 omega
theorem rgO_nil {a b : Int} (h : b < a) : rgO a b = [] := by
 unfold rgO
 rw [show (b - a + 1).toNat = 0 by omega]; rfl
theorem single_L2 {N : Nat} {a2 a1 y13 i22 : Int} {ch : Bool} {x9 : TSet} {b : List Int} {x : TSpan} (hy : y13 ≤ 1000000) (hx0 : 0 ≤ x.From) (hx : x.To ≤ 65535) : ∀ (d n : Nat) (i : Int) (s : List Int), (x.To - i + 1).toNat = d → 0 ≤ i → d < n → s.length + (d : Int) ≤ y13 →
  Yf N a2 ch y13 x9 i22 b a1 x n i s = some (s ++ rgO i x.To) := by
 intro d
 induction d with
 | zero =>
  intro n i s hk hi hn hs
  obtain ⟨n, rfl⟩ : ∃ x, n = x + 1 := ⟨n - 1, by omega⟩
  rw [Yf, if_neg (by omega), rgO_nil (by omega), List.append_nil]
 | succ d ih =>
  intro n i s hk hi hn hs
  obtain ⟨n, rfl⟩ : ∃ x, n = x + 1 := ⟨n - 1, by omega⟩
  rw [Yf, if_pos (by omega), if_pos (by omega), if_pos (by omega), w64 (x := i + 1) (by omega) (by omega), ih n (i + 1) _ (by omega) (by omega) (by omega) (by simp; omega), Xod (a := i) (by omega), List.append_assoc]
  rfl
theorem single_L3 {N : Nat} (hN : 1000000000000 < N) {a2 a1 y13 : Int} {ch : Bool} {x9 : TSet} {b : List Int} (hy : y13 ≤ 1000000) (hR : RL 0 x9.Spans) (hl : x9.Spans.length ≤ 65536) : ∀ (d k n : Nat) (s : List Int), k + d = x9.Spans.length → d < n → s.length + cnt (x9.Spans.drop k) ≤ y13 →
  XV N a2 ch y13 x9 b a1 n k s = some (s ++ glO (x9.Spans.drop k)) := by
 intro d
 induction d with
 | zero =>
  intro k n s hk hn hs
  obtain ⟨n, rfl⟩ : ∃ x, n = x + 1 := ⟨n - 1, by omega⟩
  rw [XV, if_neg (by omega), List.drop_eq_nil_of_le (by omega)]; simp [glO]
 | succ d ih =>
  intro k n s hk hn hs
  obtain ⟨n, rfl⟩ : ∃ x, n = x + 1 := ⟨n - 1, by omega⟩
  have hkl : k < x9.Spans.length := by omega
  have hx := RL.lows hR x9.Spans[k] (List.getElem_mem hkl)
  have hc := Jd hR (k + 1)
  rw [XV, if_pos (by omega), XY (List.getElem?_eq_getElem hkl), Option.bind_some]
  rw [List.drop_eq_getElem_cons hkl] at hs ⊢
  simp only [cnt, glO] at hs ⊢
  rw [single_L2 hy hx.1 hx.2.2 _ N _ s rfl hx.1 (by omega) (by omega), Option.bind_some, w64 (x := (k : Int) + 1) (by omega) (by omega), show (k : Int) + 1 = ((k + 1 : Nat) : Int) by omega,
   ih (k + 1) n _ (by omega) (by omega) (by simp only [rgO, List.length_append, List.length_map, List.length_range]; omega), List.append_assoc]
theorem Count_L1 {N : Nat} {l : List TSpan} (hR : RL 0 l) (hl : l.length ≤ 65536) : ∀ (d k n : Nat) (c : Int), k + d = l.length → d < n → 0 ≤ c → c + cnt (l.drop k) ≤ 1000000 →
  ZF N l n c k = some (c + cnt (l.drop k)) := by
 intro d
 induction d with
 | zero =>
  intro k n c hk hn h0 hs
  obtain ⟨n, rfl⟩ : ∃ x, n = x + 1 := ⟨n - 1, by omega⟩
  rw [ZF, if_neg (by omega), List.drop_eq_nil_of_le (by omega)]; simp [cnt]
 | succ d ih =>
  intro k n c hk hn h0 hs
  obtain ⟨n, rfl⟩ : ∃ x, n = x + 1 := ⟨n - 1, by omega⟩
  have hkl : k < l.length := by omega
  have hx := RL.lows hR l[k] (List.getElem_mem hkl)
  have hc := Jd hR (k + 1)
  rw [ZF, if_pos (by omega), XY (List.getElem?_eq_getElem hkl), Option.bind_some]
  rw [List.drop_eq_getElem_cons hkl] at hs ⊢
  simp only [cnt] at hs ⊢
  rw [w64 (x := l[k].To - l[k].From) (by omega) (by omega), w64 (x := l[k].To - l[k].From + 1) (by omega) (by omega), w64 (x := c + (l[k].To - l[k].From + 1)) (by omega) (by omega), w64 (x := (k : Int) + 1) (by omega) (by omega), show (k : Int) + 1 = ((k + 1 : Nat) : Int) by omega,
   ih (k + 1) n _ (by omega) (by omega) (by omega) (by omega)]
  exact congrArg some (by omega)
theorem Xpx {N : Nat} (hN : 1000000000000 < N) {l : List TSpan} (hR : RL 0 l) (hl : l.length ≤ 65536) : JU N l = some (cnt l) := by
 unfold JU
 have hc := Jd hR 0
 have h := Count_L1 (N := N) hR hl l.length 0 N 0 (by omega) (by omega) (by omega) (by rw [List.drop_zero]; omega)
 rw [List.drop_zero] at h
 rw [show ZF N l N 0 0 = _ from h, Option.bind_some]
 exact congrArg some (by omega)
def Xd3 : List TSet → List TSpan
 | [] => []
 | c :: _ => c.Spans
def Xea (N : Nat) (b : List Int) (p base : Int) (ch : Bool) : Option (List TCtx × Int) :=
 (row b p 1).bind fun l => (covs N b base l).bind fun r => (num b (p + 2)).bind fun n =>
 if n = cnt (Xd3 r) then (row b (p + 2 + 2) n).bind fun l2 => (listM b (glR N b ch (glO (Xd3 r))) base 0 l2 []).bind fun s => some (s, p + 2 + 2 + n * 2) else none
def Xbm (N : Nat) (b : List Int) (p base : Int) (ch : Bool) : Option (List TCtx × Int) :=
 (row b p 1).bind fun l => (covs N b base l).bind fun r =>
 if ch = true then
  (num b (p + 2)).bind fun o1 => (YN N b base o1).bind fun c1 => (num b (p + 2 + 2)).bind fun o2 => (YN N b base o2).bind fun c2 => (num b (p + 2 + 2 + 2)).bind fun o3 => (YN N b base o3).bind fun c3 =>
  (num b (p + 2 + 2 + 2 + 2)).bind fun n => (row b (p + 2 + 2 + 2 + 2 + 2) n).bind fun l2 => (listM b (clR b true (Xd3 r) c2 c1 c2 c3) base 0 l2 []).bind fun s => some (s, p + 2 + 2 + 2 + 2 + 2 + n * 2)
 else
  (num b (p + 2)).bind fun o2 => (YN N b base o2).bind fun c2 =>
  (num b (p + 2 + 2)).bind fun n => (row b (p + 2 + 2 + 2) n).bind fun l2 => (listM b (clR b false (Xd3 r) c2 [] c2 []) base 0 l2 []).bind fun s => some (s, p + 2 + 2 + 2 + n * 2)
def JE (N : Nat) (b : List Int) (p base : Int) (ch : Bool) : Option (List TCtx × Int) :=
 if ch = true then
  (cntr b p 0 16).bind fun n1 => (row b (p + 2) n1).bind fun l1 => (covs N b base l1).bind fun s1 =>
  (cntr b (p + 2 + n1 * 2) 1 16).bind fun n2 => (row b (p + 2 + n1 * 2 + 2) n2).bind fun l2 => (covs N b base l2).bind fun s2 =>
  (cntr b (p + 2 + n1 * 2 + 2 + n2 * 2) 0 16).bind fun n3 => (row b (p + 2 + n1 * 2 + 2 + n2 * 2 + 2) n3).bind fun l3 => (covs N b base l3).bind fun s3 =>
  (cntr b (p + 2 + n1 * 2 + 2 + n2 * 2 + 2 + n3 * 2) 0 16).bind fun n4 =>
  (acts b n2 n4.toNat (p + 2 + n1 * 2 + 2 + n2 * 2 + 2 + n3 * 2 + 2)).bind fun a => some ([⟨s1, s2, s3, a.1⟩], a.2)
 else
  (cntr b p 1 16).bind fun n2 => (cntr b (p + 2) 0 16).bind fun n4 => (row b (p + 2 + 2) n2).bind fun l2 => (covs N b base l2).bind fun s2 =>
  (acts b n2 n4.toNat (p + 2 + 2 + n2 * 2)).bind fun a => some ([⟨[], s2, [], a.1⟩], a.2)
def Js (N : Nat) (b : List Int) (p : Int) (ch : Bool) : Option (List TCtx × Int) :=
 (num b p).bind fun f => if f = 1 then Xea N b (p + 2) p ch else if f = 2 then Xbm N b (p + 2) p ch else if f = 3 then JE N b (p + 2) p ch else none
section
variable {N : Nat} (hN : 1000000000000 < N) {b : List Int} (hb : Bytes b) (hl : b.length ≤ 1000000)
include hN hb hl
theorem JD {base : Int} (h0 : -1000000 ≤ base) (h1 : base ≤ 1000000) : ∀ {l : List Int} {r : List TSet}, (∀ x ∈ l, 0 ≤ x ∧ x ≤ 65535) → covs N b base l = some r → ∀ x ∈ r, RL 0 x.Spans ∧ x.Spans.length ≤ 65536
 | [], r, _, h => by cases h; simp
 | o :: l, r, hx, h => by
  simp only [covs] at h
  obtain ⟨s, h2, h3⟩ := Option.bind_eq_some_iff.1 h
  obtain ⟨q, h4, h5⟩ := Option.bind_eq_some_iff.1 h3
  cases h5
  have ho := hx o (by simp)
  intro x hxm
  rcases List.mem_cons.1 hxm with rfl | hxm
  ·
   exact Xdg hN hb hl (by omega) (by omega) h2
  ·
   exact JD h0 h1 (fun y hy => hx y (List.mem_cons_of_mem _ hy)) h4 x hxm
theorem Xp4 {p base : Int} {ch : Bool} (h0 : -1000000 ≤ base) (h1 : base ≤ 1000000) (h2 : -2000000 ≤ p) (h3 : p ≤ 2000000) : Zf N b p base ch = some (S (Xea N b p base ch)) := by
 unfold Zf Xea
 try simp (disch := omega) only [w64]
 rw [Qn hN hb hl (by omega) (by omega), Option.bind_some]
 cases e1 : row b _ _ with
 | none => rfl
 | some l =>
  obtain ⟨_, ll, _, _, _, lx⟩ := Xw hb e1
  simp only [S, Option.bind_some]
  try simp (disch := omega) only [w64]
  rw [Xb8 hN hb hl (by omega) (by omega) lx (by omega), Option.bind_some]
  cases e2 : covs N b base l with
  | none => rfl
  | some r =>
   have rl := QN e2
   have rx := JD hN hb hl h0 h1 lx e2
   simp only [S, Option.bind_some]
   try simp (disch := omega) only [w64]
   obtain ⟨c, rfl⟩ : ∃ c, r = [c] := by
    match r, rl with
    | [c], _ => exact ⟨c, rfl⟩
    | [], h => simp at h; omega
    | _ :: _ :: _, h => simp at h; omega
   obtain ⟨crl, cln⟩ := rx c (by simp)
   rw [show atI [c] 0 = some c from rfl, Option.bind_some]
   rw [number_eq hN hb hl (by omega), Option.bind_some]
   cases e3 : num b _ with
   | none => rfl
   | some n =>
    obtain ⟨_, na, nb, _⟩ := Xy hb e3
    simp only [S, Option.bind_some]
    try simp (disch := omega) only [w64]
    rw [Xpx hN crl cln, Option.bind_some, Xbp, Option.bind_some]
    rw [show Xd3 [c] = c.Spans from rfl]
    have cc := (Jd crl 0).2.2.2
    by_cases hn : n = cnt c.Spans
    ·
     rw [if_pos (by simpa using hn), if_pos hn]
     simp only
     have h3 := single_L3 hN (a2 := base) (a1 := p) (y13 := n) (ch := ch) (x9 := c) (b := b) (by omega) crl cln c.Spans.length 0 N [] (by omega) (by omega) (by rw [List.drop_zero, hn]; simp)
     rw [List.drop_zero, List.nil_append] at h3
     rw [show XV N base ch n c b p N 0 [] = _ from h3, Option.bind_some]
     rw [Qn hN hb hl (by omega) (by omega), Option.bind_some]
     cases e4 : row b _ _ with
     | none => rfl
     | some l2 =>
      obtain ⟨_, l2l, _, _, _, l2x⟩ := Xw hb e4
      simp only [S, Option.bind_some]
      try simp (disch := omega) only [w64]
      rw [Xnh hN hb hl (by have := Xno crl; omega) h0 h1 l2x (by omega), Option.bind_some]
      cases listM b (glR N b ch (glO c.Spans)) base 0 l2 [] with
      | none => rfl
      | some s => rfl
    ·
     rw [if_neg (by simpa using hn), if_neg hn]
theorem Xm4 {p base : Int} {ch : Bool} (h0 : -1000000 ≤ base) (h1 : base ≤ 1000000) (h2 : -2000000 ≤ p) (h3 : p ≤ 2000000) : YW N b p base ch = some (S (Xbm N b p base ch)) := by
 unfold YW Xbm
 try simp (disch := omega) only [w64]
 rw [Qn hN hb hl (by omega) (by omega), Option.bind_some]
 cases e1 : row b _ _ with
 | none => rfl
 | some l =>
  obtain ⟨_, ll, _, _, _, lx⟩ := Xw hb e1
  simp only [S, Option.bind_some]
  try simp (disch := omega) only [w64]
  rw [Xb8 hN hb hl (by omega) (by omega) lx (by omega), Option.bind_some]
  cases e2 : covs N b base l with
  | none => rfl
  | some r =>
   have rl := QN e2
   have rx := JD hN hb hl h0 h1 lx e2
   simp only [S, Option.bind_some]
   try simp (disch := omega) only [w64]
   obtain ⟨c, rfl⟩ : ∃ c, r = [c] := by
    match r, rl with
    | [c], _ => exact ⟨c, rfl⟩
    | [], h => simp at h; omega
    | _ :: _ :: _, h => simp at h; omega
   obtain ⟨crl, cln⟩ := rx c (by simp)
   rw [show atI [c] 0 = some c from rfl, Option.bind_some]
   rw [show Xd3 [c] = c.Spans from rfl]
   by_cases hc : ch = true
   ·
    rw [if_pos hc, if_pos hc]
    rw [number_eq hN hb hl (by omega), Option.bind_some]
    cases e3 : num b _ with
    | none => rfl
    | some o1 =>
     obtain ⟨_, o1a, o1b, _⟩ := Xy hb e3
     simp only [S, Option.bind_some]
     try simp (disch := omega) only [w64]
     rw [Xcj hN hb hl (by omega) (by omega) (by omega) (by omega), Option.bind_some]
     cases e4 : YN N b base o1 with
     | none => rfl
     | some c1 =>
      have c1b := QR hN hb hl (by omega) (by omega) (by omega) (by omega) e4
      simp only [S, Option.bind_some]
      try simp (disch := omega) only [w64]
      rw [number_eq hN hb hl (by omega), Option.bind_some]
      cases e5 : num b _ with
      | none => rfl
      | some o2 =>
       obtain ⟨_, o2a, o2b, _⟩ := Xy hb e5
       simp only [S, Option.bind_some]
       try simp (disch := omega) only [w64]
       rw [Xcj hN hb hl (by omega) (by omega) (by omega) (by omega), Option.bind_some]
       cases e6 : YN N b base o2 with
       | none => rfl
       | some c2 =>
        have c2b := QR hN hb hl (by omega) (by omega) (by omega) (by omega) e6
        simp only [S, Option.bind_some]
        try simp (disch := omega) only [w64]
        rw [number_eq hN hb hl (by omega), Option.bind_some]
        cases e7 : num b _ with
        | none => rfl
        | some o3 =>
         obtain ⟨_, o3a, o3b, _⟩ := Xy hb e7
         simp only [S, Option.bind_some]
         try simp (disch := omega) only [w64]
         rw [Xcj hN hb hl (by omega) (by omega) (by omega) (by omega), Option.bind_some]
         cases e8 : YN N b base o3 with
         | none => rfl
         | some c3 =>
          have c3b := QR hN hb hl (by omega) (by omega) (by omega) (by omega) e8
          simp only [S, Option.bind_some]
          try simp (disch := omega) only [w64]
          rw [number_eq hN hb hl (by omega), Option.bind_some]
          cases e9 : num b _ with
          | none => rfl
          | some n =>
           obtain ⟨_, na, nb, _⟩ := Xy hb e9
           simp only [S, Option.bind_some]
           try simp (disch := omega) only [w64]
           rw [Qn hN hb hl (by omega) (by omega), Option.bind_some]
           cases e10 : row b _ _ with
           | none => rfl
           | some l2 =>
            obtain ⟨_, l2l, _, _, _, l2x⟩ := Xw hb e10
            simp only [S, Option.bind_some]
            try simp (disch := omega) only [w64]
            simp only [XC, Option.bind_some]
            rw [list_eq hN hb hl crl cln c2b c1b c2b c3b h0 h1 l2x (by omega), Option.bind_some]
            cases listM b (clR b true c.Spans c2 c1 c2 c3) base 0 l2 [] with
            | none => rfl
            | some s => rfl
   ·
    rw [if_neg hc, if_neg hc]
    rw [number_eq hN hb hl (by omega), Option.bind_some]
    cases e3 : num b _ with
    | none => rfl
    | some o2 =>
     obtain ⟨_, o2a, o2b, _⟩ := Xy hb e3
     simp only [S, Option.bind_some]
     try simp (disch := omega) only [w64]
     rw [Xcj hN hb hl (by omega) (by omega) (by omega) (by omega), Option.bind_some]
     cases e4 : YN N b base o2 with
     | none => rfl
     | some c2 =>
      have c2b := QR hN hb hl (by omega) (by omega) (by omega) (by omega) e4
      simp only [S, Option.bind_some]
      try simp (disch := omega) only [w64]
      rw [number_eq hN hb hl (by omega), Option.bind_some]
      cases e9 : num b _ with
      | none => rfl
      | some n =>
       obtain ⟨_, na, nb, _⟩ := Xy hb e9
       simp only [S, Option.bind_some]
       try simp (disch := omega) only [w64]
       rw [Qn hN hb hl (by omega) (by omega), Option.bind_some]
       cases e10 : row b _ _ with
       | none => rfl
       | some l2 =>
        obtain ⟨_, l2l, _, _, _, l2x⟩ := Xw hb e10
        simp only [S, Option.bind_some]
        try simp (disch := omega) only [w64]
        simp only [XC, Option.bind_some]
        rw [list_eq hN hb hl crl cln c2b CB.nil c2b CB.nil h0 h1 l2x (by omega), Option.bind_some]
        cases listM b (clR b false c.Spans c2 [] c2 []) base 0 l2 [] with
        | none => rfl
        | some s => rfl
theorem Xm3 {p base : Int} {ch : Bool} (h0 : -1000000 ≤ base) (h1 : base ≤ 1000000) (h2 : -2000000 ≤ p) (h3 : p ≤ 2000000) : YV N b p base ch = some (S (JE N b p base ch)) := by
 unfold YV JE
 try simp (disch := omega) only [w64]
 by_cases hc : ch = true
 ·
  rw [if_pos hc, if_pos hc]
  rw [YS hN hb hl (by omega), Option.bind_some]
  cases e1 : cntr b _ _ _ with
  | none => rfl
  | some n1 =>
   obtain ⟨n1a, n1b, _⟩ := XF hb e1
   simp only [S, Option.bind_some]
   try simp (disch := omega) only [w64]
   rw [Qn hN hb hl (by omega) (by omega), Option.bind_some]
   cases e2 : row b _ _ with
   | none => rfl
   | some l1 =>
    obtain ⟨_, l1l, _, _, _, l1x⟩ := Xw hb e2
    simp only [S, Option.bind_some]
    try simp (disch := omega) only [w64]
    rw [Xb8 hN hb hl (by omega) (by omega) l1x (by omega), Option.bind_some]
    cases e3 : covs N b base l1 with
    | none => rfl
    | some s1 =>
     have s1l := QN e3
     have s1x := JD hN hb hl h0 h1 l1x e3
     simp only [S, Option.bind_some]
     try simp (disch := omega) only [w64]
     rw [YS hN hb hl (by omega), Option.bind_some]
     cases e4 : cntr b _ _ _ with
     | none => rfl
     | some n2 =>
      obtain ⟨n2a, n2b, _⟩ := XF hb e4
      simp only [S, Option.bind_some]
      try simp (disch := omega) only [w64]
      rw [Qn hN hb hl (by omega) (by omega), Option.bind_some]
      cases e5 : row b _ _ with
      | none => rfl
      | some l2 =>
       obtain ⟨_, l2l, _, _, _, l2x⟩ := Xw hb e5
       simp only [S, Option.bind_some]
       try simp (disch := omega) only [w64]
       rw [Xb8 hN hb hl (by omega) (by omega) l2x (by omega), Option.bind_some]
       cases e6 : covs N b base l2 with
       | none => rfl
       | some s2 =>
        have s2l := QN e6
        have s2x := JD hN hb hl h0 h1 l2x e6
        simp only [S, Option.bind_some]
        try simp (disch := omega) only [w64]
        rw [YS hN hb hl (by omega), Option.bind_some]
        cases e7 : cntr b _ _ _ with
        | none => rfl
        | some n3 =>
         obtain ⟨n3a, n3b, _⟩ := XF hb e7
         simp only [S, Option.bind_some]
         try simp (disch := omega) only [w64]
         rw [Qn hN hb hl (by omega) (by omega), Option.bind_some]
         cases e8 : row b _ _ with
         | none => rfl
         | some l3 =>
          obtain ⟨_, l3l, _, _, _, l3x⟩ := Xw hb e8
          simp only [S, Option.bind_some]
          try simp (disch := omega) only [w64]
          rw [Xb8 hN hb hl (by omega) (by omega) l3x (by omega), Option.bind_some]
          cases e9 : covs N b base l3 with
          | none => rfl
          | some s3 =>
           have s3l := QN e9
           have s3x := JD hN hb hl h0 h1 l3x e9
           simp only [S, Option.bind_some]
           try simp (disch := omega) only [w64]
           rw [YS hN hb hl (by omega), Option.bind_some]
           cases e10 : cntr b _ _ _ with
           | none => rfl
           | some n4 =>
            obtain ⟨n4a, n4b, _⟩ := XF hb e10
            simp only [S, Option.bind_some]
            try simp (disch := omega) only [w64]
            rw [show ((s2.length : Nat) : Int) = n2 by omega]
            rw [Xbr hN hb hl (by omega) (by omega) (by omega) (by omega), Option.bind_some]
            cases acts b _ _ _ with
            | none => rfl
            | some a => rfl
 ·
  rw [if_neg hc, if_neg hc]
  rw [YS hN hb hl (by omega), Option.bind_some]
  cases e4 : cntr b _ _ _ with
  | none => rfl
  | some n2 =>
   obtain ⟨n2a, n2b, _⟩ := XF hb e4
   simp only [S, Option.bind_some]
   try simp (disch := omega) only [w64]
   rw [YS hN hb hl (by omega), Option.bind_some]
   cases e10 : cntr b _ _ _ with
   | none => rfl
   | some n4 =>
    obtain ⟨n4a, n4b, _⟩ := XF hb e10
    simp only [S, Option.bind_some]
    try simp (disch := omega) only [w64]
    rw [Qn hN hb hl (by omega) (by omega), Option.bind_some]
    cases e5 : row b _ _ with
    | none => rfl
    | some l2 =>
     obtain ⟨_, l2l, _, _, _, l2x⟩ := Xw hb e5
     simp only [S, Option.bind_some]
     try simp (disch := omega) only [w64]
     rw [Xb8 hN hb hl (by omega) (by omega) l2x (by omega), Option.bind_some]
     cases e6 : covs N b base l2 with
     | none => rfl
     | some s2 =>
      have s2l := QN e6
      have s2x := JD hN hb hl h0 h1 l2x e6
      simp only [S, Option.bind_some]
      try simp (disch := omega) only [w64]
      rw [Xbr hN hb hl (by omega) (by omega) (by omega) (by omega), Option.bind_some]
      cases acts b _ _ _ with
      | none => rfl
      | some a => rfl
theorem Xn6 {p : Int} {ch : Bool} (h0 : -1000000 ≤ p) (h1 : p ≤ 1000000) : Jm N b p ch = some (match Js N b p ch with | some r => (r.1, true) | none => ([], false)) := by
 unfold Jm Js
 rw [number_eq hN hb hl (by omega), Option.bind_some]
 cases e1 : num b p with
 | none => rfl
 | some f =>
  simp only [S, Option.bind_some]
  rw [w64 (x := p + 2) (by omega) (by omega)]
  by_cases g1 : f = 1
  ·
   rw [if_pos g1, if_pos g1, Xp4 hN hb hl h0 h1 (by omega) (by omega), Option.bind_some]
   cases Xea N b (p + 2) p ch <;> rfl
  ·
   rw [if_neg g1, if_neg g1]
   by_cases g2 : f = 2
   ·
    rw [if_pos g2, if_pos g2, Xm4 hN hb hl h0 h1 (by omega) (by omega), Option.bind_some]
    cases Xbm N b (p + 2) p ch <;> rfl
   ·
    rw [if_neg g2, if_neg g2]
    by_cases g3 : f = 3
    ·
     rw [if_pos g3, if_pos g3, Xm3 hN hb hl h0 h1 (by omega) (by omega), Option.bind_some]
     cases JE N b (p + 2) p ch <;> rfl
    ·
     rw [if_neg g3, if_neg g3]
end
def GoodC (ch : Bool) (c : TCtx) : Prop := 1 ≤ c.In.length ∧ c.In.length ≤ 16 ∧ c.Back.length ≤ 16 ∧ c.Ahead.length ≤ 16 ∧ c.Acts.length ≤ 16 ∧ (∀ x ∈ c.Acts, 0 ≤ x.At ∧ x.At < (c.In.length : Int)) ∧ (ch = false → c.Back = [] ∧ c.Ahead = [])
theorem Xjn {b : List Int} (hb : Bytes b) {f g h : Int → TSet} {t : TSet} {ch : Bool} {p : Int} {r : TR} (hr : ruleM b (List.map f) (List.map g) (List.map h) t ch p = some r) : GoodC ch ⟨r.1, r.2.1, r.2.2.1, r.2.2.2.1⟩ := by
 unfold ruleM at hr
 split at hr
 ·
  rename_i hc
  obtain ⟨n1, e1, hr⟩ := Option.bind_eq_some_iff.1 hr
  obtain ⟨l1, e2, hr⟩ := Option.bind_eq_some_iff.1 hr
  obtain ⟨n2, e3, hr⟩ := Option.bind_eq_some_iff.1 hr
  obtain ⟨l2, e4, hr⟩ := Option.bind_eq_some_iff.1 hr
  obtain ⟨n3, e5, hr⟩ := Option.bind_eq_some_iff.1 hr
  obtain ⟨l3, e6, hr⟩ := Option.bind_eq_some_iff.1 hr
  obtain ⟨n4, e7, hr⟩ := Option.bind_eq_some_iff.1 hr
  obtain ⟨⟨l, q⟩, e8, hr⟩ := Option.bind_eq_some_iff.1 hr
  cases hr
  have c1 := XF hb e1; have c2 := XF hb e3; have c3 := XF hb e5; have c4 := XF hb e7
  have r1 := Xw hb e2; have r2 := Xw hb e4; have r3 := Xw hb e6
  have a := Xcg hb e8
  refine ⟨by simp, by simp only [List.length_cons, List.length_map]; omega, by simp only [List.length_map]; omega, by simp only [List.length_map]; omega, by simp only; omega, fun x hx => ?_, fun h => by rw [hc] at h; cases h⟩
  have := a.2.2.1 x hx
  simp only [List.length_cons, List.length_map]; omega
 ·
  rename_i hc
  obtain ⟨n2, e3, hr⟩ := Option.bind_eq_some_iff.1 hr
  obtain ⟨n4, e7, hr⟩ := Option.bind_eq_some_iff.1 hr
  obtain ⟨l2, e4, hr⟩ := Option.bind_eq_some_iff.1 hr
  obtain ⟨⟨l, q⟩, e8, hr⟩ := Option.bind_eq_some_iff.1 hr
  cases hr
  have c2 := XF hb e3; have c4 := XF hb e7
  have r2 := Xw hb e4
  have a := Xcg hb e8
  refine ⟨by simp, by simp only [List.length_cons, List.length_map]; omega, by simp, by simp, by simp only; omega, fun x hx => ?_, fun h => ⟨rfl, rfl⟩⟩
  have := a.2.2.1 x hx
  simp only [List.length_cons, List.length_map]; omega
theorem Xjl {P : TCtx → Prop} {rl : Int → Option TR} (hr : ∀ p r, rl p = some r → P ⟨r.1, r.2.1, r.2.2.1, r.2.2.2.1⟩) {base : Int} : ∀ {l : List Int} {s t : List TCtx}, JK rl base l s = some t → (∀ c ∈ s, P c) → ∀ c ∈ t, P c
 | [], s, t, h, hs => by cases h; exact hs
 | o :: r, s, t, h, hs => by
  simp only [JK] at h
  obtain ⟨q, h1, h2⟩ := Option.bind_eq_some_iff.1 h
  split at h2
  ·
   refine Xjl hr h2 fun c hc => ?_
   rcases List.mem_append.1 hc with hc | hc
   ·
    exact hs c hc
   ·
    rw [List.mem_singleton.1 hc]; exact hr _ _ h1
  ·
   cases h2
theorem Xc5 {P : TCtx → Prop} {b : List Int} {rl : Nat → Int → Option TR} (hr : ∀ i p r, rl i p = some r → P ⟨r.1, r.2.1, r.2.2.1, r.2.2.2.1⟩) {base : Int} : ∀ {l : List Int} {i : Nat} {s t : List TCtx}, listM b rl base i l s = some t → s.length ≤ 64 → (∀ c ∈ s, P c) → t.length ≤ 64 ∧ ∀ c ∈ t, P c
 | [], i, s, t, h, hl, hs => by cases h; exact ⟨hl, hs⟩
 | o :: r, i, s, t, h, hl, hs => by
  simp only [listM] at h
  split at h
  ·
   exact Xc5 hr h hl hs
  ·
   obtain ⟨n, h1, h⟩ := Option.bind_eq_some_iff.1 h
   split at h
   ·
    obtain ⟨l, h2, h⟩ := Option.bind_eq_some_iff.1 h
    obtain ⟨s2, h3, h⟩ := Option.bind_eq_some_iff.1 h
    exact Xc5 hr h (Xap h3 hl) (Xjl (hr i) h3 hs)
   ·
    cases h
def SetOk (s : TSet) : Prop := s.Spans.length ≤ 1000000
def CtxOk (c : TCtx) : Prop := c.Back.length ≤ 16 ∧ c.In.length ≤ 16 ∧ c.Ahead.length ≤ 16 ∧ c.Acts.length ≤ 16 ∧ (∀ s ∈ c.Back, SetOk s) ∧ (∀ s ∈ c.In, SetOk s) ∧ ∀ s ∈ c.Ahead, SetOk s
theorem SameSp_L1 {N : Nat} {l : List TSpan} (hl : l.length ≤ 1000000) : ∀ (d k n : Nat), k + d = l.length → d < n → Qg N l l n k = some (.inl ()) := by
 intro d
 induction d with
 | zero =>
  intro k n hk hn
  obtain ⟨n, rfl⟩ : ∃ x, n = x + 1 := ⟨n - 1, by omega⟩
  rw [Qg, if_neg (by omega)]
 | succ d ih =>
  intro k n hk hn
  obtain ⟨n, rfl⟩ : ∃ x, n = x + 1 := ⟨n - 1, by omega⟩
  have hkl : k < l.length := by omega
  rw [Qg, if_pos (by omega), XY (List.getElem?_eq_getElem hkl), Option.bind_some, Option.bind_some, if_pos rfl, if_pos rfl, w64 (x := (k : Int) + 1) (by omega) (by omega), show (k : Int) + 1 = ((k + 1 : Nat) : Int) by omega]
  exact ih (k + 1) n (by omega) (by omega)
theorem SameSp {N : Nat} (hN : 1000000000000 < N) {l : List TSpan} (hl : l.length ≤ 1000000) : JR N l l = some true := by
 unfold JR
 rw [if_pos rfl, show Qg N l l N 0 = _ from SameSp_L1 hl l.length 0 N (by omega) (by omega)]
 rfl
theorem SameSt_L1 {N : Nat} (hN : 1000000000000 < N) {l : List TSet} (hl : l.length ≤ 1000000) (hs : ∀ s ∈ l, SetOk s) : ∀ (d k n : Nat), k + d = l.length → d < n → Yu N l l n k = some (.inl ()) := by
 intro d
 induction d with
 | zero =>
  intro k n hk hn
  obtain ⟨n, rfl⟩ : ∃ x, n = x + 1 := ⟨n - 1, by omega⟩
  rw [Yu, if_neg (by omega)]
 | succ d ih =>
  intro k n hk hn
  obtain ⟨n, rfl⟩ : ∃ x, n = x + 1 := ⟨n - 1, by omega⟩
  have hkl : k < l.length := by omega
  have hsp := SameSp hN (hs l[k] (List.getElem_mem hkl))
  rw [Yu, if_pos (by omega), XY (List.getElem?_eq_getElem hkl), Option.bind_some, Option.bind_some, hsp, Option.bind_some, if_pos rfl, w64 (x := (k : Int) + 1) (by omega) (by omega), show (k : Int) + 1 = ((k + 1 : Nat) : Int) by omega, ih (k + 1) n (by omega) (by omega)]
  by_cases hn : l[k].Not = true
  ·
   rw [if_pos hn, if_pos hn]
  ·
   rw [if_neg hn, if_neg hn]
theorem SameSt {N : Nat} (hN : 1000000000000 < N) {l : List TSet} (hl : l.length ≤ 16) (hs : ∀ s ∈ l, SetOk s) : Qo N l l = some true := by
 unfold Qo
 rw [if_pos rfl, show Yu N l l N 0 = _ from SameSt_L1 hN (by omega) hs l.length 0 N (by omega) (by omega)]
 rfl
theorem Same_L2 {N : Nat} {l : List TCtx} {i : Nat} {c : TCtx} (hi : l[i]? = some c) (hc : c.Acts.length ≤ 16) : ∀ (d k n : Nat), k + d = c.Acts.length → d < n → Qb N l l (i : Int) n k = some (.inl ()) := by
 intro d
 induction d with
 | zero =>
  intro k n hk hn
  obtain ⟨n, rfl⟩ : ∃ x, n = x + 1 := ⟨n - 1, by omega⟩
  rw [Qb, XY hi, Option.bind_some, if_neg (by omega)]
 | succ d ih =>
  intro k n hk hn
  obtain ⟨n, rfl⟩ : ∃ x, n = x + 1 := ⟨n - 1, by omega⟩
  have hkl : k < c.Acts.length := by omega
  have e := XY (List.getElem?_eq_getElem hkl)
  rw [Qb, XY hi, Option.bind_some, if_pos (by omega), e, Option.bind_some, Option.bind_some, e, Option.bind_some, if_pos rfl, if_pos rfl, w64 (x := (k : Int) + 1) (by omega) (by omega), show (k : Int) + 1 = ((k + 1 : Nat) : Int) by omega]
  exact ih (k + 1) n (by omega) (by omega)
theorem Same_L3 {N : Nat} (hN : 1000000000000 < N) {l : List TCtx} (hl : l.length ≤ 1000000) (hs : ∀ c ∈ l, CtxOk c) : ∀ (d k n : Nat), k + d = l.length → d < n → Qa N l l n k = some (.inl ()) := by
 intro d
 induction d with
 | zero =>
  intro k n hk hn
  obtain ⟨n, rfl⟩ : ∃ x, n = x + 1 := ⟨n - 1, by omega⟩
  rw [Qa, if_neg (by omega)]
 | succ d ih =>
  intro k n hk hn
  obtain ⟨n, rfl⟩ : ∃ x, n = x + 1 := ⟨n - 1, by omega⟩
  have hkl : k < l.length := by omega
  obtain ⟨c1, c2, c3, c4, c5, c6, c7⟩ := hs l[k] (List.getElem_mem hkl)
  rw [Qa, if_pos (by omega), XY (List.getElem?_eq_getElem hkl), Option.bind_some, Option.bind_some, SameSt hN c1 c5, Option.bind_some, if_pos rfl, SameSt hN c2 c6, Option.bind_some, if_pos rfl, SameSt hN c3 c7, Option.bind_some, if_pos rfl, if_pos rfl,
   show Qb N l l (k : Int) N 0 = _ from Same_L2 (List.getElem?_eq_getElem hkl) c4 l[k].Acts.length 0 N (by omega) (by omega), Option.bind_some, w64 (x := (k : Int) + 1) (by omega) (by omega), show (k : Int) + 1 = ((k + 1 : Nat) : Int) by omega]
  exact ih (k + 1) n (by omega) (by omega)
theorem Same_refl {N : Nat} (hN : 1000000000000 < N) {l : List TCtx} (hl : l.length ≤ 64) (hs : ∀ c ∈ l, CtxOk c) : Xas N l l = some true := by
 unfold Xas
 rw [if_pos rfl, show Qa N l l N 0 = _ from Same_L3 hN (by omega) hs l.length 0 N (by omega) (by omega)]
 rfl
theorem Xjm {b : List Int} {f g h : Int → TSet} {t : TSet} {ch : Bool} {p : Int} (hf : ∀ x, SetOk (f x)) (hg : ∀ x, SetOk (g x)) (hh : ∀ x, SetOk (h x)) (ht : SetOk t) {r : TR} (hr : ruleM b (List.map f) (List.map g) (List.map h) t ch p = some r) : (∀ s ∈ r.1, SetOk s) ∧ (∀ s ∈ r.2.1, SetOk s) ∧ ∀ s ∈ r.2.2.1, SetOk s := by
 have key : ∀ {f : Int → TSet} {l : List Int}, (∀ x, SetOk (f x)) → ∀ s ∈ List.map f l, SetOk s := fun hf s hs => by
  obtain ⟨x, _, rfl⟩ := List.mem_map.1 hs
  exact hf x
 have key2 : ∀ {f : Int → TSet} {l : List Int}, (∀ x, SetOk (f x)) → ∀ s ∈ t :: List.map f l, SetOk s := fun hf s hs => by
  rcases List.mem_cons.1 hs with rfl | hs
  ·
   exact ht
  ·
   exact key hf s hs
 unfold ruleM at hr
 split at hr
 ·
  obtain ⟨n1, e1, hr⟩ := Option.bind_eq_some_iff.1 hr
  obtain ⟨l1, e2, hr⟩ := Option.bind_eq_some_iff.1 hr
  obtain ⟨n2, e3, hr⟩ := Option.bind_eq_some_iff.1 hr
  obtain ⟨l2, e4, hr⟩ := Option.bind_eq_some_iff.1 hr
  obtain ⟨n3, e5, hr⟩ := Option.bind_eq_some_iff.1 hr
  obtain ⟨l3, e6, hr⟩ := Option.bind_eq_some_iff.1 hr
  obtain ⟨n4, e7, hr⟩ := Option.bind_eq_some_iff.1 hr
  obtain ⟨⟨l, q⟩, e8, hr⟩ := Option.bind_eq_some_iff.1 hr
  cases hr
  exact ⟨key hf, key2 hg, key hh⟩
 ·
  obtain ⟨n2, e3, hr⟩ := Option.bind_eq_some_iff.1 hr
  obtain ⟨n4, e7, hr⟩ := Option.bind_eq_some_iff.1 hr
  obtain ⟨l2, e4, hr⟩ := Option.bind_eq_some_iff.1 hr
  obtain ⟨⟨l, q⟩, e8, hr⟩ := Option.bind_eq_some_iff.1 hr
  cases hr
  exact ⟨by simp, key2 hg, by simp⟩
theorem RL.l6 {l : List TSpan} (h : RL 0 l) : l.length ≤ 65536 := by
  rcases RL.len h (Int.le_refl 0) with h | h
  · omega
  · rw [h]; simp
theorem clR_ok {b : List Int} (hb : Bytes b) {ch : Bool} {sp : List TSpan} {c0 c1 c2 c3 : List Xb} (hsp : RL 0 sp) (g0 : CB c0) (g1 : CB c1) (g2 : CB c2) (g3 : CB c3) (i : Nat) (p : Int) (r : TR) (hr : clR b ch sp c0 c1 c2 c3 i p = some r) : CtxOk ⟨r.1, r.2.1, r.2.2.1, r.2.2.2.1⟩ := by
 have k : ∀ {c : List Xb}, CB c → ∀ x, SetOk (setC c x) := fun hc x => by have := (Xn2 hc x).2; unfold SetOk setC; simp only; omega
 have hs := Xjm (k g1) (k g2) (k g3) (by
  have := (Xkp (nt := decide ((i : Int) = 0)) (Xn2 g0 i).1 hsp (Int.le_refl 0) (o := []) trivial (by simp)).1.l6
  unfold SetOk; simp only; omega) hr
 have hg := Xjn hb hr
 exact ⟨hg.2.2.1, hg.2.1, hg.2.2.2.1, hg.2.2.2.2.1, hs⟩
theorem glR_ok {N : Nat} {b : List Int} (hb : Bytes b) {ch : Bool} {gl : List Int} (i : Nat) (p : Int) (r : TR) (hr : glR N b ch gl i p = some r) : CtxOk ⟨r.1, r.2.1, r.2.2.1, r.2.2.2.1⟩ := by
 have k : ∀ x, SetOk (Xb3 x) := fun x => by unfold SetOk Xb3; simp
 have hs := Xjm k k k (k _) hr
 have hg := Xjn hb hr
 exact ⟨hg.2.2.1, hg.2.1, hg.2.2.2.1, hg.2.2.2.2.1, hs⟩
theorem Xmc : ∀ {r : List TSet}, (∀ x ∈ r, RL 0 x.Spans ∧ x.Spans.length ≤ 65536) → RL 0 (Xd3 r)
 | [], _ => trivial
 | c :: _, h => (h c (by simp)).1
def OkT (r : List TCtx × Int) : Prop := r.1.length ≤ 64 ∧ ∀ c ∈ r.1, CtxOk c
section
variable {N : Nat} (hN : 1000000000000 < N) {b : List Int} (hb : Bytes b) (hb1 : b.length ≤ 1000000)
include hN hb hb1
theorem Xp1 {base p : Int} {ch : Bool} (h0 : -1000000 ≤ base) (h1 : base ≤ 1000000) {r : List TCtx × Int} (h : Xea N b p base ch = some r) : OkT r := by
 unfold Xea at h
 obtain ⟨l, e1, h⟩ := Option.bind_eq_some_iff.1 h
 have lb := Xw hb e1
 obtain ⟨r0, e2, h⟩ := Option.bind_eq_some_iff.1 h
 have r0l := QN e2
 have r0r := JD hN hb hb1 h0 h1 lb.2.2.2.2.2 e2
 obtain ⟨n, e3, h⟩ := Option.bind_eq_some_iff.1 h
 have nb := Xy hb e3
 split at h
 ·
  rename_i hc
  obtain ⟨l2, e5, h⟩ := Option.bind_eq_some_iff.1 h
  have l2b := Xw hb e5
  obtain ⟨s, e6, h⟩ := Option.bind_eq_some_iff.1 h
  cases h
  exact Xc5 (P := CtxOk) (glR_ok hb) e6 (by simp) (by simp)
 ·
  cases h
theorem Xny {base p : Int} {ch : Bool} (h0 : -1000000 ≤ base) (h1 : base ≤ 1000000) {r : List TCtx × Int} (h : Xbm N b p base ch = some r) : OkT r := by
 unfold Xbm at h
 obtain ⟨l, e1, h⟩ := Option.bind_eq_some_iff.1 h
 have lb := Xw hb e1
 obtain ⟨r0, e2, h⟩ := Option.bind_eq_some_iff.1 h
 have r0l := QN e2
 have r0r := JD hN hb hb1 h0 h1 lb.2.2.2.2.2 e2
 split at h
 ·
  rename_i hc
  obtain ⟨o1, e3, h⟩ := Option.bind_eq_some_iff.1 h
  have o1b := Xy hb e3
  obtain ⟨c1, e4, h⟩ := Option.bind_eq_some_iff.1 h
  have c1b := QR hN hb hb1 (by omega) (by omega) (by omega) (by omega) e4
  obtain ⟨o2, e5, h⟩ := Option.bind_eq_some_iff.1 h
  have o2b := Xy hb e5
  obtain ⟨c2, e6, h⟩ := Option.bind_eq_some_iff.1 h
  have c2b := QR hN hb hb1 (by omega) (by omega) (by omega) (by omega) e6
  obtain ⟨o3, e7, h⟩ := Option.bind_eq_some_iff.1 h
  have o3b := Xy hb e7
  obtain ⟨c3, e8, h⟩ := Option.bind_eq_some_iff.1 h
  have c3b := QR hN hb hb1 (by omega) (by omega) (by omega) (by omega) e8
  obtain ⟨n, e9, h⟩ := Option.bind_eq_some_iff.1 h
  have nb := Xy hb e9
  obtain ⟨l2, e10, h⟩ := Option.bind_eq_some_iff.1 h
  have l2b := Xw hb e10
  obtain ⟨s, e11, h⟩ := Option.bind_eq_some_iff.1 h
  cases h
  exact Xc5 (P := CtxOk) (clR_ok hb (Xmc r0r) c2b c1b c2b c3b) e11 (by simp) (by simp)
 ·
  rename_i hc
  obtain ⟨o2, e5, h⟩ := Option.bind_eq_some_iff.1 h
  have o2b := Xy hb e5
  obtain ⟨c2, e6, h⟩ := Option.bind_eq_some_iff.1 h
  have c2b := QR hN hb hb1 (by omega) (by omega) (by omega) (by omega) e6
  obtain ⟨n, e9, h⟩ := Option.bind_eq_some_iff.1 h
  have nb := Xy hb e9
  obtain ⟨l2, e10, h⟩ := Option.bind_eq_some_iff.1 h
  have l2b := Xw hb e10
  obtain ⟨s, e11, h⟩ := Option.bind_eq_some_iff.1 h
  cases h
  exact Xc5 (P := CtxOk) (clR_ok hb (Xmc r0r) c2b CB.nil c2b CB.nil) e11 (by simp) (by simp)
theorem Xnv {base p : Int} {ch : Bool} (h0 : -1000000 ≤ base) (h1 : base ≤ 1000000) {r : List TCtx × Int} (h : JE N b p base ch = some r) : OkT r := by
 unfold JE at h
 split at h
 ·
  rename_i hc
  obtain ⟨n1, e1, h⟩ := Option.bind_eq_some_iff.1 h
  have n1b := XF hb e1
  obtain ⟨l1, e2, h⟩ := Option.bind_eq_some_iff.1 h
  have l1b := Xw hb e2
  obtain ⟨s1, e3, h⟩ := Option.bind_eq_some_iff.1 h
  have s1l := QN e3
  have s1r := JD hN hb hb1 h0 h1 l1b.2.2.2.2.2 e3
  obtain ⟨n2, e4, h⟩ := Option.bind_eq_some_iff.1 h
  have n2b := XF hb e4
  obtain ⟨l2, e5, h⟩ := Option.bind_eq_some_iff.1 h
  have l2b := Xw hb e5
  obtain ⟨s2, e6, h⟩ := Option.bind_eq_some_iff.1 h
  have s2l := QN e6
  have s2r := JD hN hb hb1 h0 h1 l2b.2.2.2.2.2 e6
  obtain ⟨n3, e7, h⟩ := Option.bind_eq_some_iff.1 h
  have n3b := XF hb e7
  obtain ⟨l3, e8, h⟩ := Option.bind_eq_some_iff.1 h
  have l3b := Xw hb e8
  obtain ⟨s3, e9, h⟩ := Option.bind_eq_some_iff.1 h
  have s3l := QN e9
  have s3r := JD hN hb hb1 h0 h1 l3b.2.2.2.2.2 e9
  obtain ⟨n4, e10, h⟩ := Option.bind_eq_some_iff.1 h
  have n4b := XF hb e10
  obtain ⟨q, e11, h⟩ := Option.bind_eq_some_iff.1 h
  have qb := Xcg hb (l := q.1) (q := q.2) e11
  cases h
  refine ⟨by simp, fun c hc2 => ?_⟩
  rw [List.mem_singleton.1 hc2]
  exact ⟨by simp only; omega, by simp only; omega, by simp only; omega, by simp only; omega, fun s hs => by have := (s1r s hs).2; unfold SetOk; omega, fun s hs => by have := (s2r s hs).2; unfold SetOk; omega, fun s hs => by have := (s3r s hs).2; unfold SetOk; omega⟩
 ·
  rename_i hc
  obtain ⟨n2, e4, h⟩ := Option.bind_eq_some_iff.1 h
  have n2b := XF hb e4
  obtain ⟨n4, e10, h⟩ := Option.bind_eq_some_iff.1 h
  have n4b := XF hb e10
  obtain ⟨l2, e5, h⟩ := Option.bind_eq_some_iff.1 h
  have l2b := Xw hb e5
  obtain ⟨s2, e6, h⟩ := Option.bind_eq_some_iff.1 h
  have s2l := QN e6
  have s2r := JD hN hb hb1 h0 h1 l2b.2.2.2.2.2 e6
  obtain ⟨q, e11, h⟩ := Option.bind_eq_some_iff.1 h
  have qb := Xcg hb (l := q.1) (q := q.2) e11
  cases h
  refine ⟨by simp, fun c hc2 => ?_⟩
  rw [List.mem_singleton.1 hc2]
  exact ⟨by simp, by simp only; omega, by simp, by simp only; omega, by simp, fun s hs => by have := (s2r s hs).2; unfold SetOk; omega, by simp⟩
theorem Xle {p : Int} {ch : Bool} (h0 : -1000000 ≤ p) (h1 : p ≤ 1000000) {r : List TCtx × Int} (h : Js N b p ch = some r) : OkT r := by
  unfold Js at h
  obtain ⟨f, e1, h⟩ := Option.bind_eq_some_iff.1 h
  split at h
  · exact Xp1 hN hb hb1 h0 h1 h
  · split at h
    · exact Xny hN hb hb1 h0 h1 h
    · split at h
      · exact Xnv hN hb hb1 h0 h1 h
      · cases h
end
section
variable {N : Nat} (hN : 1000000000000 < N) {b m : List Int} (hb : Bytes b) (hm : Bytes m) (hl : (b ++ m).length ≤ 1000000)
include hN hb hm hl
end
def rowR (b : List Int) (p n : Int) : List Int × Bool := if (∀ x ∈ row16 b p n.toNat, 0 ≤ x) then (row16 b p n.toNat, true) else ([], false)
theorem Xp6 {b : List Int} {p : Int} {k m : Nat} (h : k < m) : (row16 b p m).drop k = u16 b (p + 2 * (k : Int)) :: (row16 b p m).drop (k + 1) := by
 have hk : k < (row16 b p m).length := by rw [Ja]; exact h
 rw [List.drop_eq_getElem_cons hk]
 have := Xai (b := b) (i := p) h
 rw [List.getElem?_eq_getElem hk] at this
 rw [Option.some.inj this]
theorem Xah {b : List Int} (hb : Bytes b) {p n : Int} (h0 : 0 ≤ n) (h1 : 0 ≤ p) (h2 : p ≤ (b.length : Int)) : rowR b p n = (match row b p n with | some l => (l, true) | none => ([], false)) := by
 unfold rowR row
 by_cases h : p + 2 * n ≤ (b.length : Int)
 ·
  rw [if_pos (show 0 ≤ n ∧ 0 ≤ p ∧ p + 2 * n ≤ (b.length : Int) from ⟨h0, h1, h⟩), if_pos]
  intro x hx
  obtain ⟨k, hk, rfl⟩ := Xbv hx
  have n1 := not_congr (Yr hb (i := p + 2 * (k : Int)))
  have : ¬ u16 b (p + 2 * (k : Int)) < 0 := by rw [n1]; omega
  omega
 ·
  rw [if_neg (show ¬ (0 ≤ n ∧ 0 ≤ p ∧ p + 2 * n ≤ (b.length : Int)) from fun hh => h hh.2.2), if_neg]
  intro hh
  obtain ⟨m, hm⟩ : ∃ m : Nat, n = (m : Int) + 1 := ⟨(n - 1).toNat, by omega⟩
  have h3 := hh (u16 b (p + 2 * (m : Int))) (by
   unfold row16
   exact List.mem_map.2 ⟨m, List.mem_range.2 (by omega), rfl⟩)
  have := (not_congr (Yr hb (i := p + 2 * (m : Int)))).1 (by omega)
  omega
theorem rActs_L1 {N : Nat} {b : List Int} {long p : Int} {m : Nat} (hm : m ≤ 1000) (hy : ∀ x ∈ row16 b p (2 * m), 0 ≤ x) : ∀ (d k n : Nat) (s : List TAct), k + d = m → d < n → s.length ≤ k →
  Qf N (m : Int) long (row16 b p (2 * m)) n k s = some (match acts b long d (p + 4 * (k : Int)) with | some r => .inl (s ++ r.1) | none => .inr ()) := by
 intro d
 induction d with
 | zero =>
  intro k n s hk hn hs
  obtain ⟨n, rfl⟩ : ∃ x, n = x + 1 := ⟨n - 1, by omega⟩
  rw [Qf, if_neg (by omega)]
  simp [acts]
 | succ d ih =>
  intro k n s hk hn hs
  obtain ⟨n, rfl⟩ : ∃ x, n = x + 1 := ⟨n - 1, by omega⟩
  have e1 := Xai (b := b) (i := p) (n := 2 * m) (k := 2 * k) (by omega)
  have e2 := Xai (b := b) (i := p) (n := 2 * m) (k := 2 * k + 1) (by omega)
  have v1 := hy _ (List.mem_of_getElem? e1)
  have v2 := hy _ (List.mem_of_getElem? e2)
  rw [show p + 2 * ((2 * k : Nat) : Int) = p + 4 * (k : Int) by omega] at e1 v1
  rw [show p + 2 * ((2 * k + 1 : Nat) : Int) = p + 4 * (k : Int) + 2 by omega] at e2 v2
  have m1 : num b (p + 4 * (k : Int)) = some (u16 b (p + 4 * (k : Int))) := if_neg (by omega)
  have m2 : num b (p + 4 * (k : Int) + 2) = some (u16 b (p + 4 * (k : Int) + 2)) := if_neg (by omega)
  rw [Qf, if_pos (by omega), w64 (x := 2 * (k : Int)) (by omega) (by omega), atI_of (by omega) e1, Option.bind_some, w64 (x := 2 * (k : Int) + 1) (by omega) (by omega), atI_of (by omega) e2, Option.bind_some]
  simp only [acts, m1, m2, Option.bind_some]
  by_cases h : u16 b (p + 4 * (k : Int)) < long
  ·
   rw [if_neg (by omega), if_pos h, if_pos (by omega), w64 (x := (k : Int) + 1) (by omega) (by omega), show (k : Int) + 1 = ((k + 1 : Nat) : Int) by omega, ih (k + 1) n _ (by omega) (by omega) (by simp; omega), show p + 4 * ((k + 1 : Nat) : Int) = p + 4 * (k : Int) + 4 by omega]
   cases acts b long d (p + 4 * (k : Int) + 4) with
   | none => rfl
   | some r => simp
  ·
   rw [if_pos (by omega), if_neg h]
section
variable {N : Nat} (hN : 1000000000000 < N) {b : List Int} (hb : Bytes b) (hl : b.length ≤ 1000000)
include hN hb hl
theorem rRow_L1 {p : Int} (hp : p ≤ 100000000) (hp' : -100000000 ≤ p) {m : Nat} (hm : m ≤ 1000000) : ∀ (d k n : Nat) (s : List Int), k + d = m → d < n → s.length ≤ k →
  Qc N b p (m : Int) n k s = some (if (∀ x ∈ (row16 b p m).drop k, 0 ≤ x) then .inl (s ++ (row16 b p m).drop k) else .inr ()) := by
 intro d
 induction d with
 | zero =>
  intro k n s hk hn hs
  obtain ⟨n, rfl⟩ : ∃ x, n = x + 1 := ⟨n - 1, by omega⟩
  rw [Qc, if_neg (by omega), List.drop_eq_nil_of_le (by rw [Ja]; omega)]
  simp
 | succ d ih =>
  intro k n s hk hn hs
  obtain ⟨n, rfl⟩ : ∃ x, n = x + 1 := ⟨n - 1, by omega⟩
  rw [Qc, if_pos (by omega), w64 (x := 2 * (k : Int)) (by omega) (by omega), w64 (x := p + 2 * (k : Int)) (by omega) (by omega), Yj hN hb (by omega) _ (by omega), Option.bind_some, Xp6 (by omega)]
  by_cases h : u16 b (p + 2 * (k : Int)) < 0
  ·
   rw [if_pos h, if_neg]
   intro hh
   have := hh _ (List.mem_cons_self)
   omega
  ·
   rw [if_neg h, if_pos (by omega), w64 (x := (k : Int) + 1) (by omega) (by omega), show (k : Int) + 1 = ((k + 1 : Nat) : Int) by omega, ih (k + 1) n _ (by omega) (by omega) (by simp; omega)]
   by_cases h2 : ∀ x ∈ (row16 b p m).drop (k + 1), 0 ≤ x
   ·
    rw [if_pos h2, if_pos]
    ·
     simp
    ·
     intro x hx
     rcases List.mem_cons.1 hx with rfl | hx
     ·
      omega
     ·
      exact h2 x hx
   ·
    rw [if_neg h2, if_neg]
    exact fun hh => h2 fun x hx => hh x (List.mem_cons_of_mem _ hx)
theorem Xbo {p n : Int} (hp : p ≤ 100000000) (hp' : -100000000 ≤ p) (hn : n ≤ 1000000) : Qd N b p n = some (rowR b p n) := by
 unfold Qd
 by_cases h0 : 0 ≤ n
 ·
  obtain ⟨m, rfl⟩ := Int.eq_ofNat_of_zero_le h0
  have h := rRow_L1 hN hb hl hp hp' (m := m) (by omega) m 0 N [] (by omega) (by omega) (by simp)
  rw [List.drop_zero, List.nil_append] at h
  rw [show Qc N b p (m : Int) N 0 [] = _ from h, Option.bind_some]
  unfold rowR
  rw [Int.toNat_natCast]
  by_cases h2 : ∀ x ∈ row16 b p m, 0 ≤ x
  ·
   rw [if_pos h2, if_pos h2]
  ·
   rw [if_neg h2, if_neg h2]
 ·
  obtain ⟨M, rfl⟩ : ∃ x, N = x + 1 := ⟨N - 1, by omega⟩
  rw [Qc, if_neg (by omega), Option.bind_some]
  unfold rowR
  rw [show n.toNat = 0 by omega]
  simp [row16]
theorem Xgw {p n long : Int} (hp : p ≤ 1000000) (hp' : -1000000 ≤ p) (h0 : 0 ≤ n) (hn : n ≤ 16) : QV N b p n long = some (match acts b long n.toNat p with | some r => (r.1, true) | none => ([], false)) := by
 obtain ⟨m, rfl⟩ := Int.eq_ofNat_of_zero_le h0
 unfold QV
 rw [w64 (x := 2 * (m : Int)) (by omega) (by omega), Xbo hN hb hl (by omega) (by omega) (by omega), Option.bind_some]
 unfold rowR
 rw [show (2 * (m : Int)).toNat = 2 * m by omega, Int.toNat_natCast]
 by_cases h : ∀ x ∈ row16 b p (2 * m), 0 ≤ x
 ·
  rw [if_pos h]
  simp only [if_true]
  rw [if_neg (by omega), if_neg (by omega)]
  have e := rActs_L1 (N := N) (long := long) (m := m) (by omega) h m 0 N [] (by omega) (by omega) (by simp)
  rw [show p + 4 * ((0 : Nat) : Int) = p by omega] at e
  rw [show Qf N (m : Int) long (row16 b p (2 * m)) N 0 [] = _ from e, Option.bind_some]
  cases acts b long m p <;> rfl
 ·
  rw [if_neg h]
  simp only [Bool.false_eq_true, if_false]
  cases e : acts b long m p with
  | none => rfl
  | some r =>
   obtain ⟨l, q⟩ := r
   have a := Xcg hb e
   exfalso
   apply h
   intro x hx
   obtain ⟨k, hk, rfl⟩ := Xbv hx
   have a4 := a.2.2.2
   have n1 := not_congr (Yr hb (i := p + 2 * (k : Int)))
   have : ¬ u16 b (p + 2 * (k : Int)) < 0 := by rw [n1]; omega
   omega
def seqM (b : List Int) (p lo cut : Int) : Option (List Int × Int) := (cntr b p lo 16).bind fun n => (row b (p + 2) (n - cut)).bind fun l => some (l, p + 2 + (n - cut) * 2)
theorem Xck {p lo cut : Int} (hp : p ≤ 1000000) (hp' : -1000000 ≤ p) (hc : 0 ≤ cut) (hlo : cut ≤ lo) (h16 : lo ≤ 16) : ∃ l q ok, Zt N b p lo cut = some (l, q, ok) ∧ (match seqM b p lo cut with | some r => l = r.1 ∧ q = r.2 ∧ ok = true | none => l = [] ∧ ok = false) := by
 unfold Zt seqM cntr num
 rw [Yj hN hb (by omega) p (by omega), Option.bind_some]
 have r := XL hb p
 by_cases h1 : u16 b p < lo
 ·
  rw [if_pos h1]
  refine ⟨_, _, _, rfl, ?_⟩
  by_cases h2 : u16 b p < 0
  ·
   rw [if_pos h2]; exact ⟨rfl, rfl⟩
  ·
   rw [if_neg h2, Option.bind_some, if_neg (by omega)]; exact ⟨rfl, rfl⟩
 ·
  rw [if_neg h1, if_neg (show ¬ u16 b p < 0 by omega), Option.bind_some]
  by_cases h3 : 16 < u16 b p
  ·
   rw [if_pos h3, if_neg (by omega)]
   exact ⟨_, _, _, rfl, rfl, rfl⟩
  ·
   have hin := (not_congr (Yr hb (i := p))).1 (by omega)
   rw [if_neg h3, if_pos (by omega), Option.bind_some, w64 (x := p + 2) (by omega) (by omega), w64 (x := u16 b p - cut) (by omega) (by omega), w64 (x := 2 * (u16 b p - cut)) (by omega) (by omega), w64 (x := p + 2 + 2 * (u16 b p - cut)) (by omega) (by omega),
    Xbo hN hb hl (by omega) (by omega) (by omega), Option.bind_some, Xah hb (by omega) (by omega) (by omega)]
   cases row b (p + 2) (u16 b p - cut) with
   | none => exact ⟨_, _, _, rfl, rfl, rfl⟩
   | some l => exact ⟨_, _, _, rfl, rfl, by simp only; omega, rfl⟩
theorem Xp8 {base : Int} (h0 : -1000000 ≤ base) (h1 : base ≤ 1000000) {l : List Int} (hx : ∀ x ∈ l, 0 ≤ x ∧ x ≤ 65535) (hll : l.length ≤ 1000000) : ∀ (d k n : Nat) (s : List TSet), k + d = l.length → d < n → s.length ≤ k →
  Zc N b base l n k s = some (match covs N b base (l.drop k) with | some r => .inl (s ++ r) | none => .inr ()) := by
 intro d
 induction d with
 | zero =>
  intro k n s hk hn hs
  obtain ⟨n, rfl⟩ : ∃ x, n = x + 1 := ⟨n - 1, by omega⟩
  rw [Zc, if_neg (by omega), List.drop_eq_nil_of_le (by omega)]
  simp [covs]
 | succ d ih =>
  intro k n s hk hn hs
  obtain ⟨n, rfl⟩ : ∃ x, n = x + 1 := ⟨n - 1, by omega⟩
  have hkl : k < l.length := by omega
  have hb2 := hx l[k] (List.getElem_mem hkl)
  rw [Zc, if_pos (by omega), XY (List.getElem?_eq_getElem hkl), Option.bind_some, w64 (x := base + l[k]) (by omega) (by omega), (Xis hN hb (by omega) (base + l[k]) (by omega) (by omega)).2.1, Option.bind_some, List.drop_eq_getElem_cons hkl]
  simp only [covs, cov]
  cases hc : covOk b (base + l[k]) with
  | false => rfl
  | true =>
   simp only [if_true, Option.bind_some]
   rw [if_pos (by omega), w64 (x := (k : Int) + 1) (by omega) (by omega), show (k : Int) + 1 = ((k + 1 : Nat) : Int) by omega, ih (k + 1) n _ (by omega) (by omega) (by simp; omega)]
   cases covs N b base (l.drop (k + 1)) with
   | none => rfl
   | some r => simp
theorem Ji {base : Int} (h0 : -1000000 ≤ base) (h1 : base ≤ 1000000) {l : List Int} (hx : ∀ x ∈ l, 0 ≤ x ∧ x ≤ 65535) (hll : l.length ≤ 1000000) : Qe N b base l = some (match covs N b base l with | some r => (r, true) | none => ([], false)) := by
 unfold Qe
 have h := Xp8 hN hb hl h0 h1 hx hll l.length 0 N [] (by omega) (by omega) (by simp)
 rw [List.drop_zero] at h
 rw [show Zc N b base l N 0 [] = _ from h, Option.bind_some]
 cases covs N b base l with
 | none => rfl
 | some r => rfl
end
theorem Qz {b : List Int} (hb : Bytes b) {p lo cut : Int} {l : List Int} {q : Int} (h : seqM b p lo cut = some (l, q)) (hc : 0 ≤ cut) (hlo : cut ≤ lo) : ∃ n, cntr b p lo 16 = some n ∧ row b (p + 2) (n - cut) = some l ∧ q = p + 2 + (n - cut) * 2 ∧ (∀ x ∈ l, 0 ≤ x ∧ x ≤ 65535) ∧ l.length ≤ 16 ∧ 0 ≤ q ∧ q ≤ (b.length : Int) ∧ lo ≤ n ∧ n ≤ 16 ∧ (l.length : Int) = n - cut := by
 unfold seqM at h
 obtain ⟨n, e1, h⟩ := Option.bind_eq_some_iff.1 h
 obtain ⟨l2, e2, h⟩ := Option.bind_eq_some_iff.1 h
 cases h
 have c := XF hb e1
 have r := Xw hb e2
 exact ⟨n, e1, e2, rfl, r.2.2.2.2.2, by omega, by omega, by omega, c.1, c.2.1, r.2.1⟩
theorem cov_chain {N : Nat} {b : List Int} (hb : Bytes b) {P base : Int} : JE N b P base true = (seqM b P 0 0).bind fun r1 => (covs N b base r1.1).bind fun s1 => (seqM b r1.2 1 0).bind fun r2 => (covs N b base r2.1).bind fun s2 => (seqM b r2.2 0 0).bind fun r3 => (covs N b base r3.1).bind fun s3 =>
  (cntr b r3.2 0 16).bind fun n4 => (acts b (s2.length : Int) n4.toNat (r3.2 + 2)).bind fun a => some ([⟨s1, s2, s3, a.1⟩], a.2) := by
 unfold JE seqM
 rw [if_pos rfl]
 cases e1 : cntr b P 0 16 with
 | none => rfl
 | some n1 =>
  simp only [Option.bind_some, Int.sub_zero]
  cases e2 : row b (P + 2) n1 with
  | none => rfl
  | some l1 =>
   simp only [Option.bind_some]
   cases e3 : covs N b base l1 with
   | none => rfl
   | some s1 =>
    simp only [Option.bind_some]
    cases e4 : cntr b (P + 2 + n1 * 2) 1 16 with
    | none => rfl
    | some n2 =>
     simp only [Option.bind_some]
     cases e5 : row b (P + 2 + n1 * 2 + 2) n2 with
     | none => rfl
     | some l2 =>
      simp only [Option.bind_some]
      cases e6 : covs N b base l2 with
      | none => rfl
      | some s2 =>
       have q1 := Xw hb e5
       have q2 := QN e6
       simp only [Option.bind_some]
       rw [show ((s2.length : Nat) : Int) = n2 by omega]
       cases e7 : cntr b (P + 2 + n1 * 2 + 2 + n2 * 2) 0 16 with
       | none => rfl
       | some n3 =>
        simp only [Option.bind_some]
        cases row b (P + 2 + n1 * 2 + 2 + n2 * 2 + 2) n3 <;> rfl
theorem Xp3 {b : List Int} (hb : Bytes b) {mb mi ma : List Int → List TSet} {t : TSet} {p : Int} : ruleM b mb mi ma t true p = (seqM b p 0 0).bind fun r1 => (seqM b r1.2 1 1).bind fun r2 => (seqM b r2.2 0 0).bind fun r3 =>
  (cntr b r3.2 0 16).bind fun n4 => (acts b (1 + (r2.1.length : Int)) n4.toNat (r3.2 + 2)).bind fun a => some (mb r1.1, t :: mi r2.1, ma r3.1, a.1, a.2) := by
 unfold ruleM seqM
 rw [if_pos rfl]
 cases e1 : cntr b p 0 16 with
 | none => rfl
 | some n1 =>
  simp only [Option.bind_some, Int.sub_zero]
  cases e2 : row b (p + 2) n1 with
  | none => rfl
  | some l1 =>
   simp only [Option.bind_some]
   cases e4 : cntr b (p + 2 + n1 * 2) 1 16 with
   | none => rfl
   | some n2 =>
    simp only [Option.bind_some]
    cases e5 : row b (p + 2 + n1 * 2 + 2) (n2 - 1) with
    | none => rfl
    | some l2 =>
     have q1 := Xw hb e5
     simp only [Option.bind_some]
     rw [show 1 + ((l2.length : Nat) : Int) = n2 by omega]
     cases e7 : cntr b (p + 2 + n1 * 2 + 2 + (n2 - 1) * 2) 0 16 with
     | none => rfl
     | some n3 =>
      simp only [Option.bind_some]
      cases row b (p + 2 + n1 * 2 + 2 + (n2 - 1) * 2 + 2) n3 <;> rfl
def Xg7 (N : Nat) (b : List Int) (P base : Int) : Option (Int × List TSet × List TSet × List TSet) := (seqM b P 0 0).bind fun r1 => (covs N b base r1.1).bind fun s1 => (seqM b r1.2 1 0).bind fun r2 => (covs N b base r2.1).bind fun s2 => (seqM b r2.2 0 0).bind fun r3 => (covs N b base r3.1).bind fun s3 => some (r3.2, s1, s2, s3)
section
variable {N : Nat} (hN : 1000000000000 < N) {b : List Int} (hb : Bytes b) (hl : b.length ≤ 1000000)
include hN hb hl
theorem third_L1 {P base : Int} (h0 : -100000 ≤ base) (h1 : base ≤ 100000) (h2 : -100000 ≤ P) (h3 : P ≤ 100000) {M : Nat} : Yl N b base (M + 4) P 0 [] [] [] = some (match Xg7 N b P base with | some r => .inl r | none => .inr ()) := by
 unfold Xg7
 rw [Yl, if_pos (by decide), if_neg (by decide)]
 obtain ⟨l, q, ok, e, hs⟩ := Xck hN hb hl (p := P) (lo := 0) (cut := 0) (by omega) (by omega) (by omega) (by omega) (by omega)
 rw [e, Option.bind_some]
 cases s1 : seqM b P 0 0 with
 | none =>
  rw [s1] at hs
  obtain ⟨rfl, rfl⟩ := hs
  simp only
  rw [Ji hN hb hl (by omega) (by omega) (by simp) (by simp), Option.bind_some]
  rfl
 | some r1 =>
  rw [s1] at hs
  obtain ⟨l1, q1⟩ := r1
  obtain ⟨rfl, rfl, rfl⟩ := hs
  obtain ⟨n1, c1, c2, c3, c4, c5, c6, c7, c8, c9, c10⟩ := Qz hb s1 (by omega) (by omega)
  simp only [Option.bind_some]
  rw [Ji hN hb hl (by omega) (by omega) c4 (by omega), Option.bind_some]
  cases v1 : covs N b base l with
  | none => rfl
  | some s1 =>
   simp only [Option.bind_some, if_true]
   rw [show IntKind.i64.wrap (0 + 1) = 1 from rfl, Yl, if_pos (by decide), if_pos rfl]
   obtain ⟨la, qa, ok, e, hs⟩ := Xck hN hb hl (p := q) (lo := 1) (cut := 0) (by omega) (by omega) (by omega) (by omega) (by omega)
   rw [e, Option.bind_some]
   cases s2 : seqM b q 1 0 with
   | none =>
    rw [s2] at hs
    obtain ⟨rfl, rfl⟩ := hs
    simp only
    rw [Ji hN hb hl (by omega) (by omega) (by simp) (by simp), Option.bind_some]
    rfl
   | some r1 =>
    rw [s2] at hs
    obtain ⟨l1, q1⟩ := r1
    obtain ⟨rfl, rfl, rfl⟩ := hs
    obtain ⟨n2, d1, d2, d3, d4, d5, d6, d7, d8, d9, d10⟩ := Qz hb s2 (by omega) (by omega)
    simp only [Option.bind_some]
    rw [Ji hN hb hl (by omega) (by omega) d4 (by omega), Option.bind_some]
    cases v2 : covs N b base la with
    | none => rfl
    | some s2 =>
     simp only [Option.bind_some, if_true]
     rw [if_neg (by decide), show IntKind.i64.wrap (1 + 1) = 2 from rfl, Yl, if_pos (by decide), if_neg (by decide)]
     obtain ⟨lc, qc, ok, e, hs⟩ := Xck hN hb hl (p := qa) (lo := 0) (cut := 0) (by omega) (by omega) (by omega) (by omega) (by omega)
     rw [e, Option.bind_some]
     cases s3 : seqM b qa 0 0 with
     | none =>
      rw [s3] at hs
      obtain ⟨rfl, rfl⟩ := hs
      simp only
      rw [Ji hN hb hl (by omega) (by omega) (by simp) (by simp), Option.bind_some]
      rfl
     | some r1 =>
      rw [s3] at hs
      obtain ⟨l1, q1⟩ := r1
      obtain ⟨rfl, rfl, rfl⟩ := hs
      obtain ⟨n3, g1, g2, g3, g4, g5, g6, g7, g8, g9, g10⟩ := Qz hb s3 (by omega) (by omega)
      simp only [Option.bind_some]
      rw [Ji hN hb hl (by omega) (by omega) g4 (by omega), Option.bind_some]
      cases v3 : covs N b base lc with
      | none => rfl
      | some s3 =>
       simp only [Option.bind_some, if_true]
       rw [if_neg (by decide), show IntKind.i64.wrap (2 + 1) = 3 from rfl, Yl, if_neg (by decide)]
end
theorem slI4 {b : List Int} {i : Int} (h0 : 0 ≤ i) (h1 : i + 4 ≤ (b.length : Int)) : slI b i (i + 4) = [gb b i, gb b (i + 1), gb b (i + 2), gb b (i + 3)] := by
 have e0 := gb_at h0 (by omega : i < (b.length : Int))
 have e1 := gb_at (by omega : 0 ≤ i + 1) (by omega : i + 1 < (b.length : Int))
 have e2 := gb_at (by omega : 0 ≤ i + 2) (by omega : i + 2 < (b.length : Int))
 have e3 := gb_at (by omega : 0 ≤ i + 3) (by omega : i + 3 < (b.length : Int))
 rw [show (i + 1).toNat = i.toNat + 1 by omega] at e1
 rw [show (i + 2).toNat = i.toNat + 2 by omega] at e2
 rw [show (i + 3).toNat = i.toNat + 3 by omega] at e3
 unfold slI
 rw [show (i + 4).toNat - i.toNat = 4 by omega]
 apply List.ext_getElem?
 intro k
 match k with
 | 0 => simp [List.getElem?_take, List.getElem?_drop, e0]
 | 1 => simp [List.getElem?_take, List.getElem?_drop, e1]
 | 2 => simp [List.getElem?_take, List.getElem?_drop, e2]
 | 3 => simp [List.getElem?_take, List.getElem?_drop, e3]
 | k + 4 => simp [List.getElem?_take]; omega
def u32 (b : List Int) (i : Int) : Int := if 0 ≤ i ∧ i + 4 ≤ (b.length : Int) then ((gb b i * 256 + gb b (i + 1)) * 256 + gb b (i + 2)) * 256 + gb b (i + 3) else -1
theorem u32_neg {b : List Int} (hb : Bytes b) {i : Int} : u32 b i < 0 ↔ ¬ (0 ≤ i ∧ i + 4 ≤ (b.length : Int)) := by
 have h1 := Za hb i; have h2 := Za hb (i + 1); have h3 := Za hb (i + 2); have h4 := Za hb (i + 3)
 unfold u32; split <;> omega
theorem U32_eq {N : Nat} (hN : 1000000000000 < N) {b : List Int} (hb : Bytes b) (hl : b.length ≤ 1000000000) (i : Int) (hi : i ≤ 1000000000000) : Xc4 N b i = some (if u32 b i < 0 then (0, false) else (u32 b i, true)) := by
 unfold Xc4 Xau
 rw [Xg4 hl, Option.bind_some]
 by_cases h : 0 ≤ i ∧ i + 4 ≤ (b.length : Int)
 ·
  have hu : u32 b i = ((gb b i * 256 + gb b (i + 1)) * 256 + gb b (i + 2)) * 256 + gb b (i + 3) := if_pos h
  have h1 := Za hb i; have h2 := Za hb (i + 1); have h3 := Za hb (i + 2); have h4 := Za hb (i + 3)
  have hn : ¬ u32 b i < 0 := by omega
  rw [if_pos (by simp; omega), if_pos h.1, w64 (by omega) (by omega), if_pos (by omega), if_pos h.2, slI4 h.1 h.2, number4 hN h1 h2 h3 h4, if_neg hn, hu]
  rfl
 ·
  have hn : u32 b i < 0 := (u32_neg hb).2 h
  rw [if_neg (by simp; omega), if_pos hn]
  rfl
end Go.Proofs.Ytcbhlpbkampfeaa.AI
