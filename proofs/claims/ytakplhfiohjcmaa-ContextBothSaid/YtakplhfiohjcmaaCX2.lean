/- Part of a proof. -/
import Derived.Test.YtakplhfiohjcmaaCX1
set_option linter.unusedVariables false
set_option linter.unusedSimpArgs false
set_option maxRecDepth 100000
namespace Go.Proofs.Ytakplhfiohjcmaa.AI
def pt (o : List TSpan) (a b : Int) : List TSpan := if a ≤ b then jn o ⟨a, b⟩ else o
def wth (k : Int) : List TClass → List TSpan → List TSpan
 | [], o => o
 | c :: r, o => wth k r (if k = 0 ∨ c.Class = k then jn o ⟨c.From, c.To⟩ else o)
def stY (nt : Bool) (x : TSpan) (p : List TSpan × Int) (y : TSpan) : List TSpan × Int :=
 if y.To < x.From ∨ y.From > x.To then p else (match nt with | true => pt p.1 p.2 (y.From - 1) | false => pt p.1 (max p.2 y.From) (min x.To y.To), y.To + 1)
def inB (nt : Bool) (x : TSpan) : List TSpan → List TSpan × Int → List TSpan × Int
 | [], p => p
 | y :: r, p => inB nt x r (stY nt x p y)
def okS (s : TSpan) : Prop := 0 ≤ s.From ∧ s.From ≤ s.To ∧ s.To ≤ 65535
def okO (o : List TSpan) : Prop := ∀ x ∈ o, 0 ≤ x.To ∧ x.To ≤ 65535
theorem pt_ok {o : List TSpan} {a b : Int} (h : okO o) (h0 : 0 ≤ a) (h1 : b ≤ 65535) : okO (pt o a b) := by
  unfold pt
  split
  · exact jn_b h ⟨by simp only; omega, h1⟩
  · exact h
theorem pt_len (o : List TSpan) (a b : Int) : (pt o a b).length ≤ o.length + 1 := by
  unfold pt
  split
  · exact jn_len _ _
  · omega
def stX (nt : Bool) (ys : List TSpan) (o : List TSpan) (x : TSpan) : List TSpan := match nt with
 | true => pt (inB true x ys (o, x.From)).1 (inB true x ys (o, x.From)).2 x.To
 | false => (inB false x ys (o, x.From)).1
def ouB (nt : Bool) (ys : List TSpan) : List TSpan → List TSpan → List TSpan
 | [], o => o
 | x :: r, o => ouB nt ys r (stX nt ys o x)
theorem stY_ok {nt : Bool} {x y : TSpan} {p : List TSpan × Int} (hx : okS x) (hy : okS y) (h : okO p.1) (h0 : 0 ≤ p.2) (h1 : p.2 ≤ 65536) : okO (stY nt x p y).1 ∧ 0 ≤ (stY nt x p y).2 ∧ (stY nt x p y).2 ≤ 65536 ∧ (stY nt x p y).1.length ≤ p.1.length + 1 := by
 obtain ⟨y1, y2, y3⟩ := hy
 obtain ⟨x1, x2, x3⟩ := hx
 unfold stY
 split
 ·
  exact ⟨h, h0, h1, by omega⟩
 ·
  cases nt with
  | true => exact ⟨pt_ok h h0 (by omega), by simp only; omega, by simp only; omega, pt_len _ _ _⟩
  | false => exact ⟨pt_ok h (by omega) (by omega), by simp only; omega, by simp only; omega, pt_len _ _ _⟩
theorem inB_ok {nt : Bool} {x : TSpan} (hx : okS x) : ∀ {ys : List TSpan} {p : List TSpan × Int}, (∀ y ∈ ys, okS y) → okO p.1 → 0 ≤ p.2 → p.2 ≤ 65536 → okO (inB nt x ys p).1 ∧ 0 ≤ (inB nt x ys p).2 ∧ (inB nt x ys p).2 ≤ 65536 ∧ (inB nt x ys p).1.length ≤ p.1.length + ys.length
 | [], p, _, h, h0, h1 => ⟨h, h0, h1, by simp [inB]⟩
 | y :: r, p, hy, h, h0, h1 => by
  obtain ⟨g1, g2, g3, g4⟩ := stY_ok (nt := nt) hx (hy y List.mem_cons_self) h h0 h1
  obtain ⟨k1, k2, k3, k4⟩ := inB_ok hx (fun z hz => hy z (List.mem_cons_of_mem _ hz)) g1 g2 g3
  exact ⟨k1, k2, k3, by simp only [inB, List.length_cons]; omega⟩
theorem stX_ok {nt : Bool} {x : TSpan} (hx : okS x) {ys o : List TSpan} (hy : ∀ y ∈ ys, okS y) (h : okO o) : okO (stX nt ys o x) ∧ (stX nt ys o x).length ≤ o.length + ys.length + 1 := by
 have h2 := inB_ok (nt := nt) hx (p := (o, x.From)) hy h hx.1 (by have := hx.2.1; have := hx.2.2; simp only; omega)
 unfold stX
 cases nt with
 | true => exact ⟨pt_ok h2.1 h2.2.1 hx.2.2, by have := pt_len (inB true x ys (o, x.From)).1 (inB true x ys (o, x.From)).2 x.To; have := h2.2.2.2; simp only at this ⊢; omega⟩
 | false => exact ⟨h2.1, by have := h2.2.2.2; simp only at this ⊢; omega⟩
def CL : Int → List TClass → Prop
 | _, [] => True
 | lo, c :: r => lo ≤ c.From ∧ c.From ≤ c.To ∧ c.To ≤ 65535 ∧ 1 ≤ c.Class ∧ CL (c.To + 1) r
theorem CL.low : ∀ {l : List TClass} {lo : Int}, CL lo l → ∀ c ∈ l, lo ≤ c.From ∧ c.From ≤ c.To ∧ c.To ≤ 65535 ∧ 1 ≤ c.Class
 | [], lo, _, c, hc => by cases hc
 | x :: r, lo, h, c, hc => by
  rcases List.mem_cons.1 hc with rfl | hc
  ·
   exact ⟨h.1, h.2.1, h.2.2.1, h.2.2.2.1⟩
  ·
   have := CL.low h.2.2.2.2 c hc
   have := h.1; have := h.2.1
   omega
theorem wth_spec {k : Int} : ∀ {m : List TClass} {lo : Int} {o : List TSpan}, CL lo m → 0 ≤ lo → RL 0 o → (∀ x ∈ o, x.To < lo) →
  RL 0 (wth k m o) ∧ (∀ g, inn (wth k m o) g ↔ inn o g ∨ ∃ c ∈ m, (k = 0 ∨ c.Class = k) ∧ c.From ≤ g ∧ g ≤ c.To) ∧ (wth k m o).length ≤ o.length + m.length
 | [], lo, o, _, _, ho, _ => ⟨ho, fun g => by simp [wth], by simp [wth]⟩
 | c :: r, lo, o, h, h0, ho, hb => by
  obtain ⟨h1, h2, h3, h4, h5⟩ := h
  simp only [wth]
  by_cases hk : k = 0 ∨ c.Class = k
  ·
   rw [if_pos hk]
   obtain ⟨j1, j2, j3, j4, j5⟩ := jn_spec (s := ⟨c.From, c.To⟩) ho (fun x hx => by have := hb x hx; simp only; omega) (by simp only; omega) h2 h3
   obtain ⟨g1, g2, g3⟩ := wth_spec (k := k) h5 (by omega) j1 (fun x hx => by have := j2 x hx; simp only at this; omega)
   refine ⟨g1, fun g => ?_, by simp only [List.length_cons]; omega⟩
   rw [g2, j4]
   simp only [List.mem_cons]
   constructor
   ·
    rintro ((h | h) | ⟨c', hc, h⟩)
    ·
     exact .inl h
    ·
     exact .inr ⟨c, .inl rfl, hk, h⟩
    ·
     exact .inr ⟨c', .inr hc, h⟩
   ·
    rintro (h | ⟨c', rfl | hc, h⟩)
    ·
     exact .inl (.inl h)
    ·
     exact .inl (.inr h.2)
    ·
     exact .inr ⟨c', hc, h⟩
  ·
   rw [if_neg hk]
   obtain ⟨g1, g2, g3⟩ := wth_spec (k := k) h5 (by omega) ho (fun x hx => by have := hb x hx; omega)
   refine ⟨g1, fun g => ?_, by simp only [List.length_cons]; omega⟩
   rw [g2]
   simp only [List.mem_cons]
   constructor
   ·
    rintro (h | ⟨c', hc, h⟩)
    ·
     exact .inl h
    ·
     exact .inr ⟨c', .inr hc, h⟩
   ·
    rintro (h | ⟨c', rfl | hc, h⟩)
    ·
     exact .inl h
    ·
     exact (hk h.1).elim
    ·
     exact .inr ⟨c', hc, h⟩
theorem pt_spec {o : List TSpan} {a b : Int} (h : RL 0 o) (hb : ∀ z ∈ o, z.To < a) (h0 : 0 ≤ a) (h1 : b ≤ 65535) :
  RL 0 (pt o a b) ∧ (∀ z ∈ pt o a b, z.To ≤ b ∨ z.To < a) ∧ cnt (pt o a b) = cnt o + max 0 (b - a + 1) ∧ ∀ g, inn (pt o a b) g ↔ inn o g ∨ (a ≤ g ∧ g ≤ b) := by
 unfold pt
 by_cases hab : a ≤ b
 ·
  rw [if_pos hab]
  obtain ⟨j1, j2, j3, j4, j5⟩ := jn_spec (s := ⟨a, b⟩) h (fun x hx => hb x hx) h0 hab h1
  exact ⟨j1, fun z hz => .inl (j2 z hz), by rw [j3]; simp only; omega, j4⟩
 ·
  rw [if_neg hab]
  refine ⟨h, fun z hz => .inr (hb z hz), by omega, fun g => ?_⟩
  constructor
  ·
   exact .inl
  ·
   rintro (h | h)
   ·
    exact h
   ·
    omega
theorem inn_cons {y : TSpan} {r : List TSpan} {g : Int} : inn (y :: r) g ↔ (y.From ≤ g ∧ g ≤ y.To) ∨ inn r g := by
  simp only [inn, List.mem_cons]
  constructor
  · rintro ⟨z, rfl | hz, h⟩
    · exact .inl h
    · exact .inr ⟨z, hz, h⟩
  · rintro (h | ⟨z, hz, h⟩)
    · exact ⟨y, .inl rfl, h⟩
    · exact ⟨z, .inr hz, h⟩
theorem inn_low {r : List TSpan} {lo g : Int} (h : RL lo r) (hg : inn r g) : lo ≤ g := by
 obtain ⟨z, hz, h1, h2⟩ := hg
 have := RL.lows h z hz
 omega
theorem inB_false {x : TSpan} (hx : okS x) : ∀ {ys : List TSpan} {lo at_ : Int} {o : List TSpan}, RL lo ys → RL 0 o → (∀ z ∈ o, z.To < at_ ∧ z.To ≤ x.To) → x.From ≤ at_ → (at_ = x.From ∨ at_ ≤ lo) →
  RL 0 (inB false x ys (o, at_)).1 ∧ (∀ z ∈ (inB false x ys (o, at_)).1, z.To ≤ x.To) ∧ cnt (inB false x ys (o, at_)).1 ≤ cnt o + (x.To + 1 - min at_ (x.To + 1)) ∧ ∀ g, inn (inB false x ys (o, at_)).1 g ↔ inn o g ∨ (x.From ≤ g ∧ g ≤ x.To ∧ inn ys g)
 | [], lo, at_, o, _, ho, hz, _, _ => ⟨ho, fun z h => (hz z h).2, by simp only [inB]; omega, fun g => by simp [inB, inn]⟩
 | y :: r, lo, at_, o, h, ho, hz, ha, hat => by
  obtain ⟨h1, h2, h3, h4⟩ := h
  obtain ⟨x1, x2, x3⟩ := hx
  simp only [inB]
  by_cases hs : y.To < x.From ∨ y.From > x.To
  ·
   have e : stY false x (o, at_) y = (o, at_) := if_pos hs
   rw [e]
   obtain ⟨g1, g2, g3, g4⟩ := inB_false ⟨x1, x2, x3⟩ h4 ho hz ha (by omega)
   refine ⟨g1, g2, g3, fun g => ?_⟩
   rw [g4, inn_cons]
   constructor
   ·
    rintro (h | ⟨h5, h6, h7⟩)
    ·
     exact .inl h
    ·
     exact .inr ⟨h5, h6, .inr h7⟩
   ·
    rintro (h | ⟨h5, h6, h7 | h7⟩)
    ·
     exact .inl h
    ·
     omega
    ·
     exact .inr ⟨h5, h6, h7⟩
  ·
   have e : stY false x (o, at_) y = (pt o (max at_ y.From) (min x.To y.To), y.To + 1) := if_neg hs
   rw [e]
   obtain ⟨p1, p2, p3, p4⟩ := pt_spec (a := max at_ y.From) (b := min x.To y.To) ho (fun z h => by have := hz z h; omega) (by omega) (by omega)
   obtain ⟨g1, g2, g3, g4⟩ := inB_false (ys := r) (lo := y.To + 2) (at_ := y.To + 1) ⟨x1, x2, x3⟩ h4 p1 (fun z h => by
    have := p2 z h
    by_cases hm : z ∈ o
    ·
     have := hz z hm; omega
    ·
     have : z.To ≤ min x.To y.To := by
      unfold pt at h
      split at h
      ·
       obtain ⟨_, j2, _⟩ := jn_spec (s := ⟨max at_ y.From, min x.To y.To⟩) ho (fun x hx => by have := hz x hx; simp only; omega) (by simp only; omega) ‹_› (by simp only; omega)
       exact j2 z h
      ·
       exact (hm h).elim
     omega) (by omega) (.inr (by omega))
   refine ⟨g1, g2, by rw [p3] at g3; omega, fun g => ?_⟩
   rw [g4, p4, inn_cons]
   constructor
   ·
    rintro ((h | h) | ⟨h5, h6, h7⟩)
    ·
     exact .inl h
    ·
     exact .inr ⟨by omega, by omega, .inl (by omega)⟩
    ·
     exact .inr ⟨h5, h6, .inr h7⟩
   ·
    rintro (h | ⟨h5, h6, h7 | h7⟩)
    ·
     exact .inl (.inl h)
    ·
     exact .inl (.inr (by omega))
    ·
     exact .inr ⟨h5, h6, h7⟩
theorem inB_true {x : TSpan} (hx : okS x) : ∀ {ys : List TSpan} {lo at_ : Int} {o : List TSpan}, RL lo ys → RL 0 o → (∀ z ∈ o, z.To < at_ ∧ z.To ≤ x.To) → x.From ≤ at_ → (at_ = x.From ∨ at_ ≤ lo) →
  RL 0 (inB true x ys (o, at_)).1 ∧ (∀ z ∈ (inB true x ys (o, at_)).1, z.To < (inB true x ys (o, at_)).2 ∧ z.To ≤ x.To) ∧ at_ ≤ (inB true x ys (o, at_)).2 ∧ cnt (inB true x ys (o, at_)).1 ≤ cnt o + (min (inB true x ys (o, at_)).2 (x.To + 1) - min at_ (x.To + 1)) ∧
   (∀ g, inn (inB true x ys (o, at_)).1 g ↔ inn o g ∨ (at_ ≤ g ∧ g ≤ x.To ∧ g < (inB true x ys (o, at_)).2 ∧ ¬ inn ys g)) ∧ ∀ g, (inB true x ys (o, at_)).2 ≤ g → g ≤ x.To → ¬ inn ys g
 | [], lo, at_, o, _, ho, hz, _, _ => ⟨ho, hz, Int.le_refl _, by simp only [inB]; omega, fun g => by
   simp only [inB]
   constructor
   ·
    exact .inl
   ·
    rintro (h | h)
    ·
     exact h
    ·
     omega, fun g _ _ => by simp [inn]⟩
 | y :: r, lo, at_, o, h, ho, hz, ha, hat => by
  obtain ⟨h1, h2, h3, h4⟩ := h
  obtain ⟨x1, x2, x3⟩ := hx
  simp only [inB]
  by_cases hs : y.To < x.From ∨ y.From > x.To
  ·
   have e : stY true x (o, at_) y = (o, at_) := if_pos hs
   rw [e]
   obtain ⟨g1, g2, g3, g4, g5, g6⟩ := inB_true ⟨x1, x2, x3⟩ h4 ho hz ha (by omega)
   refine ⟨g1, g2, g3, g4, fun g => ?_, fun g q1 q2 => ?_⟩
   ·
    rw [g5, inn_cons]
    constructor
    ·
     rintro (h | ⟨h5, h6, h7, h8⟩)
     ·
      exact .inl h
     ·
      exact .inr ⟨h5, h6, h7, by rintro (h9 | h9); omega; exact h8 h9⟩
    ·
     rintro (h | ⟨h5, h6, h7, h8⟩)
     ·
      exact .inl h
     ·
      exact .inr ⟨h5, h6, h7, fun h9 => h8 (.inr h9)⟩
   ·
    rw [inn_cons]
    rintro (h9 | h9)
    ·
     omega
    ·
     exact g6 g q1 q2 h9
  ·
   have e : stY true x (o, at_) y = (pt o at_ (y.From - 1), y.To + 1) := if_neg hs
   rw [e]
   obtain ⟨p1, p2, p3, p4⟩ := pt_spec (a := at_) (b := y.From - 1) ho (fun z h => (hz z h).1) (by omega) (by omega)
   obtain ⟨g1, g2, g3, g4, g5, g6⟩ := inB_true (ys := r) (lo := y.To + 2) (at_ := y.To + 1) ⟨x1, x2, x3⟩ h4 p1 (fun z h => by
    by_cases hm : z ∈ o
    ·
     have := hz z hm; omega
    ·
     have : z.To ≤ y.From - 1 := by
      unfold pt at h
      split at h
      ·
       obtain ⟨_, j2, _⟩ := jn_spec (s := ⟨at_, y.From - 1⟩) ho (fun x hx => (hz x hx).1) (by simp only; omega) ‹_› (by simp only; omega)
       exact j2 z h
      ·
       exact (hm h).elim
     omega) (by omega) (.inr (by omega))
   refine ⟨g1, g2, by omega, by rw [p3] at g4; omega, fun g => ?_, fun g q1 q2 => ?_⟩
   ·
    rw [g5, p4, inn_cons]
    constructor
    ·
     rintro ((h | h) | ⟨h5, h6, h7, h8⟩)
     ·
      exact .inl h
     ·
      refine .inr ⟨h.1, by omega, by omega, ?_⟩
      rintro (h9 | h9)
      ·
       omega
      ·
       have := inn_low h4 h9; omega
     ·
      exact .inr ⟨by omega, h6, h7, by rintro (h9 | h9); omega; exact h8 h9⟩
    ·
     rintro (h | ⟨h5, h6, h7, h8⟩)
     ·
      exact .inl (.inl h)
     ·
      by_cases hg : g < y.From
      ·
       exact .inl (.inr ⟨h5, by omega⟩)
      ·
       refine .inr ⟨?_, h6, h7, fun h9 => h8 (.inr h9)⟩
       have : ¬ (y.From ≤ g ∧ g ≤ y.To) := fun h9 => h8 (.inl h9)
       omega
   ·
    rw [inn_cons]
    rintro (h9 | h9)
    ·
     omega
    ·
     exact g6 g q1 q2 h9
theorem stX_spec {nt : Bool} {ys o : List TSpan} {x : TSpan} (hx : okS x) (hy : RL 0 ys) (ho : RL 0 o) (hz : ∀ z ∈ o, z.To < x.From) :
  RL 0 (stX nt ys o x) ∧ (∀ z ∈ stX nt ys o x, z.To ≤ x.To) ∧ cnt (stX nt ys o x) ≤ cnt o + (x.To - x.From + 1) ∧ ∀ g, inn (stX nt ys o x) g ↔ inn o g ∨ (x.From ≤ g ∧ g ≤ x.To ∧ (inn ys g ↔ nt = false)) := by
 have ⟨x1, x2, x3⟩ := hx
 cases nt with
 | false =>
  obtain ⟨g1, g2, g3, g4⟩ := inB_false hx hy ho (at_ := x.From) (fun z h => by have := hz z h; omega) (Int.le_refl _) (.inl rfl)
  refine ⟨g1, g2, by simp only [stX]; omega, fun g => ?_⟩
  simp only [stX]
  rw [g4]
  simp
 | true =>
  obtain ⟨g1, g2, g3, g4, g5, g6⟩ := inB_true hx hy ho (at_ := x.From) (fun z h => by have := hz z h; omega) (Int.le_refl _) (.inl rfl)
  obtain ⟨p1, p2, p3, p4⟩ := pt_spec (a := (inB true x ys (o, x.From)).2) (b := x.To) g1 (fun z h => (g2 z h).1) (by omega) (by omega)
  refine ⟨p1, fun z h => ?_, by simp only [stX]; rw [p3]; omega, fun g => ?_⟩
  ·
   simp only [stX] at h
   by_cases hm : z ∈ (inB true x ys (o, x.From)).1
   ·
    exact (g2 z hm).2
   ·
    unfold pt at h
    split at h
    ·
     obtain ⟨_, j2, _⟩ := jn_spec (s := ⟨(inB true x ys (o, x.From)).2, x.To⟩) g1 (fun z h => (g2 z h).1) (by simp only; omega) ‹_› (by simp only; omega)
     exact j2 z h
    ·
     exact (hm h).elim
  ·
   simp only [stX]
   rw [p4, g5]
   simp only [Bool.true_eq_false, iff_false]
   constructor
   ·
    rintro ((h | ⟨h1, h2, h3, h4⟩) | ⟨h1, h2⟩)
    ·
     exact .inl h
    ·
     exact .inr ⟨h1, h2, h4⟩
    ·
     exact .inr ⟨by omega, h2, g6 g h1 h2⟩
   ·
    rintro (h | ⟨h1, h2, h3⟩)
    ·
     exact .inl (.inl h)
    ·
     by_cases hg : g < (inB true x ys (o, x.From)).2
     ·
      exact .inl (.inr ⟨h1, h2, hg, h3⟩)
     ·
      exact .inr ⟨by omega, h2⟩
theorem ouB_spec {nt : Bool} {ys : List TSpan} (hy : RL 0 ys) : ∀ {l : List TSpan} {lo : Int} {o : List TSpan}, RL lo l → 0 ≤ lo → RL 0 o → (∀ z ∈ o, z.To < lo) →
  RL 0 (ouB nt ys l o) ∧ cnt (ouB nt ys l o) ≤ cnt o + cnt l ∧ ∀ g, inn (ouB nt ys l o) g ↔ inn o g ∨ (inn l g ∧ (inn ys g ↔ nt = false))
 | [], lo, o, _, _, ho, _ => ⟨ho, by simp [ouB, cnt], fun g => by simp [ouB, inn]⟩
 | x :: r, lo, o, h, h0, ho, hz => by
  obtain ⟨h1, h2, h3, h4⟩ := h
  simp only [ouB]
  obtain ⟨s1, s2, s3, s4⟩ := stX_spec (nt := nt) (x := x) ⟨by omega, h2, h3⟩ hy ho (fun z h => by have := hz z h; omega)
  obtain ⟨g1, g2, g3⟩ := ouB_spec hy h4 (by omega) s1 (fun z h => by have := s2 z h; omega)
  refine ⟨g1, by simp only [cnt]; omega, fun g => ?_⟩
  rw [g3, s4, inn_cons]
  constructor
  ·
   rintro ((h | ⟨h5, h6, h7⟩) | ⟨h5, h6⟩)
   ·
    exact .inl h
   ·
    exact .inr ⟨.inl ⟨h5, h6⟩, h7⟩
   ·
    exact .inr ⟨.inr h5, h6⟩
  ·
   rintro (h | ⟨h5 | h5, h6⟩)
   ·
    exact .inl (.inl h)
   ·
    exact .inl (.inr ⟨h5.1, h5.2, h6⟩)
   ·
    exact .inr ⟨h5, h6⟩
end Go.Proofs.Ytakplhfiohjcmaa.AI
