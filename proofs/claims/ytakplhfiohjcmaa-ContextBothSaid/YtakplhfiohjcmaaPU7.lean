/- Part of a proof. -/
import Derived.Test.YtakplhfiohjcmaaPU6
set_option linter.unusedVariables false
set_option linter.unusedSimpArgs false
namespace Go.Proofs.Ytakplhfiohjcmaa.AI

def KL : Int → Int → List TClass → Prop
 | _, _, [] => True
 | lo, pc, x :: r => lo ≤ x.From ∧ x.From ≤ x.To ∧ x.To ≤ 65535 ∧ 1 ≤ x.Class ∧ (x.From = lo → x.Class ≠ pc) ∧ KL (x.To + 1) x.Class r
def cof : List TClass → Int → Int
 | [], _ => 0
 | x :: r, g => if x.From ≤ g ∧ g ≤ x.To then x.Class else cof r g
theorem KL.lows : ∀ {l : List TClass} {lo pc : Int}, KL lo pc l → ∀ y ∈ l, lo ≤ y.From ∧ y.From ≤ y.To ∧ y.To ≤ 65535 ∧ 1 ≤ y.Class
 | [], _, _, _, y, hy => by cases hy
 | x :: r, lo, pc, h, y, hy => by
  obtain ⟨h1, h2, h3, h4, h5, h6⟩ := h
  rcases List.mem_cons.1 hy with rfl | hy
  ·
   exact ⟨h1, h2, h3, h4⟩
  ·
   have := KL.lows h6 y hy; omega
theorem KL.snoc {s : TClass} (s1 : s.From ≤ s.To) (s2 : s.To ≤ 65535) (s3 : 1 ≤ s.Class) : ∀ {l : List TClass} {lo pc : Int}, KL lo pc l → (∀ x ∈ l, x.To < s.From) → lo ≤ s.From → (l = [] → s.From = lo → s.Class ≠ pc) → (∀ x, l.getLast? = some x → x.To + 1 = s.From → x.Class ≠ s.Class) → KL lo pc (l ++ [s])
 | [], lo, pc, _, _, h1, h2, _ => ⟨h1, s1, s2, s3, h2 rfl, trivial⟩
 | x :: r, lo, pc, h, hx, h1, h2, h3 => by
  obtain ⟨g1, g2, g3, g4, g5, g6⟩ := h
  have := hx x List.mem_cons_self
  refine ⟨g1, g2, g3, g4, g5, KL.snoc s1 s2 s3 g6 (fun y hy => hx y (List.mem_cons_of_mem _ hy)) (by omega) ?_ ?_⟩
  ·
   intro hr he
   subst hr
   exact (h3 x rfl he.symm).symm
  ·
   intro y hy
   refine h3 y ?_
   cases r with
   | nil => simp at hy
   | cons z r => simpa using hy
theorem KL.ext {x : TClass} {b : Int} (h1 : x.To ≤ b) (h2 : b ≤ 65535) : ∀ {l : List TClass} {lo pc : Int}, KL lo pc (l ++ [x]) → KL lo pc (l ++ [⟨x.From, b, x.Class⟩])
 | [], lo, pc, h => ⟨h.1, by have := h.2.1; simp only; omega, h2, h.2.2.2.1, h.2.2.2.2.1, trivial⟩
 | y :: r, lo, pc, h => ⟨h.1, h.2.1, h.2.2.1, h.2.2.2.1, h.2.2.2.2.1, KL.ext h1 h2 h.2.2.2.2.2⟩
theorem KL.lasts : ∀ {l : List TClass} {lo pc : Int} {x : TClass}, KL lo pc (l ++ [x]) → ∀ y ∈ l, y.To < x.From
 | [], _, _, x, h, y, hy => by cases hy
 | z :: r, lo, pc, x, h, y, hy => by
  rcases List.mem_cons.1 hy with rfl | hy
  ·
   have := KL.lows h.2.2.2.2.2 x (by simp); omega
  ·
   exact KL.lasts h.2.2.2.2.2 y hy
theorem cof_gt : ∀ {l : List TClass} {g : Int}, (∀ x ∈ l, x.To < g ∨ g < x.From) → cof l g = 0
 | [], _, _ => rfl
 | x :: r, g, h => by
  have := h x List.mem_cons_self
  simp only [cof]
  rw [if_neg (by omega)]
  exact cof_gt (fun y hy => h y (List.mem_cons_of_mem _ hy))
theorem cof_snoc {s : TClass} : ∀ {l : List TClass} {g : Int}, (∀ x ∈ l, x.To < s.From) → cof (l ++ [s]) g = if s.From ≤ g ∧ g ≤ s.To then s.Class else cof l g
 | [], g, _ => rfl
 | x :: r, g, h => by
  have := h x List.mem_cons_self
  simp only [List.cons_append, cof]
  rw [cof_snoc (fun y hy => h y (List.mem_cons_of_mem _ hy))]
  by_cases h1 : x.From ≤ g ∧ g ≤ x.To
  ·
   rw [if_pos h1, if_neg (by omega), if_pos h1]
  ·
   rw [if_neg h1, if_neg h1]
theorem KL.uniq : ∀ {l m : List TClass} {lo pc : Int}, KL lo pc l → KL lo pc m → (∀ g, lo ≤ g → cof l g = cof m g) → l = m
 | [], [], _, _, _, _, _ => rfl
 | [], y :: m, lo, pc, _, h, e => by
  obtain ⟨h1, h2, h3, h4, h5, h6⟩ := h
  have := e y.From h1
  simp only [cof] at this
  rw [if_pos ⟨Int.le_refl _, h2⟩] at this; omega
 | x :: l, [], lo, pc, h, _, e => by
  obtain ⟨h1, h2, h3, h4, h5, h6⟩ := h
  have := e x.From h1
  simp only [cof] at this
  rw [if_pos ⟨Int.le_refl _, h2⟩] at this; omega
 | x :: l, y :: m, lo, pc, h, h', e => by
  have zero : ∀ {l : List TClass} {lo pc g : Int}, KL lo pc l → g < lo → cof l g = 0 := fun h hg => cof_gt (fun x hx => by have := KL.lows h x hx; omega)
  have hx := h; have hy := h'
  obtain ⟨h1, h2, h3, h4, h5, h6⟩ := h
  obtain ⟨k1, k2, k3, k4, k5, k6⟩ := h'
  have first : ∀ {x y : TClass} {l m : List TClass} {lo pc : Int}, KL lo pc (x :: l) → KL lo pc (y :: m) → (∀ g, lo ≤ g → cof (x :: l) g = cof (y :: m) g) → y.From ≤ x.From := by
   intro x y l m lo pc h h' e
   rcases Int.lt_or_le x.From y.From with hlt | hle
   ·
    exfalso
    have := e x.From h.1
    have z : cof (y :: m) x.From = 0 := cof_gt (fun z hz => by
     rcases List.mem_cons.1 hz with rfl | hz
     ·
      omega
     ·
      have := KL.lows h'.2.2.2.2.2 z hz; have := h'.2.1; omega)
    rw [z] at this
    simp only [cof] at this
    rw [if_pos ⟨Int.le_refl _, h.2.1⟩] at this
    have := h.2.2.2.1; omega
   ·
    exact hle
  have hf : x.From = y.From := by have := first hx hy e; have := first hy hx (fun g hg => (e g hg).symm); omega
  have hc : x.Class = y.Class := by
   have := e x.From h1
   simp only [cof] at this
   rw [if_pos ⟨Int.le_refl _, h2⟩, if_pos (by omega)] at this
   exact this
  have last : ∀ {x y : TClass} {l m : List TClass} {lo pc : Int}, KL lo pc (x :: l) → KL lo pc (y :: m) → x.From = y.From → x.Class = y.Class → (∀ g, lo ≤ g → cof (x :: l) g = cof (y :: m) g) → x.To ≤ y.To := by
   intro x y l m lo pc h h' hf hc e
   rcases Int.lt_or_le y.To x.To with hlt | hle
   ·
    exfalso
    have h1 := h.1; have h2 := h'.2.1
    have := e (y.To + 1) (by omega)
    simp only [cof] at this
    rw [if_pos (by omega), if_neg (by omega)] at this
    have h6 := h'.2.2.2.2.2
    have h7 := h.2.2.2.1
    cases m with
    | nil => simp only [cof] at this; omega
    | cons z m =>
     obtain ⟨z1, z2, z3, z4, z5, z6⟩ := h6
     simp only [cof] at this
     by_cases hz : z.From ≤ y.To + 1 ∧ y.To + 1 ≤ z.To
     ·
      rw [if_pos hz] at this
      exact z5 (by omega) (by omega)
     ·
      rw [if_neg hz] at this
      have : cof m (y.To + 1) = 0 := cof_gt (fun w hw => by have := KL.lows z6 w hw; omega)
      omega
   ·
    exact hle
  have ht : x.To = y.To := by
   have := last hx hy hf hc e
   have := last hy hx hf.symm hc.symm (fun g hg => (e g hg).symm)
   omega
  have hxy : x = y := by cases x; cases y; simp at hf ht hc; simp [hf, ht, hc]
  subst hxy
  rw [KL.uniq h6 k6 (fun g hg => by
   have := e g (by omega)
   simp only [cof] at this
   rwa [if_neg (by omega), if_neg (by omega)] at this)]

def cl1 (l : List TClass) (s : TClass) : List TClass := if s.Class = 0 then l else match l.getLast? with
 | none => [s]
 | some x => if x.To + 1 = s.From ∧ x.Class = s.Class then l.dropLast ++ [⟨x.From, s.To, x.Class⟩] else l ++ [s]
theorem getLast_atC {l : List TClass} {x : TClass} (h : l.getLast? = some x) : 0 < l.length ∧ l[l.length - 1]? = some x := by
 rw [List.getLast?_eq_getElem?] at h
 exact ⟨by have := (List.getElem?_eq_some_iff.1 h).1; omega, h⟩
theorem split_lastC {l : List TClass} {x : TClass} (h : l.getLast? = some x) : l = l.dropLast ++ [x] := by
 have hne : l ≠ [] := by rintro rfl; simp at h
 have := List.dropLast_concat_getLast hne
 rw [List.getLast?_eq_some_getLast hne] at h
 cases h
 exact this.symm
theorem classed_eq {N : Nat} {l : List TClass} {a c k : Int} (hl : l.length ≤ 1000000000) (ht : ∀ x ∈ l, 0 ≤ x.To ∧ x.To ≤ 65535) : cover_classed_row N l a c k = some (cl1 l ⟨a, c, k⟩) := by
 unfold cover_classed_row cl1
 by_cases hk : k = 0
 ·
  rw [if_pos hk, if_pos hk]
 ·
  rw [if_neg hk, if_neg hk]
  cases hg : l.getLast? with
  | none =>
   have : l = [] := by simpa using hg
   subst this
   rfl
  | some x =>
   obtain ⟨h0, hx⟩ := getLast_atC hg
   have hxt := ht x (List.mem_of_getLast? hg)
   have e : IntKind.i64.wrap ((l.length : Int) - 1) = ((l.length - 1 : Nat) : Int) := by rw [w64 (by omega) (by omega)]; omega
   rw [if_pos (by omega), e, atI_at hx, Option.bind_some, w64 (x := x.To + 1) (by omega) (by omega)]
   by_cases h : x.To + 1 = a
   ·
    rw [if_pos h]
    by_cases h2 : x.Class = k
    ·
     rw [if_pos h2]
     simp only [h, h2, and_self, if_true]
     congr 1
     have hs := split_lastC hg
     have e2 : (((l.length - 1 : Nat) : Int)).toNat = l.dropLast.length := by simp
     rw [e2]
     conv => lhs; rw [hs]
     rw [List.dropLast_concat, List.set_append_right _ _ (Nat.le_refl _)]
     simp [h2]
    ·
     rw [if_neg h2, if_pos (by omega)]
     simp only [h2, and_false, if_false]
   ·
    rw [if_neg h, if_pos (by omega)]
    simp only [h, false_and, if_false]
theorem cl1_spec {l : List TClass} {s : TClass} (h : KL 0 0 l) (hs : ∀ x ∈ l, x.To < s.From) (h0 : 0 ≤ s.From) (h1 : s.From ≤ s.To) (h2 : s.To ≤ 65535) (h3 : 0 ≤ s.Class) :
  KL 0 0 (cl1 l s) ∧ (∀ x ∈ cl1 l s, x.To ≤ s.To) ∧ (cl1 l s).length ≤ l.length + 1 ∧ ∀ g, cof (cl1 l s) g = if s.From ≤ g ∧ g ≤ s.To then s.Class else cof l g := by
 unfold cl1
 by_cases hk : s.Class = 0
 ·
  rw [if_pos hk]
  refine ⟨h, fun x hx => by have := hs x hx; omega, by omega, fun g => ?_⟩
  by_cases hg : s.From ≤ g ∧ g ≤ s.To
  ·
   rw [if_pos hg, hk]
   exact cof_gt (fun x hx => by have := hs x hx; omega)
  ·
   rw [if_neg hg]
 ·
  rw [if_neg hk]
  cases hg : l.getLast? with
  | none =>
   have : l = [] := by simpa using hg
   subst this
   exact ⟨⟨h0, h1, h2, by omega, fun _ => hk, trivial⟩, by simp, by simp, fun g => rfl⟩
  | some x =>
   have hl := split_lastC hg
   have hxm : x ∈ l := List.mem_of_getLast? hg
   have hxs := hs x hxm
   have hxl := KL.lows h x hxm
   simp only
   by_cases he : x.To + 1 = s.From ∧ x.Class = s.Class
   ·
    rw [if_pos he]
    rw [hl] at h
    have hla := KL.lasts h
    refine ⟨KL.ext (by omega) h2 h, ?_, ?_, fun g => ?_⟩
    ·
     intro y hy
     rcases List.mem_append.1 hy with hy | hy
     ·
      have := hs y (by rw [hl]; exact List.mem_append_left _ hy); omega
     ·
      simp at hy; subst hy; simp
    ·
     have := congrArg List.length hl
     simp at this ⊢
    ·
     rw [cof_snoc (s := ⟨x.From, s.To, x.Class⟩) (fun y hy => hla y hy)]
     conv => rhs; rw [hl]
     rw [cof_snoc hla]
     simp only
     by_cases g1 : s.From ≤ g ∧ g ≤ s.To
     ·
      rw [if_pos g1, if_pos (by omega)]; exact he.2
     ·
      rw [if_neg g1]
      by_cases g2 : x.From ≤ g ∧ g ≤ x.To
      ·
       rw [if_pos g2, if_pos (by omega)]
      ·
       rw [if_neg g2, if_neg (by omega)]
   ·
    rw [if_neg he]
    refine ⟨KL.snoc h1 h2 (by omega) h hs h0 (fun e => by subst e; simp at hg) (fun y hy e => ?_), ?_, by simp, fun g => cof_snoc hs⟩
    ·
     rw [hg] at hy
     cases hy
     exact fun e2 => he ⟨e, e2⟩
    ·
     intro y hy
     rcases List.mem_append.1 hy with hy | hy
     ·
      have := hs y hy; omega
     ·
      simp at hy; subst hy; simp
theorem KL.bnd {l : List TClass} (h : KL 0 0 l) : ∀ x ∈ l, 0 ≤ x.To ∧ x.To ≤ 65535 := fun x hx => by have := KL.lows h x hx; omega

def clsOk (b : List Int) (i : Int) : Bool :=
 if u16 b i = 1 then decide (0 ≤ u16 b (i + 4) ∧ u16 b (i + 2) + u16 b (i + 4) ≤ 65536 ∧ i + 6 + 2 * u16 b (i + 4) ≤ (b.length : Int))
 else if u16 b i = 2 then decide (0 ≤ u16 b (i + 2)) && riseZ true (-1) 0 (trips b (i + 4) (u16 b (i + 2)).toNat)
 else false
def clsV (b : List Int) (i g : Int) : Int :=
 if u16 b i = 1 then (if u16 b (i + 2) ≤ g ∧ g < u16 b (i + 2) + u16 b (i + 4) then u16 b (i + 6 + 2 * (g - u16 b (i + 2))) else 0)
 else clsT (trips b (i + 4) (u16 b (i + 2)).toNat) g 0
theorem Classes_L1 {N : Nat} {b : List Int} (hb : Bytes b) {i f : Int} {m : Nat} (h0 : 0 ≤ i) (h1 : i + 2 * (m : Int) ≤ (b.length : Int)) (hf : 0 ≤ f) (hfm : f + m ≤ 65536) : ∀ (d k n : Nat) (s : List TClass), k + d = m → d < n → KL 0 0 s → (∀ x ∈ s, x.To < f + k) → s.length ≤ k →
  ∃ l, cover_Classes_L1 N f (row16 b i m) n k s = some l ∧ KL 0 0 l ∧ l.length ≤ m ∧ ∀ g, cof l g = if f + k ≤ g ∧ g < f + m then u16 b (i + 2 * (g - f)) else cof s g := by
 intro d
 induction d with
 | zero =>
  intro k n s hk hn hs ht hsl
  obtain ⟨n, rfl⟩ : ∃ x, n = x + 1 := ⟨n - 1, by omega⟩
  rw [cover_Classes_L1, row16_len, if_neg (by omega)]
  exact ⟨s, rfl, hs, by omega, fun g => by rw [if_neg (by omega)]⟩
 | succ d ih =>
  intro k n s hk hn hs ht hsl
  obtain ⟨n, rfl⟩ : ∃ x, n = x + 1 := ⟨n - 1, by omega⟩
  have hx := row16_at (b := b) (i := i) (show k < m by omega)
  have hu := u16_range hb (i + 2 * (k : Int))
  have hn0 := (not_congr (u16_neg hb (i := i + 2 * (k : Int)))).2 (by omega)
  obtain ⟨c1, c2, c3, c4⟩ := cl1_spec (s := ⟨f + k, f + k, u16 b (i + 2 * (k : Int))⟩) hs ht (by simp only; omega) (Int.le_refl _) (by simp only; omega) (by simp only; omega)
  rw [cover_Classes_L1, row16_len, if_pos (by omega), atI_at hx, Option.bind_some, w64 (x := f + k) (by omega) (by omega), classed_eq (by omega) (KL.bnd hs), Option.bind_some, w64 (by omega) (by omega)]
  obtain ⟨l, g1, g2, g3, g4⟩ := ih (k + 1) n _ (by omega) (by omega) c1 (fun x hx => by have := c2 x hx; simp only at this; omega) (by omega)
  refine ⟨l, by rw [show ((k + 1 : Nat) : Int) = (k : Int) + 1 by omega] at g1; exact g1, g2, g3, fun g => ?_⟩
  rw [g4, c4]
  simp only
  by_cases e : g = f + k
  ·
   rw [if_neg (by omega), if_pos (by omega), if_pos (by omega)]; congr 1; omega
  ·
   by_cases e2 : f + (k : Int) ≤ g ∧ g < f + m
   ·
    rw [if_pos (by omega), if_pos e2]
   ·
    rw [if_neg (by omega), if_neg (by omega), if_neg e2]
theorem Classes_L2 {N : Nat} {ok : Bool} {l : List TArr3_I64} (hl : l.length ≤ 70000) (hb : ∀ x ∈ l, x.e1 ≤ 65535) : ∀ (d k n : Nat) (a c : Int) (s : List TClass), k + d = l.length → d < n → riseZ true a c (l.drop k) = true → -1 ≤ a → KL 0 0 s → (∀ x ∈ s, x.To ≤ a) → s.length ≤ k →
  ∃ m, cover_Classes_L2 N ok l n k s = some m ∧ KL 0 0 m ∧ m.length ≤ l.length ∧ ∀ g, cof m g = clsT (l.drop k) g (cof s g) := by
 intro d
 induction d with
 | zero =>
  intro k n a c s hk hn hz ha hs ht hsl
  obtain ⟨n, rfl⟩ : ∃ x, n = x + 1 := ⟨n - 1, by omega⟩
  rw [cover_Classes_L2, if_neg (by omega), List.drop_eq_nil_of_le (by omega)]
  exact ⟨s, rfl, hs, by omega, fun g => rfl⟩
 | succ d ih =>
  intro k n a c s hk hn hz ha hs ht hsl
  obtain ⟨n, rfl⟩ : ∃ x, n = x + 1 := ⟨n - 1, by omega⟩
  obtain ⟨x, hx, hd⟩ := drop_cons hk
  have hxb := hb x (List.mem_of_getElem? hx)
  rw [hd] at hz ⊢
  have hlow := riseZ_low hz x List.mem_cons_self
  simp only [riseZ, Bool.and_eq_true] at hz
  obtain ⟨c1, c2, c3, c4⟩ := cl1_spec (s := ⟨x.e0, x.e1, x.e2⟩) hs (fun y hy => by have := ht y hy; simp only; omega) (by simp only; omega) hlow.2.1 hxb hlow.2.2
  rw [cover_Classes_L2, if_pos (by omega), atI_at hx, Option.bind_some, classed_eq (by omega) (KL.bnd hs), Option.bind_some, w64 (by omega) (by omega)]
  obtain ⟨m, g1, g2, g3, g4⟩ := ih (k + 1) n x.e1 _ _ (by omega) (by omega) hz.2 (by omega) c1 (fun y hy => c2 y hy) (by omega)
  refine ⟨m, by rw [show ((k + 1 : Nat) : Int) = (k : Int) + 1 by omega] at g1; exact g1, g2, g3, fun g => ?_⟩
  rw [g4, c4]
  simp only [clsT]
  by_cases e : x.e0 ≤ g ∧ g ≤ x.e1
  ·
   rw [if_pos e, if_pos e]
   exact clsT_out (fun ⟨y, hy, h⟩ => by have := riseZ_low hz.2 y hy; omega)
  ·
   rw [if_neg e, if_neg e]
theorem Classes_spec {N : Nat} (hN : 1000000000000 < N) {b : List Int} (hb : Bytes b) (hl : b.length ≤ 1000000000) (i : Int) (hi : i ≤ 100000000000) (hi' : -100000000000 ≤ i) :
  ∃ l, cover_Classes N b i = some (l, clsOk b i) ∧ (clsOk b i = false → l = []) ∧ (clsOk b i = true → KL 0 0 l ∧ l.length ≤ 65536 ∧ ∀ g, cof l g = clsV b i g) := by
 have hf : cover_format N b i = some (if u16 b i < 0 then 0 else u16 b i) := by
  unfold cover_format
  rw [U16_eq hN hb hl _ (by omega), Option.bind_some]
  by_cases h : u16 b i < 0
  ·
   simp only [h, if_true]; rfl
  ·
   simp only [h, if_false, if_true]
 have u1 := u16_range hb (i + 2); have u2 := u16_range hb (i + 4)
 unfold cover_Classes
 rw [hf, Option.bind_some]
 by_cases h1 : u16 b i = 1
 ·
  have e : (if u16 b i < 0 then 0 else u16 b i) = 1 := by rw [h1]; rfl
  have ec : clsOk b i = decide (0 ≤ u16 b (i + 4) ∧ u16 b (i + 2) + u16 b (i + 4) ≤ 65536 ∧ i + 6 + 2 * u16 b (i + 4) ≤ (b.length : Int)) := if_pos h1
  rw [e, if_pos rfl, w64 (x := i + 2) (by omega) (by omega), w64 (x := i + 4) (by omega) (by omega), w64 (x := i + 4 + 2) (by omega) (by omega), U16_eq hN hb hl _ (by omega), Option.bind_some]
  by_cases h4 : u16 b (i + 4) < 0
  ·
   have hc : clsOk b i = false := by rw [ec]; exact decide_eq_false (by omega)
   rw [hc]
   refine ⟨[], ?_, fun _ => rfl, fun h => by cases h⟩
   have e2 : octet_U16 N b (i + 4) = some (0, false) := by rw [U16_eq hN hb hl _ (by omega), if_pos h4]
   have e3 : ∃ r, octet_Row N b (i + 4 + 2) 0 2 = some r := ⟨_, Row_eq hN hb hl _ _ (by omega) (by omega)⟩
   obtain ⟨⟨r1, r2⟩, e3⟩ := e3
   split
   simp only [e2, Option.bind_some, e3, Bool.false_eq_true, if_false]
  ·
   have hin := (not_congr (u16_neg hb (i := i + 4))).1 h4
   have h2 : ¬ u16 b (i + 2) < 0 := fun h2 => by
    have hh : u16 b i < 0 := (u16_neg hb).2 (fun h => (u16_neg hb (i := i + 2)).1 h2 ⟨by omega, by omega⟩)
    omega
   simp only [h2, if_false]
   rw [U16_eq hN hb hl _ (by omega), Option.bind_some]
   simp only [h4, if_false]
   rw [Row_eq hN hb hl _ _ (by omega) (by omega), Option.bind_some]
   by_cases h5 : i + 6 + 2 * u16 b (i + 4) ≤ (b.length : Int)
   ·
    rw [if_pos (show (0 ≤ u16 b (i + 4) ∧ 0 ≤ i + 4 + 2 ∧ i + 4 + 2 + 2 * u16 b (i + 4) ≤ (b.length : Int)) from ⟨by omega, by omega, by omega⟩)]
    simp only [if_true]
    rw [w64 (by omega) (by omega)]
    by_cases h6 : 65536 < u16 b (i + 2) + u16 b (i + 4)
    ·
     have hc : clsOk b i = false := by rw [ec]; exact decide_eq_false (by omega)
     rw [if_pos h6, hc]
     exact ⟨[], rfl, fun _ => rfl, fun h => by cases h⟩
    ·
     have hc : clsOk b i = true := by rw [ec]; exact decide_eq_true (by omega)
     obtain ⟨m, hm⟩ := Int.eq_ofNat_of_zero_le (show 0 ≤ u16 b (i + 4) by omega)
     obtain ⟨l, g1, g2, g3, g4⟩ := Classes_L1 (N := N) hb (i := i + 4 + 2) (f := u16 b (i + 2)) (m := m) (by omega) (by omega) (by omega) (by omega) m 0 N [] (by omega) (by omega) trivial (by simp) (by simp)
     rw [if_neg h6, hc, hm]
     rw [show ((0 : Nat) : Int) = 0 from rfl] at g1
     rw [show ((m : Int)).toNat = m by omega, g1, Option.bind_some]
     refine ⟨l, rfl, (fun h => by cases h), fun _ => ⟨g2, by omega, fun g => ?_⟩⟩
     rw [g4]
     unfold clsV
     rw [if_pos h1, hm]
     by_cases hg : u16 b (i + 2) ≤ g ∧ g < u16 b (i + 2) + m
     ·
      rw [if_pos (by omega), if_pos hg]; congr 1; omega
     ·
      rw [if_neg (by omega), if_neg hg]; rfl
   ·
    have hc : clsOk b i = false := by rw [ec]; exact decide_eq_false (by omega)
    rw [if_neg (show ¬ (0 ≤ u16 b (i + 4) ∧ 0 ≤ i + 4 + 2 ∧ i + 4 + 2 + 2 * u16 b (i + 4) ≤ (b.length : Int)) by omega), hc]
    exact ⟨[], rfl, fun _ => rfl, fun h => by cases h⟩
 ·
  by_cases h2 : u16 b i = 2
  ·
   have e : (if u16 b i < 0 then 0 else u16 b i) = 2 := by rw [h2]; rfl
   have ec : clsOk b i = (decide (0 ≤ u16 b (i + 2)) && riseZ true (-1) 0 (trips b (i + 4) (u16 b (i + 2)).toNat)) := by unfold clsOk; rw [if_neg h1, if_pos h2]
   rw [e, if_neg (by decide), if_pos rfl, triples_eq hN hb hl i hi hi', ← ec]
   cases hc : clsOk b i with
   | false =>
    obtain ⟨m, hm⟩ : ∃ m, N = m + 1 := ⟨N - 1, by omega⟩
    refine ⟨[], ?_, fun _ => rfl, fun h => by cases h⟩
    have h0 : cover_Classes_L2 N false [] N 0 [] = some [] := by
     rw [show cover_Classes_L2 N false [] N 0 [] = cover_Classes_L2 N false [] (m + 1) 0 [] by rw [← hm], cover_Classes_L2]; rfl
    simp only [Bool.false_eq_true, if_false, Option.bind_some, h0]
   | true =>
    rw [hc] at ec
    have hz := (Bool.and_eq_true_iff.1 ec.symm).2
    simp only [if_true, Option.bind_some]
    obtain ⟨l, g1, g2, g3, g4⟩ := Classes_L2 (N := N) (ok := true) (l := trips b (i + 4) (u16 b (i + 2)).toNat) (by rw [trips_len]; omega) (trips_le hb) (u16 b (i + 2)).toNat 0 N (-1) 0 [] (by rw [trips_len]; omega) (by omega) hz (by omega) trivial (by simp) (by simp)
    rw [show ((0 : Nat) : Int) = 0 from rfl] at g1
    rw [g1, Option.bind_some]
    refine ⟨l, rfl, (fun h => by cases h), fun _ => ⟨g2, by rw [trips_len] at g3; omega, fun g => ?_⟩⟩
    rw [g4, List.drop_zero]
    unfold clsV
    rw [if_neg h1]
    rfl
  ·
   have hc : clsOk b i = false := by unfold clsOk; rw [if_neg h1, if_neg h2]
   have e1 : ¬ (if u16 b i < 0 then 0 else u16 b i) = 1 := by split <;> omega
   have e2 : ¬ (if u16 b i < 0 then 0 else u16 b i) = 2 := by split <;> omega
   rw [if_neg e1, if_neg e2, hc]
   exact ⟨[], rfl, fun _ => rfl, fun h => by cases h⟩
end Go.Proofs.Ytakplhfiohjcmaa.AI
