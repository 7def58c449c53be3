/- Plain laws: spans of glyphs, rising. -/
import Derived.Test.YtakplhfiohjcmaacxP
set_option linter.unusedVariables false
set_option linter.unusedSimpArgs false
namespace Go.Proofs.Ytakplhfiohjcmaa.AI
def cnt : List TSpan → Int
 | [] => 0
 | s :: r => (s.To - s.From + 1) + cnt r
def idx : List TSpan → Int → Int → Int
 | [], g, n => -1
 | s :: r, g, n => if g < s.From then -1 else if g ≤ s.To then n + g - s.From else idx r g (n + (s.To - s.From + 1))
def RL : Int → List TSpan → Prop
 | _, [] => True
 | lo, s :: r => lo ≤ s.From ∧ s.From ≤ s.To ∧ s.To ≤ 65535 ∧ RL (s.To + 2) r

theorem RL.drop {lo : Int} : ∀ {l : List TSpan} (i : Nat), RL lo l → 0 ≤ lo → ∃ lo', lo ≤ lo' ∧ RL lo' (l.drop i)
 | l, 0, h, h0 => ⟨lo, by omega, h⟩
 | [], i + 1, h, h0 => ⟨lo, by omega, trivial⟩
 | s :: r, i + 1, h, h0 => by
  have := h.1; have := h.2.1
  obtain ⟨lo', h1, h2⟩ := RL.drop i h.2.2.2 (by omega)
  exact ⟨lo', by omega, h2⟩
theorem RL.cnt_le {lo : Int} : ∀ {l : List TSpan}, RL lo l → lo ≤ 65537 → 0 ≤ cnt l ∧ cnt l ≤ 65537 - lo
 | [], _, h0 => ⟨Int.le_refl _, by simp [cnt]; omega⟩
 | s :: r, h, h0 => by
  obtain ⟨h1, h2, h3, h4⟩ := h
  have := RL.cnt_le h4 (by omega)
  simp only [cnt]
  omega
theorem cnt_app : ∀ (l m : List TSpan), cnt (l ++ m) = cnt l + cnt m
 | [], m => by simp [cnt]
 | s :: r, m => by simp only [List.cons_append, cnt, cnt_app r m]; omega
theorem cnt_parts {l : List TSpan} (h : RL 0 l) (i : Nat) : 0 ≤ cnt (l.take i) ∧ 0 ≤ cnt (l.drop i) ∧ cnt (l.take i) + cnt (l.drop i) = cnt l ∧ cnt l ≤ 65537 := by
 have h1 := RL.cnt_le h (by omega)
 obtain ⟨lo', h2, h3⟩ := RL.drop i h (by omega)
 have h4 : cnt (l.take i) + cnt (l.drop i) = cnt l := by rw [← cnt_app, List.take_append_drop]
 have h5 : 0 ≤ cnt (l.drop i) := by
  rcases Int.lt_or_le 65537 lo' with hh | hh
  ·
   cases hd : l.drop i with
   | nil => simp [cnt]
   | cons s r => rw [hd] at h3; have := h3.1; have := h3.2.1; have := h3.2.2.1; omega
  ·
   exact (RL.cnt_le h3 hh).1
 have h6 : ∀ (l : List TSpan) (lo : Int) (i : Nat), RL lo l → 0 ≤ cnt (l.take i) := by
  intro l
  induction l with
  | nil => intro lo i _; simp [cnt]
  | cons s r ih =>
   intro lo i h
   cases i with
   | zero => simp [cnt]
   | succ i =>
    simp only [List.take_succ_cons, cnt]
    have := ih _ i h.2.2.2
    have := h.2.1
    omega
 exact ⟨h6 _ _ _ h, h5, h4, h1.2⟩


def jn (l : List TSpan) (s : TSpan) : List TSpan := match l.getLast? with
 | none => [s]
 | some x => if x.To + 1 = s.From then l.dropLast ++ [⟨x.From, s.To⟩] else l ++ [s]
theorem getLast_at {l : List TSpan} {x : TSpan} (h : l.getLast? = some x) : 0 < l.length ∧ l[l.length - 1]? = some x := by
 rw [List.getLast?_eq_getElem?] at h
 exact ⟨by have := (List.getElem?_eq_some_iff.1 h).1; omega, h⟩

theorem RL.app : ∀ {l : List TSpan} {lo : Int} {s : TSpan}, RL lo l → (∀ x ∈ l, x.To + 2 ≤ s.From) → lo ≤ s.From → s.From ≤ s.To → s.To ≤ 65535 → RL lo (l ++ [s])
 | [], lo, s, _, _, h1, h2, h3 => ⟨h1, h2, h3, trivial⟩
 | x :: r, lo, s, h, hx, h1, h2, h3 => ⟨h.1, h.2.1, h.2.2.1, RL.app h.2.2.2 (fun y hy => hx y (List.mem_cons_of_mem _ hy)) (hx x List.mem_cons_self) h2 h3⟩
theorem RL.last : ∀ {l : List TSpan} {lo : Int} {x : TSpan} {b : Int}, RL lo (l ++ [x]) → x.To ≤ b → b ≤ 65535 → RL lo (l ++ [⟨x.From, b⟩])
 | [], lo, x, b, h, h1, h2 => ⟨h.1, by show x.From ≤ b; have := h.2.1; omega, h2, trivial⟩
 | y :: r, lo, x, b, h, h1, h2 => ⟨h.1, h.2.1, h.2.2.1, RL.last h.2.2.2 h1 h2⟩
theorem RL.lasts : ∀ {l : List TSpan} {lo : Int} {x : TSpan}, RL lo (l ++ [x]) → ∀ y ∈ l, y.To + 2 ≤ x.From
 | [], lo, x, h, y, hy => by cases hy
 | z :: r, lo, x, h, y, hy => by
  rcases List.mem_cons.1 hy with rfl | hy
  ·
   have : ∀ (r : List TSpan) (lo : Int), RL lo (r ++ [x]) → lo ≤ x.From := by
    intro r
    induction r with
    | nil => intro lo h; exact h.1
    | cons w r ih => intro lo h; have := ih _ h.2.2.2; have := h.1; have := h.2.1; omega
   exact this r _ h.2.2.2
  ·
   exact RL.lasts h.2.2.2 y hy
def inn (l : List TSpan) (g : Int) : Prop := ∃ s ∈ l, s.From ≤ g ∧ g ≤ s.To
theorem split_last {l : List TSpan} {x : TSpan} (h : l.getLast? = some x) : l = l.dropLast ++ [x] := by
 have hne : l ≠ [] := by rintro rfl; simp at h
 have := List.dropLast_concat_getLast hne
 rw [List.getLast?_eq_some_getLast hne] at h
 cases h
 exact this.symm
theorem jn_spec {l : List TSpan} {s : TSpan} (h : RL 0 l) (hs : ∀ x ∈ l, x.To < s.From) (h0 : 0 ≤ s.From) (h1 : s.From ≤ s.To) (h2 : s.To ≤ 65535) :
  RL 0 (jn l s) ∧ (∀ x ∈ jn l s, x.To ≤ s.To) ∧ cnt (jn l s) = cnt l + (s.To - s.From + 1) ∧ (∀ g, inn (jn l s) g ↔ inn l g ∨ (s.From ≤ g ∧ g ≤ s.To)) ∧ (jn l s).length ≤ l.length + 1 := by
 unfold jn
 cases hg : l.getLast? with
 | none =>
  have : l = [] := by simpa using hg
  subst this
  simp only
  refine ⟨⟨h0, h1, h2, trivial⟩, by simp, by simp [cnt], fun g => ?_, by simp⟩
  simp [inn]
 | some x =>
  have hl := split_last hg
  have hxm : x ∈ l := List.mem_of_getLast? hg
  have hxs := hs x hxm
  simp only
  split
  ·
   rename_i he
   rw [hl] at h
   have hx1 : x.From ≤ x.To := by
    have : ∀ (r : List TSpan) (lo : Int), RL lo (r ++ [x]) → x.From ≤ x.To := by
     intro r
     induction r with
     | nil => intro lo h; exact h.2.1
     | cons w r ih => intro lo h; exact ih _ h.2.2.2
    exact this _ _ h
   refine ⟨RL.last h (by omega) h2, ?_, ?_, fun g => ?_, ?_⟩
   ·
    intro y hy
    rcases List.mem_append.1 hy with hy | hy
    ·
     have := hs y (by rw [hl]; exact List.mem_append_left _ hy); omega
    ·
     simp at hy; subst hy; simp
   ·
    conv => rhs; rw [hl]
    simp only [cnt_app, cnt]
    omega
   ·
    conv => rhs; rw [hl]
    simp only [inn, List.mem_append, List.mem_singleton]
    constructor
    ·
     rintro ⟨y, hy | rfl, h3, h4⟩
     ·
      exact .inl ⟨y, .inl hy, h3, h4⟩
     ·
      by_cases hb : g ≤ x.To
      ·
       exact .inl ⟨x, .inr rfl, h3, hb⟩
      ·
       right; simp only at h4; omega
    ·
     rintro (⟨y, hy | rfl, h3, h4⟩ | h3)
     ·
      exact ⟨y, .inl hy, h3, h4⟩
     ·
      exact ⟨_, .inr rfl, h3, by simp only; omega⟩
     ·
      exact ⟨_, .inr rfl, by simp only; omega, by simp only; omega⟩
   ·
    have := congrArg List.length hl
    simp at this ⊢
  ·
   rename_i he
   have hgap : ∀ y ∈ l, y.To + 2 ≤ s.From := by
    intro y hy
    rw [hl] at hy h
    rcases List.mem_append.1 hy with hy | hy
    ·
     have h3 := RL.lasts h y hy
     have : ∀ (r : List TSpan) (lo : Int), RL lo (r ++ [x]) → x.From ≤ x.To := by
      intro r
      induction r with
      | nil => intro lo h; exact h.2.1
      | cons w r ih => intro lo h; exact ih _ h.2.2.2
     have := this _ _ h
     omega
    ·
     simp at hy; subst hy; omega
   refine ⟨RL.app h hgap h0 h1 h2, ?_, ?_, fun g => ?_, by simp⟩
   ·
    intro y hy
    rcases List.mem_append.1 hy with hy | hy
    ·
     have := hs y hy; omega
    ·
     simp at hy; subst hy; simp
   ·
    simp only [cnt_app, cnt]; omega
   ·
    simp only [inn, List.mem_append, List.mem_singleton]
    constructor
    ·
     rintro ⟨y, hy | rfl, h3, h4⟩
     ·
      exact .inl ⟨y, hy, h3, h4⟩
     ·
      exact .inr ⟨h3, h4⟩
    ·
     rintro (⟨y, hy, h3, h4⟩ | h3)
     ·
      exact ⟨y, .inl hy, h3, h4⟩
     ·
      exact ⟨s, .inr rfl, h3⟩
theorem jn_len (l : List TSpan) (s : TSpan) : (jn l s).length ≤ l.length + 1 := by
  unfold jn
  split
  · simp
  · split <;> simp
theorem jn_b {l : List TSpan} {s : TSpan} (h : ∀ x ∈ l, 0 ≤ x.To ∧ x.To ≤ 65535) (hs : 0 ≤ s.To ∧ s.To ≤ 65535) : ∀ x ∈ jn l s, 0 ≤ x.To ∧ x.To ≤ 65535 := by
  intro x hx
  unfold jn at hx
  split at hx
  · simp at hx; subst hx; exact hs
  · split at hx
    · rcases List.mem_append.1 hx with hx | hx
      · exact h x (List.dropLast_subset l hx)
      · simp at hx; subst hx; exact hs
    · rcases List.mem_append.1 hx with hx | hx
      · exact h x hx
      · simp at hx; subst hx; exact hs

theorem RL.lows : ∀ {l : List TSpan} {lo : Int}, RL lo l → ∀ y ∈ l, lo ≤ y.From ∧ y.From ≤ y.To ∧ y.To ≤ 65535
 | [], lo, _, y, hy => by cases hy
 | x :: r, lo, h, y, hy => by
  rcases List.mem_cons.1 hy with rfl | hy
  ·
   exact ⟨h.1, h.2.1, h.2.2.1⟩
  ·
   have := RL.lows h.2.2.2 y hy
   have := h.1; have := h.2.1
   omega
theorem RL.uniq : ∀ {l m : List TSpan} {lo : Int}, RL lo l → RL lo m → (∀ g, inn l g ↔ inn m g) → l = m
 | [], [], _, _, _, _ => rfl
 | [], y :: m, lo, _, h, e => by
  have := (e y.From).2 ⟨y, List.mem_cons_self, Int.le_refl _, h.2.1⟩
  obtain ⟨_, hc, _⟩ := this; cases hc
 | x :: l, [], lo, h, _, e => by
  have := (e x.From).1 ⟨x, List.mem_cons_self, Int.le_refl _, h.2.1⟩
  obtain ⟨_, hc, _⟩ := this; cases hc
 | x :: l, y :: m, lo, h, h', e => by
  have first : ∀ {x y : TSpan} {l m : List TSpan} {lo : Int}, RL lo (x :: l) → RL lo (y :: m) → (∀ g, inn (x :: l) g ↔ inn (y :: m) g) → y.From ≤ x.From := by
   intro x y l m lo h h' e
   obtain ⟨z, hz, h1, h2⟩ := (e x.From).1 ⟨x, List.mem_cons_self, Int.le_refl _, h.2.1⟩
   rcases List.mem_cons.1 hz with rfl | hz
   ·
    exact h1
   ·
    have := RL.lows h'.2.2.2 z hz; have := h'.2.1; omega
  have hf : x.From = y.From := by have := first h h' e; have := first h' h (fun g => (e g).symm); omega
  have last : ∀ {x y : TSpan} {l m : List TSpan} {lo : Int}, RL lo (x :: l) → RL lo (y :: m) → x.From = y.From → (∀ g, inn (x :: l) g ↔ inn (y :: m) g) → x.To ≤ y.To := by
   intro x y l m lo h h' hf e
   have hx := h.2.1; have hy := h'.2.1
   rcases Int.lt_or_le y.To x.To with hlt | hle
   ·
    exfalso
    obtain ⟨z, hz, h1, h2⟩ := (e (y.To + 1)).1 ⟨x, List.mem_cons_self, by omega, by omega⟩
    rcases List.mem_cons.1 hz with rfl | hz
    ·
     omega
    ·
     have := RL.lows h'.2.2.2 z hz; omega
   ·
    exact hle
  have ht : x.To = y.To := by have := last h h' hf e; have := last h' h hf.symm (fun g => (e g).symm); omega
  have hxy : x = y := by cases x; cases y; simp at hf ht; simp [hf, ht]
  subst hxy
  have := RL.uniq h.2.2.2 h'.2.2.2 (fun g => by
   have hg := e g
   constructor
   ·
    rintro ⟨z, hz, h1, h2⟩
    obtain ⟨z', hz', h3, h4⟩ := hg.1 ⟨z, List.mem_cons_of_mem _ hz, h1, h2⟩
    rcases List.mem_cons.1 hz' with rfl | hz'
    ·
     have := RL.lows h.2.2.2 z hz; omega
    ·
     exact ⟨z', hz', h3, h4⟩
   ·
    rintro ⟨z, hz, h1, h2⟩
    obtain ⟨z', hz', h3, h4⟩ := hg.2 ⟨z, List.mem_cons_of_mem _ hz, h1, h2⟩
    rcases List.mem_cons.1 hz' with rfl | hz'
    ·
     have := RL.lows h'.2.2.2 z hz; omega
    ·
     exact ⟨z', hz', h3, h4⟩)
  rw [this]
end Go.Proofs.Ytakplhfiohjcmaa.AI
