/- Plain laws: whether spans and classes are right; a glyph's index, its class. -/
import Derived.Test.YtakplhfiohjcmaaPU2
import Derived.IntWalk
set_option linter.unusedVariables false
set_option linter.unusedSimpArgs false
namespace Go.Proofs.Ytakplhfiohjcmaa.AI
theorem v64 {x : Int} (h : -9223372036854775808 ≤ x) (h' : x ≤ 9223372036854775807) : IntKind.i64.wrap x = x := IntWalk.i64_in _ ⟨by omega, by omega⟩
theorem v32 {x : Int} (h : -2147483648 ≤ x) (h' : x ≤ 2147483647) : IntKind.i32.wrap x = x := IntWalk.i32_in _ ⟨by omega, by omega⟩
theorem at0 {α : Type} {l : List α} {k : Nat} {x : α} (h : l[k]? = some x) : atI l (k : Int) = some x := by rw [atI_nat, h]
theorem wf64 {x : Int} (h : (Lit.int .i64 x).wf = true) : -9223372036854775808 ≤ x ∧ x ≤ 9223372036854775807 := by have := wf_i64 h; omega
theorem wf32 {x : Int} (h : (Lit.int .i32 x).wf = true) : -2147483648 ≤ x ∧ x ≤ 2147483647 := by have := wf_i32 h; omega

theorem Right_L1 {N : Nat} {l : List TSpan} (hl : l.length ≤ 9223372036854775807) (hw : ∀ x ∈ l, -9223372036854775808 ≤ x.From ∧ x.From ≤ 9223372036854775807) : ∀ (d k n : Nat), k + d = l.length → d < n →
    (ref10_Right_L1 N l n k = some (.inl ()) ∧ ∀ j, k ≤ j → j < l.length → SpanOk l j) ∨ ref10_Right_L1 N l n k = some (.inr ()) := by
  intro d
  induction d with
  | zero =>
    intro k n hk hn
    obtain ⟨n, rfl⟩ : ∃ x, n = x + 1 := ⟨n - 1, by omega⟩
    left
    rw [ref10_Right_L1, if_neg (by omega)]
    exact ⟨rfl, fun j h1 h2 => by omega⟩
  | succ d ih =>
    intro k n hk hn
    obtain ⟨n, rfl⟩ : ∃ x, n = x + 1 := ⟨n - 1, by omega⟩
    obtain ⟨x, hx, hd⟩ := drop_cons hk
    have hxw := hw x (List.mem_of_getElem? hx)
    rw [ref10_Right_L1, if_pos (by omega), at0 hx, Option.bind_some]
    by_cases h1 : x.From < 0
    · right; rw [if_pos h1]
    rw [if_neg h1]
    by_cases h2 : 65535 < x.To
    · right; rw [if_pos h2]
    rw [if_neg h2]
    by_cases h3 : x.To < x.From
    · right; rw [if_pos h3]
    rw [if_neg h3, v64 (x := (k : Int) + 1) (by omega) (by omega)]
    have hi := ih (k + 1) n (by omega) (by omega)
    rw [show ((k + 1 : Nat) : Int) = (k : Int) + 1 by omega] at hi
    have fin : (∀ p, 0 < k → l[k - 1]? = some p → p.To < x.From - 1) → (ref10_Right_L1 N l n ((k : Int) + 1) = some (.inl ()) ∧ ∀ j, k ≤ j → j < l.length → SpanOk l j) ∨ ref10_Right_L1 N l n ((k : Int) + 1) = some (.inr ()) := by
      intro hp
      rcases hi with ⟨h4, h5⟩ | h4
      · refine .inl ⟨h4, fun j hj hjl => ?_⟩
        rcases Nat.lt_or_ge k j with hh | hh
        · exact h5 j hh hjl
        · have : j = k := by omega
          subst this
          refine ⟨fun s hs => ?_, fun s hs => ?_, fun s hs => ?_, fun s p h0 hs hp' => ?_⟩ <;> (rw [hx] at hs; cases hs) <;> try omega
          exact hp p h0 hp'
      · exact .inr h4
    by_cases h4 : 0 < (k : Int)
    · rw [if_pos h4]
      have hp := List.getElem?_eq_getElem (l := l) (i := k - 1) (by omega)
      rw [v64 (x := (k : Int) - 1) (by omega) (by omega), show (k : Int) - 1 = ((k - 1 : Nat) : Int) by omega, at0 hp, Option.bind_some, v64 (x := x.From - 1) (by omega) (by omega)]
      by_cases h5 : x.From - 1 ≤ l[k - 1].To
      · right; rw [if_pos h5]
      rw [if_neg h5]
      exact fin fun p _ hp' => by rw [hp] at hp'; cases hp'; omega
    · rw [if_neg h4]
      exact fin fun p h0 _ => by omega
theorem Right_eq {N : Nat} (hB : 9223372036854775808 < N) {l : List TSpan} (hl : l.length ≤ 9223372036854775807) (hw : ∀ x ∈ l, -9223372036854775808 ≤ x.From ∧ x.From ≤ 9223372036854775807) :
    ref10_Right N l = some false ∨ (ref10_Right N l = some true ∧ RL 0 l ∧ l.length ≤ 5000) := by
  have h := Right_L1 (N := N) hl hw l.length 0 N (by omega) (by omega)
  rw [show ((0 : Nat) : Int) = 0 from rfl] at h
  unfold ref10_Right
  rcases h with ⟨h1, h2⟩ | h1
  · rw [h1, Option.bind_some]
    by_cases h3 : (l.length : Int) ≤ 5000
    · right
      have h4 : RightP l := ⟨by omega, fun j hj => h2 j (Nat.zero_le _) hj⟩
      exact ⟨by simp only [h3, decide_true], h4.rl, by omega⟩
    · left; simp only [h3, decide_false]
  · left; rw [h1, Option.bind_some]

theorem RightC_L1 {N : Nat} {l : List TClass} (hl : l.length ≤ 9223372036854775807) : ∀ (d k n : Nat), k + d = l.length → d < n → ∃ o, ref10_RightClasses_L1 N l n k = some o := by
  intro d
  induction d with
  | zero =>
    intro k n hk hn
    obtain ⟨n, rfl⟩ : ∃ x, n = x + 1 := ⟨n - 1, by omega⟩
    rw [ref10_RightClasses_L1, if_neg (by omega)]
    exact ⟨_, rfl⟩
  | succ d ih =>
    intro k n hk hn
    obtain ⟨n, rfl⟩ : ∃ x, n = x + 1 := ⟨n - 1, by omega⟩
    obtain ⟨x, hx, hd⟩ := drop_cons hk
    have hi := ih (k + 1) n (by omega) (by omega)
    rw [show ((k + 1 : Nat) : Int) = (k : Int) + 1 by omega] at hi
    rw [ref10_RightClasses_L1, if_pos (by omega), at0 hx, Option.bind_some, v64 (x := (k : Int) + 1) (by omega) (by omega)]
    by_cases h4 : 0 < (k : Int)
    · have hp := List.getElem?_eq_getElem (l := l) (i := k - 1) (by omega)
      rw [if_pos h4, v64 (x := (k : Int) - 1) (by omega) (by omega), show (k : Int) - 1 = ((k - 1 : Nat) : Int) by omega, at0 hp, Option.bind_some]
      repeat' split
      all_goals first | exact ⟨_, rfl⟩ | exact hi
    · rw [if_neg h4]
      repeat' split
      all_goals first | exact ⟨_, rfl⟩ | exact hi
theorem RightClasses_eq {N : Nat} (hB : 9223372036854775808 < N) {l : List TClass} (hl : l.length ≤ 9223372036854775807) :
    ref10_RightClasses N l = some false ∨ (ref10_RightClasses N l = some true ∧ l.length ≤ 5000) := by
  obtain ⟨o, h⟩ := RightC_L1 (N := N) hl l.length 0 N (by omega) (by omega)
  rw [show ((0 : Nat) : Int) = 0 from rfl] at h
  unfold ref10_RightClasses
  rw [h, Option.bind_some]
  cases o with
  | inr _ => left; rfl
  | inl _ =>
    by_cases h3 : (l.length : Int) ≤ 5000
    · right; exact ⟨by simp only [h3, decide_true], by omega⟩
    · left; simp only [h3, decide_false]

theorem Index_L1 {N : Nat} {l : List TSpan} (hl : l.length ≤ 5000) {g : Int} : ∀ (d k n : Nat) (c lo : Int), k + d = l.length → d < n → RL lo (l.drop k) → 0 ≤ lo → 0 ≤ c → c ≤ 65537 * k →
    (cover_Index_L1 N g l n c k).bind (fun o => match o with | .inl _ => some (-1) | .inr y => some y) = some (idx (l.drop k) g c) := by
  intro d
  induction d with
  | zero =>
    intro k n c lo hk hn hr h0 hc hc2
    obtain ⟨n, rfl⟩ : ∃ x, n = x + 1 := ⟨n - 1, by omega⟩
    rw [cover_Index_L1, if_neg (by omega), List.drop_eq_nil_of_le (by omega)]
    rfl
  | succ d ih =>
    intro k n c lo hk hn hr h0 hc hc2
    obtain ⟨n, rfl⟩ : ∃ x, n = x + 1 := ⟨n - 1, by omega⟩
    obtain ⟨x, hx, hd⟩ := drop_cons hk
    rw [hd] at hr ⊢
    obtain ⟨r1, r2, r3, r4⟩ := hr
    rw [cover_Index_L1, if_pos (by omega), at0 hx, Option.bind_some]
    simp only [idx]
    by_cases h1 : g < x.From
    · rw [if_pos h1, if_pos h1]; rfl
    rw [if_neg h1, if_neg h1]
    by_cases h2 : g ≤ x.To
    · rw [if_pos h2, if_pos h2, v64 (x := c + g) (by omega) (by omega), v64 (by omega) (by omega)]; rfl
    · rw [if_neg h2, if_neg h2, v64 (x := x.To - x.From) (by omega) (by omega), v64 (x := x.To - x.From + 1) (by omega) (by omega), v64 (x := c + (x.To - x.From + 1)) (by omega) (by omega), v64 (x := (k : Int) + 1) (by omega) (by omega)]
      have := ih (k + 1) n (c + (x.To - x.From + 1)) (x.To + 2) (by omega) (by omega) r4 (by omega) (by omega) (by omega)
      rw [show ((k + 1 : Nat) : Int) = (k : Int) + 1 by omega] at this
      exact this
theorem Index_eq {N : Nat} (hB : 9223372036854775808 < N) {l : List TSpan} (hl : l.length ≤ 5000) (h : RL 0 l) (g : Int) : cover_Index N l g = some (idx l g 0) := by
  have := Index_L1 (N := N) hl (g := g) l.length 0 N 0 0 (by omega) (by omega) (by simpa using h) (by omega) (by omega) (by omega)
  unfold cover_Index
  rw [show ((0 : Nat) : Int) = 0 from rfl, List.drop_zero] at this
  exact this
theorem rIndex_after {N : Nat} {l : List TSpan} (hl : l.length ≤ 5000) {g r : Int} : ∀ (d k n : Nat) (c lo : Int), k + d = l.length → d < n → RL lo (l.drop k) → g < lo → 0 ≤ lo → 0 ≤ c → c ≤ 65537 * k →
    ref10_Index_L1 N l g n c r k = some r := by
  intro d
  induction d with
  | zero =>
    intro k n c lo hk hn hr hg h0 hc hc2
    obtain ⟨n, rfl⟩ : ∃ x, n = x + 1 := ⟨n - 1, by omega⟩
    rw [ref10_Index_L1, if_neg (by omega)]
  | succ d ih =>
    intro k n c lo hk hn hr hg h0 hc hc2
    obtain ⟨n, rfl⟩ : ∃ x, n = x + 1 := ⟨n - 1, by omega⟩
    obtain ⟨x, hx, hd⟩ := drop_cons hk
    rw [hd] at hr
    obtain ⟨r1, r2, r3, r4⟩ := hr
    rw [ref10_Index_L1, if_pos (by omega), at0 hx, Option.bind_some, if_neg (by omega), v64 (x := c + x.To) (by omega) (by omega), v64 (x := c + x.To - x.From) (by omega) (by omega), v64 (x := c + x.To - x.From + 1) (by omega) (by omega), v64 (x := (k : Int) + 1) (by omega) (by omega)]
    have := ih (k + 1) n (c + x.To - x.From + 1) (x.To + 2) (by omega) (by omega) r4 (by omega) (by omega) (by omega) (by omega)
    rw [show ((k + 1 : Nat) : Int) = (k : Int) + 1 by omega] at this
    exact this
theorem rIndex_L1 {N : Nat} {l : List TSpan} (hl : l.length ≤ 5000) {g : Int} : ∀ (d k n : Nat) (c lo : Int), k + d = l.length → d < n → RL lo (l.drop k) → 0 ≤ lo → 0 ≤ c → c ≤ 65537 * k →
    ref10_Index_L1 N l g n c (-1) k = some (idx (l.drop k) g c) := by
  intro d
  induction d with
  | zero =>
    intro k n c lo hk hn hr h0 hc hc2
    obtain ⟨n, rfl⟩ : ∃ x, n = x + 1 := ⟨n - 1, by omega⟩
    rw [ref10_Index_L1, if_neg (by omega), List.drop_eq_nil_of_le (by omega)]
    rfl
  | succ d ih =>
    intro k n c lo hk hn hr h0 hc hc2
    obtain ⟨n, rfl⟩ : ∃ x, n = x + 1 := ⟨n - 1, by omega⟩
    obtain ⟨x, hx, hd⟩ := drop_cons hk
    rw [hd] at hr ⊢
    have hr0 := hr
    obtain ⟨r1, r2, r3, r4⟩ := hr
    rw [ref10_Index_L1, if_pos (by omega), at0 hx, Option.bind_some, v64 (x := c + x.To) (by omega) (by omega), v64 (x := c + x.To - x.From) (by omega) (by omega), v64 (x := c + x.To - x.From + 1) (by omega) (by omega), v64 (x := (k : Int) + 1) (by omega) (by omega)]
    simp only [idx]
    have go := ih (k + 1) n (c + x.To - x.From + 1) (x.To + 2) (by omega) (by omega) r4 (by omega) (by omega) (by omega)
    rw [show ((k + 1 : Nat) : Int) = (k : Int) + 1 by omega] at go
    by_cases h1 : g < x.From
    · rw [if_neg (by omega), if_pos h1]
      have := rIndex_after (N := N) hl (g := g) (r := -1) d (k + 1) n (c + x.To - x.From + 1) (x.To + 2) (by omega) (by omega) r4 (by omega) (by omega) (by omega) (by omega)
      rw [show ((k + 1 : Nat) : Int) = (k : Int) + 1 by omega] at this
      exact this
    rw [if_pos (by omega), if_neg h1]
    by_cases h2 : g ≤ x.To
    · rw [if_pos h2, if_pos h2, v64 (x := c + g) (by omega) (by omega), v64 (x := c + g - x.From) (by omega) (by omega)]
      have := rIndex_after (N := N) hl (g := g) (r := c + g - x.From) d (k + 1) n (c + x.To - x.From + 1) (x.To + 2) (by omega) (by omega) r4 (by omega) (by omega) (by omega) (by omega)
      rw [show ((k + 1 : Nat) : Int) = (k : Int) + 1 by omega] at this
      exact this
    · rw [if_neg h2, if_neg h2, go]
      congr 2; omega
theorem rIndex_eq {N : Nat} (hB : 9223372036854775808 < N) {l : List TSpan} (hl : l.length ≤ 5000) (h : RL 0 l) (g : Int) : ref10_Index N l g = some (idx l g 0) := by
  have := rIndex_L1 (N := N) hl (g := g) l.length 0 N 0 0 (by omega) (by omega) (by simpa using h) (by omega) (by omega) (by omega)
  unfold ref10_Index
  rw [show ((0 : Nat) : Int) = 0 from rfl] at this
  rw [this]; simp

def cOf : List TClass → Int → Int
  | [], _ => 0
  | x :: r, g => if x.From ≤ g ∧ g ≤ x.To then x.Class else cOf r g
theorem Of_L1 {N : Nat} {l : List TClass} (hl : l.length ≤ 5000) {g : Int} : ∀ (d k n : Nat), k + d = l.length → d < n →
    (cover_Of_L1 N g l n k).bind (fun o => match o with | .inl _ => some 0 | .inr y => some y) = some (cOf (l.drop k) g) ∧ (ref10_Of_L1 N l g n k).bind (fun o => match o with | .inl _ => some 0 | .inr y => some y) = some (cOf (l.drop k) g) := by
  intro d
  induction d with
  | zero =>
    intro k n hk hn
    obtain ⟨n, rfl⟩ : ∃ x, n = x + 1 := ⟨n - 1, by omega⟩
    rw [cover_Of_L1, ref10_Of_L1, if_neg (by omega), if_neg (by omega), List.drop_eq_nil_of_le (by omega)]
    exact ⟨rfl, rfl⟩
  | succ d ih =>
    intro k n hk hn
    obtain ⟨n, rfl⟩ : ∃ x, n = x + 1 := ⟨n - 1, by omega⟩
    obtain ⟨x, hx, hd⟩ := drop_cons hk
    have hi := ih (k + 1) n (by omega) (by omega)
    rw [show ((k + 1 : Nat) : Int) = (k : Int) + 1 by omega] at hi
    rw [hd, cover_Of_L1, ref10_Of_L1, if_pos (by omega), if_pos (by omega), at0 hx, Option.bind_some, v64 (x := (k : Int) + 1) (by omega) (by omega)]
    simp only [cOf]
    by_cases h1 : x.From ≤ g
    · by_cases h2 : g ≤ x.To
      · rw [if_pos h1, if_pos h2, if_pos ⟨h1, h2⟩]
        exact ⟨rfl, by rw [Option.bind_some, if_pos h1, if_pos h2]; rfl⟩
      · rw [if_pos h1, if_neg h2, if_neg (by omega)]
        exact ⟨hi.1, by rw [Option.bind_some, if_pos h1, if_neg h2]; exact hi.2⟩
    · rw [if_neg h1, if_neg (by omega)]
      exact ⟨hi.1, by rw [Option.bind_some, if_neg h1]; exact hi.2⟩
theorem Of_eq {N : Nat} (hB : 9223372036854775808 < N) {l : List TClass} (hl : l.length ≤ 5000) (g : Int) : cover_Of N l g = some (cOf l g) ∧ ref10_Of N l g = some (cOf l g) := by
  have := Of_L1 (N := N) hl (g := g) l.length 0 N (by omega) (by omega)
  rw [show ((0 : Nat) : Int) = 0 from rfl, List.drop_zero] at this
  exact this
end Go.Proofs.Ytakplhfiohjcmaa.AI
