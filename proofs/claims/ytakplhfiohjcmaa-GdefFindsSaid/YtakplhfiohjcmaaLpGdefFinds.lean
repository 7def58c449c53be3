/- The plain law of GdefFinds. -/
import Derived.Test.YtakplhfiohjcmaaPU11
set_option linter.unusedVariables false
set_option linter.unusedSimpArgs false
namespace Go.Proofs.Ytakplhfiohjcmaa.AI
def GrOk (x : TGroup) : Prop := 0 ≤ x.Glyph ∧ x.Glyph ≤ 70000 ∧ 0 ≤ x.From ∧ x.From ≤ x.To ∧ x.To ≤ 2147483647
theorem Gf_L1 {N : Nat} {l : List TGroup} {a b c : Int} {x y : List TClass} {z : List (List TSpan)} (hl : l.length ≤ 100) (hw : ∀ x ∈ l, x.To ≤ 2147483647) : ∀ (d k n : Nat), k + d = l.length → d < n →
    (law15_GdefFinds_L1 N l a b c x y z n k = some (.inl ()) ∧ ∀ x ∈ l.drop k, GrOk x) ∨ law15_GdefFinds_L1 N l a b c x y z n k = some (.inr ()) := by
  intro d
  induction d with
  | zero =>
    intro k n hk hn
    obtain ⟨n, rfl⟩ : ∃ x, n = x + 1 := ⟨n - 1, by omega⟩
    left
    rw [law15_GdefFinds_L1, if_neg (by omega), List.drop_eq_nil_of_le (by omega)]
    exact ⟨rfl, by simp⟩
  | succ d ih =>
    intro k n hk hn
    obtain ⟨n, rfl⟩ : ∃ x, n = x + 1 := ⟨n - 1, by omega⟩
    obtain ⟨u, hu, hd⟩ := drop_cons hk
    have hi := ih (k + 1) n (by omega) (by omega)
    rw [show ((k + 1 : Nat) : Int) = (k : Int) + 1 by omega] at hi
    have huw := hw u (List.mem_of_getElem? hu)
    rw [hd, law15_GdefFinds_L1, if_pos (by omega), at0 hu, Option.bind_some, v64 (x := (k : Int) + 1) (by omega) (by omega)]
    by_cases h1 : u.Glyph < 0
    · right; rw [if_pos h1]
    rw [if_neg h1]
    by_cases h2 : 70000 < u.Glyph
    · right; rw [if_pos h2]
    rw [if_neg h2]
    by_cases h3 : u.To < u.From
    · right; rw [if_pos h3]
    rw [if_neg h3]
    by_cases h4 : u.From < 0
    · right; rw [if_pos h4]
    rw [if_neg h4]
    have fin : (law15_GdefFinds_L1 N l a b c x y z n ((k : Int) + 1) = some (.inl ()) ∧ ∀ v ∈ u :: l.drop (k + 1), GrOk v) ∨ law15_GdefFinds_L1 N l a b c x y z n ((k : Int) + 1) = some (.inr ()) := by
      rcases hi with ⟨h5, h6⟩ | h5
      · refine .inl ⟨h5, fun v hv => ?_⟩
        rcases List.mem_cons.1 hv with rfl | hv
        · exact ⟨by omega, by omega, by omega, by omega, huw⟩
        · exact h6 v hv
      · exact .inr h5
    by_cases h5 : 0 < (k : Int)
    · rw [if_pos h5]
      have hp := List.getElem?_eq_getElem (l := l) (i := k - 1) (by omega)
      rw [v64 (x := (k : Int) - 1) (by omega) (by omega), show (k : Int) - 1 = ((k - 1 : Nat) : Int) by omega, at0 hp, Option.bind_some]
      split
      · right; rfl
      · exact fin
    · rw [if_neg h5]; exact fin
theorem Gf_L2 {N : Nat} (hB : 9223372036854775808 < N) {l : List TGroup} {a b c : Int} {x y : List TClass} {z : List (List TSpan)} (hl : z.length ≤ 70)
    (hw : ∀ s ∈ z, s.length ≤ 9223372036854775807 ∧ ∀ x ∈ s, -9223372036854775808 ≤ x.From ∧ x.From ≤ 9223372036854775807) : ∀ (d k n : Nat), k + d = z.length → d < n →
    (law15_GdefFinds_L2 N l a b c x y z n k = some (.inl ()) ∧ ∀ x ∈ z.drop k, RL 0 x ∧ x.length ≤ 5000) ∨ law15_GdefFinds_L2 N l a b c x y z n k = some (.inr ()) := by
  intro d
  induction d with
  | zero =>
    intro k n hk hn
    obtain ⟨n, rfl⟩ : ∃ x, n = x + 1 := ⟨n - 1, by omega⟩
    left
    rw [law15_GdefFinds_L2, if_neg (by omega), List.drop_eq_nil_of_le (by omega)]
    exact ⟨rfl, by simp⟩
  | succ d ih =>
    intro k n hk hn
    obtain ⟨n, rfl⟩ : ∃ x, n = x + 1 := ⟨n - 1, by omega⟩
    obtain ⟨u, hu, hd⟩ := drop_cons hk
    have hi := ih (k + 1) n (by omega) (by omega)
    rw [show ((k + 1 : Nat) : Int) = (k : Int) + 1 by omega] at hi
    obtain ⟨w1, w2⟩ := hw u (List.mem_of_getElem? hu)
    rw [hd, law15_GdefFinds_L2, if_pos (by omega), at0 hu, Option.bind_some, v64 (x := (k : Int) + 1) (by omega) (by omega)]
    rcases Right_eq hB w1 w2 with h1 | ⟨h1, h2, h3⟩
    · right; rw [h1, Option.bind_some, if_neg (by simp)]
    · rw [h1, Option.bind_some, if_pos rfl]
      rcases hi with ⟨h5, h6⟩ | h5
      · refine .inl ⟨h5, fun v hv => ?_⟩
        rcases List.mem_cons.1 hv with rfl | hv
        · exact ⟨h2, h3⟩
        · exact h6 v hv
      · exact .inr h5
def gOf : List TGroup → Int → Int
  | [], _ => 0
  | x :: r, g => if x.From ≤ g ∧ g ≤ x.To then x.Glyph + (g - x.From) else gOf r g
theorem Glyph_L1 {N : Nat} {l : List TGroup} (hl : l.length ≤ 100) {g : Int} (hg : -2147483648 ≤ g ∧ g ≤ 2147483647) (hw : ∀ x ∈ l, GrOk x) : ∀ (d k n : Nat), k + d = l.length → d < n →
    (gdef_Glyph_L1 N g l n k).bind (fun o => match o with | .inl _ => some 0 | .inr y => some y) = some (gOf (l.drop k) g) ∧ (ref15_Glyph_L1 N l g n k).bind (fun o => match o with | .inl _ => some 0 | .inr y => some y) = some (gOf (l.drop k) g) := by
  intro d
  induction d with
  | zero =>
    intro k n hk hn
    obtain ⟨n, rfl⟩ : ∃ x, n = x + 1 := ⟨n - 1, by omega⟩
    rw [gdef_Glyph_L1, ref15_Glyph_L1, if_neg (by omega), if_neg (by omega), List.drop_eq_nil_of_le (by omega)]
    exact ⟨rfl, rfl⟩
  | succ d ih =>
    intro k n hk hn
    obtain ⟨n, rfl⟩ : ∃ x, n = x + 1 := ⟨n - 1, by omega⟩
    obtain ⟨x, hx, hd⟩ := drop_cons hk
    obtain ⟨w1, w2, w3, w4, w5⟩ := hw x (List.mem_of_getElem? hx)
    have hi := ih (k + 1) n (by omega) (by omega)
    rw [show ((k + 1 : Nat) : Int) = (k : Int) + 1 by omega] at hi
    rw [hd, gdef_Glyph_L1, ref15_Glyph_L1, if_pos (by omega), if_pos (by omega), at0 hx, Option.bind_some, v64 (x := (k : Int) + 1) (by omega) (by omega)]
    simp only [gOf]
    by_cases h1 : x.From ≤ g
    · by_cases h2 : g ≤ x.To
      · rw [if_pos h1, if_pos h2, if_pos ⟨h1, h2⟩, v32 (x := g - x.From) (by omega) (by omega), v64 (x := g - x.From) (by omega) (by omega), v64 (x := x.Glyph + (g - x.From)) (by omega) (by omega), Option.bind_some, Option.bind_some, if_pos h1, if_pos h2,
          v64 (x := g) (by omega) (by omega), v64 (x := x.Glyph + g) (by omega) (by omega), v64 (x := x.From) (by omega) (by omega), v64 (x := x.Glyph + g - x.From) (by omega) (by omega), Option.bind_some]
        exact ⟨rfl, by show some (x.Glyph + g - x.From) = some (x.Glyph + (g - x.From)); congr 1; omega⟩
      · rw [if_pos h1, if_neg h2, if_neg (by omega)]
        exact ⟨hi.1, by rw [Option.bind_some, if_pos h1, if_neg h2]; exact hi.2⟩
    · rw [if_neg h1, if_neg (by omega)]
      exact ⟨hi.1, by rw [Option.bind_some, if_neg h1]; exact hi.2⟩
theorem Glyph_eq {N : Nat} (hB : 9223372036854775808 < N) {l : List TGroup} (hl : l.length ≤ 100) {g : Int} (hg : -2147483648 ≤ g ∧ g ≤ 2147483647) (hw : ∀ x ∈ l, GrOk x) : gdef_Glyph N l g = some (gOf l g) ∧ ref15_Glyph N l g = some (gOf l g) := by
  have := Glyph_L1 (N := N) hl hg hw l.length 0 N (by omega) (by omega)
  rw [show ((0 : Nat) : Int) = 0 from rfl, List.drop_zero] at this
  exact this
theorem Mark_eq {N : Nat} (hB : 9223372036854775808 < N) {x y : List TClass} {z : List (List TSpan)} (hw : ∀ s ∈ z, RL 0 s ∧ s.length ≤ 5000) (a g : Int) : ∃ r, gdef_Mark N x y z a g = some r ∧ ref15_Mark N x y z a g = some r := by
  unfold gdef_Mark ref15_Mark
  by_cases h1 : 0 ≤ a
  · by_cases h2 : a < (z.length : Int)
    · have hz := List.getElem?_eq_getElem (l := z) (i := a.toNat) (by omega)
      obtain ⟨h3, h4⟩ := hw _ (List.mem_of_getElem? hz)
      rw [if_pos h1, if_pos h2, if_neg (by omega), if_neg (by omega), show atI z a = some (z[a.toNat]'(by omega)) by unfold atI; rw [if_pos h1]; exact hz, Option.bind_some, Option.bind_some]
      rw [Index_eq hB h4 h3, rIndex_eq hB h4 h3]
      exact ⟨_, rfl, rfl⟩
    · rw [if_pos h1, if_neg h2, if_neg (by omega), if_pos (by omega)]; exact ⟨_, rfl, rfl⟩
  · rw [if_neg h1, if_pos (by omega)]; exact ⟨_, rfl, rfl⟩
theorem GdefFinds_plain {N : Nat} (hB : 9223372036854775808 < N) {l : List TGroup} {x y : List TClass} {z : List (List TSpan)} {a b c : Int} (ha : -2147483648 ≤ a ∧ a ≤ 2147483647) (hl : ∀ x ∈ l, x.To ≤ 2147483647) (hx : x.length ≤ 9223372036854775807)
    (hz : ∀ s ∈ z, s.length ≤ 9223372036854775807 ∧ ∀ x ∈ s, -9223372036854775808 ≤ x.From ∧ x.From ≤ 9223372036854775807) : law15_GdefFinds N l x y z a b c = some true := by
  unfold law15_GdefFinds
  by_cases h1 : 100 < (l.length : Int)
  · rw [if_pos h1]
  rw [if_neg h1]
  rcases RightClasses_eq hB hx with h2 | ⟨h2, h3⟩
  · rw [h2, Option.bind_some, if_neg (by simp)]
  rw [h2, Option.bind_some, if_pos rfl]
  by_cases h4 : 70 < (z.length : Int)
  · rw [if_pos h4]
  rw [if_neg h4]
  have k1 := Gf_L1 (N := N) (a := a) (b := b) (c := c) (x := x) (y := y) (z := z) (by omega) hl l.length 0 N (by omega) (by omega)
  rw [show ((0 : Nat) : Int) = 0 from rfl] at k1
  rcases k1 with ⟨k1, k2⟩ | k1
  · rw [k1, Option.bind_some]
    have k3 := Gf_L2 hB (l := l) (a := a) (b := b) (c := c) (x := x) (y := y) (z := z) (by omega) hz z.length 0 N (by omega) (by omega)
    rw [show ((0 : Nat) : Int) = 0 from rfl] at k3
    rcases k3 with ⟨k3, k4⟩ | k3
    · have g := Glyph_eq hB (by omega : l.length ≤ 100) ha (by simpa using k2)
      have o := Of_eq hB h3 c
      obtain ⟨r, m1, m2⟩ := Mark_eq hB (x := x) (y := y) (by simpa using k4) b c
      simp only [k3, Option.bind_some, g.1, g.2, if_true, gdef_Class, o.1, o.2, m1, m2]
      simp
    · simp only [k3, Option.bind_some]
  · rw [k1, Option.bind_some]
end Go.Proofs.Ytakplhfiohjcmaa.AI
