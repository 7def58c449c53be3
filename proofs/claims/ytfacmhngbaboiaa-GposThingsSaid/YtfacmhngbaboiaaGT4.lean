/- Plain law: GposThings. -/
import Derived.Test.YtfacmhngbaboiaaGT2
set_option linter.unusedVariables false
set_option linter.unusedSimpArgs false
set_option maxRecDepth 100000
namespace Go.Proofs.Ytfacmhngbaboiaa.AI
def wBase (l : List (List TAnchor)) : Int := 1 + sm wTo l
theorem wr3 (i k : Int) : IntKind.i64.wrap (IntKind.i64.wrap i + IntKind.i64.wrap (k + 1)) = IntKind.i64.wrap (i + (k + 1)) := by rw [wrL, wrR]
section
variable {N : Nat} {a_0 a_3 : Int} {b_2 : Bool} {l_1 l_14 : List TSpan} {l_4 : List (List Int)} {l_5 : List (List TLig)} {l_6 : List TCtx} {l_7 : List TValue} {l_8 l_11 : List (List TTwo)} {l_9 l_10 : List TClass} {l_12 : List TArr2_TAnchor} {l_13 : List TMark} {l_15 : List (List (List TAnchor))}
theorem pL2 {z : Int} (hl : (l_8.length : Int) ≤ R) : ∀ (d k n : Nat) (i : Int), k + d = l_8.length → d < n → gpos_Things_L2 N l_8 l_11 z a_0 l_1 b_2 a_3 l_4 l_5 l_6 l_7 l_9 l_10 l_12 l_13 l_14 l_15 n (IntKind.i64.wrap i) k = some (IntKind.i64.wrap (i + sm wTo (l_8.drop k))) := by
  intro d
  simp only [R] at hl
  induction d with
  | zero =>
    intro k n i hk hn
    obtain ⟨n, rfl⟩ : ∃ x, n = x + 1 := ⟨n - 1, by omega⟩
    rw [gpos_Things_L2, if_neg (by omega), sm_end (by omega), Int.add_zero]
  | succ d ih =>
    intro k n i hk hn
    obtain ⟨n, rfl⟩ : ∃ x, n = x + 1 := ⟨n - 1, by omega⟩
    obtain ⟨x, hx⟩ := getl (l := l_8) (show k < l_8.length by omega)
    rw [gpos_Things_L2, if_pos (by omega), at0 hx, Option.bind_some, wr3, w64 (x := (k : Int) + 1) (by omega) (by omega), show (k : Int) + 1 = ((k + 1 : Nat) : Int) by omega, ih (k + 1) n _ (by omega) (by omega), sm_drop hx]
    simp only [wTo, Int.add_assoc]
theorem pL3 {z : Int} (hl : (l_11.length : Int) ≤ R) : ∀ (d k n : Nat) (i : Int), k + d = l_11.length → d < n → gpos_Things_L3 N l_8 l_11 z a_0 l_1 b_2 a_3 l_4 l_5 l_6 l_7 l_9 l_10 l_12 l_13 l_14 l_15 n (IntKind.i64.wrap i) k = some (IntKind.i64.wrap (i + sm wTo (l_11.drop k))) := by
  intro d
  simp only [R] at hl
  induction d with
  | zero =>
    intro k n i hk hn
    obtain ⟨n, rfl⟩ : ∃ x, n = x + 1 := ⟨n - 1, by omega⟩
    rw [gpos_Things_L3, if_neg (by omega), sm_end (by omega), Int.add_zero]
  | succ d ih =>
    intro k n i hk hn
    obtain ⟨n, rfl⟩ : ∃ x, n = x + 1 := ⟨n - 1, by omega⟩
    obtain ⟨x, hx⟩ := getl (l := l_11) (show k < l_11.length by omega)
    rw [gpos_Things_L3, if_pos (by omega), at0 hx, Option.bind_some, wr3, w64 (x := (k : Int) + 1) (by omega) (by omega), show (k : Int) + 1 = ((k + 1 : Nat) : Int) by omega, ih (k + 1) n _ (by omega) (by omega), sm_drop hx]
    simp only [wTo, Int.add_assoc]
theorem pL6 {z : Int} {x0 : List (List TAnchor)} (hl : (x0.length : Int) ≤ R) : ∀ (d k n : Nat) (i : Int), k + d = x0.length → d < n → gpos_Things_L6 N l_15 z x0 n (IntKind.i64.wrap i) k = some (IntKind.i64.wrap (i + sm wTo (x0.drop k))) := by
  intro d
  simp only [R] at hl
  induction d with
  | zero =>
    intro k n i hk hn
    obtain ⟨n, rfl⟩ : ∃ x, n = x + 1 := ⟨n - 1, by omega⟩
    rw [gpos_Things_L6, if_neg (by omega), sm_end (by omega), Int.add_zero]
  | succ d ih =>
    intro k n i hk hn
    obtain ⟨n, rfl⟩ : ∃ x, n = x + 1 := ⟨n - 1, by omega⟩
    obtain ⟨x, hx⟩ := getl (l := x0) (show k < x0.length by omega)
    rw [gpos_Things_L6, if_pos (by omega), at0 hx, Option.bind_some, wr3, w64 (x := (k : Int) + 1) (by omega) (by omega), show (k : Int) + 1 = ((k + 1 : Nat) : Int) by omega, ih (k + 1) n _ (by omega) (by omega), sm_drop hx]
    simp only [wTo, Int.add_assoc]
theorem qL1 (hl : (l_8.length : Int) ≤ R) : ∀ (d k n : Nat) (i : Int), k + d = l_8.length → d < n → ref13_Things_L1 N a_0 l_1 b_2 a_3 l_4 l_5 l_6 l_7 l_8 l_9 l_10 l_11 l_12 l_13 l_14 l_15 n (IntKind.i64.wrap i) k = some (IntKind.i64.wrap (i + sm wTo (l_8.drop k))) := by
  intro d
  simp only [R] at hl
  induction d with
  | zero =>
    intro k n i hk hn
    obtain ⟨n, rfl⟩ : ∃ x, n = x + 1 := ⟨n - 1, by omega⟩
    rw [ref13_Things_L1, if_neg (by omega), sm_end (by omega), Int.add_zero]
  | succ d ih =>
    intro k n i hk hn
    obtain ⟨n, rfl⟩ : ∃ x, n = x + 1 := ⟨n - 1, by omega⟩
    obtain ⟨x, hx⟩ := getl (l := l_8) (show k < l_8.length by omega)
    rw [ref13_Things_L1, if_pos (by omega), at0 hx, Option.bind_some, wr2, w64 (x := (k : Int) + 1) (by omega) (by omega), show (k : Int) + 1 = ((k + 1 : Nat) : Int) by omega, ih (k + 1) n _ (by omega) (by omega), sm_drop hx]
    simp only [wTo, Int.add_assoc]
theorem qL2 (hl : (l_11.length : Int) ≤ R) : ∀ (d k n : Nat) (i : Int), k + d = l_11.length → d < n → ref13_Things_L2 N a_0 l_1 b_2 a_3 l_4 l_5 l_6 l_7 l_8 l_9 l_10 l_11 l_12 l_13 l_14 l_15 n (IntKind.i64.wrap i) k = some (IntKind.i64.wrap (i + sm wTo (l_11.drop k))) := by
  intro d
  simp only [R] at hl
  induction d with
  | zero =>
    intro k n i hk hn
    obtain ⟨n, rfl⟩ : ∃ x, n = x + 1 := ⟨n - 1, by omega⟩
    rw [ref13_Things_L2, if_neg (by omega), sm_end (by omega), Int.add_zero]
  | succ d ih =>
    intro k n i hk hn
    obtain ⟨n, rfl⟩ : ∃ x, n = x + 1 := ⟨n - 1, by omega⟩
    obtain ⟨x, hx⟩ := getl (l := l_11) (show k < l_11.length by omega)
    rw [ref13_Things_L2, if_pos (by omega), at0 hx, Option.bind_some, wr2, w64 (x := (k : Int) + 1) (by omega) (by omega), show (k : Int) + 1 = ((k + 1 : Nat) : Int) by omega, ih (k + 1) n _ (by omega) (by omega), sm_drop hx]
    simp only [wTo, Int.add_assoc]
theorem qL4 {z : Nat} {x0 : List (List TAnchor)} (hz : l_15[z]? = some x0) (hl : (x0.length : Int) ≤ R) : ∀ (d k n : Nat) (i : Int), k + d = x0.length → d < n → ref13_Things_L4 N z a_0 l_1 b_2 a_3 l_4 l_5 l_6 l_7 l_8 l_9 l_10 l_11 l_12 l_13 l_14 l_15 n (IntKind.i64.wrap i) k = some (IntKind.i64.wrap (i + sm wTo (x0.drop k))) := by
  intro d
  simp only [R] at hl
  induction d with
  | zero =>
    intro k n i hk hn
    obtain ⟨n, rfl⟩ : ∃ x, n = x + 1 := ⟨n - 1, by omega⟩
    rw [ref13_Things_L4, at0 hz, Option.bind_some, if_neg (by omega), sm_end (by omega), Int.add_zero]
  | succ d ih =>
    intro k n i hk hn
    obtain ⟨n, rfl⟩ : ∃ x, n = x + 1 := ⟨n - 1, by omega⟩
    obtain ⟨x, hx⟩ := getl (l := x0) (show k < x0.length by omega)
    rw [ref13_Things_L4, at0 hz, Option.bind_some, if_pos (by omega), at0 hx, Option.bind_some, wr2, w64 (x := (k : Int) + 1) (by omega) (by omega), show (k : Int) + 1 = ((k + 1 : Nat) : Int) by omega, ih (k + 1) n _ (by omega) (by omega), sm_drop hx]
    simp only [wTo, Int.add_assoc]
theorem pL7 (hN : R < N) (hl : (l_15.length : Int) ≤ R) (h1 : ∀ x ∈ l_15, (x.length : Int) ≤ R) : ∀ (d k n : Nat) (i : Int), k + d = l_15.length → d < n → gpos_Things_L7 N l_15 n (IntKind.i64.wrap i) k = some (IntKind.i64.wrap (i + sm wBase (l_15.drop k))) := by
  intro d
  simp only [R] at hl hN
  induction d with
  | zero =>
    intro k n i hk hn
    obtain ⟨n, rfl⟩ : ∃ x, n = x + 1 := ⟨n - 1, by omega⟩
    rw [gpos_Things_L7, if_neg (by omega), sm_end (by omega), Int.add_zero]
  | succ d ih =>
    intro k n i hk hn
    obtain ⟨n, rfl⟩ : ∃ x, n = x + 1 := ⟨n - 1, by omega⟩
    obtain ⟨x, hx⟩ := getl (l := l_15) (show k < l_15.length by omega)
    have hb := h1 x (List.mem_of_getElem? hx)
    have e1 := pL6 (N := N) (l_15 := l_15) (z := (k : Int)) hb x.length 0 N (i + 1) (by omega) (by simp only [R] at hb; omega)
    rw [List.drop_zero] at e1
    rw [gpos_Things_L7, if_pos (by omega), at0 hx, Option.bind_some, wrL, show (0 : Int) = ((0 : Nat) : Int) by rfl, e1, Option.bind_some, w64 (x := (k : Int) + 1) (by omega) (by omega), show (k : Int) + 1 = ((k + 1 : Nat) : Int) by omega, ih (k + 1) n _ (by omega) (by omega), sm_drop hx]
    simp only [wBase, Int.add_assoc]
theorem qL5 (hN : R < N) (hl : (l_15.length : Int) ≤ R) (h1 : ∀ x ∈ l_15, (x.length : Int) ≤ R) : ∀ (d k n : Nat) (i : Int), k + d = l_15.length → d < n → ref13_Things_L5 N a_0 l_1 b_2 a_3 l_4 l_5 l_6 l_7 l_8 l_9 l_10 l_11 l_12 l_13 l_14 l_15 n (IntKind.i64.wrap i) k = some (IntKind.i64.wrap (i + sm wBase (l_15.drop k))) := by
  intro d
  simp only [R] at hl hN
  induction d with
  | zero =>
    intro k n i hk hn
    obtain ⟨n, rfl⟩ : ∃ x, n = x + 1 := ⟨n - 1, by omega⟩
    rw [ref13_Things_L5, if_neg (by omega), sm_end (by omega), Int.add_zero]
  | succ d ih =>
    intro k n i hk hn
    obtain ⟨n, rfl⟩ : ∃ x, n = x + 1 := ⟨n - 1, by omega⟩
    obtain ⟨x, hx⟩ := getl (l := l_15) (show k < l_15.length by omega)
    have hb := h1 x (List.mem_of_getElem? hx)
    have e1 := qL4 (N := N) (a_0 := a_0) (l_1 := l_1) (b_2 := b_2) (a_3 := a_3) (l_4 := l_4) (l_5 := l_5) (l_6 := l_6) (l_7 := l_7) (l_8 := l_8) (l_9 := l_9) (l_10 := l_10) (l_11 := l_11) (l_12 := l_12) (l_13 := l_13) (l_14 := l_14) (l_15 := l_15) hx hb x.length 0 N (i + 1) (by omega) (by simp only [R] at hb; omega)
    rw [List.drop_zero] at e1
    rw [ref13_Things_L5, if_pos (by omega), wrL, show (0 : Int) = ((0 : Nat) : Int) by rfl, e1, Option.bind_some, w64 (x := (k : Int) + 1) (by omega) (by omega), show (k : Int) + 1 = ((k + 1 : Nat) : Int) by omega, ih (k + 1) n _ (by omega) (by omega), sm_drop hx]
    simp only [wBase, Int.add_assoc]
theorem lawP1 (hl : l_6.length ≤ 1000) : ∀ (d k n : Nat), k + d = l_6.length → d < n → (law13_GposThings_L1 N a_0 l_1 b_2 a_3 l_4 l_5 l_6 l_7 l_8 l_9 l_10 l_11 l_12 l_13 l_14 l_15 n k = some (.inl ()) ∧ ∀ c ∈ l_6.drop k, c.Back.length ≤ 100 ∧ c.In.length ≤ 100 ∧ c.Ahead.length ≤ 100) ∨ law13_GposThings_L1 N a_0 l_1 b_2 a_3 l_4 l_5 l_6 l_7 l_8 l_9 l_10 l_11 l_12 l_13 l_14 l_15 n k = some (.inr ()) := by
  intro d
  induction d with
  | zero =>
    intro k n hk hn
    obtain ⟨n, rfl⟩ : ∃ x, n = x + 1 := ⟨n - 1, by omega⟩
    rw [law13_GposThings_L1, if_neg (by omega), List.drop_eq_nil_of_le (by omega)]
    exact .inl ⟨rfl, by simp⟩
  | succ d ih =>
    intro k n hk hn
    obtain ⟨n, rfl⟩ : ∃ x, n = x + 1 := ⟨n - 1, by omega⟩
    obtain ⟨x, hx⟩ := getl (l := l_6) (show k < l_6.length by omega)
    obtain ⟨hkl, he⟩ := List.getElem?_eq_some_iff.1 hx
    rw [law13_GposThings_L1, if_pos (by omega), at0 hx, Option.bind_some, List.drop_eq_getElem_cons hkl, he]
    by_cases h1 : 100 < (x.Back.length : Int)
    · rw [if_pos h1]; exact .inr rfl
    by_cases h2 : 100 < (x.In.length : Int)
    · rw [if_neg h1, if_pos h2]; exact .inr rfl
    by_cases h3 : 100 < (x.Ahead.length : Int)
    · rw [if_neg h1, if_neg h2, if_pos h3]; exact .inr rfl
    rw [if_neg h1, if_neg h2, if_neg h3, w64 (x := (k : Int) + 1) (by omega) (by omega), show (k : Int) + 1 = ((k + 1 : Nat) : Int) by omega]
    rcases ih (k + 1) n (by omega) (by omega) with ⟨h4, h5⟩ | h4
    · refine .inl ⟨h4, fun c hc => ?_⟩
      rcases List.mem_cons.1 hc with rfl | hc
      · exact ⟨by omega, by omega, by omega⟩
      · exact h5 c hc
    · exact .inr h4
theorem pL4 (hN : R < N) (h8 : (l_8.length : Int) ≤ R) (h11 : (l_11.length : Int) ≤ R) {i : Int} : gpos_Things_L4 N l_8 l_11 a_0 l_1 b_2 a_3 l_4 l_5 l_6 l_7 l_9 l_10 l_12 l_13 l_14 l_15 N (IntKind.i64.wrap i) 0 = some (IntKind.i64.wrap (i + sm wTo l_8 + sm wTo l_11)) := by
  have hN0 := hN
  have g8 := h8
  have g11 := h11
  simp only [R] at hN g8 g11
  obtain ⟨n, hn⟩ : ∃ x, N = x + 3 := ⟨N - 3, by omega⟩
  have e1 := pL2 (N := N) (z := 0) (a_0 := a_0) (l_1 := l_1) (b_2 := b_2) (a_3 := a_3) (l_4 := l_4) (l_5 := l_5) (l_6 := l_6) (l_7 := l_7) (l_8 := l_8) (l_9 := l_9) (l_10 := l_10) (l_11 := l_11) (l_12 := l_12) (l_13 := l_13) (l_14 := l_14) (l_15 := l_15) h8 l_8.length 0 N i (by omega) (by omega)
  have e2 := pL3 (N := N) (z := 1) (a_0 := a_0) (l_1 := l_1) (b_2 := b_2) (a_3 := a_3) (l_4 := l_4) (l_5 := l_5) (l_6 := l_6) (l_7 := l_7) (l_8 := l_8) (l_9 := l_9) (l_10 := l_10) (l_11 := l_11) (l_12 := l_12) (l_13 := l_13) (l_14 := l_14) (l_15 := l_15) h11 l_11.length 0 N (i + sm wTo l_8) (by omega) (by omega)
  simp only [List.drop_zero] at e1 e2
  have u1 : IntKind.i64.wrap (0 + 1) = 1 := by decide
  have u2 : IntKind.i64.wrap (1 + 1) = 2 := by decide
  rw [show gpos_Things_L4 N l_8 l_11 a_0 l_1 b_2 a_3 l_4 l_5 l_6 l_7 l_9 l_10 l_12 l_13 l_14 l_15 N (IntKind.i64.wrap i) 0 = gpos_Things_L4 N l_8 l_11 a_0 l_1 b_2 a_3 l_4 l_5 l_6 l_7 l_9 l_10 l_12 l_13 l_14 l_15 (n + 1 + 1 + 1) (IntKind.i64.wrap i) 0 by rw [hn]]
  rw [gpos_Things_L4, if_pos (by decide), if_pos rfl, show gpos_Things_L2 N l_8 l_11 0 a_0 l_1 b_2 a_3 l_4 l_5 l_6 l_7 l_9 l_10 l_12 l_13 l_14 l_15 N (IntKind.i64.wrap i) 0 = _ from e1, Option.bind_some, u1]
  rw [gpos_Things_L4, if_pos (by decide), if_neg (by decide), if_pos rfl, show gpos_Things_L3 N l_8 l_11 1 a_0 l_1 b_2 a_3 l_4 l_5 l_6 l_7 l_9 l_10 l_12 l_13 l_14 l_15 N _ 0 = _ from e2, Option.bind_some, u2]
  rw [gpos_Things_L4, if_neg (by decide)]
theorem GposThings_plain (hN : 9223372036854775808 < N) (h6 : ∀ c ∈ l_6, c.Acts.length * 16 ≤ 140737488351232)
    (h7 : ∀ c ∈ l_6, ∀ s ∈ c.Back, s.Spans.length * 16 ≤ 140737488351232) (h8 : ∀ c ∈ l_6, ∀ s ∈ c.In, s.Spans.length * 16 ≤ 140737488351232) (h9 : ∀ c ∈ l_6, ∀ s ∈ c.Ahead, s.Spans.length * 16 ≤ 140737488351232) (h15 : ∀ x ∈ l_15, x.length * 24 ≤ 140737488351232) : law13_GposThings N a_0 l_1 b_2 a_3 l_4 l_5 l_6 l_7 l_8 l_9 l_10 l_11 l_12 l_13 l_14 l_15 = some true := by
  have hR : R < (N : Int) := by simp only [R]; omega
  unfold law13_GposThings
  by_cases c1 : 60 < (l_6.length : Int)
  · rw [if_pos c1]
  by_cases c2 : 300 < (l_8.length : Int)
  · rw [if_neg c1, if_pos c2]
  by_cases c3 : 300 < (l_11.length : Int)
  · rw [if_neg c1, if_neg c2, if_pos c3]
  by_cases c4 : 300 < (l_15.length : Int)
  · rw [if_neg c1, if_neg c2, if_neg c3, if_pos c4]
  rw [if_neg c1, if_neg c2, if_neg c3, if_neg c4]
  rcases lawP1 (N := N) (a_0 := a_0) (l_1 := l_1) (b_2 := b_2) (a_3 := a_3) (l_4 := l_4) (l_5 := l_5) (l_6 := l_6) (l_7 := l_7) (l_8 := l_8) (l_9 := l_9) (l_10 := l_10) (l_11 := l_11) (l_12 := l_12) (l_13 := l_13) (l_14 := l_14) (l_15 := l_15) (by omega) l_6.length 0 N (by omega) (by omega) with ⟨e1, g2⟩ | e1
  · rw [show law13_GposThings_L1 N a_0 l_1 b_2 a_3 l_4 l_5 l_6 l_7 l_8 l_9 l_10 l_11 l_12 l_13 l_14 l_15 N 0 = _ from e1, Option.bind_some]
    simp only
    rw [List.drop_zero] at g2
    have hS : Small [] [] l_6 := ⟨by simp, by simp, by simp, by simp, by simp, by omega,
        fun c hc => by have := g2 c hc; have := h6 c hc; simp only [R]; omega, fun c hc => ⟨fun s hs => by have := h7 c hc s hs; simp only [R]; omega, fun s hs => by have := h8 c hc s hs; simp only [R]; omega, fun s hs => by have := h9 c hc s hs; simp only [R]; omega⟩⟩
    have k8 : (l_8.length : Int) ≤ R := by simp only [R]; omega
    have k11 : (l_11.length : Int) ≤ R := by simp only [R]; omega
    have k15 : (l_15.length : Int) ≤ R := by simp only [R]; omega
    have k16 : ∀ x ∈ l_15, (x.length : Int) ≤ R := fun x hx => by have := h15 x hx; simp only [R]; omega
    have hp : ∃ s : Int, gpos_Things N a_0 l_1 b_2 a_3 l_4 l_5 l_6 l_7 l_8 l_9 l_10 l_11 l_12 l_13 l_14 l_15 = some (min (IntKind.i64.wrap s) 20001) ∧ ref13_Things N a_0 l_1 b_2 a_3 l_4 l_5 l_6 l_7 l_8 l_9 l_10 l_11 l_12 l_13 l_14 l_15 = some (min (IntKind.i64.wrap s) 20001) := by
      refine ⟨(min (1 + sm wTo ([] : List (List Int)) + sm wLigs [] + sm wCtx l_6) 20001) + (l_7.length : Int) + (l_12.length : Int) + (l_13.length : Int) + (l_14.length : Int) + (l_9.length : Int) + (l_10.length : Int) + sm wTo l_8 + sm wTo l_11 + sm wBase l_15, ?_, ?_⟩
      · have a2 := pL7 (N := N) (l_15 := l_15) hR k15 k16 l_15.length 0 N ((min (1 + sm wTo ([] : List (List Int)) + sm wLigs [] + sm wCtx l_6) 20001) + (l_7.length : Int) + (l_12.length : Int) + (l_13.length : Int) + (l_14.length : Int) + (l_9.length : Int) + (l_10.length : Int) + sm wTo l_8 + sm wTo l_11) (by omega) (by omega)
        rw [List.drop_zero] at a2
        unfold gpos_Things
        rw [gsub_eq (by omega) hS, Option.bind_some]
        simp only [wrL]
        rw [pL4 hR k8 k11, Option.bind_some, show gpos_Things_L7 N l_15 N _ 0 = _ from a2, Option.bind_some]
      · have a1 := qL1 (N := N) (a_0 := a_0) (l_1 := l_1) (b_2 := b_2) (a_3 := a_3) (l_4 := l_4) (l_5 := l_5) (l_6 := l_6) (l_7 := l_7) (l_8 := l_8) (l_9 := l_9) (l_10 := l_10) (l_11 := l_11) (l_12 := l_12) (l_13 := l_13) (l_14 := l_14) (l_15 := l_15) k8 l_8.length 0 N ((min (1 + sm wTo ([] : List (List Int)) + sm wLigs [] + sm wCtx l_6) 20001) + (l_7.length : Int) + (l_12.length : Int) + (l_13.length : Int) + (l_14.length : Int) + (l_9.length : Int) + (l_10.length : Int)) (by omega) (by omega)
        have a2 := qL2 (N := N) (a_0 := a_0) (l_1 := l_1) (b_2 := b_2) (a_3 := a_3) (l_4 := l_4) (l_5 := l_5) (l_6 := l_6) (l_7 := l_7) (l_8 := l_8) (l_9 := l_9) (l_10 := l_10) (l_11 := l_11) (l_12 := l_12) (l_13 := l_13) (l_14 := l_14) (l_15 := l_15) k11 l_11.length 0 N ((min (1 + sm wTo ([] : List (List Int)) + sm wLigs [] + sm wCtx l_6) 20001) + (l_7.length : Int) + (l_12.length : Int) + (l_13.length : Int) + (l_14.length : Int) + (l_9.length : Int) + (l_10.length : Int) + sm wTo l_8) (by omega) (by omega)
        have a3 := qL5 (N := N) (a_0 := a_0) (l_1 := l_1) (b_2 := b_2) (a_3 := a_3) (l_4 := l_4) (l_5 := l_5) (l_6 := l_6) (l_7 := l_7) (l_8 := l_8) (l_9 := l_9) (l_10 := l_10) (l_11 := l_11) (l_12 := l_12) (l_13 := l_13) (l_14 := l_14) (l_15 := l_15) hR k15 k16 l_15.length 0 N ((min (1 + sm wTo ([] : List (List Int)) + sm wLigs [] + sm wCtx l_6) 20001) + (l_7.length : Int) + (l_12.length : Int) + (l_13.length : Int) + (l_14.length : Int) + (l_9.length : Int) + (l_10.length : Int) + sm wTo l_8 + sm wTo l_11) (by omega) (by omega)
        rw [List.drop_zero] at a1 a2 a3
        unfold ref13_Things
        rw [ref12_eq hR hS, Option.bind_some]
        simp only [wrL]
        rw [show ref13_Things_L1 N a_0 l_1 b_2 a_3 l_4 l_5 l_6 l_7 l_8 l_9 l_10 l_11 l_12 l_13 l_14 l_15 N _ 0 = _ from a1, Option.bind_some, show ref13_Things_L2 N a_0 l_1 b_2 a_3 l_4 l_5 l_6 l_7 l_8 l_9 l_10 l_11 l_12 l_13 l_14 l_15 N _ 0 = _ from a2, Option.bind_some, show ref13_Things_L5 N a_0 l_1 b_2 a_3 l_4 l_5 l_6 l_7 l_8 l_9 l_10 l_11 l_12 l_13 l_14 l_15 N _ 0 = _ from a3, Option.bind_some]
        generalize IntKind.i64.wrap _ = x
        by_cases h : 20001 < x
        · rw [if_pos h]; congr 1; omega
        · rw [if_neg h]; congr 1; omega
    obtain ⟨s, p1, p2⟩ := hp
    rw [p1, Option.bind_some, p2, Option.bind_some]
    simp
  · rw [show law13_GposThings_L1 N a_0 l_1 b_2 a_3 l_4 l_5 l_6 l_7 l_8 l_9 l_10 l_11 l_12 l_13 l_14 l_15 N 0 = _ from e1]; rfl
end
end Go.Proofs.Ytfacmhngbaboiaa.AI
