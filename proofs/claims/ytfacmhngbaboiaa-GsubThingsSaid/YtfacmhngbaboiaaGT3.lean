/- Plain law: GsubThings. -/
import Derived.Test.YtfacmhngbaboiaaGT2
set_option linter.unusedVariables false
set_option linter.unusedSimpArgs false
set_option maxRecDepth 100000
namespace Go.Proofs.Ytfacmhngbaboiaa.AI
section
variable {N : Nat} {a_0 a_3 : Int} {b_2 : Bool} {l_1 l_14 : List TSpan} {l_4 : List (List Int)} {l_5 : List (List TLig)} {l_6 : List TCtx} {l_7 : List TValue} {l_8 l_11 : List (List TTwo)} {l_9 l_10 : List TClass} {l_12 : List TArr2_TAnchor} {l_13 : List TMark} {l_15 : List (List (List TAnchor))}
theorem lawL1 (hl : l_5.length ≤ 1000) : ∀ (d k n : Nat), k + d = l_5.length → d < n → (law12_GsubThings_L1 N a_0 l_1 b_2 a_3 l_4 l_5 l_6 l_7 l_8 l_9 l_10 l_11 l_12 l_13 l_14 l_15 n k = some (.inl ()) ∧ ∀ x ∈ l_5.drop k, x.length ≤ 500) ∨ law12_GsubThings_L1 N a_0 l_1 b_2 a_3 l_4 l_5 l_6 l_7 l_8 l_9 l_10 l_11 l_12 l_13 l_14 l_15 n k = some (.inr ()) := by
  intro d
  induction d with
  | zero =>
    intro k n hk hn
    obtain ⟨n, rfl⟩ : ∃ x, n = x + 1 := ⟨n - 1, by omega⟩
    rw [law12_GsubThings_L1, if_neg (by omega), List.drop_eq_nil_of_le (by omega)]
    exact .inl ⟨rfl, by simp⟩
  | succ d ih =>
    intro k n hk hn
    obtain ⟨n, rfl⟩ : ∃ x, n = x + 1 := ⟨n - 1, by omega⟩
    obtain ⟨x, hx⟩ := getl (l := l_5) (show k < l_5.length by omega)
    obtain ⟨hkl, he⟩ := List.getElem?_eq_some_iff.1 hx
    rw [law12_GsubThings_L1, if_pos (by omega), at0 hx, Option.bind_some, List.drop_eq_getElem_cons hkl, he]
    by_cases h : 500 < (x.length : Int)
    · rw [if_pos h]; exact .inr rfl
    · rw [if_neg h, w64 (x := (k : Int) + 1) (by omega) (by omega), show (k : Int) + 1 = ((k + 1 : Nat) : Int) by omega]
      rcases ih (k + 1) n (by omega) (by omega) with ⟨h1, h2⟩ | h1
      · refine .inl ⟨h1, fun y hy => ?_⟩
        rcases List.mem_cons.1 hy with rfl | hy
        · omega
        · exact h2 y hy
      · exact .inr h1
theorem lawL2 (hl : l_6.length ≤ 1000) : ∀ (d k n : Nat), k + d = l_6.length → d < n → (law12_GsubThings_L2 N a_0 l_1 b_2 a_3 l_4 l_5 l_6 l_7 l_8 l_9 l_10 l_11 l_12 l_13 l_14 l_15 n k = some (.inl ()) ∧ ∀ c ∈ l_6.drop k, c.Back.length ≤ 100 ∧ c.In.length ≤ 100 ∧ c.Ahead.length ≤ 100) ∨ law12_GsubThings_L2 N a_0 l_1 b_2 a_3 l_4 l_5 l_6 l_7 l_8 l_9 l_10 l_11 l_12 l_13 l_14 l_15 n k = some (.inr ()) := by
  intro d
  induction d with
  | zero =>
    intro k n hk hn
    obtain ⟨n, rfl⟩ : ∃ x, n = x + 1 := ⟨n - 1, by omega⟩
    rw [law12_GsubThings_L2, if_neg (by omega), List.drop_eq_nil_of_le (by omega)]
    exact .inl ⟨rfl, by simp⟩
  | succ d ih =>
    intro k n hk hn
    obtain ⟨n, rfl⟩ : ∃ x, n = x + 1 := ⟨n - 1, by omega⟩
    obtain ⟨x, hx⟩ := getl (l := l_6) (show k < l_6.length by omega)
    obtain ⟨hkl, he⟩ := List.getElem?_eq_some_iff.1 hx
    rw [law12_GsubThings_L2, if_pos (by omega), at0 hx, Option.bind_some, List.drop_eq_getElem_cons hkl, he]
    by_cases h1 : 100 < (x.Back.length : Int)
    · rw [if_pos h1]; exact .inr rfl
    by_cases h2 : 100 < (x.In.length : Int)
    · rw [if_neg h1, if_pos h2]; exact .inr rfl
    by_cases h3 : 100 < (x.Ahead.length : Int)
    · rw [if_neg h1, if_neg h2, if_pos h3]; exact .inr rfl
    rw [if_neg h1, if_neg h2, if_neg h3, w64 (x := (k : Int) + 1) (by omega) (by omega), show (k : Int) + 1 = ((k + 1 : Nat) : Int) by omega]
    rcases ih (k + 1) n (by omega) (by omega) with ⟨h4, h5⟩ | h4
    · refine .inl ⟨h4, fun c hc => ?_⟩
      rcases List.mem_cons.1 hc with rfl | hc
      · exact ⟨by omega, by omega, by omega⟩
      · exact h5 c hc
    · exact .inr h4
theorem GsubThings_plain (hN : 9223372036854775808 < N) (h4 : ∀ x ∈ l_4, x.length * 8 ≤ 140737488351232) (h5 : ∀ x ∈ l_5, ∀ y ∈ x, y.Parts.length * 8 ≤ 140737488351232) (h6 : ∀ c ∈ l_6, c.Acts.length * 16 ≤ 140737488351232)
    (h7 : ∀ c ∈ l_6, ∀ s ∈ c.Back, s.Spans.length * 16 ≤ 140737488351232) (h8 : ∀ c ∈ l_6, ∀ s ∈ c.In, s.Spans.length * 16 ≤ 140737488351232) (h9 : ∀ c ∈ l_6, ∀ s ∈ c.Ahead, s.Spans.length * 16 ≤ 140737488351232) : law12_GsubThings N a_0 l_1 b_2 a_3 l_4 l_5 l_6 l_7 l_8 l_9 l_10 l_11 l_12 l_13 l_14 l_15 = some true := by
  have hR : R < (N : Int) := by simp only [R]; omega
  unfold law12_GsubThings
  by_cases c1 : 500 < (l_4.length : Int)
  · rw [if_pos c1]
  by_cases c2 : 500 < (l_5.length : Int)
  · rw [if_neg c1, if_pos c2]
  by_cases c3 : 100 < (l_6.length : Int)
  · rw [if_neg c1, if_neg c2, if_pos c3]
  rw [if_neg c1, if_neg c2, if_neg c3, show (0 : Int) = ((0 : Nat) : Int) by rfl]
  rcases lawL1 (N := N) (a_0 := a_0) (l_1 := l_1) (b_2 := b_2) (a_3 := a_3) (l_4 := l_4) (l_5 := l_5) (l_6 := l_6) (l_7 := l_7) (l_8 := l_8) (l_9 := l_9) (l_10 := l_10) (l_11 := l_11) (l_12 := l_12) (l_13 := l_13) (l_14 := l_14) (l_15 := l_15) (by omega) l_5.length 0 N (by omega) (by omega) with ⟨e1, g1⟩ | e1
  · rw [e1, Option.bind_some]
    simp only
    rcases lawL2 (N := N) (a_0 := a_0) (l_1 := l_1) (b_2 := b_2) (a_3 := a_3) (l_4 := l_4) (l_5 := l_5) (l_6 := l_6) (l_7 := l_7) (l_8 := l_8) (l_9 := l_9) (l_10 := l_10) (l_11 := l_11) (l_12 := l_12) (l_13 := l_13) (l_14 := l_14) (l_15 := l_15) (by omega) l_6.length 0 N (by omega) (by omega) with ⟨e2, g2⟩ | e2
    · rw [List.drop_zero] at g1 g2
      have hS : Small l_4 l_5 l_6 := ⟨by omega, fun x hx => by have := h4 x hx; simp only [R]; omega, by omega, g1, fun x hx y hy => by have := h5 x hx y hy; simp only [R]; omega, by omega,
        fun c hc => by have := g2 c hc; have := h6 c hc; simp only [R]; omega, fun c hc => ⟨fun s hs => by have := h7 c hc s hs; simp only [R]; omega, fun s hs => by have := h8 c hc s hs; simp only [R]; omega, fun s hs => by have := h9 c hc s hs; simp only [R]; omega⟩⟩
      rw [e2, Option.bind_some]
      simp only
      rw [gsub_eq (by omega) hS, Option.bind_some, ref12_eq hR hS, Option.bind_some]
      simp
    · rw [e2]; rfl
  · rw [e1]; rfl
end
end Go.Proofs.Ytfacmhngbaboiaa.AI
