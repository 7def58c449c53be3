/- Plain laws: sorting by keys that are alike turns nothing; moving nothing turns nothing. -/
import Derived.Test.YtjdnbdhdpcnikaaBU2
set_option linter.unusedVariables false
set_option linter.unusedSimpArgs false
namespace Go.Proofs.Ytjdnbdhdpcnikaa.AI
theorem u64w {x : Int} (h : 0 ≤ x) (h' : x ≤ 4611686018427387904) : IntKind.u64.wrap x = x := IntWalk.u64_in _ ⟨by omega, by omega⟩
theorem half {x : Int} (h : 0 ≤ x) (h' : x ≤ 1000000) : IntKind.i64.wrap ((IntKind.u64.wrap (IntKind.i64.wrap x)).fdiv (2 ^ 1)) = x / 2 := by
  rw [w64 (x := x) (by omega) (by omega), u64w h (by omega), show ((2 : Int) ^ 1) = 2 by decide, Int.fdiv_eq_ediv_of_nonneg _ (by omega), w64 (x := x / 2) (by omega) (by omega)]
/-- All that stands in a row has keys that are alike. -/
def Flat (N : Nat) (l ks : List Int) : Prop := ∀ x ∈ l, ∀ y ∈ l, buffer_Sort_1_row N x y ks = some 0
theorem ins_flat {N : Nat} (hN : 1000000000000 < N) {l ks : List Int} (hf : Flat N l ks) (hl : l.length ≤ 1000) {a b : Nat} (hb : b ≤ l.length) (ha : a ≤ l.length) : slices_insertionSortCmpFunc_int_row N l a b ks = some l := by
  have l2 : ∀ (k : Nat), k < l.length → slices_insertionSortCmpFunc_int_row_L2 N a b k ks N k l = some l := by
    intro k hk
    obtain ⟨n, hn⟩ : ∃ x, N = x + 1 := ⟨N - 1, by omega⟩
    rw [show slices_insertionSortCmpFunc_int_row_L2 N a b k ks N k l = slices_insertionSortCmpFunc_int_row_L2 N a b k ks (n + 1) k l by rw [← hn], slices_insertionSortCmpFunc_int_row_L2]
    by_cases h : (a : Int) < (k : Int)
    · obtain ⟨x, hx⟩ := getl (l := l) (show k < l.length from hk)
      obtain ⟨y, hy⟩ := getl (l := l) (show k - 1 < l.length by omega)
      rw [if_pos h, at0 hx, Option.bind_some, w64 (by omega) (by omega), at1 (k := k - 1) (by omega) hy, Option.bind_some, hf x (List.mem_of_getElem? hx) y (List.mem_of_getElem? hy), Option.bind_some, if_neg (by decide)]
    · rw [if_neg h]
  have l3 : ∀ (d k n : Nat), k + d = b + 1 → d < n → slices_insertionSortCmpFunc_int_row_L3 N a b ks n k l = some l := by
    intro d
    induction d with
    | zero =>
      intro k n hk hn
      obtain ⟨n, rfl⟩ : ∃ x, n = x + 1 := ⟨n - 1, by omega⟩
      rw [slices_insertionSortCmpFunc_int_row_L3, if_neg (by omega)]
    | succ d ih =>
      intro k n hk hn
      obtain ⟨n, rfl⟩ : ∃ x, n = x + 1 := ⟨n - 1, by omega⟩
      rw [slices_insertionSortCmpFunc_int_row_L3]
      by_cases h : (k : Int) < (b : Int)
      · rw [if_pos h, l2 k (by omega), Option.bind_some, w64 (by omega) (by omega), show (k : Int) + 1 = ((k + 1 : Nat) : Int) by omega]
        exact ih (k + 1) n (by omega) (by omega)
      · rw [if_neg h]
  have big : ∀ (k n : Nat), b ≤ k → slices_insertionSortCmpFunc_int_row_L3 N a b ks (n + 1) k l = some l := fun k n h => by rw [slices_insertionSortCmpFunc_int_row_L3, if_neg (by omega)]
  have h : slices_insertionSortCmpFunc_int_row_L3 N a b ks N ((a : Int) + 1) l = some l := by
    rw [show (a : Int) + 1 = ((a + 1 : Nat) : Int) by omega]
    rcases Nat.lt_or_ge b (a + 1) with hh | hh
    · obtain ⟨n, hn⟩ : ∃ x, N = x + 1 := ⟨N - 1, by omega⟩
      rw [show slices_insertionSortCmpFunc_int_row_L3 N a b ks N ((a + 1 : Nat) : Int) l = slices_insertionSortCmpFunc_int_row_L3 N a b ks (n + 1) ((a + 1 : Nat) : Int) l by rw [← hn]]
      exact big _ _ (by omega)
    · exact l3 (b - a) (a + 1) N (by omega) (by omega)
  unfold slices_insertionSortCmpFunc_int_row
  rw [w64 (by omega) (by omega), h]; rfl
theorem sym_L1 {N : Nat} {l ks : List Int} (hf : Flat N l ks) (hl : l.length ≤ 1000) {a : Nat} (ha : a < l.length) : ∀ (n : Nat) (i j : Nat), i ≤ j → j ≤ l.length → j - i < n → slices_symMergeCmpFunc_int_row_L1 N a l ks n i j = some (i : Int) := by
  intro n
  induction n with
  | zero => intro i j h1 h2 h3; omega
  | succ n ih =>
    intro i j h1 h2 h3
    rw [slices_symMergeCmpFunc_int_row_L1]
    by_cases h : (i : Int) < (j : Int)
    · have hm : ((i : Int) + (j : Int)) / 2 = (((i + j) / 2 : Nat) : Int) := by omega
      obtain ⟨x, hx⟩ := getl (l := l) (show (i + j) / 2 < l.length by omega)
      obtain ⟨y, hy⟩ := getl (l := l) ha
      rw [if_pos h, half (by omega) (by omega), hm, at0 hx, Option.bind_some, at0 hy, Option.bind_some, hf x (List.mem_of_getElem? hx) y (List.mem_of_getElem? hy), Option.bind_some, if_neg (by decide)]
      exact ih i ((i + j) / 2) (by omega) (by omega) (by omega)
    · rw [if_neg h]
theorem sym_L3 {N : Nat} {l ks : List Int} (hf : Flat N l ks) (hl : l.length ≤ 1000) {a : Nat} (ha : a < l.length) : ∀ (n : Nat) (i j : Nat), i ≤ j → j ≤ l.length → j - i < n → slices_symMergeCmpFunc_int_row_L3 N a l ks n i j = some (j : Int) := by
  intro n
  induction n with
  | zero => intro i j h1 h2 h3; omega
  | succ n ih =>
    intro i j h1 h2 h3
    rw [slices_symMergeCmpFunc_int_row_L3]
    by_cases h : (i : Int) < (j : Int)
    · have hm : ((i : Int) + (j : Int)) / 2 = (((i + j) / 2 : Nat) : Int) := by omega
      obtain ⟨x, hx⟩ := getl (l := l) (show (i + j) / 2 < l.length by omega)
      obtain ⟨y, hy⟩ := getl (l := l) ha
      rw [if_pos h, half (by omega) (by omega), hm, at0 hy, Option.bind_some, at0 hx, Option.bind_some, hf y (List.mem_of_getElem? hy) x (List.mem_of_getElem? hx), Option.bind_some, if_neg (by decide), w64 (by omega) (by omega), show (((i + j) / 2 : Nat) : Int) + 1 = (((i + j) / 2 + 1 : Nat) : Int) by omega]
      exact ih ((i + j) / 2 + 1) j (by omega) (by omega) (by omega)
    · rw [if_neg h, show i = j by omega]
theorem sym_L5 {N : Nat} {l ks : List Int} (hf : Flat N l ks) (hl : l.length ≤ 1000) {a m b : Nat} (hb : b ≤ l.length) (ham : a < m) (hmb : m < b) : ∀ (n : Nat) (i j : Nat), i ≤ j → j ≤ l.length → j - i < n → (a + b) / 2 + m - b ≤ i ∨ a ≤ i → b ≤ (a + b) / 2 + m ∨ j ≤ m → (a + b) / 2 + m ≤ b + i ∨ j ≤ m → j ≤ (a + b) / 2 + m →
    (∀ c, i ≤ c → c < j → (a + b) / 2 + m - 1 - c < l.length ∧ c ≤ (a + b) / 2 + m - 1) → slices_symMergeCmpFunc_int_row_L5 N a m b l ks n i j = some (j : Int) := by
  intro n
  induction n with
  | zero => intro i j h1 h2 h3; omega
  | succ n ih =>
    intro i j h1 h2 h3 e1 e2 e3 e4 e5
    rw [slices_symMergeCmpFunc_int_row_L5]
    by_cases h : (i : Int) < (j : Int)
    · have hm : ((i : Int) + (j : Int)) / 2 = (((i + j) / 2 : Nat) : Int) := by omega
      have hab : ((a : Int) + (b : Int)) / 2 = (((a + b) / 2 : Nat) : Int) := by omega
      have hc := e5 ((i + j) / 2) (by omega) (by omega)
      obtain ⟨x, hx⟩ := getl (l := l) (show (i + j) / 2 < l.length by omega)
      obtain ⟨y, hy⟩ := getl (l := l) hc.1
      rw [if_pos h, half (x := (i : Int) + (j : Int)) (by omega) (by omega), hm, half (x := (a : Int) + (b : Int)) (by omega) (by omega), hab, w64 (x := (((a + b) / 2 : Nat) : Int) + (m : Int)) (by omega) (by omega), w64 (x := (((a + b) / 2 : Nat) : Int) + (m : Int) - 1) (by omega) (by omega), w64 (x := (((a + b) / 2 : Nat) : Int) + (m : Int) - 1 - (((i + j) / 2 : Nat) : Int)) (by omega) (by omega),
        at1 (k := (a + b) / 2 + m - 1 - (i + j) / 2) (by omega) hy, Option.bind_some, at0 hx, Option.bind_some, hf y (List.mem_of_getElem? hy) x (List.mem_of_getElem? hx), Option.bind_some, if_neg (by decide), w64 (by omega) (by omega), show (((i + j) / 2 : Nat) : Int) + 1 = (((i + j) / 2 + 1 : Nat) : Int) by omega]
      exact ih ((i + j) / 2 + 1) j (by omega) (by omega) (by omega) (by omega) (by omega) (by omega) (by omega) (fun c h4 h5 => e5 c (by omega) h5)
    · rw [if_neg h, show i = j by omega]
theorem sym_flat {N : Nat} (hN : 1000000000000 < N) {l ks : List Int} (hf : Flat N l ks) (hl : l.length ≤ 1000) : ∀ (n a m b : Nat), a < m → m < b → b ≤ l.length → b - a < n → slices_symMergeCmpFunc_int_row N n l a m b ks = some l := by
  intro n
  induction n with
  | zero => intro a m b h1 h2 h3 h4; omega
  | succ n ih =>
    intro a m b h1 h2 h3 h4
    have hab : ((a : Int) + (b : Int)) / 2 = (((a + b) / 2 : Nat) : Int) := by omega
    rw [slices_symMergeCmpFunc_int_row]
    simp only [half (show (0 : Int) ≤ (a : Int) + (b : Int) by omega) (by omega), hab, w64 (x := (m : Int) - (a : Int)) (by omega) (by omega), w64 (x := (b : Int) - (m : Int)) (by omega) (by omega), w64 (x := (((a + b) / 2 : Nat) : Int) + (m : Int)) (by omega) (by omega)]
    obtain ⟨n1, hn1⟩ : ∃ x, N = x + 1 := ⟨N - 1, by omega⟩
    by_cases c1 : (m : Int) - (a : Int) = 1
    · rw [if_pos c1, sym_L1 hf hl (by omega) N m b (by omega) (by omega) (by omega), Option.bind_some]
      have : slices_symMergeCmpFunc_int_row_L2 N m ks N a l = some l := by
        rw [show slices_symMergeCmpFunc_int_row_L2 N m ks N a l = slices_symMergeCmpFunc_int_row_L2 N m ks (n1 + 1) a l by rw [← hn1], slices_symMergeCmpFunc_int_row_L2, w64 (by omega) (by omega), if_neg (by omega)]
      rw [this]; rfl
    rw [if_neg c1]
    by_cases c2 : (b : Int) - (m : Int) = 1
    · rw [if_pos c2, sym_L3 hf hl (by omega) N a m (by omega) (by omega) (by omega), Option.bind_some]
      have : slices_symMergeCmpFunc_int_row_L4 N m ks N m l = some l := by
        rw [show slices_symMergeCmpFunc_int_row_L4 N m ks N m l = slices_symMergeCmpFunc_int_row_L4 N m ks (n1 + 1) m l by rw [← hn1], slices_symMergeCmpFunc_int_row_L4, if_neg (by omega)]
      rw [this]; rfl
    rw [if_neg c2]
    by_cases c3 : (((a + b) / 2 : Nat) : Int) < (m : Int)
    · rw [if_pos c3, w64 (x := (((a + b) / 2 : Nat) : Int) + (m : Int) - (b : Int)) (by omega) (by omega), show (((a + b) / 2 : Nat) : Int) + (m : Int) - (b : Int) = (((a + b) / 2 + m - b : Nat) : Int) by omega,
        sym_L5 hf hl h3 h1 h2 N _ ((a + b) / 2) (by omega) (by omega) (by omega) (by omega) (by omega) (by omega) (by omega) (fun c h5 h6 => by omega), Option.bind_some,
        w64 (x := (((a + b) / 2 : Nat) : Int) + (m : Int) - (((a + b) / 2 : Nat) : Int)) (by omega) (by omega), show (((a + b) / 2 : Nat) : Int) + (m : Int) - (((a + b) / 2 : Nat) : Int) = (m : Int) by omega]
      rw [if_pos c3, if_neg (by omega : ¬ (m : Int) < (m : Int)), if_pos (by omega : (a : Int) < (((a + b) / 2 : Nat) : Int)), if_neg (by omega : ¬ (((a + b) / 2 : Nat) : Int) < (((a + b) / 2 : Nat) : Int)), if_pos c3, if_pos (by omega : (m : Int) < (b : Int)), ih ((a + b) / 2) m b (by omega) h2 h3 (by omega), Option.bind_some, if_pos rfl]
    · rw [if_neg c3, sym_L5 hf hl h3 h1 h2 N a m (by omega) (by omega) (by omega) (by omega) (by omega) (by omega) (by omega) (fun c h5 h6 => by omega), Option.bind_some,
        w64 (x := (((a + b) / 2 : Nat) : Int) + (m : Int) - (m : Int)) (by omega) (by omega), show (((a + b) / 2 : Nat) : Int) + (m : Int) - (m : Int) = (((a + b) / 2 : Nat) : Int) by omega]
      rw [if_neg (by omega : ¬ (m : Int) < (m : Int)), if_pos (by omega : (a : Int) < (m : Int))]
      by_cases c4 : (m : Int) < (((a + b) / 2 : Nat) : Int)
      · rw [if_pos c4, ih a m ((a + b) / 2) h1 (by omega) (by omega) (by omega), Option.bind_some, if_pos rfl, if_neg (by omega)]
      · rw [if_neg c4, if_neg (by omega)]
end Go.Proofs.Ytjdnbdhdpcnikaa.AI
