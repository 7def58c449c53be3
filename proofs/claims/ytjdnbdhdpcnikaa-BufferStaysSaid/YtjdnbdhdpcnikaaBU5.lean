/- Plain laws: BufferStays. Sorting by keys that are alike, moving nothing and putting a glyph in its own place turn nothing. -/
import Derived.Test.YtjdnbdhdpcnikaaBU4
set_option linter.unusedVariables false
set_option linter.unusedSimpArgs false
namespace Go.Proofs.Ytjdnbdhdpcnikaa.AI
theorem CloneR_eq2 {N : Nat} {l : List TGlyph} (hl : l.length ≤ 1000000) : slices_Clone_apiGlyphapiGlyph_row N l = some l := by
  unfold slices_Clone_apiGlyphapiGlyph_row
  by_cases h : l = []
  · rw [if_pos h, h]
  · rw [if_neg h, if_pos (by omega)]
def ups (n : Nat) : List Int := (List.range n).map (fun (k : Nat) => (k : Int))
theorem ups_len (n : Nat) : (ups n).length = n := by simp [ups]
theorem ups_succ (n : Nat) : ups (n + 1) = ups n ++ [(n : Int)] := by simp [ups, List.range_succ]
theorem ups_at {n k : Nat} (h : k < n) : (ups n)[k]? = some (k : Int) := by simp [ups, h]
theorem ups_mem {n : Nat} {x : Int} (h : x ∈ ups n) : ∃ k : Nat, k < n ∧ x = (k : Int) := by
  simp only [ups, List.mem_map, List.mem_range] at h
  obtain ⟨k, h1, h2⟩ := h
  exact ⟨k, h1, h2.symm⟩
theorem rep_at {n k : Nat} (h : k < n) : (List.replicate n (7 : Int))[k]? = some 7 := by simp [h]
theorem flat_ups {N : Nat} (n : Nat) : Flat N (ups n) (List.replicate n 7) := by
  intro x hx y hy
  obtain ⟨i, hi, rfl⟩ := ups_mem hx
  obtain ⟨j, hj, rfl⟩ := ups_mem hy
  unfold buffer_Sort_1_row
  rw [at0 (rep_at hi), Option.bind_some, at0 (rep_at hj), Option.bind_some, if_neg (by decide), if_neg (by decide)]
theorem st_L1 {N : Nat} (hN : 1000000000000 < N) {l ks : List Int} (hf : Flat N l ks) (hl : l.length ≤ 1000) {m : Nat} (hm : m ≤ l.length) : ∀ (d n i : Nat), i ≤ m → m - i < d → d < n →
    ∃ a : Nat, a ≤ m ∧ slices_stableCmpFunc_int_row_L1 N m ks n i ((i : Int) + 20) l = some ((a : Int), l) := by
  intro d
  induction d with
  | zero => intro n i h1 h2 h3; omega
  | succ d ih =>
    intro n i h1 h2 h3
    obtain ⟨n, rfl⟩ : ∃ x, n = x + 1 := ⟨n - 1, by omega⟩
    rw [slices_stableCmpFunc_int_row_L1]
    by_cases h : (i : Int) + 20 ≤ (m : Int)
    · rw [if_pos h, show (i : Int) + 20 = ((i + 20 : Nat) : Int) by omega, ins_flat hN hf hl (by omega) (by omega), Option.bind_some, if_pos rfl, w64 (by omega) (by omega)]
      exact ih n (i + 20) (by omega) (by omega) (by omega)
    · rw [if_neg h]; exact ⟨i, h1, rfl⟩
theorem st_L3 {N : Nat} (hN : 1000000000000 < N) {l ks : List Int} (hf : Flat N l ks) (hl : l.length ≤ 1000) {m b : Nat} (hm : m ≤ l.length) (hb : 1 ≤ b) (hb2 : b ≤ 1000) : ∀ (d n i : Nat), i ≤ m → m - i < d → d < n →
    ∃ a : Nat, a ≤ m ∧ slices_stableCmpFunc_int_row_L3 N m b ks n i ((i : Int) + 2 * (b : Int)) l = some ((a : Int), l) := by
  intro d
  induction d with
  | zero => intro n i h1 h2 h3; omega
  | succ d ih =>
    intro n i h1 h2 h3
    obtain ⟨n, rfl⟩ : ∃ x, n = x + 1 := ⟨n - 1, by omega⟩
    rw [slices_stableCmpFunc_int_row_L3]
    by_cases h : (i : Int) + 2 * (b : Int) ≤ (m : Int)
    · rw [if_pos h, w64 (x := (i : Int) + (b : Int)) (by omega) (by omega), show (i : Int) + (b : Int) = ((i + b : Nat) : Int) by omega, show (i : Int) + 2 * (b : Int) = ((i + 2 * b : Nat) : Int) by omega,
        sym_flat hN hf hl N i (i + b) (i + 2 * b) (by omega) (by omega) (by omega) (by omega), Option.bind_some, if_pos rfl, w64 (x := 2 * (b : Int)) (by omega) (by omega), w64 (by omega) (by omega)]
      exact ih n (i + 2 * b) (by omega) (by omega) (by omega)
    · rw [if_neg h]; exact ⟨i, h1, rfl⟩
theorem st_L4 {N : Nat} (hN : 1000000000000 < N) {l ks : List Int} (hf : Flat N l ks) (hl : l.length ≤ 1000) {m : Nat} (hm : m ≤ l.length) : ∀ (d n b : Nat), 1 ≤ b → b ≤ 2000 → m - b < d → d < n →
    slices_stableCmpFunc_int_row_L4 N m ks n b l = some l := by
  intro d
  induction d with
  | zero => intro n b h1 h2 h3 h4; omega
  | succ d ih =>
    intro n b h1 h2 h3 h4
    obtain ⟨n, rfl⟩ : ∃ x, n = x + 1 := ⟨n - 1, by omega⟩
    rw [slices_stableCmpFunc_int_row_L4]
    by_cases h : (b : Int) < (m : Int)
    · obtain ⟨a, ha, hL⟩ := st_L3 hN hf hl hm h1 (by omega) (m + 1) N 0 (by omega) (by omega) (by omega)
      rw [show ((0 : Nat) : Int) + 2 * (b : Int) = 2 * (b : Int) by omega] at hL
      rw [if_pos h, w64 (x := 2 * (b : Int)) (by omega) (by omega), show (0 : Int) = ((0 : Nat) : Int) by rfl, hL, Option.bind_some]
      simp only [w64 (x := (a : Int) + (b : Int)) (by omega) (by omega), w64 (x := (b : Int) * 2) (by omega) (by omega)]
      rw [show (b : Int) * 2 = ((b * 2 : Nat) : Int) by omega]
      by_cases h5 : (a : Int) + (b : Int) < (m : Int)
      · rw [if_pos h5, show (a : Int) + (b : Int) = ((a + b : Nat) : Int) by omega, sym_flat hN hf hl N a (a + b) m (by omega) (by omega) hm (by omega), Option.bind_some, if_pos rfl]
        exact ih n (b * 2) (by omega) (by omega) (by omega) (by omega)
      · rw [if_neg h5]
        exact ih n (b * 2) (by omega) (by omega) (by omega) (by omega)
    · rw [if_neg h]
theorem stable_flat {N : Nat} (hN : 1000000000000 < N) {l ks : List Int} (hf : Flat N l ks) (hl : l.length ≤ 1000) : slices_SortStableFunc_intint_row N l ks = some l := by
  unfold slices_SortStableFunc_intint_row slices_stableCmpFunc_int_row
  obtain ⟨a, ha, hL⟩ := st_L1 hN hf hl (Nat.le_refl _) (l.length + 1) N 0 (by omega) (by omega) (by omega)
  rw [show ((0 : Nat) : Int) + 20 = 20 by rfl] at hL
  rw [show (0 : Int) = ((0 : Nat) : Int) by rfl, hL, Option.bind_some]
  simp only
  rw [ins_flat hN hf hl (by omega) (by omega), Option.bind_some, if_pos rfl, show (20 : Int) = ((20 : Nat) : Int) by rfl, st_L4 hN hf hl (Nat.le_refl _) (l.length + 1) N 20 (by omega) (by omega) (by omega) (by omega), Option.bind_some, Option.bind_some, if_pos rfl]
theorem sort_L1 {N : Nat} {l : List TGlyph} {a : Int} {ks : List Int} (hl : ks.length ≤ 1000) : ∀ (d n k : Nat), k + d = ks.length → d < n → buffer_Sort_row_L1 N l a ks n k (ups k) = some (ups ks.length) := by
  intro d
  induction d with
  | zero =>
    intro n k h1 h2
    obtain ⟨n, rfl⟩ : ∃ x, n = x + 1 := ⟨n - 1, by omega⟩
    rw [buffer_Sort_row_L1, if_neg (by omega), show k = ks.length by omega]
  | succ d ih =>
    intro n k h1 h2
    obtain ⟨n, rfl⟩ : ∃ x, n = x + 1 := ⟨n - 1, by omega⟩
    rw [buffer_Sort_row_L1, if_pos (by omega), if_pos (by rw [ups_len]; omega), w64 (by omega) (by omega), ← ups_succ]
    exact ih n (k + 1) (by omega) (by omega)
/-- The blocks of an order that moves nothing. -/
def ones (n : Nat) : List TArr2_I64 := (List.range n).map (fun (k : Nat) => ⟨(k : Int), (k : Int) + 1⟩)
theorem ones_len (n : Nat) : (ones n).length = n := by simp [ones]
theorem ones_succ (n : Nat) : ones (n + 1) = ones n ++ [⟨(n : Int), (n : Int) + 1⟩] := by simp [ones, List.range_succ]
theorem ones_at {n k : Nat} (h : k < n) : (ones n)[k]? = some ⟨(k : Int), (k : Int) + 1⟩ := by simp [ones, h]
theorem blk_L1 {N : Nat} {m : Nat} (hm : m ≤ 1000) : ∀ (d n k : Nat) (s : List Bool), k + d = m → d < n → s.length = m → (∀ j, k ≤ j → j < m → s[j]? = some false) → buffer_Blocks_row_L1 N (ups m) n k s = some (.inl ()) := by
  intro d
  induction d with
  | zero =>
    intro n k s h1 h2 h3 h4
    obtain ⟨n, rfl⟩ : ∃ x, n = x + 1 := ⟨n - 1, by omega⟩
    rw [buffer_Blocks_row_L1, if_neg (by rw [ups_len]; omega)]
  | succ d ih =>
    intro n k s h1 h2 h3 h4
    obtain ⟨n, rfl⟩ : ∃ x, n = x + 1 := ⟨n - 1, by omega⟩
    rw [buffer_Blocks_row_L1, if_pos (by rw [ups_len]; omega), at0 (ups_at (by omega)), Option.bind_some, if_neg (by omega), if_neg (by rw [ups_len]; omega), at0 (h4 k (by omega) (by omega)), Option.bind_some, if_neg (by decide), w64 (by omega) (by omega)]
    exact ih n (k + 1) _ (by omega) (by omega) (by simpa using h3) (fun j h5 h6 => by rw [List.getElem?_set_ne (by omega)]; exact h4 j (by omega) h6)
theorem blk_L2 {N : Nat} {m : Nat} (hm : m ≤ 1000) : ∀ (d n k : Nat), k + d = m → d < n → buffer_Blocks_row_L2 N (ups m) n k ((k : Int) - 1) k (ones k) = some (ones m) := by
  intro d
  induction d with
  | zero =>
    intro n k h1 h2
    obtain ⟨n, rfl⟩ : ∃ x, n = x + 1 := ⟨n - 1, by omega⟩
    rw [buffer_Blocks_row_L2, if_neg (by rw [ups_len]; omega), show k = m by omega]
  | succ d ih =>
    intro n k h1 h2
    obtain ⟨n, rfl⟩ : ∃ x, n = x + 1 := ⟨n - 1, by omega⟩
    have hmax : max ((k : Int) - 1) (k : Int) = (k : Int) := by omega
    rw [buffer_Blocks_row_L2, if_pos (by rw [ups_len]; omega), at0 (ups_at (by omega)), Option.bind_some]
    simp only [hmax, w64 (x := (k : Int) + 1) (by omega) (by omega)]
    rw [if_pos trivial, if_pos (by rw [ones_len]; omega), ← ones_succ]
    have := ih n (k + 1) (by omega) (by omega)
    rw [show (((k + 1 : Nat) : Int) - 1) = (k : Int) by omega, show ((k + 1 : Nat) : Int) = (k : Int) + 1 by omega] at this
    exact this
theorem blocks_ups {N : Nat} (hN : 1000000000000 < N) {m : Nat} (hm : m ≤ 1000) : buffer_Blocks_row N (ups m) = some (ones m) := by
  unfold buffer_Blocks_row
  have h1 := blk_L1 (N := N) hm m N 0 (List.replicate m false) (by omega) (by omega) (by simp) (fun j h1 h2 => by simp [h2])
  have h2 := blk_L2 (N := N) hm m N 0 (by omega) (by omega)
  rw [if_pos (by rw [ups_len]; omega), if_pos (by rw [ups_len]; omega), ups_len, show (0 : Int) = ((0 : Nat) : Int) by rfl, h1, Option.bind_some]
  simp only
  rw [show (-1 : Int) = ((0 : Nat) : Int) - 1 by rfl, show ([] : List TArr2_I64) = ones 0 by rfl, h2]; rfl
theorem ord_L1 {N : Nat} {m : Nat} (hm : m ≤ 1000) {o : List Int} {s : List TGlyph} : ∀ (d n k : Nat), k + d = m → d < n → buffer_Order_row_L1 N 0 (ones m) o n k s = some s := by
  intro d
  induction d with
  | zero =>
    intro n k h1 h2
    obtain ⟨n, rfl⟩ : ∃ x, n = x + 1 := ⟨n - 1, by omega⟩
    rw [buffer_Order_row_L1, if_neg (by rw [ones_len]; omega)]
  | succ d ih =>
    intro n k h1 h2
    obtain ⟨n, rfl⟩ : ∃ x, n = x + 1 := ⟨n - 1, by omega⟩
    rw [buffer_Order_row_L1, if_pos (by rw [ones_len]; omega), at0 (ones_at (by omega)), Option.bind_some]
    simp only
    rw [w64 (x := (k : Int) + 1 - (k : Int)) (by omega) (by omega), if_neg (by omega), w64 (by omega) (by omega)]
    exact ih n (k + 1) (by omega) (by omega)
theorem ord_L2 {N : Nat} {s : List TGlyph} {m : Nat} (hm : m ≤ 1000) (hs : s.length = m) : ∀ (d n k : Nat), k + d = m → d < n → buffer_Order_row_L2 N 0 (ups m) s n k s = some s := by
  intro d
  induction d with
  | zero =>
    intro n k h1 h2
    obtain ⟨n, rfl⟩ : ∃ x, n = x + 1 := ⟨n - 1, by omega⟩
    rw [buffer_Order_row_L2, if_neg (by rw [ups_len]; omega)]
  | succ d ih =>
    intro n k h1 h2
    obtain ⟨n, rfl⟩ : ∃ x, n = x + 1 := ⟨n - 1, by omega⟩
    obtain ⟨x, hx⟩ := getl (l := s) (show k < s.length by omega)
    rw [buffer_Order_row_L2, if_pos (by rw [ups_len]; omega), at0 (ups_at (by omega)), Option.bind_some]
    simp only [Int.zero_add, w64 (x := (k : Int)) (by omega) (by omega), w64 (x := (k : Int) + 1) (by omega) (by omega), at0 hx, Option.bind_some, Int.toNat_natCast]
    have : s.set k x = s := by
      obtain ⟨hk, he⟩ := List.getElem?_eq_some_iff.1 hx
      rw [← he, List.set_getElem_self]
    rw [this]
    exact ih n (k + 1) (by omega) (by omega)
theorem order_ups {N : Nat} (hN : 1000000000000 < N) {l : List TGlyph} (hl : l.length ≤ 1000) : buffer_Order_row N l 0 (ups l.length) = some l := by
  unfold buffer_Order_row
  rw [blocks_ups hN hl, Option.bind_some, Clone_eq (by omega), Option.bind_some, if_neg (by decide), ups_len, if_neg (by omega), w64 (by omega) (by omega), if_neg (by omega), ones_len]
  by_cases h : (l.length : Int) = 0
  · rw [if_pos h]
  · rw [if_neg h, show (0 : Int) = ((0 : Nat) : Int) by rfl, show buffer_Order_row_L1 N ((0 : Nat) : Int) = buffer_Order_row_L1 N 0 by rfl, ord_L1 hl l.length N 0 (by omega) (by omega), Option.bind_some, CloneR_eq2 (by omega), Option.bind_some,
      show buffer_Order_row_L2 N ((0 : Nat) : Int) = buffer_Order_row_L2 N 0 by rfl, ord_L2 hl rfl l.length N 0 (by omega) (by omega)]; rfl
theorem stays_L1 {N : Nat} {l : List TGlyph} {a : Int} (hl : l.length ≤ 1000) : ∀ (d n k : Nat), k + d = l.length → d < n → law17_BufferStays_L1 N l a n k (ups k) (List.replicate k 7) = some (ups l.length, List.replicate l.length 7) := by
  intro d
  induction d with
  | zero =>
    intro n k h1 h2
    obtain ⟨n, rfl⟩ : ∃ x, n = x + 1 := ⟨n - 1, by omega⟩
    rw [law17_BufferStays_L1, if_neg (by omega), show k = l.length by omega]
  | succ d ih =>
    intro n k h1 h2
    obtain ⟨n, rfl⟩ : ∃ x, n = x + 1 := ⟨n - 1, by omega⟩
    rw [law17_BufferStays_L1, if_pos (by omega), if_pos (by rw [ups_len]; omega), if_pos (by rw [List.length_replicate]; omega), w64 (by omega) (by omega), ← ups_succ, ← List.replicate_succ']
    exact ih n (k + 1) (by omega) (by omega)
theorem sort_same {N : Nat} (hN : 1000000000000 < N) {l : List TGlyph} (hl : l.length ≤ 1000) : buffer_Sort_row N l 0 (l.length : Int) (List.replicate l.length 7) = some l := by
  unfold buffer_Sort_row
  have h := sort_L1 (N := N) (l := l) (a := 0) (ks := List.replicate l.length 7) (by simpa using hl) l.length N 0 (by simp) (by omega)
  rw [List.length_replicate] at h
  rw [if_neg (by decide), if_neg (by omega), if_neg (by omega), w64 (by omega) (by omega), List.length_replicate, if_pos (by omega), show ([] : List Int) = ups 0 by rfl]
  rw [show buffer_Sort_row_L1 N l 0 (List.replicate l.length 7) N 0 (ups 0) = some (ups l.length) from h, Option.bind_some, stable_flat hN (flat_ups _) (by rw [ups_len]; exact hl), Option.bind_some, if_pos rfl, order_ups hN hl]; rfl
theorem replace_same {N : Nat} (hN : 1000000000000 < N) {l : List TGlyph} (hl : l.length ≤ 1000) {a : Nat} {x : TGlyph} (hx : l[a]? = some x) : buffer_Replace N l (a : Int) 1 [x.Id] = some l := by
  obtain ⟨ha, he⟩ := List.getElem?_eq_some_iff.1 hx
  unfold buffer_Replace
  rw [if_neg (by omega), if_neg (by decide), if_neg (by omega), w64 (by omega) (by omega), if_neg (by omega), if_neg (by decide), at0 hx, Option.bind_some, if_pos (by omega), if_pos (by omega), sl0, Clone_eq (by simp; omega), Option.bind_some]
  have h3 : buffer_Replace_L3 N l (a : Int) 1 [x.Id] x N 0 (l.take a) = some (l.take a ++ [x]) := by
    rw [Rep_L3]
    have := Rep_L1 (N := N) (y := l) (a := (a : Int)) (b := 1) (l := [x.Id]) (x := x) (by simp) 1 0 N (l.take a) rfl (by omega) (by simp; omega)
    exact this
  rw [h3, Option.bind_some, w64 (by omega) (by omega), if_pos (by omega), if_pos (by omega), show (a : Int) + 1 = ((a + 1 : Nat) : Int) by omega, slEnd, if_pos (by simp; omega)]
  have hl2 : (l.take a ++ [x]) ++ l.drop (a + 1) = l := by
    rw [List.append_assoc, List.singleton_append, ← he, ← List.drop_eq_getElem_cons ha, List.take_append_drop]
  rw [hl2]
  by_cases h : (a : Int) = 0
  · rw [if_pos h, if_neg (by simp)]
  · rw [if_neg h]
theorem BufferStays_plain {N : Nat} (hN : 1000000000000 < N) (l : List TGlyph) (a : Int) : law17_BufferStays N l a = some true := by
  unfold law17_BufferStays
  by_cases hl : 100 < (l.length : Int)
  · rw [if_pos hl]
  have hs := Same_eq hN (l := l) (by omega)
  have h1 := stays_L1 (N := N) (l := l) (a := a) (by omega) l.length N 0 (by omega) (by omega)
  rw [if_neg hl, show law17_BufferStays_L1 N l a N 0 [] [] = some (ups l.length, List.replicate l.length 7) from h1, Option.bind_some]
  simp only [order_ups hN (show l.length ≤ 1000 by omega), sort_same hN (show l.length ≤ 1000 by omega), blocks_ups hN (show l.length ≤ 1000 by omega), Option.bind_some, hs, ones_len, if_true]
  by_cases h2 : 0 ≤ a
  · rw [if_pos h2]
    by_cases h3 : a < (l.length : Int)
    · obtain ⟨k, rfl⟩ : ∃ k : Nat, a = (k : Int) := ⟨a.toNat, by omega⟩
      obtain ⟨x, hx⟩ := getl (l := l) (show k < l.length by omega)
      rw [if_pos h3, at0 hx, Option.bind_some, replace_same hN (by omega) hx, Option.bind_some, hs, Option.bind_some]
      simp
    · rw [if_neg h3]; simp
  · rw [if_neg h2]; simp
end Go.Proofs.Ytjdnbdhdpcnikaa.AI
