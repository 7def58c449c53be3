/- Plain laws of package octet's printed functions: numbers of 1, 2 and 4 bytes at a place of at most 5000 bytes, by the program and by the reference. Conditions: each element is a byte. -/
import Derived.Test.YtahmicipakmbmaaQ3
import Derived.Test.YtahmicipakmbmaaQ6
import Derived.Laws.BitsLemmas
namespace Go.Proofs.Ytahmicipakmbmaa.Pure
open Go.RowKit Go.Proofs.Ytahmicipakmbmaa.Q Go.Proofs.YtahmicipakmbmaaW.PrintWords Go.Proofs.YtahmicipakmbmaaW.PrintLast

theorem i64_range {a : Int} (h : (Lit.int .i64 a).wf = true) : -9223372036854775808 ≤ a ∧ a ≤ 9223372036854775807 := by
  simp only [Lit.wf, IntKind.min, IntKind.max, IntKind.signed, IntKind.bits, Bool.and_eq_true, decide_eq_true_eq, if_true] at h
  omega
theorem u8_range {l : List Int} (h : ∀ x ∈ l, (Lit.int .u8 x).wf = true) : ∀ x ∈ l, 0 ≤ x ∧ x ≤ 255 := by
  intro x hx
  have := h x hx
  simp [Lit.wf, IntKind.min, IntKind.max, IntKind.signed, IntKind.bits] at this
  omega
def Bytes (l : List Int) : Prop := ∀ x ∈ l, 0 ≤ x ∧ x ≤ 255
theorem rd_byte {l : List Int} (h : Bytes l) (i : Int) : 0 ≤ rd l i ∧ rd l i ≤ 255 := by
  unfold rd
  rw [List.getD_eq_getElem?_getD]
  rcases Nat.lt_or_ge i.toNat l.length with h1 | h1
  · rw [List.getElem?_eq_getElem h1]; exact h _ (List.getElem_mem h1)
  · rw [List.getElem?_eq_none h1]; simp
theorem wrap_id {n : Int} (h0 : -9223372036854775808 ≤ n) (h1 : n ≤ 9223372036854775807) : wrap64 n = n := by unfold wrap64; omega
theorem wraps_i64 (n : Int) (h0 : 0 ≤ n) (h1 : n < 2 ^ 63) : IntKind.i64.wrap n = n := by rw [IntKind.wrap_i64]; omega
theorem or_byte (n c : Int) (h0 : 0 ≤ n) (h1 : n < 36028797018963968) (h2 : 0 ≤ c) (h3 : c ≤ 255) : Go.bits .or .i64 (wrap64 (n * 256)) (wrap64 c) = n * 256 + c := by
  rw [wrap_id (by omega) (by omega), wrap_id (n := c) (by omega) (by omega)]
  exact bits_join .i64 63 (by decide) wraps_i64 8 (n * 256) c (by omega) (by omega) (by omega) h2 (by omega) (by omega)
def num1 (l : List Int) (a : Int) : Int := rd l a
def num2 (l : List Int) (a : Int) : Int := rd l a * 256 + rd l (a + 1)
def num4 (l : List Int) (a : Int) : Int := ((rd l a * 256 + rd l (a + 1)) * 256 + rd l (a + 2)) * 256 + rd l (a + 3)
theorem num1_range {l : List Int} (h : Bytes l) (a : Int) : 0 ≤ num1 l a ∧ num1 l a ≤ 255 := rd_byte h a
theorem num2_range {l : List Int} (h : Bytes l) (a : Int) : 0 ≤ num2 l a ∧ num2 l a ≤ 65535 := by
  have h0 := rd_byte h a
  have h1 := rd_byte h (a + 1)
  unfold num2
  omega
theorem num4_range {l : List Int} (h : Bytes l) (a : Int) : 0 ≤ num4 l a ∧ num4 l a ≤ 4294967295 := by
  have h0 := rd_byte h a
  have h1 := rd_byte h (a + 1)
  have h2 := rd_byte h (a + 2)
  have h3 := rd_byte h (a + 3)
  unfold num4
  omega
theorem cut_eq (l : List Int) (i n : Nat) (h : i + n ≤ l.length) : (l.take (i + n)).drop i = (List.range n).map fun (j : Nat) => rd l ((i : Int) + (j : Int)) := by
  apply List.ext_getElem
  · simp; omega
  · intro j h1 h2
    simp only [List.length_drop, List.length_take] at h1
    simp only [List.getElem_drop, List.getElem_take, List.getElem_map, List.getElem_range]
    unfold rd
    rw [show ((i : Int) + (j : Int)).toNat = i + j by omega, List.getD_eq_getElem?_getD, List.getElem?_eq_getElem (by omega)]
    rfl
theorem v1 {l : List Int} (hb : Bytes l) (a : Int) (h0 : 0 ≤ a) (h1 : a + 1 ≤ l.length) : octet_number.v ((l.take (a + 1).toNat).drop a.toNat) = num1 l a := by
  have := cut_eq l a.toNat 1 (by omega)
  rw [show (a + 1).toNat = a.toNat + 1 by omega, this]
  have b0 := rd_byte hb a
  simp only [octet_number.v, show List.range 1 = [0] from rfl, List.map_cons, List.map_nil, List.foldl_cons, List.foldl_nil]
  rw [show ((a.toNat : Int) + ((0 : Nat) : Int)) = a by omega, or_byte 0 _ (by omega) (by omega) b0.1 b0.2]
  unfold num1; omega
theorem v2 {l : List Int} (hb : Bytes l) (a : Int) (h0 : 0 ≤ a) (h1 : a + 2 ≤ l.length) : octet_number.v ((l.take (a + 2).toNat).drop a.toNat) = num2 l a := by
  have := cut_eq l a.toNat 2 (by omega)
  rw [show (a + 2).toNat = a.toNat + 2 by omega, this]
  have b0 := rd_byte hb a
  have b1 := rd_byte hb (a + 1)
  simp only [octet_number.v, show List.range 2 = [0, 1] from rfl, List.map_cons, List.map_nil, List.foldl_cons, List.foldl_nil]
  rw [show ((a.toNat : Int) + ((0 : Nat) : Int)) = a by omega, show ((a.toNat : Int) + ((1 : Nat) : Int)) = a + 1 by omega, or_byte 0 _ (by omega) (by omega) b0.1 b0.2, or_byte _ _ (by omega) (by omega) b1.1 b1.2]
  unfold num2; omega
theorem v4 {l : List Int} (hb : Bytes l) (a : Int) (h0 : 0 ≤ a) (h1 : a + 4 ≤ l.length) : octet_number.v ((l.take (a + 4).toNat).drop a.toNat) = num4 l a := by
  have := cut_eq l a.toNat 4 (by omega)
  rw [show (a + 4).toNat = a.toNat + 4 by omega, this]
  have b0 := rd_byte hb a
  have b1 := rd_byte hb (a + 1)
  have b2 := rd_byte hb (a + 2)
  have b3 := rd_byte hb (a + 3)
  simp only [octet_number.v, show List.range 4 = [0, 1, 2, 3] from rfl, List.map_cons, List.map_nil, List.foldl_cons, List.foldl_nil]
  rw [show ((a.toNat : Int) + ((0 : Nat) : Int)) = a by omega, show ((a.toNat : Int) + ((1 : Nat) : Int)) = a + 1 by omega, show ((a.toNat : Int) + ((2 : Nat) : Int)) = a + 2 by omega, show ((a.toNat : Int) + ((3 : Nat) : Int)) = a + 3 by omega,
    or_byte 0 _ (by omega) (by omega) b0.1 b0.2, or_byte _ _ (by omega) (by omega) b1.1 b1.2, or_byte _ _ (by omega) (by omega) b2.1 b2.2, or_byte _ _ (by omega) (by omega) b3.1 b3.2]
  unfold num4; omega
theorem read_eq (k : Nat) (l : List Int) (a n : Int) (hl : l.length ≤ 5000) (hn : 0 ≤ n ∧ n ≤ 4) (hk : 5 < k) :
    octet_read.f k l a n = some (if 0 ≤ a ∧ a + n ≤ (l.length : Int) then (octet_number.v ((l.take (a + n).toNat).drop a.toNat), true) else (0, false)) := by
  unfold octet_read.f
  rw [octet_Within.f_of l a n (by omega) hn.1]
  simp only [Option.bind_some]
  by_cases h : 0 ≤ a ∧ a + n ≤ (l.length : Int)
  · rw [if_pos (by simpa using h), if_pos h.1, if_pos h]
    rw [wrap_id (n := a + n) (by omega) (by omega), if_pos (by omega), if_pos h.2, octet_number.f_v _ (by simp only [List.length_drop, List.length_take]; omega) k (by simp only [List.length_drop, List.length_take]; omega)]
    rfl
  · rw [if_neg (by simpa using h), if_neg h]
theorem U8_eq {l : List Int} (hb : Bytes l) (k : Nat) (a : Int) (hl : l.length ≤ 5000) (hk : 5 < k) : octet_U8.f k l a = some (if 0 ≤ a ∧ a + 1 ≤ (l.length : Int) then (num1 l a, true) else (0, false)) := by
  unfold octet_U8.f
  rw [read_eq k l a 1 hl (by omega) hk]
  by_cases h : 0 ≤ a ∧ a + 1 ≤ (l.length : Int)
  · rw [if_pos h, if_pos h, v1 hb a h.1 h.2]; rfl
  · rw [if_neg h, if_neg h]; rfl
theorem U16_eq {l : List Int} (hb : Bytes l) (k : Nat) (a : Int) (hl : l.length ≤ 5000) (hk : 5 < k) : octet_U16.f k l a = some (if 0 ≤ a ∧ a + 2 ≤ (l.length : Int) then (num2 l a, true) else (0, false)) := by
  unfold octet_U16.f
  rw [read_eq k l a 2 hl (by omega) hk]
  by_cases h : 0 ≤ a ∧ a + 2 ≤ (l.length : Int)
  · rw [if_pos h, if_pos h, v2 hb a h.1 h.2]; rfl
  · rw [if_neg h, if_neg h]; rfl
theorem U32_eq {l : List Int} (hb : Bytes l) (k : Nat) (a : Int) (hl : l.length ≤ 5000) (hk : 5 < k) : octet_U32.f k l a = some (if 0 ≤ a ∧ a + 4 ≤ (l.length : Int) then (num4 l a, true) else (0, false)) := by
  unfold octet_U32.f
  rw [read_eq k l a 4 hl (by omega) hk]
  by_cases h : 0 ≤ a ∧ a + 4 ≤ (l.length : Int)
  · rw [if_pos h, if_pos h, v4 hb a h.1 h.2]; rfl
  · rw [if_neg h, if_neg h]; rfl
theorem ref_within (n a m : Int) (hn : 0 ≤ n ∧ n ≤ 5000) (hm : 0 ≤ m) : reedpenref01_Within.f n a m = some (decide (0 ≤ a ∧ a + m ≤ n)) := by
  unfold reedpenref01_Within.f
  by_cases h1 : a ≥ 0
  · rw [if_pos h1, if_pos hm]
    by_cases h2 : a ≤ n
    · rw [if_pos h2, wrap_id (n := n - a) (by omega) (by omega)]
      congr 1
      rw [decide_eq_decide]
      omega
    · rw [if_neg h2]
      congr 1
      symm
      rw [decide_eq_false_iff_not]
      omega
  · rw [if_neg h1]
    congr 1
    symm
    rw [decide_eq_false_iff_not]
    omega
theorem refnum_step {l : List Int} (hb : Bytes l) (k : Nat) (a n x j : Int) (hl : l.length ≤ 5000) (ha : 0 ≤ a) (hn : a + n ≤ (l.length : Int)) (hj : 0 ≤ j) (hjn : j < n) (hx : 0 ≤ x) (hx2 : x < 36028797018963968) :
    reedpenref01_Number.l0 (k + 1) l a n x j = reedpenref01_Number.l0 k l a n (x * 256 + rd l (a + j)) (j + 1) := by
  have hr := rd_byte hb (a + j)
  simp only [reedpenref01_Number.l0]
  rw [if_pos hjn, wrap_id (n := a + j) (by omega) (by omega), if_pos (by omega), if_pos (by omega), wrap_id (n := x * 256) (by omega) (by omega), wrap_id (n := rd l (a + j)) (by omega) (by omega), wrap_id (by omega) (by omega), wrap_id (by omega) (by omega)]
theorem refnum_end (k : Nat) (l : List Int) (a n x : Int) : reedpenref01_Number.l0 (k + 1) l a n x n = some (x, true) := by
  simp only [reedpenref01_Number.l0]
  rw [if_neg (by omega)]
theorem N1_eq {l : List Int} (hb : Bytes l) (k : Nat) (a : Int) (hl : l.length ≤ 5000) (hk : 5 < k) : reedpenref01_Number.f k l a 1 = some (if 0 ≤ a ∧ a + 1 ≤ (l.length : Int) then (num1 l a, true) else (0, false)) := by
  unfold reedpenref01_Number.f
  rw [ref_within _ a 1 (by omega) (by omega)]
  simp only [Option.bind_some]
  by_cases h : 0 ≤ a ∧ a + 1 ≤ (l.length : Int)
  · rw [if_pos (by simpa using h), if_pos h]
    obtain ⟨k, rfl⟩ : ∃ m, k = m + 5 := ⟨k - 5, by omega⟩
    have b0 := rd_byte hb a
    rw [refnum_step hb _ a 1 0 0 hl h.1 h.2 (by omega) (by omega) (by omega) (by omega)]
    simp only [Int.add_zero, Int.zero_mul, Int.zero_add]
    rw [refnum_end]; rfl
  · rw [if_neg (by simpa using h), if_neg h]
theorem N2_eq {l : List Int} (hb : Bytes l) (k : Nat) (a : Int) (hl : l.length ≤ 5000) (hk : 5 < k) : reedpenref01_Number.f k l a 2 = some (if 0 ≤ a ∧ a + 2 ≤ (l.length : Int) then (num2 l a, true) else (0, false)) := by
  unfold reedpenref01_Number.f
  rw [ref_within _ a 2 (by omega) (by omega)]
  simp only [Option.bind_some]
  by_cases h : 0 ≤ a ∧ a + 2 ≤ (l.length : Int)
  · rw [if_pos (by simpa using h), if_pos h]
    obtain ⟨k, rfl⟩ : ∃ m, k = m + 5 := ⟨k - 5, by omega⟩
    have b0 := rd_byte hb a
    have b1 := rd_byte hb (a + 1)
    rw [refnum_step hb _ a 2 0 0 hl h.1 h.2 (by omega) (by omega) (by omega) (by omega)]
    simp only [Int.add_zero, Int.zero_mul, Int.zero_add]
    rw [refnum_step hb _ a 2 _ 1 hl h.1 h.2 (by omega) (by omega) (by omega) (by omega)]
    simp only [Int.reduceAdd]
    rw [refnum_end]; rfl
  · rw [if_neg (by simpa using h), if_neg h]
theorem N4_eq {l : List Int} (hb : Bytes l) (k : Nat) (a : Int) (hl : l.length ≤ 5000) (hk : 5 < k) : reedpenref01_Number.f k l a 4 = some (if 0 ≤ a ∧ a + 4 ≤ (l.length : Int) then (num4 l a, true) else (0, false)) := by
  unfold reedpenref01_Number.f
  rw [ref_within _ a 4 (by omega) (by omega)]
  simp only [Option.bind_some]
  by_cases h : 0 ≤ a ∧ a + 4 ≤ (l.length : Int)
  · rw [if_pos (by simpa using h), if_pos h]
    obtain ⟨k, rfl⟩ : ∃ m, k = m + 5 := ⟨k - 5, by omega⟩
    have b0 := rd_byte hb a
    have b1 := rd_byte hb (a + 1)
    have b2 := rd_byte hb (a + 2)
    have b3 := rd_byte hb (a + 3)
    rw [refnum_step hb _ a 4 0 0 hl h.1 h.2 (by omega) (by omega) (by omega) (by omega)]
    simp only [Int.add_zero, Int.zero_mul, Int.zero_add]
    rw [refnum_step hb _ a 4 _ 1 hl h.1 h.2 (by omega) (by omega) (by omega) (by omega)]
    simp only [Int.reduceAdd]
    rw [refnum_step hb _ a 4 _ 2 hl h.1 h.2 (by omega) (by omega) (by omega) (by omega)]
    simp only [Int.reduceAdd]
    rw [refnum_step hb _ a 4 _ 3 hl h.1 h.2 (by omega) (by omega) (by omega) (by omega)]
    simp only [Int.reduceAdd]
    rw [refnum_end]; rfl
  · rw [if_neg (by simpa using h), if_neg h]
theorem Row2_eq {l : List Int} (hb : Bytes l) (a n : Int) (hl : l.length ≤ 5000) (hn : 0 ≤ n) (h : 0 ≤ a ∧ a + n * 2 ≤ (l.length : Int)) :
    octet_Row.f l a n 2 = some ((List.range n.toNat).map fun (j : Nat) => num2 l (a + 2 * (j : Int)), true) := by
  unfold octet_Row.f
  rw [if_pos (by omega), if_neg (by omega), if_neg (by omega), if_neg (by omega), if_pos h]
  congr 2
  unfold octet_Row.nums
  apply List.map_congr_left
  intro j hj
  have hj := List.mem_range.1 hj
  rw [← v2 hb (a + 2 * (j : Int)) (by omega) (by omega)]
  unfold octet_Row.piece octet_Row.lo octet_Row.hi
  rw [wrap_id (n := (j : Int) * 2) (by omega) (by omega), wrap_id (n := (j : Int) + 1) (by omega) (by omega), wrap_id (n := ((j : Int) + 1) * 2) (by omega) (by omega), wrap_id (n := a + (j : Int) * 2) (by omega) (by omega), wrap_id (n := a + ((j : Int) + 1) * 2) (by omega) (by omega)]
  rw [show a + (j : Int) * 2 = a + 2 * (j : Int) by omega, show a + ((j : Int) + 1) * 2 = a + 2 * (j : Int) + 2 by omega]
end Go.Proofs.Ytahmicipakmbmaa.Pure
