/- Plain laws: numbers of four bytes. -/
import Derived.Test.YtakplhfiohjcmaaPU8
set_option linter.unusedVariables false
set_option linter.unusedSimpArgs false
namespace Go.Proofs.Ytakplhfiohjcmaa.AI

theorem slI4 {b : List Int} {i : Int} (h0 : 0 ≤ i) (h1 : i + 4 ≤ (b.length : Int)) : slI b i (i + 4) = [gb b i, gb b (i + 1), gb b (i + 2), gb b (i + 3)] := by
  have e0 := gb_at h0 (by omega : i < (b.length : Int))
  have e1 := gb_at (by omega : 0 ≤ i + 1) (by omega : i + 1 < (b.length : Int))
  have e2 := gb_at (by omega : 0 ≤ i + 2) (by omega : i + 2 < (b.length : Int))
  have e3 := gb_at (by omega : 0 ≤ i + 3) (by omega : i + 3 < (b.length : Int))
  rw [show (i + 1).toNat = i.toNat + 1 by omega] at e1
  rw [show (i + 2).toNat = i.toNat + 2 by omega] at e2
  rw [show (i + 3).toNat = i.toNat + 3 by omega] at e3
  unfold slI
  rw [show (i + 4).toNat - i.toNat = 4 by omega]
  apply List.ext_getElem?
  intro k
  match k with
  | 0 => simp [List.getElem?_take, List.getElem?_drop, e0]
  | 1 => simp [List.getElem?_take, List.getElem?_drop, e1]
  | 2 => simp [List.getElem?_take, List.getElem?_drop, e2]
  | 3 => simp [List.getElem?_take, List.getElem?_drop, e3]
  | k + 4 => simp [List.getElem?_take]; omega
/-- Four bytes as a number; -1: they aren't there. -/
def u32 (b : List Int) (i : Int) : Int := if 0 ≤ i ∧ i + 4 ≤ (b.length : Int) then ((gb b i * 256 + gb b (i + 1)) * 256 + gb b (i + 2)) * 256 + gb b (i + 3) else -1
theorem u32_range {b : List Int} (hb : Bytes b) (i : Int) : -1 ≤ u32 b i ∧ u32 b i < 4294967296 := by
  have h1 := gb_range hb i; have h2 := gb_range hb (i + 1); have h3 := gb_range hb (i + 2); have h4 := gb_range hb (i + 3)
  unfold u32; split <;> omega
theorem u32_neg {b : List Int} (hb : Bytes b) {i : Int} : u32 b i < 0 ↔ ¬ (0 ≤ i ∧ i + 4 ≤ (b.length : Int)) := by
  have h1 := gb_range hb i; have h2 := gb_range hb (i + 1); have h3 := gb_range hb (i + 2); have h4 := gb_range hb (i + 3)
  unfold u32; split <;> omega
theorem U32_eq {N : Nat} (hN : 1000000000000 < N) {b : List Int} (hb : Bytes b) (hl : b.length ≤ 1000000000) (i : Int) (hi : i ≤ 1000000000000) : octet_U32 N b i = some (if u32 b i < 0 then (0, false) else (u32 b i, true)) := by
  unfold octet_U32 octet_read
  rw [within_eq hl, Option.bind_some]
  by_cases h : 0 ≤ i ∧ i + 4 ≤ (b.length : Int)
  · have hu : u32 b i = ((gb b i * 256 + gb b (i + 1)) * 256 + gb b (i + 2)) * 256 + gb b (i + 3) := if_pos h
    have h1 := gb_range hb i; have h2 := gb_range hb (i + 1); have h3 := gb_range hb (i + 2); have h4 := gb_range hb (i + 3)
    have hn : ¬ u32 b i < 0 := by omega
    rw [if_pos (by simp; omega), if_pos h.1, w64 (by omega) (by omega), if_pos (by omega), if_pos h.2, slI4 h.1 h.2, number4 hN h1 h2 h3 h4, if_neg hn, hu]
    rfl
  · have hn : u32 b i < 0 := (u32_neg hb).2 h
    rw [if_neg (by simp; omega), if_pos hn]
    rfl
theorem rU32_eq {N : Nat} (hN : 1000000000000 < N) {b : List Int} (hb : Bytes b) (hl : b.length ≤ 1000000000) (i : Int) (hi : i ≤ 1000000000000) : ref15_U32 N b i = some (u32 b i) := by
  unfold ref15_U32 ref01_Number
  rw [rwithin_eq (by omega) (by omega), Option.bind_some]
  by_cases h : 0 ≤ i ∧ i + 4 ≤ (b.length : Int)
  · obtain ⟨m, hm⟩ : ∃ m, N = m + 5 := ⟨N - 5, by omega⟩
    have h1 := gb_range hb (i + ((0 : Nat) : Int)); have h2 := gb_range hb (i + ((0 + 1 : Nat) : Int)); have h3 := gb_range hb (i + ((0 + 1 + 1 : Nat) : Int))
    have hu : u32 b i = ((gb b i * 256 + gb b (i + 1)) * 256 + gb b (i + 2)) * 256 + gb b (i + 3) := if_pos h
    have h0 : ref01_Number_L1 N b i 4 N 0 0 = some (u32 b i) := by
      rw [show ref01_Number_L1 N b i 4 N 0 0 = ref01_Number_L1 N b i 4 (m + 5) 0 ((0 : Nat) : Int) by rw [← hm]; rfl]
      rw [rnumStep h.1 (by omega) h.2 hb hl (by omega) (by omega)]
      rw [rnumStep h.1 (by omega) h.2 hb hl (by omega) (by omega)]
      rw [rnumStep h.1 (by omega) h.2 hb hl (by omega) (by omega)]
      rw [rnumStep h.1 (by omega) h.2 hb hl (by omega) (by omega), rnumEnd (len := 4) (k := 0 + 1 + 1 + 1 + 1) rfl, hu]
      congr 1
      simp
    rw [if_pos (by simp; omega), h0]
    rfl
  · have hu : u32 b i = -1 := if_neg h
    rw [if_neg (by simp; omega), hu]
    rfl
/-- n numbers of four bytes from a place on. -/
def row32 (b : List Int) (i : Int) (n : Nat) : List Int := (List.range n).map fun (k : Nat) => u32 b (i + 4 * (k : Int))
theorem row32_len (b : List Int) (i : Int) (n : Nat) : (row32 b i n).length = n := by simp [row32]
theorem row32_succ (b : List Int) (i : Int) (n : Nat) : row32 b i (n + 1) = row32 b i n ++ [u32 b (i + 4 * (n : Int))] := by simp [row32, List.range_succ]
theorem row32_at {b : List Int} {i : Int} {n k : Nat} (h : k < n) : (row32 b i n)[k]? = some (u32 b (i + 4 * (k : Int))) := by simp [row32, h]
theorem Row1_eq4 {N : Nat} (hN : 1000000000000 < N) {b : List Int} (hb : Bytes b) (hl : b.length ≤ 1000000000) {i k : Int} (h0 : 0 ≤ i) (hk : 0 ≤ k) (h1 : i + 4 * k + 4 ≤ (b.length : Int)) : octet_Row_1 N k b i 4 = some (u32 b (i + 4 * k)) := by
  unfold octet_Row_1
  have hx := gb_range hb (i + 4 * k); have hy := gb_range hb (i + 4 * k + 1); have hz := gb_range hb (i + 4 * k + 2); have hu := gb_range hb (i + 4 * k + 3)
  rw [w64 (x := k * 4) (by omega) (by omega), w64 (x := k + 1) (by omega) (by omega), w64 (x := (k + 1) * 4) (by omega) (by omega), w64 (x := i + k * 4) (by omega) (by omega), w64 (x := i + (k + 1) * 4) (by omega) (by omega)]
  rw [if_pos (by omega), if_pos (by omega), if_pos (by omega), show i + (k + 1) * 4 = (i + 4 * k) + 4 by omega, show i + k * 4 = i + 4 * k by omega, slI4 (by omega) h1, number4 hN hx hy hz hu, u32, if_pos ⟨by omega, h1⟩]
  rfl
theorem many_eq4 {N : Nat} (hN : 1000000000000 < N) {b : List Int} (hb : Bytes b) (hl : b.length ≤ 1000000000) {i : Int} (h0 : 0 ≤ i) {m : Nat} (h1 : i + 4 * (m : Int) ≤ (b.length : Int)) : octet_many_int N m b i 4 = some (row32 b i m) := by
  have key : ∀ (d k n : Nat), k + d = m → d < n → octet_many_int_L1 N m b i 4 n k (row32 b i k) = some (row32 b i m) := by
    intro d
    induction d with
    | zero =>
      intro k n hk hn
      obtain ⟨n, rfl⟩ : ∃ x, n = x + 1 := ⟨n - 1, by omega⟩
      rw [octet_many_int_L1, if_neg (by omega), show k = m by omega]
    | succ d ih =>
      intro k n hk hn
      obtain ⟨n, rfl⟩ : ∃ x, n = x + 1 := ⟨n - 1, by omega⟩
      rw [octet_many_int_L1, if_pos (by omega), Row1_eq4 hN hb hl h0 (by omega) (by omega), Option.bind_some, if_pos (by rw [row32_len]; omega), w64 (by omega) (by omega), ← row32_succ]
      exact ih (k + 1) n (by omega) (by omega)
  have h2 := key m 0 N (by omega) (by omega)
  unfold octet_many_int
  rw [show octet_many_int_L1 N m b i 4 N 0 [] = some (row32 b i m) from h2]
  rfl
theorem Row_eq4 {N : Nat} (hN : 1000000000000 < N) {b : List Int} (hb : Bytes b) (hl : b.length ≤ 1000000000) (i n : Int) (hi : i ≤ 1000000000000) (hn : n ≤ 1000000000000) :
    octet_Row N b i n 4 = some (if 0 ≤ n ∧ 0 ≤ i ∧ i + 4 * n ≤ (b.length : Int) then (row32 b i n.toNat, true) else ([], false)) := by
  unfold octet_Row
  rw [if_neg (by decide), if_neg (by decide), if_pos rfl]
  by_cases h1 : n < 0
  · rw [if_pos h1, if_neg (by omega)]
  · rw [if_neg h1]
    by_cases h2 : (b.length : Int) < n
    · rw [if_pos h2, if_neg (by omega)]
    · rw [if_neg h2, w64 (x := n * 4) (by omega) (by omega), within_eq hl, Option.bind_some]
      by_cases h3 : 0 ≤ i ∧ i + 4 * n ≤ (b.length : Int)
      · obtain ⟨m, rfl⟩ := Int.eq_ofNat_of_zero_le (show 0 ≤ n by omega)
        rw [if_pos (by simp; omega), if_pos (by omega), many_eq4 hN hb hl h3.1 h3.2]
        rfl
      · rw [if_neg (by simp; omega), if_neg (by omega)]
end Go.Proofs.Ytakplhfiohjcmaa.AI
