/- Plain laws: numbers of four bytes. -/
import Derived.Test.YtfacmhngbaboiaaPU8
set_option linter.unusedVariables false
set_option linter.unusedSimpArgs false
namespace Go.Proofs.Ytfacmhngbaboiaa.AI
theorem slI4 {b : List Int} {i : Int} (h0 : 0 ≤ i) (h1 : i + 4 ≤ (b.length : Int)) : slI b i (i + 4) = [gb b i, gb b (i + 1), gb b (i + 2), gb b (i + 3)] := by
 have e0 := gb_at h0 (by omega : i < (b.length : Int))
 have e1 := gb_at (by omega : 0 ≤ i + 1) (by omega : i + 1 < (b.length : Int))
 have e2 := gb_at (by omega : 0 ≤ i + 2) (by omega : i + 2 < (b.length : Int))
 have e3 := gb_at (by omega : 0 ≤ i + 3) (by omega : i + 3 < (b.length : Int))
 rw [show (i + 1).toNat = i.toNat + 1 by omega] at e1
 rw [show (i + 2).toNat = i.toNat + 2 by omega] at e2
 rw [show (i + 3).toNat = i.toNat + 3 by omega] at e3
 unfold slI
 rw [show (i + 4).toNat - i.toNat = 4 by omega]
 apply List.ext_getElem?
 intro k
 match k with
 | 0 => simp [List.getElem?_take, List.getElem?_drop, e0]
 | 1 => simp [List.getElem?_take, List.getElem?_drop, e1]
 | 2 => simp [List.getElem?_take, List.getElem?_drop, e2]
 | 3 => simp [List.getElem?_take, List.getElem?_drop, e3]
 | k + 4 => simp [List.getElem?_take]; omega
def u32 (b : List Int) (i : Int) : Int := if 0 ≤ i ∧ i + 4 ≤ (b.length : Int) then ((gb b i * 256 + gb b (i + 1)) * 256 + gb b (i + 2)) * 256 + gb b (i + 3) else -1
theorem u32_neg {b : List Int} (hb : Bytes b) {i : Int} : u32 b i < 0 ↔ ¬ (0 ≤ i ∧ i + 4 ≤ (b.length : Int)) := by
 have h1 := Qd hb i; have h2 := Qd hb (i + 1); have h3 := Qd hb (i + 2); have h4 := Qd hb (i + 3)
 unfold u32; split <;> omega
theorem U32_eq {N : Nat} (hN : 1000000000000 < N) {b : List Int} (hb : Bytes b) (hl : b.length ≤ 1000000000) (i : Int) (hi : i ≤ 1000000000000) : Xcg N b i = some (if u32 b i < 0 then (0, false) else (u32 b i, true)) := by
 unfold Xcg Xao
 rw [Xfw hl, Option.bind_some]
 by_cases h : 0 ≤ i ∧ i + 4 ≤ (b.length : Int)
 ·
  have hu : u32 b i = ((gb b i * 256 + gb b (i + 1)) * 256 + gb b (i + 2)) * 256 + gb b (i + 3) := if_pos h
  have h1 := Qd hb i; have h2 := Qd hb (i + 1); have h3 := Qd hb (i + 2); have h4 := Qd hb (i + 3)
  have hn : ¬ u32 b i < 0 := by omega
  rw [if_pos (by simp; omega), if_pos h.1, w64 (by omega) (by omega), if_pos (by omega), if_pos h.2, slI4 h.1 h.2, number4 hN h1 h2 h3 h4, if_neg hn, hu]
  rfl
 ·
  have hn : u32 b i < 0 := (u32_neg hb).2 h
  rw [if_neg (by simp; omega), if_pos hn]
  rfl
end Go.Proofs.Ytfacmhngbaboiaa.AI
