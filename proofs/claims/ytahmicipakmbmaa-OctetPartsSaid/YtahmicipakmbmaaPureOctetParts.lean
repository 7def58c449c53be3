/- A number of two bytes is that of its bytes, one of four that of its halves, and a row that of its numbers, of all bytes: the plain law behind OctetParts. Conditions: none but that the arguments are a slice of bytes and an int. -/
import Derived.Test.YtahmicipakmbmaaQ7
import Derived.Test.YtahmicipakmbmaaR1
namespace Go.Proofs.Ytahmicipakmbmaa.Pure
open Go.RowKit Go.Proofs.Ytahmicipakmbmaa.Q Go.Proofs.YtahmicipakmbmaaW.PrintWords Go.Proofs.YtahmicipakmbmaaW.PrintLast

theorem parts_done (l : List Int) (a : Int) : reedpenlaw01_OctetParts.j0 10 l a true = some true := by
  simp only [reedpenlaw01_OctetParts.j0, if_true]

theorem parts_go (l : List Int) (a : Int) (hb : Bytes l) (hl : l.length ≤ 5000) (ha : 0 ≤ a) (ha2 : a ≤ 5000) : reedpenlaw01_OctetParts.j0 10 l a false = some true := by
  simp only [reedpenlaw01_OctetParts.j0]
  rw [if_neg (by decide), U32_eq hb 9 a hl (by omega)]
  by_cases h : 0 ≤ a ∧ a + 4 ≤ (l.length : Int)
  · rw [if_pos h]
    simp only [Option.bind_some, if_true]
    have b0 := num2_range hb a
    have b1 := num2_range hb (a + 2)
    have c1 := num1_range hb (a + 2)
    have c2 := num1_range hb (a + 3)
    rw [wrap_id (n := a + 2) (by omega) (by omega), wrap_id (n := a + 3) (by omega) (by omega)]
    rw [U16_eq hb 9 a hl (by omega), U16_eq hb 9 (a + 2) hl (by omega), U8_eq hb 9 (a + 2) hl (by omega), U8_eq hb 9 (a + 3) hl (by omega), Row2_eq hb a 2 hl (by omega) (by omega)]
    rw [if_pos (by omega), if_pos (by omega), if_pos (by omega), if_pos (by omega)]
    simp only [Option.bind_some, if_true]
    rw [wrap_id (n := num2 l a * 65536) (by omega) (by omega), wrap_id (n := num2 l a * 65536 + num2 l (a + 2)) (by omega) (by omega), wrap_id (n := num1 l (a + 2) * 256) (by omega) (by omega), wrap_id (n := num1 l (a + 2) * 256 + num1 l (a + 3)) (by omega) (by omega)]
    have e1 : num4 l a = num2 l a * 65536 + num2 l (a + 2) := by
      unfold num4 num2
      rw [show a + 2 + 1 = a + 3 by omega]
      omega
    have e2 : num2 l (a + 2) = num1 l (a + 2) * 256 + num1 l (a + 3) := by
      unfold num2 num1
      rw [show a + 2 + 1 = a + 3 by omega]
    rw [if_pos e1, if_pos e2]
    have hm : ((List.range (2 : Int).toNat).map fun (j : Nat) => num2 l (a + 2 * (j : Int))) = [num2 l a, num2 l (a + 2)] := by
      simp [show (2 : Int).toNat = 2 from rfl, List.range_succ]
    rw [hm]
    simp [rd]
  · rw [if_neg h]
    simp

theorem OctetParts : reedpenlaw01_OctetParts.Pure := by
  intro l a _ _ hw ha
  have hb : Bytes l := u8_range hw
  replace ha := i64_range ha
  refine ⟨10, ?_⟩
  unfold reedpenlaw01_OctetParts.f reedpenlaw01_alive.f
  simp only [Option.bind_some, if_true]
  by_cases h1 : (l.length : Int) > 5000
  · rw [if_pos h1]; exact parts_done l a
  · rw [if_neg h1]
    by_cases h2 : a < 0
    · rw [if_pos h2]; exact parts_done l a
    · rw [if_neg h2]
      by_cases h3 : a > 5000
      · rw [decide_eq_true h3]; exact parts_done l a
      · rw [decide_eq_false h3]; exact parts_go l a hb (by omega) (by omega) (by omega)
end Go.Proofs.Ytahmicipakmbmaa.Pure
