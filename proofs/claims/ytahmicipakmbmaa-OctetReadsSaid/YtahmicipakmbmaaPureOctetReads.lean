/- The numbers at every place of all bytes, or that they aren't within, are the document's: the plain law behind OctetReads. Conditions: none but that the arguments are a slice of bytes and two ints. -/
import Derived.Test.YtahmicipakmbmaaQ4
import Derived.Test.YtahmicipakmbmaaR1
namespace Go.Proofs.Ytahmicipakmbmaa.Pure
open Go.RowKit Go.Proofs.Ytahmicipakmbmaa.Q Go.Proofs.YtahmicipakmbmaaW.PrintWords Go.Proofs.YtahmicipakmbmaaW.PrintLast

theorem Tag_eq (l : List Int) (a : Int) (hl : l.length ≤ 5000) : octet_Tag.f l a = some (if 0 ≤ a ∧ a + 4 ≤ (l.length : Int) then (strOfNums [rd l a, rd l (a + 1), rd l (a + 2), rd l (a + 3)], true) else (⟨#[]⟩, false)) := by
  unfold octet_Tag.f
  rw [octet_Within.f_of l a 4 (by omega) (by omega)]
  simp only [Option.bind_some]
  by_cases h : 0 ≤ a ∧ a + 4 ≤ (l.length : Int)
  · rw [if_pos (by simpa using h), if_pos h.1, wrap_id (n := a + 4) (by omega) (by omega), if_pos (by omega), if_pos h.2, if_pos h]
    have := cut_eq l a.toNat 4 (by omega)
    rw [show (a + 4).toNat = a.toNat + 4 by omega, this]
    simp only [show List.range 4 = [0, 1, 2, 3] from rfl, List.map_cons, List.map_nil]
    rw [show ((a.toNat : Int) + ((0 : Nat) : Int)) = a by omega, show ((a.toNat : Int) + ((1 : Nat) : Int)) = a + 1 by omega, show ((a.toNat : Int) + ((2 : Nat) : Int)) = a + 2 by omega, show ((a.toNat : Int) + ((3 : Nat) : Int)) = a + 3 by omega]
  · rw [if_neg (by simpa using h), if_neg h]
theorem refTag_eq (l : List Int) (a : Int) (hl : l.length ≤ 5000) : reedpenref01_Tag.f l a = some (if 0 ≤ a ∧ a + 4 ≤ (l.length : Int) then (strOfNums [rd l a, rd l (a + 1), rd l (a + 2), rd l (a + 3)], true) else (⟨#[]⟩, false)) := by
  unfold reedpenref01_Tag.f
  rw [ref_within _ a 4 (by omega) (by omega)]
  simp only [Option.bind_some]
  by_cases h : 0 ≤ a ∧ a + 4 ≤ (l.length : Int)
  · rw [if_pos (by simpa using h), if_pos h.1, wrap_id (n := a + 1) (by omega) (by omega), wrap_id (n := a + 2) (by omega) (by omega), wrap_id (n := a + 3) (by omega) (by omega), if_pos (by omega), if_pos (by omega), if_pos (by omega), if_pos (by omega), if_pos (by omega), if_pos (by omega), if_pos (by omega), if_pos h]
  · rw [if_neg (by simpa using h), if_neg h]
theorem signed_num {n : Int} (h0 : 0 ≤ n) (h1 : n ≤ 65535) : wrap64 (IntKind.i16.wrap n) = if n ≥ 32768 then wrap64 (n - 65536) else n := by
  have : IntKind.i16.wrap n = if n ≥ 32768 then n - 65536 else n := by
    simp [IntKind.wrap, IntKind.bits, IntKind.signed]
    split <;> split <;> omega
  rw [this]
  split <;> unfold wrap64 <;> omega
theorem reads_j2 {l : List Int} (hb : Bytes l) (hl : l.length ≤ 5000) (a : Int) : reedpenlaw01_OctetReads.j2 8 l a false = some true := by
  simp only [reedpenlaw01_OctetReads.j2]
  rw [if_neg (by decide), U32_eq hb 7 a hl (by omega), N4_eq hb 7 a hl (by omega), Tag_eq l a hl, refTag_eq l a hl]
  by_cases h : 0 ≤ a ∧ a + 4 ≤ (l.length : Int)
  · rw [if_pos h, if_pos h]; simp
  · rw [if_neg h, if_neg h]; simp
theorem reads_j1 {l : List Int} (hb : Bytes l) (hl : l.length ≤ 5000) (a : Int) : reedpenlaw01_OctetReads.j1 9 l a false = some true := by
  simp only [reedpenlaw01_OctetReads.j1, octet_I16.f, reedpenref01_Signed.f]
  rw [if_neg (by decide), U16_eq hb 8 a hl (by omega), N2_eq hb 8 a hl (by omega)]
  have r := num2_range hb a
  by_cases h : 0 ≤ a ∧ a + 2 ≤ (l.length : Int)
  · rw [if_pos h]
    simp only [Option.bind_some]
    rw [signed_num r.1 r.2]
    by_cases h2 : num2 l a ≥ 32768
    · rw [if_pos h2, if_pos h2]
      simp only [Option.bind_some, if_true, bne_self_eq_false]
      exact reads_j2 hb hl a
    · rw [if_neg h2, if_neg h2]
      simp only [Option.bind_some, if_true, bne_self_eq_false]
      exact reads_j2 hb hl a
  · rw [if_neg h]
    simp only [Option.bind_some]
    rw [signed_num (n := 0) (by omega) (by omega), if_neg (by omega), if_neg (by omega)]
    simp only [Option.bind_some, if_true, bne_self_eq_false]
    exact reads_j2 hb hl a
theorem reads_j0 {l : List Int} (hb : Bytes l) (hl : l.length ≤ 5000) (a : Int) : reedpenlaw01_OctetReads.j0 10 l a false = some true := by
  simp only [reedpenlaw01_OctetReads.j0]
  rw [if_neg (by decide), U16_eq hb 9 a hl (by omega), N2_eq hb 9 a hl (by omega)]
  simp only [Option.bind_some, if_true, bne_self_eq_false]
  exact reads_j1 hb hl a
theorem within_same (l : List Int) (a n : Int) (hl : l.length ≤ 5000) : octet_Within.f l a n = reedpenref01_Within.f (l.length : Int) a n := by
  by_cases h : 0 ≤ n
  · rw [octet_Within.f_of l a n (by omega) h, ref_within _ a n (by omega) h]
  · unfold octet_Within.f reedpenref01_Within.f
    by_cases h1 : a ≥ 0
    · rw [if_pos h1, if_pos h1, if_neg (by omega), if_neg (by omega)]
    · rw [if_neg h1, if_neg h1]
theorem within_some (n a m : Int) : ∃ b, reedpenref01_Within.f n a m = some b := by
  unfold reedpenref01_Within.f
  split
  · split
    · split
      · exact ⟨_, rfl⟩
      · exact ⟨_, rfl⟩
    · exact ⟨_, rfl⟩
  · exact ⟨_, rfl⟩
theorem OctetReads : reedpenlaw01_OctetReads.Pure := by
  intro l a n _ _ hw _ _
  have hb : Bytes l := u8_range hw
  refine ⟨10, ?_⟩
  unfold reedpenlaw01_OctetReads.f reedpenlaw01_alive.f
  simp only [Option.bind_some, if_true]
  by_cases h1 : (l.length : Int) > 5000
  · rw [if_pos h1]
  · rw [if_neg h1, U8_eq hb 10 a (by omega) (by omega), N1_eq hb 10 a (by omega) (by omega), within_same l a n (by omega)]
    obtain ⟨b, hbb⟩ := within_some (l.length : Int) a n
    rw [hbb]
    simp only [Option.bind_some, if_true, bne_self_eq_false, Bool.false_eq_true, if_false]
    exact reads_j0 hb (by omega) a
end Go.Proofs.Ytahmicipakmbmaa.Pure
