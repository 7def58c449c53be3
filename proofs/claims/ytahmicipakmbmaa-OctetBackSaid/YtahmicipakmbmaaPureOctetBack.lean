/- What is put is read again, and adding wraps as one likes to bracket it: the plain law behind OctetBack. Conditions: none but that the arguments are ints. -/
import Derived.Test.YtahmicipakmbmaaQ5
import Derived.Test.YtahmicipakmbmaaR1
namespace Go.Proofs.Ytahmicipakmbmaa.Pure
open Go.RowKit Go.Proofs.Ytahmicipakmbmaa.Q Go.Proofs.YtahmicipakmbmaaW.PrintWords Go.Proofs.YtahmicipakmbmaaW.PrintLast Go.Proofs.YtahmicipakmbmaaW.PrintMore

theorem shr_eq (a : Int) (j : Int) (n : Nat) (h : j = (n : Int)) (hn : n ≤ 64) : shr .i64 a j = a / 2 ^ n := by
  subst h
  unfold shr
  rw [Int.toNat_natCast, show min n IntKind.i64.bits = n from Nat.min_eq_left hn]
theorem put_step (k : Nat) (a : Int) (xs : List Int) (j : Int) (n : Nat) (h : j = (n : Int)) (hn : n < 8) (hx : xs.length < 8) : octet_Put.l0 (k + 1) a xs j = octet_Put.l0 k a (xs ++ [(a / 2 ^ (8 * n)) % 256]) (j - 1) := by
  simp only [octet_Put.l0]
  rw [if_pos (by omega), wrap_id (n := 8 * j) (by omega) (by omega), if_pos (by omega), if_pos (by omega), shr_eq a (8 * j) (8 * n) (by omega) (by omega), wrap_id (n := j - 1) (by omega) (by omega)]
theorem put_end (k : Nat) (a : Int) (xs : List Int) : octet_Put.l0 (k + 1) a xs (-1) = some xs := by
  simp only [octet_Put.l0]
  rw [if_neg (by omega)]
theorem put4 (k : Nat) (a : Int) : octet_Put.f (k + 5) a 4 = some [a / 16777216 % 256, a / 65536 % 256, a / 256 % 256, a % 256] := by
  unfold octet_Put.f
  rw [if_neg (by omega), show wrap64 (4 - 1) = 3 from by unfold wrap64; omega]
  rw [put_step _ a [] 3 3 rfl (by omega) (by simp)]
  rw [put_step _ a _ _ 2 (by omega) (by omega) (by simp)]
  rw [put_step _ a _ _ 1 (by omega) (by omega) (by simp)]
  rw [put_step _ a _ _ 0 (by omega) (by omega) (by simp)]
  rw [show (3 : Int) - 1 - 1 - 1 - 1 = -1 by omega, put_end]
  simp
theorem put2 (k : Nat) (a : Int) : octet_Put.f (k + 3) a 2 = some [a / 256 % 256, a % 256] := by
  unfold octet_Put.f
  rw [if_neg (by omega), show wrap64 (2 - 1) = 1 from by unfold wrap64; omega]
  rw [put_step _ a [] 1 1 rfl (by omega) (by simp)]
  rw [put_step _ a _ _ 0 (by omega) (by omega) (by simp)]
  rw [show (1 : Int) - 1 - 1 = -1 by omega, put_end]
  simp
theorem i16_mod (a : Int) : IntKind.i16.wrap (a % 65536) = IntKind.i16.wrap a := by
  simp [IntKind.wrap, IntKind.bits, IntKind.signed]
theorem own_wrap (a : Int) : octet_Wrap.f a = some (wrap32 a) := by
  unfold octet_Wrap.f wrap64 wrap32
  congr 1; omega
theorem own_add (a b : Int) : octet_Add.f a b = some (wrap32 (a + b)) := by
  unfold octet_Add.f wrap64 wrap32
  congr 1; omega
theorem OctetBack : reedpenlaw01_OctetBack.Pure := by
  intro a b c _ _ _
  refine ⟨10, ?_⟩
  unfold reedpenlaw01_OctetBack.f reedpenlaw01_alive.f
  simp only [Option.bind_some, if_true]
  rw [show (10 : Nat) = 5 + 5 from rfl, put4 5 a]
  simp only [Option.bind_some]
  have hb4 : Bytes [a / 16777216 % 256, a / 65536 % 256, a / 256 % 256, a % 256] := by
    intro x hx
    simp at hx
    rcases hx with rfl | rfl | rfl | rfl <;> omega
  have hb2 : Bytes [a / 256 % 256, a % 256] := by
    intro x hx
    simp at hx
    rcases hx with rfl | rfl <;> omega
  rw [U32_eq hb4 _ 0 (by simp) (by omega), if_pos (by simp)]
  simp only [Option.bind_some]
  rw [show (5 + 5 : Nat) = 7 + 3 from rfl, put2 7 a]
  simp only [Option.bind_some]
  unfold octet_I16.f
  rw [U16_eq hb2 _ 0 (by simp) (by omega), if_pos (by simp)]
  simp only [Option.bind_some, if_true]
  have e4 : num4 [a / 16777216 % 256, a / 65536 % 256, a / 256 % 256, a % 256] 0 = a % 4294967296 := by
    simp [num4, rd]
    omega
  have e2 : num2 [a / 256 % 256, a % 256] 0 = a % 65536 := by
    simp [num2, rd]
    omega
  rw [e4, e2, i16_mod, own_wrap, own_wrap]
  simp only [Option.bind_some]
  rw [if_pos (by unfold wrap32; omega)]
  simp only [if_true]
  simp only [own_add, Option.bind_some]
  rw [if_pos (by unfold wrap32; omega)]
  simp
end Go.Proofs.Ytahmicipakmbmaa.Pure
