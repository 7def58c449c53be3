-- PRINTED BY mprint.py (a program of this session, over the kit's printer): Lean checks it
import Derived.Test.YtlpikbkdlnocdaaK0
import Derived.Test.YtlpikbkdlnocdaaK6
namespace Go.Proofs.Ytlpikbkdlnocdaa.K
open Go.RowKit Go.Proofs.YtlpikbkdlnocdaaW.PrintWords Go.Proofs.YtlpikbkdlnocdaaW.PrintLast Go.Proofs.YtlpikbkdlnocdaaW.PrintMore
attribute [local go_sem] max2_int min2_int max_two min_two max_three min_three max_four min_four   -- for this text's walks alone
set_option linter.unusedVariables false
set_option linter.unusedSimpArgs false

/-! ### reedpenref26_Keys: function 25 -/
mutual
def reedpenref26_Keys.l0 : Nat → List Int → Int → Int → ByteArray → List Int → Int → Int → ByteArray → Bool → Int → Option (List Int)
  | 0, _, _, _, _, _, _, _, _, _, _ => none
  | k + 1, x2, x3, x4, x11, x12, x13, x185000, x185001, x185002, x185003 => if x13 < (x11.size : Int) then (if x13 < (x2.length : Int) then (if 0 ≤ x13 then (reedpenref26_Keys.j1 k x2 x3 x4 x11 x12 x13 (rd x2 x13) x185000 x185001 x185002 x185003) else (none)) else (reedpenref26_Keys.j1 k x2 x3 x4 x11 x12 x13 0 x185000 x185001 x185002 x185003)) else (some x12)
def reedpenref26_Keys.j1 : Nat → List Int → Int → Int → ByteArray → List Int → Int → Int → Int → ByteArray → Bool → Int → Option (List Int)
  | 0, _, _, _, _, _, _, _, _, _, _, _ => none
  | k + 1, x2, x3, x4, x11, x12, x13, x14, x185000, x185001, x185002, x185003 => if x4 < 0 then (reedpenref26_Keys.j2 k x2 x3 x4 x11 x12 x13 x14 true x185000 x185001 x185002 x185003) else (reedpenref26_Keys.j2 k x2 x3 x4 x11 x12 x13 x14 (decide (x4 ≥ (x11.size : Int))) x185000 x185001 x185002 x185003)
def reedpenref26_Keys.j2 : Nat → List Int → Int → Int → ByteArray → List Int → Int → Int → Bool → Int → ByteArray → Bool → Int → Option (List Int)
  | 0, _, _, _, _, _, _, _, _, _, _, _, _ => none
  | k + 1, x2, x3, x4, x11, x12, x13, x14, x41, x185000, x185001, x185002, x185003 => if x41 = true then (if x12.length < 17592186044416 then (reedpenref26_Keys.l0 k x2 x3 x4 x11 (x12 ++ [3]) (wrap64 (x13 + 1)) x185000 x185001 x185002 x185003) else (none)) else (reedpenref26_Keys.l1 k x2 x3 x4 x11 x12 x13 x14 (decide (x13 ≥ x4)) (wrap64 (x4 + 1)) x185000 x185001 x185002 x185003)
def reedpenref26_Keys.l1 : Nat → List Int → Int → Int → ByteArray → List Int → Int → Int → Bool → Int → Int → ByteArray → Bool → Int → Option (List Int)
  | 0, _, _, _, _, _, _, _, _, _, _, _, _, _ => none
  | k + 1, x2, x3, x4, x11, x12, x13, x14, x15, x16, x185000, x185001, x185002, x185003 => if x16 ≤ x13 then (if x15 = true then (if 0 ≤ x16 then (if x16 < (x11.size : Int) then (reedpenref26_Keys.l1 k x2 x3 x4 x11 x12 x13 x14 ((bt x11 x16) == 78) (wrap64 (x16 + 1)) x185000 x185001 x185002 x185003) else (none)) else (none)) else (reedpenref26_Keys.l1 k x2 x3 x4 x11 x12 x13 x14 false (wrap64 (x16 + 1)) x185000 x185001 x185002 x185003)) else ((reedpenref26_In.f k x11 x13 (⟨#[84, 71, 88]⟩ : ByteArray)).bind fun t190 => (if t190 = true then (reedpenref26_Keys.j4 k x2 x3 x4 x11 x12 x13 x14 x15 4 x185000 x185001 x185002 x185003) else (reedpenref26_Keys.j4 k x2 x3 x4 x11 x12 x13 x14 x15 5 x185000 x185001 x185002 x185003)))
def reedpenref26_Keys.j4 : Nat → List Int → Int → Int → ByteArray → List Int → Int → Int → Bool → Int → Int → ByteArray → Bool → Int → Option (List Int)
  | 0, _, _, _, _, _, _, _, _, _, _, _, _, _ => none
  | k + 1, x2, x3, x4, x11, x12, x13, x14, x15, x17, x185000, x185001, x185002, x185003 => if x13 < x4 then (reedpenref26_Keys.j5 k x2 x3 x4 x11 x12 x13 x14 x15 2 x185000 x185001 x185002 x185003) else (reedpenref26_Keys.j5 k x2 x3 x4 x11 x12 x13 x14 x15 x17 x185000 x185001 x185002 x185003)
def reedpenref26_Keys.j5 : Nat → List Int → Int → Int → ByteArray → List Int → Int → Int → Bool → Int → Int → ByteArray → Bool → Int → Option (List Int)
  | 0, _, _, _, _, _, _, _, _, _, _, _, _, _ => none
  | k + 1, x2, x3, x4, x11, x12, x13, x14, x15, x17, x185000, x185001, x185002, x185003 => if x15 = true then (reedpenref26_Keys.j6 k x2 x3 x4 x11 x12 x13 x14 3 x185000 x185001 x185002 x185003) else (reedpenref26_Keys.j6 k x2 x3 x4 x11 x12 x13 x14 x17 x185000 x185001 x185002 x185003)
def reedpenref26_Keys.j6 : Nat → List Int → Int → Int → ByteArray → List Int → Int → Int → Int → Int → ByteArray → Bool → Int → Option (List Int)
  | 0, _, _, _, _, _, _, _, _, _, _, _, _ => none
  | k + 1, x2, x3, x4, x11, x12, x13, x14, x17, x185000, x185001, x185002, x185003 => if x185000 = 3 then (if 0 ≤ x13 then (if x13 < (x11.size : Int) then (if (bt x11 x13) = 75 then (if x13 > x4 then (if (wrap64 (x13 + 1)) < (x11.size : Int) then (if 0 ≤ (wrap64 (x13 + 1)) then (if (bt x11 (wrap64 (x13 + 1))) = 82 then (reedpenref26_Keys.j7 k x2 x3 x4 x11 x12 x13 x14 x17 true x185000 x185001 x185002 x185003) else (if (bt x11 x13) = 82 then (if (wrap64 (x13 - 1)) > x4 then (if 0 ≤ (wrap64 (x13 - 1)) then (if (wrap64 (x13 - 1)) < (x11.size : Int) then (reedpenref26_Keys.j7 k x2 x3 x4 x11 x12 x13 x14 x17 ((bt x11 (wrap64 (x13 - 1))) == 75) x185000 x185001 x185002 x185003) else (none)) else (none)) else (reedpenref26_Keys.j7 k x2 x3 x4 x11 x12 x13 x14 x17 false x185000 x185001 x185002 x185003)) else (reedpenref26_Keys.j7 k x2 x3 x4 x11 x12 x13 x14 x17 false x185000 x185001 x185002 x185003))) else (none)) else (if (bt x11 x13) = 82 then (if (wrap64 (x13 - 1)) > x4 then (if 0 ≤ (wrap64 (x13 - 1)) then (if (wrap64 (x13 - 1)) < (x11.size : Int) then (reedpenref26_Keys.j7 k x2 x3 x4 x11 x12 x13 x14 x17 ((bt x11 (wrap64 (x13 - 1))) == 75) x185000 x185001 x185002 x185003) else (none)) else (none)) else (reedpenref26_Keys.j7 k x2 x3 x4 x11 x12 x13 x14 x17 false x185000 x185001 x185002 x185003)) else (reedpenref26_Keys.j7 k x2 x3 x4 x11 x12 x13 x14 x17 false x185000 x185001 x185002 x185003))) else (if (bt x11 x13) = 82 then (if (wrap64 (x13 - 1)) > x4 then (if 0 ≤ (wrap64 (x13 - 1)) then (if (wrap64 (x13 - 1)) < (x11.size : Int) then (reedpenref26_Keys.j7 k x2 x3 x4 x11 x12 x13 x14 x17 ((bt x11 (wrap64 (x13 - 1))) == 75) x185000 x185001 x185002 x185003) else (none)) else (none)) else (reedpenref26_Keys.j7 k x2 x3 x4 x11 x12 x13 x14 x17 false x185000 x185001 x185002 x185003)) else (reedpenref26_Keys.j7 k x2 x3 x4 x11 x12 x13 x14 x17 false x185000 x185001 x185002 x185003))) else (if (bt x11 x13) = 82 then (if (wrap64 (x13 - 1)) > x4 then (if 0 ≤ (wrap64 (x13 - 1)) then (if (wrap64 (x13 - 1)) < (x11.size : Int) then (reedpenref26_Keys.j7 k x2 x3 x4 x11 x12 x13 x14 x17 ((bt x11 (wrap64 (x13 - 1))) == 75) x185000 x185001 x185002 x185003) else (none)) else (none)) else (reedpenref26_Keys.j7 k x2 x3 x4 x11 x12 x13 x14 x17 false x185000 x185001 x185002 x185003)) else (reedpenref26_Keys.j7 k x2 x3 x4 x11 x12 x13 x14 x17 false x185000 x185001 x185002 x185003))) else (none)) else (none)) else (reedpenref26_Keys.j7 k x2 x3 x4 x11 x12 x13 x14 x17 false x185000 x185001 x185002 x185003)
def reedpenref26_Keys.j7 : Nat → List Int → Int → Int → ByteArray → List Int → Int → Int → Int → Bool → Int → ByteArray → Bool → Int → Option (List Int)
  | 0, _, _, _, _, _, _, _, _, _, _, _, _, _ => none
  | k + 1, x2, x3, x4, x11, x12, x13, x14, x17, x115, x185000, x185001, x185002, x185003 => if x115 = true then (reedpenref26_Keys.j8 k x2 x3 x4 x11 x12 x13 x14 2 x185000 x185001 x185002 x185003) else (reedpenref26_Keys.j8 k x2 x3 x4 x11 x12 x13 x14 x17 x185000 x185001 x185002 x185003)
def reedpenref26_Keys.j8 : Nat → List Int → Int → Int → ByteArray → List Int → Int → Int → Int → Int → ByteArray → Bool → Int → Option (List Int)
  | 0, _, _, _, _, _, _, _, _, _, _, _, _ => none
  | k + 1, x2, x3, x4, x11, x12, x13, x14, x17, x185000, x185001, x185002, x185003 => if 0 ≤ x13 then (if x13 < (x11.size : Int) then (if (bt x11 x13) = 83 then (reedpenref26_Keys.j11 k x2 x3 x4 x11 x12 x13 9 x185000 x185001 x185002 x185003) else (if (bt x11 x13) = 77 then (reedpenref26_Keys.j9 k x2 x3 x4 x11 x12 x13 x14 x17 true x185000 x185001 x185002 x185003) else (if (bt x11 x13) = 84 then (reedpenref26_Keys.j9 k x2 x3 x4 x11 x12 x13 x14 x17 (x14 == 1) x185000 x185001 x185002 x185003) else (reedpenref26_Keys.j9 k x2 x3 x4 x11 x12 x13 x14 x17 false x185000 x185001 x185002 x185003)))) else (none)) else (none)
def reedpenref26_Keys.j11 : Nat → List Int → Int → Int → ByteArray → List Int → Int → Int → Int → ByteArray → Bool → Int → Option (List Int)
  | 0, _, _, _, _, _, _, _, _, _, _, _ => none
  | k + 1, x2, x3, x4, x11, x12, x13, x17, x185000, x185001, x185002, x185003 => if x13 < x3 then (if x185000 = 4 then (if x12.length < 17592186044416 then (reedpenref26_Keys.l0 k x2 x3 x4 x11 (x12 ++ [4]) (wrap64 (x13 + 1)) x185000 x185001 x185002 x185003) else (none)) else (if x12.length < 17592186044416 then (reedpenref26_Keys.l0 k x2 x3 x4 x11 (x12 ++ [0]) (wrap64 (x13 + 1)) x185000 x185001 x185002 x185003) else (none))) else (if x12.length < 17592186044416 then (reedpenref26_Keys.l0 k x2 x3 x4 x11 (x12 ++ [x17]) (wrap64 (x13 + 1)) x185000 x185001 x185002 x185003) else (none))
def reedpenref26_Keys.j9 : Nat → List Int → Int → Int → ByteArray → List Int → Int → Int → Int → Bool → Int → ByteArray → Bool → Int → Option (List Int)
  | 0, _, _, _, _, _, _, _, _, _, _, _, _, _ => none
  | k + 1, x2, x3, x4, x11, x12, x13, x14, x17, x121, x185000, x185001, x185002, x185003 => if x121 = true then (if x14 = 1 then (reedpenref26_Keys.j10 k x2 x3 x4 x11 x12 x13 x14 1 x185000 x185001 x185002 x185003) else (reedpenref26_Keys.j10 k x2 x3 x4 x11 x12 x13 x14 8 x185000 x185001 x185002 x185003)) else (reedpenref26_Keys.j11 k x2 x3 x4 x11 x12 x13 x17 x185000 x185001 x185002 x185003)
def reedpenref26_Keys.j10 : Nat → List Int → Int → Int → ByteArray → List Int → Int → Int → Int → Int → ByteArray → Bool → Int → Option (List Int)
  | 0, _, _, _, _, _, _, _, _, _, _, _, _ => none
  | k + 1, x2, x3, x4, x11, x12, x13, x14, x17, x185000, x185001, x185002, x185003 => if x14 = 2 then (if x14 = 3 then (reedpenref26_Keys.j11 k x2 x3 x4 x11 x12 x13 7 x185000 x185001 x185002 x185003) else (reedpenref26_Keys.j11 k x2 x3 x4 x11 x12 x13 6 x185000 x185001 x185002 x185003)) else (if x14 = 3 then (reedpenref26_Keys.j11 k x2 x3 x4 x11 x12 x13 7 x185000 x185001 x185002 x185003) else (reedpenref26_Keys.j11 k x2 x3 x4 x11 x12 x13 x17 x185000 x185001 x185002 x185003))
end
def reedpenref26_Keys.f (k : Nat) (a0_0 : Int) (a0_1 : ByteArray) (a0_2 : Bool) (a0_3 : Int) (l1 : List Int) (l2 : List Int) (a3 : Int) (a4 : Int) : Option (List Int) := (reedpenref26_Letters.f k l1).bind fun t185 => (reedpenref26_Keys.l0 k l2 a3 a4 t185 ([] : List Int) 0 a0_0 a0_1 a0_2 a0_3)
theorem reedpenref26_Keys.mono_l : ∀ k, (∀ y0 y1 y2 y3 y4 y5 y6 y7 y8 y9, LeO (reedpenref26_Keys.l0 k y0 y1 y2 y3 y4 y5 y6 y7 y8 y9) (reedpenref26_Keys.l0 (k + 1) y0 y1 y2 y3 y4 y5 y6 y7 y8 y9)) ∧ (∀ y0 y1 y2 y3 y4 y5 y6 y7 y8 y9 y10, LeO (reedpenref26_Keys.j1 k y0 y1 y2 y3 y4 y5 y6 y7 y8 y9 y10) (reedpenref26_Keys.j1 (k + 1) y0 y1 y2 y3 y4 y5 y6 y7 y8 y9 y10)) ∧ (∀ y0 y1 y2 y3 y4 y5 y6 y7 y8 y9 y10 y11, LeO (reedpenref26_Keys.j2 k y0 y1 y2 y3 y4 y5 y6 y7 y8 y9 y10 y11) (reedpenref26_Keys.j2 (k + 1) y0 y1 y2 y3 y4 y5 y6 y7 y8 y9 y10 y11)) ∧ (∀ y0 y1 y2 y3 y4 y5 y6 y7 y8 y9 y10 y11 y12, LeO (reedpenref26_Keys.l1 k y0 y1 y2 y3 y4 y5 y6 y7 y8 y9 y10 y11 y12) (reedpenref26_Keys.l1 (k + 1) y0 y1 y2 y3 y4 y5 y6 y7 y8 y9 y10 y11 y12)) ∧ (∀ y0 y1 y2 y3 y4 y5 y6 y7 y8 y9 y10 y11 y12, LeO (reedpenref26_Keys.j4 k y0 y1 y2 y3 y4 y5 y6 y7 y8 y9 y10 y11 y12) (reedpenref26_Keys.j4 (k + 1) y0 y1 y2 y3 y4 y5 y6 y7 y8 y9 y10 y11 y12)) ∧ (∀ y0 y1 y2 y3 y4 y5 y6 y7 y8 y9 y10 y11 y12, LeO (reedpenref26_Keys.j5 k y0 y1 y2 y3 y4 y5 y6 y7 y8 y9 y10 y11 y12) (reedpenref26_Keys.j5 (k + 1) y0 y1 y2 y3 y4 y5 y6 y7 y8 y9 y10 y11 y12)) ∧ (∀ y0 y1 y2 y3 y4 y5 y6 y7 y8 y9 y10 y11, LeO (reedpenref26_Keys.j6 k y0 y1 y2 y3 y4 y5 y6 y7 y8 y9 y10 y11) (reedpenref26_Keys.j6 (k + 1) y0 y1 y2 y3 y4 y5 y6 y7 y8 y9 y10 y11)) ∧ (∀ y0 y1 y2 y3 y4 y5 y6 y7 y8 y9 y10 y11 y12, LeO (reedpenref26_Keys.j7 k y0 y1 y2 y3 y4 y5 y6 y7 y8 y9 y10 y11 y12) (reedpenref26_Keys.j7 (k + 1) y0 y1 y2 y3 y4 y5 y6 y7 y8 y9 y10 y11 y12)) ∧ (∀ y0 y1 y2 y3 y4 y5 y6 y7 y8 y9 y10 y11, LeO (reedpenref26_Keys.j8 k y0 y1 y2 y3 y4 y5 y6 y7 y8 y9 y10 y11) (reedpenref26_Keys.j8 (k + 1) y0 y1 y2 y3 y4 y5 y6 y7 y8 y9 y10 y11)) ∧ (∀ y0 y1 y2 y3 y4 y5 y6 y7 y8 y9 y10, LeO (reedpenref26_Keys.j11 k y0 y1 y2 y3 y4 y5 y6 y7 y8 y9 y10) (reedpenref26_Keys.j11 (k + 1) y0 y1 y2 y3 y4 y5 y6 y7 y8 y9 y10)) ∧ (∀ y0 y1 y2 y3 y4 y5 y6 y7 y8 y9 y10 y11 y12, LeO (reedpenref26_Keys.j9 k y0 y1 y2 y3 y4 y5 y6 y7 y8 y9 y10 y11 y12) (reedpenref26_Keys.j9 (k + 1) y0 y1 y2 y3 y4 y5 y6 y7 y8 y9 y10 y11 y12)) ∧ (∀ y0 y1 y2 y3 y4 y5 y6 y7 y8 y9 y10 y11, LeO (reedpenref26_Keys.j10 k y0 y1 y2 y3 y4 y5 y6 y7 y8 y9 y10 y11) (reedpenref26_Keys.j10 (k + 1) y0 y1 y2 y3 y4 y5 y6 y7 y8 y9 y10 y11))
  | 0 => ⟨fun _ _ _ _ _ _ _ _ _ _ r h => by simp [reedpenref26_Keys.l0] at h, fun _ _ _ _ _ _ _ _ _ _ _ r h => by simp [reedpenref26_Keys.j1] at h, fun _ _ _ _ _ _ _ _ _ _ _ _ r h => by simp [reedpenref26_Keys.j2] at h, fun _ _ _ _ _ _ _ _ _ _ _ _ _ r h => by simp [reedpenref26_Keys.l1] at h, fun _ _ _ _ _ _ _ _ _ _ _ _ _ r h => by simp [reedpenref26_Keys.j4] at h, fun _ _ _ _ _ _ _ _ _ _ _ _ _ r h => by simp [reedpenref26_Keys.j5] at h, fun _ _ _ _ _ _ _ _ _ _ _ _ r h => by simp [reedpenref26_Keys.j6] at h, fun _ _ _ _ _ _ _ _ _ _ _ _ _ r h => by simp [reedpenref26_Keys.j7] at h, fun _ _ _ _ _ _ _ _ _ _ _ _ r h => by simp [reedpenref26_Keys.j8] at h, fun _ _ _ _ _ _ _ _ _ _ _ r h => by simp [reedpenref26_Keys.j11] at h, fun _ _ _ _ _ _ _ _ _ _ _ _ _ r h => by simp [reedpenref26_Keys.j9] at h, fun _ _ _ _ _ _ _ _ _ _ _ _ r h => by simp [reedpenref26_Keys.j10] at h⟩
  | k + 1 => by
    obtain ⟨ih0, ih1, ih2, ih3, ih4, ih5, ih6, ih7, ih8, ih9, ih10, ih11⟩ := reedpenref26_Keys.mono_l k
    refine ⟨?_, ?_, ?_, ?_, ?_, ?_, ?_, ?_, ?_, ?_, ?_, ?_⟩
    · intro y0 y1 y2 y3 y4 y5 y6 y7 y8 y9
      unfold reedpenref26_Keys.l0
      repeat' first
      | (with_reducible exact ih0 _ _ _ _ _ _ _ _ _ _)
      | (with_reducible exact ih1 _ _ _ _ _ _ _ _ _ _ _)
      | (with_reducible exact ih2 _ _ _ _ _ _ _ _ _ _ _ _)
      | (with_reducible exact ih3 _ _ _ _ _ _ _ _ _ _ _ _ _)
      | (with_reducible exact ih4 _ _ _ _ _ _ _ _ _ _ _ _ _)
      | (with_reducible exact ih5 _ _ _ _ _ _ _ _ _ _ _ _ _)
      | (with_reducible exact ih6 _ _ _ _ _ _ _ _ _ _ _ _)
      | (with_reducible exact ih7 _ _ _ _ _ _ _ _ _ _ _ _ _)
      | (with_reducible exact ih8 _ _ _ _ _ _ _ _ _ _ _ _)
      | (with_reducible exact ih9 _ _ _ _ _ _ _ _ _ _ _)
      | (with_reducible exact ih10 _ _ _ _ _ _ _ _ _ _ _ _ _)
      | (with_reducible exact ih11 _ _ _ _ _ _ _ _ _ _ _ _)
      | (with_reducible exact reedpenref26_In.mono _ _ _ _)
      | (with_reducible exact reedpenref26_Letters.mono _ _)
      | (with_reducible exact LeO.refl _)
      | (with_reducible exact LeO.none _)
      | (with_reducible refine LeO.ite ?_ ?_)
      | (with_reducible refine LeO.bind ?_ (fun _ => ?_))
      | exact ih0 _ _ _ _ _ _ _ _ _ _
      | exact ih1 _ _ _ _ _ _ _ _ _ _ _
      | exact ih2 _ _ _ _ _ _ _ _ _ _ _ _
      | exact ih3 _ _ _ _ _ _ _ _ _ _ _ _ _
      | exact ih4 _ _ _ _ _ _ _ _ _ _ _ _ _
      | exact ih5 _ _ _ _ _ _ _ _ _ _ _ _ _
      | exact ih6 _ _ _ _ _ _ _ _ _ _ _ _
      | exact ih7 _ _ _ _ _ _ _ _ _ _ _ _ _
      | exact ih8 _ _ _ _ _ _ _ _ _ _ _ _
      | exact ih9 _ _ _ _ _ _ _ _ _ _ _
      | exact ih10 _ _ _ _ _ _ _ _ _ _ _ _ _
      | exact ih11 _ _ _ _ _ _ _ _ _ _ _ _
      | exact reedpenref26_In.mono _ _ _ _
      | exact reedpenref26_Letters.mono _ _
      | exact LeO.none _
      | refine LeO.ite ?_ ?_
      | refine LeO.bind ?_ (fun _ => ?_)
    · intro y0 y1 y2 y3 y4 y5 y6 y7 y8 y9 y10
      unfold reedpenref26_Keys.j1
      repeat' first
      | (with_reducible exact ih0 _ _ _ _ _ _ _ _ _ _)
      | (with_reducible exact ih1 _ _ _ _ _ _ _ _ _ _ _)
      | (with_reducible exact ih2 _ _ _ _ _ _ _ _ _ _ _ _)
      | (with_reducible exact ih3 _ _ _ _ _ _ _ _ _ _ _ _ _)
      | (with_reducible exact ih4 _ _ _ _ _ _ _ _ _ _ _ _ _)
      | (with_reducible exact ih5 _ _ _ _ _ _ _ _ _ _ _ _ _)
      | (with_reducible exact ih6 _ _ _ _ _ _ _ _ _ _ _ _)
      | (with_reducible exact ih7 _ _ _ _ _ _ _ _ _ _ _ _ _)
      | (with_reducible exact ih8 _ _ _ _ _ _ _ _ _ _ _ _)
      | (with_reducible exact ih9 _ _ _ _ _ _ _ _ _ _ _)
      | (with_reducible exact ih10 _ _ _ _ _ _ _ _ _ _ _ _ _)
      | (with_reducible exact ih11 _ _ _ _ _ _ _ _ _ _ _ _)
      | (with_reducible exact reedpenref26_In.mono _ _ _ _)
      | (with_reducible exact reedpenref26_Letters.mono _ _)
      | (with_reducible exact LeO.refl _)
      | (with_reducible exact LeO.none _)
      | (with_reducible refine LeO.ite ?_ ?_)
      | (with_reducible refine LeO.bind ?_ (fun _ => ?_))
      | exact ih0 _ _ _ _ _ _ _ _ _ _
      | exact ih1 _ _ _ _ _ _ _ _ _ _ _
      | exact ih2 _ _ _ _ _ _ _ _ _ _ _ _
      | exact ih3 _ _ _ _ _ _ _ _ _ _ _ _ _
      | exact ih4 _ _ _ _ _ _ _ _ _ _ _ _ _
      | exact ih5 _ _ _ _ _ _ _ _ _ _ _ _ _
      | exact ih6 _ _ _ _ _ _ _ _ _ _ _ _
      | exact ih7 _ _ _ _ _ _ _ _ _ _ _ _ _
      | exact ih8 _ _ _ _ _ _ _ _ _ _ _ _
      | exact ih9 _ _ _ _ _ _ _ _ _ _ _
      | exact ih10 _ _ _ _ _ _ _ _ _ _ _ _ _
      | exact ih11 _ _ _ _ _ _ _ _ _ _ _ _
      | exact reedpenref26_In.mono _ _ _ _
      | exact reedpenref26_Letters.mono _ _
      | exact LeO.none _
      | refine LeO.ite ?_ ?_
      | refine LeO.bind ?_ (fun _ => ?_)
    · intro y0 y1 y2 y3 y4 y5 y6 y7 y8 y9 y10 y11
      unfold reedpenref26_Keys.j2
      repeat' first
      | (with_reducible exact ih0 _ _ _ _ _ _ _ _ _ _)
      | (with_reducible exact ih1 _ _ _ _ _ _ _ _ _ _ _)
      | (with_reducible exact ih2 _ _ _ _ _ _ _ _ _ _ _ _)
      | (with_reducible exact ih3 _ _ _ _ _ _ _ _ _ _ _ _ _)
      | (with_reducible exact ih4 _ _ _ _ _ _ _ _ _ _ _ _ _)
      | (with_reducible exact ih5 _ _ _ _ _ _ _ _ _ _ _ _ _)
      | (with_reducible exact ih6 _ _ _ _ _ _ _ _ _ _ _ _)
      | (with_reducible exact ih7 _ _ _ _ _ _ _ _ _ _ _ _ _)
      | (with_reducible exact ih8 _ _ _ _ _ _ _ _ _ _ _ _)
      | (with_reducible exact ih9 _ _ _ _ _ _ _ _ _ _ _)
      | (with_reducible exact ih10 _ _ _ _ _ _ _ _ _ _ _ _ _)
      | (with_reducible exact ih11 _ _ _ _ _ _ _ _ _ _ _ _)
      | (with_reducible exact reedpenref26_In.mono _ _ _ _)
      | (with_reducible exact reedpenref26_Letters.mono _ _)
      | (with_reducible exact LeO.refl _)
      | (with_reducible exact LeO.none _)
      | (with_reducible refine LeO.ite ?_ ?_)
      | (with_reducible refine LeO.bind ?_ (fun _ => ?_))
      | exact ih0 _ _ _ _ _ _ _ _ _ _
      | exact ih1 _ _ _ _ _ _ _ _ _ _ _
      | exact ih2 _ _ _ _ _ _ _ _ _ _ _ _
      | exact ih3 _ _ _ _ _ _ _ _ _ _ _ _ _
      | exact ih4 _ _ _ _ _ _ _ _ _ _ _ _ _
      | exact ih5 _ _ _ _ _ _ _ _ _ _ _ _ _
      | exact ih6 _ _ _ _ _ _ _ _ _ _ _ _
      | exact ih7 _ _ _ _ _ _ _ _ _ _ _ _ _
      | exact ih8 _ _ _ _ _ _ _ _ _ _ _ _
      | exact ih9 _ _ _ _ _ _ _ _ _ _ _
      | exact ih10 _ _ _ _ _ _ _ _ _ _ _ _ _
      | exact ih11 _ _ _ _ _ _ _ _ _ _ _ _
      | exact reedpenref26_In.mono _ _ _ _
      | exact reedpenref26_Letters.mono _ _
      | exact LeO.none _
      | refine LeO.ite ?_ ?_
      | refine LeO.bind ?_ (fun _ => ?_)
    · intro y0 y1 y2 y3 y4 y5 y6 y7 y8 y9 y10 y11 y12
      unfold reedpenref26_Keys.l1
      repeat' first
      | (with_reducible exact ih0 _ _ _ _ _ _ _ _ _ _)
      | (with_reducible exact ih1 _ _ _ _ _ _ _ _ _ _ _)
      | (with_reducible exact ih2 _ _ _ _ _ _ _ _ _ _ _ _)
      | (with_reducible exact ih3 _ _ _ _ _ _ _ _ _ _ _ _ _)
      | (with_reducible exact ih4 _ _ _ _ _ _ _ _ _ _ _ _ _)
      | (with_reducible exact ih5 _ _ _ _ _ _ _ _ _ _ _ _ _)
      | (with_reducible exact ih6 _ _ _ _ _ _ _ _ _ _ _ _)
      | (with_reducible exact ih7 _ _ _ _ _ _ _ _ _ _ _ _ _)
      | (with_reducible exact ih8 _ _ _ _ _ _ _ _ _ _ _ _)
      | (with_reducible exact ih9 _ _ _ _ _ _ _ _ _ _ _)
      | (with_reducible exact ih10 _ _ _ _ _ _ _ _ _ _ _ _ _)
      | (with_reducible exact ih11 _ _ _ _ _ _ _ _ _ _ _ _)
      | (with_reducible exact reedpenref26_In.mono _ _ _ _)
      | (with_reducible exact reedpenref26_Letters.mono _ _)
      | (with_reducible exact LeO.refl _)
      | (with_reducible exact LeO.none _)
      | (with_reducible refine LeO.ite ?_ ?_)
      | (with_reducible refine LeO.bind ?_ (fun _ => ?_))
      | exact ih0 _ _ _ _ _ _ _ _ _ _
      | exact ih1 _ _ _ _ _ _ _ _ _ _ _
      | exact ih2 _ _ _ _ _ _ _ _ _ _ _ _
      | exact ih3 _ _ _ _ _ _ _ _ _ _ _ _ _
      | exact ih4 _ _ _ _ _ _ _ _ _ _ _ _ _
      | exact ih5 _ _ _ _ _ _ _ _ _ _ _ _ _
      | exact ih6 _ _ _ _ _ _ _ _ _ _ _ _
      | exact ih7 _ _ _ _ _ _ _ _ _ _ _ _ _
      | exact ih8 _ _ _ _ _ _ _ _ _ _ _ _
      | exact ih9 _ _ _ _ _ _ _ _ _ _ _
      | exact ih10 _ _ _ _ _ _ _ _ _ _ _ _ _
      | exact ih11 _ _ _ _ _ _ _ _ _ _ _ _
      | exact reedpenref26_In.mono _ _ _ _
      | exact reedpenref26_Letters.mono _ _
      | exact LeO.none _
      | refine LeO.ite ?_ ?_
      | refine LeO.bind ?_ (fun _ => ?_)
    · intro y0 y1 y2 y3 y4 y5 y6 y7 y8 y9 y10 y11 y12
      unfold reedpenref26_Keys.j4
      repeat' first
      | (with_reducible exact ih0 _ _ _ _ _ _ _ _ _ _)
      | (with_reducible exact ih1 _ _ _ _ _ _ _ _ _ _ _)
      | (with_reducible exact ih2 _ _ _ _ _ _ _ _ _ _ _ _)
      | (with_reducible exact ih3 _ _ _ _ _ _ _ _ _ _ _ _ _)
      | (with_reducible exact ih4 _ _ _ _ _ _ _ _ _ _ _ _ _)
      | (with_reducible exact ih5 _ _ _ _ _ _ _ _ _ _ _ _ _)
      | (with_reducible exact ih6 _ _ _ _ _ _ _ _ _ _ _ _)
      | (with_reducible exact ih7 _ _ _ _ _ _ _ _ _ _ _ _ _)
      | (with_reducible exact ih8 _ _ _ _ _ _ _ _ _ _ _ _)
      | (with_reducible exact ih9 _ _ _ _ _ _ _ _ _ _ _)
      | (with_reducible exact ih10 _ _ _ _ _ _ _ _ _ _ _ _ _)
      | (with_reducible exact ih11 _ _ _ _ _ _ _ _ _ _ _ _)
      | (with_reducible exact reedpenref26_In.mono _ _ _ _)
      | (with_reducible exact reedpenref26_Letters.mono _ _)
      | (with_reducible exact LeO.refl _)
      | (with_reducible exact LeO.none _)
      | (with_reducible refine LeO.ite ?_ ?_)
      | (with_reducible refine LeO.bind ?_ (fun _ => ?_))
      | exact ih0 _ _ _ _ _ _ _ _ _ _
      | exact ih1 _ _ _ _ _ _ _ _ _ _ _
      | exact ih2 _ _ _ _ _ _ _ _ _ _ _ _
      | exact ih3 _ _ _ _ _ _ _ _ _ _ _ _ _
      | exact ih4 _ _ _ _ _ _ _ _ _ _ _ _ _
      | exact ih5 _ _ _ _ _ _ _ _ _ _ _ _ _
      | exact ih6 _ _ _ _ _ _ _ _ _ _ _ _
      | exact ih7 _ _ _ _ _ _ _ _ _ _ _ _ _
      | exact ih8 _ _ _ _ _ _ _ _ _ _ _ _
      | exact ih9 _ _ _ _ _ _ _ _ _ _ _
      | exact ih10 _ _ _ _ _ _ _ _ _ _ _ _ _
      | exact ih11 _ _ _ _ _ _ _ _ _ _ _ _
      | exact reedpenref26_In.mono _ _ _ _
      | exact reedpenref26_Letters.mono _ _
      | exact LeO.none _
      | refine LeO.ite ?_ ?_
      | refine LeO.bind ?_ (fun _ => ?_)
    · intro y0 y1 y2 y3 y4 y5 y6 y7 y8 y9 y10 y11 y12
      unfold reedpenref26_Keys.j5
      repeat' first
      | (with_reducible exact ih0 _ _ _ _ _ _ _ _ _ _)
      | (with_reducible exact ih1 _ _ _ _ _ _ _ _ _ _ _)
      | (with_reducible exact ih2 _ _ _ _ _ _ _ _ _ _ _ _)
      | (with_reducible exact ih3 _ _ _ _ _ _ _ _ _ _ _ _ _)
      | (with_reducible exact ih4 _ _ _ _ _ _ _ _ _ _ _ _ _)
      | (with_reducible exact ih5 _ _ _ _ _ _ _ _ _ _ _ _ _)
      | (with_reducible exact ih6 _ _ _ _ _ _ _ _ _ _ _ _)
      | (with_reducible exact ih7 _ _ _ _ _ _ _ _ _ _ _ _ _)
      | (with_reducible exact ih8 _ _ _ _ _ _ _ _ _ _ _ _)
      | (with_reducible exact ih9 _ _ _ _ _ _ _ _ _ _ _)
      | (with_reducible exact ih10 _ _ _ _ _ _ _ _ _ _ _ _ _)
      | (with_reducible exact ih11 _ _ _ _ _ _ _ _ _ _ _ _)
      | (with_reducible exact reedpenref26_In.mono _ _ _ _)
      | (with_reducible exact reedpenref26_Letters.mono _ _)
      | (with_reducible exact LeO.refl _)
      | (with_reducible exact LeO.none _)
      | (with_reducible refine LeO.ite ?_ ?_)
      | (with_reducible refine LeO.bind ?_ (fun _ => ?_))
      | exact ih0 _ _ _ _ _ _ _ _ _ _
      | exact ih1 _ _ _ _ _ _ _ _ _ _ _
      | exact ih2 _ _ _ _ _ _ _ _ _ _ _ _
      | exact ih3 _ _ _ _ _ _ _ _ _ _ _ _ _
      | exact ih4 _ _ _ _ _ _ _ _ _ _ _ _ _
      | exact ih5 _ _ _ _ _ _ _ _ _ _ _ _ _
      | exact ih6 _ _ _ _ _ _ _ _ _ _ _ _
      | exact ih7 _ _ _ _ _ _ _ _ _ _ _ _ _
      | exact ih8 _ _ _ _ _ _ _ _ _ _ _ _
      | exact ih9 _ _ _ _ _ _ _ _ _ _ _
      | exact ih10 _ _ _ _ _ _ _ _ _ _ _ _ _
      | exact ih11 _ _ _ _ _ _ _ _ _ _ _ _
      | exact reedpenref26_In.mono _ _ _ _
      | exact reedpenref26_Letters.mono _ _
      | exact LeO.none _
      | refine LeO.ite ?_ ?_
      | refine LeO.bind ?_ (fun _ => ?_)
    · intro y0 y1 y2 y3 y4 y5 y6 y7 y8 y9 y10 y11
      unfold reedpenref26_Keys.j6
      repeat' first
      | (with_reducible exact ih0 _ _ _ _ _ _ _ _ _ _)
      | (with_reducible exact ih1 _ _ _ _ _ _ _ _ _ _ _)
      | (with_reducible exact ih2 _ _ _ _ _ _ _ _ _ _ _ _)
      | (with_reducible exact ih3 _ _ _ _ _ _ _ _ _ _ _ _ _)
      | (with_reducible exact ih4 _ _ _ _ _ _ _ _ _ _ _ _ _)
      | (with_reducible exact ih5 _ _ _ _ _ _ _ _ _ _ _ _ _)
      | (with_reducible exact ih6 _ _ _ _ _ _ _ _ _ _ _ _)
      | (with_reducible exact ih7 _ _ _ _ _ _ _ _ _ _ _ _ _)
      | (with_reducible exact ih8 _ _ _ _ _ _ _ _ _ _ _ _)
      | (with_reducible exact ih9 _ _ _ _ _ _ _ _ _ _ _)
      | (with_reducible exact ih10 _ _ _ _ _ _ _ _ _ _ _ _ _)
      | (with_reducible exact ih11 _ _ _ _ _ _ _ _ _ _ _ _)
      | (with_reducible exact reedpenref26_In.mono _ _ _ _)
      | (with_reducible exact reedpenref26_Letters.mono _ _)
      | (with_reducible exact LeO.refl _)
      | (with_reducible exact LeO.none _)
      | (with_reducible refine LeO.ite ?_ ?_)
      | (with_reducible refine LeO.bind ?_ (fun _ => ?_))
      | exact ih0 _ _ _ _ _ _ _ _ _ _
      | exact ih1 _ _ _ _ _ _ _ _ _ _ _
      | exact ih2 _ _ _ _ _ _ _ _ _ _ _ _
      | exact ih3 _ _ _ _ _ _ _ _ _ _ _ _ _
      | exact ih4 _ _ _ _ _ _ _ _ _ _ _ _ _
      | exact ih5 _ _ _ _ _ _ _ _ _ _ _ _ _
      | exact ih6 _ _ _ _ _ _ _ _ _ _ _ _
      | exact ih7 _ _ _ _ _ _ _ _ _ _ _ _ _
      | exact ih8 _ _ _ _ _ _ _ _ _ _ _ _
      | exact ih9 _ _ _ _ _ _ _ _ _ _ _
      | exact ih10 _ _ _ _ _ _ _ _ _ _ _ _ _
      | exact ih11 _ _ _ _ _ _ _ _ _ _ _ _
      | exact reedpenref26_In.mono _ _ _ _
      | exact reedpenref26_Letters.mono _ _
      | exact LeO.none _
      | refine LeO.ite ?_ ?_
      | refine LeO.bind ?_ (fun _ => ?_)
    · intro y0 y1 y2 y3 y4 y5 y6 y7 y8 y9 y10 y11 y12
      unfold reedpenref26_Keys.j7
      repeat' first
      | (with_reducible exact ih0 _ _ _ _ _ _ _ _ _ _)
      | (with_reducible exact ih1 _ _ _ _ _ _ _ _ _ _ _)
      | (with_reducible exact ih2 _ _ _ _ _ _ _ _ _ _ _ _)
      | (with_reducible exact ih3 _ _ _ _ _ _ _ _ _ _ _ _ _)
      | (with_reducible exact ih4 _ _ _ _ _ _ _ _ _ _ _ _ _)
      | (with_reducible exact ih5 _ _ _ _ _ _ _ _ _ _ _ _ _)
      | (with_reducible exact ih6 _ _ _ _ _ _ _ _ _ _ _ _)
      | (with_reducible exact ih7 _ _ _ _ _ _ _ _ _ _ _ _ _)
      | (with_reducible exact ih8 _ _ _ _ _ _ _ _ _ _ _ _)
      | (with_reducible exact ih9 _ _ _ _ _ _ _ _ _ _ _)
      | (with_reducible exact ih10 _ _ _ _ _ _ _ _ _ _ _ _ _)
      | (with_reducible exact ih11 _ _ _ _ _ _ _ _ _ _ _ _)
      | (with_reducible exact reedpenref26_In.mono _ _ _ _)
      | (with_reducible exact reedpenref26_Letters.mono _ _)
      | (with_reducible exact LeO.refl _)
      | (with_reducible exact LeO.none _)
      | (with_reducible refine LeO.ite ?_ ?_)
      | (with_reducible refine LeO.bind ?_ (fun _ => ?_))
      | exact ih0 _ _ _ _ _ _ _ _ _ _
      | exact ih1 _ _ _ _ _ _ _ _ _ _ _
      | exact ih2 _ _ _ _ _ _ _ _ _ _ _ _
      | exact ih3 _ _ _ _ _ _ _ _ _ _ _ _ _
      | exact ih4 _ _ _ _ _ _ _ _ _ _ _ _ _
      | exact ih5 _ _ _ _ _ _ _ _ _ _ _ _ _
      | exact ih6 _ _ _ _ _ _ _ _ _ _ _ _
      | exact ih7 _ _ _ _ _ _ _ _ _ _ _ _ _
      | exact ih8 _ _ _ _ _ _ _ _ _ _ _ _
      | exact ih9 _ _ _ _ _ _ _ _ _ _ _
      | exact ih10 _ _ _ _ _ _ _ _ _ _ _ _ _
      | exact ih11 _ _ _ _ _ _ _ _ _ _ _ _
      | exact reedpenref26_In.mono _ _ _ _
      | exact reedpenref26_Letters.mono _ _
      | exact LeO.none _
      | refine LeO.ite ?_ ?_
      | refine LeO.bind ?_ (fun _ => ?_)
    · intro y0 y1 y2 y3 y4 y5 y6 y7 y8 y9 y10 y11
      unfold reedpenref26_Keys.j8
      repeat' first
      | (with_reducible exact ih0 _ _ _ _ _ _ _ _ _ _)
      | (with_reducible exact ih1 _ _ _ _ _ _ _ _ _ _ _)
      | (with_reducible exact ih2 _ _ _ _ _ _ _ _ _ _ _ _)
      | (with_reducible exact ih3 _ _ _ _ _ _ _ _ _ _ _ _ _)
      | (with_reducible exact ih4 _ _ _ _ _ _ _ _ _ _ _ _ _)
      | (with_reducible exact ih5 _ _ _ _ _ _ _ _ _ _ _ _ _)
      | (with_reducible exact ih6 _ _ _ _ _ _ _ _ _ _ _ _)
      | (with_reducible exact ih7 _ _ _ _ _ _ _ _ _ _ _ _ _)
      | (with_reducible exact ih8 _ _ _ _ _ _ _ _ _ _ _ _)
      | (with_reducible exact ih9 _ _ _ _ _ _ _ _ _ _ _)
      | (with_reducible exact ih10 _ _ _ _ _ _ _ _ _ _ _ _ _)
      | (with_reducible exact ih11 _ _ _ _ _ _ _ _ _ _ _ _)
      | (with_reducible exact reedpenref26_In.mono _ _ _ _)
      | (with_reducible exact reedpenref26_Letters.mono _ _)
      | (with_reducible exact LeO.refl _)
      | (with_reducible exact LeO.none _)
      | (with_reducible refine LeO.ite ?_ ?_)
      | (with_reducible refine LeO.bind ?_ (fun _ => ?_))
      | exact ih0 _ _ _ _ _ _ _ _ _ _
      | exact ih1 _ _ _ _ _ _ _ _ _ _ _
      | exact ih2 _ _ _ _ _ _ _ _ _ _ _ _
      | exact ih3 _ _ _ _ _ _ _ _ _ _ _ _ _
      | exact ih4 _ _ _ _ _ _ _ _ _ _ _ _ _
      | exact ih5 _ _ _ _ _ _ _ _ _ _ _ _ _
      | exact ih6 _ _ _ _ _ _ _ _ _ _ _ _
      | exact ih7 _ _ _ _ _ _ _ _ _ _ _ _ _
      | exact ih8 _ _ _ _ _ _ _ _ _ _ _ _
      | exact ih9 _ _ _ _ _ _ _ _ _ _ _
      | exact ih10 _ _ _ _ _ _ _ _ _ _ _ _ _
      | exact ih11 _ _ _ _ _ _ _ _ _ _ _ _
      | exact reedpenref26_In.mono _ _ _ _
      | exact reedpenref26_Letters.mono _ _
      | exact LeO.none _
      | refine LeO.ite ?_ ?_
      | refine LeO.bind ?_ (fun _ => ?_)
    · intro y0 y1 y2 y3 y4 y5 y6 y7 y8 y9 y10
      unfold reedpenref26_Keys.j11
      repeat' first
      | (with_reducible exact ih0 _ _ _ _ _ _ _ _ _ _)
      | (with_reducible exact ih1 _ _ _ _ _ _ _ _ _ _ _)
      | (with_reducible exact ih2 _ _ _ _ _ _ _ _ _ _ _ _)
      | (with_reducible exact ih3 _ _ _ _ _ _ _ _ _ _ _ _ _)
      | (with_reducible exact ih4 _ _ _ _ _ _ _ _ _ _ _ _ _)
      | (with_reducible exact ih5 _ _ _ _ _ _ _ _ _ _ _ _ _)
      | (with_reducible exact ih6 _ _ _ _ _ _ _ _ _ _ _ _)
      | (with_reducible exact ih7 _ _ _ _ _ _ _ _ _ _ _ _ _)
      | (with_reducible exact ih8 _ _ _ _ _ _ _ _ _ _ _ _)
      | (with_reducible exact ih9 _ _ _ _ _ _ _ _ _ _ _)
      | (with_reducible exact ih10 _ _ _ _ _ _ _ _ _ _ _ _ _)
      | (with_reducible exact ih11 _ _ _ _ _ _ _ _ _ _ _ _)
      | (with_reducible exact reedpenref26_In.mono _ _ _ _)
      | (with_reducible exact reedpenref26_Letters.mono _ _)
      | (with_reducible exact LeO.refl _)
      | (with_reducible exact LeO.none _)
      | (with_reducible refine LeO.ite ?_ ?_)
      | (with_reducible refine LeO.bind ?_ (fun _ => ?_))
      | exact ih0 _ _ _ _ _ _ _ _ _ _
      | exact ih1 _ _ _ _ _ _ _ _ _ _ _
      | exact ih2 _ _ _ _ _ _ _ _ _ _ _ _
      | exact ih3 _ _ _ _ _ _ _ _ _ _ _ _ _
      | exact ih4 _ _ _ _ _ _ _ _ _ _ _ _ _
      | exact ih5 _ _ _ _ _ _ _ _ _ _ _ _ _
      | exact ih6 _ _ _ _ _ _ _ _ _ _ _ _
      | exact ih7 _ _ _ _ _ _ _ _ _ _ _ _ _
      | exact ih8 _ _ _ _ _ _ _ _ _ _ _ _
      | exact ih9 _ _ _ _ _ _ _ _ _ _ _
      | exact ih10 _ _ _ _ _ _ _ _ _ _ _ _ _
      | exact ih11 _ _ _ _ _ _ _ _ _ _ _ _
      | exact reedpenref26_In.mono _ _ _ _
      | exact reedpenref26_Letters.mono _ _
      | exact LeO.none _
      | refine LeO.ite ?_ ?_
      | refine LeO.bind ?_ (fun _ => ?_)
    · intro y0 y1 y2 y3 y4 y5 y6 y7 y8 y9 y10 y11 y12
      unfold reedpenref26_Keys.j9
      repeat' first
      | (with_reducible exact ih0 _ _ _ _ _ _ _ _ _ _)
      | (with_reducible exact ih1 _ _ _ _ _ _ _ _ _ _ _)
      | (with_reducible exact ih2 _ _ _ _ _ _ _ _ _ _ _ _)
      | (with_reducible exact ih3 _ _ _ _ _ _ _ _ _ _ _ _ _)
      | (with_reducible exact ih4 _ _ _ _ _ _ _ _ _ _ _ _ _)
      | (with_reducible exact ih5 _ _ _ _ _ _ _ _ _ _ _ _ _)
      | (with_reducible exact ih6 _ _ _ _ _ _ _ _ _ _ _ _)
      | (with_reducible exact ih7 _ _ _ _ _ _ _ _ _ _ _ _ _)
      | (with_reducible exact ih8 _ _ _ _ _ _ _ _ _ _ _ _)
      | (with_reducible exact ih9 _ _ _ _ _ _ _ _ _ _ _)
      | (with_reducible exact ih10 _ _ _ _ _ _ _ _ _ _ _ _ _)
      | (with_reducible exact ih11 _ _ _ _ _ _ _ _ _ _ _ _)
      | (with_reducible exact reedpenref26_In.mono _ _ _ _)
      | (with_reducible exact reedpenref26_Letters.mono _ _)
      | (with_reducible exact LeO.refl _)
      | (with_reducible exact LeO.none _)
      | (with_reducible refine LeO.ite ?_ ?_)
      | (with_reducible refine LeO.bind ?_ (fun _ => ?_))
      | exact ih0 _ _ _ _ _ _ _ _ _ _
      | exact ih1 _ _ _ _ _ _ _ _ _ _ _
      | exact ih2 _ _ _ _ _ _ _ _ _ _ _ _
      | exact ih3 _ _ _ _ _ _ _ _ _ _ _ _ _
      | exact ih4 _ _ _ _ _ _ _ _ _ _ _ _ _
      | exact ih5 _ _ _ _ _ _ _ _ _ _ _ _ _
      | exact ih6 _ _ _ _ _ _ _ _ _ _ _ _
      | exact ih7 _ _ _ _ _ _ _ _ _ _ _ _ _
      | exact ih8 _ _ _ _ _ _ _ _ _ _ _ _
      | exact ih9 _ _ _ _ _ _ _ _ _ _ _
      | exact ih10 _ _ _ _ _ _ _ _ _ _ _ _ _
      | exact ih11 _ _ _ _ _ _ _ _ _ _ _ _
      | exact reedpenref26_In.mono _ _ _ _
      | exact reedpenref26_Letters.mono _ _
      | exact LeO.none _
      | refine LeO.ite ?_ ?_
      | refine LeO.bind ?_ (fun _ => ?_)
    · intro y0 y1 y2 y3 y4 y5 y6 y7 y8 y9 y10 y11
      unfold reedpenref26_Keys.j10
      repeat' first
      | (with_reducible exact ih0 _ _ _ _ _ _ _ _ _ _)
      | (with_reducible exact ih1 _ _ _ _ _ _ _ _ _ _ _)
      | (with_reducible exact ih2 _ _ _ _ _ _ _ _ _ _ _ _)
      | (with_reducible exact ih3 _ _ _ _ _ _ _ _ _ _ _ _ _)
      | (with_reducible exact ih4 _ _ _ _ _ _ _ _ _ _ _ _ _)
      | (with_reducible exact ih5 _ _ _ _ _ _ _ _ _ _ _ _ _)
      | (with_reducible exact ih6 _ _ _ _ _ _ _ _ _ _ _ _)
      | (with_reducible exact ih7 _ _ _ _ _ _ _ _ _ _ _ _ _)
      | (with_reducible exact ih8 _ _ _ _ _ _ _ _ _ _ _ _)
      | (with_reducible exact ih9 _ _ _ _ _ _ _ _ _ _ _)
      | (with_reducible exact ih10 _ _ _ _ _ _ _ _ _ _ _ _ _)
      | (with_reducible exact ih11 _ _ _ _ _ _ _ _ _ _ _ _)
      | (with_reducible exact reedpenref26_In.mono _ _ _ _)
      | (with_reducible exact reedpenref26_Letters.mono _ _)
      | (with_reducible exact LeO.refl _)
      | (with_reducible exact LeO.none _)
      | (with_reducible refine LeO.ite ?_ ?_)
      | (with_reducible refine LeO.bind ?_ (fun _ => ?_))
      | exact ih0 _ _ _ _ _ _ _ _ _ _
      | exact ih1 _ _ _ _ _ _ _ _ _ _ _
      | exact ih2 _ _ _ _ _ _ _ _ _ _ _ _
      | exact ih3 _ _ _ _ _ _ _ _ _ _ _ _ _
      | exact ih4 _ _ _ _ _ _ _ _ _ _ _ _ _
      | exact ih5 _ _ _ _ _ _ _ _ _ _ _ _ _
      | exact ih6 _ _ _ _ _ _ _ _ _ _ _ _
      | exact ih7 _ _ _ _ _ _ _ _ _ _ _ _ _
      | exact ih8 _ _ _ _ _ _ _ _ _ _ _ _
      | exact ih9 _ _ _ _ _ _ _ _ _ _ _
      | exact ih10 _ _ _ _ _ _ _ _ _ _ _ _ _
      | exact ih11 _ _ _ _ _ _ _ _ _ _ _ _
      | exact reedpenref26_In.mono _ _ _ _
      | exact reedpenref26_Letters.mono _ _
      | exact LeO.none _
      | refine LeO.ite ?_ ?_
      | refine LeO.bind ?_ (fun _ => ?_)
theorem reedpenref26_Keys.mono : ∀ a0 a1 a2 a3 a4 a5 a6 a7 k, LeO (reedpenref26_Keys.f k a0 a1 a2 a3 a4 a5 a6 a7) (reedpenref26_Keys.f (k + 1) a0 a1 a2 a3 a4 a5 a6 a7) := by
  intro a0 a1 a2 a3 a4 a5 a6 a7 k
  obtain ⟨ih0, ih1, ih2, ih3, ih4, ih5, ih6, ih7, ih8, ih9, ih10, ih11⟩ := reedpenref26_Keys.mono_l k
  unfold reedpenref26_Keys.f
  repeat' first
      | (with_reducible exact ih0 _ _ _ _ _ _ _ _ _ _)
      | (with_reducible exact ih1 _ _ _ _ _ _ _ _ _ _ _)
      | (with_reducible exact ih2 _ _ _ _ _ _ _ _ _ _ _ _)
      | (with_reducible exact ih3 _ _ _ _ _ _ _ _ _ _ _ _ _)
      | (with_reducible exact ih4 _ _ _ _ _ _ _ _ _ _ _ _ _)
      | (with_reducible exact ih5 _ _ _ _ _ _ _ _ _ _ _ _ _)
      | (with_reducible exact ih6 _ _ _ _ _ _ _ _ _ _ _ _)
      | (with_reducible exact ih7 _ _ _ _ _ _ _ _ _ _ _ _ _)
      | (with_reducible exact ih8 _ _ _ _ _ _ _ _ _ _ _ _)
      | (with_reducible exact ih9 _ _ _ _ _ _ _ _ _ _ _)
      | (with_reducible exact ih10 _ _ _ _ _ _ _ _ _ _ _ _ _)
      | (with_reducible exact ih11 _ _ _ _ _ _ _ _ _ _ _ _)
      | (with_reducible exact reedpenref26_In.mono _ _ _ _)
      | (with_reducible exact reedpenref26_Letters.mono _ _)
      | (with_reducible exact LeO.refl _)
      | (with_reducible exact LeO.none _)
      | (with_reducible refine LeO.ite ?_ ?_)
      | (with_reducible refine LeO.bind ?_ (fun _ => ?_))
      | exact ih0 _ _ _ _ _ _ _ _ _ _
      | exact ih1 _ _ _ _ _ _ _ _ _ _ _
      | exact ih2 _ _ _ _ _ _ _ _ _ _ _ _
      | exact ih3 _ _ _ _ _ _ _ _ _ _ _ _ _
      | exact ih4 _ _ _ _ _ _ _ _ _ _ _ _ _
      | exact ih5 _ _ _ _ _ _ _ _ _ _ _ _ _
      | exact ih6 _ _ _ _ _ _ _ _ _ _ _ _
      | exact ih7 _ _ _ _ _ _ _ _ _ _ _ _ _
      | exact ih8 _ _ _ _ _ _ _ _ _ _ _ _
      | exact ih9 _ _ _ _ _ _ _ _ _ _ _
      | exact ih10 _ _ _ _ _ _ _ _ _ _ _ _ _
      | exact ih11 _ _ _ _ _ _ _ _ _ _ _ _
      | exact reedpenref26_In.mono _ _ _ _
      | exact reedpenref26_Letters.mono _ _
      | exact LeO.none _
      | refine LeO.ite ?_ ?_
      | refine LeO.bind ?_ (fun _ => ?_)
set_option maxHeartbeats 8000000 in
set_option maxRecDepth 100000 in
theorem reedpenref26_Keys.calls (k : Nat) (a0_0 : Int) (a0_1 : ByteArray) (a0_2 : Bool) (a0_3 : Int) (A1 : Option Addr) (c1 : Nat) (l1 : List Int) (A2 : Option Addr) (c2 : Nat) (l2 : List Int) (a3 : Int) (a4 : Int) (r : List Int) (w : World) (hr1 : Kd.C (Kd.int .i64) w A1 l1.length l1) (hc1 : l1.length ≤ c1) (hr2 : Kd.C (Kd.int .i64) w A2 l2.length l2) (hc2 : l2.length ≤ c2) (h : reedpenref26_Keys.f k a0_0 a0_1 a0_2 a0_3 l1 l2 a3 a4 = some r) :
    Calls Try.prog 25 #[.agg #[.int .i64 a0_0, .string a0_1, .bool a0_2, .int .i64 a0_3], .slice A1 l1.length c1, .slice A2 l2.length c2, .int .i64 a3, .int .i64 a4] w fun e w' => ∃ v0_ : Value, e = .returned (v0_) ∧ Kd.R (Kd.int .i64) 3 w' w.heap.size (fun _ => True) v0_ r ∧ Below w.heap.size w w' := by
  have hu23 := Try.underlying23
  have HR1 := Aside0.mk hr1
  have HC1 := Aside0.mk hc1
  clear hr1 hc1
  have HR2 := Aside0.mk hr2
  have HC2 := Aside0.mk hc2
  clear hr2 hc2
  have HB := Aside0.mk (Below.refl w.heap.size w)
  have H : ((reedpenref26_Letters.f k l1).bind fun t185 => (reedpenref26_Keys.l0 k l2 a3 a4 t185 ([] : List Int) 0 a0_0 a0_1 a0_2 a0_3)) = some r := h
  clear h
  replace H := Option.bind_eq_some_iff.mp H
  obtain ⟨t185, A60, H⟩ := H
  replace H : (reedpenref26_Keys.l0 k l2 a3 a4 t185 ([] : List Int) 0 a0_0 a0_1 a0_2 a0_3) = some r := H
  have A6 := Aside0.mk A60
  clear A60
  have H' := Aside0.mk H
  clear H
  go_enter Try.func25, Try.ntmps25
  go_wp2_with (first | ((with_reducible refine gate_dst (N := 5) rfl ?_); (try (refine gate_guard (by rfl) ?_; dsimp only)); refine box_event ?hg (N := 5) ?hd (cs := #[.int .i64 a0_0, .string a0_1, .bool a0_2, .int .i64 a0_3]) (t := 23) ?hr ?_; (case hd => rfl); (case hg => rfl); (case hr => first | (go_simp; done) | (go_simp; rfl)); intro gb184 hg w7 hbox hb; have n0_ := Aside0.mk (below_step (by repeat (first | (with_reducible first | exact HB.out | apply below_alloc | apply pw_below_drewN | apply below_drew1) | exact HB.out)) hb); have n1_ := Aside0.mk (hbox); have n2_ := Aside0.mk ((by rw [hg]; exact (below_size (by repeat (first | (with_reducible first | exact HB.out | apply below_alloc | apply pw_below_drewN | apply below_drew1) | exact HB.out))) : w.heap.size ≤ gb184)); have n3_ := Aside0.mk ((by rw [hg]; exact (below_size (by repeat (first | (with_reducible first | exact HB.out | apply below_alloc | apply pw_below_drewN | apply below_drew1) | exact HB.out))) : w.heap.size ≤ gb184)); clear HB; have HB := n0_; have BK184 := n1_; have GW184 := n2_; have GE184 := n3_; clear n0_ n1_ n2_ n3_; clear hb hbox hg) | ((with_reducible refine gate_callee (f := 56) rfl ?_); refine goesL_ (some 19) rfl rfl Try.func56 (by kernel_rfl) rfl #[.slice A1 l1.length c1] rfl (by (try simp only [List.map_toArray, List.map_cons, List.map_nil]); first | done | rfl | (simp only [List.length_drop, List.length_take]; rfl)) ?_; (with_reducible refine (reedpenref26_Letters.calls k _ _ l1 t185 _ ?side1 ?side2 A6.out).mono ?_); (case side1 => repeat (first | exact (Kd.C_below HR1.out HB.out) | (with_reducible refine Kd.C_alloc ?_ _) | (with_reducible refine Kd.C_drewN ?_ _) | (with_reducible refine Kd.C_drew ?_))); (case side2 => exact HC1.out); rintro e w8 ⟨rfl, hb⟩; refine ⟨_, rfl, ?_⟩; have n0_ := Aside0.mk (blk_below (g := gb184) (o := .cells #[.int .i64 a0_0, .string a0_1, .bool a0_2, .int .i64 a0_3] 23 (0, 0)) (by (with_reducible repeat (first | refine blk_drewN ?_ _ | refine blk_drew ?_ | refine blk_alloc ?_ _)); exact BK184.out) hb); have n1_ := Aside0.mk (below_step (by repeat (first | (with_reducible first | exact HB.out | apply below_alloc | apply pw_below_drewN | apply below_drew1 | refine below_set ?_ GE184.out) | exact HB.out)) hb); clear BK184; clear HB; have BK184 := n0_; have HB := n1_; clear n0_ n1_; (try clear hb)))
  go_loopg [12, 13] k (fun kq v12 v13 w' => ∃ (x12_1 : List Int) (x13_1 : Int), v13 = .int .i64 x13_1 ∧ Aside0 (reedpenref26_Keys.l0 kq l2 a3 a4 t185 x12_1 x13_1 a0_0 a0_1 a0_2 a0_3 = some r) ∧ Aside0 (kq ≤ k) ∧ Aside0 (Kd.R (Kd.int .i64) 3 w' w.heap.size (fun _ => True) v12 x12_1) ∧ Aside0 (w'.heap[gb184]? = some (.cells #[.int .i64 a0_0, .string a0_1, .bool a0_2, .int .i64 a0_3] 23 (0, 0))) ∧ Aside0 (Below w.heap.size w w'))
  case atStart => exact ⟨(([] : List Int)), (0), (by first | rfl | (simp; done) | (simp [*]; done)), H', ⟨Nat.le_refl _⟩, ⟨by first | exact Kd.R_nil _ _ _ _ _ | exact Kd.N_nil _ _ _ _ _ | exact Kd.V_nil _ _ _ _ _ | exact Kd.Q_nil _ _ _ _ _ | exact Kd.S_nil _ _ _ _ _⟩, ⟨by (with_reducible repeat (first | refine blk_drewN ?_ _ | refine blk_drew ?_ | refine blk_alloc ?_ _)); exact BK184.out⟩, ⟨by repeat (first | (with_reducible first | exact HB.out | apply below_alloc | apply pw_below_drewN | apply below_drew1 | refine below_set ?_ GE184.out) | exact HB.out)⟩⟩
  case round =>
    clear H'
    (try clear c1); (try clear c2); (try clear p2); (try clear c5)
    obtain ⟨x12_1, x13_1, rfl, HA, HK1, HO_12, BK184, HB⟩ := hrel
    cases gk with
    | zero => exact absurd HA.out (by simp [reedpenref26_Keys.l0])
    | succ k1 =>
      have H := HA.out
      clear HA
      simp only [reedpenref26_Keys.l0] at H
      by_cases c9 : x13_1 < (t185.size : Int)
      · rw [if_pos c9] at H
        have c9b0 : decide (x13_1 < (t185.size : Int)) = true := decide_eq_true c9
        clear c9
        have HC10 := Aside0.mk H
        clear H
        go_upto_if 29 with (fail)
        go_cut [14] (fun v14 wc => ∃ (kq : Nat) (x14_9 : Int), v14 = .int .i64 x14_9 ∧ Aside0 (reedpenref26_Keys.j1 kq l2 a3 a4 t185 x12_1 x13_1 x14_9 a0_0 a0_1 a0_2 a0_3 = some r) ∧ Aside0 (kq ≤ k1) ∧ Aside0 (Kd.R (Kd.int .i64) 3 wc w.heap.size (fun _ => True) u12 x12_1) ∧ Aside0 (wc.heap[gb184]? = some (.cells #[.int .i64 a0_0, .string a0_1, .bool a0_2, .int .i64 a0_3] 23 (0, 0))) ∧ Aside0 (Below w.heap.size w wc))
        case first => as_aux_lemma =>
          have H := HC10.out
          clear HC10
          by_cases c11 : x13_1 < (l2.length : Int)
          · rw [if_pos c11] at H
            have c11b0 : decide (x13_1 < (l2.length : Int)) = true := decide_eq_true c11
            clear c11
            (first | rw [c11b0] | (simp only [i64_w, i32_w]; rw [c11b0]) | skip)
            by_cases c12 : 0 ≤ x13_1
            · rw [if_pos c12] at H
              have c12b0 : decide (0 ≤ x13_1) = true := decide_eq_true c12
              clear c12
              have H' := Aside0.mk H
              clear H
              have p186 : 0 ≤ (x13_1 : Int) := of_decide_eq_true (by first | (with_reducible assumption) | assumption)
              have q186 : x13_1 < (l2.length : Int) := of_decide_eq_true (by first | (with_reducible assumption) | assumption)
              obtain ⟨ad186, e186, hx186_0⟩ := Kd.at_int HR2.out x13_1 p186 q186
              cases e186
              replace hx186_0 := (HB.out.cell (World.block_lt_of_cell? w _ hx186_0)).trans hx186_0
              replace p186 := eq_true p186
              replace q186 := eq_true q186
              go_wp2
              go_meet
              case rel => exact ⟨_, (rd l2 x13_1), (by first | rfl | (simp; done) | (simp [*]; done)), H', ⟨by have := HK1.out; first | omega | exact Nat.le_refl _⟩, ⟨by (with_reducible repeat (first | apply Kd.R_alloc | apply Kd.R_drewN | apply Kd.R_drew)); exact HO_12.out⟩, ⟨by (with_reducible repeat (first | refine blk_drewN ?_ _ | refine blk_drew ?_ | refine blk_alloc ?_ _)); exact BK184.out⟩, ⟨by repeat (first | (with_reducible first | exact HB.out | apply below_alloc | apply pw_below_drewN | apply below_drew1 | refine below_set ?_ GE184.out) | exact HB.out)⟩⟩
            · rw [if_neg c12] at H
              exact absurd H (by simp)
          · rw [if_neg c11] at H
            have c11b0 : decide (x13_1 < (l2.length : Int)) = false := decide_eq_false c11
            clear c11
            (first | rw [c11b0] | (simp only [i64_w, i32_w]; rw [c11b0]) | skip)
            have H' := Aside0.mk H
            clear H
            go_wp2
            go_meet
            case rel => exact ⟨_, (0), (by first | rfl | (simp; done) | (simp [*]; done)), H', ⟨by have := HK1.out; first | omega | exact Nat.le_refl _⟩, ⟨by (with_reducible repeat (first | apply Kd.R_alloc | apply Kd.R_drewN | apply Kd.R_drew)); exact HO_12.out⟩, ⟨by (with_reducible repeat (first | refine blk_drewN ?_ _ | refine blk_drew ?_ | refine blk_alloc ?_ _)); exact BK184.out⟩, ⟨by repeat (first | (with_reducible first | exact HB.out | apply below_alloc | apply pw_below_drewN | apply below_drew1 | refine below_set ?_ GE184.out) | exact HB.out)⟩⟩
        case rest => as_aux_lemma =>
          clear HC10
          (try clear c1); (try clear p1); (try clear q1); (try clear hx1); (try clear c2); (try clear p2); (try clear c5); (try clear c9); (try clear c9b0); (try clear c11); (try clear c11b0); (try clear c12); (try clear c12b0); (try clear hx186_0); (try clear p186); (try clear p2); (try clear q186)
          obtain ⟨kq, x14_9, rfl, HA, HJ9, HO_12, BK184, HB⟩ := hcut
          cases kq with
          | zero => exact absurd HA.out (by simp [reedpenref26_Keys.j1])
          | succ kj9 =>
            have H := HA.out
            clear HA
            simp only [reedpenref26_Keys.j1] at H
            have HC13 := Aside0.mk H
            clear H
            go_upto_region 9 with (fail)
            go_cut [41] (fun v41 wc => ∃ (kq : Nat) (x41_12 : Bool), v41 = .bool x41_12 ∧ Aside0 (reedpenref26_Keys.j2 kq l2 a3 a4 t185 x12_1 x13_1 x14_9 x41_12 a0_0 a0_1 a0_2 a0_3 = some r) ∧ Aside0 (kq ≤ kj9) ∧ Aside0 (Kd.R (Kd.int .i64) 3 wc w.heap.size (fun _ => True) u12 x12_1) ∧ Aside0 (wc.heap[gb184]? = some (.cells #[.int .i64 a0_0, .string a0_1, .bool a0_2, .int .i64 a0_3] 23 (0, 0))) ∧ Aside0 (Below w.heap.size w wc))
            case first => as_aux_lemma =>
              have H := HC13.out
              clear HC13
              by_cases c14 : a4 < 0
              · rw [if_pos c14] at H
                have c14b0 : decide (a4 < 0) = true := decide_eq_true c14
                clear c14
                (first | rw [c14b0] | (simp only [i64_w, i32_w]; rw [c14b0]) | skip)
                have H' := Aside0.mk H
                clear H
                go_wp2
                go_meet
                case rel => exact ⟨_, (true), (by first | rfl | (simp; done) | (simp [*]; done)), H', ⟨by have := HK1.out; have := HJ9.out; first | omega | exact Nat.le_refl _⟩, ⟨by (with_reducible repeat (first | apply Kd.R_alloc | apply Kd.R_drewN | apply Kd.R_drew)); exact HO_12.out⟩, ⟨by (with_reducible repeat (first | refine blk_drewN ?_ _ | refine blk_drew ?_ | refine blk_alloc ?_ _)); exact BK184.out⟩, ⟨by repeat (first | (with_reducible first | exact HB.out | apply below_alloc | apply pw_below_drewN | apply below_drew1 | refine below_set ?_ GE184.out) | exact HB.out)⟩⟩
              · rw [if_neg c14] at H
                have c14b0 : decide (a4 < 0) = false := decide_eq_false c14
                clear c14
                (first | rw [c14b0] | (simp only [i64_w, i32_w]; rw [c14b0]) | skip)
                have H' := Aside0.mk H
                clear H
                go_wp2
                go_meet
                case rel => exact ⟨_, (decide (a4 ≥ (t185.size : Int))), (by first | rfl | (simp; done) | (simp [*]; done)), H', ⟨by have := HK1.out; have := HJ9.out; first | omega | exact Nat.le_refl _⟩, ⟨by (with_reducible repeat (first | apply Kd.R_alloc | apply Kd.R_drewN | apply Kd.R_drew)); exact HO_12.out⟩, ⟨by (with_reducible repeat (first | refine blk_drewN ?_ _ | refine blk_drew ?_ | refine blk_alloc ?_ _)); exact BK184.out⟩, ⟨by repeat (first | (with_reducible first | exact HB.out | apply below_alloc | apply pw_below_drewN | apply below_drew1 | refine below_set ?_ GE184.out) | exact HB.out)⟩⟩
            case rest => as_aux_lemma =>
              clear HC13
              (try clear c1); (try clear p1); (try clear q1); (try clear hx1); (try clear c2); (try clear p2); (try clear c5); (try clear c9); (try clear c9b0); (try clear c11); (try clear c11b0); (try clear c12); (try clear c12b0); (try clear c14); (try clear c14b0); (try clear hx186_0); (try clear p1); (try clear p186); (try clear p2); (try clear q1); (try clear q186)
              obtain ⟨kq, x41_12, rfl, HA, HJ12, HO_12, BK184, HB⟩ := hcut
              cases kq with
              | zero => exact absurd HA.out (by simp [reedpenref26_Keys.j2])
              | succ kj12 =>
                have H := HA.out
                clear HA
                simp only [reedpenref26_Keys.j2] at H
                by_cases c15 : x41_12 = true
                · subst c15
                  have H1 : (if x12_1.length < 17592186044416 then (reedpenref26_Keys.l0 kj12 l2 a3 a4 t185 (x12_1 ++ [3]) (wrap64 (x13_1 + 1)) a0_0 a0_1 a0_2 a0_3) else (none)) = some r := by rw [if_pos rfl] at H; exact H
                  clear H
                  have H := H1
                  clear H1
                  by_cases c16 : x12_1.length < 17592186044416
                  · rw [if_pos c16] at H
                    have LMc16 := Aside0.mk c16
                    clear c16
                    obtain ⟨y187, hy187⟩ : ∃ y_ : List Int, y_ = (x12_1 ++ [3]) := ⟨_, rfl⟩
                    replace H : (reedpenref26_Keys.l0 kj12 l2 a3 a4 t185 y187 (wrap64 (x13_1 + 1)) a0_0 a0_1 a0_2 a0_3) = some r := by first | (rw [hy187]; with_reducible exact H) | (have H2_ := (Option.bind_some _ _).symm.trans H; rw [hy187]; with_reducible exact H2_) | (have H2_ := (Option.bind_some _ _).symm.trans H; with_reducible exact H2_) | with_reducible exact H | (rw [hy187]; exact H) | exact H
                    have Ny187 := Aside0.mk hy187
                    clear hy187
                    have H' := Aside0.mk H
                    clear H
                    go_wp2_with (first | ((with_reducible refine gate_builtin (b := .append) (xs := #[.tmp 42, .tmp 43]) rfl ?_); (try (refine gate_guard (by rfl) ?_; dsimp only)); at_builtin; refine Kd.R_append (Kd.int .i64) (w0 := w) w.heap.size rfl (.tmp 42) (.tmp 43) 24 3 (.int .i64 0) 8 rfl Try.underlying24 info3 rfl (by decide) (by omega) u12 x12_1 3 [.int .i64 3] (fun _ => True) (fun _ => False) rfl rfl ?aP (fun _ hk => hk.elim) ?aF ?aO ?aB ?aS ?aL ?_; (case aP => exact rfl); (case aB => exact (by repeat (first | (with_reducible first | exact HB.out | apply below_alloc | apply pw_below_drewN | apply below_drew1 | refine below_set ?_ GE184.out) | exact HB.out))); (case aF => exact (fun _ _ => trivial)); (case aO => exact (by (with_reducible repeat (first | apply Kd.R_alloc | apply Kd.R_drewN | apply Kd.R_drew)); exact HO_12.out)); (case aS => exact (below_size (by repeat (first | (with_reducible first | exact HB.out | apply below_alloc | apply pw_below_drewN | apply below_drew1 | refine below_set ?_ GE184.out) | exact HB.out)))); (case aL => have := LMc16.out; omega); intro v188 w17 ho hb hg hat; rw [← Ny187.out] at ho; have n0_ := Aside0.mk (blk_grown (g := gb184) (o := .cells #[.int .i64 a0_0, .string a0_1, .bool a0_2, .int .i64 a0_3] 23 (0, 0)) (by (with_reducible repeat (first | refine blk_drewN ?_ _ | refine blk_drew ?_ | refine blk_alloc ?_ _)); exact BK184.out) hg ((by first | exact Kd.R_ne HO_12.out BK184.out (by decide) | exact Kd.R_away HO_12.out (fun _ hk => hk.2) | exact Kd.R_away HO_12.out (fun _ hk => hk)))); have n1_ := Aside0.mk (hb); have n2_ := Aside0.mk (ho); clear BK184; clear HB; clear HO_12; have BK184 := n0_; have HB := n1_; have HO189 := n2_; clear n0_ n1_ n2_; clear ho hb hg hat))
                    go_roundg kj12
                    case measure => have := HK1.out; have := HJ9.out; have := HJ12.out; omega
                    case rel => exact ⟨(y187), (wrap64 (x13_1 + 1)), (by first | rfl | (simp; done) | (simp [*]; done)), H', ⟨by have := HK1.out; have := HJ9.out; have := HJ12.out; omega⟩, ⟨by (with_reducible repeat (first | apply Kd.R_alloc | apply Kd.R_drewN | apply Kd.R_drew)); exact HO189.out⟩, ⟨by (with_reducible repeat (first | refine blk_drewN ?_ _ | refine blk_drew ?_ | refine blk_alloc ?_ _)); exact BK184.out⟩, ⟨by repeat (first | (with_reducible first | exact HB.out | apply below_alloc | apply pw_below_drewN | apply below_drew1 | refine below_set ?_ GE184.out) | exact HB.out)⟩⟩
                  · rw [if_neg c16] at H
                    exact absurd H (by simp)
                · replace c15 := Bool.eq_false_iff.mpr c15
                  subst c15
                  have H1 : (reedpenref26_Keys.l1 kj12 l2 a3 a4 t185 x12_1 x13_1 x14_9 (decide (x13_1 ≥ a4)) (wrap64 (a4 + 1)) a0_0 a0_1 a0_2 a0_3) = some r := by rw [if_neg (show ¬ (false = true) by decide)] at H; exact H
                  clear H
                  have H := H1
                  clear H1
                  have H' := Aside0.mk H
                  clear H
                  go_wp2
                  go_loopg [15, 16] kj12 (fun kq v15 v16 w' => ∃ (x15_4 : Bool) (x16_4 : Int), v15 = .bool x15_4 ∧ v16 = .int .i64 x16_4 ∧ Aside0 (reedpenref26_Keys.l1 kq l2 a3 a4 t185 x12_1 x13_1 x14_9 x15_4 x16_4 a0_0 a0_1 a0_2 a0_3 = some r) ∧ Aside0 (kq ≤ kj12) ∧ Aside0 (Kd.R (Kd.int .i64) 3 w' w.heap.size (fun _ => True) u12 x12_1) ∧ Aside0 (w'.heap[gb184]? = some (.cells #[.int .i64 a0_0, .string a0_1, .bool a0_2, .int .i64 a0_3] 23 (0, 0))) ∧ Aside0 (Below w.heap.size w w'))
                  case atStart => exact ⟨(decide (x13_1 ≥ a4)), (wrap64 (a4 + 1)), (by first | rfl | (simp; done) | (simp [*]; done)), (by first | rfl | (simp; done) | (simp [*]; done)), H', ⟨Nat.le_refl _⟩, ⟨by (with_reducible repeat (first | apply Kd.R_alloc | apply Kd.R_drewN | apply Kd.R_drew)); exact HO_12.out⟩, ⟨by (with_reducible repeat (first | refine blk_drewN ?_ _ | refine blk_drew ?_ | refine blk_alloc ?_ _)); exact BK184.out⟩, ⟨by repeat (first | (with_reducible first | exact HB.out | apply below_alloc | apply pw_below_drewN | apply below_drew1 | refine below_set ?_ GE184.out) | exact HB.out)⟩⟩
                  case round =>
                    clear H'
                    (try clear c1); (try clear p1); (try clear q1); (try clear hx1); (try clear c2); (try clear p2); (try clear c5); (try clear p6); (try clear c9); (try clear c9b0); (try clear c11); (try clear c11b0); (try clear c12); (try clear c12b0); (try clear c14); (try clear c14b0); (try clear c15); (try clear c16); (try clear hx186_0); (try clear p1); (try clear p186); (try clear p2); (try clear q1); (try clear q186)
                    obtain ⟨x15_4, x16_4, rfl, rfl, HA, HK4, HO_12, BK184, HB⟩ := hrel
                    cases gk with
                    | zero => exact absurd HA.out (by simp [reedpenref26_Keys.l1])
                    | succ k4 =>
                      have H := HA.out
                      clear HA
                      simp only [reedpenref26_Keys.l1] at H
                      by_cases c18 : x16_4 ≤ x13_1
                      · rw [if_pos c18] at H
                        have c18b0 : decide (x16_4 ≤ x13_1) = true := decide_eq_true c18
                        clear c18
                        by_cases c19 : x15_4 = true
                        · subst c19
                          have H1 : (if 0 ≤ x16_4 then (if x16_4 < (t185.size : Int) then (reedpenref26_Keys.l1 k4 l2 a3 a4 t185 x12_1 x13_1 x14_9 ((bt t185 x16_4) == 78) (wrap64 (x16_4 + 1)) a0_0 a0_1 a0_2 a0_3) else (none)) else (none)) = some r := by rw [if_pos rfl] at H; exact H
                          clear H
                          have H := H1
                          clear H1
                          by_cases c20 : 0 ≤ x16_4
                          · rw [if_pos c20] at H
                            have c20b0 : decide (0 ≤ x16_4) = true := decide_eq_true c20
                            clear c20
                            by_cases c21 : x16_4 < (t185.size : Int)
                            · rw [if_pos c21] at H
                              have c21b0 : decide (x16_4 < (t185.size : Int)) = true := decide_eq_true c21
                              clear c21
                              have H' := Aside0.mk H
                              clear H
                              have p22 : 0 ≤ (x16_4 : Int) := of_decide_eq_true (by first | (with_reducible assumption) | assumption)
                              have q22 : x16_4 < (t185.size : Int) := of_decide_eq_true (by first | (with_reducible assumption) | assumption)
                              have hx22 := bt_at t185 x16_4
                              replace p22 := eq_true p22
                              replace q22 := eq_true q22
                              go_wp2
                              go_roundg k4
                              case measure => have := HK1.out; have := HJ9.out; have := HJ12.out; have := HK4.out; omega
                              case rel => exact ⟨(((bt t185 x16_4) == 78)), (wrap64 (x16_4 + 1)), (by first | rfl | (simp; done) | (simp [*]; done)), (by first | rfl | (simp; done) | (simp [*]; done)), H', ⟨by have := HK1.out; have := HJ9.out; have := HJ12.out; have := HK4.out; omega⟩, ⟨by (with_reducible repeat (first | apply Kd.R_alloc | apply Kd.R_drewN | apply Kd.R_drew)); exact HO_12.out⟩, ⟨by (with_reducible repeat (first | refine blk_drewN ?_ _ | refine blk_drew ?_ | refine blk_alloc ?_ _)); exact BK184.out⟩, ⟨by repeat (first | (with_reducible first | exact HB.out | apply below_alloc | apply pw_below_drewN | apply below_drew1 | refine below_set ?_ GE184.out) | exact HB.out)⟩⟩
                            · rw [if_neg c21] at H
                              exact absurd H (by simp)
                          · rw [if_neg c20] at H
                            exact absurd H (by simp)
                        · replace c19 := Bool.eq_false_iff.mpr c19
                          subst c19
                          have H1 : (reedpenref26_Keys.l1 k4 l2 a3 a4 t185 x12_1 x13_1 x14_9 false (wrap64 (x16_4 + 1)) a0_0 a0_1 a0_2 a0_3) = some r := by rw [if_neg (show ¬ (false = true) by decide)] at H; exact H
                          clear H
                          have H := H1
                          clear H1
                          have H' := Aside0.mk H
                          clear H
                          go_wp2
                          go_roundg k4
                          case measure => have := HK1.out; have := HJ9.out; have := HJ12.out; have := HK4.out; omega
                          case rel => exact ⟨(false), (wrap64 (x16_4 + 1)), (by first | rfl | (simp; done) | (simp [*]; done)), (by first | rfl | (simp; done) | (simp [*]; done)), H', ⟨by have := HK1.out; have := HJ9.out; have := HJ12.out; have := HK4.out; omega⟩, ⟨by (with_reducible repeat (first | apply Kd.R_alloc | apply Kd.R_drewN | apply Kd.R_drew)); exact HO_12.out⟩, ⟨by (with_reducible repeat (first | refine blk_drewN ?_ _ | refine blk_drew ?_ | refine blk_alloc ?_ _)); exact BK184.out⟩, ⟨by repeat (first | (with_reducible first | exact HB.out | apply below_alloc | apply pw_below_drewN | apply below_drew1 | refine below_set ?_ GE184.out) | exact HB.out)⟩⟩
                      · rw [if_neg c18] at H
                        have c18b0 : decide (x16_4 ≤ x13_1) = false := decide_eq_false c18
                        clear c18
                        replace H := Option.bind_eq_some_iff.mp H
                        obtain ⟨t190, A230, H⟩ := H
                        replace H : (if t190 = true then (reedpenref26_Keys.j4 k4 l2 a3 a4 t185 x12_1 x13_1 x14_9 x15_4 4 a0_0 a0_1 a0_2 a0_3) else (reedpenref26_Keys.j4 k4 l2 a3 a4 t185 x12_1 x13_1 x14_9 x15_4 5 a0_0 a0_1 a0_2 a0_3)) = some r := H
                        have A23 := Aside0.mk A230
                        clear A230
                        have HC24 := Aside0.mk H
                        clear H
                        go_upto_if 64 with (first | ((with_reducible refine gate_callee (f := 57) rfl ?_); refine goesL_ (some 64) rfl rfl Try.func57 (by kernel_rfl) rfl #[.string t185, .int .i64 x13_1, .string (⟨#[84, 71, 88]⟩ : ByteArray)] rfl (by (try simp only [List.map_toArray, List.map_cons, List.map_nil]); first | done | rfl | (simp only [List.length_drop, List.length_take]; rfl)) ?_; (with_reducible refine (reedpenref26_In.calls k4 t185 x13_1 (⟨#[84, 71, 88]⟩ : ByteArray) t190 _ A23.out).mono ?_); rintro e w' ⟨rfl, ⟨nd, rfl⟩⟩; refine ⟨_, rfl, ?_⟩))
                        (try simp only [Act.put, List.setIfInBounds_toArray, List.set_cons_zero, List.set_cons_succ])
                        go_cut [17] (fun v17 wc => ∃ (kq : Nat) (x17_23 : Int), v17 = .int .i64 x17_23 ∧ Aside0 (reedpenref26_Keys.j4 kq l2 a3 a4 t185 x12_1 x13_1 x14_9 x15_4 x17_23 a0_0 a0_1 a0_2 a0_3 = some r) ∧ Aside0 (kq ≤ k4) ∧ Aside0 (Kd.R (Kd.int .i64) 3 wc w.heap.size (fun _ => True) u12 x12_1) ∧ Aside0 (wc.heap[gb184]? = some (.cells #[.int .i64 a0_0, .string a0_1, .bool a0_2, .int .i64 a0_3] 23 (0, 0))) ∧ Aside0 (Below w.heap.size w wc))
                        case first => as_aux_lemma =>
                          have H := HC24.out
                          clear HC24
                          by_cases c25 : t190 = true
                          · subst c25
                            have H1 : (reedpenref26_Keys.j4 k4 l2 a3 a4 t185 x12_1 x13_1 x14_9 x15_4 4 a0_0 a0_1 a0_2 a0_3) = some r := by rw [if_pos rfl] at H; exact H
                            clear H
                            have H := H1
                            clear H1
                            have H' := Aside0.mk H
                            clear H
                            go_wp2
                            go_meet
                            case rel => exact ⟨_, (4), (by first | rfl | (simp; done) | (simp [*]; done)), H', ⟨by have := HK1.out; have := HJ9.out; have := HJ12.out; have := HK4.out; first | omega | exact Nat.le_refl _⟩, ⟨by (with_reducible repeat (first | apply Kd.R_alloc | apply Kd.R_drewN | apply Kd.R_drew)); exact HO_12.out⟩, ⟨by (with_reducible repeat (first | refine blk_drewN ?_ _ | refine blk_drew ?_ | refine blk_alloc ?_ _)); exact BK184.out⟩, ⟨by repeat (first | (with_reducible first | exact HB.out | apply below_alloc | apply pw_below_drewN | apply below_drew1 | refine below_set ?_ GE184.out) | exact HB.out)⟩⟩
                          · replace c25 := Bool.eq_false_iff.mpr c25
                            subst c25
                            have H1 : (reedpenref26_Keys.j4 k4 l2 a3 a4 t185 x12_1 x13_1 x14_9 x15_4 5 a0_0 a0_1 a0_2 a0_3) = some r := by rw [if_neg (show ¬ (false = true) by decide)] at H; exact H
                            clear H
                            have H := H1
                            clear H1
                            have H' := Aside0.mk H
                            clear H
                            go_wp2
                            go_meet
                            case rel => exact ⟨_, (5), (by first | rfl | (simp; done) | (simp [*]; done)), H', ⟨by have := HK1.out; have := HJ9.out; have := HJ12.out; have := HK4.out; first | omega | exact Nat.le_refl _⟩, ⟨by (with_reducible repeat (first | apply Kd.R_alloc | apply Kd.R_drewN | apply Kd.R_drew)); exact HO_12.out⟩, ⟨by (with_reducible repeat (first | refine blk_drewN ?_ _ | refine blk_drew ?_ | refine blk_alloc ?_ _)); exact BK184.out⟩, ⟨by repeat (first | (with_reducible first | exact HB.out | apply below_alloc | apply pw_below_drewN | apply below_drew1 | refine below_set ?_ GE184.out) | exact HB.out)⟩⟩
                        case rest => as_aux_lemma =>
                          clear HC24
                          (try clear c1); (try clear p1); (try clear q1); (try clear hx1); (try clear c2); (try clear p2); (try clear q2); (try clear hx2); (try clear c5); (try clear p6); (try clear c9); (try clear c9b0); (try clear c11); (try clear c11b0); (try clear c12); (try clear c12b0); (try clear c14); (try clear c14b0); (try clear c15); (try clear c16); (try clear c18); (try clear c18b0); (try clear p18); (try clear q18); (try clear hx18); (try clear c19); (try clear c20); (try clear c20b0); (try clear c21); (try clear c21b0); (try clear p22); (try clear q22); (try clear hx22); (try clear c25); (try clear hx186_0); (try clear p1); (try clear p186); (try clear p2); (try clear p22); (try clear p6); (try clear q1); (try clear q186); (try clear q22)
                          obtain ⟨kq, x17_23, rfl, HA, HJ23, HO_12, BK184, HB⟩ := hcut
                          cases kq with
                          | zero => exact absurd HA.out (by simp [reedpenref26_Keys.j4])
                          | succ kj23 =>
                            have H := HA.out
                            clear HA
                            simp only [reedpenref26_Keys.j4] at H
                            have HC26 := Aside0.mk H
                            clear H
                            go_upto_if 67 with (fail)
                            go_cut [17] (fun v17 wc => ∃ (kq : Nat) (x17_25 : Int), v17 = .int .i64 x17_25 ∧ Aside0 (reedpenref26_Keys.j5 kq l2 a3 a4 t185 x12_1 x13_1 x14_9 x15_4 x17_25 a0_0 a0_1 a0_2 a0_3 = some r) ∧ Aside0 (kq ≤ kj23) ∧ Aside0 (Kd.R (Kd.int .i64) 3 wc w.heap.size (fun _ => True) u12 x12_1) ∧ Aside0 (wc.heap[gb184]? = some (.cells #[.int .i64 a0_0, .string a0_1, .bool a0_2, .int .i64 a0_3] 23 (0, 0))) ∧ Aside0 (Below w.heap.size w wc))
                            case first => as_aux_lemma =>
                              have H := HC26.out
                              clear HC26
                              by_cases c27 : x13_1 < a4
                              · rw [if_pos c27] at H
                                have c27b0 : decide (x13_1 < a4) = true := decide_eq_true c27
                                clear c27
                                (first | rw [c27b0] | (simp only [i64_w, i32_w]; rw [c27b0]) | skip)
                                have H' := Aside0.mk H
                                clear H
                                go_wp2
                                go_meet
                                case rel => exact ⟨_, (2), (by first | rfl | (simp; done) | (simp [*]; done)), H', ⟨by have := HK1.out; have := HJ9.out; have := HJ12.out; have := HK4.out; have := HJ23.out; first | omega | exact Nat.le_refl _⟩, ⟨by (with_reducible repeat (first | apply Kd.R_alloc | apply Kd.R_drewN | apply Kd.R_drew)); exact HO_12.out⟩, ⟨by (with_reducible repeat (first | refine blk_drewN ?_ _ | refine blk_drew ?_ | refine blk_alloc ?_ _)); exact BK184.out⟩, ⟨by repeat (first | (with_reducible first | exact HB.out | apply below_alloc | apply pw_below_drewN | apply below_drew1 | refine below_set ?_ GE184.out) | exact HB.out)⟩⟩
                              · rw [if_neg c27] at H
                                have c27b0 : decide (x13_1 < a4) = false := decide_eq_false c27
                                clear c27
                                (first | rw [c27b0] | (simp only [i64_w, i32_w]; rw [c27b0]) | skip)
                                have H' := Aside0.mk H
                                clear H
                                go_wp2
                                go_meet
                                case rel => exact ⟨_, (x17_23), (by first | rfl | (simp; done) | (simp [*]; done)), H', ⟨by have := HK1.out; have := HJ9.out; have := HJ12.out; have := HK4.out; have := HJ23.out; first | omega | exact Nat.le_refl _⟩, ⟨by (with_reducible repeat (first | apply Kd.R_alloc | apply Kd.R_drewN | apply Kd.R_drew)); exact HO_12.out⟩, ⟨by (with_reducible repeat (first | refine blk_drewN ?_ _ | refine blk_drew ?_ | refine blk_alloc ?_ _)); exact BK184.out⟩, ⟨by repeat (first | (with_reducible first | exact HB.out | apply below_alloc | apply pw_below_drewN | apply below_drew1 | refine below_set ?_ GE184.out) | exact HB.out)⟩⟩
                            case rest => as_aux_lemma =>
                              clear HC26
                              (try clear c1); (try clear p1); (try clear q1); (try clear hx1); (try clear c2); (try clear p2); (try clear q2); (try clear hx2); (try clear c5); (try clear p6); (try clear c9); (try clear c9b0); (try clear c11); (try clear c11b0); (try clear c12); (try clear c12b0); (try clear c14); (try clear c14b0); (try clear c15); (try clear c16); (try clear c18); (try clear c18b0); (try clear p18); (try clear q18); (try clear hx18); (try clear c19); (try clear c20); (try clear c20b0); (try clear c21); (try clear c21b0); (try clear p22); (try clear q22); (try clear hx22); (try clear c25); (try clear c27); (try clear c27b0); (try clear hx186_0); (try clear p1); (try clear p18); (try clear p186); (try clear p2); (try clear p22); (try clear p6); (try clear q1); (try clear q18); (try clear q186); (try clear q2); (try clear q22)
                              obtain ⟨kq, x17_25, rfl, HA, HJ25, HO_12, BK184, HB⟩ := hcut
                              cases kq with
                              | zero => exact absurd HA.out (by simp [reedpenref26_Keys.j5])
                              | succ kj25 =>
                                have H := HA.out
                                clear HA
                                simp only [reedpenref26_Keys.j5] at H
                                have HC28 := Aside0.mk H
                                clear H
                                go_upto_if 68 with (fail)
                                go_cut [17] (fun v17 wc => ∃ (kq : Nat) (x17_27 : Int), v17 = .int .i64 x17_27 ∧ Aside0 (reedpenref26_Keys.j6 kq l2 a3 a4 t185 x12_1 x13_1 x14_9 x17_27 a0_0 a0_1 a0_2 a0_3 = some r) ∧ Aside0 (kq ≤ kj25) ∧ Aside0 (Kd.R (Kd.int .i64) 3 wc w.heap.size (fun _ => True) u12 x12_1) ∧ Aside0 (wc.heap[gb184]? = some (.cells #[.int .i64 a0_0, .string a0_1, .bool a0_2, .int .i64 a0_3] 23 (0, 0))) ∧ Aside0 (Below w.heap.size w wc))
                                case first => as_aux_lemma =>
                                  have H := HC28.out
                                  clear HC28
                                  by_cases c29 : x15_4 = true
                                  · subst c29
                                    have H1 : (reedpenref26_Keys.j6 kj25 l2 a3 a4 t185 x12_1 x13_1 x14_9 3 a0_0 a0_1 a0_2 a0_3) = some r := by rw [if_pos rfl] at H; exact H
                                    clear H
                                    have H := H1
                                    clear H1
                                    have H' := Aside0.mk H
                                    clear H
                                    go_wp2
                                    go_meet
                                    case rel => exact ⟨_, (3), (by first | rfl | (simp; done) | (simp [*]; done)), H', ⟨by have := HK1.out; have := HJ9.out; have := HJ12.out; have := HK4.out; have := HJ23.out; have := HJ25.out; first | omega | exact Nat.le_refl _⟩, ⟨by (with_reducible repeat (first | apply Kd.R_alloc | apply Kd.R_drewN | apply Kd.R_drew)); exact HO_12.out⟩, ⟨by (with_reducible repeat (first | refine blk_drewN ?_ _ | refine blk_drew ?_ | refine blk_alloc ?_ _)); exact BK184.out⟩, ⟨by repeat (first | (with_reducible first | exact HB.out | apply below_alloc | apply pw_below_drewN | apply below_drew1 | refine below_set ?_ GE184.out) | exact HB.out)⟩⟩
                                  · replace c29 := Bool.eq_false_iff.mpr c29
                                    subst c29
                                    have H1 : (reedpenref26_Keys.j6 kj25 l2 a3 a4 t185 x12_1 x13_1 x14_9 x17_25 a0_0 a0_1 a0_2 a0_3) = some r := by rw [if_neg (show ¬ (false = true) by decide)] at H; exact H
                                    clear H
                                    have H := H1
                                    clear H1
                                    have H' := Aside0.mk H
                                    clear H
                                    go_wp2
                                    go_meet
                                    case rel => exact ⟨_, (x17_25), (by first | rfl | (simp; done) | (simp [*]; done)), H', ⟨by have := HK1.out; have := HJ9.out; have := HJ12.out; have := HK4.out; have := HJ23.out; have := HJ25.out; first | omega | exact Nat.le_refl _⟩, ⟨by (with_reducible repeat (first | apply Kd.R_alloc | apply Kd.R_drewN | apply Kd.R_drew)); exact HO_12.out⟩, ⟨by (with_reducible repeat (first | refine blk_drewN ?_ _ | refine blk_drew ?_ | refine blk_alloc ?_ _)); exact BK184.out⟩, ⟨by repeat (first | (with_reducible first | exact HB.out | apply below_alloc | apply pw_below_drewN | apply below_drew1 | refine below_set ?_ GE184.out) | exact HB.out)⟩⟩
                                case rest => as_aux_lemma =>
                                  clear HC28
                                  (try clear c1); (try clear p1); (try clear q1); (try clear hx1); (try clear c2); (try clear p2); (try clear q2); (try clear hx2); (try clear c5); (try clear p6); (try clear c9); (try clear c9b0); (try clear c11); (try clear c11b0); (try clear c12); (try clear c12b0); (try clear c14); (try clear c14b0); (try clear c15); (try clear c16); (try clear c18); (try clear c18b0); (try clear p18); (try clear q18); (try clear hx18); (try clear c19); (try clear c20); (try clear c20b0); (try clear c21); (try clear c21b0); (try clear p22); (try clear q22); (try clear hx22); (try clear c25); (try clear c27); (try clear c27b0); (try clear c29); (try clear hx186_0); (try clear p1); (try clear p18); (try clear p186); (try clear p2); (try clear p22); (try clear p6); (try clear q1); (try clear q18); (try clear q186); (try clear q2); (try clear q22)
                                  obtain ⟨kq, x17_27, rfl, HA, HJ27, HO_12, BK184, HB⟩ := hcut
                                  cases kq with
                                  | zero => exact absurd HA.out (by simp [reedpenref26_Keys.j6])
                                  | succ kj27 =>
                                    have H := HA.out
                                    clear HA
                                    simp only [reedpenref26_Keys.j6] at H
                                    have HC30 := Aside0.mk H
                                    clear H
                                    go_upto_region 23 with (fail)
                                    go_cut [115] (fun v115 wc => ∃ (kq : Nat) (x115_29 : Bool), v115 = .bool x115_29 ∧ Aside0 (reedpenref26_Keys.j7 kq l2 a3 a4 t185 x12_1 x13_1 x14_9 x17_27 x115_29 a0_0 a0_1 a0_2 a0_3 = some r) ∧ Aside0 (kq ≤ kj27) ∧ Aside0 (Kd.R (Kd.int .i64) 3 wc w.heap.size (fun _ => True) u12 x12_1) ∧ Aside0 (wc.heap[gb184]? = some (.cells #[.int .i64 a0_0, .string a0_1, .bool a0_2, .int .i64 a0_3] 23 (0, 0))) ∧ Aside0 (Below w.heap.size w wc))
                                    case first => as_aux_lemma =>
                                      have H := HC30.out
                                      clear HC30
                                      by_cases c31 : a0_0 = 3
                                      · rw [if_pos c31] at H
                                        have c31b0 : (a0_0 == 3) = true := beq_iff_eq.mpr c31
                                        have c31b1 : (a0_0 != 3) = false := bne_eq_false_iff_eq.mpr c31
                                        clear c31
                                        (first | rw [c31b0] | (simp only [i64_w, i32_w]; rw [c31b0]) | skip)
                                        by_cases c32 : 0 ≤ x13_1
                                        · rw [if_pos c32] at H
                                          have c32b0 : decide (0 ≤ x13_1) = true := decide_eq_true c32
                                          clear c32
                                          by_cases c33 : x13_1 < (t185.size : Int)
                                          · rw [if_pos c33] at H
                                            have c33b0 : decide (x13_1 < (t185.size : Int)) = true := decide_eq_true c33
                                            clear c33
                                            by_cases c35 : (bt t185 x13_1) = 75
                                            · rw [if_pos c35] at H
                                              have c35b0 : ((bt t185 x13_1) == 75) = true := beq_iff_eq.mpr c35
                                              have c35b1 : ((bt t185 x13_1) != 75) = false := bne_eq_false_iff_eq.mpr c35
                                              clear c35
                                              by_cases c36 : x13_1 > a4
                                              · rw [if_pos c36] at H
                                                have c36b0 : decide (a4 < x13_1) = true := decide_eq_true c36
                                                clear c36
                                                by_cases c37 : (wrap64 (x13_1 + 1)) < (t185.size : Int)
                                                · rw [if_pos c37] at H
                                                  have c37b0 : decide ((wrap64 (x13_1 + 1)) < (t185.size : Int)) = true := decide_eq_true c37
                                                  clear c37
                                                  obtain ⟨ji38, hji38⟩ : ∃ j_ : Int, (wrap64 (x13_1 + 1)) = j_ := ⟨_, rfl⟩
                                                  replace H : (if 0 ≤ (ji38) then (if (bt t185 (ji38)) = 82 then (reedpenref26_Keys.j7 kj27 l2 a3 a4 t185 x12_1 x13_1 x14_9 x17_27 true a0_0 a0_1 a0_2 a0_3) else (if (bt t185 x13_1) = 82 then (if (wrap64 (x13_1 - 1)) > a4 then (if 0 ≤ (wrap64 (x13_1 - 1)) then (if (wrap64 (x13_1 - 1)) < (t185.size : Int) then (reedpenref26_Keys.j7 kj27 l2 a3 a4 t185 x12_1 x13_1 x14_9 x17_27 ((bt t185 (wrap64 (x13_1 - 1))) == 75) a0_0 a0_1 a0_2 a0_3) else (none)) else (none)) else (reedpenref26_Keys.j7 kj27 l2 a3 a4 t185 x12_1 x13_1 x14_9 x17_27 false a0_0 a0_1 a0_2 a0_3)) else (reedpenref26_Keys.j7 kj27 l2 a3 a4 t185 x12_1 x13_1 x14_9 x17_27 false a0_0 a0_1 a0_2 a0_3))) else (none)) = some r := by first | (rw [hji38] at H; exact H) | (simp only [hji38] at H ⊢; exact H)
                                                  (try rw [hji38] at c37b0)
                                                  have hji38w : (IntKind.i64.wrap (x13_1 + 1)) = ji38 := (i64_w _).trans hji38
                                                  by_cases c39 : 0 ≤ (ji38)
                                                  · rw [if_pos c39] at H
                                                    have c39b0 : decide (0 ≤ (ji38)) = true := decide_eq_true c39
                                                    clear c39
                                                    by_cases c41 : (bt t185 (ji38)) = 82
                                                    · rw [if_pos c41] at H
                                                      have c41b0 : ((bt t185 (ji38)) == 82) = true := beq_iff_eq.mpr c41
                                                      have c41b1 : ((bt t185 (ji38)) != 82) = false := bne_eq_false_iff_eq.mpr c41
                                                      clear c41
                                                      have H' := Aside0.mk H
                                                      clear H
                                                      have hcz42_0 : wc.cell? ⟨gb184, 0, none⟩ = some (.int .i64 a0_0) := (blk_cell BK184.out 0).trans rfl
                                                      have hcz42_1 : wc.cell? ⟨gb184, 1, none⟩ = some (.string a0_1) := (blk_cell BK184.out 1).trans rfl
                                                      have hcz42_2 : wc.cell? ⟨gb184, 2, none⟩ = some (.bool a0_2) := (blk_cell BK184.out 2).trans rfl
                                                      have hcz42_3 : wc.cell? ⟨gb184, 3, none⟩ = some (.int .i64 a0_3) := (blk_cell BK184.out 3).trans rfl
                                                      have hfz42_0 := blk_frozen BK184.out 0
                                                      have hfz42_1 := blk_frozen BK184.out 1
                                                      have hfz42_2 := blk_frozen BK184.out 2
                                                      have hfz42_3 := blk_frozen BK184.out 3
                                                      have p34 : 0 ≤ (x13_1 : Int) := of_decide_eq_true (by first | (with_reducible assumption) | assumption)
                                                      have q34 : x13_1 < (t185.size : Int) := of_decide_eq_true (by first | (with_reducible assumption) | assumption)
                                                      have hx34 := bt_at t185 x13_1
                                                      replace p34 := eq_true p34
                                                      replace q34 := eq_true q34
                                                      have p40 : 0 ≤ ((ji38) : Int) := of_decide_eq_true (by first | (with_reducible assumption) | assumption)
                                                      have q40 : (ji38) < (t185.size : Int) := of_decide_eq_true (by first | (with_reducible assumption) | assumption)
                                                      have hx40 := bt_at t185 (ji38)
                                                      replace p40 := eq_true p40
                                                      replace q40 := eq_true q40
                                                      go_wp2
                                                      go_meet
                                                      case rel => exact ⟨_, (true), (by first | rfl | (simp; done) | (simp [*]; done)), H', ⟨by have := HK1.out; have := HJ9.out; have := HJ12.out; have := HK4.out; have := HJ23.out; have := HJ25.out; have := HJ27.out; first | omega | exact Nat.le_refl _⟩, ⟨by (with_reducible repeat (first | apply Kd.R_alloc | apply Kd.R_drewN | apply Kd.R_drew)); exact HO_12.out⟩, ⟨by (with_reducible repeat (first | refine blk_drewN ?_ _ | refine blk_drew ?_ | refine blk_alloc ?_ _)); exact BK184.out⟩, ⟨by repeat (first | (with_reducible first | exact HB.out | apply below_alloc | apply pw_below_drewN | apply below_drew1 | refine below_set ?_ GE184.out) | exact HB.out)⟩⟩
                                                    · rw [if_neg c41] at H
                                                      have c41b0 : ((bt t185 (ji38)) == 82) = false := beq_eq_false_iff_ne.mpr c41
                                                      have c41b1 : ((bt t185 (ji38)) != 82) = true := bne_iff_ne.mpr c41
                                                      by_cases c44 : (bt t185 x13_1) = 82
                                                      · rw [if_pos c44] at H
                                                        have c44b0 : ((bt t185 x13_1) == 82) = true := beq_iff_eq.mpr c44
                                                        have c44b1 : ((bt t185 x13_1) != 82) = false := bne_eq_false_iff_eq.mpr c44
                                                        clear c44
                                                        by_cases c45 : (wrap64 (x13_1 - 1)) > a4
                                                        · rw [if_pos c45] at H
                                                          have c45b0 : decide (a4 < (wrap64 (x13_1 - 1))) = true := decide_eq_true c45
                                                          clear c45
                                                          obtain ⟨ji46, hji46⟩ : ∃ j_ : Int, (wrap64 (x13_1 - 1)) = j_ := ⟨_, rfl⟩
                                                          replace H : (if 0 ≤ (ji46) then (if (ji46) < (t185.size : Int) then (reedpenref26_Keys.j7 kj27 l2 a3 a4 t185 x12_1 x13_1 x14_9 x17_27 ((bt t185 (ji46)) == 75) a0_0 a0_1 a0_2 a0_3) else (none)) else (none)) = some r := by first | (rw [hji46] at H; exact H) | (simp only [hji46] at H ⊢; exact H)
                                                          (try rw [hji46] at c45b0)
                                                          have hji46w : (IntKind.i64.wrap (x13_1 - 1)) = ji46 := (i64_w _).trans hji46
                                                          by_cases c47 : 0 ≤ (ji46)
                                                          · rw [if_pos c47] at H
                                                            have c47b0 : decide (0 ≤ (ji46)) = true := decide_eq_true c47
                                                            clear c47
                                                            by_cases c48 : (ji46) < (t185.size : Int)
                                                            · rw [if_pos c48] at H
                                                              have c48b0 : decide ((ji46) < (t185.size : Int)) = true := decide_eq_true c48
                                                              clear c48
                                                              have H' := Aside0.mk H
                                                              clear H
                                                              have hcz50_0 : wc.cell? ⟨gb184, 0, none⟩ = some (.int .i64 a0_0) := (blk_cell BK184.out 0).trans rfl
                                                              have hcz50_1 : wc.cell? ⟨gb184, 1, none⟩ = some (.string a0_1) := (blk_cell BK184.out 1).trans rfl
                                                              have hcz50_2 : wc.cell? ⟨gb184, 2, none⟩ = some (.bool a0_2) := (blk_cell BK184.out 2).trans rfl
                                                              have hcz50_3 : wc.cell? ⟨gb184, 3, none⟩ = some (.int .i64 a0_3) := (blk_cell BK184.out 3).trans rfl
                                                              have hfz50_0 := blk_frozen BK184.out 0
                                                              have hfz50_1 := blk_frozen BK184.out 1
                                                              have hfz50_2 := blk_frozen BK184.out 2
                                                              have hfz50_3 := blk_frozen BK184.out 3
                                                              have p34 : 0 ≤ (x13_1 : Int) := of_decide_eq_true (by first | (with_reducible assumption) | assumption)
                                                              have q34 : x13_1 < (t185.size : Int) := of_decide_eq_true (by first | (with_reducible assumption) | assumption)
                                                              have hx34 := bt_at t185 x13_1
                                                              replace p34 := eq_true p34
                                                              replace q34 := eq_true q34
                                                              have p40 : 0 ≤ ((ji38) : Int) := of_decide_eq_true (by first | (with_reducible assumption) | assumption)
                                                              have q40 : (ji38) < (t185.size : Int) := of_decide_eq_true (by first | (with_reducible assumption) | assumption)
                                                              have hx40 := bt_at t185 (ji38)
                                                              replace p40 := eq_true p40
                                                              replace q40 := eq_true q40
                                                              have p43 : 0 ≤ (x13_1 : Int) := of_decide_eq_true (by first | (with_reducible assumption) | assumption)
                                                              have q43 : x13_1 < (t185.size : Int) := of_decide_eq_true (by first | (with_reducible assumption) | assumption)
                                                              have hx43 := bt_at t185 x13_1
                                                              replace p43 := eq_true p43
                                                              replace q43 := eq_true q43
                                                              have p49 : 0 ≤ ((ji46) : Int) := of_decide_eq_true (by first | (with_reducible assumption) | assumption)
                                                              have q49 : (ji46) < (t185.size : Int) := of_decide_eq_true (by first | (with_reducible assumption) | assumption)
                                                              have hx49 := bt_at t185 (ji46)
                                                              replace p49 := eq_true p49
                                                              replace q49 := eq_true q49
                                                              go_wp2
                                                              go_meet
                                                              case rel => exact ⟨_, (((bt t185 (ji46)) == 75)), (by first | rfl | (simp; done) | (simp only [← hji46] <;> (first | rfl | simp)) | (simp [*]; done)), H', ⟨by have := HK1.out; have := HJ9.out; have := HJ12.out; have := HK4.out; have := HJ23.out; have := HJ25.out; have := HJ27.out; first | omega | exact Nat.le_refl _⟩, ⟨by (with_reducible repeat (first | apply Kd.R_alloc | apply Kd.R_drewN | apply Kd.R_drew)); exact HO_12.out⟩, ⟨by (with_reducible repeat (first | refine blk_drewN ?_ _ | refine blk_drew ?_ | refine blk_alloc ?_ _)); exact BK184.out⟩, ⟨by repeat (first | (with_reducible first | exact HB.out | apply below_alloc | apply pw_below_drewN | apply below_drew1 | refine below_set ?_ GE184.out) | exact HB.out)⟩⟩
                                                            · rw [if_neg c48] at H
                                                              exact absurd H (by simp)
                                                          · rw [if_neg c47] at H
                                                            exact absurd H (by simp)
                                                        · rw [if_neg c45] at H
                                                          have c45b0 : decide (a4 < (wrap64 (x13_1 - 1))) = false := decide_eq_false c45
                                                          clear c45
                                                          have H' := Aside0.mk H
                                                          clear H
                                                          have hcz51_0 : wc.cell? ⟨gb184, 0, none⟩ = some (.int .i64 a0_0) := (blk_cell BK184.out 0).trans rfl
                                                          have hcz51_1 : wc.cell? ⟨gb184, 1, none⟩ = some (.string a0_1) := (blk_cell BK184.out 1).trans rfl
                                                          have hcz51_2 : wc.cell? ⟨gb184, 2, none⟩ = some (.bool a0_2) := (blk_cell BK184.out 2).trans rfl
                                                          have hcz51_3 : wc.cell? ⟨gb184, 3, none⟩ = some (.int .i64 a0_3) := (blk_cell BK184.out 3).trans rfl
                                                          have hfz51_0 := blk_frozen BK184.out 0
                                                          have hfz51_1 := blk_frozen BK184.out 1
                                                          have hfz51_2 := blk_frozen BK184.out 2
                                                          have hfz51_3 := blk_frozen BK184.out 3
                                                          have p34 : 0 ≤ (x13_1 : Int) := of_decide_eq_true (by first | (with_reducible assumption) | assumption)
                                                          have q34 : x13_1 < (t185.size : Int) := of_decide_eq_true (by first | (with_reducible assumption) | assumption)
                                                          have hx34 := bt_at t185 x13_1
                                                          replace p34 := eq_true p34
                                                          replace q34 := eq_true q34
                                                          have p40 : 0 ≤ ((ji38) : Int) := of_decide_eq_true (by first | (with_reducible assumption) | assumption)
                                                          have q40 : (ji38) < (t185.size : Int) := of_decide_eq_true (by first | (with_reducible assumption) | assumption)
                                                          have hx40 := bt_at t185 (ji38)
                                                          replace p40 := eq_true p40
                                                          replace q40 := eq_true q40
                                                          have p43 : 0 ≤ (x13_1 : Int) := of_decide_eq_true (by first | (with_reducible assumption) | assumption)
                                                          have q43 : x13_1 < (t185.size : Int) := of_decide_eq_true (by first | (with_reducible assumption) | assumption)
                                                          have hx43 := bt_at t185 x13_1
                                                          replace p43 := eq_true p43
                                                          replace q43 := eq_true q43
                                                          go_wp2
                                                          go_meet
                                                          case rel => exact ⟨_, (false), (by first | rfl | (simp; done) | (simp [*]; done)), H', ⟨by have := HK1.out; have := HJ9.out; have := HJ12.out; have := HK4.out; have := HJ23.out; have := HJ25.out; have := HJ27.out; first | omega | exact Nat.le_refl _⟩, ⟨by (with_reducible repeat (first | apply Kd.R_alloc | apply Kd.R_drewN | apply Kd.R_drew)); exact HO_12.out⟩, ⟨by (with_reducible repeat (first | refine blk_drewN ?_ _ | refine blk_drew ?_ | refine blk_alloc ?_ _)); exact BK184.out⟩, ⟨by repeat (first | (with_reducible first | exact HB.out | apply below_alloc | apply pw_below_drewN | apply below_drew1 | refine below_set ?_ GE184.out) | exact HB.out)⟩⟩
                                                      · rw [if_neg c44] at H
                                                        have c44b0 : ((bt t185 x13_1) == 82) = false := beq_eq_false_iff_ne.mpr c44
                                                        have c44b1 : ((bt t185 x13_1) != 82) = true := bne_iff_ne.mpr c44
                                                        have H' := Aside0.mk H
                                                        clear H
                                                        have hcz52_0 : wc.cell? ⟨gb184, 0, none⟩ = some (.int .i64 a0_0) := (blk_cell BK184.out 0).trans rfl
                                                        have hcz52_1 : wc.cell? ⟨gb184, 1, none⟩ = some (.string a0_1) := (blk_cell BK184.out 1).trans rfl
                                                        have hcz52_2 : wc.cell? ⟨gb184, 2, none⟩ = some (.bool a0_2) := (blk_cell BK184.out 2).trans rfl
                                                        have hcz52_3 : wc.cell? ⟨gb184, 3, none⟩ = some (.int .i64 a0_3) := (blk_cell BK184.out 3).trans rfl
                                                        have hfz52_0 := blk_frozen BK184.out 0
                                                        have hfz52_1 := blk_frozen BK184.out 1
                                                        have hfz52_2 := blk_frozen BK184.out 2
                                                        have hfz52_3 := blk_frozen BK184.out 3
                                                        have p34 : 0 ≤ (x13_1 : Int) := of_decide_eq_true (by first | (with_reducible assumption) | assumption)
                                                        have q34 : x13_1 < (t185.size : Int) := of_decide_eq_true (by first | (with_reducible assumption) | assumption)
                                                        have hx34 := bt_at t185 x13_1
                                                        replace p34 := eq_true p34
                                                        replace q34 := eq_true q34
                                                        have p40 : 0 ≤ ((ji38) : Int) := of_decide_eq_true (by first | (with_reducible assumption) | assumption)
                                                        have q40 : (ji38) < (t185.size : Int) := of_decide_eq_true (by first | (with_reducible assumption) | assumption)
                                                        have hx40 := bt_at t185 (ji38)
                                                        replace p40 := eq_true p40
                                                        replace q40 := eq_true q40
                                                        have p43 : 0 ≤ (x13_1 : Int) := of_decide_eq_true (by first | (with_reducible assumption) | assumption)
                                                        have q43 : x13_1 < (t185.size : Int) := of_decide_eq_true (by first | (with_reducible assumption) | assumption)
                                                        have hx43 := bt_at t185 x13_1
                                                        replace p43 := eq_true p43
                                                        replace q43 := eq_true q43
                                                        go_wp2
                                                        go_meet
                                                        case rel => exact ⟨_, (false), (by first | rfl | (simp; done) | (simp [*]; done)), H', ⟨by have := HK1.out; have := HJ9.out; have := HJ12.out; have := HK4.out; have := HJ23.out; have := HJ25.out; have := HJ27.out; first | omega | exact Nat.le_refl _⟩, ⟨by (with_reducible repeat (first | apply Kd.R_alloc | apply Kd.R_drewN | apply Kd.R_drew)); exact HO_12.out⟩, ⟨by (with_reducible repeat (first | refine blk_drewN ?_ _ | refine blk_drew ?_ | refine blk_alloc ?_ _)); exact BK184.out⟩, ⟨by repeat (first | (with_reducible first | exact HB.out | apply below_alloc | apply pw_below_drewN | apply below_drew1 | refine below_set ?_ GE184.out) | exact HB.out)⟩⟩
                                                  · rw [if_neg c39] at H
                                                    exact absurd H (by simp)
                                                · rw [if_neg c37] at H
                                                  have c37b0 : decide ((wrap64 (x13_1 + 1)) < (t185.size : Int)) = false := decide_eq_false c37
                                                  clear c37
                                                  by_cases c54 : (bt t185 x13_1) = 82
                                                  · rw [if_pos c54] at H
                                                    have c54b0 : ((bt t185 x13_1) == 82) = true := beq_iff_eq.mpr c54
                                                    have c54b1 : ((bt t185 x13_1) != 82) = false := bne_eq_false_iff_eq.mpr c54
                                                    clear c54
                                                    by_cases c55 : (wrap64 (x13_1 - 1)) > a4
                                                    · rw [if_pos c55] at H
                                                      have c55b0 : decide (a4 < (wrap64 (x13_1 - 1))) = true := decide_eq_true c55
                                                      clear c55
                                                      obtain ⟨ji56, hji56⟩ : ∃ j_ : Int, (wrap64 (x13_1 - 1)) = j_ := ⟨_, rfl⟩
                                                      replace H : (if 0 ≤ (ji56) then (if (ji56) < (t185.size : Int) then (reedpenref26_Keys.j7 kj27 l2 a3 a4 t185 x12_1 x13_1 x14_9 x17_27 ((bt t185 (ji56)) == 75) a0_0 a0_1 a0_2 a0_3) else (none)) else (none)) = some r := by first | (rw [hji56] at H; exact H) | (simp only [hji56] at H ⊢; exact H)
                                                      (try rw [hji56] at c55b0)
                                                      have hji56w : (IntKind.i64.wrap (x13_1 - 1)) = ji56 := (i64_w _).trans hji56
                                                      by_cases c57 : 0 ≤ (ji56)
                                                      · rw [if_pos c57] at H
                                                        have c57b0 : decide (0 ≤ (ji56)) = true := decide_eq_true c57
                                                        clear c57
                                                        by_cases c58 : (ji56) < (t185.size : Int)
                                                        · rw [if_pos c58] at H
                                                          have c58b0 : decide ((ji56) < (t185.size : Int)) = true := decide_eq_true c58
                                                          clear c58
                                                          have H' := Aside0.mk H
                                                          clear H
                                                          have hcz60_0 : wc.cell? ⟨gb184, 0, none⟩ = some (.int .i64 a0_0) := (blk_cell BK184.out 0).trans rfl
                                                          have hcz60_1 : wc.cell? ⟨gb184, 1, none⟩ = some (.string a0_1) := (blk_cell BK184.out 1).trans rfl
                                                          have hcz60_2 : wc.cell? ⟨gb184, 2, none⟩ = some (.bool a0_2) := (blk_cell BK184.out 2).trans rfl
                                                          have hcz60_3 : wc.cell? ⟨gb184, 3, none⟩ = some (.int .i64 a0_3) := (blk_cell BK184.out 3).trans rfl
                                                          have hfz60_0 := blk_frozen BK184.out 0
                                                          have hfz60_1 := blk_frozen BK184.out 1
                                                          have hfz60_2 := blk_frozen BK184.out 2
                                                          have hfz60_3 := blk_frozen BK184.out 3
                                                          have p34 : 0 ≤ (x13_1 : Int) := of_decide_eq_true (by first | (with_reducible assumption) | assumption)
                                                          have q34 : x13_1 < (t185.size : Int) := of_decide_eq_true (by first | (with_reducible assumption) | assumption)
                                                          have hx34 := bt_at t185 x13_1
                                                          replace p34 := eq_true p34
                                                          replace q34 := eq_true q34
                                                          have p53 : 0 ≤ (x13_1 : Int) := of_decide_eq_true (by first | (with_reducible assumption) | assumption)
                                                          have q53 : x13_1 < (t185.size : Int) := of_decide_eq_true (by first | (with_reducible assumption) | assumption)
                                                          have hx53 := bt_at t185 x13_1
                                                          replace p53 := eq_true p53
                                                          replace q53 := eq_true q53
                                                          have p59 : 0 ≤ ((ji56) : Int) := of_decide_eq_true (by first | (with_reducible assumption) | assumption)
                                                          have q59 : (ji56) < (t185.size : Int) := of_decide_eq_true (by first | (with_reducible assumption) | assumption)
                                                          have hx59 := bt_at t185 (ji56)
                                                          replace p59 := eq_true p59
                                                          replace q59 := eq_true q59
                                                          go_wp2
                                                          go_meet
                                                          case rel => exact ⟨_, (((bt t185 (ji56)) == 75)), (by first | rfl | (simp; done) | (simp only [← hji56] <;> (first | rfl | simp)) | (simp [*]; done)), H', ⟨by have := HK1.out; have := HJ9.out; have := HJ12.out; have := HK4.out; have := HJ23.out; have := HJ25.out; have := HJ27.out; first | omega | exact Nat.le_refl _⟩, ⟨by (with_reducible repeat (first | apply Kd.R_alloc | apply Kd.R_drewN | apply Kd.R_drew)); exact HO_12.out⟩, ⟨by (with_reducible repeat (first | refine blk_drewN ?_ _ | refine blk_drew ?_ | refine blk_alloc ?_ _)); exact BK184.out⟩, ⟨by repeat (first | (with_reducible first | exact HB.out | apply below_alloc | apply pw_below_drewN | apply below_drew1 | refine below_set ?_ GE184.out) | exact HB.out)⟩⟩
                                                        · rw [if_neg c58] at H
                                                          exact absurd H (by simp)
                                                      · rw [if_neg c57] at H
                                                        exact absurd H (by simp)
                                                    · rw [if_neg c55] at H
                                                      have c55b0 : decide (a4 < (wrap64 (x13_1 - 1))) = false := decide_eq_false c55
                                                      clear c55
                                                      have H' := Aside0.mk H
                                                      clear H
                                                      have hcz61_0 : wc.cell? ⟨gb184, 0, none⟩ = some (.int .i64 a0_0) := (blk_cell BK184.out 0).trans rfl
                                                      have hcz61_1 : wc.cell? ⟨gb184, 1, none⟩ = some (.string a0_1) := (blk_cell BK184.out 1).trans rfl
                                                      have hcz61_2 : wc.cell? ⟨gb184, 2, none⟩ = some (.bool a0_2) := (blk_cell BK184.out 2).trans rfl
                                                      have hcz61_3 : wc.cell? ⟨gb184, 3, none⟩ = some (.int .i64 a0_3) := (blk_cell BK184.out 3).trans rfl
                                                      have hfz61_0 := blk_frozen BK184.out 0
                                                      have hfz61_1 := blk_frozen BK184.out 1
                                                      have hfz61_2 := blk_frozen BK184.out 2
                                                      have hfz61_3 := blk_frozen BK184.out 3
                                                      have p34 : 0 ≤ (x13_1 : Int) := of_decide_eq_true (by first | (with_reducible assumption) | assumption)
                                                      have q34 : x13_1 < (t185.size : Int) := of_decide_eq_true (by first | (with_reducible assumption) | assumption)
                                                      have hx34 := bt_at t185 x13_1
                                                      replace p34 := eq_true p34
                                                      replace q34 := eq_true q34
                                                      have p53 : 0 ≤ (x13_1 : Int) := of_decide_eq_true (by first | (with_reducible assumption) | assumption)
                                                      have q53 : x13_1 < (t185.size : Int) := of_decide_eq_true (by first | (with_reducible assumption) | assumption)
                                                      have hx53 := bt_at t185 x13_1
                                                      replace p53 := eq_true p53
                                                      replace q53 := eq_true q53
                                                      go_wp2
                                                      go_meet
                                                      case rel => exact ⟨_, (false), (by first | rfl | (simp; done) | (simp [*]; done)), H', ⟨by have := HK1.out; have := HJ9.out; have := HJ12.out; have := HK4.out; have := HJ23.out; have := HJ25.out; have := HJ27.out; first | omega | exact Nat.le_refl _⟩, ⟨by (with_reducible repeat (first | apply Kd.R_alloc | apply Kd.R_drewN | apply Kd.R_drew)); exact HO_12.out⟩, ⟨by (with_reducible repeat (first | refine blk_drewN ?_ _ | refine blk_drew ?_ | refine blk_alloc ?_ _)); exact BK184.out⟩, ⟨by repeat (first | (with_reducible first | exact HB.out | apply below_alloc | apply pw_below_drewN | apply below_drew1 | refine below_set ?_ GE184.out) | exact HB.out)⟩⟩
                                                  · rw [if_neg c54] at H
                                                    have c54b0 : ((bt t185 x13_1) == 82) = false := beq_eq_false_iff_ne.mpr c54
                                                    have c54b1 : ((bt t185 x13_1) != 82) = true := bne_iff_ne.mpr c54
                                                    have H' := Aside0.mk H
                                                    clear H
                                                    have hcz62_0 : wc.cell? ⟨gb184, 0, none⟩ = some (.int .i64 a0_0) := (blk_cell BK184.out 0).trans rfl
                                                    have hcz62_1 : wc.cell? ⟨gb184, 1, none⟩ = some (.string a0_1) := (blk_cell BK184.out 1).trans rfl
                                                    have hcz62_2 : wc.cell? ⟨gb184, 2, none⟩ = some (.bool a0_2) := (blk_cell BK184.out 2).trans rfl
                                                    have hcz62_3 : wc.cell? ⟨gb184, 3, none⟩ = some (.int .i64 a0_3) := (blk_cell BK184.out 3).trans rfl
                                                    have hfz62_0 := blk_frozen BK184.out 0
                                                    have hfz62_1 := blk_frozen BK184.out 1
                                                    have hfz62_2 := blk_frozen BK184.out 2
                                                    have hfz62_3 := blk_frozen BK184.out 3
                                                    have p34 : 0 ≤ (x13_1 : Int) := of_decide_eq_true (by first | (with_reducible assumption) | assumption)
                                                    have q34 : x13_1 < (t185.size : Int) := of_decide_eq_true (by first | (with_reducible assumption) | assumption)
                                                    have hx34 := bt_at t185 x13_1
                                                    replace p34 := eq_true p34
                                                    replace q34 := eq_true q34
                                                    have p53 : 0 ≤ (x13_1 : Int) := of_decide_eq_true (by first | (with_reducible assumption) | assumption)
                                                    have q53 : x13_1 < (t185.size : Int) := of_decide_eq_true (by first | (with_reducible assumption) | assumption)
                                                    have hx53 := bt_at t185 x13_1
                                                    replace p53 := eq_true p53
                                                    replace q53 := eq_true q53
                                                    go_wp2
                                                    go_meet
                                                    case rel => exact ⟨_, (false), (by first | rfl | (simp; done) | (simp [*]; done)), H', ⟨by have := HK1.out; have := HJ9.out; have := HJ12.out; have := HK4.out; have := HJ23.out; have := HJ25.out; have := HJ27.out; first | omega | exact Nat.le_refl _⟩, ⟨by (with_reducible repeat (first | apply Kd.R_alloc | apply Kd.R_drewN | apply Kd.R_drew)); exact HO_12.out⟩, ⟨by (with_reducible repeat (first | refine blk_drewN ?_ _ | refine blk_drew ?_ | refine blk_alloc ?_ _)); exact BK184.out⟩, ⟨by repeat (first | (with_reducible first | exact HB.out | apply below_alloc | apply pw_below_drewN | apply below_drew1 | refine below_set ?_ GE184.out) | exact HB.out)⟩⟩
                                              · rw [if_neg c36] at H
                                                have c36b0 : decide (a4 < x13_1) = false := decide_eq_false c36
                                                clear c36
                                                by_cases c64 : (bt t185 x13_1) = 82
                                                · rw [if_pos c64] at H
                                                  have c64b0 : ((bt t185 x13_1) == 82) = true := beq_iff_eq.mpr c64
                                                  have c64b1 : ((bt t185 x13_1) != 82) = false := bne_eq_false_iff_eq.mpr c64
                                                  clear c64
                                                  by_cases c65 : (wrap64 (x13_1 - 1)) > a4
                                                  · rw [if_pos c65] at H
                                                    have c65b0 : decide (a4 < (wrap64 (x13_1 - 1))) = true := decide_eq_true c65
                                                    clear c65
                                                    obtain ⟨ji66, hji66⟩ : ∃ j_ : Int, (wrap64 (x13_1 - 1)) = j_ := ⟨_, rfl⟩
                                                    replace H : (if 0 ≤ (ji66) then (if (ji66) < (t185.size : Int) then (reedpenref26_Keys.j7 kj27 l2 a3 a4 t185 x12_1 x13_1 x14_9 x17_27 ((bt t185 (ji66)) == 75) a0_0 a0_1 a0_2 a0_3) else (none)) else (none)) = some r := by first | (rw [hji66] at H; exact H) | (simp only [hji66] at H ⊢; exact H)
                                                    (try rw [hji66] at c65b0)
                                                    have hji66w : (IntKind.i64.wrap (x13_1 - 1)) = ji66 := (i64_w _).trans hji66
                                                    by_cases c67 : 0 ≤ (ji66)
                                                    · rw [if_pos c67] at H
                                                      have c67b0 : decide (0 ≤ (ji66)) = true := decide_eq_true c67
                                                      clear c67
                                                      by_cases c68 : (ji66) < (t185.size : Int)
                                                      · rw [if_pos c68] at H
                                                        have c68b0 : decide ((ji66) < (t185.size : Int)) = true := decide_eq_true c68
                                                        clear c68
                                                        have H' := Aside0.mk H
                                                        clear H
                                                        have hcz70_0 : wc.cell? ⟨gb184, 0, none⟩ = some (.int .i64 a0_0) := (blk_cell BK184.out 0).trans rfl
                                                        have hcz70_1 : wc.cell? ⟨gb184, 1, none⟩ = some (.string a0_1) := (blk_cell BK184.out 1).trans rfl
                                                        have hcz70_2 : wc.cell? ⟨gb184, 2, none⟩ = some (.bool a0_2) := (blk_cell BK184.out 2).trans rfl
                                                        have hcz70_3 : wc.cell? ⟨gb184, 3, none⟩ = some (.int .i64 a0_3) := (blk_cell BK184.out 3).trans rfl
                                                        have hfz70_0 := blk_frozen BK184.out 0
                                                        have hfz70_1 := blk_frozen BK184.out 1
                                                        have hfz70_2 := blk_frozen BK184.out 2
                                                        have hfz70_3 := blk_frozen BK184.out 3
                                                        have p34 : 0 ≤ (x13_1 : Int) := of_decide_eq_true (by first | (with_reducible assumption) | assumption)
                                                        have q34 : x13_1 < (t185.size : Int) := of_decide_eq_true (by first | (with_reducible assumption) | assumption)
                                                        have hx34 := bt_at t185 x13_1
                                                        replace p34 := eq_true p34
                                                        replace q34 := eq_true q34
                                                        have p63 : 0 ≤ (x13_1 : Int) := of_decide_eq_true (by first | (with_reducible assumption) | assumption)
                                                        have q63 : x13_1 < (t185.size : Int) := of_decide_eq_true (by first | (with_reducible assumption) | assumption)
                                                        have hx63 := bt_at t185 x13_1
                                                        replace p63 := eq_true p63
                                                        replace q63 := eq_true q63
                                                        have p69 : 0 ≤ ((ji66) : Int) := of_decide_eq_true (by first | (with_reducible assumption) | assumption)
                                                        have q69 : (ji66) < (t185.size : Int) := of_decide_eq_true (by first | (with_reducible assumption) | assumption)
                                                        have hx69 := bt_at t185 (ji66)
                                                        replace p69 := eq_true p69
                                                        replace q69 := eq_true q69
                                                        go_wp2
                                                        go_meet
                                                        case rel => exact ⟨_, (((bt t185 (ji66)) == 75)), (by first | rfl | (simp; done) | (simp only [← hji66] <;> (first | rfl | simp)) | (simp [*]; done)), H', ⟨by have := HK1.out; have := HJ9.out; have := HJ12.out; have := HK4.out; have := HJ23.out; have := HJ25.out; have := HJ27.out; first | omega | exact Nat.le_refl _⟩, ⟨by (with_reducible repeat (first | apply Kd.R_alloc | apply Kd.R_drewN | apply Kd.R_drew)); exact HO_12.out⟩, ⟨by (with_reducible repeat (first | refine blk_drewN ?_ _ | refine blk_drew ?_ | refine blk_alloc ?_ _)); exact BK184.out⟩, ⟨by repeat (first | (with_reducible first | exact HB.out | apply below_alloc | apply pw_below_drewN | apply below_drew1 | refine below_set ?_ GE184.out) | exact HB.out)⟩⟩
                                                      · rw [if_neg c68] at H
                                                        exact absurd H (by simp)
                                                    · rw [if_neg c67] at H
                                                      exact absurd H (by simp)
                                                  · rw [if_neg c65] at H
                                                    have c65b0 : decide (a4 < (wrap64 (x13_1 - 1))) = false := decide_eq_false c65
                                                    clear c65
                                                    have H' := Aside0.mk H
                                                    clear H
                                                    have hcz71_0 : wc.cell? ⟨gb184, 0, none⟩ = some (.int .i64 a0_0) := (blk_cell BK184.out 0).trans rfl
                                                    have hcz71_1 : wc.cell? ⟨gb184, 1, none⟩ = some (.string a0_1) := (blk_cell BK184.out 1).trans rfl
                                                    have hcz71_2 : wc.cell? ⟨gb184, 2, none⟩ = some (.bool a0_2) := (blk_cell BK184.out 2).trans rfl
                                                    have hcz71_3 : wc.cell? ⟨gb184, 3, none⟩ = some (.int .i64 a0_3) := (blk_cell BK184.out 3).trans rfl
                                                    have hfz71_0 := blk_frozen BK184.out 0
                                                    have hfz71_1 := blk_frozen BK184.out 1
                                                    have hfz71_2 := blk_frozen BK184.out 2
                                                    have hfz71_3 := blk_frozen BK184.out 3
                                                    have p34 : 0 ≤ (x13_1 : Int) := of_decide_eq_true (by first | (with_reducible assumption) | assumption)
                                                    have q34 : x13_1 < (t185.size : Int) := of_decide_eq_true (by first | (with_reducible assumption) | assumption)
                                                    have hx34 := bt_at t185 x13_1
                                                    replace p34 := eq_true p34
                                                    replace q34 := eq_true q34
                                                    have p63 : 0 ≤ (x13_1 : Int) := of_decide_eq_true (by first | (with_reducible assumption) | assumption)
                                                    have q63 : x13_1 < (t185.size : Int) := of_decide_eq_true (by first | (with_reducible assumption) | assumption)
                                                    have hx63 := bt_at t185 x13_1
                                                    replace p63 := eq_true p63
                                                    replace q63 := eq_true q63
                                                    go_wp2
                                                    go_meet
                                                    case rel => exact ⟨_, (false), (by first | rfl | (simp; done) | (simp [*]; done)), H', ⟨by have := HK1.out; have := HJ9.out; have := HJ12.out; have := HK4.out; have := HJ23.out; have := HJ25.out; have := HJ27.out; first | omega | exact Nat.le_refl _⟩, ⟨by (with_reducible repeat (first | apply Kd.R_alloc | apply Kd.R_drewN | apply Kd.R_drew)); exact HO_12.out⟩, ⟨by (with_reducible repeat (first | refine blk_drewN ?_ _ | refine blk_drew ?_ | refine blk_alloc ?_ _)); exact BK184.out⟩, ⟨by repeat (first | (with_reducible first | exact HB.out | apply below_alloc | apply pw_below_drewN | apply below_drew1 | refine below_set ?_ GE184.out) | exact HB.out)⟩⟩
                                                · rw [if_neg c64] at H
                                                  have c64b0 : ((bt t185 x13_1) == 82) = false := beq_eq_false_iff_ne.mpr c64
                                                  have c64b1 : ((bt t185 x13_1) != 82) = true := bne_iff_ne.mpr c64
                                                  have H' := Aside0.mk H
                                                  clear H
                                                  have hcz72_0 : wc.cell? ⟨gb184, 0, none⟩ = some (.int .i64 a0_0) := (blk_cell BK184.out 0).trans rfl
                                                  have hcz72_1 : wc.cell? ⟨gb184, 1, none⟩ = some (.string a0_1) := (blk_cell BK184.out 1).trans rfl
                                                  have hcz72_2 : wc.cell? ⟨gb184, 2, none⟩ = some (.bool a0_2) := (blk_cell BK184.out 2).trans rfl
                                                  have hcz72_3 : wc.cell? ⟨gb184, 3, none⟩ = some (.int .i64 a0_3) := (blk_cell BK184.out 3).trans rfl
                                                  have hfz72_0 := blk_frozen BK184.out 0
                                                  have hfz72_1 := blk_frozen BK184.out 1
                                                  have hfz72_2 := blk_frozen BK184.out 2
                                                  have hfz72_3 := blk_frozen BK184.out 3
                                                  have p34 : 0 ≤ (x13_1 : Int) := of_decide_eq_true (by first | (with_reducible assumption) | assumption)
                                                  have q34 : x13_1 < (t185.size : Int) := of_decide_eq_true (by first | (with_reducible assumption) | assumption)
                                                  have hx34 := bt_at t185 x13_1
                                                  replace p34 := eq_true p34
                                                  replace q34 := eq_true q34
                                                  have p63 : 0 ≤ (x13_1 : Int) := of_decide_eq_true (by first | (with_reducible assumption) | assumption)
                                                  have q63 : x13_1 < (t185.size : Int) := of_decide_eq_true (by first | (with_reducible assumption) | assumption)
                                                  have hx63 := bt_at t185 x13_1
                                                  replace p63 := eq_true p63
                                                  replace q63 := eq_true q63
                                                  go_wp2
                                                  go_meet
                                                  case rel => exact ⟨_, (false), (by first | rfl | (simp; done) | (simp [*]; done)), H', ⟨by have := HK1.out; have := HJ9.out; have := HJ12.out; have := HK4.out; have := HJ23.out; have := HJ25.out; have := HJ27.out; first | omega | exact Nat.le_refl _⟩, ⟨by (with_reducible repeat (first | apply Kd.R_alloc | apply Kd.R_drewN | apply Kd.R_drew)); exact HO_12.out⟩, ⟨by (with_reducible repeat (first | refine blk_drewN ?_ _ | refine blk_drew ?_ | refine blk_alloc ?_ _)); exact BK184.out⟩, ⟨by repeat (first | (with_reducible first | exact HB.out | apply below_alloc | apply pw_below_drewN | apply below_drew1 | refine below_set ?_ GE184.out) | exact HB.out)⟩⟩
                                            · rw [if_neg c35] at H
                                              have c35b0 : ((bt t185 x13_1) == 75) = false := beq_eq_false_iff_ne.mpr c35
                                              have c35b1 : ((bt t185 x13_1) != 75) = true := bne_iff_ne.mpr c35
                                              by_cases c74 : (bt t185 x13_1) = 82
                                              · rw [if_pos c74] at H
                                                have c74b0 : ((bt t185 x13_1) == 82) = true := beq_iff_eq.mpr c74
                                                have c74b1 : ((bt t185 x13_1) != 82) = false := bne_eq_false_iff_eq.mpr c74
                                                clear c74
                                                by_cases c75 : (wrap64 (x13_1 - 1)) > a4
                                                · rw [if_pos c75] at H
                                                  have c75b0 : decide (a4 < (wrap64 (x13_1 - 1))) = true := decide_eq_true c75
                                                  clear c75
                                                  obtain ⟨ji76, hji76⟩ : ∃ j_ : Int, (wrap64 (x13_1 - 1)) = j_ := ⟨_, rfl⟩
                                                  replace H : (if 0 ≤ (ji76) then (if (ji76) < (t185.size : Int) then (reedpenref26_Keys.j7 kj27 l2 a3 a4 t185 x12_1 x13_1 x14_9 x17_27 ((bt t185 (ji76)) == 75) a0_0 a0_1 a0_2 a0_3) else (none)) else (none)) = some r := by first | (rw [hji76] at H; exact H) | (simp only [hji76] at H ⊢; exact H)
                                                  (try rw [hji76] at c75b0)
                                                  have hji76w : (IntKind.i64.wrap (x13_1 - 1)) = ji76 := (i64_w _).trans hji76
                                                  by_cases c77 : 0 ≤ (ji76)
                                                  · rw [if_pos c77] at H
                                                    have c77b0 : decide (0 ≤ (ji76)) = true := decide_eq_true c77
                                                    clear c77
                                                    by_cases c78 : (ji76) < (t185.size : Int)
                                                    · rw [if_pos c78] at H
                                                      have c78b0 : decide ((ji76) < (t185.size : Int)) = true := decide_eq_true c78
                                                      clear c78
                                                      have H' := Aside0.mk H
                                                      clear H
                                                      have hcz80_0 : wc.cell? ⟨gb184, 0, none⟩ = some (.int .i64 a0_0) := (blk_cell BK184.out 0).trans rfl
                                                      have hcz80_1 : wc.cell? ⟨gb184, 1, none⟩ = some (.string a0_1) := (blk_cell BK184.out 1).trans rfl
                                                      have hcz80_2 : wc.cell? ⟨gb184, 2, none⟩ = some (.bool a0_2) := (blk_cell BK184.out 2).trans rfl
                                                      have hcz80_3 : wc.cell? ⟨gb184, 3, none⟩ = some (.int .i64 a0_3) := (blk_cell BK184.out 3).trans rfl
                                                      have hfz80_0 := blk_frozen BK184.out 0
                                                      have hfz80_1 := blk_frozen BK184.out 1
                                                      have hfz80_2 := blk_frozen BK184.out 2
                                                      have hfz80_3 := blk_frozen BK184.out 3
                                                      have p34 : 0 ≤ (x13_1 : Int) := of_decide_eq_true (by first | (with_reducible assumption) | assumption)
                                                      have q34 : x13_1 < (t185.size : Int) := of_decide_eq_true (by first | (with_reducible assumption) | assumption)
                                                      have hx34 := bt_at t185 x13_1
                                                      replace p34 := eq_true p34
                                                      replace q34 := eq_true q34
                                                      have p73 : 0 ≤ (x13_1 : Int) := of_decide_eq_true (by first | (with_reducible assumption) | assumption)
                                                      have q73 : x13_1 < (t185.size : Int) := of_decide_eq_true (by first | (with_reducible assumption) | assumption)
                                                      have hx73 := bt_at t185 x13_1
                                                      replace p73 := eq_true p73
                                                      replace q73 := eq_true q73
                                                      have p79 : 0 ≤ ((ji76) : Int) := of_decide_eq_true (by first | (with_reducible assumption) | assumption)
                                                      have q79 : (ji76) < (t185.size : Int) := of_decide_eq_true (by first | (with_reducible assumption) | assumption)
                                                      have hx79 := bt_at t185 (ji76)
                                                      replace p79 := eq_true p79
                                                      replace q79 := eq_true q79
                                                      go_wp2
                                                      go_meet
                                                      case rel => exact ⟨_, (((bt t185 (ji76)) == 75)), (by first | rfl | (simp; done) | (simp only [← hji76] <;> (first | rfl | simp)) | (simp [*]; done)), H', ⟨by have := HK1.out; have := HJ9.out; have := HJ12.out; have := HK4.out; have := HJ23.out; have := HJ25.out; have := HJ27.out; first | omega | exact Nat.le_refl _⟩, ⟨by (with_reducible repeat (first | apply Kd.R_alloc | apply Kd.R_drewN | apply Kd.R_drew)); exact HO_12.out⟩, ⟨by (with_reducible repeat (first | refine blk_drewN ?_ _ | refine blk_drew ?_ | refine blk_alloc ?_ _)); exact BK184.out⟩, ⟨by repeat (first | (with_reducible first | exact HB.out | apply below_alloc | apply pw_below_drewN | apply below_drew1 | refine below_set ?_ GE184.out) | exact HB.out)⟩⟩
                                                    · rw [if_neg c78] at H
                                                      exact absurd H (by simp)
                                                  · rw [if_neg c77] at H
                                                    exact absurd H (by simp)
                                                · rw [if_neg c75] at H
                                                  have c75b0 : decide (a4 < (wrap64 (x13_1 - 1))) = false := decide_eq_false c75
                                                  clear c75
                                                  have H' := Aside0.mk H
                                                  clear H
                                                  have hcz81_0 : wc.cell? ⟨gb184, 0, none⟩ = some (.int .i64 a0_0) := (blk_cell BK184.out 0).trans rfl
                                                  have hcz81_1 : wc.cell? ⟨gb184, 1, none⟩ = some (.string a0_1) := (blk_cell BK184.out 1).trans rfl
                                                  have hcz81_2 : wc.cell? ⟨gb184, 2, none⟩ = some (.bool a0_2) := (blk_cell BK184.out 2).trans rfl
                                                  have hcz81_3 : wc.cell? ⟨gb184, 3, none⟩ = some (.int .i64 a0_3) := (blk_cell BK184.out 3).trans rfl
                                                  have hfz81_0 := blk_frozen BK184.out 0
                                                  have hfz81_1 := blk_frozen BK184.out 1
                                                  have hfz81_2 := blk_frozen BK184.out 2
                                                  have hfz81_3 := blk_frozen BK184.out 3
                                                  have p34 : 0 ≤ (x13_1 : Int) := of_decide_eq_true (by first | (with_reducible assumption) | assumption)
                                                  have q34 : x13_1 < (t185.size : Int) := of_decide_eq_true (by first | (with_reducible assumption) | assumption)
                                                  have hx34 := bt_at t185 x13_1
                                                  replace p34 := eq_true p34
                                                  replace q34 := eq_true q34
                                                  have p73 : 0 ≤ (x13_1 : Int) := of_decide_eq_true (by first | (with_reducible assumption) | assumption)
                                                  have q73 : x13_1 < (t185.size : Int) := of_decide_eq_true (by first | (with_reducible assumption) | assumption)
                                                  have hx73 := bt_at t185 x13_1
                                                  replace p73 := eq_true p73
                                                  replace q73 := eq_true q73
                                                  go_wp2
                                                  go_meet
                                                  case rel => exact ⟨_, (false), (by first | rfl | (simp; done) | (simp [*]; done)), H', ⟨by have := HK1.out; have := HJ9.out; have := HJ12.out; have := HK4.out; have := HJ23.out; have := HJ25.out; have := HJ27.out; first | omega | exact Nat.le_refl _⟩, ⟨by (with_reducible repeat (first | apply Kd.R_alloc | apply Kd.R_drewN | apply Kd.R_drew)); exact HO_12.out⟩, ⟨by (with_reducible repeat (first | refine blk_drewN ?_ _ | refine blk_drew ?_ | refine blk_alloc ?_ _)); exact BK184.out⟩, ⟨by repeat (first | (with_reducible first | exact HB.out | apply below_alloc | apply pw_below_drewN | apply below_drew1 | refine below_set ?_ GE184.out) | exact HB.out)⟩⟩
                                              · rw [if_neg c74] at H
                                                have c74b0 : ((bt t185 x13_1) == 82) = false := beq_eq_false_iff_ne.mpr c74
                                                have c74b1 : ((bt t185 x13_1) != 82) = true := bne_iff_ne.mpr c74
                                                have H' := Aside0.mk H
                                                clear H
                                                have hcz82_0 : wc.cell? ⟨gb184, 0, none⟩ = some (.int .i64 a0_0) := (blk_cell BK184.out 0).trans rfl
                                                have hcz82_1 : wc.cell? ⟨gb184, 1, none⟩ = some (.string a0_1) := (blk_cell BK184.out 1).trans rfl
                                                have hcz82_2 : wc.cell? ⟨gb184, 2, none⟩ = some (.bool a0_2) := (blk_cell BK184.out 2).trans rfl
                                                have hcz82_3 : wc.cell? ⟨gb184, 3, none⟩ = some (.int .i64 a0_3) := (blk_cell BK184.out 3).trans rfl
                                                have hfz82_0 := blk_frozen BK184.out 0
                                                have hfz82_1 := blk_frozen BK184.out 1
                                                have hfz82_2 := blk_frozen BK184.out 2
                                                have hfz82_3 := blk_frozen BK184.out 3
                                                have p34 : 0 ≤ (x13_1 : Int) := of_decide_eq_true (by first | (with_reducible assumption) | assumption)
                                                have q34 : x13_1 < (t185.size : Int) := of_decide_eq_true (by first | (with_reducible assumption) | assumption)
                                                have hx34 := bt_at t185 x13_1
                                                replace p34 := eq_true p34
                                                replace q34 := eq_true q34
                                                have p73 : 0 ≤ (x13_1 : Int) := of_decide_eq_true (by first | (with_reducible assumption) | assumption)
                                                have q73 : x13_1 < (t185.size : Int) := of_decide_eq_true (by first | (with_reducible assumption) | assumption)
                                                have hx73 := bt_at t185 x13_1
                                                replace p73 := eq_true p73
                                                replace q73 := eq_true q73
                                                go_wp2
                                                go_meet
                                                case rel => exact ⟨_, (false), (by first | rfl | (simp; done) | (simp [*]; done)), H', ⟨by have := HK1.out; have := HJ9.out; have := HJ12.out; have := HK4.out; have := HJ23.out; have := HJ25.out; have := HJ27.out; first | omega | exact Nat.le_refl _⟩, ⟨by (with_reducible repeat (first | apply Kd.R_alloc | apply Kd.R_drewN | apply Kd.R_drew)); exact HO_12.out⟩, ⟨by (with_reducible repeat (first | refine blk_drewN ?_ _ | refine blk_drew ?_ | refine blk_alloc ?_ _)); exact BK184.out⟩, ⟨by repeat (first | (with_reducible first | exact HB.out | apply below_alloc | apply pw_below_drewN | apply below_drew1 | refine below_set ?_ GE184.out) | exact HB.out)⟩⟩
                                          · rw [if_neg c33] at H
                                            exact absurd H (by simp)
                                        · rw [if_neg c32] at H
                                          exact absurd H (by simp)
                                      · rw [if_neg c31] at H
                                        have c31b0 : (a0_0 == 3) = false := beq_eq_false_iff_ne.mpr c31
                                        have c31b1 : (a0_0 != 3) = true := bne_iff_ne.mpr c31
                                        (first | rw [c31b0] | (simp only [i64_w, i32_w]; rw [c31b0]) | skip)
                                        have H' := Aside0.mk H
                                        clear H
                                        have hcz83_0 : wc.cell? ⟨gb184, 0, none⟩ = some (.int .i64 a0_0) := (blk_cell BK184.out 0).trans rfl
                                        have hcz83_1 : wc.cell? ⟨gb184, 1, none⟩ = some (.string a0_1) := (blk_cell BK184.out 1).trans rfl
                                        have hcz83_2 : wc.cell? ⟨gb184, 2, none⟩ = some (.bool a0_2) := (blk_cell BK184.out 2).trans rfl
                                        have hcz83_3 : wc.cell? ⟨gb184, 3, none⟩ = some (.int .i64 a0_3) := (blk_cell BK184.out 3).trans rfl
                                        have hfz83_0 := blk_frozen BK184.out 0
                                        have hfz83_1 := blk_frozen BK184.out 1
                                        have hfz83_2 := blk_frozen BK184.out 2
                                        have hfz83_3 := blk_frozen BK184.out 3
                                        go_wp2
                                        go_meet
                                        case rel => exact ⟨_, (false), (by first | rfl | (simp; done) | (simp [*]; done)), H', ⟨by have := HK1.out; have := HJ9.out; have := HJ12.out; have := HK4.out; have := HJ23.out; have := HJ25.out; have := HJ27.out; first | omega | exact Nat.le_refl _⟩, ⟨by (with_reducible repeat (first | apply Kd.R_alloc | apply Kd.R_drewN | apply Kd.R_drew)); exact HO_12.out⟩, ⟨by (with_reducible repeat (first | refine blk_drewN ?_ _ | refine blk_drew ?_ | refine blk_alloc ?_ _)); exact BK184.out⟩, ⟨by repeat (first | (with_reducible first | exact HB.out | apply below_alloc | apply pw_below_drewN | apply below_drew1 | refine below_set ?_ GE184.out) | exact HB.out)⟩⟩
                                    case rest => as_aux_lemma =>
                                      clear HC30
                                      (try clear c1); (try clear p1); (try clear q1); (try clear hx1); (try clear c2); (try clear p2); (try clear q2); (try clear hx2); (try clear c3); (try clear p3); (try clear q3); (try clear hx3); (try clear c4); (try clear p4); (try clear q4); (try clear hx4); (try clear c5); (try clear p5); (try clear q5); (try clear hx5); (try clear c6); (try clear p6); (try clear q6); (try clear hx6); (try clear c7); (try clear p7); (try clear q7); (try clear hx7); (try clear c9); (try clear c9b0); (try clear c11); (try clear c11b0); (try clear c12); (try clear c12b0); (try clear c14); (try clear c14b0); (try clear c15); (try clear c16); (try clear c18); (try clear c18b0); (try clear p18); (try clear q18); (try clear hx18); (try clear c19); (try clear c20); (try clear c20b0); (try clear c21); (try clear c21b0); (try clear p22); (try clear q22); (try clear hx22); (try clear c25); (try clear c27); (try clear c27b0); (try clear c29); (try clear c31); (try clear c31b0); (try clear c31b1); (try clear c32); (try clear c32b0); (try clear c33); (try clear c33b0); (try clear p34); (try clear q34); (try clear hx34); (try clear c35); (try clear c35b0); (try clear c35b1); (try clear c36); (try clear c36b0); (try clear c37); (try clear c37b0); (try clear c39); (try clear c39b0); (try clear p40); (try clear q40); (try clear hx40); (try clear c41); (try clear c41b0); (try clear c41b1); (try clear p43); (try clear q43); (try clear hx43); (try clear c44); (try clear c44b0); (try clear c44b1); (try clear c45); (try clear c45b0); (try clear c47); (try clear c47b0); (try clear c48); (try clear c48b0); (try clear p49); (try clear q49); (try clear hx49); (try clear p53); (try clear q53); (try clear hx53); (try clear c54); (try clear c54b0); (try clear c54b1); (try clear c55); (try clear c55b0); (try clear c57); (try clear c57b0); (try clear c58); (try clear c58b0); (try clear p59); (try clear q59); (try clear hx59); (try clear p63); (try clear q63); (try clear hx63); (try clear c64); (try clear c64b0); (try clear c64b1); (try clear p64); (try clear c65); (try clear c65b0); (try clear c67); (try clear c67b0); (try clear c68); (try clear c68b0); (try clear p69); (try clear q69); (try clear hx69); (try clear p73); (try clear q73); (try clear hx73); (try clear c74); (try clear c74b0); (try clear c74b1); (try clear c75); (try clear c75b0); (try clear c77); (try clear c77b0); (try clear c78); (try clear c78b0); (try clear p79); (try clear q79); (try clear hx79); (try clear hcz42_0); (try clear hcz42_1); (try clear hcz42_2); (try clear hcz42_3); (try clear hcz50_0); (try clear hcz50_1); (try clear hcz50_2); (try clear hcz50_3); (try clear hcz51_0); (try clear hcz51_1); (try clear hcz51_2); (try clear hcz51_3); (try clear hcz52_0); (try clear hcz52_1); (try clear hcz52_2); (try clear hcz52_3); (try clear hcz60_0); (try clear hcz60_1); (try clear hcz60_2); (try clear hcz60_3); (try clear hcz61_0); (try clear hcz61_1); (try clear hcz61_2); (try clear hcz61_3); (try clear hcz62_0); (try clear hcz62_1); (try clear hcz62_2); (try clear hcz62_3); (try clear hcz70_0); (try clear hcz70_1); (try clear hcz70_2); (try clear hcz70_3); (try clear hcz71_0); (try clear hcz71_1); (try clear hcz71_2); (try clear hcz71_3); (try clear hcz72_0); (try clear hcz72_1); (try clear hcz72_2); (try clear hcz72_3); (try clear hcz80_0); (try clear hcz80_1); (try clear hcz80_2); (try clear hcz80_3); (try clear hcz81_0); (try clear hcz81_1); (try clear hcz81_2); (try clear hcz81_3); (try clear hcz82_0); (try clear hcz82_1); (try clear hcz82_2); (try clear hcz82_3); (try clear hcz83_0); (try clear hcz83_1); (try clear hcz83_2); (try clear hcz83_3); (try clear hfz42_0); (try clear hfz42_1); (try clear hfz42_2); (try clear hfz42_3); (try clear hfz50_0); (try clear hfz50_1); (try clear hfz50_2); (try clear hfz50_3); (try clear hfz51_0); (try clear hfz51_1); (try clear hfz51_2); (try clear hfz51_3); (try clear hfz52_0); (try clear hfz52_1); (try clear hfz52_2); (try clear hfz52_3); (try clear hfz60_0); (try clear hfz60_1); (try clear hfz60_2); (try clear hfz60_3); (try clear hfz61_0); (try clear hfz61_1); (try clear hfz61_2); (try clear hfz61_3); (try clear hfz62_0); (try clear hfz62_1); (try clear hfz62_2); (try clear hfz62_3); (try clear hfz70_0); (try clear hfz70_1); (try clear hfz70_2); (try clear hfz70_3); (try clear hfz71_0); (try clear hfz71_1); (try clear hfz71_2); (try clear hfz71_3); (try clear hfz72_0); (try clear hfz72_1); (try clear hfz72_2); (try clear hfz72_3); (try clear hfz80_0); (try clear hfz80_1); (try clear hfz80_2); (try clear hfz80_3); (try clear hfz81_0); (try clear hfz81_1); (try clear hfz81_2); (try clear hfz81_3); (try clear hfz82_0); (try clear hfz82_1); (try clear hfz82_2); (try clear hfz82_3); (try clear hfz83_0); (try clear hfz83_1); (try clear hfz83_2); (try clear hfz83_3); (try clear hx186_0); (try clear p1); (try clear p18); (try clear p186); (try clear p2); (try clear p22); (try clear p34); (try clear p40); (try clear p43); (try clear p49); (try clear p53); (try clear p59); (try clear p6); (try clear p63); (try clear p69); (try clear p73); (try clear p79); (try clear q1); (try clear q18); (try clear q186); (try clear q2); (try clear q22); (try clear q34); (try clear q40); (try clear q43); (try clear q49); (try clear q53); (try clear q59); (try clear q63); (try clear q69); (try clear q73); (try clear q79)
                                      obtain ⟨kq, x115_29, rfl, HA, HJ29, HO_12, BK184, HB⟩ := hcut
                                      cases kq with
                                      | zero => exact absurd HA.out (by simp [reedpenref26_Keys.j7])
                                      | succ kj29 =>
                                        have H := HA.out
                                        clear HA
                                        simp only [reedpenref26_Keys.j7] at H
                                        have HC84 := Aside0.mk H
                                        clear H
                                        go_upto_if 115 with (fail)
                                        go_cut [17] (fun v17 wc => ∃ (kq : Nat) (x17_83 : Int), v17 = .int .i64 x17_83 ∧ Aside0 (reedpenref26_Keys.j8 kq l2 a3 a4 t185 x12_1 x13_1 x14_9 x17_83 a0_0 a0_1 a0_2 a0_3 = some r) ∧ Aside0 (kq ≤ kj29) ∧ Aside0 (Kd.R (Kd.int .i64) 3 wc w.heap.size (fun _ => True) u12 x12_1) ∧ Aside0 (wc.heap[gb184]? = some (.cells #[.int .i64 a0_0, .string a0_1, .bool a0_2, .int .i64 a0_3] 23 (0, 0))) ∧ Aside0 (Below w.heap.size w wc))
                                        case first => as_aux_lemma =>
                                          have H := HC84.out
                                          clear HC84
                                          by_cases c85 : x115_29 = true
                                          · subst c85
                                            have H1 : (reedpenref26_Keys.j8 kj29 l2 a3 a4 t185 x12_1 x13_1 x14_9 2 a0_0 a0_1 a0_2 a0_3) = some r := by rw [if_pos rfl] at H; exact H
                                            clear H
                                            have H := H1
                                            clear H1
                                            have H' := Aside0.mk H
                                            clear H
                                            go_wp2
                                            go_meet
                                            case rel => exact ⟨_, (2), (by first | rfl | (simp; done) | (simp [*]; done)), H', ⟨by have := HK1.out; have := HJ9.out; have := HJ12.out; have := HK4.out; have := HJ23.out; have := HJ25.out; have := HJ27.out; have := HJ29.out; first | omega | exact Nat.le_refl _⟩, ⟨by (with_reducible repeat (first | apply Kd.R_alloc | apply Kd.R_drewN | apply Kd.R_drew)); exact HO_12.out⟩, ⟨by (with_reducible repeat (first | refine blk_drewN ?_ _ | refine blk_drew ?_ | refine blk_alloc ?_ _)); exact BK184.out⟩, ⟨by repeat (first | (with_reducible first | exact HB.out | apply below_alloc | apply pw_below_drewN | apply below_drew1 | refine below_set ?_ GE184.out) | exact HB.out)⟩⟩
                                          · replace c85 := Bool.eq_false_iff.mpr c85
                                            subst c85
                                            have H1 : (reedpenref26_Keys.j8 kj29 l2 a3 a4 t185 x12_1 x13_1 x14_9 x17_27 a0_0 a0_1 a0_2 a0_3) = some r := by rw [if_neg (show ¬ (false = true) by decide)] at H; exact H
                                            clear H
                                            have H := H1
                                            clear H1
                                            have H' := Aside0.mk H
                                            clear H
                                            go_wp2
                                            go_meet
                                            case rel => exact ⟨_, (x17_27), (by first | rfl | (simp; done) | (simp [*]; done)), H', ⟨by have := HK1.out; have := HJ9.out; have := HJ12.out; have := HK4.out; have := HJ23.out; have := HJ25.out; have := HJ27.out; have := HJ29.out; first | omega | exact Nat.le_refl _⟩, ⟨by (with_reducible repeat (first | apply Kd.R_alloc | apply Kd.R_drewN | apply Kd.R_drew)); exact HO_12.out⟩, ⟨by (with_reducible repeat (first | refine blk_drewN ?_ _ | refine blk_drew ?_ | refine blk_alloc ?_ _)); exact BK184.out⟩, ⟨by repeat (first | (with_reducible first | exact HB.out | apply below_alloc | apply pw_below_drewN | apply below_drew1 | refine below_set ?_ GE184.out) | exact HB.out)⟩⟩
                                        case rest => as_aux_lemma =>
                                          clear HC84
                                          (try clear c1); (try clear p1); (try clear q1); (try clear hx1); (try clear c2); (try clear p2); (try clear q2); (try clear hx2); (try clear c3); (try clear p3); (try clear q3); (try clear hx3); (try clear c4); (try clear p4); (try clear q4); (try clear hx4); (try clear c5); (try clear p5); (try clear q5); (try clear hx5); (try clear c6); (try clear p6); (try clear q6); (try clear hx6); (try clear c7); (try clear p7); (try clear q7); (try clear hx7); (try clear c8); (try clear c9); (try clear c9b0); (try clear c11); (try clear c11b0); (try clear c12); (try clear c12b0); (try clear c14); (try clear c14b0); (try clear c15); (try clear c16); (try clear c18); (try clear c18b0); (try clear p18); (try clear q18); (try clear hx18); (try clear c19); (try clear c20); (try clear c20b0); (try clear c21); (try clear c21b0); (try clear p22); (try clear q22); (try clear hx22); (try clear c25); (try clear c27); (try clear c27b0); (try clear c29); (try clear c31); (try clear c31b0); (try clear c31b1); (try clear c32); (try clear c32b0); (try clear c33); (try clear c33b0); (try clear p34); (try clear q34); (try clear hx34); (try clear c35); (try clear c35b0); (try clear c35b1); (try clear c36); (try clear c36b0); (try clear c37); (try clear c37b0); (try clear c39); (try clear c39b0); (try clear p40); (try clear q40); (try clear hx40); (try clear c41); (try clear c41b0); (try clear c41b1); (try clear p43); (try clear q43); (try clear hx43); (try clear c44); (try clear c44b0); (try clear c44b1); (try clear c45); (try clear c45b0); (try clear c47); (try clear c47b0); (try clear c48); (try clear c48b0); (try clear p49); (try clear q49); (try clear hx49); (try clear p53); (try clear q53); (try clear hx53); (try clear c54); (try clear c54b0); (try clear c54b1); (try clear c55); (try clear c55b0); (try clear c57); (try clear c57b0); (try clear c58); (try clear c58b0); (try clear p59); (try clear q59); (try clear hx59); (try clear p63); (try clear q63); (try clear hx63); (try clear c64); (try clear c64b0); (try clear c64b1); (try clear p64); (try clear c65); (try clear c65b0); (try clear c67); (try clear c67b0); (try clear c68); (try clear c68b0); (try clear p69); (try clear q69); (try clear hx69); (try clear p73); (try clear q73); (try clear hx73); (try clear c74); (try clear c74b0); (try clear c74b1); (try clear c75); (try clear c75b0); (try clear c77); (try clear c77b0); (try clear c78); (try clear c78b0); (try clear p79); (try clear q79); (try clear hx79); (try clear c85); (try clear hcz42_0); (try clear hcz42_1); (try clear hcz42_2); (try clear hcz42_3); (try clear hcz50_0); (try clear hcz50_1); (try clear hcz50_2); (try clear hcz50_3); (try clear hcz51_0); (try clear hcz51_1); (try clear hcz51_2); (try clear hcz51_3); (try clear hcz52_0); (try clear hcz52_1); (try clear hcz52_2); (try clear hcz52_3); (try clear hcz60_0); (try clear hcz60_1); (try clear hcz60_2); (try clear hcz60_3); (try clear hcz61_0); (try clear hcz61_1); (try clear hcz61_2); (try clear hcz61_3); (try clear hcz62_0); (try clear hcz62_1); (try clear hcz62_2); (try clear hcz62_3); (try clear hcz70_0); (try clear hcz70_1); (try clear hcz70_2); (try clear hcz70_3); (try clear hcz71_0); (try clear hcz71_1); (try clear hcz71_2); (try clear hcz71_3); (try clear hcz72_0); (try clear hcz72_1); (try clear hcz72_2); (try clear hcz72_3); (try clear hcz80_0); (try clear hcz80_1); (try clear hcz80_2); (try clear hcz80_3); (try clear hcz81_0); (try clear hcz81_1); (try clear hcz81_2); (try clear hcz81_3); (try clear hcz82_0); (try clear hcz82_1); (try clear hcz82_2); (try clear hcz82_3); (try clear hcz83_0); (try clear hcz83_1); (try clear hcz83_2); (try clear hcz83_3); (try clear hfz42_0); (try clear hfz42_1); (try clear hfz42_2); (try clear hfz42_3); (try clear hfz50_0); (try clear hfz50_1); (try clear hfz50_2); (try clear hfz50_3); (try clear hfz51_0); (try clear hfz51_1); (try clear hfz51_2); (try clear hfz51_3); (try clear hfz52_0); (try clear hfz52_1); (try clear hfz52_2); (try clear hfz52_3); (try clear hfz60_0); (try clear hfz60_1); (try clear hfz60_2); (try clear hfz60_3); (try clear hfz61_0); (try clear hfz61_1); (try clear hfz61_2); (try clear hfz61_3); (try clear hfz62_0); (try clear hfz62_1); (try clear hfz62_2); (try clear hfz62_3); (try clear hfz70_0); (try clear hfz70_1); (try clear hfz70_2); (try clear hfz70_3); (try clear hfz71_0); (try clear hfz71_1); (try clear hfz71_2); (try clear hfz71_3); (try clear hfz72_0); (try clear hfz72_1); (try clear hfz72_2); (try clear hfz72_3); (try clear hfz80_0); (try clear hfz80_1); (try clear hfz80_2); (try clear hfz80_3); (try clear hfz81_0); (try clear hfz81_1); (try clear hfz81_2); (try clear hfz81_3); (try clear hfz82_0); (try clear hfz82_1); (try clear hfz82_2); (try clear hfz82_3); (try clear hfz83_0); (try clear hfz83_1); (try clear hfz83_2); (try clear hfz83_3); (try clear hx186_0); (try clear p1); (try clear p18); (try clear p186); (try clear p2); (try clear p22); (try clear p3); (try clear p34); (try clear p4); (try clear p40); (try clear p43); (try clear p49); (try clear p5); (try clear p53); (try clear p59); (try clear p6); (try clear p63); (try clear p64); (try clear p69); (try clear p7); (try clear p73); (try clear p79); (try clear q1); (try clear q18); (try clear q186); (try clear q2); (try clear q22); (try clear q3); (try clear q34); (try clear q4); (try clear q40); (try clear q43); (try clear q49); (try clear q5); (try clear q53); (try clear q59); (try clear q6); (try clear q63); (try clear q69); (try clear q7); (try clear q73); (try clear q79)
                                          obtain ⟨kq, x17_83, rfl, HA, HJ83, HO_12, BK184, HB⟩ := hcut
                                          cases kq with
                                          | zero => exact absurd HA.out (by simp [reedpenref26_Keys.j8])
                                          | succ kj83 =>
                                            have H := HA.out
                                            clear HA
                                            simp only [reedpenref26_Keys.j8] at H
                                            have HC86 := Aside0.mk H
                                            clear H
                                            go_upto_block 4 with (fail)
                                            go_cut [17] (fun v17 wc => ∃ (kq : Nat) (x17_85 : Int), v17 = .int .i64 x17_85 ∧ Aside0 (reedpenref26_Keys.j11 kq l2 a3 a4 t185 x12_1 x13_1 x17_85 a0_0 a0_1 a0_2 a0_3 = some r) ∧ Aside0 (kq ≤ kj83) ∧ Aside0 (Kd.R (Kd.int .i64) 3 wc w.heap.size (fun _ => True) u12 x12_1) ∧ Aside0 (wc.heap[gb184]? = some (.cells #[.int .i64 a0_0, .string a0_1, .bool a0_2, .int .i64 a0_3] 23 (0, 0))) ∧ Aside0 (Below w.heap.size w wc))
                                            case first => as_aux_lemma =>
                                              have H := HC86.out
                                              clear HC86
                                              by_cases c87 : 0 ≤ x13_1
                                              · rw [if_pos c87] at H
                                                have c87b0 : decide (0 ≤ x13_1) = true := decide_eq_true c87
                                                clear c87
                                                (first | rw [c87b0] | (simp only [i64_w, i32_w]; rw [c87b0]) | skip)
                                                by_cases c88 : x13_1 < (t185.size : Int)
                                                · rw [if_pos c88] at H
                                                  have c88b0 : decide (x13_1 < (t185.size : Int)) = true := decide_eq_true c88
                                                  clear c88
                                                  by_cases c90 : (bt t185 x13_1) = 83
                                                  · rw [if_pos c90] at H
                                                    have c90b0 : ((bt t185 x13_1) == 83) = true := beq_iff_eq.mpr c90
                                                    have c90b1 : ((bt t185 x13_1) != 83) = false := bne_eq_false_iff_eq.mpr c90
                                                    clear c90
                                                    have H' := Aside0.mk H
                                                    clear H
                                                    have p89 : 0 ≤ (x13_1 : Int) := of_decide_eq_true (by first | (with_reducible assumption) | assumption)
                                                    have q89 : x13_1 < (t185.size : Int) := of_decide_eq_true (by first | (with_reducible assumption) | assumption)
                                                    have hx89 := bt_at t185 x13_1
                                                    replace p89 := eq_true p89
                                                    replace q89 := eq_true q89
                                                    go_wp2
                                                    go_meet
                                                    case rel => exact ⟨_, (9), (by first | rfl | (simp; done) | (simp [*]; done)), H', ⟨by have := HK1.out; have := HJ9.out; have := HJ12.out; have := HK4.out; have := HJ23.out; have := HJ25.out; have := HJ27.out; have := HJ29.out; have := HJ83.out; first | omega | exact Nat.le_refl _⟩, ⟨by (with_reducible repeat (first | apply Kd.R_alloc | apply Kd.R_drewN | apply Kd.R_drew)); exact HO_12.out⟩, ⟨by (with_reducible repeat (first | refine blk_drewN ?_ _ | refine blk_drew ?_ | refine blk_alloc ?_ _)); exact BK184.out⟩, ⟨by repeat (first | (with_reducible first | exact HB.out | apply below_alloc | apply pw_below_drewN | apply below_drew1 | refine below_set ?_ GE184.out) | exact HB.out)⟩⟩
                                                  · rw [if_neg c90] at H
                                                    have c90b0 : ((bt t185 x13_1) == 83) = false := beq_eq_false_iff_ne.mpr c90
                                                    have c90b1 : ((bt t185 x13_1) != 83) = true := bne_iff_ne.mpr c90
                                                    have HC91 := Aside0.mk H
                                                    clear H
                                                    have p89 : 0 ≤ (x13_1 : Int) := of_decide_eq_true (by first | (with_reducible assumption) | assumption)
                                                    have q89 : x13_1 < (t185.size : Int) := of_decide_eq_true (by first | (with_reducible assumption) | assumption)
                                                    have hx89 := bt_at t185 x13_1
                                                    replace p89 := eq_true p89
                                                    replace q89 := eq_true q89
                                                    go_upto_region 27 with (fail)
                                                    go_cut [121] (fun v121 wc => ∃ (kq : Nat) (x121_90 : Bool), v121 = .bool x121_90 ∧ Aside0 (reedpenref26_Keys.j9 kq l2 a3 a4 t185 x12_1 x13_1 x14_9 x17_83 x121_90 a0_0 a0_1 a0_2 a0_3 = some r) ∧ Aside0 (kq ≤ kj83) ∧ Aside0 (Kd.R (Kd.int .i64) 3 wc w.heap.size (fun _ => True) u12 x12_1) ∧ Aside0 (wc.heap[gb184]? = some (.cells #[.int .i64 a0_0, .string a0_1, .bool a0_2, .int .i64 a0_3] 23 (0, 0))) ∧ Aside0 (Below w.heap.size w wc))
                                                    case first => as_aux_lemma =>
                                                      have H := HC91.out
                                                      clear HC91
                                                      by_cases c93 : (bt t185 x13_1) = 77
                                                      · rw [if_pos c93] at H
                                                        have c93b0 : ((bt t185 x13_1) == 77) = true := beq_iff_eq.mpr c93
                                                        have c93b1 : ((bt t185 x13_1) != 77) = false := bne_eq_false_iff_eq.mpr c93
                                                        clear c93
                                                        (first | rw [c93b0] | (simp only [i64_w, i32_w]; rw [c93b0]) | skip)
                                                        have H' := Aside0.mk H
                                                        clear H
                                                        have p92 : 0 ≤ (x13_1 : Int) := of_decide_eq_true (by first | (with_reducible assumption) | assumption)
                                                        have q92 : x13_1 < (t185.size : Int) := of_decide_eq_true (by first | (with_reducible assumption) | assumption)
                                                        have hx92 := bt_at t185 x13_1
                                                        replace p92 := eq_true p92
                                                        replace q92 := eq_true q92
                                                        go_wp2
                                                        go_meet
                                                        case rel => exact ⟨_, (true), (by first | rfl | (simp; done) | (simp [*]; done)), H', ⟨by have := HK1.out; have := HJ9.out; have := HJ12.out; have := HK4.out; have := HJ23.out; have := HJ25.out; have := HJ27.out; have := HJ29.out; have := HJ83.out; first | omega | exact Nat.le_refl _⟩, ⟨by (with_reducible repeat (first | apply Kd.R_alloc | apply Kd.R_drewN | apply Kd.R_drew)); exact HO_12.out⟩, ⟨by (with_reducible repeat (first | refine blk_drewN ?_ _ | refine blk_drew ?_ | refine blk_alloc ?_ _)); exact BK184.out⟩, ⟨by repeat (first | (with_reducible first | exact HB.out | apply below_alloc | apply pw_below_drewN | apply below_drew1 | refine below_set ?_ GE184.out) | exact HB.out)⟩⟩
                                                      · rw [if_neg c93] at H
                                                        have c93b0 : ((bt t185 x13_1) == 77) = false := beq_eq_false_iff_ne.mpr c93
                                                        have c93b1 : ((bt t185 x13_1) != 77) = true := bne_iff_ne.mpr c93
                                                        (first | rw [c93b0] | (simp only [i64_w, i32_w]; rw [c93b0]) | skip)
                                                        by_cases c95 : (bt t185 x13_1) = 84
                                                        · rw [if_pos c95] at H
                                                          have c95b0 : ((bt t185 x13_1) == 84) = true := beq_iff_eq.mpr c95
                                                          have c95b1 : ((bt t185 x13_1) != 84) = false := bne_eq_false_iff_eq.mpr c95
                                                          clear c95
                                                          have H' := Aside0.mk H
                                                          clear H
                                                          have p92 : 0 ≤ (x13_1 : Int) := of_decide_eq_true (by first | (with_reducible assumption) | assumption)
                                                          have q92 : x13_1 < (t185.size : Int) := of_decide_eq_true (by first | (with_reducible assumption) | assumption)
                                                          have hx92 := bt_at t185 x13_1
                                                          replace p92 := eq_true p92
                                                          replace q92 := eq_true q92
                                                          have p94 : 0 ≤ (x13_1 : Int) := of_decide_eq_true (by first | (with_reducible assumption) | assumption)
                                                          have q94 : x13_1 < (t185.size : Int) := of_decide_eq_true (by first | (with_reducible assumption) | assumption)
                                                          have hx94 := bt_at t185 x13_1
                                                          replace p94 := eq_true p94
                                                          replace q94 := eq_true q94
                                                          go_wp2
                                                          go_meet
                                                          case rel => exact ⟨_, ((x14_9 == 1)), (by first | rfl | (simp; done) | (simp [*]; done)), H', ⟨by have := HK1.out; have := HJ9.out; have := HJ12.out; have := HK4.out; have := HJ23.out; have := HJ25.out; have := HJ27.out; have := HJ29.out; have := HJ83.out; first | omega | exact Nat.le_refl _⟩, ⟨by (with_reducible repeat (first | apply Kd.R_alloc | apply Kd.R_drewN | apply Kd.R_drew)); exact HO_12.out⟩, ⟨by (with_reducible repeat (first | refine blk_drewN ?_ _ | refine blk_drew ?_ | refine blk_alloc ?_ _)); exact BK184.out⟩, ⟨by repeat (first | (with_reducible first | exact HB.out | apply below_alloc | apply pw_below_drewN | apply below_drew1 | refine below_set ?_ GE184.out) | exact HB.out)⟩⟩
                                                        · rw [if_neg c95] at H
                                                          have c95b0 : ((bt t185 x13_1) == 84) = false := beq_eq_false_iff_ne.mpr c95
                                                          have c95b1 : ((bt t185 x13_1) != 84) = true := bne_iff_ne.mpr c95
                                                          have H' := Aside0.mk H
                                                          clear H
                                                          have p92 : 0 ≤ (x13_1 : Int) := of_decide_eq_true (by first | (with_reducible assumption) | assumption)
                                                          have q92 : x13_1 < (t185.size : Int) := of_decide_eq_true (by first | (with_reducible assumption) | assumption)
                                                          have hx92 := bt_at t185 x13_1
                                                          replace p92 := eq_true p92
                                                          replace q92 := eq_true q92
                                                          have p94 : 0 ≤ (x13_1 : Int) := of_decide_eq_true (by first | (with_reducible assumption) | assumption)
                                                          have q94 : x13_1 < (t185.size : Int) := of_decide_eq_true (by first | (with_reducible assumption) | assumption)
                                                          have hx94 := bt_at t185 x13_1
                                                          replace p94 := eq_true p94
                                                          replace q94 := eq_true q94
                                                          go_wp2
                                                          go_meet
                                                          case rel => exact ⟨_, (false), (by first | rfl | (simp; done) | (simp [*]; done)), H', ⟨by have := HK1.out; have := HJ9.out; have := HJ12.out; have := HK4.out; have := HJ23.out; have := HJ25.out; have := HJ27.out; have := HJ29.out; have := HJ83.out; first | omega | exact Nat.le_refl _⟩, ⟨by (with_reducible repeat (first | apply Kd.R_alloc | apply Kd.R_drewN | apply Kd.R_drew)); exact HO_12.out⟩, ⟨by (with_reducible repeat (first | refine blk_drewN ?_ _ | refine blk_drew ?_ | refine blk_alloc ?_ _)); exact BK184.out⟩, ⟨by repeat (first | (with_reducible first | exact HB.out | apply below_alloc | apply pw_below_drewN | apply below_drew1 | refine below_set ?_ GE184.out) | exact HB.out)⟩⟩
                                                    case rest => as_aux_lemma =>
                                                      clear HC91
                                                      (try clear c1); (try clear p1); (try clear q1); (try clear hx1); (try clear c2); (try clear p2); (try clear q2); (try clear hx2); (try clear c3); (try clear p3); (try clear q3); (try clear hx3); (try clear c4); (try clear p4); (try clear q4); (try clear hx4); (try clear c5); (try clear p5); (try clear q5); (try clear hx5); (try clear c6); (try clear p6); (try clear q6); (try clear hx6); (try clear c7); (try clear p7); (try clear q7); (try clear hx7); (try clear c8); (try clear p8); (try clear q8); (try clear hx8); (try clear c9); (try clear c9b0); (try clear p9); (try clear q9); (try clear hx9); (try clear c11); (try clear c11b0); (try clear c12); (try clear c12b0); (try clear c14); (try clear c14b0); (try clear c15); (try clear c16); (try clear c18); (try clear c18b0); (try clear p18); (try clear q18); (try clear hx18); (try clear c19); (try clear c20); (try clear c20b0); (try clear c21); (try clear c21b0); (try clear p22); (try clear q22); (try clear hx22); (try clear c25); (try clear c27); (try clear c27b0); (try clear c29); (try clear c31); (try clear c31b0); (try clear c31b1); (try clear c32); (try clear c32b0); (try clear c33); (try clear c33b0); (try clear p34); (try clear q34); (try clear hx34); (try clear c35); (try clear c35b0); (try clear c35b1); (try clear c36); (try clear c36b0); (try clear c37); (try clear c37b0); (try clear c39); (try clear c39b0); (try clear p40); (try clear q40); (try clear hx40); (try clear c41); (try clear c41b0); (try clear c41b1); (try clear p43); (try clear q43); (try clear hx43); (try clear c44); (try clear c44b0); (try clear c44b1); (try clear c45); (try clear c45b0); (try clear c47); (try clear c47b0); (try clear c48); (try clear c48b0); (try clear p49); (try clear q49); (try clear hx49); (try clear p53); (try clear q53); (try clear hx53); (try clear c54); (try clear c54b0); (try clear c54b1); (try clear c55); (try clear c55b0); (try clear c57); (try clear c57b0); (try clear c58); (try clear c58b0); (try clear p59); (try clear q59); (try clear hx59); (try clear p63); (try clear q63); (try clear hx63); (try clear c64); (try clear c64b0); (try clear c64b1); (try clear p64); (try clear c65); (try clear c65b0); (try clear c67); (try clear c67b0); (try clear c68); (try clear c68b0); (try clear p69); (try clear q69); (try clear hx69); (try clear p73); (try clear q73); (try clear hx73); (try clear c74); (try clear c74b0); (try clear c74b1); (try clear c75); (try clear c75b0); (try clear c77); (try clear c77b0); (try clear c78); (try clear c78b0); (try clear p79); (try clear q79); (try clear hx79); (try clear c85); (try clear c87); (try clear c87b0); (try clear c88); (try clear c88b0); (try clear p89); (try clear q89); (try clear hx89); (try clear c90); (try clear c90b0); (try clear c90b1); (try clear p92); (try clear q92); (try clear hx92); (try clear c93); (try clear c93b0); (try clear c93b1); (try clear p94); (try clear q94); (try clear hx94); (try clear c95); (try clear c95b0); (try clear c95b1); (try clear hcz42_0); (try clear hcz42_1); (try clear hcz42_2); (try clear hcz42_3); (try clear hcz50_0); (try clear hcz50_1); (try clear hcz50_2); (try clear hcz50_3); (try clear hcz51_0); (try clear hcz51_1); (try clear hcz51_2); (try clear hcz51_3); (try clear hcz52_0); (try clear hcz52_1); (try clear hcz52_2); (try clear hcz52_3); (try clear hcz60_0); (try clear hcz60_1); (try clear hcz60_2); (try clear hcz60_3); (try clear hcz61_0); (try clear hcz61_1); (try clear hcz61_2); (try clear hcz61_3); (try clear hcz62_0); (try clear hcz62_1); (try clear hcz62_2); (try clear hcz62_3); (try clear hcz70_0); (try clear hcz70_1); (try clear hcz70_2); (try clear hcz70_3); (try clear hcz71_0); (try clear hcz71_1); (try clear hcz71_2); (try clear hcz71_3); (try clear hcz72_0); (try clear hcz72_1); (try clear hcz72_2); (try clear hcz72_3); (try clear hcz80_0); (try clear hcz80_1); (try clear hcz80_2); (try clear hcz80_3); (try clear hcz81_0); (try clear hcz81_1); (try clear hcz81_2); (try clear hcz81_3); (try clear hcz82_0); (try clear hcz82_1); (try clear hcz82_2); (try clear hcz82_3); (try clear hcz83_0); (try clear hcz83_1); (try clear hcz83_2); (try clear hcz83_3); (try clear hfz42_0); (try clear hfz42_1); (try clear hfz42_2); (try clear hfz42_3); (try clear hfz50_0); (try clear hfz50_1); (try clear hfz50_2); (try clear hfz50_3); (try clear hfz51_0); (try clear hfz51_1); (try clear hfz51_2); (try clear hfz51_3); (try clear hfz52_0); (try clear hfz52_1); (try clear hfz52_2); (try clear hfz52_3); (try clear hfz60_0); (try clear hfz60_1); (try clear hfz60_2); (try clear hfz60_3); (try clear hfz61_0); (try clear hfz61_1); (try clear hfz61_2); (try clear hfz61_3); (try clear hfz62_0); (try clear hfz62_1); (try clear hfz62_2); (try clear hfz62_3); (try clear hfz70_0); (try clear hfz70_1); (try clear hfz70_2); (try clear hfz70_3); (try clear hfz71_0); (try clear hfz71_1); (try clear hfz71_2); (try clear hfz71_3); (try clear hfz72_0); (try clear hfz72_1); (try clear hfz72_2); (try clear hfz72_3); (try clear hfz80_0); (try clear hfz80_1); (try clear hfz80_2); (try clear hfz80_3); (try clear hfz81_0); (try clear hfz81_1); (try clear hfz81_2); (try clear hfz81_3); (try clear hfz82_0); (try clear hfz82_1); (try clear hfz82_2); (try clear hfz82_3); (try clear hfz83_0); (try clear hfz83_1); (try clear hfz83_2); (try clear hfz83_3); (try clear hx186_0); (try clear p1); (try clear p18); (try clear p186); (try clear p2); (try clear p22); (try clear p3); (try clear p34); (try clear p4); (try clear p40); (try clear p43); (try clear p49); (try clear p5); (try clear p53); (try clear p59); (try clear p6); (try clear p63); (try clear p64); (try clear p69); (try clear p7); (try clear p73); (try clear p79); (try clear p89); (try clear p92); (try clear p94); (try clear q1); (try clear q18); (try clear q186); (try clear q2); (try clear q22); (try clear q3); (try clear q34); (try clear q4); (try clear q40); (try clear q43); (try clear q49); (try clear q5); (try clear q53); (try clear q59); (try clear q6); (try clear q63); (try clear q69); (try clear q7); (try clear q73); (try clear q79); (try clear q89); (try clear q92); (try clear q94)
                                                      obtain ⟨kq, x121_90, rfl, HA, HJ90, HO_12, BK184, HB⟩ := hcut
                                                      cases kq with
                                                      | zero => exact absurd HA.out (by simp [reedpenref26_Keys.j9])
                                                      | succ kj90 =>
                                                        have H := HA.out
                                                        clear HA
                                                        simp only [reedpenref26_Keys.j9] at H
                                                        by_cases c96 : x121_90 = true
                                                        · subst c96
                                                          have H1 : (if x14_9 = 1 then (reedpenref26_Keys.j10 kj90 l2 a3 a4 t185 x12_1 x13_1 x14_9 1 a0_0 a0_1 a0_2 a0_3) else (reedpenref26_Keys.j10 kj90 l2 a3 a4 t185 x12_1 x13_1 x14_9 8 a0_0 a0_1 a0_2 a0_3)) = some r := by rw [if_pos rfl] at H; exact H
                                                          clear H
                                                          have H := H1
                                                          clear H1
                                                          have HC97 := Aside0.mk H
                                                          clear H
                                                          go_upto_if 137 with (fail)
                                                          go_cut [17] (fun v17 wc => ∃ (kq : Nat) (x17_96 : Int), v17 = .int .i64 x17_96 ∧ Aside0 (reedpenref26_Keys.j10 kq l2 a3 a4 t185 x12_1 x13_1 x14_9 x17_96 a0_0 a0_1 a0_2 a0_3 = some r) ∧ Aside0 (kq ≤ kj90) ∧ Aside0 (Kd.R (Kd.int .i64) 3 wc w.heap.size (fun _ => True) u12 x12_1) ∧ Aside0 (wc.heap[gb184]? = some (.cells #[.int .i64 a0_0, .string a0_1, .bool a0_2, .int .i64 a0_3] 23 (0, 0))) ∧ Aside0 (Below w.heap.size w wc))
                                                          case first => as_aux_lemma =>
                                                            have H := HC97.out
                                                            clear HC97
                                                            by_cases c98 : x14_9 = 1
                                                            · rw [if_pos c98] at H
                                                              have c98b0 : (x14_9 == 1) = true := beq_iff_eq.mpr c98
                                                              have c98b1 : (x14_9 != 1) = false := bne_eq_false_iff_eq.mpr c98
                                                              clear c98
                                                              (first | rw [c98b0] | (simp only [i64_w, i32_w]; rw [c98b0]) | skip)
                                                              have H' := Aside0.mk H
                                                              clear H
                                                              go_wp2
                                                              go_meet
                                                              case rel => exact ⟨_, (1), (by first | rfl | (simp; done) | (simp [*]; done)), H', ⟨by have := HK1.out; have := HJ9.out; have := HJ12.out; have := HK4.out; have := HJ23.out; have := HJ25.out; have := HJ27.out; have := HJ29.out; have := HJ83.out; have := HJ90.out; first | omega | exact Nat.le_refl _⟩, ⟨by (with_reducible repeat (first | apply Kd.R_alloc | apply Kd.R_drewN | apply Kd.R_drew)); exact HO_12.out⟩, ⟨by (with_reducible repeat (first | refine blk_drewN ?_ _ | refine blk_drew ?_ | refine blk_alloc ?_ _)); exact BK184.out⟩, ⟨by repeat (first | (with_reducible first | exact HB.out | apply below_alloc | apply pw_below_drewN | apply below_drew1 | refine below_set ?_ GE184.out) | exact HB.out)⟩⟩
                                                            · rw [if_neg c98] at H
                                                              have c98b0 : (x14_9 == 1) = false := beq_eq_false_iff_ne.mpr c98
                                                              have c98b1 : (x14_9 != 1) = true := bne_iff_ne.mpr c98
                                                              (first | rw [c98b0] | (simp only [i64_w, i32_w]; rw [c98b0]) | skip)
                                                              have H' := Aside0.mk H
                                                              clear H
                                                              go_wp2
                                                              go_meet
                                                              case rel => exact ⟨_, (8), (by first | rfl | (simp; done) | (simp [*]; done)), H', ⟨by have := HK1.out; have := HJ9.out; have := HJ12.out; have := HK4.out; have := HJ23.out; have := HJ25.out; have := HJ27.out; have := HJ29.out; have := HJ83.out; have := HJ90.out; first | omega | exact Nat.le_refl _⟩, ⟨by (with_reducible repeat (first | apply Kd.R_alloc | apply Kd.R_drewN | apply Kd.R_drew)); exact HO_12.out⟩, ⟨by (with_reducible repeat (first | refine blk_drewN ?_ _ | refine blk_drew ?_ | refine blk_alloc ?_ _)); exact BK184.out⟩, ⟨by repeat (first | (with_reducible first | exact HB.out | apply below_alloc | apply pw_below_drewN | apply below_drew1 | refine below_set ?_ GE184.out) | exact HB.out)⟩⟩
                                                          case rest => as_aux_lemma =>
                                                            clear HC97
                                                            (try clear c1); (try clear p1); (try clear q1); (try clear hx1); (try clear c2); (try clear p2); (try clear q2); (try clear hx2); (try clear c3); (try clear p3); (try clear q3); (try clear hx3); (try clear c4); (try clear p4); (try clear q4); (try clear hx4); (try clear c5); (try clear p5); (try clear q5); (try clear hx5); (try clear c6); (try clear p6); (try clear q6); (try clear hx6); (try clear c7); (try clear p7); (try clear q7); (try clear hx7); (try clear c8); (try clear p8); (try clear q8); (try clear hx8); (try clear c9); (try clear c9b0); (try clear p9); (try clear q9); (try clear hx9); (try clear c11); (try clear c11b0); (try clear c12); (try clear c12b0); (try clear c14); (try clear c14b0); (try clear c15); (try clear c16); (try clear c18); (try clear c18b0); (try clear p18); (try clear q18); (try clear hx18); (try clear c19); (try clear c20); (try clear c20b0); (try clear c21); (try clear c21b0); (try clear p22); (try clear q22); (try clear hx22); (try clear c25); (try clear c27); (try clear c27b0); (try clear c29); (try clear c31); (try clear c31b0); (try clear c31b1); (try clear c32); (try clear c32b0); (try clear c33); (try clear c33b0); (try clear p34); (try clear q34); (try clear hx34); (try clear c35); (try clear c35b0); (try clear c35b1); (try clear c36); (try clear c36b0); (try clear c37); (try clear c37b0); (try clear c39); (try clear c39b0); (try clear p40); (try clear q40); (try clear hx40); (try clear c41); (try clear c41b0); (try clear c41b1); (try clear p43); (try clear q43); (try clear hx43); (try clear c44); (try clear c44b0); (try clear c44b1); (try clear c45); (try clear c45b0); (try clear c47); (try clear c47b0); (try clear c48); (try clear c48b0); (try clear p49); (try clear q49); (try clear hx49); (try clear p53); (try clear q53); (try clear hx53); (try clear c54); (try clear c54b0); (try clear c54b1); (try clear c55); (try clear c55b0); (try clear c57); (try clear c57b0); (try clear c58); (try clear c58b0); (try clear p59); (try clear q59); (try clear hx59); (try clear p63); (try clear q63); (try clear hx63); (try clear c64); (try clear c64b0); (try clear c64b1); (try clear p64); (try clear c65); (try clear c65b0); (try clear c67); (try clear c67b0); (try clear c68); (try clear c68b0); (try clear p69); (try clear q69); (try clear hx69); (try clear p73); (try clear q73); (try clear hx73); (try clear c74); (try clear c74b0); (try clear c74b1); (try clear c75); (try clear c75b0); (try clear c77); (try clear c77b0); (try clear c78); (try clear c78b0); (try clear p79); (try clear q79); (try clear hx79); (try clear c85); (try clear c87); (try clear c87b0); (try clear c88); (try clear c88b0); (try clear p89); (try clear q89); (try clear hx89); (try clear c90); (try clear c90b0); (try clear c90b1); (try clear p92); (try clear q92); (try clear hx92); (try clear c93); (try clear c93b0); (try clear c93b1); (try clear p94); (try clear q94); (try clear hx94); (try clear c95); (try clear c95b0); (try clear c95b1); (try clear c96); (try clear c98); (try clear c98b0); (try clear c98b1); (try clear hcz42_0); (try clear hcz42_1); (try clear hcz42_2); (try clear hcz42_3); (try clear hcz50_0); (try clear hcz50_1); (try clear hcz50_2); (try clear hcz50_3); (try clear hcz51_0); (try clear hcz51_1); (try clear hcz51_2); (try clear hcz51_3); (try clear hcz52_0); (try clear hcz52_1); (try clear hcz52_2); (try clear hcz52_3); (try clear hcz60_0); (try clear hcz60_1); (try clear hcz60_2); (try clear hcz60_3); (try clear hcz61_0); (try clear hcz61_1); (try clear hcz61_2); (try clear hcz61_3); (try clear hcz62_0); (try clear hcz62_1); (try clear hcz62_2); (try clear hcz62_3); (try clear hcz70_0); (try clear hcz70_1); (try clear hcz70_2); (try clear hcz70_3); (try clear hcz71_0); (try clear hcz71_1); (try clear hcz71_2); (try clear hcz71_3); (try clear hcz72_0); (try clear hcz72_1); (try clear hcz72_2); (try clear hcz72_3); (try clear hcz80_0); (try clear hcz80_1); (try clear hcz80_2); (try clear hcz80_3); (try clear hcz81_0); (try clear hcz81_1); (try clear hcz81_2); (try clear hcz81_3); (try clear hcz82_0); (try clear hcz82_1); (try clear hcz82_2); (try clear hcz82_3); (try clear hcz83_0); (try clear hcz83_1); (try clear hcz83_2); (try clear hcz83_3); (try clear hfz42_0); (try clear hfz42_1); (try clear hfz42_2); (try clear hfz42_3); (try clear hfz50_0); (try clear hfz50_1); (try clear hfz50_2); (try clear hfz50_3); (try clear hfz51_0); (try clear hfz51_1); (try clear hfz51_2); (try clear hfz51_3); (try clear hfz52_0); (try clear hfz52_1); (try clear hfz52_2); (try clear hfz52_3); (try clear hfz60_0); (try clear hfz60_1); (try clear hfz60_2); (try clear hfz60_3); (try clear hfz61_0); (try clear hfz61_1); (try clear hfz61_2); (try clear hfz61_3); (try clear hfz62_0); (try clear hfz62_1); (try clear hfz62_2); (try clear hfz62_3); (try clear hfz70_0); (try clear hfz70_1); (try clear hfz70_2); (try clear hfz70_3); (try clear hfz71_0); (try clear hfz71_1); (try clear hfz71_2); (try clear hfz71_3); (try clear hfz72_0); (try clear hfz72_1); (try clear hfz72_2); (try clear hfz72_3); (try clear hfz80_0); (try clear hfz80_1); (try clear hfz80_2); (try clear hfz80_3); (try clear hfz81_0); (try clear hfz81_1); (try clear hfz81_2); (try clear hfz81_3); (try clear hfz82_0); (try clear hfz82_1); (try clear hfz82_2); (try clear hfz82_3); (try clear hfz83_0); (try clear hfz83_1); (try clear hfz83_2); (try clear hfz83_3); (try clear hx186_0); (try clear p1); (try clear p18); (try clear p186); (try clear p2); (try clear p22); (try clear p3); (try clear p34); (try clear p4); (try clear p40); (try clear p43); (try clear p49); (try clear p5); (try clear p53); (try clear p59); (try clear p6); (try clear p63); (try clear p64); (try clear p69); (try clear p7); (try clear p73); (try clear p79); (try clear p8); (try clear p89); (try clear p9); (try clear p92); (try clear p94); (try clear q1); (try clear q18); (try clear q186); (try clear q2); (try clear q22); (try clear q3); (try clear q34); (try clear q4); (try clear q40); (try clear q43); (try clear q49); (try clear q5); (try clear q53); (try clear q59); (try clear q6); (try clear q63); (try clear q69); (try clear q7); (try clear q73); (try clear q79); (try clear q8); (try clear q89); (try clear q9); (try clear q92); (try clear q94)
                                                            obtain ⟨kq, x17_96, rfl, HA, HJ96, HO_12, BK184, HB⟩ := hcut
                                                            cases kq with
                                                            | zero => exact absurd HA.out (by simp [reedpenref26_Keys.j10])
                                                            | succ kj96 =>
                                                              have H := HA.out
                                                              clear HA
                                                              simp only [reedpenref26_Keys.j10] at H
                                                              by_cases c99 : x14_9 = 2
                                                              · rw [if_pos c99] at H
                                                                have c99b0 : (x14_9 == 2) = true := beq_iff_eq.mpr c99
                                                                have c99b1 : (x14_9 != 2) = false := bne_eq_false_iff_eq.mpr c99
                                                                clear c99
                                                                by_cases c100 : x14_9 = 3
                                                                · rw [if_pos c100] at H
                                                                  have c100b0 : (x14_9 == 3) = true := beq_iff_eq.mpr c100
                                                                  have c100b1 : (x14_9 != 3) = false := bne_eq_false_iff_eq.mpr c100
                                                                  clear c100
                                                                  have H' := Aside0.mk H
                                                                  clear H
                                                                  go_wp2
                                                                  go_meet
                                                                  case rel => exact ⟨_, (7), (by first | rfl | (simp; done) | (simp [*]; done)), H', ⟨by have := HK1.out; have := HJ9.out; have := HJ12.out; have := HK4.out; have := HJ23.out; have := HJ25.out; have := HJ27.out; have := HJ29.out; have := HJ83.out; have := HJ90.out; have := HJ96.out; first | omega | exact Nat.le_refl _⟩, ⟨by (with_reducible repeat (first | apply Kd.R_alloc | apply Kd.R_drewN | apply Kd.R_drew)); exact HO_12.out⟩, ⟨by (with_reducible repeat (first | refine blk_drewN ?_ _ | refine blk_drew ?_ | refine blk_alloc ?_ _)); exact BK184.out⟩, ⟨by repeat (first | (with_reducible first | exact HB.out | apply below_alloc | apply pw_below_drewN | apply below_drew1 | refine below_set ?_ GE184.out) | exact HB.out)⟩⟩
                                                                · rw [if_neg c100] at H
                                                                  have c100b0 : (x14_9 == 3) = false := beq_eq_false_iff_ne.mpr c100
                                                                  have c100b1 : (x14_9 != 3) = true := bne_iff_ne.mpr c100
                                                                  have H' := Aside0.mk H
                                                                  clear H
                                                                  go_wp2
                                                                  go_meet
                                                                  case rel => exact ⟨_, (6), (by first | rfl | (simp; done) | (simp [*]; done)), H', ⟨by have := HK1.out; have := HJ9.out; have := HJ12.out; have := HK4.out; have := HJ23.out; have := HJ25.out; have := HJ27.out; have := HJ29.out; have := HJ83.out; have := HJ90.out; have := HJ96.out; first | omega | exact Nat.le_refl _⟩, ⟨by (with_reducible repeat (first | apply Kd.R_alloc | apply Kd.R_drewN | apply Kd.R_drew)); exact HO_12.out⟩, ⟨by (with_reducible repeat (first | refine blk_drewN ?_ _ | refine blk_drew ?_ | refine blk_alloc ?_ _)); exact BK184.out⟩, ⟨by repeat (first | (with_reducible first | exact HB.out | apply below_alloc | apply pw_below_drewN | apply below_drew1 | refine below_set ?_ GE184.out) | exact HB.out)⟩⟩
                                                              · rw [if_neg c99] at H
                                                                have c99b0 : (x14_9 == 2) = false := beq_eq_false_iff_ne.mpr c99
                                                                have c99b1 : (x14_9 != 2) = true := bne_iff_ne.mpr c99
                                                                by_cases c101 : x14_9 = 3
                                                                · rw [if_pos c101] at H
                                                                  have c101b0 : (x14_9 == 3) = true := beq_iff_eq.mpr c101
                                                                  have c101b1 : (x14_9 != 3) = false := bne_eq_false_iff_eq.mpr c101
                                                                  clear c101
                                                                  have H' := Aside0.mk H
                                                                  clear H
                                                                  go_wp2
                                                                  go_meet
                                                                  case rel => exact ⟨_, (7), (by first | rfl | (simp; done) | (simp [*]; done)), H', ⟨by have := HK1.out; have := HJ9.out; have := HJ12.out; have := HK4.out; have := HJ23.out; have := HJ25.out; have := HJ27.out; have := HJ29.out; have := HJ83.out; have := HJ90.out; have := HJ96.out; first | omega | exact Nat.le_refl _⟩, ⟨by (with_reducible repeat (first | apply Kd.R_alloc | apply Kd.R_drewN | apply Kd.R_drew)); exact HO_12.out⟩, ⟨by (with_reducible repeat (first | refine blk_drewN ?_ _ | refine blk_drew ?_ | refine blk_alloc ?_ _)); exact BK184.out⟩, ⟨by repeat (first | (with_reducible first | exact HB.out | apply below_alloc | apply pw_below_drewN | apply below_drew1 | refine below_set ?_ GE184.out) | exact HB.out)⟩⟩
                                                                · rw [if_neg c101] at H
                                                                  have c101b0 : (x14_9 == 3) = false := beq_eq_false_iff_ne.mpr c101
                                                                  have c101b1 : (x14_9 != 3) = true := bne_iff_ne.mpr c101
                                                                  have H' := Aside0.mk H
                                                                  clear H
                                                                  go_wp2
                                                                  go_meet
                                                                  case rel => exact ⟨_, (x17_96), (by first | rfl | (simp; done) | (simp [*]; done)), H', ⟨by have := HK1.out; have := HJ9.out; have := HJ12.out; have := HK4.out; have := HJ23.out; have := HJ25.out; have := HJ27.out; have := HJ29.out; have := HJ83.out; have := HJ90.out; have := HJ96.out; first | omega | exact Nat.le_refl _⟩, ⟨by (with_reducible repeat (first | apply Kd.R_alloc | apply Kd.R_drewN | apply Kd.R_drew)); exact HO_12.out⟩, ⟨by (with_reducible repeat (first | refine blk_drewN ?_ _ | refine blk_drew ?_ | refine blk_alloc ?_ _)); exact BK184.out⟩, ⟨by repeat (first | (with_reducible first | exact HB.out | apply below_alloc | apply pw_below_drewN | apply below_drew1 | refine below_set ?_ GE184.out) | exact HB.out)⟩⟩
                                                        · replace c96 := Bool.eq_false_iff.mpr c96
                                                          subst c96
                                                          have H1 : (reedpenref26_Keys.j11 kj90 l2 a3 a4 t185 x12_1 x13_1 x17_83 a0_0 a0_1 a0_2 a0_3) = some r := by rw [if_neg (show ¬ (false = true) by decide)] at H; exact H
                                                          clear H
                                                          have H := H1
                                                          clear H1
                                                          have H' := Aside0.mk H
                                                          clear H
                                                          go_wp2
                                                          go_meet
                                                          case rel => exact ⟨_, (x17_83), (by first | rfl | (simp; done) | (simp [*]; done)), H', ⟨by have := HK1.out; have := HJ9.out; have := HJ12.out; have := HK4.out; have := HJ23.out; have := HJ25.out; have := HJ27.out; have := HJ29.out; have := HJ83.out; have := HJ90.out; first | omega | exact Nat.le_refl _⟩, ⟨by (with_reducible repeat (first | apply Kd.R_alloc | apply Kd.R_drewN | apply Kd.R_drew)); exact HO_12.out⟩, ⟨by (with_reducible repeat (first | refine blk_drewN ?_ _ | refine blk_drew ?_ | refine blk_alloc ?_ _)); exact BK184.out⟩, ⟨by repeat (first | (with_reducible first | exact HB.out | apply below_alloc | apply pw_below_drewN | apply below_drew1 | refine below_set ?_ GE184.out) | exact HB.out)⟩⟩
                                                · rw [if_neg c88] at H
                                                  exact absurd H (by simp)
                                              · rw [if_neg c87] at H
                                                exact absurd H (by simp)
                                            case rest => as_aux_lemma =>
                                              clear HC86
                                              (try clear c1); (try clear p1); (try clear q1); (try clear hx1); (try clear c2); (try clear p2); (try clear q2); (try clear hx2); (try clear c3); (try clear p3); (try clear q3); (try clear hx3); (try clear c4); (try clear p4); (try clear q4); (try clear hx4); (try clear c5); (try clear p5); (try clear q5); (try clear hx5); (try clear c6); (try clear p6); (try clear q6); (try clear hx6); (try clear c7); (try clear p7); (try clear q7); (try clear hx7); (try clear c8); (try clear p8); (try clear q8); (try clear hx8); (try clear c9); (try clear c9b0); (try clear p9); (try clear q9); (try clear hx9); (try clear c10); (try clear c11); (try clear c11b0); (try clear c12); (try clear c12b0); (try clear c14); (try clear c14b0); (try clear c15); (try clear c16); (try clear c18); (try clear c18b0); (try clear p18); (try clear q18); (try clear hx18); (try clear c19); (try clear c20); (try clear c20b0); (try clear c21); (try clear c21b0); (try clear p22); (try clear q22); (try clear hx22); (try clear c25); (try clear c27); (try clear c27b0); (try clear c29); (try clear c31); (try clear c31b0); (try clear c31b1); (try clear c32); (try clear c32b0); (try clear c33); (try clear c33b0); (try clear p34); (try clear q34); (try clear hx34); (try clear c35); (try clear c35b0); (try clear c35b1); (try clear c36); (try clear c36b0); (try clear c37); (try clear c37b0); (try clear c39); (try clear c39b0); (try clear p40); (try clear q40); (try clear hx40); (try clear c41); (try clear c41b0); (try clear c41b1); (try clear p43); (try clear q43); (try clear hx43); (try clear c44); (try clear c44b0); (try clear c44b1); (try clear c45); (try clear c45b0); (try clear c47); (try clear c47b0); (try clear c48); (try clear c48b0); (try clear p49); (try clear q49); (try clear hx49); (try clear p53); (try clear q53); (try clear hx53); (try clear c54); (try clear c54b0); (try clear c54b1); (try clear c55); (try clear c55b0); (try clear c57); (try clear c57b0); (try clear c58); (try clear c58b0); (try clear p59); (try clear q59); (try clear hx59); (try clear p63); (try clear q63); (try clear hx63); (try clear c64); (try clear c64b0); (try clear c64b1); (try clear p64); (try clear c65); (try clear c65b0); (try clear c67); (try clear c67b0); (try clear c68); (try clear c68b0); (try clear p69); (try clear q69); (try clear hx69); (try clear p73); (try clear q73); (try clear hx73); (try clear c74); (try clear c74b0); (try clear c74b1); (try clear c75); (try clear c75b0); (try clear c77); (try clear c77b0); (try clear c78); (try clear c78b0); (try clear p79); (try clear q79); (try clear hx79); (try clear c85); (try clear c87); (try clear c87b0); (try clear c88); (try clear c88b0); (try clear p89); (try clear q89); (try clear hx89); (try clear c90); (try clear c90b0); (try clear c90b1); (try clear p92); (try clear q92); (try clear hx92); (try clear c93); (try clear c93b0); (try clear c93b1); (try clear p94); (try clear q94); (try clear hx94); (try clear c95); (try clear c95b0); (try clear c95b1); (try clear c96); (try clear c98); (try clear c98b0); (try clear c98b1); (try clear c99); (try clear c99b0); (try clear c99b1); (try clear c100); (try clear c100b0); (try clear c100b1); (try clear c101); (try clear c101b0); (try clear c101b1); (try clear hcz42_0); (try clear hcz42_1); (try clear hcz42_2); (try clear hcz42_3); (try clear hcz50_0); (try clear hcz50_1); (try clear hcz50_2); (try clear hcz50_3); (try clear hcz51_0); (try clear hcz51_1); (try clear hcz51_2); (try clear hcz51_3); (try clear hcz52_0); (try clear hcz52_1); (try clear hcz52_2); (try clear hcz52_3); (try clear hcz60_0); (try clear hcz60_1); (try clear hcz60_2); (try clear hcz60_3); (try clear hcz61_0); (try clear hcz61_1); (try clear hcz61_2); (try clear hcz61_3); (try clear hcz62_0); (try clear hcz62_1); (try clear hcz62_2); (try clear hcz62_3); (try clear hcz70_0); (try clear hcz70_1); (try clear hcz70_2); (try clear hcz70_3); (try clear hcz71_0); (try clear hcz71_1); (try clear hcz71_2); (try clear hcz71_3); (try clear hcz72_0); (try clear hcz72_1); (try clear hcz72_2); (try clear hcz72_3); (try clear hcz80_0); (try clear hcz80_1); (try clear hcz80_2); (try clear hcz80_3); (try clear hcz81_0); (try clear hcz81_1); (try clear hcz81_2); (try clear hcz81_3); (try clear hcz82_0); (try clear hcz82_1); (try clear hcz82_2); (try clear hcz82_3); (try clear hcz83_0); (try clear hcz83_1); (try clear hcz83_2); (try clear hcz83_3); (try clear hfz42_0); (try clear hfz42_1); (try clear hfz42_2); (try clear hfz42_3); (try clear hfz50_0); (try clear hfz50_1); (try clear hfz50_2); (try clear hfz50_3); (try clear hfz51_0); (try clear hfz51_1); (try clear hfz51_2); (try clear hfz51_3); (try clear hfz52_0); (try clear hfz52_1); (try clear hfz52_2); (try clear hfz52_3); (try clear hfz60_0); (try clear hfz60_1); (try clear hfz60_2); (try clear hfz60_3); (try clear hfz61_0); (try clear hfz61_1); (try clear hfz61_2); (try clear hfz61_3); (try clear hfz62_0); (try clear hfz62_1); (try clear hfz62_2); (try clear hfz62_3); (try clear hfz70_0); (try clear hfz70_1); (try clear hfz70_2); (try clear hfz70_3); (try clear hfz71_0); (try clear hfz71_1); (try clear hfz71_2); (try clear hfz71_3); (try clear hfz72_0); (try clear hfz72_1); (try clear hfz72_2); (try clear hfz72_3); (try clear hfz80_0); (try clear hfz80_1); (try clear hfz80_2); (try clear hfz80_3); (try clear hfz81_0); (try clear hfz81_1); (try clear hfz81_2); (try clear hfz81_3); (try clear hfz82_0); (try clear hfz82_1); (try clear hfz82_2); (try clear hfz82_3); (try clear hfz83_0); (try clear hfz83_1); (try clear hfz83_2); (try clear hfz83_3); (try clear hx186_0); (try clear p1); (try clear p18); (try clear p186); (try clear p2); (try clear p22); (try clear p3); (try clear p34); (try clear p4); (try clear p40); (try clear p43); (try clear p49); (try clear p5); (try clear p53); (try clear p59); (try clear p6); (try clear p63); (try clear p64); (try clear p69); (try clear p7); (try clear p73); (try clear p79); (try clear p8); (try clear p89); (try clear p9); (try clear p92); (try clear p94); (try clear q1); (try clear q18); (try clear q186); (try clear q2); (try clear q22); (try clear q3); (try clear q34); (try clear q4); (try clear q40); (try clear q43); (try clear q49); (try clear q5); (try clear q53); (try clear q59); (try clear q6); (try clear q63); (try clear q69); (try clear q7); (try clear q73); (try clear q79); (try clear q8); (try clear q89); (try clear q9); (try clear q92); (try clear q94)
                                              obtain ⟨kq, x17_85, rfl, HA, HJ85, HO_12, BK184, HB⟩ := hcut
                                              cases kq with
                                              | zero => exact absurd HA.out (by simp [reedpenref26_Keys.j11])
                                              | succ kj85 =>
                                                have H := HA.out
                                                clear HA
                                                simp only [reedpenref26_Keys.j11] at H
                                                by_cases c102 : x13_1 < a3
                                                · rw [if_pos c102] at H
                                                  have c102b0 : decide (x13_1 < a3) = true := decide_eq_true c102
                                                  clear c102
                                                  by_cases c103 : a0_0 = 4
                                                  · rw [if_pos c103] at H
                                                    have c103b0 : (a0_0 == 4) = true := beq_iff_eq.mpr c103
                                                    have c103b1 : (a0_0 != 4) = false := bne_eq_false_iff_eq.mpr c103
                                                    clear c103
                                                    by_cases c104 : x12_1.length < 17592186044416
                                                    · rw [if_pos c104] at H
                                                      have LMc104 := Aside0.mk c104
                                                      clear c104
                                                      obtain ⟨y191, hy191⟩ : ∃ y_ : List Int, y_ = (x12_1 ++ [4]) := ⟨_, rfl⟩
                                                      replace H : (reedpenref26_Keys.l0 kj85 l2 a3 a4 t185 y191 (wrap64 (x13_1 + 1)) a0_0 a0_1 a0_2 a0_3) = some r := by first | (rw [hy191]; with_reducible exact H) | (have H2_ := (Option.bind_some _ _).symm.trans H; rw [hy191]; with_reducible exact H2_) | (have H2_ := (Option.bind_some _ _).symm.trans H; with_reducible exact H2_) | with_reducible exact H | (rw [hy191]; exact H) | exact H
                                                      have Ny191 := Aside0.mk hy191
                                                      clear hy191
                                                      have H' := Aside0.mk H
                                                      clear H
                                                      have hcz105_0 : wc.cell? ⟨gb184, 0, none⟩ = some (.int .i64 a0_0) := (blk_cell BK184.out 0).trans rfl
                                                      have hcz105_1 : wc.cell? ⟨gb184, 1, none⟩ = some (.string a0_1) := (blk_cell BK184.out 1).trans rfl
                                                      have hcz105_2 : wc.cell? ⟨gb184, 2, none⟩ = some (.bool a0_2) := (blk_cell BK184.out 2).trans rfl
                                                      have hcz105_3 : wc.cell? ⟨gb184, 3, none⟩ = some (.int .i64 a0_3) := (blk_cell BK184.out 3).trans rfl
                                                      have hfz105_0 := blk_frozen BK184.out 0
                                                      have hfz105_1 := blk_frozen BK184.out 1
                                                      have hfz105_2 := blk_frozen BK184.out 2
                                                      have hfz105_3 := blk_frozen BK184.out 3
                                                      go_wp2_with (first | ((with_reducible refine gate_builtin (b := .append) (xs := #[.tmp 148, .tmp 150]) rfl ?_); (try (refine gate_guard (by rfl) ?_; dsimp only)); at_builtin; refine Kd.R_append (Kd.int .i64) (w0 := w) w.heap.size rfl (.tmp 148) (.tmp 150) 24 3 (.int .i64 0) 8 rfl Try.underlying24 info3 rfl (by decide) (by omega) u12 x12_1 4 [.int .i64 4] (fun _ => True) (fun _ => False) rfl rfl ?aP (fun _ hk => hk.elim) ?aF ?aO ?aB ?aS ?aL ?_; (case aP => exact rfl); (case aB => exact (by repeat (first | (with_reducible first | exact HB.out | apply below_alloc | apply pw_below_drewN | apply below_drew1 | refine below_set ?_ GE184.out) | exact HB.out))); (case aF => exact (fun _ _ => trivial)); (case aO => exact (by (with_reducible repeat (first | apply Kd.R_alloc | apply Kd.R_drewN | apply Kd.R_drew)); exact HO_12.out)); (case aS => exact (below_size (by repeat (first | (with_reducible first | exact HB.out | apply below_alloc | apply pw_below_drewN | apply below_drew1 | refine below_set ?_ GE184.out) | exact HB.out)))); (case aL => have := LMc104.out; omega); intro v192 w106 ho hb hg hat; rw [← Ny191.out] at ho; have n0_ := Aside0.mk (blk_grown (g := gb184) (o := .cells #[.int .i64 a0_0, .string a0_1, .bool a0_2, .int .i64 a0_3] 23 (0, 0)) (by (with_reducible repeat (first | refine blk_drewN ?_ _ | refine blk_drew ?_ | refine blk_alloc ?_ _)); exact BK184.out) hg ((by first | exact Kd.R_ne HO_12.out BK184.out (by decide) | exact Kd.R_away HO_12.out (fun _ hk => hk.2) | exact Kd.R_away HO_12.out (fun _ hk => hk)))); have n1_ := Aside0.mk (hb); have n2_ := Aside0.mk (ho); clear BK184; clear HB; clear HO_12; have BK184 := n0_; have HB := n1_; have HO193 := n2_; clear n0_ n1_ n2_; clear ho hb hg hat))
                                                      go_roundg kj85
                                                      case measure => have := HK1.out; have := HJ9.out; have := HJ12.out; have := HK4.out; have := HJ23.out; have := HJ25.out; have := HJ27.out; have := HJ29.out; have := HJ83.out; have := HJ85.out; omega
                                                      case rel => exact ⟨(y191), (wrap64 (x13_1 + 1)), (by first | rfl | (simp; done) | (simp [*]; done)), H', ⟨by have := HK1.out; have := HJ9.out; have := HJ12.out; have := HK4.out; have := HJ23.out; have := HJ25.out; have := HJ27.out; have := HJ29.out; have := HJ83.out; have := HJ85.out; omega⟩, ⟨by (with_reducible repeat (first | apply Kd.R_alloc | apply Kd.R_drewN | apply Kd.R_drew)); exact HO193.out⟩, ⟨by (with_reducible repeat (first | refine blk_drewN ?_ _ | refine blk_drew ?_ | refine blk_alloc ?_ _)); exact BK184.out⟩, ⟨by repeat (first | (with_reducible first | exact HB.out | apply below_alloc | apply pw_below_drewN | apply below_drew1 | refine below_set ?_ GE184.out) | exact HB.out)⟩⟩
                                                    · rw [if_neg c104] at H
                                                      exact absurd H (by simp)
                                                  · rw [if_neg c103] at H
                                                    have c103b0 : (a0_0 == 4) = false := beq_eq_false_iff_ne.mpr c103
                                                    have c103b1 : (a0_0 != 4) = true := bne_iff_ne.mpr c103
                                                    by_cases c107 : x12_1.length < 17592186044416
                                                    · rw [if_pos c107] at H
                                                      have LMc107 := Aside0.mk c107
                                                      clear c107
                                                      obtain ⟨y194, hy194⟩ : ∃ y_ : List Int, y_ = (x12_1 ++ [0]) := ⟨_, rfl⟩
                                                      replace H : (reedpenref26_Keys.l0 kj85 l2 a3 a4 t185 y194 (wrap64 (x13_1 + 1)) a0_0 a0_1 a0_2 a0_3) = some r := by first | (rw [hy194]; with_reducible exact H) | (have H2_ := (Option.bind_some _ _).symm.trans H; rw [hy194]; with_reducible exact H2_) | (have H2_ := (Option.bind_some _ _).symm.trans H; with_reducible exact H2_) | with_reducible exact H | (rw [hy194]; exact H) | exact H
                                                      have Ny194 := Aside0.mk hy194
                                                      clear hy194
                                                      have H' := Aside0.mk H
                                                      clear H
                                                      have hcz108_0 : wc.cell? ⟨gb184, 0, none⟩ = some (.int .i64 a0_0) := (blk_cell BK184.out 0).trans rfl
                                                      have hcz108_1 : wc.cell? ⟨gb184, 1, none⟩ = some (.string a0_1) := (blk_cell BK184.out 1).trans rfl
                                                      have hcz108_2 : wc.cell? ⟨gb184, 2, none⟩ = some (.bool a0_2) := (blk_cell BK184.out 2).trans rfl
                                                      have hcz108_3 : wc.cell? ⟨gb184, 3, none⟩ = some (.int .i64 a0_3) := (blk_cell BK184.out 3).trans rfl
                                                      have hfz108_0 := blk_frozen BK184.out 0
                                                      have hfz108_1 := blk_frozen BK184.out 1
                                                      have hfz108_2 := blk_frozen BK184.out 2
                                                      have hfz108_3 := blk_frozen BK184.out 3
                                                      go_wp2_with (first | ((with_reducible refine gate_builtin (b := .append) (xs := #[.tmp 148, .tmp 150]) rfl ?_); (try (refine gate_guard (by rfl) ?_; dsimp only)); at_builtin; refine Kd.R_append (Kd.int .i64) (w0 := w) w.heap.size rfl (.tmp 148) (.tmp 150) 24 3 (.int .i64 0) 8 rfl Try.underlying24 info3 rfl (by decide) (by omega) u12 x12_1 0 [.int .i64 0] (fun _ => True) (fun _ => False) rfl rfl ?aP (fun _ hk => hk.elim) ?aF ?aO ?aB ?aS ?aL ?_; (case aP => exact rfl); (case aB => exact (by repeat (first | (with_reducible first | exact HB.out | apply below_alloc | apply pw_below_drewN | apply below_drew1 | refine below_set ?_ GE184.out) | exact HB.out))); (case aF => exact (fun _ _ => trivial)); (case aO => exact (by (with_reducible repeat (first | apply Kd.R_alloc | apply Kd.R_drewN | apply Kd.R_drew)); exact HO_12.out)); (case aS => exact (below_size (by repeat (first | (with_reducible first | exact HB.out | apply below_alloc | apply pw_below_drewN | apply below_drew1 | refine below_set ?_ GE184.out) | exact HB.out)))); (case aL => have := LMc107.out; omega); intro v195 w109 ho hb hg hat; rw [← Ny194.out] at ho; have n0_ := Aside0.mk (blk_grown (g := gb184) (o := .cells #[.int .i64 a0_0, .string a0_1, .bool a0_2, .int .i64 a0_3] 23 (0, 0)) (by (with_reducible repeat (first | refine blk_drewN ?_ _ | refine blk_drew ?_ | refine blk_alloc ?_ _)); exact BK184.out) hg ((by first | exact Kd.R_ne HO_12.out BK184.out (by decide) | exact Kd.R_away HO_12.out (fun _ hk => hk.2) | exact Kd.R_away HO_12.out (fun _ hk => hk)))); have n1_ := Aside0.mk (hb); have n2_ := Aside0.mk (ho); clear BK184; clear HB; clear HO_12; have BK184 := n0_; have HB := n1_; have HO196 := n2_; clear n0_ n1_ n2_; clear ho hb hg hat))
                                                      go_roundg kj85
                                                      case measure => have := HK1.out; have := HJ9.out; have := HJ12.out; have := HK4.out; have := HJ23.out; have := HJ25.out; have := HJ27.out; have := HJ29.out; have := HJ83.out; have := HJ85.out; omega
                                                      case rel => exact ⟨(y194), (wrap64 (x13_1 + 1)), (by first | rfl | (simp; done) | (simp [*]; done)), H', ⟨by have := HK1.out; have := HJ9.out; have := HJ12.out; have := HK4.out; have := HJ23.out; have := HJ25.out; have := HJ27.out; have := HJ29.out; have := HJ83.out; have := HJ85.out; omega⟩, ⟨by (with_reducible repeat (first | apply Kd.R_alloc | apply Kd.R_drewN | apply Kd.R_drew)); exact HO196.out⟩, ⟨by (with_reducible repeat (first | refine blk_drewN ?_ _ | refine blk_drew ?_ | refine blk_alloc ?_ _)); exact BK184.out⟩, ⟨by repeat (first | (with_reducible first | exact HB.out | apply below_alloc | apply pw_below_drewN | apply below_drew1 | refine below_set ?_ GE184.out) | exact HB.out)⟩⟩
                                                    · rw [if_neg c107] at H
                                                      exact absurd H (by simp)
                                                · rw [if_neg c102] at H
                                                  have c102b0 : decide (x13_1 < a3) = false := decide_eq_false c102
                                                  clear c102
                                                  by_cases c110 : x12_1.length < 17592186044416
                                                  · rw [if_pos c110] at H
                                                    have LMc110 := Aside0.mk c110
                                                    clear c110
                                                    obtain ⟨y197, hy197⟩ : ∃ y_ : List Int, y_ = (x12_1 ++ [x17_85]) := ⟨_, rfl⟩
                                                    replace H : (reedpenref26_Keys.l0 kj85 l2 a3 a4 t185 y197 (wrap64 (x13_1 + 1)) a0_0 a0_1 a0_2 a0_3) = some r := by first | (rw [hy197]; with_reducible exact H) | (have H2_ := (Option.bind_some _ _).symm.trans H; rw [hy197]; with_reducible exact H2_) | (have H2_ := (Option.bind_some _ _).symm.trans H; with_reducible exact H2_) | with_reducible exact H | (rw [hy197]; exact H) | exact H
                                                    have Ny197 := Aside0.mk hy197
                                                    clear hy197
                                                    have H' := Aside0.mk H
                                                    clear H
                                                    go_wp2_with (first | ((with_reducible refine gate_builtin (b := .append) (xs := #[.tmp 148, .tmp 150]) rfl ?_); (try (refine gate_guard (by rfl) ?_; dsimp only)); at_builtin; refine Kd.R_append (Kd.int .i64) (w0 := w) w.heap.size rfl (.tmp 148) (.tmp 150) 24 3 (.int .i64 0) 8 rfl Try.underlying24 info3 rfl (by decide) (by omega) u12 x12_1 x17_85 [.int .i64 x17_85] (fun _ => True) (fun _ => False) rfl rfl ?aP (fun _ hk => hk.elim) ?aF ?aO ?aB ?aS ?aL ?_; (case aP => exact rfl); (case aB => exact (by repeat (first | (with_reducible first | exact HB.out | apply below_alloc | apply pw_below_drewN | apply below_drew1 | refine below_set ?_ GE184.out) | exact HB.out))); (case aF => exact (fun _ _ => trivial)); (case aO => exact (by (with_reducible repeat (first | apply Kd.R_alloc | apply Kd.R_drewN | apply Kd.R_drew)); exact HO_12.out)); (case aS => exact (below_size (by repeat (first | (with_reducible first | exact HB.out | apply below_alloc | apply pw_below_drewN | apply below_drew1 | refine below_set ?_ GE184.out) | exact HB.out)))); (case aL => have := LMc110.out; omega); intro v198 w111 ho hb hg hat; rw [← Ny197.out] at ho; have n0_ := Aside0.mk (blk_grown (g := gb184) (o := .cells #[.int .i64 a0_0, .string a0_1, .bool a0_2, .int .i64 a0_3] 23 (0, 0)) (by (with_reducible repeat (first | refine blk_drewN ?_ _ | refine blk_drew ?_ | refine blk_alloc ?_ _)); exact BK184.out) hg ((by first | exact Kd.R_ne HO_12.out BK184.out (by decide) | exact Kd.R_away HO_12.out (fun _ hk => hk.2) | exact Kd.R_away HO_12.out (fun _ hk => hk)))); have n1_ := Aside0.mk (hb); have n2_ := Aside0.mk (ho); clear BK184; clear HB; clear HO_12; have BK184 := n0_; have HB := n1_; have HO199 := n2_; clear n0_ n1_ n2_; clear ho hb hg hat))
                                                    go_roundg kj85
                                                    case measure => have := HK1.out; have := HJ9.out; have := HJ12.out; have := HK4.out; have := HJ23.out; have := HJ25.out; have := HJ27.out; have := HJ29.out; have := HJ83.out; have := HJ85.out; omega
                                                    case rel => exact ⟨(y197), (wrap64 (x13_1 + 1)), (by first | rfl | (simp; done) | (simp [*]; done)), H', ⟨by have := HK1.out; have := HJ9.out; have := HJ12.out; have := HK4.out; have := HJ23.out; have := HJ25.out; have := HJ27.out; have := HJ29.out; have := HJ83.out; have := HJ85.out; omega⟩, ⟨by (with_reducible repeat (first | apply Kd.R_alloc | apply Kd.R_drewN | apply Kd.R_drew)); exact HO199.out⟩, ⟨by (with_reducible repeat (first | refine blk_drewN ?_ _ | refine blk_drew ?_ | refine blk_alloc ?_ _)); exact BK184.out⟩, ⟨by repeat (first | (with_reducible first | exact HB.out | apply below_alloc | apply pw_below_drewN | apply below_drew1 | refine below_set ?_ GE184.out) | exact HB.out)⟩⟩
                                                  · rw [if_neg c110] at H
                                                    exact absurd H (by simp)
      · rw [if_neg c9] at H
        have c9b0 : decide (x13_1 < (t185.size : Int)) = false := decide_eq_false c9
        clear c9
        obtain rfl := Option.some.inj H
        go_wp2
        go_ret
        exact ⟨_, by first | rfl | (simp [errW_none, errW_some] <;> rfl) | (simp [*, errW_none, errW_some] <;> rfl), by (with_reducible repeat (first | apply Kd.R_alloc | apply Kd.R_drewN | apply Kd.R_drew)); exact HO_12.out, by repeat (first | (with_reducible first | exact HB.out | apply below_alloc | apply pw_below_drewN | apply below_drew1 | refine below_set ?_ GE184.out) | exact HB.out)⟩

end Go.Proofs.Ytlpikbkdlnocdaa.K
