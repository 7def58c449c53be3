/- Plain law of MiniSmall. -/
import Derived.Test.YtnbnajjoinahiaaPT4
import Derived.Test.YtnbnajjoinahiaaPM0
set_option linter.unusedVariables false
set_option linter.unusedSimpArgs false
set_option maxRecDepth 100000
namespace Go.Proofs.Ytnbnajjoinahiaa.AI
theorem miniSmall_plain {N : Nat} (hN : 1000000000000 < N) (l0 : List (Vector Int 16)) (l1 : List Int) : law08_MiniSmall N l0 l1 = some true := by
 unfold law08_MiniSmall law08_great
 rw [alive08 hN, Option.bind_some, if_pos rfl]
 by_cases g1 : 40 < (l0.length : Int)
 ·
  rw [if_pos g1, Option.bind_some, if_pos rfl]
 rw [if_neg g1, Option.bind_some]
 by_cases g2 : decide (300 < (l1.length : Int)) = true
 ·
  rw [if_pos g2]
 rw [if_neg g2]
 obtain ⟨b, er, hr⟩ := r7_eq hN l0 l1
 obtain ⟨b', er', hr'⟩ := right_eq hN l0 l1
 by_cases g4 : RightP l0 l1
 ·
  obtain ⟨rs, us, e1, e2, hR⟩ := small_both hN g4
  have h1 := hR.2.1
  have h2 := hR.2.2.1
  rw [e1, Option.bind_some]
  simp only
  rw [er, Option.bind_some, if_pos (hr.2 g4), e2, Option.bind_some]
  simp only
  rw [same7_dec hN (by omega) (by omega), Option.bind_some]
  simp
 ·
  have hb : b = false := by cases b with | true => exact absurd (hr.1 rfl) g4 | false => rfl
  have hb' : b' = false := by cases b' with | true => exact absurd (hr'.1 rfl) g4 | false => rfl
  subst hb; subst hb'
  rw [small_none er', Option.bind_some]
  simp only
  rw [er, Option.bind_some, if_neg (by simp)]
  rfl
end Go.Proofs.Ytnbnajjoinahiaa.AI
