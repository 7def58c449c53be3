/- Plain laws of layer 8: which states are alike. -/
import Derived.Test.YtnbnajjoinahiaaPM3
set_option linter.unusedVariables false
set_option linter.unusedSimpArgs false
set_option maxRecDepth 100000
namespace Go.Proofs.Ytnbnajjoinahiaa.AI
theorem clone_eq {N : Nat} {l : List Int} (hl : l.length ≤ 1000000) : slices_Clone_intint N l = some l := by
  unfold slices_Clone_intint
  by_cases h : l = []
  · rw [if_pos h, h]
  · rw [if_neg h, if_pos (by omega)]
theorem classes_eq {N : Nat} (hN : 1000000000000 < N) {l0 : List (Vector Int 16)} {l1 : List Int} (h : RightP l0 l1) {y : List Bool} (hy : mini_Dead N l0 l1 = some y) (hyl : y.length = l0.length) (I : List Int → Prop) (h0 : I l1)
  (hI : ∀ cls out k, cls.length = l0.length → I cls → Refd (alRs y 0 l0) cls out k → I out) : ∃ c0 out q, mini_classes N l0 l1 = some out ∧ I c0 ∧ c0.length = l0.length ∧ Refd (alRs y 0 l0) c0 out q ∧ (∀ v : Nat, v < q → ((v : Nat) : Int) ∈ c0) := by
 have ha := alive_eq hN h hy hyl
 obtain ⟨_, hm, hl, _, hr⟩ := h
 have hlen := alRs_len y l0 0
 obtain ⟨c0, out, q, e, g⟩ := classes_L1 hN (rows := alRs y 0 l0) (l1 := l1) (by omega) (by rw [hlen]; exact alRs_ok (by omega) hr) I (by rw [hlen]; exact hI) 300 N l1 0 (by omega) (by omega) (by omega) (fun v hv => by omega) h0
 unfold mini_classes
 rw [ha, Option.bind_some]
 simp only
 rw [clone_eq (by omega), Option.bind_some, show mini_classes_L1 N (alRs y 0 l0) l1 N l1 0 = _ from e, Option.bind_some]
 rw [hlen] at g
 exact ⟨c0, out, q, rfl, g⟩
end Go.Proofs.Ytnbnajjoinahiaa.AI
