/- Part of a proof. -/
import Derived.Test.YtejkiahbknjmaaaRows
import Derived.Test.YtejkiahbknjmaaadecW1
import Derived.Test.YtejkiahbknjmaaaLpDecompAgain
import Derived.WalkKit
import Derived.ProofKit
import Derived.OpenShut
import Derived.ShutString
import Derived.ChangeOld
import Derived.Below
import Derived.SizedLaws
set_option linter.unusedVariables false
set_option maxRecDepth 100000
namespace Go.Proofs.Ytejkiahbknjmaaa.AI
open Go.Proofs
theorem reads33 : Reads Try.prog 33 (fun l : List Int => [.vec false (l.map eI64)]) (fun l => l.length * 8 ≤ 140737488351232 ∧ ∀ x ∈ l, (fun n => (Lit.int .i64 n).wf = true) x) := Reads.slice (B := 8) Try.underlying33 (by kernel_rfl) (Reads.int (k := .i64) Try.underlying3)
theorem law_DecompAgain {N : Nat} (hB : 9223372036854775808 < N) {p0 : List Int} (w0 : (fun l : List Int => l.length * 8 ≤ 140737488351232 ∧ ∀ x ∈ l, (fun n => (Lit.int .i64 n).wf = true) x) p0) : ACalls Go.Proofs.Try.prog 6 [.vec false (List.map eI64 p0)] [] (fun e H => e = .ret (.bool true)) :=
  have hN : 1000000000000 < N := by omega
  (law21_DecompAgain_w N p0 false true (decompAgain_plain hN _)).mono (fun _ _ h => h.2)
end Go.Proofs.Ytejkiahbknjmaaa.AI
namespace Go.Proofs.Ytejkiahbknjmaaa.decompAgain
open Go.ChangeShapes Go.WideShapes Go.ChangeAt Go.RowKit Go.Proofs.Ytejkiahbknjmaaa.AI
open Go.ChangeMaps (open_string shut_string)
theorem own : ownKnob Try.prog.godebug = none := by kernel_rfl
theorem laidOut : laidOutB Try.prog = true := by kernel_rfl
theorem lifted (os : Os) (started : os.Started) (H : Type) (enc : TypeId × Value → H) :
    ReturnsInHanded {} Try.checked os 6 .any (Rows.decompAgainSpec.pre6 enc Try.prog Try.f6 Rows.decompAgainRow.domain false) (Rows.decompAgainSpec.post enc Try.prog Try.f6 false true false false) := by
  refine returnsInHanded_of_change_sized (C := Try.checked) own started (by kernel_rfl) Try.func6
    (ChangeSpec.witness6 (enc := enc) (C := Try.checked) false ⟨#[], #[.slice none 0 0], []⟩ 8 (by kernel_rfl) (by kernel_rfl) (by kernel_rfl) (by kernel_rfl)) ?_
  intro W base args ds gs before hval0 hW hcnd hsz0 _
  have hval : ∀ (j : Nat) t v, Try.f6.params[j]? = some t → args[j]? = some v → Value.okWide Try.prog W .any base t v := hval0
  have hW' := hW
  obtain ⟨p, q, hA0, hV, rfl, hfz, hnd⟩ := hW
  have hA : DataW.TrodAll enc Try.prog W 0 (fun _ => true) true Try.f6.params.toList args.toList ds p := hA0
  rw [Try.params6] at hA hval
  obtain ⟨v0, vs0, d0, ds0, pp0, q0, hargs, rfl, rfl, h0, r0⟩ := trodAll_cons hA
  obtain ⟨rfl, rfl, rfl⟩ := trodAll_nil r0
  obtain rfl : args = #[v0] := by cases args; simp_all
  obtain ⟨rfl, rfl⟩ := trodVars_none hV
  obtain ⟨a0, len0, cap0, rfl⟩ := okWide_slice Try.underlying33 (hval 0 33 v0 rfl rfl)
  have k0 := h0
  have lt0 : ∀ x ∈ pp0, x.block < W.heap.size := by obtain ⟨m, hm⟩ := k0; exact DataW.trod_lt m _ _ _ hm
  obtain ⟨p0, hr0, w0⟩ : ∃ l : List Int, RD W [.vec false (l.map eI64)] [.slice a0 len0 cap0] ∧ (fun l : List Int => l.length * 8 ≤ 140737488351232 ∧ ∀ x ∈ l, (fun n => (Lit.int .i64 n).wf = true) x) l := by obtain ⟨fuel, hf⟩ := h0; exact reads33 _ _ _ _ _ _ _ _ _ hf (weights_arg hsz0 (j := 0) rfl rfl)
  clear hA0 hval0
  have hV' : VRs (allK W) rnone [.vec false (p0.map eI64)] #[.slice a0 len0 cap0] := vrs_cons (RD.get1 hr0) (vrs_nil)
  refine (ACalls.below (law_DecompAgain (N := 9223372036854775809) (by decide) w0) hV').mono fun e W' ⟨he, bel0⟩ => ?_
  have bel : Below W.heap.size W W' := bel0
  subst he
  exact ⟨_, rfl, _, _, _, [], _, [], hW', trodAll_mk1 (shut_bool Try.underlying4 _), (trodAll_cons_mk (Below.trod laidOut (by kernel_rfl) (of_decide_eq_true (by kernel_rfl)) k0 bel lt0) trodAll_mk0), rfl, bel.frame _, fun h => by cases h⟩
theorem over : Rows.decompAgainRow.holds Try.pinned (OpenSpec.ofChange Rows.decompAgainSpec) :=
  OpenClaim.holds_of_wide 6 Try.f6 rfl rfl rfl rfl rfl rfl rfl ⟨rfl, rfl, rfl, rfl, rfl⟩ rfl rfl rfl rfl rfl (by kernel_rfl) Try.func6 (by kernel_rfl)
    (of_decide_eq_true (by kernel_rfl)) (by unfold Func.isWrapper; first | (rw [if_pos (by decide +kernel)]; kernel_rfl) | (rw [if_neg (by decide +kernel)]; exact ⟨rfl, rfl⟩))
    (fun os started H enc _ => lifted os started H enc)
theorem proved : Rows.DecompAgainSaid := over
#print axioms proved
end Go.Proofs.Ytejkiahbknjmaaa.decompAgain
namespace Go.Proofs.Ytejkiahbknjmaaa
theorem decompAgain_holds : Rows.DecompAgainSaid := decompAgain.proved
end Go.Proofs.Ytejkiahbknjmaaa
