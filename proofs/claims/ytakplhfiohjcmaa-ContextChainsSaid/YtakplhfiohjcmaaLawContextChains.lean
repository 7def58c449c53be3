/- The statement ContextChains: for every input it returns true, and the input reads as it did. Walked by the abstract machine. -/
import Derived.Test.YtakplhfiohjcmaaRows
import Derived.Test.YtakplhfiohjcmaacxW3
import Derived.Test.YtakplhfiohjcmaaLpContextChains
import Derived.WalkKit
import Derived.ProofKit
import Derived.OpenShut
import Derived.ShutString
import Derived.ChangeOld
import Derived.Below
import Derived.SizedLaws
set_option linter.unusedVariables false
set_option maxRecDepth 100000
namespace Go.Proofs.Ytakplhfiohjcmaa.AI
open Go.Proofs
theorem reads22 : Reads Try.prog 22 (fun l : List Int => [.vec false (l.map eU8)]) (fun l => l.length * 1 ≤ 140737488351232 ∧ ∀ x ∈ l, (fun n => (Lit.int .u8 n).wf = true) x) := Reads.slice (B := 1) Try.underlying22 (by kernel_rfl) (Reads.int (k := .u8) Try.underlying5)
theorem law_ContextChains {N : Nat} (hB : 9223372036854775808 < N) {p0 : List Int} (w0 : (fun l : List Int => l.length * 1 ≤ 140737488351232 ∧ ∀ x ∈ l, (fun n => (Lit.int .u8 n).wf = true) x) p0) {p1 : Int} (w1 : (fun n => (Lit.int .i64 n).wf = true) p1) : ACalls Go.Proofs.Try.prog 9 [.vec false (List.map eU8 p0), .int .i64 p1] [] (fun e H => e = .ret (.bool true)) :=
  have hN : 1000000000000 < N := by omega
  (law11_ContextChains_w N p0 p1 false true (contextChains_plain hN (bytes_of w0.2) _)).mono (fun _ _ h => h.2)
end Go.Proofs.Ytakplhfiohjcmaa.AI
namespace Go.Proofs.Ytakplhfiohjcmaa.contextChains
open Go.ChangeShapes Go.WideShapes Go.ChangeAt Go.RowKit Go.Proofs.Ytakplhfiohjcmaa.AI
open Go.ChangeMaps (open_string shut_string)
theorem own : ownKnob Try.prog.godebug = none := by kernel_rfl
theorem laidOut : laidOutB Try.prog = true := by kernel_rfl
theorem lifted (os : Os) (started : os.Started) (H : Type) (enc : TypeId × Value → H) :
    ReturnsInHanded {} Try.checked os 9 .any (Rows.contextChainsSpec.pre6 enc Try.prog Try.f9 Rows.contextChainsRow.domain false) (Rows.contextChainsSpec.post enc Try.prog Try.f9 false true false false) := by
  refine returnsInHanded_of_change_sized (C := Try.checked) own started (by kernel_rfl) Try.func9
    (ChangeSpec.witness6 (enc := enc) (C := Try.checked) false ⟨#[], #[.slice none 0 0, .int .i64 0], []⟩ 8 (by kernel_rfl) (by kernel_rfl) (by kernel_rfl) (by kernel_rfl)) ?_
  intro W base args ds gs before hval0 hW hcnd hsz0 _
  have hval : ∀ (j : Nat) t v, Try.f9.params[j]? = some t → args[j]? = some v → Value.okWide Try.prog W .any base t v := hval0
  have hW' := hW
  obtain ⟨p, q, hA0, hV, rfl, hfz, hnd⟩ := hW
  have hA : DataW.TrodAll enc Try.prog W 0 (fun _ => true) true Try.f9.params.toList args.toList ds p := hA0
  rw [Try.params9] at hA hval
  obtain ⟨v0, vs0, d0, ds0, pp0, q0, hargs, rfl, rfl, h0, r0⟩ := trodAll_cons hA
  obtain ⟨v1, vs1, d1, ds1, pp1, q1, rfl, rfl, rfl, h1, r1⟩ := trodAll_cons r0
  obtain ⟨rfl, rfl, rfl⟩ := trodAll_nil r1
  obtain rfl : args = #[v0, v1] := by cases args; simp_all
  obtain ⟨rfl, rfl⟩ := trodVars_none hV
  obtain ⟨a0, len0, cap0, rfl⟩ := okWide_slice Try.underlying22 (hval 0 22 v0 rfl rfl)
  have k0 := h0
  have lt0 : ∀ x ∈ pp0, x.block < W.heap.size := by obtain ⟨m, hm⟩ := k0; exact DataW.trod_lt m _ _ _ hm
  obtain ⟨p0, hr0, w0⟩ : ∃ l : List Int, RD W [.vec false (l.map eU8)] [.slice a0 len0 cap0] ∧ (fun l : List Int => l.length * 1 ≤ 140737488351232 ∧ ∀ x ∈ l, (fun n => (Lit.int .u8 n).wf = true) x) l := by obtain ⟨fuel, hf⟩ := h0; exact reads22 _ _ _ _ _ _ _ _ _ hf (weights_arg hsz0 (j := 0) rfl rfl)
  obtain ⟨p1, rfl, rfl, rfl, w1⟩ := open_int Try.underlying3 (hval 1 3 v1 rfl rfl) h1
  clear hA0 hval0
  have hV' : VRs (allK W) rnone [.vec false (p0.map eU8), .int .i64 p1] #[.slice a0 len0 cap0, .int .i64 p1] := vrs_cons (RD.get1 hr0) (vrs_cons (RD.get1 (RD.one rfl .int : RD W [.int .i64 p1] [.int .i64 p1])) (vrs_nil))
  refine (ACalls.below (law_ContextChains (N := 9223372036854775809) (by decide) w0 w1) hV').mono fun e W' ⟨he, bel0⟩ => ?_
  have bel : Below W.heap.size W W' := bel0
  subst he
  exact ⟨_, rfl, _, _, _, [], _, [], hW', trodAll_mk1 (shut_bool Try.underlying4 _), (trodAll_cons_mk (Below.trod laidOut (by kernel_rfl) (of_decide_eq_true (by kernel_rfl)) k0 bel lt0) (trodAll_cons_mk (shut_int Try.underlying3 w1) trodAll_mk0)), rfl, bel.frame _, fun h => by cases h⟩
theorem over : Rows.contextChainsRow.holds Try.pinned (OpenSpec.ofChange Rows.contextChainsSpec) :=
  OpenClaim.holds_of_wide 9 Try.f9 rfl rfl rfl rfl rfl rfl rfl ⟨rfl, rfl, rfl, rfl, rfl⟩ rfl rfl rfl rfl rfl (by kernel_rfl) Try.func9 (by kernel_rfl)
    (of_decide_eq_true (by kernel_rfl)) (by unfold Func.isWrapper; first | (rw [if_pos (by decide +kernel)]; kernel_rfl) | (rw [if_neg (by decide +kernel)]; exact ⟨rfl, rfl⟩))
    (fun os started H enc _ => lifted os started H enc)
theorem proved : Rows.ContextChainsSaid := over
#print axioms proved
end Go.Proofs.Ytakplhfiohjcmaa.contextChains
namespace Go.Proofs.Ytakplhfiohjcmaa
/-- The row, under a short name, for the claim. -/
theorem contextChains_holds : Rows.ContextChainsSaid := contextChains.proved
end Go.Proofs.Ytakplhfiohjcmaa
