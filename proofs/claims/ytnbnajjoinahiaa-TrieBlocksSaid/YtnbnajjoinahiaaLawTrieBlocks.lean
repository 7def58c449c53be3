/- Part of a proof. -/
import Derived.Test.YtnbnajjoinahiaaRows
import Derived.Test.YtnbnajjoinahiaatriW1
import Derived.Test.YtnbnajjoinahiaaLpTrieBlocks
import Derived.WalkKit
import Derived.ProofKit
import Derived.OpenShut
import Derived.ShutString
import Derived.ChangeOld
import Derived.Below
import Derived.SizedLaws
set_option linter.unusedVariables false
set_option maxRecDepth 100000
namespace Go.Proofs.Ytnbnajjoinahiaa.AI
open Go.Proofs
def wf48 (x : TRange) : Prop := (fun n => (Lit.int .i32 n).wf = true) x.From ∧ (fun n => (Lit.int .i32 n).wf = true) x.To ∧ (fun n => (Lit.int .i64 n).wf = true) x.Val
theorem reads48 : Reads Try.prog 48 eTRange wf48 :=
  (Reads.struct Try.underlying48 (by kernel_rfl) (FReads.cons (m := 1) (n := 2) (Reads.int (k := .i32) Try.underlying21) rfl (by kernel_rfl) (FReads.cons (m := 1) (n := 1) (Reads.int (k := .i32) Try.underlying21) rfl (by kernel_rfl) (FReads.last (Reads.int (k := .i64) Try.underlying3) rfl (by kernel_rfl))))).iso (fun p => (⟨p.1, p.2.1, p.2.2⟩ : TRange)) (fun _ => rfl) (fun _ h => h)
theorem reads39 : Reads Try.prog 39 (fun l : List TRange => [.vec false (l.map eTRange)]) (fun l => l.length * 16 ≤ 140737488351232 ∧ ∀ x ∈ l, wf48 x) := Reads.slice (B := 16) Try.underlying39 (by kernel_rfl) reads48
theorem law_TrieBlocks {N : Nat} (hB : 9223372036854775808 < N) {p0 : List TRange} (w0 : (fun l : List TRange => l.length * 16 ≤ 140737488351232 ∧ ∀ x ∈ l, wf48 x) p0) : ACalls Go.Proofs.Try.prog 9 [.vec false (List.map eTRange p0)] [] (fun e H => e = .ret (.bool true)) :=
  have hN : 1000000000000 < N := by omega
  (law03_TrieBlocks_w N p0 false true (trieBlocks_plain hN _)).mono (fun _ _ h => h.2)
end Go.Proofs.Ytnbnajjoinahiaa.AI
namespace Go.Proofs.Ytnbnajjoinahiaa.trieBlocks
open Go.ChangeShapes Go.WideShapes Go.ChangeAt Go.RowKit Go.Proofs.Ytnbnajjoinahiaa.AI
open Go.ChangeMaps (open_string shut_string)
theorem own : ownKnob Try.prog.godebug = none := by kernel_rfl
theorem laidOut : laidOutB Try.prog = true := by kernel_rfl
theorem lifted (os : Os) (started : os.Started) (H : Type) (enc : TypeId × Value → H) :
    ReturnsInHanded {} Try.checked os 9 .any (Rows.trieBlocksSpec.pre6 enc Try.prog Try.f9 Rows.trieBlocksRow.domain false) (Rows.trieBlocksSpec.post enc Try.prog Try.f9 false true false false) := by
  refine returnsInHanded_of_change_sized (C := Try.checked) own started (by kernel_rfl) Try.func9
    (ChangeSpec.witness6 (enc := enc) (C := Try.checked) false ⟨#[], #[.slice none 0 0], []⟩ 8 (by kernel_rfl) (by kernel_rfl) (by kernel_rfl) (by kernel_rfl)) ?_
  intro W base args ds gs before hval0 hW hcnd hsz0 _
  have hval : ∀ (j : Nat) t v, Try.f9.params[j]? = some t → args[j]? = some v → Value.okWide Try.prog W .any base t v := hval0
  have hW' := hW
  obtain ⟨p, q, hA0, hV, rfl, hfz, hnd⟩ := hW
  have hA : DataW.TrodAll enc Try.prog W 0 (fun _ => true) true Try.f9.params.toList args.toList ds p := hA0
  rw [Try.params9] at hA hval
  obtain ⟨v0, vs0, d0, ds0, pp0, q0, hargs, rfl, rfl, h0, r0⟩ := trodAll_cons hA
  obtain ⟨rfl, rfl, rfl⟩ := trodAll_nil r0
  obtain rfl : args = #[v0] := by cases args; simp_all
  obtain ⟨rfl, rfl⟩ := trodVars_none hV
  obtain ⟨a0, len0, cap0, rfl⟩ := okWide_slice Try.underlying39 (hval 0 39 v0 rfl rfl)
  have k0 := h0
  have lt0 : ∀ x ∈ pp0, x.block < W.heap.size := by obtain ⟨m, hm⟩ := k0; exact DataW.trod_lt m _ _ _ hm
  obtain ⟨p0, hr0, w0⟩ : ∃ l : List TRange, RD W [.vec false (l.map eTRange)] [.slice a0 len0 cap0] ∧ (fun l : List TRange => l.length * 16 ≤ 140737488351232 ∧ ∀ x ∈ l, wf48 x) l := by obtain ⟨fuel, hf⟩ := h0; exact reads39 _ _ _ _ _ _ _ _ _ hf (weights_arg hsz0 (j := 0) rfl rfl)
  clear hA0 hval0
  have hV' : VRs (allK W) rnone [.vec false (p0.map eTRange)] #[.slice a0 len0 cap0] := vrs_cons (RD.get1 hr0) (vrs_nil)
  refine (ACalls.below (law_TrieBlocks (N := 9223372036854775809) (by decide) w0) hV').mono fun e W' ⟨he, bel0⟩ => ?_
  have bel : Below W.heap.size W W' := bel0
  subst he
  exact ⟨_, rfl, _, _, _, [], _, [], hW', trodAll_mk1 (shut_bool Try.underlying4 _), (trodAll_cons_mk (Below.trod laidOut (by kernel_rfl) (of_decide_eq_true (by kernel_rfl)) k0 bel lt0) trodAll_mk0), rfl, bel.frame _, fun h => by cases h⟩
theorem over : Rows.trieBlocksRow.holds Try.pinned (OpenSpec.ofChange Rows.trieBlocksSpec) :=
  OpenClaim.holds_of_wide 9 Try.f9 rfl rfl rfl rfl rfl rfl rfl ⟨rfl, rfl, rfl, rfl, rfl⟩ rfl rfl rfl rfl rfl (by kernel_rfl) Try.func9 (by kernel_rfl)
    (of_decide_eq_true (by kernel_rfl)) (by unfold Func.isWrapper; first | (rw [if_pos (by decide +kernel)]; kernel_rfl) | (rw [if_neg (by decide +kernel)]; exact ⟨rfl, rfl⟩))
    (fun os started H enc _ => lifted os started H enc)
theorem proved : Rows.TrieBlocksSaid := over
#print axioms proved
end Go.Proofs.Ytnbnajjoinahiaa.trieBlocks
namespace Go.Proofs.Ytnbnajjoinahiaa
theorem trieBlocks_holds : Rows.TrieBlocksSaid := trieBlocks.proved
end Go.Proofs.Ytnbnajjoinahiaa
