/- Part of a proof. -/
import Derived.Test.YtnbnajjoinahiaaRows
import Derived.Test.YtnbnajjoinahiaaminiW1
import Derived.Test.YtnbnajjoinahiaaLpMiniSame
import Derived.WalkKit
import Derived.ProofKit
import Derived.OpenShut
import Derived.ShutString
import Derived.ChangeOld
import Derived.Below
import Derived.SizedLaws
set_option linter.unusedVariables false
set_option maxRecDepth 100000
namespace Go.Proofs.Ytnbnajjoinahiaa.AI
open Go.Proofs
theorem reads22 : Reads Try.prog 22 (fun l : List (Vector Int 16) => [.vec false (l.map eA16I64)]) (fun l => l.length * 128 ≤ 140737488351232 ∧ ∀ x ∈ l, (fun v : Vector Int 16 => ∀ x ∈ v.toList, (Lit.int .i64 x).wf = true) x) := Reads.slice (B := 128) Try.underlying22 (by kernel_rfl) (Reads.arr Try.underlying58 Try.underlying3 (by kernel_rfl) (by kernel_rfl))
theorem reads23 : Reads Try.prog 23 (fun l : List Int => [.vec false (l.map eI64)]) (fun l => l.length * 8 ≤ 140737488351232 ∧ ∀ x ∈ l, (fun n => (Lit.int .i64 n).wf = true) x) := Reads.slice (B := 8) Try.underlying23 (by kernel_rfl) (Reads.int (k := .i64) Try.underlying3)
def wf25 (x : TDfa) : Prop := (fun l : List (Vector Int 16) => l.length * 128 ≤ 140737488351232 ∧ ∀ x ∈ l, (fun v : Vector Int 16 => ∀ x ∈ v.toList, (Lit.int .i64 x).wf = true) x) x.Next ∧ (fun l : List Int => l.length * 8 ≤ 140737488351232 ∧ ∀ x ∈ l, (fun n => (Lit.int .i64 n).wf = true) x) x.Rule
theorem reads25 : Reads Try.prog 25 eTDfa wf25 :=
  (Reads.struct Try.underlying25 (by kernel_rfl) (FReads.cons (m := 1) (n := 1) reads22 rfl (by kernel_rfl) (FReads.last reads23 rfl (by kernel_rfl)))).iso (fun p => (⟨p.1, p.2⟩ : TDfa)) (fun _ => rfl) (fun _ h => h)
theorem law_MiniSame {N : Nat} (hB : 9223372036854775808 < N) {p0 : TDfa} (w0 : wf25 p0) {p1 : TDfa} (w1 : wf25 p1) : ACalls Go.Proofs.Try.prog 5 [.agg (eTDfa p0), .agg (eTDfa p1)] [] (fun e H => e = .ret (.bool true)) :=
  have hN : 1000000000000 < N := by omega
  (law08_MiniSame_w N _ _ _ _ false false false false true (miniSame_plain hN _ _ _ _)).mono (fun _ _ h => h.2)
end Go.Proofs.Ytnbnajjoinahiaa.AI
namespace Go.Proofs.Ytnbnajjoinahiaa.miniSame
open Go.ChangeShapes Go.WideShapes Go.ChangeAt Go.RowKit Go.Proofs.Ytnbnajjoinahiaa.AI
open Go.ChangeMaps (open_string shut_string)
theorem own : ownKnob Try.prog.godebug = none := by kernel_rfl
theorem laidOut : laidOutB Try.prog = true := by kernel_rfl
theorem lifted (os : Os) (started : os.Started) (H : Type) (enc : TypeId × Value → H) :
    ReturnsInHanded {} Try.checked os 5 .any (Rows.miniSameSpec.pre6 enc Try.prog Try.f5 Rows.miniSameRow.domain false) (Rows.miniSameSpec.post enc Try.prog Try.f5 false true false false) := by
  refine returnsInHanded_of_change_sized (C := Try.checked) own started (by kernel_rfl) Try.func5
    (ChangeSpec.witness6 (enc := enc) (C := Try.checked) false ⟨#[], #[.agg #[.slice none 0 0, .slice none 0 0], .agg #[.slice none 0 0, .slice none 0 0]], []⟩ 8 (by kernel_rfl) (by kernel_rfl) (by kernel_rfl) (by kernel_rfl)) ?_
  intro W base args ds gs before hval0 hW hcnd hsz0 _
  have hval : ∀ (j : Nat) t v, Try.f5.params[j]? = some t → args[j]? = some v → Value.okWide Try.prog W .any base t v := hval0
  have hW' := hW
  obtain ⟨p, q, hA0, hV, rfl, hfz, hnd⟩ := hW
  have hA : DataW.TrodAll enc Try.prog W 0 (fun _ => true) true Try.f5.params.toList args.toList ds p := hA0
  rw [Try.params5] at hA hval
  obtain ⟨v0, vs0, d0, ds0, pp0, q0, hargs, rfl, rfl, h0, r0⟩ := trodAll_cons hA
  obtain ⟨v1, vs1, d1, ds1, pp1, q1, rfl, rfl, rfl, h1, r1⟩ := trodAll_cons r0
  obtain ⟨rfl, rfl, rfl⟩ := trodAll_nil r1
  obtain rfl : args = #[v0, v1] := by cases args; simp_all
  obtain ⟨rfl, rfl⟩ := trodVars_none hV
  obtain ⟨cs0, rfl, hcs0⟩ := okWide_struct Try.underlying25 (hval 0 25 v0 rfl rfl)
  have k0 := h0
  have lt0 : ∀ x ∈ pp0, x.block < W.heap.size := by obtain ⟨m, hm⟩ := k0; exact DataW.trod_lt m _ _ _ hm
  obtain ⟨p0, hr0, w0⟩ : ∃ x : TDfa, RD W (eTDfa x) cs0.toList ∧ wf25 x := by obtain ⟨fuel, hf⟩ := h0; exact reads25 _ _ _ _ _ _ _ _ _ hf (weights_arg hsz0 (j := 0) rfl rfl)
  obtain ⟨cs1, rfl, hcs1⟩ := okWide_struct Try.underlying25 (hval 1 25 v1 rfl rfl)
  have k1 := h1
  have lt1 : ∀ x ∈ pp1, x.block < W.heap.size := by obtain ⟨m, hm⟩ := k1; exact DataW.trod_lt m _ _ _ hm
  obtain ⟨p1, hr1, w1⟩ : ∃ x : TDfa, RD W (eTDfa x) cs1.toList ∧ wf25 x := by obtain ⟨fuel, hf⟩ := h1; exact reads25 _ _ _ _ _ _ _ _ _ hf (weights_arg hsz0 (j := 1) rfl rfl)
  clear hA0 hval0
  have hV' : VRs (allK W) rnone [.agg (eTDfa p0), .agg (eTDfa p1)] #[.agg cs0, .agg cs1] := vrs_cons (RD.agg1 hr0) (vrs_cons (RD.agg1 hr1) (vrs_nil))
  refine (ACalls.below (law_MiniSame (N := 9223372036854775809) (by decide) w0 w1) hV').mono fun e W' ⟨he, bel0⟩ => ?_
  have bel : Below W.heap.size W W' := bel0
  subst he
  exact ⟨_, rfl, _, _, _, [], _, [], hW', trodAll_mk1 (shut_bool Try.underlying4 _), (trodAll_cons_mk (Below.trod laidOut (by kernel_rfl) (of_decide_eq_true (by kernel_rfl)) k0 bel lt0) (trodAll_cons_mk (Below.trod laidOut (by kernel_rfl) (of_decide_eq_true (by kernel_rfl)) k1 bel lt1) trodAll_mk0)), rfl, bel.frame _, fun h => by cases h⟩
theorem over : Rows.miniSameRow.holds Try.pinned (OpenSpec.ofChange Rows.miniSameSpec) :=
  OpenClaim.holds_of_wide 5 Try.f5 rfl rfl rfl rfl rfl rfl rfl ⟨rfl, rfl, rfl, rfl, rfl⟩ rfl rfl rfl rfl rfl (by kernel_rfl) Try.func5 (by kernel_rfl)
    (of_decide_eq_true (by kernel_rfl)) (by unfold Func.isWrapper; first | (rw [if_pos (by decide +kernel)]; kernel_rfl) | (rw [if_neg (by decide +kernel)]; exact ⟨rfl, rfl⟩))
    (fun os started H enc _ => lifted os started H enc)
theorem proved : Rows.MiniSameSaid := over
#print axioms proved
end Go.Proofs.Ytnbnajjoinahiaa.miniSame
namespace Go.Proofs.Ytnbnajjoinahiaa
theorem miniSame_holds : Rows.MiniSameSaid := miniSame.proved
end Go.Proofs.Ytnbnajjoinahiaa
