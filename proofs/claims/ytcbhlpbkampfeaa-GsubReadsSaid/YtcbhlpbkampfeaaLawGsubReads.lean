import Derived.Test.YtcbhlpbkampfeaaRows
import Derived.Test.YtcbhlpbkampfeaaguW2
import Derived.Test.YtcbhlpbkampfeaaLpGsubReads
import Derived.WalkKit
import Derived.ProofKit
import Derived.OpenShut
import Derived.ShutString
import Derived.ChangeOld
import Derived.Below
import Derived.SizedLaws
/- Part of a proof. -/
set_option linter.unusedVariables false
set_option maxRecDepth 100000
namespace Go.Proofs.Ytcbhlpbkampfeaa.AI
open Go.Proofs
theorem reads22 : Reads Try.prog 22 (fun l : List Int => [.vec false (l.map eU8)]) (fun l => l.length * 1 ≤ 140737488351232 ∧ ∀ x ∈ l, (fun n => (Lit.int .u8 n).wf = true) x) := Reads.slice (B := 1) Try.underlying22 (by kernel_rfl) (Reads.int (k := .u8) Try.underlying5)
theorem law_GsubReads {N : Nat} (hB : 9223372036854775808 < N) {p0 : List Int} (w0 : (fun l : List Int => l.length * 1 ≤ 140737488351232 ∧ ∀ x ∈ l, (fun n => (Lit.int .u8 n).wf = true) x) p0) {p1 : Int} (w1 : (fun n => (Lit.int .i64 n).wf = true) p1) {p2 : Int} (w2 : (fun n => (Lit.int .i64 n).wf = true) p2) : Xa Go.Proofs.Try.prog 3 [.vec false (List.map eU8 p0), .int .i64 p1, .int .i64 p2] [] (fun e H => e = .ret (.bool true)) :=
  have hN : 1000000000000 < N := by omega
  (Xfo (Xh9 hN (bytes_of w0.2) _ _)).mono (fun _ _ h => h.2)
end Go.Proofs.Ytcbhlpbkampfeaa.AI
namespace Go.Proofs.Ytcbhlpbkampfeaa.gsubReads
open Go.ChangeShapes Go.WideShapes Go.ChangeAt Go.RowKit Go.Proofs.Ytcbhlpbkampfeaa.AI
open Go.ChangeMaps (open_string shut_string)
theorem own : ownKnob Try.prog.godebug = none := by kernel_rfl
theorem laidOut : laidOutB Try.prog = true := by kernel_rfl
theorem lifted (os : Os) (started : os.Started) (H : Type) (enc : TypeId × Value → H) :
    ReturnsInHanded {} Try.checked os 3 .any (Rows.gsubReadsSpec.pre6 enc Try.prog Try.f3 Rows.gsubReadsRow.domain false) (Rows.gsubReadsSpec.post enc Try.prog Try.f3 false true false false) := by
  refine returnsInHanded_of_change_sized (C := Try.checked) own started (by kernel_rfl) Try.func3
    (ChangeSpec.witness6 (enc := enc) (C := Try.checked) false ⟨#[], #[.slice none 0 0, .int .i64 0, .int .i64 0], []⟩ 8 (by kernel_rfl) (by kernel_rfl) (by kernel_rfl) (by kernel_rfl)) ?_
  intro W base args ds gs before hval0 hW hcnd hsz0 _
  have hval : ∀ (j : Nat) t v, Try.f3.params[j]? = some t → args[j]? = some v → Value.okWide Try.prog W .any base t v := hval0
  have hW' := hW
  obtain ⟨p, q, hA0, hV, rfl, hfz, hnd⟩ := hW
  have hA : DataW.TrodAll enc Try.prog W 0 (fun _ => true) true Try.f3.params.toList args.toList ds p := hA0
  rw [Try.params3] at hA hval
  obtain ⟨v0, vs0, d0, ds0, pp0, q0, hargs, rfl, rfl, h0, r0⟩ := trodAll_cons hA
  obtain ⟨v1, vs1, d1, ds1, pp1, q1, rfl, rfl, rfl, h1, r1⟩ := trodAll_cons r0
  obtain ⟨v2, vs2, d2, ds2, pp2, q2, rfl, rfl, rfl, h2, r2⟩ := trodAll_cons r1
  obtain ⟨rfl, rfl, rfl⟩ := trodAll_nil r2
  obtain rfl : args = #[v0, v1, v2] := by cases args; simp_all
  obtain ⟨rfl, rfl⟩ := trodVars_none hV
  obtain ⟨a0, len0, cap0, rfl⟩ := okWide_slice Try.underlying22 (hval 0 22 v0 rfl rfl)
  have k0 := h0
  have lt0 : ∀ x ∈ pp0, x.block < W.heap.size := by obtain ⟨m, hm⟩ := k0; exact DataW.trod_lt m _ _ _ hm
  obtain ⟨p0, hr0, w0⟩ : ∃ l : List Int, RD W [.vec false (l.map eU8)] [.slice a0 len0 cap0] ∧ (fun l : List Int => l.length * 1 ≤ 140737488351232 ∧ ∀ x ∈ l, (fun n => (Lit.int .u8 n).wf = true) x) l := by obtain ⟨fuel, hf⟩ := h0; exact reads22 _ _ _ _ _ _ _ _ _ hf (Xmy hsz0 (j := 0) rfl rfl)
  obtain ⟨p1, rfl, rfl, rfl, w1⟩ := open_int Try.underlying3 (hval 1 3 v1 rfl rfl) h1
  obtain ⟨p2, rfl, rfl, rfl, w2⟩ := open_int Try.underlying3 (hval 2 3 v2 rfl rfl) h2
  clear hA0 hval0
  have hV' : VRs (allK W) rnone [.vec false (p0.map eU8), .int .i64 p1, .int .i64 p2] #[.slice a0 len0 cap0, .int .i64 p1, .int .i64 p2] := Xkg (RD.get1 hr0) (Xkg (RD.get1 (RD.one rfl .int : RD W [.int .i64 p1] [.int .i64 p1])) (Xkg (RD.get1 (RD.one rfl .int : RD W [.int .i64 p2] [.int .i64 p2])) (vrs_nil)))
  refine (Xa.below (law_GsubReads (N := 9223372036854775809) (by decide) w0 w1 w2) hV').mono fun e W' ⟨he, bel0⟩ => ?_
  have bel : Below W.heap.size W W' := bel0
  subst he
  exact ⟨_, rfl, _, _, _, [], _, [], hW', trodAll_mk1 (shut_bool Try.underlying4 _), (trodAll_cons_mk (Below.trod laidOut (by kernel_rfl) (of_decide_eq_true (by kernel_rfl)) k0 bel lt0) (trodAll_cons_mk (shut_int Try.underlying3 w1) (trodAll_cons_mk (shut_int Try.underlying3 w2) trodAll_mk0))), rfl, bel.frame _, fun h => by cases h⟩
theorem over : Rows.gsubReadsRow.holds Try.pinned (OpenSpec.ofChange Rows.gsubReadsSpec) :=
  OpenClaim.holds_of_wide 3 Try.f3 rfl rfl rfl rfl rfl rfl rfl ⟨rfl, rfl, rfl, rfl, rfl⟩ rfl rfl rfl rfl rfl (by kernel_rfl) Try.func3 (by kernel_rfl)
    (of_decide_eq_true (by kernel_rfl)) (by unfold Func.isWrapper; first | (rw [if_pos (by decide +kernel)]; kernel_rfl) | (rw [if_neg (by decide +kernel)]; exact ⟨rfl, rfl⟩))
    (fun os started H enc _ => lifted os started H enc)
theorem proved : Rows.GsubReadsSaid := over
#print axioms proved
end Go.Proofs.Ytcbhlpbkampfeaa.gsubReads
namespace Go.Proofs.Ytcbhlpbkampfeaa
theorem gsubReads_holds : Rows.GsubReadsSaid := gsubReads.proved
end Go.Proofs.Ytcbhlpbkampfeaa
