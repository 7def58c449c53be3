/- Part of a proof. -/
import Derived.Test.YtakplhfiohjcmaaRows
import Derived.Test.YtakplhfiohjcmaacsW1
import Derived.Test.YtakplhfiohjcmaaLpCoverSets
import Derived.WalkKit
import Derived.ProofKit
import Derived.OpenShut
import Derived.ShutString
import Derived.ChangeOld
import Derived.Below
import Derived.SizedLaws
set_option linter.unusedVariables false
set_option maxRecDepth 100000
namespace Go.Proofs.Ytakplhfiohjcmaa.AI
open Go.Proofs
def wf38 (x : TSpan) : Prop := (fun n => (Lit.int .i64 n).wf = true) x.From ∧ (fun n => (Lit.int .i64 n).wf = true) x.To
theorem reads38 : Reads Try.prog 38 eTSpan wf38 :=
  (Reads.struct Try.underlying38 (by kernel_rfl) (FReads.cons (m := 1) (n := 1) (Reads.int (k := .i64) Try.underlying3) rfl (by kernel_rfl) (FReads.last (Reads.int (k := .i64) Try.underlying3) rfl (by kernel_rfl)))).iso (fun p => (⟨p.1, p.2⟩ : TSpan)) (fun _ => rfl) (fun _ h => h)
theorem reads24 : Reads Try.prog 24 (fun l : List TSpan => [.vec false (l.map eTSpan)]) (fun l => l.length * 16 ≤ 140737488351232 ∧ ∀ x ∈ l, wf38 x) := Reads.slice (B := 16) Try.underlying24 (by kernel_rfl) reads38
def wf48 (x : TClass) : Prop := (fun n => (Lit.int .i64 n).wf = true) x.From ∧ (fun n => (Lit.int .i64 n).wf = true) x.To ∧ (fun n => (Lit.int .i64 n).wf = true) x.Class
theorem reads48 : Reads Try.prog 48 eTClass wf48 :=
  (Reads.struct Try.underlying48 (by kernel_rfl) (FReads.cons (m := 1) (n := 2) (Reads.int (k := .i64) Try.underlying3) rfl (by kernel_rfl) (FReads.cons (m := 1) (n := 1) (Reads.int (k := .i64) Try.underlying3) rfl (by kernel_rfl) (FReads.last (Reads.int (k := .i64) Try.underlying3) rfl (by kernel_rfl))))).iso (fun p => (⟨p.1, p.2.1, p.2.2⟩ : TClass)) (fun _ => rfl) (fun _ h => h)
theorem reads27 : Reads Try.prog 27 (fun l : List TClass => [.vec false (l.map eTClass)]) (fun l => l.length * 24 ≤ 140737488351232 ∧ ∀ x ∈ l, wf48 x) := Reads.slice (B := 24) Try.underlying27 (by kernel_rfl) reads48
theorem law_CoverSets {N : Nat} (hB : 9223372036854775808 < N) {p0 : List TSpan} (w0 : (fun l : List TSpan => l.length * 16 ≤ 140737488351232 ∧ ∀ x ∈ l, wf38 x) p0) {p1 : List TClass} (w1 : (fun l : List TClass => l.length * 24 ≤ 140737488351232 ∧ ∀ x ∈ l, wf48 x) p1) {p2 : Int} (w2 : (fun n => (Lit.int .i64 n).wf = true) p2) : ACalls Go.Proofs.Try.prog 5 [.vec false (List.map eTSpan p0), .vec false (List.map eTClass p1), .int .i64 p2] [] (fun e H => e = .ret (.bool true)) :=
  have hN : 1000000000000 < N := by omega
  (law10_CoverSets_w N p0 p1 p2 false false true (CoverSets_plain hB _ (by have := w0.1; omega) (by have := w1.1; omega) (fun x hx => wf64 (w0.2 x hx).1))).mono (fun _ _ h => h.2)
end Go.Proofs.Ytakplhfiohjcmaa.AI
namespace Go.Proofs.Ytakplhfiohjcmaa.coverSets
open Go.ChangeShapes Go.WideShapes Go.ChangeAt Go.RowKit Go.Proofs.Ytakplhfiohjcmaa.AI
open Go.ChangeMaps (open_string shut_string)
theorem own : ownKnob Try.prog.godebug = none := by kernel_rfl
theorem laidOut : laidOutB Try.prog = true := by kernel_rfl
theorem lifted (os : Os) (started : os.Started) (H : Type) (enc : TypeId × Value → H) :
    ReturnsInHanded {} Try.checked os 5 .any (Rows.coverSetsSpec.pre6 enc Try.prog Try.f5 Rows.coverSetsRow.domain false) (Rows.coverSetsSpec.post enc Try.prog Try.f5 false true false false) := by
  refine returnsInHanded_of_change_sized (C := Try.checked) own started (by kernel_rfl) Try.func5
    (ChangeSpec.witness6 (enc := enc) (C := Try.checked) false ⟨#[], #[.slice none 0 0, .slice none 0 0, .int .i64 0], []⟩ 8 (by kernel_rfl) (by kernel_rfl) (by kernel_rfl) (by kernel_rfl)) ?_
  intro W base args ds gs before hval0 hW hcnd hsz0 _
  have hval : ∀ (j : Nat) t v, Try.f5.params[j]? = some t → args[j]? = some v → Value.okWide Try.prog W .any base t v := hval0
  have hW' := hW
  obtain ⟨p, q, hA0, hV, rfl, hfz, hnd⟩ := hW
  have hA : DataW.TrodAll enc Try.prog W 0 (fun _ => true) true Try.f5.params.toList args.toList ds p := hA0
  rw [Try.params5] at hA hval
  obtain ⟨v0, vs0, d0, ds0, pp0, q0, hargs, rfl, rfl, h0, r0⟩ := trodAll_cons hA
  obtain ⟨v1, vs1, d1, ds1, pp1, q1, rfl, rfl, rfl, h1, r1⟩ := trodAll_cons r0
  obtain ⟨v2, vs2, d2, ds2, pp2, q2, rfl, rfl, rfl, h2, r2⟩ := trodAll_cons r1
  obtain ⟨rfl, rfl, rfl⟩ := trodAll_nil r2
  obtain rfl : args = #[v0, v1, v2] := by cases args; simp_all
  obtain ⟨rfl, rfl⟩ := trodVars_none hV
  obtain ⟨a0, len0, cap0, rfl⟩ := okWide_slice Try.underlying24 (hval 0 24 v0 rfl rfl)
  have k0 := h0
  have lt0 : ∀ x ∈ pp0, x.block < W.heap.size := by obtain ⟨m, hm⟩ := k0; exact DataW.trod_lt m _ _ _ hm
  obtain ⟨p0, hr0, w0⟩ : ∃ l : List TSpan, RD W [.vec false (l.map eTSpan)] [.slice a0 len0 cap0] ∧ (fun l : List TSpan => l.length * 16 ≤ 140737488351232 ∧ ∀ x ∈ l, wf38 x) l := by obtain ⟨fuel, hf⟩ := h0; exact reads24 _ _ _ _ _ _ _ _ _ hf (weights_arg hsz0 (j := 0) rfl rfl)
  obtain ⟨a1, len1, cap1, rfl⟩ := okWide_slice Try.underlying27 (hval 1 27 v1 rfl rfl)
  have k1 := h1
  have lt1 : ∀ x ∈ pp1, x.block < W.heap.size := by obtain ⟨m, hm⟩ := k1; exact DataW.trod_lt m _ _ _ hm
  obtain ⟨p1, hr1, w1⟩ : ∃ l : List TClass, RD W [.vec false (l.map eTClass)] [.slice a1 len1 cap1] ∧ (fun l : List TClass => l.length * 24 ≤ 140737488351232 ∧ ∀ x ∈ l, wf48 x) l := by obtain ⟨fuel, hf⟩ := h1; exact reads27 _ _ _ _ _ _ _ _ _ hf (weights_arg hsz0 (j := 1) rfl rfl)
  obtain ⟨p2, rfl, rfl, rfl, w2⟩ := open_int Try.underlying3 (hval 2 3 v2 rfl rfl) h2
  clear hA0 hval0
  have hV' : VRs (allK W) rnone [.vec false (p0.map eTSpan), .vec false (p1.map eTClass), .int .i64 p2] #[.slice a0 len0 cap0, .slice a1 len1 cap1, .int .i64 p2] := vrs_cons (RD.get1 hr0) (vrs_cons (RD.get1 hr1) (vrs_cons (RD.get1 (RD.one rfl .int : RD W [.int .i64 p2] [.int .i64 p2])) (vrs_nil)))
  refine (ACalls.below (law_CoverSets (N := 9223372036854775809) (by decide) w0 w1 w2) hV').mono fun e W' ⟨he, bel0⟩ => ?_
  have bel : Below W.heap.size W W' := bel0
  subst he
  exact ⟨_, rfl, _, _, _, [], _, [], hW', trodAll_mk1 (shut_bool Try.underlying4 _), (trodAll_cons_mk (Below.trod laidOut (by kernel_rfl) (of_decide_eq_true (by kernel_rfl)) k0 bel lt0) (trodAll_cons_mk (Below.trod laidOut (by kernel_rfl) (of_decide_eq_true (by kernel_rfl)) k1 bel lt1) (trodAll_cons_mk (shut_int Try.underlying3 w2) trodAll_mk0))), rfl, bel.frame _, fun h => by cases h⟩
theorem over : Rows.coverSetsRow.holds Try.pinned (OpenSpec.ofChange Rows.coverSetsSpec) :=
  OpenClaim.holds_of_wide 5 Try.f5 rfl rfl rfl rfl rfl rfl rfl ⟨rfl, rfl, rfl, rfl, rfl⟩ rfl rfl rfl rfl rfl (by kernel_rfl) Try.func5 (by kernel_rfl)
    (of_decide_eq_true (by kernel_rfl)) (by unfold Func.isWrapper; first | (rw [if_pos (by decide +kernel)]; kernel_rfl) | (rw [if_neg (by decide +kernel)]; exact ⟨rfl, rfl⟩))
    (fun os started H enc _ => lifted os started H enc)
theorem proved : Rows.CoverSetsSaid := over
#print axioms proved
end Go.Proofs.Ytakplhfiohjcmaa.coverSets
namespace Go.Proofs.Ytakplhfiohjcmaa
theorem coverSets_holds : Rows.CoverSetsSaid := coverSets.proved
end Go.Proofs.Ytakplhfiohjcmaa
