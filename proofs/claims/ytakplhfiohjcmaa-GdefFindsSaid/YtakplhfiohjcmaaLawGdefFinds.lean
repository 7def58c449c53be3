/- The statement GdefFinds: for every input it returns true, and the input reads as it did. Walked by the abstract machine. -/
import Derived.Test.YtakplhfiohjcmaaRows
import Derived.Test.YtakplhfiohjcmaagdW1
import Derived.Test.YtakplhfiohjcmaaLpGdefFinds
import Derived.WalkKit
import Derived.ProofKit
import Derived.OpenShut
import Derived.ShutString
import Derived.ChangeOld
import Derived.Below
import Derived.SizedLaws
set_option linter.unusedVariables false
set_option maxRecDepth 100000
namespace Go.Proofs.Ytakplhfiohjcmaa.AI
open Go.Proofs
def wf76 (x : TGroup) : Prop := (fun n => (Lit.int .i32 n).wf = true) x.From ∧ (fun n => (Lit.int .i32 n).wf = true) x.To ∧ (fun n => (Lit.int .i64 n).wf = true) x.Glyph
theorem reads76 : Reads Try.prog 76 eTGroup wf76 :=
  (Reads.struct Try.underlying76 (by kernel_rfl) (FReads.cons (m := 1) (n := 2) (Reads.int (k := .i32) Try.underlying21) rfl (by kernel_rfl) (FReads.cons (m := 1) (n := 1) (Reads.int (k := .i32) Try.underlying21) rfl (by kernel_rfl) (FReads.last (Reads.int (k := .i64) Try.underlying3) rfl (by kernel_rfl))))).iso (fun p => (⟨p.1, p.2.1, p.2.2⟩ : TGroup)) (fun _ => rfl) (fun _ h => h)
theorem reads74 : Reads Try.prog 74 (fun l : List TGroup => [.vec false (l.map eTGroup)]) (fun l => l.length ≤ maxLen ∧ ∀ x ∈ l, wf76 x) := Reads.slice Try.underlying74 reads76
def wf48 (x : TClass) : Prop := (fun n => (Lit.int .i64 n).wf = true) x.From ∧ (fun n => (Lit.int .i64 n).wf = true) x.To ∧ (fun n => (Lit.int .i64 n).wf = true) x.Class
theorem reads48 : Reads Try.prog 48 eTClass wf48 :=
  (Reads.struct Try.underlying48 (by kernel_rfl) (FReads.cons (m := 1) (n := 2) (Reads.int (k := .i64) Try.underlying3) rfl (by kernel_rfl) (FReads.cons (m := 1) (n := 1) (Reads.int (k := .i64) Try.underlying3) rfl (by kernel_rfl) (FReads.last (Reads.int (k := .i64) Try.underlying3) rfl (by kernel_rfl))))).iso (fun p => (⟨p.1, p.2.1, p.2.2⟩ : TClass)) (fun _ => rfl) (fun _ h => h)
theorem reads27 : Reads Try.prog 27 (fun l : List TClass => [.vec false (l.map eTClass)]) (fun l => l.length ≤ maxLen ∧ ∀ x ∈ l, wf48 x) := Reads.slice Try.underlying27 reads48
def wf38 (x : TSpan) : Prop := (fun n => (Lit.int .i64 n).wf = true) x.From ∧ (fun n => (Lit.int .i64 n).wf = true) x.To
theorem reads38 : Reads Try.prog 38 eTSpan wf38 :=
  (Reads.struct Try.underlying38 (by kernel_rfl) (FReads.cons (m := 1) (n := 1) (Reads.int (k := .i64) Try.underlying3) rfl (by kernel_rfl) (FReads.last (Reads.int (k := .i64) Try.underlying3) rfl (by kernel_rfl)))).iso (fun p => (⟨p.1, p.2⟩ : TSpan)) (fun _ => rfl) (fun _ h => h)
theorem reads24 : Reads Try.prog 24 (fun l : List TSpan => [.vec false (l.map eTSpan)]) (fun l => l.length ≤ maxLen ∧ ∀ x ∈ l, wf38 x) := Reads.slice Try.underlying24 reads38
theorem reads68 : Reads Try.prog 68 (fun l : List (List TSpan) => [.vec false (l.map eLTSpan)]) (fun l => l.length ≤ maxLen ∧ ∀ x ∈ l, (fun l : List TSpan => l.length ≤ maxLen ∧ ∀ x ∈ l, wf38 x) x) := Reads.slice Try.underlying68 reads24
def wf70 (x : TDef) : Prop := (fun l : List TClass => l.length ≤ maxLen ∧ ∀ x ∈ l, wf48 x) x.Class ∧ (fun l : List TClass => l.length ≤ maxLen ∧ ∀ x ∈ l, wf48 x) x.Attach ∧ (fun l : List (List TSpan) => l.length ≤ maxLen ∧ ∀ x ∈ l, (fun l : List TSpan => l.length ≤ maxLen ∧ ∀ x ∈ l, wf38 x) x) x.Sets
theorem reads70 : Reads Try.prog 70 eTDef wf70 :=
  (Reads.struct Try.underlying70 (by kernel_rfl) (FReads.cons (m := 1) (n := 2) reads27 rfl (by kernel_rfl) (FReads.cons (m := 1) (n := 1) reads27 rfl (by kernel_rfl) (FReads.last reads68 rfl (by kernel_rfl))))).iso (fun p => (⟨p.1, p.2.1, p.2.2⟩ : TDef)) (fun _ => rfl) (fun _ h => h)
theorem law_GdefFinds {N : Nat} (hB : 9223372036854775808 < N) {p0 : List TGroup} (w0 : (fun l : List TGroup => l.length ≤ maxLen ∧ ∀ x ∈ l, wf76 x) p0) {p1 : TDef} (w1 : wf70 p1) {p2 : Int} (w2 : (fun n => (Lit.int .i32 n).wf = true) p2) {p3 : Int} (w3 : (fun n => (Lit.int .i64 n).wf = true) p3) {p4 : Int} (w4 : (fun n => (Lit.int .i64 n).wf = true) p4) : ACalls Go.Proofs.Try.prog 14 [.vec false (List.map eTGroup p0), .agg (eTDef p1), .int .i32 p2, .int .i64 p3, .int .i64 p4] [] (fun e H => e = .ret (.bool true)) :=
  have hN : 1000000000000 < N := by omega
  (law15_GdefFinds_w N p0 _ _ _ p2 p3 p4 false false false false true (GdefFinds_plain hB (wf32 w2) (fun x hx => (wf32 (w0.2 x hx).2.1).2) w1.1.1 (fun s hs => ⟨(w1.2.2.2 s hs).1, fun x hx => wf64 ((w1.2.2.2 s hs).2 x hx).1⟩))).mono (fun _ _ h => h.2)
end Go.Proofs.Ytakplhfiohjcmaa.AI
namespace Go.Proofs.Ytakplhfiohjcmaa.gdefFinds
open Go.ChangeShapes Go.WideShapes Go.ChangeAt Go.RowKit Go.Proofs.Ytakplhfiohjcmaa.AI
open Go.ChangeMaps (open_string shut_string)
theorem own : ownKnob Try.prog.godebug = none := by kernel_rfl
theorem laidOut : laidOutB Try.prog = true := by kernel_rfl
theorem lifted (os : Os) (started : os.Started) (H : Type) (enc : TypeId × Value → H) :
    ReturnsInHanded {} Try.checked os 14 .any (Rows.gdefFindsSpec.pre6 enc Try.prog Try.f14 Rows.gdefFindsRow.domain false) (Rows.gdefFindsSpec.post enc Try.prog Try.f14 false true false false) := by
  refine returnsInHanded_of_change_sized (C := Try.checked) own started (by kernel_rfl) Try.func14
    (ChangeSpec.witness6 (enc := enc) (C := Try.checked) false ⟨#[], #[.slice none 0 0, .agg #[.slice none 0 0, .slice none 0 0, .slice none 0 0], .int .i32 0, .int .i64 0, .int .i64 0], []⟩ 8 (by kernel_rfl) (by kernel_rfl) (by kernel_rfl) (by kernel_rfl)) ?_
  intro W base args ds gs before hval0 hW hcnd hsz0 _
  have hval : ∀ (j : Nat) t v, Try.f14.params[j]? = some t → args[j]? = some v → Value.okWide Try.prog W .any base t v := hval0
  have hW' := hW
  obtain ⟨p, q, hA0, hV, rfl, hfz, hnd⟩ := hW
  have hA : DataW.TrodAll enc Try.prog W 0 (fun _ => true) true Try.f14.params.toList args.toList ds p := hA0
  rw [Try.params14] at hA hval
  obtain ⟨v0, vs0, d0, ds0, pp0, q0, hargs, rfl, rfl, h0, r0⟩ := trodAll_cons hA
  obtain ⟨v1, vs1, d1, ds1, pp1, q1, rfl, rfl, rfl, h1, r1⟩ := trodAll_cons r0
  obtain ⟨v2, vs2, d2, ds2, pp2, q2, rfl, rfl, rfl, h2, r2⟩ := trodAll_cons r1
  obtain ⟨v3, vs3, d3, ds3, pp3, q3, rfl, rfl, rfl, h3, r3⟩ := trodAll_cons r2
  obtain ⟨v4, vs4, d4, ds4, pp4, q4, rfl, rfl, rfl, h4, r4⟩ := trodAll_cons r3
  obtain ⟨rfl, rfl, rfl⟩ := trodAll_nil r4
  obtain rfl : args = #[v0, v1, v2, v3, v4] := by cases args; simp_all
  obtain ⟨rfl, rfl⟩ := trodVars_none hV
  obtain ⟨a0, len0, cap0, rfl⟩ := okWide_slice Try.underlying74 (hval 0 74 v0 rfl rfl)
  have k0 := h0
  have lt0 : ∀ x ∈ pp0, x.block < W.heap.size := by obtain ⟨m, hm⟩ := k0; exact DataW.trod_lt m _ _ _ hm
  obtain ⟨p0, hr0, w0⟩ : ∃ l : List TGroup, RD W [.vec false (l.map eTGroup)] [.slice a0 len0 cap0] ∧ (fun l : List TGroup => l.length ≤ maxLen ∧ ∀ x ∈ l, wf76 x) l := by obtain ⟨fuel, hf⟩ := h0; exact reads74 _ _ _ _ _ _ _ _ _ hf
  obtain ⟨cs1, rfl, hcs1⟩ := okWide_struct Try.underlying70 (hval 1 70 v1 rfl rfl)
  have k1 := h1
  have lt1 : ∀ x ∈ pp1, x.block < W.heap.size := by obtain ⟨m, hm⟩ := k1; exact DataW.trod_lt m _ _ _ hm
  obtain ⟨p1, hr1, w1⟩ : ∃ x : TDef, RD W (eTDef x) cs1.toList ∧ wf70 x := by obtain ⟨fuel, hf⟩ := h1; exact reads70 _ _ _ _ _ _ _ _ _ hf
  obtain ⟨p2, rfl, rfl, rfl, w2⟩ := open_int Try.underlying21 (hval 2 21 v2 rfl rfl) h2
  obtain ⟨p3, rfl, rfl, rfl, w3⟩ := open_int Try.underlying3 (hval 3 3 v3 rfl rfl) h3
  obtain ⟨p4, rfl, rfl, rfl, w4⟩ := open_int Try.underlying3 (hval 4 3 v4 rfl rfl) h4
  clear hA0 hval0
  have hV' : VRs (allK W) rnone [.vec false (p0.map eTGroup), .agg (eTDef p1), .int .i32 p2, .int .i64 p3, .int .i64 p4] #[.slice a0 len0 cap0, .agg cs1, .int .i32 p2, .int .i64 p3, .int .i64 p4] := vrs_cons (RD.get1 hr0) (vrs_cons (RD.agg1 hr1) (vrs_cons (RD.get1 (RD.one rfl .int : RD W [.int .i32 p2] [.int .i32 p2])) (vrs_cons (RD.get1 (RD.one rfl .int : RD W [.int .i64 p3] [.int .i64 p3])) (vrs_cons (RD.get1 (RD.one rfl .int : RD W [.int .i64 p4] [.int .i64 p4])) (vrs_nil)))))
  refine (ACalls.below (law_GdefFinds (N := 9223372036854775809) (by decide) w0 w1 w2 w3 w4) hV').mono fun e W' ⟨he, bel0⟩ => ?_
  have bel : Below W.heap.size W W' := bel0
  subst he
  exact ⟨_, rfl, _, _, _, [], _, [], hW', trodAll_mk1 (shut_bool Try.underlying4 _), (trodAll_cons_mk (Below.trod laidOut (by kernel_rfl) (of_decide_eq_true (by kernel_rfl)) k0 bel lt0) (trodAll_cons_mk (Below.trod laidOut (by kernel_rfl) (of_decide_eq_true (by kernel_rfl)) k1 bel lt1) (trodAll_cons_mk (shut_int Try.underlying21 w2) (trodAll_cons_mk (shut_int Try.underlying3 w3) (trodAll_cons_mk (shut_int Try.underlying3 w4) trodAll_mk0))))), rfl, bel.frame _, fun h => by cases h⟩
theorem over : Rows.gdefFindsRow.holds Try.pinned (OpenSpec.ofChange Rows.gdefFindsSpec) :=
  OpenClaim.holds_of_wide 14 Try.f14 rfl rfl rfl rfl rfl rfl rfl ⟨rfl, rfl, rfl, rfl, rfl⟩ rfl rfl rfl rfl rfl (by kernel_rfl) Try.func14 (by kernel_rfl)
    (of_decide_eq_true (by kernel_rfl)) (by unfold Func.isWrapper; first | (rw [if_pos (by decide +kernel)]; kernel_rfl) | (rw [if_neg (by decide +kernel)]; exact ⟨rfl, rfl⟩))
    (fun os started H enc _ => lifted os started H enc)
theorem proved : Rows.GdefFindsSaid := over
#print axioms proved
end Go.Proofs.Ytakplhfiohjcmaa.gdefFinds
namespace Go.Proofs.Ytakplhfiohjcmaa
/-- The row, under a short name, for the claim. -/
theorem gdefFinds_holds : Rows.GdefFindsSaid := gdefFinds.proved
end Go.Proofs.Ytakplhfiohjcmaa
