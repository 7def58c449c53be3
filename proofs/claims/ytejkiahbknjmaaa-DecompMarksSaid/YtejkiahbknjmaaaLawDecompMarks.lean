/- The statement DecompMarks: for every input it returns true, and the input reads as it did. Walked by the abstract machine. -/
import Derived.Test.YtejkiahbknjmaaaRows
import Derived.Test.YtejkiahbknjmaaadecW1
import Derived.Test.YtejkiahbknjmaaaLpDecompMarks
import Derived.WalkKit
import Derived.ProofKit
import Derived.OpenShut
import Derived.ShutString
import Derived.ChangeOld
import Derived.Below
import Derived.SizedLaws
set_option linter.unusedVariables false
set_option maxRecDepth 100000
namespace Go.Proofs.Ytejkiahbknjmaaa.AI
open Go.Proofs
def wf64 (x : TRange) : Prop := (fun n => (Lit.int .i32 n).wf = true) x.From ∧ (fun n => (Lit.int .i32 n).wf = true) x.To ∧ (fun n => (Lit.int .i64 n).wf = true) x.Val
theorem reads64 : Reads Try.prog 64 eTRange wf64 :=
  (Reads.struct Try.underlying64 (by kernel_rfl) (FReads.cons (m := 1) (n := 2) (Reads.int (k := .i32) Try.underlying21) rfl (by kernel_rfl) (FReads.cons (m := 1) (n := 1) (Reads.int (k := .i32) Try.underlying21) rfl (by kernel_rfl) (FReads.last (Reads.int (k := .i64) Try.underlying3) rfl (by kernel_rfl))))).iso (fun p => (⟨p.1, p.2.1, p.2.2⟩ : TRange)) (fun _ => rfl) (fun _ h => h)
theorem reads32 : Reads Try.prog 32 (fun l : List TRange => [.vec false (l.map eTRange)]) (fun l => l.length * 16 ≤ 140737488351232 ∧ ∀ x ∈ l, wf64 x) := Reads.slice (B := 16) Try.underlying32 (by kernel_rfl) reads64
theorem reads33 : Reads Try.prog 33 (fun l : List Int => [.vec false (l.map eI64)]) (fun l => l.length * 8 ≤ 140737488351232 ∧ ∀ x ∈ l, (fun n => (Lit.int .i64 n).wf = true) x) := Reads.slice (B := 8) Try.underlying33 (by kernel_rfl) (Reads.int (k := .i64) Try.underlying3)
theorem law_DecompMarks {N : Nat} (hB : 9223372036854775808 < N) {p0 : List TRange} (w0 : (fun l : List TRange => l.length * 16 ≤ 140737488351232 ∧ ∀ x ∈ l, wf64 x) p0) {p1 : Int} (w1 : (fun n => (Lit.int .i32 n).wf = true) p1) {p2 : List Int} (w2 : (fun l : List Int => l.length * 8 ≤ 140737488351232 ∧ ∀ x ∈ l, (fun n => (Lit.int .i64 n).wf = true) x) p2) : ACalls Go.Proofs.Try.prog 4 [.vec false (List.map eTRange p0), .int .i32 p1, .vec false (List.map eI64 p2)] [] (fun e H => e = .ret (.bool true)) :=
  have hN : 1000000000000 < N := by omega
  (law21_DecompMarks_w N p0 p1 p2 false false true (decompMarks_plain hN _ _ _)).mono (fun _ _ h => h.2)
end Go.Proofs.Ytejkiahbknjmaaa.AI
namespace Go.Proofs.Ytejkiahbknjmaaa.decompMarks
open Go.ChangeShapes Go.WideShapes Go.ChangeAt Go.RowKit Go.Proofs.Ytejkiahbknjmaaa.AI
open Go.ChangeMaps (open_string shut_string)
theorem own : ownKnob Try.prog.godebug = none := by kernel_rfl
theorem laidOut : laidOutB Try.prog = true := by kernel_rfl
theorem lifted (os : Os) (started : os.Started) (H : Type) (enc : TypeId × Value → H) :
    ReturnsInHanded {} Try.checked os 4 .any (Rows.decompMarksSpec.pre6 enc Try.prog Try.f4 Rows.decompMarksRow.domain false) (Rows.decompMarksSpec.post enc Try.prog Try.f4 false true false false) := by
  refine returnsInHanded_of_change_sized (C := Try.checked) own started (by kernel_rfl) Try.func4
    (ChangeSpec.witness6 (enc := enc) (C := Try.checked) false ⟨#[], #[.slice none 0 0, .int .i32 0, .slice none 0 0], []⟩ 8 (by kernel_rfl) (by kernel_rfl) (by kernel_rfl) (by kernel_rfl)) ?_
  intro W base args ds gs before hval0 hW hcnd hsz0 _
  have hval : ∀ (j : Nat) t v, Try.f4.params[j]? = some t → args[j]? = some v → Value.okWide Try.prog W .any base t v := hval0
  have hW' := hW
  obtain ⟨p, q, hA0, hV, rfl, hfz, hnd⟩ := hW
  have hA : DataW.TrodAll enc Try.prog W 0 (fun _ => true) true Try.f4.params.toList args.toList ds p := hA0
  rw [Try.params4] at hA hval
  obtain ⟨v0, vs0, d0, ds0, pp0, q0, hargs, rfl, rfl, h0, r0⟩ := trodAll_cons hA
  obtain ⟨v1, vs1, d1, ds1, pp1, q1, rfl, rfl, rfl, h1, r1⟩ := trodAll_cons r0
  obtain ⟨v2, vs2, d2, ds2, pp2, q2, rfl, rfl, rfl, h2, r2⟩ := trodAll_cons r1
  obtain ⟨rfl, rfl, rfl⟩ := trodAll_nil r2
  obtain rfl : args = #[v0, v1, v2] := by cases args; simp_all
  obtain ⟨rfl, rfl⟩ := trodVars_none hV
  obtain ⟨a0, len0, cap0, rfl⟩ := okWide_slice Try.underlying32 (hval 0 32 v0 rfl rfl)
  have k0 := h0
  have lt0 : ∀ x ∈ pp0, x.block < W.heap.size := by obtain ⟨m, hm⟩ := k0; exact DataW.trod_lt m _ _ _ hm
  obtain ⟨p0, hr0, w0⟩ : ∃ l : List TRange, RD W [.vec false (l.map eTRange)] [.slice a0 len0 cap0] ∧ (fun l : List TRange => l.length * 16 ≤ 140737488351232 ∧ ∀ x ∈ l, wf64 x) l := by obtain ⟨fuel, hf⟩ := h0; exact reads32 _ _ _ _ _ _ _ _ _ hf (weights_arg hsz0 (j := 0) rfl rfl)
  obtain ⟨p1, rfl, rfl, rfl, w1⟩ := open_int Try.underlying21 (hval 1 21 v1 rfl rfl) h1
  obtain ⟨a2, len2, cap2, rfl⟩ := okWide_slice Try.underlying33 (hval 2 33 v2 rfl rfl)
  have k2 := h2
  have lt2 : ∀ x ∈ pp2, x.block < W.heap.size := by obtain ⟨m, hm⟩ := k2; exact DataW.trod_lt m _ _ _ hm
  obtain ⟨p2, hr2, w2⟩ : ∃ l : List Int, RD W [.vec false (l.map eI64)] [.slice a2 len2 cap2] ∧ (fun l : List Int => l.length * 8 ≤ 140737488351232 ∧ ∀ x ∈ l, (fun n => (Lit.int .i64 n).wf = true) x) l := by obtain ⟨fuel, hf⟩ := h2; exact reads33 _ _ _ _ _ _ _ _ _ hf (weights_arg hsz0 (j := 2) rfl rfl)
  clear hA0 hval0
  have hV' : VRs (allK W) rnone [.vec false (p0.map eTRange), .int .i32 p1, .vec false (p2.map eI64)] #[.slice a0 len0 cap0, .int .i32 p1, .slice a2 len2 cap2] := vrs_cons (RD.get1 hr0) (vrs_cons (RD.get1 (RD.one rfl .int : RD W [.int .i32 p1] [.int .i32 p1])) (vrs_cons (RD.get1 hr2) (vrs_nil)))
  refine (ACalls.below (law_DecompMarks (N := 9223372036854775809) (by decide) w0 w1 w2) hV').mono fun e W' ⟨he, bel0⟩ => ?_
  have bel : Below W.heap.size W W' := bel0
  subst he
  exact ⟨_, rfl, _, _, _, [], _, [], hW', trodAll_mk1 (shut_bool Try.underlying4 _), (trodAll_cons_mk (Below.trod laidOut (by kernel_rfl) (of_decide_eq_true (by kernel_rfl)) k0 bel lt0) (trodAll_cons_mk (shut_int Try.underlying21 w1) (trodAll_cons_mk (Below.trod laidOut (by kernel_rfl) (of_decide_eq_true (by kernel_rfl)) k2 bel lt2) trodAll_mk0))), rfl, bel.frame _, fun h => by cases h⟩
theorem over : Rows.decompMarksRow.holds Try.pinned (OpenSpec.ofChange Rows.decompMarksSpec) :=
  OpenClaim.holds_of_wide 4 Try.f4 rfl rfl rfl rfl rfl rfl rfl ⟨rfl, rfl, rfl, rfl, rfl⟩ rfl rfl rfl rfl rfl (by kernel_rfl) Try.func4 (by kernel_rfl)
    (of_decide_eq_true (by kernel_rfl)) (by unfold Func.isWrapper; first | (rw [if_pos (by decide +kernel)]; kernel_rfl) | (rw [if_neg (by decide +kernel)]; exact ⟨rfl, rfl⟩))
    (fun os started H enc _ => lifted os started H enc)
theorem proved : Rows.DecompMarksSaid := over
#print axioms proved
end Go.Proofs.Ytejkiahbknjmaaa.decompMarks
namespace Go.Proofs.Ytejkiahbknjmaaa
/-- The row, under a short name, for the claim. -/
theorem decompMarks_holds : Rows.DecompMarksSaid := decompMarks.proved
end Go.Proofs.Ytejkiahbknjmaaa
