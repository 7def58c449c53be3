/- Part of a proof. -/
import Derived.Test.YtejkiahbknjmaaaRows
import Derived.Test.YtejkiahbknjmaaadecW2
import Derived.Test.YtejkiahbknjmaaaLpDecompParts
import Derived.WalkKit
import Derived.ProofKit
import Derived.OpenShut
import Derived.ShutString
import Derived.ChangeOld
import Derived.Below
import Derived.SizedLaws
set_option linter.unusedVariables false
set_option maxRecDepth 100000
namespace Go.Proofs.Ytejkiahbknjmaaa.AI
open Go.Proofs
def wf47 (x : TMade) : Prop := (fun n => (Lit.int .i32 n).wf = true) x.Code ∧ (fun n => (Lit.int .i32 n).wf = true) x.A ∧ (fun n => (Lit.int .i32 n).wf = true) x.B
theorem reads47 : Reads Try.prog 47 eTMade wf47 :=
  (Reads.struct Try.underlying47 (by kernel_rfl) (FReads.cons (m := 1) (n := 2) (Reads.int (k := .i32) Try.underlying21) rfl (by kernel_rfl) (FReads.cons (m := 1) (n := 1) (Reads.int (k := .i32) Try.underlying21) rfl (by kernel_rfl) (FReads.last (Reads.int (k := .i32) Try.underlying21) rfl (by kernel_rfl))))).iso (fun p => (⟨p.1, p.2.1, p.2.2⟩ : TMade)) (fun _ => rfl) (fun _ h => h)
theorem reads22 : Reads Try.prog 22 (fun l : List TMade => [.vec false (l.map eTMade)]) (fun l => l.length * 12 ≤ 140737488351232 ∧ ∀ x ∈ l, wf47 x) := Reads.slice (B := 12) Try.underlying22 (by kernel_rfl) reads47
theorem law_DecompParts {N : Nat} (hB : 9223372036854775808 < N) {p0 : List TMade} (w0 : (fun l : List TMade => l.length * 12 ≤ 140737488351232 ∧ ∀ x ∈ l, wf47 x) p0) {p1 : Int} (w1 : (fun n => (Lit.int .i32 n).wf = true) p1) {p2 : Int} (w2 : (fun n => (Lit.int .i32 n).wf = true) p2) {p3 : Int} (w3 : (fun n => (Lit.int .i32 n).wf = true) p3) : ACalls Go.Proofs.Try.prog 3 [.vec false (List.map eTMade p0), .int .i32 p1, .int .i32 p2, .int .i32 p3] [] (fun e H => e = .ret (.bool true)) :=
  have hN : 1000000000000 < N := by omega
  (law21_DecompParts_w N p0 p1 p2 p3 false true (decompParts_plain hB _ (by have := w0.1; omega) _ _ _)).mono (fun _ _ h => h.2)
end Go.Proofs.Ytejkiahbknjmaaa.AI
namespace Go.Proofs.Ytejkiahbknjmaaa.decompParts
open Go.ChangeShapes Go.WideShapes Go.ChangeAt Go.RowKit Go.Proofs.Ytejkiahbknjmaaa.AI
open Go.ChangeMaps (open_string shut_string)
theorem own : ownKnob Try.prog.godebug = none := by kernel_rfl
theorem laidOut : laidOutB Try.prog = true := by kernel_rfl
theorem lifted (os : Os) (started : os.Started) (H : Type) (enc : TypeId × Value → H) :
    ReturnsInHanded {} Try.checked os 3 .any (Rows.decompPartsSpec.pre6 enc Try.prog Try.f3 Rows.decompPartsRow.domain false) (Rows.decompPartsSpec.post enc Try.prog Try.f3 false true false false) := by
  refine returnsInHanded_of_change_sized (C := Try.checked) own started (by kernel_rfl) Try.func3
    (ChangeSpec.witness6 (enc := enc) (C := Try.checked) false ⟨#[], #[.slice none 0 0, .int .i32 0, .int .i32 0, .int .i32 0], []⟩ 8 (by kernel_rfl) (by kernel_rfl) (by kernel_rfl) (by kernel_rfl)) ?_
  intro W base args ds gs before hval0 hW hcnd hsz0 _
  have hval : ∀ (j : Nat) t v, Try.f3.params[j]? = some t → args[j]? = some v → Value.okWide Try.prog W .any base t v := hval0
  have hW' := hW
  obtain ⟨p, q, hA0, hV, rfl, hfz, hnd⟩ := hW
  have hA : DataW.TrodAll enc Try.prog W 0 (fun _ => true) true Try.f3.params.toList args.toList ds p := hA0
  rw [Try.params3] at hA hval
  obtain ⟨v0, vs0, d0, ds0, pp0, q0, hargs, rfl, rfl, h0, r0⟩ := trodAll_cons hA
  obtain ⟨v1, vs1, d1, ds1, pp1, q1, rfl, rfl, rfl, h1, r1⟩ := trodAll_cons r0
  obtain ⟨v2, vs2, d2, ds2, pp2, q2, rfl, rfl, rfl, h2, r2⟩ := trodAll_cons r1
  obtain ⟨v3, vs3, d3, ds3, pp3, q3, rfl, rfl, rfl, h3, r3⟩ := trodAll_cons r2
  obtain ⟨rfl, rfl, rfl⟩ := trodAll_nil r3
  obtain rfl : args = #[v0, v1, v2, v3] := by cases args; simp_all
  obtain ⟨rfl, rfl⟩ := trodVars_none hV
  obtain ⟨a0, len0, cap0, rfl⟩ := okWide_slice Try.underlying22 (hval 0 22 v0 rfl rfl)
  have k0 := h0
  have lt0 : ∀ x ∈ pp0, x.block < W.heap.size := by obtain ⟨m, hm⟩ := k0; exact DataW.trod_lt m _ _ _ hm
  obtain ⟨p0, hr0, w0⟩ : ∃ l : List TMade, RD W [.vec false (l.map eTMade)] [.slice a0 len0 cap0] ∧ (fun l : List TMade => l.length * 12 ≤ 140737488351232 ∧ ∀ x ∈ l, wf47 x) l := by obtain ⟨fuel, hf⟩ := h0; exact reads22 _ _ _ _ _ _ _ _ _ hf (weights_arg hsz0 (j := 0) rfl rfl)
  obtain ⟨p1, rfl, rfl, rfl, w1⟩ := open_int Try.underlying21 (hval 1 21 v1 rfl rfl) h1
  obtain ⟨p2, rfl, rfl, rfl, w2⟩ := open_int Try.underlying21 (hval 2 21 v2 rfl rfl) h2
  obtain ⟨p3, rfl, rfl, rfl, w3⟩ := open_int Try.underlying21 (hval 3 21 v3 rfl rfl) h3
  clear hA0 hval0
  have hV' : VRs (allK W) rnone [.vec false (p0.map eTMade), .int .i32 p1, .int .i32 p2, .int .i32 p3] #[.slice a0 len0 cap0, .int .i32 p1, .int .i32 p2, .int .i32 p3] := vrs_cons (RD.get1 hr0) (vrs_cons (RD.get1 (RD.one rfl .int : RD W [.int .i32 p1] [.int .i32 p1])) (vrs_cons (RD.get1 (RD.one rfl .int : RD W [.int .i32 p2] [.int .i32 p2])) (vrs_cons (RD.get1 (RD.one rfl .int : RD W [.int .i32 p3] [.int .i32 p3])) (vrs_nil))))
  refine (ACalls.below (law_DecompParts (N := 9223372036854775809) (by decide) w0 w1 w2 w3) hV').mono fun e W' ⟨he, bel0⟩ => ?_
  have bel : Below W.heap.size W W' := bel0
  subst he
  exact ⟨_, rfl, _, _, _, [], _, [], hW', trodAll_mk1 (shut_bool Try.underlying4 _), (trodAll_cons_mk (Below.trod laidOut (by kernel_rfl) (of_decide_eq_true (by kernel_rfl)) k0 bel lt0) (trodAll_cons_mk (shut_int Try.underlying21 w1) (trodAll_cons_mk (shut_int Try.underlying21 w2) (trodAll_cons_mk (shut_int Try.underlying21 w3) trodAll_mk0)))), rfl, bel.frame _, fun h => by cases h⟩
theorem over : Rows.decompPartsRow.holds Try.pinned (OpenSpec.ofChange Rows.decompPartsSpec) :=
  OpenClaim.holds_of_wide 3 Try.f3 rfl rfl rfl rfl rfl rfl rfl ⟨rfl, rfl, rfl, rfl, rfl⟩ rfl rfl rfl rfl rfl (by kernel_rfl) Try.func3 (by kernel_rfl)
    (of_decide_eq_true (by kernel_rfl)) (by unfold Func.isWrapper; first | (rw [if_pos (by decide +kernel)]; kernel_rfl) | (rw [if_neg (by decide +kernel)]; exact ⟨rfl, rfl⟩))
    (fun os started H enc _ => lifted os started H enc)
theorem proved : Rows.DecompPartsSaid := over
#print axioms proved
end Go.Proofs.Ytejkiahbknjmaaa.decompParts
namespace Go.Proofs.Ytejkiahbknjmaaa
theorem decompParts_holds : Rows.DecompPartsSaid := decompParts.proved
end Go.Proofs.Ytejkiahbknjmaaa
