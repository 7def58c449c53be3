/- Part of a proof. -/
import Derived.Test.YtejkiahbknjmaaaRows
import Derived.Test.YtejkiahbknjmaaadecW2
import Derived.Test.YtejkiahbknjmaaaLpDecompBack
import Derived.WalkKit
import Derived.ProofKit
import Derived.OpenShut
import Derived.ShutString
import Derived.ChangeOld
import Derived.Below
import Derived.SizedLaws
set_option linter.unusedVariables false
set_option maxRecDepth 100000
namespace Go.Proofs.Ytejkiahbknjmaaa.AI
open Go.Proofs
def wf47 (x : TMade) : Prop := (fun n => (Lit.int .i32 n).wf = true) x.Code ∧ (fun n => (Lit.int .i32 n).wf = true) x.A ∧ (fun n => (Lit.int .i32 n).wf = true) x.B
theorem reads47 : Reads Try.prog 47 eTMade wf47 :=
  (Reads.struct Try.underlying47 (by kernel_rfl) (FReads.cons (m := 1) (n := 2) (Reads.int (k := .i32) Try.underlying21) rfl (by kernel_rfl) (FReads.cons (m := 1) (n := 1) (Reads.int (k := .i32) Try.underlying21) rfl (by kernel_rfl) (FReads.last (Reads.int (k := .i32) Try.underlying21) rfl (by kernel_rfl))))).iso (fun p => (⟨p.1, p.2.1, p.2.2⟩ : TMade)) (fun _ => rfl) (fun _ h => h)
theorem reads22 : Reads Try.prog 22 (fun l : List TMade => [.vec false (l.map eTMade)]) (fun l => l.length * 12 ≤ 140737488351232 ∧ ∀ x ∈ l, wf47 x) := Reads.slice (B := 12) Try.underlying22 (by kernel_rfl) reads47
theorem law_DecompBack {N : Nat} (hB : 9223372036854775808 < N) {p0 : List TMade} (w0 : (fun l : List TMade => l.length * 12 ≤ 140737488351232 ∧ ∀ x ∈ l, wf47 x) p0) {p1 : Int} (w1 : (fun n => (Lit.int .u8 n).wf = true) p1) : ACalls Go.Proofs.Try.prog 7 [.vec false (List.map eTMade p0), .int .u8 p1] [] (fun e H => e = .ret (.bool true)) :=
  have hN : 1000000000000 < N := by omega
  (law21_DecompBack_w N p0 p1 false true (decompBack_plain hN _ (by have := wf_u8 w1; omega) (by have := wf_u8 w1; omega))).mono (fun _ _ h => h.2)
end Go.Proofs.Ytejkiahbknjmaaa.AI
namespace Go.Proofs.Ytejkiahbknjmaaa.decompBack
open Go.ChangeShapes Go.WideShapes Go.ChangeAt Go.RowKit Go.Proofs.Ytejkiahbknjmaaa.AI
open Go.ChangeMaps (open_string shut_string)
theorem own : ownKnob Try.prog.godebug = none := by kernel_rfl
theorem laidOut : laidOutB Try.prog = true := by kernel_rfl
theorem lifted (os : Os) (started : os.Started) (H : Type) (enc : TypeId × Value → H) :
    ReturnsInHanded {} Try.checked os 7 .any (Rows.decompBackSpec.pre6 enc Try.prog Try.f7 Rows.decompBackRow.domain false) (Rows.decompBackSpec.post enc Try.prog Try.f7 false true false false) := by
  refine returnsInHanded_of_change_sized (C := Try.checked) own started (by kernel_rfl) Try.func7
    (ChangeSpec.witness6 (enc := enc) (C := Try.checked) false ⟨#[], #[.slice none 0 0, .int .u8 0], []⟩ 8 (by kernel_rfl) (by kernel_rfl) (by kernel_rfl) (by kernel_rfl)) ?_
  intro W base args ds gs before hval0 hW hcnd hsz0 _
  have hval : ∀ (j : Nat) t v, Try.f7.params[j]? = some t → args[j]? = some v → Value.okWide Try.prog W .any base t v := hval0
  have hW' := hW
  obtain ⟨p, q, hA0, hV, rfl, hfz, hnd⟩ := hW
  have hA : DataW.TrodAll enc Try.prog W 0 (fun _ => true) true Try.f7.params.toList args.toList ds p := hA0
  rw [Try.params7] at hA hval
  obtain ⟨v0, vs0, d0, ds0, pp0, q0, hargs, rfl, rfl, h0, r0⟩ := trodAll_cons hA
  obtain ⟨v1, vs1, d1, ds1, pp1, q1, rfl, rfl, rfl, h1, r1⟩ := trodAll_cons r0
  obtain ⟨rfl, rfl, rfl⟩ := trodAll_nil r1
  obtain rfl : args = #[v0, v1] := by cases args; simp_all
  obtain ⟨rfl, rfl⟩ := trodVars_none hV
  obtain ⟨a0, len0, cap0, rfl⟩ := okWide_slice Try.underlying22 (hval 0 22 v0 rfl rfl)
  have k0 := h0
  have lt0 : ∀ x ∈ pp0, x.block < W.heap.size := by obtain ⟨m, hm⟩ := k0; exact DataW.trod_lt m _ _ _ hm
  obtain ⟨p0, hr0, w0⟩ : ∃ l : List TMade, RD W [.vec false (l.map eTMade)] [.slice a0 len0 cap0] ∧ (fun l : List TMade => l.length * 12 ≤ 140737488351232 ∧ ∀ x ∈ l, wf47 x) l := by obtain ⟨fuel, hf⟩ := h0; exact reads22 _ _ _ _ _ _ _ _ _ hf (weights_arg hsz0 (j := 0) rfl rfl)
  obtain ⟨p1, rfl, rfl, rfl, w1⟩ := open_int Try.underlying5 (hval 1 5 v1 rfl rfl) h1
  clear hA0 hval0
  have hV' : VRs (allK W) rnone [.vec false (p0.map eTMade), .int .u8 p1] #[.slice a0 len0 cap0, .int .u8 p1] := vrs_cons (RD.get1 hr0) (vrs_cons (RD.get1 (RD.one rfl .int : RD W [.int .u8 p1] [.int .u8 p1])) (vrs_nil))
  refine (ACalls.below (law_DecompBack (N := 9223372036854775809) (by decide) w0 w1) hV').mono fun e W' ⟨he, bel0⟩ => ?_
  have bel : Below W.heap.size W W' := bel0
  subst he
  exact ⟨_, rfl, _, _, _, [], _, [], hW', trodAll_mk1 (shut_bool Try.underlying4 _), (trodAll_cons_mk (Below.trod laidOut (by kernel_rfl) (of_decide_eq_true (by kernel_rfl)) k0 bel lt0) (trodAll_cons_mk (shut_int Try.underlying5 w1) trodAll_mk0)), rfl, bel.frame _, fun h => by cases h⟩
theorem over : Rows.decompBackRow.holds Try.pinned (OpenSpec.ofChange Rows.decompBackSpec) :=
  OpenClaim.holds_of_wide 7 Try.f7 rfl rfl rfl rfl rfl rfl rfl ⟨rfl, rfl, rfl, rfl, rfl⟩ rfl rfl rfl rfl rfl (by kernel_rfl) Try.func7 (by kernel_rfl)
    (of_decide_eq_true (by kernel_rfl)) (by unfold Func.isWrapper; first | (rw [if_pos (by decide +kernel)]; kernel_rfl) | (rw [if_neg (by decide +kernel)]; exact ⟨rfl, rfl⟩))
    (fun os started H enc _ => lifted os started H enc)
theorem proved : Rows.DecompBackSaid := over
#print axioms proved
end Go.Proofs.Ytejkiahbknjmaaa.decompBack
namespace Go.Proofs.Ytejkiahbknjmaaa
theorem decompBack_holds : Rows.DecompBackSaid := decompBack.proved
end Go.Proofs.Ytejkiahbknjmaaa
