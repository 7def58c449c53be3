/- The statement BufferStays: for every input it returns true, and the input reads as it did. Walked by the abstract machine. -/
import Derived.Test.YtjdnbdhdpcnikaaRows
import Derived.Test.YtjdnbdhdpcnikaabmW2
import Derived.Test.YtjdnbdhdpcnikaaBU5
import Derived.WalkKit
import Derived.ProofKit
import Derived.OpenShut
import Derived.ShutString
import Derived.ChangeOld
import Derived.Below
import Derived.SizedLaws
set_option linter.unusedVariables false
set_option maxRecDepth 100000
namespace Go.Proofs.Ytjdnbdhdpcnikaa.AI
open Go.Proofs
def wf32 (x : TGlyph) : Prop := (fun n => (Lit.int .i64 n).wf = true) x.Id ∧ (fun n => (Lit.int .i64 n).wf = true) x.Cluster ∧ (fun n => (Lit.int .i64 n).wf = true) x.Mask ∧ (fun n => (Lit.int .i64 n).wf = true) x.Syl ∧ (fun n => (Lit.int .i32 n).wf = true) x.Code ∧ (fun n => (Lit.int .i64 n).wf = true) x.Cat ∧ (fun n => (Lit.int .i64 n).wf = true) x.Pos ∧ (fun n => (Lit.int .i64 n).wf = true) x.Key ∧ (fun n => (Lit.int .i64 n).wf = true) x.Lig ∧ (fun n => (Lit.int .i64 n).wf = true) x.Part ∧ (fun n => (Lit.int .i64 n).wf = true) x.X ∧ (fun n => (Lit.int .i64 n).wf = true) x.Y ∧ (fun n => (Lit.int .i64 n).wf = true) x.Wide ∧ (fun n => (Lit.int .i64 n).wf = true) x.High
theorem reads32 : Reads Try.prog 32 eTGlyph wf32 :=
  (Reads.struct Try.underlying32 (by kernel_rfl) (FReads.cons (m := 1) (n := 13) (Reads.int (k := .i64) Try.underlying3) rfl (by kernel_rfl) (FReads.cons (m := 1) (n := 12) (Reads.int (k := .i64) Try.underlying3) rfl (by kernel_rfl) (FReads.cons (m := 1) (n := 11) (Reads.int (k := .i64) Try.underlying3) rfl (by kernel_rfl) (FReads.cons (m := 1) (n := 10) (Reads.int (k := .i64) Try.underlying3) rfl (by kernel_rfl) (FReads.cons (m := 1) (n := 9) (Reads.int (k := .i32) Try.underlying21) rfl (by kernel_rfl) (FReads.cons (m := 1) (n := 8) (Reads.int (k := .i64) Try.underlying3) rfl (by kernel_rfl) (FReads.cons (m := 1) (n := 7) (Reads.int (k := .i64) Try.underlying3) rfl (by kernel_rfl) (FReads.cons (m := 1) (n := 6) (Reads.int (k := .i64) Try.underlying3) rfl (by kernel_rfl) (FReads.cons (m := 1) (n := 5) (Reads.int (k := .i64) Try.underlying3) rfl (by kernel_rfl) (FReads.cons (m := 1) (n := 4) (Reads.int (k := .i64) Try.underlying3) rfl (by kernel_rfl) (FReads.cons (m := 1) (n := 3) (Reads.int (k := .i64) Try.underlying3) rfl (by kernel_rfl) (FReads.cons (m := 1) (n := 2) (Reads.int (k := .i64) Try.underlying3) rfl (by kernel_rfl) (FReads.cons (m := 1) (n := 1) (Reads.int (k := .i64) Try.underlying3) rfl (by kernel_rfl) (FReads.last (Reads.int (k := .i64) Try.underlying3) rfl (by kernel_rfl)))))))))))))))).iso (fun p => (⟨p.1, p.2.1, p.2.2.1, p.2.2.2.1, p.2.2.2.2.1, p.2.2.2.2.2.1, p.2.2.2.2.2.2.1, p.2.2.2.2.2.2.2.1, p.2.2.2.2.2.2.2.2.1, p.2.2.2.2.2.2.2.2.2.1, p.2.2.2.2.2.2.2.2.2.2.1, p.2.2.2.2.2.2.2.2.2.2.2.1, p.2.2.2.2.2.2.2.2.2.2.2.2.1, p.2.2.2.2.2.2.2.2.2.2.2.2.2⟩ : TGlyph)) (fun _ => rfl) (fun _ h => h)
theorem reads22 : Reads Try.prog 22 (fun l : List TGlyph => [.vec false (l.map eTGlyph)]) (fun l => l.length ≤ maxLen ∧ ∀ x ∈ l, wf32 x) := Reads.slice Try.underlying22 reads32
theorem law_BufferStays {N : Nat} (hB : 9223372036854775808 < N) {p0 : List TGlyph} (w0 : (fun l : List TGlyph => l.length ≤ maxLen ∧ ∀ x ∈ l, wf32 x) p0) {p1 : Int} (w1 : (fun n => (Lit.int .i64 n).wf = true) p1) : ACalls Go.Proofs.Try.prog 5 [.vec false (List.map eTGlyph p0), .int .i64 p1] [] (fun e H => e = .ret (.bool true)) :=
  have hN : 1000000000000 < N := by omega
  (law17_BufferStays_w N p0 p1 false true (BufferStays_plain hN _ _)).mono (fun _ _ h => h.2)
end Go.Proofs.Ytjdnbdhdpcnikaa.AI
namespace Go.Proofs.Ytjdnbdhdpcnikaa.bufferStays
open Go.ChangeShapes Go.WideShapes Go.ChangeAt Go.RowKit Go.Proofs.Ytjdnbdhdpcnikaa.AI
open Go.ChangeMaps (open_string shut_string)
theorem own : ownKnob Try.prog.godebug = none := by kernel_rfl
theorem laidOut : laidOutB Try.prog = true := by kernel_rfl
theorem lifted (os : Os) (started : os.Started) (H : Type) (enc : TypeId × Value → H) :
    ReturnsInHanded {} Try.checked os 5 .any (Rows.bufferStaysSpec.pre6 enc Try.prog Try.f5 Rows.bufferStaysRow.domain false) (Rows.bufferStaysSpec.post enc Try.prog Try.f5 false true false false) := by
  refine returnsInHanded_of_change_sized (C := Try.checked) own started (by kernel_rfl) Try.func5
    (ChangeSpec.witness6 (enc := enc) (C := Try.checked) false ⟨#[], #[.slice none 0 0, .int .i64 0], []⟩ 8 (by kernel_rfl) (by kernel_rfl) (by kernel_rfl) (by kernel_rfl)) ?_
  intro W base args ds gs before hval0 hW hcnd hsz0 _
  have hval : ∀ (j : Nat) t v, Try.f5.params[j]? = some t → args[j]? = some v → Value.okWide Try.prog W .any base t v := hval0
  have hW' := hW
  obtain ⟨p, q, hA0, hV, rfl, hfz, hnd⟩ := hW
  have hA : DataW.TrodAll enc Try.prog W 0 (fun _ => true) true Try.f5.params.toList args.toList ds p := hA0
  rw [Try.params5] at hA hval
  obtain ⟨v0, vs0, d0, ds0, pp0, q0, hargs, rfl, rfl, h0, r0⟩ := trodAll_cons hA
  obtain ⟨v1, vs1, d1, ds1, pp1, q1, rfl, rfl, rfl, h1, r1⟩ := trodAll_cons r0
  obtain ⟨rfl, rfl, rfl⟩ := trodAll_nil r1
  obtain rfl : args = #[v0, v1] := by cases args; simp_all
  obtain ⟨rfl, rfl⟩ := trodVars_none hV
  obtain ⟨a0, len0, cap0, rfl⟩ := okWide_slice Try.underlying22 (hval 0 22 v0 rfl rfl)
  have k0 := h0
  have lt0 : ∀ x ∈ pp0, x.block < W.heap.size := by obtain ⟨m, hm⟩ := k0; exact DataW.trod_lt m _ _ _ hm
  obtain ⟨p0, hr0, w0⟩ : ∃ l : List TGlyph, RD W [.vec false (l.map eTGlyph)] [.slice a0 len0 cap0] ∧ (fun l : List TGlyph => l.length ≤ maxLen ∧ ∀ x ∈ l, wf32 x) l := by obtain ⟨fuel, hf⟩ := h0; exact reads22 _ _ _ _ _ _ _ _ _ hf
  obtain ⟨p1, rfl, rfl, rfl, w1⟩ := open_int Try.underlying3 (hval 1 3 v1 rfl rfl) h1
  clear hA0 hval0
  have hV' : VRs (allK W) rnone [.vec false (p0.map eTGlyph), .int .i64 p1] #[.slice a0 len0 cap0, .int .i64 p1] := vrs_cons (RD.get1 hr0) (vrs_cons (RD.get1 (RD.one rfl .int : RD W [.int .i64 p1] [.int .i64 p1])) (vrs_nil))
  refine (ACalls.below (law_BufferStays (N := 9223372036854775809) (by decide) w0 w1) hV').mono fun e W' ⟨he, bel0⟩ => ?_
  have bel : Below W.heap.size W W' := bel0
  subst he
  exact ⟨_, rfl, _, _, _, [], _, [], hW', trodAll_mk1 (shut_bool Try.underlying4 _), (trodAll_cons_mk (Below.trod laidOut (by kernel_rfl) (of_decide_eq_true (by kernel_rfl)) k0 bel lt0) (trodAll_cons_mk (shut_int Try.underlying3 w1) trodAll_mk0)), rfl, bel.frame _, fun h => by cases h⟩
theorem over : Rows.bufferStaysRow.holds Try.pinned (OpenSpec.ofChange Rows.bufferStaysSpec) :=
  OpenClaim.holds_of_wide 5 Try.f5 rfl rfl rfl rfl rfl rfl rfl ⟨rfl, rfl, rfl, rfl, rfl⟩ rfl rfl rfl rfl rfl (by kernel_rfl) Try.func5 (by kernel_rfl)
    (of_decide_eq_true (by kernel_rfl)) (by unfold Func.isWrapper; first | (rw [if_pos (by decide +kernel)]; kernel_rfl) | (rw [if_neg (by decide +kernel)]; exact ⟨rfl, rfl⟩))
    (fun os started H enc _ => lifted os started H enc)
theorem proved : Rows.BufferStaysSaid := over
#print axioms proved
end Go.Proofs.Ytjdnbdhdpcnikaa.bufferStays
namespace Go.Proofs.Ytjdnbdhdpcnikaa
/-- The row, under a short name, for the claim. -/
theorem bufferStays_holds : Rows.BufferStaysSaid := bufferStays.proved
end Go.Proofs.Ytjdnbdhdpcnikaa
