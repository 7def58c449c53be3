/- The statement BufferRises: for every input it returns true, and the input reads as it did. Walked by the abstract machine. -/
import Derived.Test.YtjdnbdhdpcnikaaRows
import Derived.Test.YtjdnbdhdpcnikaabmW1
import Derived.Test.YtjdnbdhdpcnikaaLpBufferRises
import Derived.WalkKit
import Derived.ProofKit
import Derived.OpenShut
import Derived.ShutString
import Derived.ChangeOld
import Derived.Below
import Derived.SizedLaws
set_option linter.unusedVariables false
set_option maxRecDepth 100000
namespace Go.Proofs.Ytjdnbdhdpcnikaa.AI
open Go.Proofs
def wf32 (x : TGlyph) : Prop := (fun n => (Lit.int .i64 n).wf = true) x.Id ∧ (fun n => (Lit.int .i64 n).wf = true) x.Cluster ∧ (fun n => (Lit.int .i64 n).wf = true) x.Mask ∧ (fun n => (Lit.int .i64 n).wf = true) x.Syl ∧ (fun n => (Lit.int .i32 n).wf = true) x.Code ∧ (fun n => (Lit.int .i64 n).wf = true) x.Cat ∧ (fun n => (Lit.int .i64 n).wf = true) x.Pos ∧ (fun n => (Lit.int .i64 n).wf = true) x.Key ∧ (fun n => (Lit.int .i64 n).wf = true) x.Lig ∧ (fun n => (Lit.int .i64 n).wf = true) x.Part ∧ (fun n => (Lit.int .i64 n).wf = true) x.X ∧ (fun n => (Lit.int .i64 n).wf = true) x.Y ∧ (fun n => (Lit.int .i64 n).wf = true) x.Wide ∧ (fun n => (Lit.int .i64 n).wf = true) x.High
theorem reads32 : Reads Try.prog 32 eTGlyph wf32 :=
  (Reads.struct Try.underlying32 (by kernel_rfl) (FReads.cons (m := 1) (n := 13) (Reads.int (k := .i64) Try.underlying3) rfl (by kernel_rfl) (FReads.cons (m := 1) (n := 12) (Reads.int (k := .i64) Try.underlying3) rfl (by kernel_rfl) (FReads.cons (m := 1) (n := 11) (Reads.int (k := .i64) Try.underlying3) rfl (by kernel_rfl) (FReads.cons (m := 1) (n := 10) (Reads.int (k := .i64) Try.underlying3) rfl (by kernel_rfl) (FReads.cons (m := 1) (n := 9) (Reads.int (k := .i32) Try.underlying21) rfl (by kernel_rfl) (FReads.cons (m := 1) (n := 8) (Reads.int (k := .i64) Try.underlying3) rfl (by kernel_rfl) (FReads.cons (m := 1) (n := 7) (Reads.int (k := .i64) Try.underlying3) rfl (by kernel_rfl) (FReads.cons (m := 1) (n := 6) (Reads.int (k := .i64) Try.underlying3) rfl (by kernel_rfl) (FReads.cons (m := 1) (n := 5) (Reads.int (k := .i64) Try.underlying3) rfl (by kernel_rfl) (FReads.cons (m := 1) (n := 4) (Reads.int (k := .i64) Try.underlying3) rfl (by kernel_rfl) (FReads.cons (m := 1) (n := 3) (Reads.int (k := .i64) Try.underlying3) rfl (by kernel_rfl) (FReads.cons (m := 1) (n := 2) (Reads.int (k := .i64) Try.underlying3) rfl (by kernel_rfl) (FReads.cons (m := 1) (n := 1) (Reads.int (k := .i64) Try.underlying3) rfl (by kernel_rfl) (FReads.last (Reads.int (k := .i64) Try.underlying3) rfl (by kernel_rfl)))))))))))))))).iso (fun p => (⟨p.1, p.2.1, p.2.2.1, p.2.2.2.1, p.2.2.2.2.1, p.2.2.2.2.2.1, p.2.2.2.2.2.2.1, p.2.2.2.2.2.2.2.1, p.2.2.2.2.2.2.2.2.1, p.2.2.2.2.2.2.2.2.2.1, p.2.2.2.2.2.2.2.2.2.2.1, p.2.2.2.2.2.2.2.2.2.2.2.1, p.2.2.2.2.2.2.2.2.2.2.2.2.1, p.2.2.2.2.2.2.2.2.2.2.2.2.2⟩ : TGlyph)) (fun _ => rfl) (fun _ h => h)
theorem reads22 : Reads Try.prog 22 (fun l : List TGlyph => [.vec false (l.map eTGlyph)]) (fun l => l.length ≤ maxLen ∧ ∀ x ∈ l, wf32 x) := Reads.slice Try.underlying22 reads32
theorem reads28 : Reads Try.prog 28 (fun l : List Int => [.vec false (l.map eI64)]) (fun l => l.length ≤ maxLen ∧ ∀ x ∈ l, (fun n => (Lit.int .i64 n).wf = true) x) := Reads.slice Try.underlying28 (Reads.int (k := .i64) Try.underlying3)
theorem law_BufferRises {N : Nat} (hB : 9223372036854775808 < N) {p0 : List TGlyph} (w0 : (fun l : List TGlyph => l.length ≤ maxLen ∧ ∀ x ∈ l, wf32 x) p0) {p1 : Int} (w1 : (fun n => (Lit.int .i64 n).wf = true) p1) {p2 : Int} (w2 : (fun n => (Lit.int .i64 n).wf = true) p2) {p3 : List Int} (w3 : (fun l : List Int => l.length ≤ maxLen ∧ ∀ x ∈ l, (fun n => (Lit.int .i64 n).wf = true) x) p3) {p4 : List Int} (w4 : (fun l : List Int => l.length ≤ maxLen ∧ ∀ x ∈ l, (fun n => (Lit.int .i64 n).wf = true) x) p4) : ACalls Go.Proofs.Try.prog 4 [.vec false (List.map eTGlyph p0), .int .i64 p1, .int .i64 p2, .vec false (List.map eI64 p3), .vec false (List.map eI64 p4)] [] (fun e H => e = .ret (.bool true)) :=
  have hN : 1000000000000 < N := by omega
  (law17_BufferRises_w N p0 p1 p2 p3 p4 false false false true (BufferRises_plain hN)).mono (fun _ _ h => h.2)
end Go.Proofs.Ytjdnbdhdpcnikaa.AI
namespace Go.Proofs.Ytjdnbdhdpcnikaa.bufferRises
open Go.ChangeShapes Go.WideShapes Go.ChangeAt Go.RowKit Go.Proofs.Ytjdnbdhdpcnikaa.AI
open Go.ChangeMaps (open_string shut_string)
theorem own : ownKnob Try.prog.godebug = none := by kernel_rfl
theorem laidOut : laidOutB Try.prog = true := by kernel_rfl
theorem lifted (os : Os) (started : os.Started) (H : Type) (enc : TypeId × Value → H) :
    ReturnsInHanded {} Try.checked os 4 .any (Rows.bufferRisesSpec.pre6 enc Try.prog Try.f4 Rows.bufferRisesRow.domain false) (Rows.bufferRisesSpec.post enc Try.prog Try.f4 false true false false) := by
  refine returnsInHanded_of_change_sized (C := Try.checked) own started (by kernel_rfl) Try.func4
    (ChangeSpec.witness6 (enc := enc) (C := Try.checked) false ⟨#[], #[.slice none 0 0, .int .i64 0, .int .i64 0, .slice none 0 0, .slice none 0 0], []⟩ 8 (by kernel_rfl) (by kernel_rfl) (by kernel_rfl) (by kernel_rfl)) ?_
  intro W base args ds gs before hval0 hW hcnd hsz0 _
  have hval : ∀ (j : Nat) t v, Try.f4.params[j]? = some t → args[j]? = some v → Value.okWide Try.prog W .any base t v := hval0
  have hW' := hW
  obtain ⟨p, q, hA0, hV, rfl, hfz, hnd⟩ := hW
  have hA : DataW.TrodAll enc Try.prog W 0 (fun _ => true) true Try.f4.params.toList args.toList ds p := hA0
  rw [Try.params4] at hA hval
  obtain ⟨v0, vs0, d0, ds0, pp0, q0, hargs, rfl, rfl, h0, r0⟩ := trodAll_cons hA
  obtain ⟨v1, vs1, d1, ds1, pp1, q1, rfl, rfl, rfl, h1, r1⟩ := trodAll_cons r0
  obtain ⟨v2, vs2, d2, ds2, pp2, q2, rfl, rfl, rfl, h2, r2⟩ := trodAll_cons r1
  obtain ⟨v3, vs3, d3, ds3, pp3, q3, rfl, rfl, rfl, h3, r3⟩ := trodAll_cons r2
  obtain ⟨v4, vs4, d4, ds4, pp4, q4, rfl, rfl, rfl, h4, r4⟩ := trodAll_cons r3
  obtain ⟨rfl, rfl, rfl⟩ := trodAll_nil r4
  obtain rfl : args = #[v0, v1, v2, v3, v4] := by cases args; simp_all
  obtain ⟨rfl, rfl⟩ := trodVars_none hV
  obtain ⟨a0, len0, cap0, rfl⟩ := okWide_slice Try.underlying22 (hval 0 22 v0 rfl rfl)
  have k0 := h0
  have lt0 : ∀ x ∈ pp0, x.block < W.heap.size := by obtain ⟨m, hm⟩ := k0; exact DataW.trod_lt m _ _ _ hm
  obtain ⟨p0, hr0, w0⟩ : ∃ l : List TGlyph, RD W [.vec false (l.map eTGlyph)] [.slice a0 len0 cap0] ∧ (fun l : List TGlyph => l.length ≤ maxLen ∧ ∀ x ∈ l, wf32 x) l := by obtain ⟨fuel, hf⟩ := h0; exact reads22 _ _ _ _ _ _ _ _ _ hf
  obtain ⟨p1, rfl, rfl, rfl, w1⟩ := open_int Try.underlying3 (hval 1 3 v1 rfl rfl) h1
  obtain ⟨p2, rfl, rfl, rfl, w2⟩ := open_int Try.underlying3 (hval 2 3 v2 rfl rfl) h2
  obtain ⟨a3, len3, cap3, rfl⟩ := okWide_slice Try.underlying28 (hval 3 28 v3 rfl rfl)
  have k3 := h3
  have lt3 : ∀ x ∈ pp3, x.block < W.heap.size := by obtain ⟨m, hm⟩ := k3; exact DataW.trod_lt m _ _ _ hm
  obtain ⟨p3, hr3, w3⟩ : ∃ l : List Int, RD W [.vec false (l.map eI64)] [.slice a3 len3 cap3] ∧ (fun l : List Int => l.length ≤ maxLen ∧ ∀ x ∈ l, (fun n => (Lit.int .i64 n).wf = true) x) l := by obtain ⟨fuel, hf⟩ := h3; exact reads28 _ _ _ _ _ _ _ _ _ hf
  obtain ⟨a4, len4, cap4, rfl⟩ := okWide_slice Try.underlying28 (hval 4 28 v4 rfl rfl)
  have k4 := h4
  have lt4 : ∀ x ∈ pp4, x.block < W.heap.size := by obtain ⟨m, hm⟩ := k4; exact DataW.trod_lt m _ _ _ hm
  obtain ⟨p4, hr4, w4⟩ : ∃ l : List Int, RD W [.vec false (l.map eI64)] [.slice a4 len4 cap4] ∧ (fun l : List Int => l.length ≤ maxLen ∧ ∀ x ∈ l, (fun n => (Lit.int .i64 n).wf = true) x) l := by obtain ⟨fuel, hf⟩ := h4; exact reads28 _ _ _ _ _ _ _ _ _ hf
  clear hA0 hval0
  have hV' : VRs (allK W) rnone [.vec false (p0.map eTGlyph), .int .i64 p1, .int .i64 p2, .vec false (p3.map eI64), .vec false (p4.map eI64)] #[.slice a0 len0 cap0, .int .i64 p1, .int .i64 p2, .slice a3 len3 cap3, .slice a4 len4 cap4] := vrs_cons (RD.get1 hr0) (vrs_cons (RD.get1 (RD.one rfl .int : RD W [.int .i64 p1] [.int .i64 p1])) (vrs_cons (RD.get1 (RD.one rfl .int : RD W [.int .i64 p2] [.int .i64 p2])) (vrs_cons (RD.get1 hr3) (vrs_cons (RD.get1 hr4) (vrs_nil)))))
  refine (ACalls.below (law_BufferRises (N := 9223372036854775809) (by decide) w0 w1 w2 w3 w4) hV').mono fun e W' ⟨he, bel0⟩ => ?_
  have bel : Below W.heap.size W W' := bel0
  subst he
  exact ⟨_, rfl, _, _, _, [], _, [], hW', trodAll_mk1 (shut_bool Try.underlying4 _), (trodAll_cons_mk (Below.trod laidOut (by kernel_rfl) (of_decide_eq_true (by kernel_rfl)) k0 bel lt0) (trodAll_cons_mk (shut_int Try.underlying3 w1) (trodAll_cons_mk (shut_int Try.underlying3 w2) (trodAll_cons_mk (Below.trod laidOut (by kernel_rfl) (of_decide_eq_true (by kernel_rfl)) k3 bel lt3) (trodAll_cons_mk (Below.trod laidOut (by kernel_rfl) (of_decide_eq_true (by kernel_rfl)) k4 bel lt4) trodAll_mk0))))), rfl, bel.frame _, fun h => by cases h⟩
theorem over : Rows.bufferRisesRow.holds Try.pinned (OpenSpec.ofChange Rows.bufferRisesSpec) :=
  OpenClaim.holds_of_wide 4 Try.f4 rfl rfl rfl rfl rfl rfl rfl ⟨rfl, rfl, rfl, rfl, rfl⟩ rfl rfl rfl rfl rfl (by kernel_rfl) Try.func4 (by kernel_rfl)
    (of_decide_eq_true (by kernel_rfl)) (by unfold Func.isWrapper; first | (rw [if_pos (by decide +kernel)]; kernel_rfl) | (rw [if_neg (by decide +kernel)]; exact ⟨rfl, rfl⟩))
    (fun os started H enc _ => lifted os started H enc)
theorem proved : Rows.BufferRisesSaid := over
#print axioms proved
end Go.Proofs.Ytjdnbdhdpcnikaa.bufferRises
namespace Go.Proofs.Ytjdnbdhdpcnikaa
/-- The row, under a short name, for the claim. -/
theorem bufferRises_holds : Rows.BufferRisesSaid := bufferRises.proved
end Go.Proofs.Ytjdnbdhdpcnikaa
