/- Part of a proof. -/
import Derived.Test.YtejkiahbknjmaaaRows
import Derived.Test.YtejkiahbknjmaaadecW2
import Derived.Test.YtejkiahbknjmaaaLpDecompBooks
import Derived.WalkKit
import Derived.ProofKit
import Derived.OpenShut
import Derived.ShutString
import Derived.ChangeOld
import Derived.Below
import Derived.SizedLaws
set_option linter.unusedVariables false
set_option maxRecDepth 100000
namespace Go.Proofs.Ytejkiahbknjmaaa.AI
open Go.Proofs
def wf64 (x : TRange) : Prop := (fun n => (Lit.int .i32 n).wf = true) x.From ∧ (fun n => (Lit.int .i32 n).wf = true) x.To ∧ (fun n => (Lit.int .i64 n).wf = true) x.Val
theorem reads64 : Reads Try.prog 64 eTRange wf64 :=
  (Reads.struct Try.underlying64 (by kernel_rfl) (FReads.cons (m := 1) (n := 2) (Reads.int (k := .i32) Try.underlying21) rfl (by kernel_rfl) (FReads.cons (m := 1) (n := 1) (Reads.int (k := .i32) Try.underlying21) rfl (by kernel_rfl) (FReads.last (Reads.int (k := .i64) Try.underlying3) rfl (by kernel_rfl))))).iso (fun p => (⟨p.1, p.2.1, p.2.2⟩ : TRange)) (fun _ => rfl) (fun _ h => h)
theorem reads32 : Reads Try.prog 32 (fun l : List TRange => [.vec false (l.map eTRange)]) (fun l => l.length * 16 ≤ 140737488351232 ∧ ∀ x ∈ l, wf64 x) := Reads.slice (B := 16) Try.underlying32 (by kernel_rfl) reads64
def wf47 (x : TMade) : Prop := (fun n => (Lit.int .i32 n).wf = true) x.Code ∧ (fun n => (Lit.int .i32 n).wf = true) x.A ∧ (fun n => (Lit.int .i32 n).wf = true) x.B
theorem reads47 : Reads Try.prog 47 eTMade wf47 :=
  (Reads.struct Try.underlying47 (by kernel_rfl) (FReads.cons (m := 1) (n := 2) (Reads.int (k := .i32) Try.underlying21) rfl (by kernel_rfl) (FReads.cons (m := 1) (n := 1) (Reads.int (k := .i32) Try.underlying21) rfl (by kernel_rfl) (FReads.last (Reads.int (k := .i32) Try.underlying21) rfl (by kernel_rfl))))).iso (fun p => (⟨p.1, p.2.1, p.2.2⟩ : TMade)) (fun _ => rfl) (fun _ h => h)
theorem reads22 : Reads Try.prog 22 (fun l : List TMade => [.vec false (l.map eTMade)]) (fun l => l.length * 12 ≤ 140737488351232 ∧ ∀ x ∈ l, wf47 x) := Reads.slice (B := 12) Try.underlying22 (by kernel_rfl) reads47
def wf40 (x : TData) : Prop := (fun l : List TRange => l.length * 16 ≤ 140737488351232 ∧ ∀ x ∈ l, wf64 x) x.Cats ∧ (fun l : List TRange => l.length * 16 ≤ 140737488351232 ∧ ∀ x ∈ l, wf64 x) x.Poss ∧ (fun l : List TRange => l.length * 16 ≤ 140737488351232 ∧ ∀ x ∈ l, wf64 x) x.Joins ∧ (fun l : List TRange => l.length * 16 ≤ 140737488351232 ∧ ∀ x ∈ l, wf64 x) x.Classes ∧ (fun l : List TMade => l.length * 12 ≤ 140737488351232 ∧ ∀ x ∈ l, wf47 x) x.Pairs
theorem reads40 : Reads Try.prog 40 eTData wf40 :=
  (Reads.struct Try.underlying40 (by kernel_rfl) (FReads.cons (m := 1) (n := 4) reads32 rfl (by kernel_rfl) (FReads.cons (m := 1) (n := 3) reads32 rfl (by kernel_rfl) (FReads.cons (m := 1) (n := 2) reads32 rfl (by kernel_rfl) (FReads.cons (m := 1) (n := 1) reads32 rfl (by kernel_rfl) (FReads.last reads22 rfl (by kernel_rfl))))))).iso (fun p => (⟨p.1, p.2.1, p.2.2.1, p.2.2.2.1, p.2.2.2.2⟩ : TData)) (fun _ => rfl) (fun _ h => h)
theorem reads27 : Reads Try.prog 27 (fun l : List Int => [.vec false (l.map eI32)]) (fun l => l.length * 4 ≤ 140737488351232 ∧ ∀ x ∈ l, (fun n => (Lit.int .i32 n).wf = true) x) := Reads.slice (B := 4) Try.underlying27 (by kernel_rfl) (Reads.int (k := .i32) Try.underlying21)
theorem law_DecompBooks {N : Nat} (hB : 9223372036854775808 < N) {p0 : TData} (w0 : wf40 p0) {p1 : List Int} (w1 : (fun l : List Int => l.length * 4 ≤ 140737488351232 ∧ ∀ x ∈ l, (fun n => (Lit.int .i32 n).wf = true) x) p1) : ACalls Go.Proofs.Try.prog 5 [.agg (eTData p0), .vec false (List.map eI32 p1)] [] (fun e H => e = .ret (.bool true)) :=
  have hN : 1000000000000 < N := by omega
  (law21_DecompBooks_w N _ _ _ _ _ p1 false false false false false false true (decompBooks_plain hB _ _ _ _ _ _)).mono (fun _ _ h => h.2)
end Go.Proofs.Ytejkiahbknjmaaa.AI
namespace Go.Proofs.Ytejkiahbknjmaaa.decompBooks
open Go.ChangeShapes Go.WideShapes Go.ChangeAt Go.RowKit Go.Proofs.Ytejkiahbknjmaaa.AI
open Go.ChangeMaps (open_string shut_string)
theorem own : ownKnob Try.prog.godebug = none := by kernel_rfl
theorem laidOut : laidOutB Try.prog = true := by kernel_rfl
theorem lifted (os : Os) (started : os.Started) (H : Type) (enc : TypeId × Value → H) :
    ReturnsInHanded {} Try.checked os 5 .any (Rows.decompBooksSpec.pre6 enc Try.prog Try.f5 Rows.decompBooksRow.domain false) (Rows.decompBooksSpec.post enc Try.prog Try.f5 false true false false) := by
  refine returnsInHanded_of_change_sized (C := Try.checked) own started (by kernel_rfl) Try.func5
    (ChangeSpec.witness6 (enc := enc) (C := Try.checked) false ⟨#[], #[.agg #[.slice none 0 0, .slice none 0 0, .slice none 0 0, .slice none 0 0, .slice none 0 0], .slice none 0 0], []⟩ 8 (by kernel_rfl) (by kernel_rfl) (by kernel_rfl) (by kernel_rfl)) ?_
  intro W base args ds gs before hval0 hW hcnd hsz0 _
  have hval : ∀ (j : Nat) t v, Try.f5.params[j]? = some t → args[j]? = some v → Value.okWide Try.prog W .any base t v := hval0
  have hW' := hW
  obtain ⟨p, q, hA0, hV, rfl, hfz, hnd⟩ := hW
  have hA : DataW.TrodAll enc Try.prog W 0 (fun _ => true) true Try.f5.params.toList args.toList ds p := hA0
  rw [Try.params5] at hA hval
  obtain ⟨v0, vs0, d0, ds0, pp0, q0, hargs, rfl, rfl, h0, r0⟩ := trodAll_cons hA
  obtain ⟨v1, vs1, d1, ds1, pp1, q1, rfl, rfl, rfl, h1, r1⟩ := trodAll_cons r0
  obtain ⟨rfl, rfl, rfl⟩ := trodAll_nil r1
  obtain rfl : args = #[v0, v1] := by cases args; simp_all
  obtain ⟨rfl, rfl⟩ := trodVars_none hV
  obtain ⟨cs0, rfl, hcs0⟩ := okWide_struct Try.underlying40 (hval 0 40 v0 rfl rfl)
  have k0 := h0
  have lt0 : ∀ x ∈ pp0, x.block < W.heap.size := by obtain ⟨m, hm⟩ := k0; exact DataW.trod_lt m _ _ _ hm
  obtain ⟨p0, hr0, w0⟩ : ∃ x : TData, RD W (eTData x) cs0.toList ∧ wf40 x := by obtain ⟨fuel, hf⟩ := h0; exact reads40 _ _ _ _ _ _ _ _ _ hf (weights_arg hsz0 (j := 0) rfl rfl)
  obtain ⟨a1, len1, cap1, rfl⟩ := okWide_slice Try.underlying27 (hval 1 27 v1 rfl rfl)
  have k1 := h1
  have lt1 : ∀ x ∈ pp1, x.block < W.heap.size := by obtain ⟨m, hm⟩ := k1; exact DataW.trod_lt m _ _ _ hm
  obtain ⟨p1, hr1, w1⟩ : ∃ l : List Int, RD W [.vec false (l.map eI32)] [.slice a1 len1 cap1] ∧ (fun l : List Int => l.length * 4 ≤ 140737488351232 ∧ ∀ x ∈ l, (fun n => (Lit.int .i32 n).wf = true) x) l := by obtain ⟨fuel, hf⟩ := h1; exact reads27 _ _ _ _ _ _ _ _ _ hf (weights_arg hsz0 (j := 1) rfl rfl)
  clear hA0 hval0
  have hV' : VRs (allK W) rnone [.agg (eTData p0), .vec false (p1.map eI32)] #[.agg cs0, .slice a1 len1 cap1] := vrs_cons (RD.agg1 hr0) (vrs_cons (RD.get1 hr1) (vrs_nil))
  refine (ACalls.below (law_DecompBooks (N := 9223372036854775809) (by decide) w0 w1) hV').mono fun e W' ⟨he, bel0⟩ => ?_
  have bel : Below W.heap.size W W' := bel0
  subst he
  exact ⟨_, rfl, _, _, _, [], _, [], hW', trodAll_mk1 (shut_bool Try.underlying4 _), (trodAll_cons_mk (Below.trod laidOut (by kernel_rfl) (of_decide_eq_true (by kernel_rfl)) k0 bel lt0) (trodAll_cons_mk (Below.trod laidOut (by kernel_rfl) (of_decide_eq_true (by kernel_rfl)) k1 bel lt1) trodAll_mk0)), rfl, bel.frame _, fun h => by cases h⟩
theorem over : Rows.decompBooksRow.holds Try.pinned (OpenSpec.ofChange Rows.decompBooksSpec) :=
  OpenClaim.holds_of_wide 5 Try.f5 rfl rfl rfl rfl rfl rfl rfl ⟨rfl, rfl, rfl, rfl, rfl⟩ rfl rfl rfl rfl rfl (by kernel_rfl) Try.func5 (by kernel_rfl)
    (of_decide_eq_true (by kernel_rfl)) (by unfold Func.isWrapper; first | (rw [if_pos (by decide +kernel)]; kernel_rfl) | (rw [if_neg (by decide +kernel)]; exact ⟨rfl, rfl⟩))
    (fun os started H enc _ => lifted os started H enc)
theorem proved : Rows.DecompBooksSaid := over
#print axioms proved
end Go.Proofs.Ytejkiahbknjmaaa.decompBooks
namespace Go.Proofs.Ytejkiahbknjmaaa
theorem decompBooks_holds : Rows.DecompBooksSaid := decompBooks.proved
end Go.Proofs.Ytejkiahbknjmaaa
