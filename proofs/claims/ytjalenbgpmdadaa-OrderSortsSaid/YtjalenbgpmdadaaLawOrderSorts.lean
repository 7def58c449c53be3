/- Part of a proof. -/
import Derived.Test.YtjalenbgpmdadaaRows
import Derived.Test.YtjalenbgpmdadaaosW1
import Derived.Test.YtjalenbgpmdadaaLpOrderSorts
import Derived.WalkKit
import Derived.ProofKit
import Derived.OpenShut
import Derived.ShutString
import Derived.ChangeOld
import Derived.Below
import Derived.SizedLaws
set_option linter.unusedVariables false
set_option maxRecDepth 100000
namespace Go.Proofs.Ytjalenbgpmdadaa.AI
open Go.Proofs
theorem reads22 : Reads Try.prog 22 (fun l : List Int => [.vec false (l.map eI64)]) (fun l => l.length * 8 ≤ 140737488351232 ∧ ∀ x ∈ l, (fun n => (Lit.int .i64 n).wf = true) x) := Reads.slice (B := 8) Try.underlying22 (by kernel_rfl) (Reads.int (k := .i64) Try.underlying3)
theorem reads23 : Reads Try.prog 23 (fun l : List Bool => [.vec false (l.map eB)]) (fun l => l.length * 1 ≤ 140737488351232 ∧ ∀ x ∈ l, (fun _ => True) x) := Reads.slice (B := 1) Try.underlying23 (by kernel_rfl) (Reads.bool Try.underlying4)
theorem law_OrderSorts {N : Nat} (hB : 9223372036854775808 < N) {p0 : ByteArray} (w0 : (fun s => s.size ≤ maxLen) p0) {p1 : List Int} (w1 : (fun l : List Int => l.length * 8 ≤ 140737488351232 ∧ ∀ x ∈ l, (fun n => (Lit.int .i64 n).wf = true) x) p1) {p2 : List Int} (w2 : (fun l : List Int => l.length * 8 ≤ 140737488351232 ∧ ∀ x ∈ l, (fun n => (Lit.int .i64 n).wf = true) x) p2) {p3 : Bool} (w3 : (fun _ => True) p3) {p4 : List Bool} (w4 : (fun l : List Bool => l.length * 1 ≤ 140737488351232 ∧ ∀ x ∈ l, (fun _ => True) x) p4) : ACalls Go.Proofs.Try.prog 3 [.str p0, .vec false (List.map eI64 p1), .vec false (List.map eI64 p2), .bool p3, .vec false (List.map eB p4)] [] (fun e H => e = .ret (.bool true)) :=
  have hN : 1000000000000 < N := by omega
  (law26_OrderSorts_w N p0 p1 p2 p3 p4 false false false true (orderSorts_plain hN _ _ _ _ _)).mono (fun _ _ h => h.2)
end Go.Proofs.Ytjalenbgpmdadaa.AI
namespace Go.Proofs.Ytjalenbgpmdadaa.orderSorts
open Go.ChangeShapes Go.WideShapes Go.ChangeAt Go.RowKit Go.Proofs.Ytjalenbgpmdadaa.AI
open Go.ChangeMaps (open_string shut_string)
theorem own : ownKnob Try.prog.godebug = none := by kernel_rfl
theorem laidOut : laidOutB Try.prog = true := by kernel_rfl
theorem lifted (os : Os) (started : os.Started) (H : Type) (enc : TypeId × Value → H) :
    ReturnsInHanded {} Try.checked os 3 .any (Rows.orderSortsSpec.pre6 enc Try.prog Try.f3 Rows.orderSortsRow.domain false) (Rows.orderSortsSpec.post enc Try.prog Try.f3 false true false false) := by
  refine returnsInHanded_of_change_sized (C := Try.checked) own started (by kernel_rfl) Try.func3
    (ChangeSpec.witness6 (enc := enc) (C := Try.checked) false ⟨#[], #[.string ⟨#[]⟩, .slice none 0 0, .slice none 0 0, .bool false, .slice none 0 0], []⟩ 8 (by kernel_rfl) (by kernel_rfl) (by kernel_rfl) (by kernel_rfl)) ?_
  intro W base args ds gs before hval0 hW hcnd hsz0 _
  have hval : ∀ (j : Nat) t v, Try.f3.params[j]? = some t → args[j]? = some v → Value.okWide Try.prog W .any base t v := hval0
  have hW' := hW
  obtain ⟨p, q, hA0, hV, rfl, hfz, hnd⟩ := hW
  have hA : DataW.TrodAll enc Try.prog W 0 (fun _ => true) true Try.f3.params.toList args.toList ds p := hA0
  rw [Try.params3] at hA hval
  obtain ⟨v0, vs0, d0, ds0, pp0, q0, hargs, rfl, rfl, h0, r0⟩ := trodAll_cons hA
  obtain ⟨v1, vs1, d1, ds1, pp1, q1, rfl, rfl, rfl, h1, r1⟩ := trodAll_cons r0
  obtain ⟨v2, vs2, d2, ds2, pp2, q2, rfl, rfl, rfl, h2, r2⟩ := trodAll_cons r1
  obtain ⟨v3, vs3, d3, ds3, pp3, q3, rfl, rfl, rfl, h3, r3⟩ := trodAll_cons r2
  obtain ⟨v4, vs4, d4, ds4, pp4, q4, rfl, rfl, rfl, h4, r4⟩ := trodAll_cons r3
  obtain ⟨rfl, rfl, rfl⟩ := trodAll_nil r4
  obtain rfl : args = #[v0, v1, v2, v3, v4] := by cases args; simp_all
  obtain ⟨rfl, rfl⟩ := trodVars_none hV
  obtain ⟨p0, rfl, rfl, rfl, w0⟩ := open_string Try.underlying9 (hval 0 9 v0 rfl rfl) h0
  obtain ⟨a1, len1, cap1, rfl⟩ := okWide_slice Try.underlying22 (hval 1 22 v1 rfl rfl)
  have k1 := h1
  have lt1 : ∀ x ∈ pp1, x.block < W.heap.size := by obtain ⟨m, hm⟩ := k1; exact DataW.trod_lt m _ _ _ hm
  obtain ⟨p1, hr1, w1⟩ : ∃ l : List Int, RD W [.vec false (l.map eI64)] [.slice a1 len1 cap1] ∧ (fun l : List Int => l.length * 8 ≤ 140737488351232 ∧ ∀ x ∈ l, (fun n => (Lit.int .i64 n).wf = true) x) l := by obtain ⟨fuel, hf⟩ := h1; exact reads22 _ _ _ _ _ _ _ _ _ hf (weights_arg hsz0 (j := 1) rfl rfl)
  obtain ⟨a2, len2, cap2, rfl⟩ := okWide_slice Try.underlying22 (hval 2 22 v2 rfl rfl)
  have k2 := h2
  have lt2 : ∀ x ∈ pp2, x.block < W.heap.size := by obtain ⟨m, hm⟩ := k2; exact DataW.trod_lt m _ _ _ hm
  obtain ⟨p2, hr2, w2⟩ : ∃ l : List Int, RD W [.vec false (l.map eI64)] [.slice a2 len2 cap2] ∧ (fun l : List Int => l.length * 8 ≤ 140737488351232 ∧ ∀ x ∈ l, (fun n => (Lit.int .i64 n).wf = true) x) l := by obtain ⟨fuel, hf⟩ := h2; exact reads22 _ _ _ _ _ _ _ _ _ hf (weights_arg hsz0 (j := 2) rfl rfl)
  obtain ⟨p3, rfl, rfl, rfl⟩ := open_bool Try.underlying4 (hval 3 4 v3 rfl rfl) h3
  have w3 : True := trivial
  obtain ⟨a4, len4, cap4, rfl⟩ := okWide_slice Try.underlying23 (hval 4 23 v4 rfl rfl)
  have k4 := h4
  have lt4 : ∀ x ∈ pp4, x.block < W.heap.size := by obtain ⟨m, hm⟩ := k4; exact DataW.trod_lt m _ _ _ hm
  obtain ⟨p4, hr4, w4⟩ : ∃ l : List Bool, RD W [.vec false (l.map eB)] [.slice a4 len4 cap4] ∧ (fun l : List Bool => l.length * 1 ≤ 140737488351232 ∧ ∀ x ∈ l, (fun _ => True) x) l := by obtain ⟨fuel, hf⟩ := h4; exact reads23 _ _ _ _ _ _ _ _ _ hf (weights_arg hsz0 (j := 4) rfl rfl)
  clear hA0 hval0
  have hV' : VRs (allK W) rnone [.str p0, .vec false (p1.map eI64), .vec false (p2.map eI64), .bool p3, .vec false (p4.map eB)] #[.string p0, .slice a1 len1 cap1, .slice a2 len2 cap2, .bool p3, .slice a4 len4 cap4] := vrs_cons (RD.get1 (RD.one rfl .str : RD W [.str p0] [.string p0])) (vrs_cons (RD.get1 hr1) (vrs_cons (RD.get1 hr2) (vrs_cons (RD.get1 (RD.one rfl .bool : RD W [.bool p3] [.bool p3])) (vrs_cons (RD.get1 hr4) (vrs_nil)))))
  refine (ACalls.below (law_OrderSorts (N := 9223372036854775809) (by decide) w0 w1 w2 w3 w4) hV').mono fun e W' ⟨he, bel0⟩ => ?_
  have bel : Below W.heap.size W W' := bel0
  subst he
  exact ⟨_, rfl, _, _, _, [], _, [], hW', trodAll_mk1 (shut_bool Try.underlying4 _), (trodAll_cons_mk (shut_string Try.underlying9 w0) (trodAll_cons_mk (Below.trod laidOut (by kernel_rfl) (of_decide_eq_true (by kernel_rfl)) k1 bel lt1) (trodAll_cons_mk (Below.trod laidOut (by kernel_rfl) (of_decide_eq_true (by kernel_rfl)) k2 bel lt2) (trodAll_cons_mk (shut_bool Try.underlying4 _) (trodAll_cons_mk (Below.trod laidOut (by kernel_rfl) (of_decide_eq_true (by kernel_rfl)) k4 bel lt4) trodAll_mk0))))), rfl, bel.frame _, fun h => by cases h⟩
theorem over : Rows.orderSortsRow.holds Try.pinned (OpenSpec.ofChange Rows.orderSortsSpec) :=
  OpenClaim.holds_of_wide 3 Try.f3 rfl rfl rfl rfl rfl rfl rfl ⟨rfl, rfl, rfl, rfl, rfl⟩ rfl rfl rfl rfl rfl (by kernel_rfl) Try.func3 (by kernel_rfl)
    (of_decide_eq_true (by kernel_rfl)) (by unfold Func.isWrapper; first | (rw [if_pos (by decide +kernel)]; kernel_rfl) | (rw [if_neg (by decide +kernel)]; exact ⟨rfl, rfl⟩))
    (fun os started H enc _ => lifted os started H enc)
theorem proved : Rows.OrderSortsSaid := over
#print axioms proved
end Go.Proofs.Ytjalenbgpmdadaa.orderSorts
namespace Go.Proofs.Ytjalenbgpmdadaa
theorem orderSorts_holds : Rows.OrderSortsSaid := orderSorts.proved
end Go.Proofs.Ytjalenbgpmdadaa
