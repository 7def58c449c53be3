-- PRINTED BY mprint.py (a program of this session, over the kit's printer): Lean checks it
import Derived.Test.YtlpikbkdlnocdaaRows
import Derived.Test.YtlpikbkdlnocdaaK8
import Derived.Test.YtlpikbkdlnocdaaPureOrderKeys
import Derived.Test.YtlpikbkdlnocdaaKTy
import Derived.WalkKit
import Derived.ProofKit
import Derived.OpenShut
import Derived.ShutString
import Derived.ChangeOld
import Derived.Below
import Derived.SizedLaws
import Derived.Test.YtlpikbkdlnocdaaWSized
namespace Go.Proofs.Ytlpikbkdlnocdaa.orderKeys
open Go.ChangeShapes Go.WideShapes Go.ChangeAt Go.RowKit Go.Proofs.Ytlpikbkdlnocdaa.Op Go.Proofs.Ytlpikbkdlnocdaa.K Go.Proofs.YtlpikbkdlnocdaaW.PrintWords
open Go.ChangeMaps (open_string shut_string)
set_option linter.unusedVariables false
theorem own : ownKnob Try.prog.godebug = none := by kernel_rfl
theorem laidOut : laidOutB Try.prog = true := by kernel_rfl
set_option maxRecDepth 100000 in
theorem lifted (os : Os) (started : os.Started) (H : Type) (enc : TypeId × Value → H) :
    ReturnsInHanded {} Try.checked os 5 .any (Rows.orderKeysSpec.pre6 enc Try.prog Try.f5 Rows.orderKeysRow.domain false) (Rows.orderKeysSpec.post enc Try.prog Try.f5 false true false false) := by
  refine returnsInHanded_of_change_sized (C := Try.checked) own started (by kernel_rfl) Try.func5
    (ChangeSpec.witness6 (enc := enc) (C := Try.checked) false ⟨#[], #[(.agg #[.int .i64 0, .string ByteArray.empty, .bool false, .int .i64 0]), .slice none 0 0, .slice none 0 0, .int .i64 0, .int .i64 0], []⟩ 8 (by kernel_rfl) (by kernel_rfl) (by kernel_rfl) (by kernel_rfl)) ?_
  intro W base args ds gs before hval0 hW hcnd hsz0 _
  have hsz : (DataW.weightsEach Try.prog (Try.f5.params.toList ++ Rows.orderKeysSpec.plain.varTypes Try.prog) (ds ++ gs)).all (· ≤ reachBytes) = true := hsz0
  have hval : ∀ (j : Nat) t v, Try.f5.params[j]? = some t → args[j]? = some v → Value.okWide Try.prog W .any base t v := hval0
  have hW' := hW
  obtain ⟨p, q, hA0, hV, rfl, hfz, hnd⟩ := hW
  have hA : DataW.TrodAll enc Try.prog W 0 (fun _ => true) true Try.f5.params.toList args.toList ds p := hA0
  rw [Try.params5] at hA hval hsz
  obtain ⟨v0, vs0, d0, ds0, p0, q0, hargs, rfl, rfl, h0, r0⟩ := trodAll_cons hA
  obtain ⟨v1, vs1, d1, ds1, p1, q1, rfl, rfl, rfl, h1, r1⟩ := trodAll_cons r0
  obtain ⟨v2, vs2, d2, ds2, p2, q2, rfl, rfl, rfl, h2, r2⟩ := trodAll_cons r1
  obtain ⟨v3, vs3, d3, ds3, p3, q3, rfl, rfl, rfl, h3, r3⟩ := trodAll_cons r2
  obtain ⟨v4, vs4, d4, ds4, p4, q4, rfl, rfl, rfl, h4, r4⟩ := trodAll_cons r3
  obtain ⟨rfl, rfl, rfl⟩ := trodAll_nil r4
  obtain rfl : args = #[v0, v1, v2, v3, v4] := by cases args; simp_all
  obtain ⟨rfl, rfl⟩ := trodVars_none hV
  obtain ⟨cs0, rfl, _⟩ := okWide_struct Try.underlying23 (hval 0 23 v0 rfl rfl)
  have k0 := h0
  have lt0 : ∀ x ∈ p0, x.block < W.heap.size := by obtain ⟨m, hm⟩ := k0; exact DataW.trod_lt m _ _ _ hm
  obtain ⟨x0, hx0, hw0⟩ : ∃ x : S23, k23.K W x cs0.toList ∧ wf23 x := by obtain ⟨fuel, hf⟩ := h0; exact opens23 _ _ _ _ _ _ _ _ _ hf
  obtain rfl : cs0 = #[.int .i64 x0.f0, .string x0.f1, .bool x0.f2, .int .i64 x0.f3] := by have := k23_open hx0; cases cs0; simp_all
  obtain ⟨a1, len1, cap1, rfl⟩ := okWide_slice Try.underlying24 (hval 1 24 v1 rfl rfl)
  have k1 := h1
  have lt1 : ∀ x ∈ p1, x.block < W.heap.size := by obtain ⟨m, hm⟩ := k1; exact DataW.trod_lt m _ _ _ hm
  obtain ⟨l1, ⟨B1, c1, hcs1, hc1, hr1⟩, hw1⟩ : ∃ l : List Int, (Kd.slice 3 (Kd.int .i64)).K W l [.slice a1 len1 cap1] ∧ (l.length ≤ maxLen ∧ ∀ y_ ∈ l, (Lit.int .i64 y_).wf = true) := by obtain ⟨fuel, hf⟩ := h1; exact (Opens.slice Try.underlying24 (by kernel_rfl) (Opens.int Try.underlying3)) _ _ _ _ _ _ _ _ _ hf
  obtain ⟨rfl, rfl, rfl⟩ : a1 = B1 ∧ len1 = l1.length ∧ cap1 = c1 := by simpa using hcs1
  obtain ⟨a2, len2, cap2, rfl⟩ := okWide_slice Try.underlying24 (hval 2 24 v2 rfl rfl)
  have k2 := h2
  have lt2 : ∀ x ∈ p2, x.block < W.heap.size := by obtain ⟨m, hm⟩ := k2; exact DataW.trod_lt m _ _ _ hm
  obtain ⟨l2, ⟨B2, c2, hcs2, hc2, hr2⟩, hw2⟩ : ∃ l : List Int, (Kd.slice 3 (Kd.int .i64)).K W l [.slice a2 len2 cap2] ∧ (l.length ≤ maxLen ∧ ∀ y_ ∈ l, (Lit.int .i64 y_).wf = true) := by obtain ⟨fuel, hf⟩ := h2; exact (Opens.slice Try.underlying24 (by kernel_rfl) (Opens.int Try.underlying3)) _ _ _ _ _ _ _ _ _ hf
  obtain ⟨rfl, rfl, rfl⟩ : a2 = B2 ∧ len2 = l2.length ∧ cap2 = c2 := by simpa using hcs2
  obtain ⟨a3, rfl, rfl, rfl, w3⟩ := open_int Try.underlying3 (hval 3 3 v3 rfl rfl) h3
  obtain ⟨a4, rfl, rfl, rfl, w4⟩ := open_int Try.underlying3 (hval 4 3 v4 rfl rfl) h4
  clear hA0 hval0 hsz0 hsz
  obtain ⟨k, h⟩ := Pure.OrderKeys x0 l1 l2 a3 a4 hw0 hw1 hw2 w3 w4
  refine (reedpenlaw26_OrderKeys.calls (k := k) (a0_0 := x0.f0) (a0_1 := x0.f1) (a0_2 := x0.f2) (a0_3 := x0.f3) (l1 := l1) (l2 := l2) (a3 := a3) (a4 := a4) (r := true) (w := W) (hr1 := hr1) (hc1 := hc1) (hr2 := hr2) (hc2 := hc2) (h := h)).mono fun e W' ⟨he, bel0⟩ => ?_
  have bel : Below W.heap.size W W' := bel0
  subst he
  exact ⟨_, rfl, _, _, _, [], _, [], hW', trodAll_mk1 (shut_bool Try.underlying4 _), (trodAll_cons_mk (Below.trod laidOut (by kernel_rfl) (of_decide_eq_true (by kernel_rfl)) k0 bel lt0) (trodAll_cons_mk (Below.trod laidOut (by kernel_rfl) (of_decide_eq_true (by kernel_rfl)) k1 bel lt1) (trodAll_cons_mk (Below.trod laidOut (by kernel_rfl) (of_decide_eq_true (by kernel_rfl)) k2 bel lt2) (trodAll_cons_mk (shut_int Try.underlying3 w3) (trodAll_cons_mk (shut_int Try.underlying3 w4) trodAll_mk0))))), rfl, bel.frame _, fun h => by cases h⟩
theorem over : Rows.orderKeysRow.holds Try.pinned (OpenSpec.ofChange Rows.orderKeysSpec) :=
  OpenClaim.holds_of_wide 5 Try.f5 rfl rfl rfl rfl rfl rfl rfl ⟨rfl, rfl, rfl, rfl, rfl⟩ rfl rfl rfl rfl rfl (by kernel_rfl) Try.func5 (by kernel_rfl)
    (of_decide_eq_true (by kernel_rfl)) (by unfold Func.isWrapper; first | (rw [if_pos (by decide +kernel)]; kernel_rfl) | (rw [if_neg (by decide +kernel)]; exact ⟨rfl, rfl⟩))
    (fun os started H enc _ => lifted os started H enc)
theorem proved : Rows.OrderKeysSaid := over
#print axioms proved
end Go.Proofs.Ytlpikbkdlnocdaa.orderKeys
namespace Go.Proofs.Ytlpikbkdlnocdaa
/-- The row, under a short name, for the claim. -/
theorem orderKeys_holds : Rows.OrderKeysSaid := orderKeys.proved
end Go.Proofs.Ytlpikbkdlnocdaa
