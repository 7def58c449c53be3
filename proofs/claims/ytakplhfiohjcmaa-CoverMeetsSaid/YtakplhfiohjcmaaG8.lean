/- Contracts of layer 10: Both. -/
import Derived.Test.YtakplhfiohjcmaaG7
set_option linter.unusedVariables false
set_option linter.unusedSimpArgs false
set_option maxRecDepth 100000
namespace Go.Proofs.Ytakplhfiohjcmaa.AI
open Go.Proofs (Try.prog)
def pt (o : List Span) (a b : Int) : List Span := if a ≤ b then jn o ⟨a, b⟩ else o
theorem spec62 (o : List Span) (a b : Int) (hl : o.length ≤ 1000000000000) (hb : ∀ x ∈ o, 0 ≤ x.b ∧ x.b ≤ 65535) : ACalls Go.Proofs.Try.prog 62 [.int .i64 a, .int .i64 b, .ptr 0 0 0] [.box [.row 1 0 o.length] 24, .mem 2 (o.map eSpan) 38] (fun e H => e = .ret (.tup []) ∧
    (H = [.box [.row 1 0 (pt o a b).length] 24, .mem 2 ((pt o a b).map eSpan) 38] ∨ H = [.box [.row 2 0 (pt o a b).length] 24, .dead, .mem 2 ((pt o a b).map eSpan) 38])) := by
  refine ACalls.go Go.Proofs.Try.func62 n62 a62 Go.Proofs.Try.ntmps62 r62 (by simp) ?_
  generalize hQ : bodyA _ _ _ = QQ
  by_cases h1 : a ≤ b
  · have e : pt o a b = jn o ⟨a, b⟩ := if_pos h1
    simp only [A62, h1, M_seq, M_reg, M_op, M_opg, M_ops_nil, M_nil, M_blk, M_scp, M_skip, M_label, M_block, M_scope, M_ret, M_exit, M_cond, M_loop, M_draw, DM_nil, DM_op, DM_opg, dK_ok, dK_call, dK_pan, dK_read, dK_free, dgK_do, dgK_un, grdK_un, dgK_tf, dgK_ft, grdK_do, grdK_tf, grdK_ft, contK_ap, panK_ap, dCallK_ret, dCallK_pan, Chk_nil, Chk_cons, isE, isR, List.mem_cons, List.not_mem_nil, List.all_cons, List.all_nil, beq_self_eq_true, Bool.and_self, Bool.true_and, Bool.and_true, ne_eq, or_false, false_or, or_true, true_or, exitK_some, exitK_none, unw_blk, unw_code, unw_ops, unw_scp, unw_nil, okD_some, okD_none, evO, ev_t, ev_k, get_mk, put_mk, look, putD_some, putD_none, binA, binI, orBad, opK_ok, opK_call, opK_pan, opK_bad, CallK_ret, CallK_pan, cndK_true, cndK_false, pickA, cellsOf, cellsAt, asVal, storeA, splice, litCells, fillA, eqB, eqP, eqS, eqCell, eqCells, intOr, sliceA, appA, elemsA, pures, pureV, argl, resVs, resV, asRes, Nat.reduceEqDiff, Nat.reduceLT, Nat.reduceLeDiff, Nat.reduceAdd, Nat.reduceSub, Nat.reduceMul, reduceIte, reduceCtorEq, true_and, and_true, Bool.false_eq_true, Bool.true_eq_false, Bool.not_true, Bool.not_false, forall_const, forall_eq, imp_false, not_true_eq_false, not_false_eq_true, decide_true, decide_false, cond_true, cond_false, Int.toNat_natCast, Int.natCast_nonneg, List.length_cons, List.length_nil, List.length_append, List.length_map, List.length_set, List.getElem?_cons_zero, List.getElem?_cons_succ, List.getElem?_nil, List.nil_append, List.cons_append, List.append_nil, List.drop_zero, List.drop_succ_cons, List.drop_nil, List.take_succ_cons, List.take_zero, List.take_nil, List.set_cons_zero, List.set_cons_succ, List.set_nil, List.headD_cons, List.map_cons, List.map_nil, Option.map_some, Option.map_none, Nat.le_refl, Nat.zero_le, Nat.add_zero, Nat.zero_add, and_self, IntKind.bits]
    refine call61 (s := ⟨a, b⟩) rfl hl hb ?_ ?_
    · simp only [M_seq, M_reg, M_op, M_opg, M_ops_nil, M_nil, M_blk, M_scp, M_skip, M_label, M_block, M_scope, M_ret, M_exit, M_cond, M_loop, M_draw, DM_nil, DM_op, DM_opg, dK_ok, dK_call, dK_pan, dK_read, dK_free, dgK_do, dgK_un, grdK_un, dgK_tf, dgK_ft, grdK_do, grdK_tf, grdK_ft, contK_ap, panK_ap, dCallK_ret, dCallK_pan, Chk_nil, Chk_cons, isE, isR, List.mem_cons, List.not_mem_nil, List.all_cons, List.all_nil, beq_self_eq_true, Bool.and_self, Bool.true_and, Bool.and_true, ne_eq, or_false, false_or, or_true, true_or, exitK_some, exitK_none, unw_blk, unw_code, unw_ops, unw_scp, unw_nil, okD_some, okD_none, evO, ev_t, ev_k, get_mk, put_mk, look, putD_some, putD_none, binA, binI, orBad, opK_ok, opK_call, opK_pan, opK_bad, CallK_ret, CallK_pan, cndK_true, cndK_false, pickA, cellsOf, cellsAt, asVal, storeA, splice, litCells, fillA, eqB, eqP, eqS, eqCell, eqCells, intOr, sliceA, appA, elemsA, pures, pureV, argl, resVs, resV, asRes, Nat.reduceEqDiff, Nat.reduceLT, Nat.reduceLeDiff, Nat.reduceAdd, Nat.reduceSub, Nat.reduceMul, reduceIte, reduceCtorEq, true_and, and_true, Bool.false_eq_true, Bool.true_eq_false, Bool.not_true, Bool.not_false, forall_const, forall_eq, imp_false, not_true_eq_false, not_false_eq_true, decide_true, decide_false, cond_true, cond_false, Int.toNat_natCast, Int.natCast_nonneg, List.length_cons, List.length_nil, List.length_append, List.length_map, List.length_set, List.getElem?_cons_zero, List.getElem?_cons_succ, List.getElem?_nil, List.nil_append, List.cons_append, List.append_nil, List.drop_zero, List.drop_succ_cons, List.drop_nil, List.take_succ_cons, List.take_zero, List.take_nil, List.set_cons_zero, List.set_cons_succ, List.set_nil, List.headD_cons, List.map_cons, List.map_nil, Option.map_some, Option.map_none, Nat.le_refl, Nat.zero_le, Nat.add_zero, Nat.zero_add, and_self, IntKind.bits]
      rw [← hQ, e]
      exact ⟨rfl, _, rfl, _, _, RefV.refl _ _ _, rfl, .inl rfl⟩
    · simp only [M_seq, M_reg, M_op, M_opg, M_ops_nil, M_nil, M_blk, M_scp, M_skip, M_label, M_block, M_scope, M_ret, M_exit, M_cond, M_loop, M_draw, DM_nil, DM_op, DM_opg, dK_ok, dK_call, dK_pan, dK_read, dK_free, dgK_do, dgK_un, grdK_un, dgK_tf, dgK_ft, grdK_do, grdK_tf, grdK_ft, contK_ap, panK_ap, dCallK_ret, dCallK_pan, Chk_nil, Chk_cons, isE, isR, List.mem_cons, List.not_mem_nil, List.all_cons, List.all_nil, beq_self_eq_true, Bool.and_self, Bool.true_and, Bool.and_true, ne_eq, or_false, false_or, or_true, true_or, exitK_some, exitK_none, unw_blk, unw_code, unw_ops, unw_scp, unw_nil, okD_some, okD_none, evO, ev_t, ev_k, get_mk, put_mk, look, putD_some, putD_none, binA, binI, orBad, opK_ok, opK_call, opK_pan, opK_bad, CallK_ret, CallK_pan, cndK_true, cndK_false, pickA, cellsOf, cellsAt, asVal, storeA, splice, litCells, fillA, eqB, eqP, eqS, eqCell, eqCells, intOr, sliceA, appA, elemsA, pures, pureV, argl, resVs, resV, asRes, Nat.reduceEqDiff, Nat.reduceLT, Nat.reduceLeDiff, Nat.reduceAdd, Nat.reduceSub, Nat.reduceMul, reduceIte, reduceCtorEq, true_and, and_true, Bool.false_eq_true, Bool.true_eq_false, Bool.not_true, Bool.not_false, forall_const, forall_eq, imp_false, not_true_eq_false, not_false_eq_true, decide_true, decide_false, cond_true, cond_false, Int.toNat_natCast, Int.natCast_nonneg, List.length_cons, List.length_nil, List.length_append, List.length_map, List.length_set, List.getElem?_cons_zero, List.getElem?_cons_succ, List.getElem?_nil, List.nil_append, List.cons_append, List.append_nil, List.drop_zero, List.drop_succ_cons, List.drop_nil, List.take_succ_cons, List.take_zero, List.take_nil, List.set_cons_zero, List.set_cons_succ, List.set_nil, List.headD_cons, List.map_cons, List.map_nil, Option.map_some, Option.map_none, Nat.le_refl, Nat.zero_le, Nat.add_zero, Nat.zero_add, and_self, IntKind.bits]
      rw [← hQ, e]
      exact ⟨rfl, _, rfl, _, _, RefV.refl _ _ _, rfl, .inr rfl⟩
  · have e : pt o a b = o := if_neg h1
    simp only [A62, h1, M_seq, M_reg, M_op, M_opg, M_ops_nil, M_nil, M_blk, M_scp, M_skip, M_label, M_block, M_scope, M_ret, M_exit, M_cond, M_loop, M_draw, DM_nil, DM_op, DM_opg, dK_ok, dK_call, dK_pan, dK_read, dK_free, dgK_do, dgK_un, grdK_un, dgK_tf, dgK_ft, grdK_do, grdK_tf, grdK_ft, contK_ap, panK_ap, dCallK_ret, dCallK_pan, Chk_nil, Chk_cons, isE, isR, List.mem_cons, List.not_mem_nil, List.all_cons, List.all_nil, beq_self_eq_true, Bool.and_self, Bool.true_and, Bool.and_true, ne_eq, or_false, false_or, or_true, true_or, exitK_some, exitK_none, unw_blk, unw_code, unw_ops, unw_scp, unw_nil, okD_some, okD_none, evO, ev_t, ev_k, get_mk, put_mk, look, putD_some, putD_none, binA, binI, orBad, opK_ok, opK_call, opK_pan, opK_bad, CallK_ret, CallK_pan, cndK_true, cndK_false, pickA, cellsOf, cellsAt, asVal, storeA, splice, litCells, fillA, eqB, eqP, eqS, eqCell, eqCells, intOr, sliceA, appA, elemsA, pures, pureV, argl, resVs, resV, asRes, Nat.reduceEqDiff, Nat.reduceLT, Nat.reduceLeDiff, Nat.reduceAdd, Nat.reduceSub, Nat.reduceMul, reduceIte, reduceCtorEq, true_and, and_true, Bool.false_eq_true, Bool.true_eq_false, Bool.not_true, Bool.not_false, forall_const, forall_eq, imp_false, not_true_eq_false, not_false_eq_true, decide_true, decide_false, cond_true, cond_false, Int.toNat_natCast, Int.natCast_nonneg, List.length_cons, List.length_nil, List.length_append, List.length_map, List.length_set, List.getElem?_cons_zero, List.getElem?_cons_succ, List.getElem?_nil, List.nil_append, List.cons_append, List.append_nil, List.drop_zero, List.drop_succ_cons, List.drop_nil, List.take_succ_cons, List.take_zero, List.take_nil, List.set_cons_zero, List.set_cons_succ, List.set_nil, List.headD_cons, List.map_cons, List.map_nil, Option.map_some, Option.map_none, Nat.le_refl, Nat.zero_le, Nat.add_zero, Nat.zero_add, and_self, IntKind.bits]
    rw [← hQ, e]
    exact ⟨rfl, _, rfl, _, _, RefV.refl _ _ _, rfl, .inl rfl⟩
/-- put, called at any memory. -/
theorem call62 {o : List Span} {a b : Int} {H : List AObj} {i j : Nat} (hij : i ≠ j) (hi : H[i]? = some (.box [.row j 0 o.length] 24)) (hj : H[j]? = some (.mem 2 (o.map eSpan) 38)) (hl : o.length ≤ 1000000000000) (hb : ∀ x ∈ o, 0 ≤ x.b ∧ x.b ≤ 65535) {Q : AEnd → List AObj → Prop}
    (h1 : Q (.ret (.tup [])) ((H.set i (.box [.row j 0 (pt o a b).length] 24)).set j (.mem 2 ((pt o a b).map eSpan) 38))) (h2 : Q (.ret (.tup [])) ((H.set i (.box [.row H.length 0 (pt o a b).length] 24)).set j .dead ++ [.mem 2 ((pt o a b).map eSpan) 38])) :
    ACalls Go.Proofs.Try.prog 62 [.int .i64 a, .int .i64 b, .ptr i 0 0] H Q := by
  refine ACalls.at (spec62 o a b hl hb) [i, j] H (by simp [hij]) rfl ?_ rfl ?_
  · intro k j' o' hk ho
    cases k with
    | zero =>
      simp only [List.getElem?_cons_zero, Option.some.injEq] at hk ho
      subst hk; subst ho
      exact hi
    | succ k =>
      cases k with
      | zero =>
        simp only [List.getElem?_cons_succ, List.getElem?_cons_zero, Option.some.injEq] at hk ho
        subst hk; subst ho
        rw [mem_sub_spans]; exact hj
      | succ k => simp at hk
  · rintro ae Hs ⟨rfl, rfl | rfl⟩
    · have e : merge [i, j] H ([AObj.box [.row 1 0 (pt o a b).length] 24, AObj.mem 2 ((pt o a b).map eSpan) 38].map (AObj.sub (renS [i, j] H.length))) = (H.set i (.box [.row j 0 (pt o a b).length] 24)).set j (.mem 2 ((pt o a b).map eSpan) 38) := by
        simp only [List.map_cons, List.map_nil, mem_sub_spans, merge, back, List.length_cons, List.length_nil]
        simp [AObj.sub, subs, AV.sub, renS, numI]
      rw [e]; exact h1
    · have e : merge [i, j] H ([AObj.box [.row 2 0 (pt o a b).length] 24, AObj.dead, AObj.mem 2 ((pt o a b).map eSpan) 38].map (AObj.sub (renS [i, j] H.length))) = (H.set i (.box [.row H.length 0 (pt o a b).length] 24)).set j .dead ++ [.mem 2 ((pt o a b).map eSpan) 38] := by
        simp only [List.map_cons, List.map_nil, mem_sub_spans, merge, back, List.length_cons, List.length_nil]
        simp [AObj.sub, subs, AV.sub, renS, numI]
      rw [e]; exact h2
end Go.Proofs.Ytakplhfiohjcmaa.AI
