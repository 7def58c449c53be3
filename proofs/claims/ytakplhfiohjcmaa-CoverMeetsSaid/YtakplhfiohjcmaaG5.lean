/- Contracts of layer 10: joined. -/
import Derived.Test.YtakplhfiohjcmaaG4
import Derived.Test.YtakplhfiohjcmaaA18
set_option linter.unusedVariables false
set_option linter.unusedSimpArgs false
set_option maxRecDepth 100000
namespace Go.Proofs.Ytakplhfiohjcmaa.AI
open Go.Proofs (Try.prog)
/-- Spans with one more behind them. -/
def jn (l : List Span) (s : Span) : List Span := match l.getLast? with
  | none => [s]
  | some x => if x.b + 1 = s.a then l.dropLast ++ [⟨x.a, s.b⟩] else l ++ [s]
theorem getLast_at {l : List Span} {x : Span} (h : l.getLast? = some x) : 0 < l.length ∧ l[l.length - 1]? = some x := by
  rw [List.getLast?_eq_getElem?] at h
  exact ⟨by have := (List.getElem?_eq_some_iff.1 h).1; omega, h⟩
theorem subs_spans (S : Sub) (l : List Span) : (l.map eSpan).map (subs S) = l.map eSpan := by
  rw [List.map_map]
  exact List.map_congr_left fun x _ => rfl
theorem low1 {a : Nat} : ∀ k, k < 1 → [0, a][k]? = some k := by
  intro k hk
  have e : k = 0 := by omega
  rw [e]; rfl
theorem spec61 (l : List Span) (s : Span) (hl : l.length ≤ 1000000000000) (hb : ∀ x ∈ l, 0 ≤ x.b ∧ x.b ≤ 65535) : ACalls Go.Proofs.Try.prog 61 [.row 0 0 l.length, .agg (eSpan s)] [.mem 2 (l.map eSpan) 38] (fun e H =>
    (e = .ret (.row 0 0 (jn l s).length) ∧ H = [.mem 2 ((jn l s).map eSpan) 38]) ∨ (e = .ret (.row 1 0 (jn l s).length) ∧ H = [.dead, .mem 2 ((jn l s).map eSpan) 38])) := by
  refine ACalls.go Go.Proofs.Try.func61 n61 a61 Go.Proofs.Try.ntmps61 r61 (by simp) ?_
  generalize hQ : bodyA _ _ _ = QQ
  have hall : (l.map eSpan).all (fun el => el.length == 2) = true := by
    rw [List.all_eq_true]
    intro el hel
    obtain ⟨x, _, rfl⟩ := List.mem_map.1 hel
    rfl
  cases hg : l.getLast? with
  | none =>
    have : l = [] := by simpa using hg
    subst this
    have h1 : ¬ ((0 : Nat) : Int) > 0 := by decide
    simp only [A61, eSpan, h1, M_seq, M_reg, M_op, M_opg, M_ops_nil, M_nil, M_blk, M_scp, M_skip, M_label, M_block, M_scope, M_ret, M_exit, M_cond, M_loop, M_draw, DM_nil, DM_op, DM_opg, dK_ok, dK_call, dK_pan, dK_read, dK_free, dgK_do, dgK_un, grdK_un, dgK_tf, dgK_ft, grdK_do, grdK_tf, grdK_ft, contK_ap, panK_ap, dCallK_ret, dCallK_pan, Chk_nil, Chk_cons, isE, isR, List.mem_cons, List.not_mem_nil, List.all_cons, List.all_nil, beq_self_eq_true, Bool.and_self, Bool.true_and, Bool.and_true, ne_eq, or_false, false_or, or_true, true_or, exitK_some, exitK_none, unw_blk, unw_code, unw_ops, unw_scp, unw_nil, okD_some, okD_none, evO, ev_t, ev_k, get_mk, put_mk, look, putD_some, putD_none, binA, binI, orBad, opK_ok, opK_call, opK_pan, opK_bad, CallK_ret, CallK_pan, cndK_true, cndK_false, pickA, cellsOf, cellsAt, asVal, storeA, splice, litCells, fillA, eqB, eqP, eqS, eqCell, eqCells, intOr, sliceA, appA, elemsA, pures, pureV, argl, resVs, resV, asRes, Nat.reduceEqDiff, Nat.reduceLT, Nat.reduceLeDiff, Nat.reduceAdd, Nat.reduceSub, Nat.reduceMul, reduceIte, reduceCtorEq, true_and, and_true, Bool.false_eq_true, Bool.true_eq_false, Bool.not_true, Bool.not_false, forall_const, forall_eq, imp_false, not_true_eq_false, not_false_eq_true, decide_true, decide_false, cond_true, cond_false, Int.toNat_natCast, Int.natCast_nonneg, List.length_cons, List.length_nil, List.length_append, List.length_map, List.length_set, List.getElem?_cons_zero, List.getElem?_cons_succ, List.getElem?_nil, List.nil_append, List.cons_append, List.append_nil, List.drop_zero, List.drop_succ_cons, List.drop_nil, List.take_succ_cons, List.take_zero, List.take_nil, List.set_cons_zero, List.set_cons_succ, List.set_nil, List.headD_cons, List.map_cons, List.map_nil, Option.map_some, Option.map_none, Nat.le_refl, Nat.zero_le, Nat.add_zero, Nat.zero_add, and_self, IntKind.bits]
    rw [← hQ]
    exact ⟨rfl, _, rfl, _, _, RefV.sel [0, 2] (by decide) low1, .inr ⟨rfl, rfl⟩⟩
  | some x =>
    obtain ⟨h0, hx⟩ := getLast_at hg
    have hm : (l.map eSpan)[l.length - 1]? = some [.int .i64 x.a, .int .i64 x.b] := map_at eSpan hx
    have hxb := hb x (List.mem_of_getElem? hx)
    have h1 : (l.length : Int) > 0 := by omega
    have w1 := wrapP l.length h0 (by omega)
    have w2 : IntKind.i64.wrap (x.b + 1) = x.b + 1 := wrapI (by omega) (by omega)
    by_cases h2 : x.b + 1 = s.a
    · have d2 : decide (x.b + 1 = s.a) = true := decide_eq_true h2
      have h3 : ((l.length - 1 : Nat) : Int) < (l.length : Int) := by omega
      simp only [A61, eSpan, h1, hm, w1, w2, d2, h3, M_seq, M_reg, M_op, M_opg, M_ops_nil, M_nil, M_blk, M_scp, M_skip, M_label, M_block, M_scope, M_ret, M_exit, M_cond, M_loop, M_draw, DM_nil, DM_op, DM_opg, dK_ok, dK_call, dK_pan, dK_read, dK_free, dgK_do, dgK_un, grdK_un, dgK_tf, dgK_ft, grdK_do, grdK_tf, grdK_ft, contK_ap, panK_ap, dCallK_ret, dCallK_pan, Chk_nil, Chk_cons, isE, isR, List.mem_cons, List.not_mem_nil, List.all_cons, List.all_nil, beq_self_eq_true, Bool.and_self, Bool.true_and, Bool.and_true, ne_eq, or_false, false_or, or_true, true_or, exitK_some, exitK_none, unw_blk, unw_code, unw_ops, unw_scp, unw_nil, okD_some, okD_none, evO, ev_t, ev_k, get_mk, put_mk, look, putD_some, putD_none, binA, binI, orBad, opK_ok, opK_call, opK_pan, opK_bad, CallK_ret, CallK_pan, cndK_true, cndK_false, pickA, cellsOf, cellsAt, asVal, storeA, splice, litCells, fillA, eqB, eqP, eqS, eqCell, eqCells, intOr, sliceA, appA, elemsA, pures, pureV, argl, resVs, resV, asRes, Nat.reduceEqDiff, Nat.reduceLT, Nat.reduceLeDiff, Nat.reduceAdd, Nat.reduceSub, Nat.reduceMul, reduceIte, reduceCtorEq, true_and, and_true, Bool.false_eq_true, Bool.true_eq_false, Bool.not_true, Bool.not_false, forall_const, forall_eq, imp_false, not_true_eq_false, not_false_eq_true, decide_true, decide_false, cond_true, cond_false, Int.toNat_natCast, Int.natCast_nonneg, List.length_cons, List.length_nil, List.length_append, List.length_map, List.length_set, List.getElem?_cons_zero, List.getElem?_cons_succ, List.getElem?_nil, List.nil_append, List.cons_append, List.append_nil, List.drop_zero, List.drop_succ_cons, List.drop_nil, List.take_succ_cons, List.take_zero, List.take_nil, List.set_cons_zero, List.set_cons_succ, List.set_nil, List.headD_cons, List.map_cons, List.map_nil, Option.map_some, Option.map_none, Nat.le_refl, Nat.zero_le, Nat.add_zero, Nat.zero_add, and_self, IntKind.bits]
      rw [← hQ]
      have hj : jn l s = l.set (l.length - 1) ⟨x.a, s.b⟩ := by
        have e1 : l.dropLast = l.take (l.length - 1) := List.dropLast_eq_take
        have e2 : l.take (l.length - 1) ++ [x] = l := by
          have h5 := List.take_append_drop (l.length - 1) l
          rw [List.drop_eq_getElem_cons (show l.length - 1 < l.length by omega), (List.getElem?_eq_some_iff.1 hx).2, List.drop_eq_nil_of_le (by omega)] at h5
          exact h5
        simp only [jn, hg, h2, if_true, e1]
        conv => rhs; rw [← e2]
        rw [List.set_append_right _ _ (by simp)]
        simp
      refine ⟨rfl, _, rfl, _, _, RefV.cut 1 (Nat.le_refl _) (Nat.le_succ _), .inl ⟨?_, ?_⟩⟩
      · rw [hj, List.length_set]; rfl
      · rw [hj, List.map_set]
        show [AObj.mem 2 (((l.map eSpan).set (l.length - 1) (eSpan ⟨x.a, s.b⟩)).map (subs (cutS 1))) 38] = _
        rw [List.map_set, subs_spans]
        rfl
    · have h3 : ((l.length - 1 : Nat) : Int) < (l.length : Int) := by omega
      have h4 : (l.length + 1) * 16 ≤ 140737488355328 := by omega
      have ht : (l.map eSpan).take l.length = l.map eSpan := List.take_of_length_le (by simp)
      simp only [A61, eSpan, h1, hm, w1, w2, h2, h3, h4, ht, M_seq, M_reg, M_op, M_opg, M_ops_nil, M_nil, M_blk, M_scp, M_skip, M_label, M_block, M_scope, M_ret, M_exit, M_cond, M_loop, M_draw, DM_nil, DM_op, DM_opg, dK_ok, dK_call, dK_pan, dK_read, dK_free, dgK_do, dgK_un, grdK_un, dgK_tf, dgK_ft, grdK_do, grdK_tf, grdK_ft, contK_ap, panK_ap, dCallK_ret, dCallK_pan, Chk_nil, Chk_cons, isE, isR, List.mem_cons, List.not_mem_nil, List.all_cons, List.all_nil, beq_self_eq_true, Bool.and_self, Bool.true_and, Bool.and_true, ne_eq, or_false, false_or, or_true, true_or, exitK_some, exitK_none, unw_blk, unw_code, unw_ops, unw_scp, unw_nil, okD_some, okD_none, evO, ev_t, ev_k, get_mk, put_mk, look, putD_some, putD_none, binA, binI, orBad, opK_ok, opK_call, opK_pan, opK_bad, CallK_ret, CallK_pan, cndK_true, cndK_false, pickA, cellsOf, cellsAt, asVal, storeA, splice, litCells, fillA, eqB, eqP, eqS, eqCell, eqCells, intOr, sliceA, appA, elemsA, pures, pureV, argl, resVs, resV, asRes, Nat.reduceEqDiff, Nat.reduceLT, Nat.reduceLeDiff, Nat.reduceAdd, Nat.reduceSub, Nat.reduceMul, reduceIte, reduceCtorEq, true_and, and_true, Bool.false_eq_true, Bool.true_eq_false, Bool.not_true, Bool.not_false, forall_const, forall_eq, imp_false, not_true_eq_false, not_false_eq_true, decide_true, decide_false, cond_true, cond_false, Int.toNat_natCast, Int.natCast_nonneg, List.length_cons, List.length_nil, List.length_append, List.length_map, List.length_set, List.getElem?_cons_zero, List.getElem?_cons_succ, List.getElem?_nil, List.nil_append, List.cons_append, List.append_nil, List.drop_zero, List.drop_succ_cons, List.drop_nil, List.take_succ_cons, List.take_zero, List.take_nil, List.set_cons_zero, List.set_cons_succ, List.set_nil, List.headD_cons, List.map_cons, List.map_nil, Option.map_some, Option.map_none, Nat.le_refl, Nat.zero_le, Nat.add_zero, Nat.zero_add, and_self, IntKind.bits]
      rw [← hQ]
      have hj : jn l s = l ++ [s] := by simp only [jn, hg, h2, if_false]
      refine ⟨rfl, _, rfl, _, _, RefV.sel [0, 2] (by decide) low1, .inr ⟨?_, ?_⟩⟩
      · rw [hj, List.length_append]; rfl
      · rw [hj]
        show [AObj.dead, AObj.mem 2 ((l.map eSpan ++ [eSpan s]).map (subs (selS [0, 2]))) 38] = _
        rw [List.map_append, subs_spans, List.map_append]
        rfl
end Go.Proofs.Ytakplhfiohjcmaa.AI
