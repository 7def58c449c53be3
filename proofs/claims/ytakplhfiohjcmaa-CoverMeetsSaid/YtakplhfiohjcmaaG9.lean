/- Contracts of layer 10: Both. -/
import Derived.Test.YtakplhfiohjcmaaG8
set_option linter.unusedVariables false
set_option linter.unusedSimpArgs false
set_option maxRecDepth 100000
namespace Go.Proofs.Ytakplhfiohjcmaa.AI
open Go.Proofs (Try.prog)
def stY (nt : Bool) (x : Span) (p : List Span × Int) (y : Span) : List Span × Int :=
  if y.b < x.a ∨ y.a > x.b then p else (match nt with | true => pt p.1 p.2 (y.a - 1) | false => pt p.1 (max p.2 y.a) (min x.b y.b), y.b + 1)
def inB (nt : Bool) (x : Span) : List Span → List Span × Int → List Span × Int
  | [], p => p
  | y :: r, p => inB nt x r (stY nt x p y)
def bodyO34 : ACode := match A34 with
  | .seq _ (.seq _ (.seq _ (.seq (.seq _ (.block _ (.loop b))) _))) => b
  | _ => .skip
def bodyI34 : ACode := match bodyO34 with
  | .seq _ (.seq _ (.seq (.block _ (.seq _ (.seq _ (.seq (.seq _ (.block _ (.loop b))) _)))) _)) => b
  | _ => .skip
def okS (s : Span) : Prop := 0 ≤ s.a ∧ s.a ≤ s.b ∧ s.b ≤ 65535
def okO (o : List Span) : Prop := ∀ x ∈ o, 0 ≤ x.b ∧ x.b ≤ 65535
theorem pt_ok {o : List Span} {a b : Int} (h : okO o) (h0 : 0 ≤ a) (h1 : b ≤ 65535) : okO (pt o a b) := by
  unfold pt
  split
  · exact jn_b h ⟨by simp only; omega, h1⟩
  · exact h
theorem pt_len (o : List Span) (a b : Int) : (pt o a b).length ≤ o.length + 1 := by
  unfold pt
  split
  · exact jn_len _ _
  · omega
def H34 (vs : List AV) (o : List Span) (x : Span) : List AObj := [.box vs 36, .box [.row 2 0 o.length] 24, .mem 2 (o.map eSpan) 38, .box [.int .i64 x.a, .int .i64 x.b] 38]
theorem loopI34 (c c' nt : Bool) (l ys : List Span) (i : Nat) (x : Span) (hx : okS x) (hy : ∀ y ∈ ys, okS y) (hl : ys.length ≤ 5000) : ∀ (d j : Nat) (o : List Span) (at_ : Int), j + d = ys.length → o.length ≤ 100000000 + j → okO o → 0 ≤ at_ → at_ ≤ 65536 →
    ALp Go.Proofs.Try.prog 0 bodyI34 ⟨72, [(24, .int .i64 j), (23, .int .i64 ys.length), (22, .vec c' (ys.map eSpan)), (9, .int .i64 at_), (8, .ptr 3 0 0), (6, .fn (.func 62) [] [.ptr 1 0 0]), (5, .ptr 1 0 0), (3, .ptr 0 0 0), (15, .int .i64 i), (14, .int .i64 l.length), (13, .vec c (l.map eSpan))], []⟩ (H34 [.vec c' (ys.map eSpan), .bool nt] o x) (fun e ta H => match e with
      | .exit 2 => H = H34 [.vec c' (ys.map eSpan), .bool nt] (inB nt x (ys.drop j) (o, at_)).1 x ∧ ta = ⟨72, [(9, .int .i64 (inB nt x (ys.drop j) (o, at_)).2), (8, .ptr 3 0 0), (6, .fn (.func 62) [] [.ptr 1 0 0]), (5, .ptr 1 0 0), (3, .ptr 0 0 0), (15, .int .i64 i), (14, .int .i64 l.length), (13, .vec c (l.map eSpan))], []⟩
      | _ => False) := by
  intro d
  induction d with
  | zero =>
    intro j o at_ hj ho hok h0 h1'
    refine ALp.round ?_
    generalize hQ : RoundQ _ _ _ _ = QQ
    have h1 : ¬ (j : Int) < (ys.length : Int) := by omega
    simp only [bodyI34, bodyO34, A34, H34, h1, M_seq, M_reg, M_op, M_opg, M_ops_nil, M_nil, M_blk, M_scp, M_skip, M_label, M_block, M_scope, M_ret, M_exit, M_cond, M_loop, M_draw, DM_nil, DM_op, DM_opg, dK_ok, dK_call, dK_pan, dK_read, dK_free, dgK_do, dgK_un, grdK_un, dgK_tf, dgK_ft, grdK_do, grdK_tf, grdK_ft, contK_ap, panK_ap, dCallK_ret, dCallK_pan, Chk_nil, Chk_cons, isE, isR, List.mem_cons, List.not_mem_nil, List.all_cons, List.all_nil, beq_self_eq_true, Bool.and_self, Bool.true_and, Bool.and_true, ne_eq, or_false, false_or, or_true, true_or, exitK_some, exitK_none, unw_blk, unw_code, unw_ops, unw_scp, unw_nil, okD_some, okD_none, evO, ev_t, ev_k, get_mk, put_mk, look, putD_some, putD_none, binA, binI, orBad, opK_ok, opK_call, opK_pan, opK_bad, CallK_ret, CallK_pan, cndK_true, cndK_false, pickA, cellsOf, cellsAt, asVal, storeA, splice, litCells, fillA, eqB, eqP, eqS, eqCell, eqCells, intOr, sliceA, appA, elemsA, pures, pureV, argl, resVs, resV, asRes, Nat.reduceEqDiff, Nat.reduceLT, Nat.reduceLeDiff, Nat.reduceAdd, Nat.reduceSub, Nat.reduceMul, reduceIte, reduceCtorEq, true_and, and_true, Bool.false_eq_true, Bool.true_eq_false, Bool.not_true, Bool.not_false, forall_const, forall_eq, imp_false, not_true_eq_false, not_false_eq_true, decide_true, decide_false, cond_true, cond_false, Int.toNat_natCast, Int.natCast_nonneg, List.length_cons, List.length_nil, List.length_append, List.length_map, List.length_set, List.getElem?_cons_zero, List.getElem?_cons_succ, List.getElem?_nil, List.nil_append, List.cons_append, List.append_nil, List.drop_zero, List.drop_succ_cons, List.drop_nil, List.take_succ_cons, List.take_zero, List.take_nil, List.set_cons_zero, List.set_cons_succ, List.set_nil, List.headD_cons, List.map_cons, List.map_nil, Option.map_some, Option.map_none, Nat.le_refl, Nat.zero_le, Nat.add_zero, Nat.zero_add, and_self, IntKind.bits]
    rw [← hQ]
    refine ⟨_, _, Ref.pick [9, 8, 6, 5, 3, 15, 14, 13], ?_, ?_⟩
    · rw [List.drop_eq_nil_of_le (by omega)]; rfl
    · rw [List.drop_eq_nil_of_le (by omega)]; rfl
  | succ d ih =>
    intro j o at_ hj ho hok h0 h1'
    refine ALp.round ?_
    obtain ⟨y, hys, hd⟩ := drop_cons hj
    rw [hd]
    generalize hQ : RoundQ _ _ _ _ = QQ
    have hxx : (ys.map eSpan)[j]? = some [.int .i64 y.a, .int .i64 y.b] := map_at eSpan hys
    have h1 : (j : Int) < (ys.length : Int) := by omega
    have hw := wrapS j (by omega)
    have hyk := hy y (List.mem_of_getElem? hys)
    obtain ⟨y1, y2, y3⟩ := hyk
    obtain ⟨x1, x2, x3⟩ := hx
    have w1 : IntKind.i64.wrap (y.b + 1) = y.b + 1 := wrapI (by omega) (by omega)
    have w2 : IntKind.i64.wrap (y.a - 1) = y.a - 1 := wrapI (by omega) (by omega)
    by_cases h2 : y.b < x.a
    · have e : stY nt x (o, at_) y = (o, at_) := if_pos (.inl h2)
      simp only [bodyI34, bodyO34, A34, H34, h1, hxx, h2, hw, M_seq, M_reg, M_op, M_opg, M_ops_nil, M_nil, M_blk, M_scp, M_skip, M_label, M_block, M_scope, M_ret, M_exit, M_cond, M_loop, M_draw, DM_nil, DM_op, DM_opg, dK_ok, dK_call, dK_pan, dK_read, dK_free, dgK_do, dgK_un, grdK_un, dgK_tf, dgK_ft, grdK_do, grdK_tf, grdK_ft, contK_ap, panK_ap, dCallK_ret, dCallK_pan, Chk_nil, Chk_cons, isE, isR, List.mem_cons, List.not_mem_nil, List.all_cons, List.all_nil, beq_self_eq_true, Bool.and_self, Bool.true_and, Bool.and_true, ne_eq, or_false, false_or, or_true, true_or, exitK_some, exitK_none, unw_blk, unw_code, unw_ops, unw_scp, unw_nil, okD_some, okD_none, evO, ev_t, ev_k, get_mk, put_mk, look, putD_some, putD_none, binA, binI, orBad, opK_ok, opK_call, opK_pan, opK_bad, CallK_ret, CallK_pan, cndK_true, cndK_false, pickA, cellsOf, cellsAt, asVal, storeA, splice, litCells, fillA, eqB, eqP, eqS, eqCell, eqCells, intOr, sliceA, appA, elemsA, pures, pureV, argl, resVs, resV, asRes, Nat.reduceEqDiff, Nat.reduceLT, Nat.reduceLeDiff, Nat.reduceAdd, Nat.reduceSub, Nat.reduceMul, reduceIte, reduceCtorEq, true_and, and_true, Bool.false_eq_true, Bool.true_eq_false, Bool.not_true, Bool.not_false, forall_const, forall_eq, imp_false, not_true_eq_false, not_false_eq_true, decide_true, decide_false, cond_true, cond_false, Int.toNat_natCast, Int.natCast_nonneg, List.length_cons, List.length_nil, List.length_append, List.length_map, List.length_set, List.getElem?_cons_zero, List.getElem?_cons_succ, List.getElem?_nil, List.nil_append, List.cons_append, List.append_nil, List.drop_zero, List.drop_succ_cons, List.drop_nil, List.take_succ_cons, List.take_zero, List.take_nil, List.set_cons_zero, List.set_cons_succ, List.set_nil, List.headD_cons, List.map_cons, List.map_nil, Option.map_some, Option.map_none, Nat.le_refl, Nat.zero_le, Nat.add_zero, Nat.zero_add, and_self, IntKind.bits]
      rw [← hQ]
      refine ⟨_, H34 [.vec c' (ys.map eSpan), .bool nt] o x, Ref.to (Ref.trans (Ref.pick [24, 23, 22, 9, 8, 6, 5, 3, 15, 14, 13]) (Ref.sel [0, 1, 2, 3] (by decide) (fun k hk => absurd hk (Nat.not_lt_zero _)))) rfl ?_, Nat.zero_le _, ?_⟩
      · simp only [selH, List.map_cons, List.map_nil, List.getD_cons_zero, List.getD_cons_succ, mem_sub_spans]
        rfl
      · simp only [inB, e]
        exact ih (j + 1) o at_ (by omega) (by omega) hok h0 h1'
    by_cases h3 : y.a > x.b
    · have e : stY nt x (o, at_) y = (o, at_) := if_pos (.inr h3)
      simp only [bodyI34, bodyO34, A34, H34, h1, hxx, h2, h3, hw, M_seq, M_reg, M_op, M_opg, M_ops_nil, M_nil, M_blk, M_scp, M_skip, M_label, M_block, M_scope, M_ret, M_exit, M_cond, M_loop, M_draw, DM_nil, DM_op, DM_opg, dK_ok, dK_call, dK_pan, dK_read, dK_free, dgK_do, dgK_un, grdK_un, dgK_tf, dgK_ft, grdK_do, grdK_tf, grdK_ft, contK_ap, panK_ap, dCallK_ret, dCallK_pan, Chk_nil, Chk_cons, isE, isR, List.mem_cons, List.not_mem_nil, List.all_cons, List.all_nil, beq_self_eq_true, Bool.and_self, Bool.true_and, Bool.and_true, ne_eq, or_false, false_or, or_true, true_or, exitK_some, exitK_none, unw_blk, unw_code, unw_ops, unw_scp, unw_nil, okD_some, okD_none, evO, ev_t, ev_k, get_mk, put_mk, look, putD_some, putD_none, binA, binI, orBad, opK_ok, opK_call, opK_pan, opK_bad, CallK_ret, CallK_pan, cndK_true, cndK_false, pickA, cellsOf, cellsAt, asVal, storeA, splice, litCells, fillA, eqB, eqP, eqS, eqCell, eqCells, intOr, sliceA, appA, elemsA, pures, pureV, argl, resVs, resV, asRes, Nat.reduceEqDiff, Nat.reduceLT, Nat.reduceLeDiff, Nat.reduceAdd, Nat.reduceSub, Nat.reduceMul, reduceIte, reduceCtorEq, true_and, and_true, Bool.false_eq_true, Bool.true_eq_false, Bool.not_true, Bool.not_false, forall_const, forall_eq, imp_false, not_true_eq_false, not_false_eq_true, decide_true, decide_false, cond_true, cond_false, Int.toNat_natCast, Int.natCast_nonneg, List.length_cons, List.length_nil, List.length_append, List.length_map, List.length_set, List.getElem?_cons_zero, List.getElem?_cons_succ, List.getElem?_nil, List.nil_append, List.cons_append, List.append_nil, List.drop_zero, List.drop_succ_cons, List.drop_nil, List.take_succ_cons, List.take_zero, List.take_nil, List.set_cons_zero, List.set_cons_succ, List.set_nil, List.headD_cons, List.map_cons, List.map_nil, Option.map_some, Option.map_none, Nat.le_refl, Nat.zero_le, Nat.add_zero, Nat.zero_add, and_self, IntKind.bits]
      rw [← hQ]
      refine ⟨_, H34 [.vec c' (ys.map eSpan), .bool nt] o x, Ref.to (Ref.trans (Ref.pick [24, 23, 22, 9, 8, 6, 5, 3, 15, 14, 13]) (Ref.sel [0, 1, 2, 3] (by decide) (fun k hk => absurd hk (Nat.not_lt_zero _)))) rfl ?_, Nat.zero_le _, ?_⟩
      · simp only [selH, List.map_cons, List.map_nil, List.getD_cons_zero, List.getD_cons_succ, mem_sub_spans]
        rfl
      · simp only [inB, e]
        exact ih (j + 1) o at_ (by omega) (by omega) hok h0 h1'
    have hno : ¬ (y.b < x.a ∨ y.a > x.b) := by omega
    cases nt with
    | true =>
      have e : stY true x (o, at_) y = (pt o at_ (y.a - 1), y.b + 1) := if_neg hno
      have hl2 := pt_len o at_ (y.a - 1)
      have hk2 : okO (pt o at_ (y.a - 1)) := pt_ok hok h0 (by omega)
      simp only [bodyI34, bodyO34, A34, H34, h1, hxx, h2, h3, w2, M_seq, M_reg, M_op, M_opg, M_ops_nil, M_nil, M_blk, M_scp, M_skip, M_label, M_block, M_scope, M_ret, M_exit, M_cond, M_loop, M_draw, DM_nil, DM_op, DM_opg, dK_ok, dK_call, dK_pan, dK_read, dK_free, dgK_do, dgK_un, grdK_un, dgK_tf, dgK_ft, grdK_do, grdK_tf, grdK_ft, contK_ap, panK_ap, dCallK_ret, dCallK_pan, Chk_nil, Chk_cons, isE, isR, List.mem_cons, List.not_mem_nil, List.all_cons, List.all_nil, beq_self_eq_true, Bool.and_self, Bool.true_and, Bool.and_true, ne_eq, or_false, false_or, or_true, true_or, exitK_some, exitK_none, unw_blk, unw_code, unw_ops, unw_scp, unw_nil, okD_some, okD_none, evO, ev_t, ev_k, get_mk, put_mk, look, putD_some, putD_none, binA, binI, orBad, opK_ok, opK_call, opK_pan, opK_bad, CallK_ret, CallK_pan, cndK_true, cndK_false, pickA, cellsOf, cellsAt, asVal, storeA, splice, litCells, fillA, eqB, eqP, eqS, eqCell, eqCells, intOr, sliceA, appA, elemsA, pures, pureV, argl, resVs, resV, asRes, Nat.reduceEqDiff, Nat.reduceLT, Nat.reduceLeDiff, Nat.reduceAdd, Nat.reduceSub, Nat.reduceMul, reduceIte, reduceCtorEq, true_and, and_true, Bool.false_eq_true, Bool.true_eq_false, Bool.not_true, Bool.not_false, forall_const, forall_eq, imp_false, not_true_eq_false, not_false_eq_true, decide_true, decide_false, cond_true, cond_false, Int.toNat_natCast, Int.natCast_nonneg, List.length_cons, List.length_nil, List.length_append, List.length_map, List.length_set, List.getElem?_cons_zero, List.getElem?_cons_succ, List.getElem?_nil, List.nil_append, List.cons_append, List.append_nil, List.drop_zero, List.drop_succ_cons, List.drop_nil, List.take_succ_cons, List.take_zero, List.take_nil, List.set_cons_zero, List.set_cons_succ, List.set_nil, List.headD_cons, List.map_cons, List.map_nil, Option.map_some, Option.map_none, Nat.le_refl, Nat.zero_le, Nat.add_zero, Nat.zero_add, and_self, IntKind.bits]
      refine call62 (i := 1) (j := 2) (by decide) rfl rfl (by omega) hok ?_ ?_
      · simp only [hw, w1, M_seq, M_reg, M_op, M_opg, M_ops_nil, M_nil, M_blk, M_scp, M_skip, M_label, M_block, M_scope, M_ret, M_exit, M_cond, M_loop, M_draw, DM_nil, DM_op, DM_opg, dK_ok, dK_call, dK_pan, dK_read, dK_free, dgK_do, dgK_un, grdK_un, dgK_tf, dgK_ft, grdK_do, grdK_tf, grdK_ft, contK_ap, panK_ap, dCallK_ret, dCallK_pan, Chk_nil, Chk_cons, isE, isR, List.mem_cons, List.not_mem_nil, List.all_cons, List.all_nil, beq_self_eq_true, Bool.and_self, Bool.true_and, Bool.and_true, ne_eq, or_false, false_or, or_true, true_or, exitK_some, exitK_none, unw_blk, unw_code, unw_ops, unw_scp, unw_nil, okD_some, okD_none, evO, ev_t, ev_k, get_mk, put_mk, look, putD_some, putD_none, binA, binI, orBad, opK_ok, opK_call, opK_pan, opK_bad, CallK_ret, CallK_pan, cndK_true, cndK_false, pickA, cellsOf, cellsAt, asVal, storeA, splice, litCells, fillA, eqB, eqP, eqS, eqCell, eqCells, intOr, sliceA, appA, elemsA, pures, pureV, argl, resVs, resV, asRes, Nat.reduceEqDiff, Nat.reduceLT, Nat.reduceLeDiff, Nat.reduceAdd, Nat.reduceSub, Nat.reduceMul, reduceIte, reduceCtorEq, true_and, and_true, Bool.false_eq_true, Bool.true_eq_false, Bool.not_true, Bool.not_false, forall_const, forall_eq, imp_false, not_true_eq_false, not_false_eq_true, decide_true, decide_false, cond_true, cond_false, Int.toNat_natCast, Int.natCast_nonneg, List.length_cons, List.length_nil, List.length_append, List.length_map, List.length_set, List.getElem?_cons_zero, List.getElem?_cons_succ, List.getElem?_nil, List.nil_append, List.cons_append, List.append_nil, List.drop_zero, List.drop_succ_cons, List.drop_nil, List.take_succ_cons, List.take_zero, List.take_nil, List.set_cons_zero, List.set_cons_succ, List.set_nil, List.headD_cons, List.map_cons, List.map_nil, Option.map_some, Option.map_none, Nat.le_refl, Nat.zero_le, Nat.add_zero, Nat.zero_add, and_self, IntKind.bits]
        rw [← hQ]
        refine ⟨_, H34 [.vec c' (ys.map eSpan), .bool true] (pt o at_ (y.a - 1)) x, Ref.to (Ref.trans (Ref.pick [24, 23, 22, 9, 8, 6, 5, 3, 15, 14, 13]) (Ref.sel [0, 1, 2, 3] (by decide) (fun k hk => absurd hk (Nat.not_lt_zero _)))) rfl ?_, Nat.zero_le _, ?_⟩
        · simp only [selH, List.map_cons, List.map_nil, List.getD_cons_zero, List.getD_cons_succ, mem_sub_spans]
          rfl
        · simp only [inB, e]
          exact ih (j + 1) _ _ (by omega) (by omega) hk2 (by omega) (by omega)
      · simp only [hw, w1, M_seq, M_reg, M_op, M_opg, M_ops_nil, M_nil, M_blk, M_scp, M_skip, M_label, M_block, M_scope, M_ret, M_exit, M_cond, M_loop, M_draw, DM_nil, DM_op, DM_opg, dK_ok, dK_call, dK_pan, dK_read, dK_free, dgK_do, dgK_un, grdK_un, dgK_tf, dgK_ft, grdK_do, grdK_tf, grdK_ft, contK_ap, panK_ap, dCallK_ret, dCallK_pan, Chk_nil, Chk_cons, isE, isR, List.mem_cons, List.not_mem_nil, List.all_cons, List.all_nil, beq_self_eq_true, Bool.and_self, Bool.true_and, Bool.and_true, ne_eq, or_false, false_or, or_true, true_or, exitK_some, exitK_none, unw_blk, unw_code, unw_ops, unw_scp, unw_nil, okD_some, okD_none, evO, ev_t, ev_k, get_mk, put_mk, look, putD_some, putD_none, binA, binI, orBad, opK_ok, opK_call, opK_pan, opK_bad, CallK_ret, CallK_pan, cndK_true, cndK_false, pickA, cellsOf, cellsAt, asVal, storeA, splice, litCells, fillA, eqB, eqP, eqS, eqCell, eqCells, intOr, sliceA, appA, elemsA, pures, pureV, argl, resVs, resV, asRes, Nat.reduceEqDiff, Nat.reduceLT, Nat.reduceLeDiff, Nat.reduceAdd, Nat.reduceSub, Nat.reduceMul, reduceIte, reduceCtorEq, true_and, and_true, Bool.false_eq_true, Bool.true_eq_false, Bool.not_true, Bool.not_false, forall_const, forall_eq, imp_false, not_true_eq_false, not_false_eq_true, decide_true, decide_false, cond_true, cond_false, Int.toNat_natCast, Int.natCast_nonneg, List.length_cons, List.length_nil, List.length_append, List.length_map, List.length_set, List.getElem?_cons_zero, List.getElem?_cons_succ, List.getElem?_nil, List.nil_append, List.cons_append, List.append_nil, List.drop_zero, List.drop_succ_cons, List.drop_nil, List.take_succ_cons, List.take_zero, List.take_nil, List.set_cons_zero, List.set_cons_succ, List.set_nil, List.headD_cons, List.map_cons, List.map_nil, Option.map_some, Option.map_none, Nat.le_refl, Nat.zero_le, Nat.add_zero, Nat.zero_add, and_self, IntKind.bits]
        rw [← hQ]
        refine ⟨_, H34 [.vec c' (ys.map eSpan), .bool true] (pt o at_ (y.a - 1)) x, Ref.to (Ref.trans (Ref.pick [24, 23, 22, 9, 8, 6, 5, 3, 15, 14, 13]) (Ref.sel [0, 1, 5, 3] (by decide) (fun k hk => absurd hk (Nat.not_lt_zero _)))) rfl ?_, Nat.zero_le _, ?_⟩
        · simp only [selH, List.map_cons, List.map_nil, List.getD_cons_zero, List.getD_cons_succ, mem_sub_spans]
          rfl
        · simp only [inB, e]
          exact ih (j + 1) _ _ (by omega) (by omega) hk2 (by omega) (by omega)
    | false =>
      have e : stY false x (o, at_) y = (pt o (max at_ y.a) (min x.b y.b), y.b + 1) := if_neg hno
      have hl2 := pt_len o (max at_ y.a) (min x.b y.b)
      have hk2 : okO (pt o (max at_ y.a) (min x.b y.b)) := pt_ok hok (by omega) (by omega)
      simp only [bodyI34, bodyO34, A34, H34, h1, hxx, h2, h3, w2, M_seq, M_reg, M_op, M_opg, M_ops_nil, M_nil, M_blk, M_scp, M_skip, M_label, M_block, M_scope, M_ret, M_exit, M_cond, M_loop, M_draw, DM_nil, DM_op, DM_opg, dK_ok, dK_call, dK_pan, dK_read, dK_free, dgK_do, dgK_un, grdK_un, dgK_tf, dgK_ft, grdK_do, grdK_tf, grdK_ft, contK_ap, panK_ap, dCallK_ret, dCallK_pan, Chk_nil, Chk_cons, isE, isR, List.mem_cons, List.not_mem_nil, List.all_cons, List.all_nil, beq_self_eq_true, Bool.and_self, Bool.true_and, Bool.and_true, ne_eq, or_false, false_or, or_true, true_or, exitK_some, exitK_none, unw_blk, unw_code, unw_ops, unw_scp, unw_nil, okD_some, okD_none, evO, ev_t, ev_k, get_mk, put_mk, look, putD_some, putD_none, binA, binI, orBad, opK_ok, opK_call, opK_pan, opK_bad, CallK_ret, CallK_pan, cndK_true, cndK_false, pickA, cellsOf, cellsAt, asVal, storeA, splice, litCells, fillA, eqB, eqP, eqS, eqCell, eqCells, intOr, sliceA, appA, elemsA, pures, pureV, argl, resVs, resV, asRes, Nat.reduceEqDiff, Nat.reduceLT, Nat.reduceLeDiff, Nat.reduceAdd, Nat.reduceSub, Nat.reduceMul, reduceIte, reduceCtorEq, true_and, and_true, Bool.false_eq_true, Bool.true_eq_false, Bool.not_true, Bool.not_false, forall_const, forall_eq, imp_false, not_true_eq_false, not_false_eq_true, decide_true, decide_false, cond_true, cond_false, Int.toNat_natCast, Int.natCast_nonneg, List.length_cons, List.length_nil, List.length_append, List.length_map, List.length_set, List.getElem?_cons_zero, List.getElem?_cons_succ, List.getElem?_nil, List.nil_append, List.cons_append, List.append_nil, List.drop_zero, List.drop_succ_cons, List.drop_nil, List.take_succ_cons, List.take_zero, List.take_nil, List.set_cons_zero, List.set_cons_succ, List.set_nil, List.headD_cons, List.map_cons, List.map_nil, Option.map_some, Option.map_none, Nat.le_refl, Nat.zero_le, Nat.add_zero, Nat.zero_add, and_self, IntKind.bits]
      refine call62 (i := 1) (j := 2) (by decide) rfl rfl (by omega) hok ?_ ?_
      · simp only [hw, w1, M_seq, M_reg, M_op, M_opg, M_ops_nil, M_nil, M_blk, M_scp, M_skip, M_label, M_block, M_scope, M_ret, M_exit, M_cond, M_loop, M_draw, DM_nil, DM_op, DM_opg, dK_ok, dK_call, dK_pan, dK_read, dK_free, dgK_do, dgK_un, grdK_un, dgK_tf, dgK_ft, grdK_do, grdK_tf, grdK_ft, contK_ap, panK_ap, dCallK_ret, dCallK_pan, Chk_nil, Chk_cons, isE, isR, List.mem_cons, List.not_mem_nil, List.all_cons, List.all_nil, beq_self_eq_true, Bool.and_self, Bool.true_and, Bool.and_true, ne_eq, or_false, false_or, or_true, true_or, exitK_some, exitK_none, unw_blk, unw_code, unw_ops, unw_scp, unw_nil, okD_some, okD_none, evO, ev_t, ev_k, get_mk, put_mk, look, putD_some, putD_none, binA, binI, orBad, opK_ok, opK_call, opK_pan, opK_bad, CallK_ret, CallK_pan, cndK_true, cndK_false, pickA, cellsOf, cellsAt, asVal, storeA, splice, litCells, fillA, eqB, eqP, eqS, eqCell, eqCells, intOr, sliceA, appA, elemsA, pures, pureV, argl, resVs, resV, asRes, Nat.reduceEqDiff, Nat.reduceLT, Nat.reduceLeDiff, Nat.reduceAdd, Nat.reduceSub, Nat.reduceMul, reduceIte, reduceCtorEq, true_and, and_true, Bool.false_eq_true, Bool.true_eq_false, Bool.not_true, Bool.not_false, forall_const, forall_eq, imp_false, not_true_eq_false, not_false_eq_true, decide_true, decide_false, cond_true, cond_false, Int.toNat_natCast, Int.natCast_nonneg, List.length_cons, List.length_nil, List.length_append, List.length_map, List.length_set, List.getElem?_cons_zero, List.getElem?_cons_succ, List.getElem?_nil, List.nil_append, List.cons_append, List.append_nil, List.drop_zero, List.drop_succ_cons, List.drop_nil, List.take_succ_cons, List.take_zero, List.take_nil, List.set_cons_zero, List.set_cons_succ, List.set_nil, List.headD_cons, List.map_cons, List.map_nil, Option.map_some, Option.map_none, Nat.le_refl, Nat.zero_le, Nat.add_zero, Nat.zero_add, and_self, IntKind.bits]
        rw [← hQ]
        refine ⟨_, H34 [.vec c' (ys.map eSpan), .bool false] (pt o (max at_ y.a) (min x.b y.b)) x, Ref.to (Ref.trans (Ref.pick [24, 23, 22, 9, 8, 6, 5, 3, 15, 14, 13]) (Ref.sel [0, 1, 2, 3] (by decide) (fun k hk => absurd hk (Nat.not_lt_zero _)))) rfl ?_, Nat.zero_le _, ?_⟩
        · simp only [selH, List.map_cons, List.map_nil, List.getD_cons_zero, List.getD_cons_succ, mem_sub_spans]
          rfl
        · simp only [inB, e]
          exact ih (j + 1) _ _ (by omega) (by omega) hk2 (by omega) (by omega)
      · simp only [hw, w1, M_seq, M_reg, M_op, M_opg, M_ops_nil, M_nil, M_blk, M_scp, M_skip, M_label, M_block, M_scope, M_ret, M_exit, M_cond, M_loop, M_draw, DM_nil, DM_op, DM_opg, dK_ok, dK_call, dK_pan, dK_read, dK_free, dgK_do, dgK_un, grdK_un, dgK_tf, dgK_ft, grdK_do, grdK_tf, grdK_ft, contK_ap, panK_ap, dCallK_ret, dCallK_pan, Chk_nil, Chk_cons, isE, isR, List.mem_cons, List.not_mem_nil, List.all_cons, List.all_nil, beq_self_eq_true, Bool.and_self, Bool.true_and, Bool.and_true, ne_eq, or_false, false_or, or_true, true_or, exitK_some, exitK_none, unw_blk, unw_code, unw_ops, unw_scp, unw_nil, okD_some, okD_none, evO, ev_t, ev_k, get_mk, put_mk, look, putD_some, putD_none, binA, binI, orBad, opK_ok, opK_call, opK_pan, opK_bad, CallK_ret, CallK_pan, cndK_true, cndK_false, pickA, cellsOf, cellsAt, asVal, storeA, splice, litCells, fillA, eqB, eqP, eqS, eqCell, eqCells, intOr, sliceA, appA, elemsA, pures, pureV, argl, resVs, resV, asRes, Nat.reduceEqDiff, Nat.reduceLT, Nat.reduceLeDiff, Nat.reduceAdd, Nat.reduceSub, Nat.reduceMul, reduceIte, reduceCtorEq, true_and, and_true, Bool.false_eq_true, Bool.true_eq_false, Bool.not_true, Bool.not_false, forall_const, forall_eq, imp_false, not_true_eq_false, not_false_eq_true, decide_true, decide_false, cond_true, cond_false, Int.toNat_natCast, Int.natCast_nonneg, List.length_cons, List.length_nil, List.length_append, List.length_map, List.length_set, List.getElem?_cons_zero, List.getElem?_cons_succ, List.getElem?_nil, List.nil_append, List.cons_append, List.append_nil, List.drop_zero, List.drop_succ_cons, List.drop_nil, List.take_succ_cons, List.take_zero, List.take_nil, List.set_cons_zero, List.set_cons_succ, List.set_nil, List.headD_cons, List.map_cons, List.map_nil, Option.map_some, Option.map_none, Nat.le_refl, Nat.zero_le, Nat.add_zero, Nat.zero_add, and_self, IntKind.bits]
        rw [← hQ]
        refine ⟨_, H34 [.vec c' (ys.map eSpan), .bool false] (pt o (max at_ y.a) (min x.b y.b)) x, Ref.to (Ref.trans (Ref.pick [24, 23, 22, 9, 8, 6, 5, 3, 15, 14, 13]) (Ref.sel [0, 1, 5, 3] (by decide) (fun k hk => absurd hk (Nat.not_lt_zero _)))) rfl ?_, Nat.zero_le _, ?_⟩
        · simp only [selH, List.map_cons, List.map_nil, List.getD_cons_zero, List.getD_cons_succ, mem_sub_spans]
          rfl
        · simp only [inB, e]
          exact ih (j + 1) _ _ (by omega) (by omega) hk2 (by omega) (by omega)
end Go.Proofs.Ytakplhfiohjcmaa.AI
