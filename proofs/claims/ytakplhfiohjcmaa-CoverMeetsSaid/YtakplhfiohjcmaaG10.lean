/- Contracts of layer 10: Both. -/
import Derived.Test.YtakplhfiohjcmaaG9
set_option linter.unusedVariables false
set_option linter.unusedSimpArgs false
set_option maxRecDepth 100000
namespace Go.Proofs.Ytakplhfiohjcmaa.AI
open Go.Proofs (Try.prog)
def stX (nt : Bool) (ys : List Span) (o : List Span) (x : Span) : List Span := match nt with
  | true => pt (inB true x ys (o, x.a)).1 (inB true x ys (o, x.a)).2 x.b
  | false => (inB false x ys (o, x.a)).1
def ouB (nt : Bool) (ys : List Span) : List Span → List Span → List Span
  | [], o => o
  | x :: r, o => ouB nt ys r (stX nt ys o x)
theorem stY_ok {nt : Bool} {x y : Span} {p : List Span × Int} (hx : okS x) (hy : okS y) (h : okO p.1) (h0 : 0 ≤ p.2) (h1 : p.2 ≤ 65536) : okO (stY nt x p y).1 ∧ 0 ≤ (stY nt x p y).2 ∧ (stY nt x p y).2 ≤ 65536 ∧ (stY nt x p y).1.length ≤ p.1.length + 1 := by
  obtain ⟨y1, y2, y3⟩ := hy
  obtain ⟨x1, x2, x3⟩ := hx
  unfold stY
  split
  · exact ⟨h, h0, h1, by omega⟩
  · cases nt with
    | true => exact ⟨pt_ok h h0 (by omega), by simp only; omega, by simp only; omega, pt_len _ _ _⟩
    | false => exact ⟨pt_ok h (by omega) (by omega), by simp only; omega, by simp only; omega, pt_len _ _ _⟩
theorem inB_ok {nt : Bool} {x : Span} (hx : okS x) : ∀ {ys : List Span} {p : List Span × Int}, (∀ y ∈ ys, okS y) → okO p.1 → 0 ≤ p.2 → p.2 ≤ 65536 → okO (inB nt x ys p).1 ∧ 0 ≤ (inB nt x ys p).2 ∧ (inB nt x ys p).2 ≤ 65536 ∧ (inB nt x ys p).1.length ≤ p.1.length + ys.length
  | [], p, _, h, h0, h1 => ⟨h, h0, h1, by simp [inB]⟩
  | y :: r, p, hy, h, h0, h1 => by
    obtain ⟨g1, g2, g3, g4⟩ := stY_ok (nt := nt) hx (hy y List.mem_cons_self) h h0 h1
    obtain ⟨k1, k2, k3, k4⟩ := inB_ok hx (fun z hz => hy z (List.mem_cons_of_mem _ hz)) g1 g2 g3
    exact ⟨k1, k2, k3, by simp only [inB, List.length_cons]; omega⟩
theorem stX_ok {nt : Bool} {x : Span} (hx : okS x) {ys o : List Span} (hy : ∀ y ∈ ys, okS y) (h : okO o) : okO (stX nt ys o x) ∧ (stX nt ys o x).length ≤ o.length + ys.length + 1 := by
  have h2 := inB_ok (nt := nt) hx (p := (o, x.a)) hy h hx.1 (by have := hx.2.1; have := hx.2.2; simp only; omega)
  unfold stX
  cases nt with
  | true => exact ⟨pt_ok h2.1 h2.2.1 hx.2.2, by have := pt_len (inB true x ys (o, x.a)).1 (inB true x ys (o, x.a)).2 x.b; have := h2.2.2.2; simp only at this ⊢; omega⟩
  | false => exact ⟨h2.1, by have := h2.2.2.2; simp only at this ⊢; omega⟩
def G34 (vs : List AV) (o : List Span) : List AObj := [.box vs 36, .box [.row 2 0 o.length] 24, .mem 2 (o.map eSpan) 38]
theorem loopO34 (c c' nt : Bool) (l ys : List Span) (hx : ∀ x ∈ l, okS x) (hy : ∀ y ∈ ys, okS y) (hl : l.length ≤ 5000) (hm : ys.length ≤ 5000) : ∀ (d i : Nat) (o : List Span), i + d = l.length → o.length ≤ i * 5001 → okO o →
    ALp Go.Proofs.Try.prog 0 bodyO34 ⟨72, [(15, .int .i64 i), (14, .int .i64 l.length), (13, .vec c (l.map eSpan)), (6, .fn (.func 62) [] [.ptr 1 0 0]), (5, .ptr 1 0 0), (3, .ptr 0 0 0)], []⟩ (G34 [.vec c' (ys.map eSpan), .bool nt] o) (fun e ta H => match e with
      | .exit 0 => H = G34 [.vec c' (ys.map eSpan), .bool nt] (ouB nt ys (l.drop i) o) ∧ ta = ⟨72, [(5, .ptr 1 0 0)], []⟩
      | _ => False) := by
  intro d
  induction d with
  | zero =>
    intro i o hi ho hok
    refine ALp.round ?_
    generalize hQ : RoundQ _ _ _ _ = QQ
    have h1 : ¬ (i : Int) < (l.length : Int) := by omega
    simp only [bodyO34, A34, G34, h1, M_seq, M_reg, M_op, M_opg, M_ops_nil, M_nil, M_blk, M_scp, M_skip, M_label, M_block, M_scope, M_ret, M_exit, M_cond, M_loop, M_draw, DM_nil, DM_op, DM_opg, dK_ok, dK_call, dK_pan, dK_read, dK_free, dgK_do, dgK_un, grdK_un, dgK_tf, dgK_ft, grdK_do, grdK_tf, grdK_ft, contK_ap, panK_ap, dCallK_ret, dCallK_pan, Chk_nil, Chk_cons, isE, isR, List.mem_cons, List.not_mem_nil, List.all_cons, List.all_nil, beq_self_eq_true, Bool.and_self, Bool.true_and, Bool.and_true, ne_eq, or_false, false_or, or_true, true_or, exitK_some, exitK_none, unw_blk, unw_code, unw_ops, unw_scp, unw_nil, okD_some, okD_none, evO, ev_t, ev_k, get_mk, put_mk, look, putD_some, putD_none, binA, binI, orBad, opK_ok, opK_call, opK_pan, opK_bad, CallK_ret, CallK_pan, cndK_true, cndK_false, pickA, cellsOf, cellsAt, asVal, storeA, splice, litCells, fillA, eqB, eqP, eqS, eqCell, eqCells, intOr, sliceA, appA, elemsA, pures, pureV, argl, resVs, resV, asRes, Nat.reduceEqDiff, Nat.reduceLT, Nat.reduceLeDiff, Nat.reduceAdd, Nat.reduceSub, Nat.reduceMul, reduceIte, reduceCtorEq, true_and, and_true, Bool.false_eq_true, Bool.true_eq_false, Bool.not_true, Bool.not_false, forall_const, forall_eq, imp_false, not_true_eq_false, not_false_eq_true, decide_true, decide_false, cond_true, cond_false, Int.toNat_natCast, Int.natCast_nonneg, List.length_cons, List.length_nil, List.length_append, List.length_map, List.length_set, List.getElem?_cons_zero, List.getElem?_cons_succ, List.getElem?_nil, List.nil_append, List.cons_append, List.append_nil, List.drop_zero, List.drop_succ_cons, List.drop_nil, List.take_succ_cons, List.take_zero, List.take_nil, List.set_cons_zero, List.set_cons_succ, List.set_nil, List.headD_cons, List.map_cons, List.map_nil, Option.map_some, Option.map_none, Nat.le_refl, Nat.zero_le, Nat.add_zero, Nat.zero_add, and_self, IntKind.bits]
    rw [← hQ]
    refine ⟨_, _, Ref.pick [5], ?_, rfl⟩
    rw [List.drop_eq_nil_of_le (by omega)]; rfl
  | succ d ih =>
    intro i o hi ho hok
    refine ALp.round ?_
    obtain ⟨x, hxs, hd⟩ := drop_cons hi
    rw [hd]
    generalize hQ : RoundQ _ _ _ _ = QQ
    have hxx : (l.map eSpan)[i]? = some [.int .i64 x.a, .int .i64 x.b] := map_at eSpan hxs
    have h1 : (i : Int) < (l.length : Int) := by omega
    have hw := wrapS i (by omega)
    have hxk := hx x (List.mem_of_getElem? hxs)
    have ⟨x1, x2, x3⟩ := hxk
    simp only [bodyO34, A34, G34, h1, hxx, M_seq, M_reg, M_op, M_opg, M_ops_nil, M_nil, M_blk, M_scp, M_skip, M_label, M_block, M_scope, M_ret, M_exit, M_cond, M_loop, M_draw, DM_nil, DM_op, DM_opg, dK_ok, dK_call, dK_pan, dK_read, dK_free, dgK_do, dgK_un, grdK_un, dgK_tf, dgK_ft, grdK_do, grdK_tf, grdK_ft, contK_ap, panK_ap, dCallK_ret, dCallK_pan, Chk_nil, Chk_cons, isE, isR, List.mem_cons, List.not_mem_nil, List.all_cons, List.all_nil, beq_self_eq_true, Bool.and_self, Bool.true_and, Bool.and_true, ne_eq, or_false, false_or, or_true, true_or, exitK_some, exitK_none, unw_blk, unw_code, unw_ops, unw_scp, unw_nil, okD_some, okD_none, evO, ev_t, ev_k, get_mk, put_mk, look, putD_some, putD_none, binA, binI, orBad, opK_ok, opK_call, opK_pan, opK_bad, CallK_ret, CallK_pan, cndK_true, cndK_false, pickA, cellsOf, cellsAt, asVal, storeA, splice, litCells, fillA, eqB, eqP, eqS, eqCell, eqCells, intOr, sliceA, appA, elemsA, pures, pureV, argl, resVs, resV, asRes, Nat.reduceEqDiff, Nat.reduceLT, Nat.reduceLeDiff, Nat.reduceAdd, Nat.reduceSub, Nat.reduceMul, reduceIte, reduceCtorEq, true_and, and_true, Bool.false_eq_true, Bool.true_eq_false, Bool.not_true, Bool.not_false, forall_const, forall_eq, imp_false, not_true_eq_false, not_false_eq_true, decide_true, decide_false, cond_true, cond_false, Int.toNat_natCast, Int.natCast_nonneg, List.length_cons, List.length_nil, List.length_append, List.length_map, List.length_set, List.getElem?_cons_zero, List.getElem?_cons_succ, List.getElem?_nil, List.nil_append, List.cons_append, List.append_nil, List.drop_zero, List.drop_succ_cons, List.drop_nil, List.take_succ_cons, List.take_zero, List.take_nil, List.set_cons_zero, List.set_cons_succ, List.set_nil, List.headD_cons, List.map_cons, List.map_nil, Option.map_some, Option.map_none, Nat.le_refl, Nat.zero_le, Nat.add_zero, Nat.zero_add, and_self, IntKind.bits]
    refine ALp.ref (Ref.pick [24, 23, 22, 9, 8, 6, 5, 3, 15, 14, 13]) (Nat.zero_le _) ?_
    refine ALp.mono (loopI34 c c' nt l ys i x hxk hy hm ys.length 0 o x.a (by omega) (by omega) hok x1 (by omega)) ?_
    intro e ta H he
    have hin := inB_ok (nt := nt) hxk (p := (o, x.a)) hy hok x1 (by simp only; omega)
    have hst := stX_ok (nt := nt) hxk hy hok
    split at he
    · obtain ⟨rfl, rfl⟩ := he
      simp only [List.drop_zero] at *
      cases nt with
      | true =>
        simp only [LoopK, H34, M_seq, M_reg, M_op, M_opg, M_ops_nil, M_nil, M_blk, M_scp, M_skip, M_label, M_block, M_scope, M_ret, M_exit, M_cond, M_loop, M_draw, DM_nil, DM_op, DM_opg, dK_ok, dK_call, dK_pan, dK_read, dK_free, dgK_do, dgK_un, grdK_un, dgK_tf, dgK_ft, grdK_do, grdK_tf, grdK_ft, contK_ap, panK_ap, dCallK_ret, dCallK_pan, Chk_nil, Chk_cons, isE, isR, List.mem_cons, List.not_mem_nil, List.all_cons, List.all_nil, beq_self_eq_true, Bool.and_self, Bool.true_and, Bool.and_true, ne_eq, or_false, false_or, or_true, true_or, exitK_some, exitK_none, unw_blk, unw_code, unw_ops, unw_scp, unw_nil, okD_some, okD_none, evO, ev_t, ev_k, get_mk, put_mk, look, putD_some, putD_none, binA, binI, orBad, opK_ok, opK_call, opK_pan, opK_bad, CallK_ret, CallK_pan, cndK_true, cndK_false, pickA, cellsOf, cellsAt, asVal, storeA, splice, litCells, fillA, eqB, eqP, eqS, eqCell, eqCells, intOr, sliceA, appA, elemsA, pures, pureV, argl, resVs, resV, asRes, Nat.reduceEqDiff, Nat.reduceLT, Nat.reduceLeDiff, Nat.reduceAdd, Nat.reduceSub, Nat.reduceMul, reduceIte, reduceCtorEq, true_and, and_true, Bool.false_eq_true, Bool.true_eq_false, Bool.not_true, Bool.not_false, forall_const, forall_eq, imp_false, not_true_eq_false, not_false_eq_true, decide_true, decide_false, cond_true, cond_false, Int.toNat_natCast, Int.natCast_nonneg, List.length_cons, List.length_nil, List.length_append, List.length_map, List.length_set, List.getElem?_cons_zero, List.getElem?_cons_succ, List.getElem?_nil, List.nil_append, List.cons_append, List.append_nil, List.drop_zero, List.drop_succ_cons, List.drop_nil, List.take_succ_cons, List.take_zero, List.take_nil, List.set_cons_zero, List.set_cons_succ, List.set_nil, List.headD_cons, List.map_cons, List.map_nil, Option.map_some, Option.map_none, Nat.le_refl, Nat.zero_le, Nat.add_zero, Nat.zero_add, and_self, IntKind.bits]
        refine call62 (i := 1) (j := 2) (by decide) rfl rfl (by have := hin.2.2.2; omega) hin.1 ?_ ?_
        · simp only [hw, M_seq, M_reg, M_op, M_opg, M_ops_nil, M_nil, M_blk, M_scp, M_skip, M_label, M_block, M_scope, M_ret, M_exit, M_cond, M_loop, M_draw, DM_nil, DM_op, DM_opg, dK_ok, dK_call, dK_pan, dK_read, dK_free, dgK_do, dgK_un, grdK_un, dgK_tf, dgK_ft, grdK_do, grdK_tf, grdK_ft, contK_ap, panK_ap, dCallK_ret, dCallK_pan, Chk_nil, Chk_cons, isE, isR, List.mem_cons, List.not_mem_nil, List.all_cons, List.all_nil, beq_self_eq_true, Bool.and_self, Bool.true_and, Bool.and_true, ne_eq, or_false, false_or, or_true, true_or, exitK_some, exitK_none, unw_blk, unw_code, unw_ops, unw_scp, unw_nil, okD_some, okD_none, evO, ev_t, ev_k, get_mk, put_mk, look, putD_some, putD_none, binA, binI, orBad, opK_ok, opK_call, opK_pan, opK_bad, CallK_ret, CallK_pan, cndK_true, cndK_false, pickA, cellsOf, cellsAt, asVal, storeA, splice, litCells, fillA, eqB, eqP, eqS, eqCell, eqCells, intOr, sliceA, appA, elemsA, pures, pureV, argl, resVs, resV, asRes, Nat.reduceEqDiff, Nat.reduceLT, Nat.reduceLeDiff, Nat.reduceAdd, Nat.reduceSub, Nat.reduceMul, reduceIte, reduceCtorEq, true_and, and_true, Bool.false_eq_true, Bool.true_eq_false, Bool.not_true, Bool.not_false, forall_const, forall_eq, imp_false, not_true_eq_false, not_false_eq_true, decide_true, decide_false, cond_true, cond_false, Int.toNat_natCast, Int.natCast_nonneg, List.length_cons, List.length_nil, List.length_append, List.length_map, List.length_set, List.getElem?_cons_zero, List.getElem?_cons_succ, List.getElem?_nil, List.nil_append, List.cons_append, List.append_nil, List.drop_zero, List.drop_succ_cons, List.drop_nil, List.take_succ_cons, List.take_zero, List.take_nil, List.set_cons_zero, List.set_cons_succ, List.set_nil, List.headD_cons, List.map_cons, List.map_nil, Option.map_some, Option.map_none, Nat.le_refl, Nat.zero_le, Nat.add_zero, Nat.zero_add, and_self, IntKind.bits]
          rw [← hQ]
          refine ⟨_, G34 [.vec c' (ys.map eSpan), .bool true] (stX true ys o x), Ref.to (Ref.trans (Ref.pick [15, 14, 13, 6, 5, 3]) (Ref.sel [0, 1, 2] (by decide) (fun k hk => absurd hk (Nat.not_lt_zero _)))) rfl ?_, Nat.zero_le _, ?_⟩
          · simp only [selH, List.map_cons, List.map_nil, List.getD_cons_zero, List.getD_cons_succ, mem_sub_spans]
            rfl
          · simp only [ouB]
            exact ih (i + 1) _ (by omega) (by have := hst.2; omega) hst.1
        · simp only [hw, M_seq, M_reg, M_op, M_opg, M_ops_nil, M_nil, M_blk, M_scp, M_skip, M_label, M_block, M_scope, M_ret, M_exit, M_cond, M_loop, M_draw, DM_nil, DM_op, DM_opg, dK_ok, dK_call, dK_pan, dK_read, dK_free, dgK_do, dgK_un, grdK_un, dgK_tf, dgK_ft, grdK_do, grdK_tf, grdK_ft, contK_ap, panK_ap, dCallK_ret, dCallK_pan, Chk_nil, Chk_cons, isE, isR, List.mem_cons, List.not_mem_nil, List.all_cons, List.all_nil, beq_self_eq_true, Bool.and_self, Bool.true_and, Bool.and_true, ne_eq, or_false, false_or, or_true, true_or, exitK_some, exitK_none, unw_blk, unw_code, unw_ops, unw_scp, unw_nil, okD_some, okD_none, evO, ev_t, ev_k, get_mk, put_mk, look, putD_some, putD_none, binA, binI, orBad, opK_ok, opK_call, opK_pan, opK_bad, CallK_ret, CallK_pan, cndK_true, cndK_false, pickA, cellsOf, cellsAt, asVal, storeA, splice, litCells, fillA, eqB, eqP, eqS, eqCell, eqCells, intOr, sliceA, appA, elemsA, pures, pureV, argl, resVs, resV, asRes, Nat.reduceEqDiff, Nat.reduceLT, Nat.reduceLeDiff, Nat.reduceAdd, Nat.reduceSub, Nat.reduceMul, reduceIte, reduceCtorEq, true_and, and_true, Bool.false_eq_true, Bool.true_eq_false, Bool.not_true, Bool.not_false, forall_const, forall_eq, imp_false, not_true_eq_false, not_false_eq_true, decide_true, decide_false, cond_true, cond_false, Int.toNat_natCast, Int.natCast_nonneg, List.length_cons, List.length_nil, List.length_append, List.length_map, List.length_set, List.getElem?_cons_zero, List.getElem?_cons_succ, List.getElem?_nil, List.nil_append, List.cons_append, List.append_nil, List.drop_zero, List.drop_succ_cons, List.drop_nil, List.take_succ_cons, List.take_zero, List.take_nil, List.set_cons_zero, List.set_cons_succ, List.set_nil, List.headD_cons, List.map_cons, List.map_nil, Option.map_some, Option.map_none, Nat.le_refl, Nat.zero_le, Nat.add_zero, Nat.zero_add, and_self, IntKind.bits]
          rw [← hQ]
          refine ⟨_, G34 [.vec c' (ys.map eSpan), .bool true] (stX true ys o x), Ref.to (Ref.trans (Ref.pick [15, 14, 13, 6, 5, 3]) (Ref.sel [0, 1, 4] (by decide) (fun k hk => absurd hk (Nat.not_lt_zero _)))) rfl ?_, Nat.zero_le _, ?_⟩
          · simp only [selH, List.map_cons, List.map_nil, List.getD_cons_zero, List.getD_cons_succ, mem_sub_spans]
            rfl
          · simp only [ouB]
            exact ih (i + 1) _ (by omega) (by have := hst.2; omega) hst.1
      | false =>
        simp only [LoopK, H34, hw, M_seq, M_reg, M_op, M_opg, M_ops_nil, M_nil, M_blk, M_scp, M_skip, M_label, M_block, M_scope, M_ret, M_exit, M_cond, M_loop, M_draw, DM_nil, DM_op, DM_opg, dK_ok, dK_call, dK_pan, dK_read, dK_free, dgK_do, dgK_un, grdK_un, dgK_tf, dgK_ft, grdK_do, grdK_tf, grdK_ft, contK_ap, panK_ap, dCallK_ret, dCallK_pan, Chk_nil, Chk_cons, isE, isR, List.mem_cons, List.not_mem_nil, List.all_cons, List.all_nil, beq_self_eq_true, Bool.and_self, Bool.true_and, Bool.and_true, ne_eq, or_false, false_or, or_true, true_or, exitK_some, exitK_none, unw_blk, unw_code, unw_ops, unw_scp, unw_nil, okD_some, okD_none, evO, ev_t, ev_k, get_mk, put_mk, look, putD_some, putD_none, binA, binI, orBad, opK_ok, opK_call, opK_pan, opK_bad, CallK_ret, CallK_pan, cndK_true, cndK_false, pickA, cellsOf, cellsAt, asVal, storeA, splice, litCells, fillA, eqB, eqP, eqS, eqCell, eqCells, intOr, sliceA, appA, elemsA, pures, pureV, argl, resVs, resV, asRes, Nat.reduceEqDiff, Nat.reduceLT, Nat.reduceLeDiff, Nat.reduceAdd, Nat.reduceSub, Nat.reduceMul, reduceIte, reduceCtorEq, true_and, and_true, Bool.false_eq_true, Bool.true_eq_false, Bool.not_true, Bool.not_false, forall_const, forall_eq, imp_false, not_true_eq_false, not_false_eq_true, decide_true, decide_false, cond_true, cond_false, Int.toNat_natCast, Int.natCast_nonneg, List.length_cons, List.length_nil, List.length_append, List.length_map, List.length_set, List.getElem?_cons_zero, List.getElem?_cons_succ, List.getElem?_nil, List.nil_append, List.cons_append, List.append_nil, List.drop_zero, List.drop_succ_cons, List.drop_nil, List.take_succ_cons, List.take_zero, List.take_nil, List.set_cons_zero, List.set_cons_succ, List.set_nil, List.headD_cons, List.map_cons, List.map_nil, Option.map_some, Option.map_none, Nat.le_refl, Nat.zero_le, Nat.add_zero, Nat.zero_add, and_self, IntKind.bits]
        rw [← hQ]
        refine ⟨_, G34 [.vec c' (ys.map eSpan), .bool false] (stX false ys o x), Ref.to (Ref.trans (Ref.pick [15, 14, 13, 6, 5, 3]) (Ref.sel [0, 1, 2] (by decide) (fun k hk => absurd hk (Nat.not_lt_zero _)))) rfl ?_, Nat.zero_le _, ?_⟩
        · simp only [selH, List.map_cons, List.map_nil, List.getD_cons_zero, List.getD_cons_succ, mem_sub_spans]
          rfl
        · simp only [ouB]
          exact ih (i + 1) _ (by omega) (by have := hst.2; omega) hst.1
    · exact he.elim

theorem spec34 (c c' nt : Bool) (l ys : List Span) (hx : ∀ x ∈ l, okS x) (hy : ∀ y ∈ ys, okS y) (hl : l.length ≤ 5000) (hm : ys.length ≤ 5000) : ACalls Go.Proofs.Try.prog 34 [.vec c (l.map eSpan), .agg [.vec c' (ys.map eSpan), .bool nt]] [] (fun e H => H = [] ∧ e = .ret (.vec false ((ouB nt ys l []).map eSpan))) := by
  refine ACalls.go Go.Proofs.Try.func34 n34 a34 Go.Proofs.Try.ntmps34 r34 (by simp) ?_
  generalize hQ : bodyA _ _ _ = QQ
  simp only [A34, M_seq, M_reg, M_op, M_opg, M_ops_nil, M_nil, M_blk, M_scp, M_skip, M_label, M_block, M_scope, M_ret, M_exit, M_cond, M_loop, M_draw, DM_nil, DM_op, DM_opg, dK_ok, dK_call, dK_pan, dK_read, dK_free, dgK_do, dgK_un, grdK_un, dgK_tf, dgK_ft, grdK_do, grdK_tf, grdK_ft, contK_ap, panK_ap, dCallK_ret, dCallK_pan, Chk_nil, Chk_cons, isE, isR, List.mem_cons, List.not_mem_nil, List.all_cons, List.all_nil, beq_self_eq_true, Bool.and_self, Bool.true_and, Bool.and_true, ne_eq, or_false, false_or, or_true, true_or, exitK_some, exitK_none, unw_blk, unw_code, unw_ops, unw_scp, unw_nil, okD_some, okD_none, evO, ev_t, ev_k, get_mk, put_mk, look, putD_some, putD_none, binA, binI, orBad, opK_ok, opK_call, opK_pan, opK_bad, CallK_ret, CallK_pan, cndK_true, cndK_false, pickA, cellsOf, cellsAt, asVal, storeA, splice, litCells, fillA, eqB, eqP, eqS, eqCell, eqCells, intOr, sliceA, appA, elemsA, pures, pureV, argl, resVs, resV, asRes, Nat.reduceEqDiff, Nat.reduceLT, Nat.reduceLeDiff, Nat.reduceAdd, Nat.reduceSub, Nat.reduceMul, reduceIte, reduceCtorEq, true_and, and_true, Bool.false_eq_true, Bool.true_eq_false, Bool.not_true, Bool.not_false, forall_const, forall_eq, imp_false, not_true_eq_false, not_false_eq_true, decide_true, decide_false, cond_true, cond_false, Int.toNat_natCast, Int.natCast_nonneg, List.length_cons, List.length_nil, List.length_append, List.length_map, List.length_set, List.getElem?_cons_zero, List.getElem?_cons_succ, List.getElem?_nil, List.nil_append, List.cons_append, List.append_nil, List.drop_zero, List.drop_succ_cons, List.drop_nil, List.take_succ_cons, List.take_zero, List.take_nil, List.set_cons_zero, List.set_cons_succ, List.set_nil, List.headD_cons, List.map_cons, List.map_nil, Option.map_some, Option.map_none, Nat.le_refl, Nat.zero_le, Nat.add_zero, Nat.zero_add, and_self, IntKind.bits]
  refine ALp.ref (Ref.trans (Ref.pick [15, 14, 13, 6, 5, 3]) (Ref.thawB (Nat.zero_le _) (id := 1) 0 rfl rfl (by decide : 0 < 2) 38)) (Nat.zero_le _) ?_
  refine ALp.mono (loopO34 c c' nt l ys hx hy hl hm l.length 0 [] (by omega) (by simp) (by simp [okO])) ?_
  intro e ta H he
  split at he
  · obtain ⟨rfl, rfl⟩ := he
    simp only [List.drop_zero, LoopK, G34, M_seq, M_reg, M_op, M_opg, M_ops_nil, M_nil, M_blk, M_scp, M_skip, M_label, M_block, M_scope, M_ret, M_exit, M_cond, M_loop, M_draw, DM_nil, DM_op, DM_opg, dK_ok, dK_call, dK_pan, dK_read, dK_free, dgK_do, dgK_un, grdK_un, dgK_tf, dgK_ft, grdK_do, grdK_tf, grdK_ft, contK_ap, panK_ap, dCallK_ret, dCallK_pan, Chk_nil, Chk_cons, isE, isR, List.mem_cons, List.not_mem_nil, List.all_cons, List.all_nil, beq_self_eq_true, Bool.and_self, Bool.true_and, Bool.and_true, ne_eq, or_false, false_or, or_true, true_or, exitK_some, exitK_none, unw_blk, unw_code, unw_ops, unw_scp, unw_nil, okD_some, okD_none, evO, ev_t, ev_k, get_mk, put_mk, look, putD_some, putD_none, binA, binI, orBad, opK_ok, opK_call, opK_pan, opK_bad, CallK_ret, CallK_pan, cndK_true, cndK_false, pickA, cellsOf, cellsAt, asVal, storeA, splice, litCells, fillA, eqB, eqP, eqS, eqCell, eqCells, intOr, sliceA, appA, elemsA, pures, pureV, argl, resVs, resV, asRes, Nat.reduceEqDiff, Nat.reduceLT, Nat.reduceLeDiff, Nat.reduceAdd, Nat.reduceSub, Nat.reduceMul, reduceIte, reduceCtorEq, true_and, and_true, Bool.false_eq_true, Bool.true_eq_false, Bool.not_true, Bool.not_false, forall_const, forall_eq, imp_false, not_true_eq_false, not_false_eq_true, decide_true, decide_false, cond_true, cond_false, Int.toNat_natCast, Int.natCast_nonneg, List.length_cons, List.length_nil, List.length_append, List.length_map, List.length_set, List.getElem?_cons_zero, List.getElem?_cons_succ, List.getElem?_nil, List.nil_append, List.cons_append, List.append_nil, List.drop_zero, List.drop_succ_cons, List.drop_nil, List.take_succ_cons, List.take_zero, List.take_nil, List.set_cons_zero, List.set_cons_succ, List.set_nil, List.headD_cons, List.map_cons, List.map_nil, Option.map_some, Option.map_none, Nat.le_refl, Nat.zero_le, Nat.add_zero, Nat.zero_add, and_self, IntKind.bits]
    rw [← hQ]
    have hp : ∀ el ∈ (ouB nt ys l []).map eSpan, pures el = true := by
      intro el hel
      obtain ⟨x, _, rfl⟩ := List.mem_map.1 hel
      rfl
    refine ⟨rfl, _, rfl, _, _, RefV.trans (RefV.frz (Nat.zero_le _) (id := 2) rfl hp) (RefV.cut 0 (Nat.le_refl _) (Nat.zero_le _)), rfl, ?_⟩
    have ht : ((ouB nt ys l []).map eSpan).take (ouB nt ys l []).length = (ouB nt ys l []).map eSpan := List.take_of_length_le (by simp)
    simp only [asRes, get_mk, look, if_true, subs, AV.sub, frzS, cutS, List.drop_zero, ht, List.length_map, Nat.zero_add, Nat.le_refl]
  · exact he.elim
end Go.Proofs.Ytakplhfiohjcmaa.AI
