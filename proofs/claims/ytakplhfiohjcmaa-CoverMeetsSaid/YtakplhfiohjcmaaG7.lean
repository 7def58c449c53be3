/- Contracts of layer 10: With. -/
import Derived.Test.YtakplhfiohjcmaaG6
set_option linter.unusedVariables false
set_option linter.unusedSimpArgs false
set_option maxRecDepth 100000
namespace Go.Proofs.Ytakplhfiohjcmaa.AI
open Go.Proofs (Try.prog)
theorem Ref.to {n0 : Nat} {ta ta1 ta2 : ATm} {H H1 H2 : List AObj} (h : Ref n0 ta H ta1 H1) (e : ta1 = ta2) (e' : H1 = H2) : Ref n0 ta H ta2 H2 := by
  subst e; subst e'; exact h
theorem jn_len (l : List Span) (s : Span) : (jn l s).length ≤ l.length + 1 := by
  unfold jn
  split
  · simp
  · split <;> simp
theorem jn_b {l : List Span} {s : Span} (h : ∀ x ∈ l, 0 ≤ x.b ∧ x.b ≤ 65535) (hs : 0 ≤ s.b ∧ s.b ≤ 65535) : ∀ x ∈ jn l s, 0 ≤ x.b ∧ x.b ≤ 65535 := by
  intro x hx
  unfold jn at hx
  split at hx
  · simp at hx; subst hx; exact hs
  · split at hx
    · rcases List.mem_append.1 hx with hx | hx
      · exact h x (List.dropLast_subset l hx)
      · simp at hx; subst hx; exact hs
    · rcases List.mem_append.1 hx with hx | hx
      · exact h x hx
      · simp at hx; subst hx; exact hs
theorem mem_sub_spans (S : Sub) (l : List Span) (t : TypeId) : (AObj.mem 2 (l.map eSpan) t).sub S = .mem 2 (l.map eSpan) t := by
  simp only [AObj.sub, subs_spans]
/-- joined, called at any memory. -/
theorem call61 {o : List Span} {s : Span} {H : List AObj} {j : Nat} (hj : H[j]? = some (.mem 2 (o.map eSpan) 38)) (hl : o.length ≤ 1000000000000) (hb : ∀ x ∈ o, 0 ≤ x.b ∧ x.b ≤ 65535) {Q : AEnd → List AObj → Prop}
    (h1 : Q (.ret (.row j 0 (jn o s).length)) (H.set j (.mem 2 ((jn o s).map eSpan) 38))) (h2 : Q (.ret (.row H.length 0 (jn o s).length)) (H.set j .dead ++ [.mem 2 ((jn o s).map eSpan) 38])) :
    ACalls Go.Proofs.Try.prog 61 [.row j 0 o.length, .agg [.int .i64 s.a, .int .i64 s.b]] H Q := by
  refine ACalls.at (spec61 o s hl hb) [j] H (by simp) rfl ?_ rfl ?_
  · intro i j' o' hi ho
    cases i with
    | zero =>
      simp only [List.getElem?_cons_zero, Option.some.injEq] at hi ho
      subst hi; subst ho
      rw [mem_sub_spans]; exact hj
    | succ i => simp at hi
  · rintro ae Hs (⟨rfl, rfl⟩ | ⟨rfl, rfl⟩)
    · have e : merge [j] H ([AObj.mem 2 ((jn o s).map eSpan) 38].map (AObj.sub (renS [j] H.length))) = H.set j (.mem 2 ((jn o s).map eSpan) 38) := by
        simp only [List.map_cons, List.map_nil, mem_sub_spans, merge, back, List.length_singleton]
        simp
      rw [e]; exact h1
    · have e : merge [j] H ([AObj.dead, AObj.mem 2 ((jn o s).map eSpan) 38].map (AObj.sub (renS [j] H.length))) = H.set j .dead ++ [.mem 2 ((jn o s).map eSpan) 38] := by
        simp only [List.map_cons, List.map_nil, mem_sub_spans, merge, back, List.length_singleton]
        simp [AObj.sub]
      rw [e]; exact h2
/-- The spans of a class. -/
def wth (k : Int) : List Cls → List Span → List Span
  | [], o => o
  | c :: r, o => wth k r (if k = 0 ∨ c.c = k then jn o ⟨c.a, c.b⟩ else o)
def body33 : ACode := match A33 with
  | .seq _ (.seq _ (.seq (.seq _ (.block _ (.loop b))) _)) => b
  | _ => .skip
def H33 (nt : Bool) (o : List Span) : List AObj := [.box [.vec true [], .bool false] 36, .box [.row 2 0 o.length, .bool nt] 36, .mem 2 (o.map eSpan) 38]
theorem loop33 (c nt : Bool) (k : Int) (l : List Cls) (hl : l.length ≤ 5000) (hr : ∀ x ∈ l, 0 ≤ x.b ∧ x.b ≤ 65535) : ∀ (d i : Nat) (o : List Span), i + d = l.length → o.length ≤ i → (∀ x ∈ o, 0 ≤ x.b ∧ x.b ≤ 65535) →
    ALp Go.Proofs.Try.prog 0 body33 ⟨36, [(13, .int .i64 i), (12, .int .i64 l.length), (11, .vec c (l.map eCls)), (5, .ptr 1 0 0), (4, .ptr 0 0 0), (1, .int .i64 k)], []⟩ (H33 nt o) (fun e ta H => match e with
      | .exit 0 => H = H33 nt (wth k (l.drop i) o) ∧ ta = ⟨36, [(5, .ptr 1 0 0), (4, .ptr 0 0 0)], []⟩
      | _ => False) := by
  intro d
  induction d with
  | zero =>
    intro i o hi ho hb
    refine ALp.round ?_
    generalize hQ : RoundQ _ _ _ _ = QQ
    have h1 : ¬ (i : Int) < (l.length : Int) := by omega
    simp only [body33, A33, H33, h1, M_seq, M_reg, M_op, M_opg, M_ops_nil, M_nil, M_blk, M_scp, M_skip, M_label, M_block, M_scope, M_ret, M_exit, M_cond, M_loop, M_draw, DM_nil, DM_op, DM_opg, dK_ok, dK_call, dK_pan, dK_read, dK_free, dgK_do, dgK_un, grdK_un, dgK_tf, dgK_ft, grdK_do, grdK_tf, grdK_ft, contK_ap, panK_ap, dCallK_ret, dCallK_pan, Chk_nil, Chk_cons, isE, isR, List.mem_cons, List.not_mem_nil, List.all_cons, List.all_nil, beq_self_eq_true, Bool.and_self, Bool.true_and, Bool.and_true, ne_eq, or_false, false_or, or_true, true_or, exitK_some, exitK_none, unw_blk, unw_code, unw_ops, unw_scp, unw_nil, okD_some, okD_none, evO, ev_t, ev_k, get_mk, put_mk, look, putD_some, putD_none, binA, binI, orBad, opK_ok, opK_call, opK_pan, opK_bad, CallK_ret, CallK_pan, cndK_true, cndK_false, pickA, cellsOf, cellsAt, asVal, storeA, splice, litCells, fillA, eqB, eqP, eqS, eqCell, eqCells, intOr, sliceA, appA, elemsA, pures, pureV, argl, resVs, resV, asRes, Nat.reduceEqDiff, Nat.reduceLT, Nat.reduceLeDiff, Nat.reduceAdd, Nat.reduceSub, Nat.reduceMul, reduceIte, reduceCtorEq, true_and, and_true, Bool.false_eq_true, Bool.true_eq_false, Bool.not_true, Bool.not_false, forall_const, forall_eq, imp_false, not_true_eq_false, not_false_eq_true, decide_true, decide_false, cond_true, cond_false, Int.toNat_natCast, Int.natCast_nonneg, List.length_cons, List.length_nil, List.length_append, List.length_map, List.length_set, List.getElem?_cons_zero, List.getElem?_cons_succ, List.getElem?_nil, List.nil_append, List.cons_append, List.append_nil, List.drop_zero, List.drop_succ_cons, List.drop_nil, List.take_succ_cons, List.take_zero, List.take_nil, List.set_cons_zero, List.set_cons_succ, List.set_nil, List.headD_cons, List.map_cons, List.map_nil, Option.map_some, Option.map_none, Nat.le_refl, Nat.zero_le, Nat.add_zero, Nat.zero_add, and_self, IntKind.bits]
    rw [← hQ]
    refine ⟨_, _, Ref.pick [5, 4], ?_, rfl⟩
    rw [List.drop_eq_nil_of_le (by omega)]
    rfl
  | succ d ih =>
    intro i o hi ho hb
    refine ALp.round ?_
    obtain ⟨s, hs, hd⟩ := drop_cons hi
    rw [hd]
    generalize hQ : RoundQ _ _ _ _ = QQ
    have hx : (l.map eCls)[i]? = some [.int .i64 s.a, .int .i64 s.b, .int .i64 s.c] := map_at eCls hs
    have h1 : (i : Int) < (l.length : Int) := by omega
    have hw := wrapS i (by omega)
    have hsb := hr s (List.mem_of_getElem? hs)
    by_cases h2 : k = 0 ∨ s.c = k
    · rcases Decidable.em (k = 0) with h3 | h3
      · have d3 : decide (k = 0) = true := decide_eq_true h3
        simp only [body33, A33, H33, h1, hx, d3, M_seq, M_reg, M_op, M_opg, M_ops_nil, M_nil, M_blk, M_scp, M_skip, M_label, M_block, M_scope, M_ret, M_exit, M_cond, M_loop, M_draw, DM_nil, DM_op, DM_opg, dK_ok, dK_call, dK_pan, dK_read, dK_free, dgK_do, dgK_un, grdK_un, dgK_tf, dgK_ft, grdK_do, grdK_tf, grdK_ft, contK_ap, panK_ap, dCallK_ret, dCallK_pan, Chk_nil, Chk_cons, isE, isR, List.mem_cons, List.not_mem_nil, List.all_cons, List.all_nil, beq_self_eq_true, Bool.and_self, Bool.true_and, Bool.and_true, ne_eq, or_false, false_or, or_true, true_or, exitK_some, exitK_none, unw_blk, unw_code, unw_ops, unw_scp, unw_nil, okD_some, okD_none, evO, ev_t, ev_k, get_mk, put_mk, look, putD_some, putD_none, binA, binI, orBad, opK_ok, opK_call, opK_pan, opK_bad, CallK_ret, CallK_pan, cndK_true, cndK_false, pickA, cellsOf, cellsAt, asVal, storeA, splice, litCells, fillA, eqB, eqP, eqS, eqCell, eqCells, intOr, sliceA, appA, elemsA, pures, pureV, argl, resVs, resV, asRes, Nat.reduceEqDiff, Nat.reduceLT, Nat.reduceLeDiff, Nat.reduceAdd, Nat.reduceSub, Nat.reduceMul, reduceIte, reduceCtorEq, true_and, and_true, Bool.false_eq_true, Bool.true_eq_false, Bool.not_true, Bool.not_false, forall_const, forall_eq, imp_false, not_true_eq_false, not_false_eq_true, decide_true, decide_false, cond_true, cond_false, Int.toNat_natCast, Int.natCast_nonneg, List.length_cons, List.length_nil, List.length_append, List.length_map, List.length_set, List.getElem?_cons_zero, List.getElem?_cons_succ, List.getElem?_nil, List.nil_append, List.cons_append, List.append_nil, List.drop_zero, List.drop_succ_cons, List.drop_nil, List.take_succ_cons, List.take_zero, List.take_nil, List.set_cons_zero, List.set_cons_succ, List.set_nil, List.headD_cons, List.map_cons, List.map_nil, Option.map_some, Option.map_none, Nat.le_refl, Nat.zero_le, Nat.add_zero, Nat.zero_add, and_self, IntKind.bits]
        refine call61 (s := ⟨s.a, s.b⟩) rfl (by omega) hb ?_ ?_
        · simp only [hw, M_seq, M_reg, M_op, M_opg, M_ops_nil, M_nil, M_blk, M_scp, M_skip, M_label, M_block, M_scope, M_ret, M_exit, M_cond, M_loop, M_draw, DM_nil, DM_op, DM_opg, dK_ok, dK_call, dK_pan, dK_read, dK_free, dgK_do, dgK_un, grdK_un, dgK_tf, dgK_ft, grdK_do, grdK_tf, grdK_ft, contK_ap, panK_ap, dCallK_ret, dCallK_pan, Chk_nil, Chk_cons, isE, isR, List.mem_cons, List.not_mem_nil, List.all_cons, List.all_nil, beq_self_eq_true, Bool.and_self, Bool.true_and, Bool.and_true, ne_eq, or_false, false_or, or_true, true_or, exitK_some, exitK_none, unw_blk, unw_code, unw_ops, unw_scp, unw_nil, okD_some, okD_none, evO, ev_t, ev_k, get_mk, put_mk, look, putD_some, putD_none, binA, binI, orBad, opK_ok, opK_call, opK_pan, opK_bad, CallK_ret, CallK_pan, cndK_true, cndK_false, pickA, cellsOf, cellsAt, asVal, storeA, splice, litCells, fillA, eqB, eqP, eqS, eqCell, eqCells, intOr, sliceA, appA, elemsA, pures, pureV, argl, resVs, resV, asRes, Nat.reduceEqDiff, Nat.reduceLT, Nat.reduceLeDiff, Nat.reduceAdd, Nat.reduceSub, Nat.reduceMul, reduceIte, reduceCtorEq, true_and, and_true, Bool.false_eq_true, Bool.true_eq_false, Bool.not_true, Bool.not_false, forall_const, forall_eq, imp_false, not_true_eq_false, not_false_eq_true, decide_true, decide_false, cond_true, cond_false, Int.toNat_natCast, Int.natCast_nonneg, List.length_cons, List.length_nil, List.length_append, List.length_map, List.length_set, List.getElem?_cons_zero, List.getElem?_cons_succ, List.getElem?_nil, List.nil_append, List.cons_append, List.append_nil, List.drop_zero, List.drop_succ_cons, List.drop_nil, List.take_succ_cons, List.take_zero, List.take_nil, List.set_cons_zero, List.set_cons_succ, List.set_nil, List.headD_cons, List.map_cons, List.map_nil, Option.map_some, Option.map_none, Nat.le_refl, Nat.zero_le, Nat.add_zero, Nat.zero_add, and_self, IntKind.bits]
          rw [← hQ]
          refine ⟨_, H33 nt (jn o ⟨s.a, s.b⟩), Ref.to (Ref.trans (Ref.pick [13, 12, 11, 5, 4, 1]) (Ref.sel [0, 1, 2] (by decide) (fun k hk => absurd hk (Nat.not_lt_zero _)))) rfl ?_, Nat.zero_le _, ?_⟩
          · simp only [selH, List.map_cons, List.map_nil, List.getD_cons_zero, List.getD_cons_succ, mem_sub_spans]
            rfl
          · simp only [wth]
            rw [if_pos h2]
            exact ih (i + 1) _ (by omega) (by have := jn_len o ⟨s.a, s.b⟩; omega) (jn_b hb hsb)
        · simp only [hw, M_seq, M_reg, M_op, M_opg, M_ops_nil, M_nil, M_blk, M_scp, M_skip, M_label, M_block, M_scope, M_ret, M_exit, M_cond, M_loop, M_draw, DM_nil, DM_op, DM_opg, dK_ok, dK_call, dK_pan, dK_read, dK_free, dgK_do, dgK_un, grdK_un, dgK_tf, dgK_ft, grdK_do, grdK_tf, grdK_ft, contK_ap, panK_ap, dCallK_ret, dCallK_pan, Chk_nil, Chk_cons, isE, isR, List.mem_cons, List.not_mem_nil, List.all_cons, List.all_nil, beq_self_eq_true, Bool.and_self, Bool.true_and, Bool.and_true, ne_eq, or_false, false_or, or_true, true_or, exitK_some, exitK_none, unw_blk, unw_code, unw_ops, unw_scp, unw_nil, okD_some, okD_none, evO, ev_t, ev_k, get_mk, put_mk, look, putD_some, putD_none, binA, binI, orBad, opK_ok, opK_call, opK_pan, opK_bad, CallK_ret, CallK_pan, cndK_true, cndK_false, pickA, cellsOf, cellsAt, asVal, storeA, splice, litCells, fillA, eqB, eqP, eqS, eqCell, eqCells, intOr, sliceA, appA, elemsA, pures, pureV, argl, resVs, resV, asRes, Nat.reduceEqDiff, Nat.reduceLT, Nat.reduceLeDiff, Nat.reduceAdd, Nat.reduceSub, Nat.reduceMul, reduceIte, reduceCtorEq, true_and, and_true, Bool.false_eq_true, Bool.true_eq_false, Bool.not_true, Bool.not_false, forall_const, forall_eq, imp_false, not_true_eq_false, not_false_eq_true, decide_true, decide_false, cond_true, cond_false, Int.toNat_natCast, Int.natCast_nonneg, List.length_cons, List.length_nil, List.length_append, List.length_map, List.length_set, List.getElem?_cons_zero, List.getElem?_cons_succ, List.getElem?_nil, List.nil_append, List.cons_append, List.append_nil, List.drop_zero, List.drop_succ_cons, List.drop_nil, List.take_succ_cons, List.take_zero, List.take_nil, List.set_cons_zero, List.set_cons_succ, List.set_nil, List.headD_cons, List.map_cons, List.map_nil, Option.map_some, Option.map_none, Nat.le_refl, Nat.zero_le, Nat.add_zero, Nat.zero_add, and_self, IntKind.bits]
          rw [← hQ]
          refine ⟨_, H33 nt (jn o ⟨s.a, s.b⟩), Ref.to (Ref.trans (Ref.pick [13, 12, 11, 5, 4, 1]) (Ref.sel [0, 1, 4] (by decide) (fun k hk => absurd hk (Nat.not_lt_zero _)))) rfl ?_, Nat.zero_le _, ?_⟩
          · simp only [selH, List.map_cons, List.map_nil, List.getD_cons_zero, List.getD_cons_succ, mem_sub_spans]
            rfl
          · simp only [wth]
            rw [if_pos h2]
            exact ih (i + 1) _ (by omega) (by have := jn_len o ⟨s.a, s.b⟩; omega) (jn_b hb hsb)
      · have h4 : s.c = k := h2.resolve_left h3
        have d4 : decide (s.c = k) = true := decide_eq_true h4
        simp only [body33, A33, H33, h1, hx, h3, d4, M_seq, M_reg, M_op, M_opg, M_ops_nil, M_nil, M_blk, M_scp, M_skip, M_label, M_block, M_scope, M_ret, M_exit, M_cond, M_loop, M_draw, DM_nil, DM_op, DM_opg, dK_ok, dK_call, dK_pan, dK_read, dK_free, dgK_do, dgK_un, grdK_un, dgK_tf, dgK_ft, grdK_do, grdK_tf, grdK_ft, contK_ap, panK_ap, dCallK_ret, dCallK_pan, Chk_nil, Chk_cons, isE, isR, List.mem_cons, List.not_mem_nil, List.all_cons, List.all_nil, beq_self_eq_true, Bool.and_self, Bool.true_and, Bool.and_true, ne_eq, or_false, false_or, or_true, true_or, exitK_some, exitK_none, unw_blk, unw_code, unw_ops, unw_scp, unw_nil, okD_some, okD_none, evO, ev_t, ev_k, get_mk, put_mk, look, putD_some, putD_none, binA, binI, orBad, opK_ok, opK_call, opK_pan, opK_bad, CallK_ret, CallK_pan, cndK_true, cndK_false, pickA, cellsOf, cellsAt, asVal, storeA, splice, litCells, fillA, eqB, eqP, eqS, eqCell, eqCells, intOr, sliceA, appA, elemsA, pures, pureV, argl, resVs, resV, asRes, Nat.reduceEqDiff, Nat.reduceLT, Nat.reduceLeDiff, Nat.reduceAdd, Nat.reduceSub, Nat.reduceMul, reduceIte, reduceCtorEq, true_and, and_true, Bool.false_eq_true, Bool.true_eq_false, Bool.not_true, Bool.not_false, forall_const, forall_eq, imp_false, not_true_eq_false, not_false_eq_true, decide_true, decide_false, cond_true, cond_false, Int.toNat_natCast, Int.natCast_nonneg, List.length_cons, List.length_nil, List.length_append, List.length_map, List.length_set, List.getElem?_cons_zero, List.getElem?_cons_succ, List.getElem?_nil, List.nil_append, List.cons_append, List.append_nil, List.drop_zero, List.drop_succ_cons, List.drop_nil, List.take_succ_cons, List.take_zero, List.take_nil, List.set_cons_zero, List.set_cons_succ, List.set_nil, List.headD_cons, List.map_cons, List.map_nil, Option.map_some, Option.map_none, Nat.le_refl, Nat.zero_le, Nat.add_zero, Nat.zero_add, and_self, IntKind.bits]
        refine call61 (s := ⟨s.a, s.b⟩) rfl (by omega) hb ?_ ?_
        · simp only [hw, M_seq, M_reg, M_op, M_opg, M_ops_nil, M_nil, M_blk, M_scp, M_skip, M_label, M_block, M_scope, M_ret, M_exit, M_cond, M_loop, M_draw, DM_nil, DM_op, DM_opg, dK_ok, dK_call, dK_pan, dK_read, dK_free, dgK_do, dgK_un, grdK_un, dgK_tf, dgK_ft, grdK_do, grdK_tf, grdK_ft, contK_ap, panK_ap, dCallK_ret, dCallK_pan, Chk_nil, Chk_cons, isE, isR, List.mem_cons, List.not_mem_nil, List.all_cons, List.all_nil, beq_self_eq_true, Bool.and_self, Bool.true_and, Bool.and_true, ne_eq, or_false, false_or, or_true, true_or, exitK_some, exitK_none, unw_blk, unw_code, unw_ops, unw_scp, unw_nil, okD_some, okD_none, evO, ev_t, ev_k, get_mk, put_mk, look, putD_some, putD_none, binA, binI, orBad, opK_ok, opK_call, opK_pan, opK_bad, CallK_ret, CallK_pan, cndK_true, cndK_false, pickA, cellsOf, cellsAt, asVal, storeA, splice, litCells, fillA, eqB, eqP, eqS, eqCell, eqCells, intOr, sliceA, appA, elemsA, pures, pureV, argl, resVs, resV, asRes, Nat.reduceEqDiff, Nat.reduceLT, Nat.reduceLeDiff, Nat.reduceAdd, Nat.reduceSub, Nat.reduceMul, reduceIte, reduceCtorEq, true_and, and_true, Bool.false_eq_true, Bool.true_eq_false, Bool.not_true, Bool.not_false, forall_const, forall_eq, imp_false, not_true_eq_false, not_false_eq_true, decide_true, decide_false, cond_true, cond_false, Int.toNat_natCast, Int.natCast_nonneg, List.length_cons, List.length_nil, List.length_append, List.length_map, List.length_set, List.getElem?_cons_zero, List.getElem?_cons_succ, List.getElem?_nil, List.nil_append, List.cons_append, List.append_nil, List.drop_zero, List.drop_succ_cons, List.drop_nil, List.take_succ_cons, List.take_zero, List.take_nil, List.set_cons_zero, List.set_cons_succ, List.set_nil, List.headD_cons, List.map_cons, List.map_nil, Option.map_some, Option.map_none, Nat.le_refl, Nat.zero_le, Nat.add_zero, Nat.zero_add, and_self, IntKind.bits]
          rw [← hQ]
          refine ⟨_, H33 nt (jn o ⟨s.a, s.b⟩), Ref.to (Ref.trans (Ref.pick [13, 12, 11, 5, 4, 1]) (Ref.sel [0, 1, 2] (by decide) (fun k hk => absurd hk (Nat.not_lt_zero _)))) rfl ?_, Nat.zero_le _, ?_⟩
          · simp only [selH, List.map_cons, List.map_nil, List.getD_cons_zero, List.getD_cons_succ, mem_sub_spans]
            rfl
          · simp only [wth]
            rw [if_pos h2]
            exact ih (i + 1) _ (by omega) (by have := jn_len o ⟨s.a, s.b⟩; omega) (jn_b hb hsb)
        · simp only [hw, M_seq, M_reg, M_op, M_opg, M_ops_nil, M_nil, M_blk, M_scp, M_skip, M_label, M_block, M_scope, M_ret, M_exit, M_cond, M_loop, M_draw, DM_nil, DM_op, DM_opg, dK_ok, dK_call, dK_pan, dK_read, dK_free, dgK_do, dgK_un, grdK_un, dgK_tf, dgK_ft, grdK_do, grdK_tf, grdK_ft, contK_ap, panK_ap, dCallK_ret, dCallK_pan, Chk_nil, Chk_cons, isE, isR, List.mem_cons, List.not_mem_nil, List.all_cons, List.all_nil, beq_self_eq_true, Bool.and_self, Bool.true_and, Bool.and_true, ne_eq, or_false, false_or, or_true, true_or, exitK_some, exitK_none, unw_blk, unw_code, unw_ops, unw_scp, unw_nil, okD_some, okD_none, evO, ev_t, ev_k, get_mk, put_mk, look, putD_some, putD_none, binA, binI, orBad, opK_ok, opK_call, opK_pan, opK_bad, CallK_ret, CallK_pan, cndK_true, cndK_false, pickA, cellsOf, cellsAt, asVal, storeA, splice, litCells, fillA, eqB, eqP, eqS, eqCell, eqCells, intOr, sliceA, appA, elemsA, pures, pureV, argl, resVs, resV, asRes, Nat.reduceEqDiff, Nat.reduceLT, Nat.reduceLeDiff, Nat.reduceAdd, Nat.reduceSub, Nat.reduceMul, reduceIte, reduceCtorEq, true_and, and_true, Bool.false_eq_true, Bool.true_eq_false, Bool.not_true, Bool.not_false, forall_const, forall_eq, imp_false, not_true_eq_false, not_false_eq_true, decide_true, decide_false, cond_true, cond_false, Int.toNat_natCast, Int.natCast_nonneg, List.length_cons, List.length_nil, List.length_append, List.length_map, List.length_set, List.getElem?_cons_zero, List.getElem?_cons_succ, List.getElem?_nil, List.nil_append, List.cons_append, List.append_nil, List.drop_zero, List.drop_succ_cons, List.drop_nil, List.take_succ_cons, List.take_zero, List.take_nil, List.set_cons_zero, List.set_cons_succ, List.set_nil, List.headD_cons, List.map_cons, List.map_nil, Option.map_some, Option.map_none, Nat.le_refl, Nat.zero_le, Nat.add_zero, Nat.zero_add, and_self, IntKind.bits]
          rw [← hQ]
          refine ⟨_, H33 nt (jn o ⟨s.a, s.b⟩), Ref.to (Ref.trans (Ref.pick [13, 12, 11, 5, 4, 1]) (Ref.sel [0, 1, 4] (by decide) (fun k hk => absurd hk (Nat.not_lt_zero _)))) rfl ?_, Nat.zero_le _, ?_⟩
          · simp only [selH, List.map_cons, List.map_nil, List.getD_cons_zero, List.getD_cons_succ, mem_sub_spans]
            rfl
          · simp only [wth]
            rw [if_pos h2]
            exact ih (i + 1) _ (by omega) (by have := jn_len o ⟨s.a, s.b⟩; omega) (jn_b hb hsb)
    · have h3 : ¬ k = 0 := fun h => h2 (.inl h)
      have h4 : ¬ s.c = k := fun h => h2 (.inr h)
      simp only [body33, A33, H33, h1, hx, h3, h4, hw, M_seq, M_reg, M_op, M_opg, M_ops_nil, M_nil, M_blk, M_scp, M_skip, M_label, M_block, M_scope, M_ret, M_exit, M_cond, M_loop, M_draw, DM_nil, DM_op, DM_opg, dK_ok, dK_call, dK_pan, dK_read, dK_free, dgK_do, dgK_un, grdK_un, dgK_tf, dgK_ft, grdK_do, grdK_tf, grdK_ft, contK_ap, panK_ap, dCallK_ret, dCallK_pan, Chk_nil, Chk_cons, isE, isR, List.mem_cons, List.not_mem_nil, List.all_cons, List.all_nil, beq_self_eq_true, Bool.and_self, Bool.true_and, Bool.and_true, ne_eq, or_false, false_or, or_true, true_or, exitK_some, exitK_none, unw_blk, unw_code, unw_ops, unw_scp, unw_nil, okD_some, okD_none, evO, ev_t, ev_k, get_mk, put_mk, look, putD_some, putD_none, binA, binI, orBad, opK_ok, opK_call, opK_pan, opK_bad, CallK_ret, CallK_pan, cndK_true, cndK_false, pickA, cellsOf, cellsAt, asVal, storeA, splice, litCells, fillA, eqB, eqP, eqS, eqCell, eqCells, intOr, sliceA, appA, elemsA, pures, pureV, argl, resVs, resV, asRes, Nat.reduceEqDiff, Nat.reduceLT, Nat.reduceLeDiff, Nat.reduceAdd, Nat.reduceSub, Nat.reduceMul, reduceIte, reduceCtorEq, true_and, and_true, Bool.false_eq_true, Bool.true_eq_false, Bool.not_true, Bool.not_false, forall_const, forall_eq, imp_false, not_true_eq_false, not_false_eq_true, decide_true, decide_false, cond_true, cond_false, Int.toNat_natCast, Int.natCast_nonneg, List.length_cons, List.length_nil, List.length_append, List.length_map, List.length_set, List.getElem?_cons_zero, List.getElem?_cons_succ, List.getElem?_nil, List.nil_append, List.cons_append, List.append_nil, List.drop_zero, List.drop_succ_cons, List.drop_nil, List.take_succ_cons, List.take_zero, List.take_nil, List.set_cons_zero, List.set_cons_succ, List.set_nil, List.headD_cons, List.map_cons, List.map_nil, Option.map_some, Option.map_none, Nat.le_refl, Nat.zero_le, Nat.add_zero, Nat.zero_add, and_self, IntKind.bits]
      rw [← hQ]
      refine ⟨_, H33 nt o, Ref.to (Ref.trans (Ref.pick [13, 12, 11, 5, 4, 1]) (Ref.sel [0, 1, 2] (by decide) (fun k hk => absurd hk (Nat.not_lt_zero _)))) rfl ?_, Nat.zero_le _, ?_⟩
      · simp only [selH, List.map_cons, List.map_nil, List.getD_cons_zero, List.getD_cons_succ, mem_sub_spans]
        rfl
      · simp only [wth]
        rw [if_neg h2]
        exact ih (i + 1) _ (by omega) (by omega) hb

theorem spec33 (c : Bool) (k : Int) (l : List Cls) (hl : l.length ≤ 5000) (hr : ∀ x ∈ l, 0 ≤ x.b ∧ x.b ≤ 65535) : ACalls Go.Proofs.Try.prog 33 [.vec c (l.map eCls), .int .i64 k] [] (fun e H => H = [] ∧ e = .ret (.agg [.vec false ((wth k l []).map eSpan), .bool (decide (k = 0))])) := by
  refine ACalls.go Go.Proofs.Try.func33 n33 a33 Go.Proofs.Try.ntmps33 r33 (by simp) ?_
  generalize hQ : bodyA _ _ _ = QQ
  simp only [A33, M_seq, M_reg, M_op, M_opg, M_ops_nil, M_nil, M_blk, M_scp, M_skip, M_label, M_block, M_scope, M_ret, M_exit, M_cond, M_loop, M_draw, DM_nil, DM_op, DM_opg, dK_ok, dK_call, dK_pan, dK_read, dK_free, dgK_do, dgK_un, grdK_un, dgK_tf, dgK_ft, grdK_do, grdK_tf, grdK_ft, contK_ap, panK_ap, dCallK_ret, dCallK_pan, Chk_nil, Chk_cons, isE, isR, List.mem_cons, List.not_mem_nil, List.all_cons, List.all_nil, beq_self_eq_true, Bool.and_self, Bool.true_and, Bool.and_true, ne_eq, or_false, false_or, or_true, true_or, exitK_some, exitK_none, unw_blk, unw_code, unw_ops, unw_scp, unw_nil, okD_some, okD_none, evO, ev_t, ev_k, get_mk, put_mk, look, putD_some, putD_none, binA, binI, orBad, opK_ok, opK_call, opK_pan, opK_bad, CallK_ret, CallK_pan, cndK_true, cndK_false, pickA, cellsOf, cellsAt, asVal, storeA, splice, litCells, fillA, eqB, eqP, eqS, eqCell, eqCells, intOr, sliceA, appA, elemsA, pures, pureV, argl, resVs, resV, asRes, Nat.reduceEqDiff, Nat.reduceLT, Nat.reduceLeDiff, Nat.reduceAdd, Nat.reduceSub, Nat.reduceMul, reduceIte, reduceCtorEq, true_and, and_true, Bool.false_eq_true, Bool.true_eq_false, Bool.not_true, Bool.not_false, forall_const, forall_eq, imp_false, not_true_eq_false, not_false_eq_true, decide_true, decide_false, cond_true, cond_false, Int.toNat_natCast, Int.natCast_nonneg, List.length_cons, List.length_nil, List.length_append, List.length_map, List.length_set, List.getElem?_cons_zero, List.getElem?_cons_succ, List.getElem?_nil, List.nil_append, List.cons_append, List.append_nil, List.drop_zero, List.drop_succ_cons, List.drop_nil, List.take_succ_cons, List.take_zero, List.take_nil, List.set_cons_zero, List.set_cons_succ, List.set_nil, List.headD_cons, List.map_cons, List.map_nil, Option.map_some, Option.map_none, Nat.le_refl, Nat.zero_le, Nat.add_zero, Nat.zero_add, and_self, IntKind.bits]
  refine ALp.ref (Ref.trans (Ref.pick [13, 12, 11, 5, 4, 1]) (Ref.thawB (Nat.zero_le _) (id := 1) 0 rfl rfl (by decide : 0 < 2) 38)) (Nat.zero_le _) ?_
  refine ALp.mono (loop33 c (decide (k = 0)) k l hl hr l.length 0 [] (by omega) (by simp) (by simp)) ?_
  intro e ta H he
  split at he
  · obtain ⟨rfl, rfl⟩ := he
    simp only [List.drop_zero, LoopK, H33, M_seq, M_reg, M_op, M_opg, M_ops_nil, M_nil, M_blk, M_scp, M_skip, M_label, M_block, M_scope, M_ret, M_exit, M_cond, M_loop, M_draw, DM_nil, DM_op, DM_opg, dK_ok, dK_call, dK_pan, dK_read, dK_free, dgK_do, dgK_un, grdK_un, dgK_tf, dgK_ft, grdK_do, grdK_tf, grdK_ft, contK_ap, panK_ap, dCallK_ret, dCallK_pan, Chk_nil, Chk_cons, isE, isR, List.mem_cons, List.not_mem_nil, List.all_cons, List.all_nil, beq_self_eq_true, Bool.and_self, Bool.true_and, Bool.and_true, ne_eq, or_false, false_or, or_true, true_or, exitK_some, exitK_none, unw_blk, unw_code, unw_ops, unw_scp, unw_nil, okD_some, okD_none, evO, ev_t, ev_k, get_mk, put_mk, look, putD_some, putD_none, binA, binI, orBad, opK_ok, opK_call, opK_pan, opK_bad, CallK_ret, CallK_pan, cndK_true, cndK_false, pickA, cellsOf, cellsAt, asVal, storeA, splice, litCells, fillA, eqB, eqP, eqS, eqCell, eqCells, intOr, sliceA, appA, elemsA, pures, pureV, argl, resVs, resV, asRes, Nat.reduceEqDiff, Nat.reduceLT, Nat.reduceLeDiff, Nat.reduceAdd, Nat.reduceSub, Nat.reduceMul, reduceIte, reduceCtorEq, true_and, and_true, Bool.false_eq_true, Bool.true_eq_false, Bool.not_true, Bool.not_false, forall_const, forall_eq, imp_false, not_true_eq_false, not_false_eq_true, decide_true, decide_false, cond_true, cond_false, Int.toNat_natCast, Int.natCast_nonneg, List.length_cons, List.length_nil, List.length_append, List.length_map, List.length_set, List.getElem?_cons_zero, List.getElem?_cons_succ, List.getElem?_nil, List.nil_append, List.cons_append, List.append_nil, List.drop_zero, List.drop_succ_cons, List.drop_nil, List.take_succ_cons, List.take_zero, List.take_nil, List.set_cons_zero, List.set_cons_succ, List.set_nil, List.headD_cons, List.map_cons, List.map_nil, Option.map_some, Option.map_none, Nat.le_refl, Nat.zero_le, Nat.add_zero, Nat.zero_add, and_self, IntKind.bits]
    rw [← hQ]
    have hp : ∀ el ∈ (wth k l []).map eSpan, pures el = true := by
      intro el hel
      obtain ⟨x, _, rfl⟩ := List.mem_map.1 hel
      rfl
    refine ⟨rfl, _, rfl, _, _, RefV.trans (RefV.frz (Nat.zero_le _) (id := 2) rfl hp) (RefV.cut 0 (Nat.le_refl _) (Nat.zero_le _)), rfl, ?_⟩
    have ht : ((wth k l []).map eSpan).take (wth k l []).length = (wth k l []).map eSpan := List.take_of_length_le (by simp)
    simp only [asRes, asVal, List.take_succ_cons, List.take_zero, List.take_nil, subs, AV.sub, frzS, cutS, List.drop_zero, ht, if_true, List.length_map, Nat.zero_add, Nat.le_refl]
  · exact he.elim
end Go.Proofs.Ytakplhfiohjcmaa.AI
