import Derived.Test.YtakplhfiohjcmaaG1
import Derived.Test.YtakplhfiohjcmaaT3
set_option linter.unusedVariables false
set_option linter.unusedSimpArgs false
set_option maxRecDepth 100000
namespace Go.Proofs.Ytakplhfiohjcmaa.AI
open Go.Proofs (Try.prog)

def cnt : List Span → Int
  | [] => 0
  | s :: r => (s.b - s.a + 1) + cnt r
def idx : List Span → Int → Int → Int
  | [], g, n => -1
  | s :: r, g, n => if g < s.a then -1 else if g ≤ s.b then n + g - s.a else idx r g (n + (s.b - s.a + 1))
/-- Spans that rise, from a place on. -/
def RL : Int → List Span → Prop
  | _, [] => True
  | lo, s :: r => lo ≤ s.a ∧ s.a ≤ s.b ∧ s.b ≤ 65535 ∧ RL (s.b + 2) r

theorem RightP.rl {l : List Span} (h : RightP l) : RL 0 l := by
  have : ∀ (d i : Nat) (lo : Int), i + d = l.length → (∀ s, l[i]? = some s → lo ≤ s.a) → RL lo (l.drop i) := by
    intro d
    induction d with
    | zero => intro i lo hi _; rw [List.drop_eq_nil_of_le (by omega)]; trivial
    | succ d ih =>
      intro i lo hi hlo
      obtain ⟨s, hs, hd⟩ := drop_cons hi
      rw [hd]
      have g := h.2 i (by omega)
      refine ⟨hlo s hs, g.le s hs, g.hi s hs, ih (i + 1) _ (by omega) fun t ht => ?_⟩
      have := (h.2 (i + 1) (by have := (List.getElem?_eq_some_iff.1 ht).1; omega)).gap t s (by omega) ht (by simpa using hs)
      omega
  have h0 := this l.length 0 0 (by omega) fun s hs => (h.2 0 (by have := (List.getElem?_eq_some_iff.1 hs).1; omega)).lo s hs
  simpa using h0
theorem RL.mono {lo lo' : Int} (hl : lo' ≤ lo) : ∀ {l : List Span}, RL lo l → RL lo' l
  | [], _ => trivial
  | s :: r, h => ⟨by have := h.1; omega, h.2⟩
theorem RL.drop {lo : Int} : ∀ {l : List Span} (i : Nat), RL lo l → 0 ≤ lo → ∃ lo', lo ≤ lo' ∧ RL lo' (l.drop i)
  | l, 0, h, h0 => ⟨lo, by omega, h⟩
  | [], i + 1, h, h0 => ⟨lo, by omega, trivial⟩
  | s :: r, i + 1, h, h0 => by
    have := h.1; have := h.2.1
    obtain ⟨lo', h1, h2⟩ := RL.drop i h.2.2.2 (by omega)
    exact ⟨lo', by omega, h2⟩
theorem RL.at {lo : Int} {l : List Span} {i : Nat} {s : Span} (h : RL lo l) (h0 : 0 ≤ lo) (hs : l[i]? = some s) : 0 ≤ s.a ∧ s.a ≤ s.b ∧ s.b ≤ 65535 := by
  obtain ⟨lo', h1, h2⟩ := RL.drop i h h0
  have hd : l.drop i = s :: l.drop (i + 1) := by
    obtain ⟨hi, rfl⟩ := List.getElem?_eq_some_iff.1 hs
    exact List.drop_eq_getElem_cons _
  rw [hd] at h2
  exact ⟨by have := h2.1; omega, h2.2.1, h2.2.2.1⟩
theorem cnt_take {l : List Span} {i : Nat} {s : Span} (hs : l[i]? = some s) : cnt (l.take (i + 1)) = cnt (l.take i) + (s.b - s.a + 1) := by
  induction l generalizing i with
  | nil => simp at hs
  | cons x r ih =>
    cases i with
    | zero => simp at hs; subst hs; simp [cnt]
    | succ i => simp only [List.take_succ_cons, cnt]; rw [ih (by simpa using hs)]; omega
theorem RL.cnt_le {lo : Int} : ∀ {l : List Span}, RL lo l → lo ≤ 65537 → 0 ≤ cnt l ∧ cnt l ≤ 65537 - lo
  | [], _, h0 => ⟨Int.le_refl _, by simp [cnt]; omega⟩
  | s :: r, h, h0 => by
    obtain ⟨h1, h2, h3, h4⟩ := h
    have := RL.cnt_le h4 (by omega)
    simp only [cnt]
    omega
theorem cnt_app : ∀ (l m : List Span), cnt (l ++ m) = cnt l + cnt m
  | [], m => by simp [cnt]
  | s :: r, m => by simp only [List.cons_append, cnt, cnt_app r m]; omega
theorem cnt_parts {l : List Span} (h : RL 0 l) (i : Nat) : 0 ≤ cnt (l.take i) ∧ 0 ≤ cnt (l.drop i) ∧ cnt (l.take i) + cnt (l.drop i) = cnt l ∧ cnt l ≤ 65537 := by
  have h1 := RL.cnt_le h (by omega)
  obtain ⟨lo', h2, h3⟩ := RL.drop i h (by omega)
  have h4 : cnt (l.take i) + cnt (l.drop i) = cnt l := by rw [← cnt_app, List.take_append_drop]
  have h5 : 0 ≤ cnt (l.drop i) := by
    rcases Int.lt_or_le 65537 lo' with hh | hh
    · cases hd : l.drop i with
      | nil => simp [cnt]
      | cons s r => rw [hd] at h3; have := h3.1; have := h3.2.1; have := h3.2.2.1; omega
    · exact (RL.cnt_le h3 hh).1
  have h6 : ∀ (l : List Span) (lo : Int) (i : Nat), RL lo l → 0 ≤ cnt (l.take i) := by
    intro l
    induction l with
    | nil => intro lo i _; simp [cnt]
    | cons s r ih =>
      intro lo i h
      cases i with
      | zero => simp [cnt]
      | succ i =>
        simp only [List.take_succ_cons, cnt]
        have := ih _ i h.2.2.2
        have := h.2.1
        omega
  exact ⟨h6 _ _ _ h, h5, h4, h1.2⟩

/-! ### Index -/
def body26 : ACode := match A26 with
  | .seq _ (.seq _ (.seq (.seq _ (.block _ (.loop b))) _)) => b
  | _ => .skip

theorem loop26 (c : Bool) (g : Int) (l : List Span) (hl : l.length ≤ 9223372036854775807) (hr : RL 0 l) : ∀ (d i : Nat), i + d = l.length →
    ALp Go.Proofs.Try.prog 0 body26 ⟨37, [(10, .int .i64 i), (5, .int .i64 (cnt (l.take i))), (9, .int .i64 l.length), (8, .vec c (l.map eSpan)), (1, .int .i64 g)], []⟩ [] (fun e ta H => H = [] ∧ match e with
      | .exit 0 => idx (l.drop i) g (cnt (l.take i)) = -1 ∧ ta = ⟨37, [], []⟩
      | .ret => ta = ⟨37, [(4, .int .i64 (idx (l.drop i) g (cnt (l.take i))))], []⟩
      | _ => False) := by
  intro d
  induction d with
  | zero =>
    intro i hi
    refine ALp.round ?_
    generalize hQ : RoundQ _ _ _ _ = QQ
    have h1 : ¬ (i : Int) < (l.length : Int) := by omega
    simp only [body26, A26, h1, M_seq, M_reg, M_op, M_opg, M_ops_nil, M_nil, M_blk, M_scp, M_skip, M_label, M_block, M_scope, M_ret, M_exit, M_cond, M_loop, M_draw, DM_nil, DM_op, DM_opg, dK_ok, dK_call, dK_pan, dK_read, dK_free, dgK_do, dgK_un, grdK_un, dgK_tf, dgK_ft, grdK_do, grdK_tf, grdK_ft, contK_ap, panK_ap, dCallK_ret, dCallK_pan, Chk_nil, Chk_cons, isE, isR, List.mem_cons, List.not_mem_nil, ne_eq, or_false, false_or, or_true, true_or, exitK_some, exitK_none, unw_blk, unw_code, unw_ops, unw_scp, unw_nil, okD_some, okD_none, evO, ev_t, ev_k, get_mk, put_mk, look, putD_some, putD_none, binA, binI, orBad, opK_ok, opK_call, opK_pan, opK_bad, CallK_ret, CallK_pan, cndK_true, cndK_false, pickA, cellsOf, cellsAt, asVal, storeA, splice, litCells, fillA, eqB, eqP, eqS, eqCell, eqCells, intOr, sliceA, appA, elemsA, pures, pureV, argl, resVs, resV, asRes, Nat.reduceEqDiff, Nat.reduceLT, Nat.reduceLeDiff, Nat.reduceAdd, Nat.reduceSub, Nat.reduceMul, reduceIte, reduceCtorEq, true_and, and_true, Bool.false_eq_true, Bool.true_eq_false, Bool.not_true, Bool.not_false, forall_const, forall_eq, imp_false, not_true_eq_false, not_false_eq_true, decide_true, decide_false, cond_true, cond_false, Int.toNat_natCast, Int.natCast_nonneg, List.length_cons, List.length_nil, List.length_append, List.length_map, List.length_set, List.getElem?_cons_zero, List.getElem?_cons_succ, List.getElem?_nil, List.nil_append, List.cons_append, List.append_nil, List.drop_zero, List.drop_succ_cons, List.drop_nil, List.take_succ_cons, List.take_zero, List.take_nil, List.set_cons_zero, List.set_cons_succ, List.set_nil, List.headD_cons, List.map_cons, List.map_nil, Option.map_some, Option.map_none, Nat.le_refl, Nat.zero_le, Nat.add_zero, Nat.zero_add, and_self, IntKind.bits]
    rw [← hQ]
    exact ⟨⟨37, [], []⟩, [], Ref.less _ (fun t => .inr rfl), rfl, by rw [List.drop_eq_nil_of_le (by omega)]; rfl, rfl⟩
  | succ d ih =>
    intro i hi
    refine ALp.round ?_
    obtain ⟨s, hs, hd⟩ := drop_cons hi
    have hb := hr.at (by omega) hs
    have hp := cnt_parts hr i
    have hp1 := cnt_parts hr (i + 1)
    have hc := cnt_take hs
    rw [hd]
    generalize hQ : RoundQ _ _ _ _ = QQ
    have hx : (l.map eSpan)[i]? = some [.int .i64 s.a, .int .i64 s.b] := map_at eSpan hs
    have h1 : (i : Int) < (l.length : Int) := by omega
    have hw := wrapS i (by omega)
    by_cases h2 : g < s.a
    · simp only [body26, A26, h1, hx, h2, M_seq, M_reg, M_op, M_opg, M_ops_nil, M_nil, M_blk, M_scp, M_skip, M_label, M_block, M_scope, M_ret, M_exit, M_cond, M_loop, M_draw, DM_nil, DM_op, DM_opg, dK_ok, dK_call, dK_pan, dK_read, dK_free, dgK_do, dgK_un, grdK_un, dgK_tf, dgK_ft, grdK_do, grdK_tf, grdK_ft, contK_ap, panK_ap, dCallK_ret, dCallK_pan, Chk_nil, Chk_cons, isE, isR, List.mem_cons, List.not_mem_nil, ne_eq, or_false, false_or, or_true, true_or, exitK_some, exitK_none, unw_blk, unw_code, unw_ops, unw_scp, unw_nil, okD_some, okD_none, evO, ev_t, ev_k, get_mk, put_mk, look, putD_some, putD_none, binA, binI, orBad, opK_ok, opK_call, opK_pan, opK_bad, CallK_ret, CallK_pan, cndK_true, cndK_false, pickA, cellsOf, cellsAt, asVal, storeA, splice, litCells, fillA, eqB, eqP, eqS, eqCell, eqCells, intOr, sliceA, appA, elemsA, pures, pureV, argl, resVs, resV, asRes, Nat.reduceEqDiff, Nat.reduceLT, Nat.reduceLeDiff, Nat.reduceAdd, Nat.reduceSub, Nat.reduceMul, reduceIte, reduceCtorEq, true_and, and_true, Bool.false_eq_true, Bool.true_eq_false, Bool.not_true, Bool.not_false, forall_const, forall_eq, imp_false, not_true_eq_false, not_false_eq_true, decide_true, decide_false, cond_true, cond_false, Int.toNat_natCast, Int.natCast_nonneg, List.length_cons, List.length_nil, List.length_append, List.length_map, List.length_set, List.getElem?_cons_zero, List.getElem?_cons_succ, List.getElem?_nil, List.nil_append, List.cons_append, List.append_nil, List.drop_zero, List.drop_succ_cons, List.drop_nil, List.take_succ_cons, List.take_zero, List.take_nil, List.set_cons_zero, List.set_cons_succ, List.set_nil, List.headD_cons, List.map_cons, List.map_nil, Option.map_some, Option.map_none, Nat.le_refl, Nat.zero_le, Nat.add_zero, Nat.zero_add, and_self, IntKind.bits]
      rw [← hQ]
      refine ⟨⟨37, [], []⟩, [], Ref.trans (Ref.cut 0 (Nat.le_refl _) (Nat.zero_le _)) (Ref.less _ (fun t => .inr rfl)), rfl, ?_, rfl⟩
      simp only [idx, h2, if_true]
    · by_cases h3 : g ≤ s.b
      · have w1 : IntKind.i64.wrap (cnt (l.take i) + g) = cnt (l.take i) + g := wrapI (by omega) (by omega)
        have w2 : IntKind.i64.wrap (cnt (l.take i) + g - s.a) = cnt (l.take i) + g - s.a := wrapI (by omega) (by omega)
        simp only [body26, A26, h1, hx, h2, h3, w1, w2, M_seq, M_reg, M_op, M_opg, M_ops_nil, M_nil, M_blk, M_scp, M_skip, M_label, M_block, M_scope, M_ret, M_exit, M_cond, M_loop, M_draw, DM_nil, DM_op, DM_opg, dK_ok, dK_call, dK_pan, dK_read, dK_free, dgK_do, dgK_un, grdK_un, dgK_tf, dgK_ft, grdK_do, grdK_tf, grdK_ft, contK_ap, panK_ap, dCallK_ret, dCallK_pan, Chk_nil, Chk_cons, isE, isR, List.mem_cons, List.not_mem_nil, ne_eq, or_false, false_or, or_true, true_or, exitK_some, exitK_none, unw_blk, unw_code, unw_ops, unw_scp, unw_nil, okD_some, okD_none, evO, ev_t, ev_k, get_mk, put_mk, look, putD_some, putD_none, binA, binI, orBad, opK_ok, opK_call, opK_pan, opK_bad, CallK_ret, CallK_pan, cndK_true, cndK_false, pickA, cellsOf, cellsAt, asVal, storeA, splice, litCells, fillA, eqB, eqP, eqS, eqCell, eqCells, intOr, sliceA, appA, elemsA, pures, pureV, argl, resVs, resV, asRes, Nat.reduceEqDiff, Nat.reduceLT, Nat.reduceLeDiff, Nat.reduceAdd, Nat.reduceSub, Nat.reduceMul, reduceIte, reduceCtorEq, true_and, and_true, Bool.false_eq_true, Bool.true_eq_false, Bool.not_true, Bool.not_false, forall_const, forall_eq, imp_false, not_true_eq_false, not_false_eq_true, decide_true, decide_false, cond_true, cond_false, Int.toNat_natCast, Int.natCast_nonneg, List.length_cons, List.length_nil, List.length_append, List.length_map, List.length_set, List.getElem?_cons_zero, List.getElem?_cons_succ, List.getElem?_nil, List.nil_append, List.cons_append, List.append_nil, List.drop_zero, List.drop_succ_cons, List.drop_nil, List.take_succ_cons, List.take_zero, List.take_nil, List.set_cons_zero, List.set_cons_succ, List.set_nil, List.headD_cons, List.map_cons, List.map_nil, Option.map_some, Option.map_none, Nat.le_refl, Nat.zero_le, Nat.add_zero, Nat.zero_add, and_self, IntKind.bits]
        rw [← hQ]
        refine ⟨_, [], Ref.trans (Ref.pick [4]) (Ref.cut 0 (Nat.le_refl _) (Nat.zero_le _)), rfl, ?_⟩
        simp only [idx, h2, h3, if_true, if_false]
        rfl
      · have w1 : IntKind.i64.wrap (s.b - s.a) = s.b - s.a := wrapI (by omega) (by omega)
        have w2 : IntKind.i64.wrap (s.b - s.a + 1) = s.b - s.a + 1 := wrapI (by omega) (by omega)
        have w3 : IntKind.i64.wrap (cnt (l.take i) + (s.b - s.a + 1)) = cnt (l.take (i + 1)) := by rw [wrapI (by omega) (by omega), hc]
        simp only [body26, A26, h1, hx, h2, h3, w1, w2, w3, hw, M_seq, M_reg, M_op, M_opg, M_ops_nil, M_nil, M_blk, M_scp, M_skip, M_label, M_block, M_scope, M_ret, M_exit, M_cond, M_loop, M_draw, DM_nil, DM_op, DM_opg, dK_ok, dK_call, dK_pan, dK_read, dK_free, dgK_do, dgK_un, grdK_un, dgK_tf, dgK_ft, grdK_do, grdK_tf, grdK_ft, contK_ap, panK_ap, dCallK_ret, dCallK_pan, Chk_nil, Chk_cons, isE, isR, List.mem_cons, List.not_mem_nil, ne_eq, or_false, false_or, or_true, true_or, exitK_some, exitK_none, unw_blk, unw_code, unw_ops, unw_scp, unw_nil, okD_some, okD_none, evO, ev_t, ev_k, get_mk, put_mk, look, putD_some, putD_none, binA, binI, orBad, opK_ok, opK_call, opK_pan, opK_bad, CallK_ret, CallK_pan, cndK_true, cndK_false, pickA, cellsOf, cellsAt, asVal, storeA, splice, litCells, fillA, eqB, eqP, eqS, eqCell, eqCells, intOr, sliceA, appA, elemsA, pures, pureV, argl, resVs, resV, asRes, Nat.reduceEqDiff, Nat.reduceLT, Nat.reduceLeDiff, Nat.reduceAdd, Nat.reduceSub, Nat.reduceMul, reduceIte, reduceCtorEq, true_and, and_true, Bool.false_eq_true, Bool.true_eq_false, Bool.not_true, Bool.not_false, forall_const, forall_eq, imp_false, not_true_eq_false, not_false_eq_true, decide_true, decide_false, cond_true, cond_false, Int.toNat_natCast, Int.natCast_nonneg, List.length_cons, List.length_nil, List.length_append, List.length_map, List.length_set, List.getElem?_cons_zero, List.getElem?_cons_succ, List.getElem?_nil, List.nil_append, List.cons_append, List.append_nil, List.drop_zero, List.drop_succ_cons, List.drop_nil, List.take_succ_cons, List.take_zero, List.take_nil, List.set_cons_zero, List.set_cons_succ, List.set_nil, List.headD_cons, List.map_cons, List.map_nil, Option.map_some, Option.map_none, Nat.le_refl, Nat.zero_le, Nat.add_zero, Nat.zero_add, and_self, IntKind.bits]
        rw [← hQ]
        refine ⟨_, [], Ref.trans (Ref.pick [10, 5, 9, 8, 1]) (Ref.cut 0 (Nat.le_refl _) (Nat.zero_le _)), Nat.le_refl _, ?_⟩
        have := ih (i + 1) (by omega)
        simp only [idx, h2, h3, if_false]
        rw [← hc]
        exact this

theorem spec26 (c : Bool) (l : List Span) (g : Int) (hl : l.length ≤ 9223372036854775807) (hr : RL 0 l) : ACalls Go.Proofs.Try.prog 26 [.vec c (l.map eSpan), .int .i64 g] [] (fun e H => H = [] ∧ e = .ret (.int .i64 (idx l g 0))) := by
  refine ACalls.go Go.Proofs.Try.func26 n26 a26 Go.Proofs.Try.ntmps26 r26 (by simp) ?_
  generalize hQ : bodyA _ _ _ = QQ
  simp only [A26, M_seq, M_reg, M_op, M_opg, M_ops_nil, M_nil, M_blk, M_scp, M_skip, M_label, M_block, M_scope, M_ret, M_exit, M_cond, M_loop, M_draw, DM_nil, DM_op, DM_opg, dK_ok, dK_call, dK_pan, dK_read, dK_free, dgK_do, dgK_un, grdK_un, dgK_tf, dgK_ft, grdK_do, grdK_tf, grdK_ft, contK_ap, panK_ap, dCallK_ret, dCallK_pan, Chk_nil, Chk_cons, isE, isR, List.mem_cons, List.not_mem_nil, ne_eq, or_false, false_or, or_true, true_or, exitK_some, exitK_none, unw_blk, unw_code, unw_ops, unw_scp, unw_nil, okD_some, okD_none, evO, ev_t, ev_k, get_mk, put_mk, look, putD_some, putD_none, binA, binI, orBad, opK_ok, opK_call, opK_pan, opK_bad, CallK_ret, CallK_pan, cndK_true, cndK_false, pickA, cellsOf, cellsAt, asVal, storeA, splice, litCells, fillA, eqB, eqP, eqS, eqCell, eqCells, intOr, sliceA, appA, elemsA, pures, pureV, argl, resVs, resV, asRes, Nat.reduceEqDiff, Nat.reduceLT, Nat.reduceLeDiff, Nat.reduceAdd, Nat.reduceSub, Nat.reduceMul, reduceIte, reduceCtorEq, true_and, and_true, Bool.false_eq_true, Bool.true_eq_false, Bool.not_true, Bool.not_false, forall_const, forall_eq, imp_false, not_true_eq_false, not_false_eq_true, decide_true, decide_false, cond_true, cond_false, Int.toNat_natCast, Int.natCast_nonneg, List.length_cons, List.length_nil, List.length_append, List.length_map, List.length_set, List.getElem?_cons_zero, List.getElem?_cons_succ, List.getElem?_nil, List.nil_append, List.cons_append, List.append_nil, List.drop_zero, List.drop_succ_cons, List.drop_nil, List.take_succ_cons, List.take_zero, List.take_nil, List.set_cons_zero, List.set_cons_succ, List.set_nil, List.headD_cons, List.map_cons, List.map_nil, Option.map_some, Option.map_none, Nat.le_refl, Nat.zero_le, Nat.add_zero, Nat.zero_add, and_self, IntKind.bits]
  refine ALp.ref (Ref.pick [10, 5, 9, 8, 1]) (Nat.le_refl _) ?_
  refine ALp.mono (loop26 c g l hl hr l.length 0 (by omega)) ?_
  intro e ta H he
  simp only [List.drop_zero] at he
  obtain ⟨rfl, he⟩ := he
  split at he
  · obtain ⟨h1, rfl⟩ := he
    simp only [LoopK, M_seq, M_reg, M_op, M_opg, M_ops_nil, M_nil, M_blk, M_scp, M_skip, M_label, M_block, M_scope, M_ret, M_exit, M_cond, M_loop, M_draw, DM_nil, DM_op, DM_opg, dK_ok, dK_call, dK_pan, dK_read, dK_free, dgK_do, dgK_un, grdK_un, dgK_tf, dgK_ft, grdK_do, grdK_tf, grdK_ft, contK_ap, panK_ap, dCallK_ret, dCallK_pan, Chk_nil, Chk_cons, isE, isR, List.mem_cons, List.not_mem_nil, ne_eq, or_false, false_or, or_true, true_or, exitK_some, exitK_none, unw_blk, unw_code, unw_ops, unw_scp, unw_nil, okD_some, okD_none, evO, ev_t, ev_k, get_mk, put_mk, look, putD_some, putD_none, binA, binI, orBad, opK_ok, opK_call, opK_pan, opK_bad, CallK_ret, CallK_pan, cndK_true, cndK_false, pickA, cellsOf, cellsAt, asVal, storeA, splice, litCells, fillA, eqB, eqP, eqS, eqCell, eqCells, intOr, sliceA, appA, elemsA, pures, pureV, argl, resVs, resV, asRes, Nat.reduceEqDiff, Nat.reduceLT, Nat.reduceLeDiff, Nat.reduceAdd, Nat.reduceSub, Nat.reduceMul, reduceIte, reduceCtorEq, true_and, and_true, Bool.false_eq_true, Bool.true_eq_false, Bool.not_true, Bool.not_false, forall_const, forall_eq, imp_false, not_true_eq_false, not_false_eq_true, decide_true, decide_false, cond_true, cond_false, Int.toNat_natCast, Int.natCast_nonneg, List.length_cons, List.length_nil, List.length_append, List.length_map, List.length_set, List.getElem?_cons_zero, List.getElem?_cons_succ, List.getElem?_nil, List.nil_append, List.cons_append, List.append_nil, List.drop_zero, List.drop_succ_cons, List.drop_nil, List.take_succ_cons, List.take_zero, List.take_nil, List.set_cons_zero, List.set_cons_succ, List.set_nil, List.headD_cons, List.map_cons, List.map_nil, Option.map_some, Option.map_none, Nat.le_refl, Nat.zero_le, Nat.add_zero, Nat.zero_add, and_self, IntKind.bits]
    rw [← hQ]
    exact ⟨rfl, _, rfl, _, _, RefV.refl _ _ _, rfl, by rw [show idx l g 0 = -1 from h1]; rfl⟩
  · subst he
    simp only [LoopK, M_seq, M_reg, M_op, M_opg, M_ops_nil, M_nil, M_blk, M_scp, M_skip, M_label, M_block, M_scope, M_ret, M_exit, M_cond, M_loop, M_draw, DM_nil, DM_op, DM_opg, dK_ok, dK_call, dK_pan, dK_read, dK_free, dgK_do, dgK_un, grdK_un, dgK_tf, dgK_ft, grdK_do, grdK_tf, grdK_ft, contK_ap, panK_ap, dCallK_ret, dCallK_pan, Chk_nil, Chk_cons, isE, isR, List.mem_cons, List.not_mem_nil, ne_eq, or_false, false_or, or_true, true_or, exitK_some, exitK_none, unw_blk, unw_code, unw_ops, unw_scp, unw_nil, okD_some, okD_none, evO, ev_t, ev_k, get_mk, put_mk, look, putD_some, putD_none, binA, binI, orBad, opK_ok, opK_call, opK_pan, opK_bad, CallK_ret, CallK_pan, cndK_true, cndK_false, pickA, cellsOf, cellsAt, asVal, storeA, splice, litCells, fillA, eqB, eqP, eqS, eqCell, eqCells, intOr, sliceA, appA, elemsA, pures, pureV, argl, resVs, resV, asRes, Nat.reduceEqDiff, Nat.reduceLT, Nat.reduceLeDiff, Nat.reduceAdd, Nat.reduceSub, Nat.reduceMul, reduceIte, reduceCtorEq, true_and, and_true, Bool.false_eq_true, Bool.true_eq_false, Bool.not_true, Bool.not_false, forall_const, forall_eq, imp_false, not_true_eq_false, not_false_eq_true, decide_true, decide_false, cond_true, cond_false, Int.toNat_natCast, Int.natCast_nonneg, List.length_cons, List.length_nil, List.length_append, List.length_map, List.length_set, List.getElem?_cons_zero, List.getElem?_cons_succ, List.getElem?_nil, List.nil_append, List.cons_append, List.append_nil, List.drop_zero, List.drop_succ_cons, List.drop_nil, List.take_succ_cons, List.take_zero, List.take_nil, List.set_cons_zero, List.set_cons_succ, List.set_nil, List.headD_cons, List.map_cons, List.map_nil, Option.map_some, Option.map_none, Nat.le_refl, Nat.zero_le, Nat.add_zero, Nat.zero_add, and_self, IntKind.bits]
    rw [← hQ]
    exact ⟨rfl, _, rfl, _, _, RefV.refl _ _ _, rfl, rfl⟩
  · exact he.elim

/-! ### Count -/
def body28 : ACode := match A28 with
  | .seq _ (.seq _ (.seq (.seq _ (.block _ (.loop b))) _)) => b
  | _ => .skip

theorem loop28 (c : Bool) (l : List Span) (hl : l.length ≤ 9223372036854775807) (hr : RL 0 l) : ∀ (d i : Nat), i + d = l.length →
    ALp Go.Proofs.Try.prog 0 body28 ⟨22, [(8, .int .i64 i), (3, .int .i64 (cnt (l.take i))), (7, .int .i64 l.length), (6, .vec c (l.map eSpan))], []⟩ [] (fun e ta H => H = [] ∧ match e with
      | .exit 0 => ta = ⟨22, [(3, .int .i64 (cnt l))], []⟩
      | _ => False) := by
  intro d
  induction d with
  | zero =>
    intro i hi
    refine ALp.round ?_
    generalize hQ : RoundQ _ _ _ _ = QQ
    have h1 : ¬ (i : Int) < (l.length : Int) := by omega
    simp only [body28, A28, h1, M_seq, M_reg, M_op, M_opg, M_ops_nil, M_nil, M_blk, M_scp, M_skip, M_label, M_block, M_scope, M_ret, M_exit, M_cond, M_loop, M_draw, DM_nil, DM_op, DM_opg, dK_ok, dK_call, dK_pan, dK_read, dK_free, dgK_do, dgK_un, grdK_un, dgK_tf, dgK_ft, grdK_do, grdK_tf, grdK_ft, contK_ap, panK_ap, dCallK_ret, dCallK_pan, Chk_nil, Chk_cons, isE, isR, List.mem_cons, List.not_mem_nil, ne_eq, or_false, false_or, or_true, true_or, exitK_some, exitK_none, unw_blk, unw_code, unw_ops, unw_scp, unw_nil, okD_some, okD_none, evO, ev_t, ev_k, get_mk, put_mk, look, putD_some, putD_none, binA, binI, orBad, opK_ok, opK_call, opK_pan, opK_bad, CallK_ret, CallK_pan, cndK_true, cndK_false, pickA, cellsOf, cellsAt, asVal, storeA, splice, litCells, fillA, eqB, eqP, eqS, eqCell, eqCells, intOr, sliceA, appA, elemsA, pures, pureV, argl, resVs, resV, asRes, Nat.reduceEqDiff, Nat.reduceLT, Nat.reduceLeDiff, Nat.reduceAdd, Nat.reduceSub, Nat.reduceMul, reduceIte, reduceCtorEq, true_and, and_true, Bool.false_eq_true, Bool.true_eq_false, Bool.not_true, Bool.not_false, forall_const, forall_eq, imp_false, not_true_eq_false, not_false_eq_true, decide_true, decide_false, cond_true, cond_false, Int.toNat_natCast, Int.natCast_nonneg, List.length_cons, List.length_nil, List.length_append, List.length_map, List.length_set, List.getElem?_cons_zero, List.getElem?_cons_succ, List.getElem?_nil, List.nil_append, List.cons_append, List.append_nil, List.drop_zero, List.drop_succ_cons, List.drop_nil, List.take_succ_cons, List.take_zero, List.take_nil, List.set_cons_zero, List.set_cons_succ, List.set_nil, List.headD_cons, List.map_cons, List.map_nil, Option.map_some, Option.map_none, Nat.le_refl, Nat.zero_le, Nat.add_zero, Nat.zero_add, and_self, IntKind.bits]
    rw [← hQ]
    refine ⟨_, [], Ref.pick [3], rfl, ?_⟩
    rw [List.take_of_length_le (by omega)]
    rfl
  | succ d ih =>
    intro i hi
    refine ALp.round ?_
    obtain ⟨s, hs, hd⟩ := drop_cons hi
    have hb := hr.at (by omega) hs
    have hp := cnt_parts hr i
    have hp1 := cnt_parts hr (i + 1)
    have hc := cnt_take hs
    generalize hQ : RoundQ _ _ _ _ = QQ
    have hx : (l.map eSpan)[i]? = some [.int .i64 s.a, .int .i64 s.b] := map_at eSpan hs
    have h1 : (i : Int) < (l.length : Int) := by omega
    have hw := wrapS i (by omega)
    have w1 : IntKind.i64.wrap (s.b - s.a) = s.b - s.a := wrapI (by omega) (by omega)
    have w2 : IntKind.i64.wrap (s.b - s.a + 1) = s.b - s.a + 1 := wrapI (by omega) (by omega)
    have w3 : IntKind.i64.wrap (cnt (l.take i) + (s.b - s.a + 1)) = cnt (l.take (i + 1)) := by rw [wrapI (by omega) (by omega), hc]
    simp only [body28, A28, h1, hx, w1, w2, w3, hw, M_seq, M_reg, M_op, M_opg, M_ops_nil, M_nil, M_blk, M_scp, M_skip, M_label, M_block, M_scope, M_ret, M_exit, M_cond, M_loop, M_draw, DM_nil, DM_op, DM_opg, dK_ok, dK_call, dK_pan, dK_read, dK_free, dgK_do, dgK_un, grdK_un, dgK_tf, dgK_ft, grdK_do, grdK_tf, grdK_ft, contK_ap, panK_ap, dCallK_ret, dCallK_pan, Chk_nil, Chk_cons, isE, isR, List.mem_cons, List.not_mem_nil, ne_eq, or_false, false_or, or_true, true_or, exitK_some, exitK_none, unw_blk, unw_code, unw_ops, unw_scp, unw_nil, okD_some, okD_none, evO, ev_t, ev_k, get_mk, put_mk, look, putD_some, putD_none, binA, binI, orBad, opK_ok, opK_call, opK_pan, opK_bad, CallK_ret, CallK_pan, cndK_true, cndK_false, pickA, cellsOf, cellsAt, asVal, storeA, splice, litCells, fillA, eqB, eqP, eqS, eqCell, eqCells, intOr, sliceA, appA, elemsA, pures, pureV, argl, resVs, resV, asRes, Nat.reduceEqDiff, Nat.reduceLT, Nat.reduceLeDiff, Nat.reduceAdd, Nat.reduceSub, Nat.reduceMul, reduceIte, reduceCtorEq, true_and, and_true, Bool.false_eq_true, Bool.true_eq_false, Bool.not_true, Bool.not_false, forall_const, forall_eq, imp_false, not_true_eq_false, not_false_eq_true, decide_true, decide_false, cond_true, cond_false, Int.toNat_natCast, Int.natCast_nonneg, List.length_cons, List.length_nil, List.length_append, List.length_map, List.length_set, List.getElem?_cons_zero, List.getElem?_cons_succ, List.getElem?_nil, List.nil_append, List.cons_append, List.append_nil, List.drop_zero, List.drop_succ_cons, List.drop_nil, List.take_succ_cons, List.take_zero, List.take_nil, List.set_cons_zero, List.set_cons_succ, List.set_nil, List.headD_cons, List.map_cons, List.map_nil, Option.map_some, Option.map_none, Nat.le_refl, Nat.zero_le, Nat.add_zero, Nat.zero_add, and_self, IntKind.bits]
    rw [← hQ]
    exact ⟨_, [], Ref.trans (Ref.pick [8, 3, 7, 6]) (Ref.cut 0 (Nat.le_refl _) (Nat.zero_le _)), Nat.le_refl _, ih (i + 1) (by omega)⟩

theorem spec28 (c : Bool) (l : List Span) (hl : l.length ≤ 9223372036854775807) (hr : RL 0 l) : ACalls Go.Proofs.Try.prog 28 [.vec c (l.map eSpan)] [] (fun e H => H = [] ∧ e = .ret (.int .i64 (cnt l))) := by
  refine ACalls.go Go.Proofs.Try.func28 n28 a28 Go.Proofs.Try.ntmps28 r28 (by simp) ?_
  generalize hQ : bodyA _ _ _ = QQ
  simp only [A28, M_seq, M_reg, M_op, M_opg, M_ops_nil, M_nil, M_blk, M_scp, M_skip, M_label, M_block, M_scope, M_ret, M_exit, M_cond, M_loop, M_draw, DM_nil, DM_op, DM_opg, dK_ok, dK_call, dK_pan, dK_read, dK_free, dgK_do, dgK_un, grdK_un, dgK_tf, dgK_ft, grdK_do, grdK_tf, grdK_ft, contK_ap, panK_ap, dCallK_ret, dCallK_pan, Chk_nil, Chk_cons, isE, isR, List.mem_cons, List.not_mem_nil, ne_eq, or_false, false_or, or_true, true_or, exitK_some, exitK_none, unw_blk, unw_code, unw_ops, unw_scp, unw_nil, okD_some, okD_none, evO, ev_t, ev_k, get_mk, put_mk, look, putD_some, putD_none, binA, binI, orBad, opK_ok, opK_call, opK_pan, opK_bad, CallK_ret, CallK_pan, cndK_true, cndK_false, pickA, cellsOf, cellsAt, asVal, storeA, splice, litCells, fillA, eqB, eqP, eqS, eqCell, eqCells, intOr, sliceA, appA, elemsA, pures, pureV, argl, resVs, resV, asRes, Nat.reduceEqDiff, Nat.reduceLT, Nat.reduceLeDiff, Nat.reduceAdd, Nat.reduceSub, Nat.reduceMul, reduceIte, reduceCtorEq, true_and, and_true, Bool.false_eq_true, Bool.true_eq_false, Bool.not_true, Bool.not_false, forall_const, forall_eq, imp_false, not_true_eq_false, not_false_eq_true, decide_true, decide_false, cond_true, cond_false, Int.toNat_natCast, Int.natCast_nonneg, List.length_cons, List.length_nil, List.length_append, List.length_map, List.length_set, List.getElem?_cons_zero, List.getElem?_cons_succ, List.getElem?_nil, List.nil_append, List.cons_append, List.append_nil, List.drop_zero, List.drop_succ_cons, List.drop_nil, List.take_succ_cons, List.take_zero, List.take_nil, List.set_cons_zero, List.set_cons_succ, List.set_nil, List.headD_cons, List.map_cons, List.map_nil, Option.map_some, Option.map_none, Nat.le_refl, Nat.zero_le, Nat.add_zero, Nat.zero_add, and_self, IntKind.bits]
  refine ALp.ref (Ref.pick [8, 3, 7, 6]) (Nat.le_refl _) ?_
  refine ALp.mono (loop28 c l hl hr l.length 0 (by omega)) ?_
  intro e ta H he
  obtain ⟨rfl, he⟩ := he
  split at he
  · subst he
    simp only [LoopK, M_seq, M_reg, M_op, M_opg, M_ops_nil, M_nil, M_blk, M_scp, M_skip, M_label, M_block, M_scope, M_ret, M_exit, M_cond, M_loop, M_draw, DM_nil, DM_op, DM_opg, dK_ok, dK_call, dK_pan, dK_read, dK_free, dgK_do, dgK_un, grdK_un, dgK_tf, dgK_ft, grdK_do, grdK_tf, grdK_ft, contK_ap, panK_ap, dCallK_ret, dCallK_pan, Chk_nil, Chk_cons, isE, isR, List.mem_cons, List.not_mem_nil, ne_eq, or_false, false_or, or_true, true_or, exitK_some, exitK_none, unw_blk, unw_code, unw_ops, unw_scp, unw_nil, okD_some, okD_none, evO, ev_t, ev_k, get_mk, put_mk, look, putD_some, putD_none, binA, binI, orBad, opK_ok, opK_call, opK_pan, opK_bad, CallK_ret, CallK_pan, cndK_true, cndK_false, pickA, cellsOf, cellsAt, asVal, storeA, splice, litCells, fillA, eqB, eqP, eqS, eqCell, eqCells, intOr, sliceA, appA, elemsA, pures, pureV, argl, resVs, resV, asRes, Nat.reduceEqDiff, Nat.reduceLT, Nat.reduceLeDiff, Nat.reduceAdd, Nat.reduceSub, Nat.reduceMul, reduceIte, reduceCtorEq, true_and, and_true, Bool.false_eq_true, Bool.true_eq_false, Bool.not_true, Bool.not_false, forall_const, forall_eq, imp_false, not_true_eq_false, not_false_eq_true, decide_true, decide_false, cond_true, cond_false, Int.toNat_natCast, Int.natCast_nonneg, List.length_cons, List.length_nil, List.length_append, List.length_map, List.length_set, List.getElem?_cons_zero, List.getElem?_cons_succ, List.getElem?_nil, List.nil_append, List.cons_append, List.append_nil, List.drop_zero, List.drop_succ_cons, List.drop_nil, List.take_succ_cons, List.take_zero, List.take_nil, List.set_cons_zero, List.set_cons_succ, List.set_nil, List.headD_cons, List.map_cons, List.map_nil, Option.map_some, Option.map_none, Nat.le_refl, Nat.zero_le, Nat.add_zero, Nat.zero_add, and_self, IntKind.bits]
    rw [← hQ]
    exact ⟨rfl, _, rfl, _, _, RefV.refl _ _ _, rfl, rfl⟩
  · exact he.elim

/-! ### Has -/
theorem spec31 (c : Bool) (l : List Span) (nt : Bool) (g : Int) (hl : l.length ≤ 9223372036854775807) (hr : RL 0 l) : ACalls Go.Proofs.Try.prog 31 [.agg [.vec c (l.map eSpan), .bool nt], .int .i64 g] [] (fun e H => H = [] ∧ e = .ret (.bool (decide (0 ≤ idx l g 0) != nt))) := by
  refine ACalls.go Go.Proofs.Try.func31 n31 a31 Go.Proofs.Try.ntmps31 r31 (by simp) ?_
  generalize hQ : bodyA _ _ _ = QQ
  simp only [A31, M_seq, M_reg, M_op, M_opg, M_ops_nil, M_nil, M_blk, M_scp, M_skip, M_label, M_block, M_scope, M_ret, M_exit, M_cond, M_loop, M_draw, DM_nil, DM_op, DM_opg, dK_ok, dK_call, dK_pan, dK_read, dK_free, dgK_do, dgK_un, grdK_un, dgK_tf, dgK_ft, grdK_do, grdK_tf, grdK_ft, contK_ap, panK_ap, dCallK_ret, dCallK_pan, Chk_nil, Chk_cons, isE, isR, List.mem_cons, List.not_mem_nil, ne_eq, or_false, false_or, or_true, true_or, exitK_some, exitK_none, unw_blk, unw_code, unw_ops, unw_scp, unw_nil, okD_some, okD_none, evO, ev_t, ev_k, get_mk, put_mk, look, putD_some, putD_none, binA, binI, orBad, opK_ok, opK_call, opK_pan, opK_bad, CallK_ret, CallK_pan, cndK_true, cndK_false, pickA, cellsOf, cellsAt, asVal, storeA, splice, litCells, fillA, eqB, eqP, eqS, eqCell, eqCells, intOr, sliceA, appA, elemsA, pures, pureV, argl, resVs, resV, asRes, Nat.reduceEqDiff, Nat.reduceLT, Nat.reduceLeDiff, Nat.reduceAdd, Nat.reduceSub, Nat.reduceMul, reduceIte, reduceCtorEq, true_and, and_true, Bool.false_eq_true, Bool.true_eq_false, Bool.not_true, Bool.not_false, forall_const, forall_eq, imp_false, not_true_eq_false, not_false_eq_true, decide_true, decide_false, cond_true, cond_false, Int.toNat_natCast, Int.natCast_nonneg, List.length_cons, List.length_nil, List.length_append, List.length_map, List.length_set, List.getElem?_cons_zero, List.getElem?_cons_succ, List.getElem?_nil, List.nil_append, List.cons_append, List.append_nil, List.drop_zero, List.drop_succ_cons, List.drop_nil, List.take_succ_cons, List.take_zero, List.take_nil, List.set_cons_zero, List.set_cons_succ, List.set_nil, List.headD_cons, List.map_cons, List.map_nil, Option.map_some, Option.map_none, Nat.le_refl, Nat.zero_le, Nat.add_zero, Nat.zero_add, and_self, IntKind.bits]
  refine (spec26 c l g hl hr).lift0 rfl ?_
  rintro _ rfl
  simp only [AEnd.sub, AV.sub, M_seq, M_reg, M_op, M_opg, M_ops_nil, M_nil, M_blk, M_scp, M_skip, M_label, M_block, M_scope, M_ret, M_exit, M_cond, M_loop, M_draw, DM_nil, DM_op, DM_opg, dK_ok, dK_call, dK_pan, dK_read, dK_free, dgK_do, dgK_un, grdK_un, dgK_tf, dgK_ft, grdK_do, grdK_tf, grdK_ft, contK_ap, panK_ap, dCallK_ret, dCallK_pan, Chk_nil, Chk_cons, isE, isR, List.mem_cons, List.not_mem_nil, ne_eq, or_false, false_or, or_true, true_or, exitK_some, exitK_none, unw_blk, unw_code, unw_ops, unw_scp, unw_nil, okD_some, okD_none, evO, ev_t, ev_k, get_mk, put_mk, look, putD_some, putD_none, binA, binI, orBad, opK_ok, opK_call, opK_pan, opK_bad, CallK_ret, CallK_pan, cndK_true, cndK_false, pickA, cellsOf, cellsAt, asVal, storeA, splice, litCells, fillA, eqB, eqP, eqS, eqCell, eqCells, intOr, sliceA, appA, elemsA, pures, pureV, argl, resVs, resV, asRes, Nat.reduceEqDiff, Nat.reduceLT, Nat.reduceLeDiff, Nat.reduceAdd, Nat.reduceSub, Nat.reduceMul, reduceIte, reduceCtorEq, true_and, and_true, Bool.false_eq_true, Bool.true_eq_false, Bool.not_true, Bool.not_false, forall_const, forall_eq, imp_false, not_true_eq_false, not_false_eq_true, decide_true, decide_false, cond_true, cond_false, Int.toNat_natCast, Int.natCast_nonneg, List.length_cons, List.length_nil, List.length_append, List.length_map, List.length_set, List.getElem?_cons_zero, List.getElem?_cons_succ, List.getElem?_nil, List.nil_append, List.cons_append, List.append_nil, List.drop_zero, List.drop_succ_cons, List.drop_nil, List.take_succ_cons, List.take_zero, List.take_nil, List.set_cons_zero, List.set_cons_succ, List.set_nil, List.headD_cons, List.map_cons, List.map_nil, Option.map_some, Option.map_none, Nat.le_refl, Nat.zero_le, Nat.add_zero, Nat.zero_add, and_self, IntKind.bits]
  rw [← hQ]
  exact ⟨rfl, _, rfl, _, _, RefV.cut 0 (Nat.le_refl _) (Nat.zero_le _), rfl, by show AEnd.ret (.bool ((decide (0 ≤ idx l g 0) == nt) != true)) = _; cases nt <;> cases decide (0 ≤ idx l g 0) <;> rfl⟩

/-! ### the statement CoverIndex -/
theorem idx_range {l : List Span} : ∀ {lo g n : Int}, RL lo l → 0 ≤ n → idx l g n = -1 ∨ (n ≤ idx l g n ∧ idx l g n < n + cnt l) := by
  induction l with
  | nil => intro lo g n _ _; exact .inl rfl
  | cons s r ih =>
    intro lo g n h hn
    simp only [idx, cnt]
    have h1 := h.2.1
    by_cases h2 : g < s.a
    · rw [if_pos h2]; exact .inl rfl
    · rw [if_neg h2]
      have hc : 0 ≤ cnt r := by
        rcases Int.lt_or_le 65537 (s.b + 2) with hh | hh
        · have := h.2.2.1; omega
        · exact (RL.cnt_le h.2.2.2 hh).1
      by_cases h3 : g ≤ s.b
      · rw [if_pos h3]; right; omega
      · rw [if_neg h3]
        rcases ih h.2.2.2 (show 0 ≤ n + (s.b - s.a + 1) by omega) with h4 | h4
        · exact .inl h4
        · right; omega
theorem idx_at {l : List Span} : ∀ {lo k n : Int} {i : Nat} {s : Span}, RL lo l → l[i]? = some s → s.a ≤ k → k ≤ s.b → idx l k n = n + (cnt (l.take i) + (k - s.a)) := by
  induction l with
  | nil => intro lo k n i s _ hs; simp at hs
  | cons x r ih =>
    intro lo k n i s h hs h1 h2
    cases i with
    | zero =>
      simp at hs; subst hs
      simp only [idx, List.take_zero, cnt]
      rw [if_neg (by omega), if_pos h2]; omega
    | succ i =>
      have hs' : r[i]? = some s := by simpa using hs
      have h3 : x.b + 2 ≤ s.a := by
        rcases Int.lt_or_le (x.b + 2) 0 with hh | hh
        · have := h.2.1
          have : ∀ (r : List Span) (lo : Int) (i : Nat) (s : Span), RL lo r → r[i]? = some s → lo ≤ s.a := by
            intro r
            induction r with
            | nil => intro lo i s _ hs; simp at hs
            | cons y q ihq =>
              intro lo i s h hs
              cases i with
              | zero => simp at hs; subst hs; exact h.1
              | succ i => have := ihq _ i s h.2.2.2 (by simpa using hs); have := h.1; have := h.2.1; omega
          exact this _ _ _ _ h.2.2.2 hs'
        · obtain ⟨lo', h4, h5⟩ := RL.drop i h.2.2.2 hh
          have hd : r.drop i = s :: r.drop (i + 1) := by
            obtain ⟨hi, rfl⟩ := List.getElem?_eq_some_iff.1 hs'
            exact List.drop_eq_getElem_cons _
          rw [hd] at h5
          have := h5.1; omega
      have := h.2.1
      simp only [idx, List.take_succ_cons, cnt]
      rw [if_neg (by omega), if_neg (by omega), ih h.2.2.2 hs' h1 h2]
      omega

def bodyO7 : ACode := match A7 with
  | .seq _ (.seq _ (.seq _ (.seq _ (.seq (.seq _ (.block _ (.loop b))) _)))) => b
  | _ => .skip
def bodyI7 : ACode := match bodyO7 with
  | .seq _ (.seq (.block _ (.seq _ (.block _ (.loop b)))) _) => b
  | _ => .skip
theorem loopI7 (c : Bool) (l : List Span) (g : Int) (hl : l.length ≤ 9223372036854775807) (hr : RL 0 l) (i : Nat) (s : Span) (hs : l[i]? = some s) : ∀ (d : Nat) (k : Int), k + d = s.b + 1 → s.a ≤ k →
    ALp Go.Proofs.Try.prog 0 bodyI7 ⟨76, [(7, .int .i64 k), (6, .int .i64 i), (5, .int .i64 (cnt (l.take i) + (k - s.a))), (0, .vec c (l.map eSpan)), (1, .int .i64 g)], []⟩ [] (fun e ta H => H = [] ∧ match e with
      | .exit 2 => ta = ⟨76, [(6, .int .i64 i), (5, .int .i64 (cnt (l.take (i + 1)))), (0, .vec c (l.map eSpan)), (1, .int .i64 g)], []⟩
      | _ => False) := by
  have hx : (l.map eSpan)[i]? = some [.int .i64 s.a, .int .i64 s.b] := map_at eSpan hs
  have hc := cnt_take hs
  have hb := hr.at (by omega) hs
  have hp := cnt_parts hr i
  intro d
  induction d with
  | zero =>
    intro k hk hk2
    refine ALp.round ?_
    generalize hQ : RoundQ _ _ _ _ = QQ
    have h1 : ¬ k ≤ s.b := by omega
    simp only [bodyI7, bodyO7, A7, h1, hx, M_seq, M_reg, M_op, M_opg, M_ops_nil, M_nil, M_blk, M_scp, M_skip, M_label, M_block, M_scope, M_ret, M_exit, M_cond, M_loop, M_draw, DM_nil, DM_op, DM_opg, dK_ok, dK_call, dK_pan, dK_read, dK_free, dgK_do, dgK_un, grdK_un, dgK_tf, dgK_ft, grdK_do, grdK_tf, grdK_ft, contK_ap, panK_ap, dCallK_ret, dCallK_pan, Chk_nil, Chk_cons, isE, isR, List.mem_cons, List.not_mem_nil, ne_eq, or_false, false_or, or_true, true_or, exitK_some, exitK_none, unw_blk, unw_code, unw_ops, unw_scp, unw_nil, okD_some, okD_none, evO, ev_t, ev_k, get_mk, put_mk, look, putD_some, putD_none, binA, binI, orBad, opK_ok, opK_call, opK_pan, opK_bad, CallK_ret, CallK_pan, cndK_true, cndK_false, pickA, cellsOf, cellsAt, asVal, storeA, splice, litCells, fillA, eqB, eqP, eqS, eqCell, eqCells, intOr, sliceA, appA, elemsA, pures, pureV, argl, resVs, resV, asRes, Nat.reduceEqDiff, Nat.reduceLT, Nat.reduceLeDiff, Nat.reduceAdd, Nat.reduceSub, Nat.reduceMul, reduceIte, reduceCtorEq, true_and, and_true, Bool.false_eq_true, Bool.true_eq_false, Bool.not_true, Bool.not_false, forall_const, forall_eq, imp_false, not_true_eq_false, not_false_eq_true, decide_true, decide_false, cond_true, cond_false, Int.toNat_natCast, Int.natCast_nonneg, List.length_cons, List.length_nil, List.length_append, List.length_map, List.length_set, List.getElem?_cons_zero, List.getElem?_cons_succ, List.getElem?_nil, List.nil_append, List.cons_append, List.append_nil, List.drop_zero, List.drop_succ_cons, List.drop_nil, List.take_succ_cons, List.take_zero, List.take_nil, List.set_cons_zero, List.set_cons_succ, List.set_nil, List.headD_cons, List.map_cons, List.map_nil, Option.map_some, Option.map_none, Nat.le_refl, Nat.zero_le, Nat.add_zero, Nat.zero_add, and_self, IntKind.bits]
    rw [← hQ]
    refine ⟨_, [], Ref.pick [6, 5, 0, 1], rfl, ?_⟩
    rw [hc, show cnt (l.take i) + (s.b - s.a + 1) = cnt (l.take i) + (k - s.a) by omega]
    rfl
  | succ d ih =>
    intro k hk hk2
    refine ALp.round ?_
    generalize hQ : RoundQ _ _ _ _ = QQ
    have h1 : k ≤ s.b := by omega
    have w1 : IntKind.i64.wrap (k + 1) = k + 1 := wrapI (by omega) (by omega)
    have w2 : IntKind.i64.wrap (cnt (l.take i) + (k - s.a) + 1) = cnt (l.take i) + (k + 1 - s.a) := by rw [wrapI (by omega) (by omega)]; omega
    simp only [bodyI7, bodyO7, A7, h1, hx, M_seq, M_reg, M_op, M_opg, M_ops_nil, M_nil, M_blk, M_scp, M_skip, M_label, M_block, M_scope, M_ret, M_exit, M_cond, M_loop, M_draw, DM_nil, DM_op, DM_opg, dK_ok, dK_call, dK_pan, dK_read, dK_free, dgK_do, dgK_un, grdK_un, dgK_tf, dgK_ft, grdK_do, grdK_tf, grdK_ft, contK_ap, panK_ap, dCallK_ret, dCallK_pan, Chk_nil, Chk_cons, isE, isR, List.mem_cons, List.not_mem_nil, ne_eq, or_false, false_or, or_true, true_or, exitK_some, exitK_none, unw_blk, unw_code, unw_ops, unw_scp, unw_nil, okD_some, okD_none, evO, ev_t, ev_k, get_mk, put_mk, look, putD_some, putD_none, binA, binI, orBad, opK_ok, opK_call, opK_pan, opK_bad, CallK_ret, CallK_pan, cndK_true, cndK_false, pickA, cellsOf, cellsAt, asVal, storeA, splice, litCells, fillA, eqB, eqP, eqS, eqCell, eqCells, intOr, sliceA, appA, elemsA, pures, pureV, argl, resVs, resV, asRes, Nat.reduceEqDiff, Nat.reduceLT, Nat.reduceLeDiff, Nat.reduceAdd, Nat.reduceSub, Nat.reduceMul, reduceIte, reduceCtorEq, true_and, and_true, Bool.false_eq_true, Bool.true_eq_false, Bool.not_true, Bool.not_false, forall_const, forall_eq, imp_false, not_true_eq_false, not_false_eq_true, decide_true, decide_false, cond_true, cond_false, Int.toNat_natCast, Int.natCast_nonneg, List.length_cons, List.length_nil, List.length_append, List.length_map, List.length_set, List.getElem?_cons_zero, List.getElem?_cons_succ, List.getElem?_nil, List.nil_append, List.cons_append, List.append_nil, List.drop_zero, List.drop_succ_cons, List.drop_nil, List.take_succ_cons, List.take_zero, List.take_nil, List.set_cons_zero, List.set_cons_succ, List.set_nil, List.headD_cons, List.map_cons, List.map_nil, Option.map_some, Option.map_none, Nat.le_refl, Nat.zero_le, Nat.add_zero, Nat.zero_add, and_self, IntKind.bits]
    refine (spec26 c l k hl hr).lift0 rfl ?_
    rintro _ rfl
    have h2 : idx l k 0 = cnt (l.take i) + (k - s.a) := by rw [idx_at hr hs hk2 h1]; omega
    simp only [h2, w1, w2, AEnd.sub, AV.sub, M_seq, M_reg, M_op, M_opg, M_ops_nil, M_nil, M_blk, M_scp, M_skip, M_label, M_block, M_scope, M_ret, M_exit, M_cond, M_loop, M_draw, DM_nil, DM_op, DM_opg, dK_ok, dK_call, dK_pan, dK_read, dK_free, dgK_do, dgK_un, grdK_un, dgK_tf, dgK_ft, grdK_do, grdK_tf, grdK_ft, contK_ap, panK_ap, dCallK_ret, dCallK_pan, Chk_nil, Chk_cons, isE, isR, List.mem_cons, List.not_mem_nil, ne_eq, or_false, false_or, or_true, true_or, exitK_some, exitK_none, unw_blk, unw_code, unw_ops, unw_scp, unw_nil, okD_some, okD_none, evO, ev_t, ev_k, get_mk, put_mk, look, putD_some, putD_none, binA, binI, orBad, opK_ok, opK_call, opK_pan, opK_bad, CallK_ret, CallK_pan, cndK_true, cndK_false, pickA, cellsOf, cellsAt, asVal, storeA, splice, litCells, fillA, eqB, eqP, eqS, eqCell, eqCells, intOr, sliceA, appA, elemsA, pures, pureV, argl, resVs, resV, asRes, Nat.reduceEqDiff, Nat.reduceLT, Nat.reduceLeDiff, Nat.reduceAdd, Nat.reduceSub, Nat.reduceMul, reduceIte, reduceCtorEq, true_and, and_true, Bool.false_eq_true, Bool.true_eq_false, Bool.not_true, Bool.not_false, forall_const, forall_eq, imp_false, not_true_eq_false, not_false_eq_true, decide_true, decide_false, cond_true, cond_false, Int.toNat_natCast, Int.natCast_nonneg, List.length_cons, List.length_nil, List.length_append, List.length_map, List.length_set, List.getElem?_cons_zero, List.getElem?_cons_succ, List.getElem?_nil, List.nil_append, List.cons_append, List.append_nil, List.drop_zero, List.drop_succ_cons, List.drop_nil, List.take_succ_cons, List.take_zero, List.take_nil, List.set_cons_zero, List.set_cons_succ, List.set_nil, List.headD_cons, List.map_cons, List.map_nil, Option.map_some, Option.map_none, Nat.le_refl, Nat.zero_le, Nat.add_zero, Nat.zero_add, and_self, IntKind.bits]
    rw [← hQ]
    exact ⟨_, [], Ref.pick [7, 6, 5, 0, 1], Nat.le_refl _, ih (k + 1) (by omega) (by omega)⟩

theorem loopO7 (c : Bool) (l : List Span) (g : Int) (hl : l.length ≤ 9223372036854775807) (hr : RL 0 l) : ∀ (d i : Nat), i + d = l.length →
    ALp Go.Proofs.Try.prog 0 bodyO7 ⟨76, [(6, .int .i64 i), (5, .int .i64 (cnt (l.take i))), (0, .vec c (l.map eSpan)), (1, .int .i64 g)], []⟩ [] (fun e ta H => H = [] ∧ match e with
      | .exit 0 => ta = ⟨76, [(5, .int .i64 (cnt l)), (0, .vec c (l.map eSpan)), (1, .int .i64 g)], []⟩
      | _ => False) := by
  intro d
  induction d with
  | zero =>
    intro i hi
    refine ALp.round ?_
    generalize hQ : RoundQ _ _ _ _ = QQ
    have h1 : ¬ (i : Int) < (l.length : Int) := by omega
    simp only [bodyO7, A7, h1, M_seq, M_reg, M_op, M_opg, M_ops_nil, M_nil, M_blk, M_scp, M_skip, M_label, M_block, M_scope, M_ret, M_exit, M_cond, M_loop, M_draw, DM_nil, DM_op, DM_opg, dK_ok, dK_call, dK_pan, dK_read, dK_free, dgK_do, dgK_un, grdK_un, dgK_tf, dgK_ft, grdK_do, grdK_tf, grdK_ft, contK_ap, panK_ap, dCallK_ret, dCallK_pan, Chk_nil, Chk_cons, isE, isR, List.mem_cons, List.not_mem_nil, ne_eq, or_false, false_or, or_true, true_or, exitK_some, exitK_none, unw_blk, unw_code, unw_ops, unw_scp, unw_nil, okD_some, okD_none, evO, ev_t, ev_k, get_mk, put_mk, look, putD_some, putD_none, binA, binI, orBad, opK_ok, opK_call, opK_pan, opK_bad, CallK_ret, CallK_pan, cndK_true, cndK_false, pickA, cellsOf, cellsAt, asVal, storeA, splice, litCells, fillA, eqB, eqP, eqS, eqCell, eqCells, intOr, sliceA, appA, elemsA, pures, pureV, argl, resVs, resV, asRes, Nat.reduceEqDiff, Nat.reduceLT, Nat.reduceLeDiff, Nat.reduceAdd, Nat.reduceSub, Nat.reduceMul, reduceIte, reduceCtorEq, true_and, and_true, Bool.false_eq_true, Bool.true_eq_false, Bool.not_true, Bool.not_false, forall_const, forall_eq, imp_false, not_true_eq_false, not_false_eq_true, decide_true, decide_false, cond_true, cond_false, Int.toNat_natCast, Int.natCast_nonneg, List.length_cons, List.length_nil, List.length_append, List.length_map, List.length_set, List.getElem?_cons_zero, List.getElem?_cons_succ, List.getElem?_nil, List.nil_append, List.cons_append, List.append_nil, List.drop_zero, List.drop_succ_cons, List.drop_nil, List.take_succ_cons, List.take_zero, List.take_nil, List.set_cons_zero, List.set_cons_succ, List.set_nil, List.headD_cons, List.map_cons, List.map_nil, Option.map_some, Option.map_none, Nat.le_refl, Nat.zero_le, Nat.add_zero, Nat.zero_add, and_self, IntKind.bits]
    rw [← hQ]
    refine ⟨_, [], Ref.pick [5, 0, 1], rfl, ?_⟩
    rw [List.take_of_length_le (by omega)]
    rfl
  | succ d ih =>
    intro i hi
    refine ALp.round ?_
    obtain ⟨s, hs, hd⟩ := drop_cons hi
    have hb := hr.at (by omega) hs
    generalize hQ : RoundQ _ _ _ _ = QQ
    have hx : (l.map eSpan)[i]? = some [.int .i64 s.a, .int .i64 s.b] := map_at eSpan hs
    have h1 : (i : Int) < (l.length : Int) := by omega
    have hw := wrapS i (by omega)
    simp only [bodyO7, A7, h1, hx, hw, M_seq, M_reg, M_op, M_opg, M_ops_nil, M_nil, M_blk, M_scp, M_skip, M_label, M_block, M_scope, M_ret, M_exit, M_cond, M_loop, M_draw, DM_nil, DM_op, DM_opg, dK_ok, dK_call, dK_pan, dK_read, dK_free, dgK_do, dgK_un, grdK_un, dgK_tf, dgK_ft, grdK_do, grdK_tf, grdK_ft, contK_ap, panK_ap, dCallK_ret, dCallK_pan, Chk_nil, Chk_cons, isE, isR, List.mem_cons, List.not_mem_nil, ne_eq, or_false, false_or, or_true, true_or, exitK_some, exitK_none, unw_blk, unw_code, unw_ops, unw_scp, unw_nil, okD_some, okD_none, evO, ev_t, ev_k, get_mk, put_mk, look, putD_some, putD_none, binA, binI, orBad, opK_ok, opK_call, opK_pan, opK_bad, CallK_ret, CallK_pan, cndK_true, cndK_false, pickA, cellsOf, cellsAt, asVal, storeA, splice, litCells, fillA, eqB, eqP, eqS, eqCell, eqCells, intOr, sliceA, appA, elemsA, pures, pureV, argl, resVs, resV, asRes, Nat.reduceEqDiff, Nat.reduceLT, Nat.reduceLeDiff, Nat.reduceAdd, Nat.reduceSub, Nat.reduceMul, reduceIte, reduceCtorEq, true_and, and_true, Bool.false_eq_true, Bool.true_eq_false, Bool.not_true, Bool.not_false, forall_const, forall_eq, imp_false, not_true_eq_false, not_false_eq_true, decide_true, decide_false, cond_true, cond_false, Int.toNat_natCast, Int.natCast_nonneg, List.length_cons, List.length_nil, List.length_append, List.length_map, List.length_set, List.getElem?_cons_zero, List.getElem?_cons_succ, List.getElem?_nil, List.nil_append, List.cons_append, List.append_nil, List.drop_zero, List.drop_succ_cons, List.drop_nil, List.take_succ_cons, List.take_zero, List.take_nil, List.set_cons_zero, List.set_cons_succ, List.set_nil, List.headD_cons, List.map_cons, List.map_nil, Option.map_some, Option.map_none, Nat.le_refl, Nat.zero_le, Nat.add_zero, Nat.zero_add, and_self, IntKind.bits]
    have hI := loopI7 c l g hl hr i s hs (s.b - s.a + 1).toNat s.a (by omega) (by omega)
    rw [show cnt (l.take i) + (s.a - s.a) = cnt (l.take i) by omega] at hI
    refine ALp.ref (Ref.pick [7, 6, 5, 0, 1]) (Nat.le_refl _) (ALp.mono hI ?_)
    intro e ta H he
    obtain ⟨rfl, he⟩ := he
    split at he
    · subst he
      simp only [LoopK, hw, M_seq, M_reg, M_op, M_opg, M_ops_nil, M_nil, M_blk, M_scp, M_skip, M_label, M_block, M_scope, M_ret, M_exit, M_cond, M_loop, M_draw, DM_nil, DM_op, DM_opg, dK_ok, dK_call, dK_pan, dK_read, dK_free, dgK_do, dgK_un, grdK_un, dgK_tf, dgK_ft, grdK_do, grdK_tf, grdK_ft, contK_ap, panK_ap, dCallK_ret, dCallK_pan, Chk_nil, Chk_cons, isE, isR, List.mem_cons, List.not_mem_nil, ne_eq, or_false, false_or, or_true, true_or, exitK_some, exitK_none, unw_blk, unw_code, unw_ops, unw_scp, unw_nil, okD_some, okD_none, evO, ev_t, ev_k, get_mk, put_mk, look, putD_some, putD_none, binA, binI, orBad, opK_ok, opK_call, opK_pan, opK_bad, CallK_ret, CallK_pan, cndK_true, cndK_false, pickA, cellsOf, cellsAt, asVal, storeA, splice, litCells, fillA, eqB, eqP, eqS, eqCell, eqCells, intOr, sliceA, appA, elemsA, pures, pureV, argl, resVs, resV, asRes, Nat.reduceEqDiff, Nat.reduceLT, Nat.reduceLeDiff, Nat.reduceAdd, Nat.reduceSub, Nat.reduceMul, reduceIte, reduceCtorEq, true_and, and_true, Bool.false_eq_true, Bool.true_eq_false, Bool.not_true, Bool.not_false, forall_const, forall_eq, imp_false, not_true_eq_false, not_false_eq_true, decide_true, decide_false, cond_true, cond_false, Int.toNat_natCast, Int.natCast_nonneg, List.length_cons, List.length_nil, List.length_append, List.length_map, List.length_set, List.getElem?_cons_zero, List.getElem?_cons_succ, List.getElem?_nil, List.nil_append, List.cons_append, List.append_nil, List.drop_zero, List.drop_succ_cons, List.drop_nil, List.take_succ_cons, List.take_zero, List.take_nil, List.set_cons_zero, List.set_cons_succ, List.set_nil, List.headD_cons, List.map_cons, List.map_nil, Option.map_some, Option.map_none, Nat.le_refl, Nat.zero_le, Nat.add_zero, Nat.zero_add, and_self, IntKind.bits]
      rw [← hQ]
      exact ⟨_, [], Ref.pick [6, 5, 0, 1], Nat.le_refl _, ih (i + 1) (by omega)⟩
    · exact he.elim

theorem law7 (c : Bool) (l : List Span) (g : Int) (hl : l.length ≤ 9223372036854775807) : ACalls Go.Proofs.Try.prog 7 [.vec c (l.map eSpan), .int .i64 g] [] (fun e H => e = .ret (.bool true)) := by
  refine ACalls.go Go.Proofs.Try.func7 n7 a7 Go.Proofs.Try.ntmps7 r7 (by simp) ?_
  generalize hQ : bodyA _ _ _ = QQ
  have fin : ∀ n l' H, look l' 4 = .bool true → QQ .ret ⟨n, l', []⟩ H := by
    intro n l' H h
    rw [← hQ]
    exact ⟨rfl, [.bool true], by simp only [resVs, resV, get_mk, h], _, _, RefV.refl _ _ _, rfl⟩
  simp only [A7, M_seq, M_reg, M_op, M_opg, M_ops_nil, M_nil, M_blk, M_scp, M_skip, M_label, M_block, M_scope, M_ret, M_exit, M_cond, M_loop, M_draw, DM_nil, DM_op, DM_opg, dK_ok, dK_call, dK_pan, dK_read, dK_free, dgK_do, dgK_un, grdK_un, dgK_tf, dgK_ft, grdK_do, grdK_tf, grdK_ft, contK_ap, panK_ap, dCallK_ret, dCallK_pan, Chk_nil, Chk_cons, isE, isR, List.mem_cons, List.not_mem_nil, ne_eq, or_false, false_or, or_true, true_or, exitK_some, exitK_none, unw_blk, unw_code, unw_ops, unw_scp, unw_nil, okD_some, okD_none, evO, ev_t, ev_k, get_mk, put_mk, look, putD_some, putD_none, binA, binI, orBad, opK_ok, opK_call, opK_pan, opK_bad, CallK_ret, CallK_pan, cndK_true, cndK_false, pickA, cellsOf, cellsAt, asVal, storeA, splice, litCells, fillA, eqB, eqP, eqS, eqCell, eqCells, intOr, sliceA, appA, elemsA, pures, pureV, argl, resVs, resV, asRes, Nat.reduceEqDiff, Nat.reduceLT, Nat.reduceLeDiff, Nat.reduceAdd, Nat.reduceSub, Nat.reduceMul, reduceIte, reduceCtorEq, true_and, and_true, Bool.false_eq_true, Bool.true_eq_false, Bool.not_true, Bool.not_false, forall_const, forall_eq, imp_false, not_true_eq_false, not_false_eq_true, decide_true, decide_false, cond_true, cond_false, Int.toNat_natCast, Int.natCast_nonneg, List.length_cons, List.length_nil, List.length_append, List.length_map, List.length_set, List.getElem?_cons_zero, List.getElem?_cons_succ, List.getElem?_nil, List.nil_append, List.cons_append, List.append_nil, List.drop_zero, List.drop_succ_cons, List.drop_nil, List.take_succ_cons, List.take_zero, List.take_nil, List.set_cons_zero, List.set_cons_succ, List.set_nil, List.headD_cons, List.map_cons, List.map_nil, Option.map_some, Option.map_none, Nat.le_refl, Nat.zero_le, Nat.add_zero, Nat.zero_add, and_self, IntKind.bits]
  refine alive.lift0 rfl ?_
  rintro _ rfl
  simp only [AEnd.sub, AV.sub, M_seq, M_reg, M_op, M_opg, M_ops_nil, M_nil, M_blk, M_scp, M_skip, M_label, M_block, M_scope, M_ret, M_exit, M_cond, M_loop, M_draw, DM_nil, DM_op, DM_opg, dK_ok, dK_call, dK_pan, dK_read, dK_free, dgK_do, dgK_un, grdK_un, dgK_tf, dgK_ft, grdK_do, grdK_tf, grdK_ft, contK_ap, panK_ap, dCallK_ret, dCallK_pan, Chk_nil, Chk_cons, isE, isR, List.mem_cons, List.not_mem_nil, ne_eq, or_false, false_or, or_true, true_or, exitK_some, exitK_none, unw_blk, unw_code, unw_ops, unw_scp, unw_nil, okD_some, okD_none, evO, ev_t, ev_k, get_mk, put_mk, look, putD_some, putD_none, binA, binI, orBad, opK_ok, opK_call, opK_pan, opK_bad, CallK_ret, CallK_pan, cndK_true, cndK_false, pickA, cellsOf, cellsAt, asVal, storeA, splice, litCells, fillA, eqB, eqP, eqS, eqCell, eqCells, intOr, sliceA, appA, elemsA, pures, pureV, argl, resVs, resV, asRes, Nat.reduceEqDiff, Nat.reduceLT, Nat.reduceLeDiff, Nat.reduceAdd, Nat.reduceSub, Nat.reduceMul, reduceIte, reduceCtorEq, true_and, and_true, Bool.false_eq_true, Bool.true_eq_false, Bool.not_true, Bool.not_false, forall_const, forall_eq, imp_false, not_true_eq_false, not_false_eq_true, decide_true, decide_false, cond_true, cond_false, Int.toNat_natCast, Int.natCast_nonneg, List.length_cons, List.length_nil, List.length_append, List.length_map, List.length_set, List.getElem?_cons_zero, List.getElem?_cons_succ, List.getElem?_nil, List.nil_append, List.cons_append, List.append_nil, List.drop_zero, List.drop_succ_cons, List.drop_nil, List.take_succ_cons, List.take_zero, List.take_nil, List.set_cons_zero, List.set_cons_succ, List.set_nil, List.headD_cons, List.map_cons, List.map_nil, Option.map_some, Option.map_none, Nat.le_refl, Nat.zero_le, Nat.add_zero, Nat.zero_add, and_self, IntKind.bits]
  refine (spec24 c l hl).lift0 rfl ?_
  rintro _ ⟨b, rfl, hb⟩
  cases b with
  | false =>
    simp only [AEnd.sub, AV.sub, M_seq, M_reg, M_op, M_opg, M_ops_nil, M_nil, M_blk, M_scp, M_skip, M_label, M_block, M_scope, M_ret, M_exit, M_cond, M_loop, M_draw, DM_nil, DM_op, DM_opg, dK_ok, dK_call, dK_pan, dK_read, dK_free, dgK_do, dgK_un, grdK_un, dgK_tf, dgK_ft, grdK_do, grdK_tf, grdK_ft, contK_ap, panK_ap, dCallK_ret, dCallK_pan, Chk_nil, Chk_cons, isE, isR, List.mem_cons, List.not_mem_nil, ne_eq, or_false, false_or, or_true, true_or, exitK_some, exitK_none, unw_blk, unw_code, unw_ops, unw_scp, unw_nil, okD_some, okD_none, evO, ev_t, ev_k, get_mk, put_mk, look, putD_some, putD_none, binA, binI, orBad, opK_ok, opK_call, opK_pan, opK_bad, CallK_ret, CallK_pan, cndK_true, cndK_false, pickA, cellsOf, cellsAt, asVal, storeA, splice, litCells, fillA, eqB, eqP, eqS, eqCell, eqCells, intOr, sliceA, appA, elemsA, pures, pureV, argl, resVs, resV, asRes, Nat.reduceEqDiff, Nat.reduceLT, Nat.reduceLeDiff, Nat.reduceAdd, Nat.reduceSub, Nat.reduceMul, reduceIte, reduceCtorEq, true_and, and_true, Bool.false_eq_true, Bool.true_eq_false, Bool.not_true, Bool.not_false, forall_const, forall_eq, imp_false, not_true_eq_false, not_false_eq_true, decide_true, decide_false, cond_true, cond_false, Int.toNat_natCast, Int.natCast_nonneg, List.length_cons, List.length_nil, List.length_append, List.length_map, List.length_set, List.getElem?_cons_zero, List.getElem?_cons_succ, List.getElem?_nil, List.nil_append, List.cons_append, List.append_nil, List.drop_zero, List.drop_succ_cons, List.drop_nil, List.take_succ_cons, List.take_zero, List.take_nil, List.set_cons_zero, List.set_cons_succ, List.set_nil, List.headD_cons, List.map_cons, List.map_nil, Option.map_some, Option.map_none, Nat.le_refl, Nat.zero_le, Nat.add_zero, Nat.zero_add, and_self, IntKind.bits]
    exact fin _ _ _ rfl
  | true =>
    have hr := (hb rfl).rl
    simp only [AEnd.sub, AV.sub, M_seq, M_reg, M_op, M_opg, M_ops_nil, M_nil, M_blk, M_scp, M_skip, M_label, M_block, M_scope, M_ret, M_exit, M_cond, M_loop, M_draw, DM_nil, DM_op, DM_opg, dK_ok, dK_call, dK_pan, dK_read, dK_free, dgK_do, dgK_un, grdK_un, dgK_tf, dgK_ft, grdK_do, grdK_tf, grdK_ft, contK_ap, panK_ap, dCallK_ret, dCallK_pan, Chk_nil, Chk_cons, isE, isR, List.mem_cons, List.not_mem_nil, ne_eq, or_false, false_or, or_true, true_or, exitK_some, exitK_none, unw_blk, unw_code, unw_ops, unw_scp, unw_nil, okD_some, okD_none, evO, ev_t, ev_k, get_mk, put_mk, look, putD_some, putD_none, binA, binI, orBad, opK_ok, opK_call, opK_pan, opK_bad, CallK_ret, CallK_pan, cndK_true, cndK_false, pickA, cellsOf, cellsAt, asVal, storeA, splice, litCells, fillA, eqB, eqP, eqS, eqCell, eqCells, intOr, sliceA, appA, elemsA, pures, pureV, argl, resVs, resV, asRes, Nat.reduceEqDiff, Nat.reduceLT, Nat.reduceLeDiff, Nat.reduceAdd, Nat.reduceSub, Nat.reduceMul, reduceIte, reduceCtorEq, true_and, and_true, Bool.false_eq_true, Bool.true_eq_false, Bool.not_true, Bool.not_false, forall_const, forall_eq, imp_false, not_true_eq_false, not_false_eq_true, decide_true, decide_false, cond_true, cond_false, Int.toNat_natCast, Int.natCast_nonneg, List.length_cons, List.length_nil, List.length_append, List.length_map, List.length_set, List.getElem?_cons_zero, List.getElem?_cons_succ, List.getElem?_nil, List.nil_append, List.cons_append, List.append_nil, List.drop_zero, List.drop_succ_cons, List.drop_nil, List.take_succ_cons, List.take_zero, List.take_nil, List.set_cons_zero, List.set_cons_succ, List.set_nil, List.headD_cons, List.map_cons, List.map_nil, Option.map_some, Option.map_none, Nat.le_refl, Nat.zero_le, Nat.add_zero, Nat.zero_add, and_self, IntKind.bits]
    by_cases h1 : (l.length : Int) > 50
    · simp only [h1, M_seq, M_reg, M_op, M_opg, M_ops_nil, M_nil, M_blk, M_scp, M_skip, M_label, M_block, M_scope, M_ret, M_exit, M_cond, M_loop, M_draw, DM_nil, DM_op, DM_opg, dK_ok, dK_call, dK_pan, dK_read, dK_free, dgK_do, dgK_un, grdK_un, dgK_tf, dgK_ft, grdK_do, grdK_tf, grdK_ft, contK_ap, panK_ap, dCallK_ret, dCallK_pan, Chk_nil, Chk_cons, isE, isR, List.mem_cons, List.not_mem_nil, ne_eq, or_false, false_or, or_true, true_or, exitK_some, exitK_none, unw_blk, unw_code, unw_ops, unw_scp, unw_nil, okD_some, okD_none, evO, ev_t, ev_k, get_mk, put_mk, look, putD_some, putD_none, binA, binI, orBad, opK_ok, opK_call, opK_pan, opK_bad, CallK_ret, CallK_pan, cndK_true, cndK_false, pickA, cellsOf, cellsAt, asVal, storeA, splice, litCells, fillA, eqB, eqP, eqS, eqCell, eqCells, intOr, sliceA, appA, elemsA, pures, pureV, argl, resVs, resV, asRes, Nat.reduceEqDiff, Nat.reduceLT, Nat.reduceLeDiff, Nat.reduceAdd, Nat.reduceSub, Nat.reduceMul, reduceIte, reduceCtorEq, true_and, and_true, Bool.false_eq_true, Bool.true_eq_false, Bool.not_true, Bool.not_false, forall_const, forall_eq, imp_false, not_true_eq_false, not_false_eq_true, decide_true, decide_false, cond_true, cond_false, Int.toNat_natCast, Int.natCast_nonneg, List.length_cons, List.length_nil, List.length_append, List.length_map, List.length_set, List.getElem?_cons_zero, List.getElem?_cons_succ, List.getElem?_nil, List.nil_append, List.cons_append, List.append_nil, List.drop_zero, List.drop_succ_cons, List.drop_nil, List.take_succ_cons, List.take_zero, List.take_nil, List.set_cons_zero, List.set_cons_succ, List.set_nil, List.headD_cons, List.map_cons, List.map_nil, Option.map_some, Option.map_none, Nat.le_refl, Nat.zero_le, Nat.add_zero, Nat.zero_add, and_self, IntKind.bits]
      exact fin _ _ _ rfl
    simp only [h1, M_seq, M_reg, M_op, M_opg, M_ops_nil, M_nil, M_blk, M_scp, M_skip, M_label, M_block, M_scope, M_ret, M_exit, M_cond, M_loop, M_draw, DM_nil, DM_op, DM_opg, dK_ok, dK_call, dK_pan, dK_read, dK_free, dgK_do, dgK_un, grdK_un, dgK_tf, dgK_ft, grdK_do, grdK_tf, grdK_ft, contK_ap, panK_ap, dCallK_ret, dCallK_pan, Chk_nil, Chk_cons, isE, isR, List.mem_cons, List.not_mem_nil, ne_eq, or_false, false_or, or_true, true_or, exitK_some, exitK_none, unw_blk, unw_code, unw_ops, unw_scp, unw_nil, okD_some, okD_none, evO, ev_t, ev_k, get_mk, put_mk, look, putD_some, putD_none, binA, binI, orBad, opK_ok, opK_call, opK_pan, opK_bad, CallK_ret, CallK_pan, cndK_true, cndK_false, pickA, cellsOf, cellsAt, asVal, storeA, splice, litCells, fillA, eqB, eqP, eqS, eqCell, eqCells, intOr, sliceA, appA, elemsA, pures, pureV, argl, resVs, resV, asRes, Nat.reduceEqDiff, Nat.reduceLT, Nat.reduceLeDiff, Nat.reduceAdd, Nat.reduceSub, Nat.reduceMul, reduceIte, reduceCtorEq, true_and, and_true, Bool.false_eq_true, Bool.true_eq_false, Bool.not_true, Bool.not_false, forall_const, forall_eq, imp_false, not_true_eq_false, not_false_eq_true, decide_true, decide_false, cond_true, cond_false, Int.toNat_natCast, Int.natCast_nonneg, List.length_cons, List.length_nil, List.length_append, List.length_map, List.length_set, List.getElem?_cons_zero, List.getElem?_cons_succ, List.getElem?_nil, List.nil_append, List.cons_append, List.append_nil, List.drop_zero, List.drop_succ_cons, List.drop_nil, List.take_succ_cons, List.take_zero, List.take_nil, List.set_cons_zero, List.set_cons_succ, List.set_nil, List.headD_cons, List.map_cons, List.map_nil, Option.map_some, Option.map_none, Nat.le_refl, Nat.zero_le, Nat.add_zero, Nat.zero_add, and_self, IntKind.bits]
    refine (spec28 c l hl hr).lift0 rfl ?_
    rintro _ rfl
    simp only [AEnd.sub, AV.sub, M_seq, M_reg, M_op, M_opg, M_ops_nil, M_nil, M_blk, M_scp, M_skip, M_label, M_block, M_scope, M_ret, M_exit, M_cond, M_loop, M_draw, DM_nil, DM_op, DM_opg, dK_ok, dK_call, dK_pan, dK_read, dK_free, dgK_do, dgK_un, grdK_un, dgK_tf, dgK_ft, grdK_do, grdK_tf, grdK_ft, contK_ap, panK_ap, dCallK_ret, dCallK_pan, Chk_nil, Chk_cons, isE, isR, List.mem_cons, List.not_mem_nil, ne_eq, or_false, false_or, or_true, true_or, exitK_some, exitK_none, unw_blk, unw_code, unw_ops, unw_scp, unw_nil, okD_some, okD_none, evO, ev_t, ev_k, get_mk, put_mk, look, putD_some, putD_none, binA, binI, orBad, opK_ok, opK_call, opK_pan, opK_bad, CallK_ret, CallK_pan, cndK_true, cndK_false, pickA, cellsOf, cellsAt, asVal, storeA, splice, litCells, fillA, eqB, eqP, eqS, eqCell, eqCells, intOr, sliceA, appA, elemsA, pures, pureV, argl, resVs, resV, asRes, Nat.reduceEqDiff, Nat.reduceLT, Nat.reduceLeDiff, Nat.reduceAdd, Nat.reduceSub, Nat.reduceMul, reduceIte, reduceCtorEq, true_and, and_true, Bool.false_eq_true, Bool.true_eq_false, Bool.not_true, Bool.not_false, forall_const, forall_eq, imp_false, not_true_eq_false, not_false_eq_true, decide_true, decide_false, cond_true, cond_false, Int.toNat_natCast, Int.natCast_nonneg, List.length_cons, List.length_nil, List.length_append, List.length_map, List.length_set, List.getElem?_cons_zero, List.getElem?_cons_succ, List.getElem?_nil, List.nil_append, List.cons_append, List.append_nil, List.drop_zero, List.drop_succ_cons, List.drop_nil, List.take_succ_cons, List.take_zero, List.take_nil, List.set_cons_zero, List.set_cons_succ, List.set_nil, List.headD_cons, List.map_cons, List.map_nil, Option.map_some, Option.map_none, Nat.le_refl, Nat.zero_le, Nat.add_zero, Nat.zero_add, and_self, IntKind.bits]
    by_cases h2 : cnt l > 300
    · simp only [h2, M_seq, M_reg, M_op, M_opg, M_ops_nil, M_nil, M_blk, M_scp, M_skip, M_label, M_block, M_scope, M_ret, M_exit, M_cond, M_loop, M_draw, DM_nil, DM_op, DM_opg, dK_ok, dK_call, dK_pan, dK_read, dK_free, dgK_do, dgK_un, grdK_un, dgK_tf, dgK_ft, grdK_do, grdK_tf, grdK_ft, contK_ap, panK_ap, dCallK_ret, dCallK_pan, Chk_nil, Chk_cons, isE, isR, List.mem_cons, List.not_mem_nil, ne_eq, or_false, false_or, or_true, true_or, exitK_some, exitK_none, unw_blk, unw_code, unw_ops, unw_scp, unw_nil, okD_some, okD_none, evO, ev_t, ev_k, get_mk, put_mk, look, putD_some, putD_none, binA, binI, orBad, opK_ok, opK_call, opK_pan, opK_bad, CallK_ret, CallK_pan, cndK_true, cndK_false, pickA, cellsOf, cellsAt, asVal, storeA, splice, litCells, fillA, eqB, eqP, eqS, eqCell, eqCells, intOr, sliceA, appA, elemsA, pures, pureV, argl, resVs, resV, asRes, Nat.reduceEqDiff, Nat.reduceLT, Nat.reduceLeDiff, Nat.reduceAdd, Nat.reduceSub, Nat.reduceMul, reduceIte, reduceCtorEq, true_and, and_true, Bool.false_eq_true, Bool.true_eq_false, Bool.not_true, Bool.not_false, forall_const, forall_eq, imp_false, not_true_eq_false, not_false_eq_true, decide_true, decide_false, cond_true, cond_false, Int.toNat_natCast, Int.natCast_nonneg, List.length_cons, List.length_nil, List.length_append, List.length_map, List.length_set, List.getElem?_cons_zero, List.getElem?_cons_succ, List.getElem?_nil, List.nil_append, List.cons_append, List.append_nil, List.drop_zero, List.drop_succ_cons, List.drop_nil, List.take_succ_cons, List.take_zero, List.take_nil, List.set_cons_zero, List.set_cons_succ, List.set_nil, List.headD_cons, List.map_cons, List.map_nil, Option.map_some, Option.map_none, Nat.le_refl, Nat.zero_le, Nat.add_zero, Nat.zero_add, and_self, IntKind.bits]
      exact fin _ _ _ rfl
    simp only [h2, M_seq, M_reg, M_op, M_opg, M_ops_nil, M_nil, M_blk, M_scp, M_skip, M_label, M_block, M_scope, M_ret, M_exit, M_cond, M_loop, M_draw, DM_nil, DM_op, DM_opg, dK_ok, dK_call, dK_pan, dK_read, dK_free, dgK_do, dgK_un, grdK_un, dgK_tf, dgK_ft, grdK_do, grdK_tf, grdK_ft, contK_ap, panK_ap, dCallK_ret, dCallK_pan, Chk_nil, Chk_cons, isE, isR, List.mem_cons, List.not_mem_nil, ne_eq, or_false, false_or, or_true, true_or, exitK_some, exitK_none, unw_blk, unw_code, unw_ops, unw_scp, unw_nil, okD_some, okD_none, evO, ev_t, ev_k, get_mk, put_mk, look, putD_some, putD_none, binA, binI, orBad, opK_ok, opK_call, opK_pan, opK_bad, CallK_ret, CallK_pan, cndK_true, cndK_false, pickA, cellsOf, cellsAt, asVal, storeA, splice, litCells, fillA, eqB, eqP, eqS, eqCell, eqCells, intOr, sliceA, appA, elemsA, pures, pureV, argl, resVs, resV, asRes, Nat.reduceEqDiff, Nat.reduceLT, Nat.reduceLeDiff, Nat.reduceAdd, Nat.reduceSub, Nat.reduceMul, reduceIte, reduceCtorEq, true_and, and_true, Bool.false_eq_true, Bool.true_eq_false, Bool.not_true, Bool.not_false, forall_const, forall_eq, imp_false, not_true_eq_false, not_false_eq_true, decide_true, decide_false, cond_true, cond_false, Int.toNat_natCast, Int.natCast_nonneg, List.length_cons, List.length_nil, List.length_append, List.length_map, List.length_set, List.getElem?_cons_zero, List.getElem?_cons_succ, List.getElem?_nil, List.nil_append, List.cons_append, List.append_nil, List.drop_zero, List.drop_succ_cons, List.drop_nil, List.take_succ_cons, List.take_zero, List.take_nil, List.set_cons_zero, List.set_cons_succ, List.set_nil, List.headD_cons, List.map_cons, List.map_nil, Option.map_some, Option.map_none, Nat.le_refl, Nat.zero_le, Nat.add_zero, Nat.zero_add, and_self, IntKind.bits]
    refine ALp.ref (Ref.pick [6, 5, 0, 1]) (Nat.le_refl _) (ALp.mono (loopO7 c l g hl hr l.length 0 (by omega)) ?_)
    intro e ta H he
    obtain ⟨rfl, he⟩ := he
    split at he
    · subst he
      simp only [LoopK, M_seq, M_reg, M_op, M_opg, M_ops_nil, M_nil, M_blk, M_scp, M_skip, M_label, M_block, M_scope, M_ret, M_exit, M_cond, M_loop, M_draw, DM_nil, DM_op, DM_opg, dK_ok, dK_call, dK_pan, dK_read, dK_free, dgK_do, dgK_un, grdK_un, dgK_tf, dgK_ft, grdK_do, grdK_tf, grdK_ft, contK_ap, panK_ap, dCallK_ret, dCallK_pan, Chk_nil, Chk_cons, isE, isR, List.mem_cons, List.not_mem_nil, ne_eq, or_false, false_or, or_true, true_or, exitK_some, exitK_none, unw_blk, unw_code, unw_ops, unw_scp, unw_nil, okD_some, okD_none, evO, ev_t, ev_k, get_mk, put_mk, look, putD_some, putD_none, binA, binI, orBad, opK_ok, opK_call, opK_pan, opK_bad, CallK_ret, CallK_pan, cndK_true, cndK_false, pickA, cellsOf, cellsAt, asVal, storeA, splice, litCells, fillA, eqB, eqP, eqS, eqCell, eqCells, intOr, sliceA, appA, elemsA, pures, pureV, argl, resVs, resV, asRes, Nat.reduceEqDiff, Nat.reduceLT, Nat.reduceLeDiff, Nat.reduceAdd, Nat.reduceSub, Nat.reduceMul, reduceIte, reduceCtorEq, true_and, and_true, Bool.false_eq_true, Bool.true_eq_false, Bool.not_true, Bool.not_false, forall_const, forall_eq, imp_false, not_true_eq_false, not_false_eq_true, decide_true, decide_false, cond_true, cond_false, Int.toNat_natCast, Int.natCast_nonneg, List.length_cons, List.length_nil, List.length_append, List.length_map, List.length_set, List.getElem?_cons_zero, List.getElem?_cons_succ, List.getElem?_nil, List.nil_append, List.cons_append, List.append_nil, List.drop_zero, List.drop_succ_cons, List.drop_nil, List.take_succ_cons, List.take_zero, List.take_nil, List.set_cons_zero, List.set_cons_succ, List.set_nil, List.headD_cons, List.map_cons, List.map_nil, Option.map_some, Option.map_none, Nat.le_refl, Nat.zero_le, Nat.add_zero, Nat.zero_add, and_self, IntKind.bits]
      refine (spec26 c l g hl hr).lift0 rfl ?_
      rintro _ rfl
      simp only [AEnd.sub, AV.sub, M_seq, M_reg, M_op, M_opg, M_ops_nil, M_nil, M_blk, M_scp, M_skip, M_label, M_block, M_scope, M_ret, M_exit, M_cond, M_loop, M_draw, DM_nil, DM_op, DM_opg, dK_ok, dK_call, dK_pan, dK_read, dK_free, dgK_do, dgK_un, grdK_un, dgK_tf, dgK_ft, grdK_do, grdK_tf, grdK_ft, contK_ap, panK_ap, dCallK_ret, dCallK_pan, Chk_nil, Chk_cons, isE, isR, List.mem_cons, List.not_mem_nil, ne_eq, or_false, false_or, or_true, true_or, exitK_some, exitK_none, unw_blk, unw_code, unw_ops, unw_scp, unw_nil, okD_some, okD_none, evO, ev_t, ev_k, get_mk, put_mk, look, putD_some, putD_none, binA, binI, orBad, opK_ok, opK_call, opK_pan, opK_bad, CallK_ret, CallK_pan, cndK_true, cndK_false, pickA, cellsOf, cellsAt, asVal, storeA, splice, litCells, fillA, eqB, eqP, eqS, eqCell, eqCells, intOr, sliceA, appA, elemsA, pures, pureV, argl, resVs, resV, asRes, Nat.reduceEqDiff, Nat.reduceLT, Nat.reduceLeDiff, Nat.reduceAdd, Nat.reduceSub, Nat.reduceMul, reduceIte, reduceCtorEq, true_and, and_true, Bool.false_eq_true, Bool.true_eq_false, Bool.not_true, Bool.not_false, forall_const, forall_eq, imp_false, not_true_eq_false, not_false_eq_true, decide_true, decide_false, cond_true, cond_false, Int.toNat_natCast, Int.natCast_nonneg, List.length_cons, List.length_nil, List.length_append, List.length_map, List.length_set, List.getElem?_cons_zero, List.getElem?_cons_succ, List.getElem?_nil, List.nil_append, List.cons_append, List.append_nil, List.drop_zero, List.drop_succ_cons, List.drop_nil, List.take_succ_cons, List.take_zero, List.take_nil, List.set_cons_zero, List.set_cons_succ, List.set_nil, List.headD_cons, List.map_cons, List.map_nil, Option.map_some, Option.map_none, Nat.le_refl, Nat.zero_le, Nat.add_zero, Nat.zero_add, and_self, IntKind.bits]
      refine (spec28 c l hl hr).lift0 rfl ?_
      rintro _ rfl
      have hi := idx_range (g := g) hr (Int.le_refl 0)
      have h3 : idx l g 0 ≥ -1 := by omega
      have h4 : idx l g 0 < cnt l := by have := (cnt_parts hr 0); omega
      simp only [AEnd.sub, AV.sub, h3, h4, M_seq, M_reg, M_op, M_opg, M_ops_nil, M_nil, M_blk, M_scp, M_skip, M_label, M_block, M_scope, M_ret, M_exit, M_cond, M_loop, M_draw, DM_nil, DM_op, DM_opg, dK_ok, dK_call, dK_pan, dK_read, dK_free, dgK_do, dgK_un, grdK_un, dgK_tf, dgK_ft, grdK_do, grdK_tf, grdK_ft, contK_ap, panK_ap, dCallK_ret, dCallK_pan, Chk_nil, Chk_cons, isE, isR, List.mem_cons, List.not_mem_nil, ne_eq, or_false, false_or, or_true, true_or, exitK_some, exitK_none, unw_blk, unw_code, unw_ops, unw_scp, unw_nil, okD_some, okD_none, evO, ev_t, ev_k, get_mk, put_mk, look, putD_some, putD_none, binA, binI, orBad, opK_ok, opK_call, opK_pan, opK_bad, CallK_ret, CallK_pan, cndK_true, cndK_false, pickA, cellsOf, cellsAt, asVal, storeA, splice, litCells, fillA, eqB, eqP, eqS, eqCell, eqCells, intOr, sliceA, appA, elemsA, pures, pureV, argl, resVs, resV, asRes, Nat.reduceEqDiff, Nat.reduceLT, Nat.reduceLeDiff, Nat.reduceAdd, Nat.reduceSub, Nat.reduceMul, reduceIte, reduceCtorEq, true_and, and_true, Bool.false_eq_true, Bool.true_eq_false, Bool.not_true, Bool.not_false, forall_const, forall_eq, imp_false, not_true_eq_false, not_false_eq_true, decide_true, decide_false, cond_true, cond_false, Int.toNat_natCast, Int.natCast_nonneg, List.length_cons, List.length_nil, List.length_append, List.length_map, List.length_set, List.getElem?_cons_zero, List.getElem?_cons_succ, List.getElem?_nil, List.nil_append, List.cons_append, List.append_nil, List.drop_zero, List.drop_succ_cons, List.drop_nil, List.take_succ_cons, List.take_zero, List.take_nil, List.set_cons_zero, List.set_cons_succ, List.set_nil, List.headD_cons, List.map_cons, List.map_nil, Option.map_some, Option.map_none, Nat.le_refl, Nat.zero_le, Nat.add_zero, Nat.zero_add, and_self, IntKind.bits]
      refine (spec31 c l false g hl hr).lift0 rfl ?_
      rintro _ rfl
      by_cases h5 : (0 : Int) ≤ idx l g 0
      · simp only [AEnd.sub, AV.sub, h5, M_seq, M_reg, M_op, M_opg, M_ops_nil, M_nil, M_blk, M_scp, M_skip, M_label, M_block, M_scope, M_ret, M_exit, M_cond, M_loop, M_draw, DM_nil, DM_op, DM_opg, dK_ok, dK_call, dK_pan, dK_read, dK_free, dgK_do, dgK_un, grdK_un, dgK_tf, dgK_ft, grdK_do, grdK_tf, grdK_ft, contK_ap, panK_ap, dCallK_ret, dCallK_pan, Chk_nil, Chk_cons, isE, isR, List.mem_cons, List.not_mem_nil, ne_eq, or_false, false_or, or_true, true_or, exitK_some, exitK_none, unw_blk, unw_code, unw_ops, unw_scp, unw_nil, okD_some, okD_none, evO, ev_t, ev_k, get_mk, put_mk, look, putD_some, putD_none, binA, binI, orBad, opK_ok, opK_call, opK_pan, opK_bad, CallK_ret, CallK_pan, cndK_true, cndK_false, pickA, cellsOf, cellsAt, asVal, storeA, splice, litCells, fillA, eqB, eqP, eqS, eqCell, eqCells, intOr, sliceA, appA, elemsA, pures, pureV, argl, resVs, resV, asRes, Nat.reduceEqDiff, Nat.reduceLT, Nat.reduceLeDiff, Nat.reduceAdd, Nat.reduceSub, Nat.reduceMul, reduceIte, reduceCtorEq, true_and, and_true, Bool.false_eq_true, Bool.true_eq_false, Bool.not_true, Bool.not_false, forall_const, forall_eq, imp_false, not_true_eq_false, not_false_eq_true, decide_true, decide_false, cond_true, cond_false, Int.toNat_natCast, Int.natCast_nonneg, List.length_cons, List.length_nil, List.length_append, List.length_map, List.length_set, List.getElem?_cons_zero, List.getElem?_cons_succ, List.getElem?_nil, List.nil_append, List.cons_append, List.append_nil, List.drop_zero, List.drop_succ_cons, List.drop_nil, List.take_succ_cons, List.take_zero, List.take_nil, List.set_cons_zero, List.set_cons_succ, List.set_nil, List.headD_cons, List.map_cons, List.map_nil, Option.map_some, Option.map_none, Nat.le_refl, Nat.zero_le, Nat.add_zero, Nat.zero_add, and_self, IntKind.bits]
        exact fin _ _ _ rfl
      · simp only [AEnd.sub, AV.sub, h5, M_seq, M_reg, M_op, M_opg, M_ops_nil, M_nil, M_blk, M_scp, M_skip, M_label, M_block, M_scope, M_ret, M_exit, M_cond, M_loop, M_draw, DM_nil, DM_op, DM_opg, dK_ok, dK_call, dK_pan, dK_read, dK_free, dgK_do, dgK_un, grdK_un, dgK_tf, dgK_ft, grdK_do, grdK_tf, grdK_ft, contK_ap, panK_ap, dCallK_ret, dCallK_pan, Chk_nil, Chk_cons, isE, isR, List.mem_cons, List.not_mem_nil, ne_eq, or_false, false_or, or_true, true_or, exitK_some, exitK_none, unw_blk, unw_code, unw_ops, unw_scp, unw_nil, okD_some, okD_none, evO, ev_t, ev_k, get_mk, put_mk, look, putD_some, putD_none, binA, binI, orBad, opK_ok, opK_call, opK_pan, opK_bad, CallK_ret, CallK_pan, cndK_true, cndK_false, pickA, cellsOf, cellsAt, asVal, storeA, splice, litCells, fillA, eqB, eqP, eqS, eqCell, eqCells, intOr, sliceA, appA, elemsA, pures, pureV, argl, resVs, resV, asRes, Nat.reduceEqDiff, Nat.reduceLT, Nat.reduceLeDiff, Nat.reduceAdd, Nat.reduceSub, Nat.reduceMul, reduceIte, reduceCtorEq, true_and, and_true, Bool.false_eq_true, Bool.true_eq_false, Bool.not_true, Bool.not_false, forall_const, forall_eq, imp_false, not_true_eq_false, not_false_eq_true, decide_true, decide_false, cond_true, cond_false, Int.toNat_natCast, Int.natCast_nonneg, List.length_cons, List.length_nil, List.length_append, List.length_map, List.length_set, List.getElem?_cons_zero, List.getElem?_cons_succ, List.getElem?_nil, List.nil_append, List.cons_append, List.append_nil, List.drop_zero, List.drop_succ_cons, List.drop_nil, List.take_succ_cons, List.take_zero, List.take_nil, List.set_cons_zero, List.set_cons_succ, List.set_nil, List.headD_cons, List.map_cons, List.map_nil, Option.map_some, Option.map_none, Nat.le_refl, Nat.zero_le, Nat.add_zero, Nat.zero_add, and_self, IntKind.bits]
        exact fin _ _ _ rfl
    · exact he.elim
end Go.Proofs.Ytakplhfiohjcmaa.AI
