/- Walks, further ones. -/
import Derived.Test.YtjdnbdhdpcnikaabmW1
set_option linter.unusedVariables false
set_option linter.unusedSimpArgs false
set_option maxRecDepth 100000
set_option maxHeartbeats 1000000
namespace Go.Proofs.Ytjdnbdhdpcnikaa.AI
open Go.Proofs (Try.prog)
attribute [local go_sem] subs_eTGlyph subs_eI64 subs_eB subs_eTArr2_I64
theorem slices_symMergeCmpFunc_int_row_L5_w (N : Nat) (a_1 : Int) (a_2 : Int) (a_3 : Int) (l_0 : List Int) (l_4 : List Int) {R : AExit → ATm → List AObj → Prop} : ∀ (n : Nat) (i_4016 : Int) (i_4017 : Int) (o : Int), slices_symMergeCmpFunc_int_row_L5 N a_1 a_2 a_3 l_0 l_4 n i_4016 i_4017 = some o → (match o with | z_1 => R (.exit 8) ⟨220, [(0, .row 0 0 l_0.length), (1, .int .i64 a_1), (2, .int .i64 a_2), (3, .int .i64 a_3), (4, .fn (.func 56) [] [.ptr 1 0 0]), (18, .int .i64 (IntKind.i64.wrap ((IntKind.u64.wrap (IntKind.i64.wrap (a_1 + a_3))).fdiv (2 ^ 1)))), (19, .int .i64 (IntKind.i64.wrap ((IntKind.i64.wrap ((IntKind.u64.wrap (IntKind.i64.wrap (a_1 + a_3))).fdiv (2 ^ 1))) + a_2))), (20, .int .i64 z_1)], []⟩ [.mem 1 (List.map eI64 l_0) 3, .box [.row 3 0 l_4.length] 28, .dead, .mem 1 (List.map eI64 l_4) 3]) →
    ALp Go.Proofs.Try.prog 3 B90_5 ⟨220, [(0, .row 0 0 l_0.length), (1, .int .i64 a_1), (2, .int .i64 a_2), (3, .int .i64 a_3), (4, .fn (.func 56) [] [.ptr 1 0 0]), (18, .int .i64 (IntKind.i64.wrap ((IntKind.u64.wrap (IntKind.i64.wrap (a_1 + a_3))).fdiv (2 ^ 1)))), (19, .int .i64 (IntKind.i64.wrap ((IntKind.i64.wrap ((IntKind.u64.wrap (IntKind.i64.wrap (a_1 + a_3))).fdiv (2 ^ 1))) + a_2))), (20, .int .i64 i_4016), (21, .int .i64 i_4017), (22, .int .i64 (IntKind.i64.wrap ((IntKind.i64.wrap ((IntKind.i64.wrap ((IntKind.u64.wrap (IntKind.i64.wrap (a_1 + a_3))).fdiv (2 ^ 1))) + a_2)) - 1)))], []⟩ [.mem 1 (List.map eI64 l_0) 3, .box [.row 3 0 l_4.length] 28, .dead, .mem 1 (List.map eI64 l_4) 3] R := by
  intro n
  induction n with
  | zero =>
    intro i_4016 i_4017 o h _
    have h0 : none = some o := h
    cases h0
  | succ n ih =>
    intro i_4016 i_4017 o h hp
    rw [slices_symMergeCmpFunc_int_row_L5] at h
    refine ALp.round ?_
    generalize hQ : RoundQ _ _ _ _ = QQ
    simp only [B90_5, A90, go_sem, reduceIte, reduceCtorEq, Nat.reduceEqDiff, Nat.reduceLT, Nat.reduceLeDiff, Nat.reduceAdd, Nat.reduceSub, Nat.reduceMul, Int.reduceToNat, Int.reduceLE, Int.reduceLT, Int.reduceAdd, Int.reduceSub, Int.reduceMul, Int.reduceEq, Int.reduceNeg]
    by_cases h_4018 : i_4016 < i_4017
    · rw [if_pos h_4018] at h
      have e_4019 : (i_4016 < i_4017) = True := eq_true h_4018
      have e_4020 : (min 1 64 : Nat) = 1 := rfl
      obtain ⟨x_4021, h_4022, h⟩ := bindS h
      have e_4023 : (List.map eI64 l_0)[(IntKind.i64.wrap ((IntKind.i64.wrap ((IntKind.i64.wrap ((IntKind.i64.wrap ((IntKind.u64.wrap (IntKind.i64.wrap (a_1 + a_3))).fdiv (2 ^ 1))) + a_2)) - 1)) - (IntKind.i64.wrap ((IntKind.u64.wrap (IntKind.i64.wrap (i_4016 + i_4017))).fdiv (2 ^ 1))))).toNat]? = some [.int .i64 x_4021] := atI_map eI64 h_4022
      have e_4024 : ((0 : Int) ≤ IntKind.i64.wrap ((IntKind.i64.wrap ((IntKind.i64.wrap ((IntKind.i64.wrap ((IntKind.u64.wrap (IntKind.i64.wrap (a_1 + a_3))).fdiv (2 ^ 1))) + a_2)) - 1)) - (IntKind.i64.wrap ((IntKind.u64.wrap (IntKind.i64.wrap (i_4016 + i_4017))).fdiv (2 ^ 1))))) = True := eq_true (atI_some h_4022).1
      have e_4025 : ((IntKind.i64.wrap ((IntKind.i64.wrap ((IntKind.i64.wrap ((IntKind.i64.wrap ((IntKind.u64.wrap (IntKind.i64.wrap (a_1 + a_3))).fdiv (2 ^ 1))) + a_2)) - 1)) - (IntKind.i64.wrap ((IntKind.u64.wrap (IntKind.i64.wrap (i_4016 + i_4017))).fdiv (2 ^ 1)))) : Int) < (l_0.length : Int)) = True := eq_true (atI_lt h_4022)
      obtain ⟨x_4026, h_4027, h⟩ := bindS h
      have e_4028 : (List.map eI64 l_0)[(IntKind.i64.wrap ((IntKind.u64.wrap (IntKind.i64.wrap (i_4016 + i_4017))).fdiv (2 ^ 1))).toNat]? = some [.int .i64 x_4026] := atI_map eI64 h_4027
      have e_4029 : ((0 : Int) ≤ IntKind.i64.wrap ((IntKind.u64.wrap (IntKind.i64.wrap (i_4016 + i_4017))).fdiv (2 ^ 1))) = True := eq_true (atI_some h_4027).1
      have e_4030 : ((IntKind.i64.wrap ((IntKind.u64.wrap (IntKind.i64.wrap (i_4016 + i_4017))).fdiv (2 ^ 1)) : Int) < (l_0.length : Int)) = True := eq_true (atI_lt h_4027)
      obtain ⟨y_4031, h_4032, h⟩ := bindS h
      simp only [e_4019, e_4020, e_4023, e_4024, e_4025, e_4028, e_4029, e_4030, go_sem, reduceIte, reduceCtorEq, Nat.reduceEqDiff, Nat.reduceLT, Nat.reduceLeDiff, Nat.reduceAdd, Nat.reduceSub, Nat.reduceMul, Int.reduceToNat, Int.reduceLE, Int.reduceLT, Int.reduceAdd, Int.reduceSub, Int.reduceMul, Int.reduceEq, Int.reduceNeg]
      refine ACalls.use (buffer_Sort_1_row_w N _ _ _ _ h_4032) [1, 3] (by decide) ⟨(by first | rfl | simp only [go_sem, reduceIte, Nat.reduceEqDiff, Nat.reduceAdd, e_4019]), (by first | rfl | simp only [go_sem, reduceIte, Nat.reduceEqDiff, Nat.reduceAdd, e_4019]), trivial⟩ rfl (v' := .int .i64 y_4031) (by first | rfl | simp only [go_sem, reduceIte, Nat.reduceEqDiff, Nat.reduceAdd, e_4019]) (H' := [.mem 1 (List.map eI64 l_0) 3, .box [.row 4 0 l_4.length] 28, .dead, .dead, .mem 1 (List.map eI64 l_4) 3]) (by first | rfl | simp only [go_sem, reduceIte, Nat.reduceEqDiff, Nat.reduceAdd, e_4019]) ?_
      simp only [e_4019, e_4020, e_4023, e_4024, e_4025, e_4028, e_4029, e_4030, go_sem, reduceIte, reduceCtorEq, Nat.reduceEqDiff, Nat.reduceLT, Nat.reduceLeDiff, Nat.reduceAdd, Nat.reduceSub, Nat.reduceMul, Int.reduceToNat, Int.reduceLE, Int.reduceLT, Int.reduceAdd, Int.reduceSub, Int.reduceMul, Int.reduceEq, Int.reduceNeg]
      by_cases h_4033 : y_4031 < 0
      · rw [if_pos h_4033] at h
        have e_4034 : (y_4031 < 0) = True := eq_true h_4033
        simp only [e_4019, e_4020, e_4023, e_4024, e_4025, e_4028, e_4029, e_4030, e_4034, go_sem, reduceIte, reduceCtorEq, Nat.reduceEqDiff, Nat.reduceLT, Nat.reduceLeDiff, Nat.reduceAdd, Nat.reduceSub, Nat.reduceMul, Int.reduceToNat, Int.reduceLE, Int.reduceLT, Int.reduceAdd, Int.reduceSub, Int.reduceMul, Int.reduceEq, Int.reduceNeg]
        rw [← hQ]
        exact ⟨_, _, (Ref.std [0, 1, 2, 3, 4, 18, 19, 20, 21, 22] [0, 1, 2, 4] (by decide) (by decide) rfl (by first | rfl | simp only [go_sem, reduceIte, Nat.reduceEqDiff, Nat.reduceAdd])), (by simp), ih _ _ _ h hp⟩
      · rw [if_neg h_4033] at h
        have e_4034 : (y_4031 < 0) = False := eq_false h_4033
        simp only [e_4019, e_4020, e_4023, e_4024, e_4025, e_4028, e_4029, e_4030, e_4034, go_sem, reduceIte, reduceCtorEq, Nat.reduceEqDiff, Nat.reduceLT, Nat.reduceLeDiff, Nat.reduceAdd, Nat.reduceSub, Nat.reduceMul, Int.reduceToNat, Int.reduceLE, Int.reduceLT, Int.reduceAdd, Int.reduceSub, Int.reduceMul, Int.reduceEq, Int.reduceNeg]
        rw [← hQ]
        exact ⟨_, _, (Ref.std [0, 1, 2, 3, 4, 18, 19, 20, 21, 22] [0, 1, 2, 4] (by decide) (by decide) rfl (by first | rfl | simp only [go_sem, reduceIte, Nat.reduceEqDiff, Nat.reduceAdd])), (by simp), ih _ _ _ h hp⟩
    · rw [if_neg h_4018] at h
      have e_4019 : (i_4016 < i_4017) = False := eq_false h_4018
      simp only [e_4019, go_sem, reduceIte, reduceCtorEq, Nat.reduceEqDiff, Nat.reduceLT, Nat.reduceLeDiff, Nat.reduceAdd, Nat.reduceSub, Nat.reduceMul, Int.reduceToNat, Int.reduceLE, Int.reduceLT, Int.reduceAdd, Int.reduceSub, Int.reduceMul, Int.reduceEq, Int.reduceNeg]
      have g := Option.some.inj h
      subst g
      rw [← hQ]
      exact ⟨_, _, (Ref.std [0, 1, 2, 3, 4, 18, 19, 20] [0, 1, 2, 3] (by decide) (by decide) rfl (by first | rfl | simp only [go_sem, reduceIte, Nat.reduceEqDiff, Nat.reduceAdd])), hp⟩
theorem slices_symMergeCmpFunc_int_row_w (N : Nat) : ∀ (n : Nat) (l_0 : List Int) (a_1 : Int) (a_2 : Int) (a_3 : Int) (l_4 : List Int) (z_1 : List Int) (h : slices_symMergeCmpFunc_int_row N n l_0 a_1 a_2 a_3 l_4 = some z_1),
    ACalls Go.Proofs.Try.prog 90 [.row 0 0 l_0.length, .int .i64 a_1, .int .i64 a_2, .int .i64 a_3, .fn (.func 56) [] [.ptr 1 0 0]] [.mem 1 (List.map eI64 l_0) 3, .box [.row 2 0 l_4.length] 28, .mem 1 (List.map eI64 l_4) 3] (fun e H => H = [.mem 1 (List.map eI64 z_1) 3, .box [.row 3 0 l_4.length] 28, .dead, .mem 1 (List.map eI64 l_4) 3] ∧ e = .ret (.tup [])) := by
  intro n
  induction n with
  | zero =>
    intro l_0 a_1 a_2 a_3 l_4 z_1 h
    have h0 : none = some _ := h
    cases h0
  | succ n ih =>
    intro l_0 a_1 a_2 a_3 l_4 z_1 h
    rw [slices_symMergeCmpFunc_int_row] at h
    refine ACalls.goN Go.Proofs.Try.func90 n90 a90 Go.Proofs.Try.ntmps90 r90 (by simp) 3 rfl ?_
    generalize hQ : bodyA _ _ _ = QQ
    simp only [A90, go_sem, reduceIte, reduceCtorEq, Nat.reduceEqDiff, Nat.reduceLT, Nat.reduceLeDiff, Nat.reduceAdd, Nat.reduceSub, Nat.reduceMul, Int.reduceToNat, Int.reduceLE, Int.reduceLT, Int.reduceAdd, Int.reduceSub, Int.reduceMul, Int.reduceEq, Int.reduceNeg]
    by_cases h_1 : IntKind.i64.wrap (a_2 - a_1) = 1
    · rw [if_pos h_1] at h
      have e_2 : (IntKind.i64.wrap (a_2 - a_1) = 1) = True := eq_true h_1
      simp only [e_2, go_sem, reduceIte, reduceCtorEq, Nat.reduceEqDiff, Nat.reduceLT, Nat.reduceLeDiff, Nat.reduceAdd, Nat.reduceSub, Nat.reduceMul, Int.reduceToNat, Int.reduceLE, Int.reduceLT, Int.reduceAdd, Int.reduceSub, Int.reduceMul, Int.reduceEq, Int.reduceNeg]
      obtain ⟨y_1004, h_1003, h⟩ := bindS h
      refine ALp.ref (Ref.trans (Ref.move (by simp) (id := 2) rfl rfl) (Ref.std [0, 1, 4, 10, 11] [0, 1, 2, 3] (by decide) (by decide) rfl (by first | rfl | simp only [go_sem, reduceIte, Nat.reduceEqDiff, Nat.reduceAdd]))) (by simp) (slices_symMergeCmpFunc_int_row_L1_w N _ _ _ N _ _ y_1004 h_1003 ?_)
      refine LoopK_go rfl (by simp) ?_
      simp only [e_2, go_sem, reduceIte, reduceCtorEq, Nat.reduceEqDiff, Nat.reduceLT, Nat.reduceLeDiff, Nat.reduceAdd, Nat.reduceSub, Nat.reduceMul, Int.reduceToNat, Int.reduceLE, Int.reduceLT, Int.reduceAdd, Int.reduceSub, Int.reduceMul, Int.reduceEq, Int.reduceNeg]
      obtain ⟨y_2006, h_2005, h⟩ := bindS h
      refine ALp.ref (Ref.std [0, 10, 13] [0, 1, 2, 3] (by decide) (by decide) rfl (by first | rfl | simp only [go_sem, reduceIte, Nat.reduceEqDiff, Nat.reduceAdd])) (by simp) (slices_symMergeCmpFunc_int_row_L2_w N _ _ N _ _ y_2006 h_2005 ?_)
      refine LoopK_go rfl (by simp) ?_
      simp only [e_2, go_sem, reduceIte, reduceCtorEq, Nat.reduceEqDiff, Nat.reduceLT, Nat.reduceLeDiff, Nat.reduceAdd, Nat.reduceSub, Nat.reduceMul, Int.reduceToNat, Int.reduceLE, Int.reduceLT, Int.reduceAdd, Int.reduceSub, Int.reduceMul, Int.reduceEq, Int.reduceNeg]
      have g_0 := Option.some.inj h
      subst g_0
      rw [← hQ]
      exact ⟨rfl, _, rfl, _, _, (RefV.std [0, 1, 2, 3] (by decide) (by decide) rfl (by first | rfl | simp only [go_sem, reduceIte, Nat.reduceEqDiff, Nat.reduceAdd, e_2])), rfl, rfl⟩
    · rw [if_neg h_1] at h
      have e_2 : (IntKind.i64.wrap (a_2 - a_1) = 1) = False := eq_false h_1
      simp only [e_2, go_sem, reduceIte, reduceCtorEq, Nat.reduceEqDiff, Nat.reduceLT, Nat.reduceLeDiff, Nat.reduceAdd, Nat.reduceSub, Nat.reduceMul, Int.reduceToNat, Int.reduceLE, Int.reduceLT, Int.reduceAdd, Int.reduceSub, Int.reduceMul, Int.reduceEq, Int.reduceNeg]
      by_cases h_2007 : IntKind.i64.wrap (a_3 - a_2) = 1
      · rw [if_pos h_2007] at h
        have e_2008 : (IntKind.i64.wrap (a_3 - a_2) = 1) = True := eq_true h_2007
        simp only [e_2, e_2008, go_sem, reduceIte, reduceCtorEq, Nat.reduceEqDiff, Nat.reduceLT, Nat.reduceLeDiff, Nat.reduceAdd, Nat.reduceSub, Nat.reduceMul, Int.reduceToNat, Int.reduceLE, Int.reduceLT, Int.reduceAdd, Int.reduceSub, Int.reduceMul, Int.reduceEq, Int.reduceNeg]
        obtain ⟨y_3010, h_3009, h⟩ := bindS h
        refine ALp.ref (Ref.trans (Ref.move (by simp) (id := 2) rfl rfl) (Ref.std [0, 2, 4, 14, 15] [0, 1, 2, 3] (by decide) (by decide) rfl (by first | rfl | simp only [go_sem, reduceIte, Nat.reduceEqDiff, Nat.reduceAdd]))) (by simp) (slices_symMergeCmpFunc_int_row_L3_w N _ _ _ N _ _ y_3010 h_3009 ?_)
        refine LoopK_go rfl (by simp) ?_
        simp only [e_2, e_2008, go_sem, reduceIte, reduceCtorEq, Nat.reduceEqDiff, Nat.reduceLT, Nat.reduceLeDiff, Nat.reduceAdd, Nat.reduceSub, Nat.reduceMul, Int.reduceToNat, Int.reduceLE, Int.reduceLT, Int.reduceAdd, Int.reduceSub, Int.reduceMul, Int.reduceEq, Int.reduceNeg]
        obtain ⟨y_4012, h_4011, h⟩ := bindS h
        refine ALp.ref (Ref.std [0, 14, 17] [0, 1, 2, 3] (by decide) (by decide) rfl (by first | rfl | simp only [go_sem, reduceIte, Nat.reduceEqDiff, Nat.reduceAdd])) (by simp) (slices_symMergeCmpFunc_int_row_L4_w N _ _ N _ _ y_4012 h_4011 ?_)
        refine LoopK_go rfl (by simp) ?_
        simp only [e_2, e_2008, go_sem, reduceIte, reduceCtorEq, Nat.reduceEqDiff, Nat.reduceLT, Nat.reduceLeDiff, Nat.reduceAdd, Nat.reduceSub, Nat.reduceMul, Int.reduceToNat, Int.reduceLE, Int.reduceLT, Int.reduceAdd, Int.reduceSub, Int.reduceMul, Int.reduceEq, Int.reduceNeg]
        have g_0 := Option.some.inj h
        subst g_0
        rw [← hQ]
        exact ⟨rfl, _, rfl, _, _, (RefV.std [0, 1, 2, 3] (by decide) (by decide) rfl (by first | rfl | simp only [go_sem, reduceIte, Nat.reduceEqDiff, Nat.reduceAdd, e_2, e_2008])), rfl, rfl⟩
      · rw [if_neg h_2007] at h
        have e_2008 : (IntKind.i64.wrap (a_3 - a_2) = 1) = False := eq_false h_2007
        have e_4013 : (min 1 64 : Nat) = 1 := rfl
        simp only [e_2, e_2008, e_4013, go_sem, reduceIte, reduceCtorEq, Nat.reduceEqDiff, Nat.reduceLT, Nat.reduceLeDiff, Nat.reduceAdd, Nat.reduceSub, Nat.reduceMul, Int.reduceToNat, Int.reduceLE, Int.reduceLT, Int.reduceAdd, Int.reduceSub, Int.reduceMul, Int.reduceEq, Int.reduceNeg]
        by_cases h_4014 : IntKind.i64.wrap ((IntKind.u64.wrap (IntKind.i64.wrap (a_1 + a_3))).fdiv (2 ^ 1)) < a_2
        · rw [if_pos h_4014] at h
          have e_4015 : (IntKind.i64.wrap ((IntKind.u64.wrap (IntKind.i64.wrap (a_1 + a_3))).fdiv (2 ^ 1)) < a_2) = True := eq_true h_4014
          simp only [e_2, e_2008, e_4013, e_4015, go_sem, reduceIte, reduceCtorEq, Nat.reduceEqDiff, Nat.reduceLT, Nat.reduceLeDiff, Nat.reduceAdd, Nat.reduceSub, Nat.reduceMul, Int.reduceToNat, Int.reduceLE, Int.reduceLT, Int.reduceAdd, Int.reduceSub, Int.reduceMul, Int.reduceEq, Int.reduceNeg]
          obtain ⟨y_5017, h_5016, h⟩ := bindS h
          refine ALp.ref (Ref.trans (Ref.move (by simp) (id := 2) rfl rfl) (Ref.std [0, 1, 2, 3, 4, 18, 19, 20, 21, 22] [0, 1, 2, 3] (by decide) (by decide) rfl (by first | rfl | simp only [go_sem, reduceIte, Nat.reduceEqDiff, Nat.reduceAdd]))) (by simp) (slices_symMergeCmpFunc_int_row_L5_w N _ _ _ _ _ N _ _ y_5017 h_5016 ?_)
          refine LoopK_go rfl (by simp) ?_
          simp only [e_2, e_2008, e_4013, e_4015, go_sem, reduceIte, reduceCtorEq, Nat.reduceEqDiff, Nat.reduceLT, Nat.reduceLeDiff, Nat.reduceAdd, Nat.reduceSub, Nat.reduceMul, Int.reduceToNat, Int.reduceLE, Int.reduceLT, Int.reduceAdd, Int.reduceSub, Int.reduceMul, Int.reduceEq, Int.reduceNeg]
          by_cases h_5018 : y_5017 < a_2
          · rw [if_pos h_5018] at h
            have e_5019 : (y_5017 < a_2) = True := eq_true h_5018
            simp only [e_2, e_2008, e_4013, e_4015, e_5019, go_sem, reduceIte, reduceCtorEq, Nat.reduceEqDiff, Nat.reduceLT, Nat.reduceLeDiff, Nat.reduceAdd, Nat.reduceSub, Nat.reduceMul, Int.reduceToNat, Int.reduceLE, Int.reduceLT, Int.reduceAdd, Int.reduceSub, Int.reduceMul, Int.reduceEq, Int.reduceNeg]
            by_cases h_5020 : a_2 < IntKind.i64.wrap ((IntKind.i64.wrap ((IntKind.i64.wrap ((IntKind.u64.wrap (IntKind.i64.wrap (a_1 + a_3))).fdiv (2 ^ 1))) + a_2)) - y_5017)
            · rw [if_pos h_5020] at h
              have e_5021 : (a_2 < IntKind.i64.wrap ((IntKind.i64.wrap ((IntKind.i64.wrap ((IntKind.u64.wrap (IntKind.i64.wrap (a_1 + a_3))).fdiv (2 ^ 1))) + a_2)) - y_5017)) = True := eq_true h_5020
              obtain ⟨y_5022, h_5023, h⟩ := bindS h
              simp only [e_2, e_2008, e_4013, e_4015, e_5019, e_5021, go_sem, reduceIte, reduceCtorEq, Nat.reduceEqDiff, Nat.reduceLT, Nat.reduceLeDiff, Nat.reduceAdd, Nat.reduceSub, Nat.reduceMul, Int.reduceToNat, Int.reduceLE, Int.reduceLT, Int.reduceAdd, Int.reduceSub, Int.reduceMul, Int.reduceEq, Int.reduceNeg]
              refine ACalls.use (slices_rotateCmpFunc_int_row_w N _ _ _ _ _ _ h_5023) [0, 1, 3] (by decide) ⟨(by first | rfl | simp only [go_sem, reduceIte, Nat.reduceEqDiff, Nat.reduceAdd, e_2, e_2008, e_4015, e_5019, e_5021]), (by first | rfl | simp only [go_sem, reduceIte, Nat.reduceEqDiff, Nat.reduceAdd, e_2, e_2008, e_4015, e_5019, e_5021]), (by first | rfl | simp only [go_sem, reduceIte, Nat.reduceEqDiff, Nat.reduceAdd, e_2, e_2008, e_4015, e_5019, e_5021]), trivial⟩ rfl (v' := .tup []) (by first | rfl | simp only [go_sem, reduceIte, Nat.reduceEqDiff, Nat.reduceAdd, e_2, e_2008, e_4015, e_5019, e_5021]) (H' := [.mem 1 (List.map eI64 y_5022) 3, .box [.row 4 0 l_4.length] 28, .dead, .dead, .mem 1 (List.map eI64 l_4) 3]) (by first | rfl | simp only [go_sem, reduceIte, Nat.reduceEqDiff, Nat.reduceAdd, e_2, e_2008, e_4015, e_5019, e_5021]) ?_
              refine CallK_go (by simp) ?_
              obtain ⟨h_5024, h⟩ := guardS h
              simp only [e_2, e_2008, e_4013, e_4015, e_5019, e_5021, go_sem, reduceIte, reduceCtorEq, Nat.reduceEqDiff, Nat.reduceLT, Nat.reduceLeDiff, Nat.reduceAdd, Nat.reduceSub, Nat.reduceMul, Int.reduceToNat, Int.reduceLE, Int.reduceLT, Int.reduceAdd, Int.reduceSub, Int.reduceMul, Int.reduceEq, Int.reduceNeg]
              by_cases h_5025 : a_1 < y_5017
              · rw [if_pos h_5025] at h
                have e_5026 : (a_1 < y_5017) = True := eq_true h_5025
                simp only [e_2, e_2008, e_4013, e_4015, e_5019, e_5021, e_5026, go_sem, reduceIte, reduceCtorEq, Nat.reduceEqDiff, Nat.reduceLT, Nat.reduceLeDiff, Nat.reduceAdd, Nat.reduceSub, Nat.reduceMul, Int.reduceToNat, Int.reduceLE, Int.reduceLT, Int.reduceAdd, Int.reduceSub, Int.reduceMul, Int.reduceEq, Int.reduceNeg]
                by_cases h_5027 : y_5017 < IntKind.i64.wrap ((IntKind.u64.wrap (IntKind.i64.wrap (a_1 + a_3))).fdiv (2 ^ 1))
                · rw [if_pos h_5027] at h
                  have e_5028 : (y_5017 < IntKind.i64.wrap ((IntKind.u64.wrap (IntKind.i64.wrap (a_1 + a_3))).fdiv (2 ^ 1))) = True := eq_true h_5027
                  obtain ⟨y_5029, h_5030, h⟩ := bindS h
                  simp only [e_2, e_2008, e_4013, e_4015, e_5019, e_5021, e_5026, e_5028, go_sem, reduceIte, reduceCtorEq, Nat.reduceEqDiff, Nat.reduceLT, Nat.reduceLeDiff, Nat.reduceAdd, Nat.reduceSub, Nat.reduceMul, Int.reduceToNat, Int.reduceLE, Int.reduceLT, Int.reduceAdd, Int.reduceSub, Int.reduceMul, Int.reduceEq, Int.reduceNeg]
                  refine ACalls.use (ih _ _ _ _ _ _ h_5030) [0, 1, 4] (by decide) ⟨(by first | rfl | simp only [go_sem, reduceIte, Nat.reduceEqDiff, Nat.reduceAdd, e_2, e_2008, e_4015, e_5019, e_5021, e_5026, e_5028, h_5024]), (by first | rfl | simp only [go_sem, reduceIte, Nat.reduceEqDiff, Nat.reduceAdd, e_2, e_2008, e_4015, e_5019, e_5021, e_5026, e_5028, h_5024]), (by first | rfl | simp only [go_sem, reduceIte, Nat.reduceEqDiff, Nat.reduceAdd, e_2, e_2008, e_4015, e_5019, e_5021, e_5026, e_5028, h_5024]), trivial⟩ (by first | rfl | simp only [go_sem, reduceIte, Nat.reduceEqDiff, Nat.reduceAdd, e_2, e_2008, e_4015, e_5019, e_5021, e_5026, e_5028, h_5024]) (v' := .tup []) (by first | rfl | simp only [go_sem, reduceIte, Nat.reduceEqDiff, Nat.reduceAdd, e_2, e_2008, e_4015, e_5019, e_5021, e_5026, e_5028, h_5024]) (H' := [.mem 1 (List.map eI64 y_5029) 3, .box [.row 5 0 l_4.length] 28, .dead, .dead, .dead, .mem 1 (List.map eI64 l_4) 3]) (by first | rfl | simp only [go_sem, reduceIte, Nat.reduceEqDiff, Nat.reduceAdd, e_2, e_2008, e_4015, e_5019, e_5021, e_5026, e_5028, h_5024]) ?_
                  refine CallK_go (by simp) ?_
                  obtain ⟨h_5031, h⟩ := guardS h
                  simp only [e_2, e_2008, e_4013, e_4015, e_5019, e_5021, e_5026, e_5028, go_sem, reduceIte, reduceCtorEq, Nat.reduceEqDiff, Nat.reduceLT, Nat.reduceLeDiff, Nat.reduceAdd, Nat.reduceSub, Nat.reduceMul, Int.reduceToNat, Int.reduceLE, Int.reduceLT, Int.reduceAdd, Int.reduceSub, Int.reduceMul, Int.reduceEq, Int.reduceNeg]
                  by_cases h_5032 : IntKind.i64.wrap ((IntKind.u64.wrap (IntKind.i64.wrap (a_1 + a_3))).fdiv (2 ^ 1)) < IntKind.i64.wrap ((IntKind.i64.wrap ((IntKind.i64.wrap ((IntKind.u64.wrap (IntKind.i64.wrap (a_1 + a_3))).fdiv (2 ^ 1))) + a_2)) - y_5017)
                  · rw [if_pos h_5032] at h
                    have e_5033 : (IntKind.i64.wrap ((IntKind.u64.wrap (IntKind.i64.wrap (a_1 + a_3))).fdiv (2 ^ 1)) < IntKind.i64.wrap ((IntKind.i64.wrap ((IntKind.i64.wrap ((IntKind.u64.wrap (IntKind.i64.wrap (a_1 + a_3))).fdiv (2 ^ 1))) + a_2)) - y_5017)) = True := eq_true h_5032
                    simp only [e_2, e_2008, e_4013, e_4015, e_5019, e_5021, e_5026, e_5028, e_5033, go_sem, reduceIte, reduceCtorEq, Nat.reduceEqDiff, Nat.reduceLT, Nat.reduceLeDiff, Nat.reduceAdd, Nat.reduceSub, Nat.reduceMul, Int.reduceToNat, Int.reduceLE, Int.reduceLT, Int.reduceAdd, Int.reduceSub, Int.reduceMul, Int.reduceEq, Int.reduceNeg]
                    by_cases h_5034 : IntKind.i64.wrap ((IntKind.i64.wrap ((IntKind.i64.wrap ((IntKind.u64.wrap (IntKind.i64.wrap (a_1 + a_3))).fdiv (2 ^ 1))) + a_2)) - y_5017) < a_3
                    · rw [if_pos h_5034] at h
                      have e_5035 : (IntKind.i64.wrap ((IntKind.i64.wrap ((IntKind.i64.wrap ((IntKind.u64.wrap (IntKind.i64.wrap (a_1 + a_3))).fdiv (2 ^ 1))) + a_2)) - y_5017) < a_3) = True := eq_true h_5034
                      obtain ⟨y_5036, h_5037, h⟩ := bindS h
                      simp only [e_2, e_2008, e_4013, e_4015, e_5019, e_5021, e_5026, e_5028, e_5033, e_5035, go_sem, reduceIte, reduceCtorEq, Nat.reduceEqDiff, Nat.reduceLT, Nat.reduceLeDiff, Nat.reduceAdd, Nat.reduceSub, Nat.reduceMul, Int.reduceToNat, Int.reduceLE, Int.reduceLT, Int.reduceAdd, Int.reduceSub, Int.reduceMul, Int.reduceEq, Int.reduceNeg]
                      refine ACalls.use (ih _ _ _ _ _ _ h_5037) [0, 1, 5] (by decide) ⟨(by first | rfl | simp only [go_sem, reduceIte, Nat.reduceEqDiff, Nat.reduceAdd, e_2, e_2008, e_4015, e_5019, e_5021, e_5026, e_5028, e_5033, e_5035, h_5024, h_5031]), (by first | rfl | simp only [go_sem, reduceIte, Nat.reduceEqDiff, Nat.reduceAdd, e_2, e_2008, e_4015, e_5019, e_5021, e_5026, e_5028, e_5033, e_5035, h_5024, h_5031]), (by first | rfl | simp only [go_sem, reduceIte, Nat.reduceEqDiff, Nat.reduceAdd, e_2, e_2008, e_4015, e_5019, e_5021, e_5026, e_5028, e_5033, e_5035, h_5024, h_5031]), trivial⟩ (by first | rfl | simp only [go_sem, reduceIte, Nat.reduceEqDiff, Nat.reduceAdd, e_2, e_2008, e_4015, e_5019, e_5021, e_5026, e_5028, e_5033, e_5035, h_5024, h_5031]) (v' := .tup []) (by first | rfl | simp only [go_sem, reduceIte, Nat.reduceEqDiff, Nat.reduceAdd, e_2, e_2008, e_4015, e_5019, e_5021, e_5026, e_5028, e_5033, e_5035, h_5024, h_5031]) (H' := [.mem 1 (List.map eI64 y_5036) 3, .box [.row 6 0 l_4.length] 28, .dead, .dead, .dead, .dead, .mem 1 (List.map eI64 l_4) 3]) (by first | rfl | simp only [go_sem, reduceIte, Nat.reduceEqDiff, Nat.reduceAdd, e_2, e_2008, e_4015, e_5019, e_5021, e_5026, e_5028, e_5033, e_5035, h_5024, h_5031]) ?_
                      refine CallK_go (by simp) ?_
                      obtain ⟨h_5038, h⟩ := guardS h
                      simp only [e_2, e_2008, e_4013, e_4015, e_5019, e_5021, e_5026, e_5028, e_5033, e_5035, go_sem, reduceIte, reduceCtorEq, Nat.reduceEqDiff, Nat.reduceLT, Nat.reduceLeDiff, Nat.reduceAdd, Nat.reduceSub, Nat.reduceMul, Int.reduceToNat, Int.reduceLE, Int.reduceLT, Int.reduceAdd, Int.reduceSub, Int.reduceMul, Int.reduceEq, Int.reduceNeg]
                      have g_0 := Option.some.inj h
                      subst g_0
                      rw [← hQ]
                      exact ⟨rfl, _, rfl, _, _, (RefV.std [0, 1, 2, 6] (by decide) (by decide) (by first | rfl | simp only [go_sem, reduceIte, Nat.reduceEqDiff, Nat.reduceAdd, h_5024, h_5031, h_5038]) (by first | rfl | simp only [go_sem, reduceIte, Nat.reduceEqDiff, Nat.reduceAdd, e_2, e_2008, e_4015, e_5019, e_5021, e_5026, e_5028, e_5033, e_5035])), rfl, rfl⟩
                    · rw [if_neg h_5034] at h
                      have e_5035 : (IntKind.i64.wrap ((IntKind.i64.wrap ((IntKind.i64.wrap ((IntKind.u64.wrap (IntKind.i64.wrap (a_1 + a_3))).fdiv (2 ^ 1))) + a_2)) - y_5017) < a_3) = False := eq_false h_5034
                      simp only [e_2, e_2008, e_4013, e_4015, e_5019, e_5021, e_5026, e_5028, e_5033, e_5035, go_sem, reduceIte, reduceCtorEq, Nat.reduceEqDiff, Nat.reduceLT, Nat.reduceLeDiff, Nat.reduceAdd, Nat.reduceSub, Nat.reduceMul, Int.reduceToNat, Int.reduceLE, Int.reduceLT, Int.reduceAdd, Int.reduceSub, Int.reduceMul, Int.reduceEq, Int.reduceNeg]
                      have g_0 := Option.some.inj h
                      subst g_0
                      rw [← hQ]
                      exact ⟨rfl, _, rfl, _, _, (RefV.std [0, 1, 2, 5] (by decide) (by decide) (by first | rfl | simp only [go_sem, reduceIte, Nat.reduceEqDiff, Nat.reduceAdd, h_5024, h_5031]) (by first | rfl | simp only [go_sem, reduceIte, Nat.reduceEqDiff, Nat.reduceAdd, e_2, e_2008, e_4015, e_5019, e_5021, e_5026, e_5028, e_5033, e_5035])), rfl, rfl⟩
                  · rw [if_neg h_5032] at h
                    have e_5033 : (IntKind.i64.wrap ((IntKind.u64.wrap (IntKind.i64.wrap (a_1 + a_3))).fdiv (2 ^ 1)) < IntKind.i64.wrap ((IntKind.i64.wrap ((IntKind.i64.wrap ((IntKind.u64.wrap (IntKind.i64.wrap (a_1 + a_3))).fdiv (2 ^ 1))) + a_2)) - y_5017)) = False := eq_false h_5032
                    simp only [e_2, e_2008, e_4013, e_4015, e_5019, e_5021, e_5026, e_5028, e_5033, go_sem, reduceIte, reduceCtorEq, Nat.reduceEqDiff, Nat.reduceLT, Nat.reduceLeDiff, Nat.reduceAdd, Nat.reduceSub, Nat.reduceMul, Int.reduceToNat, Int.reduceLE, Int.reduceLT, Int.reduceAdd, Int.reduceSub, Int.reduceMul, Int.reduceEq, Int.reduceNeg]
                    have g_0 := Option.some.inj h
                    subst g_0
                    rw [← hQ]
                    exact ⟨rfl, _, rfl, _, _, (RefV.std [0, 1, 2, 5] (by decide) (by decide) (by first | rfl | simp only [go_sem, reduceIte, Nat.reduceEqDiff, Nat.reduceAdd, h_5024, h_5031]) (by first | rfl | simp only [go_sem, reduceIte, Nat.reduceEqDiff, Nat.reduceAdd, e_2, e_2008, e_4015, e_5019, e_5021, e_5026, e_5028, e_5033])), rfl, rfl⟩
                · rw [if_neg h_5027] at h
                  have e_5028 : (y_5017 < IntKind.i64.wrap ((IntKind.u64.wrap (IntKind.i64.wrap (a_1 + a_3))).fdiv (2 ^ 1))) = False := eq_false h_5027
                  simp only [e_2, e_2008, e_4013, e_4015, e_5019, e_5021, e_5026, e_5028, go_sem, reduceIte, reduceCtorEq, Nat.reduceEqDiff, Nat.reduceLT, Nat.reduceLeDiff, Nat.reduceAdd, Nat.reduceSub, Nat.reduceMul, Int.reduceToNat, Int.reduceLE, Int.reduceLT, Int.reduceAdd, Int.reduceSub, Int.reduceMul, Int.reduceEq, Int.reduceNeg]
                  by_cases h_5039 : IntKind.i64.wrap ((IntKind.u64.wrap (IntKind.i64.wrap (a_1 + a_3))).fdiv (2 ^ 1)) < IntKind.i64.wrap ((IntKind.i64.wrap ((IntKind.i64.wrap ((IntKind.u64.wrap (IntKind.i64.wrap (a_1 + a_3))).fdiv (2 ^ 1))) + a_2)) - y_5017)
                  · rw [if_pos h_5039] at h
                    have e_5040 : (IntKind.i64.wrap ((IntKind.u64.wrap (IntKind.i64.wrap (a_1 + a_3))).fdiv (2 ^ 1)) < IntKind.i64.wrap ((IntKind.i64.wrap ((IntKind.i64.wrap ((IntKind.u64.wrap (IntKind.i64.wrap (a_1 + a_3))).fdiv (2 ^ 1))) + a_2)) - y_5017)) = True := eq_true h_5039
                    simp only [e_2, e_2008, e_4013, e_4015, e_5019, e_5021, e_5026, e_5028, e_5040, go_sem, reduceIte, reduceCtorEq, Nat.reduceEqDiff, Nat.reduceLT, Nat.reduceLeDiff, Nat.reduceAdd, Nat.reduceSub, Nat.reduceMul, Int.reduceToNat, Int.reduceLE, Int.reduceLT, Int.reduceAdd, Int.reduceSub, Int.reduceMul, Int.reduceEq, Int.reduceNeg]
                    by_cases h_5041 : IntKind.i64.wrap ((IntKind.i64.wrap ((IntKind.i64.wrap ((IntKind.u64.wrap (IntKind.i64.wrap (a_1 + a_3))).fdiv (2 ^ 1))) + a_2)) - y_5017) < a_3
                    · rw [if_pos h_5041] at h
                      have e_5042 : (IntKind.i64.wrap ((IntKind.i64.wrap ((IntKind.i64.wrap ((IntKind.u64.wrap (IntKind.i64.wrap (a_1 + a_3))).fdiv (2 ^ 1))) + a_2)) - y_5017) < a_3) = True := eq_true h_5041
                      obtain ⟨y_5043, h_5044, h⟩ := bindS h
                      simp only [e_2, e_2008, e_4013, e_4015, e_5019, e_5021, e_5026, e_5028, e_5040, e_5042, go_sem, reduceIte, reduceCtorEq, Nat.reduceEqDiff, Nat.reduceLT, Nat.reduceLeDiff, Nat.reduceAdd, Nat.reduceSub, Nat.reduceMul, Int.reduceToNat, Int.reduceLE, Int.reduceLT, Int.reduceAdd, Int.reduceSub, Int.reduceMul, Int.reduceEq, Int.reduceNeg]
                      refine ACalls.use (ih _ _ _ _ _ _ h_5044) [0, 1, 4] (by decide) ⟨(by first | rfl | simp only [go_sem, reduceIte, Nat.reduceEqDiff, Nat.reduceAdd, e_2, e_2008, e_4015, e_5019, e_5021, e_5026, e_5028, e_5040, e_5042, h_5024]), (by first | rfl | simp only [go_sem, reduceIte, Nat.reduceEqDiff, Nat.reduceAdd, e_2, e_2008, e_4015, e_5019, e_5021, e_5026, e_5028, e_5040, e_5042, h_5024]), (by first | rfl | simp only [go_sem, reduceIte, Nat.reduceEqDiff, Nat.reduceAdd, e_2, e_2008, e_4015, e_5019, e_5021, e_5026, e_5028, e_5040, e_5042, h_5024]), trivial⟩ (by first | rfl | simp only [go_sem, reduceIte, Nat.reduceEqDiff, Nat.reduceAdd, e_2, e_2008, e_4015, e_5019, e_5021, e_5026, e_5028, e_5040, e_5042, h_5024]) (v' := .tup []) (by first | rfl | simp only [go_sem, reduceIte, Nat.reduceEqDiff, Nat.reduceAdd, e_2, e_2008, e_4015, e_5019, e_5021, e_5026, e_5028, e_5040, e_5042, h_5024]) (H' := [.mem 1 (List.map eI64 y_5043) 3, .box [.row 5 0 l_4.length] 28, .dead, .dead, .dead, .mem 1 (List.map eI64 l_4) 3]) (by first | rfl | simp only [go_sem, reduceIte, Nat.reduceEqDiff, Nat.reduceAdd, e_2, e_2008, e_4015, e_5019, e_5021, e_5026, e_5028, e_5040, e_5042, h_5024]) ?_
                      refine CallK_go (by simp) ?_
                      obtain ⟨h_5045, h⟩ := guardS h
                      simp only [e_2, e_2008, e_4013, e_4015, e_5019, e_5021, e_5026, e_5028, e_5040, e_5042, go_sem, reduceIte, reduceCtorEq, Nat.reduceEqDiff, Nat.reduceLT, Nat.reduceLeDiff, Nat.reduceAdd, Nat.reduceSub, Nat.reduceMul, Int.reduceToNat, Int.reduceLE, Int.reduceLT, Int.reduceAdd, Int.reduceSub, Int.reduceMul, Int.reduceEq, Int.reduceNeg]
                      have g_0 := Option.some.inj h
                      subst g_0
                      rw [← hQ]
                      exact ⟨rfl, _, rfl, _, _, (RefV.std [0, 1, 2, 5] (by decide) (by decide) (by first | rfl | simp only [go_sem, reduceIte, Nat.reduceEqDiff, Nat.reduceAdd, h_5024, h_5045]) (by first | rfl | simp only [go_sem, reduceIte, Nat.reduceEqDiff, Nat.reduceAdd, e_2, e_2008, e_4015, e_5019, e_5021, e_5026, e_5028, e_5040, e_5042])), rfl, rfl⟩
                    · rw [if_neg h_5041] at h
                      have e_5042 : (IntKind.i64.wrap ((IntKind.i64.wrap ((IntKind.i64.wrap ((IntKind.u64.wrap (IntKind.i64.wrap (a_1 + a_3))).fdiv (2 ^ 1))) + a_2)) - y_5017) < a_3) = False := eq_false h_5041
                      simp only [e_2, e_2008, e_4013, e_4015, e_5019, e_5021, e_5026, e_5028, e_5040, e_5042, go_sem, reduceIte, reduceCtorEq, Nat.reduceEqDiff, Nat.reduceLT, Nat.reduceLeDiff, Nat.reduceAdd, Nat.reduceSub, Nat.reduceMul, Int.reduceToNat, Int.reduceLE, Int.reduceLT, Int.reduceAdd, Int.reduceSub, Int.reduceMul, Int.reduceEq, Int.reduceNeg]
                      have g_0 := Option.some.inj h
                      subst g_0
                      rw [← hQ]
                      exact ⟨rfl, _, rfl, _, _, (RefV.std [0, 1, 2, 4] (by decide) (by decide) (by first | rfl | simp only [go_sem, reduceIte, Nat.reduceEqDiff, Nat.reduceAdd, h_5024]) (by first | rfl | simp only [go_sem, reduceIte, Nat.reduceEqDiff, Nat.reduceAdd, e_2, e_2008, e_4015, e_5019, e_5021, e_5026, e_5028, e_5040, e_5042])), rfl, rfl⟩
                  · rw [if_neg h_5039] at h
                    have e_5040 : (IntKind.i64.wrap ((IntKind.u64.wrap (IntKind.i64.wrap (a_1 + a_3))).fdiv (2 ^ 1)) < IntKind.i64.wrap ((IntKind.i64.wrap ((IntKind.i64.wrap ((IntKind.u64.wrap (IntKind.i64.wrap (a_1 + a_3))).fdiv (2 ^ 1))) + a_2)) - y_5017)) = False := eq_false h_5039
                    simp only [e_2, e_2008, e_4013, e_4015, e_5019, e_5021, e_5026, e_5028, e_5040, go_sem, reduceIte, reduceCtorEq, Nat.reduceEqDiff, Nat.reduceLT, Nat.reduceLeDiff, Nat.reduceAdd, Nat.reduceSub, Nat.reduceMul, Int.reduceToNat, Int.reduceLE, Int.reduceLT, Int.reduceAdd, Int.reduceSub, Int.reduceMul, Int.reduceEq, Int.reduceNeg]
                    have g_0 := Option.some.inj h
                    subst g_0
                    rw [← hQ]
                    exact ⟨rfl, _, rfl, _, _, (RefV.std [0, 1, 2, 4] (by decide) (by decide) (by first | rfl | simp only [go_sem, reduceIte, Nat.reduceEqDiff, Nat.reduceAdd, h_5024]) (by first | rfl | simp only [go_sem, reduceIte, Nat.reduceEqDiff, Nat.reduceAdd, e_2, e_2008, e_4015, e_5019, e_5021, e_5026, e_5028, e_5040])), rfl, rfl⟩
              · rw [if_neg h_5025] at h
                have e_5026 : (a_1 < y_5017) = False := eq_false h_5025
                simp only [e_2, e_2008, e_4013, e_4015, e_5019, e_5021, e_5026, go_sem, reduceIte, reduceCtorEq, Nat.reduceEqDiff, Nat.reduceLT, Nat.reduceLeDiff, Nat.reduceAdd, Nat.reduceSub, Nat.reduceMul, Int.reduceToNat, Int.reduceLE, Int.reduceLT, Int.reduceAdd, Int.reduceSub, Int.reduceMul, Int.reduceEq, Int.reduceNeg]
                by_cases h_5046 : IntKind.i64.wrap ((IntKind.u64.wrap (IntKind.i64.wrap (a_1 + a_3))).fdiv (2 ^ 1)) < IntKind.i64.wrap ((IntKind.i64.wrap ((IntKind.i64.wrap ((IntKind.u64.wrap (IntKind.i64.wrap (a_1 + a_3))).fdiv (2 ^ 1))) + a_2)) - y_5017)
                · rw [if_pos h_5046] at h
                  have e_5047 : (IntKind.i64.wrap ((IntKind.u64.wrap (IntKind.i64.wrap (a_1 + a_3))).fdiv (2 ^ 1)) < IntKind.i64.wrap ((IntKind.i64.wrap ((IntKind.i64.wrap ((IntKind.u64.wrap (IntKind.i64.wrap (a_1 + a_3))).fdiv (2 ^ 1))) + a_2)) - y_5017)) = True := eq_true h_5046
                  simp only [e_2, e_2008, e_4013, e_4015, e_5019, e_5021, e_5026, e_5047, go_sem, reduceIte, reduceCtorEq, Nat.reduceEqDiff, Nat.reduceLT, Nat.reduceLeDiff, Nat.reduceAdd, Nat.reduceSub, Nat.reduceMul, Int.reduceToNat, Int.reduceLE, Int.reduceLT, Int.reduceAdd, Int.reduceSub, Int.reduceMul, Int.reduceEq, Int.reduceNeg]
                  by_cases h_5048 : IntKind.i64.wrap ((IntKind.i64.wrap ((IntKind.i64.wrap ((IntKind.u64.wrap (IntKind.i64.wrap (a_1 + a_3))).fdiv (2 ^ 1))) + a_2)) - y_5017) < a_3
                  · rw [if_pos h_5048] at h
                    have e_5049 : (IntKind.i64.wrap ((IntKind.i64.wrap ((IntKind.i64.wrap ((IntKind.u64.wrap (IntKind.i64.wrap (a_1 + a_3))).fdiv (2 ^ 1))) + a_2)) - y_5017) < a_3) = True := eq_true h_5048
                    obtain ⟨y_5050, h_5051, h⟩ := bindS h
                    simp only [e_2, e_2008, e_4013, e_4015, e_5019, e_5021, e_5026, e_5047, e_5049, go_sem, reduceIte, reduceCtorEq, Nat.reduceEqDiff, Nat.reduceLT, Nat.reduceLeDiff, Nat.reduceAdd, Nat.reduceSub, Nat.reduceMul, Int.reduceToNat, Int.reduceLE, Int.reduceLT, Int.reduceAdd, Int.reduceSub, Int.reduceMul, Int.reduceEq, Int.reduceNeg]
                    refine ACalls.use (ih _ _ _ _ _ _ h_5051) [0, 1, 4] (by decide) ⟨(by first | rfl | simp only [go_sem, reduceIte, Nat.reduceEqDiff, Nat.reduceAdd, e_2, e_2008, e_4015, e_5019, e_5021, e_5026, e_5047, e_5049, h_5024]), (by first | rfl | simp only [go_sem, reduceIte, Nat.reduceEqDiff, Nat.reduceAdd, e_2, e_2008, e_4015, e_5019, e_5021, e_5026, e_5047, e_5049, h_5024]), (by first | rfl | simp only [go_sem, reduceIte, Nat.reduceEqDiff, Nat.reduceAdd, e_2, e_2008, e_4015, e_5019, e_5021, e_5026, e_5047, e_5049, h_5024]), trivial⟩ (by first | rfl | simp only [go_sem, reduceIte, Nat.reduceEqDiff, Nat.reduceAdd, e_2, e_2008, e_4015, e_5019, e_5021, e_5026, e_5047, e_5049, h_5024]) (v' := .tup []) (by first | rfl | simp only [go_sem, reduceIte, Nat.reduceEqDiff, Nat.reduceAdd, e_2, e_2008, e_4015, e_5019, e_5021, e_5026, e_5047, e_5049, h_5024]) (H' := [.mem 1 (List.map eI64 y_5050) 3, .box [.row 5 0 l_4.length] 28, .dead, .dead, .dead, .mem 1 (List.map eI64 l_4) 3]) (by first | rfl | simp only [go_sem, reduceIte, Nat.reduceEqDiff, Nat.reduceAdd, e_2, e_2008, e_4015, e_5019, e_5021, e_5026, e_5047, e_5049, h_5024]) ?_
                    refine CallK_go (by simp) ?_
                    obtain ⟨h_5052, h⟩ := guardS h
                    simp only [e_2, e_2008, e_4013, e_4015, e_5019, e_5021, e_5026, e_5047, e_5049, go_sem, reduceIte, reduceCtorEq, Nat.reduceEqDiff, Nat.reduceLT, Nat.reduceLeDiff, Nat.reduceAdd, Nat.reduceSub, Nat.reduceMul, Int.reduceToNat, Int.reduceLE, Int.reduceLT, Int.reduceAdd, Int.reduceSub, Int.reduceMul, Int.reduceEq, Int.reduceNeg]
                    have g_0 := Option.some.inj h
                    subst g_0
                    rw [← hQ]
                    exact ⟨rfl, _, rfl, _, _, (RefV.std [0, 1, 2, 5] (by decide) (by decide) (by first | rfl | simp only [go_sem, reduceIte, Nat.reduceEqDiff, Nat.reduceAdd, h_5024, h_5052]) (by first | rfl | simp only [go_sem, reduceIte, Nat.reduceEqDiff, Nat.reduceAdd, e_2, e_2008, e_4015, e_5019, e_5021, e_5026, e_5047, e_5049])), rfl, rfl⟩
                  · rw [if_neg h_5048] at h
                    have e_5049 : (IntKind.i64.wrap ((IntKind.i64.wrap ((IntKind.i64.wrap ((IntKind.u64.wrap (IntKind.i64.wrap (a_1 + a_3))).fdiv (2 ^ 1))) + a_2)) - y_5017) < a_3) = False := eq_false h_5048
                    simp only [e_2, e_2008, e_4013, e_4015, e_5019, e_5021, e_5026, e_5047, e_5049, go_sem, reduceIte, reduceCtorEq, Nat.reduceEqDiff, Nat.reduceLT, Nat.reduceLeDiff, Nat.reduceAdd, Nat.reduceSub, Nat.reduceMul, Int.reduceToNat, Int.reduceLE, Int.reduceLT, Int.reduceAdd, Int.reduceSub, Int.reduceMul, Int.reduceEq, Int.reduceNeg]
                    have g_0 := Option.some.inj h
                    subst g_0
                    rw [← hQ]
                    exact ⟨rfl, _, rfl, _, _, (RefV.std [0, 1, 2, 4] (by decide) (by decide) (by first | rfl | simp only [go_sem, reduceIte, Nat.reduceEqDiff, Nat.reduceAdd, h_5024]) (by first | rfl | simp only [go_sem, reduceIte, Nat.reduceEqDiff, Nat.reduceAdd, e_2, e_2008, e_4015, e_5019, e_5021, e_5026, e_5047, e_5049])), rfl, rfl⟩
                · rw [if_neg h_5046] at h
                  have e_5047 : (IntKind.i64.wrap ((IntKind.u64.wrap (IntKind.i64.wrap (a_1 + a_3))).fdiv (2 ^ 1)) < IntKind.i64.wrap ((IntKind.i64.wrap ((IntKind.i64.wrap ((IntKind.u64.wrap (IntKind.i64.wrap (a_1 + a_3))).fdiv (2 ^ 1))) + a_2)) - y_5017)) = False := eq_false h_5046
                  simp only [e_2, e_2008, e_4013, e_4015, e_5019, e_5021, e_5026, e_5047, go_sem, reduceIte, reduceCtorEq, Nat.reduceEqDiff, Nat.reduceLT, Nat.reduceLeDiff, Nat.reduceAdd, Nat.reduceSub, Nat.reduceMul, Int.reduceToNat, Int.reduceLE, Int.reduceLT, Int.reduceAdd, Int.reduceSub, Int.reduceMul, Int.reduceEq, Int.reduceNeg]
                  have g_0 := Option.some.inj h
                  subst g_0
                  rw [← hQ]
                  exact ⟨rfl, _, rfl, _, _, (RefV.std [0, 1, 2, 4] (by decide) (by decide) (by first | rfl | simp only [go_sem, reduceIte, Nat.reduceEqDiff, Nat.reduceAdd, h_5024]) (by first | rfl | simp only [go_sem, reduceIte, Nat.reduceEqDiff, Nat.reduceAdd, e_2, e_2008, e_4015, e_5019, e_5021, e_5026, e_5047])), rfl, rfl⟩
            · rw [if_neg h_5020] at h
              have e_5021 : (a_2 < IntKind.i64.wrap ((IntKind.i64.wrap ((IntKind.i64.wrap ((IntKind.u64.wrap (IntKind.i64.wrap (a_1 + a_3))).fdiv (2 ^ 1))) + a_2)) - y_5017)) = False := eq_false h_5020
              simp only [e_2, e_2008, e_4013, e_4015, e_5019, e_5021, go_sem, reduceIte, reduceCtorEq, Nat.reduceEqDiff, Nat.reduceLT, Nat.reduceLeDiff, Nat.reduceAdd, Nat.reduceSub, Nat.reduceMul, Int.reduceToNat, Int.reduceLE, Int.reduceLT, Int.reduceAdd, Int.reduceSub, Int.reduceMul, Int.reduceEq, Int.reduceNeg]
              by_cases h_5053 : a_1 < y_5017
              · rw [if_pos h_5053] at h
                have e_5054 : (a_1 < y_5017) = True := eq_true h_5053
                simp only [e_2, e_2008, e_4013, e_4015, e_5019, e_5021, e_5054, go_sem, reduceIte, reduceCtorEq, Nat.reduceEqDiff, Nat.reduceLT, Nat.reduceLeDiff, Nat.reduceAdd, Nat.reduceSub, Nat.reduceMul, Int.reduceToNat, Int.reduceLE, Int.reduceLT, Int.reduceAdd, Int.reduceSub, Int.reduceMul, Int.reduceEq, Int.reduceNeg]
                by_cases h_5055 : y_5017 < IntKind.i64.wrap ((IntKind.u64.wrap (IntKind.i64.wrap (a_1 + a_3))).fdiv (2 ^ 1))
                · rw [if_pos h_5055] at h
                  have e_5056 : (y_5017 < IntKind.i64.wrap ((IntKind.u64.wrap (IntKind.i64.wrap (a_1 + a_3))).fdiv (2 ^ 1))) = True := eq_true h_5055
                  obtain ⟨y_5057, h_5058, h⟩ := bindS h
                  simp only [e_2, e_2008, e_4013, e_4015, e_5019, e_5021, e_5054, e_5056, go_sem, reduceIte, reduceCtorEq, Nat.reduceEqDiff, Nat.reduceLT, Nat.reduceLeDiff, Nat.reduceAdd, Nat.reduceSub, Nat.reduceMul, Int.reduceToNat, Int.reduceLE, Int.reduceLT, Int.reduceAdd, Int.reduceSub, Int.reduceMul, Int.reduceEq, Int.reduceNeg]
                  refine ACalls.use (ih _ _ _ _ _ _ h_5058) [0, 1, 3] (by decide) ⟨(by first | rfl | simp only [go_sem, reduceIte, Nat.reduceEqDiff, Nat.reduceAdd, e_2, e_2008, e_4015, e_5019, e_5021, e_5054, e_5056]), (by first | rfl | simp only [go_sem, reduceIte, Nat.reduceEqDiff, Nat.reduceAdd, e_2, e_2008, e_4015, e_5019, e_5021, e_5054, e_5056]), (by first | rfl | simp only [go_sem, reduceIte, Nat.reduceEqDiff, Nat.reduceAdd, e_2, e_2008, e_4015, e_5019, e_5021, e_5054, e_5056]), trivial⟩ rfl (v' := .tup []) (by first | rfl | simp only [go_sem, reduceIte, Nat.reduceEqDiff, Nat.reduceAdd, e_2, e_2008, e_4015, e_5019, e_5021, e_5054, e_5056]) (H' := [.mem 1 (List.map eI64 y_5057) 3, .box [.row 4 0 l_4.length] 28, .dead, .dead, .mem 1 (List.map eI64 l_4) 3]) (by first | rfl | simp only [go_sem, reduceIte, Nat.reduceEqDiff, Nat.reduceAdd, e_2, e_2008, e_4015, e_5019, e_5021, e_5054, e_5056]) ?_
                  refine CallK_go (by simp) ?_
                  obtain ⟨h_5059, h⟩ := guardS h
                  simp only [e_2, e_2008, e_4013, e_4015, e_5019, e_5021, e_5054, e_5056, go_sem, reduceIte, reduceCtorEq, Nat.reduceEqDiff, Nat.reduceLT, Nat.reduceLeDiff, Nat.reduceAdd, Nat.reduceSub, Nat.reduceMul, Int.reduceToNat, Int.reduceLE, Int.reduceLT, Int.reduceAdd, Int.reduceSub, Int.reduceMul, Int.reduceEq, Int.reduceNeg]
                  by_cases h_5060 : IntKind.i64.wrap ((IntKind.u64.wrap (IntKind.i64.wrap (a_1 + a_3))).fdiv (2 ^ 1)) < IntKind.i64.wrap ((IntKind.i64.wrap ((IntKind.i64.wrap ((IntKind.u64.wrap (IntKind.i64.wrap (a_1 + a_3))).fdiv (2 ^ 1))) + a_2)) - y_5017)
                  · rw [if_pos h_5060] at h
                    have e_5061 : (IntKind.i64.wrap ((IntKind.u64.wrap (IntKind.i64.wrap (a_1 + a_3))).fdiv (2 ^ 1)) < IntKind.i64.wrap ((IntKind.i64.wrap ((IntKind.i64.wrap ((IntKind.u64.wrap (IntKind.i64.wrap (a_1 + a_3))).fdiv (2 ^ 1))) + a_2)) - y_5017)) = True := eq_true h_5060
                    simp only [e_2, e_2008, e_4013, e_4015, e_5019, e_5021, e_5054, e_5056, e_5061, go_sem, reduceIte, reduceCtorEq, Nat.reduceEqDiff, Nat.reduceLT, Nat.reduceLeDiff, Nat.reduceAdd, Nat.reduceSub, Nat.reduceMul, Int.reduceToNat, Int.reduceLE, Int.reduceLT, Int.reduceAdd, Int.reduceSub, Int.reduceMul, Int.reduceEq, Int.reduceNeg]
                    by_cases h_5062 : IntKind.i64.wrap ((IntKind.i64.wrap ((IntKind.i64.wrap ((IntKind.u64.wrap (IntKind.i64.wrap (a_1 + a_3))).fdiv (2 ^ 1))) + a_2)) - y_5017) < a_3
                    · rw [if_pos h_5062] at h
                      have e_5063 : (IntKind.i64.wrap ((IntKind.i64.wrap ((IntKind.i64.wrap ((IntKind.u64.wrap (IntKind.i64.wrap (a_1 + a_3))).fdiv (2 ^ 1))) + a_2)) - y_5017) < a_3) = True := eq_true h_5062
                      obtain ⟨y_5064, h_5065, h⟩ := bindS h
                      simp only [e_2, e_2008, e_4013, e_4015, e_5019, e_5021, e_5054, e_5056, e_5061, e_5063, go_sem, reduceIte, reduceCtorEq, Nat.reduceEqDiff, Nat.reduceLT, Nat.reduceLeDiff, Nat.reduceAdd, Nat.reduceSub, Nat.reduceMul, Int.reduceToNat, Int.reduceLE, Int.reduceLT, Int.reduceAdd, Int.reduceSub, Int.reduceMul, Int.reduceEq, Int.reduceNeg]
                      refine ACalls.use (ih _ _ _ _ _ _ h_5065) [0, 1, 4] (by decide) ⟨(by first | rfl | simp only [go_sem, reduceIte, Nat.reduceEqDiff, Nat.reduceAdd, e_2, e_2008, e_4015, e_5019, e_5021, e_5054, e_5056, e_5061, e_5063, h_5059]), (by first | rfl | simp only [go_sem, reduceIte, Nat.reduceEqDiff, Nat.reduceAdd, e_2, e_2008, e_4015, e_5019, e_5021, e_5054, e_5056, e_5061, e_5063, h_5059]), (by first | rfl | simp only [go_sem, reduceIte, Nat.reduceEqDiff, Nat.reduceAdd, e_2, e_2008, e_4015, e_5019, e_5021, e_5054, e_5056, e_5061, e_5063, h_5059]), trivial⟩ (by first | rfl | simp only [go_sem, reduceIte, Nat.reduceEqDiff, Nat.reduceAdd, e_2, e_2008, e_4015, e_5019, e_5021, e_5054, e_5056, e_5061, e_5063, h_5059]) (v' := .tup []) (by first | rfl | simp only [go_sem, reduceIte, Nat.reduceEqDiff, Nat.reduceAdd, e_2, e_2008, e_4015, e_5019, e_5021, e_5054, e_5056, e_5061, e_5063, h_5059]) (H' := [.mem 1 (List.map eI64 y_5064) 3, .box [.row 5 0 l_4.length] 28, .dead, .dead, .dead, .mem 1 (List.map eI64 l_4) 3]) (by first | rfl | simp only [go_sem, reduceIte, Nat.reduceEqDiff, Nat.reduceAdd, e_2, e_2008, e_4015, e_5019, e_5021, e_5054, e_5056, e_5061, e_5063, h_5059]) ?_
                      refine CallK_go (by simp) ?_
                      obtain ⟨h_5066, h⟩ := guardS h
                      simp only [e_2, e_2008, e_4013, e_4015, e_5019, e_5021, e_5054, e_5056, e_5061, e_5063, go_sem, reduceIte, reduceCtorEq, Nat.reduceEqDiff, Nat.reduceLT, Nat.reduceLeDiff, Nat.reduceAdd, Nat.reduceSub, Nat.reduceMul, Int.reduceToNat, Int.reduceLE, Int.reduceLT, Int.reduceAdd, Int.reduceSub, Int.reduceMul, Int.reduceEq, Int.reduceNeg]
                      have g_0 := Option.some.inj h
                      subst g_0
                      rw [← hQ]
                      exact ⟨rfl, _, rfl, _, _, (RefV.std [0, 1, 2, 5] (by decide) (by decide) (by first | rfl | simp only [go_sem, reduceIte, Nat.reduceEqDiff, Nat.reduceAdd, h_5059, h_5066]) (by first | rfl | simp only [go_sem, reduceIte, Nat.reduceEqDiff, Nat.reduceAdd, e_2, e_2008, e_4015, e_5019, e_5021, e_5054, e_5056, e_5061, e_5063])), rfl, rfl⟩
                    · rw [if_neg h_5062] at h
                      have e_5063 : (IntKind.i64.wrap ((IntKind.i64.wrap ((IntKind.i64.wrap ((IntKind.u64.wrap (IntKind.i64.wrap (a_1 + a_3))).fdiv (2 ^ 1))) + a_2)) - y_5017) < a_3) = False := eq_false h_5062
                      simp only [e_2, e_2008, e_4013, e_4015, e_5019, e_5021, e_5054, e_5056, e_5061, e_5063, go_sem, reduceIte, reduceCtorEq, Nat.reduceEqDiff, Nat.reduceLT, Nat.reduceLeDiff, Nat.reduceAdd, Nat.reduceSub, Nat.reduceMul, Int.reduceToNat, Int.reduceLE, Int.reduceLT, Int.reduceAdd, Int.reduceSub, Int.reduceMul, Int.reduceEq, Int.reduceNeg]
                      have g_0 := Option.some.inj h
                      subst g_0
                      rw [← hQ]
                      exact ⟨rfl, _, rfl, _, _, (RefV.std [0, 1, 2, 4] (by decide) (by decide) (by first | rfl | simp only [go_sem, reduceIte, Nat.reduceEqDiff, Nat.reduceAdd, h_5059]) (by first | rfl | simp only [go_sem, reduceIte, Nat.reduceEqDiff, Nat.reduceAdd, e_2, e_2008, e_4015, e_5019, e_5021, e_5054, e_5056, e_5061, e_5063])), rfl, rfl⟩
                  · rw [if_neg h_5060] at h
                    have e_5061 : (IntKind.i64.wrap ((IntKind.u64.wrap (IntKind.i64.wrap (a_1 + a_3))).fdiv (2 ^ 1)) < IntKind.i64.wrap ((IntKind.i64.wrap ((IntKind.i64.wrap ((IntKind.u64.wrap (IntKind.i64.wrap (a_1 + a_3))).fdiv (2 ^ 1))) + a_2)) - y_5017)) = False := eq_false h_5060
                    simp only [e_2, e_2008, e_4013, e_4015, e_5019, e_5021, e_5054, e_5056, e_5061, go_sem, reduceIte, reduceCtorEq, Nat.reduceEqDiff, Nat.reduceLT, Nat.reduceLeDiff, Nat.reduceAdd, Nat.reduceSub, Nat.reduceMul, Int.reduceToNat, Int.reduceLE, Int.reduceLT, Int.reduceAdd, Int.reduceSub, Int.reduceMul, Int.reduceEq, Int.reduceNeg]
                    have g_0 := Option.some.inj h
                    subst g_0
                    rw [← hQ]
                    exact ⟨rfl, _, rfl, _, _, (RefV.std [0, 1, 2, 4] (by decide) (by decide) (by first | rfl | simp only [go_sem, reduceIte, Nat.reduceEqDiff, Nat.reduceAdd, h_5059]) (by first | rfl | simp only [go_sem, reduceIte, Nat.reduceEqDiff, Nat.reduceAdd, e_2, e_2008, e_4015, e_5019, e_5021, e_5054, e_5056, e_5061])), rfl, rfl⟩
                · rw [if_neg h_5055] at h
                  have e_5056 : (y_5017 < IntKind.i64.wrap ((IntKind.u64.wrap (IntKind.i64.wrap (a_1 + a_3))).fdiv (2 ^ 1))) = False := eq_false h_5055
                  simp only [e_2, e_2008, e_4013, e_4015, e_5019, e_5021, e_5054, e_5056, go_sem, reduceIte, reduceCtorEq, Nat.reduceEqDiff, Nat.reduceLT, Nat.reduceLeDiff, Nat.reduceAdd, Nat.reduceSub, Nat.reduceMul, Int.reduceToNat, Int.reduceLE, Int.reduceLT, Int.reduceAdd, Int.reduceSub, Int.reduceMul, Int.reduceEq, Int.reduceNeg]
                  by_cases h_5067 : IntKind.i64.wrap ((IntKind.u64.wrap (IntKind.i64.wrap (a_1 + a_3))).fdiv (2 ^ 1)) < IntKind.i64.wrap ((IntKind.i64.wrap ((IntKind.i64.wrap ((IntKind.u64.wrap (IntKind.i64.wrap (a_1 + a_3))).fdiv (2 ^ 1))) + a_2)) - y_5017)
                  · rw [if_pos h_5067] at h
                    have e_5068 : (IntKind.i64.wrap ((IntKind.u64.wrap (IntKind.i64.wrap (a_1 + a_3))).fdiv (2 ^ 1)) < IntKind.i64.wrap ((IntKind.i64.wrap ((IntKind.i64.wrap ((IntKind.u64.wrap (IntKind.i64.wrap (a_1 + a_3))).fdiv (2 ^ 1))) + a_2)) - y_5017)) = True := eq_true h_5067
                    simp only [e_2, e_2008, e_4013, e_4015, e_5019, e_5021, e_5054, e_5056, e_5068, go_sem, reduceIte, reduceCtorEq, Nat.reduceEqDiff, Nat.reduceLT, Nat.reduceLeDiff, Nat.reduceAdd, Nat.reduceSub, Nat.reduceMul, Int.reduceToNat, Int.reduceLE, Int.reduceLT, Int.reduceAdd, Int.reduceSub, Int.reduceMul, Int.reduceEq, Int.reduceNeg]
                    by_cases h_5069 : IntKind.i64.wrap ((IntKind.i64.wrap ((IntKind.i64.wrap ((IntKind.u64.wrap (IntKind.i64.wrap (a_1 + a_3))).fdiv (2 ^ 1))) + a_2)) - y_5017) < a_3
                    · rw [if_pos h_5069] at h
                      have e_5070 : (IntKind.i64.wrap ((IntKind.i64.wrap ((IntKind.i64.wrap ((IntKind.u64.wrap (IntKind.i64.wrap (a_1 + a_3))).fdiv (2 ^ 1))) + a_2)) - y_5017) < a_3) = True := eq_true h_5069
                      obtain ⟨y_5071, h_5072, h⟩ := bindS h
                      simp only [e_2, e_2008, e_4013, e_4015, e_5019, e_5021, e_5054, e_5056, e_5068, e_5070, go_sem, reduceIte, reduceCtorEq, Nat.reduceEqDiff, Nat.reduceLT, Nat.reduceLeDiff, Nat.reduceAdd, Nat.reduceSub, Nat.reduceMul, Int.reduceToNat, Int.reduceLE, Int.reduceLT, Int.reduceAdd, Int.reduceSub, Int.reduceMul, Int.reduceEq, Int.reduceNeg]
                      refine ACalls.use (ih _ _ _ _ _ _ h_5072) [0, 1, 3] (by decide) ⟨(by first | rfl | simp only [go_sem, reduceIte, Nat.reduceEqDiff, Nat.reduceAdd, e_2, e_2008, e_4015, e_5019, e_5021, e_5054, e_5056, e_5068, e_5070]), (by first | rfl | simp only [go_sem, reduceIte, Nat.reduceEqDiff, Nat.reduceAdd, e_2, e_2008, e_4015, e_5019, e_5021, e_5054, e_5056, e_5068, e_5070]), (by first | rfl | simp only [go_sem, reduceIte, Nat.reduceEqDiff, Nat.reduceAdd, e_2, e_2008, e_4015, e_5019, e_5021, e_5054, e_5056, e_5068, e_5070]), trivial⟩ rfl (v' := .tup []) (by first | rfl | simp only [go_sem, reduceIte, Nat.reduceEqDiff, Nat.reduceAdd, e_2, e_2008, e_4015, e_5019, e_5021, e_5054, e_5056, e_5068, e_5070]) (H' := [.mem 1 (List.map eI64 y_5071) 3, .box [.row 4 0 l_4.length] 28, .dead, .dead, .mem 1 (List.map eI64 l_4) 3]) (by first | rfl | simp only [go_sem, reduceIte, Nat.reduceEqDiff, Nat.reduceAdd, e_2, e_2008, e_4015, e_5019, e_5021, e_5054, e_5056, e_5068, e_5070]) ?_
                      refine CallK_go (by simp) ?_
                      obtain ⟨h_5073, h⟩ := guardS h
                      simp only [e_2, e_2008, e_4013, e_4015, e_5019, e_5021, e_5054, e_5056, e_5068, e_5070, go_sem, reduceIte, reduceCtorEq, Nat.reduceEqDiff, Nat.reduceLT, Nat.reduceLeDiff, Nat.reduceAdd, Nat.reduceSub, Nat.reduceMul, Int.reduceToNat, Int.reduceLE, Int.reduceLT, Int.reduceAdd, Int.reduceSub, Int.reduceMul, Int.reduceEq, Int.reduceNeg]
                      have g_0 := Option.some.inj h
                      subst g_0
                      rw [← hQ]
                      exact ⟨rfl, _, rfl, _, _, (RefV.std [0, 1, 2, 4] (by decide) (by decide) (by first | rfl | simp only [go_sem, reduceIte, Nat.reduceEqDiff, Nat.reduceAdd, h_5073]) (by first | rfl | simp only [go_sem, reduceIte, Nat.reduceEqDiff, Nat.reduceAdd, e_2, e_2008, e_4015, e_5019, e_5021, e_5054, e_5056, e_5068, e_5070])), rfl, rfl⟩
                    · rw [if_neg h_5069] at h
                      have e_5070 : (IntKind.i64.wrap ((IntKind.i64.wrap ((IntKind.i64.wrap ((IntKind.u64.wrap (IntKind.i64.wrap (a_1 + a_3))).fdiv (2 ^ 1))) + a_2)) - y_5017) < a_3) = False := eq_false h_5069
                      simp only [e_2, e_2008, e_4013, e_4015, e_5019, e_5021, e_5054, e_5056, e_5068, e_5070, go_sem, reduceIte, reduceCtorEq, Nat.reduceEqDiff, Nat.reduceLT, Nat.reduceLeDiff, Nat.reduceAdd, Nat.reduceSub, Nat.reduceMul, Int.reduceToNat, Int.reduceLE, Int.reduceLT, Int.reduceAdd, Int.reduceSub, Int.reduceMul, Int.reduceEq, Int.reduceNeg]
                      have g_0 := Option.some.inj h
                      subst g_0
                      rw [← hQ]
                      exact ⟨rfl, _, rfl, _, _, (RefV.std [0, 1, 2, 3] (by decide) (by decide) rfl (by first | rfl | simp only [go_sem, reduceIte, Nat.reduceEqDiff, Nat.reduceAdd, e_2, e_2008, e_4015, e_5019, e_5021, e_5054, e_5056, e_5068, e_5070])), rfl, rfl⟩
                  · rw [if_neg h_5067] at h
                    have e_5068 : (IntKind.i64.wrap ((IntKind.u64.wrap (IntKind.i64.wrap (a_1 + a_3))).fdiv (2 ^ 1)) < IntKind.i64.wrap ((IntKind.i64.wrap ((IntKind.i64.wrap ((IntKind.u64.wrap (IntKind.i64.wrap (a_1 + a_3))).fdiv (2 ^ 1))) + a_2)) - y_5017)) = False := eq_false h_5067
                    simp only [e_2, e_2008, e_4013, e_4015, e_5019, e_5021, e_5054, e_5056, e_5068, go_sem, reduceIte, reduceCtorEq, Nat.reduceEqDiff, Nat.reduceLT, Nat.reduceLeDiff, Nat.reduceAdd, Nat.reduceSub, Nat.reduceMul, Int.reduceToNat, Int.reduceLE, Int.reduceLT, Int.reduceAdd, Int.reduceSub, Int.reduceMul, Int.reduceEq, Int.reduceNeg]
                    have g_0 := Option.some.inj h
                    subst g_0
                    rw [← hQ]
                    exact ⟨rfl, _, rfl, _, _, (RefV.std [0, 1, 2, 3] (by decide) (by decide) rfl (by first | rfl | simp only [go_sem, reduceIte, Nat.reduceEqDiff, Nat.reduceAdd, e_2, e_2008, e_4015, e_5019, e_5021, e_5054, e_5056, e_5068])), rfl, rfl⟩
              · rw [if_neg h_5053] at h
                have e_5054 : (a_1 < y_5017) = False := eq_false h_5053
                simp only [e_2, e_2008, e_4013, e_4015, e_5019, e_5021, e_5054, go_sem, reduceIte, reduceCtorEq, Nat.reduceEqDiff, Nat.reduceLT, Nat.reduceLeDiff, Nat.reduceAdd, Nat.reduceSub, Nat.reduceMul, Int.reduceToNat, Int.reduceLE, Int.reduceLT, Int.reduceAdd, Int.reduceSub, Int.reduceMul, Int.reduceEq, Int.reduceNeg]
                by_cases h_5074 : IntKind.i64.wrap ((IntKind.u64.wrap (IntKind.i64.wrap (a_1 + a_3))).fdiv (2 ^ 1)) < IntKind.i64.wrap ((IntKind.i64.wrap ((IntKind.i64.wrap ((IntKind.u64.wrap (IntKind.i64.wrap (a_1 + a_3))).fdiv (2 ^ 1))) + a_2)) - y_5017)
                · rw [if_pos h_5074] at h
                  have e_5075 : (IntKind.i64.wrap ((IntKind.u64.wrap (IntKind.i64.wrap (a_1 + a_3))).fdiv (2 ^ 1)) < IntKind.i64.wrap ((IntKind.i64.wrap ((IntKind.i64.wrap ((IntKind.u64.wrap (IntKind.i64.wrap (a_1 + a_3))).fdiv (2 ^ 1))) + a_2)) - y_5017)) = True := eq_true h_5074
                  simp only [e_2, e_2008, e_4013, e_4015, e_5019, e_5021, e_5054, e_5075, go_sem, reduceIte, reduceCtorEq, Nat.reduceEqDiff, Nat.reduceLT, Nat.reduceLeDiff, Nat.reduceAdd, Nat.reduceSub, Nat.reduceMul, Int.reduceToNat, Int.reduceLE, Int.reduceLT, Int.reduceAdd, Int.reduceSub, Int.reduceMul, Int.reduceEq, Int.reduceNeg]
                  by_cases h_5076 : IntKind.i64.wrap ((IntKind.i64.wrap ((IntKind.i64.wrap ((IntKind.u64.wrap (IntKind.i64.wrap (a_1 + a_3))).fdiv (2 ^ 1))) + a_2)) - y_5017) < a_3
                  · rw [if_pos h_5076] at h
                    have e_5077 : (IntKind.i64.wrap ((IntKind.i64.wrap ((IntKind.i64.wrap ((IntKind.u64.wrap (IntKind.i64.wrap (a_1 + a_3))).fdiv (2 ^ 1))) + a_2)) - y_5017) < a_3) = True := eq_true h_5076
                    obtain ⟨y_5078, h_5079, h⟩ := bindS h
                    simp only [e_2, e_2008, e_4013, e_4015, e_5019, e_5021, e_5054, e_5075, e_5077, go_sem, reduceIte, reduceCtorEq, Nat.reduceEqDiff, Nat.reduceLT, Nat.reduceLeDiff, Nat.reduceAdd, Nat.reduceSub, Nat.reduceMul, Int.reduceToNat, Int.reduceLE, Int.reduceLT, Int.reduceAdd, Int.reduceSub, Int.reduceMul, Int.reduceEq, Int.reduceNeg]
                    refine ACalls.use (ih _ _ _ _ _ _ h_5079) [0, 1, 3] (by decide) ⟨(by first | rfl | simp only [go_sem, reduceIte, Nat.reduceEqDiff, Nat.reduceAdd, e_2, e_2008, e_4015, e_5019, e_5021, e_5054, e_5075, e_5077]), (by first | rfl | simp only [go_sem, reduceIte, Nat.reduceEqDiff, Nat.reduceAdd, e_2, e_2008, e_4015, e_5019, e_5021, e_5054, e_5075, e_5077]), (by first | rfl | simp only [go_sem, reduceIte, Nat.reduceEqDiff, Nat.reduceAdd, e_2, e_2008, e_4015, e_5019, e_5021, e_5054, e_5075, e_5077]), trivial⟩ rfl (v' := .tup []) (by first | rfl | simp only [go_sem, reduceIte, Nat.reduceEqDiff, Nat.reduceAdd, e_2, e_2008, e_4015, e_5019, e_5021, e_5054, e_5075, e_5077]) (H' := [.mem 1 (List.map eI64 y_5078) 3, .box [.row 4 0 l_4.length] 28, .dead, .dead, .mem 1 (List.map eI64 l_4) 3]) (by first | rfl | simp only [go_sem, reduceIte, Nat.reduceEqDiff, Nat.reduceAdd, e_2, e_2008, e_4015, e_5019, e_5021, e_5054, e_5075, e_5077]) ?_
                    refine CallK_go (by simp) ?_
                    obtain ⟨h_5080, h⟩ := guardS h
                    simp only [e_2, e_2008, e_4013, e_4015, e_5019, e_5021, e_5054, e_5075, e_5077, go_sem, reduceIte, reduceCtorEq, Nat.reduceEqDiff, Nat.reduceLT, Nat.reduceLeDiff, Nat.reduceAdd, Nat.reduceSub, Nat.reduceMul, Int.reduceToNat, Int.reduceLE, Int.reduceLT, Int.reduceAdd, Int.reduceSub, Int.reduceMul, Int.reduceEq, Int.reduceNeg]
                    have g_0 := Option.some.inj h
                    subst g_0
                    rw [← hQ]
                    exact ⟨rfl, _, rfl, _, _, (RefV.std [0, 1, 2, 4] (by decide) (by decide) (by first | rfl | simp only [go_sem, reduceIte, Nat.reduceEqDiff, Nat.reduceAdd, h_5080]) (by first | rfl | simp only [go_sem, reduceIte, Nat.reduceEqDiff, Nat.reduceAdd, e_2, e_2008, e_4015, e_5019, e_5021, e_5054, e_5075, e_5077])), rfl, rfl⟩
                  · rw [if_neg h_5076] at h
                    have e_5077 : (IntKind.i64.wrap ((IntKind.i64.wrap ((IntKind.i64.wrap ((IntKind.u64.wrap (IntKind.i64.wrap (a_1 + a_3))).fdiv (2 ^ 1))) + a_2)) - y_5017) < a_3) = False := eq_false h_5076
                    simp only [e_2, e_2008, e_4013, e_4015, e_5019, e_5021, e_5054, e_5075, e_5077, go_sem, reduceIte, reduceCtorEq, Nat.reduceEqDiff, Nat.reduceLT, Nat.reduceLeDiff, Nat.reduceAdd, Nat.reduceSub, Nat.reduceMul, Int.reduceToNat, Int.reduceLE, Int.reduceLT, Int.reduceAdd, Int.reduceSub, Int.reduceMul, Int.reduceEq, Int.reduceNeg]
                    have g_0 := Option.some.inj h
                    subst g_0
                    rw [← hQ]
                    exact ⟨rfl, _, rfl, _, _, (RefV.std [0, 1, 2, 3] (by decide) (by decide) rfl (by first | rfl | simp only [go_sem, reduceIte, Nat.reduceEqDiff, Nat.reduceAdd, e_2, e_2008, e_4015, e_5019, e_5021, e_5054, e_5075, e_5077])), rfl, rfl⟩
                · rw [if_neg h_5074] at h
                  have e_5075 : (IntKind.i64.wrap ((IntKind.u64.wrap (IntKind.i64.wrap (a_1 + a_3))).fdiv (2 ^ 1)) < IntKind.i64.wrap ((IntKind.i64.wrap ((IntKind.i64.wrap ((IntKind.u64.wrap (IntKind.i64.wrap (a_1 + a_3))).fdiv (2 ^ 1))) + a_2)) - y_5017)) = False := eq_false h_5074
                  simp only [e_2, e_2008, e_4013, e_4015, e_5019, e_5021, e_5054, e_5075, go_sem, reduceIte, reduceCtorEq, Nat.reduceEqDiff, Nat.reduceLT, Nat.reduceLeDiff, Nat.reduceAdd, Nat.reduceSub, Nat.reduceMul, Int.reduceToNat, Int.reduceLE, Int.reduceLT, Int.reduceAdd, Int.reduceSub, Int.reduceMul, Int.reduceEq, Int.reduceNeg]
                  have g_0 := Option.some.inj h
                  subst g_0
                  rw [← hQ]
                  exact ⟨rfl, _, rfl, _, _, (RefV.std [0, 1, 2, 3] (by decide) (by decide) rfl (by first | rfl | simp only [go_sem, reduceIte, Nat.reduceEqDiff, Nat.reduceAdd, e_2, e_2008, e_4015, e_5019, e_5021, e_5054, e_5075])), rfl, rfl⟩
          · rw [if_neg h_5018] at h
            have e_5019 : (y_5017 < a_2) = False := eq_false h_5018
            simp only [e_2, e_2008, e_4013, e_4015, e_5019, go_sem, reduceIte, reduceCtorEq, Nat.reduceEqDiff, Nat.reduceLT, Nat.reduceLeDiff, Nat.reduceAdd, Nat.reduceSub, Nat.reduceMul, Int.reduceToNat, Int.reduceLE, Int.reduceLT, Int.reduceAdd, Int.reduceSub, Int.reduceMul, Int.reduceEq, Int.reduceNeg]
            by_cases h_5081 : a_1 < y_5017
            · rw [if_pos h_5081] at h
              have e_5082 : (a_1 < y_5017) = True := eq_true h_5081
              simp only [e_2, e_2008, e_4013, e_4015, e_5019, e_5082, go_sem, reduceIte, reduceCtorEq, Nat.reduceEqDiff, Nat.reduceLT, Nat.reduceLeDiff, Nat.reduceAdd, Nat.reduceSub, Nat.reduceMul, Int.reduceToNat, Int.reduceLE, Int.reduceLT, Int.reduceAdd, Int.reduceSub, Int.reduceMul, Int.reduceEq, Int.reduceNeg]
              by_cases h_5083 : y_5017 < IntKind.i64.wrap ((IntKind.u64.wrap (IntKind.i64.wrap (a_1 + a_3))).fdiv (2 ^ 1))
              · rw [if_pos h_5083] at h
                have e_5084 : (y_5017 < IntKind.i64.wrap ((IntKind.u64.wrap (IntKind.i64.wrap (a_1 + a_3))).fdiv (2 ^ 1))) = True := eq_true h_5083
                obtain ⟨y_5085, h_5086, h⟩ := bindS h
                simp only [e_2, e_2008, e_4013, e_4015, e_5019, e_5082, e_5084, go_sem, reduceIte, reduceCtorEq, Nat.reduceEqDiff, Nat.reduceLT, Nat.reduceLeDiff, Nat.reduceAdd, Nat.reduceSub, Nat.reduceMul, Int.reduceToNat, Int.reduceLE, Int.reduceLT, Int.reduceAdd, Int.reduceSub, Int.reduceMul, Int.reduceEq, Int.reduceNeg]
                refine ACalls.use (ih _ _ _ _ _ _ h_5086) [0, 1, 3] (by decide) ⟨(by first | rfl | simp only [go_sem, reduceIte, Nat.reduceEqDiff, Nat.reduceAdd, e_2, e_2008, e_4015, e_5019, e_5082, e_5084]), (by first | rfl | simp only [go_sem, reduceIte, Nat.reduceEqDiff, Nat.reduceAdd, e_2, e_2008, e_4015, e_5019, e_5082, e_5084]), (by first | rfl | simp only [go_sem, reduceIte, Nat.reduceEqDiff, Nat.reduceAdd, e_2, e_2008, e_4015, e_5019, e_5082, e_5084]), trivial⟩ rfl (v' := .tup []) (by first | rfl | simp only [go_sem, reduceIte, Nat.reduceEqDiff, Nat.reduceAdd, e_2, e_2008, e_4015, e_5019, e_5082, e_5084]) (H' := [.mem 1 (List.map eI64 y_5085) 3, .box [.row 4 0 l_4.length] 28, .dead, .dead, .mem 1 (List.map eI64 l_4) 3]) (by first | rfl | simp only [go_sem, reduceIte, Nat.reduceEqDiff, Nat.reduceAdd, e_2, e_2008, e_4015, e_5019, e_5082, e_5084]) ?_
                refine CallK_go (by simp) ?_
                obtain ⟨h_5087, h⟩ := guardS h
                simp only [e_2, e_2008, e_4013, e_4015, e_5019, e_5082, e_5084, go_sem, reduceIte, reduceCtorEq, Nat.reduceEqDiff, Nat.reduceLT, Nat.reduceLeDiff, Nat.reduceAdd, Nat.reduceSub, Nat.reduceMul, Int.reduceToNat, Int.reduceLE, Int.reduceLT, Int.reduceAdd, Int.reduceSub, Int.reduceMul, Int.reduceEq, Int.reduceNeg]
                by_cases h_5088 : IntKind.i64.wrap ((IntKind.u64.wrap (IntKind.i64.wrap (a_1 + a_3))).fdiv (2 ^ 1)) < IntKind.i64.wrap ((IntKind.i64.wrap ((IntKind.i64.wrap ((IntKind.u64.wrap (IntKind.i64.wrap (a_1 + a_3))).fdiv (2 ^ 1))) + a_2)) - y_5017)
                · rw [if_pos h_5088] at h
                  have e_5089 : (IntKind.i64.wrap ((IntKind.u64.wrap (IntKind.i64.wrap (a_1 + a_3))).fdiv (2 ^ 1)) < IntKind.i64.wrap ((IntKind.i64.wrap ((IntKind.i64.wrap ((IntKind.u64.wrap (IntKind.i64.wrap (a_1 + a_3))).fdiv (2 ^ 1))) + a_2)) - y_5017)) = True := eq_true h_5088
                  simp only [e_2, e_2008, e_4013, e_4015, e_5019, e_5082, e_5084, e_5089, go_sem, reduceIte, reduceCtorEq, Nat.reduceEqDiff, Nat.reduceLT, Nat.reduceLeDiff, Nat.reduceAdd, Nat.reduceSub, Nat.reduceMul, Int.reduceToNat, Int.reduceLE, Int.reduceLT, Int.reduceAdd, Int.reduceSub, Int.reduceMul, Int.reduceEq, Int.reduceNeg]
                  by_cases h_5090 : IntKind.i64.wrap ((IntKind.i64.wrap ((IntKind.i64.wrap ((IntKind.u64.wrap (IntKind.i64.wrap (a_1 + a_3))).fdiv (2 ^ 1))) + a_2)) - y_5017) < a_3
                  · rw [if_pos h_5090] at h
                    have e_5091 : (IntKind.i64.wrap ((IntKind.i64.wrap ((IntKind.i64.wrap ((IntKind.u64.wrap (IntKind.i64.wrap (a_1 + a_3))).fdiv (2 ^ 1))) + a_2)) - y_5017) < a_3) = True := eq_true h_5090
                    obtain ⟨y_5092, h_5093, h⟩ := bindS h
                    simp only [e_2, e_2008, e_4013, e_4015, e_5019, e_5082, e_5084, e_5089, e_5091, go_sem, reduceIte, reduceCtorEq, Nat.reduceEqDiff, Nat.reduceLT, Nat.reduceLeDiff, Nat.reduceAdd, Nat.reduceSub, Nat.reduceMul, Int.reduceToNat, Int.reduceLE, Int.reduceLT, Int.reduceAdd, Int.reduceSub, Int.reduceMul, Int.reduceEq, Int.reduceNeg]
                    refine ACalls.use (ih _ _ _ _ _ _ h_5093) [0, 1, 4] (by decide) ⟨(by first | rfl | simp only [go_sem, reduceIte, Nat.reduceEqDiff, Nat.reduceAdd, e_2, e_2008, e_4015, e_5019, e_5082, e_5084, e_5089, e_5091, h_5087]), (by first | rfl | simp only [go_sem, reduceIte, Nat.reduceEqDiff, Nat.reduceAdd, e_2, e_2008, e_4015, e_5019, e_5082, e_5084, e_5089, e_5091, h_5087]), (by first | rfl | simp only [go_sem, reduceIte, Nat.reduceEqDiff, Nat.reduceAdd, e_2, e_2008, e_4015, e_5019, e_5082, e_5084, e_5089, e_5091, h_5087]), trivial⟩ (by first | rfl | simp only [go_sem, reduceIte, Nat.reduceEqDiff, Nat.reduceAdd, e_2, e_2008, e_4015, e_5019, e_5082, e_5084, e_5089, e_5091, h_5087]) (v' := .tup []) (by first | rfl | simp only [go_sem, reduceIte, Nat.reduceEqDiff, Nat.reduceAdd, e_2, e_2008, e_4015, e_5019, e_5082, e_5084, e_5089, e_5091, h_5087]) (H' := [.mem 1 (List.map eI64 y_5092) 3, .box [.row 5 0 l_4.length] 28, .dead, .dead, .dead, .mem 1 (List.map eI64 l_4) 3]) (by first | rfl | simp only [go_sem, reduceIte, Nat.reduceEqDiff, Nat.reduceAdd, e_2, e_2008, e_4015, e_5019, e_5082, e_5084, e_5089, e_5091, h_5087]) ?_
                    refine CallK_go (by simp) ?_
                    obtain ⟨h_5094, h⟩ := guardS h
                    simp only [e_2, e_2008, e_4013, e_4015, e_5019, e_5082, e_5084, e_5089, e_5091, go_sem, reduceIte, reduceCtorEq, Nat.reduceEqDiff, Nat.reduceLT, Nat.reduceLeDiff, Nat.reduceAdd, Nat.reduceSub, Nat.reduceMul, Int.reduceToNat, Int.reduceLE, Int.reduceLT, Int.reduceAdd, Int.reduceSub, Int.reduceMul, Int.reduceEq, Int.reduceNeg]
                    have g_0 := Option.some.inj h
                    subst g_0
                    rw [← hQ]
                    exact ⟨rfl, _, rfl, _, _, (RefV.std [0, 1, 2, 5] (by decide) (by decide) (by first | rfl | simp only [go_sem, reduceIte, Nat.reduceEqDiff, Nat.reduceAdd, h_5087, h_5094]) (by first | rfl | simp only [go_sem, reduceIte, Nat.reduceEqDiff, Nat.reduceAdd, e_2, e_2008, e_4015, e_5019, e_5082, e_5084, e_5089, e_5091])), rfl, rfl⟩
                  · rw [if_neg h_5090] at h
                    have e_5091 : (IntKind.i64.wrap ((IntKind.i64.wrap ((IntKind.i64.wrap ((IntKind.u64.wrap (IntKind.i64.wrap (a_1 + a_3))).fdiv (2 ^ 1))) + a_2)) - y_5017) < a_3) = False := eq_false h_5090
                    simp only [e_2, e_2008, e_4013, e_4015, e_5019, e_5082, e_5084, e_5089, e_5091, go_sem, reduceIte, reduceCtorEq, Nat.reduceEqDiff, Nat.reduceLT, Nat.reduceLeDiff, Nat.reduceAdd, Nat.reduceSub, Nat.reduceMul, Int.reduceToNat, Int.reduceLE, Int.reduceLT, Int.reduceAdd, Int.reduceSub, Int.reduceMul, Int.reduceEq, Int.reduceNeg]
                    have g_0 := Option.some.inj h
                    subst g_0
                    rw [← hQ]
                    exact ⟨rfl, _, rfl, _, _, (RefV.std [0, 1, 2, 4] (by decide) (by decide) (by first | rfl | simp only [go_sem, reduceIte, Nat.reduceEqDiff, Nat.reduceAdd, h_5087]) (by first | rfl | simp only [go_sem, reduceIte, Nat.reduceEqDiff, Nat.reduceAdd, e_2, e_2008, e_4015, e_5019, e_5082, e_5084, e_5089, e_5091])), rfl, rfl⟩
                · rw [if_neg h_5088] at h
                  have e_5089 : (IntKind.i64.wrap ((IntKind.u64.wrap (IntKind.i64.wrap (a_1 + a_3))).fdiv (2 ^ 1)) < IntKind.i64.wrap ((IntKind.i64.wrap ((IntKind.i64.wrap ((IntKind.u64.wrap (IntKind.i64.wrap (a_1 + a_3))).fdiv (2 ^ 1))) + a_2)) - y_5017)) = False := eq_false h_5088
                  simp only [e_2, e_2008, e_4013, e_4015, e_5019, e_5082, e_5084, e_5089, go_sem, reduceIte, reduceCtorEq, Nat.reduceEqDiff, Nat.reduceLT, Nat.reduceLeDiff, Nat.reduceAdd, Nat.reduceSub, Nat.reduceMul, Int.reduceToNat, Int.reduceLE, Int.reduceLT, Int.reduceAdd, Int.reduceSub, Int.reduceMul, Int.reduceEq, Int.reduceNeg]
                  have g_0 := Option.some.inj h
                  subst g_0
                  rw [← hQ]
                  exact ⟨rfl, _, rfl, _, _, (RefV.std [0, 1, 2, 4] (by decide) (by decide) (by first | rfl | simp only [go_sem, reduceIte, Nat.reduceEqDiff, Nat.reduceAdd, h_5087]) (by first | rfl | simp only [go_sem, reduceIte, Nat.reduceEqDiff, Nat.reduceAdd, e_2, e_2008, e_4015, e_5019, e_5082, e_5084, e_5089])), rfl, rfl⟩
              · rw [if_neg h_5083] at h
                have e_5084 : (y_5017 < IntKind.i64.wrap ((IntKind.u64.wrap (IntKind.i64.wrap (a_1 + a_3))).fdiv (2 ^ 1))) = False := eq_false h_5083
                simp only [e_2, e_2008, e_4013, e_4015, e_5019, e_5082, e_5084, go_sem, reduceIte, reduceCtorEq, Nat.reduceEqDiff, Nat.reduceLT, Nat.reduceLeDiff, Nat.reduceAdd, Nat.reduceSub, Nat.reduceMul, Int.reduceToNat, Int.reduceLE, Int.reduceLT, Int.reduceAdd, Int.reduceSub, Int.reduceMul, Int.reduceEq, Int.reduceNeg]
                by_cases h_5095 : IntKind.i64.wrap ((IntKind.u64.wrap (IntKind.i64.wrap (a_1 + a_3))).fdiv (2 ^ 1)) < IntKind.i64.wrap ((IntKind.i64.wrap ((IntKind.i64.wrap ((IntKind.u64.wrap (IntKind.i64.wrap (a_1 + a_3))).fdiv (2 ^ 1))) + a_2)) - y_5017)
                · rw [if_pos h_5095] at h
                  have e_5096 : (IntKind.i64.wrap ((IntKind.u64.wrap (IntKind.i64.wrap (a_1 + a_3))).fdiv (2 ^ 1)) < IntKind.i64.wrap ((IntKind.i64.wrap ((IntKind.i64.wrap ((IntKind.u64.wrap (IntKind.i64.wrap (a_1 + a_3))).fdiv (2 ^ 1))) + a_2)) - y_5017)) = True := eq_true h_5095
                  simp only [e_2, e_2008, e_4013, e_4015, e_5019, e_5082, e_5084, e_5096, go_sem, reduceIte, reduceCtorEq, Nat.reduceEqDiff, Nat.reduceLT, Nat.reduceLeDiff, Nat.reduceAdd, Nat.reduceSub, Nat.reduceMul, Int.reduceToNat, Int.reduceLE, Int.reduceLT, Int.reduceAdd, Int.reduceSub, Int.reduceMul, Int.reduceEq, Int.reduceNeg]
                  by_cases h_5097 : IntKind.i64.wrap ((IntKind.i64.wrap ((IntKind.i64.wrap ((IntKind.u64.wrap (IntKind.i64.wrap (a_1 + a_3))).fdiv (2 ^ 1))) + a_2)) - y_5017) < a_3
                  · rw [if_pos h_5097] at h
                    have e_5098 : (IntKind.i64.wrap ((IntKind.i64.wrap ((IntKind.i64.wrap ((IntKind.u64.wrap (IntKind.i64.wrap (a_1 + a_3))).fdiv (2 ^ 1))) + a_2)) - y_5017) < a_3) = True := eq_true h_5097
                    obtain ⟨y_5099, h_5100, h⟩ := bindS h
                    simp only [e_2, e_2008, e_4013, e_4015, e_5019, e_5082, e_5084, e_5096, e_5098, go_sem, reduceIte, reduceCtorEq, Nat.reduceEqDiff, Nat.reduceLT, Nat.reduceLeDiff, Nat.reduceAdd, Nat.reduceSub, Nat.reduceMul, Int.reduceToNat, Int.reduceLE, Int.reduceLT, Int.reduceAdd, Int.reduceSub, Int.reduceMul, Int.reduceEq, Int.reduceNeg]
                    refine ACalls.use (ih _ _ _ _ _ _ h_5100) [0, 1, 3] (by decide) ⟨(by first | rfl | simp only [go_sem, reduceIte, Nat.reduceEqDiff, Nat.reduceAdd, e_2, e_2008, e_4015, e_5019, e_5082, e_5084, e_5096, e_5098]), (by first | rfl | simp only [go_sem, reduceIte, Nat.reduceEqDiff, Nat.reduceAdd, e_2, e_2008, e_4015, e_5019, e_5082, e_5084, e_5096, e_5098]), (by first | rfl | simp only [go_sem, reduceIte, Nat.reduceEqDiff, Nat.reduceAdd, e_2, e_2008, e_4015, e_5019, e_5082, e_5084, e_5096, e_5098]), trivial⟩ rfl (v' := .tup []) (by first | rfl | simp only [go_sem, reduceIte, Nat.reduceEqDiff, Nat.reduceAdd, e_2, e_2008, e_4015, e_5019, e_5082, e_5084, e_5096, e_5098]) (H' := [.mem 1 (List.map eI64 y_5099) 3, .box [.row 4 0 l_4.length] 28, .dead, .dead, .mem 1 (List.map eI64 l_4) 3]) (by first | rfl | simp only [go_sem, reduceIte, Nat.reduceEqDiff, Nat.reduceAdd, e_2, e_2008, e_4015, e_5019, e_5082, e_5084, e_5096, e_5098]) ?_
                    refine CallK_go (by simp) ?_
                    obtain ⟨h_5101, h⟩ := guardS h
                    simp only [e_2, e_2008, e_4013, e_4015, e_5019, e_5082, e_5084, e_5096, e_5098, go_sem, reduceIte, reduceCtorEq, Nat.reduceEqDiff, Nat.reduceLT, Nat.reduceLeDiff, Nat.reduceAdd, Nat.reduceSub, Nat.reduceMul, Int.reduceToNat, Int.reduceLE, Int.reduceLT, Int.reduceAdd, Int.reduceSub, Int.reduceMul, Int.reduceEq, Int.reduceNeg]
                    have g_0 := Option.some.inj h
                    subst g_0
                    rw [← hQ]
                    exact ⟨rfl, _, rfl, _, _, (RefV.std [0, 1, 2, 4] (by decide) (by decide) (by first | rfl | simp only [go_sem, reduceIte, Nat.reduceEqDiff, Nat.reduceAdd, h_5101]) (by first | rfl | simp only [go_sem, reduceIte, Nat.reduceEqDiff, Nat.reduceAdd, e_2, e_2008, e_4015, e_5019, e_5082, e_5084, e_5096, e_5098])), rfl, rfl⟩
                  · rw [if_neg h_5097] at h
                    have e_5098 : (IntKind.i64.wrap ((IntKind.i64.wrap ((IntKind.i64.wrap ((IntKind.u64.wrap (IntKind.i64.wrap (a_1 + a_3))).fdiv (2 ^ 1))) + a_2)) - y_5017) < a_3) = False := eq_false h_5097
                    simp only [e_2, e_2008, e_4013, e_4015, e_5019, e_5082, e_5084, e_5096, e_5098, go_sem, reduceIte, reduceCtorEq, Nat.reduceEqDiff, Nat.reduceLT, Nat.reduceLeDiff, Nat.reduceAdd, Nat.reduceSub, Nat.reduceMul, Int.reduceToNat, Int.reduceLE, Int.reduceLT, Int.reduceAdd, Int.reduceSub, Int.reduceMul, Int.reduceEq, Int.reduceNeg]
                    have g_0 := Option.some.inj h
                    subst g_0
                    rw [← hQ]
                    exact ⟨rfl, _, rfl, _, _, (RefV.std [0, 1, 2, 3] (by decide) (by decide) rfl (by first | rfl | simp only [go_sem, reduceIte, Nat.reduceEqDiff, Nat.reduceAdd, e_2, e_2008, e_4015, e_5019, e_5082, e_5084, e_5096, e_5098])), rfl, rfl⟩
                · rw [if_neg h_5095] at h
                  have e_5096 : (IntKind.i64.wrap ((IntKind.u64.wrap (IntKind.i64.wrap (a_1 + a_3))).fdiv (2 ^ 1)) < IntKind.i64.wrap ((IntKind.i64.wrap ((IntKind.i64.wrap ((IntKind.u64.wrap (IntKind.i64.wrap (a_1 + a_3))).fdiv (2 ^ 1))) + a_2)) - y_5017)) = False := eq_false h_5095
                  simp only [e_2, e_2008, e_4013, e_4015, e_5019, e_5082, e_5084, e_5096, go_sem, reduceIte, reduceCtorEq, Nat.reduceEqDiff, Nat.reduceLT, Nat.reduceLeDiff, Nat.reduceAdd, Nat.reduceSub, Nat.reduceMul, Int.reduceToNat, Int.reduceLE, Int.reduceLT, Int.reduceAdd, Int.reduceSub, Int.reduceMul, Int.reduceEq, Int.reduceNeg]
                  have g_0 := Option.some.inj h
                  subst g_0
                  rw [← hQ]
                  exact ⟨rfl, _, rfl, _, _, (RefV.std [0, 1, 2, 3] (by decide) (by decide) rfl (by first | rfl | simp only [go_sem, reduceIte, Nat.reduceEqDiff, Nat.reduceAdd, e_2, e_2008, e_4015, e_5019, e_5082, e_5084, e_5096])), rfl, rfl⟩
            · rw [if_neg h_5081] at h
              have e_5082 : (a_1 < y_5017) = False := eq_false h_5081
              simp only [e_2, e_2008, e_4013, e_4015, e_5019, e_5082, go_sem, reduceIte, reduceCtorEq, Nat.reduceEqDiff, Nat.reduceLT, Nat.reduceLeDiff, Nat.reduceAdd, Nat.reduceSub, Nat.reduceMul, Int.reduceToNat, Int.reduceLE, Int.reduceLT, Int.reduceAdd, Int.reduceSub, Int.reduceMul, Int.reduceEq, Int.reduceNeg]
              by_cases h_5102 : IntKind.i64.wrap ((IntKind.u64.wrap (IntKind.i64.wrap (a_1 + a_3))).fdiv (2 ^ 1)) < IntKind.i64.wrap ((IntKind.i64.wrap ((IntKind.i64.wrap ((IntKind.u64.wrap (IntKind.i64.wrap (a_1 + a_3))).fdiv (2 ^ 1))) + a_2)) - y_5017)
              · rw [if_pos h_5102] at h
                have e_5103 : (IntKind.i64.wrap ((IntKind.u64.wrap (IntKind.i64.wrap (a_1 + a_3))).fdiv (2 ^ 1)) < IntKind.i64.wrap ((IntKind.i64.wrap ((IntKind.i64.wrap ((IntKind.u64.wrap (IntKind.i64.wrap (a_1 + a_3))).fdiv (2 ^ 1))) + a_2)) - y_5017)) = True := eq_true h_5102
                simp only [e_2, e_2008, e_4013, e_4015, e_5019, e_5082, e_5103, go_sem, reduceIte, reduceCtorEq, Nat.reduceEqDiff, Nat.reduceLT, Nat.reduceLeDiff, Nat.reduceAdd, Nat.reduceSub, Nat.reduceMul, Int.reduceToNat, Int.reduceLE, Int.reduceLT, Int.reduceAdd, Int.reduceSub, Int.reduceMul, Int.reduceEq, Int.reduceNeg]
                by_cases h_5104 : IntKind.i64.wrap ((IntKind.i64.wrap ((IntKind.i64.wrap ((IntKind.u64.wrap (IntKind.i64.wrap (a_1 + a_3))).fdiv (2 ^ 1))) + a_2)) - y_5017) < a_3
                · rw [if_pos h_5104] at h
                  have e_5105 : (IntKind.i64.wrap ((IntKind.i64.wrap ((IntKind.i64.wrap ((IntKind.u64.wrap (IntKind.i64.wrap (a_1 + a_3))).fdiv (2 ^ 1))) + a_2)) - y_5017) < a_3) = True := eq_true h_5104
                  obtain ⟨y_5106, h_5107, h⟩ := bindS h
                  simp only [e_2, e_2008, e_4013, e_4015, e_5019, e_5082, e_5103, e_5105, go_sem, reduceIte, reduceCtorEq, Nat.reduceEqDiff, Nat.reduceLT, Nat.reduceLeDiff, Nat.reduceAdd, Nat.reduceSub, Nat.reduceMul, Int.reduceToNat, Int.reduceLE, Int.reduceLT, Int.reduceAdd, Int.reduceSub, Int.reduceMul, Int.reduceEq, Int.reduceNeg]
                  refine ACalls.use (ih _ _ _ _ _ _ h_5107) [0, 1, 3] (by decide) ⟨(by first | rfl | simp only [go_sem, reduceIte, Nat.reduceEqDiff, Nat.reduceAdd, e_2, e_2008, e_4015, e_5019, e_5082, e_5103, e_5105]), (by first | rfl | simp only [go_sem, reduceIte, Nat.reduceEqDiff, Nat.reduceAdd, e_2, e_2008, e_4015, e_5019, e_5082, e_5103, e_5105]), (by first | rfl | simp only [go_sem, reduceIte, Nat.reduceEqDiff, Nat.reduceAdd, e_2, e_2008, e_4015, e_5019, e_5082, e_5103, e_5105]), trivial⟩ rfl (v' := .tup []) (by first | rfl | simp only [go_sem, reduceIte, Nat.reduceEqDiff, Nat.reduceAdd, e_2, e_2008, e_4015, e_5019, e_5082, e_5103, e_5105]) (H' := [.mem 1 (List.map eI64 y_5106) 3, .box [.row 4 0 l_4.length] 28, .dead, .dead, .mem 1 (List.map eI64 l_4) 3]) (by first | rfl | simp only [go_sem, reduceIte, Nat.reduceEqDiff, Nat.reduceAdd, e_2, e_2008, e_4015, e_5019, e_5082, e_5103, e_5105]) ?_
                  refine CallK_go (by simp) ?_
                  obtain ⟨h_5108, h⟩ := guardS h
                  simp only [e_2, e_2008, e_4013, e_4015, e_5019, e_5082, e_5103, e_5105, go_sem, reduceIte, reduceCtorEq, Nat.reduceEqDiff, Nat.reduceLT, Nat.reduceLeDiff, Nat.reduceAdd, Nat.reduceSub, Nat.reduceMul, Int.reduceToNat, Int.reduceLE, Int.reduceLT, Int.reduceAdd, Int.reduceSub, Int.reduceMul, Int.reduceEq, Int.reduceNeg]
                  have g_0 := Option.some.inj h
                  subst g_0
                  rw [← hQ]
                  exact ⟨rfl, _, rfl, _, _, (RefV.std [0, 1, 2, 4] (by decide) (by decide) (by first | rfl | simp only [go_sem, reduceIte, Nat.reduceEqDiff, Nat.reduceAdd, h_5108]) (by first | rfl | simp only [go_sem, reduceIte, Nat.reduceEqDiff, Nat.reduceAdd, e_2, e_2008, e_4015, e_5019, e_5082, e_5103, e_5105])), rfl, rfl⟩
                · rw [if_neg h_5104] at h
                  have e_5105 : (IntKind.i64.wrap ((IntKind.i64.wrap ((IntKind.i64.wrap ((IntKind.u64.wrap (IntKind.i64.wrap (a_1 + a_3))).fdiv (2 ^ 1))) + a_2)) - y_5017) < a_3) = False := eq_false h_5104
                  simp only [e_2, e_2008, e_4013, e_4015, e_5019, e_5082, e_5103, e_5105, go_sem, reduceIte, reduceCtorEq, Nat.reduceEqDiff, Nat.reduceLT, Nat.reduceLeDiff, Nat.reduceAdd, Nat.reduceSub, Nat.reduceMul, Int.reduceToNat, Int.reduceLE, Int.reduceLT, Int.reduceAdd, Int.reduceSub, Int.reduceMul, Int.reduceEq, Int.reduceNeg]
                  have g_0 := Option.some.inj h
                  subst g_0
                  rw [← hQ]
                  exact ⟨rfl, _, rfl, _, _, (RefV.std [0, 1, 2, 3] (by decide) (by decide) rfl (by first | rfl | simp only [go_sem, reduceIte, Nat.reduceEqDiff, Nat.reduceAdd, e_2, e_2008, e_4015, e_5019, e_5082, e_5103, e_5105])), rfl, rfl⟩
              · rw [if_neg h_5102] at h
                have e_5103 : (IntKind.i64.wrap ((IntKind.u64.wrap (IntKind.i64.wrap (a_1 + a_3))).fdiv (2 ^ 1)) < IntKind.i64.wrap ((IntKind.i64.wrap ((IntKind.i64.wrap ((IntKind.u64.wrap (IntKind.i64.wrap (a_1 + a_3))).fdiv (2 ^ 1))) + a_2)) - y_5017)) = False := eq_false h_5102
                simp only [e_2, e_2008, e_4013, e_4015, e_5019, e_5082, e_5103, go_sem, reduceIte, reduceCtorEq, Nat.reduceEqDiff, Nat.reduceLT, Nat.reduceLeDiff, Nat.reduceAdd, Nat.reduceSub, Nat.reduceMul, Int.reduceToNat, Int.reduceLE, Int.reduceLT, Int.reduceAdd, Int.reduceSub, Int.reduceMul, Int.reduceEq, Int.reduceNeg]
                have g_0 := Option.some.inj h
                subst g_0
                rw [← hQ]
                exact ⟨rfl, _, rfl, _, _, (RefV.std [0, 1, 2, 3] (by decide) (by decide) rfl (by first | rfl | simp only [go_sem, reduceIte, Nat.reduceEqDiff, Nat.reduceAdd, e_2, e_2008, e_4015, e_5019, e_5082, e_5103])), rfl, rfl⟩
        · rw [if_neg h_4014] at h
          have e_4015 : (IntKind.i64.wrap ((IntKind.u64.wrap (IntKind.i64.wrap (a_1 + a_3))).fdiv (2 ^ 1)) < a_2) = False := eq_false h_4014
          simp only [e_2, e_2008, e_4013, e_4015, go_sem, reduceIte, reduceCtorEq, Nat.reduceEqDiff, Nat.reduceLT, Nat.reduceLeDiff, Nat.reduceAdd, Nat.reduceSub, Nat.reduceMul, Int.reduceToNat, Int.reduceLE, Int.reduceLT, Int.reduceAdd, Int.reduceSub, Int.reduceMul, Int.reduceEq, Int.reduceNeg]
          obtain ⟨y_6110, h_6109, h⟩ := bindS h
          refine ALp.ref (Ref.trans (Ref.move (by simp) (id := 2) rfl rfl) (Ref.std [0, 1, 2, 3, 4, 18, 19, 20, 21, 22] [0, 1, 2, 3] (by decide) (by decide) rfl (by first | rfl | simp only [go_sem, reduceIte, Nat.reduceEqDiff, Nat.reduceAdd]))) (by simp) (slices_symMergeCmpFunc_int_row_L5_w N _ _ _ _ _ N _ _ y_6110 h_6109 ?_)
          refine LoopK_go rfl (by simp) ?_
          simp only [e_2, e_2008, e_4013, e_4015, go_sem, reduceIte, reduceCtorEq, Nat.reduceEqDiff, Nat.reduceLT, Nat.reduceLeDiff, Nat.reduceAdd, Nat.reduceSub, Nat.reduceMul, Int.reduceToNat, Int.reduceLE, Int.reduceLT, Int.reduceAdd, Int.reduceSub, Int.reduceMul, Int.reduceEq, Int.reduceNeg]
          by_cases h_6111 : y_6110 < a_2
          · rw [if_pos h_6111] at h
            have e_6112 : (y_6110 < a_2) = True := eq_true h_6111
            simp only [e_2, e_2008, e_4013, e_4015, e_6112, go_sem, reduceIte, reduceCtorEq, Nat.reduceEqDiff, Nat.reduceLT, Nat.reduceLeDiff, Nat.reduceAdd, Nat.reduceSub, Nat.reduceMul, Int.reduceToNat, Int.reduceLE, Int.reduceLT, Int.reduceAdd, Int.reduceSub, Int.reduceMul, Int.reduceEq, Int.reduceNeg]
            by_cases h_6113 : a_2 < IntKind.i64.wrap ((IntKind.i64.wrap ((IntKind.i64.wrap ((IntKind.u64.wrap (IntKind.i64.wrap (a_1 + a_3))).fdiv (2 ^ 1))) + a_2)) - y_6110)
            · rw [if_pos h_6113] at h
              have e_6114 : (a_2 < IntKind.i64.wrap ((IntKind.i64.wrap ((IntKind.i64.wrap ((IntKind.u64.wrap (IntKind.i64.wrap (a_1 + a_3))).fdiv (2 ^ 1))) + a_2)) - y_6110)) = True := eq_true h_6113
              obtain ⟨y_6115, h_6116, h⟩ := bindS h
              simp only [e_2, e_2008, e_4013, e_4015, e_6112, e_6114, go_sem, reduceIte, reduceCtorEq, Nat.reduceEqDiff, Nat.reduceLT, Nat.reduceLeDiff, Nat.reduceAdd, Nat.reduceSub, Nat.reduceMul, Int.reduceToNat, Int.reduceLE, Int.reduceLT, Int.reduceAdd, Int.reduceSub, Int.reduceMul, Int.reduceEq, Int.reduceNeg]
              refine ACalls.use (slices_rotateCmpFunc_int_row_w N _ _ _ _ _ _ h_6116) [0, 1, 3] (by decide) ⟨(by first | rfl | simp only [go_sem, reduceIte, Nat.reduceEqDiff, Nat.reduceAdd, e_2, e_2008, e_4015, e_6112, e_6114]), (by first | rfl | simp only [go_sem, reduceIte, Nat.reduceEqDiff, Nat.reduceAdd, e_2, e_2008, e_4015, e_6112, e_6114]), (by first | rfl | simp only [go_sem, reduceIte, Nat.reduceEqDiff, Nat.reduceAdd, e_2, e_2008, e_4015, e_6112, e_6114]), trivial⟩ rfl (v' := .tup []) (by first | rfl | simp only [go_sem, reduceIte, Nat.reduceEqDiff, Nat.reduceAdd, e_2, e_2008, e_4015, e_6112, e_6114]) (H' := [.mem 1 (List.map eI64 y_6115) 3, .box [.row 4 0 l_4.length] 28, .dead, .dead, .mem 1 (List.map eI64 l_4) 3]) (by first | rfl | simp only [go_sem, reduceIte, Nat.reduceEqDiff, Nat.reduceAdd, e_2, e_2008, e_4015, e_6112, e_6114]) ?_
              refine CallK_go (by simp) ?_
              obtain ⟨h_6117, h⟩ := guardS h
              simp only [e_2, e_2008, e_4013, e_4015, e_6112, e_6114, go_sem, reduceIte, reduceCtorEq, Nat.reduceEqDiff, Nat.reduceLT, Nat.reduceLeDiff, Nat.reduceAdd, Nat.reduceSub, Nat.reduceMul, Int.reduceToNat, Int.reduceLE, Int.reduceLT, Int.reduceAdd, Int.reduceSub, Int.reduceMul, Int.reduceEq, Int.reduceNeg]
              by_cases h_6118 : a_1 < y_6110
              · rw [if_pos h_6118] at h
                have e_6119 : (a_1 < y_6110) = True := eq_true h_6118
                simp only [e_2, e_2008, e_4013, e_4015, e_6112, e_6114, e_6119, go_sem, reduceIte, reduceCtorEq, Nat.reduceEqDiff, Nat.reduceLT, Nat.reduceLeDiff, Nat.reduceAdd, Nat.reduceSub, Nat.reduceMul, Int.reduceToNat, Int.reduceLE, Int.reduceLT, Int.reduceAdd, Int.reduceSub, Int.reduceMul, Int.reduceEq, Int.reduceNeg]
                by_cases h_6120 : y_6110 < IntKind.i64.wrap ((IntKind.u64.wrap (IntKind.i64.wrap (a_1 + a_3))).fdiv (2 ^ 1))
                · rw [if_pos h_6120] at h
                  have e_6121 : (y_6110 < IntKind.i64.wrap ((IntKind.u64.wrap (IntKind.i64.wrap (a_1 + a_3))).fdiv (2 ^ 1))) = True := eq_true h_6120
                  obtain ⟨y_6122, h_6123, h⟩ := bindS h
                  simp only [e_2, e_2008, e_4013, e_4015, e_6112, e_6114, e_6119, e_6121, go_sem, reduceIte, reduceCtorEq, Nat.reduceEqDiff, Nat.reduceLT, Nat.reduceLeDiff, Nat.reduceAdd, Nat.reduceSub, Nat.reduceMul, Int.reduceToNat, Int.reduceLE, Int.reduceLT, Int.reduceAdd, Int.reduceSub, Int.reduceMul, Int.reduceEq, Int.reduceNeg]
                  refine ACalls.use (ih _ _ _ _ _ _ h_6123) [0, 1, 4] (by decide) ⟨(by first | rfl | simp only [go_sem, reduceIte, Nat.reduceEqDiff, Nat.reduceAdd, e_2, e_2008, e_4015, e_6112, e_6114, e_6119, e_6121, h_6117]), (by first | rfl | simp only [go_sem, reduceIte, Nat.reduceEqDiff, Nat.reduceAdd, e_2, e_2008, e_4015, e_6112, e_6114, e_6119, e_6121, h_6117]), (by first | rfl | simp only [go_sem, reduceIte, Nat.reduceEqDiff, Nat.reduceAdd, e_2, e_2008, e_4015, e_6112, e_6114, e_6119, e_6121, h_6117]), trivial⟩ (by first | rfl | simp only [go_sem, reduceIte, Nat.reduceEqDiff, Nat.reduceAdd, e_2, e_2008, e_4015, e_6112, e_6114, e_6119, e_6121, h_6117]) (v' := .tup []) (by first | rfl | simp only [go_sem, reduceIte, Nat.reduceEqDiff, Nat.reduceAdd, e_2, e_2008, e_4015, e_6112, e_6114, e_6119, e_6121, h_6117]) (H' := [.mem 1 (List.map eI64 y_6122) 3, .box [.row 5 0 l_4.length] 28, .dead, .dead, .dead, .mem 1 (List.map eI64 l_4) 3]) (by first | rfl | simp only [go_sem, reduceIte, Nat.reduceEqDiff, Nat.reduceAdd, e_2, e_2008, e_4015, e_6112, e_6114, e_6119, e_6121, h_6117]) ?_
                  refine CallK_go (by simp) ?_
                  obtain ⟨h_6124, h⟩ := guardS h
                  simp only [e_2, e_2008, e_4013, e_4015, e_6112, e_6114, e_6119, e_6121, go_sem, reduceIte, reduceCtorEq, Nat.reduceEqDiff, Nat.reduceLT, Nat.reduceLeDiff, Nat.reduceAdd, Nat.reduceSub, Nat.reduceMul, Int.reduceToNat, Int.reduceLE, Int.reduceLT, Int.reduceAdd, Int.reduceSub, Int.reduceMul, Int.reduceEq, Int.reduceNeg]
                  by_cases h_6125 : IntKind.i64.wrap ((IntKind.u64.wrap (IntKind.i64.wrap (a_1 + a_3))).fdiv (2 ^ 1)) < IntKind.i64.wrap ((IntKind.i64.wrap ((IntKind.i64.wrap ((IntKind.u64.wrap (IntKind.i64.wrap (a_1 + a_3))).fdiv (2 ^ 1))) + a_2)) - y_6110)
                  · rw [if_pos h_6125] at h
                    have e_6126 : (IntKind.i64.wrap ((IntKind.u64.wrap (IntKind.i64.wrap (a_1 + a_3))).fdiv (2 ^ 1)) < IntKind.i64.wrap ((IntKind.i64.wrap ((IntKind.i64.wrap ((IntKind.u64.wrap (IntKind.i64.wrap (a_1 + a_3))).fdiv (2 ^ 1))) + a_2)) - y_6110)) = True := eq_true h_6125
                    simp only [e_2, e_2008, e_4013, e_4015, e_6112, e_6114, e_6119, e_6121, e_6126, go_sem, reduceIte, reduceCtorEq, Nat.reduceEqDiff, Nat.reduceLT, Nat.reduceLeDiff, Nat.reduceAdd, Nat.reduceSub, Nat.reduceMul, Int.reduceToNat, Int.reduceLE, Int.reduceLT, Int.reduceAdd, Int.reduceSub, Int.reduceMul, Int.reduceEq, Int.reduceNeg]
                    by_cases h_6127 : IntKind.i64.wrap ((IntKind.i64.wrap ((IntKind.i64.wrap ((IntKind.u64.wrap (IntKind.i64.wrap (a_1 + a_3))).fdiv (2 ^ 1))) + a_2)) - y_6110) < a_3
                    · rw [if_pos h_6127] at h
                      have e_6128 : (IntKind.i64.wrap ((IntKind.i64.wrap ((IntKind.i64.wrap ((IntKind.u64.wrap (IntKind.i64.wrap (a_1 + a_3))).fdiv (2 ^ 1))) + a_2)) - y_6110) < a_3) = True := eq_true h_6127
                      obtain ⟨y_6129, h_6130, h⟩ := bindS h
                      simp only [e_2, e_2008, e_4013, e_4015, e_6112, e_6114, e_6119, e_6121, e_6126, e_6128, go_sem, reduceIte, reduceCtorEq, Nat.reduceEqDiff, Nat.reduceLT, Nat.reduceLeDiff, Nat.reduceAdd, Nat.reduceSub, Nat.reduceMul, Int.reduceToNat, Int.reduceLE, Int.reduceLT, Int.reduceAdd, Int.reduceSub, Int.reduceMul, Int.reduceEq, Int.reduceNeg]
                      refine ACalls.use (ih _ _ _ _ _ _ h_6130) [0, 1, 5] (by decide) ⟨(by first | rfl | simp only [go_sem, reduceIte, Nat.reduceEqDiff, Nat.reduceAdd, e_2, e_2008, e_4015, e_6112, e_6114, e_6119, e_6121, e_6126, e_6128, h_6117, h_6124]), (by first | rfl | simp only [go_sem, reduceIte, Nat.reduceEqDiff, Nat.reduceAdd, e_2, e_2008, e_4015, e_6112, e_6114, e_6119, e_6121, e_6126, e_6128, h_6117, h_6124]), (by first | rfl | simp only [go_sem, reduceIte, Nat.reduceEqDiff, Nat.reduceAdd, e_2, e_2008, e_4015, e_6112, e_6114, e_6119, e_6121, e_6126, e_6128, h_6117, h_6124]), trivial⟩ (by first | rfl | simp only [go_sem, reduceIte, Nat.reduceEqDiff, Nat.reduceAdd, e_2, e_2008, e_4015, e_6112, e_6114, e_6119, e_6121, e_6126, e_6128, h_6117, h_6124]) (v' := .tup []) (by first | rfl | simp only [go_sem, reduceIte, Nat.reduceEqDiff, Nat.reduceAdd, e_2, e_2008, e_4015, e_6112, e_6114, e_6119, e_6121, e_6126, e_6128, h_6117, h_6124]) (H' := [.mem 1 (List.map eI64 y_6129) 3, .box [.row 6 0 l_4.length] 28, .dead, .dead, .dead, .dead, .mem 1 (List.map eI64 l_4) 3]) (by first | rfl | simp only [go_sem, reduceIte, Nat.reduceEqDiff, Nat.reduceAdd, e_2, e_2008, e_4015, e_6112, e_6114, e_6119, e_6121, e_6126, e_6128, h_6117, h_6124]) ?_
                      refine CallK_go (by simp) ?_
                      obtain ⟨h_6131, h⟩ := guardS h
                      simp only [e_2, e_2008, e_4013, e_4015, e_6112, e_6114, e_6119, e_6121, e_6126, e_6128, go_sem, reduceIte, reduceCtorEq, Nat.reduceEqDiff, Nat.reduceLT, Nat.reduceLeDiff, Nat.reduceAdd, Nat.reduceSub, Nat.reduceMul, Int.reduceToNat, Int.reduceLE, Int.reduceLT, Int.reduceAdd, Int.reduceSub, Int.reduceMul, Int.reduceEq, Int.reduceNeg]
                      have g_0 := Option.some.inj h
                      subst g_0
                      rw [← hQ]
                      exact ⟨rfl, _, rfl, _, _, (RefV.std [0, 1, 2, 6] (by decide) (by decide) (by first | rfl | simp only [go_sem, reduceIte, Nat.reduceEqDiff, Nat.reduceAdd, h_6117, h_6124, h_6131]) (by first | rfl | simp only [go_sem, reduceIte, Nat.reduceEqDiff, Nat.reduceAdd, e_2, e_2008, e_4015, e_6112, e_6114, e_6119, e_6121, e_6126, e_6128])), rfl, rfl⟩
                    · rw [if_neg h_6127] at h
                      have e_6128 : (IntKind.i64.wrap ((IntKind.i64.wrap ((IntKind.i64.wrap ((IntKind.u64.wrap (IntKind.i64.wrap (a_1 + a_3))).fdiv (2 ^ 1))) + a_2)) - y_6110) < a_3) = False := eq_false h_6127
                      simp only [e_2, e_2008, e_4013, e_4015, e_6112, e_6114, e_6119, e_6121, e_6126, e_6128, go_sem, reduceIte, reduceCtorEq, Nat.reduceEqDiff, Nat.reduceLT, Nat.reduceLeDiff, Nat.reduceAdd, Nat.reduceSub, Nat.reduceMul, Int.reduceToNat, Int.reduceLE, Int.reduceLT, Int.reduceAdd, Int.reduceSub, Int.reduceMul, Int.reduceEq, Int.reduceNeg]
                      have g_0 := Option.some.inj h
                      subst g_0
                      rw [← hQ]
                      exact ⟨rfl, _, rfl, _, _, (RefV.std [0, 1, 2, 5] (by decide) (by decide) (by first | rfl | simp only [go_sem, reduceIte, Nat.reduceEqDiff, Nat.reduceAdd, h_6117, h_6124]) (by first | rfl | simp only [go_sem, reduceIte, Nat.reduceEqDiff, Nat.reduceAdd, e_2, e_2008, e_4015, e_6112, e_6114, e_6119, e_6121, e_6126, e_6128])), rfl, rfl⟩
                  · rw [if_neg h_6125] at h
                    have e_6126 : (IntKind.i64.wrap ((IntKind.u64.wrap (IntKind.i64.wrap (a_1 + a_3))).fdiv (2 ^ 1)) < IntKind.i64.wrap ((IntKind.i64.wrap ((IntKind.i64.wrap ((IntKind.u64.wrap (IntKind.i64.wrap (a_1 + a_3))).fdiv (2 ^ 1))) + a_2)) - y_6110)) = False := eq_false h_6125
                    simp only [e_2, e_2008, e_4013, e_4015, e_6112, e_6114, e_6119, e_6121, e_6126, go_sem, reduceIte, reduceCtorEq, Nat.reduceEqDiff, Nat.reduceLT, Nat.reduceLeDiff, Nat.reduceAdd, Nat.reduceSub, Nat.reduceMul, Int.reduceToNat, Int.reduceLE, Int.reduceLT, Int.reduceAdd, Int.reduceSub, Int.reduceMul, Int.reduceEq, Int.reduceNeg]
                    have g_0 := Option.some.inj h
                    subst g_0
                    rw [← hQ]
                    exact ⟨rfl, _, rfl, _, _, (RefV.std [0, 1, 2, 5] (by decide) (by decide) (by first | rfl | simp only [go_sem, reduceIte, Nat.reduceEqDiff, Nat.reduceAdd, h_6117, h_6124]) (by first | rfl | simp only [go_sem, reduceIte, Nat.reduceEqDiff, Nat.reduceAdd, e_2, e_2008, e_4015, e_6112, e_6114, e_6119, e_6121, e_6126])), rfl, rfl⟩
                · rw [if_neg h_6120] at h
                  have e_6121 : (y_6110 < IntKind.i64.wrap ((IntKind.u64.wrap (IntKind.i64.wrap (a_1 + a_3))).fdiv (2 ^ 1))) = False := eq_false h_6120
                  simp only [e_2, e_2008, e_4013, e_4015, e_6112, e_6114, e_6119, e_6121, go_sem, reduceIte, reduceCtorEq, Nat.reduceEqDiff, Nat.reduceLT, Nat.reduceLeDiff, Nat.reduceAdd, Nat.reduceSub, Nat.reduceMul, Int.reduceToNat, Int.reduceLE, Int.reduceLT, Int.reduceAdd, Int.reduceSub, Int.reduceMul, Int.reduceEq, Int.reduceNeg]
                  by_cases h_6132 : IntKind.i64.wrap ((IntKind.u64.wrap (IntKind.i64.wrap (a_1 + a_3))).fdiv (2 ^ 1)) < IntKind.i64.wrap ((IntKind.i64.wrap ((IntKind.i64.wrap ((IntKind.u64.wrap (IntKind.i64.wrap (a_1 + a_3))).fdiv (2 ^ 1))) + a_2)) - y_6110)
                  · rw [if_pos h_6132] at h
                    have e_6133 : (IntKind.i64.wrap ((IntKind.u64.wrap (IntKind.i64.wrap (a_1 + a_3))).fdiv (2 ^ 1)) < IntKind.i64.wrap ((IntKind.i64.wrap ((IntKind.i64.wrap ((IntKind.u64.wrap (IntKind.i64.wrap (a_1 + a_3))).fdiv (2 ^ 1))) + a_2)) - y_6110)) = True := eq_true h_6132
                    simp only [e_2, e_2008, e_4013, e_4015, e_6112, e_6114, e_6119, e_6121, e_6133, go_sem, reduceIte, reduceCtorEq, Nat.reduceEqDiff, Nat.reduceLT, Nat.reduceLeDiff, Nat.reduceAdd, Nat.reduceSub, Nat.reduceMul, Int.reduceToNat, Int.reduceLE, Int.reduceLT, Int.reduceAdd, Int.reduceSub, Int.reduceMul, Int.reduceEq, Int.reduceNeg]
                    by_cases h_6134 : IntKind.i64.wrap ((IntKind.i64.wrap ((IntKind.i64.wrap ((IntKind.u64.wrap (IntKind.i64.wrap (a_1 + a_3))).fdiv (2 ^ 1))) + a_2)) - y_6110) < a_3
                    · rw [if_pos h_6134] at h
                      have e_6135 : (IntKind.i64.wrap ((IntKind.i64.wrap ((IntKind.i64.wrap ((IntKind.u64.wrap (IntKind.i64.wrap (a_1 + a_3))).fdiv (2 ^ 1))) + a_2)) - y_6110) < a_3) = True := eq_true h_6134
                      obtain ⟨y_6136, h_6137, h⟩ := bindS h
                      simp only [e_2, e_2008, e_4013, e_4015, e_6112, e_6114, e_6119, e_6121, e_6133, e_6135, go_sem, reduceIte, reduceCtorEq, Nat.reduceEqDiff, Nat.reduceLT, Nat.reduceLeDiff, Nat.reduceAdd, Nat.reduceSub, Nat.reduceMul, Int.reduceToNat, Int.reduceLE, Int.reduceLT, Int.reduceAdd, Int.reduceSub, Int.reduceMul, Int.reduceEq, Int.reduceNeg]
                      refine ACalls.use (ih _ _ _ _ _ _ h_6137) [0, 1, 4] (by decide) ⟨(by first | rfl | simp only [go_sem, reduceIte, Nat.reduceEqDiff, Nat.reduceAdd, e_2, e_2008, e_4015, e_6112, e_6114, e_6119, e_6121, e_6133, e_6135, h_6117]), (by first | rfl | simp only [go_sem, reduceIte, Nat.reduceEqDiff, Nat.reduceAdd, e_2, e_2008, e_4015, e_6112, e_6114, e_6119, e_6121, e_6133, e_6135, h_6117]), (by first | rfl | simp only [go_sem, reduceIte, Nat.reduceEqDiff, Nat.reduceAdd, e_2, e_2008, e_4015, e_6112, e_6114, e_6119, e_6121, e_6133, e_6135, h_6117]), trivial⟩ (by first | rfl | simp only [go_sem, reduceIte, Nat.reduceEqDiff, Nat.reduceAdd, e_2, e_2008, e_4015, e_6112, e_6114, e_6119, e_6121, e_6133, e_6135, h_6117]) (v' := .tup []) (by first | rfl | simp only [go_sem, reduceIte, Nat.reduceEqDiff, Nat.reduceAdd, e_2, e_2008, e_4015, e_6112, e_6114, e_6119, e_6121, e_6133, e_6135, h_6117]) (H' := [.mem 1 (List.map eI64 y_6136) 3, .box [.row 5 0 l_4.length] 28, .dead, .dead, .dead, .mem 1 (List.map eI64 l_4) 3]) (by first | rfl | simp only [go_sem, reduceIte, Nat.reduceEqDiff, Nat.reduceAdd, e_2, e_2008, e_4015, e_6112, e_6114, e_6119, e_6121, e_6133, e_6135, h_6117]) ?_
                      refine CallK_go (by simp) ?_
                      obtain ⟨h_6138, h⟩ := guardS h
                      simp only [e_2, e_2008, e_4013, e_4015, e_6112, e_6114, e_6119, e_6121, e_6133, e_6135, go_sem, reduceIte, reduceCtorEq, Nat.reduceEqDiff, Nat.reduceLT, Nat.reduceLeDiff, Nat.reduceAdd, Nat.reduceSub, Nat.reduceMul, Int.reduceToNat, Int.reduceLE, Int.reduceLT, Int.reduceAdd, Int.reduceSub, Int.reduceMul, Int.reduceEq, Int.reduceNeg]
                      have g_0 := Option.some.inj h
                      subst g_0
                      rw [← hQ]
                      exact ⟨rfl, _, rfl, _, _, (RefV.std [0, 1, 2, 5] (by decide) (by decide) (by first | rfl | simp only [go_sem, reduceIte, Nat.reduceEqDiff, Nat.reduceAdd, h_6117, h_6138]) (by first | rfl | simp only [go_sem, reduceIte, Nat.reduceEqDiff, Nat.reduceAdd, e_2, e_2008, e_4015, e_6112, e_6114, e_6119, e_6121, e_6133, e_6135])), rfl, rfl⟩
                    · rw [if_neg h_6134] at h
                      have e_6135 : (IntKind.i64.wrap ((IntKind.i64.wrap ((IntKind.i64.wrap ((IntKind.u64.wrap (IntKind.i64.wrap (a_1 + a_3))).fdiv (2 ^ 1))) + a_2)) - y_6110) < a_3) = False := eq_false h_6134
                      simp only [e_2, e_2008, e_4013, e_4015, e_6112, e_6114, e_6119, e_6121, e_6133, e_6135, go_sem, reduceIte, reduceCtorEq, Nat.reduceEqDiff, Nat.reduceLT, Nat.reduceLeDiff, Nat.reduceAdd, Nat.reduceSub, Nat.reduceMul, Int.reduceToNat, Int.reduceLE, Int.reduceLT, Int.reduceAdd, Int.reduceSub, Int.reduceMul, Int.reduceEq, Int.reduceNeg]
                      have g_0 := Option.some.inj h
                      subst g_0
                      rw [← hQ]
                      exact ⟨rfl, _, rfl, _, _, (RefV.std [0, 1, 2, 4] (by decide) (by decide) (by first | rfl | simp only [go_sem, reduceIte, Nat.reduceEqDiff, Nat.reduceAdd, h_6117]) (by first | rfl | simp only [go_sem, reduceIte, Nat.reduceEqDiff, Nat.reduceAdd, e_2, e_2008, e_4015, e_6112, e_6114, e_6119, e_6121, e_6133, e_6135])), rfl, rfl⟩
                  · rw [if_neg h_6132] at h
                    have e_6133 : (IntKind.i64.wrap ((IntKind.u64.wrap (IntKind.i64.wrap (a_1 + a_3))).fdiv (2 ^ 1)) < IntKind.i64.wrap ((IntKind.i64.wrap ((IntKind.i64.wrap ((IntKind.u64.wrap (IntKind.i64.wrap (a_1 + a_3))).fdiv (2 ^ 1))) + a_2)) - y_6110)) = False := eq_false h_6132
                    simp only [e_2, e_2008, e_4013, e_4015, e_6112, e_6114, e_6119, e_6121, e_6133, go_sem, reduceIte, reduceCtorEq, Nat.reduceEqDiff, Nat.reduceLT, Nat.reduceLeDiff, Nat.reduceAdd, Nat.reduceSub, Nat.reduceMul, Int.reduceToNat, Int.reduceLE, Int.reduceLT, Int.reduceAdd, Int.reduceSub, Int.reduceMul, Int.reduceEq, Int.reduceNeg]
                    have g_0 := Option.some.inj h
                    subst g_0
                    rw [← hQ]
                    exact ⟨rfl, _, rfl, _, _, (RefV.std [0, 1, 2, 4] (by decide) (by decide) (by first | rfl | simp only [go_sem, reduceIte, Nat.reduceEqDiff, Nat.reduceAdd, h_6117]) (by first | rfl | simp only [go_sem, reduceIte, Nat.reduceEqDiff, Nat.reduceAdd, e_2, e_2008, e_4015, e_6112, e_6114, e_6119, e_6121, e_6133])), rfl, rfl⟩
              · rw [if_neg h_6118] at h
                have e_6119 : (a_1 < y_6110) = False := eq_false h_6118
                simp only [e_2, e_2008, e_4013, e_4015, e_6112, e_6114, e_6119, go_sem, reduceIte, reduceCtorEq, Nat.reduceEqDiff, Nat.reduceLT, Nat.reduceLeDiff, Nat.reduceAdd, Nat.reduceSub, Nat.reduceMul, Int.reduceToNat, Int.reduceLE, Int.reduceLT, Int.reduceAdd, Int.reduceSub, Int.reduceMul, Int.reduceEq, Int.reduceNeg]
                by_cases h_6139 : IntKind.i64.wrap ((IntKind.u64.wrap (IntKind.i64.wrap (a_1 + a_3))).fdiv (2 ^ 1)) < IntKind.i64.wrap ((IntKind.i64.wrap ((IntKind.i64.wrap ((IntKind.u64.wrap (IntKind.i64.wrap (a_1 + a_3))).fdiv (2 ^ 1))) + a_2)) - y_6110)
                · rw [if_pos h_6139] at h
                  have e_6140 : (IntKind.i64.wrap ((IntKind.u64.wrap (IntKind.i64.wrap (a_1 + a_3))).fdiv (2 ^ 1)) < IntKind.i64.wrap ((IntKind.i64.wrap ((IntKind.i64.wrap ((IntKind.u64.wrap (IntKind.i64.wrap (a_1 + a_3))).fdiv (2 ^ 1))) + a_2)) - y_6110)) = True := eq_true h_6139
                  simp only [e_2, e_2008, e_4013, e_4015, e_6112, e_6114, e_6119, e_6140, go_sem, reduceIte, reduceCtorEq, Nat.reduceEqDiff, Nat.reduceLT, Nat.reduceLeDiff, Nat.reduceAdd, Nat.reduceSub, Nat.reduceMul, Int.reduceToNat, Int.reduceLE, Int.reduceLT, Int.reduceAdd, Int.reduceSub, Int.reduceMul, Int.reduceEq, Int.reduceNeg]
                  by_cases h_6141 : IntKind.i64.wrap ((IntKind.i64.wrap ((IntKind.i64.wrap ((IntKind.u64.wrap (IntKind.i64.wrap (a_1 + a_3))).fdiv (2 ^ 1))) + a_2)) - y_6110) < a_3
                  · rw [if_pos h_6141] at h
                    have e_6142 : (IntKind.i64.wrap ((IntKind.i64.wrap ((IntKind.i64.wrap ((IntKind.u64.wrap (IntKind.i64.wrap (a_1 + a_3))).fdiv (2 ^ 1))) + a_2)) - y_6110) < a_3) = True := eq_true h_6141
                    obtain ⟨y_6143, h_6144, h⟩ := bindS h
                    simp only [e_2, e_2008, e_4013, e_4015, e_6112, e_6114, e_6119, e_6140, e_6142, go_sem, reduceIte, reduceCtorEq, Nat.reduceEqDiff, Nat.reduceLT, Nat.reduceLeDiff, Nat.reduceAdd, Nat.reduceSub, Nat.reduceMul, Int.reduceToNat, Int.reduceLE, Int.reduceLT, Int.reduceAdd, Int.reduceSub, Int.reduceMul, Int.reduceEq, Int.reduceNeg]
                    refine ACalls.use (ih _ _ _ _ _ _ h_6144) [0, 1, 4] (by decide) ⟨(by first | rfl | simp only [go_sem, reduceIte, Nat.reduceEqDiff, Nat.reduceAdd, e_2, e_2008, e_4015, e_6112, e_6114, e_6119, e_6140, e_6142, h_6117]), (by first | rfl | simp only [go_sem, reduceIte, Nat.reduceEqDiff, Nat.reduceAdd, e_2, e_2008, e_4015, e_6112, e_6114, e_6119, e_6140, e_6142, h_6117]), (by first | rfl | simp only [go_sem, reduceIte, Nat.reduceEqDiff, Nat.reduceAdd, e_2, e_2008, e_4015, e_6112, e_6114, e_6119, e_6140, e_6142, h_6117]), trivial⟩ (by first | rfl | simp only [go_sem, reduceIte, Nat.reduceEqDiff, Nat.reduceAdd, e_2, e_2008, e_4015, e_6112, e_6114, e_6119, e_6140, e_6142, h_6117]) (v' := .tup []) (by first | rfl | simp only [go_sem, reduceIte, Nat.reduceEqDiff, Nat.reduceAdd, e_2, e_2008, e_4015, e_6112, e_6114, e_6119, e_6140, e_6142, h_6117]) (H' := [.mem 1 (List.map eI64 y_6143) 3, .box [.row 5 0 l_4.length] 28, .dead, .dead, .dead, .mem 1 (List.map eI64 l_4) 3]) (by first | rfl | simp only [go_sem, reduceIte, Nat.reduceEqDiff, Nat.reduceAdd, e_2, e_2008, e_4015, e_6112, e_6114, e_6119, e_6140, e_6142, h_6117]) ?_
                    refine CallK_go (by simp) ?_
                    obtain ⟨h_6145, h⟩ := guardS h
                    simp only [e_2, e_2008, e_4013, e_4015, e_6112, e_6114, e_6119, e_6140, e_6142, go_sem, reduceIte, reduceCtorEq, Nat.reduceEqDiff, Nat.reduceLT, Nat.reduceLeDiff, Nat.reduceAdd, Nat.reduceSub, Nat.reduceMul, Int.reduceToNat, Int.reduceLE, Int.reduceLT, Int.reduceAdd, Int.reduceSub, Int.reduceMul, Int.reduceEq, Int.reduceNeg]
                    have g_0 := Option.some.inj h
                    subst g_0
                    rw [← hQ]
                    exact ⟨rfl, _, rfl, _, _, (RefV.std [0, 1, 2, 5] (by decide) (by decide) (by first | rfl | simp only [go_sem, reduceIte, Nat.reduceEqDiff, Nat.reduceAdd, h_6117, h_6145]) (by first | rfl | simp only [go_sem, reduceIte, Nat.reduceEqDiff, Nat.reduceAdd, e_2, e_2008, e_4015, e_6112, e_6114, e_6119, e_6140, e_6142])), rfl, rfl⟩
                  · rw [if_neg h_6141] at h
                    have e_6142 : (IntKind.i64.wrap ((IntKind.i64.wrap ((IntKind.i64.wrap ((IntKind.u64.wrap (IntKind.i64.wrap (a_1 + a_3))).fdiv (2 ^ 1))) + a_2)) - y_6110) < a_3) = False := eq_false h_6141
                    simp only [e_2, e_2008, e_4013, e_4015, e_6112, e_6114, e_6119, e_6140, e_6142, go_sem, reduceIte, reduceCtorEq, Nat.reduceEqDiff, Nat.reduceLT, Nat.reduceLeDiff, Nat.reduceAdd, Nat.reduceSub, Nat.reduceMul, Int.reduceToNat, Int.reduceLE, Int.reduceLT, Int.reduceAdd, Int.reduceSub, Int.reduceMul, Int.reduceEq, Int.reduceNeg]
                    have g_0 := Option.some.inj h
                    subst g_0
                    rw [← hQ]
                    exact ⟨rfl, _, rfl, _, _, (RefV.std [0, 1, 2, 4] (by decide) (by decide) (by first | rfl | simp only [go_sem, reduceIte, Nat.reduceEqDiff, Nat.reduceAdd, h_6117]) (by first | rfl | simp only [go_sem, reduceIte, Nat.reduceEqDiff, Nat.reduceAdd, e_2, e_2008, e_4015, e_6112, e_6114, e_6119, e_6140, e_6142])), rfl, rfl⟩
                · rw [if_neg h_6139] at h
                  have e_6140 : (IntKind.i64.wrap ((IntKind.u64.wrap (IntKind.i64.wrap (a_1 + a_3))).fdiv (2 ^ 1)) < IntKind.i64.wrap ((IntKind.i64.wrap ((IntKind.i64.wrap ((IntKind.u64.wrap (IntKind.i64.wrap (a_1 + a_3))).fdiv (2 ^ 1))) + a_2)) - y_6110)) = False := eq_false h_6139
                  simp only [e_2, e_2008, e_4013, e_4015, e_6112, e_6114, e_6119, e_6140, go_sem, reduceIte, reduceCtorEq, Nat.reduceEqDiff, Nat.reduceLT, Nat.reduceLeDiff, Nat.reduceAdd, Nat.reduceSub, Nat.reduceMul, Int.reduceToNat, Int.reduceLE, Int.reduceLT, Int.reduceAdd, Int.reduceSub, Int.reduceMul, Int.reduceEq, Int.reduceNeg]
                  have g_0 := Option.some.inj h
                  subst g_0
                  rw [← hQ]
                  exact ⟨rfl, _, rfl, _, _, (RefV.std [0, 1, 2, 4] (by decide) (by decide) (by first | rfl | simp only [go_sem, reduceIte, Nat.reduceEqDiff, Nat.reduceAdd, h_6117]) (by first | rfl | simp only [go_sem, reduceIte, Nat.reduceEqDiff, Nat.reduceAdd, e_2, e_2008, e_4015, e_6112, e_6114, e_6119, e_6140])), rfl, rfl⟩
            · rw [if_neg h_6113] at h
              have e_6114 : (a_2 < IntKind.i64.wrap ((IntKind.i64.wrap ((IntKind.i64.wrap ((IntKind.u64.wrap (IntKind.i64.wrap (a_1 + a_3))).fdiv (2 ^ 1))) + a_2)) - y_6110)) = False := eq_false h_6113
              simp only [e_2, e_2008, e_4013, e_4015, e_6112, e_6114, go_sem, reduceIte, reduceCtorEq, Nat.reduceEqDiff, Nat.reduceLT, Nat.reduceLeDiff, Nat.reduceAdd, Nat.reduceSub, Nat.reduceMul, Int.reduceToNat, Int.reduceLE, Int.reduceLT, Int.reduceAdd, Int.reduceSub, Int.reduceMul, Int.reduceEq, Int.reduceNeg]
              by_cases h_6146 : a_1 < y_6110
              · rw [if_pos h_6146] at h
                have e_6147 : (a_1 < y_6110) = True := eq_true h_6146
                simp only [e_2, e_2008, e_4013, e_4015, e_6112, e_6114, e_6147, go_sem, reduceIte, reduceCtorEq, Nat.reduceEqDiff, Nat.reduceLT, Nat.reduceLeDiff, Nat.reduceAdd, Nat.reduceSub, Nat.reduceMul, Int.reduceToNat, Int.reduceLE, Int.reduceLT, Int.reduceAdd, Int.reduceSub, Int.reduceMul, Int.reduceEq, Int.reduceNeg]
                by_cases h_6148 : y_6110 < IntKind.i64.wrap ((IntKind.u64.wrap (IntKind.i64.wrap (a_1 + a_3))).fdiv (2 ^ 1))
                · rw [if_pos h_6148] at h
                  have e_6149 : (y_6110 < IntKind.i64.wrap ((IntKind.u64.wrap (IntKind.i64.wrap (a_1 + a_3))).fdiv (2 ^ 1))) = True := eq_true h_6148
                  obtain ⟨y_6150, h_6151, h⟩ := bindS h
                  simp only [e_2, e_2008, e_4013, e_4015, e_6112, e_6114, e_6147, e_6149, go_sem, reduceIte, reduceCtorEq, Nat.reduceEqDiff, Nat.reduceLT, Nat.reduceLeDiff, Nat.reduceAdd, Nat.reduceSub, Nat.reduceMul, Int.reduceToNat, Int.reduceLE, Int.reduceLT, Int.reduceAdd, Int.reduceSub, Int.reduceMul, Int.reduceEq, Int.reduceNeg]
                  refine ACalls.use (ih _ _ _ _ _ _ h_6151) [0, 1, 3] (by decide) ⟨(by first | rfl | simp only [go_sem, reduceIte, Nat.reduceEqDiff, Nat.reduceAdd, e_2, e_2008, e_4015, e_6112, e_6114, e_6147, e_6149]), (by first | rfl | simp only [go_sem, reduceIte, Nat.reduceEqDiff, Nat.reduceAdd, e_2, e_2008, e_4015, e_6112, e_6114, e_6147, e_6149]), (by first | rfl | simp only [go_sem, reduceIte, Nat.reduceEqDiff, Nat.reduceAdd, e_2, e_2008, e_4015, e_6112, e_6114, e_6147, e_6149]), trivial⟩ rfl (v' := .tup []) (by first | rfl | simp only [go_sem, reduceIte, Nat.reduceEqDiff, Nat.reduceAdd, e_2, e_2008, e_4015, e_6112, e_6114, e_6147, e_6149]) (H' := [.mem 1 (List.map eI64 y_6150) 3, .box [.row 4 0 l_4.length] 28, .dead, .dead, .mem 1 (List.map eI64 l_4) 3]) (by first | rfl | simp only [go_sem, reduceIte, Nat.reduceEqDiff, Nat.reduceAdd, e_2, e_2008, e_4015, e_6112, e_6114, e_6147, e_6149]) ?_
                  refine CallK_go (by simp) ?_
                  obtain ⟨h_6152, h⟩ := guardS h
                  simp only [e_2, e_2008, e_4013, e_4015, e_6112, e_6114, e_6147, e_6149, go_sem, reduceIte, reduceCtorEq, Nat.reduceEqDiff, Nat.reduceLT, Nat.reduceLeDiff, Nat.reduceAdd, Nat.reduceSub, Nat.reduceMul, Int.reduceToNat, Int.reduceLE, Int.reduceLT, Int.reduceAdd, Int.reduceSub, Int.reduceMul, Int.reduceEq, Int.reduceNeg]
                  by_cases h_6153 : IntKind.i64.wrap ((IntKind.u64.wrap (IntKind.i64.wrap (a_1 + a_3))).fdiv (2 ^ 1)) < IntKind.i64.wrap ((IntKind.i64.wrap ((IntKind.i64.wrap ((IntKind.u64.wrap (IntKind.i64.wrap (a_1 + a_3))).fdiv (2 ^ 1))) + a_2)) - y_6110)
                  · rw [if_pos h_6153] at h
                    have e_6154 : (IntKind.i64.wrap ((IntKind.u64.wrap (IntKind.i64.wrap (a_1 + a_3))).fdiv (2 ^ 1)) < IntKind.i64.wrap ((IntKind.i64.wrap ((IntKind.i64.wrap ((IntKind.u64.wrap (IntKind.i64.wrap (a_1 + a_3))).fdiv (2 ^ 1))) + a_2)) - y_6110)) = True := eq_true h_6153
                    simp only [e_2, e_2008, e_4013, e_4015, e_6112, e_6114, e_6147, e_6149, e_6154, go_sem, reduceIte, reduceCtorEq, Nat.reduceEqDiff, Nat.reduceLT, Nat.reduceLeDiff, Nat.reduceAdd, Nat.reduceSub, Nat.reduceMul, Int.reduceToNat, Int.reduceLE, Int.reduceLT, Int.reduceAdd, Int.reduceSub, Int.reduceMul, Int.reduceEq, Int.reduceNeg]
                    by_cases h_6155 : IntKind.i64.wrap ((IntKind.i64.wrap ((IntKind.i64.wrap ((IntKind.u64.wrap (IntKind.i64.wrap (a_1 + a_3))).fdiv (2 ^ 1))) + a_2)) - y_6110) < a_3
                    · rw [if_pos h_6155] at h
                      have e_6156 : (IntKind.i64.wrap ((IntKind.i64.wrap ((IntKind.i64.wrap ((IntKind.u64.wrap (IntKind.i64.wrap (a_1 + a_3))).fdiv (2 ^ 1))) + a_2)) - y_6110) < a_3) = True := eq_true h_6155
                      obtain ⟨y_6157, h_6158, h⟩ := bindS h
                      simp only [e_2, e_2008, e_4013, e_4015, e_6112, e_6114, e_6147, e_6149, e_6154, e_6156, go_sem, reduceIte, reduceCtorEq, Nat.reduceEqDiff, Nat.reduceLT, Nat.reduceLeDiff, Nat.reduceAdd, Nat.reduceSub, Nat.reduceMul, Int.reduceToNat, Int.reduceLE, Int.reduceLT, Int.reduceAdd, Int.reduceSub, Int.reduceMul, Int.reduceEq, Int.reduceNeg]
                      refine ACalls.use (ih _ _ _ _ _ _ h_6158) [0, 1, 4] (by decide) ⟨(by first | rfl | simp only [go_sem, reduceIte, Nat.reduceEqDiff, Nat.reduceAdd, e_2, e_2008, e_4015, e_6112, e_6114, e_6147, e_6149, e_6154, e_6156, h_6152]), (by first | rfl | simp only [go_sem, reduceIte, Nat.reduceEqDiff, Nat.reduceAdd, e_2, e_2008, e_4015, e_6112, e_6114, e_6147, e_6149, e_6154, e_6156, h_6152]), (by first | rfl | simp only [go_sem, reduceIte, Nat.reduceEqDiff, Nat.reduceAdd, e_2, e_2008, e_4015, e_6112, e_6114, e_6147, e_6149, e_6154, e_6156, h_6152]), trivial⟩ (by first | rfl | simp only [go_sem, reduceIte, Nat.reduceEqDiff, Nat.reduceAdd, e_2, e_2008, e_4015, e_6112, e_6114, e_6147, e_6149, e_6154, e_6156, h_6152]) (v' := .tup []) (by first | rfl | simp only [go_sem, reduceIte, Nat.reduceEqDiff, Nat.reduceAdd, e_2, e_2008, e_4015, e_6112, e_6114, e_6147, e_6149, e_6154, e_6156, h_6152]) (H' := [.mem 1 (List.map eI64 y_6157) 3, .box [.row 5 0 l_4.length] 28, .dead, .dead, .dead, .mem 1 (List.map eI64 l_4) 3]) (by first | rfl | simp only [go_sem, reduceIte, Nat.reduceEqDiff, Nat.reduceAdd, e_2, e_2008, e_4015, e_6112, e_6114, e_6147, e_6149, e_6154, e_6156, h_6152]) ?_
                      refine CallK_go (by simp) ?_
                      obtain ⟨h_6159, h⟩ := guardS h
                      simp only [e_2, e_2008, e_4013, e_4015, e_6112, e_6114, e_6147, e_6149, e_6154, e_6156, go_sem, reduceIte, reduceCtorEq, Nat.reduceEqDiff, Nat.reduceLT, Nat.reduceLeDiff, Nat.reduceAdd, Nat.reduceSub, Nat.reduceMul, Int.reduceToNat, Int.reduceLE, Int.reduceLT, Int.reduceAdd, Int.reduceSub, Int.reduceMul, Int.reduceEq, Int.reduceNeg]
                      have g_0 := Option.some.inj h
                      subst g_0
                      rw [← hQ]
                      exact ⟨rfl, _, rfl, _, _, (RefV.std [0, 1, 2, 5] (by decide) (by decide) (by first | rfl | simp only [go_sem, reduceIte, Nat.reduceEqDiff, Nat.reduceAdd, h_6152, h_6159]) (by first | rfl | simp only [go_sem, reduceIte, Nat.reduceEqDiff, Nat.reduceAdd, e_2, e_2008, e_4015, e_6112, e_6114, e_6147, e_6149, e_6154, e_6156])), rfl, rfl⟩
                    · rw [if_neg h_6155] at h
                      have e_6156 : (IntKind.i64.wrap ((IntKind.i64.wrap ((IntKind.i64.wrap ((IntKind.u64.wrap (IntKind.i64.wrap (a_1 + a_3))).fdiv (2 ^ 1))) + a_2)) - y_6110) < a_3) = False := eq_false h_6155
                      simp only [e_2, e_2008, e_4013, e_4015, e_6112, e_6114, e_6147, e_6149, e_6154, e_6156, go_sem, reduceIte, reduceCtorEq, Nat.reduceEqDiff, Nat.reduceLT, Nat.reduceLeDiff, Nat.reduceAdd, Nat.reduceSub, Nat.reduceMul, Int.reduceToNat, Int.reduceLE, Int.reduceLT, Int.reduceAdd, Int.reduceSub, Int.reduceMul, Int.reduceEq, Int.reduceNeg]
                      have g_0 := Option.some.inj h
                      subst g_0
                      rw [← hQ]
                      exact ⟨rfl, _, rfl, _, _, (RefV.std [0, 1, 2, 4] (by decide) (by decide) (by first | rfl | simp only [go_sem, reduceIte, Nat.reduceEqDiff, Nat.reduceAdd, h_6152]) (by first | rfl | simp only [go_sem, reduceIte, Nat.reduceEqDiff, Nat.reduceAdd, e_2, e_2008, e_4015, e_6112, e_6114, e_6147, e_6149, e_6154, e_6156])), rfl, rfl⟩
                  · rw [if_neg h_6153] at h
                    have e_6154 : (IntKind.i64.wrap ((IntKind.u64.wrap (IntKind.i64.wrap (a_1 + a_3))).fdiv (2 ^ 1)) < IntKind.i64.wrap ((IntKind.i64.wrap ((IntKind.i64.wrap ((IntKind.u64.wrap (IntKind.i64.wrap (a_1 + a_3))).fdiv (2 ^ 1))) + a_2)) - y_6110)) = False := eq_false h_6153
                    simp only [e_2, e_2008, e_4013, e_4015, e_6112, e_6114, e_6147, e_6149, e_6154, go_sem, reduceIte, reduceCtorEq, Nat.reduceEqDiff, Nat.reduceLT, Nat.reduceLeDiff, Nat.reduceAdd, Nat.reduceSub, Nat.reduceMul, Int.reduceToNat, Int.reduceLE, Int.reduceLT, Int.reduceAdd, Int.reduceSub, Int.reduceMul, Int.reduceEq, Int.reduceNeg]
                    have g_0 := Option.some.inj h
                    subst g_0
                    rw [← hQ]
                    exact ⟨rfl, _, rfl, _, _, (RefV.std [0, 1, 2, 4] (by decide) (by decide) (by first | rfl | simp only [go_sem, reduceIte, Nat.reduceEqDiff, Nat.reduceAdd, h_6152]) (by first | rfl | simp only [go_sem, reduceIte, Nat.reduceEqDiff, Nat.reduceAdd, e_2, e_2008, e_4015, e_6112, e_6114, e_6147, e_6149, e_6154])), rfl, rfl⟩
                · rw [if_neg h_6148] at h
                  have e_6149 : (y_6110 < IntKind.i64.wrap ((IntKind.u64.wrap (IntKind.i64.wrap (a_1 + a_3))).fdiv (2 ^ 1))) = False := eq_false h_6148
                  simp only [e_2, e_2008, e_4013, e_4015, e_6112, e_6114, e_6147, e_6149, go_sem, reduceIte, reduceCtorEq, Nat.reduceEqDiff, Nat.reduceLT, Nat.reduceLeDiff, Nat.reduceAdd, Nat.reduceSub, Nat.reduceMul, Int.reduceToNat, Int.reduceLE, Int.reduceLT, Int.reduceAdd, Int.reduceSub, Int.reduceMul, Int.reduceEq, Int.reduceNeg]
                  by_cases h_6160 : IntKind.i64.wrap ((IntKind.u64.wrap (IntKind.i64.wrap (a_1 + a_3))).fdiv (2 ^ 1)) < IntKind.i64.wrap ((IntKind.i64.wrap ((IntKind.i64.wrap ((IntKind.u64.wrap (IntKind.i64.wrap (a_1 + a_3))).fdiv (2 ^ 1))) + a_2)) - y_6110)
                  · rw [if_pos h_6160] at h
                    have e_6161 : (IntKind.i64.wrap ((IntKind.u64.wrap (IntKind.i64.wrap (a_1 + a_3))).fdiv (2 ^ 1)) < IntKind.i64.wrap ((IntKind.i64.wrap ((IntKind.i64.wrap ((IntKind.u64.wrap (IntKind.i64.wrap (a_1 + a_3))).fdiv (2 ^ 1))) + a_2)) - y_6110)) = True := eq_true h_6160
                    simp only [e_2, e_2008, e_4013, e_4015, e_6112, e_6114, e_6147, e_6149, e_6161, go_sem, reduceIte, reduceCtorEq, Nat.reduceEqDiff, Nat.reduceLT, Nat.reduceLeDiff, Nat.reduceAdd, Nat.reduceSub, Nat.reduceMul, Int.reduceToNat, Int.reduceLE, Int.reduceLT, Int.reduceAdd, Int.reduceSub, Int.reduceMul, Int.reduceEq, Int.reduceNeg]
                    by_cases h_6162 : IntKind.i64.wrap ((IntKind.i64.wrap ((IntKind.i64.wrap ((IntKind.u64.wrap (IntKind.i64.wrap (a_1 + a_3))).fdiv (2 ^ 1))) + a_2)) - y_6110) < a_3
                    · rw [if_pos h_6162] at h
                      have e_6163 : (IntKind.i64.wrap ((IntKind.i64.wrap ((IntKind.i64.wrap ((IntKind.u64.wrap (IntKind.i64.wrap (a_1 + a_3))).fdiv (2 ^ 1))) + a_2)) - y_6110) < a_3) = True := eq_true h_6162
                      obtain ⟨y_6164, h_6165, h⟩ := bindS h
                      simp only [e_2, e_2008, e_4013, e_4015, e_6112, e_6114, e_6147, e_6149, e_6161, e_6163, go_sem, reduceIte, reduceCtorEq, Nat.reduceEqDiff, Nat.reduceLT, Nat.reduceLeDiff, Nat.reduceAdd, Nat.reduceSub, Nat.reduceMul, Int.reduceToNat, Int.reduceLE, Int.reduceLT, Int.reduceAdd, Int.reduceSub, Int.reduceMul, Int.reduceEq, Int.reduceNeg]
                      refine ACalls.use (ih _ _ _ _ _ _ h_6165) [0, 1, 3] (by decide) ⟨(by first | rfl | simp only [go_sem, reduceIte, Nat.reduceEqDiff, Nat.reduceAdd, e_2, e_2008, e_4015, e_6112, e_6114, e_6147, e_6149, e_6161, e_6163]), (by first | rfl | simp only [go_sem, reduceIte, Nat.reduceEqDiff, Nat.reduceAdd, e_2, e_2008, e_4015, e_6112, e_6114, e_6147, e_6149, e_6161, e_6163]), (by first | rfl | simp only [go_sem, reduceIte, Nat.reduceEqDiff, Nat.reduceAdd, e_2, e_2008, e_4015, e_6112, e_6114, e_6147, e_6149, e_6161, e_6163]), trivial⟩ rfl (v' := .tup []) (by first | rfl | simp only [go_sem, reduceIte, Nat.reduceEqDiff, Nat.reduceAdd, e_2, e_2008, e_4015, e_6112, e_6114, e_6147, e_6149, e_6161, e_6163]) (H' := [.mem 1 (List.map eI64 y_6164) 3, .box [.row 4 0 l_4.length] 28, .dead, .dead, .mem 1 (List.map eI64 l_4) 3]) (by first | rfl | simp only [go_sem, reduceIte, Nat.reduceEqDiff, Nat.reduceAdd, e_2, e_2008, e_4015, e_6112, e_6114, e_6147, e_6149, e_6161, e_6163]) ?_
                      refine CallK_go (by simp) ?_
                      obtain ⟨h_6166, h⟩ := guardS h
                      simp only [e_2, e_2008, e_4013, e_4015, e_6112, e_6114, e_6147, e_6149, e_6161, e_6163, go_sem, reduceIte, reduceCtorEq, Nat.reduceEqDiff, Nat.reduceLT, Nat.reduceLeDiff, Nat.reduceAdd, Nat.reduceSub, Nat.reduceMul, Int.reduceToNat, Int.reduceLE, Int.reduceLT, Int.reduceAdd, Int.reduceSub, Int.reduceMul, Int.reduceEq, Int.reduceNeg]
                      have g_0 := Option.some.inj h
                      subst g_0
                      rw [← hQ]
                      exact ⟨rfl, _, rfl, _, _, (RefV.std [0, 1, 2, 4] (by decide) (by decide) (by first | rfl | simp only [go_sem, reduceIte, Nat.reduceEqDiff, Nat.reduceAdd, h_6166]) (by first | rfl | simp only [go_sem, reduceIte, Nat.reduceEqDiff, Nat.reduceAdd, e_2, e_2008, e_4015, e_6112, e_6114, e_6147, e_6149, e_6161, e_6163])), rfl, rfl⟩
                    · rw [if_neg h_6162] at h
                      have e_6163 : (IntKind.i64.wrap ((IntKind.i64.wrap ((IntKind.i64.wrap ((IntKind.u64.wrap (IntKind.i64.wrap (a_1 + a_3))).fdiv (2 ^ 1))) + a_2)) - y_6110) < a_3) = False := eq_false h_6162
                      simp only [e_2, e_2008, e_4013, e_4015, e_6112, e_6114, e_6147, e_6149, e_6161, e_6163, go_sem, reduceIte, reduceCtorEq, Nat.reduceEqDiff, Nat.reduceLT, Nat.reduceLeDiff, Nat.reduceAdd, Nat.reduceSub, Nat.reduceMul, Int.reduceToNat, Int.reduceLE, Int.reduceLT, Int.reduceAdd, Int.reduceSub, Int.reduceMul, Int.reduceEq, Int.reduceNeg]
                      have g_0 := Option.some.inj h
                      subst g_0
                      rw [← hQ]
                      exact ⟨rfl, _, rfl, _, _, (RefV.std [0, 1, 2, 3] (by decide) (by decide) rfl (by first | rfl | simp only [go_sem, reduceIte, Nat.reduceEqDiff, Nat.reduceAdd, e_2, e_2008, e_4015, e_6112, e_6114, e_6147, e_6149, e_6161, e_6163])), rfl, rfl⟩
                  · rw [if_neg h_6160] at h
                    have e_6161 : (IntKind.i64.wrap ((IntKind.u64.wrap (IntKind.i64.wrap (a_1 + a_3))).fdiv (2 ^ 1)) < IntKind.i64.wrap ((IntKind.i64.wrap ((IntKind.i64.wrap ((IntKind.u64.wrap (IntKind.i64.wrap (a_1 + a_3))).fdiv (2 ^ 1))) + a_2)) - y_6110)) = False := eq_false h_6160
                    simp only [e_2, e_2008, e_4013, e_4015, e_6112, e_6114, e_6147, e_6149, e_6161, go_sem, reduceIte, reduceCtorEq, Nat.reduceEqDiff, Nat.reduceLT, Nat.reduceLeDiff, Nat.reduceAdd, Nat.reduceSub, Nat.reduceMul, Int.reduceToNat, Int.reduceLE, Int.reduceLT, Int.reduceAdd, Int.reduceSub, Int.reduceMul, Int.reduceEq, Int.reduceNeg]
                    have g_0 := Option.some.inj h
                    subst g_0
                    rw [← hQ]
                    exact ⟨rfl, _, rfl, _, _, (RefV.std [0, 1, 2, 3] (by decide) (by decide) rfl (by first | rfl | simp only [go_sem, reduceIte, Nat.reduceEqDiff, Nat.reduceAdd, e_2, e_2008, e_4015, e_6112, e_6114, e_6147, e_6149, e_6161])), rfl, rfl⟩
              · rw [if_neg h_6146] at h
                have e_6147 : (a_1 < y_6110) = False := eq_false h_6146
                simp only [e_2, e_2008, e_4013, e_4015, e_6112, e_6114, e_6147, go_sem, reduceIte, reduceCtorEq, Nat.reduceEqDiff, Nat.reduceLT, Nat.reduceLeDiff, Nat.reduceAdd, Nat.reduceSub, Nat.reduceMul, Int.reduceToNat, Int.reduceLE, Int.reduceLT, Int.reduceAdd, Int.reduceSub, Int.reduceMul, Int.reduceEq, Int.reduceNeg]
                by_cases h_6167 : IntKind.i64.wrap ((IntKind.u64.wrap (IntKind.i64.wrap (a_1 + a_3))).fdiv (2 ^ 1)) < IntKind.i64.wrap ((IntKind.i64.wrap ((IntKind.i64.wrap ((IntKind.u64.wrap (IntKind.i64.wrap (a_1 + a_3))).fdiv (2 ^ 1))) + a_2)) - y_6110)
                · rw [if_pos h_6167] at h
                  have e_6168 : (IntKind.i64.wrap ((IntKind.u64.wrap (IntKind.i64.wrap (a_1 + a_3))).fdiv (2 ^ 1)) < IntKind.i64.wrap ((IntKind.i64.wrap ((IntKind.i64.wrap ((IntKind.u64.wrap (IntKind.i64.wrap (a_1 + a_3))).fdiv (2 ^ 1))) + a_2)) - y_6110)) = True := eq_true h_6167
                  simp only [e_2, e_2008, e_4013, e_4015, e_6112, e_6114, e_6147, e_6168, go_sem, reduceIte, reduceCtorEq, Nat.reduceEqDiff, Nat.reduceLT, Nat.reduceLeDiff, Nat.reduceAdd, Nat.reduceSub, Nat.reduceMul, Int.reduceToNat, Int.reduceLE, Int.reduceLT, Int.reduceAdd, Int.reduceSub, Int.reduceMul, Int.reduceEq, Int.reduceNeg]
                  by_cases h_6169 : IntKind.i64.wrap ((IntKind.i64.wrap ((IntKind.i64.wrap ((IntKind.u64.wrap (IntKind.i64.wrap (a_1 + a_3))).fdiv (2 ^ 1))) + a_2)) - y_6110) < a_3
                  · rw [if_pos h_6169] at h
                    have e_6170 : (IntKind.i64.wrap ((IntKind.i64.wrap ((IntKind.i64.wrap ((IntKind.u64.wrap (IntKind.i64.wrap (a_1 + a_3))).fdiv (2 ^ 1))) + a_2)) - y_6110) < a_3) = True := eq_true h_6169
                    obtain ⟨y_6171, h_6172, h⟩ := bindS h
                    simp only [e_2, e_2008, e_4013, e_4015, e_6112, e_6114, e_6147, e_6168, e_6170, go_sem, reduceIte, reduceCtorEq, Nat.reduceEqDiff, Nat.reduceLT, Nat.reduceLeDiff, Nat.reduceAdd, Nat.reduceSub, Nat.reduceMul, Int.reduceToNat, Int.reduceLE, Int.reduceLT, Int.reduceAdd, Int.reduceSub, Int.reduceMul, Int.reduceEq, Int.reduceNeg]
                    refine ACalls.use (ih _ _ _ _ _ _ h_6172) [0, 1, 3] (by decide) ⟨(by first | rfl | simp only [go_sem, reduceIte, Nat.reduceEqDiff, Nat.reduceAdd, e_2, e_2008, e_4015, e_6112, e_6114, e_6147, e_6168, e_6170]), (by first | rfl | simp only [go_sem, reduceIte, Nat.reduceEqDiff, Nat.reduceAdd, e_2, e_2008, e_4015, e_6112, e_6114, e_6147, e_6168, e_6170]), (by first | rfl | simp only [go_sem, reduceIte, Nat.reduceEqDiff, Nat.reduceAdd, e_2, e_2008, e_4015, e_6112, e_6114, e_6147, e_6168, e_6170]), trivial⟩ rfl (v' := .tup []) (by first | rfl | simp only [go_sem, reduceIte, Nat.reduceEqDiff, Nat.reduceAdd, e_2, e_2008, e_4015, e_6112, e_6114, e_6147, e_6168, e_6170]) (H' := [.mem 1 (List.map eI64 y_6171) 3, .box [.row 4 0 l_4.length] 28, .dead, .dead, .mem 1 (List.map eI64 l_4) 3]) (by first | rfl | simp only [go_sem, reduceIte, Nat.reduceEqDiff, Nat.reduceAdd, e_2, e_2008, e_4015, e_6112, e_6114, e_6147, e_6168, e_6170]) ?_
                    refine CallK_go (by simp) ?_
                    obtain ⟨h_6173, h⟩ := guardS h
                    simp only [e_2, e_2008, e_4013, e_4015, e_6112, e_6114, e_6147, e_6168, e_6170, go_sem, reduceIte, reduceCtorEq, Nat.reduceEqDiff, Nat.reduceLT, Nat.reduceLeDiff, Nat.reduceAdd, Nat.reduceSub, Nat.reduceMul, Int.reduceToNat, Int.reduceLE, Int.reduceLT, Int.reduceAdd, Int.reduceSub, Int.reduceMul, Int.reduceEq, Int.reduceNeg]
                    have g_0 := Option.some.inj h
                    subst g_0
                    rw [← hQ]
                    exact ⟨rfl, _, rfl, _, _, (RefV.std [0, 1, 2, 4] (by decide) (by decide) (by first | rfl | simp only [go_sem, reduceIte, Nat.reduceEqDiff, Nat.reduceAdd, h_6173]) (by first | rfl | simp only [go_sem, reduceIte, Nat.reduceEqDiff, Nat.reduceAdd, e_2, e_2008, e_4015, e_6112, e_6114, e_6147, e_6168, e_6170])), rfl, rfl⟩
                  · rw [if_neg h_6169] at h
                    have e_6170 : (IntKind.i64.wrap ((IntKind.i64.wrap ((IntKind.i64.wrap ((IntKind.u64.wrap (IntKind.i64.wrap (a_1 + a_3))).fdiv (2 ^ 1))) + a_2)) - y_6110) < a_3) = False := eq_false h_6169
                    simp only [e_2, e_2008, e_4013, e_4015, e_6112, e_6114, e_6147, e_6168, e_6170, go_sem, reduceIte, reduceCtorEq, Nat.reduceEqDiff, Nat.reduceLT, Nat.reduceLeDiff, Nat.reduceAdd, Nat.reduceSub, Nat.reduceMul, Int.reduceToNat, Int.reduceLE, Int.reduceLT, Int.reduceAdd, Int.reduceSub, Int.reduceMul, Int.reduceEq, Int.reduceNeg]
                    have g_0 := Option.some.inj h
                    subst g_0
                    rw [← hQ]
                    exact ⟨rfl, _, rfl, _, _, (RefV.std [0, 1, 2, 3] (by decide) (by decide) rfl (by first | rfl | simp only [go_sem, reduceIte, Nat.reduceEqDiff, Nat.reduceAdd, e_2, e_2008, e_4015, e_6112, e_6114, e_6147, e_6168, e_6170])), rfl, rfl⟩
                · rw [if_neg h_6167] at h
                  have e_6168 : (IntKind.i64.wrap ((IntKind.u64.wrap (IntKind.i64.wrap (a_1 + a_3))).fdiv (2 ^ 1)) < IntKind.i64.wrap ((IntKind.i64.wrap ((IntKind.i64.wrap ((IntKind.u64.wrap (IntKind.i64.wrap (a_1 + a_3))).fdiv (2 ^ 1))) + a_2)) - y_6110)) = False := eq_false h_6167
                  simp only [e_2, e_2008, e_4013, e_4015, e_6112, e_6114, e_6147, e_6168, go_sem, reduceIte, reduceCtorEq, Nat.reduceEqDiff, Nat.reduceLT, Nat.reduceLeDiff, Nat.reduceAdd, Nat.reduceSub, Nat.reduceMul, Int.reduceToNat, Int.reduceLE, Int.reduceLT, Int.reduceAdd, Int.reduceSub, Int.reduceMul, Int.reduceEq, Int.reduceNeg]
                  have g_0 := Option.some.inj h
                  subst g_0
                  rw [← hQ]
                  exact ⟨rfl, _, rfl, _, _, (RefV.std [0, 1, 2, 3] (by decide) (by decide) rfl (by first | rfl | simp only [go_sem, reduceIte, Nat.reduceEqDiff, Nat.reduceAdd, e_2, e_2008, e_4015, e_6112, e_6114, e_6147, e_6168])), rfl, rfl⟩
          · rw [if_neg h_6111] at h
            have e_6112 : (y_6110 < a_2) = False := eq_false h_6111
            simp only [e_2, e_2008, e_4013, e_4015, e_6112, go_sem, reduceIte, reduceCtorEq, Nat.reduceEqDiff, Nat.reduceLT, Nat.reduceLeDiff, Nat.reduceAdd, Nat.reduceSub, Nat.reduceMul, Int.reduceToNat, Int.reduceLE, Int.reduceLT, Int.reduceAdd, Int.reduceSub, Int.reduceMul, Int.reduceEq, Int.reduceNeg]
            by_cases h_6174 : a_1 < y_6110
            · rw [if_pos h_6174] at h
              have e_6175 : (a_1 < y_6110) = True := eq_true h_6174
              simp only [e_2, e_2008, e_4013, e_4015, e_6112, e_6175, go_sem, reduceIte, reduceCtorEq, Nat.reduceEqDiff, Nat.reduceLT, Nat.reduceLeDiff, Nat.reduceAdd, Nat.reduceSub, Nat.reduceMul, Int.reduceToNat, Int.reduceLE, Int.reduceLT, Int.reduceAdd, Int.reduceSub, Int.reduceMul, Int.reduceEq, Int.reduceNeg]
              by_cases h_6176 : y_6110 < IntKind.i64.wrap ((IntKind.u64.wrap (IntKind.i64.wrap (a_1 + a_3))).fdiv (2 ^ 1))
              · rw [if_pos h_6176] at h
                have e_6177 : (y_6110 < IntKind.i64.wrap ((IntKind.u64.wrap (IntKind.i64.wrap (a_1 + a_3))).fdiv (2 ^ 1))) = True := eq_true h_6176
                obtain ⟨y_6178, h_6179, h⟩ := bindS h
                simp only [e_2, e_2008, e_4013, e_4015, e_6112, e_6175, e_6177, go_sem, reduceIte, reduceCtorEq, Nat.reduceEqDiff, Nat.reduceLT, Nat.reduceLeDiff, Nat.reduceAdd, Nat.reduceSub, Nat.reduceMul, Int.reduceToNat, Int.reduceLE, Int.reduceLT, Int.reduceAdd, Int.reduceSub, Int.reduceMul, Int.reduceEq, Int.reduceNeg]
                refine ACalls.use (ih _ _ _ _ _ _ h_6179) [0, 1, 3] (by decide) ⟨(by first | rfl | simp only [go_sem, reduceIte, Nat.reduceEqDiff, Nat.reduceAdd, e_2, e_2008, e_4015, e_6112, e_6175, e_6177]), (by first | rfl | simp only [go_sem, reduceIte, Nat.reduceEqDiff, Nat.reduceAdd, e_2, e_2008, e_4015, e_6112, e_6175, e_6177]), (by first | rfl | simp only [go_sem, reduceIte, Nat.reduceEqDiff, Nat.reduceAdd, e_2, e_2008, e_4015, e_6112, e_6175, e_6177]), trivial⟩ rfl (v' := .tup []) (by first | rfl | simp only [go_sem, reduceIte, Nat.reduceEqDiff, Nat.reduceAdd, e_2, e_2008, e_4015, e_6112, e_6175, e_6177]) (H' := [.mem 1 (List.map eI64 y_6178) 3, .box [.row 4 0 l_4.length] 28, .dead, .dead, .mem 1 (List.map eI64 l_4) 3]) (by first | rfl | simp only [go_sem, reduceIte, Nat.reduceEqDiff, Nat.reduceAdd, e_2, e_2008, e_4015, e_6112, e_6175, e_6177]) ?_
                refine CallK_go (by simp) ?_
                obtain ⟨h_6180, h⟩ := guardS h
                simp only [e_2, e_2008, e_4013, e_4015, e_6112, e_6175, e_6177, go_sem, reduceIte, reduceCtorEq, Nat.reduceEqDiff, Nat.reduceLT, Nat.reduceLeDiff, Nat.reduceAdd, Nat.reduceSub, Nat.reduceMul, Int.reduceToNat, Int.reduceLE, Int.reduceLT, Int.reduceAdd, Int.reduceSub, Int.reduceMul, Int.reduceEq, Int.reduceNeg]
                by_cases h_6181 : IntKind.i64.wrap ((IntKind.u64.wrap (IntKind.i64.wrap (a_1 + a_3))).fdiv (2 ^ 1)) < IntKind.i64.wrap ((IntKind.i64.wrap ((IntKind.i64.wrap ((IntKind.u64.wrap (IntKind.i64.wrap (a_1 + a_3))).fdiv (2 ^ 1))) + a_2)) - y_6110)
                · rw [if_pos h_6181] at h
                  have e_6182 : (IntKind.i64.wrap ((IntKind.u64.wrap (IntKind.i64.wrap (a_1 + a_3))).fdiv (2 ^ 1)) < IntKind.i64.wrap ((IntKind.i64.wrap ((IntKind.i64.wrap ((IntKind.u64.wrap (IntKind.i64.wrap (a_1 + a_3))).fdiv (2 ^ 1))) + a_2)) - y_6110)) = True := eq_true h_6181
                  simp only [e_2, e_2008, e_4013, e_4015, e_6112, e_6175, e_6177, e_6182, go_sem, reduceIte, reduceCtorEq, Nat.reduceEqDiff, Nat.reduceLT, Nat.reduceLeDiff, Nat.reduceAdd, Nat.reduceSub, Nat.reduceMul, Int.reduceToNat, Int.reduceLE, Int.reduceLT, Int.reduceAdd, Int.reduceSub, Int.reduceMul, Int.reduceEq, Int.reduceNeg]
                  by_cases h_6183 : IntKind.i64.wrap ((IntKind.i64.wrap ((IntKind.i64.wrap ((IntKind.u64.wrap (IntKind.i64.wrap (a_1 + a_3))).fdiv (2 ^ 1))) + a_2)) - y_6110) < a_3
                  · rw [if_pos h_6183] at h
                    have e_6184 : (IntKind.i64.wrap ((IntKind.i64.wrap ((IntKind.i64.wrap ((IntKind.u64.wrap (IntKind.i64.wrap (a_1 + a_3))).fdiv (2 ^ 1))) + a_2)) - y_6110) < a_3) = True := eq_true h_6183
                    obtain ⟨y_6185, h_6186, h⟩ := bindS h
                    simp only [e_2, e_2008, e_4013, e_4015, e_6112, e_6175, e_6177, e_6182, e_6184, go_sem, reduceIte, reduceCtorEq, Nat.reduceEqDiff, Nat.reduceLT, Nat.reduceLeDiff, Nat.reduceAdd, Nat.reduceSub, Nat.reduceMul, Int.reduceToNat, Int.reduceLE, Int.reduceLT, Int.reduceAdd, Int.reduceSub, Int.reduceMul, Int.reduceEq, Int.reduceNeg]
                    refine ACalls.use (ih _ _ _ _ _ _ h_6186) [0, 1, 4] (by decide) ⟨(by first | rfl | simp only [go_sem, reduceIte, Nat.reduceEqDiff, Nat.reduceAdd, e_2, e_2008, e_4015, e_6112, e_6175, e_6177, e_6182, e_6184, h_6180]), (by first | rfl | simp only [go_sem, reduceIte, Nat.reduceEqDiff, Nat.reduceAdd, e_2, e_2008, e_4015, e_6112, e_6175, e_6177, e_6182, e_6184, h_6180]), (by first | rfl | simp only [go_sem, reduceIte, Nat.reduceEqDiff, Nat.reduceAdd, e_2, e_2008, e_4015, e_6112, e_6175, e_6177, e_6182, e_6184, h_6180]), trivial⟩ (by first | rfl | simp only [go_sem, reduceIte, Nat.reduceEqDiff, Nat.reduceAdd, e_2, e_2008, e_4015, e_6112, e_6175, e_6177, e_6182, e_6184, h_6180]) (v' := .tup []) (by first | rfl | simp only [go_sem, reduceIte, Nat.reduceEqDiff, Nat.reduceAdd, e_2, e_2008, e_4015, e_6112, e_6175, e_6177, e_6182, e_6184, h_6180]) (H' := [.mem 1 (List.map eI64 y_6185) 3, .box [.row 5 0 l_4.length] 28, .dead, .dead, .dead, .mem 1 (List.map eI64 l_4) 3]) (by first | rfl | simp only [go_sem, reduceIte, Nat.reduceEqDiff, Nat.reduceAdd, e_2, e_2008, e_4015, e_6112, e_6175, e_6177, e_6182, e_6184, h_6180]) ?_
                    refine CallK_go (by simp) ?_
                    obtain ⟨h_6187, h⟩ := guardS h
                    simp only [e_2, e_2008, e_4013, e_4015, e_6112, e_6175, e_6177, e_6182, e_6184, go_sem, reduceIte, reduceCtorEq, Nat.reduceEqDiff, Nat.reduceLT, Nat.reduceLeDiff, Nat.reduceAdd, Nat.reduceSub, Nat.reduceMul, Int.reduceToNat, Int.reduceLE, Int.reduceLT, Int.reduceAdd, Int.reduceSub, Int.reduceMul, Int.reduceEq, Int.reduceNeg]
                    have g_0 := Option.some.inj h
                    subst g_0
                    rw [← hQ]
                    exact ⟨rfl, _, rfl, _, _, (RefV.std [0, 1, 2, 5] (by decide) (by decide) (by first | rfl | simp only [go_sem, reduceIte, Nat.reduceEqDiff, Nat.reduceAdd, h_6180, h_6187]) (by first | rfl | simp only [go_sem, reduceIte, Nat.reduceEqDiff, Nat.reduceAdd, e_2, e_2008, e_4015, e_6112, e_6175, e_6177, e_6182, e_6184])), rfl, rfl⟩
                  · rw [if_neg h_6183] at h
                    have e_6184 : (IntKind.i64.wrap ((IntKind.i64.wrap ((IntKind.i64.wrap ((IntKind.u64.wrap (IntKind.i64.wrap (a_1 + a_3))).fdiv (2 ^ 1))) + a_2)) - y_6110) < a_3) = False := eq_false h_6183
                    simp only [e_2, e_2008, e_4013, e_4015, e_6112, e_6175, e_6177, e_6182, e_6184, go_sem, reduceIte, reduceCtorEq, Nat.reduceEqDiff, Nat.reduceLT, Nat.reduceLeDiff, Nat.reduceAdd, Nat.reduceSub, Nat.reduceMul, Int.reduceToNat, Int.reduceLE, Int.reduceLT, Int.reduceAdd, Int.reduceSub, Int.reduceMul, Int.reduceEq, Int.reduceNeg]
                    have g_0 := Option.some.inj h
                    subst g_0
                    rw [← hQ]
                    exact ⟨rfl, _, rfl, _, _, (RefV.std [0, 1, 2, 4] (by decide) (by decide) (by first | rfl | simp only [go_sem, reduceIte, Nat.reduceEqDiff, Nat.reduceAdd, h_6180]) (by first | rfl | simp only [go_sem, reduceIte, Nat.reduceEqDiff, Nat.reduceAdd, e_2, e_2008, e_4015, e_6112, e_6175, e_6177, e_6182, e_6184])), rfl, rfl⟩
                · rw [if_neg h_6181] at h
                  have e_6182 : (IntKind.i64.wrap ((IntKind.u64.wrap (IntKind.i64.wrap (a_1 + a_3))).fdiv (2 ^ 1)) < IntKind.i64.wrap ((IntKind.i64.wrap ((IntKind.i64.wrap ((IntKind.u64.wrap (IntKind.i64.wrap (a_1 + a_3))).fdiv (2 ^ 1))) + a_2)) - y_6110)) = False := eq_false h_6181
                  simp only [e_2, e_2008, e_4013, e_4015, e_6112, e_6175, e_6177, e_6182, go_sem, reduceIte, reduceCtorEq, Nat.reduceEqDiff, Nat.reduceLT, Nat.reduceLeDiff, Nat.reduceAdd, Nat.reduceSub, Nat.reduceMul, Int.reduceToNat, Int.reduceLE, Int.reduceLT, Int.reduceAdd, Int.reduceSub, Int.reduceMul, Int.reduceEq, Int.reduceNeg]
                  have g_0 := Option.some.inj h
                  subst g_0
                  rw [← hQ]
                  exact ⟨rfl, _, rfl, _, _, (RefV.std [0, 1, 2, 4] (by decide) (by decide) (by first | rfl | simp only [go_sem, reduceIte, Nat.reduceEqDiff, Nat.reduceAdd, h_6180]) (by first | rfl | simp only [go_sem, reduceIte, Nat.reduceEqDiff, Nat.reduceAdd, e_2, e_2008, e_4015, e_6112, e_6175, e_6177, e_6182])), rfl, rfl⟩
              · rw [if_neg h_6176] at h
                have e_6177 : (y_6110 < IntKind.i64.wrap ((IntKind.u64.wrap (IntKind.i64.wrap (a_1 + a_3))).fdiv (2 ^ 1))) = False := eq_false h_6176
                simp only [e_2, e_2008, e_4013, e_4015, e_6112, e_6175, e_6177, go_sem, reduceIte, reduceCtorEq, Nat.reduceEqDiff, Nat.reduceLT, Nat.reduceLeDiff, Nat.reduceAdd, Nat.reduceSub, Nat.reduceMul, Int.reduceToNat, Int.reduceLE, Int.reduceLT, Int.reduceAdd, Int.reduceSub, Int.reduceMul, Int.reduceEq, Int.reduceNeg]
                by_cases h_6188 : IntKind.i64.wrap ((IntKind.u64.wrap (IntKind.i64.wrap (a_1 + a_3))).fdiv (2 ^ 1)) < IntKind.i64.wrap ((IntKind.i64.wrap ((IntKind.i64.wrap ((IntKind.u64.wrap (IntKind.i64.wrap (a_1 + a_3))).fdiv (2 ^ 1))) + a_2)) - y_6110)
                · rw [if_pos h_6188] at h
                  have e_6189 : (IntKind.i64.wrap ((IntKind.u64.wrap (IntKind.i64.wrap (a_1 + a_3))).fdiv (2 ^ 1)) < IntKind.i64.wrap ((IntKind.i64.wrap ((IntKind.i64.wrap ((IntKind.u64.wrap (IntKind.i64.wrap (a_1 + a_3))).fdiv (2 ^ 1))) + a_2)) - y_6110)) = True := eq_true h_6188
                  simp only [e_2, e_2008, e_4013, e_4015, e_6112, e_6175, e_6177, e_6189, go_sem, reduceIte, reduceCtorEq, Nat.reduceEqDiff, Nat.reduceLT, Nat.reduceLeDiff, Nat.reduceAdd, Nat.reduceSub, Nat.reduceMul, Int.reduceToNat, Int.reduceLE, Int.reduceLT, Int.reduceAdd, Int.reduceSub, Int.reduceMul, Int.reduceEq, Int.reduceNeg]
                  by_cases h_6190 : IntKind.i64.wrap ((IntKind.i64.wrap ((IntKind.i64.wrap ((IntKind.u64.wrap (IntKind.i64.wrap (a_1 + a_3))).fdiv (2 ^ 1))) + a_2)) - y_6110) < a_3
                  · rw [if_pos h_6190] at h
                    have e_6191 : (IntKind.i64.wrap ((IntKind.i64.wrap ((IntKind.i64.wrap ((IntKind.u64.wrap (IntKind.i64.wrap (a_1 + a_3))).fdiv (2 ^ 1))) + a_2)) - y_6110) < a_3) = True := eq_true h_6190
                    obtain ⟨y_6192, h_6193, h⟩ := bindS h
                    simp only [e_2, e_2008, e_4013, e_4015, e_6112, e_6175, e_6177, e_6189, e_6191, go_sem, reduceIte, reduceCtorEq, Nat.reduceEqDiff, Nat.reduceLT, Nat.reduceLeDiff, Nat.reduceAdd, Nat.reduceSub, Nat.reduceMul, Int.reduceToNat, Int.reduceLE, Int.reduceLT, Int.reduceAdd, Int.reduceSub, Int.reduceMul, Int.reduceEq, Int.reduceNeg]
                    refine ACalls.use (ih _ _ _ _ _ _ h_6193) [0, 1, 3] (by decide) ⟨(by first | rfl | simp only [go_sem, reduceIte, Nat.reduceEqDiff, Nat.reduceAdd, e_2, e_2008, e_4015, e_6112, e_6175, e_6177, e_6189, e_6191]), (by first | rfl | simp only [go_sem, reduceIte, Nat.reduceEqDiff, Nat.reduceAdd, e_2, e_2008, e_4015, e_6112, e_6175, e_6177, e_6189, e_6191]), (by first | rfl | simp only [go_sem, reduceIte, Nat.reduceEqDiff, Nat.reduceAdd, e_2, e_2008, e_4015, e_6112, e_6175, e_6177, e_6189, e_6191]), trivial⟩ rfl (v' := .tup []) (by first | rfl | simp only [go_sem, reduceIte, Nat.reduceEqDiff, Nat.reduceAdd, e_2, e_2008, e_4015, e_6112, e_6175, e_6177, e_6189, e_6191]) (H' := [.mem 1 (List.map eI64 y_6192) 3, .box [.row 4 0 l_4.length] 28, .dead, .dead, .mem 1 (List.map eI64 l_4) 3]) (by first | rfl | simp only [go_sem, reduceIte, Nat.reduceEqDiff, Nat.reduceAdd, e_2, e_2008, e_4015, e_6112, e_6175, e_6177, e_6189, e_6191]) ?_
                    refine CallK_go (by simp) ?_
                    obtain ⟨h_6194, h⟩ := guardS h
                    simp only [e_2, e_2008, e_4013, e_4015, e_6112, e_6175, e_6177, e_6189, e_6191, go_sem, reduceIte, reduceCtorEq, Nat.reduceEqDiff, Nat.reduceLT, Nat.reduceLeDiff, Nat.reduceAdd, Nat.reduceSub, Nat.reduceMul, Int.reduceToNat, Int.reduceLE, Int.reduceLT, Int.reduceAdd, Int.reduceSub, Int.reduceMul, Int.reduceEq, Int.reduceNeg]
                    have g_0 := Option.some.inj h
                    subst g_0
                    rw [← hQ]
                    exact ⟨rfl, _, rfl, _, _, (RefV.std [0, 1, 2, 4] (by decide) (by decide) (by first | rfl | simp only [go_sem, reduceIte, Nat.reduceEqDiff, Nat.reduceAdd, h_6194]) (by first | rfl | simp only [go_sem, reduceIte, Nat.reduceEqDiff, Nat.reduceAdd, e_2, e_2008, e_4015, e_6112, e_6175, e_6177, e_6189, e_6191])), rfl, rfl⟩
                  · rw [if_neg h_6190] at h
                    have e_6191 : (IntKind.i64.wrap ((IntKind.i64.wrap ((IntKind.i64.wrap ((IntKind.u64.wrap (IntKind.i64.wrap (a_1 + a_3))).fdiv (2 ^ 1))) + a_2)) - y_6110) < a_3) = False := eq_false h_6190
                    simp only [e_2, e_2008, e_4013, e_4015, e_6112, e_6175, e_6177, e_6189, e_6191, go_sem, reduceIte, reduceCtorEq, Nat.reduceEqDiff, Nat.reduceLT, Nat.reduceLeDiff, Nat.reduceAdd, Nat.reduceSub, Nat.reduceMul, Int.reduceToNat, Int.reduceLE, Int.reduceLT, Int.reduceAdd, Int.reduceSub, Int.reduceMul, Int.reduceEq, Int.reduceNeg]
                    have g_0 := Option.some.inj h
                    subst g_0
                    rw [← hQ]
                    exact ⟨rfl, _, rfl, _, _, (RefV.std [0, 1, 2, 3] (by decide) (by decide) rfl (by first | rfl | simp only [go_sem, reduceIte, Nat.reduceEqDiff, Nat.reduceAdd, e_2, e_2008, e_4015, e_6112, e_6175, e_6177, e_6189, e_6191])), rfl, rfl⟩
                · rw [if_neg h_6188] at h
                  have e_6189 : (IntKind.i64.wrap ((IntKind.u64.wrap (IntKind.i64.wrap (a_1 + a_3))).fdiv (2 ^ 1)) < IntKind.i64.wrap ((IntKind.i64.wrap ((IntKind.i64.wrap ((IntKind.u64.wrap (IntKind.i64.wrap (a_1 + a_3))).fdiv (2 ^ 1))) + a_2)) - y_6110)) = False := eq_false h_6188
                  simp only [e_2, e_2008, e_4013, e_4015, e_6112, e_6175, e_6177, e_6189, go_sem, reduceIte, reduceCtorEq, Nat.reduceEqDiff, Nat.reduceLT, Nat.reduceLeDiff, Nat.reduceAdd, Nat.reduceSub, Nat.reduceMul, Int.reduceToNat, Int.reduceLE, Int.reduceLT, Int.reduceAdd, Int.reduceSub, Int.reduceMul, Int.reduceEq, Int.reduceNeg]
                  have g_0 := Option.some.inj h
                  subst g_0
                  rw [← hQ]
                  exact ⟨rfl, _, rfl, _, _, (RefV.std [0, 1, 2, 3] (by decide) (by decide) rfl (by first | rfl | simp only [go_sem, reduceIte, Nat.reduceEqDiff, Nat.reduceAdd, e_2, e_2008, e_4015, e_6112, e_6175, e_6177, e_6189])), rfl, rfl⟩
            · rw [if_neg h_6174] at h
              have e_6175 : (a_1 < y_6110) = False := eq_false h_6174
              simp only [e_2, e_2008, e_4013, e_4015, e_6112, e_6175, go_sem, reduceIte, reduceCtorEq, Nat.reduceEqDiff, Nat.reduceLT, Nat.reduceLeDiff, Nat.reduceAdd, Nat.reduceSub, Nat.reduceMul, Int.reduceToNat, Int.reduceLE, Int.reduceLT, Int.reduceAdd, Int.reduceSub, Int.reduceMul, Int.reduceEq, Int.reduceNeg]
              by_cases h_6195 : IntKind.i64.wrap ((IntKind.u64.wrap (IntKind.i64.wrap (a_1 + a_3))).fdiv (2 ^ 1)) < IntKind.i64.wrap ((IntKind.i64.wrap ((IntKind.i64.wrap ((IntKind.u64.wrap (IntKind.i64.wrap (a_1 + a_3))).fdiv (2 ^ 1))) + a_2)) - y_6110)
              · rw [if_pos h_6195] at h
                have e_6196 : (IntKind.i64.wrap ((IntKind.u64.wrap (IntKind.i64.wrap (a_1 + a_3))).fdiv (2 ^ 1)) < IntKind.i64.wrap ((IntKind.i64.wrap ((IntKind.i64.wrap ((IntKind.u64.wrap (IntKind.i64.wrap (a_1 + a_3))).fdiv (2 ^ 1))) + a_2)) - y_6110)) = True := eq_true h_6195
                simp only [e_2, e_2008, e_4013, e_4015, e_6112, e_6175, e_6196, go_sem, reduceIte, reduceCtorEq, Nat.reduceEqDiff, Nat.reduceLT, Nat.reduceLeDiff, Nat.reduceAdd, Nat.reduceSub, Nat.reduceMul, Int.reduceToNat, Int.reduceLE, Int.reduceLT, Int.reduceAdd, Int.reduceSub, Int.reduceMul, Int.reduceEq, Int.reduceNeg]
                by_cases h_6197 : IntKind.i64.wrap ((IntKind.i64.wrap ((IntKind.i64.wrap ((IntKind.u64.wrap (IntKind.i64.wrap (a_1 + a_3))).fdiv (2 ^ 1))) + a_2)) - y_6110) < a_3
                · rw [if_pos h_6197] at h
                  have e_6198 : (IntKind.i64.wrap ((IntKind.i64.wrap ((IntKind.i64.wrap ((IntKind.u64.wrap (IntKind.i64.wrap (a_1 + a_3))).fdiv (2 ^ 1))) + a_2)) - y_6110) < a_3) = True := eq_true h_6197
                  obtain ⟨y_6199, h_6200, h⟩ := bindS h
                  simp only [e_2, e_2008, e_4013, e_4015, e_6112, e_6175, e_6196, e_6198, go_sem, reduceIte, reduceCtorEq, Nat.reduceEqDiff, Nat.reduceLT, Nat.reduceLeDiff, Nat.reduceAdd, Nat.reduceSub, Nat.reduceMul, Int.reduceToNat, Int.reduceLE, Int.reduceLT, Int.reduceAdd, Int.reduceSub, Int.reduceMul, Int.reduceEq, Int.reduceNeg]
                  refine ACalls.use (ih _ _ _ _ _ _ h_6200) [0, 1, 3] (by decide) ⟨(by first | rfl | simp only [go_sem, reduceIte, Nat.reduceEqDiff, Nat.reduceAdd, e_2, e_2008, e_4015, e_6112, e_6175, e_6196, e_6198]), (by first | rfl | simp only [go_sem, reduceIte, Nat.reduceEqDiff, Nat.reduceAdd, e_2, e_2008, e_4015, e_6112, e_6175, e_6196, e_6198]), (by first | rfl | simp only [go_sem, reduceIte, Nat.reduceEqDiff, Nat.reduceAdd, e_2, e_2008, e_4015, e_6112, e_6175, e_6196, e_6198]), trivial⟩ rfl (v' := .tup []) (by first | rfl | simp only [go_sem, reduceIte, Nat.reduceEqDiff, Nat.reduceAdd, e_2, e_2008, e_4015, e_6112, e_6175, e_6196, e_6198]) (H' := [.mem 1 (List.map eI64 y_6199) 3, .box [.row 4 0 l_4.length] 28, .dead, .dead, .mem 1 (List.map eI64 l_4) 3]) (by first | rfl | simp only [go_sem, reduceIte, Nat.reduceEqDiff, Nat.reduceAdd, e_2, e_2008, e_4015, e_6112, e_6175, e_6196, e_6198]) ?_
                  refine CallK_go (by simp) ?_
                  obtain ⟨h_6201, h⟩ := guardS h
                  simp only [e_2, e_2008, e_4013, e_4015, e_6112, e_6175, e_6196, e_6198, go_sem, reduceIte, reduceCtorEq, Nat.reduceEqDiff, Nat.reduceLT, Nat.reduceLeDiff, Nat.reduceAdd, Nat.reduceSub, Nat.reduceMul, Int.reduceToNat, Int.reduceLE, Int.reduceLT, Int.reduceAdd, Int.reduceSub, Int.reduceMul, Int.reduceEq, Int.reduceNeg]
                  have g_0 := Option.some.inj h
                  subst g_0
                  rw [← hQ]
                  exact ⟨rfl, _, rfl, _, _, (RefV.std [0, 1, 2, 4] (by decide) (by decide) (by first | rfl | simp only [go_sem, reduceIte, Nat.reduceEqDiff, Nat.reduceAdd, h_6201]) (by first | rfl | simp only [go_sem, reduceIte, Nat.reduceEqDiff, Nat.reduceAdd, e_2, e_2008, e_4015, e_6112, e_6175, e_6196, e_6198])), rfl, rfl⟩
                · rw [if_neg h_6197] at h
                  have e_6198 : (IntKind.i64.wrap ((IntKind.i64.wrap ((IntKind.i64.wrap ((IntKind.u64.wrap (IntKind.i64.wrap (a_1 + a_3))).fdiv (2 ^ 1))) + a_2)) - y_6110) < a_3) = False := eq_false h_6197
                  simp only [e_2, e_2008, e_4013, e_4015, e_6112, e_6175, e_6196, e_6198, go_sem, reduceIte, reduceCtorEq, Nat.reduceEqDiff, Nat.reduceLT, Nat.reduceLeDiff, Nat.reduceAdd, Nat.reduceSub, Nat.reduceMul, Int.reduceToNat, Int.reduceLE, Int.reduceLT, Int.reduceAdd, Int.reduceSub, Int.reduceMul, Int.reduceEq, Int.reduceNeg]
                  have g_0 := Option.some.inj h
                  subst g_0
                  rw [← hQ]
                  exact ⟨rfl, _, rfl, _, _, (RefV.std [0, 1, 2, 3] (by decide) (by decide) rfl (by first | rfl | simp only [go_sem, reduceIte, Nat.reduceEqDiff, Nat.reduceAdd, e_2, e_2008, e_4015, e_6112, e_6175, e_6196, e_6198])), rfl, rfl⟩
              · rw [if_neg h_6195] at h
                have e_6196 : (IntKind.i64.wrap ((IntKind.u64.wrap (IntKind.i64.wrap (a_1 + a_3))).fdiv (2 ^ 1)) < IntKind.i64.wrap ((IntKind.i64.wrap ((IntKind.i64.wrap ((IntKind.u64.wrap (IntKind.i64.wrap (a_1 + a_3))).fdiv (2 ^ 1))) + a_2)) - y_6110)) = False := eq_false h_6195
                simp only [e_2, e_2008, e_4013, e_4015, e_6112, e_6175, e_6196, go_sem, reduceIte, reduceCtorEq, Nat.reduceEqDiff, Nat.reduceLT, Nat.reduceLeDiff, Nat.reduceAdd, Nat.reduceSub, Nat.reduceMul, Int.reduceToNat, Int.reduceLE, Int.reduceLT, Int.reduceAdd, Int.reduceSub, Int.reduceMul, Int.reduceEq, Int.reduceNeg]
                have g_0 := Option.some.inj h
                subst g_0
                rw [← hQ]
                exact ⟨rfl, _, rfl, _, _, (RefV.std [0, 1, 2, 3] (by decide) (by decide) rfl (by first | rfl | simp only [go_sem, reduceIte, Nat.reduceEqDiff, Nat.reduceAdd, e_2, e_2008, e_4015, e_6112, e_6175, e_6196])), rfl, rfl⟩
theorem slices_stableCmpFunc_int_row_L3_w (N : Nat) (a_1 : Int) (i_1007 : Int) (l_2 : List Int) {R : AExit → ATm → List AObj → Prop} : ∀ (n : Nat) (i_1011 : Int) (i_1012 : Int) (s_1013 : List Int) (o : Int × (List Int)), slices_stableCmpFunc_int_row_L3 N a_1 i_1007 l_2 n i_1011 i_1012 s_1013 = some o → (match o with | (z_1, z_2) => R (.exit 4) ⟨63, [(0, .row 0 0 z_2.length), (1, .int .i64 a_1), (2, .fn (.func 56) [] [.ptr 1 0 0]), (6, .int .i64 i_1007), (7, .int .i64 z_1)], []⟩ [.mem 1 (List.map eI64 z_2) 3, .box [.row 3 0 l_2.length] 28, .dead, .mem 1 (List.map eI64 l_2) 3]) →
    ALp Go.Proofs.Try.prog 3 B75_3 ⟨63, [(0, .row 0 0 s_1013.length), (1, .int .i64 a_1), (2, .fn (.func 56) [] [.ptr 1 0 0]), (6, .int .i64 i_1007), (7, .int .i64 i_1011), (8, .int .i64 i_1012)], []⟩ [.mem 1 (List.map eI64 s_1013) 3, .box [.row 3 0 l_2.length] 28, .dead, .mem 1 (List.map eI64 l_2) 3] R := by
  intro n
  induction n with
  | zero =>
    intro i_1011 i_1012 s_1013 o h _
    have h0 : none = some o := h
    cases h0
  | succ n ih =>
    intro i_1011 i_1012 s_1013 o h hp
    rw [slices_stableCmpFunc_int_row_L3] at h
    refine ALp.round ?_
    generalize hQ : RoundQ _ _ _ _ = QQ
    simp only [B75_3, B75_2, A75, go_sem, reduceIte, reduceCtorEq, Nat.reduceEqDiff, Nat.reduceLT, Nat.reduceLeDiff, Nat.reduceAdd, Nat.reduceSub, Nat.reduceMul, Int.reduceToNat, Int.reduceLE, Int.reduceLT, Int.reduceAdd, Int.reduceSub, Int.reduceMul, Int.reduceEq, Int.reduceNeg]
    by_cases h_1014 : i_1012 ≤ a_1
    · rw [if_pos h_1014] at h
      have e_1015 : (i_1012 ≤ a_1) = True := eq_true h_1014
      obtain ⟨y_1016, h_1017, h⟩ := bindS h
      simp only [e_1015, go_sem, reduceIte, reduceCtorEq, Nat.reduceEqDiff, Nat.reduceLT, Nat.reduceLeDiff, Nat.reduceAdd, Nat.reduceSub, Nat.reduceMul, Int.reduceToNat, Int.reduceLE, Int.reduceLT, Int.reduceAdd, Int.reduceSub, Int.reduceMul, Int.reduceEq, Int.reduceNeg]
      refine ACalls.use (slices_symMergeCmpFunc_int_row_w N N _ _ _ _ _ _ h_1017) [0, 1, 3] (by decide) ⟨(by first | rfl | simp only [go_sem, reduceIte, Nat.reduceEqDiff, Nat.reduceAdd, e_1015]), (by first | rfl | simp only [go_sem, reduceIte, Nat.reduceEqDiff, Nat.reduceAdd, e_1015]), (by first | rfl | simp only [go_sem, reduceIte, Nat.reduceEqDiff, Nat.reduceAdd, e_1015]), trivial⟩ rfl (v' := .tup []) (by first | rfl | simp only [go_sem, reduceIte, Nat.reduceEqDiff, Nat.reduceAdd, e_1015]) (H' := [.mem 1 (List.map eI64 y_1016) 3, .box [.row 4 0 l_2.length] 28, .dead, .dead, .mem 1 (List.map eI64 l_2) 3]) (by first | rfl | simp only [go_sem, reduceIte, Nat.reduceEqDiff, Nat.reduceAdd, e_1015]) ?_
      refine CallK_go (by simp) ?_
      obtain ⟨h_1018, h⟩ := guardS h
      simp only [e_1015, go_sem, reduceIte, reduceCtorEq, Nat.reduceEqDiff, Nat.reduceLT, Nat.reduceLeDiff, Nat.reduceAdd, Nat.reduceSub, Nat.reduceMul, Int.reduceToNat, Int.reduceLE, Int.reduceLT, Int.reduceAdd, Int.reduceSub, Int.reduceMul, Int.reduceEq, Int.reduceNeg]
      rw [← hQ]
      exact ⟨_, _, (Ref.std (l' := [(0, .row 0 0 y_1016.length), (1, .int .i64 a_1), (2, .fn (.func 56) [] [.ptr 1 0 0]), (6, .int .i64 i_1007), (7, .int .i64 i_1012), (8, .int .i64 (IntKind.i64.wrap (i_1012 + (IntKind.i64.wrap (2 * i_1007)))))]) (H' := [.mem 1 (List.map eI64 y_1016) 3, .box [.row 3 0 l_2.length] 28, .dead, .mem 1 (List.map eI64 l_2) 3]) [0, 1, 2, 6, 7, 8] [0, 1, 2, 4] (by decide) (by decide) (by first | rfl | simp only [go_sem, reduceIte, Nat.reduceEqDiff, Nat.reduceAdd, h_1018]) (by first | rfl | simp only [go_sem, reduceIte, Nat.reduceEqDiff, Nat.reduceAdd, h_1018])), (by simp), ih _ _ _ _ h hp⟩
    · rw [if_neg h_1014] at h
      have e_1015 : (i_1012 ≤ a_1) = False := eq_false h_1014
      simp only [e_1015, go_sem, reduceIte, reduceCtorEq, Nat.reduceEqDiff, Nat.reduceLT, Nat.reduceLeDiff, Nat.reduceAdd, Nat.reduceSub, Nat.reduceMul, Int.reduceToNat, Int.reduceLE, Int.reduceLT, Int.reduceAdd, Int.reduceSub, Int.reduceMul, Int.reduceEq, Int.reduceNeg]
      have g := Option.some.inj h
      subst g
      rw [← hQ]
      exact ⟨_, _, (Ref.std [0, 1, 2, 6, 7] [0, 1, 2, 3] (by decide) (by decide) rfl (by first | rfl | simp only [go_sem, reduceIte, Nat.reduceEqDiff, Nat.reduceAdd])), hp⟩
theorem slices_stableCmpFunc_int_row_L4_w (N : Nat) (a_1 : Int) (l_2 : List Int) {R : AExit → ATm → List AObj → Prop} : ∀ (n : Nat) (i_1007 : Int) (s_1008 : List Int) (o : (List Int)), slices_stableCmpFunc_int_row_L4 N a_1 l_2 n i_1007 s_1008 = some o → (match o with | z_1 => R (.exit 2) ⟨63, [], []⟩ [.mem 1 (List.map eI64 z_1) 3, .box [.row 3 0 l_2.length] 28, .dead, .mem 1 (List.map eI64 l_2) 3]) →
    ALp Go.Proofs.Try.prog 3 B75_2 ⟨63, [(0, .row 0 0 s_1008.length), (1, .int .i64 a_1), (2, .fn (.func 56) [] [.ptr 1 0 0]), (6, .int .i64 i_1007)], []⟩ [.mem 1 (List.map eI64 s_1008) 3, .box [.row 3 0 l_2.length] 28, .dead, .mem 1 (List.map eI64 l_2) 3] R := by
  intro n
  induction n with
  | zero =>
    intro i_1007 s_1008 o h _
    have h0 : none = some o := h
    cases h0
  | succ n ih =>
    intro i_1007 s_1008 o h hp
    rw [slices_stableCmpFunc_int_row_L4] at h
    refine ALp.round ?_
    generalize hQ : RoundQ _ _ _ _ = QQ
    simp only [B75_2, A75, go_sem, reduceIte, reduceCtorEq, Nat.reduceEqDiff, Nat.reduceLT, Nat.reduceLeDiff, Nat.reduceAdd, Nat.reduceSub, Nat.reduceMul, Int.reduceToNat, Int.reduceLE, Int.reduceLT, Int.reduceAdd, Int.reduceSub, Int.reduceMul, Int.reduceEq, Int.reduceNeg]
    by_cases h_1009 : i_1007 < a_1
    · rw [if_pos h_1009] at h
      have e_1010 : (i_1007 < a_1) = True := eq_true h_1009
      simp only [e_1010, go_sem, reduceIte, reduceCtorEq, Nat.reduceEqDiff, Nat.reduceLT, Nat.reduceLeDiff, Nat.reduceAdd, Nat.reduceSub, Nat.reduceMul, Int.reduceToNat, Int.reduceLE, Int.reduceLT, Int.reduceAdd, Int.reduceSub, Int.reduceMul, Int.reduceEq, Int.reduceNeg]
      obtain ⟨⟨y_2012, y_2013⟩, h_2011, h⟩ := bindS h
      try dsimp only at h
      refine ALp.ref (Ref.std [0, 1, 2, 6, 7, 8] [0, 1, 2, 3] (by decide) (by decide) rfl (by first | rfl | simp only [go_sem, reduceIte, Nat.reduceEqDiff, Nat.reduceAdd])) (by simp) (slices_stableCmpFunc_int_row_L3_w N _ _ _ N _ _ _ _ h_2011 ?_)
      refine LoopK_go rfl (by simp) ?_
      simp only [e_1010, go_sem, reduceIte, reduceCtorEq, Nat.reduceEqDiff, Nat.reduceLT, Nat.reduceLeDiff, Nat.reduceAdd, Nat.reduceSub, Nat.reduceMul, Int.reduceToNat, Int.reduceLE, Int.reduceLT, Int.reduceAdd, Int.reduceSub, Int.reduceMul, Int.reduceEq, Int.reduceNeg]
      by_cases h_2014 : IntKind.i64.wrap (y_2012 + i_1007) < a_1
      · rw [if_pos h_2014] at h
        have e_2015 : (IntKind.i64.wrap (y_2012 + i_1007) < a_1) = True := eq_true h_2014
        obtain ⟨y_2016, h_2017, h⟩ := bindS h
        simp only [e_1010, e_2015, go_sem, reduceIte, reduceCtorEq, Nat.reduceEqDiff, Nat.reduceLT, Nat.reduceLeDiff, Nat.reduceAdd, Nat.reduceSub, Nat.reduceMul, Int.reduceToNat, Int.reduceLE, Int.reduceLT, Int.reduceAdd, Int.reduceSub, Int.reduceMul, Int.reduceEq, Int.reduceNeg]
        refine ACalls.use (slices_symMergeCmpFunc_int_row_w N N _ _ _ _ _ _ h_2017) [0, 1, 3] (by decide) ⟨(by first | rfl | simp only [go_sem, reduceIte, Nat.reduceEqDiff, Nat.reduceAdd, e_1010, e_2015]), (by first | rfl | simp only [go_sem, reduceIte, Nat.reduceEqDiff, Nat.reduceAdd, e_1010, e_2015]), (by first | rfl | simp only [go_sem, reduceIte, Nat.reduceEqDiff, Nat.reduceAdd, e_1010, e_2015]), trivial⟩ rfl (v' := .tup []) (by first | rfl | simp only [go_sem, reduceIte, Nat.reduceEqDiff, Nat.reduceAdd, e_1010, e_2015]) (H' := [.mem 1 (List.map eI64 y_2016) 3, .box [.row 4 0 l_2.length] 28, .dead, .dead, .mem 1 (List.map eI64 l_2) 3]) (by first | rfl | simp only [go_sem, reduceIte, Nat.reduceEqDiff, Nat.reduceAdd, e_1010, e_2015]) ?_
        refine CallK_go (by simp) ?_
        obtain ⟨h_2018, h⟩ := guardS h
        simp only [e_1010, e_2015, go_sem, reduceIte, reduceCtorEq, Nat.reduceEqDiff, Nat.reduceLT, Nat.reduceLeDiff, Nat.reduceAdd, Nat.reduceSub, Nat.reduceMul, Int.reduceToNat, Int.reduceLE, Int.reduceLT, Int.reduceAdd, Int.reduceSub, Int.reduceMul, Int.reduceEq, Int.reduceNeg]
        rw [← hQ]
        exact ⟨_, _, (Ref.std (l' := [(0, .row 0 0 y_2016.length), (1, .int .i64 a_1), (2, .fn (.func 56) [] [.ptr 1 0 0]), (6, .int .i64 (IntKind.i64.wrap (i_1007 * 2)))]) (H' := [.mem 1 (List.map eI64 y_2016) 3, .box [.row 3 0 l_2.length] 28, .dead, .mem 1 (List.map eI64 l_2) 3]) [0, 1, 2, 6] [0, 1, 2, 4] (by decide) (by decide) (by first | rfl | simp only [go_sem, reduceIte, Nat.reduceEqDiff, Nat.reduceAdd, h_2018]) (by first | rfl | simp only [go_sem, reduceIte, Nat.reduceEqDiff, Nat.reduceAdd, h_2018])), (by simp), ih _ _ _ h hp⟩
      · rw [if_neg h_2014] at h
        have e_2015 : (IntKind.i64.wrap (y_2012 + i_1007) < a_1) = False := eq_false h_2014
        simp only [e_1010, e_2015, go_sem, reduceIte, reduceCtorEq, Nat.reduceEqDiff, Nat.reduceLT, Nat.reduceLeDiff, Nat.reduceAdd, Nat.reduceSub, Nat.reduceMul, Int.reduceToNat, Int.reduceLE, Int.reduceLT, Int.reduceAdd, Int.reduceSub, Int.reduceMul, Int.reduceEq, Int.reduceNeg]
        rw [← hQ]
        exact ⟨_, _, (Ref.std [0, 1, 2, 6] [0, 1, 2, 3] (by decide) (by decide) rfl (by first | rfl | simp only [go_sem, reduceIte, Nat.reduceEqDiff, Nat.reduceAdd])), (by simp), ih _ _ _ h hp⟩
    · rw [if_neg h_1009] at h
      have e_1010 : (i_1007 < a_1) = False := eq_false h_1009
      simp only [e_1010, go_sem, reduceIte, reduceCtorEq, Nat.reduceEqDiff, Nat.reduceLT, Nat.reduceLeDiff, Nat.reduceAdd, Nat.reduceSub, Nat.reduceMul, Int.reduceToNat, Int.reduceLE, Int.reduceLT, Int.reduceAdd, Int.reduceSub, Int.reduceMul, Int.reduceEq, Int.reduceNeg]
      have g := Option.some.inj h
      subst g
      rw [← hQ]
      exact ⟨_, _, (Ref.std [] [0, 1, 2, 3] (by decide) (by decide) rfl (by first | rfl | simp only [go_sem, reduceIte, Nat.reduceEqDiff, Nat.reduceAdd])), hp⟩
theorem slices_stableCmpFunc_int_row_w (N : Nat) (l_0 : List Int) (a_1 : Int) (l_2 : List Int) (z_1 : List Int) (h : slices_stableCmpFunc_int_row N l_0 a_1 l_2 = some z_1) :
    ACalls Go.Proofs.Try.prog 75 [.row 0 0 l_0.length, .int .i64 a_1, .fn (.func 56) [] [.ptr 1 0 0]] [.mem 1 (List.map eI64 l_0) 3, .box [.row 2 0 l_2.length] 28, .mem 1 (List.map eI64 l_2) 3] (fun e H => H = [.mem 1 (List.map eI64 z_1) 3, .box [.row 3 0 l_2.length] 28, .dead, .mem 1 (List.map eI64 l_2) 3] ∧ e = .ret (.tup [])) := by
  unfold slices_stableCmpFunc_int_row at h
  refine ACalls.goN Go.Proofs.Try.func75 n75 a75 Go.Proofs.Try.ntmps75 r75 (by simp) 3 rfl ?_
  generalize hQ : bodyA _ _ _ = QQ
  simp only [A75, go_sem, reduceIte, reduceCtorEq, Nat.reduceEqDiff, Nat.reduceLT, Nat.reduceLeDiff, Nat.reduceAdd, Nat.reduceSub, Nat.reduceMul, Int.reduceToNat, Int.reduceLE, Int.reduceLT, Int.reduceAdd, Int.reduceSub, Int.reduceMul, Int.reduceEq, Int.reduceNeg]
  obtain ⟨⟨y_1002, y_1003⟩, h_1001, h⟩ := bindS h
  try dsimp only at h
  refine ALp.ref (Ref.trans (Ref.move (by simp) (id := 2) rfl rfl) (Ref.std [0, 1, 2, 6, 7, 8] [0, 1, 2, 3] (by decide) (by decide) rfl (by first | rfl | simp only [go_sem, reduceIte, Nat.reduceEqDiff, Nat.reduceAdd]))) (by simp) (slices_stableCmpFunc_int_row_L1_w N _ _ N _ _ _ _ h_1001 ?_)
  refine LoopK_go rfl (by simp) ?_
  obtain ⟨y_1004, h_1005, h⟩ := bindS h
  simp only [go_sem, reduceIte, reduceCtorEq, Nat.reduceEqDiff, Nat.reduceLT, Nat.reduceLeDiff, Nat.reduceAdd, Nat.reduceSub, Nat.reduceMul, Int.reduceToNat, Int.reduceLE, Int.reduceLT, Int.reduceAdd, Int.reduceSub, Int.reduceMul, Int.reduceEq, Int.reduceNeg]
  refine ACalls.use (slices_insertionSortCmpFunc_int_row_w N _ _ _ _ _ h_1005) [0, 1, 3] (by decide) ⟨(by first | rfl | simp only [go_sem, reduceIte, Nat.reduceEqDiff, Nat.reduceAdd]), (by first | rfl | simp only [go_sem, reduceIte, Nat.reduceEqDiff, Nat.reduceAdd]), (by first | rfl | simp only [go_sem, reduceIte, Nat.reduceEqDiff, Nat.reduceAdd]), trivial⟩ rfl (v' := .tup []) (by first | rfl | simp only [go_sem, reduceIte, Nat.reduceEqDiff, Nat.reduceAdd]) (H' := [.mem 1 (List.map eI64 y_1004) 3, .box [.row 4 0 l_2.length] 28, .dead, .dead, .mem 1 (List.map eI64 l_2) 3]) (by first | rfl | simp only [go_sem, reduceIte, Nat.reduceEqDiff, Nat.reduceAdd]) ?_
  refine CallK_go (by simp) ?_
  obtain ⟨h_1006, h⟩ := guardS h
  simp only [go_sem, reduceIte, reduceCtorEq, Nat.reduceEqDiff, Nat.reduceLT, Nat.reduceLeDiff, Nat.reduceAdd, Nat.reduceSub, Nat.reduceMul, Int.reduceToNat, Int.reduceLE, Int.reduceLT, Int.reduceAdd, Int.reduceSub, Int.reduceMul, Int.reduceEq, Int.reduceNeg]
  obtain ⟨y_2008, h_2007, h⟩ := bindS h
  refine ALp.ref (Ref.std (l' := [(0, .row 0 0 y_1004.length), (1, .int .i64 a_1), (2, .fn (.func 56) [] [.ptr 1 0 0]), (6, .int .i64 20)]) (H' := [.mem 1 (List.map eI64 y_1004) 3, .box [.row 3 0 l_2.length] 28, .dead, .mem 1 (List.map eI64 l_2) 3]) [0, 1, 2, 6] [0, 1, 2, 4] (by decide) (by decide) (by first | rfl | simp only [go_sem, reduceIte, Nat.reduceEqDiff, Nat.reduceAdd, h_1006]) (by first | rfl | simp only [go_sem, reduceIte, Nat.reduceEqDiff, Nat.reduceAdd, h_1006])) (by simp) (slices_stableCmpFunc_int_row_L4_w N _ _ N _ _ y_2008 h_2007 ?_)
  refine LoopK_go rfl (by simp) ?_
  simp only [go_sem, reduceIte, reduceCtorEq, Nat.reduceEqDiff, Nat.reduceLT, Nat.reduceLeDiff, Nat.reduceAdd, Nat.reduceSub, Nat.reduceMul, Int.reduceToNat, Int.reduceLE, Int.reduceLT, Int.reduceAdd, Int.reduceSub, Int.reduceMul, Int.reduceEq, Int.reduceNeg]
  have g_0 := Option.some.inj h
  subst g_0
  rw [← hQ]
  exact ⟨rfl, _, rfl, _, _, (RefV.std [0, 1, 2, 3] (by decide) (by decide) (by first | rfl | simp only [go_sem, reduceIte, Nat.reduceEqDiff, Nat.reduceAdd, h_1006]) (by first | rfl | simp only [go_sem, reduceIte, Nat.reduceEqDiff, Nat.reduceAdd])), rfl, rfl⟩
theorem slices_SortStableFunc_intint_row_w (N : Nat) (l_0 : List Int) (l_1 : List Int) (z_1 : List Int) (h : slices_SortStableFunc_intint_row N l_0 l_1 = some z_1) :
    ACalls Go.Proofs.Try.prog 55 [.row 0 0 l_0.length, .fn (.func 56) [] [.ptr 1 0 0]] [.mem 1 (List.map eI64 l_0) 3, .box [.row 2 0 l_1.length] 28, .mem 1 (List.map eI64 l_1) 3] (fun e H => H = [.mem 1 (List.map eI64 z_1) 3, .box [.row 3 0 l_1.length] 28, .dead, .mem 1 (List.map eI64 l_1) 3] ∧ e = .ret (.tup [])) := by
  unfold slices_SortStableFunc_intint_row at h
  refine ACalls.goN Go.Proofs.Try.func55 n55 a55 Go.Proofs.Try.ntmps55 r55 (by simp) 3 rfl ?_
  generalize hQ : bodyA _ _ _ = QQ
  obtain ⟨y_1, h_2, h⟩ := bindS h
  simp only [A55, go_sem, reduceIte, reduceCtorEq, Nat.reduceEqDiff, Nat.reduceLT, Nat.reduceLeDiff, Nat.reduceAdd, Nat.reduceSub, Nat.reduceMul, Int.reduceToNat, Int.reduceLE, Int.reduceLT, Int.reduceAdd, Int.reduceSub, Int.reduceMul, Int.reduceEq, Int.reduceNeg]
  refine ACalls.use (slices_stableCmpFunc_int_row_w N _ _ _ _ h_2) [0, 1, 2] (by decide) ⟨(by first | rfl | simp only [go_sem, reduceIte, Nat.reduceEqDiff, Nat.reduceAdd]), (by first | rfl | simp only [go_sem, reduceIte, Nat.reduceEqDiff, Nat.reduceAdd]), (by first | rfl | simp only [go_sem, reduceIte, Nat.reduceEqDiff, Nat.reduceAdd]), trivial⟩ rfl (v' := .tup []) (by first | rfl | simp only [go_sem, reduceIte, Nat.reduceEqDiff, Nat.reduceAdd]) (H' := [.mem 1 (List.map eI64 y_1) 3, .box [.row 3 0 l_1.length] 28, .dead, .mem 1 (List.map eI64 l_1) 3]) (by first | rfl | simp only [go_sem, reduceIte, Nat.reduceEqDiff, Nat.reduceAdd]) ?_
  refine CallK_go (by simp) ?_
  obtain ⟨h_3, h⟩ := guardS h
  simp only [go_sem, reduceIte, reduceCtorEq, Nat.reduceEqDiff, Nat.reduceLT, Nat.reduceLeDiff, Nat.reduceAdd, Nat.reduceSub, Nat.reduceMul, Int.reduceToNat, Int.reduceLE, Int.reduceLT, Int.reduceAdd, Int.reduceSub, Int.reduceMul, Int.reduceEq, Int.reduceNeg]
  have g_0 := Option.some.inj h
  subst g_0
  rw [← hQ]
  exact ⟨rfl, _, rfl, _, _, (RefV.std [0, 1, 2, 3] (by decide) (by decide) (by first | rfl | simp only [go_sem, reduceIte, Nat.reduceEqDiff, Nat.reduceAdd, h_3]) (by first | rfl | simp only [go_sem, reduceIte, Nat.reduceEqDiff, Nat.reduceAdd])), rfl, rfl⟩
theorem buffer_Sort_row_L1_w (N : Nat) (l_0 : List TGlyph) (a_1 : Int) (l_3 : List Int) (c_0 : Bool) {R : AExit → ATm → List AObj → Prop} : ∀ (n : Nat) (i_15 : Int) (s_16 : List Int) (o : (List Int)), buffer_Sort_row_L1 N l_0 a_1 l_3 n i_15 s_16 = some o → (match o with | z_1 => R (.exit 0) ⟨51, [(0, .vec c_0 (List.map eTGlyph l_0)), (1, .int .i64 a_1), (7, .ptr 1 0 0), (9, .row 3 0 z_1.length)], []⟩ [.dead, .box [.row 2 0 l_3.length] 28, .mem 1 (List.map eI64 l_3) 3, .mem 1 (List.map eI64 z_1) 3]) →
    ALp Go.Proofs.Try.prog 1 B21_1 ⟨51, [(0, .vec c_0 (List.map eTGlyph l_0)), (1, .int .i64 a_1), (7, .ptr 1 0 0), (9, .row 3 0 s_16.length), (35, .int .i64 (l_3.length : Int)), (36, .int .i64 i_15)], []⟩ [.dead, .box [.row 2 0 l_3.length] 28, .mem 1 (List.map eI64 l_3) 3, .mem 1 (List.map eI64 s_16) 3] R := by
  intro n
  induction n with
  | zero =>
    intro i_15 s_16 o h _
    have h0 : none = some o := h
    cases h0
  | succ n ih =>
    intro i_15 s_16 o h hp
    rw [buffer_Sort_row_L1] at h
    refine ALp.round ?_
    generalize hQ : RoundQ _ _ _ _ = QQ
    simp only [B21_1, A21, go_sem, reduceIte, reduceCtorEq, Nat.reduceEqDiff, Nat.reduceLT, Nat.reduceLeDiff, Nat.reduceAdd, Nat.reduceSub, Nat.reduceMul, Int.reduceToNat, Int.reduceLE, Int.reduceLT, Int.reduceAdd, Int.reduceSub, Int.reduceMul, Int.reduceEq, Int.reduceNeg]
    by_cases h_17 : i_15 < (l_3.length : Int)
    · rw [if_pos h_17] at h
      have e_18 : (i_15 < (l_3.length : Int)) = True := eq_true h_17
      have e_19 : List.take s_16.length (List.map eI64 s_16) = (List.map eI64 s_16) := List.take_of_length_le (by simp)
      have e_20 : (List.map eI64 s_16) ++ [[.int .i64 i_15]] = (List.map eI64 (s_16 ++ [i_15])) := app_map s_16 ([i_15]) eI64
      obtain ⟨h_21, h⟩ := guardS h
      have e_22 : ((s_16.length + 1) * 8 ≤ 140737488355328) = True := eq_true h_21
      simp only [e_18, e_19, e_20, e_22, go_sem, reduceIte, reduceCtorEq, Nat.reduceEqDiff, Nat.reduceLT, Nat.reduceLeDiff, Nat.reduceAdd, Nat.reduceSub, Nat.reduceMul, Int.reduceToNat, Int.reduceLE, Int.reduceLT, Int.reduceAdd, Int.reduceSub, Int.reduceMul, Int.reduceEq, Int.reduceNeg]
      rw [← hQ]
      exact ⟨_, _, (Ref.std [0, 1, 7, 9, 35, 36] [0, 1, 2, 4] (by decide) (by decide) (by first | rfl | simp only [go_sem, reduceIte, Nat.reduceEqDiff, Nat.reduceAdd]) (by first | rfl | simp only [go_sem, reduceIte, Nat.reduceEqDiff, Nat.reduceAdd])), (by simp), ih _ _ _ h hp⟩
    · rw [if_neg h_17] at h
      have e_18 : (i_15 < (l_3.length : Int)) = False := eq_false h_17
      simp only [e_18, go_sem, reduceIte, reduceCtorEq, Nat.reduceEqDiff, Nat.reduceLT, Nat.reduceLeDiff, Nat.reduceAdd, Nat.reduceSub, Nat.reduceMul, Int.reduceToNat, Int.reduceLE, Int.reduceLT, Int.reduceAdd, Int.reduceSub, Int.reduceMul, Int.reduceEq, Int.reduceNeg]
      have g := Option.some.inj h
      subst g
      rw [← hQ]
      exact ⟨_, _, (Ref.std [0, 1, 7, 9] [0, 1, 2, 3] (by decide) (by decide) rfl (by first | rfl | simp only [go_sem, reduceIte, Nat.reduceEqDiff, Nat.reduceAdd])), hp⟩
theorem buffer_Sort_row_w (N : Nat) (l_0 : List TGlyph) (a_1 : Int) (a_2 : Int) (l_3 : List Int) (c_0 : Bool) (z_1 : List TGlyph) (h : buffer_Sort_row N l_0 a_1 a_2 l_3 = some z_1) :
    ACalls Go.Proofs.Try.prog 21 [.vec c_0 (List.map eTGlyph l_0), .int .i64 a_1, .int .i64 a_2, .row 0 0 l_3.length] [.mem 1 (List.map eI64 l_3) 3] (fun e H => H = [.dead] ∧ e = .ret (.vec false (List.map eTGlyph z_1))) := by
  unfold buffer_Sort_row at h
  refine ACalls.goN Go.Proofs.Try.func21 n21 a21 Go.Proofs.Try.ntmps21 r21 (by simp) 1 rfl ?_
  generalize hQ : bodyA _ _ _ = QQ
  simp only [A21, go_sem, reduceIte, reduceCtorEq, Nat.reduceEqDiff, Nat.reduceLT, Nat.reduceLeDiff, Nat.reduceAdd, Nat.reduceSub, Nat.reduceMul, Int.reduceToNat, Int.reduceLE, Int.reduceLT, Int.reduceAdd, Int.reduceSub, Int.reduceMul, Int.reduceEq, Int.reduceNeg]
  by_cases h_1 : a_1 < 0
  · rw [if_pos h_1] at h
    have e_2 : (a_1 < 0) = True := eq_true h_1
    obtain ⟨y_3, h_4, h⟩ := bindS h
    simp only [e_2, go_sem, reduceIte, reduceCtorEq, Nat.reduceEqDiff, Nat.reduceLT, Nat.reduceLeDiff, Nat.reduceAdd, Nat.reduceSub, Nat.reduceMul, Int.reduceToNat, Int.reduceLE, Int.reduceLT, Int.reduceAdd, Int.reduceSub, Int.reduceMul, Int.reduceEq, Int.reduceNeg]
    refine ACalls.use (slices_Clone_apiGlyphapiGlyph_w N _ _ _ h_4) [] (by decide) trivial rfl (v' := .row 2 0 y_3.length) (by first | rfl | simp only [go_sem, reduceIte, Nat.reduceEqDiff, Nat.reduceAdd, e_2]) (H' := [.mem 1 (List.map eI64 l_3) 3, .box [.row 0 0 l_3.length] 28, .mem 14 (List.map eTGlyph y_3) 32]) (by first | rfl | simp only [go_sem, reduceIte, Nat.reduceEqDiff, Nat.reduceAdd, e_2]) ?_
    refine CallK_go (by simp) ?_
    simp only [e_2, go_sem, reduceIte, reduceCtorEq, Nat.reduceEqDiff, Nat.reduceLT, Nat.reduceLeDiff, Nat.reduceAdd, Nat.reduceSub, Nat.reduceMul, Int.reduceToNat, Int.reduceLE, Int.reduceLT, Int.reduceAdd, Int.reduceSub, Int.reduceMul, Int.reduceEq, Int.reduceNeg]
    have g_0 := Option.some.inj h
    subst g_0
    rw [← hQ]
    exact ⟨rfl, _, rfl, _, _, (RefV.trans (RefV.frz (by simp) (id := 2) rfl (pures_map y_3 eTGlyph (fun _ => rfl))) (RefV.trans (RefV.move (by simp) (id := 0) rfl rfl) (RefV.std [0] (by decide) (by decide) (by first | rfl | simp only [go_sem, reduceIte, Nat.reduceEqDiff, Nat.reduceAdd, e_2]) (by first | rfl | simp only [go_sem, reduceIte, Nat.reduceEqDiff, Nat.reduceAdd, e_2])))), rfl, rfl⟩
  · rw [if_neg h_1] at h
    have e_2 : (a_1 < 0) = False := eq_false h_1
    simp only [e_2, go_sem, reduceIte, reduceCtorEq, Nat.reduceEqDiff, Nat.reduceLT, Nat.reduceLeDiff, Nat.reduceAdd, Nat.reduceSub, Nat.reduceMul, Int.reduceToNat, Int.reduceLE, Int.reduceLT, Int.reduceAdd, Int.reduceSub, Int.reduceMul, Int.reduceEq, Int.reduceNeg]
    by_cases h_5 : (l_0.length : Int) < a_2
    · rw [if_pos h_5] at h
      have e_6 : ((l_0.length : Int) < a_2) = True := eq_true h_5
      obtain ⟨y_7, h_8, h⟩ := bindS h
      simp only [e_2, e_6, go_sem, reduceIte, reduceCtorEq, Nat.reduceEqDiff, Nat.reduceLT, Nat.reduceLeDiff, Nat.reduceAdd, Nat.reduceSub, Nat.reduceMul, Int.reduceToNat, Int.reduceLE, Int.reduceLT, Int.reduceAdd, Int.reduceSub, Int.reduceMul, Int.reduceEq, Int.reduceNeg]
      refine ACalls.use (slices_Clone_apiGlyphapiGlyph_w N _ _ _ h_8) [] (by decide) trivial rfl (v' := .row 2 0 y_7.length) (by first | rfl | simp only [go_sem, reduceIte, Nat.reduceEqDiff, Nat.reduceAdd, e_2, e_6]) (H' := [.mem 1 (List.map eI64 l_3) 3, .box [.row 0 0 l_3.length] 28, .mem 14 (List.map eTGlyph y_7) 32]) (by first | rfl | simp only [go_sem, reduceIte, Nat.reduceEqDiff, Nat.reduceAdd, e_2, e_6]) ?_
      refine CallK_go (by simp) ?_
      simp only [e_2, e_6, go_sem, reduceIte, reduceCtorEq, Nat.reduceEqDiff, Nat.reduceLT, Nat.reduceLeDiff, Nat.reduceAdd, Nat.reduceSub, Nat.reduceMul, Int.reduceToNat, Int.reduceLE, Int.reduceLT, Int.reduceAdd, Int.reduceSub, Int.reduceMul, Int.reduceEq, Int.reduceNeg]
      have g_0 := Option.some.inj h
      subst g_0
      rw [← hQ]
      exact ⟨rfl, _, rfl, _, _, (RefV.trans (RefV.frz (by simp) (id := 2) rfl (pures_map y_7 eTGlyph (fun _ => rfl))) (RefV.trans (RefV.move (by simp) (id := 0) rfl rfl) (RefV.std [0] (by decide) (by decide) (by first | rfl | simp only [go_sem, reduceIte, Nat.reduceEqDiff, Nat.reduceAdd, e_2, e_6]) (by first | rfl | simp only [go_sem, reduceIte, Nat.reduceEqDiff, Nat.reduceAdd, e_2, e_6])))), rfl, rfl⟩
    · rw [if_neg h_5] at h
      have e_6 : ((l_0.length : Int) < a_2) = False := eq_false h_5
      simp only [e_2, e_6, go_sem, reduceIte, reduceCtorEq, Nat.reduceEqDiff, Nat.reduceLT, Nat.reduceLeDiff, Nat.reduceAdd, Nat.reduceSub, Nat.reduceMul, Int.reduceToNat, Int.reduceLE, Int.reduceLT, Int.reduceAdd, Int.reduceSub, Int.reduceMul, Int.reduceEq, Int.reduceNeg]
      by_cases h_9 : a_2 < a_1
      · rw [if_pos h_9] at h
        have e_10 : (a_2 < a_1) = True := eq_true h_9
        obtain ⟨y_11, h_12, h⟩ := bindS h
        simp only [e_2, e_6, e_10, go_sem, reduceIte, reduceCtorEq, Nat.reduceEqDiff, Nat.reduceLT, Nat.reduceLeDiff, Nat.reduceAdd, Nat.reduceSub, Nat.reduceMul, Int.reduceToNat, Int.reduceLE, Int.reduceLT, Int.reduceAdd, Int.reduceSub, Int.reduceMul, Int.reduceEq, Int.reduceNeg]
        refine ACalls.use (slices_Clone_apiGlyphapiGlyph_w N _ _ _ h_12) [] (by decide) trivial rfl (v' := .row 2 0 y_11.length) (by first | rfl | simp only [go_sem, reduceIte, Nat.reduceEqDiff, Nat.reduceAdd, e_2, e_6, e_10]) (H' := [.mem 1 (List.map eI64 l_3) 3, .box [.row 0 0 l_3.length] 28, .mem 14 (List.map eTGlyph y_11) 32]) (by first | rfl | simp only [go_sem, reduceIte, Nat.reduceEqDiff, Nat.reduceAdd, e_2, e_6, e_10]) ?_
        refine CallK_go (by simp) ?_
        simp only [e_2, e_6, e_10, go_sem, reduceIte, reduceCtorEq, Nat.reduceEqDiff, Nat.reduceLT, Nat.reduceLeDiff, Nat.reduceAdd, Nat.reduceSub, Nat.reduceMul, Int.reduceToNat, Int.reduceLE, Int.reduceLT, Int.reduceAdd, Int.reduceSub, Int.reduceMul, Int.reduceEq, Int.reduceNeg]
        have g_0 := Option.some.inj h
        subst g_0
        rw [← hQ]
        exact ⟨rfl, _, rfl, _, _, (RefV.trans (RefV.frz (by simp) (id := 2) rfl (pures_map y_11 eTGlyph (fun _ => rfl))) (RefV.trans (RefV.move (by simp) (id := 0) rfl rfl) (RefV.std [0] (by decide) (by decide) (by first | rfl | simp only [go_sem, reduceIte, Nat.reduceEqDiff, Nat.reduceAdd, e_2, e_6, e_10]) (by first | rfl | simp only [go_sem, reduceIte, Nat.reduceEqDiff, Nat.reduceAdd, e_2, e_6, e_10])))), rfl, rfl⟩
      · rw [if_neg h_9] at h
        have e_10 : (a_2 < a_1) = False := eq_false h_9
        simp only [e_2, e_6, e_10, go_sem, reduceIte, reduceCtorEq, Nat.reduceEqDiff, Nat.reduceLT, Nat.reduceLeDiff, Nat.reduceAdd, Nat.reduceSub, Nat.reduceMul, Int.reduceToNat, Int.reduceLE, Int.reduceLT, Int.reduceAdd, Int.reduceSub, Int.reduceMul, Int.reduceEq, Int.reduceNeg]
        by_cases h_13 : (l_3.length : Int) = IntKind.i64.wrap (a_2 - a_1)
        · rw [if_pos h_13] at h
          have e_14 : ((l_3.length : Int) = IntKind.i64.wrap (a_2 - a_1)) = True := eq_true h_13
          simp only [e_2, e_6, e_10, e_14, go_sem, reduceIte, reduceCtorEq, Nat.reduceEqDiff, Nat.reduceLT, Nat.reduceLeDiff, Nat.reduceAdd, Nat.reduceSub, Nat.reduceMul, Int.reduceToNat, Int.reduceLE, Int.reduceLT, Int.reduceAdd, Int.reduceSub, Int.reduceMul, Int.reduceEq, Int.reduceNeg]
          obtain ⟨y_1016, h_1015, h⟩ := bindS h
          refine ALp.ref (Ref.trans (Ref.thaw (by simp) 9 rfl (sz := 1) (by decide) 3) (Ref.trans (Ref.move (by simp) (id := 0) rfl rfl) (Ref.std [0, 1, 7, 9, 35, 36] [0, 1, 3, 2] (by decide) (by decide) rfl (by first | rfl | simp only [go_sem, reduceIte, Nat.reduceEqDiff, Nat.reduceAdd])))) (by simp) (buffer_Sort_row_L1_w N _ _ _ c_0 N _ _ y_1016 h_1015 ?_)
          refine LoopK_go rfl (by simp) ?_
          obtain ⟨y_1017, h_1018, h⟩ := bindS h
          simp only [e_2, e_6, e_10, e_14, go_sem, reduceIte, reduceCtorEq, Nat.reduceEqDiff, Nat.reduceLT, Nat.reduceLeDiff, Nat.reduceAdd, Nat.reduceSub, Nat.reduceMul, Int.reduceToNat, Int.reduceLE, Int.reduceLT, Int.reduceAdd, Int.reduceSub, Int.reduceMul, Int.reduceEq, Int.reduceNeg]
          refine ACalls.use (slices_SortStableFunc_intint_row_w N _ _ _ h_1018) [3, 1, 2] (by decide) ⟨(by first | rfl | simp only [go_sem, reduceIte, Nat.reduceEqDiff, Nat.reduceAdd]), (by first | rfl | simp only [go_sem, reduceIte, Nat.reduceEqDiff, Nat.reduceAdd]), (by first | rfl | simp only [go_sem, reduceIte, Nat.reduceEqDiff, Nat.reduceAdd]), trivial⟩ rfl (v' := .tup []) (by first | rfl | simp only [go_sem, reduceIte, Nat.reduceEqDiff, Nat.reduceAdd]) (H' := [.dead, .box [.row 4 0 l_3.length] 28, .dead, .mem 1 (List.map eI64 y_1017) 3, .mem 1 (List.map eI64 l_3) 3]) (by first | rfl | simp only [go_sem, reduceIte, Nat.reduceEqDiff, Nat.reduceAdd]) ?_
          refine CallK_go (by simp) ?_
          obtain ⟨h_1019, h⟩ := guardS h
          obtain ⟨y_1020, h_1021, h⟩ := bindS h
          simp only [e_2, e_6, e_10, e_14, go_sem, reduceIte, reduceCtorEq, Nat.reduceEqDiff, Nat.reduceLT, Nat.reduceLeDiff, Nat.reduceAdd, Nat.reduceSub, Nat.reduceMul, Int.reduceToNat, Int.reduceLE, Int.reduceLT, Int.reduceAdd, Int.reduceSub, Int.reduceMul, Int.reduceEq, Int.reduceNeg]
          refine ACalls.use (buffer_Order_row_w N _ _ _ c_0 _ h_1021) [3] (by decide) ⟨(by first | rfl | simp only [go_sem, reduceIte, Nat.reduceEqDiff, Nat.reduceAdd, h_1019]), trivial⟩ (by first | rfl | simp only [go_sem, reduceIte, Nat.reduceEqDiff, Nat.reduceAdd, h_1019]) (v' := .vec false (List.map eTGlyph y_1020)) (by first | rfl | simp only [go_sem, reduceIte, Nat.reduceEqDiff, Nat.reduceAdd, h_1019]) (H' := [.dead, .box [.row 4 0 l_3.length] 28, .dead, .mem 1 (List.map eI64 y_1017) 3, .mem 1 (List.map eI64 l_3) 3]) (by first | rfl | simp only [go_sem, reduceIte, Nat.reduceEqDiff, Nat.reduceAdd, h_1019]) ?_
          refine CallK_go (by simp) ?_
          simp only [e_2, e_6, e_10, e_14, go_sem, reduceIte, reduceCtorEq, Nat.reduceEqDiff, Nat.reduceLT, Nat.reduceLeDiff, Nat.reduceAdd, Nat.reduceSub, Nat.reduceMul, Int.reduceToNat, Int.reduceLE, Int.reduceLT, Int.reduceAdd, Int.reduceSub, Int.reduceMul, Int.reduceEq, Int.reduceNeg]
          have g_0 := Option.some.inj h
          subst g_0
          rw [← hQ]
          exact ⟨rfl, _, rfl, _, _, (RefV.std [0] (by decide) (by decide) (by first | rfl | simp only [go_sem, reduceIte, Nat.reduceEqDiff, Nat.reduceAdd, h_1019]) (by first | rfl | simp only [go_sem, reduceIte, Nat.reduceEqDiff, Nat.reduceAdd, e_2, e_6, e_10, e_14])), rfl, rfl⟩
        · rw [if_neg h_13] at h
          have e_14 : ((l_3.length : Int) = IntKind.i64.wrap (a_2 - a_1)) = False := eq_false h_13
          obtain ⟨y_1022, h_1023, h⟩ := bindS h
          simp only [e_2, e_6, e_10, e_14, go_sem, reduceIte, reduceCtorEq, Nat.reduceEqDiff, Nat.reduceLT, Nat.reduceLeDiff, Nat.reduceAdd, Nat.reduceSub, Nat.reduceMul, Int.reduceToNat, Int.reduceLE, Int.reduceLT, Int.reduceAdd, Int.reduceSub, Int.reduceMul, Int.reduceEq, Int.reduceNeg]
          refine ACalls.use (slices_Clone_apiGlyphapiGlyph_w N _ _ _ h_1023) [] (by decide) trivial rfl (v' := .row 2 0 y_1022.length) (by first | rfl | simp only [go_sem, reduceIte, Nat.reduceEqDiff, Nat.reduceAdd, e_2, e_6, e_10, e_14]) (H' := [.mem 1 (List.map eI64 l_3) 3, .box [.row 0 0 l_3.length] 28, .mem 14 (List.map eTGlyph y_1022) 32]) (by first | rfl | simp only [go_sem, reduceIte, Nat.reduceEqDiff, Nat.reduceAdd, e_2, e_6, e_10, e_14]) ?_
          refine CallK_go (by simp) ?_
          simp only [e_2, e_6, e_10, e_14, go_sem, reduceIte, reduceCtorEq, Nat.reduceEqDiff, Nat.reduceLT, Nat.reduceLeDiff, Nat.reduceAdd, Nat.reduceSub, Nat.reduceMul, Int.reduceToNat, Int.reduceLE, Int.reduceLT, Int.reduceAdd, Int.reduceSub, Int.reduceMul, Int.reduceEq, Int.reduceNeg]
          have g_0 := Option.some.inj h
          subst g_0
          rw [← hQ]
          exact ⟨rfl, _, rfl, _, _, (RefV.trans (RefV.frz (by simp) (id := 2) rfl (pures_map y_1022 eTGlyph (fun _ => rfl))) (RefV.trans (RefV.move (by simp) (id := 0) rfl rfl) (RefV.std [0] (by decide) (by decide) (by first | rfl | simp only [go_sem, reduceIte, Nat.reduceEqDiff, Nat.reduceAdd, e_2, e_6, e_10, e_14]) (by first | rfl | simp only [go_sem, reduceIte, Nat.reduceEqDiff, Nat.reduceAdd, e_2, e_6, e_10, e_14])))), rfl, rfl⟩
theorem law17_BufferStays_w (N : Nat) (l_0 : List TGlyph) (a_1 : Int) (c_0 : Bool) (z_1 : Bool) (h : law17_BufferStays N l_0 a_1 = some z_1) :
    ACalls Go.Proofs.Try.prog 5 [.vec c_0 (List.map eTGlyph l_0), .int .i64 a_1] [] (fun e H => H = [] ∧ e = .ret (.bool z_1)) := by
  unfold law17_BufferStays at h
  refine ACalls.goN Go.Proofs.Try.func5 n5 a5 Go.Proofs.Try.ntmps5 r5 (by simp) 0 rfl ?_
  generalize hQ : bodyA _ _ _ = QQ
  simp only [A5, go_sem, reduceIte, reduceCtorEq, Nat.reduceEqDiff, Nat.reduceLT, Nat.reduceLeDiff, Nat.reduceAdd, Nat.reduceSub, Nat.reduceMul, Int.reduceToNat, Int.reduceLE, Int.reduceLT, Int.reduceAdd, Int.reduceSub, Int.reduceMul, Int.reduceEq, Int.reduceNeg]
  refine ACalls.use0 alive17 rfl rfl ?_
  refine CallK_go (Nat.zero_le _) ?_
  simp only [go_sem, reduceIte, reduceCtorEq, Nat.reduceEqDiff, Nat.reduceLT, Nat.reduceLeDiff, Nat.reduceAdd, Nat.reduceSub, Nat.reduceMul, Int.reduceToNat, Int.reduceLE, Int.reduceLT, Int.reduceAdd, Int.reduceSub, Int.reduceMul, Int.reduceEq, Int.reduceNeg]
  by_cases h_1 : 100 < (l_0.length : Int)
  · rw [if_pos h_1] at h
    have e_2 : (100 < (l_0.length : Int)) = True := eq_true h_1
    simp only [e_2, go_sem, reduceIte, reduceCtorEq, Nat.reduceEqDiff, Nat.reduceLT, Nat.reduceLeDiff, Nat.reduceAdd, Nat.reduceSub, Nat.reduceMul, Int.reduceToNat, Int.reduceLE, Int.reduceLT, Int.reduceAdd, Int.reduceSub, Int.reduceMul, Int.reduceEq, Int.reduceNeg]
    have g_0 := Option.some.inj h
    subst g_0
    rw [← hQ]
    exact ⟨rfl, _, rfl, _, _, (RefV.out rfl), rfl, rfl⟩
  · rw [if_neg h_1] at h
    have e_2 : (100 < (l_0.length : Int)) = False := eq_false h_1
    simp only [e_2, go_sem, reduceIte, reduceCtorEq, Nat.reduceEqDiff, Nat.reduceLT, Nat.reduceLeDiff, Nat.reduceAdd, Nat.reduceSub, Nat.reduceMul, Int.reduceToNat, Int.reduceLE, Int.reduceLT, Int.reduceAdd, Int.reduceSub, Int.reduceMul, Int.reduceEq, Int.reduceNeg]
    obtain ⟨⟨y_1004, y_1005⟩, h_1003, h⟩ := bindS h
    try dsimp only at h
    refine ALp.ref (Ref.trans (Ref.thaw (Nat.zero_le _) 5 rfl (sz := 1) (by decide) 3) (Ref.trans (Ref.thaw (Nat.zero_le _) 6 rfl (sz := 1) (by decide) 3) (Ref.std [0, 1, 5, 6, 7] [0, 1] (by decide) low0 rfl (by first | rfl | simp only [go_sem, reduceIte, Nat.reduceEqDiff, Nat.reduceAdd])))) (Nat.zero_le _) (law17_BufferStays_L1_w N _ _ c_0 N _ _ _ _ h_1003 ?_)
    refine LoopK_go rfl (Nat.zero_le _) ?_
    simp only [e_2, go_sem, reduceIte, reduceCtorEq, Nat.reduceEqDiff, Nat.reduceLT, Nat.reduceLeDiff, Nat.reduceAdd, Nat.reduceSub, Nat.reduceMul, Int.reduceToNat, Int.reduceLE, Int.reduceLT, Int.reduceAdd, Int.reduceSub, Int.reduceMul, Int.reduceEq, Int.reduceNeg]
    by_cases h_1006 : 0 ≤ a_1
    · rw [if_pos h_1006] at h
      have e_1007 : (0 ≤ a_1) = True := eq_true h_1006
      simp only [e_2, e_1007, go_sem, reduceIte, reduceCtorEq, Nat.reduceEqDiff, Nat.reduceLT, Nat.reduceLeDiff, Nat.reduceAdd, Nat.reduceSub, Nat.reduceMul, Int.reduceToNat, Int.reduceLE, Int.reduceLT, Int.reduceAdd, Int.reduceSub, Int.reduceMul, Int.reduceEq, Int.reduceNeg]
      by_cases h_1008 : a_1 < (l_0.length : Int)
      · rw [if_pos h_1008] at h
        have e_1009 : (a_1 < (l_0.length : Int)) = True := eq_true h_1008
        obtain ⟨x_1010, h_1011, h⟩ := bindS h
        have e_1012 : (List.map eTGlyph l_0)[(a_1).toNat]? = some [.int .i64 x_1010.Id, .int .i64 x_1010.Cluster, .int .i64 x_1010.Mask, .int .i64 x_1010.Syl, .int .i32 x_1010.Code, .int .i64 x_1010.Cat, .int .i64 x_1010.Pos, .int .i64 x_1010.Key, .int .i64 x_1010.Lig, .int .i64 x_1010.Part, .int .i64 x_1010.X, .int .i64 x_1010.Y, .int .i64 x_1010.Wide, .int .i64 x_1010.High] := atI_map eTGlyph h_1011
        have e_1013 : ((0 : Int) ≤ a_1) = True := eq_true (atI_some h_1011).1
        have e_1014 : ((a_1 : Int) < (l_0.length : Int)) = True := eq_true (atI_lt h_1011)
        obtain ⟨y_1015, h_1016, h⟩ := bindS h
        simp only [e_2, e_1007, e_1009, e_1012, e_1013, e_1014, go_sem, reduceIte, reduceCtorEq, Nat.reduceEqDiff, Nat.reduceLT, Nat.reduceLeDiff, Nat.reduceAdd, Nat.reduceSub, Nat.reduceMul, Int.reduceToNat, Int.reduceLE, Int.reduceLT, Int.reduceAdd, Int.reduceSub, Int.reduceMul, Int.reduceEq, Int.reduceNeg]
        refine ACalls.use0 (buffer_Replace_w N _ _ _ _ _ _ _ h_1016) rfl rfl ?_
        refine CallK_go (Nat.zero_le _) ?_
        obtain ⟨y_1017, h_1018, h⟩ := bindS h
        simp only [e_2, e_1007, e_1009, e_1012, e_1013, e_1014, go_sem, reduceIte, reduceCtorEq, Nat.reduceEqDiff, Nat.reduceLT, Nat.reduceLeDiff, Nat.reduceAdd, Nat.reduceSub, Nat.reduceMul, Int.reduceToNat, Int.reduceLE, Int.reduceLT, Int.reduceAdd, Int.reduceSub, Int.reduceMul, Int.reduceEq, Int.reduceNeg]
        refine ACalls.use (buffer_Order_row_w N _ _ _ _ _ h_1018) [0] (by decide) ⟨(by first | rfl | simp only [go_sem, reduceIte, Nat.reduceEqDiff, Nat.reduceAdd, e_2, e_1007, e_1009]), trivial⟩ rfl (v' := .vec false (List.map eTGlyph y_1017)) (by first | rfl | simp only [go_sem, reduceIte, Nat.reduceEqDiff, Nat.reduceAdd, e_2, e_1007, e_1009]) (H' := [.mem 1 (List.map eI64 y_1004) 3, .mem 1 (List.map eI64 y_1005) 3]) (by first | rfl | simp only [go_sem, reduceIte, Nat.reduceEqDiff, Nat.reduceAdd, e_2, e_1007, e_1009]) ?_
        refine CallK_go (Nat.zero_le _) ?_
        obtain ⟨y_1019, h_1020, h⟩ := bindS h
        simp only [e_2, e_1007, e_1009, e_1012, e_1013, e_1014, go_sem, reduceIte, reduceCtorEq, Nat.reduceEqDiff, Nat.reduceLT, Nat.reduceLeDiff, Nat.reduceAdd, Nat.reduceSub, Nat.reduceMul, Int.reduceToNat, Int.reduceLE, Int.reduceLT, Int.reduceAdd, Int.reduceSub, Int.reduceMul, Int.reduceEq, Int.reduceNeg]
        refine ACalls.use0 (ref17_Same_w N _ _ _ _ _ h_1020) rfl rfl ?_
        refine CallK_go (Nat.zero_le _) ?_
        simp only [e_2, e_1007, e_1009, e_1012, e_1013, e_1014, go_sem, reduceIte, reduceCtorEq, Nat.reduceEqDiff, Nat.reduceLT, Nat.reduceLeDiff, Nat.reduceAdd, Nat.reduceSub, Nat.reduceMul, Int.reduceToNat, Int.reduceLE, Int.reduceLT, Int.reduceAdd, Int.reduceSub, Int.reduceMul, Int.reduceEq, Int.reduceNeg]
        by_cases h_1021 : y_1019 = true
        · rw [if_pos h_1021] at h
          have e_1022 : y_1019 = true := h_1021
          obtain ⟨y_1023, h_1024, h⟩ := bindS h
          simp only [e_2, e_1007, e_1009, e_1012, e_1013, e_1014, e_1022, go_sem, reduceIte, reduceCtorEq, Nat.reduceEqDiff, Nat.reduceLT, Nat.reduceLeDiff, Nat.reduceAdd, Nat.reduceSub, Nat.reduceMul, Int.reduceToNat, Int.reduceLE, Int.reduceLT, Int.reduceAdd, Int.reduceSub, Int.reduceMul, Int.reduceEq, Int.reduceNeg]
          refine ACalls.use (buffer_Sort_row_w N _ _ _ _ _ _ h_1024) [1] (by decide) ⟨(by first | rfl | simp only [go_sem, reduceIte, Nat.reduceEqDiff, Nat.reduceAdd, e_2, e_1007, e_1009, e_1022]), trivial⟩ rfl (v' := .vec false (List.map eTGlyph y_1023)) (by first | rfl | simp only [go_sem, reduceIte, Nat.reduceEqDiff, Nat.reduceAdd, e_2, e_1007, e_1009, e_1022]) (H' := [.mem 1 (List.map eI64 y_1004) 3, .dead]) (by first | rfl | simp only [go_sem, reduceIte, Nat.reduceEqDiff, Nat.reduceAdd, e_2, e_1007, e_1009, e_1022]) ?_
          refine CallK_go (Nat.zero_le _) ?_
          obtain ⟨y_1025, h_1026, h⟩ := bindS h
          simp only [e_2, e_1007, e_1009, e_1012, e_1013, e_1014, e_1022, go_sem, reduceIte, reduceCtorEq, Nat.reduceEqDiff, Nat.reduceLT, Nat.reduceLeDiff, Nat.reduceAdd, Nat.reduceSub, Nat.reduceMul, Int.reduceToNat, Int.reduceLE, Int.reduceLT, Int.reduceAdd, Int.reduceSub, Int.reduceMul, Int.reduceEq, Int.reduceNeg]
          refine ACalls.use0 (ref17_Same_w N _ _ _ _ _ h_1026) rfl rfl ?_
          refine CallK_go (Nat.zero_le _) ?_
          simp only [e_2, e_1007, e_1009, e_1012, e_1013, e_1014, e_1022, go_sem, reduceIte, reduceCtorEq, Nat.reduceEqDiff, Nat.reduceLT, Nat.reduceLeDiff, Nat.reduceAdd, Nat.reduceSub, Nat.reduceMul, Int.reduceToNat, Int.reduceLE, Int.reduceLT, Int.reduceAdd, Int.reduceSub, Int.reduceMul, Int.reduceEq, Int.reduceNeg]
          by_cases h_1027 : y_1025 = true
          · rw [if_pos h_1027] at h
            have e_1028 : y_1025 = true := h_1027
            obtain ⟨y_1029, h_1030, h⟩ := bindS h
            simp only [e_2, e_1007, e_1009, e_1012, e_1013, e_1014, e_1022, e_1028, go_sem, reduceIte, reduceCtorEq, Nat.reduceEqDiff, Nat.reduceLT, Nat.reduceLeDiff, Nat.reduceAdd, Nat.reduceSub, Nat.reduceMul, Int.reduceToNat, Int.reduceLE, Int.reduceLT, Int.reduceAdd, Int.reduceSub, Int.reduceMul, Int.reduceEq, Int.reduceNeg]
            refine ACalls.use0 (ref17_Same_w N _ _ _ _ _ h_1030) rfl rfl ?_
            refine CallK_go (Nat.zero_le _) ?_
            simp only [e_2, e_1007, e_1009, e_1012, e_1013, e_1014, e_1022, e_1028, go_sem, reduceIte, reduceCtorEq, Nat.reduceEqDiff, Nat.reduceLT, Nat.reduceLeDiff, Nat.reduceAdd, Nat.reduceSub, Nat.reduceMul, Int.reduceToNat, Int.reduceLE, Int.reduceLT, Int.reduceAdd, Int.reduceSub, Int.reduceMul, Int.reduceEq, Int.reduceNeg]
            by_cases h_1031 : y_1029 = true
            · rw [if_pos h_1031] at h
              have e_1032 : y_1029 = true := h_1031
              obtain ⟨y_1033, h_1034, h⟩ := bindS h
              simp only [e_2, e_1007, e_1009, e_1012, e_1013, e_1014, e_1022, e_1028, e_1032, go_sem, reduceIte, reduceCtorEq, Nat.reduceEqDiff, Nat.reduceLT, Nat.reduceLeDiff, Nat.reduceAdd, Nat.reduceSub, Nat.reduceMul, Int.reduceToNat, Int.reduceLE, Int.reduceLT, Int.reduceAdd, Int.reduceSub, Int.reduceMul, Int.reduceEq, Int.reduceNeg]
              refine ACalls.use (buffer_Blocks_row_w N _ _ h_1034) [0] (by decide) ⟨(by first | rfl | simp only [go_sem, reduceIte, Nat.reduceEqDiff, Nat.reduceAdd, e_2, e_1007, e_1009, e_1022, e_1028, e_1032]), trivial⟩ rfl (v' := .vec false (List.map eTArr2_I64 y_1033)) (by first | rfl | simp only [go_sem, reduceIte, Nat.reduceEqDiff, Nat.reduceAdd, e_2, e_1007, e_1009, e_1022, e_1028, e_1032]) (H' := [.mem 1 (List.map eI64 y_1004) 3, .dead]) (by first | rfl | simp only [go_sem, reduceIte, Nat.reduceEqDiff, Nat.reduceAdd, e_2, e_1007, e_1009, e_1022, e_1028, e_1032]) ?_
              refine CallK_go (Nat.zero_le _) ?_
              simp only [e_2, e_1007, e_1009, e_1012, e_1013, e_1014, e_1022, e_1028, e_1032, go_sem, reduceIte, reduceCtorEq, Nat.reduceEqDiff, Nat.reduceLT, Nat.reduceLeDiff, Nat.reduceAdd, Nat.reduceSub, Nat.reduceMul, Int.reduceToNat, Int.reduceLE, Int.reduceLT, Int.reduceAdd, Int.reduceSub, Int.reduceMul, Int.reduceEq, Int.reduceNeg]
              have g_0 := Option.some.inj h
              subst g_0
              rw [← hQ]
              exact ⟨rfl, _, rfl, _, _, (RefV.out (by first | rfl | simp only [go_sem, reduceIte, Nat.reduceEqDiff, Nat.reduceAdd, e_2, e_1007, e_1009, e_1022, e_1028, e_1032])), rfl, rfl⟩
            · rw [if_neg h_1031] at h
              have e_1032 : y_1029 = false := bfalse h_1031
              simp only [e_2, e_1007, e_1009, e_1012, e_1013, e_1014, e_1022, e_1028, e_1032, go_sem, reduceIte, reduceCtorEq, Nat.reduceEqDiff, Nat.reduceLT, Nat.reduceLeDiff, Nat.reduceAdd, Nat.reduceSub, Nat.reduceMul, Int.reduceToNat, Int.reduceLE, Int.reduceLT, Int.reduceAdd, Int.reduceSub, Int.reduceMul, Int.reduceEq, Int.reduceNeg]
              have g_0 := Option.some.inj h
              subst g_0
              rw [← hQ]
              exact ⟨rfl, _, rfl, _, _, (RefV.out rfl), rfl, rfl⟩
          · rw [if_neg h_1027] at h
            have e_1028 : y_1025 = false := bfalse h_1027
            simp only [e_2, e_1007, e_1009, e_1012, e_1013, e_1014, e_1022, e_1028, go_sem, reduceIte, reduceCtorEq, Nat.reduceEqDiff, Nat.reduceLT, Nat.reduceLeDiff, Nat.reduceAdd, Nat.reduceSub, Nat.reduceMul, Int.reduceToNat, Int.reduceLE, Int.reduceLT, Int.reduceAdd, Int.reduceSub, Int.reduceMul, Int.reduceEq, Int.reduceNeg]
            have g_0 := Option.some.inj h
            subst g_0
            rw [← hQ]
            exact ⟨rfl, _, rfl, _, _, (RefV.out rfl), rfl, rfl⟩
        · rw [if_neg h_1021] at h
          have e_1022 : y_1019 = false := bfalse h_1021
          simp only [e_2, e_1007, e_1009, e_1012, e_1013, e_1014, e_1022, go_sem, reduceIte, reduceCtorEq, Nat.reduceEqDiff, Nat.reduceLT, Nat.reduceLeDiff, Nat.reduceAdd, Nat.reduceSub, Nat.reduceMul, Int.reduceToNat, Int.reduceLE, Int.reduceLT, Int.reduceAdd, Int.reduceSub, Int.reduceMul, Int.reduceEq, Int.reduceNeg]
          have g_0 := Option.some.inj h
          subst g_0
          rw [← hQ]
          exact ⟨rfl, _, rfl, _, _, (RefV.out rfl), rfl, rfl⟩
      · rw [if_neg h_1008] at h
        have e_1009 : (a_1 < (l_0.length : Int)) = False := eq_false h_1008
        obtain ⟨y_1035, h_1036, h⟩ := bindS h
        simp only [e_2, e_1007, e_1009, go_sem, reduceIte, reduceCtorEq, Nat.reduceEqDiff, Nat.reduceLT, Nat.reduceLeDiff, Nat.reduceAdd, Nat.reduceSub, Nat.reduceMul, Int.reduceToNat, Int.reduceLE, Int.reduceLT, Int.reduceAdd, Int.reduceSub, Int.reduceMul, Int.reduceEq, Int.reduceNeg]
        refine ACalls.use (buffer_Order_row_w N _ _ _ _ _ h_1036) [0] (by decide) ⟨(by first | rfl | simp only [go_sem, reduceIte, Nat.reduceEqDiff, Nat.reduceAdd, e_2, e_1007, e_1009]), trivial⟩ rfl (v' := .vec false (List.map eTGlyph y_1035)) (by first | rfl | simp only [go_sem, reduceIte, Nat.reduceEqDiff, Nat.reduceAdd, e_2, e_1007, e_1009]) (H' := [.mem 1 (List.map eI64 y_1004) 3, .mem 1 (List.map eI64 y_1005) 3]) (by first | rfl | simp only [go_sem, reduceIte, Nat.reduceEqDiff, Nat.reduceAdd, e_2, e_1007, e_1009]) ?_
        refine CallK_go (Nat.zero_le _) ?_
        obtain ⟨y_1037, h_1038, h⟩ := bindS h
        simp only [e_2, e_1007, e_1009, go_sem, reduceIte, reduceCtorEq, Nat.reduceEqDiff, Nat.reduceLT, Nat.reduceLeDiff, Nat.reduceAdd, Nat.reduceSub, Nat.reduceMul, Int.reduceToNat, Int.reduceLE, Int.reduceLT, Int.reduceAdd, Int.reduceSub, Int.reduceMul, Int.reduceEq, Int.reduceNeg]
        refine ACalls.use0 (ref17_Same_w N _ _ _ _ _ h_1038) rfl rfl ?_
        refine CallK_go (Nat.zero_le _) ?_
        simp only [e_2, e_1007, e_1009, go_sem, reduceIte, reduceCtorEq, Nat.reduceEqDiff, Nat.reduceLT, Nat.reduceLeDiff, Nat.reduceAdd, Nat.reduceSub, Nat.reduceMul, Int.reduceToNat, Int.reduceLE, Int.reduceLT, Int.reduceAdd, Int.reduceSub, Int.reduceMul, Int.reduceEq, Int.reduceNeg]
        by_cases h_1039 : y_1037 = true
        · rw [if_pos h_1039] at h
          have e_1040 : y_1037 = true := h_1039
          obtain ⟨y_1041, h_1042, h⟩ := bindS h
          simp only [e_2, e_1007, e_1009, e_1040, go_sem, reduceIte, reduceCtorEq, Nat.reduceEqDiff, Nat.reduceLT, Nat.reduceLeDiff, Nat.reduceAdd, Nat.reduceSub, Nat.reduceMul, Int.reduceToNat, Int.reduceLE, Int.reduceLT, Int.reduceAdd, Int.reduceSub, Int.reduceMul, Int.reduceEq, Int.reduceNeg]
          refine ACalls.use (buffer_Sort_row_w N _ _ _ _ _ _ h_1042) [1] (by decide) ⟨(by first | rfl | simp only [go_sem, reduceIte, Nat.reduceEqDiff, Nat.reduceAdd, e_2, e_1007, e_1009, e_1040]), trivial⟩ rfl (v' := .vec false (List.map eTGlyph y_1041)) (by first | rfl | simp only [go_sem, reduceIte, Nat.reduceEqDiff, Nat.reduceAdd, e_2, e_1007, e_1009, e_1040]) (H' := [.mem 1 (List.map eI64 y_1004) 3, .dead]) (by first | rfl | simp only [go_sem, reduceIte, Nat.reduceEqDiff, Nat.reduceAdd, e_2, e_1007, e_1009, e_1040]) ?_
          refine CallK_go (Nat.zero_le _) ?_
          obtain ⟨y_1043, h_1044, h⟩ := bindS h
          simp only [e_2, e_1007, e_1009, e_1040, go_sem, reduceIte, reduceCtorEq, Nat.reduceEqDiff, Nat.reduceLT, Nat.reduceLeDiff, Nat.reduceAdd, Nat.reduceSub, Nat.reduceMul, Int.reduceToNat, Int.reduceLE, Int.reduceLT, Int.reduceAdd, Int.reduceSub, Int.reduceMul, Int.reduceEq, Int.reduceNeg]
          refine ACalls.use0 (ref17_Same_w N _ _ _ _ _ h_1044) rfl rfl ?_
          refine CallK_go (Nat.zero_le _) ?_
          simp only [e_2, e_1007, e_1009, e_1040, go_sem, reduceIte, reduceCtorEq, Nat.reduceEqDiff, Nat.reduceLT, Nat.reduceLeDiff, Nat.reduceAdd, Nat.reduceSub, Nat.reduceMul, Int.reduceToNat, Int.reduceLE, Int.reduceLT, Int.reduceAdd, Int.reduceSub, Int.reduceMul, Int.reduceEq, Int.reduceNeg]
          by_cases h_1045 : y_1043 = true
          · rw [if_pos h_1045] at h
            have e_1046 : y_1043 = true := h_1045
            obtain ⟨y_1047, h_1048, h⟩ := bindS h
            simp only [e_2, e_1007, e_1009, e_1040, e_1046, go_sem, reduceIte, reduceCtorEq, Nat.reduceEqDiff, Nat.reduceLT, Nat.reduceLeDiff, Nat.reduceAdd, Nat.reduceSub, Nat.reduceMul, Int.reduceToNat, Int.reduceLE, Int.reduceLT, Int.reduceAdd, Int.reduceSub, Int.reduceMul, Int.reduceEq, Int.reduceNeg]
            refine ACalls.use0 (ref17_Same_w N _ _ _ _ _ h_1048) rfl rfl ?_
            refine CallK_go (Nat.zero_le _) ?_
            simp only [e_2, e_1007, e_1009, e_1040, e_1046, go_sem, reduceIte, reduceCtorEq, Nat.reduceEqDiff, Nat.reduceLT, Nat.reduceLeDiff, Nat.reduceAdd, Nat.reduceSub, Nat.reduceMul, Int.reduceToNat, Int.reduceLE, Int.reduceLT, Int.reduceAdd, Int.reduceSub, Int.reduceMul, Int.reduceEq, Int.reduceNeg]
            by_cases h_1049 : y_1047 = true
            · rw [if_pos h_1049] at h
              have e_1050 : y_1047 = true := h_1049
              obtain ⟨y_1051, h_1052, h⟩ := bindS h
              simp only [e_2, e_1007, e_1009, e_1040, e_1046, e_1050, go_sem, reduceIte, reduceCtorEq, Nat.reduceEqDiff, Nat.reduceLT, Nat.reduceLeDiff, Nat.reduceAdd, Nat.reduceSub, Nat.reduceMul, Int.reduceToNat, Int.reduceLE, Int.reduceLT, Int.reduceAdd, Int.reduceSub, Int.reduceMul, Int.reduceEq, Int.reduceNeg]
              refine ACalls.use (buffer_Blocks_row_w N _ _ h_1052) [0] (by decide) ⟨(by first | rfl | simp only [go_sem, reduceIte, Nat.reduceEqDiff, Nat.reduceAdd, e_2, e_1007, e_1009, e_1040, e_1046, e_1050]), trivial⟩ rfl (v' := .vec false (List.map eTArr2_I64 y_1051)) (by first | rfl | simp only [go_sem, reduceIte, Nat.reduceEqDiff, Nat.reduceAdd, e_2, e_1007, e_1009, e_1040, e_1046, e_1050]) (H' := [.mem 1 (List.map eI64 y_1004) 3, .dead]) (by first | rfl | simp only [go_sem, reduceIte, Nat.reduceEqDiff, Nat.reduceAdd, e_2, e_1007, e_1009, e_1040, e_1046, e_1050]) ?_
              refine CallK_go (Nat.zero_le _) ?_
              simp only [e_2, e_1007, e_1009, e_1040, e_1046, e_1050, go_sem, reduceIte, reduceCtorEq, Nat.reduceEqDiff, Nat.reduceLT, Nat.reduceLeDiff, Nat.reduceAdd, Nat.reduceSub, Nat.reduceMul, Int.reduceToNat, Int.reduceLE, Int.reduceLT, Int.reduceAdd, Int.reduceSub, Int.reduceMul, Int.reduceEq, Int.reduceNeg]
              have g_0 := Option.some.inj h
              subst g_0
              rw [← hQ]
              exact ⟨rfl, _, rfl, _, _, (RefV.out (by first | rfl | simp only [go_sem, reduceIte, Nat.reduceEqDiff, Nat.reduceAdd, e_2, e_1007, e_1009, e_1040, e_1046, e_1050])), rfl, rfl⟩
            · rw [if_neg h_1049] at h
              have e_1050 : y_1047 = false := bfalse h_1049
              simp only [e_2, e_1007, e_1009, e_1040, e_1046, e_1050, go_sem, reduceIte, reduceCtorEq, Nat.reduceEqDiff, Nat.reduceLT, Nat.reduceLeDiff, Nat.reduceAdd, Nat.reduceSub, Nat.reduceMul, Int.reduceToNat, Int.reduceLE, Int.reduceLT, Int.reduceAdd, Int.reduceSub, Int.reduceMul, Int.reduceEq, Int.reduceNeg]
              have g_0 := Option.some.inj h
              subst g_0
              rw [← hQ]
              exact ⟨rfl, _, rfl, _, _, (RefV.out rfl), rfl, rfl⟩
          · rw [if_neg h_1045] at h
            have e_1046 : y_1043 = false := bfalse h_1045
            simp only [e_2, e_1007, e_1009, e_1040, e_1046, go_sem, reduceIte, reduceCtorEq, Nat.reduceEqDiff, Nat.reduceLT, Nat.reduceLeDiff, Nat.reduceAdd, Nat.reduceSub, Nat.reduceMul, Int.reduceToNat, Int.reduceLE, Int.reduceLT, Int.reduceAdd, Int.reduceSub, Int.reduceMul, Int.reduceEq, Int.reduceNeg]
            have g_0 := Option.some.inj h
            subst g_0
            rw [← hQ]
            exact ⟨rfl, _, rfl, _, _, (RefV.out rfl), rfl, rfl⟩
        · rw [if_neg h_1039] at h
          have e_1040 : y_1037 = false := bfalse h_1039
          simp only [e_2, e_1007, e_1009, e_1040, go_sem, reduceIte, reduceCtorEq, Nat.reduceEqDiff, Nat.reduceLT, Nat.reduceLeDiff, Nat.reduceAdd, Nat.reduceSub, Nat.reduceMul, Int.reduceToNat, Int.reduceLE, Int.reduceLT, Int.reduceAdd, Int.reduceSub, Int.reduceMul, Int.reduceEq, Int.reduceNeg]
          have g_0 := Option.some.inj h
          subst g_0
          rw [← hQ]
          exact ⟨rfl, _, rfl, _, _, (RefV.out rfl), rfl, rfl⟩
    · rw [if_neg h_1006] at h
      have e_1007 : (0 ≤ a_1) = False := eq_false h_1006
      obtain ⟨y_1053, h_1054, h⟩ := bindS h
      simp only [e_2, e_1007, go_sem, reduceIte, reduceCtorEq, Nat.reduceEqDiff, Nat.reduceLT, Nat.reduceLeDiff, Nat.reduceAdd, Nat.reduceSub, Nat.reduceMul, Int.reduceToNat, Int.reduceLE, Int.reduceLT, Int.reduceAdd, Int.reduceSub, Int.reduceMul, Int.reduceEq, Int.reduceNeg]
      refine ACalls.use (buffer_Order_row_w N _ _ _ _ _ h_1054) [0] (by decide) ⟨(by first | rfl | simp only [go_sem, reduceIte, Nat.reduceEqDiff, Nat.reduceAdd, e_2, e_1007]), trivial⟩ rfl (v' := .vec false (List.map eTGlyph y_1053)) (by first | rfl | simp only [go_sem, reduceIte, Nat.reduceEqDiff, Nat.reduceAdd, e_2, e_1007]) (H' := [.mem 1 (List.map eI64 y_1004) 3, .mem 1 (List.map eI64 y_1005) 3]) (by first | rfl | simp only [go_sem, reduceIte, Nat.reduceEqDiff, Nat.reduceAdd, e_2, e_1007]) ?_
      refine CallK_go (Nat.zero_le _) ?_
      obtain ⟨y_1055, h_1056, h⟩ := bindS h
      simp only [e_2, e_1007, go_sem, reduceIte, reduceCtorEq, Nat.reduceEqDiff, Nat.reduceLT, Nat.reduceLeDiff, Nat.reduceAdd, Nat.reduceSub, Nat.reduceMul, Int.reduceToNat, Int.reduceLE, Int.reduceLT, Int.reduceAdd, Int.reduceSub, Int.reduceMul, Int.reduceEq, Int.reduceNeg]
      refine ACalls.use0 (ref17_Same_w N _ _ _ _ _ h_1056) rfl rfl ?_
      refine CallK_go (Nat.zero_le _) ?_
      simp only [e_2, e_1007, go_sem, reduceIte, reduceCtorEq, Nat.reduceEqDiff, Nat.reduceLT, Nat.reduceLeDiff, Nat.reduceAdd, Nat.reduceSub, Nat.reduceMul, Int.reduceToNat, Int.reduceLE, Int.reduceLT, Int.reduceAdd, Int.reduceSub, Int.reduceMul, Int.reduceEq, Int.reduceNeg]
      by_cases h_1057 : y_1055 = true
      · rw [if_pos h_1057] at h
        have e_1058 : y_1055 = true := h_1057
        obtain ⟨y_1059, h_1060, h⟩ := bindS h
        simp only [e_2, e_1007, e_1058, go_sem, reduceIte, reduceCtorEq, Nat.reduceEqDiff, Nat.reduceLT, Nat.reduceLeDiff, Nat.reduceAdd, Nat.reduceSub, Nat.reduceMul, Int.reduceToNat, Int.reduceLE, Int.reduceLT, Int.reduceAdd, Int.reduceSub, Int.reduceMul, Int.reduceEq, Int.reduceNeg]
        refine ACalls.use (buffer_Sort_row_w N _ _ _ _ _ _ h_1060) [1] (by decide) ⟨(by first | rfl | simp only [go_sem, reduceIte, Nat.reduceEqDiff, Nat.reduceAdd, e_2, e_1007, e_1058]), trivial⟩ rfl (v' := .vec false (List.map eTGlyph y_1059)) (by first | rfl | simp only [go_sem, reduceIte, Nat.reduceEqDiff, Nat.reduceAdd, e_2, e_1007, e_1058]) (H' := [.mem 1 (List.map eI64 y_1004) 3, .dead]) (by first | rfl | simp only [go_sem, reduceIte, Nat.reduceEqDiff, Nat.reduceAdd, e_2, e_1007, e_1058]) ?_
        refine CallK_go (Nat.zero_le _) ?_
        obtain ⟨y_1061, h_1062, h⟩ := bindS h
        simp only [e_2, e_1007, e_1058, go_sem, reduceIte, reduceCtorEq, Nat.reduceEqDiff, Nat.reduceLT, Nat.reduceLeDiff, Nat.reduceAdd, Nat.reduceSub, Nat.reduceMul, Int.reduceToNat, Int.reduceLE, Int.reduceLT, Int.reduceAdd, Int.reduceSub, Int.reduceMul, Int.reduceEq, Int.reduceNeg]
        refine ACalls.use0 (ref17_Same_w N _ _ _ _ _ h_1062) rfl rfl ?_
        refine CallK_go (Nat.zero_le _) ?_
        simp only [e_2, e_1007, e_1058, go_sem, reduceIte, reduceCtorEq, Nat.reduceEqDiff, Nat.reduceLT, Nat.reduceLeDiff, Nat.reduceAdd, Nat.reduceSub, Nat.reduceMul, Int.reduceToNat, Int.reduceLE, Int.reduceLT, Int.reduceAdd, Int.reduceSub, Int.reduceMul, Int.reduceEq, Int.reduceNeg]
        by_cases h_1063 : y_1061 = true
        · rw [if_pos h_1063] at h
          have e_1064 : y_1061 = true := h_1063
          obtain ⟨y_1065, h_1066, h⟩ := bindS h
          simp only [e_2, e_1007, e_1058, e_1064, go_sem, reduceIte, reduceCtorEq, Nat.reduceEqDiff, Nat.reduceLT, Nat.reduceLeDiff, Nat.reduceAdd, Nat.reduceSub, Nat.reduceMul, Int.reduceToNat, Int.reduceLE, Int.reduceLT, Int.reduceAdd, Int.reduceSub, Int.reduceMul, Int.reduceEq, Int.reduceNeg]
          refine ACalls.use0 (ref17_Same_w N _ _ _ _ _ h_1066) rfl rfl ?_
          refine CallK_go (Nat.zero_le _) ?_
          simp only [e_2, e_1007, e_1058, e_1064, go_sem, reduceIte, reduceCtorEq, Nat.reduceEqDiff, Nat.reduceLT, Nat.reduceLeDiff, Nat.reduceAdd, Nat.reduceSub, Nat.reduceMul, Int.reduceToNat, Int.reduceLE, Int.reduceLT, Int.reduceAdd, Int.reduceSub, Int.reduceMul, Int.reduceEq, Int.reduceNeg]
          by_cases h_1067 : y_1065 = true
          · rw [if_pos h_1067] at h
            have e_1068 : y_1065 = true := h_1067
            obtain ⟨y_1069, h_1070, h⟩ := bindS h
            simp only [e_2, e_1007, e_1058, e_1064, e_1068, go_sem, reduceIte, reduceCtorEq, Nat.reduceEqDiff, Nat.reduceLT, Nat.reduceLeDiff, Nat.reduceAdd, Nat.reduceSub, Nat.reduceMul, Int.reduceToNat, Int.reduceLE, Int.reduceLT, Int.reduceAdd, Int.reduceSub, Int.reduceMul, Int.reduceEq, Int.reduceNeg]
            refine ACalls.use (buffer_Blocks_row_w N _ _ h_1070) [0] (by decide) ⟨(by first | rfl | simp only [go_sem, reduceIte, Nat.reduceEqDiff, Nat.reduceAdd, e_2, e_1007, e_1058, e_1064, e_1068]), trivial⟩ rfl (v' := .vec false (List.map eTArr2_I64 y_1069)) (by first | rfl | simp only [go_sem, reduceIte, Nat.reduceEqDiff, Nat.reduceAdd, e_2, e_1007, e_1058, e_1064, e_1068]) (H' := [.mem 1 (List.map eI64 y_1004) 3, .dead]) (by first | rfl | simp only [go_sem, reduceIte, Nat.reduceEqDiff, Nat.reduceAdd, e_2, e_1007, e_1058, e_1064, e_1068]) ?_
            refine CallK_go (Nat.zero_le _) ?_
            simp only [e_2, e_1007, e_1058, e_1064, e_1068, go_sem, reduceIte, reduceCtorEq, Nat.reduceEqDiff, Nat.reduceLT, Nat.reduceLeDiff, Nat.reduceAdd, Nat.reduceSub, Nat.reduceMul, Int.reduceToNat, Int.reduceLE, Int.reduceLT, Int.reduceAdd, Int.reduceSub, Int.reduceMul, Int.reduceEq, Int.reduceNeg]
            have g_0 := Option.some.inj h
            subst g_0
            rw [← hQ]
            exact ⟨rfl, _, rfl, _, _, (RefV.out (by first | rfl | simp only [go_sem, reduceIte, Nat.reduceEqDiff, Nat.reduceAdd, e_2, e_1007, e_1058, e_1064, e_1068])), rfl, rfl⟩
          · rw [if_neg h_1067] at h
            have e_1068 : y_1065 = false := bfalse h_1067
            simp only [e_2, e_1007, e_1058, e_1064, e_1068, go_sem, reduceIte, reduceCtorEq, Nat.reduceEqDiff, Nat.reduceLT, Nat.reduceLeDiff, Nat.reduceAdd, Nat.reduceSub, Nat.reduceMul, Int.reduceToNat, Int.reduceLE, Int.reduceLT, Int.reduceAdd, Int.reduceSub, Int.reduceMul, Int.reduceEq, Int.reduceNeg]
            have g_0 := Option.some.inj h
            subst g_0
            rw [← hQ]
            exact ⟨rfl, _, rfl, _, _, (RefV.out rfl), rfl, rfl⟩
        · rw [if_neg h_1063] at h
          have e_1064 : y_1061 = false := bfalse h_1063
          simp only [e_2, e_1007, e_1058, e_1064, go_sem, reduceIte, reduceCtorEq, Nat.reduceEqDiff, Nat.reduceLT, Nat.reduceLeDiff, Nat.reduceAdd, Nat.reduceSub, Nat.reduceMul, Int.reduceToNat, Int.reduceLE, Int.reduceLT, Int.reduceAdd, Int.reduceSub, Int.reduceMul, Int.reduceEq, Int.reduceNeg]
          have g_0 := Option.some.inj h
          subst g_0
          rw [← hQ]
          exact ⟨rfl, _, rfl, _, _, (RefV.out rfl), rfl, rfl⟩
      · rw [if_neg h_1057] at h
        have e_1058 : y_1055 = false := bfalse h_1057
        simp only [e_2, e_1007, e_1058, go_sem, reduceIte, reduceCtorEq, Nat.reduceEqDiff, Nat.reduceLT, Nat.reduceLeDiff, Nat.reduceAdd, Nat.reduceSub, Nat.reduceMul, Int.reduceToNat, Int.reduceLE, Int.reduceLT, Int.reduceAdd, Int.reduceSub, Int.reduceMul, Int.reduceEq, Int.reduceNeg]
        have g_0 := Option.some.inj h
        subst g_0
        rw [← hQ]
        exact ⟨rfl, _, rfl, _, _, (RefV.out rfl), rfl, rfl⟩
end Go.Proofs.Ytjdnbdhdpcnikaa.AI
