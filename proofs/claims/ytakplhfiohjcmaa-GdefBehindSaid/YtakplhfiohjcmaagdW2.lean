/- Walks, further ones. -/
import Derived.Test.YtakplhfiohjcmaagdW1
set_option linter.unusedVariables false
set_option linter.unusedSimpArgs false
set_option maxRecDepth 100000
set_option maxHeartbeats 1000000
namespace Go.Proofs.Ytakplhfiohjcmaa.AI
open Go.Proofs (Try.prog)
attribute [local go_sem] subs_eU8 subs_eI64 subs_eTClass subs_eTArr3_I64 subs_eTSpan subs_eLTSpan subs_eTGroup subs_eB
theorem gdef_list_wide_nil_w (N : Nat) (a_0 : Int) (l_1 : List Int) (a_2 : Int) (c_0 : Bool) (z_1 : Bool) (z_2 : List TGroup) (h : gdef_list_wide_nil N a_0 l_1 a_2 = some (z_1, z_2)) :
    ACalls Go.Proofs.Try.prog 75 [.ptr 0 0 0, .vec c_0 (List.map eU8 l_1), .int .i64 a_2] [.box [.vec true [], .int .i64 a_0] 113] (fun e H => H = [.box [.row 1 0 z_2.length, .int .i64 a_0] 113, .mem 3 (List.map eTGroup z_2) 76] ∧ e = .ret (.bool z_1)) := by
  unfold gdef_list_wide_nil at h
  refine ACalls.goN Go.Proofs.Try.func75 n75 a75 Go.Proofs.Try.ntmps75 r75 (by simp) 1 rfl ?_
  generalize hQ : bodyA _ _ _ = QQ
  obtain ⟨⟨y_1, y_2⟩, h_3, h⟩ := bindS h
  try dsimp only at h
  simp only [A75, go_sem, reduceIte, reduceCtorEq, Nat.reduceEqDiff, Nat.reduceLT, Nat.reduceLeDiff, Nat.reduceAdd, Nat.reduceSub, Nat.reduceMul, Int.reduceToNat, Int.reduceLE, Int.reduceLT, Int.reduceAdd, Int.reduceSub, Int.reduceMul, Int.reduceEq, Int.reduceNeg]
  refine ACalls.use0 (octet_U32_w N _ _ _ _ _ h_3) rfl rfl ?_
  refine CallK_go (by simp) ?_
  simp only [go_sem, reduceIte, reduceCtorEq, Nat.reduceEqDiff, Nat.reduceLT, Nat.reduceLeDiff, Nat.reduceAdd, Nat.reduceSub, Nat.reduceMul, Int.reduceToNat, Int.reduceLE, Int.reduceLT, Int.reduceAdd, Int.reduceSub, Int.reduceMul, Int.reduceEq, Int.reduceNeg]
  by_cases h_4 : y_2 = true
  · rw [if_pos h_4] at h
    have e_5 : y_2 = true := h_4
    simp only [e_5, go_sem, reduceIte, reduceCtorEq, Nat.reduceEqDiff, Nat.reduceLT, Nat.reduceLeDiff, Nat.reduceAdd, Nat.reduceSub, Nat.reduceMul, Int.reduceToNat, Int.reduceLE, Int.reduceLT, Int.reduceAdd, Int.reduceSub, Int.reduceMul, Int.reduceEq, Int.reduceNeg]
    by_cases h_6 : 5000 < y_1
    · rw [if_pos h_6] at h
      have e_7 : (5000 < y_1) = True := eq_true h_6
      simp only [e_5, e_7, go_sem, reduceIte, reduceCtorEq, Nat.reduceEqDiff, Nat.reduceLT, Nat.reduceLeDiff, Nat.reduceAdd, Nat.reduceSub, Nat.reduceMul, Int.reduceToNat, Int.reduceLE, Int.reduceLT, Int.reduceAdd, Int.reduceSub, Int.reduceMul, Int.reduceEq, Int.reduceNeg]
      have g_0 := Option.some.inj h
      obtain ⟨k_1, g_1⟩ := Prod.mk.inj g_0
      subst k_1
      subst g_1
      rw [← hQ]
      exact ⟨rfl, _, rfl, _, _, (RefV.trans (RefV.thawB (by simp) (id := 0) 0 rfl rfl (sz := 3) (by decide) 76) (RefV.std [0, 1] (by decide) (by decide) rfl (by first | rfl | simp only [go_sem, reduceIte, Nat.reduceEqDiff, Nat.reduceAdd, e_5, e_7]))), rfl, rfl⟩
    · rw [if_neg h_6] at h
      have e_7 : (5000 < y_1) = False := eq_false h_6
      obtain ⟨⟨y_8, y_9⟩, h_10, h⟩ := bindS h
      try dsimp only at h
      simp only [e_5, e_7, go_sem, reduceIte, reduceCtorEq, Nat.reduceEqDiff, Nat.reduceLT, Nat.reduceLeDiff, Nat.reduceAdd, Nat.reduceSub, Nat.reduceMul, Int.reduceToNat, Int.reduceLE, Int.reduceLT, Int.reduceAdd, Int.reduceSub, Int.reduceMul, Int.reduceEq, Int.reduceNeg]
      refine ACalls.use0 (octet_Row_w N _ _ _ _ _ _ _ h_10) rfl rfl ?_
      refine CallK_go (by simp) ?_
      simp only [e_5, e_7, go_sem, reduceIte, reduceCtorEq, Nat.reduceEqDiff, Nat.reduceLT, Nat.reduceLeDiff, Nat.reduceAdd, Nat.reduceSub, Nat.reduceMul, Int.reduceToNat, Int.reduceLE, Int.reduceLT, Int.reduceAdd, Int.reduceSub, Int.reduceMul, Int.reduceEq, Int.reduceNeg]
      obtain ⟨o_1014, h_1011, h⟩ := bindS h
      refine ALp.ref (Ref.trans (Ref.thawB (by simp) (id := 0) 0 rfl rfl (sz := 3) (by decide) 76) (Ref.std [0, 9, 10, 11, 12] [0, 1] (by decide) (by decide) (by first | rfl | simp only [go_sem, reduceIte, Nat.reduceEqDiff, Nat.reduceAdd, e_5, e_7]) (by first | rfl | simp only [go_sem, reduceIte, Nat.reduceEqDiff, Nat.reduceAdd]))) (by simp) (gdef_list_wide_nil_L1_w N _ _ _ N _ _ _ o_1014 h_1011 ?_)
      rcases o_1014 with y_1012 | y_1013
      · try dsimp only at h
        refine LoopK_go rfl (by simp) ?_
        simp only [e_5, e_7, go_sem, reduceIte, reduceCtorEq, Nat.reduceEqDiff, Nat.reduceLT, Nat.reduceLeDiff, Nat.reduceAdd, Nat.reduceSub, Nat.reduceMul, Int.reduceToNat, Int.reduceLE, Int.reduceLT, Int.reduceAdd, Int.reduceSub, Int.reduceMul, Int.reduceEq, Int.reduceNeg]
        have g_0 := Option.some.inj h
        obtain ⟨k_1, g_1⟩ := Prod.mk.inj g_0
        subst k_1
        subst g_1
        rw [← hQ]
        exact ⟨rfl, _, rfl, _, _, (RefV.std [0, 1] (by decide) (by decide) (by first | rfl | simp only [go_sem, reduceIte, Nat.reduceEqDiff, Nat.reduceAdd, e_5, e_7]) (by first | rfl | simp only [go_sem, reduceIte, Nat.reduceEqDiff, Nat.reduceAdd, e_5, e_7])), rfl, rfl⟩
      · try dsimp only at h
        refine LoopK_ret ?_
        have g_0 := Option.some.inj h
        obtain ⟨k_1, g_1⟩ := Prod.mk.inj g_0
        subst k_1
        subst g_1
        rw [← hQ]
        exact ⟨rfl, _, rfl, _, _, (RefV.std [0, 1] (by decide) (by decide) rfl (by first | rfl | simp only [go_sem, reduceIte, Nat.reduceEqDiff, Nat.reduceAdd, e_5, e_7])), rfl, rfl⟩
  · rw [if_neg h_4] at h
    have e_5 : y_2 = false := bfalse h_4
    simp only [e_5, go_sem, reduceIte, reduceCtorEq, Nat.reduceEqDiff, Nat.reduceLT, Nat.reduceLeDiff, Nat.reduceAdd, Nat.reduceSub, Nat.reduceMul, Int.reduceToNat, Int.reduceLE, Int.reduceLT, Int.reduceAdd, Int.reduceSub, Int.reduceMul, Int.reduceEq, Int.reduceNeg]
    have g_0 := Option.some.inj h
    obtain ⟨k_1, g_1⟩ := Prod.mk.inj g_0
    subst k_1
    subst g_1
    rw [← hQ]
    exact ⟨rfl, _, rfl, _, _, (RefV.trans (RefV.thawB (by simp) (id := 0) 0 rfl rfl (sz := 3) (by decide) 76) (RefV.std [0, 1] (by decide) (by decide) rfl (by first | rfl | simp only [go_sem, reduceIte, Nat.reduceEqDiff, Nat.reduceAdd, e_5]))), rfl, rfl⟩
theorem gdef_list_narrow_row_L1_w (N : Nat) (l_2 : List Int) (a_1 : Int) (a_3 : Int) (a_4 : Int) (a_5 : Int) (a_6 : Int) (a_7 : Int) (c_0 : Bool) {R : AExit → ATm → List AObj → Prop} : ∀ (n : Nat) (i_1 : Int) (s_2 : List TGroup) (o : ((List TGroup)) ⊕ ((List TGroup))), gdef_list_narrow_row_L1 N l_2 a_1 a_3 a_4 a_5 a_6 a_7 n i_1 s_2 = some o → (match o with | .inl z_1 => R (.exit 0) ⟨56, [], []⟩ [.box [.row 2 0 z_1.length, .int .i64 a_1] 113, .dead, .mem 3 (List.map eTGroup z_1) 76] | .inr (z_1) => R .ret ⟨56, [(6, .bool false)], []⟩ [.box [.row 2 0 z_1.length, .int .i64 a_1] 113, .dead, .mem 3 (List.map eTGroup z_1) 76]) →
    ALp Go.Proofs.Try.prog 2 B92_1 ⟨56, [(0, .ptr 0 0 0), (1, .vec c_0 (List.map eU8 l_2)), (5, .ptr 3 0 0), (7, .int .i64 i_1)], []⟩ [.box [.row 2 0 s_2.length, .int .i64 a_1] 113, .dead, .mem 3 (List.map eTGroup s_2) 76, .box [.int .i64 a_3, .int .i64 a_4, .int .i64 a_5, .int .i64 a_6, .int .i64 a_7] 135] R := by
  intro n
  induction n with
  | zero =>
    intro i_1 s_2 o h _
    have h0 : none = some o := h
    cases h0
  | succ n ih =>
    intro i_1 s_2 o h hp
    rw [gdef_list_narrow_row_L1] at h
    refine ALp.round ?_
    generalize hQ : RoundQ _ _ _ _ = QQ
    simp only [B92_1, A92, go_sem, reduceIte, reduceCtorEq, Nat.reduceEqDiff, Nat.reduceLT, Nat.reduceLeDiff, Nat.reduceAdd, Nat.reduceSub, Nat.reduceMul, Int.reduceToNat, Int.reduceLE, Int.reduceLT, Int.reduceAdd, Int.reduceSub, Int.reduceMul, Int.reduceEq, Int.reduceNeg]
    by_cases h_3 : i_1 ≤ a_4
    · rw [if_pos h_3] at h
      have e_4 : (i_1 ≤ a_4) = True := eq_true h_3
      simp only [e_4, go_sem, reduceIte, reduceCtorEq, Nat.reduceEqDiff, Nat.reduceLT, Nat.reduceLeDiff, Nat.reduceAdd, Nat.reduceSub, Nat.reduceMul, Int.reduceToNat, Int.reduceLE, Int.reduceLT, Int.reduceAdd, Int.reduceSub, Int.reduceMul, Int.reduceEq, Int.reduceNeg]
      by_cases h_5 : a_6 = 0
      · rw [if_pos h_5] at h
        have e_6 : (a_6 = 0) = True := eq_true h_5
        simp only [e_4, e_6, go_sem, reduceIte, reduceCtorEq, Nat.reduceEqDiff, Nat.reduceLT, Nat.reduceLeDiff, Nat.reduceAdd, Nat.reduceSub, Nat.reduceMul, Int.reduceToNat, Int.reduceLE, Int.reduceLT, Int.reduceAdd, Int.reduceSub, Int.reduceMul, Int.reduceEq, Int.reduceNeg]
        by_cases h_7 : (IntKind.i64.wrap (i_1 + a_5)).tmod 65536 = 0
        · rw [if_pos h_7] at h
          have e_8 : ((IntKind.i64.wrap (i_1 + a_5)).tmod 65536 = 0) = True := eq_true h_7
          simp only [e_4, e_6, e_8, go_sem, reduceIte, reduceCtorEq, Nat.reduceEqDiff, Nat.reduceLT, Nat.reduceLeDiff, Nat.reduceAdd, Nat.reduceSub, Nat.reduceMul, Int.reduceToNat, Int.reduceLE, Int.reduceLT, Int.reduceAdd, Int.reduceSub, Int.reduceMul, Int.reduceEq, Int.reduceNeg]
          rw [← hQ]
          exact ⟨_, _, (Ref.std [0, 1, 5, 7] [0, 1, 2, 3] (by decide) (by decide) rfl (by first | rfl | simp only [go_sem, reduceIte, Nat.reduceEqDiff, Nat.reduceAdd])), (by simp), ih _ _ _ h hp⟩
        · rw [if_neg h_7] at h
          have e_8 : ((IntKind.i64.wrap (i_1 + a_5)).tmod 65536 = 0) = False := eq_false h_7
          obtain ⟨y_9, h_10, h⟩ := bindS h
          simp only [e_4, e_6, e_8, go_sem, reduceIte, reduceCtorEq, Nat.reduceEqDiff, Nat.reduceLT, Nat.reduceLeDiff, Nat.reduceAdd, Nat.reduceSub, Nat.reduceMul, Int.reduceToNat, Int.reduceLE, Int.reduceLT, Int.reduceAdd, Int.reduceSub, Int.reduceMul, Int.reduceEq, Int.reduceNeg]
          refine ACalls.use (gdef_list_add_row_w N _ _ _ _ _ _ h_10) [0, 2] (by decide) ⟨(by first | rfl | simp only [go_sem, reduceIte, Nat.reduceEqDiff, Nat.reduceAdd, e_4, e_6, e_8]), (by first | rfl | simp only [go_sem, reduceIte, Nat.reduceEqDiff, Nat.reduceAdd, e_4, e_6, e_8]), trivial⟩ rfl (v' := .tup []) (by first | rfl | simp only [go_sem, reduceIte, Nat.reduceEqDiff, Nat.reduceAdd, e_4, e_6, e_8]) (H' := [.box [.row 4 0 y_9.length, .int .i64 a_1] 113, .dead, .dead, .box [.int .i64 a_3, .int .i64 a_4, .int .i64 a_5, .int .i64 a_6, .int .i64 a_7] 135, .mem 3 (List.map eTGroup y_9) 76]) (by first | rfl | simp only [go_sem, reduceIte, Nat.reduceEqDiff, Nat.reduceAdd, e_4, e_6, e_8]) ?_
          refine CallK_go (by simp) ?_
          simp only [e_4, e_6, e_8, go_sem, reduceIte, reduceCtorEq, Nat.reduceEqDiff, Nat.reduceLT, Nat.reduceLeDiff, Nat.reduceAdd, Nat.reduceSub, Nat.reduceMul, Int.reduceToNat, Int.reduceLE, Int.reduceLT, Int.reduceAdd, Int.reduceSub, Int.reduceMul, Int.reduceEq, Int.reduceNeg]
          rw [← hQ]
          exact ⟨_, _, (Ref.std [0, 1, 5, 7] [0, 1, 4, 3] (by decide) (by decide) rfl (by first | rfl | simp only [go_sem, reduceIte, Nat.reduceEqDiff, Nat.reduceAdd])), (by simp), ih _ _ _ h hp⟩
      · rw [if_neg h_5] at h
        have e_6 : (a_6 = 0) = False := eq_false h_5
        obtain ⟨⟨y_11, y_12⟩, h_13, h⟩ := bindS h
        try dsimp only at h
        simp only [e_4, e_6, go_sem, reduceIte, reduceCtorEq, Nat.reduceEqDiff, Nat.reduceLT, Nat.reduceLeDiff, Nat.reduceAdd, Nat.reduceSub, Nat.reduceMul, Int.reduceToNat, Int.reduceLE, Int.reduceLT, Int.reduceAdd, Int.reduceSub, Int.reduceMul, Int.reduceEq, Int.reduceNeg]
        refine ACalls.use0 (octet_U16_w N _ _ _ _ _ h_13) rfl rfl ?_
        refine CallK_go (by simp) ?_
        simp only [e_4, e_6, go_sem, reduceIte, reduceCtorEq, Nat.reduceEqDiff, Nat.reduceLT, Nat.reduceLeDiff, Nat.reduceAdd, Nat.reduceSub, Nat.reduceMul, Int.reduceToNat, Int.reduceLE, Int.reduceLT, Int.reduceAdd, Int.reduceSub, Int.reduceMul, Int.reduceEq, Int.reduceNeg]
        by_cases h_14 : y_12 = true
        · rw [if_pos h_14] at h
          have e_15 : y_12 = true := h_14
          simp only [e_4, e_6, e_15, go_sem, reduceIte, reduceCtorEq, Nat.reduceEqDiff, Nat.reduceLT, Nat.reduceLeDiff, Nat.reduceAdd, Nat.reduceSub, Nat.reduceMul, Int.reduceToNat, Int.reduceLE, Int.reduceLT, Int.reduceAdd, Int.reduceSub, Int.reduceMul, Int.reduceEq, Int.reduceNeg]
          by_cases h_16 : y_11 = 0
          · rw [if_pos h_16] at h
            have e_17 : (y_11 = 0) = True := eq_true h_16
            simp only [e_4, e_6, e_15, e_17, go_sem, reduceIte, reduceCtorEq, Nat.reduceEqDiff, Nat.reduceLT, Nat.reduceLeDiff, Nat.reduceAdd, Nat.reduceSub, Nat.reduceMul, Int.reduceToNat, Int.reduceLE, Int.reduceLT, Int.reduceAdd, Int.reduceSub, Int.reduceMul, Int.reduceEq, Int.reduceNeg]
            rw [← hQ]
            exact ⟨_, _, (Ref.std [0, 1, 5, 7] [0, 1, 2, 3] (by decide) (by decide) rfl (by first | rfl | simp only [go_sem, reduceIte, Nat.reduceEqDiff, Nat.reduceAdd])), (by simp), ih _ _ _ h hp⟩
          · rw [if_neg h_16] at h
            have e_17 : (y_11 = 0) = False := eq_false h_16
            simp only [e_4, e_6, e_15, e_17, go_sem, reduceIte, reduceCtorEq, Nat.reduceEqDiff, Nat.reduceLT, Nat.reduceLeDiff, Nat.reduceAdd, Nat.reduceSub, Nat.reduceMul, Int.reduceToNat, Int.reduceLE, Int.reduceLT, Int.reduceAdd, Int.reduceSub, Int.reduceMul, Int.reduceEq, Int.reduceNeg]
            by_cases h_18 : (IntKind.i64.wrap (y_11 + a_5)).tmod 65536 = 0
            · rw [if_pos h_18] at h
              have e_19 : ((IntKind.i64.wrap (y_11 + a_5)).tmod 65536 = 0) = True := eq_true h_18
              simp only [e_4, e_6, e_15, e_17, e_19, go_sem, reduceIte, reduceCtorEq, Nat.reduceEqDiff, Nat.reduceLT, Nat.reduceLeDiff, Nat.reduceAdd, Nat.reduceSub, Nat.reduceMul, Int.reduceToNat, Int.reduceLE, Int.reduceLT, Int.reduceAdd, Int.reduceSub, Int.reduceMul, Int.reduceEq, Int.reduceNeg]
              rw [← hQ]
              exact ⟨_, _, (Ref.std [0, 1, 5, 7] [0, 1, 2, 3] (by decide) (by decide) rfl (by first | rfl | simp only [go_sem, reduceIte, Nat.reduceEqDiff, Nat.reduceAdd])), (by simp), ih _ _ _ h hp⟩
            · rw [if_neg h_18] at h
              have e_19 : ((IntKind.i64.wrap (y_11 + a_5)).tmod 65536 = 0) = False := eq_false h_18
              obtain ⟨y_20, h_21, h⟩ := bindS h
              simp only [e_4, e_6, e_15, e_17, e_19, go_sem, reduceIte, reduceCtorEq, Nat.reduceEqDiff, Nat.reduceLT, Nat.reduceLeDiff, Nat.reduceAdd, Nat.reduceSub, Nat.reduceMul, Int.reduceToNat, Int.reduceLE, Int.reduceLT, Int.reduceAdd, Int.reduceSub, Int.reduceMul, Int.reduceEq, Int.reduceNeg]
              refine ACalls.use (gdef_list_add_row_w N _ _ _ _ _ _ h_21) [0, 2] (by decide) ⟨(by first | rfl | simp only [go_sem, reduceIte, Nat.reduceEqDiff, Nat.reduceAdd, e_4, e_6, e_15, e_17, e_19]), (by first | rfl | simp only [go_sem, reduceIte, Nat.reduceEqDiff, Nat.reduceAdd, e_4, e_6, e_15, e_17, e_19]), trivial⟩ rfl (v' := .tup []) (by first | rfl | simp only [go_sem, reduceIte, Nat.reduceEqDiff, Nat.reduceAdd, e_4, e_6, e_15, e_17, e_19]) (H' := [.box [.row 4 0 y_20.length, .int .i64 a_1] 113, .dead, .dead, .box [.int .i64 a_3, .int .i64 a_4, .int .i64 a_5, .int .i64 a_6, .int .i64 a_7] 135, .mem 3 (List.map eTGroup y_20) 76]) (by first | rfl | simp only [go_sem, reduceIte, Nat.reduceEqDiff, Nat.reduceAdd, e_4, e_6, e_15, e_17, e_19]) ?_
              refine CallK_go (by simp) ?_
              simp only [e_4, e_6, e_15, e_17, e_19, go_sem, reduceIte, reduceCtorEq, Nat.reduceEqDiff, Nat.reduceLT, Nat.reduceLeDiff, Nat.reduceAdd, Nat.reduceSub, Nat.reduceMul, Int.reduceToNat, Int.reduceLE, Int.reduceLT, Int.reduceAdd, Int.reduceSub, Int.reduceMul, Int.reduceEq, Int.reduceNeg]
              rw [← hQ]
              exact ⟨_, _, (Ref.std [0, 1, 5, 7] [0, 1, 4, 3] (by decide) (by decide) rfl (by first | rfl | simp only [go_sem, reduceIte, Nat.reduceEqDiff, Nat.reduceAdd])), (by simp), ih _ _ _ h hp⟩
        · rw [if_neg h_14] at h
          have e_15 : y_12 = false := bfalse h_14
          simp only [e_4, e_6, e_15, go_sem, reduceIte, reduceCtorEq, Nat.reduceEqDiff, Nat.reduceLT, Nat.reduceLeDiff, Nat.reduceAdd, Nat.reduceSub, Nat.reduceMul, Int.reduceToNat, Int.reduceLE, Int.reduceLT, Int.reduceAdd, Int.reduceSub, Int.reduceMul, Int.reduceEq, Int.reduceNeg]
          have g := Option.some.inj h
          subst g
          rw [← hQ]
          exact ⟨_, _, (Ref.std [6] [0, 1, 2] (by decide) (by decide) rfl (by first | rfl | simp only [go_sem, reduceIte, Nat.reduceEqDiff, Nat.reduceAdd])), hp⟩
    · rw [if_neg h_3] at h
      have e_4 : (i_1 ≤ a_4) = False := eq_false h_3
      simp only [e_4, go_sem, reduceIte, reduceCtorEq, Nat.reduceEqDiff, Nat.reduceLT, Nat.reduceLeDiff, Nat.reduceAdd, Nat.reduceSub, Nat.reduceMul, Int.reduceToNat, Int.reduceLE, Int.reduceLT, Int.reduceAdd, Int.reduceSub, Int.reduceMul, Int.reduceEq, Int.reduceNeg]
      have g := Option.some.inj h
      subst g
      rw [← hQ]
      exact ⟨_, _, (Ref.std [] [0, 1, 2] (by decide) (by decide) rfl (by first | rfl | simp only [go_sem, reduceIte, Nat.reduceEqDiff, Nat.reduceAdd])), hp⟩
theorem gdef_list_narrow_row_w (N : Nat) (l_0 : List TGroup) (a_1 : Int) (l_2 : List Int) (a_3 : Int) (a_4 : Int) (a_5 : Int) (a_6 : Int) (a_7 : Int) (c_0 : Bool) (z_1 : Bool) (z_2 : List TGroup) (h : gdef_list_narrow_row N l_0 a_1 l_2 a_3 a_4 a_5 a_6 a_7 = some (z_1, z_2)) :
    ACalls Go.Proofs.Try.prog 92 [.ptr 0 0 0, .vec c_0 (List.map eU8 l_2), .agg [.int .i64 a_3, .int .i64 a_4, .int .i64 a_5, .int .i64 a_6, .int .i64 a_7]] [.box [.row 1 0 l_0.length, .int .i64 a_1] 113, .mem 3 (List.map eTGroup l_0) 76] (fun e H => H = [.box [.row 2 0 z_2.length, .int .i64 a_1] 113, .dead, .mem 3 (List.map eTGroup z_2) 76] ∧ e = .ret (.bool z_1)) := by
  unfold gdef_list_narrow_row at h
  refine ACalls.goN Go.Proofs.Try.func92 n92 a92 Go.Proofs.Try.ntmps92 r92 (by simp) 2 rfl ?_
  generalize hQ : bodyA _ _ _ = QQ
  simp only [A92, go_sem, reduceIte, reduceCtorEq, Nat.reduceEqDiff, Nat.reduceLT, Nat.reduceLeDiff, Nat.reduceAdd, Nat.reduceSub, Nat.reduceMul, Int.reduceToNat, Int.reduceLE, Int.reduceLT, Int.reduceAdd, Int.reduceSub, Int.reduceMul, Int.reduceEq, Int.reduceNeg]
  obtain ⟨o_1004, h_1001, h⟩ := bindS h
  refine ALp.ref (Ref.trans (Ref.move (by simp) (id := 1) rfl rfl) (Ref.std [0, 1, 5, 7] [0, 1, 3, 2] (by decide) (by decide) rfl (by first | rfl | simp only [go_sem, reduceIte, Nat.reduceEqDiff, Nat.reduceAdd]))) (by simp) (gdef_list_narrow_row_L1_w N _ _ _ _ _ _ _ c_0 N _ _ o_1004 h_1001 ?_)
  rcases o_1004 with y_1002 | y_1003
  · try dsimp only at h
    refine LoopK_go rfl (by simp) ?_
    simp only [go_sem, reduceIte, reduceCtorEq, Nat.reduceEqDiff, Nat.reduceLT, Nat.reduceLeDiff, Nat.reduceAdd, Nat.reduceSub, Nat.reduceMul, Int.reduceToNat, Int.reduceLE, Int.reduceLT, Int.reduceAdd, Int.reduceSub, Int.reduceMul, Int.reduceEq, Int.reduceNeg]
    have g_0 := Option.some.inj h
    obtain ⟨k_1, g_1⟩ := Prod.mk.inj g_0
    subst k_1
    subst g_1
    rw [← hQ]
    exact ⟨rfl, _, rfl, _, _, (RefV.std [0, 1, 2] (by decide) (by decide) rfl (by first | rfl | simp only [go_sem, reduceIte, Nat.reduceEqDiff, Nat.reduceAdd])), rfl, rfl⟩
  · try dsimp only at h
    refine LoopK_ret ?_
    have g_0 := Option.some.inj h
    obtain ⟨k_1, g_1⟩ := Prod.mk.inj g_0
    subst k_1
    subst g_1
    rw [← hQ]
    exact ⟨rfl, _, rfl, _, _, (RefV.std [0, 1, 2] (by decide) (by decide) rfl (by first | rfl | simp only [go_sem, reduceIte, Nat.reduceEqDiff, Nat.reduceAdd])), rfl, rfl⟩
theorem gdef_list_segments_nil_L1_w (N : Nat) (l_1 : List Int) (a_2 : Int) (y_1 : Int) (y_8 : List Int) (y_11 : List Int) (a_0 : Int) (c_0 : Bool) {R : AExit → ATm → List AObj → Prop} : ∀ (n : Nat) (i_16 : Int) (i_17 : Int) (s_18 : List TGroup) (o : ((List TGroup)) ⊕ ((List TGroup))), gdef_list_segments_nil_L1 N l_1 a_2 y_1 y_8 y_11 a_0 n i_16 i_17 s_18 = some o → (match o with | .inl z_1 => R (.exit 0) ⟨109, [], []⟩ [.box [.row 1 0 z_1.length, .int .i64 a_0] 113, .mem 3 (List.map eTGroup z_1) 76] | .inr (z_1) => R .ret ⟨109, [(6, .bool false)], []⟩ [.box [.row 1 0 z_1.length, .int .i64 a_0] 113, .mem 3 (List.map eTGroup z_1) 76]) →
    ALp Go.Proofs.Try.prog 1 B76_1 ⟨109, [(0, .ptr 0 0 0), (1, .vec c_0 (List.map eU8 l_1)), (2, .int .i64 a_2), (7, .int .i64 (IntKind.i64.wrap (y_1.tdiv 2))), (9, .vec false (List.map eI64 y_8)), (11, .vec false (List.map eI64 y_11)), (13, .int .i64 i_16), (54, .int .i64 (IntKind.i64.wrap (y_1.tdiv 2))), (55, .int .i64 i_17)], []⟩ [.box [.row 1 0 s_18.length, .int .i64 a_0] 113, .mem 3 (List.map eTGroup s_18) 76] R := by
  intro n
  induction n with
  | zero =>
    intro i_16 i_17 s_18 o h _
    have h0 : none = some o := h
    cases h0
  | succ n ih =>
    intro i_16 i_17 s_18 o h hp
    rw [gdef_list_segments_nil_L1] at h
    refine ALp.round ?_
    generalize hQ : RoundQ _ _ _ _ = QQ
    simp only [B76_1, A76, go_sem, reduceIte, reduceCtorEq, Nat.reduceEqDiff, Nat.reduceLT, Nat.reduceLeDiff, Nat.reduceAdd, Nat.reduceSub, Nat.reduceMul, Int.reduceToNat, Int.reduceLE, Int.reduceLT, Int.reduceAdd, Int.reduceSub, Int.reduceMul, Int.reduceEq, Int.reduceNeg]
    by_cases h_19 : i_17 < IntKind.i64.wrap (y_1.tdiv 2)
    · rw [if_pos h_19] at h
      have e_20 : (i_17 < IntKind.i64.wrap (y_1.tdiv 2)) = True := eq_true h_19
      obtain ⟨x_21, h_22, h⟩ := bindS h
      have e_23 : (List.map eI64 y_11)[(i_17).toNat]? = some [.int .i64 x_21] := atI_map eI64 h_22
      have e_24 : ((0 : Int) ≤ i_17) = True := eq_true (atI_some h_22).1
      have e_25 : ((i_17 : Int) < (y_11.length : Int)) = True := eq_true (atI_lt h_22)
      obtain ⟨x_26, h_27, h⟩ := bindS h
      have e_28 : (List.map eI64 y_8)[(i_17).toNat]? = some [.int .i64 x_26] := atI_map eI64 h_27
      have e_29 : ((0 : Int) ≤ i_17) = True := eq_true (atI_some h_27).1
      have e_30 : ((i_17 : Int) < (y_8.length : Int)) = True := eq_true (atI_lt h_27)
      obtain ⟨x_31, h_32, h⟩ := bindS h
      have e_33 : (List.map eI64 y_11)[(IntKind.i64.wrap ((IntKind.i64.wrap (y_1.tdiv 2)) + i_17)).toNat]? = some [.int .i64 x_31] := atI_map eI64 h_32
      have e_34 : ((0 : Int) ≤ IntKind.i64.wrap ((IntKind.i64.wrap (y_1.tdiv 2)) + i_17)) = True := eq_true (atI_some h_32).1
      have e_35 : ((IntKind.i64.wrap ((IntKind.i64.wrap (y_1.tdiv 2)) + i_17) : Int) < (y_11.length : Int)) = True := eq_true (atI_lt h_32)
      obtain ⟨x_36, h_37, h⟩ := bindS h
      have e_38 : (List.map eI64 y_11)[(IntKind.i64.wrap ((IntKind.i64.wrap (2 * (IntKind.i64.wrap (y_1.tdiv 2)))) + i_17)).toNat]? = some [.int .i64 x_36] := atI_map eI64 h_37
      have e_39 : ((0 : Int) ≤ IntKind.i64.wrap ((IntKind.i64.wrap (2 * (IntKind.i64.wrap (y_1.tdiv 2)))) + i_17)) = True := eq_true (atI_some h_37).1
      have e_40 : ((IntKind.i64.wrap ((IntKind.i64.wrap (2 * (IntKind.i64.wrap (y_1.tdiv 2)))) + i_17) : Int) < (y_11.length : Int)) = True := eq_true (atI_lt h_37)
      simp only [e_20, e_23, e_24, e_25, e_28, e_29, e_30, e_33, e_34, e_35, e_38, e_39, e_40, go_sem, reduceIte, reduceCtorEq, Nat.reduceEqDiff, Nat.reduceLT, Nat.reduceLeDiff, Nat.reduceAdd, Nat.reduceSub, Nat.reduceMul, Int.reduceToNat, Int.reduceLE, Int.reduceLT, Int.reduceAdd, Int.reduceSub, Int.reduceMul, Int.reduceEq, Int.reduceNeg]
      by_cases h_41 : x_21 ≤ i_16
      · rw [if_pos h_41] at h
        have e_42 : (x_21 ≤ i_16) = True := eq_true h_41
        simp only [e_20, e_23, e_24, e_25, e_28, e_29, e_30, e_33, e_34, e_35, e_38, e_39, e_40, e_42, go_sem, reduceIte, reduceCtorEq, Nat.reduceEqDiff, Nat.reduceLT, Nat.reduceLeDiff, Nat.reduceAdd, Nat.reduceSub, Nat.reduceMul, Int.reduceToNat, Int.reduceLE, Int.reduceLT, Int.reduceAdd, Int.reduceSub, Int.reduceMul, Int.reduceEq, Int.reduceNeg]
        have g := Option.some.inj h
        subst g
        rw [← hQ]
        exact ⟨_, _, (Ref.std [6] [0, 1] (by decide) (by decide) rfl (by first | rfl | simp only [go_sem, reduceIte, Nat.reduceEqDiff, Nat.reduceAdd])), hp⟩
      · rw [if_neg h_41] at h
        have e_42 : (x_21 ≤ i_16) = False := eq_false h_41
        simp only [e_20, e_23, e_24, e_25, e_28, e_29, e_30, e_33, e_34, e_35, e_38, e_39, e_40, e_42, go_sem, reduceIte, reduceCtorEq, Nat.reduceEqDiff, Nat.reduceLT, Nat.reduceLeDiff, Nat.reduceAdd, Nat.reduceSub, Nat.reduceMul, Int.reduceToNat, Int.reduceLE, Int.reduceLT, Int.reduceAdd, Int.reduceSub, Int.reduceMul, Int.reduceEq, Int.reduceNeg]
        by_cases h_43 : x_26 < x_21
        · rw [if_pos h_43] at h
          have e_44 : (x_26 < x_21) = True := eq_true h_43
          simp only [e_20, e_23, e_24, e_25, e_28, e_29, e_30, e_33, e_34, e_35, e_38, e_39, e_40, e_42, e_44, go_sem, reduceIte, reduceCtorEq, Nat.reduceEqDiff, Nat.reduceLT, Nat.reduceLeDiff, Nat.reduceAdd, Nat.reduceSub, Nat.reduceMul, Int.reduceToNat, Int.reduceLE, Int.reduceLT, Int.reduceAdd, Int.reduceSub, Int.reduceMul, Int.reduceEq, Int.reduceNeg]
          have g := Option.some.inj h
          subst g
          rw [← hQ]
          exact ⟨_, _, (Ref.std [6] [0, 1] (by decide) (by decide) rfl (by first | rfl | simp only [go_sem, reduceIte, Nat.reduceEqDiff, Nat.reduceAdd])), hp⟩
        · rw [if_neg h_43] at h
          have e_44 : (x_26 < x_21) = False := eq_false h_43
          obtain ⟨⟨y_45, y_46⟩, h_47, h⟩ := bindS h
          try dsimp only at h
          simp only [e_20, e_23, e_24, e_25, e_28, e_29, e_30, e_33, e_34, e_35, e_38, e_39, e_40, e_42, e_44, go_sem, reduceIte, reduceCtorEq, Nat.reduceEqDiff, Nat.reduceLT, Nat.reduceLeDiff, Nat.reduceAdd, Nat.reduceSub, Nat.reduceMul, Int.reduceToNat, Int.reduceLE, Int.reduceLT, Int.reduceAdd, Int.reduceSub, Int.reduceMul, Int.reduceEq, Int.reduceNeg]
          refine ACalls.use (gdef_list_narrow_row_w N _ _ _ _ _ _ _ _ _ _ _ h_47) [0, 1] (by decide) ⟨(by first | rfl | simp only [go_sem, reduceIte, Nat.reduceEqDiff, Nat.reduceAdd, e_20, e_42, e_44]), (by first | rfl | simp only [go_sem, reduceIte, Nat.reduceEqDiff, Nat.reduceAdd, e_20, e_42, e_44]), trivial⟩ rfl (v' := .bool y_45) (by first | rfl | simp only [go_sem, reduceIte, Nat.reduceEqDiff, Nat.reduceAdd, e_20, e_42, e_44]) (H' := [.box [.row 3 0 y_46.length, .int .i64 a_0] 113, .dead, .box [.int .i64 x_21, .int .i64 x_26, .int .i64 x_31, .int .i64 x_36, .int .i64 (IntKind.i64.wrap ((IntKind.i64.wrap (a_2 + 16)) + (IntKind.i64.wrap (2 * (IntKind.i64.wrap ((IntKind.i64.wrap (3 * (IntKind.i64.wrap (y_1.tdiv 2)))) + i_17))))))] 135, .mem 3 (List.map eTGroup y_46) 76]) (by first | rfl | simp only [go_sem, reduceIte, Nat.reduceEqDiff, Nat.reduceAdd, e_20, e_42, e_44]) ?_
          refine CallK_go (by simp) ?_
          simp only [e_20, e_23, e_24, e_25, e_28, e_29, e_30, e_33, e_34, e_35, e_38, e_39, e_40, e_42, e_44, go_sem, reduceIte, reduceCtorEq, Nat.reduceEqDiff, Nat.reduceLT, Nat.reduceLeDiff, Nat.reduceAdd, Nat.reduceSub, Nat.reduceMul, Int.reduceToNat, Int.reduceLE, Int.reduceLT, Int.reduceAdd, Int.reduceSub, Int.reduceMul, Int.reduceEq, Int.reduceNeg]
          by_cases h_48 : y_45 = true
          · rw [if_pos h_48] at h
            have e_49 : y_45 = true := h_48
            simp only [e_20, e_23, e_24, e_25, e_28, e_29, e_30, e_33, e_34, e_35, e_38, e_39, e_40, e_42, e_44, e_49, go_sem, reduceIte, reduceCtorEq, Nat.reduceEqDiff, Nat.reduceLT, Nat.reduceLeDiff, Nat.reduceAdd, Nat.reduceSub, Nat.reduceMul, Int.reduceToNat, Int.reduceLE, Int.reduceLT, Int.reduceAdd, Int.reduceSub, Int.reduceMul, Int.reduceEq, Int.reduceNeg]
            rw [← hQ]
            exact ⟨_, _, (Ref.std [0, 1, 2, 7, 9, 11, 13, 54, 55] [0, 3] (by decide) (by decide) rfl (by first | rfl | simp only [go_sem, reduceIte, Nat.reduceEqDiff, Nat.reduceAdd])), (by simp), ih _ _ _ _ h hp⟩
          · rw [if_neg h_48] at h
            have e_49 : y_45 = false := bfalse h_48
            simp only [e_20, e_23, e_24, e_25, e_28, e_29, e_30, e_33, e_34, e_35, e_38, e_39, e_40, e_42, e_44, e_49, go_sem, reduceIte, reduceCtorEq, Nat.reduceEqDiff, Nat.reduceLT, Nat.reduceLeDiff, Nat.reduceAdd, Nat.reduceSub, Nat.reduceMul, Int.reduceToNat, Int.reduceLE, Int.reduceLT, Int.reduceAdd, Int.reduceSub, Int.reduceMul, Int.reduceEq, Int.reduceNeg]
            have g := Option.some.inj h
            subst g
            rw [← hQ]
            exact ⟨_, _, (Ref.std [6] [0, 3] (by decide) (by decide) rfl (by first | rfl | simp only [go_sem, reduceIte, Nat.reduceEqDiff, Nat.reduceAdd])), hp⟩
    · rw [if_neg h_19] at h
      have e_20 : (i_17 < IntKind.i64.wrap (y_1.tdiv 2)) = False := eq_false h_19
      simp only [e_20, go_sem, reduceIte, reduceCtorEq, Nat.reduceEqDiff, Nat.reduceLT, Nat.reduceLeDiff, Nat.reduceAdd, Nat.reduceSub, Nat.reduceMul, Int.reduceToNat, Int.reduceLE, Int.reduceLT, Int.reduceAdd, Int.reduceSub, Int.reduceMul, Int.reduceEq, Int.reduceNeg]
      have g := Option.some.inj h
      subst g
      rw [← hQ]
      exact ⟨_, _, (Ref.std [] [0, 1] (by decide) (by decide) rfl (by first | rfl | simp only [go_sem, reduceIte, Nat.reduceEqDiff, Nat.reduceAdd])), hp⟩
theorem gdef_list_segments_nil_w (N : Nat) (a_0 : Int) (l_1 : List Int) (a_2 : Int) (c_0 : Bool) (z_1 : Bool) (z_2 : List TGroup) (h : gdef_list_segments_nil N a_0 l_1 a_2 = some (z_1, z_2)) :
    ACalls Go.Proofs.Try.prog 76 [.ptr 0 0 0, .vec c_0 (List.map eU8 l_1), .int .i64 a_2] [.box [.vec true [], .int .i64 a_0] 113] (fun e H => H = [.box [.row 1 0 z_2.length, .int .i64 a_0] 113, .mem 3 (List.map eTGroup z_2) 76] ∧ e = .ret (.bool z_1)) := by
  unfold gdef_list_segments_nil at h
  refine ACalls.goN Go.Proofs.Try.func76 n76 a76 Go.Proofs.Try.ntmps76 r76 (by simp) 1 rfl ?_
  generalize hQ : bodyA _ _ _ = QQ
  obtain ⟨⟨y_1, y_2⟩, h_3, h⟩ := bindS h
  try dsimp only at h
  simp only [A76, go_sem, reduceIte, reduceCtorEq, Nat.reduceEqDiff, Nat.reduceLT, Nat.reduceLeDiff, Nat.reduceAdd, Nat.reduceSub, Nat.reduceMul, Int.reduceToNat, Int.reduceLE, Int.reduceLT, Int.reduceAdd, Int.reduceSub, Int.reduceMul, Int.reduceEq, Int.reduceNeg]
  refine ACalls.use0 (octet_U16_w N _ _ _ _ _ h_3) rfl rfl ?_
  refine CallK_go (by simp) ?_
  simp only [go_sem, reduceIte, reduceCtorEq, Nat.reduceEqDiff, Nat.reduceLT, Nat.reduceLeDiff, Nat.reduceAdd, Nat.reduceSub, Nat.reduceMul, Int.reduceToNat, Int.reduceLE, Int.reduceLT, Int.reduceAdd, Int.reduceSub, Int.reduceMul, Int.reduceEq, Int.reduceNeg]
  by_cases h_4 : y_2 = true
  · rw [if_pos h_4] at h
    have e_5 : y_2 = true := h_4
    simp only [e_5, go_sem, reduceIte, reduceCtorEq, Nat.reduceEqDiff, Nat.reduceLT, Nat.reduceLeDiff, Nat.reduceAdd, Nat.reduceSub, Nat.reduceMul, Int.reduceToNat, Int.reduceLE, Int.reduceLT, Int.reduceAdd, Int.reduceSub, Int.reduceMul, Int.reduceEq, Int.reduceNeg]
    by_cases h_6 : y_1.tmod 2 = 0
    · rw [if_pos h_6] at h
      have e_7 : (y_1.tmod 2 = 0) = True := eq_true h_6
      obtain ⟨⟨y_8, y_9⟩, h_10, h⟩ := bindS h
      try dsimp only at h
      simp only [e_5, e_7, go_sem, reduceIte, reduceCtorEq, Nat.reduceEqDiff, Nat.reduceLT, Nat.reduceLeDiff, Nat.reduceAdd, Nat.reduceSub, Nat.reduceMul, Int.reduceToNat, Int.reduceLE, Int.reduceLT, Int.reduceAdd, Int.reduceSub, Int.reduceMul, Int.reduceEq, Int.reduceNeg]
      refine ACalls.use0 (octet_Row_w N _ _ _ _ _ _ _ h_10) rfl rfl ?_
      refine CallK_go (by simp) ?_
      obtain ⟨⟨y_11, y_12⟩, h_13, h⟩ := bindS h
      try dsimp only at h
      simp only [e_5, e_7, go_sem, reduceIte, reduceCtorEq, Nat.reduceEqDiff, Nat.reduceLT, Nat.reduceLeDiff, Nat.reduceAdd, Nat.reduceSub, Nat.reduceMul, Int.reduceToNat, Int.reduceLE, Int.reduceLT, Int.reduceAdd, Int.reduceSub, Int.reduceMul, Int.reduceEq, Int.reduceNeg]
      refine ACalls.use0 (octet_Row_w N _ _ _ _ _ _ _ h_13) rfl rfl ?_
      refine CallK_go (by simp) ?_
      simp only [e_5, e_7, go_sem, reduceIte, reduceCtorEq, Nat.reduceEqDiff, Nat.reduceLT, Nat.reduceLeDiff, Nat.reduceAdd, Nat.reduceSub, Nat.reduceMul, Int.reduceToNat, Int.reduceLE, Int.reduceLT, Int.reduceAdd, Int.reduceSub, Int.reduceMul, Int.reduceEq, Int.reduceNeg]
      by_cases h_14 : y_12 = true
      · rw [if_pos h_14] at h
        have e_15 : y_12 = true := h_14
        simp only [e_5, e_7, e_15, go_sem, reduceIte, reduceCtorEq, Nat.reduceEqDiff, Nat.reduceLT, Nat.reduceLeDiff, Nat.reduceAdd, Nat.reduceSub, Nat.reduceMul, Int.reduceToNat, Int.reduceLE, Int.reduceLT, Int.reduceAdd, Int.reduceSub, Int.reduceMul, Int.reduceEq, Int.reduceNeg]
        obtain ⟨o_1019, h_1016, h⟩ := bindS h
        refine ALp.ref (Ref.trans (Ref.thawB (by simp) (id := 0) 0 rfl rfl (sz := 3) (by decide) 76) (Ref.std [0, 1, 2, 7, 9, 11, 13, 54, 55] [0, 1] (by decide) (by decide) rfl (by first | rfl | simp only [go_sem, reduceIte, Nat.reduceEqDiff, Nat.reduceAdd]))) (by simp) (gdef_list_segments_nil_L1_w N _ _ _ _ _ _ c_0 N _ _ _ o_1019 h_1016 ?_)
        rcases o_1019 with y_1017 | y_1018
        · try dsimp only at h
          refine LoopK_go rfl (by simp) ?_
          simp only [e_5, e_7, e_15, go_sem, reduceIte, reduceCtorEq, Nat.reduceEqDiff, Nat.reduceLT, Nat.reduceLeDiff, Nat.reduceAdd, Nat.reduceSub, Nat.reduceMul, Int.reduceToNat, Int.reduceLE, Int.reduceLT, Int.reduceAdd, Int.reduceSub, Int.reduceMul, Int.reduceEq, Int.reduceNeg]
          have g_0 := Option.some.inj h
          obtain ⟨k_1, g_1⟩ := Prod.mk.inj g_0
          subst k_1
          subst g_1
          rw [← hQ]
          exact ⟨rfl, _, rfl, _, _, (RefV.std [0, 1] (by decide) (by decide) rfl (by first | rfl | simp only [go_sem, reduceIte, Nat.reduceEqDiff, Nat.reduceAdd, e_5, e_7, e_15])), rfl, rfl⟩
        · try dsimp only at h
          refine LoopK_ret ?_
          have g_0 := Option.some.inj h
          obtain ⟨k_1, g_1⟩ := Prod.mk.inj g_0
          subst k_1
          subst g_1
          rw [← hQ]
          exact ⟨rfl, _, rfl, _, _, (RefV.std [0, 1] (by decide) (by decide) rfl (by first | rfl | simp only [go_sem, reduceIte, Nat.reduceEqDiff, Nat.reduceAdd, e_5, e_7, e_15])), rfl, rfl⟩
      · rw [if_neg h_14] at h
        have e_15 : y_12 = false := bfalse h_14
        simp only [e_5, e_7, e_15, go_sem, reduceIte, reduceCtorEq, Nat.reduceEqDiff, Nat.reduceLT, Nat.reduceLeDiff, Nat.reduceAdd, Nat.reduceSub, Nat.reduceMul, Int.reduceToNat, Int.reduceLE, Int.reduceLT, Int.reduceAdd, Int.reduceSub, Int.reduceMul, Int.reduceEq, Int.reduceNeg]
        have g_0 := Option.some.inj h
        obtain ⟨k_1, g_1⟩ := Prod.mk.inj g_0
        subst k_1
        subst g_1
        rw [← hQ]
        exact ⟨rfl, _, rfl, _, _, (RefV.trans (RefV.thawB (by simp) (id := 0) 0 rfl rfl (sz := 3) (by decide) 76) (RefV.std [0, 1] (by decide) (by decide) rfl (by first | rfl | simp only [go_sem, reduceIte, Nat.reduceEqDiff, Nat.reduceAdd, e_5, e_7, e_15]))), rfl, rfl⟩
    · rw [if_neg h_6] at h
      have e_7 : (y_1.tmod 2 = 0) = False := eq_false h_6
      simp only [e_5, e_7, go_sem, reduceIte, reduceCtorEq, Nat.reduceEqDiff, Nat.reduceLT, Nat.reduceLeDiff, Nat.reduceAdd, Nat.reduceSub, Nat.reduceMul, Int.reduceToNat, Int.reduceLE, Int.reduceLT, Int.reduceAdd, Int.reduceSub, Int.reduceMul, Int.reduceEq, Int.reduceNeg]
      have g_0 := Option.some.inj h
      obtain ⟨k_1, g_1⟩ := Prod.mk.inj g_0
      subst k_1
      subst g_1
      rw [← hQ]
      exact ⟨rfl, _, rfl, _, _, (RefV.trans (RefV.thawB (by simp) (id := 0) 0 rfl rfl (sz := 3) (by decide) 76) (RefV.std [0, 1] (by decide) (by decide) rfl (by first | rfl | simp only [go_sem, reduceIte, Nat.reduceEqDiff, Nat.reduceAdd, e_5, e_7]))), rfl, rfl⟩
  · rw [if_neg h_4] at h
    have e_5 : y_2 = false := bfalse h_4
    simp only [e_5, go_sem, reduceIte, reduceCtorEq, Nat.reduceEqDiff, Nat.reduceLT, Nat.reduceLeDiff, Nat.reduceAdd, Nat.reduceSub, Nat.reduceMul, Int.reduceToNat, Int.reduceLE, Int.reduceLT, Int.reduceAdd, Int.reduceSub, Int.reduceMul, Int.reduceEq, Int.reduceNeg]
    have g_0 := Option.some.inj h
    obtain ⟨k_1, g_1⟩ := Prod.mk.inj g_0
    subst k_1
    subst g_1
    rw [← hQ]
    exact ⟨rfl, _, rfl, _, _, (RefV.trans (RefV.thawB (by simp) (id := 0) 0 rfl rfl (sz := 3) (by decide) 76) (RefV.std [0, 1] (by decide) (by decide) rfl (by first | rfl | simp only [go_sem, reduceIte, Nat.reduceEqDiff, Nat.reduceAdd, e_5]))), rfl, rfl⟩
theorem gdef_Codes_w (N : Nat) (l_0 : List Int) (a_1 : Int) (a_2 : Int) (c_0 : Bool) (z_1 : List TGroup) (z_2 : Bool) (h : gdef_Codes N l_0 a_1 a_2 = some (z_1, z_2)) :
    ACalls Go.Proofs.Try.prog 51 [.vec c_0 (List.map eU8 l_0), .int .i64 a_1, .int .i64 a_2] [] (fun e H => H = [] ∧ e = .ret (.tup [.vec false (List.map eTGroup z_1), .bool z_2])) := by
  unfold gdef_Codes at h
  refine ACalls.goN Go.Proofs.Try.func51 n51 a51 Go.Proofs.Try.ntmps51 r51 (by simp) 0 rfl ?_
  generalize hQ : bodyA _ _ _ = QQ
  simp only [A51, go_sem, reduceIte, reduceCtorEq, Nat.reduceEqDiff, Nat.reduceLT, Nat.reduceLeDiff, Nat.reduceAdd, Nat.reduceSub, Nat.reduceMul, Int.reduceToNat, Int.reduceLE, Int.reduceLT, Int.reduceAdd, Int.reduceSub, Int.reduceMul, Int.reduceEq, Int.reduceNeg]
  by_cases h_1 : a_2 < 0
  · rw [if_pos h_1] at h
    have e_2 : (a_2 < 0) = True := eq_true h_1
    simp only [e_2, go_sem, reduceIte, reduceCtorEq, Nat.reduceEqDiff, Nat.reduceLT, Nat.reduceLeDiff, Nat.reduceAdd, Nat.reduceSub, Nat.reduceMul, Int.reduceToNat, Int.reduceLE, Int.reduceLT, Int.reduceAdd, Int.reduceSub, Int.reduceMul, Int.reduceEq, Int.reduceNeg]
    have g_0 := Option.some.inj h
    obtain ⟨k_1, g_1⟩ := Prod.mk.inj g_0
    subst k_1
    subst g_1
    rw [← hQ]
    exact ⟨rfl, _, rfl, _, _, (RefV.trans (RefV.out (v' := .tup [.vec true [], .bool false]) rfl) (RefV.weak (Wks.cons (Wk.tup (Wks.cons Wk.vec (Wks.cons (Wk.refl _) (Wks.nil)))) Wks.nil) (WkH.refl _))), rfl, rfl⟩
  · rw [if_neg h_1] at h
    have e_2 : (a_2 < 0) = False := eq_false h_1
    simp only [e_2, go_sem, reduceIte, reduceCtorEq, Nat.reduceEqDiff, Nat.reduceLT, Nat.reduceLeDiff, Nat.reduceAdd, Nat.reduceSub, Nat.reduceMul, Int.reduceToNat, Int.reduceLE, Int.reduceLT, Int.reduceAdd, Int.reduceSub, Int.reduceMul, Int.reduceEq, Int.reduceNeg]
    by_cases h_3 : 65536 < a_2
    · rw [if_pos h_3] at h
      have e_4 : (65536 < a_2) = True := eq_true h_3
      simp only [e_2, e_4, go_sem, reduceIte, reduceCtorEq, Nat.reduceEqDiff, Nat.reduceLT, Nat.reduceLeDiff, Nat.reduceAdd, Nat.reduceSub, Nat.reduceMul, Int.reduceToNat, Int.reduceLE, Int.reduceLT, Int.reduceAdd, Int.reduceSub, Int.reduceMul, Int.reduceEq, Int.reduceNeg]
      have g_0 := Option.some.inj h
      obtain ⟨k_1, g_1⟩ := Prod.mk.inj g_0
      subst k_1
      subst g_1
      rw [← hQ]
      exact ⟨rfl, _, rfl, _, _, (RefV.trans (RefV.out (v' := .tup [.vec true [], .bool false]) rfl) (RefV.weak (Wks.cons (Wk.tup (Wks.cons Wk.vec (Wks.cons (Wk.refl _) (Wks.nil)))) Wks.nil) (WkH.refl _))), rfl, rfl⟩
    · rw [if_neg h_3] at h
      have e_4 : (65536 < a_2) = False := eq_false h_3
      obtain ⟨⟨y_5, y_6⟩, h_7, h⟩ := bindS h
      try dsimp only at h
      simp only [e_2, e_4, go_sem, reduceIte, reduceCtorEq, Nat.reduceEqDiff, Nat.reduceLT, Nat.reduceLeDiff, Nat.reduceAdd, Nat.reduceSub, Nat.reduceMul, Int.reduceToNat, Int.reduceLE, Int.reduceLT, Int.reduceAdd, Int.reduceSub, Int.reduceMul, Int.reduceEq, Int.reduceNeg]
      refine ACalls.use0 (octet_U16_w N _ _ _ _ _ h_7) rfl rfl ?_
      refine CallK_go (Nat.zero_le _) ?_
      obtain ⟨⟨y_8, y_9⟩, h_10, h⟩ := bindS h
      try dsimp only at h
      simp only [e_2, e_4, go_sem, reduceIte, reduceCtorEq, Nat.reduceEqDiff, Nat.reduceLT, Nat.reduceLeDiff, Nat.reduceAdd, Nat.reduceSub, Nat.reduceMul, Int.reduceToNat, Int.reduceLE, Int.reduceLT, Int.reduceAdd, Int.reduceSub, Int.reduceMul, Int.reduceEq, Int.reduceNeg]
      refine ACalls.use0 (octet_U16_w N _ _ _ _ _ h_10) rfl rfl ?_
      refine CallK_go (Nat.zero_le _) ?_
      simp only [e_2, e_4, go_sem, reduceIte, reduceCtorEq, Nat.reduceEqDiff, Nat.reduceLT, Nat.reduceLeDiff, Nat.reduceAdd, Nat.reduceSub, Nat.reduceMul, Int.reduceToNat, Int.reduceLE, Int.reduceLT, Int.reduceAdd, Int.reduceSub, Int.reduceMul, Int.reduceEq, Int.reduceNeg]
      by_cases h_11 : y_9 = true
      · rw [if_pos h_11] at h
        have e_12 : y_9 = true := h_11
        simp only [e_2, e_4, e_12, go_sem, reduceIte, reduceCtorEq, Nat.reduceEqDiff, Nat.reduceLT, Nat.reduceLeDiff, Nat.reduceAdd, Nat.reduceSub, Nat.reduceMul, Int.reduceToNat, Int.reduceLE, Int.reduceLT, Int.reduceAdd, Int.reduceSub, Int.reduceMul, Int.reduceEq, Int.reduceNeg]
        by_cases h_13 : y_5 = 0
        · rw [if_pos h_13] at h
          have e_14 : (y_5 = 0) = True := eq_true h_13
          simp only [e_2, e_4, e_12, e_14, go_sem, reduceIte, reduceCtorEq, Nat.reduceEqDiff, Nat.reduceLT, Nat.reduceLeDiff, Nat.reduceAdd, Nat.reduceSub, Nat.reduceMul, Int.reduceToNat, Int.reduceLE, Int.reduceLT, Int.reduceAdd, Int.reduceSub, Int.reduceMul, Int.reduceEq, Int.reduceNeg]
          by_cases h_15 : 64 < y_8
          · rw [if_pos h_15] at h
            have e_16 : (64 < y_8) = True := eq_true h_15
            simp only [e_2, e_4, e_12, e_14, e_16, go_sem, reduceIte, reduceCtorEq, Nat.reduceEqDiff, Nat.reduceLT, Nat.reduceLeDiff, Nat.reduceAdd, Nat.reduceSub, Nat.reduceMul, Int.reduceToNat, Int.reduceLE, Int.reduceLT, Int.reduceAdd, Int.reduceSub, Int.reduceMul, Int.reduceEq, Int.reduceNeg]
            have g_0 := Option.some.inj h
            obtain ⟨k_1, g_1⟩ := Prod.mk.inj g_0
            subst k_1
            subst g_1
            rw [← hQ]
            exact ⟨rfl, _, rfl, _, _, (RefV.trans (RefV.out (v' := .tup [.vec true [], .bool false]) rfl) (RefV.weak (Wks.cons (Wk.tup (Wks.cons Wk.vec (Wks.cons (Wk.refl _) (Wks.nil)))) Wks.nil) (WkH.refl _))), rfl, rfl⟩
          · rw [if_neg h_15] at h
            have e_16 : (64 < y_8) = False := eq_false h_15
            simp only [e_2, e_4, e_12, e_14, e_16, go_sem, reduceIte, reduceCtorEq, Nat.reduceEqDiff, Nat.reduceLT, Nat.reduceLeDiff, Nat.reduceAdd, Nat.reduceSub, Nat.reduceMul, Int.reduceToNat, Int.reduceLE, Int.reduceLT, Int.reduceAdd, Int.reduceSub, Int.reduceMul, Int.reduceEq, Int.reduceNeg]
            obtain ⟨o_1020, h_1017, h⟩ := bindS h
            refine ALp.ref (Ref.std [0, 1, 2, 12, 51, 52] [0] (by decide) low0 rfl rfl) (Nat.zero_le _) (gdef_Codes_L1_w N _ _ _ _ c_0 N _ _ _ o_1020 h_1017 ?_)
            rcases o_1020 with ⟨y_1018, y_1019⟩ | _
            · try dsimp only at h
              refine LoopK_go rfl (Nat.zero_le _) ?_
              simp only [e_2, e_4, e_12, e_14, e_16, go_sem, reduceIte, reduceCtorEq, Nat.reduceEqDiff, Nat.reduceLT, Nat.reduceLeDiff, Nat.reduceAdd, Nat.reduceSub, Nat.reduceMul, Int.reduceToNat, Int.reduceLE, Int.reduceLT, Int.reduceAdd, Int.reduceSub, Int.reduceMul, Int.reduceEq, Int.reduceNeg]
              by_cases h_1021 : 0 ≤ y_1018
              · rw [if_pos h_1021] at h
                have e_1022 : (0 ≤ y_1018) = True := eq_true h_1021
                obtain ⟨⟨y_1023, y_1024⟩, h_1025, h⟩ := bindS h
                try dsimp only at h
                simp only [e_2, e_4, e_12, e_14, e_16, e_1022, go_sem, reduceIte, reduceCtorEq, Nat.reduceEqDiff, Nat.reduceLT, Nat.reduceLeDiff, Nat.reduceAdd, Nat.reduceSub, Nat.reduceMul, Int.reduceToNat, Int.reduceLE, Int.reduceLT, Int.reduceAdd, Int.reduceSub, Int.reduceMul, Int.reduceEq, Int.reduceNeg]
                refine ACalls.use (gdef_list_wide_nil_w N _ _ _ _ _ _ h_1025) [1] (by decide) ⟨(by first | rfl | simp only [go_sem, reduceIte, Nat.reduceEqDiff, Nat.reduceAdd, e_2, e_4, e_12, e_14, e_16, e_1022]), trivial⟩ rfl (v' := .bool y_1023) (by first | rfl | simp only [go_sem, reduceIte, Nat.reduceEqDiff, Nat.reduceAdd, e_2, e_4, e_12, e_14, e_16, e_1022]) (H' := [.box [.int .i64 y_1018, .int .i64 y_1019] 110, .box [.row 2 0 y_1024.length, .int .i64 a_2] 113, .mem 3 (List.map eTGroup y_1024) 76]) (by first | rfl | simp only [go_sem, reduceIte, Nat.reduceEqDiff, Nat.reduceAdd, e_2, e_4, e_12, e_14, e_16, e_1022]) ?_
                refine CallK_go (Nat.zero_le _) ?_
                simp only [e_2, e_4, e_12, e_14, e_16, e_1022, go_sem, reduceIte, reduceCtorEq, Nat.reduceEqDiff, Nat.reduceLT, Nat.reduceLeDiff, Nat.reduceAdd, Nat.reduceSub, Nat.reduceMul, Int.reduceToNat, Int.reduceLE, Int.reduceLT, Int.reduceAdd, Int.reduceSub, Int.reduceMul, Int.reduceEq, Int.reduceNeg]
                by_cases h_1026 : y_1023 = true
                · rw [if_pos h_1026] at h
                  have e_1027 : y_1023 = true := h_1026
                  simp only [e_2, e_4, e_12, e_14, e_16, e_1022, e_1027, go_sem, reduceIte, reduceCtorEq, Nat.reduceEqDiff, Nat.reduceLT, Nat.reduceLeDiff, Nat.reduceAdd, Nat.reduceSub, Nat.reduceMul, Int.reduceToNat, Int.reduceLE, Int.reduceLT, Int.reduceAdd, Int.reduceSub, Int.reduceMul, Int.reduceEq, Int.reduceNeg]
                  have g_0 := Option.some.inj h
                  obtain ⟨k_1, g_1⟩ := Prod.mk.inj g_0
                  subst k_1
                  subst g_1
                  rw [← hQ]
                  exact ⟨rfl, _, rfl, _, _, (RefV.trans (RefV.frz (Nat.zero_le _) (id := 2) rfl (pures_map y_1024 eTGroup (fun _ => rfl))) (RefV.out (by first | rfl | simp only [go_sem, reduceIte, Nat.reduceEqDiff, Nat.reduceAdd, e_2, e_4, e_12, e_14, e_16, e_1022, e_1027]))), rfl, rfl⟩
                · rw [if_neg h_1026] at h
                  have e_1027 : y_1023 = false := bfalse h_1026
                  simp only [e_2, e_4, e_12, e_14, e_16, e_1022, e_1027, go_sem, reduceIte, reduceCtorEq, Nat.reduceEqDiff, Nat.reduceLT, Nat.reduceLeDiff, Nat.reduceAdd, Nat.reduceSub, Nat.reduceMul, Int.reduceToNat, Int.reduceLE, Int.reduceLT, Int.reduceAdd, Int.reduceSub, Int.reduceMul, Int.reduceEq, Int.reduceNeg]
                  have g_0 := Option.some.inj h
                  obtain ⟨k_1, g_1⟩ := Prod.mk.inj g_0
                  subst k_1
                  subst g_1
                  rw [← hQ]
                  exact ⟨rfl, _, rfl, _, _, (RefV.trans (RefV.out (v' := .tup [.vec true [], .bool false]) rfl) (RefV.weak (Wks.cons (Wk.tup (Wks.cons Wk.vec (Wks.cons (Wk.refl _) (Wks.nil)))) Wks.nil) (WkH.refl _))), rfl, rfl⟩
              · rw [if_neg h_1021] at h
                have e_1022 : (0 ≤ y_1018) = False := eq_false h_1021
                simp only [e_2, e_4, e_12, e_14, e_16, e_1022, go_sem, reduceIte, reduceCtorEq, Nat.reduceEqDiff, Nat.reduceLT, Nat.reduceLeDiff, Nat.reduceAdd, Nat.reduceSub, Nat.reduceMul, Int.reduceToNat, Int.reduceLE, Int.reduceLT, Int.reduceAdd, Int.reduceSub, Int.reduceMul, Int.reduceEq, Int.reduceNeg]
                by_cases h_1028 : 0 ≤ y_1019
                · rw [if_pos h_1028] at h
                  have e_1029 : (0 ≤ y_1019) = True := eq_true h_1028
                  obtain ⟨⟨y_1030, y_1031⟩, h_1032, h⟩ := bindS h
                  try dsimp only at h
                  simp only [e_2, e_4, e_12, e_14, e_16, e_1022, e_1029, go_sem, reduceIte, reduceCtorEq, Nat.reduceEqDiff, Nat.reduceLT, Nat.reduceLeDiff, Nat.reduceAdd, Nat.reduceSub, Nat.reduceMul, Int.reduceToNat, Int.reduceLE, Int.reduceLT, Int.reduceAdd, Int.reduceSub, Int.reduceMul, Int.reduceEq, Int.reduceNeg]
                  refine ACalls.use (gdef_list_segments_nil_w N _ _ _ _ _ _ h_1032) [1] (by decide) ⟨(by first | rfl | simp only [go_sem, reduceIte, Nat.reduceEqDiff, Nat.reduceAdd, e_2, e_4, e_12, e_14, e_16, e_1022, e_1029]), trivial⟩ rfl (v' := .bool y_1030) (by first | rfl | simp only [go_sem, reduceIte, Nat.reduceEqDiff, Nat.reduceAdd, e_2, e_4, e_12, e_14, e_16, e_1022, e_1029]) (H' := [.box [.int .i64 y_1018, .int .i64 y_1019] 110, .box [.row 2 0 y_1031.length, .int .i64 a_2] 113, .mem 3 (List.map eTGroup y_1031) 76]) (by first | rfl | simp only [go_sem, reduceIte, Nat.reduceEqDiff, Nat.reduceAdd, e_2, e_4, e_12, e_14, e_16, e_1022, e_1029]) ?_
                  refine CallK_go (Nat.zero_le _) ?_
                  simp only [e_2, e_4, e_12, e_14, e_16, e_1022, e_1029, go_sem, reduceIte, reduceCtorEq, Nat.reduceEqDiff, Nat.reduceLT, Nat.reduceLeDiff, Nat.reduceAdd, Nat.reduceSub, Nat.reduceMul, Int.reduceToNat, Int.reduceLE, Int.reduceLT, Int.reduceAdd, Int.reduceSub, Int.reduceMul, Int.reduceEq, Int.reduceNeg]
                  by_cases h_1033 : y_1030 = true
                  · rw [if_pos h_1033] at h
                    have e_1034 : y_1030 = true := h_1033
                    simp only [e_2, e_4, e_12, e_14, e_16, e_1022, e_1029, e_1034, go_sem, reduceIte, reduceCtorEq, Nat.reduceEqDiff, Nat.reduceLT, Nat.reduceLeDiff, Nat.reduceAdd, Nat.reduceSub, Nat.reduceMul, Int.reduceToNat, Int.reduceLE, Int.reduceLT, Int.reduceAdd, Int.reduceSub, Int.reduceMul, Int.reduceEq, Int.reduceNeg]
                    have g_0 := Option.some.inj h
                    obtain ⟨k_1, g_1⟩ := Prod.mk.inj g_0
                    subst k_1
                    subst g_1
                    rw [← hQ]
                    exact ⟨rfl, _, rfl, _, _, (RefV.trans (RefV.frz (Nat.zero_le _) (id := 2) rfl (pures_map y_1031 eTGroup (fun _ => rfl))) (RefV.out (by first | rfl | simp only [go_sem, reduceIte, Nat.reduceEqDiff, Nat.reduceAdd, e_2, e_4, e_12, e_14, e_16, e_1022, e_1029, e_1034]))), rfl, rfl⟩
                  · rw [if_neg h_1033] at h
                    have e_1034 : y_1030 = false := bfalse h_1033
                    simp only [e_2, e_4, e_12, e_14, e_16, e_1022, e_1029, e_1034, go_sem, reduceIte, reduceCtorEq, Nat.reduceEqDiff, Nat.reduceLT, Nat.reduceLeDiff, Nat.reduceAdd, Nat.reduceSub, Nat.reduceMul, Int.reduceToNat, Int.reduceLE, Int.reduceLT, Int.reduceAdd, Int.reduceSub, Int.reduceMul, Int.reduceEq, Int.reduceNeg]
                    have g_0 := Option.some.inj h
                    obtain ⟨k_1, g_1⟩ := Prod.mk.inj g_0
                    subst k_1
                    subst g_1
                    rw [← hQ]
                    exact ⟨rfl, _, rfl, _, _, (RefV.trans (RefV.out (v' := .tup [.vec true [], .bool false]) rfl) (RefV.weak (Wks.cons (Wk.tup (Wks.cons Wk.vec (Wks.cons (Wk.refl _) (Wks.nil)))) Wks.nil) (WkH.refl _))), rfl, rfl⟩
                · rw [if_neg h_1028] at h
                  have e_1029 : (0 ≤ y_1019) = False := eq_false h_1028
                  simp only [e_2, e_4, e_12, e_14, e_16, e_1022, e_1029, go_sem, reduceIte, reduceCtorEq, Nat.reduceEqDiff, Nat.reduceLT, Nat.reduceLeDiff, Nat.reduceAdd, Nat.reduceSub, Nat.reduceMul, Int.reduceToNat, Int.reduceLE, Int.reduceLT, Int.reduceAdd, Int.reduceSub, Int.reduceMul, Int.reduceEq, Int.reduceNeg]
                  have g_0 := Option.some.inj h
                  obtain ⟨k_1, g_1⟩ := Prod.mk.inj g_0
                  subst k_1
                  subst g_1
                  rw [← hQ]
                  exact ⟨rfl, _, rfl, _, _, (RefV.trans (RefV.out (v' := .tup [.vec true [], .bool true]) rfl) (RefV.weak (Wks.cons (Wk.tup (Wks.cons Wk.vec (Wks.cons (Wk.refl _) (Wks.nil)))) Wks.nil) (WkH.refl _))), rfl, rfl⟩
            · try dsimp only at h
              refine LoopK_ret ?_
              have g_0 := Option.some.inj h
              obtain ⟨k_1, g_1⟩ := Prod.mk.inj g_0
              subst k_1
              subst g_1
              rw [← hQ]
              exact ⟨rfl, _, rfl, _, _, (RefV.trans (RefV.out (v' := .tup [.vec true [], .bool false]) rfl) (RefV.weak (Wks.cons (Wk.tup (Wks.cons Wk.vec (Wks.cons (Wk.refl _) (Wks.nil)))) Wks.nil) (WkH.refl _))), rfl, rfl⟩
        · rw [if_neg h_13] at h
          have e_14 : (y_5 = 0) = False := eq_false h_13
          simp only [e_2, e_4, e_12, e_14, go_sem, reduceIte, reduceCtorEq, Nat.reduceEqDiff, Nat.reduceLT, Nat.reduceLeDiff, Nat.reduceAdd, Nat.reduceSub, Nat.reduceMul, Int.reduceToNat, Int.reduceLE, Int.reduceLT, Int.reduceAdd, Int.reduceSub, Int.reduceMul, Int.reduceEq, Int.reduceNeg]
          have g_0 := Option.some.inj h
          obtain ⟨k_1, g_1⟩ := Prod.mk.inj g_0
          subst k_1
          subst g_1
          rw [← hQ]
          exact ⟨rfl, _, rfl, _, _, (RefV.trans (RefV.out (v' := .tup [.vec true [], .bool false]) rfl) (RefV.weak (Wks.cons (Wk.tup (Wks.cons Wk.vec (Wks.cons (Wk.refl _) (Wks.nil)))) Wks.nil) (WkH.refl _))), rfl, rfl⟩
      · rw [if_neg h_11] at h
        have e_12 : y_9 = false := bfalse h_11
        simp only [e_2, e_4, e_12, go_sem, reduceIte, reduceCtorEq, Nat.reduceEqDiff, Nat.reduceLT, Nat.reduceLeDiff, Nat.reduceAdd, Nat.reduceSub, Nat.reduceMul, Int.reduceToNat, Int.reduceLE, Int.reduceLT, Int.reduceAdd, Int.reduceSub, Int.reduceMul, Int.reduceEq, Int.reduceNeg]
        have g_0 := Option.some.inj h
        obtain ⟨k_1, g_1⟩ := Prod.mk.inj g_0
        subst k_1
        subst g_1
        rw [← hQ]
        exact ⟨rfl, _, rfl, _, _, (RefV.trans (RefV.out (v' := .tup [.vec true [], .bool false]) rfl) (RefV.weak (Wks.cons (Wk.tup (Wks.cons Wk.vec (Wks.cons (Wk.refl _) (Wks.nil)))) Wks.nil) (WkH.refl _))), rfl, rfl⟩
theorem ref15_Groups_L1_w (N : Nat) (l_0 : List TGroup) (l_1 : List TGroup) (c_0 : Bool) (c_1 : Bool) {R : AExit → ATm → List AObj → Prop} : ∀ (n : Nat) (i_3 : Int) (o : (Unit) ⊕ (Unit)), ref15_Groups_L1 N l_0 l_1 n i_3 = some o → (match o with | .inl _ => R (.exit 0) ⟨26, [], []⟩ [] | .inr (_) => R .ret ⟨26, [(4, .bool false)], []⟩ []) →
    ALp Go.Proofs.Try.prog 0 B52_1 ⟨26, [(0, .vec c_0 (List.map eTGroup l_0)), (1, .vec c_1 (List.map eTGroup l_1)), (5, .int .i64 i_3)], []⟩ [] R := by
  intro n
  induction n with
  | zero =>
    intro i_3 o h _
    have h0 : none = some o := h
    cases h0
  | succ n ih =>
    intro i_3 o h hp
    rw [ref15_Groups_L1] at h
    refine ALp.round ?_
    generalize hQ : RoundQ _ _ _ _ = QQ
    simp only [B52_1, A52, go_sem, reduceIte, reduceCtorEq, Nat.reduceEqDiff, Nat.reduceLT, Nat.reduceLeDiff, Nat.reduceAdd, Nat.reduceSub, Nat.reduceMul, Int.reduceToNat, Int.reduceLE, Int.reduceLT, Int.reduceAdd, Int.reduceSub, Int.reduceMul, Int.reduceEq, Int.reduceNeg]
    by_cases h_4 : i_3 < (l_0.length : Int)
    · rw [if_pos h_4] at h
      have e_5 : (i_3 < (l_0.length : Int)) = True := eq_true h_4
      obtain ⟨x_6, h_7, h⟩ := bindS h
      have e_8 : (List.map eTGroup l_0)[(i_3).toNat]? = some [.int .i32 x_6.From, .int .i32 x_6.To, .int .i64 x_6.Glyph] := atI_map eTGroup h_7
      have e_9 : ((0 : Int) ≤ i_3) = True := eq_true (atI_some h_7).1
      have e_10 : ((i_3 : Int) < (l_0.length : Int)) = True := eq_true (atI_lt h_7)
      obtain ⟨x_11, h_12, h⟩ := bindS h
      have e_13 : (List.map eTGroup l_1)[(i_3).toNat]? = some [.int .i32 x_11.From, .int .i32 x_11.To, .int .i64 x_11.Glyph] := atI_map eTGroup h_12
      have e_14 : ((0 : Int) ≤ i_3) = True := eq_true (atI_some h_12).1
      have e_15 : ((i_3 : Int) < (l_1.length : Int)) = True := eq_true (atI_lt h_12)
      simp only [e_5, e_8, e_9, e_10, e_13, e_14, e_15, go_sem, reduceIte, reduceCtorEq, Nat.reduceEqDiff, Nat.reduceLT, Nat.reduceLeDiff, Nat.reduceAdd, Nat.reduceSub, Nat.reduceMul, Int.reduceToNat, Int.reduceLE, Int.reduceLT, Int.reduceAdd, Int.reduceSub, Int.reduceMul, Int.reduceEq, Int.reduceNeg]
      by_cases h_16 : x_6.From = x_11.From
      · rw [if_pos h_16] at h
        have e_17 : (x_6.From = x_11.From) = True := eq_true h_16
        simp only [e_5, e_8, e_9, e_10, e_13, e_14, e_15, e_17, go_sem, reduceIte, reduceCtorEq, Nat.reduceEqDiff, Nat.reduceLT, Nat.reduceLeDiff, Nat.reduceAdd, Nat.reduceSub, Nat.reduceMul, Int.reduceToNat, Int.reduceLE, Int.reduceLT, Int.reduceAdd, Int.reduceSub, Int.reduceMul, Int.reduceEq, Int.reduceNeg]
        by_cases h_18 : x_6.To = x_11.To
        · rw [if_pos h_18] at h
          have e_19 : (x_6.To = x_11.To) = True := eq_true h_18
          simp only [e_5, e_8, e_9, e_10, e_13, e_14, e_15, e_17, e_19, go_sem, reduceIte, reduceCtorEq, Nat.reduceEqDiff, Nat.reduceLT, Nat.reduceLeDiff, Nat.reduceAdd, Nat.reduceSub, Nat.reduceMul, Int.reduceToNat, Int.reduceLE, Int.reduceLT, Int.reduceAdd, Int.reduceSub, Int.reduceMul, Int.reduceEq, Int.reduceNeg]
          by_cases h_20 : x_6.Glyph = x_11.Glyph
          · rw [if_pos h_20] at h
            have e_21 : (x_6.Glyph = x_11.Glyph) = True := eq_true h_20
            simp only [e_5, e_8, e_9, e_10, e_13, e_14, e_15, e_17, e_19, e_21, go_sem, reduceIte, reduceCtorEq, Nat.reduceEqDiff, Nat.reduceLT, Nat.reduceLeDiff, Nat.reduceAdd, Nat.reduceSub, Nat.reduceMul, Int.reduceToNat, Int.reduceLE, Int.reduceLT, Int.reduceAdd, Int.reduceSub, Int.reduceMul, Int.reduceEq, Int.reduceNeg]
            rw [← hQ]
            exact ⟨_, _, (Ref.out [0, 1, 5] rfl), (Nat.zero_le _), ih _ _ h hp⟩
          · rw [if_neg h_20] at h
            have e_21 : (x_6.Glyph = x_11.Glyph) = False := eq_false h_20
            simp only [e_5, e_8, e_9, e_10, e_13, e_14, e_15, e_17, e_19, e_21, go_sem, reduceIte, reduceCtorEq, Nat.reduceEqDiff, Nat.reduceLT, Nat.reduceLeDiff, Nat.reduceAdd, Nat.reduceSub, Nat.reduceMul, Int.reduceToNat, Int.reduceLE, Int.reduceLT, Int.reduceAdd, Int.reduceSub, Int.reduceMul, Int.reduceEq, Int.reduceNeg]
            have g := Option.some.inj h
            subst g
            rw [← hQ]
            exact ⟨_, _, (Ref.out [4] rfl), hp⟩
        · rw [if_neg h_18] at h
          have e_19 : (x_6.To = x_11.To) = False := eq_false h_18
          simp only [e_5, e_8, e_9, e_10, e_13, e_14, e_15, e_17, e_19, go_sem, reduceIte, reduceCtorEq, Nat.reduceEqDiff, Nat.reduceLT, Nat.reduceLeDiff, Nat.reduceAdd, Nat.reduceSub, Nat.reduceMul, Int.reduceToNat, Int.reduceLE, Int.reduceLT, Int.reduceAdd, Int.reduceSub, Int.reduceMul, Int.reduceEq, Int.reduceNeg]
          have g := Option.some.inj h
          subst g
          rw [← hQ]
          exact ⟨_, _, (Ref.out [4] rfl), hp⟩
      · rw [if_neg h_16] at h
        have e_17 : (x_6.From = x_11.From) = False := eq_false h_16
        simp only [e_5, e_8, e_9, e_10, e_13, e_14, e_15, e_17, go_sem, reduceIte, reduceCtorEq, Nat.reduceEqDiff, Nat.reduceLT, Nat.reduceLeDiff, Nat.reduceAdd, Nat.reduceSub, Nat.reduceMul, Int.reduceToNat, Int.reduceLE, Int.reduceLT, Int.reduceAdd, Int.reduceSub, Int.reduceMul, Int.reduceEq, Int.reduceNeg]
        have g := Option.some.inj h
        subst g
        rw [← hQ]
        exact ⟨_, _, (Ref.out [4] rfl), hp⟩
    · rw [if_neg h_4] at h
      have e_5 : (i_3 < (l_0.length : Int)) = False := eq_false h_4
      simp only [e_5, go_sem, reduceIte, reduceCtorEq, Nat.reduceEqDiff, Nat.reduceLT, Nat.reduceLeDiff, Nat.reduceAdd, Nat.reduceSub, Nat.reduceMul, Int.reduceToNat, Int.reduceLE, Int.reduceLT, Int.reduceAdd, Int.reduceSub, Int.reduceMul, Int.reduceEq, Int.reduceNeg]
      have g := Option.some.inj h
      subst g
      rw [← hQ]
      exact ⟨_, _, (Ref.out [] rfl), hp⟩
theorem ref15_Groups_w (N : Nat) (l_0 : List TGroup) (l_1 : List TGroup) (c_0 : Bool) (c_1 : Bool) (z_1 : Bool) (h : ref15_Groups N l_0 l_1 = some z_1) :
    ACalls Go.Proofs.Try.prog 52 [.vec c_0 (List.map eTGroup l_0), .vec c_1 (List.map eTGroup l_1)] [] (fun e H => H = [] ∧ e = .ret (.bool z_1)) := by
  unfold ref15_Groups at h
  refine ACalls.goN Go.Proofs.Try.func52 n52 a52 Go.Proofs.Try.ntmps52 r52 (by simp) 0 rfl ?_
  generalize hQ : bodyA _ _ _ = QQ
  simp only [A52, go_sem, reduceIte, reduceCtorEq, Nat.reduceEqDiff, Nat.reduceLT, Nat.reduceLeDiff, Nat.reduceAdd, Nat.reduceSub, Nat.reduceMul, Int.reduceToNat, Int.reduceLE, Int.reduceLT, Int.reduceAdd, Int.reduceSub, Int.reduceMul, Int.reduceEq, Int.reduceNeg]
  by_cases h_1 : (l_0.length : Int) = (l_1.length : Int)
  · rw [if_pos h_1] at h
    have e_2 : ((l_0.length : Int) = (l_1.length : Int)) = True := eq_true h_1
    simp only [e_2, go_sem, reduceIte, reduceCtorEq, Nat.reduceEqDiff, Nat.reduceLT, Nat.reduceLeDiff, Nat.reduceAdd, Nat.reduceSub, Nat.reduceMul, Int.reduceToNat, Int.reduceLE, Int.reduceLT, Int.reduceAdd, Int.reduceSub, Int.reduceMul, Int.reduceEq, Int.reduceNeg]
    obtain ⟨o_1004, h_1003, h⟩ := bindS h
    refine ALp.ref (Ref.out [0, 1, 5] rfl) (Nat.zero_le _) (ref15_Groups_L1_w N _ _ c_0 c_1 N _ o_1004 h_1003 ?_)
    rcases o_1004 with _ | _
    · try dsimp only at h
      refine LoopK_go rfl (Nat.zero_le _) ?_
      simp only [e_2, go_sem, reduceIte, reduceCtorEq, Nat.reduceEqDiff, Nat.reduceLT, Nat.reduceLeDiff, Nat.reduceAdd, Nat.reduceSub, Nat.reduceMul, Int.reduceToNat, Int.reduceLE, Int.reduceLT, Int.reduceAdd, Int.reduceSub, Int.reduceMul, Int.reduceEq, Int.reduceNeg]
      have g_0 := Option.some.inj h
      subst g_0
      rw [← hQ]
      exact ⟨rfl, _, rfl, _, _, (RefV.out rfl), rfl, rfl⟩
    · try dsimp only at h
      refine LoopK_ret ?_
      have g_0 := Option.some.inj h
      subst g_0
      rw [← hQ]
      exact ⟨rfl, _, rfl, _, _, (RefV.out rfl), rfl, rfl⟩
  · rw [if_neg h_1] at h
    have e_2 : ((l_0.length : Int) = (l_1.length : Int)) = False := eq_false h_1
    simp only [e_2, go_sem, reduceIte, reduceCtorEq, Nat.reduceEqDiff, Nat.reduceLT, Nat.reduceLeDiff, Nat.reduceAdd, Nat.reduceSub, Nat.reduceMul, Int.reduceToNat, Int.reduceLE, Int.reduceLT, Int.reduceAdd, Int.reduceSub, Int.reduceMul, Int.reduceEq, Int.reduceNeg]
    have g_0 := Option.some.inj h
    subst g_0
    rw [← hQ]
    exact ⟨rfl, _, rfl, _, _, (RefV.out rfl), rfl, rfl⟩
theorem law15_GdefBehind_w (N : Nat) (l_0 : List Int) (l_1 : List Int) (a_2 : Int) (c_0 : Bool) (c_1 : Bool) (z_1 : Bool) (h : law15_GdefBehind N l_0 l_1 a_2 = some z_1) :
    ACalls Go.Proofs.Try.prog 16 [.vec c_0 (List.map eU8 l_0), .vec c_1 (List.map eU8 l_1), .int .i64 a_2] [] (fun e H => H = [] ∧ e = .ret (.bool z_1)) := by
  unfold law15_GdefBehind at h
  refine ACalls.goN Go.Proofs.Try.func16 n16 a16 Go.Proofs.Try.ntmps16 r16 (by simp) 0 rfl ?_
  generalize hQ : bodyA _ _ _ = QQ
  simp only [A16, go_sem, reduceIte, reduceCtorEq, Nat.reduceEqDiff, Nat.reduceLT, Nat.reduceLeDiff, Nat.reduceAdd, Nat.reduceSub, Nat.reduceMul, Int.reduceToNat, Int.reduceLE, Int.reduceLT, Int.reduceAdd, Int.reduceSub, Int.reduceMul, Int.reduceEq, Int.reduceNeg]
  refine ACalls.use0 alive15 rfl rfl ?_
  refine CallK_go (Nat.zero_le _) ?_
  simp only [go_sem, reduceIte, reduceCtorEq, Nat.reduceEqDiff, Nat.reduceLT, Nat.reduceLeDiff, Nat.reduceAdd, Nat.reduceSub, Nat.reduceMul, Int.reduceToNat, Int.reduceLE, Int.reduceLT, Int.reduceAdd, Int.reduceSub, Int.reduceMul, Int.reduceEq, Int.reduceNeg]
  by_cases h_1 : 1000 < (l_0.length : Int)
  · rw [if_pos h_1] at h
    have e_2 : (1000 < (l_0.length : Int)) = True := eq_true h_1
    simp only [e_2, go_sem, reduceIte, reduceCtorEq, Nat.reduceEqDiff, Nat.reduceLT, Nat.reduceLeDiff, Nat.reduceAdd, Nat.reduceSub, Nat.reduceMul, Int.reduceToNat, Int.reduceLE, Int.reduceLT, Int.reduceAdd, Int.reduceSub, Int.reduceMul, Int.reduceEq, Int.reduceNeg]
    have g_0 := Option.some.inj h
    subst g_0
    rw [← hQ]
    exact ⟨rfl, _, rfl, _, _, (RefV.out rfl), rfl, rfl⟩
  · rw [if_neg h_1] at h
    have e_2 : (1000 < (l_0.length : Int)) = False := eq_false h_1
    simp only [e_2, go_sem, reduceIte, reduceCtorEq, Nat.reduceEqDiff, Nat.reduceLT, Nat.reduceLeDiff, Nat.reduceAdd, Nat.reduceSub, Nat.reduceMul, Int.reduceToNat, Int.reduceLE, Int.reduceLT, Int.reduceAdd, Int.reduceSub, Int.reduceMul, Int.reduceEq, Int.reduceNeg]
    by_cases h_3 : 300 < (l_1.length : Int)
    · rw [if_pos h_3] at h
      have e_4 : (300 < (l_1.length : Int)) = True := eq_true h_3
      simp only [e_2, e_4, go_sem, reduceIte, reduceCtorEq, Nat.reduceEqDiff, Nat.reduceLT, Nat.reduceLeDiff, Nat.reduceAdd, Nat.reduceSub, Nat.reduceMul, Int.reduceToNat, Int.reduceLE, Int.reduceLT, Int.reduceAdd, Int.reduceSub, Int.reduceMul, Int.reduceEq, Int.reduceNeg]
      have g_0 := Option.some.inj h
      subst g_0
      rw [← hQ]
      exact ⟨rfl, _, rfl, _, _, (RefV.out rfl), rfl, rfl⟩
    · rw [if_neg h_3] at h
      have e_4 : (300 < (l_1.length : Int)) = False := eq_false h_3
      have e_5 : ((List.map eU8 l_0)).all (fun el => el.length == 1) = true := all_len _ eU8 1 (fun _ => rfl)
      obtain ⟨h_6, h⟩ := guardS h
      have e_7 : (l_0.length ≤ 140737488355328) = True := eq_true h_6
      have e_8 : List.take l_0.length (List.map eU8 l_0) = (List.map eU8 l_0) := List.take_of_length_le (by simp)
      have e_9 : ((List.map eU8 l_1)).all (fun el => el.length == 1) = true := all_len _ eU8 1 (fun _ => rfl)
      have e_10 : (List.map eU8 l_0) ++ (List.map eU8 l_1) = (List.map eU8 (l_0 ++ l_1)) := app_map l_0 l_1 eU8
      obtain ⟨h_11, h⟩ := guardS h
      have e_12 : (l_0.length + l_1.length ≤ 140737488355328) = True := eq_true h_11
      obtain ⟨⟨y_13, y_14, y_15, y_16⟩, h_17, h⟩ := bindS h
      try dsimp only at h
      simp only [e_2, e_4, e_5, e_7, e_8, e_9, e_10, e_12, go_sem, reduceIte, reduceCtorEq, Nat.reduceEqDiff, Nat.reduceLT, Nat.reduceLeDiff, Nat.reduceAdd, Nat.reduceSub, Nat.reduceMul, Int.reduceToNat, Int.reduceLE, Int.reduceLT, Int.reduceAdd, Int.reduceSub, Int.reduceMul, Int.reduceEq, Int.reduceNeg]
      refine ACalls.use0 (gdef_Read_w N _ _ _ _ _ _ _ h_17) rfl rfl ?_
      refine CallK_ref (ta1 := ⟨75, [(0, .vec c_0 (List.map eU8 l_0)), (2, .int .i64 a_2), (7, .vec false (List.map eU8 (l_0 ++ l_1))), (34, .tup [.agg [.vec false (List.map eTClass y_13), .vec false (List.map eTClass y_14), .vec false (List.map eLTSpan y_15)], .bool y_16])], []⟩) (H1 := []) (Ref.trans (Ref.frz (Nat.zero_le _) (id := 1) rfl (pures_map (l_0 ++ l_1) eU8 (fun _ => rfl))) (Ref.out [0, 2, 7, 34] (by first | rfl | simp only [go_sem, reduceIte, Nat.reduceEqDiff, Nat.reduceAdd, e_2, e_4]))) (Nat.zero_le _) ?_
      obtain ⟨⟨y_18, y_19, y_20, y_21⟩, h_22, h⟩ := bindS h
      try dsimp only at h
      simp only [e_2, e_4, e_5, e_7, e_8, e_9, e_10, e_12, go_sem, reduceIte, reduceCtorEq, Nat.reduceEqDiff, Nat.reduceLT, Nat.reduceLeDiff, Nat.reduceAdd, Nat.reduceSub, Nat.reduceMul, Int.reduceToNat, Int.reduceLE, Int.reduceLT, Int.reduceAdd, Int.reduceSub, Int.reduceMul, Int.reduceEq, Int.reduceNeg]
      refine ACalls.use0 (gdef_Read_w N _ _ _ _ _ _ _ h_22) rfl rfl ?_
      refine CallK_go (Nat.zero_le _) ?_
      simp only [e_2, e_4, e_5, e_7, e_8, e_9, e_10, e_12, go_sem, reduceIte, reduceCtorEq, Nat.reduceEqDiff, Nat.reduceLT, Nat.reduceLeDiff, Nat.reduceAdd, Nat.reduceSub, Nat.reduceMul, Int.reduceToNat, Int.reduceLE, Int.reduceLT, Int.reduceAdd, Int.reduceSub, Int.reduceMul, Int.reduceEq, Int.reduceNeg]
      by_cases h_23 : y_16 = true
      · rw [if_pos h_23] at h
        have e_24 : y_16 = true := h_23
        simp only [e_2, e_4, e_5, e_7, e_8, e_9, e_10, e_12, e_24, go_sem, reduceIte, reduceCtorEq, Nat.reduceEqDiff, Nat.reduceLT, Nat.reduceLeDiff, Nat.reduceAdd, Nat.reduceSub, Nat.reduceMul, Int.reduceToNat, Int.reduceLE, Int.reduceLT, Int.reduceAdd, Int.reduceSub, Int.reduceMul, Int.reduceEq, Int.reduceNeg]
        by_cases h_25 : y_21 = true
        · rw [if_pos h_25] at h
          have e_26 : y_21 = true := h_25
          obtain ⟨y_27, h_28, h⟩ := bindS h
          simp only [e_2, e_4, e_5, e_7, e_8, e_9, e_10, e_12, e_24, e_26, go_sem, reduceIte, reduceCtorEq, Nat.reduceEqDiff, Nat.reduceLT, Nat.reduceLeDiff, Nat.reduceAdd, Nat.reduceSub, Nat.reduceMul, Int.reduceToNat, Int.reduceLE, Int.reduceLT, Int.reduceAdd, Int.reduceSub, Int.reduceMul, Int.reduceEq, Int.reduceNeg]
          refine ACalls.use0 (ref15_Same_w N _ _ _ _ _ _ _ _ _ _ _ _ _ h_28) rfl rfl ?_
          refine CallK_go (Nat.zero_le _) ?_
          simp only [e_2, e_4, e_5, e_7, e_8, e_9, e_10, e_12, e_24, e_26, go_sem, reduceIte, reduceCtorEq, Nat.reduceEqDiff, Nat.reduceLT, Nat.reduceLeDiff, Nat.reduceAdd, Nat.reduceSub, Nat.reduceMul, Int.reduceToNat, Int.reduceLE, Int.reduceLT, Int.reduceAdd, Int.reduceSub, Int.reduceMul, Int.reduceEq, Int.reduceNeg]
          by_cases h_29 : y_27 = true
          · rw [if_pos h_29] at h
            have e_30 : y_27 = true := h_29
            obtain ⟨⟨y_31, y_32⟩, h_33, h⟩ := bindS h
            try dsimp only at h
            simp only [e_2, e_4, e_5, e_7, e_8, e_9, e_10, e_12, e_24, e_26, e_30, go_sem, reduceIte, reduceCtorEq, Nat.reduceEqDiff, Nat.reduceLT, Nat.reduceLeDiff, Nat.reduceAdd, Nat.reduceSub, Nat.reduceMul, Int.reduceToNat, Int.reduceLE, Int.reduceLT, Int.reduceAdd, Int.reduceSub, Int.reduceMul, Int.reduceEq, Int.reduceNeg]
            refine ACalls.use0 (gdef_Codes_w N _ _ _ _ _ _ h_33) rfl rfl ?_
            refine CallK_go (Nat.zero_le _) ?_
            obtain ⟨⟨y_34, y_35⟩, h_36, h⟩ := bindS h
            try dsimp only at h
            simp only [e_2, e_4, e_5, e_7, e_8, e_9, e_10, e_12, e_24, e_26, e_30, go_sem, reduceIte, reduceCtorEq, Nat.reduceEqDiff, Nat.reduceLT, Nat.reduceLeDiff, Nat.reduceAdd, Nat.reduceSub, Nat.reduceMul, Int.reduceToNat, Int.reduceLE, Int.reduceLT, Int.reduceAdd, Int.reduceSub, Int.reduceMul, Int.reduceEq, Int.reduceNeg]
            refine ACalls.use0 (gdef_Codes_w N _ _ _ _ _ _ h_36) rfl rfl ?_
            refine CallK_go (Nat.zero_le _) ?_
            simp only [e_2, e_4, e_5, e_7, e_8, e_9, e_10, e_12, e_24, e_26, e_30, go_sem, reduceIte, reduceCtorEq, Nat.reduceEqDiff, Nat.reduceLT, Nat.reduceLeDiff, Nat.reduceAdd, Nat.reduceSub, Nat.reduceMul, Int.reduceToNat, Int.reduceLE, Int.reduceLT, Int.reduceAdd, Int.reduceSub, Int.reduceMul, Int.reduceEq, Int.reduceNeg]
            by_cases h_37 : y_32 = true
            · rw [if_pos h_37] at h
              have e_38 : y_32 = true := h_37
              simp only [e_2, e_4, e_5, e_7, e_8, e_9, e_10, e_12, e_24, e_26, e_30, e_38, go_sem, reduceIte, reduceCtorEq, Nat.reduceEqDiff, Nat.reduceLT, Nat.reduceLeDiff, Nat.reduceAdd, Nat.reduceSub, Nat.reduceMul, Int.reduceToNat, Int.reduceLE, Int.reduceLT, Int.reduceAdd, Int.reduceSub, Int.reduceMul, Int.reduceEq, Int.reduceNeg]
              by_cases h_39 : y_35 = true
              · rw [if_pos h_39] at h
                have e_40 : y_35 = true := h_39
                obtain ⟨y_41, h_42, h⟩ := bindS h
                simp only [e_2, e_4, e_5, e_7, e_8, e_9, e_10, e_12, e_24, e_26, e_30, e_38, e_40, go_sem, reduceIte, reduceCtorEq, Nat.reduceEqDiff, Nat.reduceLT, Nat.reduceLeDiff, Nat.reduceAdd, Nat.reduceSub, Nat.reduceMul, Int.reduceToNat, Int.reduceLE, Int.reduceLT, Int.reduceAdd, Int.reduceSub, Int.reduceMul, Int.reduceEq, Int.reduceNeg]
                refine ACalls.use0 (ref15_Groups_w N _ _ _ _ _ h_42) rfl rfl ?_
                refine CallK_go (Nat.zero_le _) ?_
                simp only [e_2, e_4, e_5, e_7, e_8, e_9, e_10, e_12, e_24, e_26, e_30, e_38, e_40, go_sem, reduceIte, reduceCtorEq, Nat.reduceEqDiff, Nat.reduceLT, Nat.reduceLeDiff, Nat.reduceAdd, Nat.reduceSub, Nat.reduceMul, Int.reduceToNat, Int.reduceLE, Int.reduceLT, Int.reduceAdd, Int.reduceSub, Int.reduceMul, Int.reduceEq, Int.reduceNeg]
                have g_0 := Option.some.inj h
                subst g_0
                rw [← hQ]
                exact ⟨rfl, _, rfl, _, _, (RefV.out (by first | rfl | simp only [go_sem, reduceIte, Nat.reduceEqDiff, Nat.reduceAdd, e_2, e_4, e_24, e_26, e_30, e_38, e_40])), rfl, rfl⟩
              · rw [if_neg h_39] at h
                have e_40 : y_35 = false := bfalse h_39
                simp only [e_2, e_4, e_5, e_7, e_8, e_9, e_10, e_12, e_24, e_26, e_30, e_38, e_40, go_sem, reduceIte, reduceCtorEq, Nat.reduceEqDiff, Nat.reduceLT, Nat.reduceLeDiff, Nat.reduceAdd, Nat.reduceSub, Nat.reduceMul, Int.reduceToNat, Int.reduceLE, Int.reduceLT, Int.reduceAdd, Int.reduceSub, Int.reduceMul, Int.reduceEq, Int.reduceNeg]
                have g_0 := Option.some.inj h
                subst g_0
                rw [← hQ]
                exact ⟨rfl, _, rfl, _, _, (RefV.out rfl), rfl, rfl⟩
            · rw [if_neg h_37] at h
              have e_38 : y_32 = false := bfalse h_37
              simp only [e_2, e_4, e_5, e_7, e_8, e_9, e_10, e_12, e_24, e_26, e_30, e_38, go_sem, reduceIte, reduceCtorEq, Nat.reduceEqDiff, Nat.reduceLT, Nat.reduceLeDiff, Nat.reduceAdd, Nat.reduceSub, Nat.reduceMul, Int.reduceToNat, Int.reduceLE, Int.reduceLT, Int.reduceAdd, Int.reduceSub, Int.reduceMul, Int.reduceEq, Int.reduceNeg]
              have g_0 := Option.some.inj h
              subst g_0
              rw [← hQ]
              exact ⟨rfl, _, rfl, _, _, (RefV.out rfl), rfl, rfl⟩
          · rw [if_neg h_29] at h
            have e_30 : y_27 = false := bfalse h_29
            simp only [e_2, e_4, e_5, e_7, e_8, e_9, e_10, e_12, e_24, e_26, e_30, go_sem, reduceIte, reduceCtorEq, Nat.reduceEqDiff, Nat.reduceLT, Nat.reduceLeDiff, Nat.reduceAdd, Nat.reduceSub, Nat.reduceMul, Int.reduceToNat, Int.reduceLE, Int.reduceLT, Int.reduceAdd, Int.reduceSub, Int.reduceMul, Int.reduceEq, Int.reduceNeg]
            have g_0 := Option.some.inj h
            subst g_0
            rw [← hQ]
            exact ⟨rfl, _, rfl, _, _, (RefV.out rfl), rfl, rfl⟩
        · rw [if_neg h_25] at h
          have e_26 : y_21 = false := bfalse h_25
          simp only [e_2, e_4, e_5, e_7, e_8, e_9, e_10, e_12, e_24, e_26, go_sem, reduceIte, reduceCtorEq, Nat.reduceEqDiff, Nat.reduceLT, Nat.reduceLeDiff, Nat.reduceAdd, Nat.reduceSub, Nat.reduceMul, Int.reduceToNat, Int.reduceLE, Int.reduceLT, Int.reduceAdd, Int.reduceSub, Int.reduceMul, Int.reduceEq, Int.reduceNeg]
          have g_0 := Option.some.inj h
          subst g_0
          rw [← hQ]
          exact ⟨rfl, _, rfl, _, _, (RefV.out rfl), rfl, rfl⟩
      · rw [if_neg h_23] at h
        have e_24 : y_16 = false := bfalse h_23
        obtain ⟨⟨y_43, y_44⟩, h_45, h⟩ := bindS h
        try dsimp only at h
        simp only [e_2, e_4, e_5, e_7, e_8, e_9, e_10, e_12, e_24, go_sem, reduceIte, reduceCtorEq, Nat.reduceEqDiff, Nat.reduceLT, Nat.reduceLeDiff, Nat.reduceAdd, Nat.reduceSub, Nat.reduceMul, Int.reduceToNat, Int.reduceLE, Int.reduceLT, Int.reduceAdd, Int.reduceSub, Int.reduceMul, Int.reduceEq, Int.reduceNeg]
        refine ACalls.use0 (gdef_Codes_w N _ _ _ _ _ _ h_45) rfl rfl ?_
        refine CallK_go (Nat.zero_le _) ?_
        obtain ⟨⟨y_46, y_47⟩, h_48, h⟩ := bindS h
        try dsimp only at h
        simp only [e_2, e_4, e_5, e_7, e_8, e_9, e_10, e_12, e_24, go_sem, reduceIte, reduceCtorEq, Nat.reduceEqDiff, Nat.reduceLT, Nat.reduceLeDiff, Nat.reduceAdd, Nat.reduceSub, Nat.reduceMul, Int.reduceToNat, Int.reduceLE, Int.reduceLT, Int.reduceAdd, Int.reduceSub, Int.reduceMul, Int.reduceEq, Int.reduceNeg]
        refine ACalls.use0 (gdef_Codes_w N _ _ _ _ _ _ h_48) rfl rfl ?_
        refine CallK_go (Nat.zero_le _) ?_
        simp only [e_2, e_4, e_5, e_7, e_8, e_9, e_10, e_12, e_24, go_sem, reduceIte, reduceCtorEq, Nat.reduceEqDiff, Nat.reduceLT, Nat.reduceLeDiff, Nat.reduceAdd, Nat.reduceSub, Nat.reduceMul, Int.reduceToNat, Int.reduceLE, Int.reduceLT, Int.reduceAdd, Int.reduceSub, Int.reduceMul, Int.reduceEq, Int.reduceNeg]
        by_cases h_49 : y_44 = true
        · rw [if_pos h_49] at h
          have e_50 : y_44 = true := h_49
          simp only [e_2, e_4, e_5, e_7, e_8, e_9, e_10, e_12, e_24, e_50, go_sem, reduceIte, reduceCtorEq, Nat.reduceEqDiff, Nat.reduceLT, Nat.reduceLeDiff, Nat.reduceAdd, Nat.reduceSub, Nat.reduceMul, Int.reduceToNat, Int.reduceLE, Int.reduceLT, Int.reduceAdd, Int.reduceSub, Int.reduceMul, Int.reduceEq, Int.reduceNeg]
          by_cases h_51 : y_47 = true
          · rw [if_pos h_51] at h
            have e_52 : y_47 = true := h_51
            obtain ⟨y_53, h_54, h⟩ := bindS h
            simp only [e_2, e_4, e_5, e_7, e_8, e_9, e_10, e_12, e_24, e_50, e_52, go_sem, reduceIte, reduceCtorEq, Nat.reduceEqDiff, Nat.reduceLT, Nat.reduceLeDiff, Nat.reduceAdd, Nat.reduceSub, Nat.reduceMul, Int.reduceToNat, Int.reduceLE, Int.reduceLT, Int.reduceAdd, Int.reduceSub, Int.reduceMul, Int.reduceEq, Int.reduceNeg]
            refine ACalls.use0 (ref15_Groups_w N _ _ _ _ _ h_54) rfl rfl ?_
            refine CallK_go (Nat.zero_le _) ?_
            simp only [e_2, e_4, e_5, e_7, e_8, e_9, e_10, e_12, e_24, e_50, e_52, go_sem, reduceIte, reduceCtorEq, Nat.reduceEqDiff, Nat.reduceLT, Nat.reduceLeDiff, Nat.reduceAdd, Nat.reduceSub, Nat.reduceMul, Int.reduceToNat, Int.reduceLE, Int.reduceLT, Int.reduceAdd, Int.reduceSub, Int.reduceMul, Int.reduceEq, Int.reduceNeg]
            have g_0 := Option.some.inj h
            subst g_0
            rw [← hQ]
            exact ⟨rfl, _, rfl, _, _, (RefV.out (by first | rfl | simp only [go_sem, reduceIte, Nat.reduceEqDiff, Nat.reduceAdd, e_2, e_4, e_24, e_50, e_52])), rfl, rfl⟩
          · rw [if_neg h_51] at h
            have e_52 : y_47 = false := bfalse h_51
            simp only [e_2, e_4, e_5, e_7, e_8, e_9, e_10, e_12, e_24, e_50, e_52, go_sem, reduceIte, reduceCtorEq, Nat.reduceEqDiff, Nat.reduceLT, Nat.reduceLeDiff, Nat.reduceAdd, Nat.reduceSub, Nat.reduceMul, Int.reduceToNat, Int.reduceLE, Int.reduceLT, Int.reduceAdd, Int.reduceSub, Int.reduceMul, Int.reduceEq, Int.reduceNeg]
            have g_0 := Option.some.inj h
            subst g_0
            rw [← hQ]
            exact ⟨rfl, _, rfl, _, _, (RefV.out rfl), rfl, rfl⟩
        · rw [if_neg h_49] at h
          have e_50 : y_44 = false := bfalse h_49
          simp only [e_2, e_4, e_5, e_7, e_8, e_9, e_10, e_12, e_24, e_50, go_sem, reduceIte, reduceCtorEq, Nat.reduceEqDiff, Nat.reduceLT, Nat.reduceLeDiff, Nat.reduceAdd, Nat.reduceSub, Nat.reduceMul, Int.reduceToNat, Int.reduceLE, Int.reduceLT, Int.reduceAdd, Int.reduceSub, Int.reduceMul, Int.reduceEq, Int.reduceNeg]
          have g_0 := Option.some.inj h
          subst g_0
          rw [← hQ]
          exact ⟨rfl, _, rfl, _, _, (RefV.out rfl), rfl, rfl⟩
end Go.Proofs.Ytakplhfiohjcmaa.AI
