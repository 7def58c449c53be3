/- Walks, further ones. -/
import Derived.Test.YtakplhfiohjcmaagdW1
set_option linter.unusedVariables false
set_option linter.unusedSimpArgs false
set_option maxRecDepth 100000
set_option maxHeartbeats 1000000
namespace Go.Proofs.Ytakplhfiohjcmaa.AI
open Go.Proofs (Try.prog)
attribute [local go_sem] subs_eU8 subs_eI64 subs_eTClass subs_eTArr3_I64 subs_eTSpan subs_eLTSpan subs_eB
theorem ref15_Read_L1_w (N : Nat) (l_0 : List Int) (a_1 : Int) (y_1 : Int) (c_0 : Bool) {R : AExit → ATm → List AObj → Prop} : ∀ (n : Nat) (i_9 : Int) (s_10 : List TClass) (s_11 : List TClass) (o : ((List TClass) × (List TClass)) ⊕ (Unit)), ref15_Read_L1 N l_0 a_1 y_1 n i_9 s_10 s_11 = some o → (match o with | .inl (z_1, z_2) => R (.exit 0) ⟨143, [(0, .vec c_0 (List.map eU8 l_0)), (1, .int .i64 a_1), (4, .ptr 0 0 0), (6, .ptr 1 0 0), (7, .ptr 2 0 0), (8, .int .i64 y_1)], []⟩ [.box [.vec true [], .vec true [], .vec true []] 70, .box [.vec true [], .vec true [], .vec true []] 70, .box [.vec false (List.map eTClass z_1), .vec false (List.map eTClass z_2), .vec true []] 70] | .inr (_) => R .ret ⟨143, [(4, .ptr 0 0 0), (5, .bool false)], []⟩ [.box [.vec true [], .vec true [], .vec true []] 70]) →
    ALp Go.Proofs.Try.prog 0 B44_1 ⟨143, [(0, .vec c_0 (List.map eU8 l_0)), (1, .int .i64 a_1), (4, .ptr 0 0 0), (6, .ptr 1 0 0), (7, .ptr 2 0 0), (8, .int .i64 y_1), (9, .int .i64 i_9)], []⟩ [.box [.vec true [], .vec true [], .vec true []] 70, .box [.vec true [], .vec true [], .vec true []] 70, .box [.vec false (List.map eTClass s_10), .vec false (List.map eTClass s_11), .vec true []] 70] R := by
  intro n
  induction n with
  | zero =>
    intro i_9 s_10 s_11 o h _
    have h0 : none = some o := h
    cases h0
  | succ n ih =>
    intro i_9 s_10 s_11 o h hp
    rw [ref15_Read_L1] at h
    refine ALp.round ?_
    generalize hQ : RoundQ _ _ _ _ = QQ
    simp only [B44_1, A44, go_sem, reduceIte, reduceCtorEq, Nat.reduceEqDiff, Nat.reduceLT, Nat.reduceLeDiff, Nat.reduceAdd, Nat.reduceSub, Nat.reduceMul, Int.reduceToNat, Int.reduceLE, Int.reduceLT, Int.reduceAdd, Int.reduceSub, Int.reduceMul, Int.reduceEq, Int.reduceNeg]
    by_cases h_12 : i_9 < 2
    · rw [if_pos h_12] at h
      have e_13 : (i_9 < 2) = True := eq_true h_12
      obtain ⟨y_14, h_15, h⟩ := bindS h
      simp only [e_13, go_sem, reduceIte, reduceCtorEq, Nat.reduceEqDiff, Nat.reduceLT, Nat.reduceLeDiff, Nat.reduceAdd, Nat.reduceSub, Nat.reduceMul, Int.reduceToNat, Int.reduceLE, Int.reduceLT, Int.reduceAdd, Int.reduceSub, Int.reduceMul, Int.reduceEq, Int.reduceNeg]
      refine ACalls.use0 (ref10_U16_w N _ _ _ _ h_15) rfl rfl ?_
      refine CallK_go (Nat.zero_le _) ?_
      simp only [e_13, go_sem, reduceIte, reduceCtorEq, Nat.reduceEqDiff, Nat.reduceLT, Nat.reduceLeDiff, Nat.reduceAdd, Nat.reduceSub, Nat.reduceMul, Int.reduceToNat, Int.reduceLE, Int.reduceLT, Int.reduceAdd, Int.reduceSub, Int.reduceMul, Int.reduceEq, Int.reduceNeg]
      by_cases h_16 : y_14 = 0
      · rw [if_pos h_16] at h
        have e_17 : (y_14 = 0) = True := eq_true h_16
        simp only [e_13, e_17, go_sem, reduceIte, reduceCtorEq, Nat.reduceEqDiff, Nat.reduceLT, Nat.reduceLeDiff, Nat.reduceAdd, Nat.reduceSub, Nat.reduceMul, Int.reduceToNat, Int.reduceLE, Int.reduceLT, Int.reduceAdd, Int.reduceSub, Int.reduceMul, Int.reduceEq, Int.reduceNeg]
        rw [← hQ]
        exact ⟨_, _, (Ref.std [0, 1, 4, 6, 7, 8, 9] [0, 1, 2] (by decide) low0 rfl rfl), (Nat.zero_le _), ih _ _ _ _ h hp⟩
      · rw [if_neg h_16] at h
        have e_17 : (y_14 = 0) = False := eq_false h_16
        obtain ⟨⟨y_18, y_19⟩, h_20, h⟩ := bindS h
        try dsimp only at h
        simp only [e_13, e_17, go_sem, reduceIte, reduceCtorEq, Nat.reduceEqDiff, Nat.reduceLT, Nat.reduceLeDiff, Nat.reduceAdd, Nat.reduceSub, Nat.reduceMul, Int.reduceToNat, Int.reduceLE, Int.reduceLT, Int.reduceAdd, Int.reduceSub, Int.reduceMul, Int.reduceEq, Int.reduceNeg]
        refine ACalls.use0 (ref10_Classes_w N _ _ _ _ _ h_20) rfl rfl ?_
        refine CallK_go (Nat.zero_le _) ?_
        simp only [e_13, e_17, go_sem, reduceIte, reduceCtorEq, Nat.reduceEqDiff, Nat.reduceLT, Nat.reduceLeDiff, Nat.reduceAdd, Nat.reduceSub, Nat.reduceMul, Int.reduceToNat, Int.reduceLE, Int.reduceLT, Int.reduceAdd, Int.reduceSub, Int.reduceMul, Int.reduceEq, Int.reduceNeg]
        by_cases h_21 : y_19 = true
        · rw [if_pos h_21] at h
          have e_22 : y_19 = true := h_21
          simp only [e_13, e_17, e_22, go_sem, reduceIte, reduceCtorEq, Nat.reduceEqDiff, Nat.reduceLT, Nat.reduceLeDiff, Nat.reduceAdd, Nat.reduceSub, Nat.reduceMul, Int.reduceToNat, Int.reduceLE, Int.reduceLT, Int.reduceAdd, Int.reduceSub, Int.reduceMul, Int.reduceEq, Int.reduceNeg]
          by_cases h_23 : i_9 = 0
          · rw [if_pos h_23] at h
            have e_24 : (i_9 = 0) = True := eq_true h_23
            simp only [e_13, e_17, e_22, e_24, go_sem, reduceIte, reduceCtorEq, Nat.reduceEqDiff, Nat.reduceLT, Nat.reduceLeDiff, Nat.reduceAdd, Nat.reduceSub, Nat.reduceMul, Int.reduceToNat, Int.reduceLE, Int.reduceLT, Int.reduceAdd, Int.reduceSub, Int.reduceMul, Int.reduceEq, Int.reduceNeg]
            rw [← hQ]
            exact ⟨_, _, (Ref.std [0, 1, 4, 6, 7, 8, 9] [0, 1, 2] (by decide) low0 rfl rfl), (Nat.zero_le _), ih _ _ _ _ h hp⟩
          · rw [if_neg h_23] at h
            have e_24 : (i_9 = 0) = False := eq_false h_23
            simp only [e_13, e_17, e_22, e_24, go_sem, reduceIte, reduceCtorEq, Nat.reduceEqDiff, Nat.reduceLT, Nat.reduceLeDiff, Nat.reduceAdd, Nat.reduceSub, Nat.reduceMul, Int.reduceToNat, Int.reduceLE, Int.reduceLT, Int.reduceAdd, Int.reduceSub, Int.reduceMul, Int.reduceEq, Int.reduceNeg]
            rw [← hQ]
            exact ⟨_, _, (Ref.std [0, 1, 4, 6, 7, 8, 9] [0, 1, 2] (by decide) low0 rfl rfl), (Nat.zero_le _), ih _ _ _ _ h hp⟩
        · rw [if_neg h_21] at h
          have e_22 : y_19 = false := bfalse h_21
          simp only [e_13, e_17, e_22, go_sem, reduceIte, reduceCtorEq, Nat.reduceEqDiff, Nat.reduceLT, Nat.reduceLeDiff, Nat.reduceAdd, Nat.reduceSub, Nat.reduceMul, Int.reduceToNat, Int.reduceLE, Int.reduceLT, Int.reduceAdd, Int.reduceSub, Int.reduceMul, Int.reduceEq, Int.reduceNeg]
          have g := Option.some.inj h
          subst g
          rw [← hQ]
          exact ⟨_, _, (Ref.std [4, 5] [0] (by decide) low0 rfl rfl), hp⟩
    · rw [if_neg h_12] at h
      have e_13 : (i_9 < 2) = False := eq_false h_12
      simp only [e_13, go_sem, reduceIte, reduceCtorEq, Nat.reduceEqDiff, Nat.reduceLT, Nat.reduceLeDiff, Nat.reduceAdd, Nat.reduceSub, Nat.reduceMul, Int.reduceToNat, Int.reduceLE, Int.reduceLT, Int.reduceAdd, Int.reduceSub, Int.reduceMul, Int.reduceEq, Int.reduceNeg]
      have g := Option.some.inj h
      subst g
      rw [← hQ]
      exact ⟨_, _, (Ref.std [0, 1, 4, 6, 7, 8] [0, 1, 2] (by decide) low0 rfl rfl), hp⟩
theorem ref10_Cover_L1_w (N : Nat) (y_1 : List Int) {R : AExit → ATm → List AObj → Prop} : ∀ (n : Nat) (i_7 : Int) (s_8 : List Bool) (o : (List Bool)), ref10_Cover_L1 N y_1 n i_7 s_8 = some o → (match o with | z_1 => R (.exit 0) ⟨33, [(8, .row 0 0 z_1.length)], []⟩ [.mem 1 (List.map eB z_1) 4]) →
    ALp Go.Proofs.Try.prog 0 B19_1 ⟨33, [(6, .vec false (List.map eI64 y_1)), (8, .row 0 0 s_8.length), (9, .int .i64 i_7)], []⟩ [.mem 1 (List.map eB s_8) 4] R := by
  intro n
  induction n with
  | zero =>
    intro i_7 s_8 o h _
    have h0 : none = some o := h
    cases h0
  | succ n ih =>
    intro i_7 s_8 o h hp
    rw [ref10_Cover_L1] at h
    refine ALp.round ?_
    generalize hQ : RoundQ _ _ _ _ = QQ
    simp only [B19_1, A19, go_sem, reduceIte, reduceCtorEq, Nat.reduceEqDiff, Nat.reduceLT, Nat.reduceLeDiff, Nat.reduceAdd, Nat.reduceSub, Nat.reduceMul, Int.reduceToNat, Int.reduceLE, Int.reduceLT, Int.reduceAdd, Int.reduceSub, Int.reduceMul, Int.reduceEq, Int.reduceNeg]
    by_cases h_9 : i_7 < 65536
    · rw [if_pos h_9] at h
      have e_10 : (i_7 < 65536) = True := eq_true h_9
      obtain ⟨x_11, h_12, h⟩ := bindS h
      have e_13 : (List.map eI64 y_1)[(i_7).toNat]? = some [.int .i64 x_11] := atI_map eI64 h_12
      have e_14 : ((0 : Int) ≤ i_7) = True := eq_true (atI_some h_12).1
      have e_15 : ((i_7 : Int) < (y_1.length : Int)) = True := eq_true (atI_lt h_12)
      obtain ⟨x_16, h_17, h⟩ := bindS h
      have e_18 : (List.map eB s_8)[(i_7).toNat]? = some [.bool x_16] := atI_map eB h_17
      have e_19 : ((0 : Int) ≤ i_7) = True := eq_true (atI_some h_17).1
      have e_20 : ((i_7 : Int) < (s_8.length : Int)) = True := eq_true (atI_lt h_17)
      have e_21 : (List.map eB s_8).set (i_7).toNat [.bool (decide (0 ≤ x_11))] = List.map eB (List.set s_8 (i_7).toNat (decide (0 ≤ x_11))) := set_map s_8 eB (i_7).toNat (decide (0 ≤ x_11))
      simp only [e_10, e_13, e_14, e_15, e_18, e_19, e_20, e_21, go_sem, reduceIte, reduceCtorEq, Nat.reduceEqDiff, Nat.reduceLT, Nat.reduceLeDiff, Nat.reduceAdd, Nat.reduceSub, Nat.reduceMul, Int.reduceToNat, Int.reduceLE, Int.reduceLT, Int.reduceAdd, Int.reduceSub, Int.reduceMul, Int.reduceEq, Int.reduceNeg]
      rw [← hQ]
      exact ⟨_, _, (Ref.std [6, 8, 9] [0] (by decide) low0 (by first | rfl | simp only [go_sem, reduceIte, Nat.reduceEqDiff, Nat.reduceAdd]) (by first | rfl | simp only [go_sem, reduceIte, Nat.reduceEqDiff, Nat.reduceAdd])), (Nat.zero_le _), ih _ _ _ h hp⟩
    · rw [if_neg h_9] at h
      have e_10 : (i_7 < 65536) = False := eq_false h_9
      simp only [e_10, go_sem, reduceIte, reduceCtorEq, Nat.reduceEqDiff, Nat.reduceLT, Nat.reduceLeDiff, Nat.reduceAdd, Nat.reduceSub, Nat.reduceMul, Int.reduceToNat, Int.reduceLE, Int.reduceLT, Int.reduceAdd, Int.reduceSub, Int.reduceMul, Int.reduceEq, Int.reduceNeg]
      have g := Option.some.inj h
      subst g
      rw [← hQ]
      exact ⟨_, _, (Ref.std [8] [0] (by decide) low0 rfl (by first | rfl | simp only [go_sem, reduceIte, Nat.reduceEqDiff, Nat.reduceAdd])), hp⟩
theorem ref10_Spans_row_L3_w (N : Nat) (i_1 : Int) (l_0 : List Bool) (s_2 : List TSpan) {R : AExit → ATm → List AObj → Prop} : ∀ (n : Nat) (i_12 : Int) (o : Int), ref10_Spans_row_L3 N i_1 l_0 s_2 n i_12 = some o → (match o with | z_1 => R (.exit 2) ⟨40, [(0, .row 0 0 l_0.length), (3, .row 1 0 s_2.length), (4, .int .i64 i_1), (5, .int .i64 z_1)], []⟩ [.mem 1 (List.map eB l_0) 4, .mem 2 (List.map eTSpan s_2) 38]) →
    ALp Go.Proofs.Try.prog 1 B35_2 ⟨40, [(0, .row 0 0 l_0.length), (3, .row 1 0 s_2.length), (4, .int .i64 i_1), (5, .int .i64 i_12)], []⟩ [.mem 1 (List.map eB l_0) 4, .mem 2 (List.map eTSpan s_2) 38] R := by
  intro n
  induction n with
  | zero =>
    intro i_12 o h _
    have h0 : none = some o := h
    cases h0
  | succ n ih =>
    intro i_12 o h hp
    rw [ref10_Spans_row_L3] at h
    refine ALp.round ?_
    generalize hQ : RoundQ _ _ _ _ = QQ
    simp only [B35_2, B35_1, A35, go_sem, reduceIte, reduceCtorEq, Nat.reduceEqDiff, Nat.reduceLT, Nat.reduceLeDiff, Nat.reduceAdd, Nat.reduceSub, Nat.reduceMul, Int.reduceToNat, Int.reduceLE, Int.reduceLT, Int.reduceAdd, Int.reduceSub, Int.reduceMul, Int.reduceEq, Int.reduceNeg]
    by_cases h_13 : IntKind.i64.wrap (i_12 + 1) < (l_0.length : Int)
    · rw [if_pos h_13] at h
      have e_14 : (IntKind.i64.wrap (i_12 + 1) < (l_0.length : Int)) = True := eq_true h_13
      obtain ⟨x_15, h_16, h⟩ := bindS h
      have e_17 : (List.map eB l_0)[(IntKind.i64.wrap (i_12 + 1)).toNat]? = some [.bool x_15] := atI_map eB h_16
      have e_18 : ((0 : Int) ≤ IntKind.i64.wrap (i_12 + 1)) = True := eq_true (atI_some h_16).1
      have e_19 : ((IntKind.i64.wrap (i_12 + 1) : Int) < (l_0.length : Int)) = True := eq_true (atI_lt h_16)
      simp only [e_14, e_17, e_18, e_19, go_sem, reduceIte, reduceCtorEq, Nat.reduceEqDiff, Nat.reduceLT, Nat.reduceLeDiff, Nat.reduceAdd, Nat.reduceSub, Nat.reduceMul, Int.reduceToNat, Int.reduceLE, Int.reduceLT, Int.reduceAdd, Int.reduceSub, Int.reduceMul, Int.reduceEq, Int.reduceNeg]
      by_cases h_20 : x_15 = true
      · rw [if_pos h_20] at h
        have e_21 : x_15 = true := h_20
        simp only [e_14, e_17, e_18, e_19, e_21, go_sem, reduceIte, reduceCtorEq, Nat.reduceEqDiff, Nat.reduceLT, Nat.reduceLeDiff, Nat.reduceAdd, Nat.reduceSub, Nat.reduceMul, Int.reduceToNat, Int.reduceLE, Int.reduceLT, Int.reduceAdd, Int.reduceSub, Int.reduceMul, Int.reduceEq, Int.reduceNeg]
        rw [← hQ]
        exact ⟨_, _, (Ref.std [0, 3, 4, 5] [0, 1] (by decide) (by decide) rfl (by first | rfl | simp only [go_sem, reduceIte, Nat.reduceEqDiff, Nat.reduceAdd])), (by simp), ih _ _ h hp⟩
      · rw [if_neg h_20] at h
        have e_21 : x_15 = false := bfalse h_20
        simp only [e_14, e_17, e_18, e_19, e_21, go_sem, reduceIte, reduceCtorEq, Nat.reduceEqDiff, Nat.reduceLT, Nat.reduceLeDiff, Nat.reduceAdd, Nat.reduceSub, Nat.reduceMul, Int.reduceToNat, Int.reduceLE, Int.reduceLT, Int.reduceAdd, Int.reduceSub, Int.reduceMul, Int.reduceEq, Int.reduceNeg]
        have g := Option.some.inj h
        subst g
        rw [← hQ]
        exact ⟨_, _, (Ref.std [0, 3, 4, 5] [0, 1] (by decide) (by decide) rfl (by first | rfl | simp only [go_sem, reduceIte, Nat.reduceEqDiff, Nat.reduceAdd])), hp⟩
    · rw [if_neg h_13] at h
      have e_14 : (IntKind.i64.wrap (i_12 + 1) < (l_0.length : Int)) = False := eq_false h_13
      simp only [e_14, go_sem, reduceIte, reduceCtorEq, Nat.reduceEqDiff, Nat.reduceLT, Nat.reduceLeDiff, Nat.reduceAdd, Nat.reduceSub, Nat.reduceMul, Int.reduceToNat, Int.reduceLE, Int.reduceLT, Int.reduceAdd, Int.reduceSub, Int.reduceMul, Int.reduceEq, Int.reduceNeg]
      have g := Option.some.inj h
      subst g
      rw [← hQ]
      exact ⟨_, _, (Ref.std [0, 3, 4, 5] [0, 1] (by decide) (by decide) rfl (by first | rfl | simp only [go_sem, reduceIte, Nat.reduceEqDiff, Nat.reduceAdd])), hp⟩
theorem ref10_Spans_row_L4_w (N : Nat) (l_0 : List Bool) {R : AExit → ATm → List AObj → Prop} : ∀ (n : Nat) (i_1 : Int) (s_2 : List TSpan) (o : (List TSpan)), ref10_Spans_row_L4 N l_0 n i_1 s_2 = some o → (match o with | z_1 => R (.exit 0) ⟨40, [(3, .row 1 0 z_1.length)], []⟩ [.mem 1 (List.map eB l_0) 4, .mem 2 (List.map eTSpan z_1) 38]) →
    ALp Go.Proofs.Try.prog 1 B35_1 ⟨40, [(0, .row 0 0 l_0.length), (3, .row 1 0 s_2.length), (4, .int .i64 i_1)], []⟩ [.mem 1 (List.map eB l_0) 4, .mem 2 (List.map eTSpan s_2) 38] R := by
  intro n
  induction n with
  | zero =>
    intro i_1 s_2 o h _
    have h0 : none = some o := h
    cases h0
  | succ n ih =>
    intro i_1 s_2 o h hp
    rw [ref10_Spans_row_L4] at h
    refine ALp.round ?_
    generalize hQ : RoundQ _ _ _ _ = QQ
    simp only [B35_1, A35, go_sem, reduceIte, reduceCtorEq, Nat.reduceEqDiff, Nat.reduceLT, Nat.reduceLeDiff, Nat.reduceAdd, Nat.reduceSub, Nat.reduceMul, Int.reduceToNat, Int.reduceLE, Int.reduceLT, Int.reduceAdd, Int.reduceSub, Int.reduceMul, Int.reduceEq, Int.reduceNeg]
    by_cases h_3 : i_1 < (l_0.length : Int)
    · rw [if_pos h_3] at h
      have e_4 : (i_1 < (l_0.length : Int)) = True := eq_true h_3
      obtain ⟨x_5, h_6, h⟩ := bindS h
      have e_7 : (List.map eB l_0)[(i_1).toNat]? = some [.bool x_5] := atI_map eB h_6
      have e_8 : ((0 : Int) ≤ i_1) = True := eq_true (atI_some h_6).1
      have e_9 : ((i_1 : Int) < (l_0.length : Int)) = True := eq_true (atI_lt h_6)
      simp only [e_4, e_7, e_8, e_9, go_sem, reduceIte, reduceCtorEq, Nat.reduceEqDiff, Nat.reduceLT, Nat.reduceLeDiff, Nat.reduceAdd, Nat.reduceSub, Nat.reduceMul, Int.reduceToNat, Int.reduceLE, Int.reduceLT, Int.reduceAdd, Int.reduceSub, Int.reduceMul, Int.reduceEq, Int.reduceNeg]
      by_cases h_10 : x_5 = true
      · rw [if_pos h_10] at h
        have e_11 : x_5 = true := h_10
        simp only [e_4, e_7, e_8, e_9, e_11, go_sem, reduceIte, reduceCtorEq, Nat.reduceEqDiff, Nat.reduceLT, Nat.reduceLeDiff, Nat.reduceAdd, Nat.reduceSub, Nat.reduceMul, Int.reduceToNat, Int.reduceLE, Int.reduceLT, Int.reduceAdd, Int.reduceSub, Int.reduceMul, Int.reduceEq, Int.reduceNeg]
        obtain ⟨y_1013, h_1012, h⟩ := bindS h
        refine ALp.ref (Ref.std [0, 3, 4, 5] [0, 1] (by decide) (by decide) rfl (by first | rfl | simp only [go_sem, reduceIte, Nat.reduceEqDiff, Nat.reduceAdd])) (by simp) (ref10_Spans_row_L3_w N _ _ _ N _ y_1013 h_1012 ?_)
        refine LoopK_go rfl (by simp) ?_
        have e_1014 : List.take s_2.length (List.map eTSpan s_2) = (List.map eTSpan s_2) := List.take_of_length_le (by simp)
        have e_1015 : (List.map eTSpan s_2) ++ [[.int .i64 i_1, .int .i64 y_1013]] = (List.map eTSpan (s_2 ++ [TSpan.mk i_1 y_1013])) := app_map s_2 ([TSpan.mk i_1 y_1013]) eTSpan
        obtain ⟨h_1016, h⟩ := guardS h
        have e_1017 : ((s_2.length + 1) * 16 ≤ 140737488355328) = True := eq_true h_1016
        simp only [e_4, e_7, e_8, e_9, e_11, e_1014, e_1015, e_1017, go_sem, reduceIte, reduceCtorEq, Nat.reduceEqDiff, Nat.reduceLT, Nat.reduceLeDiff, Nat.reduceAdd, Nat.reduceSub, Nat.reduceMul, Int.reduceToNat, Int.reduceLE, Int.reduceLT, Int.reduceAdd, Int.reduceSub, Int.reduceMul, Int.reduceEq, Int.reduceNeg]
        rw [← hQ]
        exact ⟨_, _, (Ref.std [0, 3, 4] [0, 2] (by decide) (by decide) (by first | rfl | simp only [go_sem, reduceIte, Nat.reduceEqDiff, Nat.reduceAdd]) (by first | rfl | simp only [go_sem, reduceIte, Nat.reduceEqDiff, Nat.reduceAdd])), (by simp), ih _ _ _ h hp⟩
      · rw [if_neg h_10] at h
        have e_11 : x_5 = false := bfalse h_10
        simp only [e_4, e_7, e_8, e_9, e_11, go_sem, reduceIte, reduceCtorEq, Nat.reduceEqDiff, Nat.reduceLT, Nat.reduceLeDiff, Nat.reduceAdd, Nat.reduceSub, Nat.reduceMul, Int.reduceToNat, Int.reduceLE, Int.reduceLT, Int.reduceAdd, Int.reduceSub, Int.reduceMul, Int.reduceEq, Int.reduceNeg]
        rw [← hQ]
        exact ⟨_, _, (Ref.std [0, 3, 4] [0, 1] (by decide) (by decide) rfl (by first | rfl | simp only [go_sem, reduceIte, Nat.reduceEqDiff, Nat.reduceAdd])), (by simp), ih _ _ _ h hp⟩
    · rw [if_neg h_3] at h
      have e_4 : (i_1 < (l_0.length : Int)) = False := eq_false h_3
      simp only [e_4, go_sem, reduceIte, reduceCtorEq, Nat.reduceEqDiff, Nat.reduceLT, Nat.reduceLeDiff, Nat.reduceAdd, Nat.reduceSub, Nat.reduceMul, Int.reduceToNat, Int.reduceLE, Int.reduceLT, Int.reduceAdd, Int.reduceSub, Int.reduceMul, Int.reduceEq, Int.reduceNeg]
      have g := Option.some.inj h
      subst g
      rw [← hQ]
      exact ⟨_, _, (Ref.std [3] [0, 1] (by decide) (by decide) rfl (by first | rfl | simp only [go_sem, reduceIte, Nat.reduceEqDiff, Nat.reduceAdd])), hp⟩
theorem ref10_Spans_row_w (N : Nat) (l_0 : List Bool) (z_1 : List TSpan) (h : ref10_Spans_row N l_0 = some z_1) :
    ACalls Go.Proofs.Try.prog 35 [.row 0 0 l_0.length] [.mem 1 (List.map eB l_0) 4] (fun e H => H = [.mem 1 (List.map eB l_0) 4] ∧ e = .ret (.vec false (List.map eTSpan z_1))) := by
  unfold ref10_Spans_row at h
  refine ACalls.goN Go.Proofs.Try.func35 n35 a35 Go.Proofs.Try.ntmps35 r35 (by simp) 1 rfl ?_
  generalize hQ : bodyA _ _ _ = QQ
  simp only [A35, go_sem, reduceIte, reduceCtorEq, Nat.reduceEqDiff, Nat.reduceLT, Nat.reduceLeDiff, Nat.reduceAdd, Nat.reduceSub, Nat.reduceMul, Int.reduceToNat, Int.reduceLE, Int.reduceLT, Int.reduceAdd, Int.reduceSub, Int.reduceMul, Int.reduceEq, Int.reduceNeg]
  obtain ⟨y_1002, h_1001, h⟩ := bindS h
  refine ALp.ref (Ref.trans (Ref.thaw (by simp) 3 rfl (sz := 2) (by decide) 38) (Ref.std [0, 3, 4] [0, 1] (by decide) (by decide) rfl (by first | rfl | simp only [go_sem, reduceIte, Nat.reduceEqDiff, Nat.reduceAdd]))) (by simp) (ref10_Spans_row_L4_w N _ N _ _ y_1002 h_1001 ?_)
  refine LoopK_go rfl (by simp) ?_
  simp only [go_sem, reduceIte, reduceCtorEq, Nat.reduceEqDiff, Nat.reduceLT, Nat.reduceLeDiff, Nat.reduceAdd, Nat.reduceSub, Nat.reduceMul, Int.reduceToNat, Int.reduceLE, Int.reduceLT, Int.reduceAdd, Int.reduceSub, Int.reduceMul, Int.reduceEq, Int.reduceNeg]
  have g_0 := Option.some.inj h
  subst g_0
  rw [← hQ]
  exact ⟨rfl, _, rfl, _, _, (RefV.trans (RefV.frz (by simp) (id := 1) rfl (pures_map y_1002 eTSpan (fun _ => rfl))) (RefV.std [0] (by decide) (by decide) (by first | rfl | simp only [go_sem, reduceIte, Nat.reduceEqDiff, Nat.reduceAdd]) (by first | rfl | simp only [go_sem, reduceIte, Nat.reduceEqDiff, Nat.reduceAdd]))), rfl, rfl⟩
theorem ref10_Cover_w (N : Nat) (l_0 : List Int) (a_1 : Int) (c_0 : Bool) (z_1 : List TSpan) (z_2 : Bool) (h : ref10_Cover N l_0 a_1 = some (z_1, z_2)) :
    ACalls Go.Proofs.Try.prog 19 [.vec c_0 (List.map eU8 l_0), .int .i64 a_1] [] (fun e H => H = [] ∧ e = .ret (.tup [.vec false (List.map eTSpan z_1), .bool z_2])) := by
  unfold ref10_Cover at h
  refine ACalls.goN Go.Proofs.Try.func19 n19 a19 Go.Proofs.Try.ntmps19 r19 (by simp) 0 rfl ?_
  generalize hQ : bodyA _ _ _ = QQ
  obtain ⟨⟨y_1, y_2⟩, h_3, h⟩ := bindS h
  try dsimp only at h
  simp only [A19, go_sem, reduceIte, reduceCtorEq, Nat.reduceEqDiff, Nat.reduceLT, Nat.reduceLeDiff, Nat.reduceAdd, Nat.reduceSub, Nat.reduceMul, Int.reduceToNat, Int.reduceLE, Int.reduceLT, Int.reduceAdd, Int.reduceSub, Int.reduceMul, Int.reduceEq, Int.reduceNeg]
  refine ACalls.use0 (ref10_Table_w N _ _ _ _ _ _ h_3) rfl rfl ?_
  refine CallK_go (Nat.zero_le _) ?_
  simp only [go_sem, reduceIte, reduceCtorEq, Nat.reduceEqDiff, Nat.reduceLT, Nat.reduceLeDiff, Nat.reduceAdd, Nat.reduceSub, Nat.reduceMul, Int.reduceToNat, Int.reduceLE, Int.reduceLT, Int.reduceAdd, Int.reduceSub, Int.reduceMul, Int.reduceEq, Int.reduceNeg]
  by_cases h_4 : y_2 = true
  · rw [if_pos h_4] at h
    have e_5 : y_2 = true := h_4
    have e_6 : List.replicate 65536 [.bool false] = List.map eB (List.replicate 65536 false) := rep_map _ eB false
    simp only [e_5, e_6, go_sem, reduceIte, reduceCtorEq, Nat.reduceEqDiff, Nat.reduceLT, Nat.reduceLeDiff, Nat.reduceAdd, Nat.reduceSub, Nat.reduceMul, Int.reduceToNat, Int.reduceLE, Int.reduceLT, Int.reduceAdd, Int.reduceSub, Int.reduceMul, Int.reduceEq, Int.reduceNeg]
    obtain ⟨y_1008, h_1007, h⟩ := bindS h
    refine ALp.ref (Ref.std [6, 8, 9] [0] (by decide) low0 (by simp only [go_sem, reduceIte, Nat.reduceEqDiff, Nat.reduceAdd]) (by simp only [go_sem, reduceIte, Nat.reduceEqDiff, Nat.reduceAdd])) (Nat.zero_le _) (ref10_Cover_L1_w N _ N _ _ y_1008 h_1007 ?_)
    refine LoopK_go rfl (Nat.zero_le _) ?_
    obtain ⟨y_1009, h_1010, h⟩ := bindS h
    simp only [e_5, e_6, go_sem, reduceIte, reduceCtorEq, Nat.reduceEqDiff, Nat.reduceLT, Nat.reduceLeDiff, Nat.reduceAdd, Nat.reduceSub, Nat.reduceMul, Int.reduceToNat, Int.reduceLE, Int.reduceLT, Int.reduceAdd, Int.reduceSub, Int.reduceMul, Int.reduceEq, Int.reduceNeg]
    refine ACalls.use (ref10_Spans_row_w N _ _ h_1010) [0] (by decide) ⟨(by first | rfl | simp only [go_sem, reduceIte, Nat.reduceEqDiff, Nat.reduceAdd]), trivial⟩ rfl (v' := .vec false (List.map eTSpan y_1009)) (by first | rfl | simp only [go_sem, reduceIte, Nat.reduceEqDiff, Nat.reduceAdd]) (H' := [.mem 1 (List.map eB y_1008) 4]) (by first | rfl | simp only [go_sem, reduceIte, Nat.reduceEqDiff, Nat.reduceAdd]) ?_
    refine CallK_go (Nat.zero_le _) ?_
    simp only [e_5, e_6, go_sem, reduceIte, reduceCtorEq, Nat.reduceEqDiff, Nat.reduceLT, Nat.reduceLeDiff, Nat.reduceAdd, Nat.reduceSub, Nat.reduceMul, Int.reduceToNat, Int.reduceLE, Int.reduceLT, Int.reduceAdd, Int.reduceSub, Int.reduceMul, Int.reduceEq, Int.reduceNeg]
    have g_0 := Option.some.inj h
    obtain ⟨k_1, g_1⟩ := Prod.mk.inj g_0
    subst k_1
    subst g_1
    rw [← hQ]
    exact ⟨rfl, _, rfl, _, _, (RefV.out rfl), rfl, rfl⟩
  · rw [if_neg h_4] at h
    have e_5 : y_2 = false := bfalse h_4
    simp only [e_5, go_sem, reduceIte, reduceCtorEq, Nat.reduceEqDiff, Nat.reduceLT, Nat.reduceLeDiff, Nat.reduceAdd, Nat.reduceSub, Nat.reduceMul, Int.reduceToNat, Int.reduceLE, Int.reduceLT, Int.reduceAdd, Int.reduceSub, Int.reduceMul, Int.reduceEq, Int.reduceNeg]
    have g_0 := Option.some.inj h
    obtain ⟨k_1, g_1⟩ := Prod.mk.inj g_0
    subst k_1
    subst g_1
    rw [← hQ]
    exact ⟨rfl, _, rfl, _, _, (RefV.trans (RefV.out (v' := .tup [.vec true [], .bool false]) rfl) (RefV.weak (Wks.cons (Wk.tup (Wks.cons Wk.vec (Wks.cons (Wk.refl _) (Wks.nil)))) Wks.nil) (WkH.refl _))), rfl, rfl⟩
theorem ref15_Read_L2_w (N : Nat) (l_0 : List Int) (a_1 : Int) (y_2023 : Int) (y_2029 : Int) (y_2020 : List TClass) (y_2021 : List TClass) (c_0 : Bool) {R : AExit → ATm → List AObj → Prop} : ∀ (n : Nat) (i_2039 : Int) (s_2040 : List (List TSpan)) (o : ((List (List TSpan))) ⊕ (Unit)), ref15_Read_L2 N l_0 a_1 y_2023 y_2029 y_2020 y_2021 n i_2039 s_2040 = some o → (match o with | .inl z_1 => R (.exit 2) ⟨143, [(4, .ptr 0 0 0), (7, .ptr 1 0 0)], []⟩ [.box [.vec true [], .vec true [], .vec true []] 70, .box [.vec false (List.map eTClass y_2020), .vec false (List.map eTClass y_2021), .row 2 0 z_1.length] 70, .mem 1 (List.map eLTSpan z_1) 24] | .inr (_) => R .ret ⟨143, [(4, .ptr 0 0 0), (5, .bool false)], []⟩ [.box [.vec true [], .vec true [], .vec true []] 70]) →
    ALp Go.Proofs.Try.prog 0 B44_2 ⟨143, [(0, .vec c_0 (List.map eU8 l_0)), (1, .int .i64 a_1), (4, .ptr 0 0 0), (6, .ptr 1 0 0), (7, .ptr 2 0 0), (13, .int .i64 y_2023), (14, .int .i64 y_2029), (15, .int .i64 i_2039)], []⟩ [.box [.vec true [], .vec true [], .vec true []] 70, .box [.vec true [], .vec true [], .vec true []] 70, .box [.vec false (List.map eTClass y_2020), .vec false (List.map eTClass y_2021), .row 3 0 s_2040.length] 70, .mem 1 (List.map eLTSpan s_2040) 24] R := by
  intro n
  induction n with
  | zero =>
    intro i_2039 s_2040 o h _
    have h0 : none = some o := h
    cases h0
  | succ n ih =>
    intro i_2039 s_2040 o h hp
    rw [ref15_Read_L2] at h
    refine ALp.round ?_
    generalize hQ : RoundQ _ _ _ _ = QQ
    simp only [B44_2, A44, go_sem, reduceIte, reduceCtorEq, Nat.reduceEqDiff, Nat.reduceLT, Nat.reduceLeDiff, Nat.reduceAdd, Nat.reduceSub, Nat.reduceMul, Int.reduceToNat, Int.reduceLE, Int.reduceLT, Int.reduceAdd, Int.reduceSub, Int.reduceMul, Int.reduceEq, Int.reduceNeg]
    by_cases h_2041 : i_2039 < y_2029
    · rw [if_pos h_2041] at h
      have e_2042 : (i_2039 < y_2029) = True := eq_true h_2041
      obtain ⟨y_2043, h_2044, h⟩ := bindS h
      simp only [e_2042, go_sem, reduceIte, reduceCtorEq, Nat.reduceEqDiff, Nat.reduceLT, Nat.reduceLeDiff, Nat.reduceAdd, Nat.reduceSub, Nat.reduceMul, Int.reduceToNat, Int.reduceLE, Int.reduceLT, Int.reduceAdd, Int.reduceSub, Int.reduceMul, Int.reduceEq, Int.reduceNeg]
      refine ACalls.use0 (ref15_U32_w N _ _ _ _ h_2044) rfl rfl ?_
      refine CallK_go (Nat.zero_le _) ?_
      simp only [e_2042, go_sem, reduceIte, reduceCtorEq, Nat.reduceEqDiff, Nat.reduceLT, Nat.reduceLeDiff, Nat.reduceAdd, Nat.reduceSub, Nat.reduceMul, Int.reduceToNat, Int.reduceLE, Int.reduceLT, Int.reduceAdd, Int.reduceSub, Int.reduceMul, Int.reduceEq, Int.reduceNeg]
      by_cases h_2045 : y_2043 < 0
      · rw [if_pos h_2045] at h
        have e_2046 : (y_2043 < 0) = True := eq_true h_2045
        simp only [e_2042, e_2046, go_sem, reduceIte, reduceCtorEq, Nat.reduceEqDiff, Nat.reduceLT, Nat.reduceLeDiff, Nat.reduceAdd, Nat.reduceSub, Nat.reduceMul, Int.reduceToNat, Int.reduceLE, Int.reduceLT, Int.reduceAdd, Int.reduceSub, Int.reduceMul, Int.reduceEq, Int.reduceNeg]
        have g := Option.some.inj h
        subst g
        rw [← hQ]
        exact ⟨_, _, (Ref.std [4, 5] [0] (by decide) low0 rfl rfl), hp⟩
      · rw [if_neg h_2045] at h
        have e_2046 : (y_2043 < 0) = False := eq_false h_2045
        simp only [e_2042, e_2046, go_sem, reduceIte, reduceCtorEq, Nat.reduceEqDiff, Nat.reduceLT, Nat.reduceLeDiff, Nat.reduceAdd, Nat.reduceSub, Nat.reduceMul, Int.reduceToNat, Int.reduceLE, Int.reduceLT, Int.reduceAdd, Int.reduceSub, Int.reduceMul, Int.reduceEq, Int.reduceNeg]
        by_cases h_2047 : (l_0.length : Int) < y_2043
        · rw [if_pos h_2047] at h
          have e_2048 : ((l_0.length : Int) < y_2043) = True := eq_true h_2047
          simp only [e_2042, e_2046, e_2048, go_sem, reduceIte, reduceCtorEq, Nat.reduceEqDiff, Nat.reduceLT, Nat.reduceLeDiff, Nat.reduceAdd, Nat.reduceSub, Nat.reduceMul, Int.reduceToNat, Int.reduceLE, Int.reduceLT, Int.reduceAdd, Int.reduceSub, Int.reduceMul, Int.reduceEq, Int.reduceNeg]
          have g := Option.some.inj h
          subst g
          rw [← hQ]
          exact ⟨_, _, (Ref.std [4, 5] [0] (by decide) low0 rfl rfl), hp⟩
        · rw [if_neg h_2047] at h
          have e_2048 : ((l_0.length : Int) < y_2043) = False := eq_false h_2047
          obtain ⟨⟨y_2049, y_2050⟩, h_2051, h⟩ := bindS h
          try dsimp only at h
          simp only [e_2042, e_2046, e_2048, go_sem, reduceIte, reduceCtorEq, Nat.reduceEqDiff, Nat.reduceLT, Nat.reduceLeDiff, Nat.reduceAdd, Nat.reduceSub, Nat.reduceMul, Int.reduceToNat, Int.reduceLE, Int.reduceLT, Int.reduceAdd, Int.reduceSub, Int.reduceMul, Int.reduceEq, Int.reduceNeg]
          refine ACalls.use0 (ref10_Cover_w N _ _ _ _ _ h_2051) rfl rfl ?_
          refine CallK_go (Nat.zero_le _) ?_
          simp only [e_2042, e_2046, e_2048, go_sem, reduceIte, reduceCtorEq, Nat.reduceEqDiff, Nat.reduceLT, Nat.reduceLeDiff, Nat.reduceAdd, Nat.reduceSub, Nat.reduceMul, Int.reduceToNat, Int.reduceLE, Int.reduceLT, Int.reduceAdd, Int.reduceSub, Int.reduceMul, Int.reduceEq, Int.reduceNeg]
          by_cases h_2052 : y_2050 = true
          · rw [if_pos h_2052] at h
            have e_2053 : y_2050 = true := h_2052
            have e_2054 : List.take s_2040.length (List.map eLTSpan s_2040) = (List.map eLTSpan s_2040) := List.take_of_length_le (by simp)
            have e_2055 : (List.map eLTSpan s_2040) ++ [[.vec false (List.map eTSpan y_2049)]] = (List.map eLTSpan (s_2040 ++ [y_2049])) := app_map s_2040 ([y_2049]) eLTSpan
            obtain ⟨h_2056, h⟩ := guardS h
            have e_2057 : ((s_2040.length + 1) * 24 ≤ 140737488355328) = True := eq_true h_2056
            simp only [e_2042, e_2046, e_2048, e_2053, e_2054, e_2055, e_2057, go_sem, reduceIte, reduceCtorEq, Nat.reduceEqDiff, Nat.reduceLT, Nat.reduceLeDiff, Nat.reduceAdd, Nat.reduceSub, Nat.reduceMul, Int.reduceToNat, Int.reduceLE, Int.reduceLT, Int.reduceAdd, Int.reduceSub, Int.reduceMul, Int.reduceEq, Int.reduceNeg]
            rw [← hQ]
            exact ⟨_, _, (Ref.std [0, 1, 4, 6, 7, 13, 14, 15] [0, 1, 2, 4] (by decide) low0 rfl (by first | rfl | simp only [go_sem, reduceIte, Nat.reduceEqDiff, Nat.reduceAdd])), (Nat.zero_le _), ih _ _ _ h hp⟩
          · rw [if_neg h_2052] at h
            have e_2053 : y_2050 = false := bfalse h_2052
            simp only [e_2042, e_2046, e_2048, e_2053, go_sem, reduceIte, reduceCtorEq, Nat.reduceEqDiff, Nat.reduceLT, Nat.reduceLeDiff, Nat.reduceAdd, Nat.reduceSub, Nat.reduceMul, Int.reduceToNat, Int.reduceLE, Int.reduceLT, Int.reduceAdd, Int.reduceSub, Int.reduceMul, Int.reduceEq, Int.reduceNeg]
            have g := Option.some.inj h
            subst g
            rw [← hQ]
            exact ⟨_, _, (Ref.std [4, 5] [0] (by decide) low0 rfl rfl), hp⟩
    · rw [if_neg h_2041] at h
      have e_2042 : (i_2039 < y_2029) = False := eq_false h_2041
      simp only [e_2042, go_sem, reduceIte, reduceCtorEq, Nat.reduceEqDiff, Nat.reduceLT, Nat.reduceLeDiff, Nat.reduceAdd, Nat.reduceSub, Nat.reduceMul, Int.reduceToNat, Int.reduceLE, Int.reduceLT, Int.reduceAdd, Int.reduceSub, Int.reduceMul, Int.reduceEq, Int.reduceNeg]
      have g := Option.some.inj h
      subst g
      rw [← hQ]
      exact ⟨_, _, (Ref.std [4, 7] [0, 2, 3] (by decide) low0 rfl (by first | rfl | simp only [go_sem, reduceIte, Nat.reduceEqDiff, Nat.reduceAdd])), hp⟩
theorem ref15_Read_w (N : Nat) (l_0 : List Int) (a_1 : Int) (c_0 : Bool) (z_1 : List TClass) (z_2 : List TClass) (z_3 : List (List TSpan)) (z_4 : Bool) (h : ref15_Read N l_0 a_1 = some (z_1, z_2, z_3, z_4)) :
    ACalls Go.Proofs.Try.prog 44 [.vec c_0 (List.map eU8 l_0), .int .i64 a_1] [] (fun e H => H = [] ∧ e = .ret (.tup [.agg [.vec false (List.map eTClass z_1), .vec false (List.map eTClass z_2), .vec false (List.map eLTSpan z_3)], .bool z_4])) := by
  unfold ref15_Read at h
  refine ACalls.goN Go.Proofs.Try.func44 n44 a44 Go.Proofs.Try.ntmps44 r44 (by simp) 0 rfl ?_
  generalize hQ : bodyA _ _ _ = QQ
  obtain ⟨y_1, h_2, h⟩ := bindS h
  simp only [A44, go_sem, reduceIte, reduceCtorEq, Nat.reduceEqDiff, Nat.reduceLT, Nat.reduceLeDiff, Nat.reduceAdd, Nat.reduceSub, Nat.reduceMul, Int.reduceToNat, Int.reduceLE, Int.reduceLT, Int.reduceAdd, Int.reduceSub, Int.reduceMul, Int.reduceEq, Int.reduceNeg]
  refine ACalls.use0 (ref15_U32_w N _ _ _ _ h_2) rfl rfl ?_
  refine CallK_go (Nat.zero_le _) ?_
  simp only [go_sem, reduceIte, reduceCtorEq, Nat.reduceEqDiff, Nat.reduceLT, Nat.reduceLeDiff, Nat.reduceAdd, Nat.reduceSub, Nat.reduceMul, Int.reduceToNat, Int.reduceLE, Int.reduceLT, Int.reduceAdd, Int.reduceSub, Int.reduceMul, Int.reduceEq, Int.reduceNeg]
  by_cases h_3 : y_1 = 65536
  · rw [if_pos h_3] at h
    have e_4 : (y_1 = 65536) = True := eq_true h_3
    obtain ⟨y_5, h_6, h⟩ := bindS h
    simp only [e_4, go_sem, reduceIte, reduceCtorEq, Nat.reduceEqDiff, Nat.reduceLT, Nat.reduceLeDiff, Nat.reduceAdd, Nat.reduceSub, Nat.reduceMul, Int.reduceToNat, Int.reduceLE, Int.reduceLT, Int.reduceAdd, Int.reduceSub, Int.reduceMul, Int.reduceEq, Int.reduceNeg]
    refine ACalls.use0 (ref10_U16_w N _ _ _ _ h_6) rfl rfl ?_
    refine CallK_go (Nat.zero_le _) ?_
    simp only [e_4, go_sem, reduceIte, reduceCtorEq, Nat.reduceEqDiff, Nat.reduceLT, Nat.reduceLeDiff, Nat.reduceAdd, Nat.reduceSub, Nat.reduceMul, Int.reduceToNat, Int.reduceLE, Int.reduceLT, Int.reduceAdd, Int.reduceSub, Int.reduceMul, Int.reduceEq, Int.reduceNeg]
    by_cases h_7 : y_5 < 0
    · rw [if_pos h_7] at h
      have e_8 : (y_5 < 0) = True := eq_true h_7
      simp only [e_4, e_8, go_sem, reduceIte, reduceCtorEq, Nat.reduceEqDiff, Nat.reduceLT, Nat.reduceLeDiff, Nat.reduceAdd, Nat.reduceSub, Nat.reduceMul, Int.reduceToNat, Int.reduceLE, Int.reduceLT, Int.reduceAdd, Int.reduceSub, Int.reduceMul, Int.reduceEq, Int.reduceNeg]
      have g_0 := Option.some.inj h
      obtain ⟨k_1, g_1⟩ := Prod.mk.inj g_0
      subst k_1
      obtain ⟨k_2, g_2⟩ := Prod.mk.inj g_1
      subst k_2
      obtain ⟨k_3, g_3⟩ := Prod.mk.inj g_2
      subst k_3
      subst g_3
      rw [← hQ]
      exact ⟨rfl, _, rfl, _, _, (RefV.trans (RefV.out (v' := .tup [.agg [.vec true [], .vec true [], .vec true []], .bool false]) rfl) (RefV.weak (Wks.cons (Wk.tup (Wks.cons (Wk.agg (Wks.cons Wk.vec (Wks.cons Wk.vec (Wks.cons Wk.vec (Wks.nil))))) (Wks.cons (Wk.refl _) (Wks.nil)))) Wks.nil) (WkH.refl _))), rfl, rfl⟩
    · rw [if_neg h_7] at h
      have e_8 : (y_5 < 0) = False := eq_false h_7
      simp only [e_4, e_8, go_sem, reduceIte, reduceCtorEq, Nat.reduceEqDiff, Nat.reduceLT, Nat.reduceLeDiff, Nat.reduceAdd, Nat.reduceSub, Nat.reduceMul, Int.reduceToNat, Int.reduceLE, Int.reduceLT, Int.reduceAdd, Int.reduceSub, Int.reduceMul, Int.reduceEq, Int.reduceNeg]
      obtain ⟨o_1012, h_1009, h⟩ := bindS h
      refine ALp.ref (Ref.trans (Ref.std (l' := [(0, .vec c_0 (List.map eU8 l_0)), (1, .int .i64 a_1), (4, .ptr 0 0 0), (6, .ptr 1 0 0), (7, .ptr 2 0 0), (8, .int .i64 y_1), (9, .int .i64 0)]) (H' := [.box [.vec true [], .vec true [], .vec true []] 70, .box [.vec true [], .vec true [], .vec true []] 70, .box [.vec true [], .vec true [], .vec true []] 70]) [0, 1, 4, 6, 7, 8, 9] [0, 1, 2] (by decide) low0 rfl rfl) (Ref.weak (WkT.cons (Wk.refl _) (WkT.cons (Wk.refl _) (WkT.cons (Wk.refl _) (WkT.cons (Wk.refl _) (WkT.cons (Wk.refl _) (WkT.cons (Wk.refl _) (WkT.cons (Wk.refl _) (WkT.nil)))))))) (WkH.cons (WkO.bx (Wks.cons (Wk.refl _) (Wks.cons (Wk.refl _) (Wks.cons (Wk.refl _) (Wks.nil))))) (WkH.cons (WkO.bx (Wks.cons (Wk.refl _) (Wks.cons (Wk.refl _) (Wks.cons (Wk.refl _) (Wks.nil))))) (WkH.cons (WkO.bx (Wks.cons Wk.vec (Wks.cons Wk.vec (Wks.cons (Wk.refl _) (Wks.nil))))) (WkH.nil)))))) (Nat.zero_le _) (ref15_Read_L1_w N _ _ _ c_0 N _ _ _ o_1012 h_1009 ?_)
      rcases o_1012 with ⟨y_1010, y_1011⟩ | _
      · try dsimp only at h
        refine LoopK_go rfl (Nat.zero_le _) ?_
        simp only [e_4, e_8, go_sem, reduceIte, reduceCtorEq, Nat.reduceEqDiff, Nat.reduceLT, Nat.reduceLeDiff, Nat.reduceAdd, Nat.reduceSub, Nat.reduceMul, Int.reduceToNat, Int.reduceLE, Int.reduceLT, Int.reduceAdd, Int.reduceSub, Int.reduceMul, Int.reduceEq, Int.reduceNeg]
        have g_0 := Option.some.inj h
        obtain ⟨k_1, g_1⟩ := Prod.mk.inj g_0
        subst k_1
        obtain ⟨k_2, g_2⟩ := Prod.mk.inj g_1
        subst k_2
        obtain ⟨k_3, g_3⟩ := Prod.mk.inj g_2
        subst k_3
        subst g_3
        rw [← hQ]
        exact ⟨rfl, _, rfl, _, _, (RefV.trans (RefV.out (v' := .tup [.agg [.vec false (List.map eTClass y_1010), .vec false (List.map eTClass y_1011), .vec true []], .bool true]) rfl) (RefV.weak (Wks.cons (Wk.tup (Wks.cons (Wk.agg (Wks.cons (Wk.refl _) (Wks.cons (Wk.refl _) (Wks.cons Wk.vec (Wks.nil))))) (Wks.cons (Wk.refl _) (Wks.nil)))) Wks.nil) (WkH.refl _))), rfl, rfl⟩
      · try dsimp only at h
        refine LoopK_ret ?_
        have g_0 := Option.some.inj h
        obtain ⟨k_1, g_1⟩ := Prod.mk.inj g_0
        subst k_1
        obtain ⟨k_2, g_2⟩ := Prod.mk.inj g_1
        subst k_2
        obtain ⟨k_3, g_3⟩ := Prod.mk.inj g_2
        subst k_3
        subst g_3
        rw [← hQ]
        exact ⟨rfl, _, rfl, _, _, (RefV.trans (RefV.out (v' := .tup [.agg [.vec true [], .vec true [], .vec true []], .bool false]) rfl) (RefV.weak (Wks.cons (Wk.tup (Wks.cons (Wk.agg (Wks.cons Wk.vec (Wks.cons Wk.vec (Wks.cons Wk.vec (Wks.nil))))) (Wks.cons (Wk.refl _) (Wks.nil)))) Wks.nil) (WkH.refl _))), rfl, rfl⟩
  · rw [if_neg h_3] at h
    have e_4 : (y_1 = 65536) = False := eq_false h_3
    simp only [e_4, go_sem, reduceIte, reduceCtorEq, Nat.reduceEqDiff, Nat.reduceLT, Nat.reduceLeDiff, Nat.reduceAdd, Nat.reduceSub, Nat.reduceMul, Int.reduceToNat, Int.reduceLE, Int.reduceLT, Int.reduceAdd, Int.reduceSub, Int.reduceMul, Int.reduceEq, Int.reduceNeg]
    by_cases h_1013 : y_1 = 65538
    · rw [if_pos h_1013] at h
      have e_1014 : (y_1 = 65538) = True := eq_true h_1013
      obtain ⟨y_1015, h_1016, h⟩ := bindS h
      simp only [e_4, e_1014, go_sem, reduceIte, reduceCtorEq, Nat.reduceEqDiff, Nat.reduceLT, Nat.reduceLeDiff, Nat.reduceAdd, Nat.reduceSub, Nat.reduceMul, Int.reduceToNat, Int.reduceLE, Int.reduceLT, Int.reduceAdd, Int.reduceSub, Int.reduceMul, Int.reduceEq, Int.reduceNeg]
      refine ACalls.use0 (ref10_U16_w N _ _ _ _ h_1016) rfl rfl ?_
      refine CallK_go (Nat.zero_le _) ?_
      simp only [e_4, e_1014, go_sem, reduceIte, reduceCtorEq, Nat.reduceEqDiff, Nat.reduceLT, Nat.reduceLeDiff, Nat.reduceAdd, Nat.reduceSub, Nat.reduceMul, Int.reduceToNat, Int.reduceLE, Int.reduceLT, Int.reduceAdd, Int.reduceSub, Int.reduceMul, Int.reduceEq, Int.reduceNeg]
      by_cases h_1017 : y_1015 < 0
      · rw [if_pos h_1017] at h
        have e_1018 : (y_1015 < 0) = True := eq_true h_1017
        simp only [e_4, e_1014, e_1018, go_sem, reduceIte, reduceCtorEq, Nat.reduceEqDiff, Nat.reduceLT, Nat.reduceLeDiff, Nat.reduceAdd, Nat.reduceSub, Nat.reduceMul, Int.reduceToNat, Int.reduceLE, Int.reduceLT, Int.reduceAdd, Int.reduceSub, Int.reduceMul, Int.reduceEq, Int.reduceNeg]
        have g_0 := Option.some.inj h
        obtain ⟨k_1, g_1⟩ := Prod.mk.inj g_0
        subst k_1
        obtain ⟨k_2, g_2⟩ := Prod.mk.inj g_1
        subst k_2
        obtain ⟨k_3, g_3⟩ := Prod.mk.inj g_2
        subst k_3
        subst g_3
        rw [← hQ]
        exact ⟨rfl, _, rfl, _, _, (RefV.trans (RefV.out (v' := .tup [.agg [.vec true [], .vec true [], .vec true []], .bool false]) rfl) (RefV.weak (Wks.cons (Wk.tup (Wks.cons (Wk.agg (Wks.cons Wk.vec (Wks.cons Wk.vec (Wks.cons Wk.vec (Wks.nil))))) (Wks.cons (Wk.refl _) (Wks.nil)))) Wks.nil) (WkH.refl _))), rfl, rfl⟩
      · rw [if_neg h_1017] at h
        have e_1018 : (y_1015 < 0) = False := eq_false h_1017
        simp only [e_4, e_1014, e_1018, go_sem, reduceIte, reduceCtorEq, Nat.reduceEqDiff, Nat.reduceLT, Nat.reduceLeDiff, Nat.reduceAdd, Nat.reduceSub, Nat.reduceMul, Int.reduceToNat, Int.reduceLE, Int.reduceLT, Int.reduceAdd, Int.reduceSub, Int.reduceMul, Int.reduceEq, Int.reduceNeg]
        obtain ⟨o_2022, h_2019, h⟩ := bindS h
        refine ALp.ref (Ref.trans (Ref.std (l' := [(0, .vec c_0 (List.map eU8 l_0)), (1, .int .i64 a_1), (4, .ptr 0 0 0), (6, .ptr 1 0 0), (7, .ptr 2 0 0), (8, .int .i64 y_1), (9, .int .i64 0)]) (H' := [.box [.vec true [], .vec true [], .vec true []] 70, .box [.vec true [], .vec true [], .vec true []] 70, .box [.vec true [], .vec true [], .vec true []] 70]) [0, 1, 4, 6, 7, 8, 9] [0, 1, 2] (by decide) low0 rfl rfl) (Ref.weak (WkT.cons (Wk.refl _) (WkT.cons (Wk.refl _) (WkT.cons (Wk.refl _) (WkT.cons (Wk.refl _) (WkT.cons (Wk.refl _) (WkT.cons (Wk.refl _) (WkT.cons (Wk.refl _) (WkT.nil)))))))) (WkH.cons (WkO.bx (Wks.cons (Wk.refl _) (Wks.cons (Wk.refl _) (Wks.cons (Wk.refl _) (Wks.nil))))) (WkH.cons (WkO.bx (Wks.cons (Wk.refl _) (Wks.cons (Wk.refl _) (Wks.cons (Wk.refl _) (Wks.nil))))) (WkH.cons (WkO.bx (Wks.cons Wk.vec (Wks.cons Wk.vec (Wks.cons (Wk.refl _) (Wks.nil))))) (WkH.nil)))))) (Nat.zero_le _) (ref15_Read_L1_w N _ _ _ c_0 N _ _ _ o_2022 h_2019 ?_)
        rcases o_2022 with ⟨y_2020, y_2021⟩ | _
        · try dsimp only at h
          refine LoopK_go rfl (Nat.zero_le _) ?_
          obtain ⟨y_2023, h_2024, h⟩ := bindS h
          simp only [e_4, e_1014, e_1018, go_sem, reduceIte, reduceCtorEq, Nat.reduceEqDiff, Nat.reduceLT, Nat.reduceLeDiff, Nat.reduceAdd, Nat.reduceSub, Nat.reduceMul, Int.reduceToNat, Int.reduceLE, Int.reduceLT, Int.reduceAdd, Int.reduceSub, Int.reduceMul, Int.reduceEq, Int.reduceNeg]
          refine ACalls.use0 (ref10_U16_w N _ _ _ _ h_2024) rfl rfl ?_
          refine CallK_go (Nat.zero_le _) ?_
          simp only [e_4, e_1014, e_1018, go_sem, reduceIte, reduceCtorEq, Nat.reduceEqDiff, Nat.reduceLT, Nat.reduceLeDiff, Nat.reduceAdd, Nat.reduceSub, Nat.reduceMul, Int.reduceToNat, Int.reduceLE, Int.reduceLT, Int.reduceAdd, Int.reduceSub, Int.reduceMul, Int.reduceEq, Int.reduceNeg]
          by_cases h_2025 : y_2023 < 0
          · rw [if_pos h_2025] at h
            have e_2026 : (y_2023 < 0) = True := eq_true h_2025
            simp only [e_4, e_1014, e_1018, e_2026, go_sem, reduceIte, reduceCtorEq, Nat.reduceEqDiff, Nat.reduceLT, Nat.reduceLeDiff, Nat.reduceAdd, Nat.reduceSub, Nat.reduceMul, Int.reduceToNat, Int.reduceLE, Int.reduceLT, Int.reduceAdd, Int.reduceSub, Int.reduceMul, Int.reduceEq, Int.reduceNeg]
            have g_0 := Option.some.inj h
            obtain ⟨k_1, g_1⟩ := Prod.mk.inj g_0
            subst k_1
            obtain ⟨k_2, g_2⟩ := Prod.mk.inj g_1
            subst k_2
            obtain ⟨k_3, g_3⟩ := Prod.mk.inj g_2
            subst k_3
            subst g_3
            rw [← hQ]
            exact ⟨rfl, _, rfl, _, _, (RefV.trans (RefV.out (v' := .tup [.agg [.vec true [], .vec true [], .vec true []], .bool false]) rfl) (RefV.weak (Wks.cons (Wk.tup (Wks.cons (Wk.agg (Wks.cons Wk.vec (Wks.cons Wk.vec (Wks.cons Wk.vec (Wks.nil))))) (Wks.cons (Wk.refl _) (Wks.nil)))) Wks.nil) (WkH.refl _))), rfl, rfl⟩
          · rw [if_neg h_2025] at h
            have e_2026 : (y_2023 < 0) = False := eq_false h_2025
            simp only [e_4, e_1014, e_1018, e_2026, go_sem, reduceIte, reduceCtorEq, Nat.reduceEqDiff, Nat.reduceLT, Nat.reduceLeDiff, Nat.reduceAdd, Nat.reduceSub, Nat.reduceMul, Int.reduceToNat, Int.reduceLE, Int.reduceLT, Int.reduceAdd, Int.reduceSub, Int.reduceMul, Int.reduceEq, Int.reduceNeg]
            by_cases h_2027 : y_2023 = 0
            · rw [if_pos h_2027] at h
              have e_2028 : (y_2023 = 0) = True := eq_true h_2027
              simp only [e_4, e_1014, e_1018, e_2026, e_2028, go_sem, reduceIte, reduceCtorEq, Nat.reduceEqDiff, Nat.reduceLT, Nat.reduceLeDiff, Nat.reduceAdd, Nat.reduceSub, Nat.reduceMul, Int.reduceToNat, Int.reduceLE, Int.reduceLT, Int.reduceAdd, Int.reduceSub, Int.reduceMul, Int.reduceEq, Int.reduceNeg]
              have g_0 := Option.some.inj h
              obtain ⟨k_1, g_1⟩ := Prod.mk.inj g_0
              subst k_1
              obtain ⟨k_2, g_2⟩ := Prod.mk.inj g_1
              subst k_2
              obtain ⟨k_3, g_3⟩ := Prod.mk.inj g_2
              subst k_3
              subst g_3
              rw [← hQ]
              exact ⟨rfl, _, rfl, _, _, (RefV.trans (RefV.out (v' := .tup [.agg [.vec false (List.map eTClass y_2020), .vec false (List.map eTClass y_2021), .vec true []], .bool true]) rfl) (RefV.weak (Wks.cons (Wk.tup (Wks.cons (Wk.agg (Wks.cons (Wk.refl _) (Wks.cons (Wk.refl _) (Wks.cons Wk.vec (Wks.nil))))) (Wks.cons (Wk.refl _) (Wks.nil)))) Wks.nil) (WkH.refl _))), rfl, rfl⟩
            · rw [if_neg h_2027] at h
              have e_2028 : (y_2023 = 0) = False := eq_false h_2027
              obtain ⟨y_2029, h_2030, h⟩ := bindS h
              simp only [e_4, e_1014, e_1018, e_2026, e_2028, go_sem, reduceIte, reduceCtorEq, Nat.reduceEqDiff, Nat.reduceLT, Nat.reduceLeDiff, Nat.reduceAdd, Nat.reduceSub, Nat.reduceMul, Int.reduceToNat, Int.reduceLE, Int.reduceLT, Int.reduceAdd, Int.reduceSub, Int.reduceMul, Int.reduceEq, Int.reduceNeg]
              refine ACalls.use0 (ref10_U16_w N _ _ _ _ h_2030) rfl rfl ?_
              refine CallK_go (Nat.zero_le _) ?_
              obtain ⟨y_2031, h_2032, h⟩ := bindS h
              simp only [e_4, e_1014, e_1018, e_2026, e_2028, go_sem, reduceIte, reduceCtorEq, Nat.reduceEqDiff, Nat.reduceLT, Nat.reduceLeDiff, Nat.reduceAdd, Nat.reduceSub, Nat.reduceMul, Int.reduceToNat, Int.reduceLE, Int.reduceLT, Int.reduceAdd, Int.reduceSub, Int.reduceMul, Int.reduceEq, Int.reduceNeg]
              refine ACalls.use0 (ref10_U16_w N _ _ _ _ h_2032) rfl rfl ?_
              refine CallK_go (Nat.zero_le _) ?_
              simp only [e_4, e_1014, e_1018, e_2026, e_2028, go_sem, reduceIte, reduceCtorEq, Nat.reduceEqDiff, Nat.reduceLT, Nat.reduceLeDiff, Nat.reduceAdd, Nat.reduceSub, Nat.reduceMul, Int.reduceToNat, Int.reduceLE, Int.reduceLT, Int.reduceAdd, Int.reduceSub, Int.reduceMul, Int.reduceEq, Int.reduceNeg]
              by_cases h_2033 : y_2031 = 1
              · rw [if_pos h_2033] at h
                have e_2034 : (y_2031 = 1) = True := eq_true h_2033
                simp only [e_4, e_1014, e_1018, e_2026, e_2028, e_2034, go_sem, reduceIte, reduceCtorEq, Nat.reduceEqDiff, Nat.reduceLT, Nat.reduceLeDiff, Nat.reduceAdd, Nat.reduceSub, Nat.reduceMul, Int.reduceToNat, Int.reduceLE, Int.reduceLT, Int.reduceAdd, Int.reduceSub, Int.reduceMul, Int.reduceEq, Int.reduceNeg]
                by_cases h_2035 : y_2029 < 0
                · rw [if_pos h_2035] at h
                  have e_2036 : (y_2029 < 0) = True := eq_true h_2035
                  simp only [e_4, e_1014, e_1018, e_2026, e_2028, e_2034, e_2036, go_sem, reduceIte, reduceCtorEq, Nat.reduceEqDiff, Nat.reduceLT, Nat.reduceLeDiff, Nat.reduceAdd, Nat.reduceSub, Nat.reduceMul, Int.reduceToNat, Int.reduceLE, Int.reduceLT, Int.reduceAdd, Int.reduceSub, Int.reduceMul, Int.reduceEq, Int.reduceNeg]
                  have g_0 := Option.some.inj h
                  obtain ⟨k_1, g_1⟩ := Prod.mk.inj g_0
                  subst k_1
                  obtain ⟨k_2, g_2⟩ := Prod.mk.inj g_1
                  subst k_2
                  obtain ⟨k_3, g_3⟩ := Prod.mk.inj g_2
                  subst k_3
                  subst g_3
                  rw [← hQ]
                  exact ⟨rfl, _, rfl, _, _, (RefV.trans (RefV.out (v' := .tup [.agg [.vec true [], .vec true [], .vec true []], .bool false]) rfl) (RefV.weak (Wks.cons (Wk.tup (Wks.cons (Wk.agg (Wks.cons Wk.vec (Wks.cons Wk.vec (Wks.cons Wk.vec (Wks.nil))))) (Wks.cons (Wk.refl _) (Wks.nil)))) Wks.nil) (WkH.refl _))), rfl, rfl⟩
                · rw [if_neg h_2035] at h
                  have e_2036 : (y_2029 < 0) = False := eq_false h_2035
                  simp only [e_4, e_1014, e_1018, e_2026, e_2028, e_2034, e_2036, go_sem, reduceIte, reduceCtorEq, Nat.reduceEqDiff, Nat.reduceLT, Nat.reduceLeDiff, Nat.reduceAdd, Nat.reduceSub, Nat.reduceMul, Int.reduceToNat, Int.reduceLE, Int.reduceLT, Int.reduceAdd, Int.reduceSub, Int.reduceMul, Int.reduceEq, Int.reduceNeg]
                  by_cases h_2037 : 64 < y_2029
                  · rw [if_pos h_2037] at h
                    have e_2038 : (64 < y_2029) = True := eq_true h_2037
                    simp only [e_4, e_1014, e_1018, e_2026, e_2028, e_2034, e_2036, e_2038, go_sem, reduceIte, reduceCtorEq, Nat.reduceEqDiff, Nat.reduceLT, Nat.reduceLeDiff, Nat.reduceAdd, Nat.reduceSub, Nat.reduceMul, Int.reduceToNat, Int.reduceLE, Int.reduceLT, Int.reduceAdd, Int.reduceSub, Int.reduceMul, Int.reduceEq, Int.reduceNeg]
                    have g_0 := Option.some.inj h
                    obtain ⟨k_1, g_1⟩ := Prod.mk.inj g_0
                    subst k_1
                    obtain ⟨k_2, g_2⟩ := Prod.mk.inj g_1
                    subst k_2
                    obtain ⟨k_3, g_3⟩ := Prod.mk.inj g_2
                    subst k_3
                    subst g_3
                    rw [← hQ]
                    exact ⟨rfl, _, rfl, _, _, (RefV.trans (RefV.out (v' := .tup [.agg [.vec true [], .vec true [], .vec true []], .bool false]) rfl) (RefV.weak (Wks.cons (Wk.tup (Wks.cons (Wk.agg (Wks.cons Wk.vec (Wks.cons Wk.vec (Wks.cons Wk.vec (Wks.nil))))) (Wks.cons (Wk.refl _) (Wks.nil)))) Wks.nil) (WkH.refl _))), rfl, rfl⟩
                  · rw [if_neg h_2037] at h
                    have e_2038 : (64 < y_2029) = False := eq_false h_2037
                    simp only [e_4, e_1014, e_1018, e_2026, e_2028, e_2034, e_2036, e_2038, go_sem, reduceIte, reduceCtorEq, Nat.reduceEqDiff, Nat.reduceLT, Nat.reduceLeDiff, Nat.reduceAdd, Nat.reduceSub, Nat.reduceMul, Int.reduceToNat, Int.reduceLE, Int.reduceLT, Int.reduceAdd, Int.reduceSub, Int.reduceMul, Int.reduceEq, Int.reduceNeg]
                    obtain ⟨o_3041, h_3039, h⟩ := bindS h
                    refine ALp.ref (Ref.trans (Ref.thawB (Nat.zero_le _) (id := 2) 2 rfl rfl (sz := 1) (by decide) 24) (Ref.std [0, 1, 4, 6, 7, 13, 14, 15] [0, 1, 2, 3] (by decide) low0 rfl (by first | rfl | simp only [go_sem, reduceIte, Nat.reduceEqDiff, Nat.reduceAdd]))) (Nat.zero_le _) (ref15_Read_L2_w N _ _ _ _ _ _ c_0 N _ _ o_3041 h_3039 ?_)
                    rcases o_3041 with y_3040 | _
                    · try dsimp only at h
                      refine LoopK_go rfl (Nat.zero_le _) ?_
                      simp only [e_4, e_1014, e_1018, e_2026, e_2028, e_2034, e_2036, e_2038, go_sem, reduceIte, reduceCtorEq, Nat.reduceEqDiff, Nat.reduceLT, Nat.reduceLeDiff, Nat.reduceAdd, Nat.reduceSub, Nat.reduceMul, Int.reduceToNat, Int.reduceLE, Int.reduceLT, Int.reduceAdd, Int.reduceSub, Int.reduceMul, Int.reduceEq, Int.reduceNeg]
                      have g_0 := Option.some.inj h
                      obtain ⟨k_1, g_1⟩ := Prod.mk.inj g_0
                      subst k_1
                      obtain ⟨k_2, g_2⟩ := Prod.mk.inj g_1
                      subst k_2
                      obtain ⟨k_3, g_3⟩ := Prod.mk.inj g_2
                      subst k_3
                      subst g_3
                      rw [← hQ]
                      exact ⟨rfl, _, rfl, _, _, (RefV.trans (RefV.frz (Nat.zero_le _) (id := 2) rfl (pures_map y_3040 eLTSpan (fun _ => rfl))) (RefV.out (by first | rfl | simp only [go_sem, reduceIte, Nat.reduceEqDiff, Nat.reduceAdd, e_4, e_1014, e_1018, e_2026, e_2028, e_2034, e_2036, e_2038]))), rfl, rfl⟩
                    · try dsimp only at h
                      refine LoopK_ret ?_
                      have g_0 := Option.some.inj h
                      obtain ⟨k_1, g_1⟩ := Prod.mk.inj g_0
                      subst k_1
                      obtain ⟨k_2, g_2⟩ := Prod.mk.inj g_1
                      subst k_2
                      obtain ⟨k_3, g_3⟩ := Prod.mk.inj g_2
                      subst k_3
                      subst g_3
                      rw [← hQ]
                      exact ⟨rfl, _, rfl, _, _, (RefV.trans (RefV.out (v' := .tup [.agg [.vec true [], .vec true [], .vec true []], .bool false]) rfl) (RefV.weak (Wks.cons (Wk.tup (Wks.cons (Wk.agg (Wks.cons Wk.vec (Wks.cons Wk.vec (Wks.cons Wk.vec (Wks.nil))))) (Wks.cons (Wk.refl _) (Wks.nil)))) Wks.nil) (WkH.refl _))), rfl, rfl⟩
              · rw [if_neg h_2033] at h
                have e_2034 : (y_2031 = 1) = False := eq_false h_2033
                simp only [e_4, e_1014, e_1018, e_2026, e_2028, e_2034, go_sem, reduceIte, reduceCtorEq, Nat.reduceEqDiff, Nat.reduceLT, Nat.reduceLeDiff, Nat.reduceAdd, Nat.reduceSub, Nat.reduceMul, Int.reduceToNat, Int.reduceLE, Int.reduceLT, Int.reduceAdd, Int.reduceSub, Int.reduceMul, Int.reduceEq, Int.reduceNeg]
                have g_0 := Option.some.inj h
                obtain ⟨k_1, g_1⟩ := Prod.mk.inj g_0
                subst k_1
                obtain ⟨k_2, g_2⟩ := Prod.mk.inj g_1
                subst k_2
                obtain ⟨k_3, g_3⟩ := Prod.mk.inj g_2
                subst k_3
                subst g_3
                rw [← hQ]
                exact ⟨rfl, _, rfl, _, _, (RefV.trans (RefV.out (v' := .tup [.agg [.vec true [], .vec true [], .vec true []], .bool false]) rfl) (RefV.weak (Wks.cons (Wk.tup (Wks.cons (Wk.agg (Wks.cons Wk.vec (Wks.cons Wk.vec (Wks.cons Wk.vec (Wks.nil))))) (Wks.cons (Wk.refl _) (Wks.nil)))) Wks.nil) (WkH.refl _))), rfl, rfl⟩
        · try dsimp only at h
          refine LoopK_ret ?_
          have g_0 := Option.some.inj h
          obtain ⟨k_1, g_1⟩ := Prod.mk.inj g_0
          subst k_1
          obtain ⟨k_2, g_2⟩ := Prod.mk.inj g_1
          subst k_2
          obtain ⟨k_3, g_3⟩ := Prod.mk.inj g_2
          subst k_3
          subst g_3
          rw [← hQ]
          exact ⟨rfl, _, rfl, _, _, (RefV.trans (RefV.out (v' := .tup [.agg [.vec true [], .vec true [], .vec true []], .bool false]) rfl) (RefV.weak (Wks.cons (Wk.tup (Wks.cons (Wk.agg (Wks.cons Wk.vec (Wks.cons Wk.vec (Wks.cons Wk.vec (Wks.nil))))) (Wks.cons (Wk.refl _) (Wks.nil)))) Wks.nil) (WkH.refl _))), rfl, rfl⟩
    · rw [if_neg h_1013] at h
      have e_1014 : (y_1 = 65538) = False := eq_false h_1013
      simp only [e_4, e_1014, go_sem, reduceIte, reduceCtorEq, Nat.reduceEqDiff, Nat.reduceLT, Nat.reduceLeDiff, Nat.reduceAdd, Nat.reduceSub, Nat.reduceMul, Int.reduceToNat, Int.reduceLE, Int.reduceLT, Int.reduceAdd, Int.reduceSub, Int.reduceMul, Int.reduceEq, Int.reduceNeg]
      have g_0 := Option.some.inj h
      obtain ⟨k_1, g_1⟩ := Prod.mk.inj g_0
      subst k_1
      obtain ⟨k_2, g_2⟩ := Prod.mk.inj g_1
      subst k_2
      obtain ⟨k_3, g_3⟩ := Prod.mk.inj g_2
      subst k_3
      subst g_3
      rw [← hQ]
      exact ⟨rfl, _, rfl, _, _, (RefV.trans (RefV.out (v' := .tup [.agg [.vec true [], .vec true [], .vec true []], .bool false]) rfl) (RefV.weak (Wks.cons (Wk.tup (Wks.cons (Wk.agg (Wks.cons Wk.vec (Wks.cons Wk.vec (Wks.cons Wk.vec (Wks.nil))))) (Wks.cons (Wk.refl _) (Wks.nil)))) Wks.nil) (WkH.refl _))), rfl, rfl⟩
theorem ref10_SameClasses_L1_w (N : Nat) (l_0 : List TClass) (l_1 : List TClass) (c_0 : Bool) (c_1 : Bool) {R : AExit → ATm → List AObj → Prop} : ∀ (n : Nat) (i_3 : Int) (o : (Unit) ⊕ (Unit)), ref10_SameClasses_L1 N l_0 l_1 n i_3 = some o → (match o with | .inl _ => R (.exit 0) ⟨26, [], []⟩ [] | .inr (_) => R .ret ⟨26, [(4, .bool false)], []⟩ []) →
    ALp Go.Proofs.Try.prog 0 B23_1 ⟨26, [(0, .vec c_0 (List.map eTClass l_0)), (1, .vec c_1 (List.map eTClass l_1)), (5, .int .i64 i_3)], []⟩ [] R := by
  intro n
  induction n with
  | zero =>
    intro i_3 o h _
    have h0 : none = some o := h
    cases h0
  | succ n ih =>
    intro i_3 o h hp
    rw [ref10_SameClasses_L1] at h
    refine ALp.round ?_
    generalize hQ : RoundQ _ _ _ _ = QQ
    simp only [B23_1, A23, go_sem, reduceIte, reduceCtorEq, Nat.reduceEqDiff, Nat.reduceLT, Nat.reduceLeDiff, Nat.reduceAdd, Nat.reduceSub, Nat.reduceMul, Int.reduceToNat, Int.reduceLE, Int.reduceLT, Int.reduceAdd, Int.reduceSub, Int.reduceMul, Int.reduceEq, Int.reduceNeg]
    by_cases h_4 : i_3 < (l_0.length : Int)
    · rw [if_pos h_4] at h
      have e_5 : (i_3 < (l_0.length : Int)) = True := eq_true h_4
      obtain ⟨x_6, h_7, h⟩ := bindS h
      have e_8 : (List.map eTClass l_0)[(i_3).toNat]? = some [.int .i64 x_6.From, .int .i64 x_6.To, .int .i64 x_6.Class] := atI_map eTClass h_7
      have e_9 : ((0 : Int) ≤ i_3) = True := eq_true (atI_some h_7).1
      have e_10 : ((i_3 : Int) < (l_0.length : Int)) = True := eq_true (atI_lt h_7)
      obtain ⟨x_11, h_12, h⟩ := bindS h
      have e_13 : (List.map eTClass l_1)[(i_3).toNat]? = some [.int .i64 x_11.From, .int .i64 x_11.To, .int .i64 x_11.Class] := atI_map eTClass h_12
      have e_14 : ((0 : Int) ≤ i_3) = True := eq_true (atI_some h_12).1
      have e_15 : ((i_3 : Int) < (l_1.length : Int)) = True := eq_true (atI_lt h_12)
      simp only [e_5, e_8, e_9, e_10, e_13, e_14, e_15, go_sem, reduceIte, reduceCtorEq, Nat.reduceEqDiff, Nat.reduceLT, Nat.reduceLeDiff, Nat.reduceAdd, Nat.reduceSub, Nat.reduceMul, Int.reduceToNat, Int.reduceLE, Int.reduceLT, Int.reduceAdd, Int.reduceSub, Int.reduceMul, Int.reduceEq, Int.reduceNeg]
      by_cases h_16 : x_6.From = x_11.From
      · rw [if_pos h_16] at h
        have e_17 : (x_6.From = x_11.From) = True := eq_true h_16
        simp only [e_5, e_8, e_9, e_10, e_13, e_14, e_15, e_17, go_sem, reduceIte, reduceCtorEq, Nat.reduceEqDiff, Nat.reduceLT, Nat.reduceLeDiff, Nat.reduceAdd, Nat.reduceSub, Nat.reduceMul, Int.reduceToNat, Int.reduceLE, Int.reduceLT, Int.reduceAdd, Int.reduceSub, Int.reduceMul, Int.reduceEq, Int.reduceNeg]
        by_cases h_18 : x_6.To = x_11.To
        · rw [if_pos h_18] at h
          have e_19 : (x_6.To = x_11.To) = True := eq_true h_18
          simp only [e_5, e_8, e_9, e_10, e_13, e_14, e_15, e_17, e_19, go_sem, reduceIte, reduceCtorEq, Nat.reduceEqDiff, Nat.reduceLT, Nat.reduceLeDiff, Nat.reduceAdd, Nat.reduceSub, Nat.reduceMul, Int.reduceToNat, Int.reduceLE, Int.reduceLT, Int.reduceAdd, Int.reduceSub, Int.reduceMul, Int.reduceEq, Int.reduceNeg]
          by_cases h_20 : x_6.Class = x_11.Class
          · rw [if_pos h_20] at h
            have e_21 : (x_6.Class = x_11.Class) = True := eq_true h_20
            simp only [e_5, e_8, e_9, e_10, e_13, e_14, e_15, e_17, e_19, e_21, go_sem, reduceIte, reduceCtorEq, Nat.reduceEqDiff, Nat.reduceLT, Nat.reduceLeDiff, Nat.reduceAdd, Nat.reduceSub, Nat.reduceMul, Int.reduceToNat, Int.reduceLE, Int.reduceLT, Int.reduceAdd, Int.reduceSub, Int.reduceMul, Int.reduceEq, Int.reduceNeg]
            rw [← hQ]
            exact ⟨_, _, (Ref.out [0, 1, 5] rfl), (Nat.zero_le _), ih _ _ h hp⟩
          · rw [if_neg h_20] at h
            have e_21 : (x_6.Class = x_11.Class) = False := eq_false h_20
            simp only [e_5, e_8, e_9, e_10, e_13, e_14, e_15, e_17, e_19, e_21, go_sem, reduceIte, reduceCtorEq, Nat.reduceEqDiff, Nat.reduceLT, Nat.reduceLeDiff, Nat.reduceAdd, Nat.reduceSub, Nat.reduceMul, Int.reduceToNat, Int.reduceLE, Int.reduceLT, Int.reduceAdd, Int.reduceSub, Int.reduceMul, Int.reduceEq, Int.reduceNeg]
            have g := Option.some.inj h
            subst g
            rw [← hQ]
            exact ⟨_, _, (Ref.out [4] rfl), hp⟩
        · rw [if_neg h_18] at h
          have e_19 : (x_6.To = x_11.To) = False := eq_false h_18
          simp only [e_5, e_8, e_9, e_10, e_13, e_14, e_15, e_17, e_19, go_sem, reduceIte, reduceCtorEq, Nat.reduceEqDiff, Nat.reduceLT, Nat.reduceLeDiff, Nat.reduceAdd, Nat.reduceSub, Nat.reduceMul, Int.reduceToNat, Int.reduceLE, Int.reduceLT, Int.reduceAdd, Int.reduceSub, Int.reduceMul, Int.reduceEq, Int.reduceNeg]
          have g := Option.some.inj h
          subst g
          rw [← hQ]
          exact ⟨_, _, (Ref.out [4] rfl), hp⟩
      · rw [if_neg h_16] at h
        have e_17 : (x_6.From = x_11.From) = False := eq_false h_16
        simp only [e_5, e_8, e_9, e_10, e_13, e_14, e_15, e_17, go_sem, reduceIte, reduceCtorEq, Nat.reduceEqDiff, Nat.reduceLT, Nat.reduceLeDiff, Nat.reduceAdd, Nat.reduceSub, Nat.reduceMul, Int.reduceToNat, Int.reduceLE, Int.reduceLT, Int.reduceAdd, Int.reduceSub, Int.reduceMul, Int.reduceEq, Int.reduceNeg]
        have g := Option.some.inj h
        subst g
        rw [← hQ]
        exact ⟨_, _, (Ref.out [4] rfl), hp⟩
    · rw [if_neg h_4] at h
      have e_5 : (i_3 < (l_0.length : Int)) = False := eq_false h_4
      simp only [e_5, go_sem, reduceIte, reduceCtorEq, Nat.reduceEqDiff, Nat.reduceLT, Nat.reduceLeDiff, Nat.reduceAdd, Nat.reduceSub, Nat.reduceMul, Int.reduceToNat, Int.reduceLE, Int.reduceLT, Int.reduceAdd, Int.reduceSub, Int.reduceMul, Int.reduceEq, Int.reduceNeg]
      have g := Option.some.inj h
      subst g
      rw [← hQ]
      exact ⟨_, _, (Ref.out [] rfl), hp⟩
theorem ref10_SameClasses_w (N : Nat) (l_0 : List TClass) (l_1 : List TClass) (c_0 : Bool) (c_1 : Bool) (z_1 : Bool) (h : ref10_SameClasses N l_0 l_1 = some z_1) :
    ACalls Go.Proofs.Try.prog 23 [.vec c_0 (List.map eTClass l_0), .vec c_1 (List.map eTClass l_1)] [] (fun e H => H = [] ∧ e = .ret (.bool z_1)) := by
  unfold ref10_SameClasses at h
  refine ACalls.goN Go.Proofs.Try.func23 n23 a23 Go.Proofs.Try.ntmps23 r23 (by simp) 0 rfl ?_
  generalize hQ : bodyA _ _ _ = QQ
  simp only [A23, go_sem, reduceIte, reduceCtorEq, Nat.reduceEqDiff, Nat.reduceLT, Nat.reduceLeDiff, Nat.reduceAdd, Nat.reduceSub, Nat.reduceMul, Int.reduceToNat, Int.reduceLE, Int.reduceLT, Int.reduceAdd, Int.reduceSub, Int.reduceMul, Int.reduceEq, Int.reduceNeg]
  by_cases h_1 : (l_0.length : Int) = (l_1.length : Int)
  · rw [if_pos h_1] at h
    have e_2 : ((l_0.length : Int) = (l_1.length : Int)) = True := eq_true h_1
    simp only [e_2, go_sem, reduceIte, reduceCtorEq, Nat.reduceEqDiff, Nat.reduceLT, Nat.reduceLeDiff, Nat.reduceAdd, Nat.reduceSub, Nat.reduceMul, Int.reduceToNat, Int.reduceLE, Int.reduceLT, Int.reduceAdd, Int.reduceSub, Int.reduceMul, Int.reduceEq, Int.reduceNeg]
    obtain ⟨o_1004, h_1003, h⟩ := bindS h
    refine ALp.ref (Ref.out [0, 1, 5] rfl) (Nat.zero_le _) (ref10_SameClasses_L1_w N _ _ c_0 c_1 N _ o_1004 h_1003 ?_)
    rcases o_1004 with _ | _
    · try dsimp only at h
      refine LoopK_go rfl (Nat.zero_le _) ?_
      simp only [e_2, go_sem, reduceIte, reduceCtorEq, Nat.reduceEqDiff, Nat.reduceLT, Nat.reduceLeDiff, Nat.reduceAdd, Nat.reduceSub, Nat.reduceMul, Int.reduceToNat, Int.reduceLE, Int.reduceLT, Int.reduceAdd, Int.reduceSub, Int.reduceMul, Int.reduceEq, Int.reduceNeg]
      have g_0 := Option.some.inj h
      subst g_0
      rw [← hQ]
      exact ⟨rfl, _, rfl, _, _, (RefV.out rfl), rfl, rfl⟩
    · try dsimp only at h
      refine LoopK_ret ?_
      have g_0 := Option.some.inj h
      subst g_0
      rw [← hQ]
      exact ⟨rfl, _, rfl, _, _, (RefV.out rfl), rfl, rfl⟩
  · rw [if_neg h_1] at h
    have e_2 : ((l_0.length : Int) = (l_1.length : Int)) = False := eq_false h_1
    simp only [e_2, go_sem, reduceIte, reduceCtorEq, Nat.reduceEqDiff, Nat.reduceLT, Nat.reduceLeDiff, Nat.reduceAdd, Nat.reduceSub, Nat.reduceMul, Int.reduceToNat, Int.reduceLE, Int.reduceLT, Int.reduceAdd, Int.reduceSub, Int.reduceMul, Int.reduceEq, Int.reduceNeg]
    have g_0 := Option.some.inj h
    subst g_0
    rw [← hQ]
    exact ⟨rfl, _, rfl, _, _, (RefV.out rfl), rfl, rfl⟩
theorem ref10_Same_L1_w (N : Nat) (l_0 : List TSpan) (l_1 : List TSpan) (c_0 : Bool) (c_1 : Bool) {R : AExit → ATm → List AObj → Prop} : ∀ (n : Nat) (i_3 : Int) (o : (Unit) ⊕ (Unit)), ref10_Same_L1 N l_0 l_1 n i_3 = some o → (match o with | .inl _ => R (.exit 0) ⟨26, [], []⟩ [] | .inr (_) => R .ret ⟨26, [(4, .bool false)], []⟩ []) →
    ALp Go.Proofs.Try.prog 0 B22_1 ⟨26, [(0, .vec c_0 (List.map eTSpan l_0)), (1, .vec c_1 (List.map eTSpan l_1)), (5, .int .i64 i_3)], []⟩ [] R := by
  intro n
  induction n with
  | zero =>
    intro i_3 o h _
    have h0 : none = some o := h
    cases h0
  | succ n ih =>
    intro i_3 o h hp
    rw [ref10_Same_L1] at h
    refine ALp.round ?_
    generalize hQ : RoundQ _ _ _ _ = QQ
    simp only [B22_1, A22, go_sem, reduceIte, reduceCtorEq, Nat.reduceEqDiff, Nat.reduceLT, Nat.reduceLeDiff, Nat.reduceAdd, Nat.reduceSub, Nat.reduceMul, Int.reduceToNat, Int.reduceLE, Int.reduceLT, Int.reduceAdd, Int.reduceSub, Int.reduceMul, Int.reduceEq, Int.reduceNeg]
    by_cases h_4 : i_3 < (l_0.length : Int)
    · rw [if_pos h_4] at h
      have e_5 : (i_3 < (l_0.length : Int)) = True := eq_true h_4
      obtain ⟨x_6, h_7, h⟩ := bindS h
      have e_8 : (List.map eTSpan l_0)[(i_3).toNat]? = some [.int .i64 x_6.From, .int .i64 x_6.To] := atI_map eTSpan h_7
      have e_9 : ((0 : Int) ≤ i_3) = True := eq_true (atI_some h_7).1
      have e_10 : ((i_3 : Int) < (l_0.length : Int)) = True := eq_true (atI_lt h_7)
      obtain ⟨x_11, h_12, h⟩ := bindS h
      have e_13 : (List.map eTSpan l_1)[(i_3).toNat]? = some [.int .i64 x_11.From, .int .i64 x_11.To] := atI_map eTSpan h_12
      have e_14 : ((0 : Int) ≤ i_3) = True := eq_true (atI_some h_12).1
      have e_15 : ((i_3 : Int) < (l_1.length : Int)) = True := eq_true (atI_lt h_12)
      simp only [e_5, e_8, e_9, e_10, e_13, e_14, e_15, go_sem, reduceIte, reduceCtorEq, Nat.reduceEqDiff, Nat.reduceLT, Nat.reduceLeDiff, Nat.reduceAdd, Nat.reduceSub, Nat.reduceMul, Int.reduceToNat, Int.reduceLE, Int.reduceLT, Int.reduceAdd, Int.reduceSub, Int.reduceMul, Int.reduceEq, Int.reduceNeg]
      by_cases h_16 : x_6.From = x_11.From
      · rw [if_pos h_16] at h
        have e_17 : (x_6.From = x_11.From) = True := eq_true h_16
        simp only [e_5, e_8, e_9, e_10, e_13, e_14, e_15, e_17, go_sem, reduceIte, reduceCtorEq, Nat.reduceEqDiff, Nat.reduceLT, Nat.reduceLeDiff, Nat.reduceAdd, Nat.reduceSub, Nat.reduceMul, Int.reduceToNat, Int.reduceLE, Int.reduceLT, Int.reduceAdd, Int.reduceSub, Int.reduceMul, Int.reduceEq, Int.reduceNeg]
        by_cases h_18 : x_6.To = x_11.To
        · rw [if_pos h_18] at h
          have e_19 : (x_6.To = x_11.To) = True := eq_true h_18
          simp only [e_5, e_8, e_9, e_10, e_13, e_14, e_15, e_17, e_19, go_sem, reduceIte, reduceCtorEq, Nat.reduceEqDiff, Nat.reduceLT, Nat.reduceLeDiff, Nat.reduceAdd, Nat.reduceSub, Nat.reduceMul, Int.reduceToNat, Int.reduceLE, Int.reduceLT, Int.reduceAdd, Int.reduceSub, Int.reduceMul, Int.reduceEq, Int.reduceNeg]
          rw [← hQ]
          exact ⟨_, _, (Ref.out [0, 1, 5] rfl), (Nat.zero_le _), ih _ _ h hp⟩
        · rw [if_neg h_18] at h
          have e_19 : (x_6.To = x_11.To) = False := eq_false h_18
          simp only [e_5, e_8, e_9, e_10, e_13, e_14, e_15, e_17, e_19, go_sem, reduceIte, reduceCtorEq, Nat.reduceEqDiff, Nat.reduceLT, Nat.reduceLeDiff, Nat.reduceAdd, Nat.reduceSub, Nat.reduceMul, Int.reduceToNat, Int.reduceLE, Int.reduceLT, Int.reduceAdd, Int.reduceSub, Int.reduceMul, Int.reduceEq, Int.reduceNeg]
          have g := Option.some.inj h
          subst g
          rw [← hQ]
          exact ⟨_, _, (Ref.out [4] rfl), hp⟩
      · rw [if_neg h_16] at h
        have e_17 : (x_6.From = x_11.From) = False := eq_false h_16
        simp only [e_5, e_8, e_9, e_10, e_13, e_14, e_15, e_17, go_sem, reduceIte, reduceCtorEq, Nat.reduceEqDiff, Nat.reduceLT, Nat.reduceLeDiff, Nat.reduceAdd, Nat.reduceSub, Nat.reduceMul, Int.reduceToNat, Int.reduceLE, Int.reduceLT, Int.reduceAdd, Int.reduceSub, Int.reduceMul, Int.reduceEq, Int.reduceNeg]
        have g := Option.some.inj h
        subst g
        rw [← hQ]
        exact ⟨_, _, (Ref.out [4] rfl), hp⟩
    · rw [if_neg h_4] at h
      have e_5 : (i_3 < (l_0.length : Int)) = False := eq_false h_4
      simp only [e_5, go_sem, reduceIte, reduceCtorEq, Nat.reduceEqDiff, Nat.reduceLT, Nat.reduceLeDiff, Nat.reduceAdd, Nat.reduceSub, Nat.reduceMul, Int.reduceToNat, Int.reduceLE, Int.reduceLT, Int.reduceAdd, Int.reduceSub, Int.reduceMul, Int.reduceEq, Int.reduceNeg]
      have g := Option.some.inj h
      subst g
      rw [← hQ]
      exact ⟨_, _, (Ref.out [] rfl), hp⟩
theorem ref10_Same_w (N : Nat) (l_0 : List TSpan) (l_1 : List TSpan) (c_0 : Bool) (c_1 : Bool) (z_1 : Bool) (h : ref10_Same N l_0 l_1 = some z_1) :
    ACalls Go.Proofs.Try.prog 22 [.vec c_0 (List.map eTSpan l_0), .vec c_1 (List.map eTSpan l_1)] [] (fun e H => H = [] ∧ e = .ret (.bool z_1)) := by
  unfold ref10_Same at h
  refine ACalls.goN Go.Proofs.Try.func22 n22 a22 Go.Proofs.Try.ntmps22 r22 (by simp) 0 rfl ?_
  generalize hQ : bodyA _ _ _ = QQ
  simp only [A22, go_sem, reduceIte, reduceCtorEq, Nat.reduceEqDiff, Nat.reduceLT, Nat.reduceLeDiff, Nat.reduceAdd, Nat.reduceSub, Nat.reduceMul, Int.reduceToNat, Int.reduceLE, Int.reduceLT, Int.reduceAdd, Int.reduceSub, Int.reduceMul, Int.reduceEq, Int.reduceNeg]
  by_cases h_1 : (l_0.length : Int) = (l_1.length : Int)
  · rw [if_pos h_1] at h
    have e_2 : ((l_0.length : Int) = (l_1.length : Int)) = True := eq_true h_1
    simp only [e_2, go_sem, reduceIte, reduceCtorEq, Nat.reduceEqDiff, Nat.reduceLT, Nat.reduceLeDiff, Nat.reduceAdd, Nat.reduceSub, Nat.reduceMul, Int.reduceToNat, Int.reduceLE, Int.reduceLT, Int.reduceAdd, Int.reduceSub, Int.reduceMul, Int.reduceEq, Int.reduceNeg]
    obtain ⟨o_1004, h_1003, h⟩ := bindS h
    refine ALp.ref (Ref.out [0, 1, 5] rfl) (Nat.zero_le _) (ref10_Same_L1_w N _ _ c_0 c_1 N _ o_1004 h_1003 ?_)
    rcases o_1004 with _ | _
    · try dsimp only at h
      refine LoopK_go rfl (Nat.zero_le _) ?_
      simp only [e_2, go_sem, reduceIte, reduceCtorEq, Nat.reduceEqDiff, Nat.reduceLT, Nat.reduceLeDiff, Nat.reduceAdd, Nat.reduceSub, Nat.reduceMul, Int.reduceToNat, Int.reduceLE, Int.reduceLT, Int.reduceAdd, Int.reduceSub, Int.reduceMul, Int.reduceEq, Int.reduceNeg]
      have g_0 := Option.some.inj h
      subst g_0
      rw [← hQ]
      exact ⟨rfl, _, rfl, _, _, (RefV.out rfl), rfl, rfl⟩
    · try dsimp only at h
      refine LoopK_ret ?_
      have g_0 := Option.some.inj h
      subst g_0
      rw [← hQ]
      exact ⟨rfl, _, rfl, _, _, (RefV.out rfl), rfl, rfl⟩
  · rw [if_neg h_1] at h
    have e_2 : ((l_0.length : Int) = (l_1.length : Int)) = False := eq_false h_1
    simp only [e_2, go_sem, reduceIte, reduceCtorEq, Nat.reduceEqDiff, Nat.reduceLT, Nat.reduceLeDiff, Nat.reduceAdd, Nat.reduceSub, Nat.reduceMul, Int.reduceToNat, Int.reduceLE, Int.reduceLT, Int.reduceAdd, Int.reduceSub, Int.reduceMul, Int.reduceEq, Int.reduceNeg]
    have g_0 := Option.some.inj h
    subst g_0
    rw [← hQ]
    exact ⟨rfl, _, rfl, _, _, (RefV.out rfl), rfl, rfl⟩
theorem ref15_Same_L1_w (N : Nat) (l_0 : List TClass) (l_1 : List TClass) (l_2 : List (List TSpan)) (l_3 : List TClass) (l_4 : List TClass) (l_5 : List (List TSpan)) (c_0 : Bool) (c_1 : Bool) (c_2 : Bool) (c_3 : Bool) (c_4 : Bool) (c_5 : Bool) {R : AExit → ATm → List AObj → Prop} : ∀ (n : Nat) (i_11 : Int) (o : (Unit) ⊕ (Unit)), ref15_Same_L1 N l_0 l_1 l_2 l_3 l_4 l_5 n i_11 = some o → (match o with | .inl _ => R (.exit 0) ⟨48, [], []⟩ [] | .inr (_) => R .ret ⟨48, [(4, .bool false)], []⟩ []) →
    ALp Go.Proofs.Try.prog 0 B45_1 ⟨48, [(2, .ptr 0 0 0), (3, .ptr 1 0 0), (5, .int .i64 i_11)], []⟩ [.box [.vec c_0 (List.map eTClass l_0), .vec c_1 (List.map eTClass l_1), .vec c_2 (List.map eLTSpan l_2)] 70, .box [.vec c_3 (List.map eTClass l_3), .vec c_4 (List.map eTClass l_4), .vec c_5 (List.map eLTSpan l_5)] 70] R := by
  intro n
  induction n with
  | zero =>
    intro i_11 o h _
    have h0 : none = some o := h
    cases h0
  | succ n ih =>
    intro i_11 o h hp
    rw [ref15_Same_L1] at h
    refine ALp.round ?_
    generalize hQ : RoundQ _ _ _ _ = QQ
    simp only [B45_1, A45, go_sem, reduceIte, reduceCtorEq, Nat.reduceEqDiff, Nat.reduceLT, Nat.reduceLeDiff, Nat.reduceAdd, Nat.reduceSub, Nat.reduceMul, Int.reduceToNat, Int.reduceLE, Int.reduceLT, Int.reduceAdd, Int.reduceSub, Int.reduceMul, Int.reduceEq, Int.reduceNeg]
    by_cases h_12 : i_11 < (l_2.length : Int)
    · rw [if_pos h_12] at h
      have e_13 : (i_11 < (l_2.length : Int)) = True := eq_true h_12
      obtain ⟨x_14, h_15, h⟩ := bindS h
      have e_16 : (List.map eLTSpan l_2)[(i_11).toNat]? = some [.vec false (List.map eTSpan x_14)] := atI_map eLTSpan h_15
      have e_17 : ((0 : Int) ≤ i_11) = True := eq_true (atI_some h_15).1
      have e_18 : ((i_11 : Int) < (l_2.length : Int)) = True := eq_true (atI_lt h_15)
      obtain ⟨x_19, h_20, h⟩ := bindS h
      have e_21 : (List.map eLTSpan l_5)[(i_11).toNat]? = some [.vec false (List.map eTSpan x_19)] := atI_map eLTSpan h_20
      have e_22 : ((0 : Int) ≤ i_11) = True := eq_true (atI_some h_20).1
      have e_23 : ((i_11 : Int) < (l_5.length : Int)) = True := eq_true (atI_lt h_20)
      obtain ⟨y_24, h_25, h⟩ := bindS h
      simp only [e_13, e_16, e_17, e_18, e_21, e_22, e_23, go_sem, reduceIte, reduceCtorEq, Nat.reduceEqDiff, Nat.reduceLT, Nat.reduceLeDiff, Nat.reduceAdd, Nat.reduceSub, Nat.reduceMul, Int.reduceToNat, Int.reduceLE, Int.reduceLT, Int.reduceAdd, Int.reduceSub, Int.reduceMul, Int.reduceEq, Int.reduceNeg]
      refine ACalls.use0 (ref10_Same_w N _ _ _ _ _ h_25) rfl rfl ?_
      simp only [e_13, e_16, e_17, e_18, e_21, e_22, e_23, go_sem, reduceIte, reduceCtorEq, Nat.reduceEqDiff, Nat.reduceLT, Nat.reduceLeDiff, Nat.reduceAdd, Nat.reduceSub, Nat.reduceMul, Int.reduceToNat, Int.reduceLE, Int.reduceLT, Int.reduceAdd, Int.reduceSub, Int.reduceMul, Int.reduceEq, Int.reduceNeg]
      by_cases h_26 : y_24 = true
      · rw [if_pos h_26] at h
        have e_27 : y_24 = true := h_26
        simp only [e_13, e_16, e_17, e_18, e_21, e_22, e_23, e_27, go_sem, reduceIte, reduceCtorEq, Nat.reduceEqDiff, Nat.reduceLT, Nat.reduceLeDiff, Nat.reduceAdd, Nat.reduceSub, Nat.reduceMul, Int.reduceToNat, Int.reduceLE, Int.reduceLT, Int.reduceAdd, Int.reduceSub, Int.reduceMul, Int.reduceEq, Int.reduceNeg]
        rw [← hQ]
        exact ⟨_, _, (Ref.std [2, 3, 5] [0, 1] (by decide) low0 rfl rfl), (Nat.zero_le _), ih _ _ h hp⟩
      · rw [if_neg h_26] at h
        have e_27 : y_24 = false := bfalse h_26
        simp only [e_13, e_16, e_17, e_18, e_21, e_22, e_23, e_27, go_sem, reduceIte, reduceCtorEq, Nat.reduceEqDiff, Nat.reduceLT, Nat.reduceLeDiff, Nat.reduceAdd, Nat.reduceSub, Nat.reduceMul, Int.reduceToNat, Int.reduceLE, Int.reduceLT, Int.reduceAdd, Int.reduceSub, Int.reduceMul, Int.reduceEq, Int.reduceNeg]
        have g := Option.some.inj h
        subst g
        rw [← hQ]
        exact ⟨_, _, (Ref.out [4] rfl), hp⟩
    · rw [if_neg h_12] at h
      have e_13 : (i_11 < (l_2.length : Int)) = False := eq_false h_12
      simp only [e_13, go_sem, reduceIte, reduceCtorEq, Nat.reduceEqDiff, Nat.reduceLT, Nat.reduceLeDiff, Nat.reduceAdd, Nat.reduceSub, Nat.reduceMul, Int.reduceToNat, Int.reduceLE, Int.reduceLT, Int.reduceAdd, Int.reduceSub, Int.reduceMul, Int.reduceEq, Int.reduceNeg]
      have g := Option.some.inj h
      subst g
      rw [← hQ]
      exact ⟨_, _, (Ref.out [] rfl), hp⟩
theorem ref15_Same_w (N : Nat) (l_0 : List TClass) (l_1 : List TClass) (l_2 : List (List TSpan)) (l_3 : List TClass) (l_4 : List TClass) (l_5 : List (List TSpan)) (c_0 : Bool) (c_1 : Bool) (c_2 : Bool) (c_3 : Bool) (c_4 : Bool) (c_5 : Bool) (z_1 : Bool) (h : ref15_Same N l_0 l_1 l_2 l_3 l_4 l_5 = some z_1) :
    ACalls Go.Proofs.Try.prog 45 [.agg [.vec c_0 (List.map eTClass l_0), .vec c_1 (List.map eTClass l_1), .vec c_2 (List.map eLTSpan l_2)], .agg [.vec c_3 (List.map eTClass l_3), .vec c_4 (List.map eTClass l_4), .vec c_5 (List.map eLTSpan l_5)]] [] (fun e H => H = [] ∧ e = .ret (.bool z_1)) := by
  unfold ref15_Same at h
  refine ACalls.goN Go.Proofs.Try.func45 n45 a45 Go.Proofs.Try.ntmps45 r45 (by simp) 0 rfl ?_
  generalize hQ : bodyA _ _ _ = QQ
  obtain ⟨y_1, h_2, h⟩ := bindS h
  simp only [A45, go_sem, reduceIte, reduceCtorEq, Nat.reduceEqDiff, Nat.reduceLT, Nat.reduceLeDiff, Nat.reduceAdd, Nat.reduceSub, Nat.reduceMul, Int.reduceToNat, Int.reduceLE, Int.reduceLT, Int.reduceAdd, Int.reduceSub, Int.reduceMul, Int.reduceEq, Int.reduceNeg]
  refine ACalls.use0 (ref10_SameClasses_w N _ _ _ _ _ h_2) rfl rfl ?_
  refine CallK_go (Nat.zero_le _) ?_
  simp only [go_sem, reduceIte, reduceCtorEq, Nat.reduceEqDiff, Nat.reduceLT, Nat.reduceLeDiff, Nat.reduceAdd, Nat.reduceSub, Nat.reduceMul, Int.reduceToNat, Int.reduceLE, Int.reduceLT, Int.reduceAdd, Int.reduceSub, Int.reduceMul, Int.reduceEq, Int.reduceNeg]
  by_cases h_3 : y_1 = true
  · rw [if_pos h_3] at h
    have e_4 : y_1 = true := h_3
    obtain ⟨y_5, h_6, h⟩ := bindS h
    simp only [e_4, go_sem, reduceIte, reduceCtorEq, Nat.reduceEqDiff, Nat.reduceLT, Nat.reduceLeDiff, Nat.reduceAdd, Nat.reduceSub, Nat.reduceMul, Int.reduceToNat, Int.reduceLE, Int.reduceLT, Int.reduceAdd, Int.reduceSub, Int.reduceMul, Int.reduceEq, Int.reduceNeg]
    refine ACalls.use0 (ref10_SameClasses_w N _ _ _ _ _ h_6) rfl rfl ?_
    refine CallK_go (Nat.zero_le _) ?_
    simp only [e_4, go_sem, reduceIte, reduceCtorEq, Nat.reduceEqDiff, Nat.reduceLT, Nat.reduceLeDiff, Nat.reduceAdd, Nat.reduceSub, Nat.reduceMul, Int.reduceToNat, Int.reduceLE, Int.reduceLT, Int.reduceAdd, Int.reduceSub, Int.reduceMul, Int.reduceEq, Int.reduceNeg]
    by_cases h_7 : y_5 = true
    · rw [if_pos h_7] at h
      have e_8 : y_5 = true := h_7
      simp only [e_4, e_8, go_sem, reduceIte, reduceCtorEq, Nat.reduceEqDiff, Nat.reduceLT, Nat.reduceLeDiff, Nat.reduceAdd, Nat.reduceSub, Nat.reduceMul, Int.reduceToNat, Int.reduceLE, Int.reduceLT, Int.reduceAdd, Int.reduceSub, Int.reduceMul, Int.reduceEq, Int.reduceNeg]
      by_cases h_9 : (l_2.length : Int) = (l_5.length : Int)
      · rw [if_pos h_9] at h
        have e_10 : ((l_2.length : Int) = (l_5.length : Int)) = True := eq_true h_9
        simp only [e_4, e_8, e_10, go_sem, reduceIte, reduceCtorEq, Nat.reduceEqDiff, Nat.reduceLT, Nat.reduceLeDiff, Nat.reduceAdd, Nat.reduceSub, Nat.reduceMul, Int.reduceToNat, Int.reduceLE, Int.reduceLT, Int.reduceAdd, Int.reduceSub, Int.reduceMul, Int.reduceEq, Int.reduceNeg]
        obtain ⟨o_1012, h_1011, h⟩ := bindS h
        refine ALp.ref (Ref.std [2, 3, 5] [0, 1] (by decide) low0 rfl rfl) (Nat.zero_le _) (ref15_Same_L1_w N _ _ _ _ _ _ c_0 c_1 c_2 c_3 c_4 c_5 N _ o_1012 h_1011 ?_)
        rcases o_1012 with _ | _
        · try dsimp only at h
          refine LoopK_go rfl (Nat.zero_le _) ?_
          simp only [e_4, e_8, e_10, go_sem, reduceIte, reduceCtorEq, Nat.reduceEqDiff, Nat.reduceLT, Nat.reduceLeDiff, Nat.reduceAdd, Nat.reduceSub, Nat.reduceMul, Int.reduceToNat, Int.reduceLE, Int.reduceLT, Int.reduceAdd, Int.reduceSub, Int.reduceMul, Int.reduceEq, Int.reduceNeg]
          have g_0 := Option.some.inj h
          subst g_0
          rw [← hQ]
          exact ⟨rfl, _, rfl, _, _, (RefV.out rfl), rfl, rfl⟩
        · try dsimp only at h
          refine LoopK_ret ?_
          have g_0 := Option.some.inj h
          subst g_0
          rw [← hQ]
          exact ⟨rfl, _, rfl, _, _, (RefV.out rfl), rfl, rfl⟩
      · rw [if_neg h_9] at h
        have e_10 : ((l_2.length : Int) = (l_5.length : Int)) = False := eq_false h_9
        simp only [e_4, e_8, e_10, go_sem, reduceIte, reduceCtorEq, Nat.reduceEqDiff, Nat.reduceLT, Nat.reduceLeDiff, Nat.reduceAdd, Nat.reduceSub, Nat.reduceMul, Int.reduceToNat, Int.reduceLE, Int.reduceLT, Int.reduceAdd, Int.reduceSub, Int.reduceMul, Int.reduceEq, Int.reduceNeg]
        have g_0 := Option.some.inj h
        subst g_0
        rw [← hQ]
        exact ⟨rfl, _, rfl, _, _, (RefV.out rfl), rfl, rfl⟩
    · rw [if_neg h_7] at h
      have e_8 : y_5 = false := bfalse h_7
      simp only [e_4, e_8, go_sem, reduceIte, reduceCtorEq, Nat.reduceEqDiff, Nat.reduceLT, Nat.reduceLeDiff, Nat.reduceAdd, Nat.reduceSub, Nat.reduceMul, Int.reduceToNat, Int.reduceLE, Int.reduceLT, Int.reduceAdd, Int.reduceSub, Int.reduceMul, Int.reduceEq, Int.reduceNeg]
      have g_0 := Option.some.inj h
      subst g_0
      rw [← hQ]
      exact ⟨rfl, _, rfl, _, _, (RefV.out rfl), rfl, rfl⟩
  · rw [if_neg h_3] at h
    have e_4 : y_1 = false := bfalse h_3
    simp only [e_4, go_sem, reduceIte, reduceCtorEq, Nat.reduceEqDiff, Nat.reduceLT, Nat.reduceLeDiff, Nat.reduceAdd, Nat.reduceSub, Nat.reduceMul, Int.reduceToNat, Int.reduceLE, Int.reduceLT, Int.reduceAdd, Int.reduceSub, Int.reduceMul, Int.reduceEq, Int.reduceNeg]
    have g_0 := Option.some.inj h
    subst g_0
    rw [← hQ]
    exact ⟨rfl, _, rfl, _, _, (RefV.out rfl), rfl, rfl⟩
theorem law15_GdefReads_w (N : Nat) (l_0 : List Int) (a_1 : Int) (c_0 : Bool) (z_1 : Bool) (h : law15_GdefReads N l_0 a_1 = some z_1) :
    ACalls Go.Proofs.Try.prog 13 [.vec c_0 (List.map eU8 l_0), .int .i64 a_1] [] (fun e H => H = [] ∧ e = .ret (.bool z_1)) := by
  unfold law15_GdefReads at h
  refine ACalls.goN Go.Proofs.Try.func13 n13 a13 Go.Proofs.Try.ntmps13 r13 (by simp) 0 rfl ?_
  generalize hQ : bodyA _ _ _ = QQ
  simp only [A13, go_sem, reduceIte, reduceCtorEq, Nat.reduceEqDiff, Nat.reduceLT, Nat.reduceLeDiff, Nat.reduceAdd, Nat.reduceSub, Nat.reduceMul, Int.reduceToNat, Int.reduceLE, Int.reduceLT, Int.reduceAdd, Int.reduceSub, Int.reduceMul, Int.reduceEq, Int.reduceNeg]
  refine ACalls.use0 alive15 rfl rfl ?_
  refine CallK_go (Nat.zero_le _) ?_
  simp only [go_sem, reduceIte, reduceCtorEq, Nat.reduceEqDiff, Nat.reduceLT, Nat.reduceLeDiff, Nat.reduceAdd, Nat.reduceSub, Nat.reduceMul, Int.reduceToNat, Int.reduceLE, Int.reduceLT, Int.reduceAdd, Int.reduceSub, Int.reduceMul, Int.reduceEq, Int.reduceNeg]
  by_cases h_1 : 1000 < (l_0.length : Int)
  · rw [if_pos h_1] at h
    have e_2 : (1000 < (l_0.length : Int)) = True := eq_true h_1
    simp only [e_2, go_sem, reduceIte, reduceCtorEq, Nat.reduceEqDiff, Nat.reduceLT, Nat.reduceLeDiff, Nat.reduceAdd, Nat.reduceSub, Nat.reduceMul, Int.reduceToNat, Int.reduceLE, Int.reduceLT, Int.reduceAdd, Int.reduceSub, Int.reduceMul, Int.reduceEq, Int.reduceNeg]
    have g_0 := Option.some.inj h
    subst g_0
    rw [← hQ]
    exact ⟨rfl, _, rfl, _, _, (RefV.out rfl), rfl, rfl⟩
  · rw [if_neg h_1] at h
    have e_2 : (1000 < (l_0.length : Int)) = False := eq_false h_1
    simp only [e_2, go_sem, reduceIte, reduceCtorEq, Nat.reduceEqDiff, Nat.reduceLT, Nat.reduceLeDiff, Nat.reduceAdd, Nat.reduceSub, Nat.reduceMul, Int.reduceToNat, Int.reduceLE, Int.reduceLT, Int.reduceAdd, Int.reduceSub, Int.reduceMul, Int.reduceEq, Int.reduceNeg]
    by_cases h_3 : 1000 < a_1
    · rw [if_pos h_3] at h
      have e_4 : (1000 < a_1) = True := eq_true h_3
      simp only [e_2, e_4, go_sem, reduceIte, reduceCtorEq, Nat.reduceEqDiff, Nat.reduceLT, Nat.reduceLeDiff, Nat.reduceAdd, Nat.reduceSub, Nat.reduceMul, Int.reduceToNat, Int.reduceLE, Int.reduceLT, Int.reduceAdd, Int.reduceSub, Int.reduceMul, Int.reduceEq, Int.reduceNeg]
      have g_0 := Option.some.inj h
      subst g_0
      rw [← hQ]
      exact ⟨rfl, _, rfl, _, _, (RefV.out rfl), rfl, rfl⟩
    · rw [if_neg h_3] at h
      have e_4 : (1000 < a_1) = False := eq_false h_3
      simp only [e_2, e_4, go_sem, reduceIte, reduceCtorEq, Nat.reduceEqDiff, Nat.reduceLT, Nat.reduceLeDiff, Nat.reduceAdd, Nat.reduceSub, Nat.reduceMul, Int.reduceToNat, Int.reduceLE, Int.reduceLT, Int.reduceAdd, Int.reduceSub, Int.reduceMul, Int.reduceEq, Int.reduceNeg]
      by_cases h_5 : a_1 < (-1000)
      · rw [if_pos h_5] at h
        have e_6 : (a_1 < (-1000)) = True := eq_true h_5
        simp only [e_2, e_4, e_6, go_sem, reduceIte, reduceCtorEq, Nat.reduceEqDiff, Nat.reduceLT, Nat.reduceLeDiff, Nat.reduceAdd, Nat.reduceSub, Nat.reduceMul, Int.reduceToNat, Int.reduceLE, Int.reduceLT, Int.reduceAdd, Int.reduceSub, Int.reduceMul, Int.reduceEq, Int.reduceNeg]
        have g_0 := Option.some.inj h
        subst g_0
        rw [← hQ]
        exact ⟨rfl, _, rfl, _, _, (RefV.out rfl), rfl, rfl⟩
      · rw [if_neg h_5] at h
        have e_6 : (a_1 < (-1000)) = False := eq_false h_5
        obtain ⟨⟨y_7, y_8, y_9, y_10⟩, h_11, h⟩ := bindS h
        try dsimp only at h
        simp only [e_2, e_4, e_6, go_sem, reduceIte, reduceCtorEq, Nat.reduceEqDiff, Nat.reduceLT, Nat.reduceLeDiff, Nat.reduceAdd, Nat.reduceSub, Nat.reduceMul, Int.reduceToNat, Int.reduceLE, Int.reduceLT, Int.reduceAdd, Int.reduceSub, Int.reduceMul, Int.reduceEq, Int.reduceNeg]
        refine ACalls.use0 (gdef_Read_w N _ _ _ _ _ _ _ h_11) rfl rfl ?_
        refine CallK_go (Nat.zero_le _) ?_
        obtain ⟨⟨y_12, y_13, y_14, y_15⟩, h_16, h⟩ := bindS h
        try dsimp only at h
        simp only [e_2, e_4, e_6, go_sem, reduceIte, reduceCtorEq, Nat.reduceEqDiff, Nat.reduceLT, Nat.reduceLeDiff, Nat.reduceAdd, Nat.reduceSub, Nat.reduceMul, Int.reduceToNat, Int.reduceLE, Int.reduceLT, Int.reduceAdd, Int.reduceSub, Int.reduceMul, Int.reduceEq, Int.reduceNeg]
        refine ACalls.use0 (ref15_Read_w N _ _ _ _ _ _ _ h_16) rfl rfl ?_
        refine CallK_go (Nat.zero_le _) ?_
        simp only [e_2, e_4, e_6, go_sem, reduceIte, reduceCtorEq, Nat.reduceEqDiff, Nat.reduceLT, Nat.reduceLeDiff, Nat.reduceAdd, Nat.reduceSub, Nat.reduceMul, Int.reduceToNat, Int.reduceLE, Int.reduceLT, Int.reduceAdd, Int.reduceSub, Int.reduceMul, Int.reduceEq, Int.reduceNeg]
        by_cases h_17 : y_10 = true
        · rw [if_pos h_17] at h
          have e_18 : y_10 = true := h_17
          simp only [e_2, e_4, e_6, e_18, go_sem, reduceIte, reduceCtorEq, Nat.reduceEqDiff, Nat.reduceLT, Nat.reduceLeDiff, Nat.reduceAdd, Nat.reduceSub, Nat.reduceMul, Int.reduceToNat, Int.reduceLE, Int.reduceLT, Int.reduceAdd, Int.reduceSub, Int.reduceMul, Int.reduceEq, Int.reduceNeg]
          by_cases h_19 : y_15 = true
          · rw [if_pos h_19] at h
            have e_20 : y_15 = true := h_19
            obtain ⟨y_21, h_22, h⟩ := bindS h
            simp only [e_2, e_4, e_6, e_18, e_20, go_sem, reduceIte, reduceCtorEq, Nat.reduceEqDiff, Nat.reduceLT, Nat.reduceLeDiff, Nat.reduceAdd, Nat.reduceSub, Nat.reduceMul, Int.reduceToNat, Int.reduceLE, Int.reduceLT, Int.reduceAdd, Int.reduceSub, Int.reduceMul, Int.reduceEq, Int.reduceNeg]
            refine ACalls.use0 (ref15_Same_w N _ _ _ _ _ _ _ _ _ _ _ _ _ h_22) rfl rfl ?_
            refine CallK_go (Nat.zero_le _) ?_
            simp only [e_2, e_4, e_6, e_18, e_20, go_sem, reduceIte, reduceCtorEq, Nat.reduceEqDiff, Nat.reduceLT, Nat.reduceLeDiff, Nat.reduceAdd, Nat.reduceSub, Nat.reduceMul, Int.reduceToNat, Int.reduceLE, Int.reduceLT, Int.reduceAdd, Int.reduceSub, Int.reduceMul, Int.reduceEq, Int.reduceNeg]
            have g_0 := Option.some.inj h
            subst g_0
            rw [← hQ]
            exact ⟨rfl, _, rfl, _, _, (RefV.out (by first | rfl | simp only [go_sem, reduceIte, Nat.reduceEqDiff, Nat.reduceAdd, e_2, e_4, e_6, e_18, e_20])), rfl, rfl⟩
          · rw [if_neg h_19] at h
            have e_20 : y_15 = false := bfalse h_19
            simp only [e_2, e_4, e_6, e_18, e_20, go_sem, reduceIte, reduceCtorEq, Nat.reduceEqDiff, Nat.reduceLT, Nat.reduceLeDiff, Nat.reduceAdd, Nat.reduceSub, Nat.reduceMul, Int.reduceToNat, Int.reduceLE, Int.reduceLT, Int.reduceAdd, Int.reduceSub, Int.reduceMul, Int.reduceEq, Int.reduceNeg]
            have g_0 := Option.some.inj h
            subst g_0
            rw [← hQ]
            exact ⟨rfl, _, rfl, _, _, (RefV.out rfl), rfl, rfl⟩
        · rw [if_neg h_17] at h
          have e_18 : y_10 = false := bfalse h_17
          simp only [e_2, e_4, e_6, e_18, go_sem, reduceIte, reduceCtorEq, Nat.reduceEqDiff, Nat.reduceLT, Nat.reduceLeDiff, Nat.reduceAdd, Nat.reduceSub, Nat.reduceMul, Int.reduceToNat, Int.reduceLE, Int.reduceLT, Int.reduceAdd, Int.reduceSub, Int.reduceMul, Int.reduceEq, Int.reduceNeg]
          by_cases h_23 : y_15 = true
          · rw [if_pos h_23] at h
            have e_24 : y_15 = true := h_23
            simp only [e_2, e_4, e_6, e_18, e_24, go_sem, reduceIte, reduceCtorEq, Nat.reduceEqDiff, Nat.reduceLT, Nat.reduceLeDiff, Nat.reduceAdd, Nat.reduceSub, Nat.reduceMul, Int.reduceToNat, Int.reduceLE, Int.reduceLT, Int.reduceAdd, Int.reduceSub, Int.reduceMul, Int.reduceEq, Int.reduceNeg]
            have g_0 := Option.some.inj h
            subst g_0
            rw [← hQ]
            exact ⟨rfl, _, rfl, _, _, (RefV.out rfl), rfl, rfl⟩
          · rw [if_neg h_23] at h
            have e_24 : y_15 = false := bfalse h_23
            obtain ⟨y_25, h_26, h⟩ := bindS h
            simp only [e_2, e_4, e_6, e_18, e_24, go_sem, reduceIte, reduceCtorEq, Nat.reduceEqDiff, Nat.reduceLT, Nat.reduceLeDiff, Nat.reduceAdd, Nat.reduceSub, Nat.reduceMul, Int.reduceToNat, Int.reduceLE, Int.reduceLT, Int.reduceAdd, Int.reduceSub, Int.reduceMul, Int.reduceEq, Int.reduceNeg]
            refine ACalls.use0 (ref15_Same_w N _ _ _ _ _ _ _ _ _ _ _ _ _ h_26) rfl rfl ?_
            refine CallK_go (Nat.zero_le _) ?_
            simp only [e_2, e_4, e_6, e_18, e_24, go_sem, reduceIte, reduceCtorEq, Nat.reduceEqDiff, Nat.reduceLT, Nat.reduceLeDiff, Nat.reduceAdd, Nat.reduceSub, Nat.reduceMul, Int.reduceToNat, Int.reduceLE, Int.reduceLT, Int.reduceAdd, Int.reduceSub, Int.reduceMul, Int.reduceEq, Int.reduceNeg]
            have g_0 := Option.some.inj h
            subst g_0
            rw [← hQ]
            exact ⟨rfl, _, rfl, _, _, (RefV.out (by first | rfl | simp only [go_sem, reduceIte, Nat.reduceEqDiff, Nat.reduceAdd, e_2, e_4, e_6, e_18, e_24])), rfl, rfl⟩
end Go.Proofs.Ytakplhfiohjcmaa.AI
