/- Walks: printed by a program (pw.py); each shows that a function answers what is told plainly. -/
import Derived.Test.YtjdnbdhdpcnikaabmP
import Derived.Test.YtjdnbdhdpcnikaabmA
set_option linter.unusedVariables false
set_option linter.unusedSimpArgs false
set_option maxRecDepth 100000
set_option maxHeartbeats 1000000
namespace Go.Proofs.Ytjdnbdhdpcnikaa.AI
open Go.Proofs (Try.prog)
def eTGlyph (x : TGlyph) : List AV := [.int .i64 x.Id, .int .i64 x.Cluster, .int .i64 x.Mask, .int .i64 x.Syl, .int .i32 x.Code, .int .i64 x.Cat, .int .i64 x.Pos, .int .i64 x.Key, .int .i64 x.Lig, .int .i64 x.Part, .int .i64 x.X, .int .i64 x.Y, .int .i64 x.Wide, .int .i64 x.High]
theorem subs_eTGlyph (S : Sub) (l : List TGlyph) : (List.map eTGlyph l).map (subs S) = List.map eTGlyph l := subs_map S l eTGlyph (fun _ => rfl)
def eB (x : Bool) : List AV := [.bool x]
theorem subs_eB (S : Sub) (l : List Bool) : (List.map eB l).map (subs S) = List.map eB l := subs_map S l eB (fun _ => rfl)
attribute [local go_sem] subs_eTGlyph subs_eB
def tab_alive17 : List (Nat × ACode × Nat × List RV) := [E12, E13, E16, E18, E19, E21, E22, E50, E51, E52, E53, E55, E56, E74, E75, E88, E89, E90, E95, E96, E103, E104]
theorem tab_alive17_ok : AllOk Go.Proofs.Try.prog tab_alive17 := ⟨e12, e13, e16, e18, e19, e21, e22, e50, e51, e52, e53, e55, e56, e74, e75, e88, e89, e90, e95, e96, e103, e104, trivial⟩
theorem alive17 : ACalls Go.Proofs.Try.prog 12 [] [] fun e H => H = [] ∧ e = .ret (.bool true) := ACalls.told (m := 300) (n := 20) tab_alive17_ok (by decide +kernel)
def B51_1 : ACode := match A51 with | (.seq _ (.seq (.seq _ (.block _ (.loop b))) _)) => b | _ => .skip
def B14_1 : ACode := match A14 with | (.seq _ (.seq (.seq _ (.block _ (.loop b))) _)) => b | _ => .skip
def B16_1 : ACode := match A16 with | (.seq _ (.seq _ (.seq _ (.seq _ (.seq (.seq _ (.block _ (.loop b))) _))))) => b | _ => .skip
def B16_2 : ACode := match A16 with | (.seq _ (.seq _ (.seq _ (.seq _ (.seq _ (.seq _ (.seq (.block _ (.loop b)) _))))))) => b | _ => .skip
def B16_3 : ACode := match A16 with | (.seq _ (.seq _ (.seq _ (.seq _ (.seq _ (.seq _ (.seq _ (.seq (.block _ (.loop b)) _)))))))) => b | _ => .skip
def B16_4 : ACode := match A16 with | (.seq _ (.seq _ (.seq _ (.seq _ (.seq _ (.seq _ (.seq _ (.seq _ (.seq (.seq _ (.block _ (.loop b))) _))))))))) => b | _ => .skip
def B17_1 : ACode := match A17 with | (.seq _ (.seq _ (.seq _ (.seq _ (.seq (.seq _ (.block _ (.loop b))) _))))) => b | _ => .skip
def B17_2 : ACode := match A17 with | (.seq _ (.seq _ (.seq _ (.seq _ (.seq _ (.seq _ (.seq (.seq _ (.block _ (.loop b))) _))))))) => b | _ => .skip
def B17_3 : ACode := match A17 with | (.seq _ (.seq _ (.seq _ (.seq _ (.seq _ (.seq _ (.seq _ (.seq (.seq _ (.block _ (.loop b))) _)))))))) => b | _ => .skip
def B17_4 : ACode := match A17 with | (.seq _ (.seq _ (.seq _ (.seq _ (.seq _ (.seq _ (.seq _ (.seq _ (.seq (.seq _ (.block _ (.loop b))) _))))))))) => b | _ => .skip
def B17_5 : ACode := match A17 with | (.seq _ (.seq _ (.seq _ (.seq _ (.seq _ (.seq _ (.seq _ (.seq _ (.seq _ (.seq (.seq _ (.block _ (.loop b))) _)))))))))) => b | _ => .skip
def B15_1 : ACode := match A15 with | (.seq _ (.seq _ (.seq (.seq _ (.block _ (.loop b))) _))) => b | _ => .skip
theorem buffer_Rise_1_w (N : Nat) (a_0 : Int) (a_1 : Int) (a_2 : Int) (a_3 : Int) (a_4 : Int) (a_5 : Int) (a_6 : Int) (a_7 : Int) (a_8 : Int) (a_9 : Int) (a_10 : Int) (a_11 : Int) (a_12 : Int) (a_13 : Int) (a_14 : Int) (a_15 : Int) (a_16 : Int) (a_17 : Int) (a_18 : Int) (a_19 : Int) (a_20 : Int) (a_21 : Int) (a_22 : Int) (a_23 : Int) (a_24 : Int) (a_25 : Int) (a_26 : Int) (a_27 : Int) (z_1 : Int) (h : buffer_Rise_1 N a_0 a_1 a_2 a_3 a_4 a_5 a_6 a_7 a_8 a_9 a_10 a_11 a_12 a_13 a_14 a_15 a_16 a_17 a_18 a_19 a_20 a_21 a_22 a_23 a_24 a_25 a_26 a_27 = some z_1) :
    ACalls Go.Proofs.Try.prog 52 [.agg [.int .i64 a_0, .int .i64 a_1, .int .i64 a_2, .int .i64 a_3, .int .i32 a_4, .int .i64 a_5, .int .i64 a_6, .int .i64 a_7, .int .i64 a_8, .int .i64 a_9, .int .i64 a_10, .int .i64 a_11, .int .i64 a_12, .int .i64 a_13], .agg [.int .i64 a_14, .int .i64 a_15, .int .i64 a_16, .int .i64 a_17, .int .i32 a_18, .int .i64 a_19, .int .i64 a_20, .int .i64 a_21, .int .i64 a_22, .int .i64 a_23, .int .i64 a_24, .int .i64 a_25, .int .i64 a_26, .int .i64 a_27]] [] (fun e H => H = [] ∧ e = .ret (.int .i64 z_1)) := by
  unfold buffer_Rise_1 at h
  refine ACalls.goN Go.Proofs.Try.func52 n52 a52 Go.Proofs.Try.ntmps52 r52 (by simp) 0 rfl ?_
  generalize hQ : bodyA _ _ _ = QQ
  simp only [A52, go_sem, reduceIte, reduceCtorEq, Nat.reduceEqDiff, Nat.reduceLT, Nat.reduceLeDiff, Nat.reduceAdd, Nat.reduceSub, Nat.reduceMul, Int.reduceToNat, Int.reduceLE, Int.reduceLT, Int.reduceAdd, Int.reduceSub, Int.reduceMul, Int.reduceEq, Int.reduceNeg]
  by_cases h_1 : a_1 < a_15
  · rw [if_pos h_1] at h
    have e_2 : (a_1 < a_15) = True := eq_true h_1
    simp only [e_2, go_sem, reduceIte, reduceCtorEq, Nat.reduceEqDiff, Nat.reduceLT, Nat.reduceLeDiff, Nat.reduceAdd, Nat.reduceSub, Nat.reduceMul, Int.reduceToNat, Int.reduceLE, Int.reduceLT, Int.reduceAdd, Int.reduceSub, Int.reduceMul, Int.reduceEq, Int.reduceNeg]
    have g_0 := Option.some.inj h
    subst g_0
    rw [← hQ]
    exact ⟨rfl, _, rfl, _, _, (RefV.out rfl), rfl, rfl⟩
  · rw [if_neg h_1] at h
    have e_2 : (a_1 < a_15) = False := eq_false h_1
    simp only [e_2, go_sem, reduceIte, reduceCtorEq, Nat.reduceEqDiff, Nat.reduceLT, Nat.reduceLeDiff, Nat.reduceAdd, Nat.reduceSub, Nat.reduceMul, Int.reduceToNat, Int.reduceLE, Int.reduceLT, Int.reduceAdd, Int.reduceSub, Int.reduceMul, Int.reduceEq, Int.reduceNeg]
    by_cases h_3 : a_15 < a_1
    · rw [if_pos h_3] at h
      have e_4 : (a_15 < a_1) = True := eq_true h_3
      simp only [e_2, e_4, go_sem, reduceIte, reduceCtorEq, Nat.reduceEqDiff, Nat.reduceLT, Nat.reduceLeDiff, Nat.reduceAdd, Nat.reduceSub, Nat.reduceMul, Int.reduceToNat, Int.reduceLE, Int.reduceLT, Int.reduceAdd, Int.reduceSub, Int.reduceMul, Int.reduceEq, Int.reduceNeg]
      have g_0 := Option.some.inj h
      subst g_0
      rw [← hQ]
      exact ⟨rfl, _, rfl, _, _, (RefV.out rfl), rfl, rfl⟩
    · rw [if_neg h_3] at h
      have e_4 : (a_15 < a_1) = False := eq_false h_3
      simp only [e_2, e_4, go_sem, reduceIte, reduceCtorEq, Nat.reduceEqDiff, Nat.reduceLT, Nat.reduceLeDiff, Nat.reduceAdd, Nat.reduceSub, Nat.reduceMul, Int.reduceToNat, Int.reduceLE, Int.reduceLT, Int.reduceAdd, Int.reduceSub, Int.reduceMul, Int.reduceEq, Int.reduceNeg]
      have g_0 := Option.some.inj h
      subst g_0
      rw [← hQ]
      exact ⟨rfl, _, rfl, _, _, (RefV.out rfl), rfl, rfl⟩
theorem slices_IsSortedFunc_apiGlyphapiGlyph_L1_w (N : Nat) (l_0 : List TGlyph) (c_0 : Bool) {R : AExit → ATm → List AObj → Prop} : ∀ (n : Nat) (i_1 : Int) (o : (Unit) ⊕ (Unit)), slices_IsSortedFunc_apiGlyphapiGlyph_L1 N l_0 n i_1 = some o → (match o with | .inl _ => R (.exit 0) ⟨25, [], []⟩ [] | .inr (_) => R .ret ⟨25, [(4, .bool false)], []⟩ []) →
    ALp Go.Proofs.Try.prog 0 B51_1 ⟨25, [(0, .vec c_0 (List.map eTGlyph l_0)), (1, .fn (.func 52) [] []), (5, .int .i64 i_1)], []⟩ [] R := by
  intro n
  induction n with
  | zero =>
    intro i_1 o h _
    have h0 : none = some o := h
    cases h0
  | succ n ih =>
    intro i_1 o h hp
    rw [slices_IsSortedFunc_apiGlyphapiGlyph_L1] at h
    refine ALp.round ?_
    generalize hQ : RoundQ _ _ _ _ = QQ
    simp only [B51_1, A51, go_sem, reduceIte, reduceCtorEq, Nat.reduceEqDiff, Nat.reduceLT, Nat.reduceLeDiff, Nat.reduceAdd, Nat.reduceSub, Nat.reduceMul, Int.reduceToNat, Int.reduceLE, Int.reduceLT, Int.reduceAdd, Int.reduceSub, Int.reduceMul, Int.reduceEq, Int.reduceNeg]
    by_cases h_2 : 0 < i_1
    · rw [if_pos h_2] at h
      have e_3 : (0 < i_1) = True := eq_true h_2
      obtain ⟨x_4, h_5, h⟩ := bindS h
      have e_6 : (List.map eTGlyph l_0)[(i_1).toNat]? = some [.int .i64 x_4.Id, .int .i64 x_4.Cluster, .int .i64 x_4.Mask, .int .i64 x_4.Syl, .int .i32 x_4.Code, .int .i64 x_4.Cat, .int .i64 x_4.Pos, .int .i64 x_4.Key, .int .i64 x_4.Lig, .int .i64 x_4.Part, .int .i64 x_4.X, .int .i64 x_4.Y, .int .i64 x_4.Wide, .int .i64 x_4.High] := atI_map eTGlyph h_5
      have e_7 : ((0 : Int) ≤ i_1) = True := eq_true (atI_some h_5).1
      have e_8 : ((i_1 : Int) < (l_0.length : Int)) = True := eq_true (atI_lt h_5)
      obtain ⟨x_9, h_10, h⟩ := bindS h
      have e_11 : (List.map eTGlyph l_0)[(IntKind.i64.wrap (i_1 - 1)).toNat]? = some [.int .i64 x_9.Id, .int .i64 x_9.Cluster, .int .i64 x_9.Mask, .int .i64 x_9.Syl, .int .i32 x_9.Code, .int .i64 x_9.Cat, .int .i64 x_9.Pos, .int .i64 x_9.Key, .int .i64 x_9.Lig, .int .i64 x_9.Part, .int .i64 x_9.X, .int .i64 x_9.Y, .int .i64 x_9.Wide, .int .i64 x_9.High] := atI_map eTGlyph h_10
      have e_12 : ((0 : Int) ≤ IntKind.i64.wrap (i_1 - 1)) = True := eq_true (atI_some h_10).1
      have e_13 : ((IntKind.i64.wrap (i_1 - 1) : Int) < (l_0.length : Int)) = True := eq_true (atI_lt h_10)
      obtain ⟨y_14, h_15, h⟩ := bindS h
      simp only [e_3, e_6, e_7, e_8, e_11, e_12, e_13, go_sem, reduceIte, reduceCtorEq, Nat.reduceEqDiff, Nat.reduceLT, Nat.reduceLeDiff, Nat.reduceAdd, Nat.reduceSub, Nat.reduceMul, Int.reduceToNat, Int.reduceLE, Int.reduceLT, Int.reduceAdd, Int.reduceSub, Int.reduceMul, Int.reduceEq, Int.reduceNeg]
      refine ACalls.use0 (buffer_Rise_1_w N _ _ _ _ _ _ _ _ _ _ _ _ _ _ _ _ _ _ _ _ _ _ _ _ _ _ _ _ _ h_15) rfl rfl ?_
      simp only [e_3, e_6, e_7, e_8, e_11, e_12, e_13, go_sem, reduceIte, reduceCtorEq, Nat.reduceEqDiff, Nat.reduceLT, Nat.reduceLeDiff, Nat.reduceAdd, Nat.reduceSub, Nat.reduceMul, Int.reduceToNat, Int.reduceLE, Int.reduceLT, Int.reduceAdd, Int.reduceSub, Int.reduceMul, Int.reduceEq, Int.reduceNeg]
      by_cases h_16 : y_14 < 0
      · rw [if_pos h_16] at h
        have e_17 : (y_14 < 0) = True := eq_true h_16
        simp only [e_3, e_6, e_7, e_8, e_11, e_12, e_13, e_17, go_sem, reduceIte, reduceCtorEq, Nat.reduceEqDiff, Nat.reduceLT, Nat.reduceLeDiff, Nat.reduceAdd, Nat.reduceSub, Nat.reduceMul, Int.reduceToNat, Int.reduceLE, Int.reduceLT, Int.reduceAdd, Int.reduceSub, Int.reduceMul, Int.reduceEq, Int.reduceNeg]
        have g := Option.some.inj h
        subst g
        rw [← hQ]
        exact ⟨_, _, (Ref.out [4] rfl), hp⟩
      · rw [if_neg h_16] at h
        have e_17 : (y_14 < 0) = False := eq_false h_16
        simp only [e_3, e_6, e_7, e_8, e_11, e_12, e_13, e_17, go_sem, reduceIte, reduceCtorEq, Nat.reduceEqDiff, Nat.reduceLT, Nat.reduceLeDiff, Nat.reduceAdd, Nat.reduceSub, Nat.reduceMul, Int.reduceToNat, Int.reduceLE, Int.reduceLT, Int.reduceAdd, Int.reduceSub, Int.reduceMul, Int.reduceEq, Int.reduceNeg]
        rw [← hQ]
        exact ⟨_, _, (Ref.out [0, 1, 5] rfl), (Nat.zero_le _), ih _ _ h hp⟩
    · rw [if_neg h_2] at h
      have e_3 : (0 < i_1) = False := eq_false h_2
      simp only [e_3, go_sem, reduceIte, reduceCtorEq, Nat.reduceEqDiff, Nat.reduceLT, Nat.reduceLeDiff, Nat.reduceAdd, Nat.reduceSub, Nat.reduceMul, Int.reduceToNat, Int.reduceLE, Int.reduceLT, Int.reduceAdd, Int.reduceSub, Int.reduceMul, Int.reduceEq, Int.reduceNeg]
      have g := Option.some.inj h
      subst g
      rw [← hQ]
      exact ⟨_, _, (Ref.out [] rfl), hp⟩
theorem slices_IsSortedFunc_apiGlyphapiGlyph_w (N : Nat) (l_0 : List TGlyph) (c_0 : Bool) (z_1 : Bool) (h : slices_IsSortedFunc_apiGlyphapiGlyph N l_0 = some z_1) :
    ACalls Go.Proofs.Try.prog 51 [.vec c_0 (List.map eTGlyph l_0), .fn (.func 52) [] []] [] (fun e H => H = [] ∧ e = .ret (.bool z_1)) := by
  unfold slices_IsSortedFunc_apiGlyphapiGlyph at h
  refine ACalls.goN Go.Proofs.Try.func51 n51 a51 Go.Proofs.Try.ntmps51 r51 (by simp) 0 rfl ?_
  generalize hQ : bodyA _ _ _ = QQ
  simp only [A51, go_sem, reduceIte, reduceCtorEq, Nat.reduceEqDiff, Nat.reduceLT, Nat.reduceLeDiff, Nat.reduceAdd, Nat.reduceSub, Nat.reduceMul, Int.reduceToNat, Int.reduceLE, Int.reduceLT, Int.reduceAdd, Int.reduceSub, Int.reduceMul, Int.reduceEq, Int.reduceNeg]
  obtain ⟨o_1002, h_1001, h⟩ := bindS h
  refine ALp.ref (Ref.out [0, 1, 5] rfl) (Nat.zero_le _) (slices_IsSortedFunc_apiGlyphapiGlyph_L1_w N _ c_0 N _ o_1002 h_1001 ?_)
  rcases o_1002 with _ | _
  · try dsimp only at h
    refine LoopK_go rfl (Nat.zero_le _) ?_
    simp only [go_sem, reduceIte, reduceCtorEq, Nat.reduceEqDiff, Nat.reduceLT, Nat.reduceLeDiff, Nat.reduceAdd, Nat.reduceSub, Nat.reduceMul, Int.reduceToNat, Int.reduceLE, Int.reduceLT, Int.reduceAdd, Int.reduceSub, Int.reduceMul, Int.reduceEq, Int.reduceNeg]
    have g_0 := Option.some.inj h
    subst g_0
    rw [← hQ]
    exact ⟨rfl, _, rfl, _, _, (RefV.out rfl), rfl, rfl⟩
  · try dsimp only at h
    refine LoopK_ret ?_
    have g_0 := Option.some.inj h
    subst g_0
    rw [← hQ]
    exact ⟨rfl, _, rfl, _, _, (RefV.out rfl), rfl, rfl⟩
theorem buffer_Rise_w (N : Nat) (l_0 : List TGlyph) (c_0 : Bool) (z_1 : Bool) (h : buffer_Rise N l_0 = some z_1) :
    ACalls Go.Proofs.Try.prog 13 [.vec c_0 (List.map eTGlyph l_0)] [] (fun e H => H = [] ∧ e = .ret (.bool z_1)) := by
  unfold buffer_Rise at h
  refine ACalls.goN Go.Proofs.Try.func13 n13 a13 Go.Proofs.Try.ntmps13 r13 (by simp) 0 rfl ?_
  generalize hQ : bodyA _ _ _ = QQ
  obtain ⟨y_1, h_2, h⟩ := bindS h
  simp only [A13, go_sem, reduceIte, reduceCtorEq, Nat.reduceEqDiff, Nat.reduceLT, Nat.reduceLeDiff, Nat.reduceAdd, Nat.reduceSub, Nat.reduceMul, Int.reduceToNat, Int.reduceLE, Int.reduceLT, Int.reduceAdd, Int.reduceSub, Int.reduceMul, Int.reduceEq, Int.reduceNeg]
  refine ACalls.use0 (slices_IsSortedFunc_apiGlyphapiGlyph_w N _ _ _ h_2) rfl rfl ?_
  refine CallK_go (Nat.zero_le _) ?_
  simp only [go_sem, reduceIte, reduceCtorEq, Nat.reduceEqDiff, Nat.reduceLT, Nat.reduceLeDiff, Nat.reduceAdd, Nat.reduceSub, Nat.reduceMul, Int.reduceToNat, Int.reduceLE, Int.reduceLT, Int.reduceAdd, Int.reduceSub, Int.reduceMul, Int.reduceEq, Int.reduceNeg]
  have g_0 := Option.some.inj h
  subst g_0
  rw [← hQ]
  exact ⟨rfl, _, rfl, _, _, (RefV.out rfl), rfl, rfl⟩
theorem ref17_Rise_L1_w (N : Nat) (l_0 : List TGlyph) (c_0 : Bool) {R : AExit → ATm → List AObj → Prop} : ∀ (n : Nat) (i_1 : Int) (o : (Unit) ⊕ (Unit)), ref17_Rise_L1 N l_0 n i_1 = some o → (match o with | .inl _ => R (.exit 0) ⟨22, [], []⟩ [] | .inr (_) => R .ret ⟨22, [(2, .bool false)], []⟩ []) →
    ALp Go.Proofs.Try.prog 0 B14_1 ⟨22, [(0, .vec c_0 (List.map eTGlyph l_0)), (3, .int .i64 i_1)], []⟩ [] R := by
  intro n
  induction n with
  | zero =>
    intro i_1 o h _
    have h0 : none = some o := h
    cases h0
  | succ n ih =>
    intro i_1 o h hp
    rw [ref17_Rise_L1] at h
    refine ALp.round ?_
    generalize hQ : RoundQ _ _ _ _ = QQ
    simp only [B14_1, A14, go_sem, reduceIte, reduceCtorEq, Nat.reduceEqDiff, Nat.reduceLT, Nat.reduceLeDiff, Nat.reduceAdd, Nat.reduceSub, Nat.reduceMul, Int.reduceToNat, Int.reduceLE, Int.reduceLT, Int.reduceAdd, Int.reduceSub, Int.reduceMul, Int.reduceEq, Int.reduceNeg]
    by_cases h_2 : i_1 < (l_0.length : Int)
    · rw [if_pos h_2] at h
      have e_3 : (i_1 < (l_0.length : Int)) = True := eq_true h_2
      obtain ⟨x_4, h_5, h⟩ := bindS h
      have e_6 : (List.map eTGlyph l_0)[(IntKind.i64.wrap (i_1 - 1)).toNat]? = some [.int .i64 x_4.Id, .int .i64 x_4.Cluster, .int .i64 x_4.Mask, .int .i64 x_4.Syl, .int .i32 x_4.Code, .int .i64 x_4.Cat, .int .i64 x_4.Pos, .int .i64 x_4.Key, .int .i64 x_4.Lig, .int .i64 x_4.Part, .int .i64 x_4.X, .int .i64 x_4.Y, .int .i64 x_4.Wide, .int .i64 x_4.High] := atI_map eTGlyph h_5
      have e_7 : ((0 : Int) ≤ IntKind.i64.wrap (i_1 - 1)) = True := eq_true (atI_some h_5).1
      have e_8 : ((IntKind.i64.wrap (i_1 - 1) : Int) < (l_0.length : Int)) = True := eq_true (atI_lt h_5)
      obtain ⟨x_9, h_10, h⟩ := bindS h
      have e_11 : (List.map eTGlyph l_0)[(i_1).toNat]? = some [.int .i64 x_9.Id, .int .i64 x_9.Cluster, .int .i64 x_9.Mask, .int .i64 x_9.Syl, .int .i32 x_9.Code, .int .i64 x_9.Cat, .int .i64 x_9.Pos, .int .i64 x_9.Key, .int .i64 x_9.Lig, .int .i64 x_9.Part, .int .i64 x_9.X, .int .i64 x_9.Y, .int .i64 x_9.Wide, .int .i64 x_9.High] := atI_map eTGlyph h_10
      have e_12 : ((0 : Int) ≤ i_1) = True := eq_true (atI_some h_10).1
      have e_13 : ((i_1 : Int) < (l_0.length : Int)) = True := eq_true (atI_lt h_10)
      simp only [e_3, e_6, e_7, e_8, e_11, e_12, e_13, go_sem, reduceIte, reduceCtorEq, Nat.reduceEqDiff, Nat.reduceLT, Nat.reduceLeDiff, Nat.reduceAdd, Nat.reduceSub, Nat.reduceMul, Int.reduceToNat, Int.reduceLE, Int.reduceLT, Int.reduceAdd, Int.reduceSub, Int.reduceMul, Int.reduceEq, Int.reduceNeg]
      by_cases h_14 : x_9.Cluster < x_4.Cluster
      · rw [if_pos h_14] at h
        have e_15 : (x_9.Cluster < x_4.Cluster) = True := eq_true h_14
        simp only [e_3, e_6, e_7, e_8, e_11, e_12, e_13, e_15, go_sem, reduceIte, reduceCtorEq, Nat.reduceEqDiff, Nat.reduceLT, Nat.reduceLeDiff, Nat.reduceAdd, Nat.reduceSub, Nat.reduceMul, Int.reduceToNat, Int.reduceLE, Int.reduceLT, Int.reduceAdd, Int.reduceSub, Int.reduceMul, Int.reduceEq, Int.reduceNeg]
        have g := Option.some.inj h
        subst g
        rw [← hQ]
        exact ⟨_, _, (Ref.out [2] rfl), hp⟩
      · rw [if_neg h_14] at h
        have e_15 : (x_9.Cluster < x_4.Cluster) = False := eq_false h_14
        simp only [e_3, e_6, e_7, e_8, e_11, e_12, e_13, e_15, go_sem, reduceIte, reduceCtorEq, Nat.reduceEqDiff, Nat.reduceLT, Nat.reduceLeDiff, Nat.reduceAdd, Nat.reduceSub, Nat.reduceMul, Int.reduceToNat, Int.reduceLE, Int.reduceLT, Int.reduceAdd, Int.reduceSub, Int.reduceMul, Int.reduceEq, Int.reduceNeg]
        rw [← hQ]
        exact ⟨_, _, (Ref.out [0, 3] rfl), (Nat.zero_le _), ih _ _ h hp⟩
    · rw [if_neg h_2] at h
      have e_3 : (i_1 < (l_0.length : Int)) = False := eq_false h_2
      simp only [e_3, go_sem, reduceIte, reduceCtorEq, Nat.reduceEqDiff, Nat.reduceLT, Nat.reduceLeDiff, Nat.reduceAdd, Nat.reduceSub, Nat.reduceMul, Int.reduceToNat, Int.reduceLE, Int.reduceLT, Int.reduceAdd, Int.reduceSub, Int.reduceMul, Int.reduceEq, Int.reduceNeg]
      have g := Option.some.inj h
      subst g
      rw [← hQ]
      exact ⟨_, _, (Ref.out [] rfl), hp⟩
theorem ref17_Rise_w (N : Nat) (l_0 : List TGlyph) (c_0 : Bool) (z_1 : Bool) (h : ref17_Rise N l_0 = some z_1) :
    ACalls Go.Proofs.Try.prog 14 [.vec c_0 (List.map eTGlyph l_0)] [] (fun e H => H = [] ∧ e = .ret (.bool z_1)) := by
  unfold ref17_Rise at h
  refine ACalls.goN Go.Proofs.Try.func14 n14 a14 Go.Proofs.Try.ntmps14 r14 (by simp) 0 rfl ?_
  generalize hQ : bodyA _ _ _ = QQ
  simp only [A14, go_sem, reduceIte, reduceCtorEq, Nat.reduceEqDiff, Nat.reduceLT, Nat.reduceLeDiff, Nat.reduceAdd, Nat.reduceSub, Nat.reduceMul, Int.reduceToNat, Int.reduceLE, Int.reduceLT, Int.reduceAdd, Int.reduceSub, Int.reduceMul, Int.reduceEq, Int.reduceNeg]
  obtain ⟨o_1002, h_1001, h⟩ := bindS h
  refine ALp.ref (Ref.out [0, 3] rfl) (Nat.zero_le _) (ref17_Rise_L1_w N _ c_0 N _ o_1002 h_1001 ?_)
  rcases o_1002 with _ | _
  · try dsimp only at h
    refine LoopK_go rfl (Nat.zero_le _) ?_
    simp only [go_sem, reduceIte, reduceCtorEq, Nat.reduceEqDiff, Nat.reduceLT, Nat.reduceLeDiff, Nat.reduceAdd, Nat.reduceSub, Nat.reduceMul, Int.reduceToNat, Int.reduceLE, Int.reduceLT, Int.reduceAdd, Int.reduceSub, Int.reduceMul, Int.reduceEq, Int.reduceNeg]
    have g_0 := Option.some.inj h
    subst g_0
    rw [← hQ]
    exact ⟨rfl, _, rfl, _, _, (RefV.out rfl), rfl, rfl⟩
  · try dsimp only at h
    refine LoopK_ret ?_
    have g_0 := Option.some.inj h
    subst g_0
    rw [← hQ]
    exact ⟨rfl, _, rfl, _, _, (RefV.out rfl), rfl, rfl⟩
theorem slices_Clone_apiGlyphapiGlyph_w (N : Nat) (l_0 : List TGlyph) (c_0 : Bool) (z_1 : List TGlyph) (h : slices_Clone_apiGlyphapiGlyph N l_0 = some z_1) :
    ACalls Go.Proofs.Try.prog 53 [.vec c_0 (List.map eTGlyph l_0)] [] (fun e H => H = [.mem 14 (List.map eTGlyph z_1) 32] ∧ e = .ret (.row 0 0 z_1.length)) := by
  unfold slices_Clone_apiGlyphapiGlyph at h
  refine ACalls.goN Go.Proofs.Try.func53 n53 a53 Go.Proofs.Try.ntmps53 r53 (by simp) 0 rfl ?_
  generalize hQ : bodyA _ _ _ = QQ
  simp only [A53, go_sem, reduceIte, reduceCtorEq, Nat.reduceEqDiff, Nat.reduceLT, Nat.reduceLeDiff, Nat.reduceAdd, Nat.reduceSub, Nat.reduceMul, Int.reduceToNat, Int.reduceLE, Int.reduceLT, Int.reduceAdd, Int.reduceSub, Int.reduceMul, Int.reduceEq, Int.reduceNeg]
  by_cases h_1 : l_0 = []
  · rw [if_pos h_1] at h
    have e_2 : l_0 = [] := h_1
    simp only [e_2, go_sem, reduceIte, reduceCtorEq, Nat.reduceEqDiff, Nat.reduceLT, Nat.reduceLeDiff, Nat.reduceAdd, Nat.reduceSub, Nat.reduceMul, Int.reduceToNat, Int.reduceLE, Int.reduceLT, Int.reduceAdd, Int.reduceSub, Int.reduceMul, Int.reduceEq, Int.reduceNeg]
    refine ⟨?_, ?_⟩
    · skip
      try simp only [e_2, go_sem, reduceIte, reduceCtorEq, Nat.reduceEqDiff, Nat.reduceLT, Nat.reduceLeDiff, Nat.reduceAdd, Nat.reduceSub, Nat.reduceMul, Int.reduceToNat, Int.reduceLE, Int.reduceLT, Int.reduceAdd, Int.reduceSub, Int.reduceMul, Int.reduceEq, Int.reduceNeg]
      have g_0 := Option.some.inj h
      subst g_0
      rw [← hQ]
      exact ⟨rfl, _, rfl, _, _, (RefV.trans (RefV.thaw0 (Nat.zero_le _) (sz := 14) (by decide) 32) (RefV.std [0] (by decide) low0 rfl (by first | rfl | simp only [go_sem, reduceIte, Nat.reduceEqDiff, Nat.reduceAdd, e_2]))), rfl, rfl⟩
    · skip
      try simp only [e_2, go_sem, reduceIte, reduceCtorEq, Nat.reduceEqDiff, Nat.reduceLT, Nat.reduceLeDiff, Nat.reduceAdd, Nat.reduceSub, Nat.reduceMul, Int.reduceToNat, Int.reduceLE, Int.reduceLT, Int.reduceAdd, Int.reduceSub, Int.reduceMul, Int.reduceEq, Int.reduceNeg]
      have g_0 := Option.some.inj h
      subst g_0
      rw [← hQ]
      exact ⟨rfl, _, rfl, _, _, (RefV.std [0] (by decide) low0 rfl (by first | rfl | simp only [go_sem, reduceIte, Nat.reduceEqDiff, Nat.reduceAdd, e_2])), rfl, rfl⟩
  · rw [if_neg h_1] at h
    have e_2 : (l_0.length = 0) = False := eq_false (fun q => h_1 (List.eq_nil_of_length_eq_zero q))
    have e_3 : ((List.map eTGlyph l_0)).all (fun el => el.length == 14) = true := all_len _ eTGlyph 14 (fun _ => rfl)
    obtain ⟨h_4, h⟩ := guardS h
    have e_5 : (l_0.length * 112 ≤ 140737488355328) = True := eq_true h_4
    simp only [e_2, e_3, e_5, go_sem, reduceIte, reduceCtorEq, Nat.reduceEqDiff, Nat.reduceLT, Nat.reduceLeDiff, Nat.reduceAdd, Nat.reduceSub, Nat.reduceMul, Int.reduceToNat, Int.reduceLE, Int.reduceLT, Int.reduceAdd, Int.reduceSub, Int.reduceMul, Int.reduceEq, Int.reduceNeg]
    have g_0 := Option.some.inj h
    subst g_0
    rw [← hQ]
    exact ⟨rfl, _, rfl, _, _, (RefV.std [0] (by decide) low0 rfl (by first | rfl | simp only [go_sem, reduceIte, Nat.reduceEqDiff, Nat.reduceAdd, e_2])), rfl, rfl⟩
theorem buffer_Merge_L1_w (N : Nat) (l_0 : List TGlyph) (a_1 : Int) (a_2 : Int) (y_1 : List TGlyph) (c_0 : Bool) {R : AExit → ATm → List AObj → Prop} : ∀ (n : Nat) (i_22 : Int) (i_23 : Int) (o : Int), buffer_Merge_L1 N l_0 a_1 a_2 y_1 n i_22 i_23 = some o → (match o with | z_1 => R (.exit 0) ⟨101, [(0, .vec c_0 (List.map eTGlyph l_0)), (1, .int .i64 a_1), (2, .int .i64 a_2), (7, .row 0 0 y_1.length), (8, .int .i64 z_1)], []⟩ [.mem 14 (List.map eTGlyph y_1) 32]) →
    ALp Go.Proofs.Try.prog 0 B16_1 ⟨101, [(0, .vec c_0 (List.map eTGlyph l_0)), (1, .int .i64 a_1), (2, .int .i64 a_2), (7, .row 0 0 y_1.length), (8, .int .i64 i_22), (38, .vec false (List.map eTGlyph (slI l_0 a_1 a_2))), (39, .int .i64 (((slI l_0 a_1 a_2).length : Nat) : Int)), (40, .int .i64 i_23)], []⟩ [.mem 14 (List.map eTGlyph y_1) 32] R := by
  intro n
  induction n with
  | zero =>
    intro i_22 i_23 o h _
    have h0 : none = some o := h
    cases h0
  | succ n ih =>
    intro i_22 i_23 o h hp
    rw [buffer_Merge_L1] at h
    refine ALp.round ?_
    generalize hQ : RoundQ _ _ _ _ = QQ
    simp only [B16_1, A16, go_sem, reduceIte, reduceCtorEq, Nat.reduceEqDiff, Nat.reduceLT, Nat.reduceLeDiff, Nat.reduceAdd, Nat.reduceSub, Nat.reduceMul, Int.reduceToNat, Int.reduceLE, Int.reduceLT, Int.reduceAdd, Int.reduceSub, Int.reduceMul, Int.reduceEq, Int.reduceNeg]
    by_cases h_24 : i_23 < (((slI l_0 a_1 a_2).length : Nat) : Int)
    · rw [if_pos h_24] at h
      have e_25 : (i_23 < (((slI l_0 a_1 a_2).length : Nat) : Int)) = True := eq_true h_24
      obtain ⟨x_26, h_27, h⟩ := bindS h
      have e_28 : (List.map eTGlyph (slI l_0 a_1 a_2))[(i_23).toNat]? = some [.int .i64 x_26.Id, .int .i64 x_26.Cluster, .int .i64 x_26.Mask, .int .i64 x_26.Syl, .int .i32 x_26.Code, .int .i64 x_26.Cat, .int .i64 x_26.Pos, .int .i64 x_26.Key, .int .i64 x_26.Lig, .int .i64 x_26.Part, .int .i64 x_26.X, .int .i64 x_26.Y, .int .i64 x_26.Wide, .int .i64 x_26.High] := atI_map eTGlyph h_27
      have e_29 : ((0 : Int) ≤ i_23) = True := eq_true (atI_some h_27).1
      have e_30 : ((i_23 : Int) < ((slI l_0 a_1 a_2).length : Int)) = True := eq_true (atI_lt h_27)
      simp only [e_25, e_28, e_29, e_30, go_sem, reduceIte, reduceCtorEq, Nat.reduceEqDiff, Nat.reduceLT, Nat.reduceLeDiff, Nat.reduceAdd, Nat.reduceSub, Nat.reduceMul, Int.reduceToNat, Int.reduceLE, Int.reduceLT, Int.reduceAdd, Int.reduceSub, Int.reduceMul, Int.reduceEq, Int.reduceNeg]
      rw [← hQ]
      exact ⟨_, _, (Ref.std [0, 1, 2, 7, 8, 38, 39, 40] [0] (by decide) low0 rfl (by first | rfl | simp only [go_sem, reduceIte, Nat.reduceEqDiff, Nat.reduceAdd])), (Nat.zero_le _), ih _ _ _ h hp⟩
    · rw [if_neg h_24] at h
      have e_25 : (i_23 < (((slI l_0 a_1 a_2).length : Nat) : Int)) = False := eq_false h_24
      simp only [e_25, go_sem, reduceIte, reduceCtorEq, Nat.reduceEqDiff, Nat.reduceLT, Nat.reduceLeDiff, Nat.reduceAdd, Nat.reduceSub, Nat.reduceMul, Int.reduceToNat, Int.reduceLE, Int.reduceLT, Int.reduceAdd, Int.reduceSub, Int.reduceMul, Int.reduceEq, Int.reduceNeg]
      have g := Option.some.inj h
      subst g
      rw [← hQ]
      exact ⟨_, _, (Ref.std [0, 1, 2, 7, 8] [0] (by decide) low0 rfl (by first | rfl | simp only [go_sem, reduceIte, Nat.reduceEqDiff, Nat.reduceAdd])), hp⟩
theorem buffer_Merge_L2_w (N : Nat) (l_0 : List TGlyph) (a_1 : Int) (a_2 : Int) (y_1023 : Int) (y_1 : List TGlyph) (c_0 : Bool) {R : AExit → ATm → List AObj → Prop} : ∀ (n : Nat) (i_1024 : Int) (o : Int), buffer_Merge_L2 N l_0 a_1 a_2 y_1023 y_1 n i_1024 = some o → (match o with | z_1 => R (.exit 2) ⟨101, [(0, .vec c_0 (List.map eTGlyph l_0)), (2, .int .i64 a_2), (7, .row 0 0 y_1.length), (8, .int .i64 y_1023), (11, .int .i64 z_1), (12, .int .i64 a_2)], []⟩ [.mem 14 (List.map eTGlyph y_1) 32]) →
    ALp Go.Proofs.Try.prog 0 B16_2 ⟨101, [(0, .vec c_0 (List.map eTGlyph l_0)), (1, .int .i64 a_1), (2, .int .i64 a_2), (7, .row 0 0 y_1.length), (8, .int .i64 y_1023), (11, .int .i64 i_1024), (12, .int .i64 a_2)], []⟩ [.mem 14 (List.map eTGlyph y_1) 32] R := by
  intro n
  induction n with
  | zero =>
    intro i_1024 o h _
    have h0 : none = some o := h
    cases h0
  | succ n ih =>
    intro i_1024 o h hp
    rw [buffer_Merge_L2] at h
    refine ALp.round ?_
    generalize hQ : RoundQ _ _ _ _ = QQ
    simp only [B16_2, A16, go_sem, reduceIte, reduceCtorEq, Nat.reduceEqDiff, Nat.reduceLT, Nat.reduceLeDiff, Nat.reduceAdd, Nat.reduceSub, Nat.reduceMul, Int.reduceToNat, Int.reduceLE, Int.reduceLT, Int.reduceAdd, Int.reduceSub, Int.reduceMul, Int.reduceEq, Int.reduceNeg]
    by_cases h_1025 : 0 < i_1024
    · rw [if_pos h_1025] at h
      have e_1026 : (0 < i_1024) = True := eq_true h_1025
      obtain ⟨x_1027, h_1028, h⟩ := bindS h
      have e_1029 : (List.map eTGlyph l_0)[(IntKind.i64.wrap (i_1024 - 1)).toNat]? = some [.int .i64 x_1027.Id, .int .i64 x_1027.Cluster, .int .i64 x_1027.Mask, .int .i64 x_1027.Syl, .int .i32 x_1027.Code, .int .i64 x_1027.Cat, .int .i64 x_1027.Pos, .int .i64 x_1027.Key, .int .i64 x_1027.Lig, .int .i64 x_1027.Part, .int .i64 x_1027.X, .int .i64 x_1027.Y, .int .i64 x_1027.Wide, .int .i64 x_1027.High] := atI_map eTGlyph h_1028
      have e_1030 : ((0 : Int) ≤ IntKind.i64.wrap (i_1024 - 1)) = True := eq_true (atI_some h_1028).1
      have e_1031 : ((IntKind.i64.wrap (i_1024 - 1) : Int) < (l_0.length : Int)) = True := eq_true (atI_lt h_1028)
      obtain ⟨x_1032, h_1033, h⟩ := bindS h
      have e_1034 : (List.map eTGlyph l_0)[(a_1).toNat]? = some [.int .i64 x_1032.Id, .int .i64 x_1032.Cluster, .int .i64 x_1032.Mask, .int .i64 x_1032.Syl, .int .i32 x_1032.Code, .int .i64 x_1032.Cat, .int .i64 x_1032.Pos, .int .i64 x_1032.Key, .int .i64 x_1032.Lig, .int .i64 x_1032.Part, .int .i64 x_1032.X, .int .i64 x_1032.Y, .int .i64 x_1032.Wide, .int .i64 x_1032.High] := atI_map eTGlyph h_1033
      have e_1035 : ((0 : Int) ≤ a_1) = True := eq_true (atI_some h_1033).1
      have e_1036 : ((a_1 : Int) < (l_0.length : Int)) = True := eq_true (atI_lt h_1033)
      simp only [e_1026, e_1029, e_1030, e_1031, e_1034, e_1035, e_1036, go_sem, reduceIte, reduceCtorEq, Nat.reduceEqDiff, Nat.reduceLT, Nat.reduceLeDiff, Nat.reduceAdd, Nat.reduceSub, Nat.reduceMul, Int.reduceToNat, Int.reduceLE, Int.reduceLT, Int.reduceAdd, Int.reduceSub, Int.reduceMul, Int.reduceEq, Int.reduceNeg]
      by_cases h_1037 : x_1027.Cluster = x_1032.Cluster
      · rw [if_pos h_1037] at h
        have e_1038 : (x_1027.Cluster = x_1032.Cluster) = True := eq_true h_1037
        simp only [e_1026, e_1029, e_1030, e_1031, e_1034, e_1035, e_1036, e_1038, go_sem, reduceIte, reduceCtorEq, Nat.reduceEqDiff, Nat.reduceLT, Nat.reduceLeDiff, Nat.reduceAdd, Nat.reduceSub, Nat.reduceMul, Int.reduceToNat, Int.reduceLE, Int.reduceLT, Int.reduceAdd, Int.reduceSub, Int.reduceMul, Int.reduceEq, Int.reduceNeg]
        rw [← hQ]
        exact ⟨_, _, (Ref.std [0, 1, 2, 7, 8, 11, 12] [0] (by decide) low0 rfl (by first | rfl | simp only [go_sem, reduceIte, Nat.reduceEqDiff, Nat.reduceAdd])), (Nat.zero_le _), ih _ _ h hp⟩
      · rw [if_neg h_1037] at h
        have e_1038 : (x_1027.Cluster = x_1032.Cluster) = False := eq_false h_1037
        simp only [e_1026, e_1029, e_1030, e_1031, e_1034, e_1035, e_1036, e_1038, go_sem, reduceIte, reduceCtorEq, Nat.reduceEqDiff, Nat.reduceLT, Nat.reduceLeDiff, Nat.reduceAdd, Nat.reduceSub, Nat.reduceMul, Int.reduceToNat, Int.reduceLE, Int.reduceLT, Int.reduceAdd, Int.reduceSub, Int.reduceMul, Int.reduceEq, Int.reduceNeg]
        have g := Option.some.inj h
        subst g
        rw [← hQ]
        exact ⟨_, _, (Ref.std [0, 2, 7, 8, 11, 12] [0] (by decide) low0 rfl (by first | rfl | simp only [go_sem, reduceIte, Nat.reduceEqDiff, Nat.reduceAdd])), hp⟩
    · rw [if_neg h_1025] at h
      have e_1026 : (0 < i_1024) = False := eq_false h_1025
      simp only [e_1026, go_sem, reduceIte, reduceCtorEq, Nat.reduceEqDiff, Nat.reduceLT, Nat.reduceLeDiff, Nat.reduceAdd, Nat.reduceSub, Nat.reduceMul, Int.reduceToNat, Int.reduceLE, Int.reduceLT, Int.reduceAdd, Int.reduceSub, Int.reduceMul, Int.reduceEq, Int.reduceNeg]
      have g := Option.some.inj h
      subst g
      rw [← hQ]
      exact ⟨_, _, (Ref.std [0, 2, 7, 8, 11, 12] [0] (by decide) low0 rfl (by first | rfl | simp only [go_sem, reduceIte, Nat.reduceEqDiff, Nat.reduceAdd])), hp⟩
theorem buffer_Merge_L3_w (N : Nat) (l_0 : List TGlyph) (a_2 : Int) (y_1023 : Int) (y_2025 : Int) (y_1 : List TGlyph) (c_0 : Bool) {R : AExit → ATm → List AObj → Prop} : ∀ (n : Nat) (i_2026 : Int) (o : Int), buffer_Merge_L3 N l_0 a_2 y_1023 y_2025 y_1 n i_2026 = some o → (match o with | z_1 => R (.exit 4) ⟨101, [(7, .row 0 0 y_1.length), (8, .int .i64 y_1023), (11, .int .i64 y_2025), (12, .int .i64 z_1)], []⟩ [.mem 14 (List.map eTGlyph y_1) 32]) →
    ALp Go.Proofs.Try.prog 0 B16_3 ⟨101, [(0, .vec c_0 (List.map eTGlyph l_0)), (2, .int .i64 a_2), (7, .row 0 0 y_1.length), (8, .int .i64 y_1023), (11, .int .i64 y_2025), (12, .int .i64 i_2026)], []⟩ [.mem 14 (List.map eTGlyph y_1) 32] R := by
  intro n
  induction n with
  | zero =>
    intro i_2026 o h _
    have h0 : none = some o := h
    cases h0
  | succ n ih =>
    intro i_2026 o h hp
    rw [buffer_Merge_L3] at h
    refine ALp.round ?_
    generalize hQ : RoundQ _ _ _ _ = QQ
    simp only [B16_3, A16, go_sem, reduceIte, reduceCtorEq, Nat.reduceEqDiff, Nat.reduceLT, Nat.reduceLeDiff, Nat.reduceAdd, Nat.reduceSub, Nat.reduceMul, Int.reduceToNat, Int.reduceLE, Int.reduceLT, Int.reduceAdd, Int.reduceSub, Int.reduceMul, Int.reduceEq, Int.reduceNeg]
    by_cases h_2027 : i_2026 < (l_0.length : Int)
    · rw [if_pos h_2027] at h
      have e_2028 : (i_2026 < (l_0.length : Int)) = True := eq_true h_2027
      obtain ⟨x_2029, h_2030, h⟩ := bindS h
      have e_2031 : (List.map eTGlyph l_0)[(i_2026).toNat]? = some [.int .i64 x_2029.Id, .int .i64 x_2029.Cluster, .int .i64 x_2029.Mask, .int .i64 x_2029.Syl, .int .i32 x_2029.Code, .int .i64 x_2029.Cat, .int .i64 x_2029.Pos, .int .i64 x_2029.Key, .int .i64 x_2029.Lig, .int .i64 x_2029.Part, .int .i64 x_2029.X, .int .i64 x_2029.Y, .int .i64 x_2029.Wide, .int .i64 x_2029.High] := atI_map eTGlyph h_2030
      have e_2032 : ((0 : Int) ≤ i_2026) = True := eq_true (atI_some h_2030).1
      have e_2033 : ((i_2026 : Int) < (l_0.length : Int)) = True := eq_true (atI_lt h_2030)
      obtain ⟨x_2034, h_2035, h⟩ := bindS h
      have e_2036 : (List.map eTGlyph l_0)[(IntKind.i64.wrap (a_2 - 1)).toNat]? = some [.int .i64 x_2034.Id, .int .i64 x_2034.Cluster, .int .i64 x_2034.Mask, .int .i64 x_2034.Syl, .int .i32 x_2034.Code, .int .i64 x_2034.Cat, .int .i64 x_2034.Pos, .int .i64 x_2034.Key, .int .i64 x_2034.Lig, .int .i64 x_2034.Part, .int .i64 x_2034.X, .int .i64 x_2034.Y, .int .i64 x_2034.Wide, .int .i64 x_2034.High] := atI_map eTGlyph h_2035
      have e_2037 : ((0 : Int) ≤ IntKind.i64.wrap (a_2 - 1)) = True := eq_true (atI_some h_2035).1
      have e_2038 : ((IntKind.i64.wrap (a_2 - 1) : Int) < (l_0.length : Int)) = True := eq_true (atI_lt h_2035)
      simp only [e_2028, e_2031, e_2032, e_2033, e_2036, e_2037, e_2038, go_sem, reduceIte, reduceCtorEq, Nat.reduceEqDiff, Nat.reduceLT, Nat.reduceLeDiff, Nat.reduceAdd, Nat.reduceSub, Nat.reduceMul, Int.reduceToNat, Int.reduceLE, Int.reduceLT, Int.reduceAdd, Int.reduceSub, Int.reduceMul, Int.reduceEq, Int.reduceNeg]
      by_cases h_2039 : x_2029.Cluster = x_2034.Cluster
      · rw [if_pos h_2039] at h
        have e_2040 : (x_2029.Cluster = x_2034.Cluster) = True := eq_true h_2039
        simp only [e_2028, e_2031, e_2032, e_2033, e_2036, e_2037, e_2038, e_2040, go_sem, reduceIte, reduceCtorEq, Nat.reduceEqDiff, Nat.reduceLT, Nat.reduceLeDiff, Nat.reduceAdd, Nat.reduceSub, Nat.reduceMul, Int.reduceToNat, Int.reduceLE, Int.reduceLT, Int.reduceAdd, Int.reduceSub, Int.reduceMul, Int.reduceEq, Int.reduceNeg]
        rw [← hQ]
        exact ⟨_, _, (Ref.std [0, 2, 7, 8, 11, 12] [0] (by decide) low0 rfl (by first | rfl | simp only [go_sem, reduceIte, Nat.reduceEqDiff, Nat.reduceAdd])), (Nat.zero_le _), ih _ _ h hp⟩
      · rw [if_neg h_2039] at h
        have e_2040 : (x_2029.Cluster = x_2034.Cluster) = False := eq_false h_2039
        simp only [e_2028, e_2031, e_2032, e_2033, e_2036, e_2037, e_2038, e_2040, go_sem, reduceIte, reduceCtorEq, Nat.reduceEqDiff, Nat.reduceLT, Nat.reduceLeDiff, Nat.reduceAdd, Nat.reduceSub, Nat.reduceMul, Int.reduceToNat, Int.reduceLE, Int.reduceLT, Int.reduceAdd, Int.reduceSub, Int.reduceMul, Int.reduceEq, Int.reduceNeg]
        have g := Option.some.inj h
        subst g
        rw [← hQ]
        exact ⟨_, _, (Ref.std [7, 8, 11, 12] [0] (by decide) low0 rfl (by first | rfl | simp only [go_sem, reduceIte, Nat.reduceEqDiff, Nat.reduceAdd])), hp⟩
    · rw [if_neg h_2027] at h
      have e_2028 : (i_2026 < (l_0.length : Int)) = False := eq_false h_2027
      simp only [e_2028, go_sem, reduceIte, reduceCtorEq, Nat.reduceEqDiff, Nat.reduceLT, Nat.reduceLeDiff, Nat.reduceAdd, Nat.reduceSub, Nat.reduceMul, Int.reduceToNat, Int.reduceLE, Int.reduceLT, Int.reduceAdd, Int.reduceSub, Int.reduceMul, Int.reduceEq, Int.reduceNeg]
      have g := Option.some.inj h
      subst g
      rw [← hQ]
      exact ⟨_, _, (Ref.std [7, 8, 11, 12] [0] (by decide) low0 rfl (by first | rfl | simp only [go_sem, reduceIte, Nat.reduceEqDiff, Nat.reduceAdd])), hp⟩
theorem buffer_Merge_L4_w (N : Nat) (y_1023 : Int) (y_3027 : Int) {R : AExit → ATm → List AObj → Prop} : ∀ (n : Nat) (i_3028 : Int) (s_3029 : List TGlyph) (o : (List TGlyph)), buffer_Merge_L4 N y_1023 y_3027 n i_3028 s_3029 = some o → (match o with | z_1 => R (.exit 6) ⟨101, [(7, .row 0 0 z_1.length)], []⟩ [.mem 14 (List.map eTGlyph z_1) 32]) →
    ALp Go.Proofs.Try.prog 0 B16_4 ⟨101, [(7, .row 0 0 s_3029.length), (8, .int .i64 y_1023), (12, .int .i64 y_3027), (13, .int .i64 i_3028)], []⟩ [.mem 14 (List.map eTGlyph s_3029) 32] R := by
  intro n
  induction n with
  | zero =>
    intro i_3028 s_3029 o h _
    have h0 : none = some o := h
    cases h0
  | succ n ih =>
    intro i_3028 s_3029 o h hp
    rw [buffer_Merge_L4] at h
    refine ALp.round ?_
    generalize hQ : RoundQ _ _ _ _ = QQ
    simp only [B16_4, A16, go_sem, reduceIte, reduceCtorEq, Nat.reduceEqDiff, Nat.reduceLT, Nat.reduceLeDiff, Nat.reduceAdd, Nat.reduceSub, Nat.reduceMul, Int.reduceToNat, Int.reduceLE, Int.reduceLT, Int.reduceAdd, Int.reduceSub, Int.reduceMul, Int.reduceEq, Int.reduceNeg]
    by_cases h_3030 : i_3028 < y_3027
    · rw [if_pos h_3030] at h
      have e_3031 : (i_3028 < y_3027) = True := eq_true h_3030
      obtain ⟨x_3032, h_3033, h⟩ := bindS h
      have e_3034 : (List.map eTGlyph s_3029)[(i_3028).toNat]? = some [.int .i64 x_3032.Id, .int .i64 x_3032.Cluster, .int .i64 x_3032.Mask, .int .i64 x_3032.Syl, .int .i32 x_3032.Code, .int .i64 x_3032.Cat, .int .i64 x_3032.Pos, .int .i64 x_3032.Key, .int .i64 x_3032.Lig, .int .i64 x_3032.Part, .int .i64 x_3032.X, .int .i64 x_3032.Y, .int .i64 x_3032.Wide, .int .i64 x_3032.High] := atI_map eTGlyph h_3033
      have e_3035 : ((0 : Int) ≤ i_3028) = True := eq_true (atI_some h_3033).1
      have e_3036 : ((i_3028 : Int) < (s_3029.length : Int)) = True := eq_true (atI_lt h_3033)
      have e_3037 : (List.map eTGlyph s_3029).set (i_3028).toNat [.int .i64 x_3032.Id, .int .i64 y_1023, .int .i64 x_3032.Mask, .int .i64 x_3032.Syl, .int .i32 x_3032.Code, .int .i64 x_3032.Cat, .int .i64 x_3032.Pos, .int .i64 x_3032.Key, .int .i64 x_3032.Lig, .int .i64 x_3032.Part, .int .i64 x_3032.X, .int .i64 x_3032.Y, .int .i64 x_3032.Wide, .int .i64 x_3032.High] = List.map eTGlyph (List.set s_3029 (i_3028).toNat (TGlyph.mk x_3032.Id y_1023 x_3032.Mask x_3032.Syl x_3032.Code x_3032.Cat x_3032.Pos x_3032.Key x_3032.Lig x_3032.Part x_3032.X x_3032.Y x_3032.Wide x_3032.High)) := set_map s_3029 eTGlyph (i_3028).toNat (TGlyph.mk x_3032.Id y_1023 x_3032.Mask x_3032.Syl x_3032.Code x_3032.Cat x_3032.Pos x_3032.Key x_3032.Lig x_3032.Part x_3032.X x_3032.Y x_3032.Wide x_3032.High)
      simp only [e_3031, e_3034, e_3035, e_3036, e_3037, go_sem, reduceIte, reduceCtorEq, Nat.reduceEqDiff, Nat.reduceLT, Nat.reduceLeDiff, Nat.reduceAdd, Nat.reduceSub, Nat.reduceMul, Int.reduceToNat, Int.reduceLE, Int.reduceLT, Int.reduceAdd, Int.reduceSub, Int.reduceMul, Int.reduceEq, Int.reduceNeg]
      rw [← hQ]
      exact ⟨_, _, (Ref.std [7, 8, 12, 13] [0] (by decide) low0 (by first | rfl | simp only [go_sem, reduceIte, Nat.reduceEqDiff, Nat.reduceAdd]) (by first | rfl | simp only [go_sem, reduceIte, Nat.reduceEqDiff, Nat.reduceAdd])), (Nat.zero_le _), ih _ _ _ h hp⟩
    · rw [if_neg h_3030] at h
      have e_3031 : (i_3028 < y_3027) = False := eq_false h_3030
      simp only [e_3031, go_sem, reduceIte, reduceCtorEq, Nat.reduceEqDiff, Nat.reduceLT, Nat.reduceLeDiff, Nat.reduceAdd, Nat.reduceSub, Nat.reduceMul, Int.reduceToNat, Int.reduceLE, Int.reduceLT, Int.reduceAdd, Int.reduceSub, Int.reduceMul, Int.reduceEq, Int.reduceNeg]
      have g := Option.some.inj h
      subst g
      rw [← hQ]
      exact ⟨_, _, (Ref.std [7] [0] (by decide) low0 rfl (by first | rfl | simp only [go_sem, reduceIte, Nat.reduceEqDiff, Nat.reduceAdd])), hp⟩
theorem buffer_Merge_w (N : Nat) (l_0 : List TGlyph) (a_1 : Int) (a_2 : Int) (c_0 : Bool) (z_1 : List TGlyph) (h : buffer_Merge N l_0 a_1 a_2 = some z_1) :
    ACalls Go.Proofs.Try.prog 16 [.vec c_0 (List.map eTGlyph l_0), .int .i64 a_1, .int .i64 a_2] [] (fun e H => H = [] ∧ e = .ret (.vec false (List.map eTGlyph z_1))) := by
  unfold buffer_Merge at h
  refine ACalls.goN Go.Proofs.Try.func16 n16 a16 Go.Proofs.Try.ntmps16 r16 (by simp) 0 rfl ?_
  generalize hQ : bodyA _ _ _ = QQ
  obtain ⟨y_1, h_2, h⟩ := bindS h
  simp only [A16, go_sem, reduceIte, reduceCtorEq, Nat.reduceEqDiff, Nat.reduceLT, Nat.reduceLeDiff, Nat.reduceAdd, Nat.reduceSub, Nat.reduceMul, Int.reduceToNat, Int.reduceLE, Int.reduceLT, Int.reduceAdd, Int.reduceSub, Int.reduceMul, Int.reduceEq, Int.reduceNeg]
  refine ACalls.use (slices_Clone_apiGlyphapiGlyph_w N _ _ _ h_2) [] (by decide) trivial rfl (v' := .row 0 0 y_1.length) (by first | rfl | simp only [go_sem, reduceIte, Nat.reduceEqDiff, Nat.reduceAdd]) (H' := [.mem 14 (List.map eTGlyph y_1) 32]) (by first | rfl | simp only [go_sem, reduceIte, Nat.reduceEqDiff, Nat.reduceAdd]) ?_
  refine CallK_go (Nat.zero_le _) ?_
  simp only [go_sem, reduceIte, reduceCtorEq, Nat.reduceEqDiff, Nat.reduceLT, Nat.reduceLeDiff, Nat.reduceAdd, Nat.reduceSub, Nat.reduceMul, Int.reduceToNat, Int.reduceLE, Int.reduceLT, Int.reduceAdd, Int.reduceSub, Int.reduceMul, Int.reduceEq, Int.reduceNeg]
  by_cases h_3 : a_1 < 0
  · rw [if_pos h_3] at h
    have e_4 : (a_1 < 0) = True := eq_true h_3
    simp only [e_4, go_sem, reduceIte, reduceCtorEq, Nat.reduceEqDiff, Nat.reduceLT, Nat.reduceLeDiff, Nat.reduceAdd, Nat.reduceSub, Nat.reduceMul, Int.reduceToNat, Int.reduceLE, Int.reduceLT, Int.reduceAdd, Int.reduceSub, Int.reduceMul, Int.reduceEq, Int.reduceNeg]
    have g_0 := Option.some.inj h
    subst g_0
    rw [← hQ]
    exact ⟨rfl, _, rfl, _, _, (RefV.trans (RefV.frz (Nat.zero_le _) (id := 0) rfl (pures_map y_1 eTGlyph (fun _ => rfl))) (RefV.out (by first | rfl | simp only [go_sem, reduceIte, Nat.reduceEqDiff, Nat.reduceAdd, e_4]))), rfl, rfl⟩
  · rw [if_neg h_3] at h
    have e_4 : (a_1 < 0) = False := eq_false h_3
    simp only [e_4, go_sem, reduceIte, reduceCtorEq, Nat.reduceEqDiff, Nat.reduceLT, Nat.reduceLeDiff, Nat.reduceAdd, Nat.reduceSub, Nat.reduceMul, Int.reduceToNat, Int.reduceLE, Int.reduceLT, Int.reduceAdd, Int.reduceSub, Int.reduceMul, Int.reduceEq, Int.reduceNeg]
    by_cases h_5 : (l_0.length : Int) < a_2
    · rw [if_pos h_5] at h
      have e_6 : ((l_0.length : Int) < a_2) = True := eq_true h_5
      simp only [e_4, e_6, go_sem, reduceIte, reduceCtorEq, Nat.reduceEqDiff, Nat.reduceLT, Nat.reduceLeDiff, Nat.reduceAdd, Nat.reduceSub, Nat.reduceMul, Int.reduceToNat, Int.reduceLE, Int.reduceLT, Int.reduceAdd, Int.reduceSub, Int.reduceMul, Int.reduceEq, Int.reduceNeg]
      have g_0 := Option.some.inj h
      subst g_0
      rw [← hQ]
      exact ⟨rfl, _, rfl, _, _, (RefV.trans (RefV.frz (Nat.zero_le _) (id := 0) rfl (pures_map y_1 eTGlyph (fun _ => rfl))) (RefV.out (by first | rfl | simp only [go_sem, reduceIte, Nat.reduceEqDiff, Nat.reduceAdd, e_4, e_6]))), rfl, rfl⟩
    · rw [if_neg h_5] at h
      have e_6 : ((l_0.length : Int) < a_2) = False := eq_false h_5
      simp only [e_4, e_6, go_sem, reduceIte, reduceCtorEq, Nat.reduceEqDiff, Nat.reduceLT, Nat.reduceLeDiff, Nat.reduceAdd, Nat.reduceSub, Nat.reduceMul, Int.reduceToNat, Int.reduceLE, Int.reduceLT, Int.reduceAdd, Int.reduceSub, Int.reduceMul, Int.reduceEq, Int.reduceNeg]
      by_cases h_7 : a_2 ≤ a_1
      · rw [if_pos h_7] at h
        have e_8 : (a_2 ≤ a_1) = True := eq_true h_7
        simp only [e_4, e_6, e_8, go_sem, reduceIte, reduceCtorEq, Nat.reduceEqDiff, Nat.reduceLT, Nat.reduceLeDiff, Nat.reduceAdd, Nat.reduceSub, Nat.reduceMul, Int.reduceToNat, Int.reduceLE, Int.reduceLT, Int.reduceAdd, Int.reduceSub, Int.reduceMul, Int.reduceEq, Int.reduceNeg]
        have g_0 := Option.some.inj h
        subst g_0
        rw [← hQ]
        exact ⟨rfl, _, rfl, _, _, (RefV.trans (RefV.frz (Nat.zero_le _) (id := 0) rfl (pures_map y_1 eTGlyph (fun _ => rfl))) (RefV.out (by first | rfl | simp only [go_sem, reduceIte, Nat.reduceEqDiff, Nat.reduceAdd, e_4, e_6, e_8]))), rfl, rfl⟩
      · rw [if_neg h_7] at h
        have e_8 : (a_2 ≤ a_1) = False := eq_false h_7
        obtain ⟨x_9, h_10, h⟩ := bindS h
        have e_11 : (List.map eTGlyph l_0)[(a_1).toNat]? = some [.int .i64 x_9.Id, .int .i64 x_9.Cluster, .int .i64 x_9.Mask, .int .i64 x_9.Syl, .int .i32 x_9.Code, .int .i64 x_9.Cat, .int .i64 x_9.Pos, .int .i64 x_9.Key, .int .i64 x_9.Lig, .int .i64 x_9.Part, .int .i64 x_9.X, .int .i64 x_9.Y, .int .i64 x_9.Wide, .int .i64 x_9.High] := atI_map eTGlyph h_10
        have e_12 : ((0 : Int) ≤ a_1) = True := eq_true (atI_some h_10).1
        have e_13 : ((a_1 : Int) < (l_0.length : Int)) = True := eq_true (atI_lt h_10)
        obtain ⟨h_14, h⟩ := guardS h
        have e_15 : (0 ≤ a_1) = True := eq_true h_14
        obtain ⟨h_16, h⟩ := guardS h
        have e_17 : (a_1 ≤ a_2) = True := eq_true h_16
        obtain ⟨h_18, h⟩ := guardS h
        have e_19 : (a_2 ≤ (l_0.length : Int)) = True := eq_true h_18
        have e_20 : ((List.map eTGlyph l_0)).all (fun el => el.length == 14) = true := all_len _ eTGlyph 14 (fun _ => rfl)
        have e_21 : List.take ((a_2).toNat - (a_1).toNat) (List.drop (a_1).toNat (List.map eTGlyph l_0)) = List.map eTGlyph (slI l_0 a_1 a_2) := slI_map l_0 a_1 a_2 eTGlyph
        simp only [e_4, e_6, e_8, e_11, e_12, e_13, e_15, e_17, e_19, e_20, e_21, go_sem, reduceIte, reduceCtorEq, Nat.reduceEqDiff, Nat.reduceLT, Nat.reduceLeDiff, Nat.reduceAdd, Nat.reduceSub, Nat.reduceMul, Int.reduceToNat, Int.reduceLE, Int.reduceLT, Int.reduceAdd, Int.reduceSub, Int.reduceMul, Int.reduceEq, Int.reduceNeg]
        obtain ⟨y_1023, h_1022, h⟩ := bindS h
        refine ALp.ref (Ref.trans (Ref.std (l' := [(0, .vec c_0 (List.map eTGlyph l_0)), (1, .int .i64 a_1), (2, .int .i64 a_2), (7, .row 0 0 y_1.length), (8, .int .i64 x_9.Cluster), (38, .vec _ (List.map eTGlyph (slI l_0 a_1 a_2))), (39, .int .i64 (((slI l_0 a_1 a_2).length : Nat) : Int)), (40, .int .i64 0)]) (H' := [.mem 14 (List.map eTGlyph y_1) 32]) [0, 1, 2, 7, 8, 38, 39, 40] [0] (by decide) low0 rfl (by first | rfl | simp only [go_sem, reduceIte, Nat.reduceEqDiff, Nat.reduceAdd])) (Ref.weak (WkT.cons (Wk.refl _) (WkT.cons (Wk.refl _) (WkT.cons (Wk.refl _) (WkT.cons (Wk.refl _) (WkT.cons (Wk.refl _) (WkT.cons Wk.vec (WkT.cons (Wk.refl _) (WkT.cons (Wk.refl _) (WkT.nil))))))))) (WkH.cons (WkO.refl _) (WkH.nil)))) (Nat.zero_le _) (buffer_Merge_L1_w N _ _ _ _ c_0 N _ _ y_1023 h_1022 ?_)
        refine LoopK_go rfl (Nat.zero_le _) ?_
        simp only [e_4, e_6, e_8, e_11, e_12, e_13, e_15, e_17, e_19, e_20, e_21, go_sem, reduceIte, reduceCtorEq, Nat.reduceEqDiff, Nat.reduceLT, Nat.reduceLeDiff, Nat.reduceAdd, Nat.reduceSub, Nat.reduceMul, Int.reduceToNat, Int.reduceLE, Int.reduceLT, Int.reduceAdd, Int.reduceSub, Int.reduceMul, Int.reduceEq, Int.reduceNeg]
        obtain ⟨y_2025, h_2024, h⟩ := bindS h
        refine ALp.ref (Ref.std [0, 1, 2, 7, 8, 11, 12] [0] (by decide) low0 rfl (by first | rfl | simp only [go_sem, reduceIte, Nat.reduceEqDiff, Nat.reduceAdd])) (Nat.zero_le _) (buffer_Merge_L2_w N _ _ _ _ _ c_0 N _ y_2025 h_2024 ?_)
        refine LoopK_go rfl (Nat.zero_le _) ?_
        simp only [e_4, e_6, e_8, e_11, e_12, e_13, e_15, e_17, e_19, e_20, e_21, go_sem, reduceIte, reduceCtorEq, Nat.reduceEqDiff, Nat.reduceLT, Nat.reduceLeDiff, Nat.reduceAdd, Nat.reduceSub, Nat.reduceMul, Int.reduceToNat, Int.reduceLE, Int.reduceLT, Int.reduceAdd, Int.reduceSub, Int.reduceMul, Int.reduceEq, Int.reduceNeg]
        obtain ⟨y_3027, h_3026, h⟩ := bindS h
        refine ALp.ref (Ref.std [0, 2, 7, 8, 11, 12] [0] (by decide) low0 rfl (by first | rfl | simp only [go_sem, reduceIte, Nat.reduceEqDiff, Nat.reduceAdd])) (Nat.zero_le _) (buffer_Merge_L3_w N _ _ _ _ _ c_0 N _ y_3027 h_3026 ?_)
        refine LoopK_go rfl (Nat.zero_le _) ?_
        simp only [e_4, e_6, e_8, e_11, e_12, e_13, e_15, e_17, e_19, e_20, e_21, go_sem, reduceIte, reduceCtorEq, Nat.reduceEqDiff, Nat.reduceLT, Nat.reduceLeDiff, Nat.reduceAdd, Nat.reduceSub, Nat.reduceMul, Int.reduceToNat, Int.reduceLE, Int.reduceLT, Int.reduceAdd, Int.reduceSub, Int.reduceMul, Int.reduceEq, Int.reduceNeg]
        obtain ⟨y_4029, h_4028, h⟩ := bindS h
        refine ALp.ref (Ref.std [7, 8, 12, 13] [0] (by decide) low0 rfl (by first | rfl | simp only [go_sem, reduceIte, Nat.reduceEqDiff, Nat.reduceAdd])) (Nat.zero_le _) (buffer_Merge_L4_w N _ _ N _ _ y_4029 h_4028 ?_)
        refine LoopK_go rfl (Nat.zero_le _) ?_
        simp only [e_4, e_6, e_8, e_11, e_12, e_13, e_15, e_17, e_19, e_20, e_21, go_sem, reduceIte, reduceCtorEq, Nat.reduceEqDiff, Nat.reduceLT, Nat.reduceLeDiff, Nat.reduceAdd, Nat.reduceSub, Nat.reduceMul, Int.reduceToNat, Int.reduceLE, Int.reduceLT, Int.reduceAdd, Int.reduceSub, Int.reduceMul, Int.reduceEq, Int.reduceNeg]
        have g_0 := Option.some.inj h
        subst g_0
        rw [← hQ]
        exact ⟨rfl, _, rfl, _, _, (RefV.trans (RefV.frz (Nat.zero_le _) (id := 0) rfl (pures_map y_4029 eTGlyph (fun _ => rfl))) (RefV.out (by first | rfl | simp only [go_sem, reduceIte, Nat.reduceEqDiff, Nat.reduceAdd, e_4, e_6, e_8]))), rfl, rfl⟩
theorem ref17_Copy_w (N : Nat) (l_0 : List TGlyph) (c_0 : Bool) (h : ref17_Copy N l_0 = some ()) :
    ACalls Go.Proofs.Try.prog 54 [.vec c_0 (List.map eTGlyph l_0)] [] (fun e H => H = [.mem 14 (List.map eTGlyph l_0) 32] ∧ e = .ret (.row 0 0 l_0.length)) := by
  unfold ref17_Copy at h
  refine ACalls.goN Go.Proofs.Try.func54 n54 a54 Go.Proofs.Try.ntmps54 r54 (by simp) 0 rfl ?_
  generalize hQ : bodyA _ _ _ = QQ
  have e_1 : ((List.map eTGlyph l_0)).all (fun el => el.length == 14) = true := all_len _ eTGlyph 14 (fun _ => rfl)
  obtain ⟨h_2, h⟩ := guardS h
  have e_3 : (l_0.length * 112 ≤ 140737488355328) = True := eq_true h_2
  simp only [A54, e_1, e_3, go_sem, reduceIte, reduceCtorEq, Nat.reduceEqDiff, Nat.reduceLT, Nat.reduceLeDiff, Nat.reduceAdd, Nat.reduceSub, Nat.reduceMul, Int.reduceToNat, Int.reduceLE, Int.reduceLT, Int.reduceAdd, Int.reduceSub, Int.reduceMul, Int.reduceEq, Int.reduceNeg]
  rw [← hQ]
  exact ⟨rfl, _, rfl, _, _, (RefV.std [0] (by decide) low0 rfl (by first | rfl | simp only [go_sem, reduceIte, Nat.reduceEqDiff, Nat.reduceAdd])), rfl, rfl⟩
theorem ref17_Merge_L1_w (N : Nat) (l_0 : List TGlyph) (a_1 : Int) (a_2 : Int) (c_0 : Bool) {R : AExit → ATm → List AObj → Prop} : ∀ (n : Nat) (i_13 : Int) (i_14 : Int) (o : Int), ref17_Merge_L1 N l_0 a_1 a_2 n i_13 i_14 = some o → (match o with | z_1 => R (.exit 0) ⟨138, [(0, .vec c_0 (List.map eTGlyph l_0)), (1, .int .i64 a_1), (2, .int .i64 a_2), (7, .row 0 0 l_0.length), (8, .int .i64 z_1)], []⟩ [.mem 14 (List.map eTGlyph l_0) 32]) →
    ALp Go.Proofs.Try.prog 0 B17_1 ⟨138, [(0, .vec c_0 (List.map eTGlyph l_0)), (1, .int .i64 a_1), (2, .int .i64 a_2), (7, .row 0 0 l_0.length), (8, .int .i64 i_13), (9, .int .i64 i_14)], []⟩ [.mem 14 (List.map eTGlyph l_0) 32] R := by
  intro n
  induction n with
  | zero =>
    intro i_13 i_14 o h _
    have h0 : none = some o := h
    cases h0
  | succ n ih =>
    intro i_13 i_14 o h hp
    rw [ref17_Merge_L1] at h
    refine ALp.round ?_
    generalize hQ : RoundQ _ _ _ _ = QQ
    simp only [B17_1, A17, go_sem, reduceIte, reduceCtorEq, Nat.reduceEqDiff, Nat.reduceLT, Nat.reduceLeDiff, Nat.reduceAdd, Nat.reduceSub, Nat.reduceMul, Int.reduceToNat, Int.reduceLE, Int.reduceLT, Int.reduceAdd, Int.reduceSub, Int.reduceMul, Int.reduceEq, Int.reduceNeg]
    by_cases h_15 : i_14 < a_2
    · rw [if_pos h_15] at h
      have e_16 : (i_14 < a_2) = True := eq_true h_15
      obtain ⟨x_17, h_18, h⟩ := bindS h
      have e_19 : (List.map eTGlyph l_0)[(i_14).toNat]? = some [.int .i64 x_17.Id, .int .i64 x_17.Cluster, .int .i64 x_17.Mask, .int .i64 x_17.Syl, .int .i32 x_17.Code, .int .i64 x_17.Cat, .int .i64 x_17.Pos, .int .i64 x_17.Key, .int .i64 x_17.Lig, .int .i64 x_17.Part, .int .i64 x_17.X, .int .i64 x_17.Y, .int .i64 x_17.Wide, .int .i64 x_17.High] := atI_map eTGlyph h_18
      have e_20 : ((0 : Int) ≤ i_14) = True := eq_true (atI_some h_18).1
      have e_21 : ((i_14 : Int) < (l_0.length : Int)) = True := eq_true (atI_lt h_18)
      simp only [e_16, e_19, e_20, e_21, go_sem, reduceIte, reduceCtorEq, Nat.reduceEqDiff, Nat.reduceLT, Nat.reduceLeDiff, Nat.reduceAdd, Nat.reduceSub, Nat.reduceMul, Int.reduceToNat, Int.reduceLE, Int.reduceLT, Int.reduceAdd, Int.reduceSub, Int.reduceMul, Int.reduceEq, Int.reduceNeg]
      by_cases h_22 : x_17.Cluster < i_13
      · rw [if_pos h_22] at h
        have e_23 : (x_17.Cluster < i_13) = True := eq_true h_22
        simp only [e_16, e_19, e_20, e_21, e_23, go_sem, reduceIte, reduceCtorEq, Nat.reduceEqDiff, Nat.reduceLT, Nat.reduceLeDiff, Nat.reduceAdd, Nat.reduceSub, Nat.reduceMul, Int.reduceToNat, Int.reduceLE, Int.reduceLT, Int.reduceAdd, Int.reduceSub, Int.reduceMul, Int.reduceEq, Int.reduceNeg]
        rw [← hQ]
        exact ⟨_, _, (Ref.std [0, 1, 2, 7, 8, 9] [0] (by decide) low0 rfl (by first | rfl | simp only [go_sem, reduceIte, Nat.reduceEqDiff, Nat.reduceAdd])), (Nat.zero_le _), ih _ _ _ h hp⟩
      · rw [if_neg h_22] at h
        have e_23 : (x_17.Cluster < i_13) = False := eq_false h_22
        simp only [e_16, e_19, e_20, e_21, e_23, go_sem, reduceIte, reduceCtorEq, Nat.reduceEqDiff, Nat.reduceLT, Nat.reduceLeDiff, Nat.reduceAdd, Nat.reduceSub, Nat.reduceMul, Int.reduceToNat, Int.reduceLE, Int.reduceLT, Int.reduceAdd, Int.reduceSub, Int.reduceMul, Int.reduceEq, Int.reduceNeg]
        rw [← hQ]
        exact ⟨_, _, (Ref.std [0, 1, 2, 7, 8, 9] [0] (by decide) low0 rfl (by first | rfl | simp only [go_sem, reduceIte, Nat.reduceEqDiff, Nat.reduceAdd])), (Nat.zero_le _), ih _ _ _ h hp⟩
    · rw [if_neg h_15] at h
      have e_16 : (i_14 < a_2) = False := eq_false h_15
      simp only [e_16, go_sem, reduceIte, reduceCtorEq, Nat.reduceEqDiff, Nat.reduceLT, Nat.reduceLeDiff, Nat.reduceAdd, Nat.reduceSub, Nat.reduceMul, Int.reduceToNat, Int.reduceLE, Int.reduceLT, Int.reduceAdd, Int.reduceSub, Int.reduceMul, Int.reduceEq, Int.reduceNeg]
      have g := Option.some.inj h
      subst g
      rw [← hQ]
      exact ⟨_, _, (Ref.std [0, 1, 2, 7, 8] [0] (by decide) low0 rfl (by first | rfl | simp only [go_sem, reduceIte, Nat.reduceEqDiff, Nat.reduceAdd])), hp⟩
theorem ref17_Merge_L2_w (N : Nat) (l_0 : List TGlyph) (a_1 : Int) (a_2 : Int) (y_1014 : Int) (c_0 : Bool) {R : AExit → ATm → List AObj → Prop} : ∀ (n : Nat) (i_1020 : Int) (s_1021 : List Bool) (o : (List Bool)), ref17_Merge_L2 N l_0 a_1 a_2 y_1014 n i_1020 s_1021 = some o → (match o with | z_1 => R (.exit 2) ⟨138, [(0, .vec c_0 (List.map eTGlyph l_0)), (1, .int .i64 a_1), (2, .int .i64 a_2), (7, .row 0 0 l_0.length), (8, .int .i64 y_1014), (10, .row 1 0 z_1.length)], []⟩ [.mem 14 (List.map eTGlyph l_0) 32, .mem 1 (List.map eB z_1) 4]) →
    ALp Go.Proofs.Try.prog 0 B17_2 ⟨138, [(0, .vec c_0 (List.map eTGlyph l_0)), (1, .int .i64 a_1), (2, .int .i64 a_2), (7, .row 0 0 l_0.length), (8, .int .i64 y_1014), (10, .row 1 0 s_1021.length), (11, .int .i64 i_1020)], []⟩ [.mem 14 (List.map eTGlyph l_0) 32, .mem 1 (List.map eB s_1021) 4] R := by
  intro n
  induction n with
  | zero =>
    intro i_1020 s_1021 o h _
    have h0 : none = some o := h
    cases h0
  | succ n ih =>
    intro i_1020 s_1021 o h hp
    rw [ref17_Merge_L2] at h
    refine ALp.round ?_
    generalize hQ : RoundQ _ _ _ _ = QQ
    simp only [B17_2, A17, go_sem, reduceIte, reduceCtorEq, Nat.reduceEqDiff, Nat.reduceLT, Nat.reduceLeDiff, Nat.reduceAdd, Nat.reduceSub, Nat.reduceMul, Int.reduceToNat, Int.reduceLE, Int.reduceLT, Int.reduceAdd, Int.reduceSub, Int.reduceMul, Int.reduceEq, Int.reduceNeg]
    by_cases h_1022 : i_1020 < a_2
    · rw [if_pos h_1022] at h
      have e_1023 : (i_1020 < a_2) = True := eq_true h_1022
      obtain ⟨x_1024, h_1025, h⟩ := bindS h
      have e_1026 : (List.map eB s_1021)[(i_1020).toNat]? = some [.bool x_1024] := atI_map eB h_1025
      have e_1027 : ((0 : Int) ≤ i_1020) = True := eq_true (atI_some h_1025).1
      have e_1028 : ((i_1020 : Int) < (s_1021.length : Int)) = True := eq_true (atI_lt h_1025)
      have e_1029 : (List.map eB s_1021).set (i_1020).toNat [.bool true] = List.map eB (List.set s_1021 (i_1020).toNat true) := set_map s_1021 eB (i_1020).toNat true
      simp only [e_1023, e_1026, e_1027, e_1028, e_1029, go_sem, reduceIte, reduceCtorEq, Nat.reduceEqDiff, Nat.reduceLT, Nat.reduceLeDiff, Nat.reduceAdd, Nat.reduceSub, Nat.reduceMul, Int.reduceToNat, Int.reduceLE, Int.reduceLT, Int.reduceAdd, Int.reduceSub, Int.reduceMul, Int.reduceEq, Int.reduceNeg]
      rw [← hQ]
      exact ⟨_, _, (Ref.std [0, 1, 2, 7, 8, 10, 11] [0, 1] (by decide) low0 (by first | rfl | simp only [go_sem, reduceIte, Nat.reduceEqDiff, Nat.reduceAdd]) (by first | rfl | simp only [go_sem, reduceIte, Nat.reduceEqDiff, Nat.reduceAdd])), (Nat.zero_le _), ih _ _ _ h hp⟩
    · rw [if_neg h_1022] at h
      have e_1023 : (i_1020 < a_2) = False := eq_false h_1022
      simp only [e_1023, go_sem, reduceIte, reduceCtorEq, Nat.reduceEqDiff, Nat.reduceLT, Nat.reduceLeDiff, Nat.reduceAdd, Nat.reduceSub, Nat.reduceMul, Int.reduceToNat, Int.reduceLE, Int.reduceLT, Int.reduceAdd, Int.reduceSub, Int.reduceMul, Int.reduceEq, Int.reduceNeg]
      have g := Option.some.inj h
      subst g
      rw [← hQ]
      exact ⟨_, _, (Ref.std [0, 1, 2, 7, 8, 10] [0, 1] (by decide) low0 rfl (by first | rfl | simp only [go_sem, reduceIte, Nat.reduceEqDiff, Nat.reduceAdd])), hp⟩
theorem ref17_Merge_L3_w (N : Nat) (l_0 : List TGlyph) (a_1 : Int) (a_2 : Int) (y_1014 : Int) (c_0 : Bool) {R : AExit → ATm → List AObj → Prop} : ∀ (n : Nat) (i_2022 : Int) (s_2023 : List Bool) (o : (List Bool)), ref17_Merge_L3 N l_0 a_1 a_2 y_1014 n i_2022 s_2023 = some o → (match o with | z_1 => R (.exit 4) ⟨138, [(0, .vec c_0 (List.map eTGlyph l_0)), (2, .int .i64 a_2), (7, .row 0 0 l_0.length), (8, .int .i64 y_1014), (10, .row 1 0 z_1.length)], []⟩ [.mem 14 (List.map eTGlyph l_0) 32, .mem 1 (List.map eB z_1) 4]) →
    ALp Go.Proofs.Try.prog 0 B17_3 ⟨138, [(0, .vec c_0 (List.map eTGlyph l_0)), (1, .int .i64 a_1), (2, .int .i64 a_2), (7, .row 0 0 l_0.length), (8, .int .i64 y_1014), (10, .row 1 0 s_2023.length), (12, .int .i64 i_2022)], []⟩ [.mem 14 (List.map eTGlyph l_0) 32, .mem 1 (List.map eB s_2023) 4] R := by
  intro n
  induction n with
  | zero =>
    intro i_2022 s_2023 o h _
    have h0 : none = some o := h
    cases h0
  | succ n ih =>
    intro i_2022 s_2023 o h hp
    rw [ref17_Merge_L3] at h
    refine ALp.round ?_
    generalize hQ : RoundQ _ _ _ _ = QQ
    simp only [B17_3, A17, go_sem, reduceIte, reduceCtorEq, Nat.reduceEqDiff, Nat.reduceLT, Nat.reduceLeDiff, Nat.reduceAdd, Nat.reduceSub, Nat.reduceMul, Int.reduceToNat, Int.reduceLE, Int.reduceLT, Int.reduceAdd, Int.reduceSub, Int.reduceMul, Int.reduceEq, Int.reduceNeg]
    by_cases h_2024 : 0 ≤ i_2022
    · rw [if_pos h_2024] at h
      have e_2025 : (0 ≤ i_2022) = True := eq_true h_2024
      obtain ⟨x_2026, h_2027, h⟩ := bindS h
      have e_2028 : (List.map eB s_2023)[(IntKind.i64.wrap (i_2022 + 1)).toNat]? = some [.bool x_2026] := atI_map eB h_2027
      have e_2029 : ((0 : Int) ≤ IntKind.i64.wrap (i_2022 + 1)) = True := eq_true (atI_some h_2027).1
      have e_2030 : ((IntKind.i64.wrap (i_2022 + 1) : Int) < (s_2023.length : Int)) = True := eq_true (atI_lt h_2027)
      simp only [e_2025, e_2028, e_2029, e_2030, go_sem, reduceIte, reduceCtorEq, Nat.reduceEqDiff, Nat.reduceLT, Nat.reduceLeDiff, Nat.reduceAdd, Nat.reduceSub, Nat.reduceMul, Int.reduceToNat, Int.reduceLE, Int.reduceLT, Int.reduceAdd, Int.reduceSub, Int.reduceMul, Int.reduceEq, Int.reduceNeg]
      by_cases h_2031 : x_2026 = true
      · rw [if_pos h_2031] at h
        have e_2032 : x_2026 = true := h_2031
        obtain ⟨x_2033, h_2034, h⟩ := bindS h
        have e_2035 : (List.map eTGlyph l_0)[(i_2022).toNat]? = some [.int .i64 x_2033.Id, .int .i64 x_2033.Cluster, .int .i64 x_2033.Mask, .int .i64 x_2033.Syl, .int .i32 x_2033.Code, .int .i64 x_2033.Cat, .int .i64 x_2033.Pos, .int .i64 x_2033.Key, .int .i64 x_2033.Lig, .int .i64 x_2033.Part, .int .i64 x_2033.X, .int .i64 x_2033.Y, .int .i64 x_2033.Wide, .int .i64 x_2033.High] := atI_map eTGlyph h_2034
        have e_2036 : ((0 : Int) ≤ i_2022) = True := eq_true (atI_some h_2034).1
        have e_2037 : ((i_2022 : Int) < (l_0.length : Int)) = True := eq_true (atI_lt h_2034)
        obtain ⟨x_2038, h_2039, h⟩ := bindS h
        have e_2040 : (List.map eTGlyph l_0)[(a_1).toNat]? = some [.int .i64 x_2038.Id, .int .i64 x_2038.Cluster, .int .i64 x_2038.Mask, .int .i64 x_2038.Syl, .int .i32 x_2038.Code, .int .i64 x_2038.Cat, .int .i64 x_2038.Pos, .int .i64 x_2038.Key, .int .i64 x_2038.Lig, .int .i64 x_2038.Part, .int .i64 x_2038.X, .int .i64 x_2038.Y, .int .i64 x_2038.Wide, .int .i64 x_2038.High] := atI_map eTGlyph h_2039
        have e_2041 : ((0 : Int) ≤ a_1) = True := eq_true (atI_some h_2039).1
        have e_2042 : ((a_1 : Int) < (l_0.length : Int)) = True := eq_true (atI_lt h_2039)
        obtain ⟨x_2043, h_2044, h⟩ := bindS h
        have e_2045 : (List.map eB s_2023)[(i_2022).toNat]? = some [.bool x_2043] := atI_map eB h_2044
        have e_2046 : ((0 : Int) ≤ i_2022) = True := eq_true (atI_some h_2044).1
        have e_2047 : ((i_2022 : Int) < (s_2023.length : Int)) = True := eq_true (atI_lt h_2044)
        have e_2048 : (List.map eB s_2023).set (i_2022).toNat [.bool (decide (x_2033.Cluster = x_2038.Cluster))] = List.map eB (List.set s_2023 (i_2022).toNat (decide (x_2033.Cluster = x_2038.Cluster))) := set_map s_2023 eB (i_2022).toNat (decide (x_2033.Cluster = x_2038.Cluster))
        simp only [e_2025, e_2028, e_2029, e_2030, e_2032, e_2035, e_2036, e_2037, e_2040, e_2041, e_2042, e_2045, e_2046, e_2047, e_2048, go_sem, reduceIte, reduceCtorEq, Nat.reduceEqDiff, Nat.reduceLT, Nat.reduceLeDiff, Nat.reduceAdd, Nat.reduceSub, Nat.reduceMul, Int.reduceToNat, Int.reduceLE, Int.reduceLT, Int.reduceAdd, Int.reduceSub, Int.reduceMul, Int.reduceEq, Int.reduceNeg]
        rw [← hQ]
        exact ⟨_, _, (Ref.std [0, 1, 2, 7, 8, 10, 12] [0, 1] (by decide) low0 (by first | rfl | simp only [go_sem, reduceIte, Nat.reduceEqDiff, Nat.reduceAdd]) (by first | rfl | simp only [go_sem, reduceIte, Nat.reduceEqDiff, Nat.reduceAdd])), (Nat.zero_le _), ih _ _ _ h hp⟩
      · rw [if_neg h_2031] at h
        have e_2032 : x_2026 = false := bfalse h_2031
        simp only [e_2025, e_2028, e_2029, e_2030, e_2032, go_sem, reduceIte, reduceCtorEq, Nat.reduceEqDiff, Nat.reduceLT, Nat.reduceLeDiff, Nat.reduceAdd, Nat.reduceSub, Nat.reduceMul, Int.reduceToNat, Int.reduceLE, Int.reduceLT, Int.reduceAdd, Int.reduceSub, Int.reduceMul, Int.reduceEq, Int.reduceNeg]
        have g := Option.some.inj h
        subst g
        rw [← hQ]
        exact ⟨_, _, (Ref.std [0, 2, 7, 8, 10] [0, 1] (by decide) low0 rfl (by first | rfl | simp only [go_sem, reduceIte, Nat.reduceEqDiff, Nat.reduceAdd])), hp⟩
    · rw [if_neg h_2024] at h
      have e_2025 : (0 ≤ i_2022) = False := eq_false h_2024
      simp only [e_2025, go_sem, reduceIte, reduceCtorEq, Nat.reduceEqDiff, Nat.reduceLT, Nat.reduceLeDiff, Nat.reduceAdd, Nat.reduceSub, Nat.reduceMul, Int.reduceToNat, Int.reduceLE, Int.reduceLT, Int.reduceAdd, Int.reduceSub, Int.reduceMul, Int.reduceEq, Int.reduceNeg]
      have g := Option.some.inj h
      subst g
      rw [← hQ]
      exact ⟨_, _, (Ref.std [0, 2, 7, 8, 10] [0, 1] (by decide) low0 rfl (by first | rfl | simp only [go_sem, reduceIte, Nat.reduceEqDiff, Nat.reduceAdd])), hp⟩
theorem ref17_Merge_L4_w (N : Nat) (l_0 : List TGlyph) (a_2 : Int) (y_1014 : Int) (c_0 : Bool) {R : AExit → ATm → List AObj → Prop} : ∀ (n : Nat) (i_3024 : Int) (s_3025 : List Bool) (o : (List Bool)), ref17_Merge_L4 N l_0 a_2 y_1014 n i_3024 s_3025 = some o → (match o with | z_1 => R (.exit 6) ⟨138, [(0, .vec c_0 (List.map eTGlyph l_0)), (7, .row 0 0 l_0.length), (8, .int .i64 y_1014), (10, .row 1 0 z_1.length)], []⟩ [.mem 14 (List.map eTGlyph l_0) 32, .mem 1 (List.map eB z_1) 4]) →
    ALp Go.Proofs.Try.prog 0 B17_4 ⟨138, [(0, .vec c_0 (List.map eTGlyph l_0)), (2, .int .i64 a_2), (7, .row 0 0 l_0.length), (8, .int .i64 y_1014), (10, .row 1 0 s_3025.length), (13, .int .i64 i_3024)], []⟩ [.mem 14 (List.map eTGlyph l_0) 32, .mem 1 (List.map eB s_3025) 4] R := by
  intro n
  induction n with
  | zero =>
    intro i_3024 s_3025 o h _
    have h0 : none = some o := h
    cases h0
  | succ n ih =>
    intro i_3024 s_3025 o h hp
    rw [ref17_Merge_L4] at h
    refine ALp.round ?_
    generalize hQ : RoundQ _ _ _ _ = QQ
    simp only [B17_4, A17, go_sem, reduceIte, reduceCtorEq, Nat.reduceEqDiff, Nat.reduceLT, Nat.reduceLeDiff, Nat.reduceAdd, Nat.reduceSub, Nat.reduceMul, Int.reduceToNat, Int.reduceLE, Int.reduceLT, Int.reduceAdd, Int.reduceSub, Int.reduceMul, Int.reduceEq, Int.reduceNeg]
    by_cases h_3026 : i_3024 < (l_0.length : Int)
    · rw [if_pos h_3026] at h
      have e_3027 : (i_3024 < (l_0.length : Int)) = True := eq_true h_3026
      obtain ⟨x_3028, h_3029, h⟩ := bindS h
      have e_3030 : (List.map eB s_3025)[(IntKind.i64.wrap (i_3024 - 1)).toNat]? = some [.bool x_3028] := atI_map eB h_3029
      have e_3031 : ((0 : Int) ≤ IntKind.i64.wrap (i_3024 - 1)) = True := eq_true (atI_some h_3029).1
      have e_3032 : ((IntKind.i64.wrap (i_3024 - 1) : Int) < (s_3025.length : Int)) = True := eq_true (atI_lt h_3029)
      simp only [e_3027, e_3030, e_3031, e_3032, go_sem, reduceIte, reduceCtorEq, Nat.reduceEqDiff, Nat.reduceLT, Nat.reduceLeDiff, Nat.reduceAdd, Nat.reduceSub, Nat.reduceMul, Int.reduceToNat, Int.reduceLE, Int.reduceLT, Int.reduceAdd, Int.reduceSub, Int.reduceMul, Int.reduceEq, Int.reduceNeg]
      by_cases h_3033 : x_3028 = true
      · rw [if_pos h_3033] at h
        have e_3034 : x_3028 = true := h_3033
        obtain ⟨x_3035, h_3036, h⟩ := bindS h
        have e_3037 : (List.map eTGlyph l_0)[(i_3024).toNat]? = some [.int .i64 x_3035.Id, .int .i64 x_3035.Cluster, .int .i64 x_3035.Mask, .int .i64 x_3035.Syl, .int .i32 x_3035.Code, .int .i64 x_3035.Cat, .int .i64 x_3035.Pos, .int .i64 x_3035.Key, .int .i64 x_3035.Lig, .int .i64 x_3035.Part, .int .i64 x_3035.X, .int .i64 x_3035.Y, .int .i64 x_3035.Wide, .int .i64 x_3035.High] := atI_map eTGlyph h_3036
        have e_3038 : ((0 : Int) ≤ i_3024) = True := eq_true (atI_some h_3036).1
        have e_3039 : ((i_3024 : Int) < (l_0.length : Int)) = True := eq_true (atI_lt h_3036)
        obtain ⟨x_3040, h_3041, h⟩ := bindS h
        have e_3042 : (List.map eTGlyph l_0)[(IntKind.i64.wrap (a_2 - 1)).toNat]? = some [.int .i64 x_3040.Id, .int .i64 x_3040.Cluster, .int .i64 x_3040.Mask, .int .i64 x_3040.Syl, .int .i32 x_3040.Code, .int .i64 x_3040.Cat, .int .i64 x_3040.Pos, .int .i64 x_3040.Key, .int .i64 x_3040.Lig, .int .i64 x_3040.Part, .int .i64 x_3040.X, .int .i64 x_3040.Y, .int .i64 x_3040.Wide, .int .i64 x_3040.High] := atI_map eTGlyph h_3041
        have e_3043 : ((0 : Int) ≤ IntKind.i64.wrap (a_2 - 1)) = True := eq_true (atI_some h_3041).1
        have e_3044 : ((IntKind.i64.wrap (a_2 - 1) : Int) < (l_0.length : Int)) = True := eq_true (atI_lt h_3041)
        obtain ⟨x_3045, h_3046, h⟩ := bindS h
        have e_3047 : (List.map eB s_3025)[(i_3024).toNat]? = some [.bool x_3045] := atI_map eB h_3046
        have e_3048 : ((0 : Int) ≤ i_3024) = True := eq_true (atI_some h_3046).1
        have e_3049 : ((i_3024 : Int) < (s_3025.length : Int)) = True := eq_true (atI_lt h_3046)
        have e_3050 : (List.map eB s_3025).set (i_3024).toNat [.bool (decide (x_3035.Cluster = x_3040.Cluster))] = List.map eB (List.set s_3025 (i_3024).toNat (decide (x_3035.Cluster = x_3040.Cluster))) := set_map s_3025 eB (i_3024).toNat (decide (x_3035.Cluster = x_3040.Cluster))
        simp only [e_3027, e_3030, e_3031, e_3032, e_3034, e_3037, e_3038, e_3039, e_3042, e_3043, e_3044, e_3047, e_3048, e_3049, e_3050, go_sem, reduceIte, reduceCtorEq, Nat.reduceEqDiff, Nat.reduceLT, Nat.reduceLeDiff, Nat.reduceAdd, Nat.reduceSub, Nat.reduceMul, Int.reduceToNat, Int.reduceLE, Int.reduceLT, Int.reduceAdd, Int.reduceSub, Int.reduceMul, Int.reduceEq, Int.reduceNeg]
        rw [← hQ]
        exact ⟨_, _, (Ref.std [0, 2, 7, 8, 10, 13] [0, 1] (by decide) low0 (by first | rfl | simp only [go_sem, reduceIte, Nat.reduceEqDiff, Nat.reduceAdd]) (by first | rfl | simp only [go_sem, reduceIte, Nat.reduceEqDiff, Nat.reduceAdd])), (Nat.zero_le _), ih _ _ _ h hp⟩
      · rw [if_neg h_3033] at h
        have e_3034 : x_3028 = false := bfalse h_3033
        simp only [e_3027, e_3030, e_3031, e_3032, e_3034, go_sem, reduceIte, reduceCtorEq, Nat.reduceEqDiff, Nat.reduceLT, Nat.reduceLeDiff, Nat.reduceAdd, Nat.reduceSub, Nat.reduceMul, Int.reduceToNat, Int.reduceLE, Int.reduceLT, Int.reduceAdd, Int.reduceSub, Int.reduceMul, Int.reduceEq, Int.reduceNeg]
        have g := Option.some.inj h
        subst g
        rw [← hQ]
        exact ⟨_, _, (Ref.std [0, 7, 8, 10] [0, 1] (by decide) low0 rfl (by first | rfl | simp only [go_sem, reduceIte, Nat.reduceEqDiff, Nat.reduceAdd])), hp⟩
    · rw [if_neg h_3026] at h
      have e_3027 : (i_3024 < (l_0.length : Int)) = False := eq_false h_3026
      simp only [e_3027, go_sem, reduceIte, reduceCtorEq, Nat.reduceEqDiff, Nat.reduceLT, Nat.reduceLeDiff, Nat.reduceAdd, Nat.reduceSub, Nat.reduceMul, Int.reduceToNat, Int.reduceLE, Int.reduceLT, Int.reduceAdd, Int.reduceSub, Int.reduceMul, Int.reduceEq, Int.reduceNeg]
      have g := Option.some.inj h
      subst g
      rw [← hQ]
      exact ⟨_, _, (Ref.std [0, 7, 8, 10] [0, 1] (by decide) low0 rfl (by first | rfl | simp only [go_sem, reduceIte, Nat.reduceEqDiff, Nat.reduceAdd])), hp⟩
theorem ref17_Merge_L5_w (N : Nat) (l_0 : List TGlyph) (y_1014 : Int) (y_4025 : List Bool) (c_0 : Bool) {R : AExit → ATm → List AObj → Prop} : ∀ (n : Nat) (i_4026 : Int) (s_4027 : List TGlyph) (o : (List TGlyph)), ref17_Merge_L5 N l_0 y_1014 y_4025 n i_4026 s_4027 = some o → (match o with | z_1 => R (.exit 8) ⟨138, [(7, .row 0 0 z_1.length)], []⟩ [.mem 14 (List.map eTGlyph z_1) 32]) →
    ALp Go.Proofs.Try.prog 0 B17_5 ⟨138, [(0, .vec c_0 (List.map eTGlyph l_0)), (7, .row 0 0 s_4027.length), (8, .int .i64 y_1014), (10, .row 1 0 y_4025.length), (14, .int .i64 i_4026)], []⟩ [.mem 14 (List.map eTGlyph s_4027) 32, .mem 1 (List.map eB y_4025) 4] R := by
  intro n
  induction n with
  | zero =>
    intro i_4026 s_4027 o h _
    have h0 : none = some o := h
    cases h0
  | succ n ih =>
    intro i_4026 s_4027 o h hp
    rw [ref17_Merge_L5] at h
    refine ALp.round ?_
    generalize hQ : RoundQ _ _ _ _ = QQ
    simp only [B17_5, A17, go_sem, reduceIte, reduceCtorEq, Nat.reduceEqDiff, Nat.reduceLT, Nat.reduceLeDiff, Nat.reduceAdd, Nat.reduceSub, Nat.reduceMul, Int.reduceToNat, Int.reduceLE, Int.reduceLT, Int.reduceAdd, Int.reduceSub, Int.reduceMul, Int.reduceEq, Int.reduceNeg]
    by_cases h_4028 : i_4026 < (l_0.length : Int)
    · rw [if_pos h_4028] at h
      have e_4029 : (i_4026 < (l_0.length : Int)) = True := eq_true h_4028
      obtain ⟨x_4030, h_4031, h⟩ := bindS h
      have e_4032 : (List.map eB y_4025)[(i_4026).toNat]? = some [.bool x_4030] := atI_map eB h_4031
      have e_4033 : ((0 : Int) ≤ i_4026) = True := eq_true (atI_some h_4031).1
      have e_4034 : ((i_4026 : Int) < (y_4025.length : Int)) = True := eq_true (atI_lt h_4031)
      simp only [e_4029, e_4032, e_4033, e_4034, go_sem, reduceIte, reduceCtorEq, Nat.reduceEqDiff, Nat.reduceLT, Nat.reduceLeDiff, Nat.reduceAdd, Nat.reduceSub, Nat.reduceMul, Int.reduceToNat, Int.reduceLE, Int.reduceLT, Int.reduceAdd, Int.reduceSub, Int.reduceMul, Int.reduceEq, Int.reduceNeg]
      by_cases h_4035 : x_4030 = true
      · rw [if_pos h_4035] at h
        have e_4036 : x_4030 = true := h_4035
        obtain ⟨x_4037, h_4038, h⟩ := bindS h
        have e_4039 : (List.map eTGlyph s_4027)[(i_4026).toNat]? = some [.int .i64 x_4037.Id, .int .i64 x_4037.Cluster, .int .i64 x_4037.Mask, .int .i64 x_4037.Syl, .int .i32 x_4037.Code, .int .i64 x_4037.Cat, .int .i64 x_4037.Pos, .int .i64 x_4037.Key, .int .i64 x_4037.Lig, .int .i64 x_4037.Part, .int .i64 x_4037.X, .int .i64 x_4037.Y, .int .i64 x_4037.Wide, .int .i64 x_4037.High] := atI_map eTGlyph h_4038
        have e_4040 : ((0 : Int) ≤ i_4026) = True := eq_true (atI_some h_4038).1
        have e_4041 : ((i_4026 : Int) < (s_4027.length : Int)) = True := eq_true (atI_lt h_4038)
        have e_4042 : (List.map eTGlyph s_4027).set (i_4026).toNat [.int .i64 x_4037.Id, .int .i64 y_1014, .int .i64 x_4037.Mask, .int .i64 x_4037.Syl, .int .i32 x_4037.Code, .int .i64 x_4037.Cat, .int .i64 x_4037.Pos, .int .i64 x_4037.Key, .int .i64 x_4037.Lig, .int .i64 x_4037.Part, .int .i64 x_4037.X, .int .i64 x_4037.Y, .int .i64 x_4037.Wide, .int .i64 x_4037.High] = List.map eTGlyph (List.set s_4027 (i_4026).toNat (TGlyph.mk x_4037.Id y_1014 x_4037.Mask x_4037.Syl x_4037.Code x_4037.Cat x_4037.Pos x_4037.Key x_4037.Lig x_4037.Part x_4037.X x_4037.Y x_4037.Wide x_4037.High)) := set_map s_4027 eTGlyph (i_4026).toNat (TGlyph.mk x_4037.Id y_1014 x_4037.Mask x_4037.Syl x_4037.Code x_4037.Cat x_4037.Pos x_4037.Key x_4037.Lig x_4037.Part x_4037.X x_4037.Y x_4037.Wide x_4037.High)
        simp only [e_4029, e_4032, e_4033, e_4034, e_4036, e_4039, e_4040, e_4041, e_4042, go_sem, reduceIte, reduceCtorEq, Nat.reduceEqDiff, Nat.reduceLT, Nat.reduceLeDiff, Nat.reduceAdd, Nat.reduceSub, Nat.reduceMul, Int.reduceToNat, Int.reduceLE, Int.reduceLT, Int.reduceAdd, Int.reduceSub, Int.reduceMul, Int.reduceEq, Int.reduceNeg]
        rw [← hQ]
        exact ⟨_, _, (Ref.std [0, 7, 8, 10, 14] [0, 1] (by decide) low0 (by first | rfl | simp only [go_sem, reduceIte, Nat.reduceEqDiff, Nat.reduceAdd]) (by first | rfl | simp only [go_sem, reduceIte, Nat.reduceEqDiff, Nat.reduceAdd])), (Nat.zero_le _), ih _ _ _ h hp⟩
      · rw [if_neg h_4035] at h
        have e_4036 : x_4030 = false := bfalse h_4035
        simp only [e_4029, e_4032, e_4033, e_4034, e_4036, go_sem, reduceIte, reduceCtorEq, Nat.reduceEqDiff, Nat.reduceLT, Nat.reduceLeDiff, Nat.reduceAdd, Nat.reduceSub, Nat.reduceMul, Int.reduceToNat, Int.reduceLE, Int.reduceLT, Int.reduceAdd, Int.reduceSub, Int.reduceMul, Int.reduceEq, Int.reduceNeg]
        rw [← hQ]
        exact ⟨_, _, (Ref.std [0, 7, 8, 10, 14] [0, 1] (by decide) low0 rfl (by first | rfl | simp only [go_sem, reduceIte, Nat.reduceEqDiff, Nat.reduceAdd])), (Nat.zero_le _), ih _ _ _ h hp⟩
    · rw [if_neg h_4028] at h
      have e_4029 : (i_4026 < (l_0.length : Int)) = False := eq_false h_4028
      simp only [e_4029, go_sem, reduceIte, reduceCtorEq, Nat.reduceEqDiff, Nat.reduceLT, Nat.reduceLeDiff, Nat.reduceAdd, Nat.reduceSub, Nat.reduceMul, Int.reduceToNat, Int.reduceLE, Int.reduceLT, Int.reduceAdd, Int.reduceSub, Int.reduceMul, Int.reduceEq, Int.reduceNeg]
      have g := Option.some.inj h
      subst g
      rw [← hQ]
      exact ⟨_, _, (Ref.std [7] [0] (by decide) low0 rfl (by first | rfl | simp only [go_sem, reduceIte, Nat.reduceEqDiff, Nat.reduceAdd])), hp⟩
theorem ref17_Merge_w (N : Nat) (l_0 : List TGlyph) (a_1 : Int) (a_2 : Int) (c_0 : Bool) (z_1 : List TGlyph) (h : ref17_Merge N l_0 a_1 a_2 = some z_1) :
    ACalls Go.Proofs.Try.prog 17 [.vec c_0 (List.map eTGlyph l_0), .int .i64 a_1, .int .i64 a_2] [] (fun e H => H = [] ∧ e = .ret (.vec false (List.map eTGlyph z_1))) := by
  unfold ref17_Merge at h
  refine ACalls.goN Go.Proofs.Try.func17 n17 a17 Go.Proofs.Try.ntmps17 r17 (by simp) 0 rfl ?_
  generalize hQ : bodyA _ _ _ = QQ
  obtain ⟨_, h_1, h⟩ := bindS h
  simp only [A17, go_sem, reduceIte, reduceCtorEq, Nat.reduceEqDiff, Nat.reduceLT, Nat.reduceLeDiff, Nat.reduceAdd, Nat.reduceSub, Nat.reduceMul, Int.reduceToNat, Int.reduceLE, Int.reduceLT, Int.reduceAdd, Int.reduceSub, Int.reduceMul, Int.reduceEq, Int.reduceNeg]
  refine ACalls.use (ref17_Copy_w N _ _ h_1) [] (by decide) trivial rfl (v' := .row 0 0 l_0.length) (by first | rfl | simp only [go_sem, reduceIte, Nat.reduceEqDiff, Nat.reduceAdd]) (H' := [.mem 14 (List.map eTGlyph l_0) 32]) (by first | rfl | simp only [go_sem, reduceIte, Nat.reduceEqDiff, Nat.reduceAdd]) ?_
  refine CallK_go (Nat.zero_le _) ?_
  simp only [go_sem, reduceIte, reduceCtorEq, Nat.reduceEqDiff, Nat.reduceLT, Nat.reduceLeDiff, Nat.reduceAdd, Nat.reduceSub, Nat.reduceMul, Int.reduceToNat, Int.reduceLE, Int.reduceLT, Int.reduceAdd, Int.reduceSub, Int.reduceMul, Int.reduceEq, Int.reduceNeg]
  by_cases h_2 : a_1 < 0
  · rw [if_pos h_2] at h
    have e_3 : (a_1 < 0) = True := eq_true h_2
    simp only [e_3, go_sem, reduceIte, reduceCtorEq, Nat.reduceEqDiff, Nat.reduceLT, Nat.reduceLeDiff, Nat.reduceAdd, Nat.reduceSub, Nat.reduceMul, Int.reduceToNat, Int.reduceLE, Int.reduceLT, Int.reduceAdd, Int.reduceSub, Int.reduceMul, Int.reduceEq, Int.reduceNeg]
    have g_0 := Option.some.inj h
    subst g_0
    rw [← hQ]
    exact ⟨rfl, _, rfl, _, _, (RefV.trans (RefV.frz (Nat.zero_le _) (id := 0) rfl (pures_map l_0 eTGlyph (fun _ => rfl))) (RefV.out (by first | rfl | simp only [go_sem, reduceIte, Nat.reduceEqDiff, Nat.reduceAdd, e_3]))), rfl, rfl⟩
  · rw [if_neg h_2] at h
    have e_3 : (a_1 < 0) = False := eq_false h_2
    simp only [e_3, go_sem, reduceIte, reduceCtorEq, Nat.reduceEqDiff, Nat.reduceLT, Nat.reduceLeDiff, Nat.reduceAdd, Nat.reduceSub, Nat.reduceMul, Int.reduceToNat, Int.reduceLE, Int.reduceLT, Int.reduceAdd, Int.reduceSub, Int.reduceMul, Int.reduceEq, Int.reduceNeg]
    by_cases h_4 : (l_0.length : Int) < a_2
    · rw [if_pos h_4] at h
      have e_5 : ((l_0.length : Int) < a_2) = True := eq_true h_4
      simp only [e_3, e_5, go_sem, reduceIte, reduceCtorEq, Nat.reduceEqDiff, Nat.reduceLT, Nat.reduceLeDiff, Nat.reduceAdd, Nat.reduceSub, Nat.reduceMul, Int.reduceToNat, Int.reduceLE, Int.reduceLT, Int.reduceAdd, Int.reduceSub, Int.reduceMul, Int.reduceEq, Int.reduceNeg]
      have g_0 := Option.some.inj h
      subst g_0
      rw [← hQ]
      exact ⟨rfl, _, rfl, _, _, (RefV.trans (RefV.frz (Nat.zero_le _) (id := 0) rfl (pures_map l_0 eTGlyph (fun _ => rfl))) (RefV.out (by first | rfl | simp only [go_sem, reduceIte, Nat.reduceEqDiff, Nat.reduceAdd, e_3, e_5]))), rfl, rfl⟩
    · rw [if_neg h_4] at h
      have e_5 : ((l_0.length : Int) < a_2) = False := eq_false h_4
      simp only [e_3, e_5, go_sem, reduceIte, reduceCtorEq, Nat.reduceEqDiff, Nat.reduceLT, Nat.reduceLeDiff, Nat.reduceAdd, Nat.reduceSub, Nat.reduceMul, Int.reduceToNat, Int.reduceLE, Int.reduceLT, Int.reduceAdd, Int.reduceSub, Int.reduceMul, Int.reduceEq, Int.reduceNeg]
      by_cases h_6 : a_2 ≤ a_1
      · rw [if_pos h_6] at h
        have e_7 : (a_2 ≤ a_1) = True := eq_true h_6
        simp only [e_3, e_5, e_7, go_sem, reduceIte, reduceCtorEq, Nat.reduceEqDiff, Nat.reduceLT, Nat.reduceLeDiff, Nat.reduceAdd, Nat.reduceSub, Nat.reduceMul, Int.reduceToNat, Int.reduceLE, Int.reduceLT, Int.reduceAdd, Int.reduceSub, Int.reduceMul, Int.reduceEq, Int.reduceNeg]
        have g_0 := Option.some.inj h
        subst g_0
        rw [← hQ]
        exact ⟨rfl, _, rfl, _, _, (RefV.trans (RefV.frz (Nat.zero_le _) (id := 0) rfl (pures_map l_0 eTGlyph (fun _ => rfl))) (RefV.out (by first | rfl | simp only [go_sem, reduceIte, Nat.reduceEqDiff, Nat.reduceAdd, e_3, e_5, e_7]))), rfl, rfl⟩
      · rw [if_neg h_6] at h
        have e_7 : (a_2 ≤ a_1) = False := eq_false h_6
        obtain ⟨x_8, h_9, h⟩ := bindS h
        have e_10 : (List.map eTGlyph l_0)[(a_1).toNat]? = some [.int .i64 x_8.Id, .int .i64 x_8.Cluster, .int .i64 x_8.Mask, .int .i64 x_8.Syl, .int .i32 x_8.Code, .int .i64 x_8.Cat, .int .i64 x_8.Pos, .int .i64 x_8.Key, .int .i64 x_8.Lig, .int .i64 x_8.Part, .int .i64 x_8.X, .int .i64 x_8.Y, .int .i64 x_8.Wide, .int .i64 x_8.High] := atI_map eTGlyph h_9
        have e_11 : ((0 : Int) ≤ a_1) = True := eq_true (atI_some h_9).1
        have e_12 : ((a_1 : Int) < (l_0.length : Int)) = True := eq_true (atI_lt h_9)
        simp only [e_3, e_5, e_7, e_10, e_11, e_12, go_sem, reduceIte, reduceCtorEq, Nat.reduceEqDiff, Nat.reduceLT, Nat.reduceLeDiff, Nat.reduceAdd, Nat.reduceSub, Nat.reduceMul, Int.reduceToNat, Int.reduceLE, Int.reduceLT, Int.reduceAdd, Int.reduceSub, Int.reduceMul, Int.reduceEq, Int.reduceNeg]
        obtain ⟨y_1014, h_1013, h⟩ := bindS h
        refine ALp.ref (Ref.std [0, 1, 2, 7, 8, 9] [0] (by decide) low0 rfl (by first | rfl | simp only [go_sem, reduceIte, Nat.reduceEqDiff, Nat.reduceAdd])) (Nat.zero_le _) (ref17_Merge_L1_w N _ _ _ c_0 N _ _ y_1014 h_1013 ?_)
        refine LoopK_go rfl (Nat.zero_le _) ?_
        obtain ⟨h_1015, h⟩ := guardS h
        have e_1016 : (0 ≤ (l_0.length : Int)) = True := eq_true h_1015
        obtain ⟨h_1017, h⟩ := guardS h
        have e_1018 : ((l_0.length : Int) * 1 ≤ 140737488355328) = True := eq_true h_1017
        have e_1019 : List.replicate l_0.length [.bool false] = List.map eB (List.replicate l_0.length false) := rep_map _ eB false
        simp only [e_3, e_5, e_7, e_10, e_11, e_12, e_1016, e_1018, e_1019, go_sem, reduceIte, reduceCtorEq, Nat.reduceEqDiff, Nat.reduceLT, Nat.reduceLeDiff, Nat.reduceAdd, Nat.reduceSub, Nat.reduceMul, Int.reduceToNat, Int.reduceLE, Int.reduceLT, Int.reduceAdd, Int.reduceSub, Int.reduceMul, Int.reduceEq, Int.reduceNeg]
        obtain ⟨y_2021, h_2020, h⟩ := bindS h
        refine ALp.ref (Ref.std [0, 1, 2, 7, 8, 10, 11] [0, 1] (by decide) low0 (by simp only [go_sem, reduceIte, Nat.reduceEqDiff, Nat.reduceAdd]) (by simp only [go_sem, reduceIte, Nat.reduceEqDiff, Nat.reduceAdd])) (Nat.zero_le _) (ref17_Merge_L2_w N _ _ _ _ c_0 N _ _ y_2021 h_2020 ?_)
        refine LoopK_go rfl (Nat.zero_le _) ?_
        simp only [e_3, e_5, e_7, e_10, e_11, e_12, e_1016, e_1018, e_1019, go_sem, reduceIte, reduceCtorEq, Nat.reduceEqDiff, Nat.reduceLT, Nat.reduceLeDiff, Nat.reduceAdd, Nat.reduceSub, Nat.reduceMul, Int.reduceToNat, Int.reduceLE, Int.reduceLT, Int.reduceAdd, Int.reduceSub, Int.reduceMul, Int.reduceEq, Int.reduceNeg]
        obtain ⟨y_3023, h_3022, h⟩ := bindS h
        refine ALp.ref (Ref.std [0, 1, 2, 7, 8, 10, 12] [0, 1] (by decide) low0 rfl (by first | rfl | simp only [go_sem, reduceIte, Nat.reduceEqDiff, Nat.reduceAdd])) (Nat.zero_le _) (ref17_Merge_L3_w N _ _ _ _ c_0 N _ _ y_3023 h_3022 ?_)
        refine LoopK_go rfl (Nat.zero_le _) ?_
        simp only [e_3, e_5, e_7, e_10, e_11, e_12, e_1016, e_1018, e_1019, go_sem, reduceIte, reduceCtorEq, Nat.reduceEqDiff, Nat.reduceLT, Nat.reduceLeDiff, Nat.reduceAdd, Nat.reduceSub, Nat.reduceMul, Int.reduceToNat, Int.reduceLE, Int.reduceLT, Int.reduceAdd, Int.reduceSub, Int.reduceMul, Int.reduceEq, Int.reduceNeg]
        obtain ⟨y_4025, h_4024, h⟩ := bindS h
        refine ALp.ref (Ref.std [0, 2, 7, 8, 10, 13] [0, 1] (by decide) low0 rfl (by first | rfl | simp only [go_sem, reduceIte, Nat.reduceEqDiff, Nat.reduceAdd])) (Nat.zero_le _) (ref17_Merge_L4_w N _ _ _ c_0 N _ _ y_4025 h_4024 ?_)
        refine LoopK_go rfl (Nat.zero_le _) ?_
        simp only [e_3, e_5, e_7, e_10, e_11, e_12, e_1016, e_1018, e_1019, go_sem, reduceIte, reduceCtorEq, Nat.reduceEqDiff, Nat.reduceLT, Nat.reduceLeDiff, Nat.reduceAdd, Nat.reduceSub, Nat.reduceMul, Int.reduceToNat, Int.reduceLE, Int.reduceLT, Int.reduceAdd, Int.reduceSub, Int.reduceMul, Int.reduceEq, Int.reduceNeg]
        obtain ⟨y_5027, h_5026, h⟩ := bindS h
        refine ALp.ref (Ref.std [0, 7, 8, 10, 14] [0, 1] (by decide) low0 rfl (by first | rfl | simp only [go_sem, reduceIte, Nat.reduceEqDiff, Nat.reduceAdd])) (Nat.zero_le _) (ref17_Merge_L5_w N _ _ _ c_0 N _ _ y_5027 h_5026 ?_)
        refine LoopK_go rfl (Nat.zero_le _) ?_
        simp only [e_3, e_5, e_7, e_10, e_11, e_12, e_1016, e_1018, e_1019, go_sem, reduceIte, reduceCtorEq, Nat.reduceEqDiff, Nat.reduceLT, Nat.reduceLeDiff, Nat.reduceAdd, Nat.reduceSub, Nat.reduceMul, Int.reduceToNat, Int.reduceLE, Int.reduceLT, Int.reduceAdd, Int.reduceSub, Int.reduceMul, Int.reduceEq, Int.reduceNeg]
        have g_0 := Option.some.inj h
        subst g_0
        rw [← hQ]
        exact ⟨rfl, _, rfl, _, _, (RefV.trans (RefV.frz (Nat.zero_le _) (id := 0) rfl (pures_map y_5027 eTGlyph (fun _ => rfl))) (RefV.out (by first | rfl | simp only [go_sem, reduceIte, Nat.reduceEqDiff, Nat.reduceAdd, e_3, e_5, e_7]))), rfl, rfl⟩
theorem ref17_Same_L1_w (N : Nat) (l_0 : List TGlyph) (l_1 : List TGlyph) (c_0 : Bool) (c_1 : Bool) {R : AExit → ATm → List AObj → Prop} : ∀ (n : Nat) (i_3 : Int) (o : (Unit) ⊕ (Unit)), ref17_Same_L1 N l_0 l_1 n i_3 = some o → (match o with | .inl _ => R (.exit 0) ⟨26, [], []⟩ [] | .inr (_) => R .ret ⟨26, [(4, .bool false)], []⟩ []) →
    ALp Go.Proofs.Try.prog 0 B15_1 ⟨26, [(0, .vec c_0 (List.map eTGlyph l_0)), (1, .vec c_1 (List.map eTGlyph l_1)), (5, .int .i64 i_3)], []⟩ [] R := by
  intro n
  induction n with
  | zero =>
    intro i_3 o h _
    have h0 : none = some o := h
    cases h0
  | succ n ih =>
    intro i_3 o h hp
    rw [ref17_Same_L1] at h
    refine ALp.round ?_
    generalize hQ : RoundQ _ _ _ _ = QQ
    simp only [B15_1, A15, go_sem, reduceIte, reduceCtorEq, Nat.reduceEqDiff, Nat.reduceLT, Nat.reduceLeDiff, Nat.reduceAdd, Nat.reduceSub, Nat.reduceMul, Int.reduceToNat, Int.reduceLE, Int.reduceLT, Int.reduceAdd, Int.reduceSub, Int.reduceMul, Int.reduceEq, Int.reduceNeg]
    by_cases h_4 : i_3 < (l_0.length : Int)
    · rw [if_pos h_4] at h
      have e_5 : (i_3 < (l_0.length : Int)) = True := eq_true h_4
      obtain ⟨x_6, h_7, h⟩ := bindS h
      have e_8 : (List.map eTGlyph l_0)[(i_3).toNat]? = some [.int .i64 x_6.Id, .int .i64 x_6.Cluster, .int .i64 x_6.Mask, .int .i64 x_6.Syl, .int .i32 x_6.Code, .int .i64 x_6.Cat, .int .i64 x_6.Pos, .int .i64 x_6.Key, .int .i64 x_6.Lig, .int .i64 x_6.Part, .int .i64 x_6.X, .int .i64 x_6.Y, .int .i64 x_6.Wide, .int .i64 x_6.High] := atI_map eTGlyph h_7
      have e_9 : ((0 : Int) ≤ i_3) = True := eq_true (atI_some h_7).1
      have e_10 : ((i_3 : Int) < (l_0.length : Int)) = True := eq_true (atI_lt h_7)
      obtain ⟨x_11, h_12, h⟩ := bindS h
      have e_13 : (List.map eTGlyph l_1)[(i_3).toNat]? = some [.int .i64 x_11.Id, .int .i64 x_11.Cluster, .int .i64 x_11.Mask, .int .i64 x_11.Syl, .int .i32 x_11.Code, .int .i64 x_11.Cat, .int .i64 x_11.Pos, .int .i64 x_11.Key, .int .i64 x_11.Lig, .int .i64 x_11.Part, .int .i64 x_11.X, .int .i64 x_11.Y, .int .i64 x_11.Wide, .int .i64 x_11.High] := atI_map eTGlyph h_12
      have e_14 : ((0 : Int) ≤ i_3) = True := eq_true (atI_some h_12).1
      have e_15 : ((i_3 : Int) < (l_1.length : Int)) = True := eq_true (atI_lt h_12)
      simp only [e_5, e_8, e_9, e_10, e_13, e_14, e_15, go_sem, reduceIte, reduceCtorEq, Nat.reduceEqDiff, Nat.reduceLT, Nat.reduceLeDiff, Nat.reduceAdd, Nat.reduceSub, Nat.reduceMul, Int.reduceToNat, Int.reduceLE, Int.reduceLT, Int.reduceAdd, Int.reduceSub, Int.reduceMul, Int.reduceEq, Int.reduceNeg]
      by_cases h_16 : x_6.Id = x_11.Id
      · rw [if_pos h_16] at h
        have e_17 : (x_6.Id = x_11.Id) = True := eq_true h_16
        simp only [e_5, e_8, e_9, e_10, e_13, e_14, e_15, e_17, go_sem, reduceIte, reduceCtorEq, Nat.reduceEqDiff, Nat.reduceLT, Nat.reduceLeDiff, Nat.reduceAdd, Nat.reduceSub, Nat.reduceMul, Int.reduceToNat, Int.reduceLE, Int.reduceLT, Int.reduceAdd, Int.reduceSub, Int.reduceMul, Int.reduceEq, Int.reduceNeg]
        by_cases h_18 : x_6.Cluster = x_11.Cluster
        · rw [if_pos h_18] at h
          have e_19 : (x_6.Cluster = x_11.Cluster) = True := eq_true h_18
          simp only [e_5, e_8, e_9, e_10, e_13, e_14, e_15, e_17, e_19, go_sem, reduceIte, reduceCtorEq, Nat.reduceEqDiff, Nat.reduceLT, Nat.reduceLeDiff, Nat.reduceAdd, Nat.reduceSub, Nat.reduceMul, Int.reduceToNat, Int.reduceLE, Int.reduceLT, Int.reduceAdd, Int.reduceSub, Int.reduceMul, Int.reduceEq, Int.reduceNeg]
          by_cases h_20 : x_6.Mask = x_11.Mask
          · rw [if_pos h_20] at h
            have e_21 : (x_6.Mask = x_11.Mask) = True := eq_true h_20
            simp only [e_5, e_8, e_9, e_10, e_13, e_14, e_15, e_17, e_19, e_21, go_sem, reduceIte, reduceCtorEq, Nat.reduceEqDiff, Nat.reduceLT, Nat.reduceLeDiff, Nat.reduceAdd, Nat.reduceSub, Nat.reduceMul, Int.reduceToNat, Int.reduceLE, Int.reduceLT, Int.reduceAdd, Int.reduceSub, Int.reduceMul, Int.reduceEq, Int.reduceNeg]
            by_cases h_22 : x_6.Syl = x_11.Syl
            · rw [if_pos h_22] at h
              have e_23 : (x_6.Syl = x_11.Syl) = True := eq_true h_22
              simp only [e_5, e_8, e_9, e_10, e_13, e_14, e_15, e_17, e_19, e_21, e_23, go_sem, reduceIte, reduceCtorEq, Nat.reduceEqDiff, Nat.reduceLT, Nat.reduceLeDiff, Nat.reduceAdd, Nat.reduceSub, Nat.reduceMul, Int.reduceToNat, Int.reduceLE, Int.reduceLT, Int.reduceAdd, Int.reduceSub, Int.reduceMul, Int.reduceEq, Int.reduceNeg]
              by_cases h_24 : x_6.Code = x_11.Code
              · rw [if_pos h_24] at h
                have e_25 : (x_6.Code = x_11.Code) = True := eq_true h_24
                simp only [e_5, e_8, e_9, e_10, e_13, e_14, e_15, e_17, e_19, e_21, e_23, e_25, go_sem, reduceIte, reduceCtorEq, Nat.reduceEqDiff, Nat.reduceLT, Nat.reduceLeDiff, Nat.reduceAdd, Nat.reduceSub, Nat.reduceMul, Int.reduceToNat, Int.reduceLE, Int.reduceLT, Int.reduceAdd, Int.reduceSub, Int.reduceMul, Int.reduceEq, Int.reduceNeg]
                by_cases h_26 : x_6.Cat = x_11.Cat
                · rw [if_pos h_26] at h
                  have e_27 : (x_6.Cat = x_11.Cat) = True := eq_true h_26
                  simp only [e_5, e_8, e_9, e_10, e_13, e_14, e_15, e_17, e_19, e_21, e_23, e_25, e_27, go_sem, reduceIte, reduceCtorEq, Nat.reduceEqDiff, Nat.reduceLT, Nat.reduceLeDiff, Nat.reduceAdd, Nat.reduceSub, Nat.reduceMul, Int.reduceToNat, Int.reduceLE, Int.reduceLT, Int.reduceAdd, Int.reduceSub, Int.reduceMul, Int.reduceEq, Int.reduceNeg]
                  by_cases h_28 : x_6.Pos = x_11.Pos
                  · rw [if_pos h_28] at h
                    have e_29 : (x_6.Pos = x_11.Pos) = True := eq_true h_28
                    simp only [e_5, e_8, e_9, e_10, e_13, e_14, e_15, e_17, e_19, e_21, e_23, e_25, e_27, e_29, go_sem, reduceIte, reduceCtorEq, Nat.reduceEqDiff, Nat.reduceLT, Nat.reduceLeDiff, Nat.reduceAdd, Nat.reduceSub, Nat.reduceMul, Int.reduceToNat, Int.reduceLE, Int.reduceLT, Int.reduceAdd, Int.reduceSub, Int.reduceMul, Int.reduceEq, Int.reduceNeg]
                    by_cases h_30 : x_6.Key = x_11.Key
                    · rw [if_pos h_30] at h
                      have e_31 : (x_6.Key = x_11.Key) = True := eq_true h_30
                      simp only [e_5, e_8, e_9, e_10, e_13, e_14, e_15, e_17, e_19, e_21, e_23, e_25, e_27, e_29, e_31, go_sem, reduceIte, reduceCtorEq, Nat.reduceEqDiff, Nat.reduceLT, Nat.reduceLeDiff, Nat.reduceAdd, Nat.reduceSub, Nat.reduceMul, Int.reduceToNat, Int.reduceLE, Int.reduceLT, Int.reduceAdd, Int.reduceSub, Int.reduceMul, Int.reduceEq, Int.reduceNeg]
                      by_cases h_32 : x_6.Lig = x_11.Lig
                      · rw [if_pos h_32] at h
                        have e_33 : (x_6.Lig = x_11.Lig) = True := eq_true h_32
                        simp only [e_5, e_8, e_9, e_10, e_13, e_14, e_15, e_17, e_19, e_21, e_23, e_25, e_27, e_29, e_31, e_33, go_sem, reduceIte, reduceCtorEq, Nat.reduceEqDiff, Nat.reduceLT, Nat.reduceLeDiff, Nat.reduceAdd, Nat.reduceSub, Nat.reduceMul, Int.reduceToNat, Int.reduceLE, Int.reduceLT, Int.reduceAdd, Int.reduceSub, Int.reduceMul, Int.reduceEq, Int.reduceNeg]
                        by_cases h_34 : x_6.Part = x_11.Part
                        · rw [if_pos h_34] at h
                          have e_35 : (x_6.Part = x_11.Part) = True := eq_true h_34
                          simp only [e_5, e_8, e_9, e_10, e_13, e_14, e_15, e_17, e_19, e_21, e_23, e_25, e_27, e_29, e_31, e_33, e_35, go_sem, reduceIte, reduceCtorEq, Nat.reduceEqDiff, Nat.reduceLT, Nat.reduceLeDiff, Nat.reduceAdd, Nat.reduceSub, Nat.reduceMul, Int.reduceToNat, Int.reduceLE, Int.reduceLT, Int.reduceAdd, Int.reduceSub, Int.reduceMul, Int.reduceEq, Int.reduceNeg]
                          by_cases h_36 : x_6.X = x_11.X
                          · rw [if_pos h_36] at h
                            have e_37 : (x_6.X = x_11.X) = True := eq_true h_36
                            simp only [e_5, e_8, e_9, e_10, e_13, e_14, e_15, e_17, e_19, e_21, e_23, e_25, e_27, e_29, e_31, e_33, e_35, e_37, go_sem, reduceIte, reduceCtorEq, Nat.reduceEqDiff, Nat.reduceLT, Nat.reduceLeDiff, Nat.reduceAdd, Nat.reduceSub, Nat.reduceMul, Int.reduceToNat, Int.reduceLE, Int.reduceLT, Int.reduceAdd, Int.reduceSub, Int.reduceMul, Int.reduceEq, Int.reduceNeg]
                            by_cases h_38 : x_6.Y = x_11.Y
                            · rw [if_pos h_38] at h
                              have e_39 : (x_6.Y = x_11.Y) = True := eq_true h_38
                              simp only [e_5, e_8, e_9, e_10, e_13, e_14, e_15, e_17, e_19, e_21, e_23, e_25, e_27, e_29, e_31, e_33, e_35, e_37, e_39, go_sem, reduceIte, reduceCtorEq, Nat.reduceEqDiff, Nat.reduceLT, Nat.reduceLeDiff, Nat.reduceAdd, Nat.reduceSub, Nat.reduceMul, Int.reduceToNat, Int.reduceLE, Int.reduceLT, Int.reduceAdd, Int.reduceSub, Int.reduceMul, Int.reduceEq, Int.reduceNeg]
                              by_cases h_40 : x_6.Wide = x_11.Wide
                              · rw [if_pos h_40] at h
                                have e_41 : (x_6.Wide = x_11.Wide) = True := eq_true h_40
                                simp only [e_5, e_8, e_9, e_10, e_13, e_14, e_15, e_17, e_19, e_21, e_23, e_25, e_27, e_29, e_31, e_33, e_35, e_37, e_39, e_41, go_sem, reduceIte, reduceCtorEq, Nat.reduceEqDiff, Nat.reduceLT, Nat.reduceLeDiff, Nat.reduceAdd, Nat.reduceSub, Nat.reduceMul, Int.reduceToNat, Int.reduceLE, Int.reduceLT, Int.reduceAdd, Int.reduceSub, Int.reduceMul, Int.reduceEq, Int.reduceNeg]
                                by_cases h_42 : x_6.High = x_11.High
                                · rw [if_pos h_42] at h
                                  have e_43 : (x_6.High = x_11.High) = True := eq_true h_42
                                  simp only [e_5, e_8, e_9, e_10, e_13, e_14, e_15, e_17, e_19, e_21, e_23, e_25, e_27, e_29, e_31, e_33, e_35, e_37, e_39, e_41, e_43, go_sem, reduceIte, reduceCtorEq, Nat.reduceEqDiff, Nat.reduceLT, Nat.reduceLeDiff, Nat.reduceAdd, Nat.reduceSub, Nat.reduceMul, Int.reduceToNat, Int.reduceLE, Int.reduceLT, Int.reduceAdd, Int.reduceSub, Int.reduceMul, Int.reduceEq, Int.reduceNeg]
                                  rw [← hQ]
                                  exact ⟨_, _, (Ref.out [0, 1, 5] rfl), (Nat.zero_le _), ih _ _ h hp⟩
                                · rw [if_neg h_42] at h
                                  have e_43 : (x_6.High = x_11.High) = False := eq_false h_42
                                  simp only [e_5, e_8, e_9, e_10, e_13, e_14, e_15, e_17, e_19, e_21, e_23, e_25, e_27, e_29, e_31, e_33, e_35, e_37, e_39, e_41, e_43, go_sem, reduceIte, reduceCtorEq, Nat.reduceEqDiff, Nat.reduceLT, Nat.reduceLeDiff, Nat.reduceAdd, Nat.reduceSub, Nat.reduceMul, Int.reduceToNat, Int.reduceLE, Int.reduceLT, Int.reduceAdd, Int.reduceSub, Int.reduceMul, Int.reduceEq, Int.reduceNeg]
                                  have g := Option.some.inj h
                                  subst g
                                  rw [← hQ]
                                  exact ⟨_, _, (Ref.out [4] rfl), hp⟩
                              · rw [if_neg h_40] at h
                                have e_41 : (x_6.Wide = x_11.Wide) = False := eq_false h_40
                                simp only [e_5, e_8, e_9, e_10, e_13, e_14, e_15, e_17, e_19, e_21, e_23, e_25, e_27, e_29, e_31, e_33, e_35, e_37, e_39, e_41, go_sem, reduceIte, reduceCtorEq, Nat.reduceEqDiff, Nat.reduceLT, Nat.reduceLeDiff, Nat.reduceAdd, Nat.reduceSub, Nat.reduceMul, Int.reduceToNat, Int.reduceLE, Int.reduceLT, Int.reduceAdd, Int.reduceSub, Int.reduceMul, Int.reduceEq, Int.reduceNeg]
                                have g := Option.some.inj h
                                subst g
                                rw [← hQ]
                                exact ⟨_, _, (Ref.out [4] rfl), hp⟩
                            · rw [if_neg h_38] at h
                              have e_39 : (x_6.Y = x_11.Y) = False := eq_false h_38
                              simp only [e_5, e_8, e_9, e_10, e_13, e_14, e_15, e_17, e_19, e_21, e_23, e_25, e_27, e_29, e_31, e_33, e_35, e_37, e_39, go_sem, reduceIte, reduceCtorEq, Nat.reduceEqDiff, Nat.reduceLT, Nat.reduceLeDiff, Nat.reduceAdd, Nat.reduceSub, Nat.reduceMul, Int.reduceToNat, Int.reduceLE, Int.reduceLT, Int.reduceAdd, Int.reduceSub, Int.reduceMul, Int.reduceEq, Int.reduceNeg]
                              have g := Option.some.inj h
                              subst g
                              rw [← hQ]
                              exact ⟨_, _, (Ref.out [4] rfl), hp⟩
                          · rw [if_neg h_36] at h
                            have e_37 : (x_6.X = x_11.X) = False := eq_false h_36
                            simp only [e_5, e_8, e_9, e_10, e_13, e_14, e_15, e_17, e_19, e_21, e_23, e_25, e_27, e_29, e_31, e_33, e_35, e_37, go_sem, reduceIte, reduceCtorEq, Nat.reduceEqDiff, Nat.reduceLT, Nat.reduceLeDiff, Nat.reduceAdd, Nat.reduceSub, Nat.reduceMul, Int.reduceToNat, Int.reduceLE, Int.reduceLT, Int.reduceAdd, Int.reduceSub, Int.reduceMul, Int.reduceEq, Int.reduceNeg]
                            have g := Option.some.inj h
                            subst g
                            rw [← hQ]
                            exact ⟨_, _, (Ref.out [4] rfl), hp⟩
                        · rw [if_neg h_34] at h
                          have e_35 : (x_6.Part = x_11.Part) = False := eq_false h_34
                          simp only [e_5, e_8, e_9, e_10, e_13, e_14, e_15, e_17, e_19, e_21, e_23, e_25, e_27, e_29, e_31, e_33, e_35, go_sem, reduceIte, reduceCtorEq, Nat.reduceEqDiff, Nat.reduceLT, Nat.reduceLeDiff, Nat.reduceAdd, Nat.reduceSub, Nat.reduceMul, Int.reduceToNat, Int.reduceLE, Int.reduceLT, Int.reduceAdd, Int.reduceSub, Int.reduceMul, Int.reduceEq, Int.reduceNeg]
                          have g := Option.some.inj h
                          subst g
                          rw [← hQ]
                          exact ⟨_, _, (Ref.out [4] rfl), hp⟩
                      · rw [if_neg h_32] at h
                        have e_33 : (x_6.Lig = x_11.Lig) = False := eq_false h_32
                        simp only [e_5, e_8, e_9, e_10, e_13, e_14, e_15, e_17, e_19, e_21, e_23, e_25, e_27, e_29, e_31, e_33, go_sem, reduceIte, reduceCtorEq, Nat.reduceEqDiff, Nat.reduceLT, Nat.reduceLeDiff, Nat.reduceAdd, Nat.reduceSub, Nat.reduceMul, Int.reduceToNat, Int.reduceLE, Int.reduceLT, Int.reduceAdd, Int.reduceSub, Int.reduceMul, Int.reduceEq, Int.reduceNeg]
                        have g := Option.some.inj h
                        subst g
                        rw [← hQ]
                        exact ⟨_, _, (Ref.out [4] rfl), hp⟩
                    · rw [if_neg h_30] at h
                      have e_31 : (x_6.Key = x_11.Key) = False := eq_false h_30
                      simp only [e_5, e_8, e_9, e_10, e_13, e_14, e_15, e_17, e_19, e_21, e_23, e_25, e_27, e_29, e_31, go_sem, reduceIte, reduceCtorEq, Nat.reduceEqDiff, Nat.reduceLT, Nat.reduceLeDiff, Nat.reduceAdd, Nat.reduceSub, Nat.reduceMul, Int.reduceToNat, Int.reduceLE, Int.reduceLT, Int.reduceAdd, Int.reduceSub, Int.reduceMul, Int.reduceEq, Int.reduceNeg]
                      have g := Option.some.inj h
                      subst g
                      rw [← hQ]
                      exact ⟨_, _, (Ref.out [4] rfl), hp⟩
                  · rw [if_neg h_28] at h
                    have e_29 : (x_6.Pos = x_11.Pos) = False := eq_false h_28
                    simp only [e_5, e_8, e_9, e_10, e_13, e_14, e_15, e_17, e_19, e_21, e_23, e_25, e_27, e_29, go_sem, reduceIte, reduceCtorEq, Nat.reduceEqDiff, Nat.reduceLT, Nat.reduceLeDiff, Nat.reduceAdd, Nat.reduceSub, Nat.reduceMul, Int.reduceToNat, Int.reduceLE, Int.reduceLT, Int.reduceAdd, Int.reduceSub, Int.reduceMul, Int.reduceEq, Int.reduceNeg]
                    have g := Option.some.inj h
                    subst g
                    rw [← hQ]
                    exact ⟨_, _, (Ref.out [4] rfl), hp⟩
                · rw [if_neg h_26] at h
                  have e_27 : (x_6.Cat = x_11.Cat) = False := eq_false h_26
                  simp only [e_5, e_8, e_9, e_10, e_13, e_14, e_15, e_17, e_19, e_21, e_23, e_25, e_27, go_sem, reduceIte, reduceCtorEq, Nat.reduceEqDiff, Nat.reduceLT, Nat.reduceLeDiff, Nat.reduceAdd, Nat.reduceSub, Nat.reduceMul, Int.reduceToNat, Int.reduceLE, Int.reduceLT, Int.reduceAdd, Int.reduceSub, Int.reduceMul, Int.reduceEq, Int.reduceNeg]
                  have g := Option.some.inj h
                  subst g
                  rw [← hQ]
                  exact ⟨_, _, (Ref.out [4] rfl), hp⟩
              · rw [if_neg h_24] at h
                have e_25 : (x_6.Code = x_11.Code) = False := eq_false h_24
                simp only [e_5, e_8, e_9, e_10, e_13, e_14, e_15, e_17, e_19, e_21, e_23, e_25, go_sem, reduceIte, reduceCtorEq, Nat.reduceEqDiff, Nat.reduceLT, Nat.reduceLeDiff, Nat.reduceAdd, Nat.reduceSub, Nat.reduceMul, Int.reduceToNat, Int.reduceLE, Int.reduceLT, Int.reduceAdd, Int.reduceSub, Int.reduceMul, Int.reduceEq, Int.reduceNeg]
                have g := Option.some.inj h
                subst g
                rw [← hQ]
                exact ⟨_, _, (Ref.out [4] rfl), hp⟩
            · rw [if_neg h_22] at h
              have e_23 : (x_6.Syl = x_11.Syl) = False := eq_false h_22
              simp only [e_5, e_8, e_9, e_10, e_13, e_14, e_15, e_17, e_19, e_21, e_23, go_sem, reduceIte, reduceCtorEq, Nat.reduceEqDiff, Nat.reduceLT, Nat.reduceLeDiff, Nat.reduceAdd, Nat.reduceSub, Nat.reduceMul, Int.reduceToNat, Int.reduceLE, Int.reduceLT, Int.reduceAdd, Int.reduceSub, Int.reduceMul, Int.reduceEq, Int.reduceNeg]
              have g := Option.some.inj h
              subst g
              rw [← hQ]
              exact ⟨_, _, (Ref.out [4] rfl), hp⟩
          · rw [if_neg h_20] at h
            have e_21 : (x_6.Mask = x_11.Mask) = False := eq_false h_20
            simp only [e_5, e_8, e_9, e_10, e_13, e_14, e_15, e_17, e_19, e_21, go_sem, reduceIte, reduceCtorEq, Nat.reduceEqDiff, Nat.reduceLT, Nat.reduceLeDiff, Nat.reduceAdd, Nat.reduceSub, Nat.reduceMul, Int.reduceToNat, Int.reduceLE, Int.reduceLT, Int.reduceAdd, Int.reduceSub, Int.reduceMul, Int.reduceEq, Int.reduceNeg]
            have g := Option.some.inj h
            subst g
            rw [← hQ]
            exact ⟨_, _, (Ref.out [4] rfl), hp⟩
        · rw [if_neg h_18] at h
          have e_19 : (x_6.Cluster = x_11.Cluster) = False := eq_false h_18
          simp only [e_5, e_8, e_9, e_10, e_13, e_14, e_15, e_17, e_19, go_sem, reduceIte, reduceCtorEq, Nat.reduceEqDiff, Nat.reduceLT, Nat.reduceLeDiff, Nat.reduceAdd, Nat.reduceSub, Nat.reduceMul, Int.reduceToNat, Int.reduceLE, Int.reduceLT, Int.reduceAdd, Int.reduceSub, Int.reduceMul, Int.reduceEq, Int.reduceNeg]
          have g := Option.some.inj h
          subst g
          rw [← hQ]
          exact ⟨_, _, (Ref.out [4] rfl), hp⟩
      · rw [if_neg h_16] at h
        have e_17 : (x_6.Id = x_11.Id) = False := eq_false h_16
        simp only [e_5, e_8, e_9, e_10, e_13, e_14, e_15, e_17, go_sem, reduceIte, reduceCtorEq, Nat.reduceEqDiff, Nat.reduceLT, Nat.reduceLeDiff, Nat.reduceAdd, Nat.reduceSub, Nat.reduceMul, Int.reduceToNat, Int.reduceLE, Int.reduceLT, Int.reduceAdd, Int.reduceSub, Int.reduceMul, Int.reduceEq, Int.reduceNeg]
        have g := Option.some.inj h
        subst g
        rw [← hQ]
        exact ⟨_, _, (Ref.out [4] rfl), hp⟩
    · rw [if_neg h_4] at h
      have e_5 : (i_3 < (l_0.length : Int)) = False := eq_false h_4
      simp only [e_5, go_sem, reduceIte, reduceCtorEq, Nat.reduceEqDiff, Nat.reduceLT, Nat.reduceLeDiff, Nat.reduceAdd, Nat.reduceSub, Nat.reduceMul, Int.reduceToNat, Int.reduceLE, Int.reduceLT, Int.reduceAdd, Int.reduceSub, Int.reduceMul, Int.reduceEq, Int.reduceNeg]
      have g := Option.some.inj h
      subst g
      rw [← hQ]
      exact ⟨_, _, (Ref.out [] rfl), hp⟩
theorem ref17_Same_w (N : Nat) (l_0 : List TGlyph) (l_1 : List TGlyph) (c_0 : Bool) (c_1 : Bool) (z_1 : Bool) (h : ref17_Same N l_0 l_1 = some z_1) :
    ACalls Go.Proofs.Try.prog 15 [.vec c_0 (List.map eTGlyph l_0), .vec c_1 (List.map eTGlyph l_1)] [] (fun e H => H = [] ∧ e = .ret (.bool z_1)) := by
  unfold ref17_Same at h
  refine ACalls.goN Go.Proofs.Try.func15 n15 a15 Go.Proofs.Try.ntmps15 r15 (by simp) 0 rfl ?_
  generalize hQ : bodyA _ _ _ = QQ
  simp only [A15, go_sem, reduceIte, reduceCtorEq, Nat.reduceEqDiff, Nat.reduceLT, Nat.reduceLeDiff, Nat.reduceAdd, Nat.reduceSub, Nat.reduceMul, Int.reduceToNat, Int.reduceLE, Int.reduceLT, Int.reduceAdd, Int.reduceSub, Int.reduceMul, Int.reduceEq, Int.reduceNeg]
  by_cases h_1 : (l_0.length : Int) = (l_1.length : Int)
  · rw [if_pos h_1] at h
    have e_2 : ((l_0.length : Int) = (l_1.length : Int)) = True := eq_true h_1
    simp only [e_2, go_sem, reduceIte, reduceCtorEq, Nat.reduceEqDiff, Nat.reduceLT, Nat.reduceLeDiff, Nat.reduceAdd, Nat.reduceSub, Nat.reduceMul, Int.reduceToNat, Int.reduceLE, Int.reduceLT, Int.reduceAdd, Int.reduceSub, Int.reduceMul, Int.reduceEq, Int.reduceNeg]
    obtain ⟨o_1004, h_1003, h⟩ := bindS h
    refine ALp.ref (Ref.out [0, 1, 5] rfl) (Nat.zero_le _) (ref17_Same_L1_w N _ _ c_0 c_1 N _ o_1004 h_1003 ?_)
    rcases o_1004 with _ | _
    · try dsimp only at h
      refine LoopK_go rfl (Nat.zero_le _) ?_
      simp only [e_2, go_sem, reduceIte, reduceCtorEq, Nat.reduceEqDiff, Nat.reduceLT, Nat.reduceLeDiff, Nat.reduceAdd, Nat.reduceSub, Nat.reduceMul, Int.reduceToNat, Int.reduceLE, Int.reduceLT, Int.reduceAdd, Int.reduceSub, Int.reduceMul, Int.reduceEq, Int.reduceNeg]
      have g_0 := Option.some.inj h
      subst g_0
      rw [← hQ]
      exact ⟨rfl, _, rfl, _, _, (RefV.out rfl), rfl, rfl⟩
    · try dsimp only at h
      refine LoopK_ret ?_
      have g_0 := Option.some.inj h
      subst g_0
      rw [← hQ]
      exact ⟨rfl, _, rfl, _, _, (RefV.out rfl), rfl, rfl⟩
  · rw [if_neg h_1] at h
    have e_2 : ((l_0.length : Int) = (l_1.length : Int)) = False := eq_false h_1
    simp only [e_2, go_sem, reduceIte, reduceCtorEq, Nat.reduceEqDiff, Nat.reduceLT, Nat.reduceLeDiff, Nat.reduceAdd, Nat.reduceSub, Nat.reduceMul, Int.reduceToNat, Int.reduceLE, Int.reduceLT, Int.reduceAdd, Int.reduceSub, Int.reduceMul, Int.reduceEq, Int.reduceNeg]
    have g_0 := Option.some.inj h
    subst g_0
    rw [← hQ]
    exact ⟨rfl, _, rfl, _, _, (RefV.out rfl), rfl, rfl⟩
theorem law17_BufferMerges_w (N : Nat) (l_0 : List TGlyph) (a_1 : Int) (a_2 : Int) (c_0 : Bool) (z_1 : Bool) (h : law17_BufferMerges N l_0 a_1 a_2 = some z_1) :
    ACalls Go.Proofs.Try.prog 3 [.vec c_0 (List.map eTGlyph l_0), .int .i64 a_1, .int .i64 a_2] [] (fun e H => H = [] ∧ e = .ret (.bool z_1)) := by
  unfold law17_BufferMerges at h
  refine ACalls.goN Go.Proofs.Try.func3 n3 a3 Go.Proofs.Try.ntmps3 r3 (by simp) 0 rfl ?_
  generalize hQ : bodyA _ _ _ = QQ
  simp only [A3, go_sem, reduceIte, reduceCtorEq, Nat.reduceEqDiff, Nat.reduceLT, Nat.reduceLeDiff, Nat.reduceAdd, Nat.reduceSub, Nat.reduceMul, Int.reduceToNat, Int.reduceLE, Int.reduceLT, Int.reduceAdd, Int.reduceSub, Int.reduceMul, Int.reduceEq, Int.reduceNeg]
  refine ACalls.use0 alive17 rfl rfl ?_
  refine CallK_go (Nat.zero_le _) ?_
  simp only [go_sem, reduceIte, reduceCtorEq, Nat.reduceEqDiff, Nat.reduceLT, Nat.reduceLeDiff, Nat.reduceAdd, Nat.reduceSub, Nat.reduceMul, Int.reduceToNat, Int.reduceLE, Int.reduceLT, Int.reduceAdd, Int.reduceSub, Int.reduceMul, Int.reduceEq, Int.reduceNeg]
  by_cases h_1 : 200 < (l_0.length : Int)
  · rw [if_pos h_1] at h
    have e_2 : (200 < (l_0.length : Int)) = True := eq_true h_1
    simp only [e_2, go_sem, reduceIte, reduceCtorEq, Nat.reduceEqDiff, Nat.reduceLT, Nat.reduceLeDiff, Nat.reduceAdd, Nat.reduceSub, Nat.reduceMul, Int.reduceToNat, Int.reduceLE, Int.reduceLT, Int.reduceAdd, Int.reduceSub, Int.reduceMul, Int.reduceEq, Int.reduceNeg]
    have g_0 := Option.some.inj h
    subst g_0
    rw [← hQ]
    exact ⟨rfl, _, rfl, _, _, (RefV.out rfl), rfl, rfl⟩
  · rw [if_neg h_1] at h
    have e_2 : (200 < (l_0.length : Int)) = False := eq_false h_1
    obtain ⟨y_3, h_4, h⟩ := bindS h
    simp only [e_2, go_sem, reduceIte, reduceCtorEq, Nat.reduceEqDiff, Nat.reduceLT, Nat.reduceLeDiff, Nat.reduceAdd, Nat.reduceSub, Nat.reduceMul, Int.reduceToNat, Int.reduceLE, Int.reduceLT, Int.reduceAdd, Int.reduceSub, Int.reduceMul, Int.reduceEq, Int.reduceNeg]
    refine ACalls.use0 (buffer_Rise_w N _ _ _ h_4) rfl rfl ?_
    refine CallK_go (Nat.zero_le _) ?_
    obtain ⟨y_5, h_6, h⟩ := bindS h
    simp only [e_2, go_sem, reduceIte, reduceCtorEq, Nat.reduceEqDiff, Nat.reduceLT, Nat.reduceLeDiff, Nat.reduceAdd, Nat.reduceSub, Nat.reduceMul, Int.reduceToNat, Int.reduceLE, Int.reduceLT, Int.reduceAdd, Int.reduceSub, Int.reduceMul, Int.reduceEq, Int.reduceNeg]
    refine ACalls.use0 (ref17_Rise_w N _ _ _ h_6) rfl rfl ?_
    refine CallK_go (Nat.zero_le _) ?_
    simp only [e_2, go_sem, reduceIte, reduceCtorEq, Nat.reduceEqDiff, Nat.reduceLT, Nat.reduceLeDiff, Nat.reduceAdd, Nat.reduceSub, Nat.reduceMul, Int.reduceToNat, Int.reduceLE, Int.reduceLT, Int.reduceAdd, Int.reduceSub, Int.reduceMul, Int.reduceEq, Int.reduceNeg]
    by_cases h_7 : y_3 = true
    · rw [if_pos h_7] at h
      have e_8 : y_3 = true := h_7
      simp only [e_2, e_8, go_sem, reduceIte, reduceCtorEq, Nat.reduceEqDiff, Nat.reduceLT, Nat.reduceLeDiff, Nat.reduceAdd, Nat.reduceSub, Nat.reduceMul, Int.reduceToNat, Int.reduceLE, Int.reduceLT, Int.reduceAdd, Int.reduceSub, Int.reduceMul, Int.reduceEq, Int.reduceNeg]
      by_cases h_9 : y_5 = true
      · rw [if_pos h_9] at h
        have e_10 : y_5 = true := h_9
        obtain ⟨y_11, h_12, h⟩ := bindS h
        simp only [e_2, e_8, e_10, go_sem, reduceIte, reduceCtorEq, Nat.reduceEqDiff, Nat.reduceLT, Nat.reduceLeDiff, Nat.reduceAdd, Nat.reduceSub, Nat.reduceMul, Int.reduceToNat, Int.reduceLE, Int.reduceLT, Int.reduceAdd, Int.reduceSub, Int.reduceMul, Int.reduceEq, Int.reduceNeg]
        refine ACalls.use0 (buffer_Merge_w N _ _ _ _ _ h_12) rfl rfl ?_
        refine CallK_go (Nat.zero_le _) ?_
        obtain ⟨y_13, h_14, h⟩ := bindS h
        simp only [e_2, e_8, e_10, go_sem, reduceIte, reduceCtorEq, Nat.reduceEqDiff, Nat.reduceLT, Nat.reduceLeDiff, Nat.reduceAdd, Nat.reduceSub, Nat.reduceMul, Int.reduceToNat, Int.reduceLE, Int.reduceLT, Int.reduceAdd, Int.reduceSub, Int.reduceMul, Int.reduceEq, Int.reduceNeg]
        refine ACalls.use0 (ref17_Merge_w N _ _ _ _ _ h_14) rfl rfl ?_
        refine CallK_go (Nat.zero_le _) ?_
        obtain ⟨y_15, h_16, h⟩ := bindS h
        simp only [e_2, e_8, e_10, go_sem, reduceIte, reduceCtorEq, Nat.reduceEqDiff, Nat.reduceLT, Nat.reduceLeDiff, Nat.reduceAdd, Nat.reduceSub, Nat.reduceMul, Int.reduceToNat, Int.reduceLE, Int.reduceLT, Int.reduceAdd, Int.reduceSub, Int.reduceMul, Int.reduceEq, Int.reduceNeg]
        refine ACalls.use0 (ref17_Same_w N _ _ _ _ _ h_16) rfl rfl ?_
        refine CallK_go (Nat.zero_le _) ?_
        simp only [e_2, e_8, e_10, go_sem, reduceIte, reduceCtorEq, Nat.reduceEqDiff, Nat.reduceLT, Nat.reduceLeDiff, Nat.reduceAdd, Nat.reduceSub, Nat.reduceMul, Int.reduceToNat, Int.reduceLE, Int.reduceLT, Int.reduceAdd, Int.reduceSub, Int.reduceMul, Int.reduceEq, Int.reduceNeg]
        have g_0 := Option.some.inj h
        subst g_0
        rw [← hQ]
        exact ⟨rfl, _, rfl, _, _, (RefV.out (by first | rfl | simp only [go_sem, reduceIte, Nat.reduceEqDiff, Nat.reduceAdd, e_2, e_8, e_10])), rfl, rfl⟩
      · rw [if_neg h_9] at h
        have e_10 : y_5 = false := bfalse h_9
        simp only [e_2, e_8, e_10, go_sem, reduceIte, reduceCtorEq, Nat.reduceEqDiff, Nat.reduceLT, Nat.reduceLeDiff, Nat.reduceAdd, Nat.reduceSub, Nat.reduceMul, Int.reduceToNat, Int.reduceLE, Int.reduceLT, Int.reduceAdd, Int.reduceSub, Int.reduceMul, Int.reduceEq, Int.reduceNeg]
        have g_0 := Option.some.inj h
        subst g_0
        rw [← hQ]
        exact ⟨rfl, _, rfl, _, _, (RefV.out rfl), rfl, rfl⟩
    · rw [if_neg h_7] at h
      have e_8 : y_3 = false := bfalse h_7
      simp only [e_2, e_8, go_sem, reduceIte, reduceCtorEq, Nat.reduceEqDiff, Nat.reduceLT, Nat.reduceLeDiff, Nat.reduceAdd, Nat.reduceSub, Nat.reduceMul, Int.reduceToNat, Int.reduceLE, Int.reduceLT, Int.reduceAdd, Int.reduceSub, Int.reduceMul, Int.reduceEq, Int.reduceNeg]
      by_cases h_17 : y_5 = true
      · rw [if_pos h_17] at h
        have e_18 : y_5 = true := h_17
        simp only [e_2, e_8, e_18, go_sem, reduceIte, reduceCtorEq, Nat.reduceEqDiff, Nat.reduceLT, Nat.reduceLeDiff, Nat.reduceAdd, Nat.reduceSub, Nat.reduceMul, Int.reduceToNat, Int.reduceLE, Int.reduceLT, Int.reduceAdd, Int.reduceSub, Int.reduceMul, Int.reduceEq, Int.reduceNeg]
        have g_0 := Option.some.inj h
        subst g_0
        rw [← hQ]
        exact ⟨rfl, _, rfl, _, _, (RefV.out rfl), rfl, rfl⟩
      · rw [if_neg h_17] at h
        have e_18 : y_5 = false := bfalse h_17
        obtain ⟨y_19, h_20, h⟩ := bindS h
        simp only [e_2, e_8, e_18, go_sem, reduceIte, reduceCtorEq, Nat.reduceEqDiff, Nat.reduceLT, Nat.reduceLeDiff, Nat.reduceAdd, Nat.reduceSub, Nat.reduceMul, Int.reduceToNat, Int.reduceLE, Int.reduceLT, Int.reduceAdd, Int.reduceSub, Int.reduceMul, Int.reduceEq, Int.reduceNeg]
        refine ACalls.use0 (buffer_Merge_w N _ _ _ _ _ h_20) rfl rfl ?_
        refine CallK_go (Nat.zero_le _) ?_
        obtain ⟨y_21, h_22, h⟩ := bindS h
        simp only [e_2, e_8, e_18, go_sem, reduceIte, reduceCtorEq, Nat.reduceEqDiff, Nat.reduceLT, Nat.reduceLeDiff, Nat.reduceAdd, Nat.reduceSub, Nat.reduceMul, Int.reduceToNat, Int.reduceLE, Int.reduceLT, Int.reduceAdd, Int.reduceSub, Int.reduceMul, Int.reduceEq, Int.reduceNeg]
        refine ACalls.use0 (ref17_Merge_w N _ _ _ _ _ h_22) rfl rfl ?_
        refine CallK_go (Nat.zero_le _) ?_
        obtain ⟨y_23, h_24, h⟩ := bindS h
        simp only [e_2, e_8, e_18, go_sem, reduceIte, reduceCtorEq, Nat.reduceEqDiff, Nat.reduceLT, Nat.reduceLeDiff, Nat.reduceAdd, Nat.reduceSub, Nat.reduceMul, Int.reduceToNat, Int.reduceLE, Int.reduceLT, Int.reduceAdd, Int.reduceSub, Int.reduceMul, Int.reduceEq, Int.reduceNeg]
        refine ACalls.use0 (ref17_Same_w N _ _ _ _ _ h_24) rfl rfl ?_
        refine CallK_go (Nat.zero_le _) ?_
        simp only [e_2, e_8, e_18, go_sem, reduceIte, reduceCtorEq, Nat.reduceEqDiff, Nat.reduceLT, Nat.reduceLeDiff, Nat.reduceAdd, Nat.reduceSub, Nat.reduceMul, Int.reduceToNat, Int.reduceLE, Int.reduceLT, Int.reduceAdd, Int.reduceSub, Int.reduceMul, Int.reduceEq, Int.reduceNeg]
        have g_0 := Option.some.inj h
        subst g_0
        rw [← hQ]
        exact ⟨rfl, _, rfl, _, _, (RefV.out (by first | rfl | simp only [go_sem, reduceIte, Nat.reduceEqDiff, Nat.reduceAdd, e_2, e_8, e_18])), rfl, rfl⟩
end Go.Proofs.Ytjdnbdhdpcnikaa.AI
