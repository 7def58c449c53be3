/- Walks: printed by a program (pw.py); each shows that a function answers what is told plainly. -/
import Derived.Test.YtjdnbdhdpcnikaabmP
import Derived.Test.YtjdnbdhdpcnikaabmA
set_option linter.unusedVariables false
set_option linter.unusedSimpArgs false
set_option maxRecDepth 100000
set_option maxHeartbeats 1000000
namespace Go.Proofs.Ytjdnbdhdpcnikaa.AI
open Go.Proofs (Try.prog)
def eTGlyph (x : TGlyph) : List AV := [.int .i64 x.Id, .int .i64 x.Cluster, .int .i64 x.Mask, .int .i64 x.Syl, .int .i32 x.Code, .int .i64 x.Cat, .int .i64 x.Pos, .int .i64 x.Key, .int .i64 x.Lig, .int .i64 x.Part, .int .i64 x.X, .int .i64 x.Y, .int .i64 x.Wide, .int .i64 x.High]
theorem subs_eTGlyph (S : Sub) (l : List TGlyph) : (List.map eTGlyph l).map (subs S) = List.map eTGlyph l := subs_map S l eTGlyph (fun _ => rfl)
def eI64 (x : Int) : List AV := [.int .i64 x]
theorem subs_eI64 (S : Sub) (l : List Int) : (List.map eI64 l).map (subs S) = List.map eI64 l := subs_map S l eI64 (fun _ => rfl)
def eB (x : Bool) : List AV := [.bool x]
theorem subs_eB (S : Sub) (l : List Bool) : (List.map eB l).map (subs S) = List.map eB l := subs_map S l eB (fun _ => rfl)
def eTArr2_I64 (x : TArr2_I64) : List AV := [.int .i64 x.e0, .int .i64 x.e1]
theorem subs_eTArr2_I64 (S : Sub) (l : List TArr2_I64) : (List.map eTArr2_I64 l).map (subs S) = List.map eTArr2_I64 l := subs_map S l eTArr2_I64 (fun _ => rfl)
attribute [local go_sem] subs_eTGlyph subs_eI64 subs_eB subs_eTArr2_I64
def tab_alive17 : List (Nat × ACode × Nat × List RV) := [E12, E13, E16, E18, E19, E21, E22, E50, E51, E52, E53, E55, E56, E74, E75, E88, E89, E90, E95, E96, E103, E104]
theorem tab_alive17_ok : AllOk Go.Proofs.Try.prog tab_alive17 := ⟨e12, e13, e16, e18, e19, e21, e22, e50, e51, e52, e53, e55, e56, e74, e75, e88, e89, e90, e95, e96, e103, e104, trivial⟩
theorem alive17 : ACalls Go.Proofs.Try.prog 12 [] [] fun e H => H = [] ∧ e = .ret (.bool true) := ACalls.told (m := 300) (n := 20) tab_alive17_ok (by decide +kernel)
def B4_1 : ACode := match A4 with | (.seq _ (.seq _ (.seq _ (.seq _ (.seq _ (.seq _ (.seq (.seq _ (.block _ (.loop b))) _))))))) => b | _ => .skip
def B4_2 : ACode := match B4_1 with | (.seq _ (.seq (.block _ (.seq _ (.block _ (.loop b)))) _)) => b | _ => .skip
def B51_1 : ACode := match A51 with | (.seq _ (.seq (.seq _ (.block _ (.loop b))) _)) => b | _ => .skip
def B16_1 : ACode := match A16 with | (.seq _ (.seq _ (.seq _ (.seq _ (.seq (.seq _ (.block _ (.loop b))) _))))) => b | _ => .skip
def B16_2 : ACode := match A16 with | (.seq _ (.seq _ (.seq _ (.seq _ (.seq _ (.seq _ (.seq (.block _ (.loop b)) _))))))) => b | _ => .skip
def B16_3 : ACode := match A16 with | (.seq _ (.seq _ (.seq _ (.seq _ (.seq _ (.seq _ (.seq _ (.seq (.block _ (.loop b)) _)))))))) => b | _ => .skip
def B16_4 : ACode := match A16 with | (.seq _ (.seq _ (.seq _ (.seq _ (.seq _ (.seq _ (.seq _ (.seq _ (.seq (.seq _ (.block _ (.loop b))) _))))))))) => b | _ => .skip
def B18_1 : ACode := match A18 with | (.seq _ (.seq _ (.seq _ (.seq _ (.seq _ (.seq (.seq _ (.block _ (.loop b))) _)))))) => b | _ => .skip
def B18_2 : ACode := match A18 with | (.seq _ (.seq _ (.seq _ (.seq _ (.seq _ (.seq _ (.seq _ (.seq (.seq _ (.cond _ (.seq _ (.seq _ (.block _ (.loop b)))) _)) _)))))))) => b | _ => .skip
def B19_1 : ACode := match A19 with | (.seq _ (.seq _ (.seq _ (.seq _ (.seq (.seq _ (.block _ (.loop b))) _))))) => b | _ => .skip
def B19_2 : ACode := match A19 with | (.seq _ (.seq _ (.seq _ (.seq _ (.seq _ (.seq _ (.seq (.seq _ (.block _ (.loop b))) _))))))) => b | _ => .skip
def B22_1 : ACode := match A22 with | (.seq _ (.seq _ (.seq (.seq _ (.block _ (.loop b))) _))) => b | _ => .skip
def B22_2 : ACode := match A22 with | (.seq _ (.seq _ (.seq _ (.seq _ (.seq _ (.seq (.seq _ (.block _ (.loop b))) _)))))) => b | _ => .skip
def B20_1 : ACode := match A20 with | (.seq _ (.seq (.seq _ (.block _ (.loop b))) _)) => b | _ => .skip
def B20_2 : ACode := match B20_1 with | (.seq _ (.seq (.block _ (.seq _ (.seq (.seq _ (.block _ (.loop b))) _))) _)) => b | _ => .skip
theorem buffer_Rise_1_w (N : Nat) (a_0 : Int) (a_1 : Int) (a_2 : Int) (a_3 : Int) (a_4 : Int) (a_5 : Int) (a_6 : Int) (a_7 : Int) (a_8 : Int) (a_9 : Int) (a_10 : Int) (a_11 : Int) (a_12 : Int) (a_13 : Int) (a_14 : Int) (a_15 : Int) (a_16 : Int) (a_17 : Int) (a_18 : Int) (a_19 : Int) (a_20 : Int) (a_21 : Int) (a_22 : Int) (a_23 : Int) (a_24 : Int) (a_25 : Int) (a_26 : Int) (a_27 : Int) (z_1 : Int) (h : buffer_Rise_1 N a_0 a_1 a_2 a_3 a_4 a_5 a_6 a_7 a_8 a_9 a_10 a_11 a_12 a_13 a_14 a_15 a_16 a_17 a_18 a_19 a_20 a_21 a_22 a_23 a_24 a_25 a_26 a_27 = some z_1) :
    ACalls Go.Proofs.Try.prog 52 [.agg [.int .i64 a_0, .int .i64 a_1, .int .i64 a_2, .int .i64 a_3, .int .i32 a_4, .int .i64 a_5, .int .i64 a_6, .int .i64 a_7, .int .i64 a_8, .int .i64 a_9, .int .i64 a_10, .int .i64 a_11, .int .i64 a_12, .int .i64 a_13], .agg [.int .i64 a_14, .int .i64 a_15, .int .i64 a_16, .int .i64 a_17, .int .i32 a_18, .int .i64 a_19, .int .i64 a_20, .int .i64 a_21, .int .i64 a_22, .int .i64 a_23, .int .i64 a_24, .int .i64 a_25, .int .i64 a_26, .int .i64 a_27]] [] (fun e H => H = [] ∧ e = .ret (.int .i64 z_1)) := by
  unfold buffer_Rise_1 at h
  refine ACalls.goN Go.Proofs.Try.func52 n52 a52 Go.Proofs.Try.ntmps52 r52 (by simp) 0 rfl ?_
  generalize hQ : bodyA _ _ _ = QQ
  simp only [A52, go_sem, reduceIte, reduceCtorEq, Nat.reduceEqDiff, Nat.reduceLT, Nat.reduceLeDiff, Nat.reduceAdd, Nat.reduceSub, Nat.reduceMul, Int.reduceToNat, Int.reduceLE, Int.reduceLT, Int.reduceAdd, Int.reduceSub, Int.reduceMul, Int.reduceEq, Int.reduceNeg]
  by_cases h_1 : a_1 < a_15
  · rw [if_pos h_1] at h
    have e_2 : (a_1 < a_15) = True := eq_true h_1
    simp only [e_2, go_sem, reduceIte, reduceCtorEq, Nat.reduceEqDiff, Nat.reduceLT, Nat.reduceLeDiff, Nat.reduceAdd, Nat.reduceSub, Nat.reduceMul, Int.reduceToNat, Int.reduceLE, Int.reduceLT, Int.reduceAdd, Int.reduceSub, Int.reduceMul, Int.reduceEq, Int.reduceNeg]
    have g_0 := Option.some.inj h
    subst g_0
    rw [← hQ]
    exact ⟨rfl, _, rfl, _, _, (RefV.out rfl), rfl, rfl⟩
  · rw [if_neg h_1] at h
    have e_2 : (a_1 < a_15) = False := eq_false h_1
    simp only [e_2, go_sem, reduceIte, reduceCtorEq, Nat.reduceEqDiff, Nat.reduceLT, Nat.reduceLeDiff, Nat.reduceAdd, Nat.reduceSub, Nat.reduceMul, Int.reduceToNat, Int.reduceLE, Int.reduceLT, Int.reduceAdd, Int.reduceSub, Int.reduceMul, Int.reduceEq, Int.reduceNeg]
    by_cases h_3 : a_15 < a_1
    · rw [if_pos h_3] at h
      have e_4 : (a_15 < a_1) = True := eq_true h_3
      simp only [e_2, e_4, go_sem, reduceIte, reduceCtorEq, Nat.reduceEqDiff, Nat.reduceLT, Nat.reduceLeDiff, Nat.reduceAdd, Nat.reduceSub, Nat.reduceMul, Int.reduceToNat, Int.reduceLE, Int.reduceLT, Int.reduceAdd, Int.reduceSub, Int.reduceMul, Int.reduceEq, Int.reduceNeg]
      have g_0 := Option.some.inj h
      subst g_0
      rw [← hQ]
      exact ⟨rfl, _, rfl, _, _, (RefV.out rfl), rfl, rfl⟩
    · rw [if_neg h_3] at h
      have e_4 : (a_15 < a_1) = False := eq_false h_3
      simp only [e_2, e_4, go_sem, reduceIte, reduceCtorEq, Nat.reduceEqDiff, Nat.reduceLT, Nat.reduceLeDiff, Nat.reduceAdd, Nat.reduceSub, Nat.reduceMul, Int.reduceToNat, Int.reduceLE, Int.reduceLT, Int.reduceAdd, Int.reduceSub, Int.reduceMul, Int.reduceEq, Int.reduceNeg]
      have g_0 := Option.some.inj h
      subst g_0
      rw [← hQ]
      exact ⟨rfl, _, rfl, _, _, (RefV.out rfl), rfl, rfl⟩
theorem slices_IsSortedFunc_apiGlyphapiGlyph_L1_w (N : Nat) (l_0 : List TGlyph) (c_0 : Bool) {R : AExit → ATm → List AObj → Prop} : ∀ (n : Nat) (i_1 : Int) (o : (Unit) ⊕ (Unit)), slices_IsSortedFunc_apiGlyphapiGlyph_L1 N l_0 n i_1 = some o → (match o with | .inl _ => R (.exit 0) ⟨25, [], []⟩ [] | .inr (_) => R .ret ⟨25, [(4, .bool false)], []⟩ []) →
    ALp Go.Proofs.Try.prog 0 B51_1 ⟨25, [(0, .vec c_0 (List.map eTGlyph l_0)), (1, .fn (.func 52) [] []), (5, .int .i64 i_1)], []⟩ [] R := by
  intro n
  induction n with
  | zero =>
    intro i_1 o h _
    have h0 : none = some o := h
    cases h0
  | succ n ih =>
    intro i_1 o h hp
    rw [slices_IsSortedFunc_apiGlyphapiGlyph_L1] at h
    refine ALp.round ?_
    generalize hQ : RoundQ _ _ _ _ = QQ
    simp only [B51_1, A51, go_sem, reduceIte, reduceCtorEq, Nat.reduceEqDiff, Nat.reduceLT, Nat.reduceLeDiff, Nat.reduceAdd, Nat.reduceSub, Nat.reduceMul, Int.reduceToNat, Int.reduceLE, Int.reduceLT, Int.reduceAdd, Int.reduceSub, Int.reduceMul, Int.reduceEq, Int.reduceNeg]
    by_cases h_2 : 0 < i_1
    · rw [if_pos h_2] at h
      have e_3 : (0 < i_1) = True := eq_true h_2
      obtain ⟨x_4, h_5, h⟩ := bindS h
      have e_6 : (List.map eTGlyph l_0)[(i_1).toNat]? = some [.int .i64 x_4.Id, .int .i64 x_4.Cluster, .int .i64 x_4.Mask, .int .i64 x_4.Syl, .int .i32 x_4.Code, .int .i64 x_4.Cat, .int .i64 x_4.Pos, .int .i64 x_4.Key, .int .i64 x_4.Lig, .int .i64 x_4.Part, .int .i64 x_4.X, .int .i64 x_4.Y, .int .i64 x_4.Wide, .int .i64 x_4.High] := atI_map eTGlyph h_5
      have e_7 : ((0 : Int) ≤ i_1) = True := eq_true (atI_some h_5).1
      have e_8 : ((i_1 : Int) < (l_0.length : Int)) = True := eq_true (atI_lt h_5)
      obtain ⟨x_9, h_10, h⟩ := bindS h
      have e_11 : (List.map eTGlyph l_0)[(IntKind.i64.wrap (i_1 - 1)).toNat]? = some [.int .i64 x_9.Id, .int .i64 x_9.Cluster, .int .i64 x_9.Mask, .int .i64 x_9.Syl, .int .i32 x_9.Code, .int .i64 x_9.Cat, .int .i64 x_9.Pos, .int .i64 x_9.Key, .int .i64 x_9.Lig, .int .i64 x_9.Part, .int .i64 x_9.X, .int .i64 x_9.Y, .int .i64 x_9.Wide, .int .i64 x_9.High] := atI_map eTGlyph h_10
      have e_12 : ((0 : Int) ≤ IntKind.i64.wrap (i_1 - 1)) = True := eq_true (atI_some h_10).1
      have e_13 : ((IntKind.i64.wrap (i_1 - 1) : Int) < (l_0.length : Int)) = True := eq_true (atI_lt h_10)
      obtain ⟨y_14, h_15, h⟩ := bindS h
      simp only [e_3, e_6, e_7, e_8, e_11, e_12, e_13, go_sem, reduceIte, reduceCtorEq, Nat.reduceEqDiff, Nat.reduceLT, Nat.reduceLeDiff, Nat.reduceAdd, Nat.reduceSub, Nat.reduceMul, Int.reduceToNat, Int.reduceLE, Int.reduceLT, Int.reduceAdd, Int.reduceSub, Int.reduceMul, Int.reduceEq, Int.reduceNeg]
      refine ACalls.use0 (buffer_Rise_1_w N _ _ _ _ _ _ _ _ _ _ _ _ _ _ _ _ _ _ _ _ _ _ _ _ _ _ _ _ _ h_15) rfl rfl ?_
      simp only [e_3, e_6, e_7, e_8, e_11, e_12, e_13, go_sem, reduceIte, reduceCtorEq, Nat.reduceEqDiff, Nat.reduceLT, Nat.reduceLeDiff, Nat.reduceAdd, Nat.reduceSub, Nat.reduceMul, Int.reduceToNat, Int.reduceLE, Int.reduceLT, Int.reduceAdd, Int.reduceSub, Int.reduceMul, Int.reduceEq, Int.reduceNeg]
      by_cases h_16 : y_14 < 0
      · rw [if_pos h_16] at h
        have e_17 : (y_14 < 0) = True := eq_true h_16
        simp only [e_3, e_6, e_7, e_8, e_11, e_12, e_13, e_17, go_sem, reduceIte, reduceCtorEq, Nat.reduceEqDiff, Nat.reduceLT, Nat.reduceLeDiff, Nat.reduceAdd, Nat.reduceSub, Nat.reduceMul, Int.reduceToNat, Int.reduceLE, Int.reduceLT, Int.reduceAdd, Int.reduceSub, Int.reduceMul, Int.reduceEq, Int.reduceNeg]
        have g := Option.some.inj h
        subst g
        rw [← hQ]
        exact ⟨_, _, (Ref.out [4] rfl), hp⟩
      · rw [if_neg h_16] at h
        have e_17 : (y_14 < 0) = False := eq_false h_16
        simp only [e_3, e_6, e_7, e_8, e_11, e_12, e_13, e_17, go_sem, reduceIte, reduceCtorEq, Nat.reduceEqDiff, Nat.reduceLT, Nat.reduceLeDiff, Nat.reduceAdd, Nat.reduceSub, Nat.reduceMul, Int.reduceToNat, Int.reduceLE, Int.reduceLT, Int.reduceAdd, Int.reduceSub, Int.reduceMul, Int.reduceEq, Int.reduceNeg]
        rw [← hQ]
        exact ⟨_, _, (Ref.out [0, 1, 5] rfl), (Nat.zero_le _), ih _ _ h hp⟩
    · rw [if_neg h_2] at h
      have e_3 : (0 < i_1) = False := eq_false h_2
      simp only [e_3, go_sem, reduceIte, reduceCtorEq, Nat.reduceEqDiff, Nat.reduceLT, Nat.reduceLeDiff, Nat.reduceAdd, Nat.reduceSub, Nat.reduceMul, Int.reduceToNat, Int.reduceLE, Int.reduceLT, Int.reduceAdd, Int.reduceSub, Int.reduceMul, Int.reduceEq, Int.reduceNeg]
      have g := Option.some.inj h
      subst g
      rw [← hQ]
      exact ⟨_, _, (Ref.out [] rfl), hp⟩
theorem slices_IsSortedFunc_apiGlyphapiGlyph_w (N : Nat) (l_0 : List TGlyph) (c_0 : Bool) (z_1 : Bool) (h : slices_IsSortedFunc_apiGlyphapiGlyph N l_0 = some z_1) :
    ACalls Go.Proofs.Try.prog 51 [.vec c_0 (List.map eTGlyph l_0), .fn (.func 52) [] []] [] (fun e H => H = [] ∧ e = .ret (.bool z_1)) := by
  unfold slices_IsSortedFunc_apiGlyphapiGlyph at h
  refine ACalls.goN Go.Proofs.Try.func51 n51 a51 Go.Proofs.Try.ntmps51 r51 (by simp) 0 rfl ?_
  generalize hQ : bodyA _ _ _ = QQ
  simp only [A51, go_sem, reduceIte, reduceCtorEq, Nat.reduceEqDiff, Nat.reduceLT, Nat.reduceLeDiff, Nat.reduceAdd, Nat.reduceSub, Nat.reduceMul, Int.reduceToNat, Int.reduceLE, Int.reduceLT, Int.reduceAdd, Int.reduceSub, Int.reduceMul, Int.reduceEq, Int.reduceNeg]
  obtain ⟨o_1002, h_1001, h⟩ := bindS h
  refine ALp.ref (Ref.out [0, 1, 5] rfl) (Nat.zero_le _) (slices_IsSortedFunc_apiGlyphapiGlyph_L1_w N _ c_0 N _ o_1002 h_1001 ?_)
  rcases o_1002 with _ | _
  · try dsimp only at h
    refine LoopK_go rfl (Nat.zero_le _) ?_
    simp only [go_sem, reduceIte, reduceCtorEq, Nat.reduceEqDiff, Nat.reduceLT, Nat.reduceLeDiff, Nat.reduceAdd, Nat.reduceSub, Nat.reduceMul, Int.reduceToNat, Int.reduceLE, Int.reduceLT, Int.reduceAdd, Int.reduceSub, Int.reduceMul, Int.reduceEq, Int.reduceNeg]
    have g_0 := Option.some.inj h
    subst g_0
    rw [← hQ]
    exact ⟨rfl, _, rfl, _, _, (RefV.out rfl), rfl, rfl⟩
  · try dsimp only at h
    refine LoopK_ret ?_
    have g_0 := Option.some.inj h
    subst g_0
    rw [← hQ]
    exact ⟨rfl, _, rfl, _, _, (RefV.out rfl), rfl, rfl⟩
theorem buffer_Rise_w (N : Nat) (l_0 : List TGlyph) (c_0 : Bool) (z_1 : Bool) (h : buffer_Rise N l_0 = some z_1) :
    ACalls Go.Proofs.Try.prog 13 [.vec c_0 (List.map eTGlyph l_0)] [] (fun e H => H = [] ∧ e = .ret (.bool z_1)) := by
  unfold buffer_Rise at h
  refine ACalls.goN Go.Proofs.Try.func13 n13 a13 Go.Proofs.Try.ntmps13 r13 (by simp) 0 rfl ?_
  generalize hQ : bodyA _ _ _ = QQ
  obtain ⟨y_1, h_2, h⟩ := bindS h
  simp only [A13, go_sem, reduceIte, reduceCtorEq, Nat.reduceEqDiff, Nat.reduceLT, Nat.reduceLeDiff, Nat.reduceAdd, Nat.reduceSub, Nat.reduceMul, Int.reduceToNat, Int.reduceLE, Int.reduceLT, Int.reduceAdd, Int.reduceSub, Int.reduceMul, Int.reduceEq, Int.reduceNeg]
  refine ACalls.use0 (slices_IsSortedFunc_apiGlyphapiGlyph_w N _ _ _ h_2) rfl rfl ?_
  refine CallK_go (Nat.zero_le _) ?_
  simp only [go_sem, reduceIte, reduceCtorEq, Nat.reduceEqDiff, Nat.reduceLT, Nat.reduceLeDiff, Nat.reduceAdd, Nat.reduceSub, Nat.reduceMul, Int.reduceToNat, Int.reduceLE, Int.reduceLT, Int.reduceAdd, Int.reduceSub, Int.reduceMul, Int.reduceEq, Int.reduceNeg]
  have g_0 := Option.some.inj h
  subst g_0
  rw [← hQ]
  exact ⟨rfl, _, rfl, _, _, (RefV.out rfl), rfl, rfl⟩
theorem slices_Clone_apiGlyphapiGlyph_w (N : Nat) (l_0 : List TGlyph) (c_0 : Bool) (z_1 : List TGlyph) (h : slices_Clone_apiGlyphapiGlyph N l_0 = some z_1) :
    ACalls Go.Proofs.Try.prog 53 [.vec c_0 (List.map eTGlyph l_0)] [] (fun e H => H = [.mem 14 (List.map eTGlyph z_1) 32] ∧ e = .ret (.row 0 0 z_1.length)) := by
  unfold slices_Clone_apiGlyphapiGlyph at h
  refine ACalls.goN Go.Proofs.Try.func53 n53 a53 Go.Proofs.Try.ntmps53 r53 (by simp) 0 rfl ?_
  generalize hQ : bodyA _ _ _ = QQ
  simp only [A53, go_sem, reduceIte, reduceCtorEq, Nat.reduceEqDiff, Nat.reduceLT, Nat.reduceLeDiff, Nat.reduceAdd, Nat.reduceSub, Nat.reduceMul, Int.reduceToNat, Int.reduceLE, Int.reduceLT, Int.reduceAdd, Int.reduceSub, Int.reduceMul, Int.reduceEq, Int.reduceNeg]
  by_cases h_1 : l_0 = []
  · rw [if_pos h_1] at h
    have e_2 : l_0 = [] := h_1
    simp only [e_2, go_sem, reduceIte, reduceCtorEq, Nat.reduceEqDiff, Nat.reduceLT, Nat.reduceLeDiff, Nat.reduceAdd, Nat.reduceSub, Nat.reduceMul, Int.reduceToNat, Int.reduceLE, Int.reduceLT, Int.reduceAdd, Int.reduceSub, Int.reduceMul, Int.reduceEq, Int.reduceNeg]
    refine ⟨?_, ?_⟩
    · skip
      try simp only [e_2, go_sem, reduceIte, reduceCtorEq, Nat.reduceEqDiff, Nat.reduceLT, Nat.reduceLeDiff, Nat.reduceAdd, Nat.reduceSub, Nat.reduceMul, Int.reduceToNat, Int.reduceLE, Int.reduceLT, Int.reduceAdd, Int.reduceSub, Int.reduceMul, Int.reduceEq, Int.reduceNeg]
      have g_0 := Option.some.inj h
      subst g_0
      rw [← hQ]
      exact ⟨rfl, _, rfl, _, _, (RefV.trans (RefV.thaw0 (Nat.zero_le _) (sz := 14) (by decide) 32) (RefV.std [0] (by decide) low0 rfl (by first | rfl | simp only [go_sem, reduceIte, Nat.reduceEqDiff, Nat.reduceAdd, e_2]))), rfl, rfl⟩
    · skip
      try simp only [e_2, go_sem, reduceIte, reduceCtorEq, Nat.reduceEqDiff, Nat.reduceLT, Nat.reduceLeDiff, Nat.reduceAdd, Nat.reduceSub, Nat.reduceMul, Int.reduceToNat, Int.reduceLE, Int.reduceLT, Int.reduceAdd, Int.reduceSub, Int.reduceMul, Int.reduceEq, Int.reduceNeg]
      have g_0 := Option.some.inj h
      subst g_0
      rw [← hQ]
      exact ⟨rfl, _, rfl, _, _, (RefV.std [0] (by decide) low0 rfl (by first | rfl | simp only [go_sem, reduceIte, Nat.reduceEqDiff, Nat.reduceAdd, e_2])), rfl, rfl⟩
  · rw [if_neg h_1] at h
    have e_2 : (l_0.length = 0) = False := eq_false (fun q => h_1 (List.eq_nil_of_length_eq_zero q))
    have e_3 : ((List.map eTGlyph l_0)).all (fun el => el.length == 14) = true := all_len _ eTGlyph 14 (fun _ => rfl)
    obtain ⟨h_4, h⟩ := guardS h
    have e_5 : (l_0.length * 112 ≤ 140737488355328) = True := eq_true h_4
    simp only [e_2, e_3, e_5, go_sem, reduceIte, reduceCtorEq, Nat.reduceEqDiff, Nat.reduceLT, Nat.reduceLeDiff, Nat.reduceAdd, Nat.reduceSub, Nat.reduceMul, Int.reduceToNat, Int.reduceLE, Int.reduceLT, Int.reduceAdd, Int.reduceSub, Int.reduceMul, Int.reduceEq, Int.reduceNeg]
    have g_0 := Option.some.inj h
    subst g_0
    rw [← hQ]
    exact ⟨rfl, _, rfl, _, _, (RefV.std [0] (by decide) low0 rfl (by first | rfl | simp only [go_sem, reduceIte, Nat.reduceEqDiff, Nat.reduceAdd, e_2])), rfl, rfl⟩
theorem buffer_Merge_L1_w (N : Nat) (l_0 : List TGlyph) (a_1 : Int) (a_2 : Int) (y_1 : List TGlyph) (c_0 : Bool) {R : AExit → ATm → List AObj → Prop} : ∀ (n : Nat) (i_22 : Int) (i_23 : Int) (o : Int), buffer_Merge_L1 N l_0 a_1 a_2 y_1 n i_22 i_23 = some o → (match o with | z_1 => R (.exit 0) ⟨101, [(0, .vec c_0 (List.map eTGlyph l_0)), (1, .int .i64 a_1), (2, .int .i64 a_2), (7, .row 0 0 y_1.length), (8, .int .i64 z_1)], []⟩ [.mem 14 (List.map eTGlyph y_1) 32]) →
    ALp Go.Proofs.Try.prog 0 B16_1 ⟨101, [(0, .vec c_0 (List.map eTGlyph l_0)), (1, .int .i64 a_1), (2, .int .i64 a_2), (7, .row 0 0 y_1.length), (8, .int .i64 i_22), (38, .vec false (List.map eTGlyph (slI l_0 a_1 a_2))), (39, .int .i64 (((slI l_0 a_1 a_2).length : Nat) : Int)), (40, .int .i64 i_23)], []⟩ [.mem 14 (List.map eTGlyph y_1) 32] R := by
  intro n
  induction n with
  | zero =>
    intro i_22 i_23 o h _
    have h0 : none = some o := h
    cases h0
  | succ n ih =>
    intro i_22 i_23 o h hp
    rw [buffer_Merge_L1] at h
    refine ALp.round ?_
    generalize hQ : RoundQ _ _ _ _ = QQ
    simp only [B16_1, A16, go_sem, reduceIte, reduceCtorEq, Nat.reduceEqDiff, Nat.reduceLT, Nat.reduceLeDiff, Nat.reduceAdd, Nat.reduceSub, Nat.reduceMul, Int.reduceToNat, Int.reduceLE, Int.reduceLT, Int.reduceAdd, Int.reduceSub, Int.reduceMul, Int.reduceEq, Int.reduceNeg]
    by_cases h_24 : i_23 < (((slI l_0 a_1 a_2).length : Nat) : Int)
    · rw [if_pos h_24] at h
      have e_25 : (i_23 < (((slI l_0 a_1 a_2).length : Nat) : Int)) = True := eq_true h_24
      obtain ⟨x_26, h_27, h⟩ := bindS h
      have e_28 : (List.map eTGlyph (slI l_0 a_1 a_2))[(i_23).toNat]? = some [.int .i64 x_26.Id, .int .i64 x_26.Cluster, .int .i64 x_26.Mask, .int .i64 x_26.Syl, .int .i32 x_26.Code, .int .i64 x_26.Cat, .int .i64 x_26.Pos, .int .i64 x_26.Key, .int .i64 x_26.Lig, .int .i64 x_26.Part, .int .i64 x_26.X, .int .i64 x_26.Y, .int .i64 x_26.Wide, .int .i64 x_26.High] := atI_map eTGlyph h_27
      have e_29 : ((0 : Int) ≤ i_23) = True := eq_true (atI_some h_27).1
      have e_30 : ((i_23 : Int) < ((slI l_0 a_1 a_2).length : Int)) = True := eq_true (atI_lt h_27)
      simp only [e_25, e_28, e_29, e_30, go_sem, reduceIte, reduceCtorEq, Nat.reduceEqDiff, Nat.reduceLT, Nat.reduceLeDiff, Nat.reduceAdd, Nat.reduceSub, Nat.reduceMul, Int.reduceToNat, Int.reduceLE, Int.reduceLT, Int.reduceAdd, Int.reduceSub, Int.reduceMul, Int.reduceEq, Int.reduceNeg]
      rw [← hQ]
      exact ⟨_, _, (Ref.std [0, 1, 2, 7, 8, 38, 39, 40] [0] (by decide) low0 rfl (by first | rfl | simp only [go_sem, reduceIte, Nat.reduceEqDiff, Nat.reduceAdd])), (Nat.zero_le _), ih _ _ _ h hp⟩
    · rw [if_neg h_24] at h
      have e_25 : (i_23 < (((slI l_0 a_1 a_2).length : Nat) : Int)) = False := eq_false h_24
      simp only [e_25, go_sem, reduceIte, reduceCtorEq, Nat.reduceEqDiff, Nat.reduceLT, Nat.reduceLeDiff, Nat.reduceAdd, Nat.reduceSub, Nat.reduceMul, Int.reduceToNat, Int.reduceLE, Int.reduceLT, Int.reduceAdd, Int.reduceSub, Int.reduceMul, Int.reduceEq, Int.reduceNeg]
      have g := Option.some.inj h
      subst g
      rw [← hQ]
      exact ⟨_, _, (Ref.std [0, 1, 2, 7, 8] [0] (by decide) low0 rfl (by first | rfl | simp only [go_sem, reduceIte, Nat.reduceEqDiff, Nat.reduceAdd])), hp⟩
theorem buffer_Merge_L2_w (N : Nat) (l_0 : List TGlyph) (a_1 : Int) (a_2 : Int) (y_1023 : Int) (y_1 : List TGlyph) (c_0 : Bool) {R : AExit → ATm → List AObj → Prop} : ∀ (n : Nat) (i_1024 : Int) (o : Int), buffer_Merge_L2 N l_0 a_1 a_2 y_1023 y_1 n i_1024 = some o → (match o with | z_1 => R (.exit 2) ⟨101, [(0, .vec c_0 (List.map eTGlyph l_0)), (2, .int .i64 a_2), (7, .row 0 0 y_1.length), (8, .int .i64 y_1023), (11, .int .i64 z_1), (12, .int .i64 a_2)], []⟩ [.mem 14 (List.map eTGlyph y_1) 32]) →
    ALp Go.Proofs.Try.prog 0 B16_2 ⟨101, [(0, .vec c_0 (List.map eTGlyph l_0)), (1, .int .i64 a_1), (2, .int .i64 a_2), (7, .row 0 0 y_1.length), (8, .int .i64 y_1023), (11, .int .i64 i_1024), (12, .int .i64 a_2)], []⟩ [.mem 14 (List.map eTGlyph y_1) 32] R := by
  intro n
  induction n with
  | zero =>
    intro i_1024 o h _
    have h0 : none = some o := h
    cases h0
  | succ n ih =>
    intro i_1024 o h hp
    rw [buffer_Merge_L2] at h
    refine ALp.round ?_
    generalize hQ : RoundQ _ _ _ _ = QQ
    simp only [B16_2, A16, go_sem, reduceIte, reduceCtorEq, Nat.reduceEqDiff, Nat.reduceLT, Nat.reduceLeDiff, Nat.reduceAdd, Nat.reduceSub, Nat.reduceMul, Int.reduceToNat, Int.reduceLE, Int.reduceLT, Int.reduceAdd, Int.reduceSub, Int.reduceMul, Int.reduceEq, Int.reduceNeg]
    by_cases h_1025 : 0 < i_1024
    · rw [if_pos h_1025] at h
      have e_1026 : (0 < i_1024) = True := eq_true h_1025
      obtain ⟨x_1027, h_1028, h⟩ := bindS h
      have e_1029 : (List.map eTGlyph l_0)[(IntKind.i64.wrap (i_1024 - 1)).toNat]? = some [.int .i64 x_1027.Id, .int .i64 x_1027.Cluster, .int .i64 x_1027.Mask, .int .i64 x_1027.Syl, .int .i32 x_1027.Code, .int .i64 x_1027.Cat, .int .i64 x_1027.Pos, .int .i64 x_1027.Key, .int .i64 x_1027.Lig, .int .i64 x_1027.Part, .int .i64 x_1027.X, .int .i64 x_1027.Y, .int .i64 x_1027.Wide, .int .i64 x_1027.High] := atI_map eTGlyph h_1028
      have e_1030 : ((0 : Int) ≤ IntKind.i64.wrap (i_1024 - 1)) = True := eq_true (atI_some h_1028).1
      have e_1031 : ((IntKind.i64.wrap (i_1024 - 1) : Int) < (l_0.length : Int)) = True := eq_true (atI_lt h_1028)
      obtain ⟨x_1032, h_1033, h⟩ := bindS h
      have e_1034 : (List.map eTGlyph l_0)[(a_1).toNat]? = some [.int .i64 x_1032.Id, .int .i64 x_1032.Cluster, .int .i64 x_1032.Mask, .int .i64 x_1032.Syl, .int .i32 x_1032.Code, .int .i64 x_1032.Cat, .int .i64 x_1032.Pos, .int .i64 x_1032.Key, .int .i64 x_1032.Lig, .int .i64 x_1032.Part, .int .i64 x_1032.X, .int .i64 x_1032.Y, .int .i64 x_1032.Wide, .int .i64 x_1032.High] := atI_map eTGlyph h_1033
      have e_1035 : ((0 : Int) ≤ a_1) = True := eq_true (atI_some h_1033).1
      have e_1036 : ((a_1 : Int) < (l_0.length : Int)) = True := eq_true (atI_lt h_1033)
      simp only [e_1026, e_1029, e_1030, e_1031, e_1034, e_1035, e_1036, go_sem, reduceIte, reduceCtorEq, Nat.reduceEqDiff, Nat.reduceLT, Nat.reduceLeDiff, Nat.reduceAdd, Nat.reduceSub, Nat.reduceMul, Int.reduceToNat, Int.reduceLE, Int.reduceLT, Int.reduceAdd, Int.reduceSub, Int.reduceMul, Int.reduceEq, Int.reduceNeg]
      by_cases h_1037 : x_1027.Cluster = x_1032.Cluster
      · rw [if_pos h_1037] at h
        have e_1038 : (x_1027.Cluster = x_1032.Cluster) = True := eq_true h_1037
        simp only [e_1026, e_1029, e_1030, e_1031, e_1034, e_1035, e_1036, e_1038, go_sem, reduceIte, reduceCtorEq, Nat.reduceEqDiff, Nat.reduceLT, Nat.reduceLeDiff, Nat.reduceAdd, Nat.reduceSub, Nat.reduceMul, Int.reduceToNat, Int.reduceLE, Int.reduceLT, Int.reduceAdd, Int.reduceSub, Int.reduceMul, Int.reduceEq, Int.reduceNeg]
        rw [← hQ]
        exact ⟨_, _, (Ref.std [0, 1, 2, 7, 8, 11, 12] [0] (by decide) low0 rfl (by first | rfl | simp only [go_sem, reduceIte, Nat.reduceEqDiff, Nat.reduceAdd])), (Nat.zero_le _), ih _ _ h hp⟩
      · rw [if_neg h_1037] at h
        have e_1038 : (x_1027.Cluster = x_1032.Cluster) = False := eq_false h_1037
        simp only [e_1026, e_1029, e_1030, e_1031, e_1034, e_1035, e_1036, e_1038, go_sem, reduceIte, reduceCtorEq, Nat.reduceEqDiff, Nat.reduceLT, Nat.reduceLeDiff, Nat.reduceAdd, Nat.reduceSub, Nat.reduceMul, Int.reduceToNat, Int.reduceLE, Int.reduceLT, Int.reduceAdd, Int.reduceSub, Int.reduceMul, Int.reduceEq, Int.reduceNeg]
        have g := Option.some.inj h
        subst g
        rw [← hQ]
        exact ⟨_, _, (Ref.std [0, 2, 7, 8, 11, 12] [0] (by decide) low0 rfl (by first | rfl | simp only [go_sem, reduceIte, Nat.reduceEqDiff, Nat.reduceAdd])), hp⟩
    · rw [if_neg h_1025] at h
      have e_1026 : (0 < i_1024) = False := eq_false h_1025
      simp only [e_1026, go_sem, reduceIte, reduceCtorEq, Nat.reduceEqDiff, Nat.reduceLT, Nat.reduceLeDiff, Nat.reduceAdd, Nat.reduceSub, Nat.reduceMul, Int.reduceToNat, Int.reduceLE, Int.reduceLT, Int.reduceAdd, Int.reduceSub, Int.reduceMul, Int.reduceEq, Int.reduceNeg]
      have g := Option.some.inj h
      subst g
      rw [← hQ]
      exact ⟨_, _, (Ref.std [0, 2, 7, 8, 11, 12] [0] (by decide) low0 rfl (by first | rfl | simp only [go_sem, reduceIte, Nat.reduceEqDiff, Nat.reduceAdd])), hp⟩
theorem buffer_Merge_L3_w (N : Nat) (l_0 : List TGlyph) (a_2 : Int) (y_1023 : Int) (y_2025 : Int) (y_1 : List TGlyph) (c_0 : Bool) {R : AExit → ATm → List AObj → Prop} : ∀ (n : Nat) (i_2026 : Int) (o : Int), buffer_Merge_L3 N l_0 a_2 y_1023 y_2025 y_1 n i_2026 = some o → (match o with | z_1 => R (.exit 4) ⟨101, [(7, .row 0 0 y_1.length), (8, .int .i64 y_1023), (11, .int .i64 y_2025), (12, .int .i64 z_1)], []⟩ [.mem 14 (List.map eTGlyph y_1) 32]) →
    ALp Go.Proofs.Try.prog 0 B16_3 ⟨101, [(0, .vec c_0 (List.map eTGlyph l_0)), (2, .int .i64 a_2), (7, .row 0 0 y_1.length), (8, .int .i64 y_1023), (11, .int .i64 y_2025), (12, .int .i64 i_2026)], []⟩ [.mem 14 (List.map eTGlyph y_1) 32] R := by
  intro n
  induction n with
  | zero =>
    intro i_2026 o h _
    have h0 : none = some o := h
    cases h0
  | succ n ih =>
    intro i_2026 o h hp
    rw [buffer_Merge_L3] at h
    refine ALp.round ?_
    generalize hQ : RoundQ _ _ _ _ = QQ
    simp only [B16_3, A16, go_sem, reduceIte, reduceCtorEq, Nat.reduceEqDiff, Nat.reduceLT, Nat.reduceLeDiff, Nat.reduceAdd, Nat.reduceSub, Nat.reduceMul, Int.reduceToNat, Int.reduceLE, Int.reduceLT, Int.reduceAdd, Int.reduceSub, Int.reduceMul, Int.reduceEq, Int.reduceNeg]
    by_cases h_2027 : i_2026 < (l_0.length : Int)
    · rw [if_pos h_2027] at h
      have e_2028 : (i_2026 < (l_0.length : Int)) = True := eq_true h_2027
      obtain ⟨x_2029, h_2030, h⟩ := bindS h
      have e_2031 : (List.map eTGlyph l_0)[(i_2026).toNat]? = some [.int .i64 x_2029.Id, .int .i64 x_2029.Cluster, .int .i64 x_2029.Mask, .int .i64 x_2029.Syl, .int .i32 x_2029.Code, .int .i64 x_2029.Cat, .int .i64 x_2029.Pos, .int .i64 x_2029.Key, .int .i64 x_2029.Lig, .int .i64 x_2029.Part, .int .i64 x_2029.X, .int .i64 x_2029.Y, .int .i64 x_2029.Wide, .int .i64 x_2029.High] := atI_map eTGlyph h_2030
      have e_2032 : ((0 : Int) ≤ i_2026) = True := eq_true (atI_some h_2030).1
      have e_2033 : ((i_2026 : Int) < (l_0.length : Int)) = True := eq_true (atI_lt h_2030)
      obtain ⟨x_2034, h_2035, h⟩ := bindS h
      have e_2036 : (List.map eTGlyph l_0)[(IntKind.i64.wrap (a_2 - 1)).toNat]? = some [.int .i64 x_2034.Id, .int .i64 x_2034.Cluster, .int .i64 x_2034.Mask, .int .i64 x_2034.Syl, .int .i32 x_2034.Code, .int .i64 x_2034.Cat, .int .i64 x_2034.Pos, .int .i64 x_2034.Key, .int .i64 x_2034.Lig, .int .i64 x_2034.Part, .int .i64 x_2034.X, .int .i64 x_2034.Y, .int .i64 x_2034.Wide, .int .i64 x_2034.High] := atI_map eTGlyph h_2035
      have e_2037 : ((0 : Int) ≤ IntKind.i64.wrap (a_2 - 1)) = True := eq_true (atI_some h_2035).1
      have e_2038 : ((IntKind.i64.wrap (a_2 - 1) : Int) < (l_0.length : Int)) = True := eq_true (atI_lt h_2035)
      simp only [e_2028, e_2031, e_2032, e_2033, e_2036, e_2037, e_2038, go_sem, reduceIte, reduceCtorEq, Nat.reduceEqDiff, Nat.reduceLT, Nat.reduceLeDiff, Nat.reduceAdd, Nat.reduceSub, Nat.reduceMul, Int.reduceToNat, Int.reduceLE, Int.reduceLT, Int.reduceAdd, Int.reduceSub, Int.reduceMul, Int.reduceEq, Int.reduceNeg]
      by_cases h_2039 : x_2029.Cluster = x_2034.Cluster
      · rw [if_pos h_2039] at h
        have e_2040 : (x_2029.Cluster = x_2034.Cluster) = True := eq_true h_2039
        simp only [e_2028, e_2031, e_2032, e_2033, e_2036, e_2037, e_2038, e_2040, go_sem, reduceIte, reduceCtorEq, Nat.reduceEqDiff, Nat.reduceLT, Nat.reduceLeDiff, Nat.reduceAdd, Nat.reduceSub, Nat.reduceMul, Int.reduceToNat, Int.reduceLE, Int.reduceLT, Int.reduceAdd, Int.reduceSub, Int.reduceMul, Int.reduceEq, Int.reduceNeg]
        rw [← hQ]
        exact ⟨_, _, (Ref.std [0, 2, 7, 8, 11, 12] [0] (by decide) low0 rfl (by first | rfl | simp only [go_sem, reduceIte, Nat.reduceEqDiff, Nat.reduceAdd])), (Nat.zero_le _), ih _ _ h hp⟩
      · rw [if_neg h_2039] at h
        have e_2040 : (x_2029.Cluster = x_2034.Cluster) = False := eq_false h_2039
        simp only [e_2028, e_2031, e_2032, e_2033, e_2036, e_2037, e_2038, e_2040, go_sem, reduceIte, reduceCtorEq, Nat.reduceEqDiff, Nat.reduceLT, Nat.reduceLeDiff, Nat.reduceAdd, Nat.reduceSub, Nat.reduceMul, Int.reduceToNat, Int.reduceLE, Int.reduceLT, Int.reduceAdd, Int.reduceSub, Int.reduceMul, Int.reduceEq, Int.reduceNeg]
        have g := Option.some.inj h
        subst g
        rw [← hQ]
        exact ⟨_, _, (Ref.std [7, 8, 11, 12] [0] (by decide) low0 rfl (by first | rfl | simp only [go_sem, reduceIte, Nat.reduceEqDiff, Nat.reduceAdd])), hp⟩
    · rw [if_neg h_2027] at h
      have e_2028 : (i_2026 < (l_0.length : Int)) = False := eq_false h_2027
      simp only [e_2028, go_sem, reduceIte, reduceCtorEq, Nat.reduceEqDiff, Nat.reduceLT, Nat.reduceLeDiff, Nat.reduceAdd, Nat.reduceSub, Nat.reduceMul, Int.reduceToNat, Int.reduceLE, Int.reduceLT, Int.reduceAdd, Int.reduceSub, Int.reduceMul, Int.reduceEq, Int.reduceNeg]
      have g := Option.some.inj h
      subst g
      rw [← hQ]
      exact ⟨_, _, (Ref.std [7, 8, 11, 12] [0] (by decide) low0 rfl (by first | rfl | simp only [go_sem, reduceIte, Nat.reduceEqDiff, Nat.reduceAdd])), hp⟩
theorem buffer_Merge_L4_w (N : Nat) (y_1023 : Int) (y_3027 : Int) {R : AExit → ATm → List AObj → Prop} : ∀ (n : Nat) (i_3028 : Int) (s_3029 : List TGlyph) (o : (List TGlyph)), buffer_Merge_L4 N y_1023 y_3027 n i_3028 s_3029 = some o → (match o with | z_1 => R (.exit 6) ⟨101, [(7, .row 0 0 z_1.length)], []⟩ [.mem 14 (List.map eTGlyph z_1) 32]) →
    ALp Go.Proofs.Try.prog 0 B16_4 ⟨101, [(7, .row 0 0 s_3029.length), (8, .int .i64 y_1023), (12, .int .i64 y_3027), (13, .int .i64 i_3028)], []⟩ [.mem 14 (List.map eTGlyph s_3029) 32] R := by
  intro n
  induction n with
  | zero =>
    intro i_3028 s_3029 o h _
    have h0 : none = some o := h
    cases h0
  | succ n ih =>
    intro i_3028 s_3029 o h hp
    rw [buffer_Merge_L4] at h
    refine ALp.round ?_
    generalize hQ : RoundQ _ _ _ _ = QQ
    simp only [B16_4, A16, go_sem, reduceIte, reduceCtorEq, Nat.reduceEqDiff, Nat.reduceLT, Nat.reduceLeDiff, Nat.reduceAdd, Nat.reduceSub, Nat.reduceMul, Int.reduceToNat, Int.reduceLE, Int.reduceLT, Int.reduceAdd, Int.reduceSub, Int.reduceMul, Int.reduceEq, Int.reduceNeg]
    by_cases h_3030 : i_3028 < y_3027
    · rw [if_pos h_3030] at h
      have e_3031 : (i_3028 < y_3027) = True := eq_true h_3030
      obtain ⟨x_3032, h_3033, h⟩ := bindS h
      have e_3034 : (List.map eTGlyph s_3029)[(i_3028).toNat]? = some [.int .i64 x_3032.Id, .int .i64 x_3032.Cluster, .int .i64 x_3032.Mask, .int .i64 x_3032.Syl, .int .i32 x_3032.Code, .int .i64 x_3032.Cat, .int .i64 x_3032.Pos, .int .i64 x_3032.Key, .int .i64 x_3032.Lig, .int .i64 x_3032.Part, .int .i64 x_3032.X, .int .i64 x_3032.Y, .int .i64 x_3032.Wide, .int .i64 x_3032.High] := atI_map eTGlyph h_3033
      have e_3035 : ((0 : Int) ≤ i_3028) = True := eq_true (atI_some h_3033).1
      have e_3036 : ((i_3028 : Int) < (s_3029.length : Int)) = True := eq_true (atI_lt h_3033)
      have e_3037 : (List.map eTGlyph s_3029).set (i_3028).toNat [.int .i64 x_3032.Id, .int .i64 y_1023, .int .i64 x_3032.Mask, .int .i64 x_3032.Syl, .int .i32 x_3032.Code, .int .i64 x_3032.Cat, .int .i64 x_3032.Pos, .int .i64 x_3032.Key, .int .i64 x_3032.Lig, .int .i64 x_3032.Part, .int .i64 x_3032.X, .int .i64 x_3032.Y, .int .i64 x_3032.Wide, .int .i64 x_3032.High] = List.map eTGlyph (List.set s_3029 (i_3028).toNat (TGlyph.mk x_3032.Id y_1023 x_3032.Mask x_3032.Syl x_3032.Code x_3032.Cat x_3032.Pos x_3032.Key x_3032.Lig x_3032.Part x_3032.X x_3032.Y x_3032.Wide x_3032.High)) := set_map s_3029 eTGlyph (i_3028).toNat (TGlyph.mk x_3032.Id y_1023 x_3032.Mask x_3032.Syl x_3032.Code x_3032.Cat x_3032.Pos x_3032.Key x_3032.Lig x_3032.Part x_3032.X x_3032.Y x_3032.Wide x_3032.High)
      simp only [e_3031, e_3034, e_3035, e_3036, e_3037, go_sem, reduceIte, reduceCtorEq, Nat.reduceEqDiff, Nat.reduceLT, Nat.reduceLeDiff, Nat.reduceAdd, Nat.reduceSub, Nat.reduceMul, Int.reduceToNat, Int.reduceLE, Int.reduceLT, Int.reduceAdd, Int.reduceSub, Int.reduceMul, Int.reduceEq, Int.reduceNeg]
      rw [← hQ]
      exact ⟨_, _, (Ref.std [7, 8, 12, 13] [0] (by decide) low0 (by first | rfl | simp only [go_sem, reduceIte, Nat.reduceEqDiff, Nat.reduceAdd]) (by first | rfl | simp only [go_sem, reduceIte, Nat.reduceEqDiff, Nat.reduceAdd])), (Nat.zero_le _), ih _ _ _ h hp⟩
    · rw [if_neg h_3030] at h
      have e_3031 : (i_3028 < y_3027) = False := eq_false h_3030
      simp only [e_3031, go_sem, reduceIte, reduceCtorEq, Nat.reduceEqDiff, Nat.reduceLT, Nat.reduceLeDiff, Nat.reduceAdd, Nat.reduceSub, Nat.reduceMul, Int.reduceToNat, Int.reduceLE, Int.reduceLT, Int.reduceAdd, Int.reduceSub, Int.reduceMul, Int.reduceEq, Int.reduceNeg]
      have g := Option.some.inj h
      subst g
      rw [← hQ]
      exact ⟨_, _, (Ref.std [7] [0] (by decide) low0 rfl (by first | rfl | simp only [go_sem, reduceIte, Nat.reduceEqDiff, Nat.reduceAdd])), hp⟩
theorem buffer_Merge_w (N : Nat) (l_0 : List TGlyph) (a_1 : Int) (a_2 : Int) (c_0 : Bool) (z_1 : List TGlyph) (h : buffer_Merge N l_0 a_1 a_2 = some z_1) :
    ACalls Go.Proofs.Try.prog 16 [.vec c_0 (List.map eTGlyph l_0), .int .i64 a_1, .int .i64 a_2] [] (fun e H => H = [.mem 14 (List.map eTGlyph z_1) 32] ∧ e = .ret (.row 0 0 z_1.length)) := by
  unfold buffer_Merge at h
  refine ACalls.goN Go.Proofs.Try.func16 n16 a16 Go.Proofs.Try.ntmps16 r16 (by simp) 0 rfl ?_
  generalize hQ : bodyA _ _ _ = QQ
  obtain ⟨y_1, h_2, h⟩ := bindS h
  simp only [A16, go_sem, reduceIte, reduceCtorEq, Nat.reduceEqDiff, Nat.reduceLT, Nat.reduceLeDiff, Nat.reduceAdd, Nat.reduceSub, Nat.reduceMul, Int.reduceToNat, Int.reduceLE, Int.reduceLT, Int.reduceAdd, Int.reduceSub, Int.reduceMul, Int.reduceEq, Int.reduceNeg]
  refine ACalls.use (slices_Clone_apiGlyphapiGlyph_w N _ _ _ h_2) [] (by decide) trivial rfl (v' := .row 0 0 y_1.length) (by first | rfl | simp only [go_sem, reduceIte, Nat.reduceEqDiff, Nat.reduceAdd]) (H' := [.mem 14 (List.map eTGlyph y_1) 32]) (by first | rfl | simp only [go_sem, reduceIte, Nat.reduceEqDiff, Nat.reduceAdd]) ?_
  refine CallK_go (Nat.zero_le _) ?_
  simp only [go_sem, reduceIte, reduceCtorEq, Nat.reduceEqDiff, Nat.reduceLT, Nat.reduceLeDiff, Nat.reduceAdd, Nat.reduceSub, Nat.reduceMul, Int.reduceToNat, Int.reduceLE, Int.reduceLT, Int.reduceAdd, Int.reduceSub, Int.reduceMul, Int.reduceEq, Int.reduceNeg]
  by_cases h_3 : a_1 < 0
  · rw [if_pos h_3] at h
    have e_4 : (a_1 < 0) = True := eq_true h_3
    simp only [e_4, go_sem, reduceIte, reduceCtorEq, Nat.reduceEqDiff, Nat.reduceLT, Nat.reduceLeDiff, Nat.reduceAdd, Nat.reduceSub, Nat.reduceMul, Int.reduceToNat, Int.reduceLE, Int.reduceLT, Int.reduceAdd, Int.reduceSub, Int.reduceMul, Int.reduceEq, Int.reduceNeg]
    have g_0 := Option.some.inj h
    subst g_0
    rw [← hQ]
    exact ⟨rfl, _, rfl, _, _, (RefV.std [0] (by decide) low0 rfl (by first | rfl | simp only [go_sem, reduceIte, Nat.reduceEqDiff, Nat.reduceAdd, e_4])), rfl, rfl⟩
  · rw [if_neg h_3] at h
    have e_4 : (a_1 < 0) = False := eq_false h_3
    simp only [e_4, go_sem, reduceIte, reduceCtorEq, Nat.reduceEqDiff, Nat.reduceLT, Nat.reduceLeDiff, Nat.reduceAdd, Nat.reduceSub, Nat.reduceMul, Int.reduceToNat, Int.reduceLE, Int.reduceLT, Int.reduceAdd, Int.reduceSub, Int.reduceMul, Int.reduceEq, Int.reduceNeg]
    by_cases h_5 : (l_0.length : Int) < a_2
    · rw [if_pos h_5] at h
      have e_6 : ((l_0.length : Int) < a_2) = True := eq_true h_5
      simp only [e_4, e_6, go_sem, reduceIte, reduceCtorEq, Nat.reduceEqDiff, Nat.reduceLT, Nat.reduceLeDiff, Nat.reduceAdd, Nat.reduceSub, Nat.reduceMul, Int.reduceToNat, Int.reduceLE, Int.reduceLT, Int.reduceAdd, Int.reduceSub, Int.reduceMul, Int.reduceEq, Int.reduceNeg]
      have g_0 := Option.some.inj h
      subst g_0
      rw [← hQ]
      exact ⟨rfl, _, rfl, _, _, (RefV.std [0] (by decide) low0 rfl (by first | rfl | simp only [go_sem, reduceIte, Nat.reduceEqDiff, Nat.reduceAdd, e_4, e_6])), rfl, rfl⟩
    · rw [if_neg h_5] at h
      have e_6 : ((l_0.length : Int) < a_2) = False := eq_false h_5
      simp only [e_4, e_6, go_sem, reduceIte, reduceCtorEq, Nat.reduceEqDiff, Nat.reduceLT, Nat.reduceLeDiff, Nat.reduceAdd, Nat.reduceSub, Nat.reduceMul, Int.reduceToNat, Int.reduceLE, Int.reduceLT, Int.reduceAdd, Int.reduceSub, Int.reduceMul, Int.reduceEq, Int.reduceNeg]
      by_cases h_7 : a_2 ≤ a_1
      · rw [if_pos h_7] at h
        have e_8 : (a_2 ≤ a_1) = True := eq_true h_7
        simp only [e_4, e_6, e_8, go_sem, reduceIte, reduceCtorEq, Nat.reduceEqDiff, Nat.reduceLT, Nat.reduceLeDiff, Nat.reduceAdd, Nat.reduceSub, Nat.reduceMul, Int.reduceToNat, Int.reduceLE, Int.reduceLT, Int.reduceAdd, Int.reduceSub, Int.reduceMul, Int.reduceEq, Int.reduceNeg]
        have g_0 := Option.some.inj h
        subst g_0
        rw [← hQ]
        exact ⟨rfl, _, rfl, _, _, (RefV.std [0] (by decide) low0 rfl (by first | rfl | simp only [go_sem, reduceIte, Nat.reduceEqDiff, Nat.reduceAdd, e_4, e_6, e_8])), rfl, rfl⟩
      · rw [if_neg h_7] at h
        have e_8 : (a_2 ≤ a_1) = False := eq_false h_7
        obtain ⟨x_9, h_10, h⟩ := bindS h
        have e_11 : (List.map eTGlyph l_0)[(a_1).toNat]? = some [.int .i64 x_9.Id, .int .i64 x_9.Cluster, .int .i64 x_9.Mask, .int .i64 x_9.Syl, .int .i32 x_9.Code, .int .i64 x_9.Cat, .int .i64 x_9.Pos, .int .i64 x_9.Key, .int .i64 x_9.Lig, .int .i64 x_9.Part, .int .i64 x_9.X, .int .i64 x_9.Y, .int .i64 x_9.Wide, .int .i64 x_9.High] := atI_map eTGlyph h_10
        have e_12 : ((0 : Int) ≤ a_1) = True := eq_true (atI_some h_10).1
        have e_13 : ((a_1 : Int) < (l_0.length : Int)) = True := eq_true (atI_lt h_10)
        obtain ⟨h_14, h⟩ := guardS h
        have e_15 : (0 ≤ a_1) = True := eq_true h_14
        obtain ⟨h_16, h⟩ := guardS h
        have e_17 : (a_1 ≤ a_2) = True := eq_true h_16
        obtain ⟨h_18, h⟩ := guardS h
        have e_19 : (a_2 ≤ (l_0.length : Int)) = True := eq_true h_18
        have e_20 : ((List.map eTGlyph l_0)).all (fun el => el.length == 14) = true := all_len _ eTGlyph 14 (fun _ => rfl)
        have e_21 : List.take ((a_2).toNat - (a_1).toNat) (List.drop (a_1).toNat (List.map eTGlyph l_0)) = List.map eTGlyph (slI l_0 a_1 a_2) := slI_map l_0 a_1 a_2 eTGlyph
        simp only [e_4, e_6, e_8, e_11, e_12, e_13, e_15, e_17, e_19, e_20, e_21, go_sem, reduceIte, reduceCtorEq, Nat.reduceEqDiff, Nat.reduceLT, Nat.reduceLeDiff, Nat.reduceAdd, Nat.reduceSub, Nat.reduceMul, Int.reduceToNat, Int.reduceLE, Int.reduceLT, Int.reduceAdd, Int.reduceSub, Int.reduceMul, Int.reduceEq, Int.reduceNeg]
        obtain ⟨y_1023, h_1022, h⟩ := bindS h
        refine ALp.ref (Ref.trans (Ref.std (l' := [(0, .vec c_0 (List.map eTGlyph l_0)), (1, .int .i64 a_1), (2, .int .i64 a_2), (7, .row 0 0 y_1.length), (8, .int .i64 x_9.Cluster), (38, .vec _ (List.map eTGlyph (slI l_0 a_1 a_2))), (39, .int .i64 (((slI l_0 a_1 a_2).length : Nat) : Int)), (40, .int .i64 0)]) (H' := [.mem 14 (List.map eTGlyph y_1) 32]) [0, 1, 2, 7, 8, 38, 39, 40] [0] (by decide) low0 rfl (by first | rfl | simp only [go_sem, reduceIte, Nat.reduceEqDiff, Nat.reduceAdd])) (Ref.weak (WkT.cons (Wk.refl _) (WkT.cons (Wk.refl _) (WkT.cons (Wk.refl _) (WkT.cons (Wk.refl _) (WkT.cons (Wk.refl _) (WkT.cons Wk.vec (WkT.cons (Wk.refl _) (WkT.cons (Wk.refl _) (WkT.nil))))))))) (WkH.cons (WkO.refl _) (WkH.nil)))) (Nat.zero_le _) (buffer_Merge_L1_w N _ _ _ _ c_0 N _ _ y_1023 h_1022 ?_)
        refine LoopK_go rfl (Nat.zero_le _) ?_
        simp only [e_4, e_6, e_8, e_11, e_12, e_13, e_15, e_17, e_19, e_20, e_21, go_sem, reduceIte, reduceCtorEq, Nat.reduceEqDiff, Nat.reduceLT, Nat.reduceLeDiff, Nat.reduceAdd, Nat.reduceSub, Nat.reduceMul, Int.reduceToNat, Int.reduceLE, Int.reduceLT, Int.reduceAdd, Int.reduceSub, Int.reduceMul, Int.reduceEq, Int.reduceNeg]
        obtain ⟨y_2025, h_2024, h⟩ := bindS h
        refine ALp.ref (Ref.std [0, 1, 2, 7, 8, 11, 12] [0] (by decide) low0 rfl (by first | rfl | simp only [go_sem, reduceIte, Nat.reduceEqDiff, Nat.reduceAdd])) (Nat.zero_le _) (buffer_Merge_L2_w N _ _ _ _ _ c_0 N _ y_2025 h_2024 ?_)
        refine LoopK_go rfl (Nat.zero_le _) ?_
        simp only [e_4, e_6, e_8, e_11, e_12, e_13, e_15, e_17, e_19, e_20, e_21, go_sem, reduceIte, reduceCtorEq, Nat.reduceEqDiff, Nat.reduceLT, Nat.reduceLeDiff, Nat.reduceAdd, Nat.reduceSub, Nat.reduceMul, Int.reduceToNat, Int.reduceLE, Int.reduceLT, Int.reduceAdd, Int.reduceSub, Int.reduceMul, Int.reduceEq, Int.reduceNeg]
        obtain ⟨y_3027, h_3026, h⟩ := bindS h
        refine ALp.ref (Ref.std [0, 2, 7, 8, 11, 12] [0] (by decide) low0 rfl (by first | rfl | simp only [go_sem, reduceIte, Nat.reduceEqDiff, Nat.reduceAdd])) (Nat.zero_le _) (buffer_Merge_L3_w N _ _ _ _ _ c_0 N _ y_3027 h_3026 ?_)
        refine LoopK_go rfl (Nat.zero_le _) ?_
        simp only [e_4, e_6, e_8, e_11, e_12, e_13, e_15, e_17, e_19, e_20, e_21, go_sem, reduceIte, reduceCtorEq, Nat.reduceEqDiff, Nat.reduceLT, Nat.reduceLeDiff, Nat.reduceAdd, Nat.reduceSub, Nat.reduceMul, Int.reduceToNat, Int.reduceLE, Int.reduceLT, Int.reduceAdd, Int.reduceSub, Int.reduceMul, Int.reduceEq, Int.reduceNeg]
        obtain ⟨y_4029, h_4028, h⟩ := bindS h
        refine ALp.ref (Ref.std [7, 8, 12, 13] [0] (by decide) low0 rfl (by first | rfl | simp only [go_sem, reduceIte, Nat.reduceEqDiff, Nat.reduceAdd])) (Nat.zero_le _) (buffer_Merge_L4_w N _ _ N _ _ y_4029 h_4028 ?_)
        refine LoopK_go rfl (Nat.zero_le _) ?_
        simp only [e_4, e_6, e_8, e_11, e_12, e_13, e_15, e_17, e_19, e_20, e_21, go_sem, reduceIte, reduceCtorEq, Nat.reduceEqDiff, Nat.reduceLT, Nat.reduceLeDiff, Nat.reduceAdd, Nat.reduceSub, Nat.reduceMul, Int.reduceToNat, Int.reduceLE, Int.reduceLT, Int.reduceAdd, Int.reduceSub, Int.reduceMul, Int.reduceEq, Int.reduceNeg]
        have g_0 := Option.some.inj h
        subst g_0
        rw [← hQ]
        exact ⟨rfl, _, rfl, _, _, (RefV.std [0] (by decide) low0 rfl (by first | rfl | simp only [go_sem, reduceIte, Nat.reduceEqDiff, Nat.reduceAdd, e_4, e_6, e_8])), rfl, rfl⟩
theorem buffer_Replace_L1_w (N : Nat) (y_19 : List TGlyph) (a_1 : Int) (a_2 : Int) (l_3 : List Int) (x_21 : TGlyph) (c_1 : Bool) {R : AExit → ATm → List AObj → Prop} : ∀ (n : Nat) (i_36 : Int) (s_37 : List TGlyph) (o : (List TGlyph)), buffer_Replace_L1 N y_19 a_1 a_2 l_3 x_21 n i_36 s_37 = some o → (match o with | z_1 => R (.exit 0) ⟨114, [(0, .vec false (List.map eTGlyph y_19)), (1, .int .i64 a_1), (2, .int .i64 a_2), (3, .vec c_1 (List.map eI64 l_3)), (9, .ptr 0 0 0), (10, .row 1 0 z_1.length)], []⟩ [.box [.int .i64 x_21.Id, .int .i64 x_21.Cluster, .int .i64 x_21.Mask, .int .i64 x_21.Syl, .int .i32 x_21.Code, .int .i64 x_21.Cat, .int .i64 x_21.Pos, .int .i64 x_21.Key, .int .i64 x_21.Lig, .int .i64 x_21.Part, .int .i64 x_21.X, .int .i64 x_21.Y, .int .i64 x_21.Wide, .int .i64 x_21.High] 32, .mem 14 (List.map eTGlyph z_1) 32]) →
    ALp Go.Proofs.Try.prog 0 B18_1 ⟨114, [(0, .vec false (List.map eTGlyph y_19)), (1, .int .i64 a_1), (2, .int .i64 a_2), (3, .vec c_1 (List.map eI64 l_3)), (9, .ptr 0 0 0), (10, .row 1 0 s_37.length), (55, .vec c_1 (List.map eI64 l_3)), (56, .int .i64 (l_3.length : Int)), (57, .int .i64 i_36)], []⟩ [.box [.int .i64 x_21.Id, .int .i64 x_21.Cluster, .int .i64 x_21.Mask, .int .i64 x_21.Syl, .int .i32 x_21.Code, .int .i64 x_21.Cat, .int .i64 x_21.Pos, .int .i64 x_21.Key, .int .i64 x_21.Lig, .int .i64 x_21.Part, .int .i64 x_21.X, .int .i64 x_21.Y, .int .i64 x_21.Wide, .int .i64 x_21.High] 32, .mem 14 (List.map eTGlyph s_37) 32] R := by
  intro n
  induction n with
  | zero =>
    intro i_36 s_37 o h _
    have h0 : none = some o := h
    cases h0
  | succ n ih =>
    intro i_36 s_37 o h hp
    rw [buffer_Replace_L1] at h
    refine ALp.round ?_
    generalize hQ : RoundQ _ _ _ _ = QQ
    simp only [B18_1, A18, go_sem, reduceIte, reduceCtorEq, Nat.reduceEqDiff, Nat.reduceLT, Nat.reduceLeDiff, Nat.reduceAdd, Nat.reduceSub, Nat.reduceMul, Int.reduceToNat, Int.reduceLE, Int.reduceLT, Int.reduceAdd, Int.reduceSub, Int.reduceMul, Int.reduceEq, Int.reduceNeg]
    by_cases h_38 : i_36 < (l_3.length : Int)
    · rw [if_pos h_38] at h
      have e_39 : (i_36 < (l_3.length : Int)) = True := eq_true h_38
      obtain ⟨x_40, h_41, h⟩ := bindS h
      have e_42 : (List.map eI64 l_3)[(i_36).toNat]? = some [.int .i64 x_40] := atI_map eI64 h_41
      have e_43 : ((0 : Int) ≤ i_36) = True := eq_true (atI_some h_41).1
      have e_44 : ((i_36 : Int) < (l_3.length : Int)) = True := eq_true (atI_lt h_41)
      have e_45 : List.take s_37.length (List.map eTGlyph s_37) = (List.map eTGlyph s_37) := List.take_of_length_le (by simp)
      have e_46 : (List.map eTGlyph s_37) ++ [[.int .i64 x_40, .int .i64 x_21.Cluster, .int .i64 x_21.Mask, .int .i64 x_21.Syl, .int .i32 x_21.Code, .int .i64 x_21.Cat, .int .i64 x_21.Pos, .int .i64 x_21.Key, .int .i64 x_21.Lig, .int .i64 x_21.Part, .int .i64 x_21.X, .int .i64 x_21.Y, .int .i64 x_21.Wide, .int .i64 x_21.High]] = (List.map eTGlyph (s_37 ++ [TGlyph.mk x_40 x_21.Cluster x_21.Mask x_21.Syl x_21.Code x_21.Cat x_21.Pos x_21.Key x_21.Lig x_21.Part x_21.X x_21.Y x_21.Wide x_21.High])) := app_map s_37 ([TGlyph.mk x_40 x_21.Cluster x_21.Mask x_21.Syl x_21.Code x_21.Cat x_21.Pos x_21.Key x_21.Lig x_21.Part x_21.X x_21.Y x_21.Wide x_21.High]) eTGlyph
      obtain ⟨h_47, h⟩ := guardS h
      have e_48 : ((s_37.length + 1) * 112 ≤ 140737488355328) = True := eq_true h_47
      simp only [e_39, e_42, e_43, e_44, e_45, e_46, e_48, go_sem, reduceIte, reduceCtorEq, Nat.reduceEqDiff, Nat.reduceLT, Nat.reduceLeDiff, Nat.reduceAdd, Nat.reduceSub, Nat.reduceMul, Int.reduceToNat, Int.reduceLE, Int.reduceLT, Int.reduceAdd, Int.reduceSub, Int.reduceMul, Int.reduceEq, Int.reduceNeg]
      rw [← hQ]
      exact ⟨_, _, (Ref.std [0, 1, 2, 3, 9, 10, 55, 56, 57] [0, 3] (by decide) low0 (by first | rfl | simp only [go_sem, reduceIte, Nat.reduceEqDiff, Nat.reduceAdd]) (by first | rfl | simp only [go_sem, reduceIte, Nat.reduceEqDiff, Nat.reduceAdd])), (Nat.zero_le _), ih _ _ _ h hp⟩
    · rw [if_neg h_38] at h
      have e_39 : (i_36 < (l_3.length : Int)) = False := eq_false h_38
      simp only [e_39, go_sem, reduceIte, reduceCtorEq, Nat.reduceEqDiff, Nat.reduceLT, Nat.reduceLeDiff, Nat.reduceAdd, Nat.reduceSub, Nat.reduceMul, Int.reduceToNat, Int.reduceLE, Int.reduceLT, Int.reduceAdd, Int.reduceSub, Int.reduceMul, Int.reduceEq, Int.reduceNeg]
      have g := Option.some.inj h
      subst g
      rw [← hQ]
      exact ⟨_, _, (Ref.std [0, 1, 2, 3, 9, 10] [0, 1] (by decide) low0 rfl (by first | rfl | simp only [go_sem, reduceIte, Nat.reduceEqDiff, Nat.reduceAdd])), hp⟩
theorem buffer_Replace_L2_w (N : Nat) (x_1055 : TGlyph) (x_21 : TGlyph) {R : AExit → ATm → List AObj → Prop} : ∀ (n : Nat) (i_1059 : Int) (s_1060 : List TGlyph) (o : (List TGlyph)), buffer_Replace_L2 N x_1055 x_21 n i_1059 s_1060 = some o → (match o with | z_1 => R (.exit 2) ⟨114, [(10, .row 0 0 z_1.length)], []⟩ [.mem 14 (List.map eTGlyph z_1) 32]) →
    ALp Go.Proofs.Try.prog 0 B18_2 ⟨114, [(9, .ptr 0 0 0), (10, .row 1 0 s_1060.length), (14, .int .i64 x_1055.Cluster), (15, .int .i64 i_1059)], []⟩ [.box [.int .i64 x_21.Id, .int .i64 x_21.Cluster, .int .i64 x_21.Mask, .int .i64 x_21.Syl, .int .i32 x_21.Code, .int .i64 x_21.Cat, .int .i64 x_21.Pos, .int .i64 x_21.Key, .int .i64 x_21.Lig, .int .i64 x_21.Part, .int .i64 x_21.X, .int .i64 x_21.Y, .int .i64 x_21.Wide, .int .i64 x_21.High] 32, .mem 14 (List.map eTGlyph s_1060) 32] R := by
  intro n
  induction n with
  | zero =>
    intro i_1059 s_1060 o h _
    have h0 : none = some o := h
    cases h0
  | succ n ih =>
    intro i_1059 s_1060 o h hp
    rw [buffer_Replace_L2] at h
    refine ALp.round ?_
    generalize hQ : RoundQ _ _ _ _ = QQ
    simp only [B18_2, A18, go_sem, reduceIte, reduceCtorEq, Nat.reduceEqDiff, Nat.reduceLT, Nat.reduceLeDiff, Nat.reduceAdd, Nat.reduceSub, Nat.reduceMul, Int.reduceToNat, Int.reduceLE, Int.reduceLT, Int.reduceAdd, Int.reduceSub, Int.reduceMul, Int.reduceEq, Int.reduceNeg]
    by_cases h_1061 : i_1059 < (s_1060.length : Int)
    · rw [if_pos h_1061] at h
      have e_1062 : (i_1059 < (s_1060.length : Int)) = True := eq_true h_1061
      obtain ⟨x_1063, h_1064, h⟩ := bindS h
      have e_1065 : (List.map eTGlyph s_1060)[(i_1059).toNat]? = some [.int .i64 x_1063.Id, .int .i64 x_1063.Cluster, .int .i64 x_1063.Mask, .int .i64 x_1063.Syl, .int .i32 x_1063.Code, .int .i64 x_1063.Cat, .int .i64 x_1063.Pos, .int .i64 x_1063.Key, .int .i64 x_1063.Lig, .int .i64 x_1063.Part, .int .i64 x_1063.X, .int .i64 x_1063.Y, .int .i64 x_1063.Wide, .int .i64 x_1063.High] := atI_map eTGlyph h_1064
      have e_1066 : ((0 : Int) ≤ i_1059) = True := eq_true (atI_some h_1064).1
      have e_1067 : ((i_1059 : Int) < (s_1060.length : Int)) = True := eq_true (atI_lt h_1064)
      simp only [e_1062, e_1065, e_1066, e_1067, go_sem, reduceIte, reduceCtorEq, Nat.reduceEqDiff, Nat.reduceLT, Nat.reduceLeDiff, Nat.reduceAdd, Nat.reduceSub, Nat.reduceMul, Int.reduceToNat, Int.reduceLE, Int.reduceLT, Int.reduceAdd, Int.reduceSub, Int.reduceMul, Int.reduceEq, Int.reduceNeg]
      by_cases h_1068 : x_1063.Cluster = x_1055.Cluster
      · rw [if_pos h_1068] at h
        have e_1069 : (x_1063.Cluster = x_1055.Cluster) = True := eq_true h_1068
        have e_1070 : (List.map eTGlyph s_1060).set (i_1059).toNat [.int .i64 x_1063.Id, .int .i64 x_21.Cluster, .int .i64 x_1063.Mask, .int .i64 x_1063.Syl, .int .i32 x_1063.Code, .int .i64 x_1063.Cat, .int .i64 x_1063.Pos, .int .i64 x_1063.Key, .int .i64 x_1063.Lig, .int .i64 x_1063.Part, .int .i64 x_1063.X, .int .i64 x_1063.Y, .int .i64 x_1063.Wide, .int .i64 x_1063.High] = List.map eTGlyph (List.set s_1060 (i_1059).toNat (TGlyph.mk x_1063.Id x_21.Cluster x_1063.Mask x_1063.Syl x_1063.Code x_1063.Cat x_1063.Pos x_1063.Key x_1063.Lig x_1063.Part x_1063.X x_1063.Y x_1063.Wide x_1063.High)) := set_map s_1060 eTGlyph (i_1059).toNat (TGlyph.mk x_1063.Id x_21.Cluster x_1063.Mask x_1063.Syl x_1063.Code x_1063.Cat x_1063.Pos x_1063.Key x_1063.Lig x_1063.Part x_1063.X x_1063.Y x_1063.Wide x_1063.High)
        simp only [e_1062, e_1065, e_1066, e_1067, e_1069, e_1070, go_sem, reduceIte, reduceCtorEq, Nat.reduceEqDiff, Nat.reduceLT, Nat.reduceLeDiff, Nat.reduceAdd, Nat.reduceSub, Nat.reduceMul, Int.reduceToNat, Int.reduceLE, Int.reduceLT, Int.reduceAdd, Int.reduceSub, Int.reduceMul, Int.reduceEq, Int.reduceNeg]
        rw [← hQ]
        exact ⟨_, _, (Ref.std [9, 10, 14, 15] [0, 1] (by decide) low0 (by first | rfl | simp only [go_sem, reduceIte, Nat.reduceEqDiff, Nat.reduceAdd]) (by first | rfl | simp only [go_sem, reduceIte, Nat.reduceEqDiff, Nat.reduceAdd])), (Nat.zero_le _), ih _ _ _ h hp⟩
      · rw [if_neg h_1068] at h
        have e_1069 : (x_1063.Cluster = x_1055.Cluster) = False := eq_false h_1068
        simp only [e_1062, e_1065, e_1066, e_1067, e_1069, go_sem, reduceIte, reduceCtorEq, Nat.reduceEqDiff, Nat.reduceLT, Nat.reduceLeDiff, Nat.reduceAdd, Nat.reduceSub, Nat.reduceMul, Int.reduceToNat, Int.reduceLE, Int.reduceLT, Int.reduceAdd, Int.reduceSub, Int.reduceMul, Int.reduceEq, Int.reduceNeg]
        have g := Option.some.inj h
        subst g
        rw [← hQ]
        exact ⟨_, _, (Ref.std [10] [1] (by decide) low0 rfl (by first | rfl | simp only [go_sem, reduceIte, Nat.reduceEqDiff, Nat.reduceAdd])), hp⟩
    · rw [if_neg h_1061] at h
      have e_1062 : (i_1059 < (s_1060.length : Int)) = False := eq_false h_1061
      simp only [e_1062, go_sem, reduceIte, reduceCtorEq, Nat.reduceEqDiff, Nat.reduceLT, Nat.reduceLeDiff, Nat.reduceAdd, Nat.reduceSub, Nat.reduceMul, Int.reduceToNat, Int.reduceLE, Int.reduceLT, Int.reduceAdd, Int.reduceSub, Int.reduceMul, Int.reduceEq, Int.reduceNeg]
      have g := Option.some.inj h
      subst g
      rw [← hQ]
      exact ⟨_, _, (Ref.std [10] [1] (by decide) low0 rfl (by first | rfl | simp only [go_sem, reduceIte, Nat.reduceEqDiff, Nat.reduceAdd])), hp⟩
theorem buffer_Replace_L3_w (N : Nat) (l_0 : List TGlyph) (a_1 : Int) (a_2 : Int) (l_3 : List Int) (x_2061 : TGlyph) (c_0 : Bool) (c_1 : Bool) {R : AExit → ATm → List AObj → Prop} : ∀ (n : Nat) (i_2076 : Int) (s_2077 : List TGlyph) (o : (List TGlyph)), buffer_Replace_L3 N l_0 a_1 a_2 l_3 x_2061 n i_2076 s_2077 = some o → (match o with | z_1 => R (.exit 0) ⟨114, [(0, .vec c_0 (List.map eTGlyph l_0)), (1, .int .i64 a_1), (2, .int .i64 a_2), (3, .vec c_1 (List.map eI64 l_3)), (9, .ptr 0 0 0), (10, .row 1 0 z_1.length)], []⟩ [.box [.int .i64 x_2061.Id, .int .i64 x_2061.Cluster, .int .i64 x_2061.Mask, .int .i64 x_2061.Syl, .int .i32 x_2061.Code, .int .i64 x_2061.Cat, .int .i64 x_2061.Pos, .int .i64 x_2061.Key, .int .i64 x_2061.Lig, .int .i64 x_2061.Part, .int .i64 x_2061.X, .int .i64 x_2061.Y, .int .i64 x_2061.Wide, .int .i64 x_2061.High] 32, .mem 14 (List.map eTGlyph z_1) 32]) →
    ALp Go.Proofs.Try.prog 0 B18_1 ⟨114, [(0, .vec c_0 (List.map eTGlyph l_0)), (1, .int .i64 a_1), (2, .int .i64 a_2), (3, .vec c_1 (List.map eI64 l_3)), (9, .ptr 0 0 0), (10, .row 1 0 s_2077.length), (55, .vec c_1 (List.map eI64 l_3)), (56, .int .i64 (l_3.length : Int)), (57, .int .i64 i_2076)], []⟩ [.box [.int .i64 x_2061.Id, .int .i64 x_2061.Cluster, .int .i64 x_2061.Mask, .int .i64 x_2061.Syl, .int .i32 x_2061.Code, .int .i64 x_2061.Cat, .int .i64 x_2061.Pos, .int .i64 x_2061.Key, .int .i64 x_2061.Lig, .int .i64 x_2061.Part, .int .i64 x_2061.X, .int .i64 x_2061.Y, .int .i64 x_2061.Wide, .int .i64 x_2061.High] 32, .mem 14 (List.map eTGlyph s_2077) 32] R := by
  intro n
  induction n with
  | zero =>
    intro i_2076 s_2077 o h _
    have h0 : none = some o := h
    cases h0
  | succ n ih =>
    intro i_2076 s_2077 o h hp
    rw [buffer_Replace_L3] at h
    refine ALp.round ?_
    generalize hQ : RoundQ _ _ _ _ = QQ
    simp only [B18_1, A18, go_sem, reduceIte, reduceCtorEq, Nat.reduceEqDiff, Nat.reduceLT, Nat.reduceLeDiff, Nat.reduceAdd, Nat.reduceSub, Nat.reduceMul, Int.reduceToNat, Int.reduceLE, Int.reduceLT, Int.reduceAdd, Int.reduceSub, Int.reduceMul, Int.reduceEq, Int.reduceNeg]
    by_cases h_2078 : i_2076 < (l_3.length : Int)
    · rw [if_pos h_2078] at h
      have e_2079 : (i_2076 < (l_3.length : Int)) = True := eq_true h_2078
      obtain ⟨x_2080, h_2081, h⟩ := bindS h
      have e_2082 : (List.map eI64 l_3)[(i_2076).toNat]? = some [.int .i64 x_2080] := atI_map eI64 h_2081
      have e_2083 : ((0 : Int) ≤ i_2076) = True := eq_true (atI_some h_2081).1
      have e_2084 : ((i_2076 : Int) < (l_3.length : Int)) = True := eq_true (atI_lt h_2081)
      have e_2085 : List.take s_2077.length (List.map eTGlyph s_2077) = (List.map eTGlyph s_2077) := List.take_of_length_le (by simp)
      have e_2086 : (List.map eTGlyph s_2077) ++ [[.int .i64 x_2080, .int .i64 x_2061.Cluster, .int .i64 x_2061.Mask, .int .i64 x_2061.Syl, .int .i32 x_2061.Code, .int .i64 x_2061.Cat, .int .i64 x_2061.Pos, .int .i64 x_2061.Key, .int .i64 x_2061.Lig, .int .i64 x_2061.Part, .int .i64 x_2061.X, .int .i64 x_2061.Y, .int .i64 x_2061.Wide, .int .i64 x_2061.High]] = (List.map eTGlyph (s_2077 ++ [TGlyph.mk x_2080 x_2061.Cluster x_2061.Mask x_2061.Syl x_2061.Code x_2061.Cat x_2061.Pos x_2061.Key x_2061.Lig x_2061.Part x_2061.X x_2061.Y x_2061.Wide x_2061.High])) := app_map s_2077 ([TGlyph.mk x_2080 x_2061.Cluster x_2061.Mask x_2061.Syl x_2061.Code x_2061.Cat x_2061.Pos x_2061.Key x_2061.Lig x_2061.Part x_2061.X x_2061.Y x_2061.Wide x_2061.High]) eTGlyph
      obtain ⟨h_2087, h⟩ := guardS h
      have e_2088 : ((s_2077.length + 1) * 112 ≤ 140737488355328) = True := eq_true h_2087
      simp only [e_2079, e_2082, e_2083, e_2084, e_2085, e_2086, e_2088, go_sem, reduceIte, reduceCtorEq, Nat.reduceEqDiff, Nat.reduceLT, Nat.reduceLeDiff, Nat.reduceAdd, Nat.reduceSub, Nat.reduceMul, Int.reduceToNat, Int.reduceLE, Int.reduceLT, Int.reduceAdd, Int.reduceSub, Int.reduceMul, Int.reduceEq, Int.reduceNeg]
      rw [← hQ]
      exact ⟨_, _, (Ref.std [0, 1, 2, 3, 9, 10, 55, 56, 57] [0, 3] (by decide) low0 (by first | rfl | simp only [go_sem, reduceIte, Nat.reduceEqDiff, Nat.reduceAdd]) (by first | rfl | simp only [go_sem, reduceIte, Nat.reduceEqDiff, Nat.reduceAdd])), (Nat.zero_le _), ih _ _ _ h hp⟩
    · rw [if_neg h_2078] at h
      have e_2079 : (i_2076 < (l_3.length : Int)) = False := eq_false h_2078
      simp only [e_2079, go_sem, reduceIte, reduceCtorEq, Nat.reduceEqDiff, Nat.reduceLT, Nat.reduceLeDiff, Nat.reduceAdd, Nat.reduceSub, Nat.reduceMul, Int.reduceToNat, Int.reduceLE, Int.reduceLT, Int.reduceAdd, Int.reduceSub, Int.reduceMul, Int.reduceEq, Int.reduceNeg]
      have g := Option.some.inj h
      subst g
      rw [← hQ]
      exact ⟨_, _, (Ref.std [0, 1, 2, 3, 9, 10] [0, 1] (by decide) low0 rfl (by first | rfl | simp only [go_sem, reduceIte, Nat.reduceEqDiff, Nat.reduceAdd])), hp⟩
theorem buffer_Replace_w (N : Nat) (l_0 : List TGlyph) (a_1 : Int) (a_2 : Int) (l_3 : List Int) (c_0 : Bool) (c_1 : Bool) (z_1 : List TGlyph) (h : buffer_Replace N l_0 a_1 a_2 l_3 = some z_1) :
    ACalls Go.Proofs.Try.prog 18 [.vec c_0 (List.map eTGlyph l_0), .int .i64 a_1, .int .i64 a_2, .vec c_1 (List.map eI64 l_3)] [] (fun e H => H = [] ∧ e = .ret (.vec false (List.map eTGlyph z_1))) := by
  unfold buffer_Replace at h
  refine ACalls.goN Go.Proofs.Try.func18 n18 a18 Go.Proofs.Try.ntmps18 r18 (by simp) 0 rfl ?_
  generalize hQ : bodyA _ _ _ = QQ
  simp only [A18, go_sem, reduceIte, reduceCtorEq, Nat.reduceEqDiff, Nat.reduceLT, Nat.reduceLeDiff, Nat.reduceAdd, Nat.reduceSub, Nat.reduceMul, Int.reduceToNat, Int.reduceLE, Int.reduceLT, Int.reduceAdd, Int.reduceSub, Int.reduceMul, Int.reduceEq, Int.reduceNeg]
  by_cases h_1 : a_1 < 0
  · rw [if_pos h_1] at h
    have e_2 : (a_1 < 0) = True := eq_true h_1
    obtain ⟨y_3, h_4, h⟩ := bindS h
    simp only [e_2, go_sem, reduceIte, reduceCtorEq, Nat.reduceEqDiff, Nat.reduceLT, Nat.reduceLeDiff, Nat.reduceAdd, Nat.reduceSub, Nat.reduceMul, Int.reduceToNat, Int.reduceLE, Int.reduceLT, Int.reduceAdd, Int.reduceSub, Int.reduceMul, Int.reduceEq, Int.reduceNeg]
    refine ACalls.use (slices_Clone_apiGlyphapiGlyph_w N _ _ _ h_4) [] (by decide) trivial rfl (v' := .row 0 0 y_3.length) (by first | rfl | simp only [go_sem, reduceIte, Nat.reduceEqDiff, Nat.reduceAdd, e_2]) (H' := [.mem 14 (List.map eTGlyph y_3) 32]) (by first | rfl | simp only [go_sem, reduceIte, Nat.reduceEqDiff, Nat.reduceAdd, e_2]) ?_
    refine CallK_go (Nat.zero_le _) ?_
    simp only [e_2, go_sem, reduceIte, reduceCtorEq, Nat.reduceEqDiff, Nat.reduceLT, Nat.reduceLeDiff, Nat.reduceAdd, Nat.reduceSub, Nat.reduceMul, Int.reduceToNat, Int.reduceLE, Int.reduceLT, Int.reduceAdd, Int.reduceSub, Int.reduceMul, Int.reduceEq, Int.reduceNeg]
    have g_0 := Option.some.inj h
    subst g_0
    rw [← hQ]
    exact ⟨rfl, _, rfl, _, _, (RefV.trans (RefV.frz (Nat.zero_le _) (id := 0) rfl (pures_map y_3 eTGlyph (fun _ => rfl))) (RefV.out (by first | rfl | simp only [go_sem, reduceIte, Nat.reduceEqDiff, Nat.reduceAdd, e_2]))), rfl, rfl⟩
  · rw [if_neg h_1] at h
    have e_2 : (a_1 < 0) = False := eq_false h_1
    simp only [e_2, go_sem, reduceIte, reduceCtorEq, Nat.reduceEqDiff, Nat.reduceLT, Nat.reduceLeDiff, Nat.reduceAdd, Nat.reduceSub, Nat.reduceMul, Int.reduceToNat, Int.reduceLE, Int.reduceLT, Int.reduceAdd, Int.reduceSub, Int.reduceMul, Int.reduceEq, Int.reduceNeg]
    by_cases h_5 : a_2 < 1
    · rw [if_pos h_5] at h
      have e_6 : (a_2 < 1) = True := eq_true h_5
      obtain ⟨y_7, h_8, h⟩ := bindS h
      simp only [e_2, e_6, go_sem, reduceIte, reduceCtorEq, Nat.reduceEqDiff, Nat.reduceLT, Nat.reduceLeDiff, Nat.reduceAdd, Nat.reduceSub, Nat.reduceMul, Int.reduceToNat, Int.reduceLE, Int.reduceLT, Int.reduceAdd, Int.reduceSub, Int.reduceMul, Int.reduceEq, Int.reduceNeg]
      refine ACalls.use (slices_Clone_apiGlyphapiGlyph_w N _ _ _ h_8) [] (by decide) trivial rfl (v' := .row 0 0 y_7.length) (by first | rfl | simp only [go_sem, reduceIte, Nat.reduceEqDiff, Nat.reduceAdd, e_2, e_6]) (H' := [.mem 14 (List.map eTGlyph y_7) 32]) (by first | rfl | simp only [go_sem, reduceIte, Nat.reduceEqDiff, Nat.reduceAdd, e_2, e_6]) ?_
      refine CallK_go (Nat.zero_le _) ?_
      simp only [e_2, e_6, go_sem, reduceIte, reduceCtorEq, Nat.reduceEqDiff, Nat.reduceLT, Nat.reduceLeDiff, Nat.reduceAdd, Nat.reduceSub, Nat.reduceMul, Int.reduceToNat, Int.reduceLE, Int.reduceLT, Int.reduceAdd, Int.reduceSub, Int.reduceMul, Int.reduceEq, Int.reduceNeg]
      have g_0 := Option.some.inj h
      subst g_0
      rw [← hQ]
      exact ⟨rfl, _, rfl, _, _, (RefV.trans (RefV.frz (Nat.zero_le _) (id := 0) rfl (pures_map y_7 eTGlyph (fun _ => rfl))) (RefV.out (by first | rfl | simp only [go_sem, reduceIte, Nat.reduceEqDiff, Nat.reduceAdd, e_2, e_6]))), rfl, rfl⟩
    · rw [if_neg h_5] at h
      have e_6 : (a_2 < 1) = False := eq_false h_5
      simp only [e_2, e_6, go_sem, reduceIte, reduceCtorEq, Nat.reduceEqDiff, Nat.reduceLT, Nat.reduceLeDiff, Nat.reduceAdd, Nat.reduceSub, Nat.reduceMul, Int.reduceToNat, Int.reduceLE, Int.reduceLT, Int.reduceAdd, Int.reduceSub, Int.reduceMul, Int.reduceEq, Int.reduceNeg]
      by_cases h_9 : (l_0.length : Int) < a_2
      · rw [if_pos h_9] at h
        have e_10 : ((l_0.length : Int) < a_2) = True := eq_true h_9
        obtain ⟨y_11, h_12, h⟩ := bindS h
        simp only [e_2, e_6, e_10, go_sem, reduceIte, reduceCtorEq, Nat.reduceEqDiff, Nat.reduceLT, Nat.reduceLeDiff, Nat.reduceAdd, Nat.reduceSub, Nat.reduceMul, Int.reduceToNat, Int.reduceLE, Int.reduceLT, Int.reduceAdd, Int.reduceSub, Int.reduceMul, Int.reduceEq, Int.reduceNeg]
        refine ACalls.use (slices_Clone_apiGlyphapiGlyph_w N _ _ _ h_12) [] (by decide) trivial rfl (v' := .row 0 0 y_11.length) (by first | rfl | simp only [go_sem, reduceIte, Nat.reduceEqDiff, Nat.reduceAdd, e_2, e_6, e_10]) (H' := [.mem 14 (List.map eTGlyph y_11) 32]) (by first | rfl | simp only [go_sem, reduceIte, Nat.reduceEqDiff, Nat.reduceAdd, e_2, e_6, e_10]) ?_
        refine CallK_go (Nat.zero_le _) ?_
        simp only [e_2, e_6, e_10, go_sem, reduceIte, reduceCtorEq, Nat.reduceEqDiff, Nat.reduceLT, Nat.reduceLeDiff, Nat.reduceAdd, Nat.reduceSub, Nat.reduceMul, Int.reduceToNat, Int.reduceLE, Int.reduceLT, Int.reduceAdd, Int.reduceSub, Int.reduceMul, Int.reduceEq, Int.reduceNeg]
        have g_0 := Option.some.inj h
        subst g_0
        rw [← hQ]
        exact ⟨rfl, _, rfl, _, _, (RefV.trans (RefV.frz (Nat.zero_le _) (id := 0) rfl (pures_map y_11 eTGlyph (fun _ => rfl))) (RefV.out (by first | rfl | simp only [go_sem, reduceIte, Nat.reduceEqDiff, Nat.reduceAdd, e_2, e_6, e_10]))), rfl, rfl⟩
      · rw [if_neg h_9] at h
        have e_10 : ((l_0.length : Int) < a_2) = False := eq_false h_9
        simp only [e_2, e_6, e_10, go_sem, reduceIte, reduceCtorEq, Nat.reduceEqDiff, Nat.reduceLT, Nat.reduceLeDiff, Nat.reduceAdd, Nat.reduceSub, Nat.reduceMul, Int.reduceToNat, Int.reduceLE, Int.reduceLT, Int.reduceAdd, Int.reduceSub, Int.reduceMul, Int.reduceEq, Int.reduceNeg]
        by_cases h_13 : IntKind.i64.wrap ((l_0.length : Int) - a_2) < a_1
        · rw [if_pos h_13] at h
          have e_14 : (IntKind.i64.wrap ((l_0.length : Int) - a_2) < a_1) = True := eq_true h_13
          obtain ⟨y_15, h_16, h⟩ := bindS h
          simp only [e_2, e_6, e_10, e_14, go_sem, reduceIte, reduceCtorEq, Nat.reduceEqDiff, Nat.reduceLT, Nat.reduceLeDiff, Nat.reduceAdd, Nat.reduceSub, Nat.reduceMul, Int.reduceToNat, Int.reduceLE, Int.reduceLT, Int.reduceAdd, Int.reduceSub, Int.reduceMul, Int.reduceEq, Int.reduceNeg]
          refine ACalls.use (slices_Clone_apiGlyphapiGlyph_w N _ _ _ h_16) [] (by decide) trivial rfl (v' := .row 0 0 y_15.length) (by first | rfl | simp only [go_sem, reduceIte, Nat.reduceEqDiff, Nat.reduceAdd, e_2, e_6, e_10, e_14]) (H' := [.mem 14 (List.map eTGlyph y_15) 32]) (by first | rfl | simp only [go_sem, reduceIte, Nat.reduceEqDiff, Nat.reduceAdd, e_2, e_6, e_10, e_14]) ?_
          refine CallK_go (Nat.zero_le _) ?_
          simp only [e_2, e_6, e_10, e_14, go_sem, reduceIte, reduceCtorEq, Nat.reduceEqDiff, Nat.reduceLT, Nat.reduceLeDiff, Nat.reduceAdd, Nat.reduceSub, Nat.reduceMul, Int.reduceToNat, Int.reduceLE, Int.reduceLT, Int.reduceAdd, Int.reduceSub, Int.reduceMul, Int.reduceEq, Int.reduceNeg]
          have g_0 := Option.some.inj h
          subst g_0
          rw [← hQ]
          exact ⟨rfl, _, rfl, _, _, (RefV.trans (RefV.frz (Nat.zero_le _) (id := 0) rfl (pures_map y_15 eTGlyph (fun _ => rfl))) (RefV.out (by first | rfl | simp only [go_sem, reduceIte, Nat.reduceEqDiff, Nat.reduceAdd, e_2, e_6, e_10, e_14]))), rfl, rfl⟩
        · rw [if_neg h_13] at h
          have e_14 : (IntKind.i64.wrap ((l_0.length : Int) - a_2) < a_1) = False := eq_false h_13
          simp only [e_2, e_6, e_10, e_14, go_sem, reduceIte, reduceCtorEq, Nat.reduceEqDiff, Nat.reduceLT, Nat.reduceLeDiff, Nat.reduceAdd, Nat.reduceSub, Nat.reduceMul, Int.reduceToNat, Int.reduceLE, Int.reduceLT, Int.reduceAdd, Int.reduceSub, Int.reduceMul, Int.reduceEq, Int.reduceNeg]
          by_cases h_17 : 1 < a_2
          · rw [if_pos h_17] at h
            have e_18 : (1 < a_2) = True := eq_true h_17
            obtain ⟨y_19, h_20, h⟩ := bindS h
            simp only [e_2, e_6, e_10, e_14, e_18, go_sem, reduceIte, reduceCtorEq, Nat.reduceEqDiff, Nat.reduceLT, Nat.reduceLeDiff, Nat.reduceAdd, Nat.reduceSub, Nat.reduceMul, Int.reduceToNat, Int.reduceLE, Int.reduceLT, Int.reduceAdd, Int.reduceSub, Int.reduceMul, Int.reduceEq, Int.reduceNeg]
            refine ACalls.use (buffer_Merge_w N _ _ _ _ _ h_20) [] (by decide) trivial rfl (v' := .row 0 0 y_19.length) (by first | rfl | simp only [go_sem, reduceIte, Nat.reduceEqDiff, Nat.reduceAdd, e_2, e_6, e_10, e_14, e_18]) (H' := [.mem 14 (List.map eTGlyph y_19) 32]) (by first | rfl | simp only [go_sem, reduceIte, Nat.reduceEqDiff, Nat.reduceAdd, e_2, e_6, e_10, e_14, e_18]) ?_
            refine CallK_ref (ta1 := ⟨114, [(1, .int .i64 a_1), (2, .int .i64 a_2), (3, .vec c_1 (List.map eI64 l_3)), (45, .vec false (List.map eTGlyph y_19))], []⟩) (H1 := []) (Ref.trans (Ref.frz (Nat.zero_le _) (id := 0) rfl (pures_map y_19 eTGlyph (fun _ => rfl))) (Ref.out [1, 2, 3, 45] (by first | rfl | simp only [go_sem, reduceIte, Nat.reduceEqDiff, Nat.reduceAdd]))) (Nat.zero_le _) ?_
            obtain ⟨x_21, h_22, h⟩ := bindS h
            have e_23 : (List.map eTGlyph y_19)[(a_1).toNat]? = some [.int .i64 x_21.Id, .int .i64 x_21.Cluster, .int .i64 x_21.Mask, .int .i64 x_21.Syl, .int .i32 x_21.Code, .int .i64 x_21.Cat, .int .i64 x_21.Pos, .int .i64 x_21.Key, .int .i64 x_21.Lig, .int .i64 x_21.Part, .int .i64 x_21.X, .int .i64 x_21.Y, .int .i64 x_21.Wide, .int .i64 x_21.High] := atI_map eTGlyph h_22
            have e_24 : ((0 : Int) ≤ a_1) = True := eq_true (atI_some h_22).1
            have e_25 : ((a_1 : Int) < (y_19.length : Int)) = True := eq_true (atI_lt h_22)
            obtain ⟨h_26, h⟩ := guardS h
            have e_27 : (0 ≤ a_1) = True := eq_true h_26
            obtain ⟨h_28, h⟩ := guardS h
            have e_29 : (a_1 ≤ (y_19.length : Int)) = True := eq_true h_28
            have e_30 : ((List.map eTGlyph y_19)).all (fun el => el.length == 14) = true := all_len _ eTGlyph 14 (fun _ => rfl)
            have e_31 : List.take ((a_1).toNat) (List.map eTGlyph y_19) = List.map eTGlyph (slI y_19 0 a_1) := slI_map y_19 0 a_1 eTGlyph
            have e_32 : (decide ((a_1 : Int) = a_1)) = true := decide_eq_true rfl
            have e_33 : ((a_1 : Int) ≤ a_1) = True := eq_true (Int.le_refl _)
            obtain ⟨y_34, h_35, h⟩ := bindS h
            simp only [e_2, e_6, e_10, e_14, e_18, e_23, e_24, e_25, e_27, e_29, e_30, e_31, e_32, e_33, go_sem, reduceIte, reduceCtorEq, Nat.reduceEqDiff, Nat.reduceLT, Nat.reduceLeDiff, Nat.reduceAdd, Nat.reduceSub, Nat.reduceMul, Int.reduceToNat, Int.reduceLE, Int.reduceLT, Int.reduceAdd, Int.reduceSub, Int.reduceMul, Int.reduceEq, Int.reduceNeg]
            refine ACalls.use (slices_Clone_apiGlyphapiGlyph_w N _ _ _ h_35) [] (by decide) trivial rfl (v' := .row 1 0 y_34.length) (by first | rfl | simp only [go_sem, reduceIte, Nat.reduceEqDiff, Nat.reduceAdd]) (H' := [.box [.int .i64 x_21.Id, .int .i64 x_21.Cluster, .int .i64 x_21.Mask, .int .i64 x_21.Syl, .int .i32 x_21.Code, .int .i64 x_21.Cat, .int .i64 x_21.Pos, .int .i64 x_21.Key, .int .i64 x_21.Lig, .int .i64 x_21.Part, .int .i64 x_21.X, .int .i64 x_21.Y, .int .i64 x_21.Wide, .int .i64 x_21.High] 32, .mem 14 (List.map eTGlyph y_34) 32]) (by first | rfl | simp only [go_sem, reduceIte, Nat.reduceEqDiff, Nat.reduceAdd]) ?_
            refine CallK_go (Nat.zero_le _) ?_
            simp only [e_2, e_6, e_10, e_14, e_18, e_23, e_24, e_25, e_27, e_29, e_30, e_31, e_32, e_33, go_sem, reduceIte, reduceCtorEq, Nat.reduceEqDiff, Nat.reduceLT, Nat.reduceLeDiff, Nat.reduceAdd, Nat.reduceSub, Nat.reduceMul, Int.reduceToNat, Int.reduceLE, Int.reduceLT, Int.reduceAdd, Int.reduceSub, Int.reduceMul, Int.reduceEq, Int.reduceNeg]
            obtain ⟨y_1037, h_1036, h⟩ := bindS h
            refine ALp.ref (Ref.std [0, 1, 2, 3, 9, 10, 55, 56, 57] [0, 1] (by decide) low0 rfl (by first | rfl | simp only [go_sem, reduceIte, Nat.reduceEqDiff, Nat.reduceAdd])) (Nat.zero_le _) (buffer_Replace_L1_w N _ _ _ _ _ c_1 N _ _ y_1037 h_1036 ?_)
            refine LoopK_go rfl (Nat.zero_le _) ?_
            obtain ⟨h_1038, h⟩ := guardS h
            have e_1039 : (0 ≤ IntKind.i64.wrap (a_1 + a_2)) = True := eq_true h_1038
            obtain ⟨h_1040, h⟩ := guardS h
            have e_1041 : (IntKind.i64.wrap (a_1 + a_2) ≤ (y_19.length : Int)) = True := eq_true h_1040
            have e_1042 : ((List.map eTGlyph y_19)).all (fun el => el.length == 14) = true := all_len _ eTGlyph 14 (fun _ => rfl)
            have e_1043 : List.take (y_19.length - (IntKind.i64.wrap (a_1 + a_2)).toNat) (List.drop (IntKind.i64.wrap (a_1 + a_2)).toNat (List.map eTGlyph y_19)) = List.map eTGlyph (slI y_19 (IntKind.i64.wrap (a_1 + a_2)) (y_19.length : Int)) := slI_map0 y_19 (IntKind.i64.wrap (a_1 + a_2)) eTGlyph
            have e_1044 : List.take y_1037.length (List.map eTGlyph y_1037) = (List.map eTGlyph y_1037) := List.take_of_length_le (by simp)
            have e_1045 : ((List.map eTGlyph (slI y_19 (IntKind.i64.wrap (a_1 + a_2)) (y_19.length : Int)))).all (fun el => el.length == 14) = true := all_len _ eTGlyph 14 (fun _ => rfl)
            have e_1046 : (List.map eTGlyph y_1037) ++ (List.map eTGlyph (slI y_19 (IntKind.i64.wrap (a_1 + a_2)) (y_19.length : Int))) = (List.map eTGlyph (y_1037 ++ (slI y_19 (IntKind.i64.wrap (a_1 + a_2)) (y_19.length : Int)))) := app_map y_1037 (slI y_19 (IntKind.i64.wrap (a_1 + a_2)) (y_19.length : Int)) eTGlyph
            obtain ⟨h_1047, h⟩ := guardS h
            have e_1048 : ((y_1037.length + (slI y_19 (IntKind.i64.wrap (a_1 + a_2)) (y_19.length : Int)).length) * 112 ≤ 140737488355328) = True := eq_true h_1047
            simp only [e_2, e_6, e_10, e_14, e_18, e_23, e_24, e_25, e_27, e_29, e_30, e_31, e_32, e_33, e_1039, e_1041, e_1042, e_1043, e_1044, e_1045, e_1046, e_1048, go_sem, reduceIte, reduceCtorEq, Nat.reduceEqDiff, Nat.reduceLT, Nat.reduceLeDiff, Nat.reduceAdd, Nat.reduceSub, Nat.reduceMul, Int.reduceToNat, Int.reduceLE, Int.reduceLT, Int.reduceAdd, Int.reduceSub, Int.reduceMul, Int.reduceEq, Int.reduceNeg]
            by_cases h_1049 : a_1 = 0
            · rw [if_pos h_1049] at h
              have e_1050 : (a_1 = 0) = True := eq_true h_1049
              simp only [e_2, e_6, e_10, e_14, e_18, e_23, e_24, e_25, e_27, e_29, e_30, e_31, e_32, e_33, e_1039, e_1041, e_1042, e_1043, e_1044, e_1045, e_1046, e_1048, e_1050, go_sem, reduceIte, reduceCtorEq, Nat.reduceEqDiff, Nat.reduceLT, Nat.reduceLeDiff, Nat.reduceAdd, Nat.reduceSub, Nat.reduceMul, Int.reduceToNat, Int.reduceLE, Int.reduceLT, Int.reduceAdd, Int.reduceSub, Int.reduceMul, Int.reduceEq, Int.reduceNeg]
              by_cases h_1051 : (l_3.length : Int) = 0
              · rw [if_pos h_1051] at h
                have e_1052 : ((l_3.length : Int) = 0) = True := eq_true h_1051
                simp only [e_2, e_6, e_10, e_14, e_18, e_23, e_24, e_25, e_27, e_29, e_30, e_31, e_32, e_33, e_1039, e_1041, e_1042, e_1043, e_1044, e_1045, e_1046, e_1048, e_1050, e_1052, go_sem, reduceIte, reduceCtorEq, Nat.reduceEqDiff, Nat.reduceLT, Nat.reduceLeDiff, Nat.reduceAdd, Nat.reduceSub, Nat.reduceMul, Int.reduceToNat, Int.reduceLE, Int.reduceLT, Int.reduceAdd, Int.reduceSub, Int.reduceMul, Int.reduceEq, Int.reduceNeg]
                by_cases h_1053 : 0 < ((y_1037.length + (slI y_19 (IntKind.i64.wrap (a_1 + a_2)) (y_19.length : Int)).length : Nat) : Int)
                · rw [if_pos h_1053] at h
                  have e_1054 : (0 < ((y_1037.length + (slI y_19 (IntKind.i64.wrap (a_1 + a_2)) (y_19.length : Int)).length : Nat) : Int)) = True := eq_true h_1053
                  obtain ⟨x_1055, h_1056, h⟩ := bindS h
                  have e_1057 : (List.map eTGlyph (y_1037 ++ (slI y_19 (IntKind.i64.wrap (a_1 + a_2)) (y_19.length : Int))))[0]? = some [.int .i64 x_1055.Id, .int .i64 x_1055.Cluster, .int .i64 x_1055.Mask, .int .i64 x_1055.Syl, .int .i32 x_1055.Code, .int .i64 x_1055.Cat, .int .i64 x_1055.Pos, .int .i64 x_1055.Key, .int .i64 x_1055.Lig, .int .i64 x_1055.Part, .int .i64 x_1055.X, .int .i64 x_1055.Y, .int .i64 x_1055.Wide, .int .i64 x_1055.High] := atI_map eTGlyph h_1056
                  have e_1058 : ((0 : Int) < ((y_1037.length + (slI y_19 (IntKind.i64.wrap (a_1 + a_2)) (y_19.length : Int)).length : Nat) : Int)) = True := eq_true (by have := atI_lt h_1056; simpa using this)
                  simp only [e_2, e_6, e_10, e_14, e_18, e_23, e_24, e_25, e_27, e_29, e_30, e_31, e_32, e_33, e_1039, e_1041, e_1042, e_1043, e_1044, e_1045, e_1046, e_1048, e_1050, e_1052, e_1054, e_1057, e_1058, go_sem, reduceIte, reduceCtorEq, Nat.reduceEqDiff, Nat.reduceLT, Nat.reduceLeDiff, Nat.reduceAdd, Nat.reduceSub, Nat.reduceMul, Int.reduceToNat, Int.reduceLE, Int.reduceLT, Int.reduceAdd, Int.reduceSub, Int.reduceMul, Int.reduceEq, Int.reduceNeg]
                  obtain ⟨y_2060, h_2059, h⟩ := bindS h
                  refine ALp.ref (Ref.std [9, 10, 14, 15] [0, 2] (by decide) low0 (by first | rfl | simp only [go_sem, reduceIte, Nat.reduceEqDiff, Nat.reduceAdd]) (by first | rfl | simp only [go_sem, reduceIte, Nat.reduceEqDiff, Nat.reduceAdd])) (Nat.zero_le _) (buffer_Replace_L2_w N _ _ N _ _ y_2060 h_2059 ?_)
                  refine LoopK_go rfl (Nat.zero_le _) ?_
                  simp only [e_2, e_6, e_10, e_14, e_18, e_23, e_24, e_25, e_27, e_29, e_30, e_31, e_32, e_33, e_1039, e_1041, e_1042, e_1043, e_1044, e_1045, e_1046, e_1048, e_1050, e_1052, e_1054, e_1057, e_1058, go_sem, reduceIte, reduceCtorEq, Nat.reduceEqDiff, Nat.reduceLT, Nat.reduceLeDiff, Nat.reduceAdd, Nat.reduceSub, Nat.reduceMul, Int.reduceToNat, Int.reduceLE, Int.reduceLT, Int.reduceAdd, Int.reduceSub, Int.reduceMul, Int.reduceEq, Int.reduceNeg]
                  have g_0 := Option.some.inj h
                  subst g_0
                  rw [← hQ]
                  exact ⟨rfl, _, rfl, _, _, (RefV.trans (RefV.frz (Nat.zero_le _) (id := 0) rfl (pures_map y_2060 eTGlyph (fun _ => rfl))) (RefV.out (by first | rfl | simp only [go_sem, reduceIte, Nat.reduceEqDiff, Nat.reduceAdd, e_2, e_6, e_10, e_14, e_18, e_1050, e_1052, e_1054]))), rfl, rfl⟩
                · rw [if_neg h_1053] at h
                  have e_1054 : (0 < ((y_1037.length + (slI y_19 (IntKind.i64.wrap (a_1 + a_2)) (y_19.length : Int)).length : Nat) : Int)) = False := eq_false h_1053
                  simp only [e_2, e_6, e_10, e_14, e_18, e_23, e_24, e_25, e_27, e_29, e_30, e_31, e_32, e_33, e_1039, e_1041, e_1042, e_1043, e_1044, e_1045, e_1046, e_1048, e_1050, e_1052, e_1054, go_sem, reduceIte, reduceCtorEq, Nat.reduceEqDiff, Nat.reduceLT, Nat.reduceLeDiff, Nat.reduceAdd, Nat.reduceSub, Nat.reduceMul, Int.reduceToNat, Int.reduceLE, Int.reduceLT, Int.reduceAdd, Int.reduceSub, Int.reduceMul, Int.reduceEq, Int.reduceNeg]
                  have g_0 := Option.some.inj h
                  subst g_0
                  rw [← hQ]
                  exact ⟨rfl, _, rfl, _, _, (RefV.trans (RefV.frz (Nat.zero_le _) (id := 2) rfl (pures_map (y_1037 ++ (slI y_19 (IntKind.i64.wrap (a_1 + a_2)) (y_19.length : Int))) eTGlyph (fun _ => rfl))) (RefV.out (by first | rfl | simp only [go_sem, reduceIte, Nat.reduceEqDiff, Nat.reduceAdd, e_2, e_6, e_10, e_14, e_18, e_1050, e_1052, e_1054]))), rfl, rfl⟩
              · rw [if_neg h_1051] at h
                have e_1052 : ((l_3.length : Int) = 0) = False := eq_false h_1051
                simp only [e_2, e_6, e_10, e_14, e_18, e_23, e_24, e_25, e_27, e_29, e_30, e_31, e_32, e_33, e_1039, e_1041, e_1042, e_1043, e_1044, e_1045, e_1046, e_1048, e_1050, e_1052, go_sem, reduceIte, reduceCtorEq, Nat.reduceEqDiff, Nat.reduceLT, Nat.reduceLeDiff, Nat.reduceAdd, Nat.reduceSub, Nat.reduceMul, Int.reduceToNat, Int.reduceLE, Int.reduceLT, Int.reduceAdd, Int.reduceSub, Int.reduceMul, Int.reduceEq, Int.reduceNeg]
                have g_0 := Option.some.inj h
                subst g_0
                rw [← hQ]
                exact ⟨rfl, _, rfl, _, _, (RefV.trans (RefV.frz (Nat.zero_le _) (id := 2) rfl (pures_map (y_1037 ++ (slI y_19 (IntKind.i64.wrap (a_1 + a_2)) (y_19.length : Int))) eTGlyph (fun _ => rfl))) (RefV.out (by first | rfl | simp only [go_sem, reduceIte, Nat.reduceEqDiff, Nat.reduceAdd, e_2, e_6, e_10, e_14, e_18, e_1050, e_1052]))), rfl, rfl⟩
            · rw [if_neg h_1049] at h
              have e_1050 : (a_1 = 0) = False := eq_false h_1049
              simp only [e_2, e_6, e_10, e_14, e_18, e_23, e_24, e_25, e_27, e_29, e_30, e_31, e_32, e_33, e_1039, e_1041, e_1042, e_1043, e_1044, e_1045, e_1046, e_1048, e_1050, go_sem, reduceIte, reduceCtorEq, Nat.reduceEqDiff, Nat.reduceLT, Nat.reduceLeDiff, Nat.reduceAdd, Nat.reduceSub, Nat.reduceMul, Int.reduceToNat, Int.reduceLE, Int.reduceLT, Int.reduceAdd, Int.reduceSub, Int.reduceMul, Int.reduceEq, Int.reduceNeg]
              have g_0 := Option.some.inj h
              subst g_0
              rw [← hQ]
              exact ⟨rfl, _, rfl, _, _, (RefV.trans (RefV.frz (Nat.zero_le _) (id := 2) rfl (pures_map (y_1037 ++ (slI y_19 (IntKind.i64.wrap (a_1 + a_2)) (y_19.length : Int))) eTGlyph (fun _ => rfl))) (RefV.out (by first | rfl | simp only [go_sem, reduceIte, Nat.reduceEqDiff, Nat.reduceAdd, e_2, e_6, e_10, e_14, e_18, e_1050]))), rfl, rfl⟩
          · rw [if_neg h_17] at h
            have e_18 : (1 < a_2) = False := eq_false h_17
            obtain ⟨x_2061, h_2062, h⟩ := bindS h
            have e_2063 : (List.map eTGlyph l_0)[(a_1).toNat]? = some [.int .i64 x_2061.Id, .int .i64 x_2061.Cluster, .int .i64 x_2061.Mask, .int .i64 x_2061.Syl, .int .i32 x_2061.Code, .int .i64 x_2061.Cat, .int .i64 x_2061.Pos, .int .i64 x_2061.Key, .int .i64 x_2061.Lig, .int .i64 x_2061.Part, .int .i64 x_2061.X, .int .i64 x_2061.Y, .int .i64 x_2061.Wide, .int .i64 x_2061.High] := atI_map eTGlyph h_2062
            have e_2064 : ((0 : Int) ≤ a_1) = True := eq_true (atI_some h_2062).1
            have e_2065 : ((a_1 : Int) < (l_0.length : Int)) = True := eq_true (atI_lt h_2062)
            obtain ⟨h_2066, h⟩ := guardS h
            have e_2067 : (0 ≤ a_1) = True := eq_true h_2066
            obtain ⟨h_2068, h⟩ := guardS h
            have e_2069 : (a_1 ≤ (l_0.length : Int)) = True := eq_true h_2068
            have e_2070 : ((List.map eTGlyph l_0)).all (fun el => el.length == 14) = true := all_len _ eTGlyph 14 (fun _ => rfl)
            have e_2071 : List.take ((a_1).toNat) (List.map eTGlyph l_0) = List.map eTGlyph (slI l_0 0 a_1) := slI_map l_0 0 a_1 eTGlyph
            have e_2072 : (decide ((a_1 : Int) = a_1)) = true := decide_eq_true rfl
            have e_2073 : ((a_1 : Int) ≤ a_1) = True := eq_true (Int.le_refl _)
            obtain ⟨y_2074, h_2075, h⟩ := bindS h
            simp only [e_2, e_6, e_10, e_14, e_18, e_2063, e_2064, e_2065, e_2067, e_2069, e_2070, e_2071, e_2072, e_2073, go_sem, reduceIte, reduceCtorEq, Nat.reduceEqDiff, Nat.reduceLT, Nat.reduceLeDiff, Nat.reduceAdd, Nat.reduceSub, Nat.reduceMul, Int.reduceToNat, Int.reduceLE, Int.reduceLT, Int.reduceAdd, Int.reduceSub, Int.reduceMul, Int.reduceEq, Int.reduceNeg]
            refine ACalls.use (slices_Clone_apiGlyphapiGlyph_w N _ _ _ h_2075) [] (by decide) trivial rfl (v' := .row 1 0 y_2074.length) (by first | rfl | simp only [go_sem, reduceIte, Nat.reduceEqDiff, Nat.reduceAdd, e_2, e_6, e_10, e_14, e_18]) (H' := [.box [.int .i64 x_2061.Id, .int .i64 x_2061.Cluster, .int .i64 x_2061.Mask, .int .i64 x_2061.Syl, .int .i32 x_2061.Code, .int .i64 x_2061.Cat, .int .i64 x_2061.Pos, .int .i64 x_2061.Key, .int .i64 x_2061.Lig, .int .i64 x_2061.Part, .int .i64 x_2061.X, .int .i64 x_2061.Y, .int .i64 x_2061.Wide, .int .i64 x_2061.High] 32, .mem 14 (List.map eTGlyph y_2074) 32]) (by first | rfl | simp only [go_sem, reduceIte, Nat.reduceEqDiff, Nat.reduceAdd, e_2, e_6, e_10, e_14, e_18]) ?_
            refine CallK_go (Nat.zero_le _) ?_
            simp only [e_2, e_6, e_10, e_14, e_18, e_2063, e_2064, e_2065, e_2067, e_2069, e_2070, e_2071, e_2072, e_2073, go_sem, reduceIte, reduceCtorEq, Nat.reduceEqDiff, Nat.reduceLT, Nat.reduceLeDiff, Nat.reduceAdd, Nat.reduceSub, Nat.reduceMul, Int.reduceToNat, Int.reduceLE, Int.reduceLT, Int.reduceAdd, Int.reduceSub, Int.reduceMul, Int.reduceEq, Int.reduceNeg]
            obtain ⟨y_3077, h_3076, h⟩ := bindS h
            refine ALp.ref (Ref.std [0, 1, 2, 3, 9, 10, 55, 56, 57] [0, 1] (by decide) low0 rfl (by first | rfl | simp only [go_sem, reduceIte, Nat.reduceEqDiff, Nat.reduceAdd])) (Nat.zero_le _) (buffer_Replace_L3_w N _ _ _ _ _ c_0 c_1 N _ _ y_3077 h_3076 ?_)
            refine LoopK_go rfl (Nat.zero_le _) ?_
            obtain ⟨h_3078, h⟩ := guardS h
            have e_3079 : (0 ≤ IntKind.i64.wrap (a_1 + a_2)) = True := eq_true h_3078
            obtain ⟨h_3080, h⟩ := guardS h
            have e_3081 : (IntKind.i64.wrap (a_1 + a_2) ≤ (l_0.length : Int)) = True := eq_true h_3080
            have e_3082 : ((List.map eTGlyph l_0)).all (fun el => el.length == 14) = true := all_len _ eTGlyph 14 (fun _ => rfl)
            have e_3083 : List.take (l_0.length - (IntKind.i64.wrap (a_1 + a_2)).toNat) (List.drop (IntKind.i64.wrap (a_1 + a_2)).toNat (List.map eTGlyph l_0)) = List.map eTGlyph (slI l_0 (IntKind.i64.wrap (a_1 + a_2)) (l_0.length : Int)) := slI_map0 l_0 (IntKind.i64.wrap (a_1 + a_2)) eTGlyph
            have e_3084 : List.take y_3077.length (List.map eTGlyph y_3077) = (List.map eTGlyph y_3077) := List.take_of_length_le (by simp)
            have e_3085 : ((List.map eTGlyph (slI l_0 (IntKind.i64.wrap (a_1 + a_2)) (l_0.length : Int)))).all (fun el => el.length == 14) = true := all_len _ eTGlyph 14 (fun _ => rfl)
            have e_3086 : (List.map eTGlyph y_3077) ++ (List.map eTGlyph (slI l_0 (IntKind.i64.wrap (a_1 + a_2)) (l_0.length : Int))) = (List.map eTGlyph (y_3077 ++ (slI l_0 (IntKind.i64.wrap (a_1 + a_2)) (l_0.length : Int)))) := app_map y_3077 (slI l_0 (IntKind.i64.wrap (a_1 + a_2)) (l_0.length : Int)) eTGlyph
            obtain ⟨h_3087, h⟩ := guardS h
            have e_3088 : ((y_3077.length + (slI l_0 (IntKind.i64.wrap (a_1 + a_2)) (l_0.length : Int)).length) * 112 ≤ 140737488355328) = True := eq_true h_3087
            simp only [e_2, e_6, e_10, e_14, e_18, e_2063, e_2064, e_2065, e_2067, e_2069, e_2070, e_2071, e_2072, e_2073, e_3079, e_3081, e_3082, e_3083, e_3084, e_3085, e_3086, e_3088, go_sem, reduceIte, reduceCtorEq, Nat.reduceEqDiff, Nat.reduceLT, Nat.reduceLeDiff, Nat.reduceAdd, Nat.reduceSub, Nat.reduceMul, Int.reduceToNat, Int.reduceLE, Int.reduceLT, Int.reduceAdd, Int.reduceSub, Int.reduceMul, Int.reduceEq, Int.reduceNeg]
            by_cases h_3089 : a_1 = 0
            · rw [if_pos h_3089] at h
              have e_3090 : (a_1 = 0) = True := eq_true h_3089
              simp only [e_2, e_6, e_10, e_14, e_18, e_2063, e_2064, e_2065, e_2067, e_2069, e_2070, e_2071, e_2072, e_2073, e_3079, e_3081, e_3082, e_3083, e_3084, e_3085, e_3086, e_3088, e_3090, go_sem, reduceIte, reduceCtorEq, Nat.reduceEqDiff, Nat.reduceLT, Nat.reduceLeDiff, Nat.reduceAdd, Nat.reduceSub, Nat.reduceMul, Int.reduceToNat, Int.reduceLE, Int.reduceLT, Int.reduceAdd, Int.reduceSub, Int.reduceMul, Int.reduceEq, Int.reduceNeg]
              by_cases h_3091 : (l_3.length : Int) = 0
              · rw [if_pos h_3091] at h
                have e_3092 : ((l_3.length : Int) = 0) = True := eq_true h_3091
                simp only [e_2, e_6, e_10, e_14, e_18, e_2063, e_2064, e_2065, e_2067, e_2069, e_2070, e_2071, e_2072, e_2073, e_3079, e_3081, e_3082, e_3083, e_3084, e_3085, e_3086, e_3088, e_3090, e_3092, go_sem, reduceIte, reduceCtorEq, Nat.reduceEqDiff, Nat.reduceLT, Nat.reduceLeDiff, Nat.reduceAdd, Nat.reduceSub, Nat.reduceMul, Int.reduceToNat, Int.reduceLE, Int.reduceLT, Int.reduceAdd, Int.reduceSub, Int.reduceMul, Int.reduceEq, Int.reduceNeg]
                by_cases h_3093 : 0 < ((y_3077.length + (slI l_0 (IntKind.i64.wrap (a_1 + a_2)) (l_0.length : Int)).length : Nat) : Int)
                · rw [if_pos h_3093] at h
                  have e_3094 : (0 < ((y_3077.length + (slI l_0 (IntKind.i64.wrap (a_1 + a_2)) (l_0.length : Int)).length : Nat) : Int)) = True := eq_true h_3093
                  obtain ⟨x_3095, h_3096, h⟩ := bindS h
                  have e_3097 : (List.map eTGlyph (y_3077 ++ (slI l_0 (IntKind.i64.wrap (a_1 + a_2)) (l_0.length : Int))))[0]? = some [.int .i64 x_3095.Id, .int .i64 x_3095.Cluster, .int .i64 x_3095.Mask, .int .i64 x_3095.Syl, .int .i32 x_3095.Code, .int .i64 x_3095.Cat, .int .i64 x_3095.Pos, .int .i64 x_3095.Key, .int .i64 x_3095.Lig, .int .i64 x_3095.Part, .int .i64 x_3095.X, .int .i64 x_3095.Y, .int .i64 x_3095.Wide, .int .i64 x_3095.High] := atI_map eTGlyph h_3096
                  have e_3098 : ((0 : Int) < ((y_3077.length + (slI l_0 (IntKind.i64.wrap (a_1 + a_2)) (l_0.length : Int)).length : Nat) : Int)) = True := eq_true (by have := atI_lt h_3096; simpa using this)
                  simp only [e_2, e_6, e_10, e_14, e_18, e_2063, e_2064, e_2065, e_2067, e_2069, e_2070, e_2071, e_2072, e_2073, e_3079, e_3081, e_3082, e_3083, e_3084, e_3085, e_3086, e_3088, e_3090, e_3092, e_3094, e_3097, e_3098, go_sem, reduceIte, reduceCtorEq, Nat.reduceEqDiff, Nat.reduceLT, Nat.reduceLeDiff, Nat.reduceAdd, Nat.reduceSub, Nat.reduceMul, Int.reduceToNat, Int.reduceLE, Int.reduceLT, Int.reduceAdd, Int.reduceSub, Int.reduceMul, Int.reduceEq, Int.reduceNeg]
                  obtain ⟨y_4100, h_4099, h⟩ := bindS h
                  refine ALp.ref (Ref.std [9, 10, 14, 15] [0, 2] (by decide) low0 (by first | rfl | simp only [go_sem, reduceIte, Nat.reduceEqDiff, Nat.reduceAdd]) (by first | rfl | simp only [go_sem, reduceIte, Nat.reduceEqDiff, Nat.reduceAdd])) (Nat.zero_le _) (buffer_Replace_L2_w N _ _ N _ _ y_4100 h_4099 ?_)
                  refine LoopK_go rfl (Nat.zero_le _) ?_
                  simp only [e_2, e_6, e_10, e_14, e_18, e_2063, e_2064, e_2065, e_2067, e_2069, e_2070, e_2071, e_2072, e_2073, e_3079, e_3081, e_3082, e_3083, e_3084, e_3085, e_3086, e_3088, e_3090, e_3092, e_3094, e_3097, e_3098, go_sem, reduceIte, reduceCtorEq, Nat.reduceEqDiff, Nat.reduceLT, Nat.reduceLeDiff, Nat.reduceAdd, Nat.reduceSub, Nat.reduceMul, Int.reduceToNat, Int.reduceLE, Int.reduceLT, Int.reduceAdd, Int.reduceSub, Int.reduceMul, Int.reduceEq, Int.reduceNeg]
                  have g_0 := Option.some.inj h
                  subst g_0
                  rw [← hQ]
                  exact ⟨rfl, _, rfl, _, _, (RefV.trans (RefV.frz (Nat.zero_le _) (id := 0) rfl (pures_map y_4100 eTGlyph (fun _ => rfl))) (RefV.out (by first | rfl | simp only [go_sem, reduceIte, Nat.reduceEqDiff, Nat.reduceAdd, e_2, e_6, e_10, e_14, e_18, e_3090, e_3092, e_3094]))), rfl, rfl⟩
                · rw [if_neg h_3093] at h
                  have e_3094 : (0 < ((y_3077.length + (slI l_0 (IntKind.i64.wrap (a_1 + a_2)) (l_0.length : Int)).length : Nat) : Int)) = False := eq_false h_3093
                  simp only [e_2, e_6, e_10, e_14, e_18, e_2063, e_2064, e_2065, e_2067, e_2069, e_2070, e_2071, e_2072, e_2073, e_3079, e_3081, e_3082, e_3083, e_3084, e_3085, e_3086, e_3088, e_3090, e_3092, e_3094, go_sem, reduceIte, reduceCtorEq, Nat.reduceEqDiff, Nat.reduceLT, Nat.reduceLeDiff, Nat.reduceAdd, Nat.reduceSub, Nat.reduceMul, Int.reduceToNat, Int.reduceLE, Int.reduceLT, Int.reduceAdd, Int.reduceSub, Int.reduceMul, Int.reduceEq, Int.reduceNeg]
                  have g_0 := Option.some.inj h
                  subst g_0
                  rw [← hQ]
                  exact ⟨rfl, _, rfl, _, _, (RefV.trans (RefV.frz (Nat.zero_le _) (id := 2) rfl (pures_map (y_3077 ++ (slI l_0 (IntKind.i64.wrap (a_1 + a_2)) (l_0.length : Int))) eTGlyph (fun _ => rfl))) (RefV.out (by first | rfl | simp only [go_sem, reduceIte, Nat.reduceEqDiff, Nat.reduceAdd, e_2, e_6, e_10, e_14, e_18, e_3090, e_3092, e_3094]))), rfl, rfl⟩
              · rw [if_neg h_3091] at h
                have e_3092 : ((l_3.length : Int) = 0) = False := eq_false h_3091
                simp only [e_2, e_6, e_10, e_14, e_18, e_2063, e_2064, e_2065, e_2067, e_2069, e_2070, e_2071, e_2072, e_2073, e_3079, e_3081, e_3082, e_3083, e_3084, e_3085, e_3086, e_3088, e_3090, e_3092, go_sem, reduceIte, reduceCtorEq, Nat.reduceEqDiff, Nat.reduceLT, Nat.reduceLeDiff, Nat.reduceAdd, Nat.reduceSub, Nat.reduceMul, Int.reduceToNat, Int.reduceLE, Int.reduceLT, Int.reduceAdd, Int.reduceSub, Int.reduceMul, Int.reduceEq, Int.reduceNeg]
                have g_0 := Option.some.inj h
                subst g_0
                rw [← hQ]
                exact ⟨rfl, _, rfl, _, _, (RefV.trans (RefV.frz (Nat.zero_le _) (id := 2) rfl (pures_map (y_3077 ++ (slI l_0 (IntKind.i64.wrap (a_1 + a_2)) (l_0.length : Int))) eTGlyph (fun _ => rfl))) (RefV.out (by first | rfl | simp only [go_sem, reduceIte, Nat.reduceEqDiff, Nat.reduceAdd, e_2, e_6, e_10, e_14, e_18, e_3090, e_3092]))), rfl, rfl⟩
            · rw [if_neg h_3089] at h
              have e_3090 : (a_1 = 0) = False := eq_false h_3089
              simp only [e_2, e_6, e_10, e_14, e_18, e_2063, e_2064, e_2065, e_2067, e_2069, e_2070, e_2071, e_2072, e_2073, e_3079, e_3081, e_3082, e_3083, e_3084, e_3085, e_3086, e_3088, e_3090, go_sem, reduceIte, reduceCtorEq, Nat.reduceEqDiff, Nat.reduceLT, Nat.reduceLeDiff, Nat.reduceAdd, Nat.reduceSub, Nat.reduceMul, Int.reduceToNat, Int.reduceLE, Int.reduceLT, Int.reduceAdd, Int.reduceSub, Int.reduceMul, Int.reduceEq, Int.reduceNeg]
              have g_0 := Option.some.inj h
              subst g_0
              rw [← hQ]
              exact ⟨rfl, _, rfl, _, _, (RefV.trans (RefV.frz (Nat.zero_le _) (id := 2) rfl (pures_map (y_3077 ++ (slI l_0 (IntKind.i64.wrap (a_1 + a_2)) (l_0.length : Int))) eTGlyph (fun _ => rfl))) (RefV.out (by first | rfl | simp only [go_sem, reduceIte, Nat.reduceEqDiff, Nat.reduceAdd, e_2, e_6, e_10, e_14, e_18, e_3090]))), rfl, rfl⟩
theorem buffer_Blocks_L1_w (N : Nat) (l_0 : List Int) (c_0 : Bool) {R : AExit → ATm → List AObj → Prop} : ∀ (n : Nat) (i_6 : Int) (s_7 : List Bool) (o : (Unit) ⊕ (Unit)), buffer_Blocks_L1 N l_0 n i_6 s_7 = some o → (match o with | .inl _ => R (.exit 0) ⟨62, [(0, .vec c_0 (List.map eI64 l_0))], []⟩ [] | .inr (_) => R .ret ⟨62, [(2, .vec true [])], []⟩ []) →
    ALp Go.Proofs.Try.prog 0 B22_1 ⟨62, [(0, .vec c_0 (List.map eI64 l_0)), (3, .row 0 0 s_7.length), (14, .vec c_0 (List.map eI64 l_0)), (15, .int .i64 (l_0.length : Int)), (16, .int .i64 i_6)], []⟩ [.mem 1 (List.map eB s_7) 4] R := by
  intro n
  induction n with
  | zero =>
    intro i_6 s_7 o h _
    have h0 : none = some o := h
    cases h0
  | succ n ih =>
    intro i_6 s_7 o h hp
    rw [buffer_Blocks_L1] at h
    refine ALp.round ?_
    generalize hQ : RoundQ _ _ _ _ = QQ
    simp only [B22_1, A22, go_sem, reduceIte, reduceCtorEq, Nat.reduceEqDiff, Nat.reduceLT, Nat.reduceLeDiff, Nat.reduceAdd, Nat.reduceSub, Nat.reduceMul, Int.reduceToNat, Int.reduceLE, Int.reduceLT, Int.reduceAdd, Int.reduceSub, Int.reduceMul, Int.reduceEq, Int.reduceNeg]
    by_cases h_8 : i_6 < (l_0.length : Int)
    · rw [if_pos h_8] at h
      have e_9 : (i_6 < (l_0.length : Int)) = True := eq_true h_8
      obtain ⟨x_10, h_11, h⟩ := bindS h
      have e_12 : (List.map eI64 l_0)[(i_6).toNat]? = some [.int .i64 x_10] := atI_map eI64 h_11
      have e_13 : ((0 : Int) ≤ i_6) = True := eq_true (atI_some h_11).1
      have e_14 : ((i_6 : Int) < (l_0.length : Int)) = True := eq_true (atI_lt h_11)
      simp only [e_9, e_12, e_13, e_14, go_sem, reduceIte, reduceCtorEq, Nat.reduceEqDiff, Nat.reduceLT, Nat.reduceLeDiff, Nat.reduceAdd, Nat.reduceSub, Nat.reduceMul, Int.reduceToNat, Int.reduceLE, Int.reduceLT, Int.reduceAdd, Int.reduceSub, Int.reduceMul, Int.reduceEq, Int.reduceNeg]
      by_cases h_15 : x_10 < 0
      · rw [if_pos h_15] at h
        have e_16 : (x_10 < 0) = True := eq_true h_15
        simp only [e_9, e_12, e_13, e_14, e_16, go_sem, reduceIte, reduceCtorEq, Nat.reduceEqDiff, Nat.reduceLT, Nat.reduceLeDiff, Nat.reduceAdd, Nat.reduceSub, Nat.reduceMul, Int.reduceToNat, Int.reduceLE, Int.reduceLT, Int.reduceAdd, Int.reduceSub, Int.reduceMul, Int.reduceEq, Int.reduceNeg]
        have g := Option.some.inj h
        subst g
        rw [← hQ]
        exact ⟨_, _, (Ref.out [2] rfl), hp⟩
      · rw [if_neg h_15] at h
        have e_16 : (x_10 < 0) = False := eq_false h_15
        simp only [e_9, e_12, e_13, e_14, e_16, go_sem, reduceIte, reduceCtorEq, Nat.reduceEqDiff, Nat.reduceLT, Nat.reduceLeDiff, Nat.reduceAdd, Nat.reduceSub, Nat.reduceMul, Int.reduceToNat, Int.reduceLE, Int.reduceLT, Int.reduceAdd, Int.reduceSub, Int.reduceMul, Int.reduceEq, Int.reduceNeg]
        by_cases h_17 : (l_0.length : Int) ≤ x_10
        · rw [if_pos h_17] at h
          have e_18 : ((l_0.length : Int) ≤ x_10) = True := eq_true h_17
          simp only [e_9, e_12, e_13, e_14, e_16, e_18, go_sem, reduceIte, reduceCtorEq, Nat.reduceEqDiff, Nat.reduceLT, Nat.reduceLeDiff, Nat.reduceAdd, Nat.reduceSub, Nat.reduceMul, Int.reduceToNat, Int.reduceLE, Int.reduceLT, Int.reduceAdd, Int.reduceSub, Int.reduceMul, Int.reduceEq, Int.reduceNeg]
          have g := Option.some.inj h
          subst g
          rw [← hQ]
          exact ⟨_, _, (Ref.out [2] rfl), hp⟩
        · rw [if_neg h_17] at h
          have e_18 : ((l_0.length : Int) ≤ x_10) = False := eq_false h_17
          obtain ⟨x_19, h_20, h⟩ := bindS h
          have e_21 : (List.map eB s_7)[(x_10).toNat]? = some [.bool x_19] := atI_map eB h_20
          have e_22 : ((0 : Int) ≤ x_10) = True := eq_true (atI_some h_20).1
          have e_23 : ((x_10 : Int) < (s_7.length : Int)) = True := eq_true (atI_lt h_20)
          simp only [e_9, e_12, e_13, e_14, e_16, e_18, e_21, e_22, e_23, go_sem, reduceIte, reduceCtorEq, Nat.reduceEqDiff, Nat.reduceLT, Nat.reduceLeDiff, Nat.reduceAdd, Nat.reduceSub, Nat.reduceMul, Int.reduceToNat, Int.reduceLE, Int.reduceLT, Int.reduceAdd, Int.reduceSub, Int.reduceMul, Int.reduceEq, Int.reduceNeg]
          by_cases h_24 : x_19 = true
          · rw [if_pos h_24] at h
            have e_25 : x_19 = true := h_24
            simp only [e_9, e_12, e_13, e_14, e_16, e_18, e_21, e_22, e_23, e_25, go_sem, reduceIte, reduceCtorEq, Nat.reduceEqDiff, Nat.reduceLT, Nat.reduceLeDiff, Nat.reduceAdd, Nat.reduceSub, Nat.reduceMul, Int.reduceToNat, Int.reduceLE, Int.reduceLT, Int.reduceAdd, Int.reduceSub, Int.reduceMul, Int.reduceEq, Int.reduceNeg]
            have g := Option.some.inj h
            subst g
            rw [← hQ]
            exact ⟨_, _, (Ref.out [2] rfl), hp⟩
          · rw [if_neg h_24] at h
            have e_25 : x_19 = false := bfalse h_24
            have e_26 : (List.map eB s_7).set (x_10).toNat [.bool true] = List.map eB (List.set s_7 (x_10).toNat true) := set_map s_7 eB (x_10).toNat true
            simp only [e_9, e_12, e_13, e_14, e_16, e_18, e_21, e_22, e_23, e_25, e_26, go_sem, reduceIte, reduceCtorEq, Nat.reduceEqDiff, Nat.reduceLT, Nat.reduceLeDiff, Nat.reduceAdd, Nat.reduceSub, Nat.reduceMul, Int.reduceToNat, Int.reduceLE, Int.reduceLT, Int.reduceAdd, Int.reduceSub, Int.reduceMul, Int.reduceEq, Int.reduceNeg]
            rw [← hQ]
            exact ⟨_, _, (Ref.std [0, 3, 14, 15, 16] [0] (by decide) low0 (by first | rfl | simp only [go_sem, reduceIte, Nat.reduceEqDiff, Nat.reduceAdd]) (by first | rfl | simp only [go_sem, reduceIte, Nat.reduceEqDiff, Nat.reduceAdd])), (Nat.zero_le _), ih _ _ _ h hp⟩
    · rw [if_neg h_8] at h
      have e_9 : (i_6 < (l_0.length : Int)) = False := eq_false h_8
      simp only [e_9, go_sem, reduceIte, reduceCtorEq, Nat.reduceEqDiff, Nat.reduceLT, Nat.reduceLeDiff, Nat.reduceAdd, Nat.reduceSub, Nat.reduceMul, Int.reduceToNat, Int.reduceLE, Int.reduceLT, Int.reduceAdd, Int.reduceSub, Int.reduceMul, Int.reduceEq, Int.reduceNeg]
      have g := Option.some.inj h
      subst g
      rw [← hQ]
      exact ⟨_, _, (Ref.out [0] rfl), hp⟩
theorem buffer_Blocks_L2_w (N : Nat) (l_0 : List Int) (c_0 : Bool) {R : AExit → ATm → List AObj → Prop} : ∀ (n : Nat) (i_1008 : Int) (i_1009 : Int) (i_1010 : Int) (s_1011 : List TArr2_I64) (o : (List TArr2_I64)), buffer_Blocks_L2 N l_0 n i_1008 i_1009 i_1010 s_1011 = some o → (match o with | z_1 => R (.exit 2) ⟨62, [(6, .row 0 0 z_1.length)], []⟩ [.mem 2 (List.map eTArr2_I64 z_1) 77]) →
    ALp Go.Proofs.Try.prog 0 B22_2 ⟨62, [(6, .row 0 0 s_1011.length), (7, .int .i64 i_1008), (8, .int .i64 i_1009), (38, .vec c_0 (List.map eI64 l_0)), (39, .int .i64 (l_0.length : Int)), (40, .int .i64 i_1010)], []⟩ [.mem 2 (List.map eTArr2_I64 s_1011) 77] R := by
  intro n
  induction n with
  | zero =>
    intro i_1008 i_1009 i_1010 s_1011 o h _
    have h0 : none = some o := h
    cases h0
  | succ n ih =>
    intro i_1008 i_1009 i_1010 s_1011 o h hp
    rw [buffer_Blocks_L2] at h
    refine ALp.round ?_
    generalize hQ : RoundQ _ _ _ _ = QQ
    simp only [B22_2, A22, go_sem, reduceIte, reduceCtorEq, Nat.reduceEqDiff, Nat.reduceLT, Nat.reduceLeDiff, Nat.reduceAdd, Nat.reduceSub, Nat.reduceMul, Int.reduceToNat, Int.reduceLE, Int.reduceLT, Int.reduceAdd, Int.reduceSub, Int.reduceMul, Int.reduceEq, Int.reduceNeg]
    by_cases h_1012 : i_1010 < (l_0.length : Int)
    · rw [if_pos h_1012] at h
      have e_1013 : (i_1010 < (l_0.length : Int)) = True := eq_true h_1012
      obtain ⟨x_1014, h_1015, h⟩ := bindS h
      have e_1016 : (List.map eI64 l_0)[(i_1010).toNat]? = some [.int .i64 x_1014] := atI_map eI64 h_1015
      have e_1017 : ((0 : Int) ≤ i_1010) = True := eq_true (atI_some h_1015).1
      have e_1018 : ((i_1010 : Int) < (l_0.length : Int)) = True := eq_true (atI_lt h_1015)
      simp only [e_1013, e_1016, e_1017, e_1018, go_sem, reduceIte, reduceCtorEq, Nat.reduceEqDiff, Nat.reduceLT, Nat.reduceLeDiff, Nat.reduceAdd, Nat.reduceSub, Nat.reduceMul, Int.reduceToNat, Int.reduceLE, Int.reduceLT, Int.reduceAdd, Int.reduceSub, Int.reduceMul, Int.reduceEq, Int.reduceNeg]
      by_cases h_1019 : max i_1009 x_1014 = i_1010
      · rw [if_pos h_1019] at h
        have e_1020 : (max i_1009 x_1014 = i_1010) = True := eq_true h_1019
        have e_1021 : List.take s_1011.length (List.map eTArr2_I64 s_1011) = (List.map eTArr2_I64 s_1011) := List.take_of_length_le (by simp)
        have e_1022 : (List.map eTArr2_I64 s_1011) ++ [[.int .i64 i_1008, .int .i64 (IntKind.i64.wrap (i_1010 + 1))]] = (List.map eTArr2_I64 (s_1011 ++ [TArr2_I64.mk i_1008 (IntKind.i64.wrap (i_1010 + 1))])) := app_map s_1011 ([TArr2_I64.mk i_1008 (IntKind.i64.wrap (i_1010 + 1))]) eTArr2_I64
        obtain ⟨h_1023, h⟩ := guardS h
        have e_1024 : ((s_1011.length + 1) * 16 ≤ 140737488355328) = True := eq_true h_1023
        simp only [e_1013, e_1016, e_1017, e_1018, e_1020, e_1021, e_1022, e_1024, go_sem, reduceIte, reduceCtorEq, Nat.reduceEqDiff, Nat.reduceLT, Nat.reduceLeDiff, Nat.reduceAdd, Nat.reduceSub, Nat.reduceMul, Int.reduceToNat, Int.reduceLE, Int.reduceLT, Int.reduceAdd, Int.reduceSub, Int.reduceMul, Int.reduceEq, Int.reduceNeg]
        rw [← hQ]
        exact ⟨_, _, (Ref.std [6, 7, 8, 38, 39, 40] [1] (by decide) low0 (by first | rfl | simp only [go_sem, reduceIte, Nat.reduceEqDiff, Nat.reduceAdd]) (by first | rfl | simp only [go_sem, reduceIte, Nat.reduceEqDiff, Nat.reduceAdd])), (Nat.zero_le _), ih _ _ _ _ _ h hp⟩
      · rw [if_neg h_1019] at h
        have e_1020 : (max i_1009 x_1014 = i_1010) = False := eq_false h_1019
        simp only [e_1013, e_1016, e_1017, e_1018, e_1020, go_sem, reduceIte, reduceCtorEq, Nat.reduceEqDiff, Nat.reduceLT, Nat.reduceLeDiff, Nat.reduceAdd, Nat.reduceSub, Nat.reduceMul, Int.reduceToNat, Int.reduceLE, Int.reduceLT, Int.reduceAdd, Int.reduceSub, Int.reduceMul, Int.reduceEq, Int.reduceNeg]
        rw [← hQ]
        exact ⟨_, _, (Ref.std [6, 7, 8, 38, 39, 40] [0] (by decide) low0 rfl (by first | rfl | simp only [go_sem, reduceIte, Nat.reduceEqDiff, Nat.reduceAdd])), (Nat.zero_le _), ih _ _ _ _ _ h hp⟩
    · rw [if_neg h_1012] at h
      have e_1013 : (i_1010 < (l_0.length : Int)) = False := eq_false h_1012
      simp only [e_1013, go_sem, reduceIte, reduceCtorEq, Nat.reduceEqDiff, Nat.reduceLT, Nat.reduceLeDiff, Nat.reduceAdd, Nat.reduceSub, Nat.reduceMul, Int.reduceToNat, Int.reduceLE, Int.reduceLT, Int.reduceAdd, Int.reduceSub, Int.reduceMul, Int.reduceEq, Int.reduceNeg]
      have g := Option.some.inj h
      subst g
      rw [← hQ]
      exact ⟨_, _, (Ref.std [6] [0] (by decide) low0 rfl (by first | rfl | simp only [go_sem, reduceIte, Nat.reduceEqDiff, Nat.reduceAdd])), hp⟩
theorem buffer_Blocks_w (N : Nat) (l_0 : List Int) (c_0 : Bool) (z_1 : List TArr2_I64) (h : buffer_Blocks N l_0 = some z_1) :
    ACalls Go.Proofs.Try.prog 22 [.vec c_0 (List.map eI64 l_0)] [] (fun e H => H = [] ∧ e = .ret (.vec false (List.map eTArr2_I64 z_1))) := by
  unfold buffer_Blocks at h
  refine ACalls.goN Go.Proofs.Try.func22 n22 a22 Go.Proofs.Try.ntmps22 r22 (by simp) 0 rfl ?_
  generalize hQ : bodyA _ _ _ = QQ
  obtain ⟨h_1, h⟩ := guardS h
  have e_2 : (0 ≤ (l_0.length : Int)) = True := eq_true h_1
  obtain ⟨h_3, h⟩ := guardS h
  have e_4 : ((l_0.length : Int) * 1 ≤ 140737488355328) = True := eq_true h_3
  have e_5 : List.replicate l_0.length [.bool false] = List.map eB (List.replicate l_0.length false) := rep_map _ eB false
  simp only [A22, e_2, e_4, e_5, go_sem, reduceIte, reduceCtorEq, Nat.reduceEqDiff, Nat.reduceLT, Nat.reduceLeDiff, Nat.reduceAdd, Nat.reduceSub, Nat.reduceMul, Int.reduceToNat, Int.reduceLE, Int.reduceLT, Int.reduceAdd, Int.reduceSub, Int.reduceMul, Int.reduceEq, Int.reduceNeg]
  obtain ⟨o_1007, h_1006, h⟩ := bindS h
  refine ALp.ref (Ref.std [0, 3, 14, 15, 16] [0] (by decide) low0 (by simp only [go_sem, reduceIte, Nat.reduceEqDiff, Nat.reduceAdd]) (by simp only [go_sem, reduceIte, Nat.reduceEqDiff, Nat.reduceAdd])) (Nat.zero_le _) (buffer_Blocks_L1_w N _ c_0 N _ _ o_1007 h_1006 ?_)
  rcases o_1007 with _ | _
  · try dsimp only at h
    refine LoopK_go rfl (Nat.zero_le _) ?_
    simp only [e_2, e_4, e_5, go_sem, reduceIte, reduceCtorEq, Nat.reduceEqDiff, Nat.reduceLT, Nat.reduceLeDiff, Nat.reduceAdd, Nat.reduceSub, Nat.reduceMul, Int.reduceToNat, Int.reduceLE, Int.reduceLT, Int.reduceAdd, Int.reduceSub, Int.reduceMul, Int.reduceEq, Int.reduceNeg]
    obtain ⟨y_2009, h_2008, h⟩ := bindS h
    refine ALp.ref (Ref.trans (Ref.thaw (Nat.zero_le _) 6 rfl (sz := 2) (by decide) 77) (Ref.std [6, 7, 8, 38, 39, 40] [0] (by decide) low0 rfl (by first | rfl | simp only [go_sem, reduceIte, Nat.reduceEqDiff, Nat.reduceAdd]))) (Nat.zero_le _) (buffer_Blocks_L2_w N _ c_0 N _ _ _ _ y_2009 h_2008 ?_)
    refine LoopK_go rfl (Nat.zero_le _) ?_
    simp only [e_2, e_4, e_5, go_sem, reduceIte, reduceCtorEq, Nat.reduceEqDiff, Nat.reduceLT, Nat.reduceLeDiff, Nat.reduceAdd, Nat.reduceSub, Nat.reduceMul, Int.reduceToNat, Int.reduceLE, Int.reduceLT, Int.reduceAdd, Int.reduceSub, Int.reduceMul, Int.reduceEq, Int.reduceNeg]
    have g_0 := Option.some.inj h
    subst g_0
    rw [← hQ]
    exact ⟨rfl, _, rfl, _, _, (RefV.trans (RefV.frz (Nat.zero_le _) (id := 0) rfl (pures_map y_2009 eTArr2_I64 (fun _ => rfl))) (RefV.out (by first | rfl | simp only [go_sem, reduceIte, Nat.reduceEqDiff, Nat.reduceAdd]))), rfl, rfl⟩
  · try dsimp only at h
    refine LoopK_ret ?_
    have g_0 := Option.some.inj h
    subst g_0
    rw [← hQ]
    exact ⟨rfl, _, rfl, _, _, (RefV.trans (RefV.out (v' := .vec true []) rfl) (RefV.weak (Wks.cons Wk.vec Wks.nil) (WkH.refl _))), rfl, rfl⟩
theorem slices_Clone_apiGlyphapiGlyph_row_w (N : Nat) (l_0 : List TGlyph) (z_1 : List TGlyph) (h : slices_Clone_apiGlyphapiGlyph_row N l_0 = some z_1) :
    ACalls Go.Proofs.Try.prog 53 [.row 0 0 l_0.length] [.mem 14 (List.map eTGlyph l_0) 32] (fun e H => H = [.mem 14 (List.map eTGlyph l_0) 32, .mem 14 (List.map eTGlyph z_1) 32] ∧ e = .ret (.row 1 0 z_1.length)) := by
  unfold slices_Clone_apiGlyphapiGlyph_row at h
  refine ACalls.goN Go.Proofs.Try.func53 n53 a53 Go.Proofs.Try.ntmps53 r53 (by simp) 1 rfl ?_
  generalize hQ : bodyA _ _ _ = QQ
  simp only [A53, go_sem, reduceIte, reduceCtorEq, Nat.reduceEqDiff, Nat.reduceLT, Nat.reduceLeDiff, Nat.reduceAdd, Nat.reduceSub, Nat.reduceMul, Int.reduceToNat, Int.reduceLE, Int.reduceLT, Int.reduceAdd, Int.reduceSub, Int.reduceMul, Int.reduceEq, Int.reduceNeg]
  by_cases h_1 : l_0 = []
  · rw [if_pos h_1] at h
    have e_2 : l_0 = [] := h_1
    simp only [e_2, go_sem, reduceIte, reduceCtorEq, Nat.reduceEqDiff, Nat.reduceLT, Nat.reduceLeDiff, Nat.reduceAdd, Nat.reduceSub, Nat.reduceMul, Int.reduceToNat, Int.reduceLE, Int.reduceLT, Int.reduceAdd, Int.reduceSub, Int.reduceMul, Int.reduceEq, Int.reduceNeg]
    refine ⟨?_, ?_⟩
    · skip
      try simp only [e_2, go_sem, reduceIte, reduceCtorEq, Nat.reduceEqDiff, Nat.reduceLT, Nat.reduceLeDiff, Nat.reduceAdd, Nat.reduceSub, Nat.reduceMul, Int.reduceToNat, Int.reduceLE, Int.reduceLT, Int.reduceAdd, Int.reduceSub, Int.reduceMul, Int.reduceEq, Int.reduceNeg]
      have g_0 := Option.some.inj h
      subst g_0
      rw [← hQ]
      exact ⟨rfl, _, rfl, _, _, (RefV.trans (RefV.thaw0 (by simp) (sz := 14) (by decide) 32) (RefV.std [0, 1] (by decide) (by decide) rfl (by first | rfl | simp only [go_sem, reduceIte, Nat.reduceEqDiff, Nat.reduceAdd, e_2]))), rfl, rfl⟩
    · skip
      try simp only [e_2, go_sem, reduceIte, reduceCtorEq, Nat.reduceEqDiff, Nat.reduceLT, Nat.reduceLeDiff, Nat.reduceAdd, Nat.reduceSub, Nat.reduceMul, Int.reduceToNat, Int.reduceLE, Int.reduceLT, Int.reduceAdd, Int.reduceSub, Int.reduceMul, Int.reduceEq, Int.reduceNeg]
      have g_0 := Option.some.inj h
      subst g_0
      rw [← hQ]
      exact ⟨rfl, _, rfl, _, _, (RefV.std [0, 1] (by decide) (by decide) rfl (by first | rfl | simp only [go_sem, reduceIte, Nat.reduceEqDiff, Nat.reduceAdd, e_2])), rfl, rfl⟩
  · rw [if_neg h_1] at h
    have e_2 : (l_0.length = 0) = False := eq_false (fun q => h_1 (List.eq_nil_of_length_eq_zero q))
    have e_3 : List.take l_0.length (List.map eTGlyph l_0) = (List.map eTGlyph l_0) := List.take_of_length_le (by simp)
    have e_4 : ((List.map eTGlyph l_0)).all (fun el => el.length == 14) = true := all_len _ eTGlyph 14 (fun _ => rfl)
    obtain ⟨h_5, h⟩ := guardS h
    have e_6 : (l_0.length * 112 ≤ 140737488355328) = True := eq_true h_5
    simp only [e_2, e_3, e_4, e_6, go_sem, reduceIte, reduceCtorEq, Nat.reduceEqDiff, Nat.reduceLT, Nat.reduceLeDiff, Nat.reduceAdd, Nat.reduceSub, Nat.reduceMul, Int.reduceToNat, Int.reduceLE, Int.reduceLT, Int.reduceAdd, Int.reduceSub, Int.reduceMul, Int.reduceEq, Int.reduceNeg]
    have g_0 := Option.some.inj h
    subst g_0
    rw [← hQ]
    exact ⟨rfl, _, rfl, _, _, (RefV.std [0, 1] (by decide) (by decide) rfl (by first | rfl | simp only [go_sem, reduceIte, Nat.reduceEqDiff, Nat.reduceAdd, e_2])), rfl, rfl⟩
theorem buffer_Merge_row_L1_w (N : Nat) (a_1 : Int) (a_2 : Int) (l_0 : List TGlyph) (y_1 : List TGlyph) {R : AExit → ATm → List AObj → Prop} : ∀ (n : Nat) (i_20 : Int) (i_21 : Int) (o : Int), buffer_Merge_row_L1 N a_1 a_2 l_0 y_1 n i_20 i_21 = some o → (match o with | z_1 => R (.exit 0) ⟨101, [(0, .row 0 0 l_0.length), (1, .int .i64 a_1), (2, .int .i64 a_2), (7, .row 1 0 y_1.length), (8, .int .i64 z_1)], []⟩ [.mem 14 (List.map eTGlyph l_0) 32, .mem 14 (List.map eTGlyph y_1) 32]) →
    ALp Go.Proofs.Try.prog 1 B16_1 ⟨101, [(0, .row 0 0 l_0.length), (1, .int .i64 a_1), (2, .int .i64 a_2), (7, .row 1 0 y_1.length), (8, .int .i64 i_20), (38, .row 0 (a_1).toNat ((a_2).toNat - (a_1).toNat)), (39, .int .i64 ((((a_2).toNat - (a_1).toNat) : Nat) : Int)), (40, .int .i64 i_21)], []⟩ [.mem 14 (List.map eTGlyph l_0) 32, .mem 14 (List.map eTGlyph y_1) 32] R := by
  intro n
  induction n with
  | zero =>
    intro i_20 i_21 o h _
    have h0 : none = some o := h
    cases h0
  | succ n ih =>
    intro i_20 i_21 o h hp
    rw [buffer_Merge_row_L1] at h
    refine ALp.round ?_
    generalize hQ : RoundQ _ _ _ _ = QQ
    simp only [B16_1, A16, go_sem, reduceIte, reduceCtorEq, Nat.reduceEqDiff, Nat.reduceLT, Nat.reduceLeDiff, Nat.reduceAdd, Nat.reduceSub, Nat.reduceMul, Int.reduceToNat, Int.reduceLE, Int.reduceLT, Int.reduceAdd, Int.reduceSub, Int.reduceMul, Int.reduceEq, Int.reduceNeg]
    by_cases h_22 : i_21 < ((((a_2).toNat - (a_1).toNat) : Nat) : Int)
    · rw [if_pos h_22] at h
      have e_23 : (i_21 < ((((a_2).toNat - (a_1).toNat) : Nat) : Int)) = True := eq_true h_22
      obtain ⟨x_24, h_25, h⟩ := bindS h
      have e_26 : (List.map eTGlyph l_0)[(a_1).toNat + (i_21).toNat]? = some [.int .i64 x_24.Id, .int .i64 x_24.Cluster, .int .i64 x_24.Mask, .int .i64 x_24.Syl, .int .i32 x_24.Code, .int .i64 x_24.Cat, .int .i64 x_24.Pos, .int .i64 x_24.Key, .int .i64 x_24.Lig, .int .i64 x_24.Part, .int .i64 x_24.X, .int .i64 x_24.Y, .int .i64 x_24.Wide, .int .i64 x_24.High] := slI_at_map eTGlyph h_25
      have e_27 : ((0 : Int) ≤ i_21) = True := eq_true (atI_some h_25).1
      have e_28 : ((i_21 : Int) < ((((a_2).toNat - (a_1).toNat) : Nat) : Int)) = True := eq_true (by have := slI_lt h_25; simpa using this)
      simp only [e_23, e_26, e_27, e_28, go_sem, reduceIte, reduceCtorEq, Nat.reduceEqDiff, Nat.reduceLT, Nat.reduceLeDiff, Nat.reduceAdd, Nat.reduceSub, Nat.reduceMul, Int.reduceToNat, Int.reduceLE, Int.reduceLT, Int.reduceAdd, Int.reduceSub, Int.reduceMul, Int.reduceEq, Int.reduceNeg]
      rw [← hQ]
      exact ⟨_, _, (Ref.std [0, 1, 2, 7, 8, 38, 39, 40] [0, 1] (by decide) (by decide) (by first | rfl | simp only [go_sem, reduceIte, Nat.reduceEqDiff, Nat.reduceAdd]) (by first | rfl | simp only [go_sem, reduceIte, Nat.reduceEqDiff, Nat.reduceAdd])), (by simp), ih _ _ _ h hp⟩
    · rw [if_neg h_22] at h
      have e_23 : (i_21 < ((((a_2).toNat - (a_1).toNat) : Nat) : Int)) = False := eq_false h_22
      simp only [e_23, go_sem, reduceIte, reduceCtorEq, Nat.reduceEqDiff, Nat.reduceLT, Nat.reduceLeDiff, Nat.reduceAdd, Nat.reduceSub, Nat.reduceMul, Int.reduceToNat, Int.reduceLE, Int.reduceLT, Int.reduceAdd, Int.reduceSub, Int.reduceMul, Int.reduceEq, Int.reduceNeg]
      have g := Option.some.inj h
      subst g
      rw [← hQ]
      exact ⟨_, _, (Ref.std [0, 1, 2, 7, 8] [0, 1] (by decide) (by decide) rfl (by first | rfl | simp only [go_sem, reduceIte, Nat.reduceEqDiff, Nat.reduceAdd])), hp⟩
theorem buffer_Merge_row_L2_w (N : Nat) (a_1 : Int) (a_2 : Int) (y_1021 : Int) (l_0 : List TGlyph) (y_1 : List TGlyph) {R : AExit → ATm → List AObj → Prop} : ∀ (n : Nat) (i_1022 : Int) (o : Int), buffer_Merge_row_L2 N a_1 a_2 y_1021 l_0 y_1 n i_1022 = some o → (match o with | z_1 => R (.exit 2) ⟨101, [(0, .row 0 0 l_0.length), (2, .int .i64 a_2), (7, .row 1 0 y_1.length), (8, .int .i64 y_1021), (11, .int .i64 z_1), (12, .int .i64 a_2)], []⟩ [.mem 14 (List.map eTGlyph l_0) 32, .mem 14 (List.map eTGlyph y_1) 32]) →
    ALp Go.Proofs.Try.prog 1 B16_2 ⟨101, [(0, .row 0 0 l_0.length), (1, .int .i64 a_1), (2, .int .i64 a_2), (7, .row 1 0 y_1.length), (8, .int .i64 y_1021), (11, .int .i64 i_1022), (12, .int .i64 a_2)], []⟩ [.mem 14 (List.map eTGlyph l_0) 32, .mem 14 (List.map eTGlyph y_1) 32] R := by
  intro n
  induction n with
  | zero =>
    intro i_1022 o h _
    have h0 : none = some o := h
    cases h0
  | succ n ih =>
    intro i_1022 o h hp
    rw [buffer_Merge_row_L2] at h
    refine ALp.round ?_
    generalize hQ : RoundQ _ _ _ _ = QQ
    simp only [B16_2, A16, go_sem, reduceIte, reduceCtorEq, Nat.reduceEqDiff, Nat.reduceLT, Nat.reduceLeDiff, Nat.reduceAdd, Nat.reduceSub, Nat.reduceMul, Int.reduceToNat, Int.reduceLE, Int.reduceLT, Int.reduceAdd, Int.reduceSub, Int.reduceMul, Int.reduceEq, Int.reduceNeg]
    by_cases h_1023 : 0 < i_1022
    · rw [if_pos h_1023] at h
      have e_1024 : (0 < i_1022) = True := eq_true h_1023
      obtain ⟨x_1025, h_1026, h⟩ := bindS h
      have e_1027 : (List.map eTGlyph l_0)[(IntKind.i64.wrap (i_1022 - 1)).toNat]? = some [.int .i64 x_1025.Id, .int .i64 x_1025.Cluster, .int .i64 x_1025.Mask, .int .i64 x_1025.Syl, .int .i32 x_1025.Code, .int .i64 x_1025.Cat, .int .i64 x_1025.Pos, .int .i64 x_1025.Key, .int .i64 x_1025.Lig, .int .i64 x_1025.Part, .int .i64 x_1025.X, .int .i64 x_1025.Y, .int .i64 x_1025.Wide, .int .i64 x_1025.High] := atI_map eTGlyph h_1026
      have e_1028 : ((0 : Int) ≤ IntKind.i64.wrap (i_1022 - 1)) = True := eq_true (atI_some h_1026).1
      have e_1029 : ((IntKind.i64.wrap (i_1022 - 1) : Int) < (l_0.length : Int)) = True := eq_true (atI_lt h_1026)
      obtain ⟨x_1030, h_1031, h⟩ := bindS h
      have e_1032 : (List.map eTGlyph l_0)[(a_1).toNat]? = some [.int .i64 x_1030.Id, .int .i64 x_1030.Cluster, .int .i64 x_1030.Mask, .int .i64 x_1030.Syl, .int .i32 x_1030.Code, .int .i64 x_1030.Cat, .int .i64 x_1030.Pos, .int .i64 x_1030.Key, .int .i64 x_1030.Lig, .int .i64 x_1030.Part, .int .i64 x_1030.X, .int .i64 x_1030.Y, .int .i64 x_1030.Wide, .int .i64 x_1030.High] := atI_map eTGlyph h_1031
      have e_1033 : ((0 : Int) ≤ a_1) = True := eq_true (atI_some h_1031).1
      have e_1034 : ((a_1 : Int) < (l_0.length : Int)) = True := eq_true (atI_lt h_1031)
      simp only [e_1024, e_1027, e_1028, e_1029, e_1032, e_1033, e_1034, go_sem, reduceIte, reduceCtorEq, Nat.reduceEqDiff, Nat.reduceLT, Nat.reduceLeDiff, Nat.reduceAdd, Nat.reduceSub, Nat.reduceMul, Int.reduceToNat, Int.reduceLE, Int.reduceLT, Int.reduceAdd, Int.reduceSub, Int.reduceMul, Int.reduceEq, Int.reduceNeg]
      by_cases h_1035 : x_1025.Cluster = x_1030.Cluster
      · rw [if_pos h_1035] at h
        have e_1036 : (x_1025.Cluster = x_1030.Cluster) = True := eq_true h_1035
        simp only [e_1024, e_1027, e_1028, e_1029, e_1032, e_1033, e_1034, e_1036, go_sem, reduceIte, reduceCtorEq, Nat.reduceEqDiff, Nat.reduceLT, Nat.reduceLeDiff, Nat.reduceAdd, Nat.reduceSub, Nat.reduceMul, Int.reduceToNat, Int.reduceLE, Int.reduceLT, Int.reduceAdd, Int.reduceSub, Int.reduceMul, Int.reduceEq, Int.reduceNeg]
        rw [← hQ]
        exact ⟨_, _, (Ref.std [0, 1, 2, 7, 8, 11, 12] [0, 1] (by decide) (by decide) rfl (by first | rfl | simp only [go_sem, reduceIte, Nat.reduceEqDiff, Nat.reduceAdd])), (by simp), ih _ _ h hp⟩
      · rw [if_neg h_1035] at h
        have e_1036 : (x_1025.Cluster = x_1030.Cluster) = False := eq_false h_1035
        simp only [e_1024, e_1027, e_1028, e_1029, e_1032, e_1033, e_1034, e_1036, go_sem, reduceIte, reduceCtorEq, Nat.reduceEqDiff, Nat.reduceLT, Nat.reduceLeDiff, Nat.reduceAdd, Nat.reduceSub, Nat.reduceMul, Int.reduceToNat, Int.reduceLE, Int.reduceLT, Int.reduceAdd, Int.reduceSub, Int.reduceMul, Int.reduceEq, Int.reduceNeg]
        have g := Option.some.inj h
        subst g
        rw [← hQ]
        exact ⟨_, _, (Ref.std [0, 2, 7, 8, 11, 12] [0, 1] (by decide) (by decide) rfl (by first | rfl | simp only [go_sem, reduceIte, Nat.reduceEqDiff, Nat.reduceAdd])), hp⟩
    · rw [if_neg h_1023] at h
      have e_1024 : (0 < i_1022) = False := eq_false h_1023
      simp only [e_1024, go_sem, reduceIte, reduceCtorEq, Nat.reduceEqDiff, Nat.reduceLT, Nat.reduceLeDiff, Nat.reduceAdd, Nat.reduceSub, Nat.reduceMul, Int.reduceToNat, Int.reduceLE, Int.reduceLT, Int.reduceAdd, Int.reduceSub, Int.reduceMul, Int.reduceEq, Int.reduceNeg]
      have g := Option.some.inj h
      subst g
      rw [← hQ]
      exact ⟨_, _, (Ref.std [0, 2, 7, 8, 11, 12] [0, 1] (by decide) (by decide) rfl (by first | rfl | simp only [go_sem, reduceIte, Nat.reduceEqDiff, Nat.reduceAdd])), hp⟩
theorem buffer_Merge_row_L3_w (N : Nat) (a_2 : Int) (y_1021 : Int) (y_2023 : Int) (l_0 : List TGlyph) (y_1 : List TGlyph) {R : AExit → ATm → List AObj → Prop} : ∀ (n : Nat) (i_2024 : Int) (o : Int), buffer_Merge_row_L3 N a_2 y_1021 y_2023 l_0 y_1 n i_2024 = some o → (match o with | z_1 => R (.exit 4) ⟨101, [(7, .row 1 0 y_1.length), (8, .int .i64 y_1021), (11, .int .i64 y_2023), (12, .int .i64 z_1)], []⟩ [.mem 14 (List.map eTGlyph l_0) 32, .mem 14 (List.map eTGlyph y_1) 32]) →
    ALp Go.Proofs.Try.prog 1 B16_3 ⟨101, [(0, .row 0 0 l_0.length), (2, .int .i64 a_2), (7, .row 1 0 y_1.length), (8, .int .i64 y_1021), (11, .int .i64 y_2023), (12, .int .i64 i_2024)], []⟩ [.mem 14 (List.map eTGlyph l_0) 32, .mem 14 (List.map eTGlyph y_1) 32] R := by
  intro n
  induction n with
  | zero =>
    intro i_2024 o h _
    have h0 : none = some o := h
    cases h0
  | succ n ih =>
    intro i_2024 o h hp
    rw [buffer_Merge_row_L3] at h
    refine ALp.round ?_
    generalize hQ : RoundQ _ _ _ _ = QQ
    simp only [B16_3, A16, go_sem, reduceIte, reduceCtorEq, Nat.reduceEqDiff, Nat.reduceLT, Nat.reduceLeDiff, Nat.reduceAdd, Nat.reduceSub, Nat.reduceMul, Int.reduceToNat, Int.reduceLE, Int.reduceLT, Int.reduceAdd, Int.reduceSub, Int.reduceMul, Int.reduceEq, Int.reduceNeg]
    by_cases h_2025 : i_2024 < (l_0.length : Int)
    · rw [if_pos h_2025] at h
      have e_2026 : (i_2024 < (l_0.length : Int)) = True := eq_true h_2025
      obtain ⟨x_2027, h_2028, h⟩ := bindS h
      have e_2029 : (List.map eTGlyph l_0)[(i_2024).toNat]? = some [.int .i64 x_2027.Id, .int .i64 x_2027.Cluster, .int .i64 x_2027.Mask, .int .i64 x_2027.Syl, .int .i32 x_2027.Code, .int .i64 x_2027.Cat, .int .i64 x_2027.Pos, .int .i64 x_2027.Key, .int .i64 x_2027.Lig, .int .i64 x_2027.Part, .int .i64 x_2027.X, .int .i64 x_2027.Y, .int .i64 x_2027.Wide, .int .i64 x_2027.High] := atI_map eTGlyph h_2028
      have e_2030 : ((0 : Int) ≤ i_2024) = True := eq_true (atI_some h_2028).1
      have e_2031 : ((i_2024 : Int) < (l_0.length : Int)) = True := eq_true (atI_lt h_2028)
      obtain ⟨x_2032, h_2033, h⟩ := bindS h
      have e_2034 : (List.map eTGlyph l_0)[(IntKind.i64.wrap (a_2 - 1)).toNat]? = some [.int .i64 x_2032.Id, .int .i64 x_2032.Cluster, .int .i64 x_2032.Mask, .int .i64 x_2032.Syl, .int .i32 x_2032.Code, .int .i64 x_2032.Cat, .int .i64 x_2032.Pos, .int .i64 x_2032.Key, .int .i64 x_2032.Lig, .int .i64 x_2032.Part, .int .i64 x_2032.X, .int .i64 x_2032.Y, .int .i64 x_2032.Wide, .int .i64 x_2032.High] := atI_map eTGlyph h_2033
      have e_2035 : ((0 : Int) ≤ IntKind.i64.wrap (a_2 - 1)) = True := eq_true (atI_some h_2033).1
      have e_2036 : ((IntKind.i64.wrap (a_2 - 1) : Int) < (l_0.length : Int)) = True := eq_true (atI_lt h_2033)
      simp only [e_2026, e_2029, e_2030, e_2031, e_2034, e_2035, e_2036, go_sem, reduceIte, reduceCtorEq, Nat.reduceEqDiff, Nat.reduceLT, Nat.reduceLeDiff, Nat.reduceAdd, Nat.reduceSub, Nat.reduceMul, Int.reduceToNat, Int.reduceLE, Int.reduceLT, Int.reduceAdd, Int.reduceSub, Int.reduceMul, Int.reduceEq, Int.reduceNeg]
      by_cases h_2037 : x_2027.Cluster = x_2032.Cluster
      · rw [if_pos h_2037] at h
        have e_2038 : (x_2027.Cluster = x_2032.Cluster) = True := eq_true h_2037
        simp only [e_2026, e_2029, e_2030, e_2031, e_2034, e_2035, e_2036, e_2038, go_sem, reduceIte, reduceCtorEq, Nat.reduceEqDiff, Nat.reduceLT, Nat.reduceLeDiff, Nat.reduceAdd, Nat.reduceSub, Nat.reduceMul, Int.reduceToNat, Int.reduceLE, Int.reduceLT, Int.reduceAdd, Int.reduceSub, Int.reduceMul, Int.reduceEq, Int.reduceNeg]
        rw [← hQ]
        exact ⟨_, _, (Ref.std [0, 2, 7, 8, 11, 12] [0, 1] (by decide) (by decide) rfl (by first | rfl | simp only [go_sem, reduceIte, Nat.reduceEqDiff, Nat.reduceAdd])), (by simp), ih _ _ h hp⟩
      · rw [if_neg h_2037] at h
        have e_2038 : (x_2027.Cluster = x_2032.Cluster) = False := eq_false h_2037
        simp only [e_2026, e_2029, e_2030, e_2031, e_2034, e_2035, e_2036, e_2038, go_sem, reduceIte, reduceCtorEq, Nat.reduceEqDiff, Nat.reduceLT, Nat.reduceLeDiff, Nat.reduceAdd, Nat.reduceSub, Nat.reduceMul, Int.reduceToNat, Int.reduceLE, Int.reduceLT, Int.reduceAdd, Int.reduceSub, Int.reduceMul, Int.reduceEq, Int.reduceNeg]
        have g := Option.some.inj h
        subst g
        rw [← hQ]
        exact ⟨_, _, (Ref.std [7, 8, 11, 12] [0, 1] (by decide) (by decide) rfl (by first | rfl | simp only [go_sem, reduceIte, Nat.reduceEqDiff, Nat.reduceAdd])), hp⟩
    · rw [if_neg h_2025] at h
      have e_2026 : (i_2024 < (l_0.length : Int)) = False := eq_false h_2025
      simp only [e_2026, go_sem, reduceIte, reduceCtorEq, Nat.reduceEqDiff, Nat.reduceLT, Nat.reduceLeDiff, Nat.reduceAdd, Nat.reduceSub, Nat.reduceMul, Int.reduceToNat, Int.reduceLE, Int.reduceLT, Int.reduceAdd, Int.reduceSub, Int.reduceMul, Int.reduceEq, Int.reduceNeg]
      have g := Option.some.inj h
      subst g
      rw [← hQ]
      exact ⟨_, _, (Ref.std [7, 8, 11, 12] [0, 1] (by decide) (by decide) rfl (by first | rfl | simp only [go_sem, reduceIte, Nat.reduceEqDiff, Nat.reduceAdd])), hp⟩
theorem buffer_Merge_row_L4_w (N : Nat) (y_1021 : Int) (y_3025 : Int) (l_0 : List TGlyph) {R : AExit → ATm → List AObj → Prop} : ∀ (n : Nat) (i_3026 : Int) (s_3027 : List TGlyph) (o : (List TGlyph)), buffer_Merge_row_L4 N y_1021 y_3025 l_0 n i_3026 s_3027 = some o → (match o with | z_1 => R (.exit 6) ⟨101, [(7, .row 1 0 z_1.length)], []⟩ [.mem 14 (List.map eTGlyph l_0) 32, .mem 14 (List.map eTGlyph z_1) 32]) →
    ALp Go.Proofs.Try.prog 1 B16_4 ⟨101, [(7, .row 1 0 s_3027.length), (8, .int .i64 y_1021), (12, .int .i64 y_3025), (13, .int .i64 i_3026)], []⟩ [.mem 14 (List.map eTGlyph l_0) 32, .mem 14 (List.map eTGlyph s_3027) 32] R := by
  intro n
  induction n with
  | zero =>
    intro i_3026 s_3027 o h _
    have h0 : none = some o := h
    cases h0
  | succ n ih =>
    intro i_3026 s_3027 o h hp
    rw [buffer_Merge_row_L4] at h
    refine ALp.round ?_
    generalize hQ : RoundQ _ _ _ _ = QQ
    simp only [B16_4, A16, go_sem, reduceIte, reduceCtorEq, Nat.reduceEqDiff, Nat.reduceLT, Nat.reduceLeDiff, Nat.reduceAdd, Nat.reduceSub, Nat.reduceMul, Int.reduceToNat, Int.reduceLE, Int.reduceLT, Int.reduceAdd, Int.reduceSub, Int.reduceMul, Int.reduceEq, Int.reduceNeg]
    by_cases h_3028 : i_3026 < y_3025
    · rw [if_pos h_3028] at h
      have e_3029 : (i_3026 < y_3025) = True := eq_true h_3028
      obtain ⟨x_3030, h_3031, h⟩ := bindS h
      have e_3032 : (List.map eTGlyph s_3027)[(i_3026).toNat]? = some [.int .i64 x_3030.Id, .int .i64 x_3030.Cluster, .int .i64 x_3030.Mask, .int .i64 x_3030.Syl, .int .i32 x_3030.Code, .int .i64 x_3030.Cat, .int .i64 x_3030.Pos, .int .i64 x_3030.Key, .int .i64 x_3030.Lig, .int .i64 x_3030.Part, .int .i64 x_3030.X, .int .i64 x_3030.Y, .int .i64 x_3030.Wide, .int .i64 x_3030.High] := atI_map eTGlyph h_3031
      have e_3033 : ((0 : Int) ≤ i_3026) = True := eq_true (atI_some h_3031).1
      have e_3034 : ((i_3026 : Int) < (s_3027.length : Int)) = True := eq_true (atI_lt h_3031)
      have e_3035 : (List.map eTGlyph s_3027).set (i_3026).toNat [.int .i64 x_3030.Id, .int .i64 y_1021, .int .i64 x_3030.Mask, .int .i64 x_3030.Syl, .int .i32 x_3030.Code, .int .i64 x_3030.Cat, .int .i64 x_3030.Pos, .int .i64 x_3030.Key, .int .i64 x_3030.Lig, .int .i64 x_3030.Part, .int .i64 x_3030.X, .int .i64 x_3030.Y, .int .i64 x_3030.Wide, .int .i64 x_3030.High] = List.map eTGlyph (List.set s_3027 (i_3026).toNat (TGlyph.mk x_3030.Id y_1021 x_3030.Mask x_3030.Syl x_3030.Code x_3030.Cat x_3030.Pos x_3030.Key x_3030.Lig x_3030.Part x_3030.X x_3030.Y x_3030.Wide x_3030.High)) := set_map s_3027 eTGlyph (i_3026).toNat (TGlyph.mk x_3030.Id y_1021 x_3030.Mask x_3030.Syl x_3030.Code x_3030.Cat x_3030.Pos x_3030.Key x_3030.Lig x_3030.Part x_3030.X x_3030.Y x_3030.Wide x_3030.High)
      simp only [e_3029, e_3032, e_3033, e_3034, e_3035, go_sem, reduceIte, reduceCtorEq, Nat.reduceEqDiff, Nat.reduceLT, Nat.reduceLeDiff, Nat.reduceAdd, Nat.reduceSub, Nat.reduceMul, Int.reduceToNat, Int.reduceLE, Int.reduceLT, Int.reduceAdd, Int.reduceSub, Int.reduceMul, Int.reduceEq, Int.reduceNeg]
      rw [← hQ]
      exact ⟨_, _, (Ref.std [7, 8, 12, 13] [0, 1] (by decide) (by decide) (by first | rfl | simp only [go_sem, reduceIte, Nat.reduceEqDiff, Nat.reduceAdd]) (by first | rfl | simp only [go_sem, reduceIte, Nat.reduceEqDiff, Nat.reduceAdd])), (by simp), ih _ _ _ h hp⟩
    · rw [if_neg h_3028] at h
      have e_3029 : (i_3026 < y_3025) = False := eq_false h_3028
      simp only [e_3029, go_sem, reduceIte, reduceCtorEq, Nat.reduceEqDiff, Nat.reduceLT, Nat.reduceLeDiff, Nat.reduceAdd, Nat.reduceSub, Nat.reduceMul, Int.reduceToNat, Int.reduceLE, Int.reduceLT, Int.reduceAdd, Int.reduceSub, Int.reduceMul, Int.reduceEq, Int.reduceNeg]
      have g := Option.some.inj h
      subst g
      rw [← hQ]
      exact ⟨_, _, (Ref.std [7] [0, 1] (by decide) (by decide) rfl (by first | rfl | simp only [go_sem, reduceIte, Nat.reduceEqDiff, Nat.reduceAdd])), hp⟩
theorem buffer_Merge_row_w (N : Nat) (l_0 : List TGlyph) (a_1 : Int) (a_2 : Int) (z_1 : List TGlyph) (h : buffer_Merge_row N l_0 a_1 a_2 = some z_1) :
    ACalls Go.Proofs.Try.prog 16 [.row 0 0 l_0.length, .int .i64 a_1, .int .i64 a_2] [.mem 14 (List.map eTGlyph l_0) 32] (fun e H => H = [.mem 14 (List.map eTGlyph l_0) 32, .mem 14 (List.map eTGlyph z_1) 32] ∧ e = .ret (.row 1 0 z_1.length)) := by
  unfold buffer_Merge_row at h
  refine ACalls.goN Go.Proofs.Try.func16 n16 a16 Go.Proofs.Try.ntmps16 r16 (by simp) 1 rfl ?_
  generalize hQ : bodyA _ _ _ = QQ
  obtain ⟨y_1, h_2, h⟩ := bindS h
  simp only [A16, go_sem, reduceIte, reduceCtorEq, Nat.reduceEqDiff, Nat.reduceLT, Nat.reduceLeDiff, Nat.reduceAdd, Nat.reduceSub, Nat.reduceMul, Int.reduceToNat, Int.reduceLE, Int.reduceLT, Int.reduceAdd, Int.reduceSub, Int.reduceMul, Int.reduceEq, Int.reduceNeg]
  refine ACalls.use (slices_Clone_apiGlyphapiGlyph_row_w N _ _ h_2) [0] (by decide) ⟨(by first | rfl | simp only [go_sem, reduceIte, Nat.reduceEqDiff, Nat.reduceAdd]), trivial⟩ rfl (v' := .row 1 0 y_1.length) (by first | rfl | simp only [go_sem, reduceIte, Nat.reduceEqDiff, Nat.reduceAdd]) (H' := [.mem 14 (List.map eTGlyph l_0) 32, .mem 14 (List.map eTGlyph y_1) 32]) (by first | rfl | simp only [go_sem, reduceIte, Nat.reduceEqDiff, Nat.reduceAdd]) ?_
  refine CallK_go (by simp) ?_
  simp only [go_sem, reduceIte, reduceCtorEq, Nat.reduceEqDiff, Nat.reduceLT, Nat.reduceLeDiff, Nat.reduceAdd, Nat.reduceSub, Nat.reduceMul, Int.reduceToNat, Int.reduceLE, Int.reduceLT, Int.reduceAdd, Int.reduceSub, Int.reduceMul, Int.reduceEq, Int.reduceNeg]
  by_cases h_3 : a_1 < 0
  · rw [if_pos h_3] at h
    have e_4 : (a_1 < 0) = True := eq_true h_3
    simp only [e_4, go_sem, reduceIte, reduceCtorEq, Nat.reduceEqDiff, Nat.reduceLT, Nat.reduceLeDiff, Nat.reduceAdd, Nat.reduceSub, Nat.reduceMul, Int.reduceToNat, Int.reduceLE, Int.reduceLT, Int.reduceAdd, Int.reduceSub, Int.reduceMul, Int.reduceEq, Int.reduceNeg]
    have g_0 := Option.some.inj h
    subst g_0
    rw [← hQ]
    exact ⟨rfl, _, rfl, _, _, (RefV.std [0, 1] (by decide) (by decide) rfl (by first | rfl | simp only [go_sem, reduceIte, Nat.reduceEqDiff, Nat.reduceAdd, e_4])), rfl, rfl⟩
  · rw [if_neg h_3] at h
    have e_4 : (a_1 < 0) = False := eq_false h_3
    simp only [e_4, go_sem, reduceIte, reduceCtorEq, Nat.reduceEqDiff, Nat.reduceLT, Nat.reduceLeDiff, Nat.reduceAdd, Nat.reduceSub, Nat.reduceMul, Int.reduceToNat, Int.reduceLE, Int.reduceLT, Int.reduceAdd, Int.reduceSub, Int.reduceMul, Int.reduceEq, Int.reduceNeg]
    by_cases h_5 : (l_0.length : Int) < a_2
    · rw [if_pos h_5] at h
      have e_6 : ((l_0.length : Int) < a_2) = True := eq_true h_5
      simp only [e_4, e_6, go_sem, reduceIte, reduceCtorEq, Nat.reduceEqDiff, Nat.reduceLT, Nat.reduceLeDiff, Nat.reduceAdd, Nat.reduceSub, Nat.reduceMul, Int.reduceToNat, Int.reduceLE, Int.reduceLT, Int.reduceAdd, Int.reduceSub, Int.reduceMul, Int.reduceEq, Int.reduceNeg]
      have g_0 := Option.some.inj h
      subst g_0
      rw [← hQ]
      exact ⟨rfl, _, rfl, _, _, (RefV.std [0, 1] (by decide) (by decide) rfl (by first | rfl | simp only [go_sem, reduceIte, Nat.reduceEqDiff, Nat.reduceAdd, e_4, e_6])), rfl, rfl⟩
    · rw [if_neg h_5] at h
      have e_6 : ((l_0.length : Int) < a_2) = False := eq_false h_5
      simp only [e_4, e_6, go_sem, reduceIte, reduceCtorEq, Nat.reduceEqDiff, Nat.reduceLT, Nat.reduceLeDiff, Nat.reduceAdd, Nat.reduceSub, Nat.reduceMul, Int.reduceToNat, Int.reduceLE, Int.reduceLT, Int.reduceAdd, Int.reduceSub, Int.reduceMul, Int.reduceEq, Int.reduceNeg]
      by_cases h_7 : a_2 ≤ a_1
      · rw [if_pos h_7] at h
        have e_8 : (a_2 ≤ a_1) = True := eq_true h_7
        simp only [e_4, e_6, e_8, go_sem, reduceIte, reduceCtorEq, Nat.reduceEqDiff, Nat.reduceLT, Nat.reduceLeDiff, Nat.reduceAdd, Nat.reduceSub, Nat.reduceMul, Int.reduceToNat, Int.reduceLE, Int.reduceLT, Int.reduceAdd, Int.reduceSub, Int.reduceMul, Int.reduceEq, Int.reduceNeg]
        have g_0 := Option.some.inj h
        subst g_0
        rw [← hQ]
        exact ⟨rfl, _, rfl, _, _, (RefV.std [0, 1] (by decide) (by decide) rfl (by first | rfl | simp only [go_sem, reduceIte, Nat.reduceEqDiff, Nat.reduceAdd, e_4, e_6, e_8])), rfl, rfl⟩
      · rw [if_neg h_7] at h
        have e_8 : (a_2 ≤ a_1) = False := eq_false h_7
        obtain ⟨x_9, h_10, h⟩ := bindS h
        have e_11 : (List.map eTGlyph l_0)[(a_1).toNat]? = some [.int .i64 x_9.Id, .int .i64 x_9.Cluster, .int .i64 x_9.Mask, .int .i64 x_9.Syl, .int .i32 x_9.Code, .int .i64 x_9.Cat, .int .i64 x_9.Pos, .int .i64 x_9.Key, .int .i64 x_9.Lig, .int .i64 x_9.Part, .int .i64 x_9.X, .int .i64 x_9.Y, .int .i64 x_9.Wide, .int .i64 x_9.High] := atI_map eTGlyph h_10
        have e_12 : ((0 : Int) ≤ a_1) = True := eq_true (atI_some h_10).1
        have e_13 : ((a_1 : Int) < (l_0.length : Int)) = True := eq_true (atI_lt h_10)
        obtain ⟨h_14, h⟩ := guardS h
        have e_15 : (0 ≤ a_1) = True := eq_true h_14
        obtain ⟨h_16, h⟩ := guardS h
        have e_17 : (a_1 ≤ a_2) = True := eq_true h_16
        obtain ⟨h_18, h⟩ := guardS h
        have e_19 : (a_2 ≤ (l_0.length : Int)) = True := eq_true h_18
        simp only [e_4, e_6, e_8, e_11, e_12, e_13, e_15, e_17, e_19, go_sem, reduceIte, reduceCtorEq, Nat.reduceEqDiff, Nat.reduceLT, Nat.reduceLeDiff, Nat.reduceAdd, Nat.reduceSub, Nat.reduceMul, Int.reduceToNat, Int.reduceLE, Int.reduceLT, Int.reduceAdd, Int.reduceSub, Int.reduceMul, Int.reduceEq, Int.reduceNeg]
        obtain ⟨y_1021, h_1020, h⟩ := bindS h
        refine ALp.ref (Ref.std [0, 1, 2, 7, 8, 38, 39, 40] [0, 1] (by decide) (by decide) (by first | rfl | simp only [go_sem, reduceIte, Nat.reduceEqDiff, Nat.reduceAdd]) (by first | rfl | simp only [go_sem, reduceIte, Nat.reduceEqDiff, Nat.reduceAdd])) (by simp) (buffer_Merge_row_L1_w N _ _ _ _ N _ _ y_1021 h_1020 ?_)
        refine LoopK_go rfl (by simp) ?_
        simp only [e_4, e_6, e_8, e_11, e_12, e_13, e_15, e_17, e_19, go_sem, reduceIte, reduceCtorEq, Nat.reduceEqDiff, Nat.reduceLT, Nat.reduceLeDiff, Nat.reduceAdd, Nat.reduceSub, Nat.reduceMul, Int.reduceToNat, Int.reduceLE, Int.reduceLT, Int.reduceAdd, Int.reduceSub, Int.reduceMul, Int.reduceEq, Int.reduceNeg]
        obtain ⟨y_2023, h_2022, h⟩ := bindS h
        refine ALp.ref (Ref.std [0, 1, 2, 7, 8, 11, 12] [0, 1] (by decide) (by decide) rfl (by first | rfl | simp only [go_sem, reduceIte, Nat.reduceEqDiff, Nat.reduceAdd])) (by simp) (buffer_Merge_row_L2_w N _ _ _ _ _ N _ y_2023 h_2022 ?_)
        refine LoopK_go rfl (by simp) ?_
        simp only [e_4, e_6, e_8, e_11, e_12, e_13, e_15, e_17, e_19, go_sem, reduceIte, reduceCtorEq, Nat.reduceEqDiff, Nat.reduceLT, Nat.reduceLeDiff, Nat.reduceAdd, Nat.reduceSub, Nat.reduceMul, Int.reduceToNat, Int.reduceLE, Int.reduceLT, Int.reduceAdd, Int.reduceSub, Int.reduceMul, Int.reduceEq, Int.reduceNeg]
        obtain ⟨y_3025, h_3024, h⟩ := bindS h
        refine ALp.ref (Ref.std [0, 2, 7, 8, 11, 12] [0, 1] (by decide) (by decide) rfl (by first | rfl | simp only [go_sem, reduceIte, Nat.reduceEqDiff, Nat.reduceAdd])) (by simp) (buffer_Merge_row_L3_w N _ _ _ _ _ N _ y_3025 h_3024 ?_)
        refine LoopK_go rfl (by simp) ?_
        simp only [e_4, e_6, e_8, e_11, e_12, e_13, e_15, e_17, e_19, go_sem, reduceIte, reduceCtorEq, Nat.reduceEqDiff, Nat.reduceLT, Nat.reduceLeDiff, Nat.reduceAdd, Nat.reduceSub, Nat.reduceMul, Int.reduceToNat, Int.reduceLE, Int.reduceLT, Int.reduceAdd, Int.reduceSub, Int.reduceMul, Int.reduceEq, Int.reduceNeg]
        obtain ⟨y_4027, h_4026, h⟩ := bindS h
        refine ALp.ref (Ref.std [7, 8, 12, 13] [0, 1] (by decide) (by decide) rfl (by first | rfl | simp only [go_sem, reduceIte, Nat.reduceEqDiff, Nat.reduceAdd])) (by simp) (buffer_Merge_row_L4_w N _ _ _ N _ _ y_4027 h_4026 ?_)
        refine LoopK_go rfl (by simp) ?_
        simp only [e_4, e_6, e_8, e_11, e_12, e_13, e_15, e_17, e_19, go_sem, reduceIte, reduceCtorEq, Nat.reduceEqDiff, Nat.reduceLT, Nat.reduceLeDiff, Nat.reduceAdd, Nat.reduceSub, Nat.reduceMul, Int.reduceToNat, Int.reduceLE, Int.reduceLT, Int.reduceAdd, Int.reduceSub, Int.reduceMul, Int.reduceEq, Int.reduceNeg]
        have g_0 := Option.some.inj h
        subst g_0
        rw [← hQ]
        exact ⟨rfl, _, rfl, _, _, (RefV.std [0, 1] (by decide) (by decide) rfl (by first | rfl | simp only [go_sem, reduceIte, Nat.reduceEqDiff, Nat.reduceAdd, e_4, e_6, e_8])), rfl, rfl⟩
theorem buffer_Order_L1_w (N : Nat) (a_1 : Int) (l_2 : List Int) (y_1 : List TArr2_I64) (c_1 : Bool) {R : AExit → ATm → List AObj → Prop} : ∀ (n : Nat) (i_13 : Int) (s_14 : List TGlyph) (o : (List TGlyph)), buffer_Order_L1 N a_1 l_2 y_1 n i_13 s_14 = some o → (match o with | z_1 => R (.exit 0) ⟨87, [(1, .int .i64 a_1), (2, .vec c_1 (List.map eI64 l_2)), (8, .row 0 0 z_1.length)], []⟩ [.mem 14 (List.map eTGlyph z_1) 32]) →
    ALp Go.Proofs.Try.prog 0 B19_1 ⟨87, [(1, .int .i64 a_1), (2, .vec c_1 (List.map eI64 l_2)), (8, .row 0 0 s_14.length), (42, .vec false (List.map eTArr2_I64 y_1)), (43, .int .i64 (y_1.length : Int)), (44, .int .i64 i_13)], []⟩ [.mem 14 (List.map eTGlyph s_14) 32] R := by
  intro n
  induction n with
  | zero =>
    intro i_13 s_14 o h _
    have h0 : none = some o := h
    cases h0
  | succ n ih =>
    intro i_13 s_14 o h hp
    rw [buffer_Order_L1] at h
    refine ALp.round ?_
    generalize hQ : RoundQ _ _ _ _ = QQ
    simp only [B19_1, A19, go_sem, reduceIte, reduceCtorEq, Nat.reduceEqDiff, Nat.reduceLT, Nat.reduceLeDiff, Nat.reduceAdd, Nat.reduceSub, Nat.reduceMul, Int.reduceToNat, Int.reduceLE, Int.reduceLT, Int.reduceAdd, Int.reduceSub, Int.reduceMul, Int.reduceEq, Int.reduceNeg]
    by_cases h_15 : i_13 < (y_1.length : Int)
    · rw [if_pos h_15] at h
      have e_16 : (i_13 < (y_1.length : Int)) = True := eq_true h_15
      obtain ⟨x_17, h_18, h⟩ := bindS h
      have e_19 : (List.map eTArr2_I64 y_1)[(i_13).toNat]? = some [.int .i64 x_17.e0, .int .i64 x_17.e1] := atI_map eTArr2_I64 h_18
      have e_20 : ((0 : Int) ≤ i_13) = True := eq_true (atI_some h_18).1
      have e_21 : ((i_13 : Int) < (y_1.length : Int)) = True := eq_true (atI_lt h_18)
      simp only [e_16, e_19, e_20, e_21, go_sem, reduceIte, reduceCtorEq, Nat.reduceEqDiff, Nat.reduceLT, Nat.reduceLeDiff, Nat.reduceAdd, Nat.reduceSub, Nat.reduceMul, Int.reduceToNat, Int.reduceLE, Int.reduceLT, Int.reduceAdd, Int.reduceSub, Int.reduceMul, Int.reduceEq, Int.reduceNeg]
      by_cases h_22 : 1 < IntKind.i64.wrap (x_17.e1 - x_17.e0)
      · rw [if_pos h_22] at h
        have e_23 : (1 < IntKind.i64.wrap (x_17.e1 - x_17.e0)) = True := eq_true h_22
        obtain ⟨y_24, h_25, h⟩ := bindS h
        simp only [e_16, e_19, e_20, e_21, e_23, go_sem, reduceIte, reduceCtorEq, Nat.reduceEqDiff, Nat.reduceLT, Nat.reduceLeDiff, Nat.reduceAdd, Nat.reduceSub, Nat.reduceMul, Int.reduceToNat, Int.reduceLE, Int.reduceLT, Int.reduceAdd, Int.reduceSub, Int.reduceMul, Int.reduceEq, Int.reduceNeg]
        refine ACalls.use (buffer_Merge_row_w N _ _ _ _ h_25) [0] (by decide) ⟨(by first | rfl | simp only [go_sem, reduceIte, Nat.reduceEqDiff, Nat.reduceAdd, e_16, e_23]), trivial⟩ rfl (v' := .row 2 0 y_24.length) (by first | rfl | simp only [go_sem, reduceIte, Nat.reduceEqDiff, Nat.reduceAdd, e_16, e_23]) (H' := [.mem 14 (List.map eTGlyph s_14) 32, .box [.int .i64 x_17.e0, .int .i64 x_17.e1] 77, .mem 14 (List.map eTGlyph y_24) 32]) (by first | rfl | simp only [go_sem, reduceIte, Nat.reduceEqDiff, Nat.reduceAdd, e_16, e_23]) ?_
        refine CallK_go (Nat.zero_le _) ?_
        simp only [e_16, e_19, e_20, e_21, e_23, go_sem, reduceIte, reduceCtorEq, Nat.reduceEqDiff, Nat.reduceLT, Nat.reduceLeDiff, Nat.reduceAdd, Nat.reduceSub, Nat.reduceMul, Int.reduceToNat, Int.reduceLE, Int.reduceLT, Int.reduceAdd, Int.reduceSub, Int.reduceMul, Int.reduceEq, Int.reduceNeg]
        rw [← hQ]
        exact ⟨_, _, (Ref.std [1, 2, 8, 42, 43, 44] [2] (by decide) low0 rfl (by first | rfl | simp only [go_sem, reduceIte, Nat.reduceEqDiff, Nat.reduceAdd])), (Nat.zero_le _), ih _ _ _ h hp⟩
      · rw [if_neg h_22] at h
        have e_23 : (1 < IntKind.i64.wrap (x_17.e1 - x_17.e0)) = False := eq_false h_22
        simp only [e_16, e_19, e_20, e_21, e_23, go_sem, reduceIte, reduceCtorEq, Nat.reduceEqDiff, Nat.reduceLT, Nat.reduceLeDiff, Nat.reduceAdd, Nat.reduceSub, Nat.reduceMul, Int.reduceToNat, Int.reduceLE, Int.reduceLT, Int.reduceAdd, Int.reduceSub, Int.reduceMul, Int.reduceEq, Int.reduceNeg]
        rw [← hQ]
        exact ⟨_, _, (Ref.std [1, 2, 8, 42, 43, 44] [0] (by decide) low0 rfl (by first | rfl | simp only [go_sem, reduceIte, Nat.reduceEqDiff, Nat.reduceAdd])), (Nat.zero_le _), ih _ _ _ h hp⟩
    · rw [if_neg h_15] at h
      have e_16 : (i_13 < (y_1.length : Int)) = False := eq_false h_15
      simp only [e_16, go_sem, reduceIte, reduceCtorEq, Nat.reduceEqDiff, Nat.reduceLT, Nat.reduceLeDiff, Nat.reduceAdd, Nat.reduceSub, Nat.reduceMul, Int.reduceToNat, Int.reduceLE, Int.reduceLT, Int.reduceAdd, Int.reduceSub, Int.reduceMul, Int.reduceEq, Int.reduceNeg]
      have g := Option.some.inj h
      subst g
      rw [← hQ]
      exact ⟨_, _, (Ref.std [1, 2, 8] [0] (by decide) low0 rfl (by first | rfl | simp only [go_sem, reduceIte, Nat.reduceEqDiff, Nat.reduceAdd])), hp⟩
theorem buffer_Order_L2_w (N : Nat) (a_1 : Int) (l_2 : List Int) (y_1015 : List TGlyph) (c_1 : Bool) {R : AExit → ATm → List AObj → Prop} : ∀ (n : Nat) (i_1017 : Int) (s_1018 : List TGlyph) (o : (List TGlyph)), buffer_Order_L2 N a_1 l_2 y_1015 n i_1017 s_1018 = some o → (match o with | z_1 => R (.exit 2) ⟨87, [(8, .row 0 0 z_1.length)], []⟩ [.mem 14 (List.map eTGlyph z_1) 32]) →
    ALp Go.Proofs.Try.prog 0 B19_2 ⟨87, [(1, .int .i64 a_1), (8, .row 0 0 s_1018.length), (11, .row 1 0 y_1015.length), (67, .vec c_1 (List.map eI64 l_2)), (68, .int .i64 (l_2.length : Int)), (69, .int .i64 i_1017)], []⟩ [.mem 14 (List.map eTGlyph s_1018) 32, .mem 14 (List.map eTGlyph y_1015) 32] R := by
  intro n
  induction n with
  | zero =>
    intro i_1017 s_1018 o h _
    have h0 : none = some o := h
    cases h0
  | succ n ih =>
    intro i_1017 s_1018 o h hp
    rw [buffer_Order_L2] at h
    refine ALp.round ?_
    generalize hQ : RoundQ _ _ _ _ = QQ
    simp only [B19_2, A19, go_sem, reduceIte, reduceCtorEq, Nat.reduceEqDiff, Nat.reduceLT, Nat.reduceLeDiff, Nat.reduceAdd, Nat.reduceSub, Nat.reduceMul, Int.reduceToNat, Int.reduceLE, Int.reduceLT, Int.reduceAdd, Int.reduceSub, Int.reduceMul, Int.reduceEq, Int.reduceNeg]
    by_cases h_1019 : i_1017 < (l_2.length : Int)
    · rw [if_pos h_1019] at h
      have e_1020 : (i_1017 < (l_2.length : Int)) = True := eq_true h_1019
      obtain ⟨x_1021, h_1022, h⟩ := bindS h
      have e_1023 : (List.map eI64 l_2)[(i_1017).toNat]? = some [.int .i64 x_1021] := atI_map eI64 h_1022
      have e_1024 : ((0 : Int) ≤ i_1017) = True := eq_true (atI_some h_1022).1
      have e_1025 : ((i_1017 : Int) < (l_2.length : Int)) = True := eq_true (atI_lt h_1022)
      obtain ⟨x_1026, h_1027, h⟩ := bindS h
      have e_1028 : (List.map eTGlyph y_1015)[(IntKind.i64.wrap (a_1 + x_1021)).toNat]? = some [.int .i64 x_1026.Id, .int .i64 x_1026.Cluster, .int .i64 x_1026.Mask, .int .i64 x_1026.Syl, .int .i32 x_1026.Code, .int .i64 x_1026.Cat, .int .i64 x_1026.Pos, .int .i64 x_1026.Key, .int .i64 x_1026.Lig, .int .i64 x_1026.Part, .int .i64 x_1026.X, .int .i64 x_1026.Y, .int .i64 x_1026.Wide, .int .i64 x_1026.High] := atI_map eTGlyph h_1027
      have e_1029 : ((0 : Int) ≤ IntKind.i64.wrap (a_1 + x_1021)) = True := eq_true (atI_some h_1027).1
      have e_1030 : ((IntKind.i64.wrap (a_1 + x_1021) : Int) < (y_1015.length : Int)) = True := eq_true (atI_lt h_1027)
      obtain ⟨x_1031, h_1032, h⟩ := bindS h
      have e_1033 : (List.map eTGlyph s_1018)[(IntKind.i64.wrap (a_1 + i_1017)).toNat]? = some [.int .i64 x_1031.Id, .int .i64 x_1031.Cluster, .int .i64 x_1031.Mask, .int .i64 x_1031.Syl, .int .i32 x_1031.Code, .int .i64 x_1031.Cat, .int .i64 x_1031.Pos, .int .i64 x_1031.Key, .int .i64 x_1031.Lig, .int .i64 x_1031.Part, .int .i64 x_1031.X, .int .i64 x_1031.Y, .int .i64 x_1031.Wide, .int .i64 x_1031.High] := atI_map eTGlyph h_1032
      have e_1034 : ((0 : Int) ≤ IntKind.i64.wrap (a_1 + i_1017)) = True := eq_true (atI_some h_1032).1
      have e_1035 : ((IntKind.i64.wrap (a_1 + i_1017) : Int) < (s_1018.length : Int)) = True := eq_true (atI_lt h_1032)
      have e_1036 : (List.map eTGlyph s_1018).set (IntKind.i64.wrap (a_1 + i_1017)).toNat [.int .i64 x_1026.Id, .int .i64 x_1026.Cluster, .int .i64 x_1026.Mask, .int .i64 x_1026.Syl, .int .i32 x_1026.Code, .int .i64 x_1026.Cat, .int .i64 x_1026.Pos, .int .i64 x_1026.Key, .int .i64 x_1026.Lig, .int .i64 x_1026.Part, .int .i64 x_1026.X, .int .i64 x_1026.Y, .int .i64 x_1026.Wide, .int .i64 x_1026.High] = List.map eTGlyph (List.set s_1018 (IntKind.i64.wrap (a_1 + i_1017)).toNat x_1026) := set_map s_1018 eTGlyph (IntKind.i64.wrap (a_1 + i_1017)).toNat x_1026
      simp only [e_1020, e_1023, e_1024, e_1025, e_1028, e_1029, e_1030, e_1033, e_1034, e_1035, e_1036, go_sem, reduceIte, reduceCtorEq, Nat.reduceEqDiff, Nat.reduceLT, Nat.reduceLeDiff, Nat.reduceAdd, Nat.reduceSub, Nat.reduceMul, Int.reduceToNat, Int.reduceLE, Int.reduceLT, Int.reduceAdd, Int.reduceSub, Int.reduceMul, Int.reduceEq, Int.reduceNeg]
      rw [← hQ]
      exact ⟨_, _, (Ref.std [1, 8, 11, 67, 68, 69] [0, 1] (by decide) low0 (by first | rfl | simp only [go_sem, reduceIte, Nat.reduceEqDiff, Nat.reduceAdd]) (by first | rfl | simp only [go_sem, reduceIte, Nat.reduceEqDiff, Nat.reduceAdd])), (Nat.zero_le _), ih _ _ _ h hp⟩
    · rw [if_neg h_1019] at h
      have e_1020 : (i_1017 < (l_2.length : Int)) = False := eq_false h_1019
      simp only [e_1020, go_sem, reduceIte, reduceCtorEq, Nat.reduceEqDiff, Nat.reduceLT, Nat.reduceLeDiff, Nat.reduceAdd, Nat.reduceSub, Nat.reduceMul, Int.reduceToNat, Int.reduceLE, Int.reduceLT, Int.reduceAdd, Int.reduceSub, Int.reduceMul, Int.reduceEq, Int.reduceNeg]
      have g := Option.some.inj h
      subst g
      rw [← hQ]
      exact ⟨_, _, (Ref.std [8] [0] (by decide) low0 rfl (by first | rfl | simp only [go_sem, reduceIte, Nat.reduceEqDiff, Nat.reduceAdd])), hp⟩
theorem buffer_Order_w (N : Nat) (l_0 : List TGlyph) (a_1 : Int) (l_2 : List Int) (c_0 : Bool) (c_1 : Bool) (z_1 : List TGlyph) (h : buffer_Order N l_0 a_1 l_2 = some z_1) :
    ACalls Go.Proofs.Try.prog 19 [.vec c_0 (List.map eTGlyph l_0), .int .i64 a_1, .vec c_1 (List.map eI64 l_2)] [] (fun e H => H = [] ∧ e = .ret (.vec false (List.map eTGlyph z_1))) := by
  unfold buffer_Order at h
  refine ACalls.goN Go.Proofs.Try.func19 n19 a19 Go.Proofs.Try.ntmps19 r19 (by simp) 0 rfl ?_
  generalize hQ : bodyA _ _ _ = QQ
  obtain ⟨y_1, h_2, h⟩ := bindS h
  simp only [A19, go_sem, reduceIte, reduceCtorEq, Nat.reduceEqDiff, Nat.reduceLT, Nat.reduceLeDiff, Nat.reduceAdd, Nat.reduceSub, Nat.reduceMul, Int.reduceToNat, Int.reduceLE, Int.reduceLT, Int.reduceAdd, Int.reduceSub, Int.reduceMul, Int.reduceEq, Int.reduceNeg]
  refine ACalls.use0 (buffer_Blocks_w N _ _ _ h_2) rfl rfl ?_
  refine CallK_go (Nat.zero_le _) ?_
  obtain ⟨y_3, h_4, h⟩ := bindS h
  simp only [go_sem, reduceIte, reduceCtorEq, Nat.reduceEqDiff, Nat.reduceLT, Nat.reduceLeDiff, Nat.reduceAdd, Nat.reduceSub, Nat.reduceMul, Int.reduceToNat, Int.reduceLE, Int.reduceLT, Int.reduceAdd, Int.reduceSub, Int.reduceMul, Int.reduceEq, Int.reduceNeg]
  refine ACalls.use (slices_Clone_apiGlyphapiGlyph_w N _ _ _ h_4) [] (by decide) trivial rfl (v' := .row 0 0 y_3.length) (by first | rfl | simp only [go_sem, reduceIte, Nat.reduceEqDiff, Nat.reduceAdd]) (H' := [.mem 14 (List.map eTGlyph y_3) 32]) (by first | rfl | simp only [go_sem, reduceIte, Nat.reduceEqDiff, Nat.reduceAdd]) ?_
  refine CallK_go (Nat.zero_le _) ?_
  simp only [go_sem, reduceIte, reduceCtorEq, Nat.reduceEqDiff, Nat.reduceLT, Nat.reduceLeDiff, Nat.reduceAdd, Nat.reduceSub, Nat.reduceMul, Int.reduceToNat, Int.reduceLE, Int.reduceLT, Int.reduceAdd, Int.reduceSub, Int.reduceMul, Int.reduceEq, Int.reduceNeg]
  by_cases h_5 : a_1 < 0
  · rw [if_pos h_5] at h
    have e_6 : (a_1 < 0) = True := eq_true h_5
    simp only [e_6, go_sem, reduceIte, reduceCtorEq, Nat.reduceEqDiff, Nat.reduceLT, Nat.reduceLeDiff, Nat.reduceAdd, Nat.reduceSub, Nat.reduceMul, Int.reduceToNat, Int.reduceLE, Int.reduceLT, Int.reduceAdd, Int.reduceSub, Int.reduceMul, Int.reduceEq, Int.reduceNeg]
    have g_0 := Option.some.inj h
    subst g_0
    rw [← hQ]
    exact ⟨rfl, _, rfl, _, _, (RefV.trans (RefV.frz (Nat.zero_le _) (id := 0) rfl (pures_map y_3 eTGlyph (fun _ => rfl))) (RefV.out (by first | rfl | simp only [go_sem, reduceIte, Nat.reduceEqDiff, Nat.reduceAdd, e_6]))), rfl, rfl⟩
  · rw [if_neg h_5] at h
    have e_6 : (a_1 < 0) = False := eq_false h_5
    simp only [e_6, go_sem, reduceIte, reduceCtorEq, Nat.reduceEqDiff, Nat.reduceLT, Nat.reduceLeDiff, Nat.reduceAdd, Nat.reduceSub, Nat.reduceMul, Int.reduceToNat, Int.reduceLE, Int.reduceLT, Int.reduceAdd, Int.reduceSub, Int.reduceMul, Int.reduceEq, Int.reduceNeg]
    by_cases h_7 : (l_0.length : Int) < (l_2.length : Int)
    · rw [if_pos h_7] at h
      have e_8 : ((l_0.length : Int) < (l_2.length : Int)) = True := eq_true h_7
      simp only [e_6, e_8, go_sem, reduceIte, reduceCtorEq, Nat.reduceEqDiff, Nat.reduceLT, Nat.reduceLeDiff, Nat.reduceAdd, Nat.reduceSub, Nat.reduceMul, Int.reduceToNat, Int.reduceLE, Int.reduceLT, Int.reduceAdd, Int.reduceSub, Int.reduceMul, Int.reduceEq, Int.reduceNeg]
      have g_0 := Option.some.inj h
      subst g_0
      rw [← hQ]
      exact ⟨rfl, _, rfl, _, _, (RefV.trans (RefV.frz (Nat.zero_le _) (id := 0) rfl (pures_map y_3 eTGlyph (fun _ => rfl))) (RefV.out (by first | rfl | simp only [go_sem, reduceIte, Nat.reduceEqDiff, Nat.reduceAdd, e_6, e_8]))), rfl, rfl⟩
    · rw [if_neg h_7] at h
      have e_8 : ((l_0.length : Int) < (l_2.length : Int)) = False := eq_false h_7
      simp only [e_6, e_8, go_sem, reduceIte, reduceCtorEq, Nat.reduceEqDiff, Nat.reduceLT, Nat.reduceLeDiff, Nat.reduceAdd, Nat.reduceSub, Nat.reduceMul, Int.reduceToNat, Int.reduceLE, Int.reduceLT, Int.reduceAdd, Int.reduceSub, Int.reduceMul, Int.reduceEq, Int.reduceNeg]
      by_cases h_9 : IntKind.i64.wrap ((l_0.length : Int) - (l_2.length : Int)) < a_1
      · rw [if_pos h_9] at h
        have e_10 : (IntKind.i64.wrap ((l_0.length : Int) - (l_2.length : Int)) < a_1) = True := eq_true h_9
        simp only [e_6, e_8, e_10, go_sem, reduceIte, reduceCtorEq, Nat.reduceEqDiff, Nat.reduceLT, Nat.reduceLeDiff, Nat.reduceAdd, Nat.reduceSub, Nat.reduceMul, Int.reduceToNat, Int.reduceLE, Int.reduceLT, Int.reduceAdd, Int.reduceSub, Int.reduceMul, Int.reduceEq, Int.reduceNeg]
        have g_0 := Option.some.inj h
        subst g_0
        rw [← hQ]
        exact ⟨rfl, _, rfl, _, _, (RefV.trans (RefV.frz (Nat.zero_le _) (id := 0) rfl (pures_map y_3 eTGlyph (fun _ => rfl))) (RefV.out (by first | rfl | simp only [go_sem, reduceIte, Nat.reduceEqDiff, Nat.reduceAdd, e_6, e_8, e_10]))), rfl, rfl⟩
      · rw [if_neg h_9] at h
        have e_10 : (IntKind.i64.wrap ((l_0.length : Int) - (l_2.length : Int)) < a_1) = False := eq_false h_9
        simp only [e_6, e_8, e_10, go_sem, reduceIte, reduceCtorEq, Nat.reduceEqDiff, Nat.reduceLT, Nat.reduceLeDiff, Nat.reduceAdd, Nat.reduceSub, Nat.reduceMul, Int.reduceToNat, Int.reduceLE, Int.reduceLT, Int.reduceAdd, Int.reduceSub, Int.reduceMul, Int.reduceEq, Int.reduceNeg]
        by_cases h_11 : (y_1.length : Int) = 0
        · rw [if_pos h_11] at h
          have e_12 : ((y_1.length : Int) = 0) = True := eq_true h_11
          simp only [e_6, e_8, e_10, e_12, go_sem, reduceIte, reduceCtorEq, Nat.reduceEqDiff, Nat.reduceLT, Nat.reduceLeDiff, Nat.reduceAdd, Nat.reduceSub, Nat.reduceMul, Int.reduceToNat, Int.reduceLE, Int.reduceLT, Int.reduceAdd, Int.reduceSub, Int.reduceMul, Int.reduceEq, Int.reduceNeg]
          have g_0 := Option.some.inj h
          subst g_0
          rw [← hQ]
          exact ⟨rfl, _, rfl, _, _, (RefV.trans (RefV.frz (Nat.zero_le _) (id := 0) rfl (pures_map y_3 eTGlyph (fun _ => rfl))) (RefV.out (by first | rfl | simp only [go_sem, reduceIte, Nat.reduceEqDiff, Nat.reduceAdd, e_6, e_8, e_10, e_12]))), rfl, rfl⟩
        · rw [if_neg h_11] at h
          have e_12 : ((y_1.length : Int) = 0) = False := eq_false h_11
          simp only [e_6, e_8, e_10, e_12, go_sem, reduceIte, reduceCtorEq, Nat.reduceEqDiff, Nat.reduceLT, Nat.reduceLeDiff, Nat.reduceAdd, Nat.reduceSub, Nat.reduceMul, Int.reduceToNat, Int.reduceLE, Int.reduceLT, Int.reduceAdd, Int.reduceSub, Int.reduceMul, Int.reduceEq, Int.reduceNeg]
          obtain ⟨y_1014, h_1013, h⟩ := bindS h
          refine ALp.ref (Ref.std [1, 2, 8, 42, 43, 44] [0] (by decide) low0 rfl (by first | rfl | simp only [go_sem, reduceIte, Nat.reduceEqDiff, Nat.reduceAdd])) (Nat.zero_le _) (buffer_Order_L1_w N _ _ _ c_1 N _ _ y_1014 h_1013 ?_)
          refine LoopK_go rfl (Nat.zero_le _) ?_
          obtain ⟨y_1015, h_1016, h⟩ := bindS h
          simp only [e_6, e_8, e_10, e_12, go_sem, reduceIte, reduceCtorEq, Nat.reduceEqDiff, Nat.reduceLT, Nat.reduceLeDiff, Nat.reduceAdd, Nat.reduceSub, Nat.reduceMul, Int.reduceToNat, Int.reduceLE, Int.reduceLT, Int.reduceAdd, Int.reduceSub, Int.reduceMul, Int.reduceEq, Int.reduceNeg]
          refine ACalls.use (slices_Clone_apiGlyphapiGlyph_row_w N _ _ h_1016) [0] (by decide) ⟨(by first | rfl | simp only [go_sem, reduceIte, Nat.reduceEqDiff, Nat.reduceAdd]), trivial⟩ rfl (v' := .row 1 0 y_1015.length) (by first | rfl | simp only [go_sem, reduceIte, Nat.reduceEqDiff, Nat.reduceAdd]) (H' := [.mem 14 (List.map eTGlyph y_1014) 32, .mem 14 (List.map eTGlyph y_1015) 32]) (by first | rfl | simp only [go_sem, reduceIte, Nat.reduceEqDiff, Nat.reduceAdd]) ?_
          refine CallK_go (Nat.zero_le _) ?_
          simp only [e_6, e_8, e_10, e_12, go_sem, reduceIte, reduceCtorEq, Nat.reduceEqDiff, Nat.reduceLT, Nat.reduceLeDiff, Nat.reduceAdd, Nat.reduceSub, Nat.reduceMul, Int.reduceToNat, Int.reduceLE, Int.reduceLT, Int.reduceAdd, Int.reduceSub, Int.reduceMul, Int.reduceEq, Int.reduceNeg]
          obtain ⟨y_2018, h_2017, h⟩ := bindS h
          refine ALp.ref (Ref.std [1, 8, 11, 67, 68, 69] [0, 1] (by decide) low0 rfl (by first | rfl | simp only [go_sem, reduceIte, Nat.reduceEqDiff, Nat.reduceAdd])) (Nat.zero_le _) (buffer_Order_L2_w N _ _ _ c_1 N _ _ y_2018 h_2017 ?_)
          refine LoopK_go rfl (Nat.zero_le _) ?_
          simp only [e_6, e_8, e_10, e_12, go_sem, reduceIte, reduceCtorEq, Nat.reduceEqDiff, Nat.reduceLT, Nat.reduceLeDiff, Nat.reduceAdd, Nat.reduceSub, Nat.reduceMul, Int.reduceToNat, Int.reduceLE, Int.reduceLT, Int.reduceAdd, Int.reduceSub, Int.reduceMul, Int.reduceEq, Int.reduceNeg]
          have g_0 := Option.some.inj h
          subst g_0
          rw [← hQ]
          exact ⟨rfl, _, rfl, _, _, (RefV.trans (RefV.frz (Nat.zero_le _) (id := 0) rfl (pures_map y_2018 eTGlyph (fun _ => rfl))) (RefV.out (by first | rfl | simp only [go_sem, reduceIte, Nat.reduceEqDiff, Nat.reduceAdd, e_6, e_8, e_10, e_12]))), rfl, rfl⟩
theorem ref17_Each_L2_w (N : Nat) (l_0 : List Int) (i_1 : Int) (c_0 : Bool) {R : AExit → ATm → List AObj → Prop} : ∀ (n : Nat) (i_4 : Int) (i_5 : Int) (o : Int), ref17_Each_L2 N l_0 i_1 n i_4 i_5 = some o → (match o with | z_1 => R (.exit 2) ⟨28, [(0, .vec c_0 (List.map eI64 l_0)), (3, .int .i64 i_1), (4, .int .i64 z_1)], []⟩ []) →
    ALp Go.Proofs.Try.prog 0 B20_2 ⟨28, [(0, .vec c_0 (List.map eI64 l_0)), (3, .int .i64 i_1), (4, .int .i64 i_4), (5, .int .i64 i_5)], []⟩ [] R := by
  intro n
  induction n with
  | zero =>
    intro i_4 i_5 o h _
    have h0 : none = some o := h
    cases h0
  | succ n ih =>
    intro i_4 i_5 o h hp
    rw [ref17_Each_L2] at h
    refine ALp.round ?_
    generalize hQ : RoundQ _ _ _ _ = QQ
    simp only [B20_2, B20_1, A20, go_sem, reduceIte, reduceCtorEq, Nat.reduceEqDiff, Nat.reduceLT, Nat.reduceLeDiff, Nat.reduceAdd, Nat.reduceSub, Nat.reduceMul, Int.reduceToNat, Int.reduceLE, Int.reduceLT, Int.reduceAdd, Int.reduceSub, Int.reduceMul, Int.reduceEq, Int.reduceNeg]
    by_cases h_6 : i_5 < (l_0.length : Int)
    · rw [if_pos h_6] at h
      have e_7 : (i_5 < (l_0.length : Int)) = True := eq_true h_6
      obtain ⟨x_8, h_9, h⟩ := bindS h
      have e_10 : (List.map eI64 l_0)[(i_5).toNat]? = some [.int .i64 x_8] := atI_map eI64 h_9
      have e_11 : ((0 : Int) ≤ i_5) = True := eq_true (atI_some h_9).1
      have e_12 : ((i_5 : Int) < (l_0.length : Int)) = True := eq_true (atI_lt h_9)
      simp only [e_7, e_10, e_11, e_12, go_sem, reduceIte, reduceCtorEq, Nat.reduceEqDiff, Nat.reduceLT, Nat.reduceLeDiff, Nat.reduceAdd, Nat.reduceSub, Nat.reduceMul, Int.reduceToNat, Int.reduceLE, Int.reduceLT, Int.reduceAdd, Int.reduceSub, Int.reduceMul, Int.reduceEq, Int.reduceNeg]
      by_cases h_13 : x_8 = i_1
      · rw [if_pos h_13] at h
        have e_14 : (x_8 = i_1) = True := eq_true h_13
        simp only [e_7, e_10, e_11, e_12, e_14, go_sem, reduceIte, reduceCtorEq, Nat.reduceEqDiff, Nat.reduceLT, Nat.reduceLeDiff, Nat.reduceAdd, Nat.reduceSub, Nat.reduceMul, Int.reduceToNat, Int.reduceLE, Int.reduceLT, Int.reduceAdd, Int.reduceSub, Int.reduceMul, Int.reduceEq, Int.reduceNeg]
        rw [← hQ]
        exact ⟨_, _, (Ref.out [0, 3, 4, 5] rfl), (Nat.zero_le _), ih _ _ _ h hp⟩
      · rw [if_neg h_13] at h
        have e_14 : (x_8 = i_1) = False := eq_false h_13
        simp only [e_7, e_10, e_11, e_12, e_14, go_sem, reduceIte, reduceCtorEq, Nat.reduceEqDiff, Nat.reduceLT, Nat.reduceLeDiff, Nat.reduceAdd, Nat.reduceSub, Nat.reduceMul, Int.reduceToNat, Int.reduceLE, Int.reduceLT, Int.reduceAdd, Int.reduceSub, Int.reduceMul, Int.reduceEq, Int.reduceNeg]
        rw [← hQ]
        exact ⟨_, _, (Ref.out [0, 3, 4, 5] rfl), (Nat.zero_le _), ih _ _ _ h hp⟩
    · rw [if_neg h_6] at h
      have e_7 : (i_5 < (l_0.length : Int)) = False := eq_false h_6
      simp only [e_7, go_sem, reduceIte, reduceCtorEq, Nat.reduceEqDiff, Nat.reduceLT, Nat.reduceLeDiff, Nat.reduceAdd, Nat.reduceSub, Nat.reduceMul, Int.reduceToNat, Int.reduceLE, Int.reduceLT, Int.reduceAdd, Int.reduceSub, Int.reduceMul, Int.reduceEq, Int.reduceNeg]
      have g := Option.some.inj h
      subst g
      rw [← hQ]
      exact ⟨_, _, (Ref.out [0, 3, 4] rfl), hp⟩
theorem ref17_Each_L3_w (N : Nat) (l_0 : List Int) (c_0 : Bool) {R : AExit → ATm → List AObj → Prop} : ∀ (n : Nat) (i_1 : Int) (o : (Unit) ⊕ (Unit)), ref17_Each_L3 N l_0 n i_1 = some o → (match o with | .inl _ => R (.exit 0) ⟨28, [], []⟩ [] | .inr (_) => R .ret ⟨28, [(2, .bool false)], []⟩ []) →
    ALp Go.Proofs.Try.prog 0 B20_1 ⟨28, [(0, .vec c_0 (List.map eI64 l_0)), (3, .int .i64 i_1)], []⟩ [] R := by
  intro n
  induction n with
  | zero =>
    intro i_1 o h _
    have h0 : none = some o := h
    cases h0
  | succ n ih =>
    intro i_1 o h hp
    rw [ref17_Each_L3] at h
    refine ALp.round ?_
    generalize hQ : RoundQ _ _ _ _ = QQ
    simp only [B20_1, A20, go_sem, reduceIte, reduceCtorEq, Nat.reduceEqDiff, Nat.reduceLT, Nat.reduceLeDiff, Nat.reduceAdd, Nat.reduceSub, Nat.reduceMul, Int.reduceToNat, Int.reduceLE, Int.reduceLT, Int.reduceAdd, Int.reduceSub, Int.reduceMul, Int.reduceEq, Int.reduceNeg]
    by_cases h_2 : i_1 < (l_0.length : Int)
    · rw [if_pos h_2] at h
      have e_3 : (i_1 < (l_0.length : Int)) = True := eq_true h_2
      simp only [e_3, go_sem, reduceIte, reduceCtorEq, Nat.reduceEqDiff, Nat.reduceLT, Nat.reduceLeDiff, Nat.reduceAdd, Nat.reduceSub, Nat.reduceMul, Int.reduceToNat, Int.reduceLE, Int.reduceLT, Int.reduceAdd, Int.reduceSub, Int.reduceMul, Int.reduceEq, Int.reduceNeg]
      obtain ⟨y_1005, h_1004, h⟩ := bindS h
      refine ALp.ref (Ref.out [0, 3, 4, 5] rfl) (Nat.zero_le _) (ref17_Each_L2_w N _ _ c_0 N _ _ y_1005 h_1004 ?_)
      refine LoopK_go rfl (Nat.zero_le _) ?_
      simp only [e_3, go_sem, reduceIte, reduceCtorEq, Nat.reduceEqDiff, Nat.reduceLT, Nat.reduceLeDiff, Nat.reduceAdd, Nat.reduceSub, Nat.reduceMul, Int.reduceToNat, Int.reduceLE, Int.reduceLT, Int.reduceAdd, Int.reduceSub, Int.reduceMul, Int.reduceEq, Int.reduceNeg]
      by_cases h_1006 : y_1005 = 1
      · rw [if_pos h_1006] at h
        have e_1007 : (y_1005 = 1) = True := eq_true h_1006
        simp only [e_3, e_1007, go_sem, reduceIte, reduceCtorEq, Nat.reduceEqDiff, Nat.reduceLT, Nat.reduceLeDiff, Nat.reduceAdd, Nat.reduceSub, Nat.reduceMul, Int.reduceToNat, Int.reduceLE, Int.reduceLT, Int.reduceAdd, Int.reduceSub, Int.reduceMul, Int.reduceEq, Int.reduceNeg]
        rw [← hQ]
        exact ⟨_, _, (Ref.out [0, 3] rfl), (Nat.zero_le _), ih _ _ h hp⟩
      · rw [if_neg h_1006] at h
        have e_1007 : (y_1005 = 1) = False := eq_false h_1006
        simp only [e_3, e_1007, go_sem, reduceIte, reduceCtorEq, Nat.reduceEqDiff, Nat.reduceLT, Nat.reduceLeDiff, Nat.reduceAdd, Nat.reduceSub, Nat.reduceMul, Int.reduceToNat, Int.reduceLE, Int.reduceLT, Int.reduceAdd, Int.reduceSub, Int.reduceMul, Int.reduceEq, Int.reduceNeg]
        have g := Option.some.inj h
        subst g
        rw [← hQ]
        exact ⟨_, _, (Ref.out [2] rfl), hp⟩
    · rw [if_neg h_2] at h
      have e_3 : (i_1 < (l_0.length : Int)) = False := eq_false h_2
      simp only [e_3, go_sem, reduceIte, reduceCtorEq, Nat.reduceEqDiff, Nat.reduceLT, Nat.reduceLeDiff, Nat.reduceAdd, Nat.reduceSub, Nat.reduceMul, Int.reduceToNat, Int.reduceLE, Int.reduceLT, Int.reduceAdd, Int.reduceSub, Int.reduceMul, Int.reduceEq, Int.reduceNeg]
      have g := Option.some.inj h
      subst g
      rw [← hQ]
      exact ⟨_, _, (Ref.out [] rfl), hp⟩
theorem ref17_Each_w (N : Nat) (l_0 : List Int) (c_0 : Bool) (z_1 : Bool) (h : ref17_Each N l_0 = some z_1) :
    ACalls Go.Proofs.Try.prog 20 [.vec c_0 (List.map eI64 l_0)] [] (fun e H => H = [] ∧ e = .ret (.bool z_1)) := by
  unfold ref17_Each at h
  refine ACalls.goN Go.Proofs.Try.func20 n20 a20 Go.Proofs.Try.ntmps20 r20 (by simp) 0 rfl ?_
  generalize hQ : bodyA _ _ _ = QQ
  simp only [A20, go_sem, reduceIte, reduceCtorEq, Nat.reduceEqDiff, Nat.reduceLT, Nat.reduceLeDiff, Nat.reduceAdd, Nat.reduceSub, Nat.reduceMul, Int.reduceToNat, Int.reduceLE, Int.reduceLT, Int.reduceAdd, Int.reduceSub, Int.reduceMul, Int.reduceEq, Int.reduceNeg]
  obtain ⟨o_1002, h_1001, h⟩ := bindS h
  refine ALp.ref (Ref.out [0, 3] rfl) (Nat.zero_le _) (ref17_Each_L3_w N _ c_0 N _ o_1002 h_1001 ?_)
  rcases o_1002 with _ | _
  · try dsimp only at h
    refine LoopK_go rfl (Nat.zero_le _) ?_
    simp only [go_sem, reduceIte, reduceCtorEq, Nat.reduceEqDiff, Nat.reduceLT, Nat.reduceLeDiff, Nat.reduceAdd, Nat.reduceSub, Nat.reduceMul, Int.reduceToNat, Int.reduceLE, Int.reduceLT, Int.reduceAdd, Int.reduceSub, Int.reduceMul, Int.reduceEq, Int.reduceNeg]
    have g_0 := Option.some.inj h
    subst g_0
    rw [← hQ]
    exact ⟨rfl, _, rfl, _, _, (RefV.out rfl), rfl, rfl⟩
  · try dsimp only at h
    refine LoopK_ret ?_
    have g_0 := Option.some.inj h
    subst g_0
    rw [← hQ]
    exact ⟨rfl, _, rfl, _, _, (RefV.out rfl), rfl, rfl⟩
theorem law17_BufferRises_L2_w (N : Nat) (a_1 : Int) (l_4 : List Int) (y_17 : List TGlyph) (i_67 : Int) (c_2 : Bool) {R : AExit → ATm → List AObj → Prop} : ∀ (n : Nat) (i_70 : Int) (o : (Unit) ⊕ (Unit)), law17_BufferRises_L2 N a_1 l_4 y_17 i_67 n i_70 = some o → (match o with | .inl _ => R (.exit 2) ⟨174, [(1, .int .i64 a_1), (4, .vec c_2 (List.map eI64 l_4)), (13, .vec false (List.map eTGlyph y_17)), (14, .int .i64 i_67)], []⟩ [] | .inr (_) => R .ret ⟨174, [(10, .bool false)], []⟩ []) →
    ALp Go.Proofs.Try.prog 0 B4_2 ⟨174, [(1, .int .i64 a_1), (4, .vec c_2 (List.map eI64 l_4)), (13, .vec false (List.map eTGlyph y_17)), (14, .int .i64 i_67), (15, .int .i64 i_70)], []⟩ [] R := by
  intro n
  induction n with
  | zero =>
    intro i_70 o h _
    have h0 : none = some o := h
    cases h0
  | succ n ih =>
    intro i_70 o h hp
    rw [law17_BufferRises_L2] at h
    refine ALp.round ?_
    generalize hQ : RoundQ _ _ _ _ = QQ
    simp only [B4_2, B4_1, A4, go_sem, reduceIte, reduceCtorEq, Nat.reduceEqDiff, Nat.reduceLT, Nat.reduceLeDiff, Nat.reduceAdd, Nat.reduceSub, Nat.reduceMul, Int.reduceToNat, Int.reduceLE, Int.reduceLT, Int.reduceAdd, Int.reduceSub, Int.reduceMul, Int.reduceEq, Int.reduceNeg]
    by_cases h_71 : i_70 < (l_4.length : Int)
    · rw [if_pos h_71] at h
      have e_72 : (i_70 < (l_4.length : Int)) = True := eq_true h_71
      obtain ⟨x_73, h_74, h⟩ := bindS h
      have e_75 : (List.map eI64 l_4)[(i_67).toNat]? = some [.int .i64 x_73] := atI_map eI64 h_74
      have e_76 : ((0 : Int) ≤ i_67) = True := eq_true (atI_some h_74).1
      have e_77 : ((i_67 : Int) < (l_4.length : Int)) = True := eq_true (atI_lt h_74)
      obtain ⟨x_78, h_79, h⟩ := bindS h
      have e_80 : (List.map eI64 l_4)[(i_70).toNat]? = some [.int .i64 x_78] := atI_map eI64 h_79
      have e_81 : ((0 : Int) ≤ i_70) = True := eq_true (atI_some h_79).1
      have e_82 : ((i_70 : Int) < (l_4.length : Int)) = True := eq_true (atI_lt h_79)
      simp only [e_72, e_75, e_76, e_77, e_80, e_81, e_82, go_sem, reduceIte, reduceCtorEq, Nat.reduceEqDiff, Nat.reduceLT, Nat.reduceLeDiff, Nat.reduceAdd, Nat.reduceSub, Nat.reduceMul, Int.reduceToNat, Int.reduceLE, Int.reduceLT, Int.reduceAdd, Int.reduceSub, Int.reduceMul, Int.reduceEq, Int.reduceNeg]
      by_cases h_83 : x_78 < x_73
      · rw [if_pos h_83] at h
        have e_84 : (x_78 < x_73) = True := eq_true h_83
        obtain ⟨x_85, h_86, h⟩ := bindS h
        have e_87 : (List.map eTGlyph y_17)[(IntKind.i64.wrap (a_1 + i_67)).toNat]? = some [.int .i64 x_85.Id, .int .i64 x_85.Cluster, .int .i64 x_85.Mask, .int .i64 x_85.Syl, .int .i32 x_85.Code, .int .i64 x_85.Cat, .int .i64 x_85.Pos, .int .i64 x_85.Key, .int .i64 x_85.Lig, .int .i64 x_85.Part, .int .i64 x_85.X, .int .i64 x_85.Y, .int .i64 x_85.Wide, .int .i64 x_85.High] := atI_map eTGlyph h_86
        have e_88 : ((0 : Int) ≤ IntKind.i64.wrap (a_1 + i_67)) = True := eq_true (atI_some h_86).1
        have e_89 : ((IntKind.i64.wrap (a_1 + i_67) : Int) < (y_17.length : Int)) = True := eq_true (atI_lt h_86)
        obtain ⟨x_90, h_91, h⟩ := bindS h
        have e_92 : (List.map eTGlyph y_17)[(IntKind.i64.wrap (a_1 + i_70)).toNat]? = some [.int .i64 x_90.Id, .int .i64 x_90.Cluster, .int .i64 x_90.Mask, .int .i64 x_90.Syl, .int .i32 x_90.Code, .int .i64 x_90.Cat, .int .i64 x_90.Pos, .int .i64 x_90.Key, .int .i64 x_90.Lig, .int .i64 x_90.Part, .int .i64 x_90.X, .int .i64 x_90.Y, .int .i64 x_90.Wide, .int .i64 x_90.High] := atI_map eTGlyph h_91
        have e_93 : ((0 : Int) ≤ IntKind.i64.wrap (a_1 + i_70)) = True := eq_true (atI_some h_91).1
        have e_94 : ((IntKind.i64.wrap (a_1 + i_70) : Int) < (y_17.length : Int)) = True := eq_true (atI_lt h_91)
        simp only [e_72, e_75, e_76, e_77, e_80, e_81, e_82, e_84, e_87, e_88, e_89, e_92, e_93, e_94, go_sem, reduceIte, reduceCtorEq, Nat.reduceEqDiff, Nat.reduceLT, Nat.reduceLeDiff, Nat.reduceAdd, Nat.reduceSub, Nat.reduceMul, Int.reduceToNat, Int.reduceLE, Int.reduceLT, Int.reduceAdd, Int.reduceSub, Int.reduceMul, Int.reduceEq, Int.reduceNeg]
        by_cases h_95 : x_85.Cluster = x_90.Cluster
        · rw [if_pos h_95] at h
          have e_96 : (x_85.Cluster = x_90.Cluster) = True := eq_true h_95
          simp only [e_72, e_75, e_76, e_77, e_80, e_81, e_82, e_84, e_87, e_88, e_89, e_92, e_93, e_94, e_96, go_sem, reduceIte, reduceCtorEq, Nat.reduceEqDiff, Nat.reduceLT, Nat.reduceLeDiff, Nat.reduceAdd, Nat.reduceSub, Nat.reduceMul, Int.reduceToNat, Int.reduceLE, Int.reduceLT, Int.reduceAdd, Int.reduceSub, Int.reduceMul, Int.reduceEq, Int.reduceNeg]
          rw [← hQ]
          exact ⟨_, _, (Ref.out [1, 4, 13, 14, 15] rfl), (Nat.zero_le _), ih _ _ h hp⟩
        · rw [if_neg h_95] at h
          have e_96 : (x_85.Cluster = x_90.Cluster) = False := eq_false h_95
          simp only [e_72, e_75, e_76, e_77, e_80, e_81, e_82, e_84, e_87, e_88, e_89, e_92, e_93, e_94, e_96, go_sem, reduceIte, reduceCtorEq, Nat.reduceEqDiff, Nat.reduceLT, Nat.reduceLeDiff, Nat.reduceAdd, Nat.reduceSub, Nat.reduceMul, Int.reduceToNat, Int.reduceLE, Int.reduceLT, Int.reduceAdd, Int.reduceSub, Int.reduceMul, Int.reduceEq, Int.reduceNeg]
          have g := Option.some.inj h
          subst g
          rw [← hQ]
          exact ⟨_, _, (Ref.out [10] rfl), hp⟩
      · rw [if_neg h_83] at h
        have e_84 : (x_78 < x_73) = False := eq_false h_83
        simp only [e_72, e_75, e_76, e_77, e_80, e_81, e_82, e_84, go_sem, reduceIte, reduceCtorEq, Nat.reduceEqDiff, Nat.reduceLT, Nat.reduceLeDiff, Nat.reduceAdd, Nat.reduceSub, Nat.reduceMul, Int.reduceToNat, Int.reduceLE, Int.reduceLT, Int.reduceAdd, Int.reduceSub, Int.reduceMul, Int.reduceEq, Int.reduceNeg]
        rw [← hQ]
        exact ⟨_, _, (Ref.out [1, 4, 13, 14, 15] rfl), (Nat.zero_le _), ih _ _ h hp⟩
    · rw [if_neg h_71] at h
      have e_72 : (i_70 < (l_4.length : Int)) = False := eq_false h_71
      simp only [e_72, go_sem, reduceIte, reduceCtorEq, Nat.reduceEqDiff, Nat.reduceLT, Nat.reduceLeDiff, Nat.reduceAdd, Nat.reduceSub, Nat.reduceMul, Int.reduceToNat, Int.reduceLE, Int.reduceLT, Int.reduceAdd, Int.reduceSub, Int.reduceMul, Int.reduceEq, Int.reduceNeg]
      have g := Option.some.inj h
      subst g
      rw [← hQ]
      exact ⟨_, _, (Ref.out [1, 4, 13, 14] rfl), hp⟩
theorem law17_BufferRises_L3_w (N : Nat) (a_1 : Int) (l_4 : List Int) (y_17 : List TGlyph) (c_2 : Bool) {R : AExit → ATm → List AObj → Prop} : ∀ (n : Nat) (i_67 : Int) (o : (Unit) ⊕ (Unit)), law17_BufferRises_L3 N a_1 l_4 y_17 n i_67 = some o → (match o with | .inl _ => R (.exit 0) ⟨174, [], []⟩ [] | .inr (_) => R .ret ⟨174, [(10, .bool false)], []⟩ []) →
    ALp Go.Proofs.Try.prog 0 B4_1 ⟨174, [(1, .int .i64 a_1), (4, .vec c_2 (List.map eI64 l_4)), (13, .vec false (List.map eTGlyph y_17)), (14, .int .i64 i_67)], []⟩ [] R := by
  intro n
  induction n with
  | zero =>
    intro i_67 o h _
    have h0 : none = some o := h
    cases h0
  | succ n ih =>
    intro i_67 o h hp
    rw [law17_BufferRises_L3] at h
    refine ALp.round ?_
    generalize hQ : RoundQ _ _ _ _ = QQ
    simp only [B4_1, A4, go_sem, reduceIte, reduceCtorEq, Nat.reduceEqDiff, Nat.reduceLT, Nat.reduceLeDiff, Nat.reduceAdd, Nat.reduceSub, Nat.reduceMul, Int.reduceToNat, Int.reduceLE, Int.reduceLT, Int.reduceAdd, Int.reduceSub, Int.reduceMul, Int.reduceEq, Int.reduceNeg]
    by_cases h_68 : i_67 < (l_4.length : Int)
    · rw [if_pos h_68] at h
      have e_69 : (i_67 < (l_4.length : Int)) = True := eq_true h_68
      simp only [e_69, go_sem, reduceIte, reduceCtorEq, Nat.reduceEqDiff, Nat.reduceLT, Nat.reduceLeDiff, Nat.reduceAdd, Nat.reduceSub, Nat.reduceMul, Int.reduceToNat, Int.reduceLE, Int.reduceLT, Int.reduceAdd, Int.reduceSub, Int.reduceMul, Int.reduceEq, Int.reduceNeg]
      obtain ⟨o_1071, h_1070, h⟩ := bindS h
      refine ALp.ref (Ref.out [1, 4, 13, 14, 15] rfl) (Nat.zero_le _) (law17_BufferRises_L2_w N _ _ _ _ c_2 N _ o_1071 h_1070 ?_)
      rcases o_1071 with _ | _
      · try dsimp only at h
        refine LoopK_go rfl (Nat.zero_le _) ?_
        simp only [e_69, go_sem, reduceIte, reduceCtorEq, Nat.reduceEqDiff, Nat.reduceLT, Nat.reduceLeDiff, Nat.reduceAdd, Nat.reduceSub, Nat.reduceMul, Int.reduceToNat, Int.reduceLE, Int.reduceLT, Int.reduceAdd, Int.reduceSub, Int.reduceMul, Int.reduceEq, Int.reduceNeg]
        rw [← hQ]
        exact ⟨_, _, (Ref.out [1, 4, 13, 14] rfl), (Nat.zero_le _), ih _ _ h hp⟩
      · try dsimp only at h
        refine LoopK_ret ?_
        have g := Option.some.inj h
        subst g
        rw [← hQ]
        exact ⟨_, _, (Ref.out [10] rfl), hp⟩
    · rw [if_neg h_68] at h
      have e_69 : (i_67 < (l_4.length : Int)) = False := eq_false h_68
      simp only [e_69, go_sem, reduceIte, reduceCtorEq, Nat.reduceEqDiff, Nat.reduceLT, Nat.reduceLeDiff, Nat.reduceAdd, Nat.reduceSub, Nat.reduceMul, Int.reduceToNat, Int.reduceLE, Int.reduceLT, Int.reduceAdd, Int.reduceSub, Int.reduceMul, Int.reduceEq, Int.reduceNeg]
      have g := Option.some.inj h
      subst g
      rw [← hQ]
      exact ⟨_, _, (Ref.out [] rfl), hp⟩
theorem law17_BufferRises_w (N : Nat) (l_0 : List TGlyph) (a_1 : Int) (a_2 : Int) (l_3 : List Int) (l_4 : List Int) (c_0 : Bool) (c_1 : Bool) (c_2 : Bool) (z_1 : Bool) (h : law17_BufferRises N l_0 a_1 a_2 l_3 l_4 = some z_1) :
    ACalls Go.Proofs.Try.prog 4 [.vec c_0 (List.map eTGlyph l_0), .int .i64 a_1, .int .i64 a_2, .vec c_1 (List.map eI64 l_3), .vec c_2 (List.map eI64 l_4)] [] (fun e H => H = [] ∧ e = .ret (.bool z_1)) := by
  unfold law17_BufferRises at h
  refine ACalls.goN Go.Proofs.Try.func4 n4 a4 Go.Proofs.Try.ntmps4 r4 (by simp) 0 rfl ?_
  generalize hQ : bodyA _ _ _ = QQ
  simp only [A4, go_sem, reduceIte, reduceCtorEq, Nat.reduceEqDiff, Nat.reduceLT, Nat.reduceLeDiff, Nat.reduceAdd, Nat.reduceSub, Nat.reduceMul, Int.reduceToNat, Int.reduceLE, Int.reduceLT, Int.reduceAdd, Int.reduceSub, Int.reduceMul, Int.reduceEq, Int.reduceNeg]
  refine ACalls.use0 alive17 rfl rfl ?_
  refine CallK_go (Nat.zero_le _) ?_
  simp only [go_sem, reduceIte, reduceCtorEq, Nat.reduceEqDiff, Nat.reduceLT, Nat.reduceLeDiff, Nat.reduceAdd, Nat.reduceSub, Nat.reduceMul, Int.reduceToNat, Int.reduceLE, Int.reduceLT, Int.reduceAdd, Int.reduceSub, Int.reduceMul, Int.reduceEq, Int.reduceNeg]
  by_cases h_1 : 100 < (l_0.length : Int)
  · rw [if_pos h_1] at h
    have e_2 : (100 < (l_0.length : Int)) = True := eq_true h_1
    simp only [e_2, go_sem, reduceIte, reduceCtorEq, Nat.reduceEqDiff, Nat.reduceLT, Nat.reduceLeDiff, Nat.reduceAdd, Nat.reduceSub, Nat.reduceMul, Int.reduceToNat, Int.reduceLE, Int.reduceLT, Int.reduceAdd, Int.reduceSub, Int.reduceMul, Int.reduceEq, Int.reduceNeg]
    have g_0 := Option.some.inj h
    subst g_0
    rw [← hQ]
    exact ⟨rfl, _, rfl, _, _, (RefV.out rfl), rfl, rfl⟩
  · rw [if_neg h_1] at h
    have e_2 : (100 < (l_0.length : Int)) = False := eq_false h_1
    simp only [e_2, go_sem, reduceIte, reduceCtorEq, Nat.reduceEqDiff, Nat.reduceLT, Nat.reduceLeDiff, Nat.reduceAdd, Nat.reduceSub, Nat.reduceMul, Int.reduceToNat, Int.reduceLE, Int.reduceLT, Int.reduceAdd, Int.reduceSub, Int.reduceMul, Int.reduceEq, Int.reduceNeg]
    by_cases h_3 : 100 < (l_3.length : Int)
    · rw [if_pos h_3] at h
      have e_4 : (100 < (l_3.length : Int)) = True := eq_true h_3
      simp only [e_2, e_4, go_sem, reduceIte, reduceCtorEq, Nat.reduceEqDiff, Nat.reduceLT, Nat.reduceLeDiff, Nat.reduceAdd, Nat.reduceSub, Nat.reduceMul, Int.reduceToNat, Int.reduceLE, Int.reduceLT, Int.reduceAdd, Int.reduceSub, Int.reduceMul, Int.reduceEq, Int.reduceNeg]
      have g_0 := Option.some.inj h
      subst g_0
      rw [← hQ]
      exact ⟨rfl, _, rfl, _, _, (RefV.out rfl), rfl, rfl⟩
    · rw [if_neg h_3] at h
      have e_4 : (100 < (l_3.length : Int)) = False := eq_false h_3
      simp only [e_2, e_4, go_sem, reduceIte, reduceCtorEq, Nat.reduceEqDiff, Nat.reduceLT, Nat.reduceLeDiff, Nat.reduceAdd, Nat.reduceSub, Nat.reduceMul, Int.reduceToNat, Int.reduceLE, Int.reduceLT, Int.reduceAdd, Int.reduceSub, Int.reduceMul, Int.reduceEq, Int.reduceNeg]
      by_cases h_5 : 100 < (l_4.length : Int)
      · rw [if_pos h_5] at h
        have e_6 : (100 < (l_4.length : Int)) = True := eq_true h_5
        simp only [e_2, e_4, e_6, go_sem, reduceIte, reduceCtorEq, Nat.reduceEqDiff, Nat.reduceLT, Nat.reduceLeDiff, Nat.reduceAdd, Nat.reduceSub, Nat.reduceMul, Int.reduceToNat, Int.reduceLE, Int.reduceLT, Int.reduceAdd, Int.reduceSub, Int.reduceMul, Int.reduceEq, Int.reduceNeg]
        have g_0 := Option.some.inj h
        subst g_0
        rw [← hQ]
        exact ⟨rfl, _, rfl, _, _, (RefV.out rfl), rfl, rfl⟩
      · rw [if_neg h_5] at h
        have e_6 : (100 < (l_4.length : Int)) = False := eq_false h_5
        obtain ⟨y_7, h_8, h⟩ := bindS h
        simp only [e_2, e_4, e_6, go_sem, reduceIte, reduceCtorEq, Nat.reduceEqDiff, Nat.reduceLT, Nat.reduceLeDiff, Nat.reduceAdd, Nat.reduceSub, Nat.reduceMul, Int.reduceToNat, Int.reduceLE, Int.reduceLT, Int.reduceAdd, Int.reduceSub, Int.reduceMul, Int.reduceEq, Int.reduceNeg]
        refine ACalls.use0 (buffer_Rise_w N _ _ _ h_8) rfl rfl ?_
        refine CallK_go (Nat.zero_le _) ?_
        simp only [e_2, e_4, e_6, go_sem, reduceIte, reduceCtorEq, Nat.reduceEqDiff, Nat.reduceLT, Nat.reduceLeDiff, Nat.reduceAdd, Nat.reduceSub, Nat.reduceMul, Int.reduceToNat, Int.reduceLE, Int.reduceLT, Int.reduceAdd, Int.reduceSub, Int.reduceMul, Int.reduceEq, Int.reduceNeg]
        by_cases h_9 : y_7 = true
        · rw [if_pos h_9] at h
          have e_10 : y_7 = true := h_9
          simp only [e_2, e_4, e_6, e_10, go_sem, reduceIte, reduceCtorEq, Nat.reduceEqDiff, Nat.reduceLT, Nat.reduceLeDiff, Nat.reduceAdd, Nat.reduceSub, Nat.reduceMul, Int.reduceToNat, Int.reduceLE, Int.reduceLT, Int.reduceAdd, Int.reduceSub, Int.reduceMul, Int.reduceEq, Int.reduceNeg]
          by_cases h_11 : (l_0.length : Int) = 0
          · rw [if_pos h_11] at h
            have e_12 : ((l_0.length : Int) = 0) = True := eq_true h_11
            simp only [e_2, e_4, e_6, e_10, e_12, go_sem, reduceIte, reduceCtorEq, Nat.reduceEqDiff, Nat.reduceLT, Nat.reduceLeDiff, Nat.reduceAdd, Nat.reduceSub, Nat.reduceMul, Int.reduceToNat, Int.reduceLE, Int.reduceLT, Int.reduceAdd, Int.reduceSub, Int.reduceMul, Int.reduceEq, Int.reduceNeg]
            have g_0 := Option.some.inj h
            subst g_0
            rw [← hQ]
            exact ⟨rfl, _, rfl, _, _, (RefV.out rfl), rfl, rfl⟩
          · rw [if_neg h_11] at h
            have e_12 : ((l_0.length : Int) = 0) = False := eq_false h_11
            obtain ⟨y_13, h_14, h⟩ := bindS h
            simp only [e_2, e_4, e_6, e_10, e_12, go_sem, reduceIte, reduceCtorEq, Nat.reduceEqDiff, Nat.reduceLT, Nat.reduceLeDiff, Nat.reduceAdd, Nat.reduceSub, Nat.reduceMul, Int.reduceToNat, Int.reduceLE, Int.reduceLT, Int.reduceAdd, Int.reduceSub, Int.reduceMul, Int.reduceEq, Int.reduceNeg]
            refine ACalls.use (buffer_Merge_w N _ _ _ _ _ h_14) [] (by decide) trivial rfl (v' := .row 0 0 y_13.length) (by first | rfl | simp only [go_sem, reduceIte, Nat.reduceEqDiff, Nat.reduceAdd, e_2, e_4, e_6, e_10, e_12]) (H' := [.mem 14 (List.map eTGlyph y_13) 32]) (by first | rfl | simp only [go_sem, reduceIte, Nat.reduceEqDiff, Nat.reduceAdd, e_2, e_4, e_6, e_10, e_12]) ?_
            refine CallK_ref (ta1 := ⟨174, [(0, .vec c_0 (List.map eTGlyph l_0)), (1, .int .i64 a_1), (2, .int .i64 a_2), (3, .vec c_1 (List.map eI64 l_3)), (4, .vec c_2 (List.map eI64 l_4)), (44, .vec false (List.map eTGlyph y_13))], []⟩) (H1 := []) (Ref.trans (Ref.frz (Nat.zero_le _) (id := 0) rfl (pures_map y_13 eTGlyph (fun _ => rfl))) (Ref.out [0, 1, 2, 3, 4, 44] (by first | rfl | simp only [go_sem, reduceIte, Nat.reduceEqDiff, Nat.reduceAdd]))) (Nat.zero_le _) ?_
            obtain ⟨y_15, h_16, h⟩ := bindS h
            simp only [e_2, e_4, e_6, e_10, e_12, go_sem, reduceIte, reduceCtorEq, Nat.reduceEqDiff, Nat.reduceLT, Nat.reduceLeDiff, Nat.reduceAdd, Nat.reduceSub, Nat.reduceMul, Int.reduceToNat, Int.reduceLE, Int.reduceLT, Int.reduceAdd, Int.reduceSub, Int.reduceMul, Int.reduceEq, Int.reduceNeg]
            refine ACalls.use0 (buffer_Replace_w N _ _ _ _ _ _ _ h_16) rfl rfl ?_
            refine CallK_go (Nat.zero_le _) ?_
            obtain ⟨y_17, h_18, h⟩ := bindS h
            simp only [e_2, e_4, e_6, e_10, e_12, go_sem, reduceIte, reduceCtorEq, Nat.reduceEqDiff, Nat.reduceLT, Nat.reduceLeDiff, Nat.reduceAdd, Nat.reduceSub, Nat.reduceMul, Int.reduceToNat, Int.reduceLE, Int.reduceLT, Int.reduceAdd, Int.reduceSub, Int.reduceMul, Int.reduceEq, Int.reduceNeg]
            refine ACalls.use0 (buffer_Order_w N _ _ _ _ _ _ h_18) rfl rfl ?_
            refine CallK_go (Nat.zero_le _) ?_
            obtain ⟨y_19, h_20, h⟩ := bindS h
            simp only [e_2, e_4, e_6, e_10, e_12, go_sem, reduceIte, reduceCtorEq, Nat.reduceEqDiff, Nat.reduceLT, Nat.reduceLeDiff, Nat.reduceAdd, Nat.reduceSub, Nat.reduceMul, Int.reduceToNat, Int.reduceLE, Int.reduceLT, Int.reduceAdd, Int.reduceSub, Int.reduceMul, Int.reduceEq, Int.reduceNeg]
            refine ACalls.use0 (buffer_Rise_w N _ _ _ h_20) rfl rfl ?_
            simp only [e_2, e_4, e_6, e_10, e_12, go_sem, reduceIte, reduceCtorEq, Nat.reduceEqDiff, Nat.reduceLT, Nat.reduceLeDiff, Nat.reduceAdd, Nat.reduceSub, Nat.reduceMul, Int.reduceToNat, Int.reduceLE, Int.reduceLT, Int.reduceAdd, Int.reduceSub, Int.reduceMul, Int.reduceEq, Int.reduceNeg]
            by_cases h_21 : y_19 = true
            · rw [if_pos h_21] at h
              have e_22 : y_19 = true := h_21
              obtain ⟨y_23, h_24, h⟩ := bindS h
              simp only [e_2, e_4, e_6, e_10, e_12, e_22, go_sem, reduceIte, reduceCtorEq, Nat.reduceEqDiff, Nat.reduceLT, Nat.reduceLeDiff, Nat.reduceAdd, Nat.reduceSub, Nat.reduceMul, Int.reduceToNat, Int.reduceLE, Int.reduceLT, Int.reduceAdd, Int.reduceSub, Int.reduceMul, Int.reduceEq, Int.reduceNeg]
              refine ACalls.use0 (buffer_Rise_w N _ _ _ h_24) rfl rfl ?_
              simp only [e_2, e_4, e_6, e_10, e_12, e_22, go_sem, reduceIte, reduceCtorEq, Nat.reduceEqDiff, Nat.reduceLT, Nat.reduceLeDiff, Nat.reduceAdd, Nat.reduceSub, Nat.reduceMul, Int.reduceToNat, Int.reduceLE, Int.reduceLT, Int.reduceAdd, Int.reduceSub, Int.reduceMul, Int.reduceEq, Int.reduceNeg]
              by_cases h_25 : y_23 = true
              · rw [if_pos h_25] at h
                have e_26 : y_23 = true := h_25
                obtain ⟨y_27, h_28, h⟩ := bindS h
                simp only [e_2, e_4, e_6, e_10, e_12, e_22, e_26, go_sem, reduceIte, reduceCtorEq, Nat.reduceEqDiff, Nat.reduceLT, Nat.reduceLeDiff, Nat.reduceAdd, Nat.reduceSub, Nat.reduceMul, Int.reduceToNat, Int.reduceLE, Int.reduceLT, Int.reduceAdd, Int.reduceSub, Int.reduceMul, Int.reduceEq, Int.reduceNeg]
                refine ACalls.use0 (buffer_Rise_w N _ _ _ h_28) rfl rfl ?_
                simp only [e_2, e_4, e_6, e_10, e_12, e_22, e_26, go_sem, reduceIte, reduceCtorEq, Nat.reduceEqDiff, Nat.reduceLT, Nat.reduceLeDiff, Nat.reduceAdd, Nat.reduceSub, Nat.reduceMul, Int.reduceToNat, Int.reduceLE, Int.reduceLT, Int.reduceAdd, Int.reduceSub, Int.reduceMul, Int.reduceEq, Int.reduceNeg]
                by_cases h_29 : y_27 = true
                · rw [if_pos h_29] at h
                  have e_30 : y_27 = true := h_29
                  obtain ⟨x_31, h_32, h⟩ := bindS h
                  have e_33 : (List.map eTGlyph y_13)[0]? = some [.int .i64 x_31.Id, .int .i64 x_31.Cluster, .int .i64 x_31.Mask, .int .i64 x_31.Syl, .int .i32 x_31.Code, .int .i64 x_31.Cat, .int .i64 x_31.Pos, .int .i64 x_31.Key, .int .i64 x_31.Lig, .int .i64 x_31.Part, .int .i64 x_31.X, .int .i64 x_31.Y, .int .i64 x_31.Wide, .int .i64 x_31.High] := atI_map eTGlyph h_32
                  have e_34 : ((0 : Int) < (y_13.length : Int)) = True := eq_true (atI_lt h_32)
                  obtain ⟨x_35, h_36, h⟩ := bindS h
                  have e_37 : (List.map eTGlyph l_0)[0]? = some [.int .i64 x_35.Id, .int .i64 x_35.Cluster, .int .i64 x_35.Mask, .int .i64 x_35.Syl, .int .i32 x_35.Code, .int .i64 x_35.Cat, .int .i64 x_35.Pos, .int .i64 x_35.Key, .int .i64 x_35.Lig, .int .i64 x_35.Part, .int .i64 x_35.X, .int .i64 x_35.Y, .int .i64 x_35.Wide, .int .i64 x_35.High] := atI_map eTGlyph h_36
                  have e_38 : ((0 : Int) < (l_0.length : Int)) = True := eq_true (atI_lt h_36)
                  simp only [e_2, e_4, e_6, e_10, e_12, e_22, e_26, e_30, e_33, e_34, e_37, e_38, go_sem, reduceIte, reduceCtorEq, Nat.reduceEqDiff, Nat.reduceLT, Nat.reduceLeDiff, Nat.reduceAdd, Nat.reduceSub, Nat.reduceMul, Int.reduceToNat, Int.reduceLE, Int.reduceLT, Int.reduceAdd, Int.reduceSub, Int.reduceMul, Int.reduceEq, Int.reduceNeg]
                  by_cases h_39 : x_31.Cluster = x_35.Cluster
                  · rw [if_pos h_39] at h
                    have e_40 : (x_31.Cluster = x_35.Cluster) = True := eq_true h_39
                    simp only [e_2, e_4, e_6, e_10, e_12, e_22, e_26, e_30, e_33, e_34, e_37, e_38, e_40, go_sem, reduceIte, reduceCtorEq, Nat.reduceEqDiff, Nat.reduceLT, Nat.reduceLeDiff, Nat.reduceAdd, Nat.reduceSub, Nat.reduceMul, Int.reduceToNat, Int.reduceLE, Int.reduceLT, Int.reduceAdd, Int.reduceSub, Int.reduceMul, Int.reduceEq, Int.reduceNeg]
                    by_cases h_41 : 0 < (y_15.length : Int)
                    · rw [if_pos h_41] at h
                      have e_42 : (0 < (y_15.length : Int)) = True := eq_true h_41
                      obtain ⟨x_43, h_44, h⟩ := bindS h
                      have e_45 : (List.map eTGlyph y_15)[0]? = some [.int .i64 x_43.Id, .int .i64 x_43.Cluster, .int .i64 x_43.Mask, .int .i64 x_43.Syl, .int .i32 x_43.Code, .int .i64 x_43.Cat, .int .i64 x_43.Pos, .int .i64 x_43.Key, .int .i64 x_43.Lig, .int .i64 x_43.Part, .int .i64 x_43.X, .int .i64 x_43.Y, .int .i64 x_43.Wide, .int .i64 x_43.High] := atI_map eTGlyph h_44
                      have e_46 : ((0 : Int) < (y_15.length : Int)) = True := eq_true (atI_lt h_44)
                      simp only [e_2, e_4, e_6, e_10, e_12, e_22, e_26, e_30, e_33, e_34, e_37, e_38, e_40, e_42, e_45, e_46, go_sem, reduceIte, reduceCtorEq, Nat.reduceEqDiff, Nat.reduceLT, Nat.reduceLeDiff, Nat.reduceAdd, Nat.reduceSub, Nat.reduceMul, Int.reduceToNat, Int.reduceLE, Int.reduceLT, Int.reduceAdd, Int.reduceSub, Int.reduceMul, Int.reduceEq, Int.reduceNeg]
                      by_cases h_47 : x_43.Cluster = x_35.Cluster
                      · rw [if_pos h_47] at h
                        have e_48 : (x_43.Cluster = x_35.Cluster) = True := eq_true h_47
                        obtain ⟨x_49, h_50, h⟩ := bindS h
                        have e_51 : (List.map eTGlyph y_17)[0]? = some [.int .i64 x_49.Id, .int .i64 x_49.Cluster, .int .i64 x_49.Mask, .int .i64 x_49.Syl, .int .i32 x_49.Code, .int .i64 x_49.Cat, .int .i64 x_49.Pos, .int .i64 x_49.Key, .int .i64 x_49.Lig, .int .i64 x_49.Part, .int .i64 x_49.X, .int .i64 x_49.Y, .int .i64 x_49.Wide, .int .i64 x_49.High] := atI_map eTGlyph h_50
                        have e_52 : ((0 : Int) < (y_17.length : Int)) = True := eq_true (atI_lt h_50)
                        simp only [e_2, e_4, e_6, e_10, e_12, e_22, e_26, e_30, e_33, e_34, e_37, e_38, e_40, e_42, e_45, e_46, e_48, e_51, e_52, go_sem, reduceIte, reduceCtorEq, Nat.reduceEqDiff, Nat.reduceLT, Nat.reduceLeDiff, Nat.reduceAdd, Nat.reduceSub, Nat.reduceMul, Int.reduceToNat, Int.reduceLE, Int.reduceLT, Int.reduceAdd, Int.reduceSub, Int.reduceMul, Int.reduceEq, Int.reduceNeg]
                        by_cases h_53 : x_49.Cluster = x_35.Cluster
                        · rw [if_pos h_53] at h
                          have e_54 : (x_49.Cluster = x_35.Cluster) = True := eq_true h_53
                          simp only [e_2, e_4, e_6, e_10, e_12, e_22, e_26, e_30, e_33, e_34, e_37, e_38, e_40, e_42, e_45, e_46, e_48, e_51, e_52, e_54, go_sem, reduceIte, reduceCtorEq, Nat.reduceEqDiff, Nat.reduceLT, Nat.reduceLeDiff, Nat.reduceAdd, Nat.reduceSub, Nat.reduceMul, Int.reduceToNat, Int.reduceLE, Int.reduceLT, Int.reduceAdd, Int.reduceSub, Int.reduceMul, Int.reduceEq, Int.reduceNeg]
                          by_cases h_55 : (y_17.length : Int) = (l_0.length : Int)
                          · rw [if_pos h_55] at h
                            have e_56 : ((y_17.length : Int) = (l_0.length : Int)) = True := eq_true h_55
                            obtain ⟨y_57, h_58, h⟩ := bindS h
                            simp only [e_2, e_4, e_6, e_10, e_12, e_22, e_26, e_30, e_33, e_34, e_37, e_38, e_40, e_42, e_45, e_46, e_48, e_51, e_52, e_54, e_56, go_sem, reduceIte, reduceCtorEq, Nat.reduceEqDiff, Nat.reduceLT, Nat.reduceLeDiff, Nat.reduceAdd, Nat.reduceSub, Nat.reduceMul, Int.reduceToNat, Int.reduceLE, Int.reduceLT, Int.reduceAdd, Int.reduceSub, Int.reduceMul, Int.reduceEq, Int.reduceNeg]
                            refine ACalls.use0 (ref17_Each_w N _ _ _ h_58) rfl rfl ?_
                            refine CallK_go (Nat.zero_le _) ?_
                            simp only [e_2, e_4, e_6, e_10, e_12, e_22, e_26, e_30, e_33, e_34, e_37, e_38, e_40, e_42, e_45, e_46, e_48, e_51, e_52, e_54, e_56, go_sem, reduceIte, reduceCtorEq, Nat.reduceEqDiff, Nat.reduceLT, Nat.reduceLeDiff, Nat.reduceAdd, Nat.reduceSub, Nat.reduceMul, Int.reduceToNat, Int.reduceLE, Int.reduceLT, Int.reduceAdd, Int.reduceSub, Int.reduceMul, Int.reduceEq, Int.reduceNeg]
                            by_cases h_59 : y_57 = true
                            · rw [if_pos h_59] at h
                              have e_60 : y_57 = true := h_59
                              simp only [e_2, e_4, e_6, e_10, e_12, e_22, e_26, e_30, e_33, e_34, e_37, e_38, e_40, e_42, e_45, e_46, e_48, e_51, e_52, e_54, e_56, e_60, go_sem, reduceIte, reduceCtorEq, Nat.reduceEqDiff, Nat.reduceLT, Nat.reduceLeDiff, Nat.reduceAdd, Nat.reduceSub, Nat.reduceMul, Int.reduceToNat, Int.reduceLE, Int.reduceLT, Int.reduceAdd, Int.reduceSub, Int.reduceMul, Int.reduceEq, Int.reduceNeg]
                              by_cases h_61 : a_1 < 0
                              · rw [if_pos h_61] at h
                                have e_62 : (a_1 < 0) = True := eq_true h_61
                                simp only [e_2, e_4, e_6, e_10, e_12, e_22, e_26, e_30, e_33, e_34, e_37, e_38, e_40, e_42, e_45, e_46, e_48, e_51, e_52, e_54, e_56, e_60, e_62, go_sem, reduceIte, reduceCtorEq, Nat.reduceEqDiff, Nat.reduceLT, Nat.reduceLeDiff, Nat.reduceAdd, Nat.reduceSub, Nat.reduceMul, Int.reduceToNat, Int.reduceLE, Int.reduceLT, Int.reduceAdd, Int.reduceSub, Int.reduceMul, Int.reduceEq, Int.reduceNeg]
                                have g_0 := Option.some.inj h
                                subst g_0
                                rw [← hQ]
                                exact ⟨rfl, _, rfl, _, _, (RefV.out rfl), rfl, rfl⟩
                              · rw [if_neg h_61] at h
                                have e_62 : (a_1 < 0) = False := eq_false h_61
                                simp only [e_2, e_4, e_6, e_10, e_12, e_22, e_26, e_30, e_33, e_34, e_37, e_38, e_40, e_42, e_45, e_46, e_48, e_51, e_52, e_54, e_56, e_60, e_62, go_sem, reduceIte, reduceCtorEq, Nat.reduceEqDiff, Nat.reduceLT, Nat.reduceLeDiff, Nat.reduceAdd, Nat.reduceSub, Nat.reduceMul, Int.reduceToNat, Int.reduceLE, Int.reduceLT, Int.reduceAdd, Int.reduceSub, Int.reduceMul, Int.reduceEq, Int.reduceNeg]
                                by_cases h_63 : (l_0.length : Int) < a_1
                                · rw [if_pos h_63] at h
                                  have e_64 : ((l_0.length : Int) < a_1) = True := eq_true h_63
                                  simp only [e_2, e_4, e_6, e_10, e_12, e_22, e_26, e_30, e_33, e_34, e_37, e_38, e_40, e_42, e_45, e_46, e_48, e_51, e_52, e_54, e_56, e_60, e_62, e_64, go_sem, reduceIte, reduceCtorEq, Nat.reduceEqDiff, Nat.reduceLT, Nat.reduceLeDiff, Nat.reduceAdd, Nat.reduceSub, Nat.reduceMul, Int.reduceToNat, Int.reduceLE, Int.reduceLT, Int.reduceAdd, Int.reduceSub, Int.reduceMul, Int.reduceEq, Int.reduceNeg]
                                  have g_0 := Option.some.inj h
                                  subst g_0
                                  rw [← hQ]
                                  exact ⟨rfl, _, rfl, _, _, (RefV.out rfl), rfl, rfl⟩
                                · rw [if_neg h_63] at h
                                  have e_64 : ((l_0.length : Int) < a_1) = False := eq_false h_63
                                  simp only [e_2, e_4, e_6, e_10, e_12, e_22, e_26, e_30, e_33, e_34, e_37, e_38, e_40, e_42, e_45, e_46, e_48, e_51, e_52, e_54, e_56, e_60, e_62, e_64, go_sem, reduceIte, reduceCtorEq, Nat.reduceEqDiff, Nat.reduceLT, Nat.reduceLeDiff, Nat.reduceAdd, Nat.reduceSub, Nat.reduceMul, Int.reduceToNat, Int.reduceLE, Int.reduceLT, Int.reduceAdd, Int.reduceSub, Int.reduceMul, Int.reduceEq, Int.reduceNeg]
                                  by_cases h_65 : IntKind.i64.wrap ((l_0.length : Int) - a_1) < (l_4.length : Int)
                                  · rw [if_pos h_65] at h
                                    have e_66 : (IntKind.i64.wrap ((l_0.length : Int) - a_1) < (l_4.length : Int)) = True := eq_true h_65
                                    simp only [e_2, e_4, e_6, e_10, e_12, e_22, e_26, e_30, e_33, e_34, e_37, e_38, e_40, e_42, e_45, e_46, e_48, e_51, e_52, e_54, e_56, e_60, e_62, e_64, e_66, go_sem, reduceIte, reduceCtorEq, Nat.reduceEqDiff, Nat.reduceLT, Nat.reduceLeDiff, Nat.reduceAdd, Nat.reduceSub, Nat.reduceMul, Int.reduceToNat, Int.reduceLE, Int.reduceLT, Int.reduceAdd, Int.reduceSub, Int.reduceMul, Int.reduceEq, Int.reduceNeg]
                                    have g_0 := Option.some.inj h
                                    subst g_0
                                    rw [← hQ]
                                    exact ⟨rfl, _, rfl, _, _, (RefV.out rfl), rfl, rfl⟩
                                  · rw [if_neg h_65] at h
                                    have e_66 : (IntKind.i64.wrap ((l_0.length : Int) - a_1) < (l_4.length : Int)) = False := eq_false h_65
                                    simp only [e_2, e_4, e_6, e_10, e_12, e_22, e_26, e_30, e_33, e_34, e_37, e_38, e_40, e_42, e_45, e_46, e_48, e_51, e_52, e_54, e_56, e_60, e_62, e_64, e_66, go_sem, reduceIte, reduceCtorEq, Nat.reduceEqDiff, Nat.reduceLT, Nat.reduceLeDiff, Nat.reduceAdd, Nat.reduceSub, Nat.reduceMul, Int.reduceToNat, Int.reduceLE, Int.reduceLT, Int.reduceAdd, Int.reduceSub, Int.reduceMul, Int.reduceEq, Int.reduceNeg]
                                    obtain ⟨o_1068, h_1067, h⟩ := bindS h
                                    refine ALp.ref (Ref.out [1, 4, 13, 14] rfl) (Nat.zero_le _) (law17_BufferRises_L3_w N _ _ _ c_2 N _ o_1068 h_1067 ?_)
                                    rcases o_1068 with _ | _
                                    · try dsimp only at h
                                      refine LoopK_go rfl (Nat.zero_le _) ?_
                                      simp only [e_2, e_4, e_6, e_10, e_12, e_22, e_26, e_30, e_33, e_34, e_37, e_38, e_40, e_42, e_45, e_46, e_48, e_51, e_52, e_54, e_56, e_60, e_62, e_64, e_66, go_sem, reduceIte, reduceCtorEq, Nat.reduceEqDiff, Nat.reduceLT, Nat.reduceLeDiff, Nat.reduceAdd, Nat.reduceSub, Nat.reduceMul, Int.reduceToNat, Int.reduceLE, Int.reduceLT, Int.reduceAdd, Int.reduceSub, Int.reduceMul, Int.reduceEq, Int.reduceNeg]
                                      have g_0 := Option.some.inj h
                                      subst g_0
                                      rw [← hQ]
                                      exact ⟨rfl, _, rfl, _, _, (RefV.out rfl), rfl, rfl⟩
                                    · try dsimp only at h
                                      refine LoopK_ret ?_
                                      have g_0 := Option.some.inj h
                                      subst g_0
                                      rw [← hQ]
                                      exact ⟨rfl, _, rfl, _, _, (RefV.out rfl), rfl, rfl⟩
                            · rw [if_neg h_59] at h
                              have e_60 : y_57 = false := bfalse h_59
                              simp only [e_2, e_4, e_6, e_10, e_12, e_22, e_26, e_30, e_33, e_34, e_37, e_38, e_40, e_42, e_45, e_46, e_48, e_51, e_52, e_54, e_56, e_60, go_sem, reduceIte, reduceCtorEq, Nat.reduceEqDiff, Nat.reduceLT, Nat.reduceLeDiff, Nat.reduceAdd, Nat.reduceSub, Nat.reduceMul, Int.reduceToNat, Int.reduceLE, Int.reduceLT, Int.reduceAdd, Int.reduceSub, Int.reduceMul, Int.reduceEq, Int.reduceNeg]
                              have g_0 := Option.some.inj h
                              subst g_0
                              rw [← hQ]
                              exact ⟨rfl, _, rfl, _, _, (RefV.out rfl), rfl, rfl⟩
                          · rw [if_neg h_55] at h
                            have e_56 : ((y_17.length : Int) = (l_0.length : Int)) = False := eq_false h_55
                            simp only [e_2, e_4, e_6, e_10, e_12, e_22, e_26, e_30, e_33, e_34, e_37, e_38, e_40, e_42, e_45, e_46, e_48, e_51, e_52, e_54, e_56, go_sem, reduceIte, reduceCtorEq, Nat.reduceEqDiff, Nat.reduceLT, Nat.reduceLeDiff, Nat.reduceAdd, Nat.reduceSub, Nat.reduceMul, Int.reduceToNat, Int.reduceLE, Int.reduceLT, Int.reduceAdd, Int.reduceSub, Int.reduceMul, Int.reduceEq, Int.reduceNeg]
                            have g_0 := Option.some.inj h
                            subst g_0
                            rw [← hQ]
                            exact ⟨rfl, _, rfl, _, _, (RefV.out rfl), rfl, rfl⟩
                        · rw [if_neg h_53] at h
                          have e_54 : (x_49.Cluster = x_35.Cluster) = False := eq_false h_53
                          simp only [e_2, e_4, e_6, e_10, e_12, e_22, e_26, e_30, e_33, e_34, e_37, e_38, e_40, e_42, e_45, e_46, e_48, e_51, e_52, e_54, go_sem, reduceIte, reduceCtorEq, Nat.reduceEqDiff, Nat.reduceLT, Nat.reduceLeDiff, Nat.reduceAdd, Nat.reduceSub, Nat.reduceMul, Int.reduceToNat, Int.reduceLE, Int.reduceLT, Int.reduceAdd, Int.reduceSub, Int.reduceMul, Int.reduceEq, Int.reduceNeg]
                          have g_0 := Option.some.inj h
                          subst g_0
                          rw [← hQ]
                          exact ⟨rfl, _, rfl, _, _, (RefV.out rfl), rfl, rfl⟩
                      · rw [if_neg h_47] at h
                        have e_48 : (x_43.Cluster = x_35.Cluster) = False := eq_false h_47
                        simp only [e_2, e_4, e_6, e_10, e_12, e_22, e_26, e_30, e_33, e_34, e_37, e_38, e_40, e_42, e_45, e_46, e_48, go_sem, reduceIte, reduceCtorEq, Nat.reduceEqDiff, Nat.reduceLT, Nat.reduceLeDiff, Nat.reduceAdd, Nat.reduceSub, Nat.reduceMul, Int.reduceToNat, Int.reduceLE, Int.reduceLT, Int.reduceAdd, Int.reduceSub, Int.reduceMul, Int.reduceEq, Int.reduceNeg]
                        have g_0 := Option.some.inj h
                        subst g_0
                        rw [← hQ]
                        exact ⟨rfl, _, rfl, _, _, (RefV.out rfl), rfl, rfl⟩
                    · rw [if_neg h_41] at h
                      have e_42 : (0 < (y_15.length : Int)) = False := eq_false h_41
                      obtain ⟨x_1069, h_1070, h⟩ := bindS h
                      have e_1071 : (List.map eTGlyph y_17)[0]? = some [.int .i64 x_1069.Id, .int .i64 x_1069.Cluster, .int .i64 x_1069.Mask, .int .i64 x_1069.Syl, .int .i32 x_1069.Code, .int .i64 x_1069.Cat, .int .i64 x_1069.Pos, .int .i64 x_1069.Key, .int .i64 x_1069.Lig, .int .i64 x_1069.Part, .int .i64 x_1069.X, .int .i64 x_1069.Y, .int .i64 x_1069.Wide, .int .i64 x_1069.High] := atI_map eTGlyph h_1070
                      have e_1072 : ((0 : Int) < (y_17.length : Int)) = True := eq_true (atI_lt h_1070)
                      simp only [e_2, e_4, e_6, e_10, e_12, e_22, e_26, e_30, e_33, e_34, e_37, e_38, e_40, e_42, e_1071, e_1072, go_sem, reduceIte, reduceCtorEq, Nat.reduceEqDiff, Nat.reduceLT, Nat.reduceLeDiff, Nat.reduceAdd, Nat.reduceSub, Nat.reduceMul, Int.reduceToNat, Int.reduceLE, Int.reduceLT, Int.reduceAdd, Int.reduceSub, Int.reduceMul, Int.reduceEq, Int.reduceNeg]
                      by_cases h_1073 : x_1069.Cluster = x_35.Cluster
                      · rw [if_pos h_1073] at h
                        have e_1074 : (x_1069.Cluster = x_35.Cluster) = True := eq_true h_1073
                        simp only [e_2, e_4, e_6, e_10, e_12, e_22, e_26, e_30, e_33, e_34, e_37, e_38, e_40, e_42, e_1071, e_1072, e_1074, go_sem, reduceIte, reduceCtorEq, Nat.reduceEqDiff, Nat.reduceLT, Nat.reduceLeDiff, Nat.reduceAdd, Nat.reduceSub, Nat.reduceMul, Int.reduceToNat, Int.reduceLE, Int.reduceLT, Int.reduceAdd, Int.reduceSub, Int.reduceMul, Int.reduceEq, Int.reduceNeg]
                        by_cases h_1075 : (y_17.length : Int) = (l_0.length : Int)
                        · rw [if_pos h_1075] at h
                          have e_1076 : ((y_17.length : Int) = (l_0.length : Int)) = True := eq_true h_1075
                          obtain ⟨y_1077, h_1078, h⟩ := bindS h
                          simp only [e_2, e_4, e_6, e_10, e_12, e_22, e_26, e_30, e_33, e_34, e_37, e_38, e_40, e_42, e_1071, e_1072, e_1074, e_1076, go_sem, reduceIte, reduceCtorEq, Nat.reduceEqDiff, Nat.reduceLT, Nat.reduceLeDiff, Nat.reduceAdd, Nat.reduceSub, Nat.reduceMul, Int.reduceToNat, Int.reduceLE, Int.reduceLT, Int.reduceAdd, Int.reduceSub, Int.reduceMul, Int.reduceEq, Int.reduceNeg]
                          refine ACalls.use0 (ref17_Each_w N _ _ _ h_1078) rfl rfl ?_
                          refine CallK_go (Nat.zero_le _) ?_
                          simp only [e_2, e_4, e_6, e_10, e_12, e_22, e_26, e_30, e_33, e_34, e_37, e_38, e_40, e_42, e_1071, e_1072, e_1074, e_1076, go_sem, reduceIte, reduceCtorEq, Nat.reduceEqDiff, Nat.reduceLT, Nat.reduceLeDiff, Nat.reduceAdd, Nat.reduceSub, Nat.reduceMul, Int.reduceToNat, Int.reduceLE, Int.reduceLT, Int.reduceAdd, Int.reduceSub, Int.reduceMul, Int.reduceEq, Int.reduceNeg]
                          by_cases h_1079 : y_1077 = true
                          · rw [if_pos h_1079] at h
                            have e_1080 : y_1077 = true := h_1079
                            simp only [e_2, e_4, e_6, e_10, e_12, e_22, e_26, e_30, e_33, e_34, e_37, e_38, e_40, e_42, e_1071, e_1072, e_1074, e_1076, e_1080, go_sem, reduceIte, reduceCtorEq, Nat.reduceEqDiff, Nat.reduceLT, Nat.reduceLeDiff, Nat.reduceAdd, Nat.reduceSub, Nat.reduceMul, Int.reduceToNat, Int.reduceLE, Int.reduceLT, Int.reduceAdd, Int.reduceSub, Int.reduceMul, Int.reduceEq, Int.reduceNeg]
                            by_cases h_1081 : a_1 < 0
                            · rw [if_pos h_1081] at h
                              have e_1082 : (a_1 < 0) = True := eq_true h_1081
                              simp only [e_2, e_4, e_6, e_10, e_12, e_22, e_26, e_30, e_33, e_34, e_37, e_38, e_40, e_42, e_1071, e_1072, e_1074, e_1076, e_1080, e_1082, go_sem, reduceIte, reduceCtorEq, Nat.reduceEqDiff, Nat.reduceLT, Nat.reduceLeDiff, Nat.reduceAdd, Nat.reduceSub, Nat.reduceMul, Int.reduceToNat, Int.reduceLE, Int.reduceLT, Int.reduceAdd, Int.reduceSub, Int.reduceMul, Int.reduceEq, Int.reduceNeg]
                              have g_0 := Option.some.inj h
                              subst g_0
                              rw [← hQ]
                              exact ⟨rfl, _, rfl, _, _, (RefV.out rfl), rfl, rfl⟩
                            · rw [if_neg h_1081] at h
                              have e_1082 : (a_1 < 0) = False := eq_false h_1081
                              simp only [e_2, e_4, e_6, e_10, e_12, e_22, e_26, e_30, e_33, e_34, e_37, e_38, e_40, e_42, e_1071, e_1072, e_1074, e_1076, e_1080, e_1082, go_sem, reduceIte, reduceCtorEq, Nat.reduceEqDiff, Nat.reduceLT, Nat.reduceLeDiff, Nat.reduceAdd, Nat.reduceSub, Nat.reduceMul, Int.reduceToNat, Int.reduceLE, Int.reduceLT, Int.reduceAdd, Int.reduceSub, Int.reduceMul, Int.reduceEq, Int.reduceNeg]
                              by_cases h_1083 : (l_0.length : Int) < a_1
                              · rw [if_pos h_1083] at h
                                have e_1084 : ((l_0.length : Int) < a_1) = True := eq_true h_1083
                                simp only [e_2, e_4, e_6, e_10, e_12, e_22, e_26, e_30, e_33, e_34, e_37, e_38, e_40, e_42, e_1071, e_1072, e_1074, e_1076, e_1080, e_1082, e_1084, go_sem, reduceIte, reduceCtorEq, Nat.reduceEqDiff, Nat.reduceLT, Nat.reduceLeDiff, Nat.reduceAdd, Nat.reduceSub, Nat.reduceMul, Int.reduceToNat, Int.reduceLE, Int.reduceLT, Int.reduceAdd, Int.reduceSub, Int.reduceMul, Int.reduceEq, Int.reduceNeg]
                                have g_0 := Option.some.inj h
                                subst g_0
                                rw [← hQ]
                                exact ⟨rfl, _, rfl, _, _, (RefV.out rfl), rfl, rfl⟩
                              · rw [if_neg h_1083] at h
                                have e_1084 : ((l_0.length : Int) < a_1) = False := eq_false h_1083
                                simp only [e_2, e_4, e_6, e_10, e_12, e_22, e_26, e_30, e_33, e_34, e_37, e_38, e_40, e_42, e_1071, e_1072, e_1074, e_1076, e_1080, e_1082, e_1084, go_sem, reduceIte, reduceCtorEq, Nat.reduceEqDiff, Nat.reduceLT, Nat.reduceLeDiff, Nat.reduceAdd, Nat.reduceSub, Nat.reduceMul, Int.reduceToNat, Int.reduceLE, Int.reduceLT, Int.reduceAdd, Int.reduceSub, Int.reduceMul, Int.reduceEq, Int.reduceNeg]
                                by_cases h_1085 : IntKind.i64.wrap ((l_0.length : Int) - a_1) < (l_4.length : Int)
                                · rw [if_pos h_1085] at h
                                  have e_1086 : (IntKind.i64.wrap ((l_0.length : Int) - a_1) < (l_4.length : Int)) = True := eq_true h_1085
                                  simp only [e_2, e_4, e_6, e_10, e_12, e_22, e_26, e_30, e_33, e_34, e_37, e_38, e_40, e_42, e_1071, e_1072, e_1074, e_1076, e_1080, e_1082, e_1084, e_1086, go_sem, reduceIte, reduceCtorEq, Nat.reduceEqDiff, Nat.reduceLT, Nat.reduceLeDiff, Nat.reduceAdd, Nat.reduceSub, Nat.reduceMul, Int.reduceToNat, Int.reduceLE, Int.reduceLT, Int.reduceAdd, Int.reduceSub, Int.reduceMul, Int.reduceEq, Int.reduceNeg]
                                  have g_0 := Option.some.inj h
                                  subst g_0
                                  rw [← hQ]
                                  exact ⟨rfl, _, rfl, _, _, (RefV.out rfl), rfl, rfl⟩
                                · rw [if_neg h_1085] at h
                                  have e_1086 : (IntKind.i64.wrap ((l_0.length : Int) - a_1) < (l_4.length : Int)) = False := eq_false h_1085
                                  simp only [e_2, e_4, e_6, e_10, e_12, e_22, e_26, e_30, e_33, e_34, e_37, e_38, e_40, e_42, e_1071, e_1072, e_1074, e_1076, e_1080, e_1082, e_1084, e_1086, go_sem, reduceIte, reduceCtorEq, Nat.reduceEqDiff, Nat.reduceLT, Nat.reduceLeDiff, Nat.reduceAdd, Nat.reduceSub, Nat.reduceMul, Int.reduceToNat, Int.reduceLE, Int.reduceLT, Int.reduceAdd, Int.reduceSub, Int.reduceMul, Int.reduceEq, Int.reduceNeg]
                                  obtain ⟨o_2088, h_2087, h⟩ := bindS h
                                  refine ALp.ref (Ref.out [1, 4, 13, 14] rfl) (Nat.zero_le _) (law17_BufferRises_L3_w N _ _ _ c_2 N _ o_2088 h_2087 ?_)
                                  rcases o_2088 with _ | _
                                  · try dsimp only at h
                                    refine LoopK_go rfl (Nat.zero_le _) ?_
                                    simp only [e_2, e_4, e_6, e_10, e_12, e_22, e_26, e_30, e_33, e_34, e_37, e_38, e_40, e_42, e_1071, e_1072, e_1074, e_1076, e_1080, e_1082, e_1084, e_1086, go_sem, reduceIte, reduceCtorEq, Nat.reduceEqDiff, Nat.reduceLT, Nat.reduceLeDiff, Nat.reduceAdd, Nat.reduceSub, Nat.reduceMul, Int.reduceToNat, Int.reduceLE, Int.reduceLT, Int.reduceAdd, Int.reduceSub, Int.reduceMul, Int.reduceEq, Int.reduceNeg]
                                    have g_0 := Option.some.inj h
                                    subst g_0
                                    rw [← hQ]
                                    exact ⟨rfl, _, rfl, _, _, (RefV.out rfl), rfl, rfl⟩
                                  · try dsimp only at h
                                    refine LoopK_ret ?_
                                    have g_0 := Option.some.inj h
                                    subst g_0
                                    rw [← hQ]
                                    exact ⟨rfl, _, rfl, _, _, (RefV.out rfl), rfl, rfl⟩
                          · rw [if_neg h_1079] at h
                            have e_1080 : y_1077 = false := bfalse h_1079
                            simp only [e_2, e_4, e_6, e_10, e_12, e_22, e_26, e_30, e_33, e_34, e_37, e_38, e_40, e_42, e_1071, e_1072, e_1074, e_1076, e_1080, go_sem, reduceIte, reduceCtorEq, Nat.reduceEqDiff, Nat.reduceLT, Nat.reduceLeDiff, Nat.reduceAdd, Nat.reduceSub, Nat.reduceMul, Int.reduceToNat, Int.reduceLE, Int.reduceLT, Int.reduceAdd, Int.reduceSub, Int.reduceMul, Int.reduceEq, Int.reduceNeg]
                            have g_0 := Option.some.inj h
                            subst g_0
                            rw [← hQ]
                            exact ⟨rfl, _, rfl, _, _, (RefV.out rfl), rfl, rfl⟩
                        · rw [if_neg h_1075] at h
                          have e_1076 : ((y_17.length : Int) = (l_0.length : Int)) = False := eq_false h_1075
                          simp only [e_2, e_4, e_6, e_10, e_12, e_22, e_26, e_30, e_33, e_34, e_37, e_38, e_40, e_42, e_1071, e_1072, e_1074, e_1076, go_sem, reduceIte, reduceCtorEq, Nat.reduceEqDiff, Nat.reduceLT, Nat.reduceLeDiff, Nat.reduceAdd, Nat.reduceSub, Nat.reduceMul, Int.reduceToNat, Int.reduceLE, Int.reduceLT, Int.reduceAdd, Int.reduceSub, Int.reduceMul, Int.reduceEq, Int.reduceNeg]
                          have g_0 := Option.some.inj h
                          subst g_0
                          rw [← hQ]
                          exact ⟨rfl, _, rfl, _, _, (RefV.out rfl), rfl, rfl⟩
                      · rw [if_neg h_1073] at h
                        have e_1074 : (x_1069.Cluster = x_35.Cluster) = False := eq_false h_1073
                        simp only [e_2, e_4, e_6, e_10, e_12, e_22, e_26, e_30, e_33, e_34, e_37, e_38, e_40, e_42, e_1071, e_1072, e_1074, go_sem, reduceIte, reduceCtorEq, Nat.reduceEqDiff, Nat.reduceLT, Nat.reduceLeDiff, Nat.reduceAdd, Nat.reduceSub, Nat.reduceMul, Int.reduceToNat, Int.reduceLE, Int.reduceLT, Int.reduceAdd, Int.reduceSub, Int.reduceMul, Int.reduceEq, Int.reduceNeg]
                        have g_0 := Option.some.inj h
                        subst g_0
                        rw [← hQ]
                        exact ⟨rfl, _, rfl, _, _, (RefV.out rfl), rfl, rfl⟩
                  · rw [if_neg h_39] at h
                    have e_40 : (x_31.Cluster = x_35.Cluster) = False := eq_false h_39
                    simp only [e_2, e_4, e_6, e_10, e_12, e_22, e_26, e_30, e_33, e_34, e_37, e_38, e_40, go_sem, reduceIte, reduceCtorEq, Nat.reduceEqDiff, Nat.reduceLT, Nat.reduceLeDiff, Nat.reduceAdd, Nat.reduceSub, Nat.reduceMul, Int.reduceToNat, Int.reduceLE, Int.reduceLT, Int.reduceAdd, Int.reduceSub, Int.reduceMul, Int.reduceEq, Int.reduceNeg]
                    have g_0 := Option.some.inj h
                    subst g_0
                    rw [← hQ]
                    exact ⟨rfl, _, rfl, _, _, (RefV.out rfl), rfl, rfl⟩
                · rw [if_neg h_29] at h
                  have e_30 : y_27 = false := bfalse h_29
                  simp only [e_2, e_4, e_6, e_10, e_12, e_22, e_26, e_30, go_sem, reduceIte, reduceCtorEq, Nat.reduceEqDiff, Nat.reduceLT, Nat.reduceLeDiff, Nat.reduceAdd, Nat.reduceSub, Nat.reduceMul, Int.reduceToNat, Int.reduceLE, Int.reduceLT, Int.reduceAdd, Int.reduceSub, Int.reduceMul, Int.reduceEq, Int.reduceNeg]
                  have g_0 := Option.some.inj h
                  subst g_0
                  rw [← hQ]
                  exact ⟨rfl, _, rfl, _, _, (RefV.out rfl), rfl, rfl⟩
              · rw [if_neg h_25] at h
                have e_26 : y_23 = false := bfalse h_25
                simp only [e_2, e_4, e_6, e_10, e_12, e_22, e_26, go_sem, reduceIte, reduceCtorEq, Nat.reduceEqDiff, Nat.reduceLT, Nat.reduceLeDiff, Nat.reduceAdd, Nat.reduceSub, Nat.reduceMul, Int.reduceToNat, Int.reduceLE, Int.reduceLT, Int.reduceAdd, Int.reduceSub, Int.reduceMul, Int.reduceEq, Int.reduceNeg]
                have g_0 := Option.some.inj h
                subst g_0
                rw [← hQ]
                exact ⟨rfl, _, rfl, _, _, (RefV.out rfl), rfl, rfl⟩
            · rw [if_neg h_21] at h
              have e_22 : y_19 = false := bfalse h_21
              simp only [e_2, e_4, e_6, e_10, e_12, e_22, go_sem, reduceIte, reduceCtorEq, Nat.reduceEqDiff, Nat.reduceLT, Nat.reduceLeDiff, Nat.reduceAdd, Nat.reduceSub, Nat.reduceMul, Int.reduceToNat, Int.reduceLE, Int.reduceLT, Int.reduceAdd, Int.reduceSub, Int.reduceMul, Int.reduceEq, Int.reduceNeg]
              have g_0 := Option.some.inj h
              subst g_0
              rw [← hQ]
              exact ⟨rfl, _, rfl, _, _, (RefV.out rfl), rfl, rfl⟩
        · rw [if_neg h_9] at h
          have e_10 : y_7 = false := bfalse h_9
          simp only [e_2, e_4, e_6, e_10, go_sem, reduceIte, reduceCtorEq, Nat.reduceEqDiff, Nat.reduceLT, Nat.reduceLeDiff, Nat.reduceAdd, Nat.reduceSub, Nat.reduceMul, Int.reduceToNat, Int.reduceLE, Int.reduceLT, Int.reduceAdd, Int.reduceSub, Int.reduceMul, Int.reduceEq, Int.reduceNeg]
          have g_0 := Option.some.inj h
          subst g_0
          rw [← hQ]
          exact ⟨rfl, _, rfl, _, _, (RefV.out rfl), rfl, rfl⟩
end Go.Proofs.Ytjdnbdhdpcnikaa.AI
