/- Walks: printed by a program (pw.py); each shows that a function answers what is told plainly. -/
import Derived.Test.YtjdnbdhdpcnikaabmP
import Derived.Test.YtjdnbdhdpcnikaabmA
set_option linter.unusedVariables false
set_option linter.unusedSimpArgs false
set_option maxRecDepth 100000
set_option maxHeartbeats 1000000
namespace Go.Proofs.Ytjdnbdhdpcnikaa.AI
open Go.Proofs (Try.prog)
def eTGlyph (x : TGlyph) : List AV := [.int .i64 x.Id, .int .i64 x.Cluster, .int .i64 x.Mask, .int .i64 x.Syl, .int .i32 x.Code, .int .i64 x.Cat, .int .i64 x.Pos, .int .i64 x.Key, .int .i64 x.Lig, .int .i64 x.Part, .int .i64 x.X, .int .i64 x.Y, .int .i64 x.Wide, .int .i64 x.High]
theorem subs_eTGlyph (S : Sub) (l : List TGlyph) : (List.map eTGlyph l).map (subs S) = List.map eTGlyph l := subs_map S l eTGlyph (fun _ => rfl)
def eI64 (x : Int) : List AV := [.int .i64 x]
theorem subs_eI64 (S : Sub) (l : List Int) : (List.map eI64 l).map (subs S) = List.map eI64 l := subs_map S l eI64 (fun _ => rfl)
def eB (x : Bool) : List AV := [.bool x]
theorem subs_eB (S : Sub) (l : List Bool) : (List.map eB l).map (subs S) = List.map eB l := subs_map S l eB (fun _ => rfl)
def eTArr2_I64 (x : TArr2_I64) : List AV := [.int .i64 x.e0, .int .i64 x.e1]
theorem subs_eTArr2_I64 (S : Sub) (l : List TArr2_I64) : (List.map eTArr2_I64 l).map (subs S) = List.map eTArr2_I64 l := subs_map S l eTArr2_I64 (fun _ => rfl)
attribute [local go_sem] subs_eTGlyph subs_eI64 subs_eB subs_eTArr2_I64
def tab_alive17 : List (Nat × ACode × Nat × List RV) := [E12, E13, E16, E18, E19, E21, E22, E50, E51, E52, E53, E55, E56, E74, E75, E88, E89, E90, E95, E96, E103, E104]
theorem tab_alive17_ok : AllOk Go.Proofs.Try.prog tab_alive17 := ⟨e12, e13, e16, e18, e19, e21, e22, e50, e51, e52, e53, e55, e56, e74, e75, e88, e89, e90, e95, e96, e103, e104, trivial⟩
theorem alive17 : ACalls Go.Proofs.Try.prog 12 [] [] fun e H => H = [] ∧ e = .ret (.bool true) := ACalls.told (m := 300) (n := 20) tab_alive17_ok (by decide +kernel)
def B5_1 : ACode := match A5 with | (.seq _ (.seq _ (.seq _ (.seq _ (.seq (.seq _ (.block _ (.loop b))) _))))) => b | _ => .skip
def B18_1 : ACode := match A18 with | (.seq _ (.seq _ (.seq _ (.seq _ (.seq _ (.seq (.seq _ (.block _ (.loop b))) _)))))) => b | _ => .skip
def B18_2 : ACode := match A18 with | (.seq _ (.seq _ (.seq _ (.seq _ (.seq _ (.seq _ (.seq _ (.seq (.seq _ (.cond _ (.seq _ (.seq _ (.block _ (.loop b)))) _)) _)))))))) => b | _ => .skip
def B16_1 : ACode := match A16 with | (.seq _ (.seq _ (.seq _ (.seq _ (.seq (.seq _ (.block _ (.loop b))) _))))) => b | _ => .skip
def B16_2 : ACode := match A16 with | (.seq _ (.seq _ (.seq _ (.seq _ (.seq _ (.seq _ (.seq (.block _ (.loop b)) _))))))) => b | _ => .skip
def B16_3 : ACode := match A16 with | (.seq _ (.seq _ (.seq _ (.seq _ (.seq _ (.seq _ (.seq _ (.seq (.block _ (.loop b)) _)))))))) => b | _ => .skip
def B16_4 : ACode := match A16 with | (.seq _ (.seq _ (.seq _ (.seq _ (.seq _ (.seq _ (.seq _ (.seq _ (.seq (.seq _ (.block _ (.loop b))) _))))))))) => b | _ => .skip
def B19_1 : ACode := match A19 with | (.seq _ (.seq _ (.seq _ (.seq _ (.seq (.seq _ (.block _ (.loop b))) _))))) => b | _ => .skip
def B19_2 : ACode := match A19 with | (.seq _ (.seq _ (.seq _ (.seq _ (.seq _ (.seq _ (.seq (.seq _ (.block _ (.loop b))) _))))))) => b | _ => .skip
def B22_1 : ACode := match A22 with | (.seq _ (.seq _ (.seq (.seq _ (.block _ (.loop b))) _))) => b | _ => .skip
def B22_2 : ACode := match A22 with | (.seq _ (.seq _ (.seq _ (.seq _ (.seq _ (.seq (.seq _ (.block _ (.loop b))) _)))))) => b | _ => .skip
def B15_1 : ACode := match A15 with | (.seq _ (.seq _ (.seq (.seq _ (.block _ (.loop b))) _))) => b | _ => .skip
def B21_1 : ACode := match A21 with | (.seq _ (.seq _ (.seq _ (.seq (.seq _ (.block _ (.loop b))) _)))) => b | _ => .skip
def B75_1 : ACode := match A75 with | (.seq _ (.seq _ (.seq (.block _ (.loop b)) _))) => b | _ => .skip
def B75_2 : ACode := match A75 with | (.seq _ (.seq _ (.seq _ (.seq _ (.block _ (.loop b)))))) => b | _ => .skip
def B75_3 : ACode := match B75_2 with | (.seq _ (.block _ (.seq _ (.seq (.block _ (.loop b)) _)))) => b | _ => .skip
def B89_1 : ACode := match A89 with | (.seq _ (.block _ (.loop b))) => b | _ => .skip
def B89_2 : ACode := match B89_1 with | (.seq _ (.seq (.block _ (.seq _ (.block _ (.loop b)))) _)) => b | _ => .skip
def B90_1 : ACode := match A90 with | (.seq (.seq _ (.cond _ (.seq _ (.seq _ (.seq (.block _ (.loop b)) _))) _)) _) => b | _ => .skip
def B90_2 : ACode := match A90 with | (.seq (.seq _ (.cond _ (.seq _ (.seq _ (.seq _ (.seq (.seq _ (.block _ (.loop b))) _)))) _)) _) => b | _ => .skip
def B90_3 : ACode := match A90 with | (.seq _ (.seq (.seq _ (.cond _ (.seq _ (.seq _ (.seq (.block _ (.loop b)) _))) _)) _)) => b | _ => .skip
def B90_4 : ACode := match A90 with | (.seq _ (.seq (.seq _ (.cond _ (.seq _ (.seq _ (.seq _ (.seq (.seq _ (.block _ (.loop b))) _)))) _)) _)) => b | _ => .skip
def B90_5 : ACode := match A90 with | (.seq _ (.seq _ (.seq _ (.seq _ (.seq _ (.seq _ (.seq _ (.seq (.block _ (.loop b)) _)))))))) => b | _ => .skip
def B96_1 : ACode := match A96 with | (.seq _ (.seq _ (.seq (.block _ (.loop b)) _))) => b | _ => .skip
def B104_1 : ACode := match A104 with | (.seq _ (.block _ (.loop b))) => b | _ => .skip
theorem law17_BufferStays_L1_w (N : Nat) (l_0 : List TGlyph) (a_1 : Int) (c_0 : Bool) {R : AExit → ATm → List AObj → Prop} : ∀ (n : Nat) (i_3 : Int) (s_4 : List Int) (s_5 : List Int) (o : (List Int) × (List Int)), law17_BufferStays_L1 N l_0 a_1 n i_3 s_4 s_5 = some o → (match o with | (z_1, z_2) => R (.exit 0) ⟨72, [(0, .vec c_0 (List.map eTGlyph l_0)), (1, .int .i64 a_1), (5, .row 0 0 z_1.length), (6, .row 1 0 z_2.length)], []⟩ [.mem 1 (List.map eI64 z_1) 3, .mem 1 (List.map eI64 z_2) 3]) →
    ALp Go.Proofs.Try.prog 0 B5_1 ⟨72, [(0, .vec c_0 (List.map eTGlyph l_0)), (1, .int .i64 a_1), (5, .row 0 0 s_4.length), (6, .row 1 0 s_5.length), (7, .int .i64 i_3)], []⟩ [.mem 1 (List.map eI64 s_4) 3, .mem 1 (List.map eI64 s_5) 3] R := by
  intro n
  induction n with
  | zero =>
    intro i_3 s_4 s_5 o h _
    have h0 : none = some o := h
    cases h0
  | succ n ih =>
    intro i_3 s_4 s_5 o h hp
    rw [law17_BufferStays_L1] at h
    refine ALp.round ?_
    generalize hQ : RoundQ _ _ _ _ = QQ
    simp only [B5_1, A5, go_sem, reduceIte, reduceCtorEq, Nat.reduceEqDiff, Nat.reduceLT, Nat.reduceLeDiff, Nat.reduceAdd, Nat.reduceSub, Nat.reduceMul, Int.reduceToNat, Int.reduceLE, Int.reduceLT, Int.reduceAdd, Int.reduceSub, Int.reduceMul, Int.reduceEq, Int.reduceNeg]
    by_cases h_6 : i_3 < (l_0.length : Int)
    · rw [if_pos h_6] at h
      have e_7 : (i_3 < (l_0.length : Int)) = True := eq_true h_6
      have e_8 : List.take s_4.length (List.map eI64 s_4) = (List.map eI64 s_4) := List.take_of_length_le (by simp)
      have e_9 : (List.map eI64 s_4) ++ [[.int .i64 i_3]] = (List.map eI64 (s_4 ++ [i_3])) := app_map s_4 ([i_3]) eI64
      obtain ⟨h_10, h⟩ := guardS h
      have e_11 : ((s_4.length + 1) * 8 ≤ 140737488355328) = True := eq_true h_10
      have e_12 : List.take s_5.length (List.map eI64 s_5) = (List.map eI64 s_5) := List.take_of_length_le (by simp)
      have e_13 : (List.map eI64 s_5) ++ [[.int .i64 7]] = (List.map eI64 (s_5 ++ [7])) := app_map s_5 ([7]) eI64
      obtain ⟨h_14, h⟩ := guardS h
      have e_15 : ((s_5.length + 1) * 8 ≤ 140737488355328) = True := eq_true h_14
      simp only [e_7, e_8, e_9, e_11, e_12, e_13, e_15, go_sem, reduceIte, reduceCtorEq, Nat.reduceEqDiff, Nat.reduceLT, Nat.reduceLeDiff, Nat.reduceAdd, Nat.reduceSub, Nat.reduceMul, Int.reduceToNat, Int.reduceLE, Int.reduceLT, Int.reduceAdd, Int.reduceSub, Int.reduceMul, Int.reduceEq, Int.reduceNeg]
      rw [← hQ]
      exact ⟨_, _, (Ref.std [0, 1, 5, 6, 7] [2, 3] (by decide) low0 (by first | rfl | simp only [go_sem, reduceIte, Nat.reduceEqDiff, Nat.reduceAdd]) (by first | rfl | simp only [go_sem, reduceIte, Nat.reduceEqDiff, Nat.reduceAdd])), (Nat.zero_le _), ih _ _ _ _ h hp⟩
    · rw [if_neg h_6] at h
      have e_7 : (i_3 < (l_0.length : Int)) = False := eq_false h_6
      simp only [e_7, go_sem, reduceIte, reduceCtorEq, Nat.reduceEqDiff, Nat.reduceLT, Nat.reduceLeDiff, Nat.reduceAdd, Nat.reduceSub, Nat.reduceMul, Int.reduceToNat, Int.reduceLE, Int.reduceLT, Int.reduceAdd, Int.reduceSub, Int.reduceMul, Int.reduceEq, Int.reduceNeg]
      have g := Option.some.inj h
      subst g
      rw [← hQ]
      exact ⟨_, _, (Ref.std [0, 1, 5, 6] [0, 1] (by decide) low0 rfl (by first | rfl | simp only [go_sem, reduceIte, Nat.reduceEqDiff, Nat.reduceAdd])), hp⟩
theorem slices_Clone_apiGlyphapiGlyph_w (N : Nat) (l_0 : List TGlyph) (c_0 : Bool) (z_1 : List TGlyph) (h : slices_Clone_apiGlyphapiGlyph N l_0 = some z_1) :
    ACalls Go.Proofs.Try.prog 53 [.vec c_0 (List.map eTGlyph l_0)] [] (fun e H => H = [.mem 14 (List.map eTGlyph z_1) 32] ∧ e = .ret (.row 0 0 z_1.length)) := by
  unfold slices_Clone_apiGlyphapiGlyph at h
  refine ACalls.goN Go.Proofs.Try.func53 n53 a53 Go.Proofs.Try.ntmps53 r53 (by simp) 0 rfl ?_
  generalize hQ : bodyA _ _ _ = QQ
  simp only [A53, go_sem, reduceIte, reduceCtorEq, Nat.reduceEqDiff, Nat.reduceLT, Nat.reduceLeDiff, Nat.reduceAdd, Nat.reduceSub, Nat.reduceMul, Int.reduceToNat, Int.reduceLE, Int.reduceLT, Int.reduceAdd, Int.reduceSub, Int.reduceMul, Int.reduceEq, Int.reduceNeg]
  by_cases h_1 : l_0 = []
  · rw [if_pos h_1] at h
    have e_2 : l_0 = [] := h_1
    simp only [e_2, go_sem, reduceIte, reduceCtorEq, Nat.reduceEqDiff, Nat.reduceLT, Nat.reduceLeDiff, Nat.reduceAdd, Nat.reduceSub, Nat.reduceMul, Int.reduceToNat, Int.reduceLE, Int.reduceLT, Int.reduceAdd, Int.reduceSub, Int.reduceMul, Int.reduceEq, Int.reduceNeg]
    refine ⟨?_, ?_⟩
    · skip
      try simp only [e_2, go_sem, reduceIte, reduceCtorEq, Nat.reduceEqDiff, Nat.reduceLT, Nat.reduceLeDiff, Nat.reduceAdd, Nat.reduceSub, Nat.reduceMul, Int.reduceToNat, Int.reduceLE, Int.reduceLT, Int.reduceAdd, Int.reduceSub, Int.reduceMul, Int.reduceEq, Int.reduceNeg]
      have g_0 := Option.some.inj h
      subst g_0
      rw [← hQ]
      exact ⟨rfl, _, rfl, _, _, (RefV.trans (RefV.thaw0 (Nat.zero_le _) (sz := 14) (by decide) 32) (RefV.std [0] (by decide) low0 rfl (by first | rfl | simp only [go_sem, reduceIte, Nat.reduceEqDiff, Nat.reduceAdd, e_2]))), rfl, rfl⟩
    · skip
      try simp only [e_2, go_sem, reduceIte, reduceCtorEq, Nat.reduceEqDiff, Nat.reduceLT, Nat.reduceLeDiff, Nat.reduceAdd, Nat.reduceSub, Nat.reduceMul, Int.reduceToNat, Int.reduceLE, Int.reduceLT, Int.reduceAdd, Int.reduceSub, Int.reduceMul, Int.reduceEq, Int.reduceNeg]
      have g_0 := Option.some.inj h
      subst g_0
      rw [← hQ]
      exact ⟨rfl, _, rfl, _, _, (RefV.std [0] (by decide) low0 rfl (by first | rfl | simp only [go_sem, reduceIte, Nat.reduceEqDiff, Nat.reduceAdd, e_2])), rfl, rfl⟩
  · rw [if_neg h_1] at h
    have e_2 : (l_0.length = 0) = False := eq_false (fun q => h_1 (List.eq_nil_of_length_eq_zero q))
    have e_3 : ((List.map eTGlyph l_0)).all (fun el => el.length == 14) = true := all_len _ eTGlyph 14 (fun _ => rfl)
    obtain ⟨h_4, h⟩ := guardS h
    have e_5 : (l_0.length * 112 ≤ 140737488355328) = True := eq_true h_4
    simp only [e_2, e_3, e_5, go_sem, reduceIte, reduceCtorEq, Nat.reduceEqDiff, Nat.reduceLT, Nat.reduceLeDiff, Nat.reduceAdd, Nat.reduceSub, Nat.reduceMul, Int.reduceToNat, Int.reduceLE, Int.reduceLT, Int.reduceAdd, Int.reduceSub, Int.reduceMul, Int.reduceEq, Int.reduceNeg]
    have g_0 := Option.some.inj h
    subst g_0
    rw [← hQ]
    exact ⟨rfl, _, rfl, _, _, (RefV.std [0] (by decide) low0 rfl (by first | rfl | simp only [go_sem, reduceIte, Nat.reduceEqDiff, Nat.reduceAdd, e_2])), rfl, rfl⟩
theorem buffer_Merge_L1_w (N : Nat) (l_0 : List TGlyph) (a_1 : Int) (a_2 : Int) (y_1 : List TGlyph) (c_0 : Bool) {R : AExit → ATm → List AObj → Prop} : ∀ (n : Nat) (i_22 : Int) (i_23 : Int) (o : Int), buffer_Merge_L1 N l_0 a_1 a_2 y_1 n i_22 i_23 = some o → (match o with | z_1 => R (.exit 0) ⟨101, [(0, .vec c_0 (List.map eTGlyph l_0)), (1, .int .i64 a_1), (2, .int .i64 a_2), (7, .row 0 0 y_1.length), (8, .int .i64 z_1)], []⟩ [.mem 14 (List.map eTGlyph y_1) 32]) →
    ALp Go.Proofs.Try.prog 0 B16_1 ⟨101, [(0, .vec c_0 (List.map eTGlyph l_0)), (1, .int .i64 a_1), (2, .int .i64 a_2), (7, .row 0 0 y_1.length), (8, .int .i64 i_22), (38, .vec false (List.map eTGlyph (slI l_0 a_1 a_2))), (39, .int .i64 (((slI l_0 a_1 a_2).length : Nat) : Int)), (40, .int .i64 i_23)], []⟩ [.mem 14 (List.map eTGlyph y_1) 32] R := by
  intro n
  induction n with
  | zero =>
    intro i_22 i_23 o h _
    have h0 : none = some o := h
    cases h0
  | succ n ih =>
    intro i_22 i_23 o h hp
    rw [buffer_Merge_L1] at h
    refine ALp.round ?_
    generalize hQ : RoundQ _ _ _ _ = QQ
    simp only [B16_1, A16, go_sem, reduceIte, reduceCtorEq, Nat.reduceEqDiff, Nat.reduceLT, Nat.reduceLeDiff, Nat.reduceAdd, Nat.reduceSub, Nat.reduceMul, Int.reduceToNat, Int.reduceLE, Int.reduceLT, Int.reduceAdd, Int.reduceSub, Int.reduceMul, Int.reduceEq, Int.reduceNeg]
    by_cases h_24 : i_23 < (((slI l_0 a_1 a_2).length : Nat) : Int)
    · rw [if_pos h_24] at h
      have e_25 : (i_23 < (((slI l_0 a_1 a_2).length : Nat) : Int)) = True := eq_true h_24
      obtain ⟨x_26, h_27, h⟩ := bindS h
      have e_28 : (List.map eTGlyph (slI l_0 a_1 a_2))[(i_23).toNat]? = some [.int .i64 x_26.Id, .int .i64 x_26.Cluster, .int .i64 x_26.Mask, .int .i64 x_26.Syl, .int .i32 x_26.Code, .int .i64 x_26.Cat, .int .i64 x_26.Pos, .int .i64 x_26.Key, .int .i64 x_26.Lig, .int .i64 x_26.Part, .int .i64 x_26.X, .int .i64 x_26.Y, .int .i64 x_26.Wide, .int .i64 x_26.High] := atI_map eTGlyph h_27
      have e_29 : ((0 : Int) ≤ i_23) = True := eq_true (atI_some h_27).1
      have e_30 : ((i_23 : Int) < ((slI l_0 a_1 a_2).length : Int)) = True := eq_true (atI_lt h_27)
      simp only [e_25, e_28, e_29, e_30, go_sem, reduceIte, reduceCtorEq, Nat.reduceEqDiff, Nat.reduceLT, Nat.reduceLeDiff, Nat.reduceAdd, Nat.reduceSub, Nat.reduceMul, Int.reduceToNat, Int.reduceLE, Int.reduceLT, Int.reduceAdd, Int.reduceSub, Int.reduceMul, Int.reduceEq, Int.reduceNeg]
      rw [← hQ]
      exact ⟨_, _, (Ref.std [0, 1, 2, 7, 8, 38, 39, 40] [0] (by decide) low0 rfl (by first | rfl | simp only [go_sem, reduceIte, Nat.reduceEqDiff, Nat.reduceAdd])), (Nat.zero_le _), ih _ _ _ h hp⟩
    · rw [if_neg h_24] at h
      have e_25 : (i_23 < (((slI l_0 a_1 a_2).length : Nat) : Int)) = False := eq_false h_24
      simp only [e_25, go_sem, reduceIte, reduceCtorEq, Nat.reduceEqDiff, Nat.reduceLT, Nat.reduceLeDiff, Nat.reduceAdd, Nat.reduceSub, Nat.reduceMul, Int.reduceToNat, Int.reduceLE, Int.reduceLT, Int.reduceAdd, Int.reduceSub, Int.reduceMul, Int.reduceEq, Int.reduceNeg]
      have g := Option.some.inj h
      subst g
      rw [← hQ]
      exact ⟨_, _, (Ref.std [0, 1, 2, 7, 8] [0] (by decide) low0 rfl (by first | rfl | simp only [go_sem, reduceIte, Nat.reduceEqDiff, Nat.reduceAdd])), hp⟩
theorem buffer_Merge_L2_w (N : Nat) (l_0 : List TGlyph) (a_1 : Int) (a_2 : Int) (y_1023 : Int) (y_1 : List TGlyph) (c_0 : Bool) {R : AExit → ATm → List AObj → Prop} : ∀ (n : Nat) (i_1024 : Int) (o : Int), buffer_Merge_L2 N l_0 a_1 a_2 y_1023 y_1 n i_1024 = some o → (match o with | z_1 => R (.exit 2) ⟨101, [(0, .vec c_0 (List.map eTGlyph l_0)), (2, .int .i64 a_2), (7, .row 0 0 y_1.length), (8, .int .i64 y_1023), (11, .int .i64 z_1), (12, .int .i64 a_2)], []⟩ [.mem 14 (List.map eTGlyph y_1) 32]) →
    ALp Go.Proofs.Try.prog 0 B16_2 ⟨101, [(0, .vec c_0 (List.map eTGlyph l_0)), (1, .int .i64 a_1), (2, .int .i64 a_2), (7, .row 0 0 y_1.length), (8, .int .i64 y_1023), (11, .int .i64 i_1024), (12, .int .i64 a_2)], []⟩ [.mem 14 (List.map eTGlyph y_1) 32] R := by
  intro n
  induction n with
  | zero =>
    intro i_1024 o h _
    have h0 : none = some o := h
    cases h0
  | succ n ih =>
    intro i_1024 o h hp
    rw [buffer_Merge_L2] at h
    refine ALp.round ?_
    generalize hQ : RoundQ _ _ _ _ = QQ
    simp only [B16_2, A16, go_sem, reduceIte, reduceCtorEq, Nat.reduceEqDiff, Nat.reduceLT, Nat.reduceLeDiff, Nat.reduceAdd, Nat.reduceSub, Nat.reduceMul, Int.reduceToNat, Int.reduceLE, Int.reduceLT, Int.reduceAdd, Int.reduceSub, Int.reduceMul, Int.reduceEq, Int.reduceNeg]
    by_cases h_1025 : 0 < i_1024
    · rw [if_pos h_1025] at h
      have e_1026 : (0 < i_1024) = True := eq_true h_1025
      obtain ⟨x_1027, h_1028, h⟩ := bindS h
      have e_1029 : (List.map eTGlyph l_0)[(IntKind.i64.wrap (i_1024 - 1)).toNat]? = some [.int .i64 x_1027.Id, .int .i64 x_1027.Cluster, .int .i64 x_1027.Mask, .int .i64 x_1027.Syl, .int .i32 x_1027.Code, .int .i64 x_1027.Cat, .int .i64 x_1027.Pos, .int .i64 x_1027.Key, .int .i64 x_1027.Lig, .int .i64 x_1027.Part, .int .i64 x_1027.X, .int .i64 x_1027.Y, .int .i64 x_1027.Wide, .int .i64 x_1027.High] := atI_map eTGlyph h_1028
      have e_1030 : ((0 : Int) ≤ IntKind.i64.wrap (i_1024 - 1)) = True := eq_true (atI_some h_1028).1
      have e_1031 : ((IntKind.i64.wrap (i_1024 - 1) : Int) < (l_0.length : Int)) = True := eq_true (atI_lt h_1028)
      obtain ⟨x_1032, h_1033, h⟩ := bindS h
      have e_1034 : (List.map eTGlyph l_0)[(a_1).toNat]? = some [.int .i64 x_1032.Id, .int .i64 x_1032.Cluster, .int .i64 x_1032.Mask, .int .i64 x_1032.Syl, .int .i32 x_1032.Code, .int .i64 x_1032.Cat, .int .i64 x_1032.Pos, .int .i64 x_1032.Key, .int .i64 x_1032.Lig, .int .i64 x_1032.Part, .int .i64 x_1032.X, .int .i64 x_1032.Y, .int .i64 x_1032.Wide, .int .i64 x_1032.High] := atI_map eTGlyph h_1033
      have e_1035 : ((0 : Int) ≤ a_1) = True := eq_true (atI_some h_1033).1
      have e_1036 : ((a_1 : Int) < (l_0.length : Int)) = True := eq_true (atI_lt h_1033)
      simp only [e_1026, e_1029, e_1030, e_1031, e_1034, e_1035, e_1036, go_sem, reduceIte, reduceCtorEq, Nat.reduceEqDiff, Nat.reduceLT, Nat.reduceLeDiff, Nat.reduceAdd, Nat.reduceSub, Nat.reduceMul, Int.reduceToNat, Int.reduceLE, Int.reduceLT, Int.reduceAdd, Int.reduceSub, Int.reduceMul, Int.reduceEq, Int.reduceNeg]
      by_cases h_1037 : x_1027.Cluster = x_1032.Cluster
      · rw [if_pos h_1037] at h
        have e_1038 : (x_1027.Cluster = x_1032.Cluster) = True := eq_true h_1037
        simp only [e_1026, e_1029, e_1030, e_1031, e_1034, e_1035, e_1036, e_1038, go_sem, reduceIte, reduceCtorEq, Nat.reduceEqDiff, Nat.reduceLT, Nat.reduceLeDiff, Nat.reduceAdd, Nat.reduceSub, Nat.reduceMul, Int.reduceToNat, Int.reduceLE, Int.reduceLT, Int.reduceAdd, Int.reduceSub, Int.reduceMul, Int.reduceEq, Int.reduceNeg]
        rw [← hQ]
        exact ⟨_, _, (Ref.std [0, 1, 2, 7, 8, 11, 12] [0] (by decide) low0 rfl (by first | rfl | simp only [go_sem, reduceIte, Nat.reduceEqDiff, Nat.reduceAdd])), (Nat.zero_le _), ih _ _ h hp⟩
      · rw [if_neg h_1037] at h
        have e_1038 : (x_1027.Cluster = x_1032.Cluster) = False := eq_false h_1037
        simp only [e_1026, e_1029, e_1030, e_1031, e_1034, e_1035, e_1036, e_1038, go_sem, reduceIte, reduceCtorEq, Nat.reduceEqDiff, Nat.reduceLT, Nat.reduceLeDiff, Nat.reduceAdd, Nat.reduceSub, Nat.reduceMul, Int.reduceToNat, Int.reduceLE, Int.reduceLT, Int.reduceAdd, Int.reduceSub, Int.reduceMul, Int.reduceEq, Int.reduceNeg]
        have g := Option.some.inj h
        subst g
        rw [← hQ]
        exact ⟨_, _, (Ref.std [0, 2, 7, 8, 11, 12] [0] (by decide) low0 rfl (by first | rfl | simp only [go_sem, reduceIte, Nat.reduceEqDiff, Nat.reduceAdd])), hp⟩
    · rw [if_neg h_1025] at h
      have e_1026 : (0 < i_1024) = False := eq_false h_1025
      simp only [e_1026, go_sem, reduceIte, reduceCtorEq, Nat.reduceEqDiff, Nat.reduceLT, Nat.reduceLeDiff, Nat.reduceAdd, Nat.reduceSub, Nat.reduceMul, Int.reduceToNat, Int.reduceLE, Int.reduceLT, Int.reduceAdd, Int.reduceSub, Int.reduceMul, Int.reduceEq, Int.reduceNeg]
      have g := Option.some.inj h
      subst g
      rw [← hQ]
      exact ⟨_, _, (Ref.std [0, 2, 7, 8, 11, 12] [0] (by decide) low0 rfl (by first | rfl | simp only [go_sem, reduceIte, Nat.reduceEqDiff, Nat.reduceAdd])), hp⟩
theorem buffer_Merge_L3_w (N : Nat) (l_0 : List TGlyph) (a_2 : Int) (y_1023 : Int) (y_2025 : Int) (y_1 : List TGlyph) (c_0 : Bool) {R : AExit → ATm → List AObj → Prop} : ∀ (n : Nat) (i_2026 : Int) (o : Int), buffer_Merge_L3 N l_0 a_2 y_1023 y_2025 y_1 n i_2026 = some o → (match o with | z_1 => R (.exit 4) ⟨101, [(7, .row 0 0 y_1.length), (8, .int .i64 y_1023), (11, .int .i64 y_2025), (12, .int .i64 z_1)], []⟩ [.mem 14 (List.map eTGlyph y_1) 32]) →
    ALp Go.Proofs.Try.prog 0 B16_3 ⟨101, [(0, .vec c_0 (List.map eTGlyph l_0)), (2, .int .i64 a_2), (7, .row 0 0 y_1.length), (8, .int .i64 y_1023), (11, .int .i64 y_2025), (12, .int .i64 i_2026)], []⟩ [.mem 14 (List.map eTGlyph y_1) 32] R := by
  intro n
  induction n with
  | zero =>
    intro i_2026 o h _
    have h0 : none = some o := h
    cases h0
  | succ n ih =>
    intro i_2026 o h hp
    rw [buffer_Merge_L3] at h
    refine ALp.round ?_
    generalize hQ : RoundQ _ _ _ _ = QQ
    simp only [B16_3, A16, go_sem, reduceIte, reduceCtorEq, Nat.reduceEqDiff, Nat.reduceLT, Nat.reduceLeDiff, Nat.reduceAdd, Nat.reduceSub, Nat.reduceMul, Int.reduceToNat, Int.reduceLE, Int.reduceLT, Int.reduceAdd, Int.reduceSub, Int.reduceMul, Int.reduceEq, Int.reduceNeg]
    by_cases h_2027 : i_2026 < (l_0.length : Int)
    · rw [if_pos h_2027] at h
      have e_2028 : (i_2026 < (l_0.length : Int)) = True := eq_true h_2027
      obtain ⟨x_2029, h_2030, h⟩ := bindS h
      have e_2031 : (List.map eTGlyph l_0)[(i_2026).toNat]? = some [.int .i64 x_2029.Id, .int .i64 x_2029.Cluster, .int .i64 x_2029.Mask, .int .i64 x_2029.Syl, .int .i32 x_2029.Code, .int .i64 x_2029.Cat, .int .i64 x_2029.Pos, .int .i64 x_2029.Key, .int .i64 x_2029.Lig, .int .i64 x_2029.Part, .int .i64 x_2029.X, .int .i64 x_2029.Y, .int .i64 x_2029.Wide, .int .i64 x_2029.High] := atI_map eTGlyph h_2030
      have e_2032 : ((0 : Int) ≤ i_2026) = True := eq_true (atI_some h_2030).1
      have e_2033 : ((i_2026 : Int) < (l_0.length : Int)) = True := eq_true (atI_lt h_2030)
      obtain ⟨x_2034, h_2035, h⟩ := bindS h
      have e_2036 : (List.map eTGlyph l_0)[(IntKind.i64.wrap (a_2 - 1)).toNat]? = some [.int .i64 x_2034.Id, .int .i64 x_2034.Cluster, .int .i64 x_2034.Mask, .int .i64 x_2034.Syl, .int .i32 x_2034.Code, .int .i64 x_2034.Cat, .int .i64 x_2034.Pos, .int .i64 x_2034.Key, .int .i64 x_2034.Lig, .int .i64 x_2034.Part, .int .i64 x_2034.X, .int .i64 x_2034.Y, .int .i64 x_2034.Wide, .int .i64 x_2034.High] := atI_map eTGlyph h_2035
      have e_2037 : ((0 : Int) ≤ IntKind.i64.wrap (a_2 - 1)) = True := eq_true (atI_some h_2035).1
      have e_2038 : ((IntKind.i64.wrap (a_2 - 1) : Int) < (l_0.length : Int)) = True := eq_true (atI_lt h_2035)
      simp only [e_2028, e_2031, e_2032, e_2033, e_2036, e_2037, e_2038, go_sem, reduceIte, reduceCtorEq, Nat.reduceEqDiff, Nat.reduceLT, Nat.reduceLeDiff, Nat.reduceAdd, Nat.reduceSub, Nat.reduceMul, Int.reduceToNat, Int.reduceLE, Int.reduceLT, Int.reduceAdd, Int.reduceSub, Int.reduceMul, Int.reduceEq, Int.reduceNeg]
      by_cases h_2039 : x_2029.Cluster = x_2034.Cluster
      · rw [if_pos h_2039] at h
        have e_2040 : (x_2029.Cluster = x_2034.Cluster) = True := eq_true h_2039
        simp only [e_2028, e_2031, e_2032, e_2033, e_2036, e_2037, e_2038, e_2040, go_sem, reduceIte, reduceCtorEq, Nat.reduceEqDiff, Nat.reduceLT, Nat.reduceLeDiff, Nat.reduceAdd, Nat.reduceSub, Nat.reduceMul, Int.reduceToNat, Int.reduceLE, Int.reduceLT, Int.reduceAdd, Int.reduceSub, Int.reduceMul, Int.reduceEq, Int.reduceNeg]
        rw [← hQ]
        exact ⟨_, _, (Ref.std [0, 2, 7, 8, 11, 12] [0] (by decide) low0 rfl (by first | rfl | simp only [go_sem, reduceIte, Nat.reduceEqDiff, Nat.reduceAdd])), (Nat.zero_le _), ih _ _ h hp⟩
      · rw [if_neg h_2039] at h
        have e_2040 : (x_2029.Cluster = x_2034.Cluster) = False := eq_false h_2039
        simp only [e_2028, e_2031, e_2032, e_2033, e_2036, e_2037, e_2038, e_2040, go_sem, reduceIte, reduceCtorEq, Nat.reduceEqDiff, Nat.reduceLT, Nat.reduceLeDiff, Nat.reduceAdd, Nat.reduceSub, Nat.reduceMul, Int.reduceToNat, Int.reduceLE, Int.reduceLT, Int.reduceAdd, Int.reduceSub, Int.reduceMul, Int.reduceEq, Int.reduceNeg]
        have g := Option.some.inj h
        subst g
        rw [← hQ]
        exact ⟨_, _, (Ref.std [7, 8, 11, 12] [0] (by decide) low0 rfl (by first | rfl | simp only [go_sem, reduceIte, Nat.reduceEqDiff, Nat.reduceAdd])), hp⟩
    · rw [if_neg h_2027] at h
      have e_2028 : (i_2026 < (l_0.length : Int)) = False := eq_false h_2027
      simp only [e_2028, go_sem, reduceIte, reduceCtorEq, Nat.reduceEqDiff, Nat.reduceLT, Nat.reduceLeDiff, Nat.reduceAdd, Nat.reduceSub, Nat.reduceMul, Int.reduceToNat, Int.reduceLE, Int.reduceLT, Int.reduceAdd, Int.reduceSub, Int.reduceMul, Int.reduceEq, Int.reduceNeg]
      have g := Option.some.inj h
      subst g
      rw [← hQ]
      exact ⟨_, _, (Ref.std [7, 8, 11, 12] [0] (by decide) low0 rfl (by first | rfl | simp only [go_sem, reduceIte, Nat.reduceEqDiff, Nat.reduceAdd])), hp⟩
theorem buffer_Merge_L4_w (N : Nat) (y_1023 : Int) (y_3027 : Int) {R : AExit → ATm → List AObj → Prop} : ∀ (n : Nat) (i_3028 : Int) (s_3029 : List TGlyph) (o : (List TGlyph)), buffer_Merge_L4 N y_1023 y_3027 n i_3028 s_3029 = some o → (match o with | z_1 => R (.exit 6) ⟨101, [(7, .row 0 0 z_1.length)], []⟩ [.mem 14 (List.map eTGlyph z_1) 32]) →
    ALp Go.Proofs.Try.prog 0 B16_4 ⟨101, [(7, .row 0 0 s_3029.length), (8, .int .i64 y_1023), (12, .int .i64 y_3027), (13, .int .i64 i_3028)], []⟩ [.mem 14 (List.map eTGlyph s_3029) 32] R := by
  intro n
  induction n with
  | zero =>
    intro i_3028 s_3029 o h _
    have h0 : none = some o := h
    cases h0
  | succ n ih =>
    intro i_3028 s_3029 o h hp
    rw [buffer_Merge_L4] at h
    refine ALp.round ?_
    generalize hQ : RoundQ _ _ _ _ = QQ
    simp only [B16_4, A16, go_sem, reduceIte, reduceCtorEq, Nat.reduceEqDiff, Nat.reduceLT, Nat.reduceLeDiff, Nat.reduceAdd, Nat.reduceSub, Nat.reduceMul, Int.reduceToNat, Int.reduceLE, Int.reduceLT, Int.reduceAdd, Int.reduceSub, Int.reduceMul, Int.reduceEq, Int.reduceNeg]
    by_cases h_3030 : i_3028 < y_3027
    · rw [if_pos h_3030] at h
      have e_3031 : (i_3028 < y_3027) = True := eq_true h_3030
      obtain ⟨x_3032, h_3033, h⟩ := bindS h
      have e_3034 : (List.map eTGlyph s_3029)[(i_3028).toNat]? = some [.int .i64 x_3032.Id, .int .i64 x_3032.Cluster, .int .i64 x_3032.Mask, .int .i64 x_3032.Syl, .int .i32 x_3032.Code, .int .i64 x_3032.Cat, .int .i64 x_3032.Pos, .int .i64 x_3032.Key, .int .i64 x_3032.Lig, .int .i64 x_3032.Part, .int .i64 x_3032.X, .int .i64 x_3032.Y, .int .i64 x_3032.Wide, .int .i64 x_3032.High] := atI_map eTGlyph h_3033
      have e_3035 : ((0 : Int) ≤ i_3028) = True := eq_true (atI_some h_3033).1
      have e_3036 : ((i_3028 : Int) < (s_3029.length : Int)) = True := eq_true (atI_lt h_3033)
      have e_3037 : (List.map eTGlyph s_3029).set (i_3028).toNat [.int .i64 x_3032.Id, .int .i64 y_1023, .int .i64 x_3032.Mask, .int .i64 x_3032.Syl, .int .i32 x_3032.Code, .int .i64 x_3032.Cat, .int .i64 x_3032.Pos, .int .i64 x_3032.Key, .int .i64 x_3032.Lig, .int .i64 x_3032.Part, .int .i64 x_3032.X, .int .i64 x_3032.Y, .int .i64 x_3032.Wide, .int .i64 x_3032.High] = List.map eTGlyph (List.set s_3029 (i_3028).toNat (TGlyph.mk x_3032.Id y_1023 x_3032.Mask x_3032.Syl x_3032.Code x_3032.Cat x_3032.Pos x_3032.Key x_3032.Lig x_3032.Part x_3032.X x_3032.Y x_3032.Wide x_3032.High)) := set_map s_3029 eTGlyph (i_3028).toNat (TGlyph.mk x_3032.Id y_1023 x_3032.Mask x_3032.Syl x_3032.Code x_3032.Cat x_3032.Pos x_3032.Key x_3032.Lig x_3032.Part x_3032.X x_3032.Y x_3032.Wide x_3032.High)
      simp only [e_3031, e_3034, e_3035, e_3036, e_3037, go_sem, reduceIte, reduceCtorEq, Nat.reduceEqDiff, Nat.reduceLT, Nat.reduceLeDiff, Nat.reduceAdd, Nat.reduceSub, Nat.reduceMul, Int.reduceToNat, Int.reduceLE, Int.reduceLT, Int.reduceAdd, Int.reduceSub, Int.reduceMul, Int.reduceEq, Int.reduceNeg]
      rw [← hQ]
      exact ⟨_, _, (Ref.std [7, 8, 12, 13] [0] (by decide) low0 (by first | rfl | simp only [go_sem, reduceIte, Nat.reduceEqDiff, Nat.reduceAdd]) (by first | rfl | simp only [go_sem, reduceIte, Nat.reduceEqDiff, Nat.reduceAdd])), (Nat.zero_le _), ih _ _ _ h hp⟩
    · rw [if_neg h_3030] at h
      have e_3031 : (i_3028 < y_3027) = False := eq_false h_3030
      simp only [e_3031, go_sem, reduceIte, reduceCtorEq, Nat.reduceEqDiff, Nat.reduceLT, Nat.reduceLeDiff, Nat.reduceAdd, Nat.reduceSub, Nat.reduceMul, Int.reduceToNat, Int.reduceLE, Int.reduceLT, Int.reduceAdd, Int.reduceSub, Int.reduceMul, Int.reduceEq, Int.reduceNeg]
      have g := Option.some.inj h
      subst g
      rw [← hQ]
      exact ⟨_, _, (Ref.std [7] [0] (by decide) low0 rfl (by first | rfl | simp only [go_sem, reduceIte, Nat.reduceEqDiff, Nat.reduceAdd])), hp⟩
theorem buffer_Merge_w (N : Nat) (l_0 : List TGlyph) (a_1 : Int) (a_2 : Int) (c_0 : Bool) (z_1 : List TGlyph) (h : buffer_Merge N l_0 a_1 a_2 = some z_1) :
    ACalls Go.Proofs.Try.prog 16 [.vec c_0 (List.map eTGlyph l_0), .int .i64 a_1, .int .i64 a_2] [] (fun e H => H = [.mem 14 (List.map eTGlyph z_1) 32] ∧ e = .ret (.row 0 0 z_1.length)) := by
  unfold buffer_Merge at h
  refine ACalls.goN Go.Proofs.Try.func16 n16 a16 Go.Proofs.Try.ntmps16 r16 (by simp) 0 rfl ?_
  generalize hQ : bodyA _ _ _ = QQ
  obtain ⟨y_1, h_2, h⟩ := bindS h
  simp only [A16, go_sem, reduceIte, reduceCtorEq, Nat.reduceEqDiff, Nat.reduceLT, Nat.reduceLeDiff, Nat.reduceAdd, Nat.reduceSub, Nat.reduceMul, Int.reduceToNat, Int.reduceLE, Int.reduceLT, Int.reduceAdd, Int.reduceSub, Int.reduceMul, Int.reduceEq, Int.reduceNeg]
  refine ACalls.use (slices_Clone_apiGlyphapiGlyph_w N _ _ _ h_2) [] (by decide) trivial rfl (v' := .row 0 0 y_1.length) (by first | rfl | simp only [go_sem, reduceIte, Nat.reduceEqDiff, Nat.reduceAdd]) (H' := [.mem 14 (List.map eTGlyph y_1) 32]) (by first | rfl | simp only [go_sem, reduceIte, Nat.reduceEqDiff, Nat.reduceAdd]) ?_
  refine CallK_go (Nat.zero_le _) ?_
  simp only [go_sem, reduceIte, reduceCtorEq, Nat.reduceEqDiff, Nat.reduceLT, Nat.reduceLeDiff, Nat.reduceAdd, Nat.reduceSub, Nat.reduceMul, Int.reduceToNat, Int.reduceLE, Int.reduceLT, Int.reduceAdd, Int.reduceSub, Int.reduceMul, Int.reduceEq, Int.reduceNeg]
  by_cases h_3 : a_1 < 0
  · rw [if_pos h_3] at h
    have e_4 : (a_1 < 0) = True := eq_true h_3
    simp only [e_4, go_sem, reduceIte, reduceCtorEq, Nat.reduceEqDiff, Nat.reduceLT, Nat.reduceLeDiff, Nat.reduceAdd, Nat.reduceSub, Nat.reduceMul, Int.reduceToNat, Int.reduceLE, Int.reduceLT, Int.reduceAdd, Int.reduceSub, Int.reduceMul, Int.reduceEq, Int.reduceNeg]
    have g_0 := Option.some.inj h
    subst g_0
    rw [← hQ]
    exact ⟨rfl, _, rfl, _, _, (RefV.std [0] (by decide) low0 rfl (by first | rfl | simp only [go_sem, reduceIte, Nat.reduceEqDiff, Nat.reduceAdd, e_4])), rfl, rfl⟩
  · rw [if_neg h_3] at h
    have e_4 : (a_1 < 0) = False := eq_false h_3
    simp only [e_4, go_sem, reduceIte, reduceCtorEq, Nat.reduceEqDiff, Nat.reduceLT, Nat.reduceLeDiff, Nat.reduceAdd, Nat.reduceSub, Nat.reduceMul, Int.reduceToNat, Int.reduceLE, Int.reduceLT, Int.reduceAdd, Int.reduceSub, Int.reduceMul, Int.reduceEq, Int.reduceNeg]
    by_cases h_5 : (l_0.length : Int) < a_2
    · rw [if_pos h_5] at h
      have e_6 : ((l_0.length : Int) < a_2) = True := eq_true h_5
      simp only [e_4, e_6, go_sem, reduceIte, reduceCtorEq, Nat.reduceEqDiff, Nat.reduceLT, Nat.reduceLeDiff, Nat.reduceAdd, Nat.reduceSub, Nat.reduceMul, Int.reduceToNat, Int.reduceLE, Int.reduceLT, Int.reduceAdd, Int.reduceSub, Int.reduceMul, Int.reduceEq, Int.reduceNeg]
      have g_0 := Option.some.inj h
      subst g_0
      rw [← hQ]
      exact ⟨rfl, _, rfl, _, _, (RefV.std [0] (by decide) low0 rfl (by first | rfl | simp only [go_sem, reduceIte, Nat.reduceEqDiff, Nat.reduceAdd, e_4, e_6])), rfl, rfl⟩
    · rw [if_neg h_5] at h
      have e_6 : ((l_0.length : Int) < a_2) = False := eq_false h_5
      simp only [e_4, e_6, go_sem, reduceIte, reduceCtorEq, Nat.reduceEqDiff, Nat.reduceLT, Nat.reduceLeDiff, Nat.reduceAdd, Nat.reduceSub, Nat.reduceMul, Int.reduceToNat, Int.reduceLE, Int.reduceLT, Int.reduceAdd, Int.reduceSub, Int.reduceMul, Int.reduceEq, Int.reduceNeg]
      by_cases h_7 : a_2 ≤ a_1
      · rw [if_pos h_7] at h
        have e_8 : (a_2 ≤ a_1) = True := eq_true h_7
        simp only [e_4, e_6, e_8, go_sem, reduceIte, reduceCtorEq, Nat.reduceEqDiff, Nat.reduceLT, Nat.reduceLeDiff, Nat.reduceAdd, Nat.reduceSub, Nat.reduceMul, Int.reduceToNat, Int.reduceLE, Int.reduceLT, Int.reduceAdd, Int.reduceSub, Int.reduceMul, Int.reduceEq, Int.reduceNeg]
        have g_0 := Option.some.inj h
        subst g_0
        rw [← hQ]
        exact ⟨rfl, _, rfl, _, _, (RefV.std [0] (by decide) low0 rfl (by first | rfl | simp only [go_sem, reduceIte, Nat.reduceEqDiff, Nat.reduceAdd, e_4, e_6, e_8])), rfl, rfl⟩
      · rw [if_neg h_7] at h
        have e_8 : (a_2 ≤ a_1) = False := eq_false h_7
        obtain ⟨x_9, h_10, h⟩ := bindS h
        have e_11 : (List.map eTGlyph l_0)[(a_1).toNat]? = some [.int .i64 x_9.Id, .int .i64 x_9.Cluster, .int .i64 x_9.Mask, .int .i64 x_9.Syl, .int .i32 x_9.Code, .int .i64 x_9.Cat, .int .i64 x_9.Pos, .int .i64 x_9.Key, .int .i64 x_9.Lig, .int .i64 x_9.Part, .int .i64 x_9.X, .int .i64 x_9.Y, .int .i64 x_9.Wide, .int .i64 x_9.High] := atI_map eTGlyph h_10
        have e_12 : ((0 : Int) ≤ a_1) = True := eq_true (atI_some h_10).1
        have e_13 : ((a_1 : Int) < (l_0.length : Int)) = True := eq_true (atI_lt h_10)
        obtain ⟨h_14, h⟩ := guardS h
        have e_15 : (0 ≤ a_1) = True := eq_true h_14
        obtain ⟨h_16, h⟩ := guardS h
        have e_17 : (a_1 ≤ a_2) = True := eq_true h_16
        obtain ⟨h_18, h⟩ := guardS h
        have e_19 : (a_2 ≤ (l_0.length : Int)) = True := eq_true h_18
        have e_20 : ((List.map eTGlyph l_0)).all (fun el => el.length == 14) = true := all_len _ eTGlyph 14 (fun _ => rfl)
        have e_21 : List.take ((a_2).toNat - (a_1).toNat) (List.drop (a_1).toNat (List.map eTGlyph l_0)) = List.map eTGlyph (slI l_0 a_1 a_2) := slI_map l_0 a_1 a_2 eTGlyph
        simp only [e_4, e_6, e_8, e_11, e_12, e_13, e_15, e_17, e_19, e_20, e_21, go_sem, reduceIte, reduceCtorEq, Nat.reduceEqDiff, Nat.reduceLT, Nat.reduceLeDiff, Nat.reduceAdd, Nat.reduceSub, Nat.reduceMul, Int.reduceToNat, Int.reduceLE, Int.reduceLT, Int.reduceAdd, Int.reduceSub, Int.reduceMul, Int.reduceEq, Int.reduceNeg]
        obtain ⟨y_1023, h_1022, h⟩ := bindS h
        refine ALp.ref (Ref.trans (Ref.std (l' := [(0, .vec c_0 (List.map eTGlyph l_0)), (1, .int .i64 a_1), (2, .int .i64 a_2), (7, .row 0 0 y_1.length), (8, .int .i64 x_9.Cluster), (38, .vec _ (List.map eTGlyph (slI l_0 a_1 a_2))), (39, .int .i64 (((slI l_0 a_1 a_2).length : Nat) : Int)), (40, .int .i64 0)]) (H' := [.mem 14 (List.map eTGlyph y_1) 32]) [0, 1, 2, 7, 8, 38, 39, 40] [0] (by decide) low0 rfl (by first | rfl | simp only [go_sem, reduceIte, Nat.reduceEqDiff, Nat.reduceAdd])) (Ref.weak (WkT.cons (Wk.refl _) (WkT.cons (Wk.refl _) (WkT.cons (Wk.refl _) (WkT.cons (Wk.refl _) (WkT.cons (Wk.refl _) (WkT.cons Wk.vec (WkT.cons (Wk.refl _) (WkT.cons (Wk.refl _) (WkT.nil))))))))) (WkH.cons (WkO.refl _) (WkH.nil)))) (Nat.zero_le _) (buffer_Merge_L1_w N _ _ _ _ c_0 N _ _ y_1023 h_1022 ?_)
        refine LoopK_go rfl (Nat.zero_le _) ?_
        simp only [e_4, e_6, e_8, e_11, e_12, e_13, e_15, e_17, e_19, e_20, e_21, go_sem, reduceIte, reduceCtorEq, Nat.reduceEqDiff, Nat.reduceLT, Nat.reduceLeDiff, Nat.reduceAdd, Nat.reduceSub, Nat.reduceMul, Int.reduceToNat, Int.reduceLE, Int.reduceLT, Int.reduceAdd, Int.reduceSub, Int.reduceMul, Int.reduceEq, Int.reduceNeg]
        obtain ⟨y_2025, h_2024, h⟩ := bindS h
        refine ALp.ref (Ref.std [0, 1, 2, 7, 8, 11, 12] [0] (by decide) low0 rfl (by first | rfl | simp only [go_sem, reduceIte, Nat.reduceEqDiff, Nat.reduceAdd])) (Nat.zero_le _) (buffer_Merge_L2_w N _ _ _ _ _ c_0 N _ y_2025 h_2024 ?_)
        refine LoopK_go rfl (Nat.zero_le _) ?_
        simp only [e_4, e_6, e_8, e_11, e_12, e_13, e_15, e_17, e_19, e_20, e_21, go_sem, reduceIte, reduceCtorEq, Nat.reduceEqDiff, Nat.reduceLT, Nat.reduceLeDiff, Nat.reduceAdd, Nat.reduceSub, Nat.reduceMul, Int.reduceToNat, Int.reduceLE, Int.reduceLT, Int.reduceAdd, Int.reduceSub, Int.reduceMul, Int.reduceEq, Int.reduceNeg]
        obtain ⟨y_3027, h_3026, h⟩ := bindS h
        refine ALp.ref (Ref.std [0, 2, 7, 8, 11, 12] [0] (by decide) low0 rfl (by first | rfl | simp only [go_sem, reduceIte, Nat.reduceEqDiff, Nat.reduceAdd])) (Nat.zero_le _) (buffer_Merge_L3_w N _ _ _ _ _ c_0 N _ y_3027 h_3026 ?_)
        refine LoopK_go rfl (Nat.zero_le _) ?_
        simp only [e_4, e_6, e_8, e_11, e_12, e_13, e_15, e_17, e_19, e_20, e_21, go_sem, reduceIte, reduceCtorEq, Nat.reduceEqDiff, Nat.reduceLT, Nat.reduceLeDiff, Nat.reduceAdd, Nat.reduceSub, Nat.reduceMul, Int.reduceToNat, Int.reduceLE, Int.reduceLT, Int.reduceAdd, Int.reduceSub, Int.reduceMul, Int.reduceEq, Int.reduceNeg]
        obtain ⟨y_4029, h_4028, h⟩ := bindS h
        refine ALp.ref (Ref.std [7, 8, 12, 13] [0] (by decide) low0 rfl (by first | rfl | simp only [go_sem, reduceIte, Nat.reduceEqDiff, Nat.reduceAdd])) (Nat.zero_le _) (buffer_Merge_L4_w N _ _ N _ _ y_4029 h_4028 ?_)
        refine LoopK_go rfl (Nat.zero_le _) ?_
        simp only [e_4, e_6, e_8, e_11, e_12, e_13, e_15, e_17, e_19, e_20, e_21, go_sem, reduceIte, reduceCtorEq, Nat.reduceEqDiff, Nat.reduceLT, Nat.reduceLeDiff, Nat.reduceAdd, Nat.reduceSub, Nat.reduceMul, Int.reduceToNat, Int.reduceLE, Int.reduceLT, Int.reduceAdd, Int.reduceSub, Int.reduceMul, Int.reduceEq, Int.reduceNeg]
        have g_0 := Option.some.inj h
        subst g_0
        rw [← hQ]
        exact ⟨rfl, _, rfl, _, _, (RefV.std [0] (by decide) low0 rfl (by first | rfl | simp only [go_sem, reduceIte, Nat.reduceEqDiff, Nat.reduceAdd, e_4, e_6, e_8])), rfl, rfl⟩
theorem buffer_Replace_L1_w (N : Nat) (y_19 : List TGlyph) (a_1 : Int) (a_2 : Int) (l_3 : List Int) (x_21 : TGlyph) (c_1 : Bool) {R : AExit → ATm → List AObj → Prop} : ∀ (n : Nat) (i_36 : Int) (s_37 : List TGlyph) (o : (List TGlyph)), buffer_Replace_L1 N y_19 a_1 a_2 l_3 x_21 n i_36 s_37 = some o → (match o with | z_1 => R (.exit 0) ⟨114, [(0, .vec false (List.map eTGlyph y_19)), (1, .int .i64 a_1), (2, .int .i64 a_2), (3, .vec c_1 (List.map eI64 l_3)), (9, .ptr 0 0 0), (10, .row 1 0 z_1.length)], []⟩ [.box [.int .i64 x_21.Id, .int .i64 x_21.Cluster, .int .i64 x_21.Mask, .int .i64 x_21.Syl, .int .i32 x_21.Code, .int .i64 x_21.Cat, .int .i64 x_21.Pos, .int .i64 x_21.Key, .int .i64 x_21.Lig, .int .i64 x_21.Part, .int .i64 x_21.X, .int .i64 x_21.Y, .int .i64 x_21.Wide, .int .i64 x_21.High] 32, .mem 14 (List.map eTGlyph z_1) 32]) →
    ALp Go.Proofs.Try.prog 0 B18_1 ⟨114, [(0, .vec false (List.map eTGlyph y_19)), (1, .int .i64 a_1), (2, .int .i64 a_2), (3, .vec c_1 (List.map eI64 l_3)), (9, .ptr 0 0 0), (10, .row 1 0 s_37.length), (55, .vec c_1 (List.map eI64 l_3)), (56, .int .i64 (l_3.length : Int)), (57, .int .i64 i_36)], []⟩ [.box [.int .i64 x_21.Id, .int .i64 x_21.Cluster, .int .i64 x_21.Mask, .int .i64 x_21.Syl, .int .i32 x_21.Code, .int .i64 x_21.Cat, .int .i64 x_21.Pos, .int .i64 x_21.Key, .int .i64 x_21.Lig, .int .i64 x_21.Part, .int .i64 x_21.X, .int .i64 x_21.Y, .int .i64 x_21.Wide, .int .i64 x_21.High] 32, .mem 14 (List.map eTGlyph s_37) 32] R := by
  intro n
  induction n with
  | zero =>
    intro i_36 s_37 o h _
    have h0 : none = some o := h
    cases h0
  | succ n ih =>
    intro i_36 s_37 o h hp
    rw [buffer_Replace_L1] at h
    refine ALp.round ?_
    generalize hQ : RoundQ _ _ _ _ = QQ
    simp only [B18_1, A18, go_sem, reduceIte, reduceCtorEq, Nat.reduceEqDiff, Nat.reduceLT, Nat.reduceLeDiff, Nat.reduceAdd, Nat.reduceSub, Nat.reduceMul, Int.reduceToNat, Int.reduceLE, Int.reduceLT, Int.reduceAdd, Int.reduceSub, Int.reduceMul, Int.reduceEq, Int.reduceNeg]
    by_cases h_38 : i_36 < (l_3.length : Int)
    · rw [if_pos h_38] at h
      have e_39 : (i_36 < (l_3.length : Int)) = True := eq_true h_38
      obtain ⟨x_40, h_41, h⟩ := bindS h
      have e_42 : (List.map eI64 l_3)[(i_36).toNat]? = some [.int .i64 x_40] := atI_map eI64 h_41
      have e_43 : ((0 : Int) ≤ i_36) = True := eq_true (atI_some h_41).1
      have e_44 : ((i_36 : Int) < (l_3.length : Int)) = True := eq_true (atI_lt h_41)
      have e_45 : List.take s_37.length (List.map eTGlyph s_37) = (List.map eTGlyph s_37) := List.take_of_length_le (by simp)
      have e_46 : (List.map eTGlyph s_37) ++ [[.int .i64 x_40, .int .i64 x_21.Cluster, .int .i64 x_21.Mask, .int .i64 x_21.Syl, .int .i32 x_21.Code, .int .i64 x_21.Cat, .int .i64 x_21.Pos, .int .i64 x_21.Key, .int .i64 x_21.Lig, .int .i64 x_21.Part, .int .i64 x_21.X, .int .i64 x_21.Y, .int .i64 x_21.Wide, .int .i64 x_21.High]] = (List.map eTGlyph (s_37 ++ [TGlyph.mk x_40 x_21.Cluster x_21.Mask x_21.Syl x_21.Code x_21.Cat x_21.Pos x_21.Key x_21.Lig x_21.Part x_21.X x_21.Y x_21.Wide x_21.High])) := app_map s_37 ([TGlyph.mk x_40 x_21.Cluster x_21.Mask x_21.Syl x_21.Code x_21.Cat x_21.Pos x_21.Key x_21.Lig x_21.Part x_21.X x_21.Y x_21.Wide x_21.High]) eTGlyph
      obtain ⟨h_47, h⟩ := guardS h
      have e_48 : ((s_37.length + 1) * 112 ≤ 140737488355328) = True := eq_true h_47
      simp only [e_39, e_42, e_43, e_44, e_45, e_46, e_48, go_sem, reduceIte, reduceCtorEq, Nat.reduceEqDiff, Nat.reduceLT, Nat.reduceLeDiff, Nat.reduceAdd, Nat.reduceSub, Nat.reduceMul, Int.reduceToNat, Int.reduceLE, Int.reduceLT, Int.reduceAdd, Int.reduceSub, Int.reduceMul, Int.reduceEq, Int.reduceNeg]
      rw [← hQ]
      exact ⟨_, _, (Ref.std [0, 1, 2, 3, 9, 10, 55, 56, 57] [0, 3] (by decide) low0 (by first | rfl | simp only [go_sem, reduceIte, Nat.reduceEqDiff, Nat.reduceAdd]) (by first | rfl | simp only [go_sem, reduceIte, Nat.reduceEqDiff, Nat.reduceAdd])), (Nat.zero_le _), ih _ _ _ h hp⟩
    · rw [if_neg h_38] at h
      have e_39 : (i_36 < (l_3.length : Int)) = False := eq_false h_38
      simp only [e_39, go_sem, reduceIte, reduceCtorEq, Nat.reduceEqDiff, Nat.reduceLT, Nat.reduceLeDiff, Nat.reduceAdd, Nat.reduceSub, Nat.reduceMul, Int.reduceToNat, Int.reduceLE, Int.reduceLT, Int.reduceAdd, Int.reduceSub, Int.reduceMul, Int.reduceEq, Int.reduceNeg]
      have g := Option.some.inj h
      subst g
      rw [← hQ]
      exact ⟨_, _, (Ref.std [0, 1, 2, 3, 9, 10] [0, 1] (by decide) low0 rfl (by first | rfl | simp only [go_sem, reduceIte, Nat.reduceEqDiff, Nat.reduceAdd])), hp⟩
theorem buffer_Replace_L2_w (N : Nat) (x_1055 : TGlyph) (x_21 : TGlyph) {R : AExit → ATm → List AObj → Prop} : ∀ (n : Nat) (i_1059 : Int) (s_1060 : List TGlyph) (o : (List TGlyph)), buffer_Replace_L2 N x_1055 x_21 n i_1059 s_1060 = some o → (match o with | z_1 => R (.exit 2) ⟨114, [(10, .row 0 0 z_1.length)], []⟩ [.mem 14 (List.map eTGlyph z_1) 32]) →
    ALp Go.Proofs.Try.prog 0 B18_2 ⟨114, [(9, .ptr 0 0 0), (10, .row 1 0 s_1060.length), (14, .int .i64 x_1055.Cluster), (15, .int .i64 i_1059)], []⟩ [.box [.int .i64 x_21.Id, .int .i64 x_21.Cluster, .int .i64 x_21.Mask, .int .i64 x_21.Syl, .int .i32 x_21.Code, .int .i64 x_21.Cat, .int .i64 x_21.Pos, .int .i64 x_21.Key, .int .i64 x_21.Lig, .int .i64 x_21.Part, .int .i64 x_21.X, .int .i64 x_21.Y, .int .i64 x_21.Wide, .int .i64 x_21.High] 32, .mem 14 (List.map eTGlyph s_1060) 32] R := by
  intro n
  induction n with
  | zero =>
    intro i_1059 s_1060 o h _
    have h0 : none = some o := h
    cases h0
  | succ n ih =>
    intro i_1059 s_1060 o h hp
    rw [buffer_Replace_L2] at h
    refine ALp.round ?_
    generalize hQ : RoundQ _ _ _ _ = QQ
    simp only [B18_2, A18, go_sem, reduceIte, reduceCtorEq, Nat.reduceEqDiff, Nat.reduceLT, Nat.reduceLeDiff, Nat.reduceAdd, Nat.reduceSub, Nat.reduceMul, Int.reduceToNat, Int.reduceLE, Int.reduceLT, Int.reduceAdd, Int.reduceSub, Int.reduceMul, Int.reduceEq, Int.reduceNeg]
    by_cases h_1061 : i_1059 < (s_1060.length : Int)
    · rw [if_pos h_1061] at h
      have e_1062 : (i_1059 < (s_1060.length : Int)) = True := eq_true h_1061
      obtain ⟨x_1063, h_1064, h⟩ := bindS h
      have e_1065 : (List.map eTGlyph s_1060)[(i_1059).toNat]? = some [.int .i64 x_1063.Id, .int .i64 x_1063.Cluster, .int .i64 x_1063.Mask, .int .i64 x_1063.Syl, .int .i32 x_1063.Code, .int .i64 x_1063.Cat, .int .i64 x_1063.Pos, .int .i64 x_1063.Key, .int .i64 x_1063.Lig, .int .i64 x_1063.Part, .int .i64 x_1063.X, .int .i64 x_1063.Y, .int .i64 x_1063.Wide, .int .i64 x_1063.High] := atI_map eTGlyph h_1064
      have e_1066 : ((0 : Int) ≤ i_1059) = True := eq_true (atI_some h_1064).1
      have e_1067 : ((i_1059 : Int) < (s_1060.length : Int)) = True := eq_true (atI_lt h_1064)
      simp only [e_1062, e_1065, e_1066, e_1067, go_sem, reduceIte, reduceCtorEq, Nat.reduceEqDiff, Nat.reduceLT, Nat.reduceLeDiff, Nat.reduceAdd, Nat.reduceSub, Nat.reduceMul, Int.reduceToNat, Int.reduceLE, Int.reduceLT, Int.reduceAdd, Int.reduceSub, Int.reduceMul, Int.reduceEq, Int.reduceNeg]
      by_cases h_1068 : x_1063.Cluster = x_1055.Cluster
      · rw [if_pos h_1068] at h
        have e_1069 : (x_1063.Cluster = x_1055.Cluster) = True := eq_true h_1068
        have e_1070 : (List.map eTGlyph s_1060).set (i_1059).toNat [.int .i64 x_1063.Id, .int .i64 x_21.Cluster, .int .i64 x_1063.Mask, .int .i64 x_1063.Syl, .int .i32 x_1063.Code, .int .i64 x_1063.Cat, .int .i64 x_1063.Pos, .int .i64 x_1063.Key, .int .i64 x_1063.Lig, .int .i64 x_1063.Part, .int .i64 x_1063.X, .int .i64 x_1063.Y, .int .i64 x_1063.Wide, .int .i64 x_1063.High] = List.map eTGlyph (List.set s_1060 (i_1059).toNat (TGlyph.mk x_1063.Id x_21.Cluster x_1063.Mask x_1063.Syl x_1063.Code x_1063.Cat x_1063.Pos x_1063.Key x_1063.Lig x_1063.Part x_1063.X x_1063.Y x_1063.Wide x_1063.High)) := set_map s_1060 eTGlyph (i_1059).toNat (TGlyph.mk x_1063.Id x_21.Cluster x_1063.Mask x_1063.Syl x_1063.Code x_1063.Cat x_1063.Pos x_1063.Key x_1063.Lig x_1063.Part x_1063.X x_1063.Y x_1063.Wide x_1063.High)
        simp only [e_1062, e_1065, e_1066, e_1067, e_1069, e_1070, go_sem, reduceIte, reduceCtorEq, Nat.reduceEqDiff, Nat.reduceLT, Nat.reduceLeDiff, Nat.reduceAdd, Nat.reduceSub, Nat.reduceMul, Int.reduceToNat, Int.reduceLE, Int.reduceLT, Int.reduceAdd, Int.reduceSub, Int.reduceMul, Int.reduceEq, Int.reduceNeg]
        rw [← hQ]
        exact ⟨_, _, (Ref.std [9, 10, 14, 15] [0, 1] (by decide) low0 (by first | rfl | simp only [go_sem, reduceIte, Nat.reduceEqDiff, Nat.reduceAdd]) (by first | rfl | simp only [go_sem, reduceIte, Nat.reduceEqDiff, Nat.reduceAdd])), (Nat.zero_le _), ih _ _ _ h hp⟩
      · rw [if_neg h_1068] at h
        have e_1069 : (x_1063.Cluster = x_1055.Cluster) = False := eq_false h_1068
        simp only [e_1062, e_1065, e_1066, e_1067, e_1069, go_sem, reduceIte, reduceCtorEq, Nat.reduceEqDiff, Nat.reduceLT, Nat.reduceLeDiff, Nat.reduceAdd, Nat.reduceSub, Nat.reduceMul, Int.reduceToNat, Int.reduceLE, Int.reduceLT, Int.reduceAdd, Int.reduceSub, Int.reduceMul, Int.reduceEq, Int.reduceNeg]
        have g := Option.some.inj h
        subst g
        rw [← hQ]
        exact ⟨_, _, (Ref.std [10] [1] (by decide) low0 rfl (by first | rfl | simp only [go_sem, reduceIte, Nat.reduceEqDiff, Nat.reduceAdd])), hp⟩
    · rw [if_neg h_1061] at h
      have e_1062 : (i_1059 < (s_1060.length : Int)) = False := eq_false h_1061
      simp only [e_1062, go_sem, reduceIte, reduceCtorEq, Nat.reduceEqDiff, Nat.reduceLT, Nat.reduceLeDiff, Nat.reduceAdd, Nat.reduceSub, Nat.reduceMul, Int.reduceToNat, Int.reduceLE, Int.reduceLT, Int.reduceAdd, Int.reduceSub, Int.reduceMul, Int.reduceEq, Int.reduceNeg]
      have g := Option.some.inj h
      subst g
      rw [← hQ]
      exact ⟨_, _, (Ref.std [10] [1] (by decide) low0 rfl (by first | rfl | simp only [go_sem, reduceIte, Nat.reduceEqDiff, Nat.reduceAdd])), hp⟩
theorem buffer_Replace_L3_w (N : Nat) (l_0 : List TGlyph) (a_1 : Int) (a_2 : Int) (l_3 : List Int) (x_2061 : TGlyph) (c_0 : Bool) (c_1 : Bool) {R : AExit → ATm → List AObj → Prop} : ∀ (n : Nat) (i_2076 : Int) (s_2077 : List TGlyph) (o : (List TGlyph)), buffer_Replace_L3 N l_0 a_1 a_2 l_3 x_2061 n i_2076 s_2077 = some o → (match o with | z_1 => R (.exit 0) ⟨114, [(0, .vec c_0 (List.map eTGlyph l_0)), (1, .int .i64 a_1), (2, .int .i64 a_2), (3, .vec c_1 (List.map eI64 l_3)), (9, .ptr 0 0 0), (10, .row 1 0 z_1.length)], []⟩ [.box [.int .i64 x_2061.Id, .int .i64 x_2061.Cluster, .int .i64 x_2061.Mask, .int .i64 x_2061.Syl, .int .i32 x_2061.Code, .int .i64 x_2061.Cat, .int .i64 x_2061.Pos, .int .i64 x_2061.Key, .int .i64 x_2061.Lig, .int .i64 x_2061.Part, .int .i64 x_2061.X, .int .i64 x_2061.Y, .int .i64 x_2061.Wide, .int .i64 x_2061.High] 32, .mem 14 (List.map eTGlyph z_1) 32]) →
    ALp Go.Proofs.Try.prog 0 B18_1 ⟨114, [(0, .vec c_0 (List.map eTGlyph l_0)), (1, .int .i64 a_1), (2, .int .i64 a_2), (3, .vec c_1 (List.map eI64 l_3)), (9, .ptr 0 0 0), (10, .row 1 0 s_2077.length), (55, .vec c_1 (List.map eI64 l_3)), (56, .int .i64 (l_3.length : Int)), (57, .int .i64 i_2076)], []⟩ [.box [.int .i64 x_2061.Id, .int .i64 x_2061.Cluster, .int .i64 x_2061.Mask, .int .i64 x_2061.Syl, .int .i32 x_2061.Code, .int .i64 x_2061.Cat, .int .i64 x_2061.Pos, .int .i64 x_2061.Key, .int .i64 x_2061.Lig, .int .i64 x_2061.Part, .int .i64 x_2061.X, .int .i64 x_2061.Y, .int .i64 x_2061.Wide, .int .i64 x_2061.High] 32, .mem 14 (List.map eTGlyph s_2077) 32] R := by
  intro n
  induction n with
  | zero =>
    intro i_2076 s_2077 o h _
    have h0 : none = some o := h
    cases h0
  | succ n ih =>
    intro i_2076 s_2077 o h hp
    rw [buffer_Replace_L3] at h
    refine ALp.round ?_
    generalize hQ : RoundQ _ _ _ _ = QQ
    simp only [B18_1, A18, go_sem, reduceIte, reduceCtorEq, Nat.reduceEqDiff, Nat.reduceLT, Nat.reduceLeDiff, Nat.reduceAdd, Nat.reduceSub, Nat.reduceMul, Int.reduceToNat, Int.reduceLE, Int.reduceLT, Int.reduceAdd, Int.reduceSub, Int.reduceMul, Int.reduceEq, Int.reduceNeg]
    by_cases h_2078 : i_2076 < (l_3.length : Int)
    · rw [if_pos h_2078] at h
      have e_2079 : (i_2076 < (l_3.length : Int)) = True := eq_true h_2078
      obtain ⟨x_2080, h_2081, h⟩ := bindS h
      have e_2082 : (List.map eI64 l_3)[(i_2076).toNat]? = some [.int .i64 x_2080] := atI_map eI64 h_2081
      have e_2083 : ((0 : Int) ≤ i_2076) = True := eq_true (atI_some h_2081).1
      have e_2084 : ((i_2076 : Int) < (l_3.length : Int)) = True := eq_true (atI_lt h_2081)
      have e_2085 : List.take s_2077.length (List.map eTGlyph s_2077) = (List.map eTGlyph s_2077) := List.take_of_length_le (by simp)
      have e_2086 : (List.map eTGlyph s_2077) ++ [[.int .i64 x_2080, .int .i64 x_2061.Cluster, .int .i64 x_2061.Mask, .int .i64 x_2061.Syl, .int .i32 x_2061.Code, .int .i64 x_2061.Cat, .int .i64 x_2061.Pos, .int .i64 x_2061.Key, .int .i64 x_2061.Lig, .int .i64 x_2061.Part, .int .i64 x_2061.X, .int .i64 x_2061.Y, .int .i64 x_2061.Wide, .int .i64 x_2061.High]] = (List.map eTGlyph (s_2077 ++ [TGlyph.mk x_2080 x_2061.Cluster x_2061.Mask x_2061.Syl x_2061.Code x_2061.Cat x_2061.Pos x_2061.Key x_2061.Lig x_2061.Part x_2061.X x_2061.Y x_2061.Wide x_2061.High])) := app_map s_2077 ([TGlyph.mk x_2080 x_2061.Cluster x_2061.Mask x_2061.Syl x_2061.Code x_2061.Cat x_2061.Pos x_2061.Key x_2061.Lig x_2061.Part x_2061.X x_2061.Y x_2061.Wide x_2061.High]) eTGlyph
      obtain ⟨h_2087, h⟩ := guardS h
      have e_2088 : ((s_2077.length + 1) * 112 ≤ 140737488355328) = True := eq_true h_2087
      simp only [e_2079, e_2082, e_2083, e_2084, e_2085, e_2086, e_2088, go_sem, reduceIte, reduceCtorEq, Nat.reduceEqDiff, Nat.reduceLT, Nat.reduceLeDiff, Nat.reduceAdd, Nat.reduceSub, Nat.reduceMul, Int.reduceToNat, Int.reduceLE, Int.reduceLT, Int.reduceAdd, Int.reduceSub, Int.reduceMul, Int.reduceEq, Int.reduceNeg]
      rw [← hQ]
      exact ⟨_, _, (Ref.std [0, 1, 2, 3, 9, 10, 55, 56, 57] [0, 3] (by decide) low0 (by first | rfl | simp only [go_sem, reduceIte, Nat.reduceEqDiff, Nat.reduceAdd]) (by first | rfl | simp only [go_sem, reduceIte, Nat.reduceEqDiff, Nat.reduceAdd])), (Nat.zero_le _), ih _ _ _ h hp⟩
    · rw [if_neg h_2078] at h
      have e_2079 : (i_2076 < (l_3.length : Int)) = False := eq_false h_2078
      simp only [e_2079, go_sem, reduceIte, reduceCtorEq, Nat.reduceEqDiff, Nat.reduceLT, Nat.reduceLeDiff, Nat.reduceAdd, Nat.reduceSub, Nat.reduceMul, Int.reduceToNat, Int.reduceLE, Int.reduceLT, Int.reduceAdd, Int.reduceSub, Int.reduceMul, Int.reduceEq, Int.reduceNeg]
      have g := Option.some.inj h
      subst g
      rw [← hQ]
      exact ⟨_, _, (Ref.std [0, 1, 2, 3, 9, 10] [0, 1] (by decide) low0 rfl (by first | rfl | simp only [go_sem, reduceIte, Nat.reduceEqDiff, Nat.reduceAdd])), hp⟩
theorem buffer_Replace_w (N : Nat) (l_0 : List TGlyph) (a_1 : Int) (a_2 : Int) (l_3 : List Int) (c_0 : Bool) (c_1 : Bool) (z_1 : List TGlyph) (h : buffer_Replace N l_0 a_1 a_2 l_3 = some z_1) :
    ACalls Go.Proofs.Try.prog 18 [.vec c_0 (List.map eTGlyph l_0), .int .i64 a_1, .int .i64 a_2, .vec c_1 (List.map eI64 l_3)] [] (fun e H => H = [] ∧ e = .ret (.vec false (List.map eTGlyph z_1))) := by
  unfold buffer_Replace at h
  refine ACalls.goN Go.Proofs.Try.func18 n18 a18 Go.Proofs.Try.ntmps18 r18 (by simp) 0 rfl ?_
  generalize hQ : bodyA _ _ _ = QQ
  simp only [A18, go_sem, reduceIte, reduceCtorEq, Nat.reduceEqDiff, Nat.reduceLT, Nat.reduceLeDiff, Nat.reduceAdd, Nat.reduceSub, Nat.reduceMul, Int.reduceToNat, Int.reduceLE, Int.reduceLT, Int.reduceAdd, Int.reduceSub, Int.reduceMul, Int.reduceEq, Int.reduceNeg]
  by_cases h_1 : a_1 < 0
  · rw [if_pos h_1] at h
    have e_2 : (a_1 < 0) = True := eq_true h_1
    obtain ⟨y_3, h_4, h⟩ := bindS h
    simp only [e_2, go_sem, reduceIte, reduceCtorEq, Nat.reduceEqDiff, Nat.reduceLT, Nat.reduceLeDiff, Nat.reduceAdd, Nat.reduceSub, Nat.reduceMul, Int.reduceToNat, Int.reduceLE, Int.reduceLT, Int.reduceAdd, Int.reduceSub, Int.reduceMul, Int.reduceEq, Int.reduceNeg]
    refine ACalls.use (slices_Clone_apiGlyphapiGlyph_w N _ _ _ h_4) [] (by decide) trivial rfl (v' := .row 0 0 y_3.length) (by first | rfl | simp only [go_sem, reduceIte, Nat.reduceEqDiff, Nat.reduceAdd, e_2]) (H' := [.mem 14 (List.map eTGlyph y_3) 32]) (by first | rfl | simp only [go_sem, reduceIte, Nat.reduceEqDiff, Nat.reduceAdd, e_2]) ?_
    refine CallK_go (Nat.zero_le _) ?_
    simp only [e_2, go_sem, reduceIte, reduceCtorEq, Nat.reduceEqDiff, Nat.reduceLT, Nat.reduceLeDiff, Nat.reduceAdd, Nat.reduceSub, Nat.reduceMul, Int.reduceToNat, Int.reduceLE, Int.reduceLT, Int.reduceAdd, Int.reduceSub, Int.reduceMul, Int.reduceEq, Int.reduceNeg]
    have g_0 := Option.some.inj h
    subst g_0
    rw [← hQ]
    exact ⟨rfl, _, rfl, _, _, (RefV.trans (RefV.frz (Nat.zero_le _) (id := 0) rfl (pures_map y_3 eTGlyph (fun _ => rfl))) (RefV.out (by first | rfl | simp only [go_sem, reduceIte, Nat.reduceEqDiff, Nat.reduceAdd, e_2]))), rfl, rfl⟩
  · rw [if_neg h_1] at h
    have e_2 : (a_1 < 0) = False := eq_false h_1
    simp only [e_2, go_sem, reduceIte, reduceCtorEq, Nat.reduceEqDiff, Nat.reduceLT, Nat.reduceLeDiff, Nat.reduceAdd, Nat.reduceSub, Nat.reduceMul, Int.reduceToNat, Int.reduceLE, Int.reduceLT, Int.reduceAdd, Int.reduceSub, Int.reduceMul, Int.reduceEq, Int.reduceNeg]
    by_cases h_5 : a_2 < 1
    · rw [if_pos h_5] at h
      have e_6 : (a_2 < 1) = True := eq_true h_5
      obtain ⟨y_7, h_8, h⟩ := bindS h
      simp only [e_2, e_6, go_sem, reduceIte, reduceCtorEq, Nat.reduceEqDiff, Nat.reduceLT, Nat.reduceLeDiff, Nat.reduceAdd, Nat.reduceSub, Nat.reduceMul, Int.reduceToNat, Int.reduceLE, Int.reduceLT, Int.reduceAdd, Int.reduceSub, Int.reduceMul, Int.reduceEq, Int.reduceNeg]
      refine ACalls.use (slices_Clone_apiGlyphapiGlyph_w N _ _ _ h_8) [] (by decide) trivial rfl (v' := .row 0 0 y_7.length) (by first | rfl | simp only [go_sem, reduceIte, Nat.reduceEqDiff, Nat.reduceAdd, e_2, e_6]) (H' := [.mem 14 (List.map eTGlyph y_7) 32]) (by first | rfl | simp only [go_sem, reduceIte, Nat.reduceEqDiff, Nat.reduceAdd, e_2, e_6]) ?_
      refine CallK_go (Nat.zero_le _) ?_
      simp only [e_2, e_6, go_sem, reduceIte, reduceCtorEq, Nat.reduceEqDiff, Nat.reduceLT, Nat.reduceLeDiff, Nat.reduceAdd, Nat.reduceSub, Nat.reduceMul, Int.reduceToNat, Int.reduceLE, Int.reduceLT, Int.reduceAdd, Int.reduceSub, Int.reduceMul, Int.reduceEq, Int.reduceNeg]
      have g_0 := Option.some.inj h
      subst g_0
      rw [← hQ]
      exact ⟨rfl, _, rfl, _, _, (RefV.trans (RefV.frz (Nat.zero_le _) (id := 0) rfl (pures_map y_7 eTGlyph (fun _ => rfl))) (RefV.out (by first | rfl | simp only [go_sem, reduceIte, Nat.reduceEqDiff, Nat.reduceAdd, e_2, e_6]))), rfl, rfl⟩
    · rw [if_neg h_5] at h
      have e_6 : (a_2 < 1) = False := eq_false h_5
      simp only [e_2, e_6, go_sem, reduceIte, reduceCtorEq, Nat.reduceEqDiff, Nat.reduceLT, Nat.reduceLeDiff, Nat.reduceAdd, Nat.reduceSub, Nat.reduceMul, Int.reduceToNat, Int.reduceLE, Int.reduceLT, Int.reduceAdd, Int.reduceSub, Int.reduceMul, Int.reduceEq, Int.reduceNeg]
      by_cases h_9 : (l_0.length : Int) < a_2
      · rw [if_pos h_9] at h
        have e_10 : ((l_0.length : Int) < a_2) = True := eq_true h_9
        obtain ⟨y_11, h_12, h⟩ := bindS h
        simp only [e_2, e_6, e_10, go_sem, reduceIte, reduceCtorEq, Nat.reduceEqDiff, Nat.reduceLT, Nat.reduceLeDiff, Nat.reduceAdd, Nat.reduceSub, Nat.reduceMul, Int.reduceToNat, Int.reduceLE, Int.reduceLT, Int.reduceAdd, Int.reduceSub, Int.reduceMul, Int.reduceEq, Int.reduceNeg]
        refine ACalls.use (slices_Clone_apiGlyphapiGlyph_w N _ _ _ h_12) [] (by decide) trivial rfl (v' := .row 0 0 y_11.length) (by first | rfl | simp only [go_sem, reduceIte, Nat.reduceEqDiff, Nat.reduceAdd, e_2, e_6, e_10]) (H' := [.mem 14 (List.map eTGlyph y_11) 32]) (by first | rfl | simp only [go_sem, reduceIte, Nat.reduceEqDiff, Nat.reduceAdd, e_2, e_6, e_10]) ?_
        refine CallK_go (Nat.zero_le _) ?_
        simp only [e_2, e_6, e_10, go_sem, reduceIte, reduceCtorEq, Nat.reduceEqDiff, Nat.reduceLT, Nat.reduceLeDiff, Nat.reduceAdd, Nat.reduceSub, Nat.reduceMul, Int.reduceToNat, Int.reduceLE, Int.reduceLT, Int.reduceAdd, Int.reduceSub, Int.reduceMul, Int.reduceEq, Int.reduceNeg]
        have g_0 := Option.some.inj h
        subst g_0
        rw [← hQ]
        exact ⟨rfl, _, rfl, _, _, (RefV.trans (RefV.frz (Nat.zero_le _) (id := 0) rfl (pures_map y_11 eTGlyph (fun _ => rfl))) (RefV.out (by first | rfl | simp only [go_sem, reduceIte, Nat.reduceEqDiff, Nat.reduceAdd, e_2, e_6, e_10]))), rfl, rfl⟩
      · rw [if_neg h_9] at h
        have e_10 : ((l_0.length : Int) < a_2) = False := eq_false h_9
        simp only [e_2, e_6, e_10, go_sem, reduceIte, reduceCtorEq, Nat.reduceEqDiff, Nat.reduceLT, Nat.reduceLeDiff, Nat.reduceAdd, Nat.reduceSub, Nat.reduceMul, Int.reduceToNat, Int.reduceLE, Int.reduceLT, Int.reduceAdd, Int.reduceSub, Int.reduceMul, Int.reduceEq, Int.reduceNeg]
        by_cases h_13 : IntKind.i64.wrap ((l_0.length : Int) - a_2) < a_1
        · rw [if_pos h_13] at h
          have e_14 : (IntKind.i64.wrap ((l_0.length : Int) - a_2) < a_1) = True := eq_true h_13
          obtain ⟨y_15, h_16, h⟩ := bindS h
          simp only [e_2, e_6, e_10, e_14, go_sem, reduceIte, reduceCtorEq, Nat.reduceEqDiff, Nat.reduceLT, Nat.reduceLeDiff, Nat.reduceAdd, Nat.reduceSub, Nat.reduceMul, Int.reduceToNat, Int.reduceLE, Int.reduceLT, Int.reduceAdd, Int.reduceSub, Int.reduceMul, Int.reduceEq, Int.reduceNeg]
          refine ACalls.use (slices_Clone_apiGlyphapiGlyph_w N _ _ _ h_16) [] (by decide) trivial rfl (v' := .row 0 0 y_15.length) (by first | rfl | simp only [go_sem, reduceIte, Nat.reduceEqDiff, Nat.reduceAdd, e_2, e_6, e_10, e_14]) (H' := [.mem 14 (List.map eTGlyph y_15) 32]) (by first | rfl | simp only [go_sem, reduceIte, Nat.reduceEqDiff, Nat.reduceAdd, e_2, e_6, e_10, e_14]) ?_
          refine CallK_go (Nat.zero_le _) ?_
          simp only [e_2, e_6, e_10, e_14, go_sem, reduceIte, reduceCtorEq, Nat.reduceEqDiff, Nat.reduceLT, Nat.reduceLeDiff, Nat.reduceAdd, Nat.reduceSub, Nat.reduceMul, Int.reduceToNat, Int.reduceLE, Int.reduceLT, Int.reduceAdd, Int.reduceSub, Int.reduceMul, Int.reduceEq, Int.reduceNeg]
          have g_0 := Option.some.inj h
          subst g_0
          rw [← hQ]
          exact ⟨rfl, _, rfl, _, _, (RefV.trans (RefV.frz (Nat.zero_le _) (id := 0) rfl (pures_map y_15 eTGlyph (fun _ => rfl))) (RefV.out (by first | rfl | simp only [go_sem, reduceIte, Nat.reduceEqDiff, Nat.reduceAdd, e_2, e_6, e_10, e_14]))), rfl, rfl⟩
        · rw [if_neg h_13] at h
          have e_14 : (IntKind.i64.wrap ((l_0.length : Int) - a_2) < a_1) = False := eq_false h_13
          simp only [e_2, e_6, e_10, e_14, go_sem, reduceIte, reduceCtorEq, Nat.reduceEqDiff, Nat.reduceLT, Nat.reduceLeDiff, Nat.reduceAdd, Nat.reduceSub, Nat.reduceMul, Int.reduceToNat, Int.reduceLE, Int.reduceLT, Int.reduceAdd, Int.reduceSub, Int.reduceMul, Int.reduceEq, Int.reduceNeg]
          by_cases h_17 : 1 < a_2
          · rw [if_pos h_17] at h
            have e_18 : (1 < a_2) = True := eq_true h_17
            obtain ⟨y_19, h_20, h⟩ := bindS h
            simp only [e_2, e_6, e_10, e_14, e_18, go_sem, reduceIte, reduceCtorEq, Nat.reduceEqDiff, Nat.reduceLT, Nat.reduceLeDiff, Nat.reduceAdd, Nat.reduceSub, Nat.reduceMul, Int.reduceToNat, Int.reduceLE, Int.reduceLT, Int.reduceAdd, Int.reduceSub, Int.reduceMul, Int.reduceEq, Int.reduceNeg]
            refine ACalls.use (buffer_Merge_w N _ _ _ _ _ h_20) [] (by decide) trivial rfl (v' := .row 0 0 y_19.length) (by first | rfl | simp only [go_sem, reduceIte, Nat.reduceEqDiff, Nat.reduceAdd, e_2, e_6, e_10, e_14, e_18]) (H' := [.mem 14 (List.map eTGlyph y_19) 32]) (by first | rfl | simp only [go_sem, reduceIte, Nat.reduceEqDiff, Nat.reduceAdd, e_2, e_6, e_10, e_14, e_18]) ?_
            refine CallK_ref (ta1 := ⟨114, [(1, .int .i64 a_1), (2, .int .i64 a_2), (3, .vec c_1 (List.map eI64 l_3)), (45, .vec false (List.map eTGlyph y_19))], []⟩) (H1 := []) (Ref.trans (Ref.frz (Nat.zero_le _) (id := 0) rfl (pures_map y_19 eTGlyph (fun _ => rfl))) (Ref.out [1, 2, 3, 45] (by first | rfl | simp only [go_sem, reduceIte, Nat.reduceEqDiff, Nat.reduceAdd]))) (Nat.zero_le _) ?_
            obtain ⟨x_21, h_22, h⟩ := bindS h
            have e_23 : (List.map eTGlyph y_19)[(a_1).toNat]? = some [.int .i64 x_21.Id, .int .i64 x_21.Cluster, .int .i64 x_21.Mask, .int .i64 x_21.Syl, .int .i32 x_21.Code, .int .i64 x_21.Cat, .int .i64 x_21.Pos, .int .i64 x_21.Key, .int .i64 x_21.Lig, .int .i64 x_21.Part, .int .i64 x_21.X, .int .i64 x_21.Y, .int .i64 x_21.Wide, .int .i64 x_21.High] := atI_map eTGlyph h_22
            have e_24 : ((0 : Int) ≤ a_1) = True := eq_true (atI_some h_22).1
            have e_25 : ((a_1 : Int) < (y_19.length : Int)) = True := eq_true (atI_lt h_22)
            obtain ⟨h_26, h⟩ := guardS h
            have e_27 : (0 ≤ a_1) = True := eq_true h_26
            obtain ⟨h_28, h⟩ := guardS h
            have e_29 : (a_1 ≤ (y_19.length : Int)) = True := eq_true h_28
            have e_30 : ((List.map eTGlyph y_19)).all (fun el => el.length == 14) = true := all_len _ eTGlyph 14 (fun _ => rfl)
            have e_31 : List.take ((a_1).toNat) (List.map eTGlyph y_19) = List.map eTGlyph (slI y_19 0 a_1) := slI_map y_19 0 a_1 eTGlyph
            have e_32 : (decide ((a_1 : Int) = a_1)) = true := decide_eq_true rfl
            have e_33 : ((a_1 : Int) ≤ a_1) = True := eq_true (Int.le_refl _)
            obtain ⟨y_34, h_35, h⟩ := bindS h
            simp only [e_2, e_6, e_10, e_14, e_18, e_23, e_24, e_25, e_27, e_29, e_30, e_31, e_32, e_33, go_sem, reduceIte, reduceCtorEq, Nat.reduceEqDiff, Nat.reduceLT, Nat.reduceLeDiff, Nat.reduceAdd, Nat.reduceSub, Nat.reduceMul, Int.reduceToNat, Int.reduceLE, Int.reduceLT, Int.reduceAdd, Int.reduceSub, Int.reduceMul, Int.reduceEq, Int.reduceNeg]
            refine ACalls.use (slices_Clone_apiGlyphapiGlyph_w N _ _ _ h_35) [] (by decide) trivial rfl (v' := .row 1 0 y_34.length) (by first | rfl | simp only [go_sem, reduceIte, Nat.reduceEqDiff, Nat.reduceAdd]) (H' := [.box [.int .i64 x_21.Id, .int .i64 x_21.Cluster, .int .i64 x_21.Mask, .int .i64 x_21.Syl, .int .i32 x_21.Code, .int .i64 x_21.Cat, .int .i64 x_21.Pos, .int .i64 x_21.Key, .int .i64 x_21.Lig, .int .i64 x_21.Part, .int .i64 x_21.X, .int .i64 x_21.Y, .int .i64 x_21.Wide, .int .i64 x_21.High] 32, .mem 14 (List.map eTGlyph y_34) 32]) (by first | rfl | simp only [go_sem, reduceIte, Nat.reduceEqDiff, Nat.reduceAdd]) ?_
            refine CallK_go (Nat.zero_le _) ?_
            simp only [e_2, e_6, e_10, e_14, e_18, e_23, e_24, e_25, e_27, e_29, e_30, e_31, e_32, e_33, go_sem, reduceIte, reduceCtorEq, Nat.reduceEqDiff, Nat.reduceLT, Nat.reduceLeDiff, Nat.reduceAdd, Nat.reduceSub, Nat.reduceMul, Int.reduceToNat, Int.reduceLE, Int.reduceLT, Int.reduceAdd, Int.reduceSub, Int.reduceMul, Int.reduceEq, Int.reduceNeg]
            obtain ⟨y_1037, h_1036, h⟩ := bindS h
            refine ALp.ref (Ref.std [0, 1, 2, 3, 9, 10, 55, 56, 57] [0, 1] (by decide) low0 rfl (by first | rfl | simp only [go_sem, reduceIte, Nat.reduceEqDiff, Nat.reduceAdd])) (Nat.zero_le _) (buffer_Replace_L1_w N _ _ _ _ _ c_1 N _ _ y_1037 h_1036 ?_)
            refine LoopK_go rfl (Nat.zero_le _) ?_
            obtain ⟨h_1038, h⟩ := guardS h
            have e_1039 : (0 ≤ IntKind.i64.wrap (a_1 + a_2)) = True := eq_true h_1038
            obtain ⟨h_1040, h⟩ := guardS h
            have e_1041 : (IntKind.i64.wrap (a_1 + a_2) ≤ (y_19.length : Int)) = True := eq_true h_1040
            have e_1042 : ((List.map eTGlyph y_19)).all (fun el => el.length == 14) = true := all_len _ eTGlyph 14 (fun _ => rfl)
            have e_1043 : List.take (y_19.length - (IntKind.i64.wrap (a_1 + a_2)).toNat) (List.drop (IntKind.i64.wrap (a_1 + a_2)).toNat (List.map eTGlyph y_19)) = List.map eTGlyph (slI y_19 (IntKind.i64.wrap (a_1 + a_2)) (y_19.length : Int)) := slI_map0 y_19 (IntKind.i64.wrap (a_1 + a_2)) eTGlyph
            have e_1044 : List.take y_1037.length (List.map eTGlyph y_1037) = (List.map eTGlyph y_1037) := List.take_of_length_le (by simp)
            have e_1045 : ((List.map eTGlyph (slI y_19 (IntKind.i64.wrap (a_1 + a_2)) (y_19.length : Int)))).all (fun el => el.length == 14) = true := all_len _ eTGlyph 14 (fun _ => rfl)
            have e_1046 : (List.map eTGlyph y_1037) ++ (List.map eTGlyph (slI y_19 (IntKind.i64.wrap (a_1 + a_2)) (y_19.length : Int))) = (List.map eTGlyph (y_1037 ++ (slI y_19 (IntKind.i64.wrap (a_1 + a_2)) (y_19.length : Int)))) := app_map y_1037 (slI y_19 (IntKind.i64.wrap (a_1 + a_2)) (y_19.length : Int)) eTGlyph
            obtain ⟨h_1047, h⟩ := guardS h
            have e_1048 : ((y_1037.length + (slI y_19 (IntKind.i64.wrap (a_1 + a_2)) (y_19.length : Int)).length) * 112 ≤ 140737488355328) = True := eq_true h_1047
            simp only [e_2, e_6, e_10, e_14, e_18, e_23, e_24, e_25, e_27, e_29, e_30, e_31, e_32, e_33, e_1039, e_1041, e_1042, e_1043, e_1044, e_1045, e_1046, e_1048, go_sem, reduceIte, reduceCtorEq, Nat.reduceEqDiff, Nat.reduceLT, Nat.reduceLeDiff, Nat.reduceAdd, Nat.reduceSub, Nat.reduceMul, Int.reduceToNat, Int.reduceLE, Int.reduceLT, Int.reduceAdd, Int.reduceSub, Int.reduceMul, Int.reduceEq, Int.reduceNeg]
            by_cases h_1049 : a_1 = 0
            · rw [if_pos h_1049] at h
              have e_1050 : (a_1 = 0) = True := eq_true h_1049
              simp only [e_2, e_6, e_10, e_14, e_18, e_23, e_24, e_25, e_27, e_29, e_30, e_31, e_32, e_33, e_1039, e_1041, e_1042, e_1043, e_1044, e_1045, e_1046, e_1048, e_1050, go_sem, reduceIte, reduceCtorEq, Nat.reduceEqDiff, Nat.reduceLT, Nat.reduceLeDiff, Nat.reduceAdd, Nat.reduceSub, Nat.reduceMul, Int.reduceToNat, Int.reduceLE, Int.reduceLT, Int.reduceAdd, Int.reduceSub, Int.reduceMul, Int.reduceEq, Int.reduceNeg]
              by_cases h_1051 : (l_3.length : Int) = 0
              · rw [if_pos h_1051] at h
                have e_1052 : ((l_3.length : Int) = 0) = True := eq_true h_1051
                simp only [e_2, e_6, e_10, e_14, e_18, e_23, e_24, e_25, e_27, e_29, e_30, e_31, e_32, e_33, e_1039, e_1041, e_1042, e_1043, e_1044, e_1045, e_1046, e_1048, e_1050, e_1052, go_sem, reduceIte, reduceCtorEq, Nat.reduceEqDiff, Nat.reduceLT, Nat.reduceLeDiff, Nat.reduceAdd, Nat.reduceSub, Nat.reduceMul, Int.reduceToNat, Int.reduceLE, Int.reduceLT, Int.reduceAdd, Int.reduceSub, Int.reduceMul, Int.reduceEq, Int.reduceNeg]
                by_cases h_1053 : 0 < ((y_1037.length + (slI y_19 (IntKind.i64.wrap (a_1 + a_2)) (y_19.length : Int)).length : Nat) : Int)
                · rw [if_pos h_1053] at h
                  have e_1054 : (0 < ((y_1037.length + (slI y_19 (IntKind.i64.wrap (a_1 + a_2)) (y_19.length : Int)).length : Nat) : Int)) = True := eq_true h_1053
                  obtain ⟨x_1055, h_1056, h⟩ := bindS h
                  have e_1057 : (List.map eTGlyph (y_1037 ++ (slI y_19 (IntKind.i64.wrap (a_1 + a_2)) (y_19.length : Int))))[0]? = some [.int .i64 x_1055.Id, .int .i64 x_1055.Cluster, .int .i64 x_1055.Mask, .int .i64 x_1055.Syl, .int .i32 x_1055.Code, .int .i64 x_1055.Cat, .int .i64 x_1055.Pos, .int .i64 x_1055.Key, .int .i64 x_1055.Lig, .int .i64 x_1055.Part, .int .i64 x_1055.X, .int .i64 x_1055.Y, .int .i64 x_1055.Wide, .int .i64 x_1055.High] := atI_map eTGlyph h_1056
                  have e_1058 : ((0 : Int) < ((y_1037.length + (slI y_19 (IntKind.i64.wrap (a_1 + a_2)) (y_19.length : Int)).length : Nat) : Int)) = True := eq_true (by have := atI_lt h_1056; simpa using this)
                  simp only [e_2, e_6, e_10, e_14, e_18, e_23, e_24, e_25, e_27, e_29, e_30, e_31, e_32, e_33, e_1039, e_1041, e_1042, e_1043, e_1044, e_1045, e_1046, e_1048, e_1050, e_1052, e_1054, e_1057, e_1058, go_sem, reduceIte, reduceCtorEq, Nat.reduceEqDiff, Nat.reduceLT, Nat.reduceLeDiff, Nat.reduceAdd, Nat.reduceSub, Nat.reduceMul, Int.reduceToNat, Int.reduceLE, Int.reduceLT, Int.reduceAdd, Int.reduceSub, Int.reduceMul, Int.reduceEq, Int.reduceNeg]
                  obtain ⟨y_2060, h_2059, h⟩ := bindS h
                  refine ALp.ref (Ref.std [9, 10, 14, 15] [0, 2] (by decide) low0 (by first | rfl | simp only [go_sem, reduceIte, Nat.reduceEqDiff, Nat.reduceAdd]) (by first | rfl | simp only [go_sem, reduceIte, Nat.reduceEqDiff, Nat.reduceAdd])) (Nat.zero_le _) (buffer_Replace_L2_w N _ _ N _ _ y_2060 h_2059 ?_)
                  refine LoopK_go rfl (Nat.zero_le _) ?_
                  simp only [e_2, e_6, e_10, e_14, e_18, e_23, e_24, e_25, e_27, e_29, e_30, e_31, e_32, e_33, e_1039, e_1041, e_1042, e_1043, e_1044, e_1045, e_1046, e_1048, e_1050, e_1052, e_1054, e_1057, e_1058, go_sem, reduceIte, reduceCtorEq, Nat.reduceEqDiff, Nat.reduceLT, Nat.reduceLeDiff, Nat.reduceAdd, Nat.reduceSub, Nat.reduceMul, Int.reduceToNat, Int.reduceLE, Int.reduceLT, Int.reduceAdd, Int.reduceSub, Int.reduceMul, Int.reduceEq, Int.reduceNeg]
                  have g_0 := Option.some.inj h
                  subst g_0
                  rw [← hQ]
                  exact ⟨rfl, _, rfl, _, _, (RefV.trans (RefV.frz (Nat.zero_le _) (id := 0) rfl (pures_map y_2060 eTGlyph (fun _ => rfl))) (RefV.out (by first | rfl | simp only [go_sem, reduceIte, Nat.reduceEqDiff, Nat.reduceAdd, e_2, e_6, e_10, e_14, e_18, e_1050, e_1052, e_1054]))), rfl, rfl⟩
                · rw [if_neg h_1053] at h
                  have e_1054 : (0 < ((y_1037.length + (slI y_19 (IntKind.i64.wrap (a_1 + a_2)) (y_19.length : Int)).length : Nat) : Int)) = False := eq_false h_1053
                  simp only [e_2, e_6, e_10, e_14, e_18, e_23, e_24, e_25, e_27, e_29, e_30, e_31, e_32, e_33, e_1039, e_1041, e_1042, e_1043, e_1044, e_1045, e_1046, e_1048, e_1050, e_1052, e_1054, go_sem, reduceIte, reduceCtorEq, Nat.reduceEqDiff, Nat.reduceLT, Nat.reduceLeDiff, Nat.reduceAdd, Nat.reduceSub, Nat.reduceMul, Int.reduceToNat, Int.reduceLE, Int.reduceLT, Int.reduceAdd, Int.reduceSub, Int.reduceMul, Int.reduceEq, Int.reduceNeg]
                  have g_0 := Option.some.inj h
                  subst g_0
                  rw [← hQ]
                  exact ⟨rfl, _, rfl, _, _, (RefV.trans (RefV.frz (Nat.zero_le _) (id := 2) rfl (pures_map (y_1037 ++ (slI y_19 (IntKind.i64.wrap (a_1 + a_2)) (y_19.length : Int))) eTGlyph (fun _ => rfl))) (RefV.out (by first | rfl | simp only [go_sem, reduceIte, Nat.reduceEqDiff, Nat.reduceAdd, e_2, e_6, e_10, e_14, e_18, e_1050, e_1052, e_1054]))), rfl, rfl⟩
              · rw [if_neg h_1051] at h
                have e_1052 : ((l_3.length : Int) = 0) = False := eq_false h_1051
                simp only [e_2, e_6, e_10, e_14, e_18, e_23, e_24, e_25, e_27, e_29, e_30, e_31, e_32, e_33, e_1039, e_1041, e_1042, e_1043, e_1044, e_1045, e_1046, e_1048, e_1050, e_1052, go_sem, reduceIte, reduceCtorEq, Nat.reduceEqDiff, Nat.reduceLT, Nat.reduceLeDiff, Nat.reduceAdd, Nat.reduceSub, Nat.reduceMul, Int.reduceToNat, Int.reduceLE, Int.reduceLT, Int.reduceAdd, Int.reduceSub, Int.reduceMul, Int.reduceEq, Int.reduceNeg]
                have g_0 := Option.some.inj h
                subst g_0
                rw [← hQ]
                exact ⟨rfl, _, rfl, _, _, (RefV.trans (RefV.frz (Nat.zero_le _) (id := 2) rfl (pures_map (y_1037 ++ (slI y_19 (IntKind.i64.wrap (a_1 + a_2)) (y_19.length : Int))) eTGlyph (fun _ => rfl))) (RefV.out (by first | rfl | simp only [go_sem, reduceIte, Nat.reduceEqDiff, Nat.reduceAdd, e_2, e_6, e_10, e_14, e_18, e_1050, e_1052]))), rfl, rfl⟩
            · rw [if_neg h_1049] at h
              have e_1050 : (a_1 = 0) = False := eq_false h_1049
              simp only [e_2, e_6, e_10, e_14, e_18, e_23, e_24, e_25, e_27, e_29, e_30, e_31, e_32, e_33, e_1039, e_1041, e_1042, e_1043, e_1044, e_1045, e_1046, e_1048, e_1050, go_sem, reduceIte, reduceCtorEq, Nat.reduceEqDiff, Nat.reduceLT, Nat.reduceLeDiff, Nat.reduceAdd, Nat.reduceSub, Nat.reduceMul, Int.reduceToNat, Int.reduceLE, Int.reduceLT, Int.reduceAdd, Int.reduceSub, Int.reduceMul, Int.reduceEq, Int.reduceNeg]
              have g_0 := Option.some.inj h
              subst g_0
              rw [← hQ]
              exact ⟨rfl, _, rfl, _, _, (RefV.trans (RefV.frz (Nat.zero_le _) (id := 2) rfl (pures_map (y_1037 ++ (slI y_19 (IntKind.i64.wrap (a_1 + a_2)) (y_19.length : Int))) eTGlyph (fun _ => rfl))) (RefV.out (by first | rfl | simp only [go_sem, reduceIte, Nat.reduceEqDiff, Nat.reduceAdd, e_2, e_6, e_10, e_14, e_18, e_1050]))), rfl, rfl⟩
          · rw [if_neg h_17] at h
            have e_18 : (1 < a_2) = False := eq_false h_17
            obtain ⟨x_2061, h_2062, h⟩ := bindS h
            have e_2063 : (List.map eTGlyph l_0)[(a_1).toNat]? = some [.int .i64 x_2061.Id, .int .i64 x_2061.Cluster, .int .i64 x_2061.Mask, .int .i64 x_2061.Syl, .int .i32 x_2061.Code, .int .i64 x_2061.Cat, .int .i64 x_2061.Pos, .int .i64 x_2061.Key, .int .i64 x_2061.Lig, .int .i64 x_2061.Part, .int .i64 x_2061.X, .int .i64 x_2061.Y, .int .i64 x_2061.Wide, .int .i64 x_2061.High] := atI_map eTGlyph h_2062
            have e_2064 : ((0 : Int) ≤ a_1) = True := eq_true (atI_some h_2062).1
            have e_2065 : ((a_1 : Int) < (l_0.length : Int)) = True := eq_true (atI_lt h_2062)
            obtain ⟨h_2066, h⟩ := guardS h
            have e_2067 : (0 ≤ a_1) = True := eq_true h_2066
            obtain ⟨h_2068, h⟩ := guardS h
            have e_2069 : (a_1 ≤ (l_0.length : Int)) = True := eq_true h_2068
            have e_2070 : ((List.map eTGlyph l_0)).all (fun el => el.length == 14) = true := all_len _ eTGlyph 14 (fun _ => rfl)
            have e_2071 : List.take ((a_1).toNat) (List.map eTGlyph l_0) = List.map eTGlyph (slI l_0 0 a_1) := slI_map l_0 0 a_1 eTGlyph
            have e_2072 : (decide ((a_1 : Int) = a_1)) = true := decide_eq_true rfl
            have e_2073 : ((a_1 : Int) ≤ a_1) = True := eq_true (Int.le_refl _)
            obtain ⟨y_2074, h_2075, h⟩ := bindS h
            simp only [e_2, e_6, e_10, e_14, e_18, e_2063, e_2064, e_2065, e_2067, e_2069, e_2070, e_2071, e_2072, e_2073, go_sem, reduceIte, reduceCtorEq, Nat.reduceEqDiff, Nat.reduceLT, Nat.reduceLeDiff, Nat.reduceAdd, Nat.reduceSub, Nat.reduceMul, Int.reduceToNat, Int.reduceLE, Int.reduceLT, Int.reduceAdd, Int.reduceSub, Int.reduceMul, Int.reduceEq, Int.reduceNeg]
            refine ACalls.use (slices_Clone_apiGlyphapiGlyph_w N _ _ _ h_2075) [] (by decide) trivial rfl (v' := .row 1 0 y_2074.length) (by first | rfl | simp only [go_sem, reduceIte, Nat.reduceEqDiff, Nat.reduceAdd, e_2, e_6, e_10, e_14, e_18]) (H' := [.box [.int .i64 x_2061.Id, .int .i64 x_2061.Cluster, .int .i64 x_2061.Mask, .int .i64 x_2061.Syl, .int .i32 x_2061.Code, .int .i64 x_2061.Cat, .int .i64 x_2061.Pos, .int .i64 x_2061.Key, .int .i64 x_2061.Lig, .int .i64 x_2061.Part, .int .i64 x_2061.X, .int .i64 x_2061.Y, .int .i64 x_2061.Wide, .int .i64 x_2061.High] 32, .mem 14 (List.map eTGlyph y_2074) 32]) (by first | rfl | simp only [go_sem, reduceIte, Nat.reduceEqDiff, Nat.reduceAdd, e_2, e_6, e_10, e_14, e_18]) ?_
            refine CallK_go (Nat.zero_le _) ?_
            simp only [e_2, e_6, e_10, e_14, e_18, e_2063, e_2064, e_2065, e_2067, e_2069, e_2070, e_2071, e_2072, e_2073, go_sem, reduceIte, reduceCtorEq, Nat.reduceEqDiff, Nat.reduceLT, Nat.reduceLeDiff, Nat.reduceAdd, Nat.reduceSub, Nat.reduceMul, Int.reduceToNat, Int.reduceLE, Int.reduceLT, Int.reduceAdd, Int.reduceSub, Int.reduceMul, Int.reduceEq, Int.reduceNeg]
            obtain ⟨y_3077, h_3076, h⟩ := bindS h
            refine ALp.ref (Ref.std [0, 1, 2, 3, 9, 10, 55, 56, 57] [0, 1] (by decide) low0 rfl (by first | rfl | simp only [go_sem, reduceIte, Nat.reduceEqDiff, Nat.reduceAdd])) (Nat.zero_le _) (buffer_Replace_L3_w N _ _ _ _ _ c_0 c_1 N _ _ y_3077 h_3076 ?_)
            refine LoopK_go rfl (Nat.zero_le _) ?_
            obtain ⟨h_3078, h⟩ := guardS h
            have e_3079 : (0 ≤ IntKind.i64.wrap (a_1 + a_2)) = True := eq_true h_3078
            obtain ⟨h_3080, h⟩ := guardS h
            have e_3081 : (IntKind.i64.wrap (a_1 + a_2) ≤ (l_0.length : Int)) = True := eq_true h_3080
            have e_3082 : ((List.map eTGlyph l_0)).all (fun el => el.length == 14) = true := all_len _ eTGlyph 14 (fun _ => rfl)
            have e_3083 : List.take (l_0.length - (IntKind.i64.wrap (a_1 + a_2)).toNat) (List.drop (IntKind.i64.wrap (a_1 + a_2)).toNat (List.map eTGlyph l_0)) = List.map eTGlyph (slI l_0 (IntKind.i64.wrap (a_1 + a_2)) (l_0.length : Int)) := slI_map0 l_0 (IntKind.i64.wrap (a_1 + a_2)) eTGlyph
            have e_3084 : List.take y_3077.length (List.map eTGlyph y_3077) = (List.map eTGlyph y_3077) := List.take_of_length_le (by simp)
            have e_3085 : ((List.map eTGlyph (slI l_0 (IntKind.i64.wrap (a_1 + a_2)) (l_0.length : Int)))).all (fun el => el.length == 14) = true := all_len _ eTGlyph 14 (fun _ => rfl)
            have e_3086 : (List.map eTGlyph y_3077) ++ (List.map eTGlyph (slI l_0 (IntKind.i64.wrap (a_1 + a_2)) (l_0.length : Int))) = (List.map eTGlyph (y_3077 ++ (slI l_0 (IntKind.i64.wrap (a_1 + a_2)) (l_0.length : Int)))) := app_map y_3077 (slI l_0 (IntKind.i64.wrap (a_1 + a_2)) (l_0.length : Int)) eTGlyph
            obtain ⟨h_3087, h⟩ := guardS h
            have e_3088 : ((y_3077.length + (slI l_0 (IntKind.i64.wrap (a_1 + a_2)) (l_0.length : Int)).length) * 112 ≤ 140737488355328) = True := eq_true h_3087
            simp only [e_2, e_6, e_10, e_14, e_18, e_2063, e_2064, e_2065, e_2067, e_2069, e_2070, e_2071, e_2072, e_2073, e_3079, e_3081, e_3082, e_3083, e_3084, e_3085, e_3086, e_3088, go_sem, reduceIte, reduceCtorEq, Nat.reduceEqDiff, Nat.reduceLT, Nat.reduceLeDiff, Nat.reduceAdd, Nat.reduceSub, Nat.reduceMul, Int.reduceToNat, Int.reduceLE, Int.reduceLT, Int.reduceAdd, Int.reduceSub, Int.reduceMul, Int.reduceEq, Int.reduceNeg]
            by_cases h_3089 : a_1 = 0
            · rw [if_pos h_3089] at h
              have e_3090 : (a_1 = 0) = True := eq_true h_3089
              simp only [e_2, e_6, e_10, e_14, e_18, e_2063, e_2064, e_2065, e_2067, e_2069, e_2070, e_2071, e_2072, e_2073, e_3079, e_3081, e_3082, e_3083, e_3084, e_3085, e_3086, e_3088, e_3090, go_sem, reduceIte, reduceCtorEq, Nat.reduceEqDiff, Nat.reduceLT, Nat.reduceLeDiff, Nat.reduceAdd, Nat.reduceSub, Nat.reduceMul, Int.reduceToNat, Int.reduceLE, Int.reduceLT, Int.reduceAdd, Int.reduceSub, Int.reduceMul, Int.reduceEq, Int.reduceNeg]
              by_cases h_3091 : (l_3.length : Int) = 0
              · rw [if_pos h_3091] at h
                have e_3092 : ((l_3.length : Int) = 0) = True := eq_true h_3091
                simp only [e_2, e_6, e_10, e_14, e_18, e_2063, e_2064, e_2065, e_2067, e_2069, e_2070, e_2071, e_2072, e_2073, e_3079, e_3081, e_3082, e_3083, e_3084, e_3085, e_3086, e_3088, e_3090, e_3092, go_sem, reduceIte, reduceCtorEq, Nat.reduceEqDiff, Nat.reduceLT, Nat.reduceLeDiff, Nat.reduceAdd, Nat.reduceSub, Nat.reduceMul, Int.reduceToNat, Int.reduceLE, Int.reduceLT, Int.reduceAdd, Int.reduceSub, Int.reduceMul, Int.reduceEq, Int.reduceNeg]
                by_cases h_3093 : 0 < ((y_3077.length + (slI l_0 (IntKind.i64.wrap (a_1 + a_2)) (l_0.length : Int)).length : Nat) : Int)
                · rw [if_pos h_3093] at h
                  have e_3094 : (0 < ((y_3077.length + (slI l_0 (IntKind.i64.wrap (a_1 + a_2)) (l_0.length : Int)).length : Nat) : Int)) = True := eq_true h_3093
                  obtain ⟨x_3095, h_3096, h⟩ := bindS h
                  have e_3097 : (List.map eTGlyph (y_3077 ++ (slI l_0 (IntKind.i64.wrap (a_1 + a_2)) (l_0.length : Int))))[0]? = some [.int .i64 x_3095.Id, .int .i64 x_3095.Cluster, .int .i64 x_3095.Mask, .int .i64 x_3095.Syl, .int .i32 x_3095.Code, .int .i64 x_3095.Cat, .int .i64 x_3095.Pos, .int .i64 x_3095.Key, .int .i64 x_3095.Lig, .int .i64 x_3095.Part, .int .i64 x_3095.X, .int .i64 x_3095.Y, .int .i64 x_3095.Wide, .int .i64 x_3095.High] := atI_map eTGlyph h_3096
                  have e_3098 : ((0 : Int) < ((y_3077.length + (slI l_0 (IntKind.i64.wrap (a_1 + a_2)) (l_0.length : Int)).length : Nat) : Int)) = True := eq_true (by have := atI_lt h_3096; simpa using this)
                  simp only [e_2, e_6, e_10, e_14, e_18, e_2063, e_2064, e_2065, e_2067, e_2069, e_2070, e_2071, e_2072, e_2073, e_3079, e_3081, e_3082, e_3083, e_3084, e_3085, e_3086, e_3088, e_3090, e_3092, e_3094, e_3097, e_3098, go_sem, reduceIte, reduceCtorEq, Nat.reduceEqDiff, Nat.reduceLT, Nat.reduceLeDiff, Nat.reduceAdd, Nat.reduceSub, Nat.reduceMul, Int.reduceToNat, Int.reduceLE, Int.reduceLT, Int.reduceAdd, Int.reduceSub, Int.reduceMul, Int.reduceEq, Int.reduceNeg]
                  obtain ⟨y_4100, h_4099, h⟩ := bindS h
                  refine ALp.ref (Ref.std [9, 10, 14, 15] [0, 2] (by decide) low0 (by first | rfl | simp only [go_sem, reduceIte, Nat.reduceEqDiff, Nat.reduceAdd]) (by first | rfl | simp only [go_sem, reduceIte, Nat.reduceEqDiff, Nat.reduceAdd])) (Nat.zero_le _) (buffer_Replace_L2_w N _ _ N _ _ y_4100 h_4099 ?_)
                  refine LoopK_go rfl (Nat.zero_le _) ?_
                  simp only [e_2, e_6, e_10, e_14, e_18, e_2063, e_2064, e_2065, e_2067, e_2069, e_2070, e_2071, e_2072, e_2073, e_3079, e_3081, e_3082, e_3083, e_3084, e_3085, e_3086, e_3088, e_3090, e_3092, e_3094, e_3097, e_3098, go_sem, reduceIte, reduceCtorEq, Nat.reduceEqDiff, Nat.reduceLT, Nat.reduceLeDiff, Nat.reduceAdd, Nat.reduceSub, Nat.reduceMul, Int.reduceToNat, Int.reduceLE, Int.reduceLT, Int.reduceAdd, Int.reduceSub, Int.reduceMul, Int.reduceEq, Int.reduceNeg]
                  have g_0 := Option.some.inj h
                  subst g_0
                  rw [← hQ]
                  exact ⟨rfl, _, rfl, _, _, (RefV.trans (RefV.frz (Nat.zero_le _) (id := 0) rfl (pures_map y_4100 eTGlyph (fun _ => rfl))) (RefV.out (by first | rfl | simp only [go_sem, reduceIte, Nat.reduceEqDiff, Nat.reduceAdd, e_2, e_6, e_10, e_14, e_18, e_3090, e_3092, e_3094]))), rfl, rfl⟩
                · rw [if_neg h_3093] at h
                  have e_3094 : (0 < ((y_3077.length + (slI l_0 (IntKind.i64.wrap (a_1 + a_2)) (l_0.length : Int)).length : Nat) : Int)) = False := eq_false h_3093
                  simp only [e_2, e_6, e_10, e_14, e_18, e_2063, e_2064, e_2065, e_2067, e_2069, e_2070, e_2071, e_2072, e_2073, e_3079, e_3081, e_3082, e_3083, e_3084, e_3085, e_3086, e_3088, e_3090, e_3092, e_3094, go_sem, reduceIte, reduceCtorEq, Nat.reduceEqDiff, Nat.reduceLT, Nat.reduceLeDiff, Nat.reduceAdd, Nat.reduceSub, Nat.reduceMul, Int.reduceToNat, Int.reduceLE, Int.reduceLT, Int.reduceAdd, Int.reduceSub, Int.reduceMul, Int.reduceEq, Int.reduceNeg]
                  have g_0 := Option.some.inj h
                  subst g_0
                  rw [← hQ]
                  exact ⟨rfl, _, rfl, _, _, (RefV.trans (RefV.frz (Nat.zero_le _) (id := 2) rfl (pures_map (y_3077 ++ (slI l_0 (IntKind.i64.wrap (a_1 + a_2)) (l_0.length : Int))) eTGlyph (fun _ => rfl))) (RefV.out (by first | rfl | simp only [go_sem, reduceIte, Nat.reduceEqDiff, Nat.reduceAdd, e_2, e_6, e_10, e_14, e_18, e_3090, e_3092, e_3094]))), rfl, rfl⟩
              · rw [if_neg h_3091] at h
                have e_3092 : ((l_3.length : Int) = 0) = False := eq_false h_3091
                simp only [e_2, e_6, e_10, e_14, e_18, e_2063, e_2064, e_2065, e_2067, e_2069, e_2070, e_2071, e_2072, e_2073, e_3079, e_3081, e_3082, e_3083, e_3084, e_3085, e_3086, e_3088, e_3090, e_3092, go_sem, reduceIte, reduceCtorEq, Nat.reduceEqDiff, Nat.reduceLT, Nat.reduceLeDiff, Nat.reduceAdd, Nat.reduceSub, Nat.reduceMul, Int.reduceToNat, Int.reduceLE, Int.reduceLT, Int.reduceAdd, Int.reduceSub, Int.reduceMul, Int.reduceEq, Int.reduceNeg]
                have g_0 := Option.some.inj h
                subst g_0
                rw [← hQ]
                exact ⟨rfl, _, rfl, _, _, (RefV.trans (RefV.frz (Nat.zero_le _) (id := 2) rfl (pures_map (y_3077 ++ (slI l_0 (IntKind.i64.wrap (a_1 + a_2)) (l_0.length : Int))) eTGlyph (fun _ => rfl))) (RefV.out (by first | rfl | simp only [go_sem, reduceIte, Nat.reduceEqDiff, Nat.reduceAdd, e_2, e_6, e_10, e_14, e_18, e_3090, e_3092]))), rfl, rfl⟩
            · rw [if_neg h_3089] at h
              have e_3090 : (a_1 = 0) = False := eq_false h_3089
              simp only [e_2, e_6, e_10, e_14, e_18, e_2063, e_2064, e_2065, e_2067, e_2069, e_2070, e_2071, e_2072, e_2073, e_3079, e_3081, e_3082, e_3083, e_3084, e_3085, e_3086, e_3088, e_3090, go_sem, reduceIte, reduceCtorEq, Nat.reduceEqDiff, Nat.reduceLT, Nat.reduceLeDiff, Nat.reduceAdd, Nat.reduceSub, Nat.reduceMul, Int.reduceToNat, Int.reduceLE, Int.reduceLT, Int.reduceAdd, Int.reduceSub, Int.reduceMul, Int.reduceEq, Int.reduceNeg]
              have g_0 := Option.some.inj h
              subst g_0
              rw [← hQ]
              exact ⟨rfl, _, rfl, _, _, (RefV.trans (RefV.frz (Nat.zero_le _) (id := 2) rfl (pures_map (y_3077 ++ (slI l_0 (IntKind.i64.wrap (a_1 + a_2)) (l_0.length : Int))) eTGlyph (fun _ => rfl))) (RefV.out (by first | rfl | simp only [go_sem, reduceIte, Nat.reduceEqDiff, Nat.reduceAdd, e_2, e_6, e_10, e_14, e_18, e_3090]))), rfl, rfl⟩
theorem buffer_Blocks_row_L1_w (N : Nat) (l_0 : List Int) {R : AExit → ATm → List AObj → Prop} : ∀ (n : Nat) (i_6 : Int) (s_7 : List Bool) (o : (Unit) ⊕ (Unit)), buffer_Blocks_row_L1 N l_0 n i_6 s_7 = some o → (match o with | .inl _ => R (.exit 0) ⟨62, [(0, .row 0 0 l_0.length)], []⟩ [.mem 1 (List.map eI64 l_0) 3] | .inr (_) => R .ret ⟨62, [(2, .vec true [])], []⟩ [.mem 1 (List.map eI64 l_0) 3]) →
    ALp Go.Proofs.Try.prog 1 B22_1 ⟨62, [(0, .row 0 0 l_0.length), (3, .row 1 0 s_7.length), (14, .row 0 0 l_0.length), (15, .int .i64 (l_0.length : Int)), (16, .int .i64 i_6)], []⟩ [.mem 1 (List.map eI64 l_0) 3, .mem 1 (List.map eB s_7) 4] R := by
  intro n
  induction n with
  | zero =>
    intro i_6 s_7 o h _
    have h0 : none = some o := h
    cases h0
  | succ n ih =>
    intro i_6 s_7 o h hp
    rw [buffer_Blocks_row_L1] at h
    refine ALp.round ?_
    generalize hQ : RoundQ _ _ _ _ = QQ
    simp only [B22_1, A22, go_sem, reduceIte, reduceCtorEq, Nat.reduceEqDiff, Nat.reduceLT, Nat.reduceLeDiff, Nat.reduceAdd, Nat.reduceSub, Nat.reduceMul, Int.reduceToNat, Int.reduceLE, Int.reduceLT, Int.reduceAdd, Int.reduceSub, Int.reduceMul, Int.reduceEq, Int.reduceNeg]
    by_cases h_8 : i_6 < (l_0.length : Int)
    · rw [if_pos h_8] at h
      have e_9 : (i_6 < (l_0.length : Int)) = True := eq_true h_8
      obtain ⟨x_10, h_11, h⟩ := bindS h
      have e_12 : (List.map eI64 l_0)[(i_6).toNat]? = some [.int .i64 x_10] := atI_map eI64 h_11
      have e_13 : ((0 : Int) ≤ i_6) = True := eq_true (atI_some h_11).1
      have e_14 : ((i_6 : Int) < (l_0.length : Int)) = True := eq_true (atI_lt h_11)
      simp only [e_9, e_12, e_13, e_14, go_sem, reduceIte, reduceCtorEq, Nat.reduceEqDiff, Nat.reduceLT, Nat.reduceLeDiff, Nat.reduceAdd, Nat.reduceSub, Nat.reduceMul, Int.reduceToNat, Int.reduceLE, Int.reduceLT, Int.reduceAdd, Int.reduceSub, Int.reduceMul, Int.reduceEq, Int.reduceNeg]
      by_cases h_15 : x_10 < 0
      · rw [if_pos h_15] at h
        have e_16 : (x_10 < 0) = True := eq_true h_15
        simp only [e_9, e_12, e_13, e_14, e_16, go_sem, reduceIte, reduceCtorEq, Nat.reduceEqDiff, Nat.reduceLT, Nat.reduceLeDiff, Nat.reduceAdd, Nat.reduceSub, Nat.reduceMul, Int.reduceToNat, Int.reduceLE, Int.reduceLT, Int.reduceAdd, Int.reduceSub, Int.reduceMul, Int.reduceEq, Int.reduceNeg]
        have g := Option.some.inj h
        subst g
        rw [← hQ]
        exact ⟨_, _, (Ref.std [2] [0] (by decide) (by decide) rfl (by first | rfl | simp only [go_sem, reduceIte, Nat.reduceEqDiff, Nat.reduceAdd])), hp⟩
      · rw [if_neg h_15] at h
        have e_16 : (x_10 < 0) = False := eq_false h_15
        simp only [e_9, e_12, e_13, e_14, e_16, go_sem, reduceIte, reduceCtorEq, Nat.reduceEqDiff, Nat.reduceLT, Nat.reduceLeDiff, Nat.reduceAdd, Nat.reduceSub, Nat.reduceMul, Int.reduceToNat, Int.reduceLE, Int.reduceLT, Int.reduceAdd, Int.reduceSub, Int.reduceMul, Int.reduceEq, Int.reduceNeg]
        by_cases h_17 : (l_0.length : Int) ≤ x_10
        · rw [if_pos h_17] at h
          have e_18 : ((l_0.length : Int) ≤ x_10) = True := eq_true h_17
          simp only [e_9, e_12, e_13, e_14, e_16, e_18, go_sem, reduceIte, reduceCtorEq, Nat.reduceEqDiff, Nat.reduceLT, Nat.reduceLeDiff, Nat.reduceAdd, Nat.reduceSub, Nat.reduceMul, Int.reduceToNat, Int.reduceLE, Int.reduceLT, Int.reduceAdd, Int.reduceSub, Int.reduceMul, Int.reduceEq, Int.reduceNeg]
          have g := Option.some.inj h
          subst g
          rw [← hQ]
          exact ⟨_, _, (Ref.std [2] [0] (by decide) (by decide) rfl (by first | rfl | simp only [go_sem, reduceIte, Nat.reduceEqDiff, Nat.reduceAdd])), hp⟩
        · rw [if_neg h_17] at h
          have e_18 : ((l_0.length : Int) ≤ x_10) = False := eq_false h_17
          obtain ⟨x_19, h_20, h⟩ := bindS h
          have e_21 : (List.map eB s_7)[(x_10).toNat]? = some [.bool x_19] := atI_map eB h_20
          have e_22 : ((0 : Int) ≤ x_10) = True := eq_true (atI_some h_20).1
          have e_23 : ((x_10 : Int) < (s_7.length : Int)) = True := eq_true (atI_lt h_20)
          simp only [e_9, e_12, e_13, e_14, e_16, e_18, e_21, e_22, e_23, go_sem, reduceIte, reduceCtorEq, Nat.reduceEqDiff, Nat.reduceLT, Nat.reduceLeDiff, Nat.reduceAdd, Nat.reduceSub, Nat.reduceMul, Int.reduceToNat, Int.reduceLE, Int.reduceLT, Int.reduceAdd, Int.reduceSub, Int.reduceMul, Int.reduceEq, Int.reduceNeg]
          by_cases h_24 : x_19 = true
          · rw [if_pos h_24] at h
            have e_25 : x_19 = true := h_24
            simp only [e_9, e_12, e_13, e_14, e_16, e_18, e_21, e_22, e_23, e_25, go_sem, reduceIte, reduceCtorEq, Nat.reduceEqDiff, Nat.reduceLT, Nat.reduceLeDiff, Nat.reduceAdd, Nat.reduceSub, Nat.reduceMul, Int.reduceToNat, Int.reduceLE, Int.reduceLT, Int.reduceAdd, Int.reduceSub, Int.reduceMul, Int.reduceEq, Int.reduceNeg]
            have g := Option.some.inj h
            subst g
            rw [← hQ]
            exact ⟨_, _, (Ref.std [2] [0] (by decide) (by decide) rfl (by first | rfl | simp only [go_sem, reduceIte, Nat.reduceEqDiff, Nat.reduceAdd])), hp⟩
          · rw [if_neg h_24] at h
            have e_25 : x_19 = false := bfalse h_24
            have e_26 : (List.map eB s_7).set (x_10).toNat [.bool true] = List.map eB (List.set s_7 (x_10).toNat true) := set_map s_7 eB (x_10).toNat true
            simp only [e_9, e_12, e_13, e_14, e_16, e_18, e_21, e_22, e_23, e_25, e_26, go_sem, reduceIte, reduceCtorEq, Nat.reduceEqDiff, Nat.reduceLT, Nat.reduceLeDiff, Nat.reduceAdd, Nat.reduceSub, Nat.reduceMul, Int.reduceToNat, Int.reduceLE, Int.reduceLT, Int.reduceAdd, Int.reduceSub, Int.reduceMul, Int.reduceEq, Int.reduceNeg]
            rw [← hQ]
            exact ⟨_, _, (Ref.std [0, 3, 14, 15, 16] [0, 1] (by decide) (by decide) (by first | rfl | simp only [go_sem, reduceIte, Nat.reduceEqDiff, Nat.reduceAdd]) (by first | rfl | simp only [go_sem, reduceIte, Nat.reduceEqDiff, Nat.reduceAdd])), (by simp), ih _ _ _ h hp⟩
    · rw [if_neg h_8] at h
      have e_9 : (i_6 < (l_0.length : Int)) = False := eq_false h_8
      simp only [e_9, go_sem, reduceIte, reduceCtorEq, Nat.reduceEqDiff, Nat.reduceLT, Nat.reduceLeDiff, Nat.reduceAdd, Nat.reduceSub, Nat.reduceMul, Int.reduceToNat, Int.reduceLE, Int.reduceLT, Int.reduceAdd, Int.reduceSub, Int.reduceMul, Int.reduceEq, Int.reduceNeg]
      have g := Option.some.inj h
      subst g
      rw [← hQ]
      exact ⟨_, _, (Ref.std [0] [0] (by decide) (by decide) rfl (by first | rfl | simp only [go_sem, reduceIte, Nat.reduceEqDiff, Nat.reduceAdd])), hp⟩
theorem buffer_Blocks_row_L2_w (N : Nat) (l_0 : List Int) {R : AExit → ATm → List AObj → Prop} : ∀ (n : Nat) (i_1008 : Int) (i_1009 : Int) (i_1010 : Int) (s_1011 : List TArr2_I64) (o : (List TArr2_I64)), buffer_Blocks_row_L2 N l_0 n i_1008 i_1009 i_1010 s_1011 = some o → (match o with | z_1 => R (.exit 2) ⟨62, [(6, .row 1 0 z_1.length)], []⟩ [.mem 1 (List.map eI64 l_0) 3, .mem 2 (List.map eTArr2_I64 z_1) 77]) →
    ALp Go.Proofs.Try.prog 1 B22_2 ⟨62, [(6, .row 1 0 s_1011.length), (7, .int .i64 i_1008), (8, .int .i64 i_1009), (38, .row 0 0 l_0.length), (39, .int .i64 (l_0.length : Int)), (40, .int .i64 i_1010)], []⟩ [.mem 1 (List.map eI64 l_0) 3, .mem 2 (List.map eTArr2_I64 s_1011) 77] R := by
  intro n
  induction n with
  | zero =>
    intro i_1008 i_1009 i_1010 s_1011 o h _
    have h0 : none = some o := h
    cases h0
  | succ n ih =>
    intro i_1008 i_1009 i_1010 s_1011 o h hp
    rw [buffer_Blocks_row_L2] at h
    refine ALp.round ?_
    generalize hQ : RoundQ _ _ _ _ = QQ
    simp only [B22_2, A22, go_sem, reduceIte, reduceCtorEq, Nat.reduceEqDiff, Nat.reduceLT, Nat.reduceLeDiff, Nat.reduceAdd, Nat.reduceSub, Nat.reduceMul, Int.reduceToNat, Int.reduceLE, Int.reduceLT, Int.reduceAdd, Int.reduceSub, Int.reduceMul, Int.reduceEq, Int.reduceNeg]
    by_cases h_1012 : i_1010 < (l_0.length : Int)
    · rw [if_pos h_1012] at h
      have e_1013 : (i_1010 < (l_0.length : Int)) = True := eq_true h_1012
      obtain ⟨x_1014, h_1015, h⟩ := bindS h
      have e_1016 : (List.map eI64 l_0)[(i_1010).toNat]? = some [.int .i64 x_1014] := atI_map eI64 h_1015
      have e_1017 : ((0 : Int) ≤ i_1010) = True := eq_true (atI_some h_1015).1
      have e_1018 : ((i_1010 : Int) < (l_0.length : Int)) = True := eq_true (atI_lt h_1015)
      simp only [e_1013, e_1016, e_1017, e_1018, go_sem, reduceIte, reduceCtorEq, Nat.reduceEqDiff, Nat.reduceLT, Nat.reduceLeDiff, Nat.reduceAdd, Nat.reduceSub, Nat.reduceMul, Int.reduceToNat, Int.reduceLE, Int.reduceLT, Int.reduceAdd, Int.reduceSub, Int.reduceMul, Int.reduceEq, Int.reduceNeg]
      by_cases h_1019 : max i_1009 x_1014 = i_1010
      · rw [if_pos h_1019] at h
        have e_1020 : (max i_1009 x_1014 = i_1010) = True := eq_true h_1019
        have e_1021 : List.take s_1011.length (List.map eTArr2_I64 s_1011) = (List.map eTArr2_I64 s_1011) := List.take_of_length_le (by simp)
        have e_1022 : (List.map eTArr2_I64 s_1011) ++ [[.int .i64 i_1008, .int .i64 (IntKind.i64.wrap (i_1010 + 1))]] = (List.map eTArr2_I64 (s_1011 ++ [TArr2_I64.mk i_1008 (IntKind.i64.wrap (i_1010 + 1))])) := app_map s_1011 ([TArr2_I64.mk i_1008 (IntKind.i64.wrap (i_1010 + 1))]) eTArr2_I64
        obtain ⟨h_1023, h⟩ := guardS h
        have e_1024 : ((s_1011.length + 1) * 16 ≤ 140737488355328) = True := eq_true h_1023
        simp only [e_1013, e_1016, e_1017, e_1018, e_1020, e_1021, e_1022, e_1024, go_sem, reduceIte, reduceCtorEq, Nat.reduceEqDiff, Nat.reduceLT, Nat.reduceLeDiff, Nat.reduceAdd, Nat.reduceSub, Nat.reduceMul, Int.reduceToNat, Int.reduceLE, Int.reduceLT, Int.reduceAdd, Int.reduceSub, Int.reduceMul, Int.reduceEq, Int.reduceNeg]
        rw [← hQ]
        exact ⟨_, _, (Ref.std [6, 7, 8, 38, 39, 40] [0, 2] (by decide) (by decide) (by first | rfl | simp only [go_sem, reduceIte, Nat.reduceEqDiff, Nat.reduceAdd]) (by first | rfl | simp only [go_sem, reduceIte, Nat.reduceEqDiff, Nat.reduceAdd])), (by simp), ih _ _ _ _ _ h hp⟩
      · rw [if_neg h_1019] at h
        have e_1020 : (max i_1009 x_1014 = i_1010) = False := eq_false h_1019
        simp only [e_1013, e_1016, e_1017, e_1018, e_1020, go_sem, reduceIte, reduceCtorEq, Nat.reduceEqDiff, Nat.reduceLT, Nat.reduceLeDiff, Nat.reduceAdd, Nat.reduceSub, Nat.reduceMul, Int.reduceToNat, Int.reduceLE, Int.reduceLT, Int.reduceAdd, Int.reduceSub, Int.reduceMul, Int.reduceEq, Int.reduceNeg]
        rw [← hQ]
        exact ⟨_, _, (Ref.std [6, 7, 8, 38, 39, 40] [0, 1] (by decide) (by decide) rfl (by first | rfl | simp only [go_sem, reduceIte, Nat.reduceEqDiff, Nat.reduceAdd])), (by simp), ih _ _ _ _ _ h hp⟩
    · rw [if_neg h_1012] at h
      have e_1013 : (i_1010 < (l_0.length : Int)) = False := eq_false h_1012
      simp only [e_1013, go_sem, reduceIte, reduceCtorEq, Nat.reduceEqDiff, Nat.reduceLT, Nat.reduceLeDiff, Nat.reduceAdd, Nat.reduceSub, Nat.reduceMul, Int.reduceToNat, Int.reduceLE, Int.reduceLT, Int.reduceAdd, Int.reduceSub, Int.reduceMul, Int.reduceEq, Int.reduceNeg]
      have g := Option.some.inj h
      subst g
      rw [← hQ]
      exact ⟨_, _, (Ref.std [6] [0, 1] (by decide) (by decide) rfl (by first | rfl | simp only [go_sem, reduceIte, Nat.reduceEqDiff, Nat.reduceAdd])), hp⟩
theorem buffer_Blocks_row_w (N : Nat) (l_0 : List Int) (z_1 : List TArr2_I64) (h : buffer_Blocks_row N l_0 = some z_1) :
    ACalls Go.Proofs.Try.prog 22 [.row 0 0 l_0.length] [.mem 1 (List.map eI64 l_0) 3] (fun e H => H = [.mem 1 (List.map eI64 l_0) 3] ∧ e = .ret (.vec false (List.map eTArr2_I64 z_1))) := by
  unfold buffer_Blocks_row at h
  refine ACalls.goN Go.Proofs.Try.func22 n22 a22 Go.Proofs.Try.ntmps22 r22 (by simp) 1 rfl ?_
  generalize hQ : bodyA _ _ _ = QQ
  obtain ⟨h_1, h⟩ := guardS h
  have e_2 : (0 ≤ (l_0.length : Int)) = True := eq_true h_1
  obtain ⟨h_3, h⟩ := guardS h
  have e_4 : ((l_0.length : Int) * 1 ≤ 140737488355328) = True := eq_true h_3
  have e_5 : List.replicate l_0.length [.bool false] = List.map eB (List.replicate l_0.length false) := rep_map _ eB false
  simp only [A22, e_2, e_4, e_5, go_sem, reduceIte, reduceCtorEq, Nat.reduceEqDiff, Nat.reduceLT, Nat.reduceLeDiff, Nat.reduceAdd, Nat.reduceSub, Nat.reduceMul, Int.reduceToNat, Int.reduceLE, Int.reduceLT, Int.reduceAdd, Int.reduceSub, Int.reduceMul, Int.reduceEq, Int.reduceNeg]
  obtain ⟨o_1007, h_1006, h⟩ := bindS h
  refine ALp.ref (Ref.std [0, 3, 14, 15, 16] [0, 1] (by decide) (by decide) (by simp only [go_sem, reduceIte, Nat.reduceEqDiff, Nat.reduceAdd]) (by simp only [go_sem, reduceIte, Nat.reduceEqDiff, Nat.reduceAdd])) (by simp) (buffer_Blocks_row_L1_w N _ N _ _ o_1007 h_1006 ?_)
  rcases o_1007 with _ | _
  · try dsimp only at h
    refine LoopK_go rfl (by simp) ?_
    simp only [e_2, e_4, e_5, go_sem, reduceIte, reduceCtorEq, Nat.reduceEqDiff, Nat.reduceLT, Nat.reduceLeDiff, Nat.reduceAdd, Nat.reduceSub, Nat.reduceMul, Int.reduceToNat, Int.reduceLE, Int.reduceLT, Int.reduceAdd, Int.reduceSub, Int.reduceMul, Int.reduceEq, Int.reduceNeg]
    obtain ⟨y_2009, h_2008, h⟩ := bindS h
    refine ALp.ref (Ref.trans (Ref.thaw (by simp) 6 rfl (sz := 2) (by decide) 77) (Ref.std [6, 7, 8, 38, 39, 40] [0, 1] (by decide) (by decide) rfl (by first | rfl | simp only [go_sem, reduceIte, Nat.reduceEqDiff, Nat.reduceAdd]))) (by simp) (buffer_Blocks_row_L2_w N _ N _ _ _ _ y_2009 h_2008 ?_)
    refine LoopK_go rfl (by simp) ?_
    simp only [e_2, e_4, e_5, go_sem, reduceIte, reduceCtorEq, Nat.reduceEqDiff, Nat.reduceLT, Nat.reduceLeDiff, Nat.reduceAdd, Nat.reduceSub, Nat.reduceMul, Int.reduceToNat, Int.reduceLE, Int.reduceLT, Int.reduceAdd, Int.reduceSub, Int.reduceMul, Int.reduceEq, Int.reduceNeg]
    have g_0 := Option.some.inj h
    subst g_0
    rw [← hQ]
    exact ⟨rfl, _, rfl, _, _, (RefV.trans (RefV.frz (by simp) (id := 1) rfl (pures_map y_2009 eTArr2_I64 (fun _ => rfl))) (RefV.std [0] (by decide) (by decide) (by first | rfl | simp only [go_sem, reduceIte, Nat.reduceEqDiff, Nat.reduceAdd]) (by first | rfl | simp only [go_sem, reduceIte, Nat.reduceEqDiff, Nat.reduceAdd]))), rfl, rfl⟩
  · try dsimp only at h
    refine LoopK_ret ?_
    have g_0 := Option.some.inj h
    subst g_0
    rw [← hQ]
    exact ⟨rfl, _, rfl, _, _, (RefV.trans (RefV.std (v' := .vec true []) [0] (by decide) (by decide) rfl (by first | rfl | simp only [go_sem, reduceIte, Nat.reduceEqDiff, Nat.reduceAdd])) (RefV.weak (Wks.cons Wk.vec Wks.nil) (WkH.refl _))), rfl, rfl⟩
theorem slices_Clone_apiGlyphapiGlyph_row_w (N : Nat) (l_0 : List TGlyph) (z_1 : List TGlyph) (h : slices_Clone_apiGlyphapiGlyph_row N l_0 = some z_1) :
    ACalls Go.Proofs.Try.prog 53 [.row 0 0 l_0.length] [.mem 14 (List.map eTGlyph l_0) 32] (fun e H => H = [.mem 14 (List.map eTGlyph l_0) 32, .mem 14 (List.map eTGlyph z_1) 32] ∧ e = .ret (.row 1 0 z_1.length)) := by
  unfold slices_Clone_apiGlyphapiGlyph_row at h
  refine ACalls.goN Go.Proofs.Try.func53 n53 a53 Go.Proofs.Try.ntmps53 r53 (by simp) 1 rfl ?_
  generalize hQ : bodyA _ _ _ = QQ
  simp only [A53, go_sem, reduceIte, reduceCtorEq, Nat.reduceEqDiff, Nat.reduceLT, Nat.reduceLeDiff, Nat.reduceAdd, Nat.reduceSub, Nat.reduceMul, Int.reduceToNat, Int.reduceLE, Int.reduceLT, Int.reduceAdd, Int.reduceSub, Int.reduceMul, Int.reduceEq, Int.reduceNeg]
  by_cases h_1 : l_0 = []
  · rw [if_pos h_1] at h
    have e_2 : l_0 = [] := h_1
    simp only [e_2, go_sem, reduceIte, reduceCtorEq, Nat.reduceEqDiff, Nat.reduceLT, Nat.reduceLeDiff, Nat.reduceAdd, Nat.reduceSub, Nat.reduceMul, Int.reduceToNat, Int.reduceLE, Int.reduceLT, Int.reduceAdd, Int.reduceSub, Int.reduceMul, Int.reduceEq, Int.reduceNeg]
    refine ⟨?_, ?_⟩
    · skip
      try simp only [e_2, go_sem, reduceIte, reduceCtorEq, Nat.reduceEqDiff, Nat.reduceLT, Nat.reduceLeDiff, Nat.reduceAdd, Nat.reduceSub, Nat.reduceMul, Int.reduceToNat, Int.reduceLE, Int.reduceLT, Int.reduceAdd, Int.reduceSub, Int.reduceMul, Int.reduceEq, Int.reduceNeg]
      have g_0 := Option.some.inj h
      subst g_0
      rw [← hQ]
      exact ⟨rfl, _, rfl, _, _, (RefV.trans (RefV.thaw0 (by simp) (sz := 14) (by decide) 32) (RefV.std [0, 1] (by decide) (by decide) rfl (by first | rfl | simp only [go_sem, reduceIte, Nat.reduceEqDiff, Nat.reduceAdd, e_2]))), rfl, rfl⟩
    · skip
      try simp only [e_2, go_sem, reduceIte, reduceCtorEq, Nat.reduceEqDiff, Nat.reduceLT, Nat.reduceLeDiff, Nat.reduceAdd, Nat.reduceSub, Nat.reduceMul, Int.reduceToNat, Int.reduceLE, Int.reduceLT, Int.reduceAdd, Int.reduceSub, Int.reduceMul, Int.reduceEq, Int.reduceNeg]
      have g_0 := Option.some.inj h
      subst g_0
      rw [← hQ]
      exact ⟨rfl, _, rfl, _, _, (RefV.std [0, 1] (by decide) (by decide) rfl (by first | rfl | simp only [go_sem, reduceIte, Nat.reduceEqDiff, Nat.reduceAdd, e_2])), rfl, rfl⟩
  · rw [if_neg h_1] at h
    have e_2 : (l_0.length = 0) = False := eq_false (fun q => h_1 (List.eq_nil_of_length_eq_zero q))
    have e_3 : List.take l_0.length (List.map eTGlyph l_0) = (List.map eTGlyph l_0) := List.take_of_length_le (by simp)
    have e_4 : ((List.map eTGlyph l_0)).all (fun el => el.length == 14) = true := all_len _ eTGlyph 14 (fun _ => rfl)
    obtain ⟨h_5, h⟩ := guardS h
    have e_6 : (l_0.length * 112 ≤ 140737488355328) = True := eq_true h_5
    simp only [e_2, e_3, e_4, e_6, go_sem, reduceIte, reduceCtorEq, Nat.reduceEqDiff, Nat.reduceLT, Nat.reduceLeDiff, Nat.reduceAdd, Nat.reduceSub, Nat.reduceMul, Int.reduceToNat, Int.reduceLE, Int.reduceLT, Int.reduceAdd, Int.reduceSub, Int.reduceMul, Int.reduceEq, Int.reduceNeg]
    have g_0 := Option.some.inj h
    subst g_0
    rw [← hQ]
    exact ⟨rfl, _, rfl, _, _, (RefV.std [0, 1] (by decide) (by decide) rfl (by first | rfl | simp only [go_sem, reduceIte, Nat.reduceEqDiff, Nat.reduceAdd, e_2])), rfl, rfl⟩
theorem buffer_Merge_row_L1_w (N : Nat) (a_1 : Int) (a_2 : Int) (l_0 : List TGlyph) (y_1 : List TGlyph) {R : AExit → ATm → List AObj → Prop} : ∀ (n : Nat) (i_20 : Int) (i_21 : Int) (o : Int), buffer_Merge_row_L1 N a_1 a_2 l_0 y_1 n i_20 i_21 = some o → (match o with | z_1 => R (.exit 0) ⟨101, [(0, .row 0 0 l_0.length), (1, .int .i64 a_1), (2, .int .i64 a_2), (7, .row 1 0 y_1.length), (8, .int .i64 z_1)], []⟩ [.mem 14 (List.map eTGlyph l_0) 32, .mem 14 (List.map eTGlyph y_1) 32]) →
    ALp Go.Proofs.Try.prog 1 B16_1 ⟨101, [(0, .row 0 0 l_0.length), (1, .int .i64 a_1), (2, .int .i64 a_2), (7, .row 1 0 y_1.length), (8, .int .i64 i_20), (38, .row 0 (a_1).toNat ((a_2).toNat - (a_1).toNat)), (39, .int .i64 ((((a_2).toNat - (a_1).toNat) : Nat) : Int)), (40, .int .i64 i_21)], []⟩ [.mem 14 (List.map eTGlyph l_0) 32, .mem 14 (List.map eTGlyph y_1) 32] R := by
  intro n
  induction n with
  | zero =>
    intro i_20 i_21 o h _
    have h0 : none = some o := h
    cases h0
  | succ n ih =>
    intro i_20 i_21 o h hp
    rw [buffer_Merge_row_L1] at h
    refine ALp.round ?_
    generalize hQ : RoundQ _ _ _ _ = QQ
    simp only [B16_1, A16, go_sem, reduceIte, reduceCtorEq, Nat.reduceEqDiff, Nat.reduceLT, Nat.reduceLeDiff, Nat.reduceAdd, Nat.reduceSub, Nat.reduceMul, Int.reduceToNat, Int.reduceLE, Int.reduceLT, Int.reduceAdd, Int.reduceSub, Int.reduceMul, Int.reduceEq, Int.reduceNeg]
    by_cases h_22 : i_21 < ((((a_2).toNat - (a_1).toNat) : Nat) : Int)
    · rw [if_pos h_22] at h
      have e_23 : (i_21 < ((((a_2).toNat - (a_1).toNat) : Nat) : Int)) = True := eq_true h_22
      obtain ⟨x_24, h_25, h⟩ := bindS h
      have e_26 : (List.map eTGlyph l_0)[(a_1).toNat + (i_21).toNat]? = some [.int .i64 x_24.Id, .int .i64 x_24.Cluster, .int .i64 x_24.Mask, .int .i64 x_24.Syl, .int .i32 x_24.Code, .int .i64 x_24.Cat, .int .i64 x_24.Pos, .int .i64 x_24.Key, .int .i64 x_24.Lig, .int .i64 x_24.Part, .int .i64 x_24.X, .int .i64 x_24.Y, .int .i64 x_24.Wide, .int .i64 x_24.High] := slI_at_map eTGlyph h_25
      have e_27 : ((0 : Int) ≤ i_21) = True := eq_true (atI_some h_25).1
      have e_28 : ((i_21 : Int) < ((((a_2).toNat - (a_1).toNat) : Nat) : Int)) = True := eq_true (by have := slI_lt h_25; simpa using this)
      simp only [e_23, e_26, e_27, e_28, go_sem, reduceIte, reduceCtorEq, Nat.reduceEqDiff, Nat.reduceLT, Nat.reduceLeDiff, Nat.reduceAdd, Nat.reduceSub, Nat.reduceMul, Int.reduceToNat, Int.reduceLE, Int.reduceLT, Int.reduceAdd, Int.reduceSub, Int.reduceMul, Int.reduceEq, Int.reduceNeg]
      rw [← hQ]
      exact ⟨_, _, (Ref.std [0, 1, 2, 7, 8, 38, 39, 40] [0, 1] (by decide) (by decide) (by first | rfl | simp only [go_sem, reduceIte, Nat.reduceEqDiff, Nat.reduceAdd]) (by first | rfl | simp only [go_sem, reduceIte, Nat.reduceEqDiff, Nat.reduceAdd])), (by simp), ih _ _ _ h hp⟩
    · rw [if_neg h_22] at h
      have e_23 : (i_21 < ((((a_2).toNat - (a_1).toNat) : Nat) : Int)) = False := eq_false h_22
      simp only [e_23, go_sem, reduceIte, reduceCtorEq, Nat.reduceEqDiff, Nat.reduceLT, Nat.reduceLeDiff, Nat.reduceAdd, Nat.reduceSub, Nat.reduceMul, Int.reduceToNat, Int.reduceLE, Int.reduceLT, Int.reduceAdd, Int.reduceSub, Int.reduceMul, Int.reduceEq, Int.reduceNeg]
      have g := Option.some.inj h
      subst g
      rw [← hQ]
      exact ⟨_, _, (Ref.std [0, 1, 2, 7, 8] [0, 1] (by decide) (by decide) rfl (by first | rfl | simp only [go_sem, reduceIte, Nat.reduceEqDiff, Nat.reduceAdd])), hp⟩
theorem buffer_Merge_row_L2_w (N : Nat) (a_1 : Int) (a_2 : Int) (y_1021 : Int) (l_0 : List TGlyph) (y_1 : List TGlyph) {R : AExit → ATm → List AObj → Prop} : ∀ (n : Nat) (i_1022 : Int) (o : Int), buffer_Merge_row_L2 N a_1 a_2 y_1021 l_0 y_1 n i_1022 = some o → (match o with | z_1 => R (.exit 2) ⟨101, [(0, .row 0 0 l_0.length), (2, .int .i64 a_2), (7, .row 1 0 y_1.length), (8, .int .i64 y_1021), (11, .int .i64 z_1), (12, .int .i64 a_2)], []⟩ [.mem 14 (List.map eTGlyph l_0) 32, .mem 14 (List.map eTGlyph y_1) 32]) →
    ALp Go.Proofs.Try.prog 1 B16_2 ⟨101, [(0, .row 0 0 l_0.length), (1, .int .i64 a_1), (2, .int .i64 a_2), (7, .row 1 0 y_1.length), (8, .int .i64 y_1021), (11, .int .i64 i_1022), (12, .int .i64 a_2)], []⟩ [.mem 14 (List.map eTGlyph l_0) 32, .mem 14 (List.map eTGlyph y_1) 32] R := by
  intro n
  induction n with
  | zero =>
    intro i_1022 o h _
    have h0 : none = some o := h
    cases h0
  | succ n ih =>
    intro i_1022 o h hp
    rw [buffer_Merge_row_L2] at h
    refine ALp.round ?_
    generalize hQ : RoundQ _ _ _ _ = QQ
    simp only [B16_2, A16, go_sem, reduceIte, reduceCtorEq, Nat.reduceEqDiff, Nat.reduceLT, Nat.reduceLeDiff, Nat.reduceAdd, Nat.reduceSub, Nat.reduceMul, Int.reduceToNat, Int.reduceLE, Int.reduceLT, Int.reduceAdd, Int.reduceSub, Int.reduceMul, Int.reduceEq, Int.reduceNeg]
    by_cases h_1023 : 0 < i_1022
    · rw [if_pos h_1023] at h
      have e_1024 : (0 < i_1022) = True := eq_true h_1023
      obtain ⟨x_1025, h_1026, h⟩ := bindS h
      have e_1027 : (List.map eTGlyph l_0)[(IntKind.i64.wrap (i_1022 - 1)).toNat]? = some [.int .i64 x_1025.Id, .int .i64 x_1025.Cluster, .int .i64 x_1025.Mask, .int .i64 x_1025.Syl, .int .i32 x_1025.Code, .int .i64 x_1025.Cat, .int .i64 x_1025.Pos, .int .i64 x_1025.Key, .int .i64 x_1025.Lig, .int .i64 x_1025.Part, .int .i64 x_1025.X, .int .i64 x_1025.Y, .int .i64 x_1025.Wide, .int .i64 x_1025.High] := atI_map eTGlyph h_1026
      have e_1028 : ((0 : Int) ≤ IntKind.i64.wrap (i_1022 - 1)) = True := eq_true (atI_some h_1026).1
      have e_1029 : ((IntKind.i64.wrap (i_1022 - 1) : Int) < (l_0.length : Int)) = True := eq_true (atI_lt h_1026)
      obtain ⟨x_1030, h_1031, h⟩ := bindS h
      have e_1032 : (List.map eTGlyph l_0)[(a_1).toNat]? = some [.int .i64 x_1030.Id, .int .i64 x_1030.Cluster, .int .i64 x_1030.Mask, .int .i64 x_1030.Syl, .int .i32 x_1030.Code, .int .i64 x_1030.Cat, .int .i64 x_1030.Pos, .int .i64 x_1030.Key, .int .i64 x_1030.Lig, .int .i64 x_1030.Part, .int .i64 x_1030.X, .int .i64 x_1030.Y, .int .i64 x_1030.Wide, .int .i64 x_1030.High] := atI_map eTGlyph h_1031
      have e_1033 : ((0 : Int) ≤ a_1) = True := eq_true (atI_some h_1031).1
      have e_1034 : ((a_1 : Int) < (l_0.length : Int)) = True := eq_true (atI_lt h_1031)
      simp only [e_1024, e_1027, e_1028, e_1029, e_1032, e_1033, e_1034, go_sem, reduceIte, reduceCtorEq, Nat.reduceEqDiff, Nat.reduceLT, Nat.reduceLeDiff, Nat.reduceAdd, Nat.reduceSub, Nat.reduceMul, Int.reduceToNat, Int.reduceLE, Int.reduceLT, Int.reduceAdd, Int.reduceSub, Int.reduceMul, Int.reduceEq, Int.reduceNeg]
      by_cases h_1035 : x_1025.Cluster = x_1030.Cluster
      · rw [if_pos h_1035] at h
        have e_1036 : (x_1025.Cluster = x_1030.Cluster) = True := eq_true h_1035
        simp only [e_1024, e_1027, e_1028, e_1029, e_1032, e_1033, e_1034, e_1036, go_sem, reduceIte, reduceCtorEq, Nat.reduceEqDiff, Nat.reduceLT, Nat.reduceLeDiff, Nat.reduceAdd, Nat.reduceSub, Nat.reduceMul, Int.reduceToNat, Int.reduceLE, Int.reduceLT, Int.reduceAdd, Int.reduceSub, Int.reduceMul, Int.reduceEq, Int.reduceNeg]
        rw [← hQ]
        exact ⟨_, _, (Ref.std [0, 1, 2, 7, 8, 11, 12] [0, 1] (by decide) (by decide) rfl (by first | rfl | simp only [go_sem, reduceIte, Nat.reduceEqDiff, Nat.reduceAdd])), (by simp), ih _ _ h hp⟩
      · rw [if_neg h_1035] at h
        have e_1036 : (x_1025.Cluster = x_1030.Cluster) = False := eq_false h_1035
        simp only [e_1024, e_1027, e_1028, e_1029, e_1032, e_1033, e_1034, e_1036, go_sem, reduceIte, reduceCtorEq, Nat.reduceEqDiff, Nat.reduceLT, Nat.reduceLeDiff, Nat.reduceAdd, Nat.reduceSub, Nat.reduceMul, Int.reduceToNat, Int.reduceLE, Int.reduceLT, Int.reduceAdd, Int.reduceSub, Int.reduceMul, Int.reduceEq, Int.reduceNeg]
        have g := Option.some.inj h
        subst g
        rw [← hQ]
        exact ⟨_, _, (Ref.std [0, 2, 7, 8, 11, 12] [0, 1] (by decide) (by decide) rfl (by first | rfl | simp only [go_sem, reduceIte, Nat.reduceEqDiff, Nat.reduceAdd])), hp⟩
    · rw [if_neg h_1023] at h
      have e_1024 : (0 < i_1022) = False := eq_false h_1023
      simp only [e_1024, go_sem, reduceIte, reduceCtorEq, Nat.reduceEqDiff, Nat.reduceLT, Nat.reduceLeDiff, Nat.reduceAdd, Nat.reduceSub, Nat.reduceMul, Int.reduceToNat, Int.reduceLE, Int.reduceLT, Int.reduceAdd, Int.reduceSub, Int.reduceMul, Int.reduceEq, Int.reduceNeg]
      have g := Option.some.inj h
      subst g
      rw [← hQ]
      exact ⟨_, _, (Ref.std [0, 2, 7, 8, 11, 12] [0, 1] (by decide) (by decide) rfl (by first | rfl | simp only [go_sem, reduceIte, Nat.reduceEqDiff, Nat.reduceAdd])), hp⟩
theorem buffer_Merge_row_L3_w (N : Nat) (a_2 : Int) (y_1021 : Int) (y_2023 : Int) (l_0 : List TGlyph) (y_1 : List TGlyph) {R : AExit → ATm → List AObj → Prop} : ∀ (n : Nat) (i_2024 : Int) (o : Int), buffer_Merge_row_L3 N a_2 y_1021 y_2023 l_0 y_1 n i_2024 = some o → (match o with | z_1 => R (.exit 4) ⟨101, [(7, .row 1 0 y_1.length), (8, .int .i64 y_1021), (11, .int .i64 y_2023), (12, .int .i64 z_1)], []⟩ [.mem 14 (List.map eTGlyph l_0) 32, .mem 14 (List.map eTGlyph y_1) 32]) →
    ALp Go.Proofs.Try.prog 1 B16_3 ⟨101, [(0, .row 0 0 l_0.length), (2, .int .i64 a_2), (7, .row 1 0 y_1.length), (8, .int .i64 y_1021), (11, .int .i64 y_2023), (12, .int .i64 i_2024)], []⟩ [.mem 14 (List.map eTGlyph l_0) 32, .mem 14 (List.map eTGlyph y_1) 32] R := by
  intro n
  induction n with
  | zero =>
    intro i_2024 o h _
    have h0 : none = some o := h
    cases h0
  | succ n ih =>
    intro i_2024 o h hp
    rw [buffer_Merge_row_L3] at h
    refine ALp.round ?_
    generalize hQ : RoundQ _ _ _ _ = QQ
    simp only [B16_3, A16, go_sem, reduceIte, reduceCtorEq, Nat.reduceEqDiff, Nat.reduceLT, Nat.reduceLeDiff, Nat.reduceAdd, Nat.reduceSub, Nat.reduceMul, Int.reduceToNat, Int.reduceLE, Int.reduceLT, Int.reduceAdd, Int.reduceSub, Int.reduceMul, Int.reduceEq, Int.reduceNeg]
    by_cases h_2025 : i_2024 < (l_0.length : Int)
    · rw [if_pos h_2025] at h
      have e_2026 : (i_2024 < (l_0.length : Int)) = True := eq_true h_2025
      obtain ⟨x_2027, h_2028, h⟩ := bindS h
      have e_2029 : (List.map eTGlyph l_0)[(i_2024).toNat]? = some [.int .i64 x_2027.Id, .int .i64 x_2027.Cluster, .int .i64 x_2027.Mask, .int .i64 x_2027.Syl, .int .i32 x_2027.Code, .int .i64 x_2027.Cat, .int .i64 x_2027.Pos, .int .i64 x_2027.Key, .int .i64 x_2027.Lig, .int .i64 x_2027.Part, .int .i64 x_2027.X, .int .i64 x_2027.Y, .int .i64 x_2027.Wide, .int .i64 x_2027.High] := atI_map eTGlyph h_2028
      have e_2030 : ((0 : Int) ≤ i_2024) = True := eq_true (atI_some h_2028).1
      have e_2031 : ((i_2024 : Int) < (l_0.length : Int)) = True := eq_true (atI_lt h_2028)
      obtain ⟨x_2032, h_2033, h⟩ := bindS h
      have e_2034 : (List.map eTGlyph l_0)[(IntKind.i64.wrap (a_2 - 1)).toNat]? = some [.int .i64 x_2032.Id, .int .i64 x_2032.Cluster, .int .i64 x_2032.Mask, .int .i64 x_2032.Syl, .int .i32 x_2032.Code, .int .i64 x_2032.Cat, .int .i64 x_2032.Pos, .int .i64 x_2032.Key, .int .i64 x_2032.Lig, .int .i64 x_2032.Part, .int .i64 x_2032.X, .int .i64 x_2032.Y, .int .i64 x_2032.Wide, .int .i64 x_2032.High] := atI_map eTGlyph h_2033
      have e_2035 : ((0 : Int) ≤ IntKind.i64.wrap (a_2 - 1)) = True := eq_true (atI_some h_2033).1
      have e_2036 : ((IntKind.i64.wrap (a_2 - 1) : Int) < (l_0.length : Int)) = True := eq_true (atI_lt h_2033)
      simp only [e_2026, e_2029, e_2030, e_2031, e_2034, e_2035, e_2036, go_sem, reduceIte, reduceCtorEq, Nat.reduceEqDiff, Nat.reduceLT, Nat.reduceLeDiff, Nat.reduceAdd, Nat.reduceSub, Nat.reduceMul, Int.reduceToNat, Int.reduceLE, Int.reduceLT, Int.reduceAdd, Int.reduceSub, Int.reduceMul, Int.reduceEq, Int.reduceNeg]
      by_cases h_2037 : x_2027.Cluster = x_2032.Cluster
      · rw [if_pos h_2037] at h
        have e_2038 : (x_2027.Cluster = x_2032.Cluster) = True := eq_true h_2037
        simp only [e_2026, e_2029, e_2030, e_2031, e_2034, e_2035, e_2036, e_2038, go_sem, reduceIte, reduceCtorEq, Nat.reduceEqDiff, Nat.reduceLT, Nat.reduceLeDiff, Nat.reduceAdd, Nat.reduceSub, Nat.reduceMul, Int.reduceToNat, Int.reduceLE, Int.reduceLT, Int.reduceAdd, Int.reduceSub, Int.reduceMul, Int.reduceEq, Int.reduceNeg]
        rw [← hQ]
        exact ⟨_, _, (Ref.std [0, 2, 7, 8, 11, 12] [0, 1] (by decide) (by decide) rfl (by first | rfl | simp only [go_sem, reduceIte, Nat.reduceEqDiff, Nat.reduceAdd])), (by simp), ih _ _ h hp⟩
      · rw [if_neg h_2037] at h
        have e_2038 : (x_2027.Cluster = x_2032.Cluster) = False := eq_false h_2037
        simp only [e_2026, e_2029, e_2030, e_2031, e_2034, e_2035, e_2036, e_2038, go_sem, reduceIte, reduceCtorEq, Nat.reduceEqDiff, Nat.reduceLT, Nat.reduceLeDiff, Nat.reduceAdd, Nat.reduceSub, Nat.reduceMul, Int.reduceToNat, Int.reduceLE, Int.reduceLT, Int.reduceAdd, Int.reduceSub, Int.reduceMul, Int.reduceEq, Int.reduceNeg]
        have g := Option.some.inj h
        subst g
        rw [← hQ]
        exact ⟨_, _, (Ref.std [7, 8, 11, 12] [0, 1] (by decide) (by decide) rfl (by first | rfl | simp only [go_sem, reduceIte, Nat.reduceEqDiff, Nat.reduceAdd])), hp⟩
    · rw [if_neg h_2025] at h
      have e_2026 : (i_2024 < (l_0.length : Int)) = False := eq_false h_2025
      simp only [e_2026, go_sem, reduceIte, reduceCtorEq, Nat.reduceEqDiff, Nat.reduceLT, Nat.reduceLeDiff, Nat.reduceAdd, Nat.reduceSub, Nat.reduceMul, Int.reduceToNat, Int.reduceLE, Int.reduceLT, Int.reduceAdd, Int.reduceSub, Int.reduceMul, Int.reduceEq, Int.reduceNeg]
      have g := Option.some.inj h
      subst g
      rw [← hQ]
      exact ⟨_, _, (Ref.std [7, 8, 11, 12] [0, 1] (by decide) (by decide) rfl (by first | rfl | simp only [go_sem, reduceIte, Nat.reduceEqDiff, Nat.reduceAdd])), hp⟩
theorem buffer_Merge_row_L4_w (N : Nat) (y_1021 : Int) (y_3025 : Int) (l_0 : List TGlyph) {R : AExit → ATm → List AObj → Prop} : ∀ (n : Nat) (i_3026 : Int) (s_3027 : List TGlyph) (o : (List TGlyph)), buffer_Merge_row_L4 N y_1021 y_3025 l_0 n i_3026 s_3027 = some o → (match o with | z_1 => R (.exit 6) ⟨101, [(7, .row 1 0 z_1.length)], []⟩ [.mem 14 (List.map eTGlyph l_0) 32, .mem 14 (List.map eTGlyph z_1) 32]) →
    ALp Go.Proofs.Try.prog 1 B16_4 ⟨101, [(7, .row 1 0 s_3027.length), (8, .int .i64 y_1021), (12, .int .i64 y_3025), (13, .int .i64 i_3026)], []⟩ [.mem 14 (List.map eTGlyph l_0) 32, .mem 14 (List.map eTGlyph s_3027) 32] R := by
  intro n
  induction n with
  | zero =>
    intro i_3026 s_3027 o h _
    have h0 : none = some o := h
    cases h0
  | succ n ih =>
    intro i_3026 s_3027 o h hp
    rw [buffer_Merge_row_L4] at h
    refine ALp.round ?_
    generalize hQ : RoundQ _ _ _ _ = QQ
    simp only [B16_4, A16, go_sem, reduceIte, reduceCtorEq, Nat.reduceEqDiff, Nat.reduceLT, Nat.reduceLeDiff, Nat.reduceAdd, Nat.reduceSub, Nat.reduceMul, Int.reduceToNat, Int.reduceLE, Int.reduceLT, Int.reduceAdd, Int.reduceSub, Int.reduceMul, Int.reduceEq, Int.reduceNeg]
    by_cases h_3028 : i_3026 < y_3025
    · rw [if_pos h_3028] at h
      have e_3029 : (i_3026 < y_3025) = True := eq_true h_3028
      obtain ⟨x_3030, h_3031, h⟩ := bindS h
      have e_3032 : (List.map eTGlyph s_3027)[(i_3026).toNat]? = some [.int .i64 x_3030.Id, .int .i64 x_3030.Cluster, .int .i64 x_3030.Mask, .int .i64 x_3030.Syl, .int .i32 x_3030.Code, .int .i64 x_3030.Cat, .int .i64 x_3030.Pos, .int .i64 x_3030.Key, .int .i64 x_3030.Lig, .int .i64 x_3030.Part, .int .i64 x_3030.X, .int .i64 x_3030.Y, .int .i64 x_3030.Wide, .int .i64 x_3030.High] := atI_map eTGlyph h_3031
      have e_3033 : ((0 : Int) ≤ i_3026) = True := eq_true (atI_some h_3031).1
      have e_3034 : ((i_3026 : Int) < (s_3027.length : Int)) = True := eq_true (atI_lt h_3031)
      have e_3035 : (List.map eTGlyph s_3027).set (i_3026).toNat [.int .i64 x_3030.Id, .int .i64 y_1021, .int .i64 x_3030.Mask, .int .i64 x_3030.Syl, .int .i32 x_3030.Code, .int .i64 x_3030.Cat, .int .i64 x_3030.Pos, .int .i64 x_3030.Key, .int .i64 x_3030.Lig, .int .i64 x_3030.Part, .int .i64 x_3030.X, .int .i64 x_3030.Y, .int .i64 x_3030.Wide, .int .i64 x_3030.High] = List.map eTGlyph (List.set s_3027 (i_3026).toNat (TGlyph.mk x_3030.Id y_1021 x_3030.Mask x_3030.Syl x_3030.Code x_3030.Cat x_3030.Pos x_3030.Key x_3030.Lig x_3030.Part x_3030.X x_3030.Y x_3030.Wide x_3030.High)) := set_map s_3027 eTGlyph (i_3026).toNat (TGlyph.mk x_3030.Id y_1021 x_3030.Mask x_3030.Syl x_3030.Code x_3030.Cat x_3030.Pos x_3030.Key x_3030.Lig x_3030.Part x_3030.X x_3030.Y x_3030.Wide x_3030.High)
      simp only [e_3029, e_3032, e_3033, e_3034, e_3035, go_sem, reduceIte, reduceCtorEq, Nat.reduceEqDiff, Nat.reduceLT, Nat.reduceLeDiff, Nat.reduceAdd, Nat.reduceSub, Nat.reduceMul, Int.reduceToNat, Int.reduceLE, Int.reduceLT, Int.reduceAdd, Int.reduceSub, Int.reduceMul, Int.reduceEq, Int.reduceNeg]
      rw [← hQ]
      exact ⟨_, _, (Ref.std [7, 8, 12, 13] [0, 1] (by decide) (by decide) (by first | rfl | simp only [go_sem, reduceIte, Nat.reduceEqDiff, Nat.reduceAdd]) (by first | rfl | simp only [go_sem, reduceIte, Nat.reduceEqDiff, Nat.reduceAdd])), (by simp), ih _ _ _ h hp⟩
    · rw [if_neg h_3028] at h
      have e_3029 : (i_3026 < y_3025) = False := eq_false h_3028
      simp only [e_3029, go_sem, reduceIte, reduceCtorEq, Nat.reduceEqDiff, Nat.reduceLT, Nat.reduceLeDiff, Nat.reduceAdd, Nat.reduceSub, Nat.reduceMul, Int.reduceToNat, Int.reduceLE, Int.reduceLT, Int.reduceAdd, Int.reduceSub, Int.reduceMul, Int.reduceEq, Int.reduceNeg]
      have g := Option.some.inj h
      subst g
      rw [← hQ]
      exact ⟨_, _, (Ref.std [7] [0, 1] (by decide) (by decide) rfl (by first | rfl | simp only [go_sem, reduceIte, Nat.reduceEqDiff, Nat.reduceAdd])), hp⟩
theorem buffer_Merge_row_w (N : Nat) (l_0 : List TGlyph) (a_1 : Int) (a_2 : Int) (z_1 : List TGlyph) (h : buffer_Merge_row N l_0 a_1 a_2 = some z_1) :
    ACalls Go.Proofs.Try.prog 16 [.row 0 0 l_0.length, .int .i64 a_1, .int .i64 a_2] [.mem 14 (List.map eTGlyph l_0) 32] (fun e H => H = [.mem 14 (List.map eTGlyph l_0) 32, .mem 14 (List.map eTGlyph z_1) 32] ∧ e = .ret (.row 1 0 z_1.length)) := by
  unfold buffer_Merge_row at h
  refine ACalls.goN Go.Proofs.Try.func16 n16 a16 Go.Proofs.Try.ntmps16 r16 (by simp) 1 rfl ?_
  generalize hQ : bodyA _ _ _ = QQ
  obtain ⟨y_1, h_2, h⟩ := bindS h
  simp only [A16, go_sem, reduceIte, reduceCtorEq, Nat.reduceEqDiff, Nat.reduceLT, Nat.reduceLeDiff, Nat.reduceAdd, Nat.reduceSub, Nat.reduceMul, Int.reduceToNat, Int.reduceLE, Int.reduceLT, Int.reduceAdd, Int.reduceSub, Int.reduceMul, Int.reduceEq, Int.reduceNeg]
  refine ACalls.use (slices_Clone_apiGlyphapiGlyph_row_w N _ _ h_2) [0] (by decide) ⟨(by first | rfl | simp only [go_sem, reduceIte, Nat.reduceEqDiff, Nat.reduceAdd]), trivial⟩ rfl (v' := .row 1 0 y_1.length) (by first | rfl | simp only [go_sem, reduceIte, Nat.reduceEqDiff, Nat.reduceAdd]) (H' := [.mem 14 (List.map eTGlyph l_0) 32, .mem 14 (List.map eTGlyph y_1) 32]) (by first | rfl | simp only [go_sem, reduceIte, Nat.reduceEqDiff, Nat.reduceAdd]) ?_
  refine CallK_go (by simp) ?_
  simp only [go_sem, reduceIte, reduceCtorEq, Nat.reduceEqDiff, Nat.reduceLT, Nat.reduceLeDiff, Nat.reduceAdd, Nat.reduceSub, Nat.reduceMul, Int.reduceToNat, Int.reduceLE, Int.reduceLT, Int.reduceAdd, Int.reduceSub, Int.reduceMul, Int.reduceEq, Int.reduceNeg]
  by_cases h_3 : a_1 < 0
  · rw [if_pos h_3] at h
    have e_4 : (a_1 < 0) = True := eq_true h_3
    simp only [e_4, go_sem, reduceIte, reduceCtorEq, Nat.reduceEqDiff, Nat.reduceLT, Nat.reduceLeDiff, Nat.reduceAdd, Nat.reduceSub, Nat.reduceMul, Int.reduceToNat, Int.reduceLE, Int.reduceLT, Int.reduceAdd, Int.reduceSub, Int.reduceMul, Int.reduceEq, Int.reduceNeg]
    have g_0 := Option.some.inj h
    subst g_0
    rw [← hQ]
    exact ⟨rfl, _, rfl, _, _, (RefV.std [0, 1] (by decide) (by decide) rfl (by first | rfl | simp only [go_sem, reduceIte, Nat.reduceEqDiff, Nat.reduceAdd, e_4])), rfl, rfl⟩
  · rw [if_neg h_3] at h
    have e_4 : (a_1 < 0) = False := eq_false h_3
    simp only [e_4, go_sem, reduceIte, reduceCtorEq, Nat.reduceEqDiff, Nat.reduceLT, Nat.reduceLeDiff, Nat.reduceAdd, Nat.reduceSub, Nat.reduceMul, Int.reduceToNat, Int.reduceLE, Int.reduceLT, Int.reduceAdd, Int.reduceSub, Int.reduceMul, Int.reduceEq, Int.reduceNeg]
    by_cases h_5 : (l_0.length : Int) < a_2
    · rw [if_pos h_5] at h
      have e_6 : ((l_0.length : Int) < a_2) = True := eq_true h_5
      simp only [e_4, e_6, go_sem, reduceIte, reduceCtorEq, Nat.reduceEqDiff, Nat.reduceLT, Nat.reduceLeDiff, Nat.reduceAdd, Nat.reduceSub, Nat.reduceMul, Int.reduceToNat, Int.reduceLE, Int.reduceLT, Int.reduceAdd, Int.reduceSub, Int.reduceMul, Int.reduceEq, Int.reduceNeg]
      have g_0 := Option.some.inj h
      subst g_0
      rw [← hQ]
      exact ⟨rfl, _, rfl, _, _, (RefV.std [0, 1] (by decide) (by decide) rfl (by first | rfl | simp only [go_sem, reduceIte, Nat.reduceEqDiff, Nat.reduceAdd, e_4, e_6])), rfl, rfl⟩
    · rw [if_neg h_5] at h
      have e_6 : ((l_0.length : Int) < a_2) = False := eq_false h_5
      simp only [e_4, e_6, go_sem, reduceIte, reduceCtorEq, Nat.reduceEqDiff, Nat.reduceLT, Nat.reduceLeDiff, Nat.reduceAdd, Nat.reduceSub, Nat.reduceMul, Int.reduceToNat, Int.reduceLE, Int.reduceLT, Int.reduceAdd, Int.reduceSub, Int.reduceMul, Int.reduceEq, Int.reduceNeg]
      by_cases h_7 : a_2 ≤ a_1
      · rw [if_pos h_7] at h
        have e_8 : (a_2 ≤ a_1) = True := eq_true h_7
        simp only [e_4, e_6, e_8, go_sem, reduceIte, reduceCtorEq, Nat.reduceEqDiff, Nat.reduceLT, Nat.reduceLeDiff, Nat.reduceAdd, Nat.reduceSub, Nat.reduceMul, Int.reduceToNat, Int.reduceLE, Int.reduceLT, Int.reduceAdd, Int.reduceSub, Int.reduceMul, Int.reduceEq, Int.reduceNeg]
        have g_0 := Option.some.inj h
        subst g_0
        rw [← hQ]
        exact ⟨rfl, _, rfl, _, _, (RefV.std [0, 1] (by decide) (by decide) rfl (by first | rfl | simp only [go_sem, reduceIte, Nat.reduceEqDiff, Nat.reduceAdd, e_4, e_6, e_8])), rfl, rfl⟩
      · rw [if_neg h_7] at h
        have e_8 : (a_2 ≤ a_1) = False := eq_false h_7
        obtain ⟨x_9, h_10, h⟩ := bindS h
        have e_11 : (List.map eTGlyph l_0)[(a_1).toNat]? = some [.int .i64 x_9.Id, .int .i64 x_9.Cluster, .int .i64 x_9.Mask, .int .i64 x_9.Syl, .int .i32 x_9.Code, .int .i64 x_9.Cat, .int .i64 x_9.Pos, .int .i64 x_9.Key, .int .i64 x_9.Lig, .int .i64 x_9.Part, .int .i64 x_9.X, .int .i64 x_9.Y, .int .i64 x_9.Wide, .int .i64 x_9.High] := atI_map eTGlyph h_10
        have e_12 : ((0 : Int) ≤ a_1) = True := eq_true (atI_some h_10).1
        have e_13 : ((a_1 : Int) < (l_0.length : Int)) = True := eq_true (atI_lt h_10)
        obtain ⟨h_14, h⟩ := guardS h
        have e_15 : (0 ≤ a_1) = True := eq_true h_14
        obtain ⟨h_16, h⟩ := guardS h
        have e_17 : (a_1 ≤ a_2) = True := eq_true h_16
        obtain ⟨h_18, h⟩ := guardS h
        have e_19 : (a_2 ≤ (l_0.length : Int)) = True := eq_true h_18
        simp only [e_4, e_6, e_8, e_11, e_12, e_13, e_15, e_17, e_19, go_sem, reduceIte, reduceCtorEq, Nat.reduceEqDiff, Nat.reduceLT, Nat.reduceLeDiff, Nat.reduceAdd, Nat.reduceSub, Nat.reduceMul, Int.reduceToNat, Int.reduceLE, Int.reduceLT, Int.reduceAdd, Int.reduceSub, Int.reduceMul, Int.reduceEq, Int.reduceNeg]
        obtain ⟨y_1021, h_1020, h⟩ := bindS h
        refine ALp.ref (Ref.std [0, 1, 2, 7, 8, 38, 39, 40] [0, 1] (by decide) (by decide) (by first | rfl | simp only [go_sem, reduceIte, Nat.reduceEqDiff, Nat.reduceAdd]) (by first | rfl | simp only [go_sem, reduceIte, Nat.reduceEqDiff, Nat.reduceAdd])) (by simp) (buffer_Merge_row_L1_w N _ _ _ _ N _ _ y_1021 h_1020 ?_)
        refine LoopK_go rfl (by simp) ?_
        simp only [e_4, e_6, e_8, e_11, e_12, e_13, e_15, e_17, e_19, go_sem, reduceIte, reduceCtorEq, Nat.reduceEqDiff, Nat.reduceLT, Nat.reduceLeDiff, Nat.reduceAdd, Nat.reduceSub, Nat.reduceMul, Int.reduceToNat, Int.reduceLE, Int.reduceLT, Int.reduceAdd, Int.reduceSub, Int.reduceMul, Int.reduceEq, Int.reduceNeg]
        obtain ⟨y_2023, h_2022, h⟩ := bindS h
        refine ALp.ref (Ref.std [0, 1, 2, 7, 8, 11, 12] [0, 1] (by decide) (by decide) rfl (by first | rfl | simp only [go_sem, reduceIte, Nat.reduceEqDiff, Nat.reduceAdd])) (by simp) (buffer_Merge_row_L2_w N _ _ _ _ _ N _ y_2023 h_2022 ?_)
        refine LoopK_go rfl (by simp) ?_
        simp only [e_4, e_6, e_8, e_11, e_12, e_13, e_15, e_17, e_19, go_sem, reduceIte, reduceCtorEq, Nat.reduceEqDiff, Nat.reduceLT, Nat.reduceLeDiff, Nat.reduceAdd, Nat.reduceSub, Nat.reduceMul, Int.reduceToNat, Int.reduceLE, Int.reduceLT, Int.reduceAdd, Int.reduceSub, Int.reduceMul, Int.reduceEq, Int.reduceNeg]
        obtain ⟨y_3025, h_3024, h⟩ := bindS h
        refine ALp.ref (Ref.std [0, 2, 7, 8, 11, 12] [0, 1] (by decide) (by decide) rfl (by first | rfl | simp only [go_sem, reduceIte, Nat.reduceEqDiff, Nat.reduceAdd])) (by simp) (buffer_Merge_row_L3_w N _ _ _ _ _ N _ y_3025 h_3024 ?_)
        refine LoopK_go rfl (by simp) ?_
        simp only [e_4, e_6, e_8, e_11, e_12, e_13, e_15, e_17, e_19, go_sem, reduceIte, reduceCtorEq, Nat.reduceEqDiff, Nat.reduceLT, Nat.reduceLeDiff, Nat.reduceAdd, Nat.reduceSub, Nat.reduceMul, Int.reduceToNat, Int.reduceLE, Int.reduceLT, Int.reduceAdd, Int.reduceSub, Int.reduceMul, Int.reduceEq, Int.reduceNeg]
        obtain ⟨y_4027, h_4026, h⟩ := bindS h
        refine ALp.ref (Ref.std [7, 8, 12, 13] [0, 1] (by decide) (by decide) rfl (by first | rfl | simp only [go_sem, reduceIte, Nat.reduceEqDiff, Nat.reduceAdd])) (by simp) (buffer_Merge_row_L4_w N _ _ _ N _ _ y_4027 h_4026 ?_)
        refine LoopK_go rfl (by simp) ?_
        simp only [e_4, e_6, e_8, e_11, e_12, e_13, e_15, e_17, e_19, go_sem, reduceIte, reduceCtorEq, Nat.reduceEqDiff, Nat.reduceLT, Nat.reduceLeDiff, Nat.reduceAdd, Nat.reduceSub, Nat.reduceMul, Int.reduceToNat, Int.reduceLE, Int.reduceLT, Int.reduceAdd, Int.reduceSub, Int.reduceMul, Int.reduceEq, Int.reduceNeg]
        have g_0 := Option.some.inj h
        subst g_0
        rw [← hQ]
        exact ⟨rfl, _, rfl, _, _, (RefV.std [0, 1] (by decide) (by decide) rfl (by first | rfl | simp only [go_sem, reduceIte, Nat.reduceEqDiff, Nat.reduceAdd, e_4, e_6, e_8])), rfl, rfl⟩
theorem buffer_Order_row_L1_w (N : Nat) (a_1 : Int) (y_1 : List TArr2_I64) (l_2 : List Int) {R : AExit → ATm → List AObj → Prop} : ∀ (n : Nat) (i_13 : Int) (s_14 : List TGlyph) (o : (List TGlyph)), buffer_Order_row_L1 N a_1 y_1 l_2 n i_13 s_14 = some o → (match o with | z_1 => R (.exit 0) ⟨87, [(1, .int .i64 a_1), (2, .row 0 0 l_2.length), (8, .row 1 0 z_1.length)], []⟩ [.mem 1 (List.map eI64 l_2) 3, .mem 14 (List.map eTGlyph z_1) 32]) →
    ALp Go.Proofs.Try.prog 1 B19_1 ⟨87, [(1, .int .i64 a_1), (2, .row 0 0 l_2.length), (8, .row 1 0 s_14.length), (42, .vec false (List.map eTArr2_I64 y_1)), (43, .int .i64 (y_1.length : Int)), (44, .int .i64 i_13)], []⟩ [.mem 1 (List.map eI64 l_2) 3, .mem 14 (List.map eTGlyph s_14) 32] R := by
  intro n
  induction n with
  | zero =>
    intro i_13 s_14 o h _
    have h0 : none = some o := h
    cases h0
  | succ n ih =>
    intro i_13 s_14 o h hp
    rw [buffer_Order_row_L1] at h
    refine ALp.round ?_
    generalize hQ : RoundQ _ _ _ _ = QQ
    simp only [B19_1, A19, go_sem, reduceIte, reduceCtorEq, Nat.reduceEqDiff, Nat.reduceLT, Nat.reduceLeDiff, Nat.reduceAdd, Nat.reduceSub, Nat.reduceMul, Int.reduceToNat, Int.reduceLE, Int.reduceLT, Int.reduceAdd, Int.reduceSub, Int.reduceMul, Int.reduceEq, Int.reduceNeg]
    by_cases h_15 : i_13 < (y_1.length : Int)
    · rw [if_pos h_15] at h
      have e_16 : (i_13 < (y_1.length : Int)) = True := eq_true h_15
      obtain ⟨x_17, h_18, h⟩ := bindS h
      have e_19 : (List.map eTArr2_I64 y_1)[(i_13).toNat]? = some [.int .i64 x_17.e0, .int .i64 x_17.e1] := atI_map eTArr2_I64 h_18
      have e_20 : ((0 : Int) ≤ i_13) = True := eq_true (atI_some h_18).1
      have e_21 : ((i_13 : Int) < (y_1.length : Int)) = True := eq_true (atI_lt h_18)
      simp only [e_16, e_19, e_20, e_21, go_sem, reduceIte, reduceCtorEq, Nat.reduceEqDiff, Nat.reduceLT, Nat.reduceLeDiff, Nat.reduceAdd, Nat.reduceSub, Nat.reduceMul, Int.reduceToNat, Int.reduceLE, Int.reduceLT, Int.reduceAdd, Int.reduceSub, Int.reduceMul, Int.reduceEq, Int.reduceNeg]
      by_cases h_22 : 1 < IntKind.i64.wrap (x_17.e1 - x_17.e0)
      · rw [if_pos h_22] at h
        have e_23 : (1 < IntKind.i64.wrap (x_17.e1 - x_17.e0)) = True := eq_true h_22
        obtain ⟨y_24, h_25, h⟩ := bindS h
        simp only [e_16, e_19, e_20, e_21, e_23, go_sem, reduceIte, reduceCtorEq, Nat.reduceEqDiff, Nat.reduceLT, Nat.reduceLeDiff, Nat.reduceAdd, Nat.reduceSub, Nat.reduceMul, Int.reduceToNat, Int.reduceLE, Int.reduceLT, Int.reduceAdd, Int.reduceSub, Int.reduceMul, Int.reduceEq, Int.reduceNeg]
        refine ACalls.use (buffer_Merge_row_w N _ _ _ _ h_25) [1] (by decide) ⟨(by first | rfl | simp only [go_sem, reduceIte, Nat.reduceEqDiff, Nat.reduceAdd, e_16, e_23]), trivial⟩ rfl (v' := .row 3 0 y_24.length) (by first | rfl | simp only [go_sem, reduceIte, Nat.reduceEqDiff, Nat.reduceAdd, e_16, e_23]) (H' := [.mem 1 (List.map eI64 l_2) 3, .mem 14 (List.map eTGlyph s_14) 32, .box [.int .i64 x_17.e0, .int .i64 x_17.e1] 77, .mem 14 (List.map eTGlyph y_24) 32]) (by first | rfl | simp only [go_sem, reduceIte, Nat.reduceEqDiff, Nat.reduceAdd, e_16, e_23]) ?_
        refine CallK_go (by simp) ?_
        simp only [e_16, e_19, e_20, e_21, e_23, go_sem, reduceIte, reduceCtorEq, Nat.reduceEqDiff, Nat.reduceLT, Nat.reduceLeDiff, Nat.reduceAdd, Nat.reduceSub, Nat.reduceMul, Int.reduceToNat, Int.reduceLE, Int.reduceLT, Int.reduceAdd, Int.reduceSub, Int.reduceMul, Int.reduceEq, Int.reduceNeg]
        rw [← hQ]
        exact ⟨_, _, (Ref.std [1, 2, 8, 42, 43, 44] [0, 3] (by decide) (by decide) rfl (by first | rfl | simp only [go_sem, reduceIte, Nat.reduceEqDiff, Nat.reduceAdd])), (by simp), ih _ _ _ h hp⟩
      · rw [if_neg h_22] at h
        have e_23 : (1 < IntKind.i64.wrap (x_17.e1 - x_17.e0)) = False := eq_false h_22
        simp only [e_16, e_19, e_20, e_21, e_23, go_sem, reduceIte, reduceCtorEq, Nat.reduceEqDiff, Nat.reduceLT, Nat.reduceLeDiff, Nat.reduceAdd, Nat.reduceSub, Nat.reduceMul, Int.reduceToNat, Int.reduceLE, Int.reduceLT, Int.reduceAdd, Int.reduceSub, Int.reduceMul, Int.reduceEq, Int.reduceNeg]
        rw [← hQ]
        exact ⟨_, _, (Ref.std [1, 2, 8, 42, 43, 44] [0, 1] (by decide) (by decide) rfl (by first | rfl | simp only [go_sem, reduceIte, Nat.reduceEqDiff, Nat.reduceAdd])), (by simp), ih _ _ _ h hp⟩
    · rw [if_neg h_15] at h
      have e_16 : (i_13 < (y_1.length : Int)) = False := eq_false h_15
      simp only [e_16, go_sem, reduceIte, reduceCtorEq, Nat.reduceEqDiff, Nat.reduceLT, Nat.reduceLeDiff, Nat.reduceAdd, Nat.reduceSub, Nat.reduceMul, Int.reduceToNat, Int.reduceLE, Int.reduceLT, Int.reduceAdd, Int.reduceSub, Int.reduceMul, Int.reduceEq, Int.reduceNeg]
      have g := Option.some.inj h
      subst g
      rw [← hQ]
      exact ⟨_, _, (Ref.std [1, 2, 8] [0, 1] (by decide) (by decide) rfl (by first | rfl | simp only [go_sem, reduceIte, Nat.reduceEqDiff, Nat.reduceAdd])), hp⟩
theorem buffer_Order_row_L2_w (N : Nat) (a_1 : Int) (l_2 : List Int) (y_1015 : List TGlyph) {R : AExit → ATm → List AObj → Prop} : ∀ (n : Nat) (i_1017 : Int) (s_1018 : List TGlyph) (o : (List TGlyph)), buffer_Order_row_L2 N a_1 l_2 y_1015 n i_1017 s_1018 = some o → (match o with | z_1 => R (.exit 2) ⟨87, [(8, .row 1 0 z_1.length)], []⟩ [.mem 1 (List.map eI64 l_2) 3, .mem 14 (List.map eTGlyph z_1) 32]) →
    ALp Go.Proofs.Try.prog 1 B19_2 ⟨87, [(1, .int .i64 a_1), (8, .row 1 0 s_1018.length), (11, .row 2 0 y_1015.length), (67, .row 0 0 l_2.length), (68, .int .i64 (l_2.length : Int)), (69, .int .i64 i_1017)], []⟩ [.mem 1 (List.map eI64 l_2) 3, .mem 14 (List.map eTGlyph s_1018) 32, .mem 14 (List.map eTGlyph y_1015) 32] R := by
  intro n
  induction n with
  | zero =>
    intro i_1017 s_1018 o h _
    have h0 : none = some o := h
    cases h0
  | succ n ih =>
    intro i_1017 s_1018 o h hp
    rw [buffer_Order_row_L2] at h
    refine ALp.round ?_
    generalize hQ : RoundQ _ _ _ _ = QQ
    simp only [B19_2, A19, go_sem, reduceIte, reduceCtorEq, Nat.reduceEqDiff, Nat.reduceLT, Nat.reduceLeDiff, Nat.reduceAdd, Nat.reduceSub, Nat.reduceMul, Int.reduceToNat, Int.reduceLE, Int.reduceLT, Int.reduceAdd, Int.reduceSub, Int.reduceMul, Int.reduceEq, Int.reduceNeg]
    by_cases h_1019 : i_1017 < (l_2.length : Int)
    · rw [if_pos h_1019] at h
      have e_1020 : (i_1017 < (l_2.length : Int)) = True := eq_true h_1019
      obtain ⟨x_1021, h_1022, h⟩ := bindS h
      have e_1023 : (List.map eI64 l_2)[(i_1017).toNat]? = some [.int .i64 x_1021] := atI_map eI64 h_1022
      have e_1024 : ((0 : Int) ≤ i_1017) = True := eq_true (atI_some h_1022).1
      have e_1025 : ((i_1017 : Int) < (l_2.length : Int)) = True := eq_true (atI_lt h_1022)
      obtain ⟨x_1026, h_1027, h⟩ := bindS h
      have e_1028 : (List.map eTGlyph y_1015)[(IntKind.i64.wrap (a_1 + x_1021)).toNat]? = some [.int .i64 x_1026.Id, .int .i64 x_1026.Cluster, .int .i64 x_1026.Mask, .int .i64 x_1026.Syl, .int .i32 x_1026.Code, .int .i64 x_1026.Cat, .int .i64 x_1026.Pos, .int .i64 x_1026.Key, .int .i64 x_1026.Lig, .int .i64 x_1026.Part, .int .i64 x_1026.X, .int .i64 x_1026.Y, .int .i64 x_1026.Wide, .int .i64 x_1026.High] := atI_map eTGlyph h_1027
      have e_1029 : ((0 : Int) ≤ IntKind.i64.wrap (a_1 + x_1021)) = True := eq_true (atI_some h_1027).1
      have e_1030 : ((IntKind.i64.wrap (a_1 + x_1021) : Int) < (y_1015.length : Int)) = True := eq_true (atI_lt h_1027)
      obtain ⟨x_1031, h_1032, h⟩ := bindS h
      have e_1033 : (List.map eTGlyph s_1018)[(IntKind.i64.wrap (a_1 + i_1017)).toNat]? = some [.int .i64 x_1031.Id, .int .i64 x_1031.Cluster, .int .i64 x_1031.Mask, .int .i64 x_1031.Syl, .int .i32 x_1031.Code, .int .i64 x_1031.Cat, .int .i64 x_1031.Pos, .int .i64 x_1031.Key, .int .i64 x_1031.Lig, .int .i64 x_1031.Part, .int .i64 x_1031.X, .int .i64 x_1031.Y, .int .i64 x_1031.Wide, .int .i64 x_1031.High] := atI_map eTGlyph h_1032
      have e_1034 : ((0 : Int) ≤ IntKind.i64.wrap (a_1 + i_1017)) = True := eq_true (atI_some h_1032).1
      have e_1035 : ((IntKind.i64.wrap (a_1 + i_1017) : Int) < (s_1018.length : Int)) = True := eq_true (atI_lt h_1032)
      have e_1036 : (List.map eTGlyph s_1018).set (IntKind.i64.wrap (a_1 + i_1017)).toNat [.int .i64 x_1026.Id, .int .i64 x_1026.Cluster, .int .i64 x_1026.Mask, .int .i64 x_1026.Syl, .int .i32 x_1026.Code, .int .i64 x_1026.Cat, .int .i64 x_1026.Pos, .int .i64 x_1026.Key, .int .i64 x_1026.Lig, .int .i64 x_1026.Part, .int .i64 x_1026.X, .int .i64 x_1026.Y, .int .i64 x_1026.Wide, .int .i64 x_1026.High] = List.map eTGlyph (List.set s_1018 (IntKind.i64.wrap (a_1 + i_1017)).toNat x_1026) := set_map s_1018 eTGlyph (IntKind.i64.wrap (a_1 + i_1017)).toNat x_1026
      simp only [e_1020, e_1023, e_1024, e_1025, e_1028, e_1029, e_1030, e_1033, e_1034, e_1035, e_1036, go_sem, reduceIte, reduceCtorEq, Nat.reduceEqDiff, Nat.reduceLT, Nat.reduceLeDiff, Nat.reduceAdd, Nat.reduceSub, Nat.reduceMul, Int.reduceToNat, Int.reduceLE, Int.reduceLT, Int.reduceAdd, Int.reduceSub, Int.reduceMul, Int.reduceEq, Int.reduceNeg]
      rw [← hQ]
      exact ⟨_, _, (Ref.std [1, 8, 11, 67, 68, 69] [0, 1, 2] (by decide) (by decide) (by first | rfl | simp only [go_sem, reduceIte, Nat.reduceEqDiff, Nat.reduceAdd]) (by first | rfl | simp only [go_sem, reduceIte, Nat.reduceEqDiff, Nat.reduceAdd])), (by simp), ih _ _ _ h hp⟩
    · rw [if_neg h_1019] at h
      have e_1020 : (i_1017 < (l_2.length : Int)) = False := eq_false h_1019
      simp only [e_1020, go_sem, reduceIte, reduceCtorEq, Nat.reduceEqDiff, Nat.reduceLT, Nat.reduceLeDiff, Nat.reduceAdd, Nat.reduceSub, Nat.reduceMul, Int.reduceToNat, Int.reduceLE, Int.reduceLT, Int.reduceAdd, Int.reduceSub, Int.reduceMul, Int.reduceEq, Int.reduceNeg]
      have g := Option.some.inj h
      subst g
      rw [← hQ]
      exact ⟨_, _, (Ref.std [8] [0, 1] (by decide) (by decide) rfl (by first | rfl | simp only [go_sem, reduceIte, Nat.reduceEqDiff, Nat.reduceAdd])), hp⟩
theorem buffer_Order_row_w (N : Nat) (l_0 : List TGlyph) (a_1 : Int) (l_2 : List Int) (c_0 : Bool) (z_1 : List TGlyph) (h : buffer_Order_row N l_0 a_1 l_2 = some z_1) :
    ACalls Go.Proofs.Try.prog 19 [.vec c_0 (List.map eTGlyph l_0), .int .i64 a_1, .row 0 0 l_2.length] [.mem 1 (List.map eI64 l_2) 3] (fun e H => H = [.mem 1 (List.map eI64 l_2) 3] ∧ e = .ret (.vec false (List.map eTGlyph z_1))) := by
  unfold buffer_Order_row at h
  refine ACalls.goN Go.Proofs.Try.func19 n19 a19 Go.Proofs.Try.ntmps19 r19 (by simp) 1 rfl ?_
  generalize hQ : bodyA _ _ _ = QQ
  obtain ⟨y_1, h_2, h⟩ := bindS h
  simp only [A19, go_sem, reduceIte, reduceCtorEq, Nat.reduceEqDiff, Nat.reduceLT, Nat.reduceLeDiff, Nat.reduceAdd, Nat.reduceSub, Nat.reduceMul, Int.reduceToNat, Int.reduceLE, Int.reduceLT, Int.reduceAdd, Int.reduceSub, Int.reduceMul, Int.reduceEq, Int.reduceNeg]
  refine ACalls.use (buffer_Blocks_row_w N _ _ h_2) [0] (by decide) ⟨(by first | rfl | simp only [go_sem, reduceIte, Nat.reduceEqDiff, Nat.reduceAdd]), trivial⟩ rfl (v' := .vec false (List.map eTArr2_I64 y_1)) (by first | rfl | simp only [go_sem, reduceIte, Nat.reduceEqDiff, Nat.reduceAdd]) (H' := [.mem 1 (List.map eI64 l_2) 3]) (by first | rfl | simp only [go_sem, reduceIte, Nat.reduceEqDiff, Nat.reduceAdd]) ?_
  refine CallK_go (by simp) ?_
  obtain ⟨y_3, h_4, h⟩ := bindS h
  simp only [go_sem, reduceIte, reduceCtorEq, Nat.reduceEqDiff, Nat.reduceLT, Nat.reduceLeDiff, Nat.reduceAdd, Nat.reduceSub, Nat.reduceMul, Int.reduceToNat, Int.reduceLE, Int.reduceLT, Int.reduceAdd, Int.reduceSub, Int.reduceMul, Int.reduceEq, Int.reduceNeg]
  refine ACalls.use (slices_Clone_apiGlyphapiGlyph_w N _ _ _ h_4) [] (by decide) trivial rfl (v' := .row 1 0 y_3.length) (by first | rfl | simp only [go_sem, reduceIte, Nat.reduceEqDiff, Nat.reduceAdd]) (H' := [.mem 1 (List.map eI64 l_2) 3, .mem 14 (List.map eTGlyph y_3) 32]) (by first | rfl | simp only [go_sem, reduceIte, Nat.reduceEqDiff, Nat.reduceAdd]) ?_
  refine CallK_go (by simp) ?_
  simp only [go_sem, reduceIte, reduceCtorEq, Nat.reduceEqDiff, Nat.reduceLT, Nat.reduceLeDiff, Nat.reduceAdd, Nat.reduceSub, Nat.reduceMul, Int.reduceToNat, Int.reduceLE, Int.reduceLT, Int.reduceAdd, Int.reduceSub, Int.reduceMul, Int.reduceEq, Int.reduceNeg]
  by_cases h_5 : a_1 < 0
  · rw [if_pos h_5] at h
    have e_6 : (a_1 < 0) = True := eq_true h_5
    simp only [e_6, go_sem, reduceIte, reduceCtorEq, Nat.reduceEqDiff, Nat.reduceLT, Nat.reduceLeDiff, Nat.reduceAdd, Nat.reduceSub, Nat.reduceMul, Int.reduceToNat, Int.reduceLE, Int.reduceLT, Int.reduceAdd, Int.reduceSub, Int.reduceMul, Int.reduceEq, Int.reduceNeg]
    have g_0 := Option.some.inj h
    subst g_0
    rw [← hQ]
    exact ⟨rfl, _, rfl, _, _, (RefV.trans (RefV.frz (by simp) (id := 1) rfl (pures_map y_3 eTGlyph (fun _ => rfl))) (RefV.std [0] (by decide) (by decide) (by first | rfl | simp only [go_sem, reduceIte, Nat.reduceEqDiff, Nat.reduceAdd, e_6]) (by first | rfl | simp only [go_sem, reduceIte, Nat.reduceEqDiff, Nat.reduceAdd, e_6]))), rfl, rfl⟩
  · rw [if_neg h_5] at h
    have e_6 : (a_1 < 0) = False := eq_false h_5
    simp only [e_6, go_sem, reduceIte, reduceCtorEq, Nat.reduceEqDiff, Nat.reduceLT, Nat.reduceLeDiff, Nat.reduceAdd, Nat.reduceSub, Nat.reduceMul, Int.reduceToNat, Int.reduceLE, Int.reduceLT, Int.reduceAdd, Int.reduceSub, Int.reduceMul, Int.reduceEq, Int.reduceNeg]
    by_cases h_7 : (l_0.length : Int) < (l_2.length : Int)
    · rw [if_pos h_7] at h
      have e_8 : ((l_0.length : Int) < (l_2.length : Int)) = True := eq_true h_7
      simp only [e_6, e_8, go_sem, reduceIte, reduceCtorEq, Nat.reduceEqDiff, Nat.reduceLT, Nat.reduceLeDiff, Nat.reduceAdd, Nat.reduceSub, Nat.reduceMul, Int.reduceToNat, Int.reduceLE, Int.reduceLT, Int.reduceAdd, Int.reduceSub, Int.reduceMul, Int.reduceEq, Int.reduceNeg]
      have g_0 := Option.some.inj h
      subst g_0
      rw [← hQ]
      exact ⟨rfl, _, rfl, _, _, (RefV.trans (RefV.frz (by simp) (id := 1) rfl (pures_map y_3 eTGlyph (fun _ => rfl))) (RefV.std [0] (by decide) (by decide) (by first | rfl | simp only [go_sem, reduceIte, Nat.reduceEqDiff, Nat.reduceAdd, e_6, e_8]) (by first | rfl | simp only [go_sem, reduceIte, Nat.reduceEqDiff, Nat.reduceAdd, e_6, e_8]))), rfl, rfl⟩
    · rw [if_neg h_7] at h
      have e_8 : ((l_0.length : Int) < (l_2.length : Int)) = False := eq_false h_7
      simp only [e_6, e_8, go_sem, reduceIte, reduceCtorEq, Nat.reduceEqDiff, Nat.reduceLT, Nat.reduceLeDiff, Nat.reduceAdd, Nat.reduceSub, Nat.reduceMul, Int.reduceToNat, Int.reduceLE, Int.reduceLT, Int.reduceAdd, Int.reduceSub, Int.reduceMul, Int.reduceEq, Int.reduceNeg]
      by_cases h_9 : IntKind.i64.wrap ((l_0.length : Int) - (l_2.length : Int)) < a_1
      · rw [if_pos h_9] at h
        have e_10 : (IntKind.i64.wrap ((l_0.length : Int) - (l_2.length : Int)) < a_1) = True := eq_true h_9
        simp only [e_6, e_8, e_10, go_sem, reduceIte, reduceCtorEq, Nat.reduceEqDiff, Nat.reduceLT, Nat.reduceLeDiff, Nat.reduceAdd, Nat.reduceSub, Nat.reduceMul, Int.reduceToNat, Int.reduceLE, Int.reduceLT, Int.reduceAdd, Int.reduceSub, Int.reduceMul, Int.reduceEq, Int.reduceNeg]
        have g_0 := Option.some.inj h
        subst g_0
        rw [← hQ]
        exact ⟨rfl, _, rfl, _, _, (RefV.trans (RefV.frz (by simp) (id := 1) rfl (pures_map y_3 eTGlyph (fun _ => rfl))) (RefV.std [0] (by decide) (by decide) (by first | rfl | simp only [go_sem, reduceIte, Nat.reduceEqDiff, Nat.reduceAdd, e_6, e_8, e_10]) (by first | rfl | simp only [go_sem, reduceIte, Nat.reduceEqDiff, Nat.reduceAdd, e_6, e_8, e_10]))), rfl, rfl⟩
      · rw [if_neg h_9] at h
        have e_10 : (IntKind.i64.wrap ((l_0.length : Int) - (l_2.length : Int)) < a_1) = False := eq_false h_9
        simp only [e_6, e_8, e_10, go_sem, reduceIte, reduceCtorEq, Nat.reduceEqDiff, Nat.reduceLT, Nat.reduceLeDiff, Nat.reduceAdd, Nat.reduceSub, Nat.reduceMul, Int.reduceToNat, Int.reduceLE, Int.reduceLT, Int.reduceAdd, Int.reduceSub, Int.reduceMul, Int.reduceEq, Int.reduceNeg]
        by_cases h_11 : (y_1.length : Int) = 0
        · rw [if_pos h_11] at h
          have e_12 : ((y_1.length : Int) = 0) = True := eq_true h_11
          simp only [e_6, e_8, e_10, e_12, go_sem, reduceIte, reduceCtorEq, Nat.reduceEqDiff, Nat.reduceLT, Nat.reduceLeDiff, Nat.reduceAdd, Nat.reduceSub, Nat.reduceMul, Int.reduceToNat, Int.reduceLE, Int.reduceLT, Int.reduceAdd, Int.reduceSub, Int.reduceMul, Int.reduceEq, Int.reduceNeg]
          have g_0 := Option.some.inj h
          subst g_0
          rw [← hQ]
          exact ⟨rfl, _, rfl, _, _, (RefV.trans (RefV.frz (by simp) (id := 1) rfl (pures_map y_3 eTGlyph (fun _ => rfl))) (RefV.std [0] (by decide) (by decide) (by first | rfl | simp only [go_sem, reduceIte, Nat.reduceEqDiff, Nat.reduceAdd, e_6, e_8, e_10, e_12]) (by first | rfl | simp only [go_sem, reduceIte, Nat.reduceEqDiff, Nat.reduceAdd, e_6, e_8, e_10, e_12]))), rfl, rfl⟩
        · rw [if_neg h_11] at h
          have e_12 : ((y_1.length : Int) = 0) = False := eq_false h_11
          simp only [e_6, e_8, e_10, e_12, go_sem, reduceIte, reduceCtorEq, Nat.reduceEqDiff, Nat.reduceLT, Nat.reduceLeDiff, Nat.reduceAdd, Nat.reduceSub, Nat.reduceMul, Int.reduceToNat, Int.reduceLE, Int.reduceLT, Int.reduceAdd, Int.reduceSub, Int.reduceMul, Int.reduceEq, Int.reduceNeg]
          obtain ⟨y_1014, h_1013, h⟩ := bindS h
          refine ALp.ref (Ref.std [1, 2, 8, 42, 43, 44] [0, 1] (by decide) (by decide) rfl (by first | rfl | simp only [go_sem, reduceIte, Nat.reduceEqDiff, Nat.reduceAdd])) (by simp) (buffer_Order_row_L1_w N _ _ _ N _ _ y_1014 h_1013 ?_)
          refine LoopK_go rfl (by simp) ?_
          obtain ⟨y_1015, h_1016, h⟩ := bindS h
          simp only [e_6, e_8, e_10, e_12, go_sem, reduceIte, reduceCtorEq, Nat.reduceEqDiff, Nat.reduceLT, Nat.reduceLeDiff, Nat.reduceAdd, Nat.reduceSub, Nat.reduceMul, Int.reduceToNat, Int.reduceLE, Int.reduceLT, Int.reduceAdd, Int.reduceSub, Int.reduceMul, Int.reduceEq, Int.reduceNeg]
          refine ACalls.use (slices_Clone_apiGlyphapiGlyph_row_w N _ _ h_1016) [1] (by decide) ⟨(by first | rfl | simp only [go_sem, reduceIte, Nat.reduceEqDiff, Nat.reduceAdd]), trivial⟩ rfl (v' := .row 2 0 y_1015.length) (by first | rfl | simp only [go_sem, reduceIte, Nat.reduceEqDiff, Nat.reduceAdd]) (H' := [.mem 1 (List.map eI64 l_2) 3, .mem 14 (List.map eTGlyph y_1014) 32, .mem 14 (List.map eTGlyph y_1015) 32]) (by first | rfl | simp only [go_sem, reduceIte, Nat.reduceEqDiff, Nat.reduceAdd]) ?_
          refine CallK_go (by simp) ?_
          simp only [e_6, e_8, e_10, e_12, go_sem, reduceIte, reduceCtorEq, Nat.reduceEqDiff, Nat.reduceLT, Nat.reduceLeDiff, Nat.reduceAdd, Nat.reduceSub, Nat.reduceMul, Int.reduceToNat, Int.reduceLE, Int.reduceLT, Int.reduceAdd, Int.reduceSub, Int.reduceMul, Int.reduceEq, Int.reduceNeg]
          obtain ⟨y_2018, h_2017, h⟩ := bindS h
          refine ALp.ref (Ref.std [1, 8, 11, 67, 68, 69] [0, 1, 2] (by decide) (by decide) rfl (by first | rfl | simp only [go_sem, reduceIte, Nat.reduceEqDiff, Nat.reduceAdd])) (by simp) (buffer_Order_row_L2_w N _ _ _ N _ _ y_2018 h_2017 ?_)
          refine LoopK_go rfl (by simp) ?_
          simp only [e_6, e_8, e_10, e_12, go_sem, reduceIte, reduceCtorEq, Nat.reduceEqDiff, Nat.reduceLT, Nat.reduceLeDiff, Nat.reduceAdd, Nat.reduceSub, Nat.reduceMul, Int.reduceToNat, Int.reduceLE, Int.reduceLT, Int.reduceAdd, Int.reduceSub, Int.reduceMul, Int.reduceEq, Int.reduceNeg]
          have g_0 := Option.some.inj h
          subst g_0
          rw [← hQ]
          exact ⟨rfl, _, rfl, _, _, (RefV.trans (RefV.frz (by simp) (id := 1) rfl (pures_map y_2018 eTGlyph (fun _ => rfl))) (RefV.std [0] (by decide) (by decide) (by first | rfl | simp only [go_sem, reduceIte, Nat.reduceEqDiff, Nat.reduceAdd, e_6, e_8, e_10, e_12]) (by first | rfl | simp only [go_sem, reduceIte, Nat.reduceEqDiff, Nat.reduceAdd, e_6, e_8, e_10, e_12]))), rfl, rfl⟩
theorem ref17_Same_L1_w (N : Nat) (l_0 : List TGlyph) (l_1 : List TGlyph) (c_0 : Bool) (c_1 : Bool) {R : AExit → ATm → List AObj → Prop} : ∀ (n : Nat) (i_3 : Int) (o : (Unit) ⊕ (Unit)), ref17_Same_L1 N l_0 l_1 n i_3 = some o → (match o with | .inl _ => R (.exit 0) ⟨26, [], []⟩ [] | .inr (_) => R .ret ⟨26, [(4, .bool false)], []⟩ []) →
    ALp Go.Proofs.Try.prog 0 B15_1 ⟨26, [(0, .vec c_0 (List.map eTGlyph l_0)), (1, .vec c_1 (List.map eTGlyph l_1)), (5, .int .i64 i_3)], []⟩ [] R := by
  intro n
  induction n with
  | zero =>
    intro i_3 o h _
    have h0 : none = some o := h
    cases h0
  | succ n ih =>
    intro i_3 o h hp
    rw [ref17_Same_L1] at h
    refine ALp.round ?_
    generalize hQ : RoundQ _ _ _ _ = QQ
    simp only [B15_1, A15, go_sem, reduceIte, reduceCtorEq, Nat.reduceEqDiff, Nat.reduceLT, Nat.reduceLeDiff, Nat.reduceAdd, Nat.reduceSub, Nat.reduceMul, Int.reduceToNat, Int.reduceLE, Int.reduceLT, Int.reduceAdd, Int.reduceSub, Int.reduceMul, Int.reduceEq, Int.reduceNeg]
    by_cases h_4 : i_3 < (l_0.length : Int)
    · rw [if_pos h_4] at h
      have e_5 : (i_3 < (l_0.length : Int)) = True := eq_true h_4
      obtain ⟨x_6, h_7, h⟩ := bindS h
      have e_8 : (List.map eTGlyph l_0)[(i_3).toNat]? = some [.int .i64 x_6.Id, .int .i64 x_6.Cluster, .int .i64 x_6.Mask, .int .i64 x_6.Syl, .int .i32 x_6.Code, .int .i64 x_6.Cat, .int .i64 x_6.Pos, .int .i64 x_6.Key, .int .i64 x_6.Lig, .int .i64 x_6.Part, .int .i64 x_6.X, .int .i64 x_6.Y, .int .i64 x_6.Wide, .int .i64 x_6.High] := atI_map eTGlyph h_7
      have e_9 : ((0 : Int) ≤ i_3) = True := eq_true (atI_some h_7).1
      have e_10 : ((i_3 : Int) < (l_0.length : Int)) = True := eq_true (atI_lt h_7)
      obtain ⟨x_11, h_12, h⟩ := bindS h
      have e_13 : (List.map eTGlyph l_1)[(i_3).toNat]? = some [.int .i64 x_11.Id, .int .i64 x_11.Cluster, .int .i64 x_11.Mask, .int .i64 x_11.Syl, .int .i32 x_11.Code, .int .i64 x_11.Cat, .int .i64 x_11.Pos, .int .i64 x_11.Key, .int .i64 x_11.Lig, .int .i64 x_11.Part, .int .i64 x_11.X, .int .i64 x_11.Y, .int .i64 x_11.Wide, .int .i64 x_11.High] := atI_map eTGlyph h_12
      have e_14 : ((0 : Int) ≤ i_3) = True := eq_true (atI_some h_12).1
      have e_15 : ((i_3 : Int) < (l_1.length : Int)) = True := eq_true (atI_lt h_12)
      simp only [e_5, e_8, e_9, e_10, e_13, e_14, e_15, go_sem, reduceIte, reduceCtorEq, Nat.reduceEqDiff, Nat.reduceLT, Nat.reduceLeDiff, Nat.reduceAdd, Nat.reduceSub, Nat.reduceMul, Int.reduceToNat, Int.reduceLE, Int.reduceLT, Int.reduceAdd, Int.reduceSub, Int.reduceMul, Int.reduceEq, Int.reduceNeg]
      by_cases h_16 : x_6.Id = x_11.Id
      · rw [if_pos h_16] at h
        have e_17 : (x_6.Id = x_11.Id) = True := eq_true h_16
        simp only [e_5, e_8, e_9, e_10, e_13, e_14, e_15, e_17, go_sem, reduceIte, reduceCtorEq, Nat.reduceEqDiff, Nat.reduceLT, Nat.reduceLeDiff, Nat.reduceAdd, Nat.reduceSub, Nat.reduceMul, Int.reduceToNat, Int.reduceLE, Int.reduceLT, Int.reduceAdd, Int.reduceSub, Int.reduceMul, Int.reduceEq, Int.reduceNeg]
        by_cases h_18 : x_6.Cluster = x_11.Cluster
        · rw [if_pos h_18] at h
          have e_19 : (x_6.Cluster = x_11.Cluster) = True := eq_true h_18
          simp only [e_5, e_8, e_9, e_10, e_13, e_14, e_15, e_17, e_19, go_sem, reduceIte, reduceCtorEq, Nat.reduceEqDiff, Nat.reduceLT, Nat.reduceLeDiff, Nat.reduceAdd, Nat.reduceSub, Nat.reduceMul, Int.reduceToNat, Int.reduceLE, Int.reduceLT, Int.reduceAdd, Int.reduceSub, Int.reduceMul, Int.reduceEq, Int.reduceNeg]
          by_cases h_20 : x_6.Mask = x_11.Mask
          · rw [if_pos h_20] at h
            have e_21 : (x_6.Mask = x_11.Mask) = True := eq_true h_20
            simp only [e_5, e_8, e_9, e_10, e_13, e_14, e_15, e_17, e_19, e_21, go_sem, reduceIte, reduceCtorEq, Nat.reduceEqDiff, Nat.reduceLT, Nat.reduceLeDiff, Nat.reduceAdd, Nat.reduceSub, Nat.reduceMul, Int.reduceToNat, Int.reduceLE, Int.reduceLT, Int.reduceAdd, Int.reduceSub, Int.reduceMul, Int.reduceEq, Int.reduceNeg]
            by_cases h_22 : x_6.Syl = x_11.Syl
            · rw [if_pos h_22] at h
              have e_23 : (x_6.Syl = x_11.Syl) = True := eq_true h_22
              simp only [e_5, e_8, e_9, e_10, e_13, e_14, e_15, e_17, e_19, e_21, e_23, go_sem, reduceIte, reduceCtorEq, Nat.reduceEqDiff, Nat.reduceLT, Nat.reduceLeDiff, Nat.reduceAdd, Nat.reduceSub, Nat.reduceMul, Int.reduceToNat, Int.reduceLE, Int.reduceLT, Int.reduceAdd, Int.reduceSub, Int.reduceMul, Int.reduceEq, Int.reduceNeg]
              by_cases h_24 : x_6.Code = x_11.Code
              · rw [if_pos h_24] at h
                have e_25 : (x_6.Code = x_11.Code) = True := eq_true h_24
                simp only [e_5, e_8, e_9, e_10, e_13, e_14, e_15, e_17, e_19, e_21, e_23, e_25, go_sem, reduceIte, reduceCtorEq, Nat.reduceEqDiff, Nat.reduceLT, Nat.reduceLeDiff, Nat.reduceAdd, Nat.reduceSub, Nat.reduceMul, Int.reduceToNat, Int.reduceLE, Int.reduceLT, Int.reduceAdd, Int.reduceSub, Int.reduceMul, Int.reduceEq, Int.reduceNeg]
                by_cases h_26 : x_6.Cat = x_11.Cat
                · rw [if_pos h_26] at h
                  have e_27 : (x_6.Cat = x_11.Cat) = True := eq_true h_26
                  simp only [e_5, e_8, e_9, e_10, e_13, e_14, e_15, e_17, e_19, e_21, e_23, e_25, e_27, go_sem, reduceIte, reduceCtorEq, Nat.reduceEqDiff, Nat.reduceLT, Nat.reduceLeDiff, Nat.reduceAdd, Nat.reduceSub, Nat.reduceMul, Int.reduceToNat, Int.reduceLE, Int.reduceLT, Int.reduceAdd, Int.reduceSub, Int.reduceMul, Int.reduceEq, Int.reduceNeg]
                  by_cases h_28 : x_6.Pos = x_11.Pos
                  · rw [if_pos h_28] at h
                    have e_29 : (x_6.Pos = x_11.Pos) = True := eq_true h_28
                    simp only [e_5, e_8, e_9, e_10, e_13, e_14, e_15, e_17, e_19, e_21, e_23, e_25, e_27, e_29, go_sem, reduceIte, reduceCtorEq, Nat.reduceEqDiff, Nat.reduceLT, Nat.reduceLeDiff, Nat.reduceAdd, Nat.reduceSub, Nat.reduceMul, Int.reduceToNat, Int.reduceLE, Int.reduceLT, Int.reduceAdd, Int.reduceSub, Int.reduceMul, Int.reduceEq, Int.reduceNeg]
                    by_cases h_30 : x_6.Key = x_11.Key
                    · rw [if_pos h_30] at h
                      have e_31 : (x_6.Key = x_11.Key) = True := eq_true h_30
                      simp only [e_5, e_8, e_9, e_10, e_13, e_14, e_15, e_17, e_19, e_21, e_23, e_25, e_27, e_29, e_31, go_sem, reduceIte, reduceCtorEq, Nat.reduceEqDiff, Nat.reduceLT, Nat.reduceLeDiff, Nat.reduceAdd, Nat.reduceSub, Nat.reduceMul, Int.reduceToNat, Int.reduceLE, Int.reduceLT, Int.reduceAdd, Int.reduceSub, Int.reduceMul, Int.reduceEq, Int.reduceNeg]
                      by_cases h_32 : x_6.Lig = x_11.Lig
                      · rw [if_pos h_32] at h
                        have e_33 : (x_6.Lig = x_11.Lig) = True := eq_true h_32
                        simp only [e_5, e_8, e_9, e_10, e_13, e_14, e_15, e_17, e_19, e_21, e_23, e_25, e_27, e_29, e_31, e_33, go_sem, reduceIte, reduceCtorEq, Nat.reduceEqDiff, Nat.reduceLT, Nat.reduceLeDiff, Nat.reduceAdd, Nat.reduceSub, Nat.reduceMul, Int.reduceToNat, Int.reduceLE, Int.reduceLT, Int.reduceAdd, Int.reduceSub, Int.reduceMul, Int.reduceEq, Int.reduceNeg]
                        by_cases h_34 : x_6.Part = x_11.Part
                        · rw [if_pos h_34] at h
                          have e_35 : (x_6.Part = x_11.Part) = True := eq_true h_34
                          simp only [e_5, e_8, e_9, e_10, e_13, e_14, e_15, e_17, e_19, e_21, e_23, e_25, e_27, e_29, e_31, e_33, e_35, go_sem, reduceIte, reduceCtorEq, Nat.reduceEqDiff, Nat.reduceLT, Nat.reduceLeDiff, Nat.reduceAdd, Nat.reduceSub, Nat.reduceMul, Int.reduceToNat, Int.reduceLE, Int.reduceLT, Int.reduceAdd, Int.reduceSub, Int.reduceMul, Int.reduceEq, Int.reduceNeg]
                          by_cases h_36 : x_6.X = x_11.X
                          · rw [if_pos h_36] at h
                            have e_37 : (x_6.X = x_11.X) = True := eq_true h_36
                            simp only [e_5, e_8, e_9, e_10, e_13, e_14, e_15, e_17, e_19, e_21, e_23, e_25, e_27, e_29, e_31, e_33, e_35, e_37, go_sem, reduceIte, reduceCtorEq, Nat.reduceEqDiff, Nat.reduceLT, Nat.reduceLeDiff, Nat.reduceAdd, Nat.reduceSub, Nat.reduceMul, Int.reduceToNat, Int.reduceLE, Int.reduceLT, Int.reduceAdd, Int.reduceSub, Int.reduceMul, Int.reduceEq, Int.reduceNeg]
                            by_cases h_38 : x_6.Y = x_11.Y
                            · rw [if_pos h_38] at h
                              have e_39 : (x_6.Y = x_11.Y) = True := eq_true h_38
                              simp only [e_5, e_8, e_9, e_10, e_13, e_14, e_15, e_17, e_19, e_21, e_23, e_25, e_27, e_29, e_31, e_33, e_35, e_37, e_39, go_sem, reduceIte, reduceCtorEq, Nat.reduceEqDiff, Nat.reduceLT, Nat.reduceLeDiff, Nat.reduceAdd, Nat.reduceSub, Nat.reduceMul, Int.reduceToNat, Int.reduceLE, Int.reduceLT, Int.reduceAdd, Int.reduceSub, Int.reduceMul, Int.reduceEq, Int.reduceNeg]
                              by_cases h_40 : x_6.Wide = x_11.Wide
                              · rw [if_pos h_40] at h
                                have e_41 : (x_6.Wide = x_11.Wide) = True := eq_true h_40
                                simp only [e_5, e_8, e_9, e_10, e_13, e_14, e_15, e_17, e_19, e_21, e_23, e_25, e_27, e_29, e_31, e_33, e_35, e_37, e_39, e_41, go_sem, reduceIte, reduceCtorEq, Nat.reduceEqDiff, Nat.reduceLT, Nat.reduceLeDiff, Nat.reduceAdd, Nat.reduceSub, Nat.reduceMul, Int.reduceToNat, Int.reduceLE, Int.reduceLT, Int.reduceAdd, Int.reduceSub, Int.reduceMul, Int.reduceEq, Int.reduceNeg]
                                by_cases h_42 : x_6.High = x_11.High
                                · rw [if_pos h_42] at h
                                  have e_43 : (x_6.High = x_11.High) = True := eq_true h_42
                                  simp only [e_5, e_8, e_9, e_10, e_13, e_14, e_15, e_17, e_19, e_21, e_23, e_25, e_27, e_29, e_31, e_33, e_35, e_37, e_39, e_41, e_43, go_sem, reduceIte, reduceCtorEq, Nat.reduceEqDiff, Nat.reduceLT, Nat.reduceLeDiff, Nat.reduceAdd, Nat.reduceSub, Nat.reduceMul, Int.reduceToNat, Int.reduceLE, Int.reduceLT, Int.reduceAdd, Int.reduceSub, Int.reduceMul, Int.reduceEq, Int.reduceNeg]
                                  rw [← hQ]
                                  exact ⟨_, _, (Ref.out [0, 1, 5] rfl), (Nat.zero_le _), ih _ _ h hp⟩
                                · rw [if_neg h_42] at h
                                  have e_43 : (x_6.High = x_11.High) = False := eq_false h_42
                                  simp only [e_5, e_8, e_9, e_10, e_13, e_14, e_15, e_17, e_19, e_21, e_23, e_25, e_27, e_29, e_31, e_33, e_35, e_37, e_39, e_41, e_43, go_sem, reduceIte, reduceCtorEq, Nat.reduceEqDiff, Nat.reduceLT, Nat.reduceLeDiff, Nat.reduceAdd, Nat.reduceSub, Nat.reduceMul, Int.reduceToNat, Int.reduceLE, Int.reduceLT, Int.reduceAdd, Int.reduceSub, Int.reduceMul, Int.reduceEq, Int.reduceNeg]
                                  have g := Option.some.inj h
                                  subst g
                                  rw [← hQ]
                                  exact ⟨_, _, (Ref.out [4] rfl), hp⟩
                              · rw [if_neg h_40] at h
                                have e_41 : (x_6.Wide = x_11.Wide) = False := eq_false h_40
                                simp only [e_5, e_8, e_9, e_10, e_13, e_14, e_15, e_17, e_19, e_21, e_23, e_25, e_27, e_29, e_31, e_33, e_35, e_37, e_39, e_41, go_sem, reduceIte, reduceCtorEq, Nat.reduceEqDiff, Nat.reduceLT, Nat.reduceLeDiff, Nat.reduceAdd, Nat.reduceSub, Nat.reduceMul, Int.reduceToNat, Int.reduceLE, Int.reduceLT, Int.reduceAdd, Int.reduceSub, Int.reduceMul, Int.reduceEq, Int.reduceNeg]
                                have g := Option.some.inj h
                                subst g
                                rw [← hQ]
                                exact ⟨_, _, (Ref.out [4] rfl), hp⟩
                            · rw [if_neg h_38] at h
                              have e_39 : (x_6.Y = x_11.Y) = False := eq_false h_38
                              simp only [e_5, e_8, e_9, e_10, e_13, e_14, e_15, e_17, e_19, e_21, e_23, e_25, e_27, e_29, e_31, e_33, e_35, e_37, e_39, go_sem, reduceIte, reduceCtorEq, Nat.reduceEqDiff, Nat.reduceLT, Nat.reduceLeDiff, Nat.reduceAdd, Nat.reduceSub, Nat.reduceMul, Int.reduceToNat, Int.reduceLE, Int.reduceLT, Int.reduceAdd, Int.reduceSub, Int.reduceMul, Int.reduceEq, Int.reduceNeg]
                              have g := Option.some.inj h
                              subst g
                              rw [← hQ]
                              exact ⟨_, _, (Ref.out [4] rfl), hp⟩
                          · rw [if_neg h_36] at h
                            have e_37 : (x_6.X = x_11.X) = False := eq_false h_36
                            simp only [e_5, e_8, e_9, e_10, e_13, e_14, e_15, e_17, e_19, e_21, e_23, e_25, e_27, e_29, e_31, e_33, e_35, e_37, go_sem, reduceIte, reduceCtorEq, Nat.reduceEqDiff, Nat.reduceLT, Nat.reduceLeDiff, Nat.reduceAdd, Nat.reduceSub, Nat.reduceMul, Int.reduceToNat, Int.reduceLE, Int.reduceLT, Int.reduceAdd, Int.reduceSub, Int.reduceMul, Int.reduceEq, Int.reduceNeg]
                            have g := Option.some.inj h
                            subst g
                            rw [← hQ]
                            exact ⟨_, _, (Ref.out [4] rfl), hp⟩
                        · rw [if_neg h_34] at h
                          have e_35 : (x_6.Part = x_11.Part) = False := eq_false h_34
                          simp only [e_5, e_8, e_9, e_10, e_13, e_14, e_15, e_17, e_19, e_21, e_23, e_25, e_27, e_29, e_31, e_33, e_35, go_sem, reduceIte, reduceCtorEq, Nat.reduceEqDiff, Nat.reduceLT, Nat.reduceLeDiff, Nat.reduceAdd, Nat.reduceSub, Nat.reduceMul, Int.reduceToNat, Int.reduceLE, Int.reduceLT, Int.reduceAdd, Int.reduceSub, Int.reduceMul, Int.reduceEq, Int.reduceNeg]
                          have g := Option.some.inj h
                          subst g
                          rw [← hQ]
                          exact ⟨_, _, (Ref.out [4] rfl), hp⟩
                      · rw [if_neg h_32] at h
                        have e_33 : (x_6.Lig = x_11.Lig) = False := eq_false h_32
                        simp only [e_5, e_8, e_9, e_10, e_13, e_14, e_15, e_17, e_19, e_21, e_23, e_25, e_27, e_29, e_31, e_33, go_sem, reduceIte, reduceCtorEq, Nat.reduceEqDiff, Nat.reduceLT, Nat.reduceLeDiff, Nat.reduceAdd, Nat.reduceSub, Nat.reduceMul, Int.reduceToNat, Int.reduceLE, Int.reduceLT, Int.reduceAdd, Int.reduceSub, Int.reduceMul, Int.reduceEq, Int.reduceNeg]
                        have g := Option.some.inj h
                        subst g
                        rw [← hQ]
                        exact ⟨_, _, (Ref.out [4] rfl), hp⟩
                    · rw [if_neg h_30] at h
                      have e_31 : (x_6.Key = x_11.Key) = False := eq_false h_30
                      simp only [e_5, e_8, e_9, e_10, e_13, e_14, e_15, e_17, e_19, e_21, e_23, e_25, e_27, e_29, e_31, go_sem, reduceIte, reduceCtorEq, Nat.reduceEqDiff, Nat.reduceLT, Nat.reduceLeDiff, Nat.reduceAdd, Nat.reduceSub, Nat.reduceMul, Int.reduceToNat, Int.reduceLE, Int.reduceLT, Int.reduceAdd, Int.reduceSub, Int.reduceMul, Int.reduceEq, Int.reduceNeg]
                      have g := Option.some.inj h
                      subst g
                      rw [← hQ]
                      exact ⟨_, _, (Ref.out [4] rfl), hp⟩
                  · rw [if_neg h_28] at h
                    have e_29 : (x_6.Pos = x_11.Pos) = False := eq_false h_28
                    simp only [e_5, e_8, e_9, e_10, e_13, e_14, e_15, e_17, e_19, e_21, e_23, e_25, e_27, e_29, go_sem, reduceIte, reduceCtorEq, Nat.reduceEqDiff, Nat.reduceLT, Nat.reduceLeDiff, Nat.reduceAdd, Nat.reduceSub, Nat.reduceMul, Int.reduceToNat, Int.reduceLE, Int.reduceLT, Int.reduceAdd, Int.reduceSub, Int.reduceMul, Int.reduceEq, Int.reduceNeg]
                    have g := Option.some.inj h
                    subst g
                    rw [← hQ]
                    exact ⟨_, _, (Ref.out [4] rfl), hp⟩
                · rw [if_neg h_26] at h
                  have e_27 : (x_6.Cat = x_11.Cat) = False := eq_false h_26
                  simp only [e_5, e_8, e_9, e_10, e_13, e_14, e_15, e_17, e_19, e_21, e_23, e_25, e_27, go_sem, reduceIte, reduceCtorEq, Nat.reduceEqDiff, Nat.reduceLT, Nat.reduceLeDiff, Nat.reduceAdd, Nat.reduceSub, Nat.reduceMul, Int.reduceToNat, Int.reduceLE, Int.reduceLT, Int.reduceAdd, Int.reduceSub, Int.reduceMul, Int.reduceEq, Int.reduceNeg]
                  have g := Option.some.inj h
                  subst g
                  rw [← hQ]
                  exact ⟨_, _, (Ref.out [4] rfl), hp⟩
              · rw [if_neg h_24] at h
                have e_25 : (x_6.Code = x_11.Code) = False := eq_false h_24
                simp only [e_5, e_8, e_9, e_10, e_13, e_14, e_15, e_17, e_19, e_21, e_23, e_25, go_sem, reduceIte, reduceCtorEq, Nat.reduceEqDiff, Nat.reduceLT, Nat.reduceLeDiff, Nat.reduceAdd, Nat.reduceSub, Nat.reduceMul, Int.reduceToNat, Int.reduceLE, Int.reduceLT, Int.reduceAdd, Int.reduceSub, Int.reduceMul, Int.reduceEq, Int.reduceNeg]
                have g := Option.some.inj h
                subst g
                rw [← hQ]
                exact ⟨_, _, (Ref.out [4] rfl), hp⟩
            · rw [if_neg h_22] at h
              have e_23 : (x_6.Syl = x_11.Syl) = False := eq_false h_22
              simp only [e_5, e_8, e_9, e_10, e_13, e_14, e_15, e_17, e_19, e_21, e_23, go_sem, reduceIte, reduceCtorEq, Nat.reduceEqDiff, Nat.reduceLT, Nat.reduceLeDiff, Nat.reduceAdd, Nat.reduceSub, Nat.reduceMul, Int.reduceToNat, Int.reduceLE, Int.reduceLT, Int.reduceAdd, Int.reduceSub, Int.reduceMul, Int.reduceEq, Int.reduceNeg]
              have g := Option.some.inj h
              subst g
              rw [← hQ]
              exact ⟨_, _, (Ref.out [4] rfl), hp⟩
          · rw [if_neg h_20] at h
            have e_21 : (x_6.Mask = x_11.Mask) = False := eq_false h_20
            simp only [e_5, e_8, e_9, e_10, e_13, e_14, e_15, e_17, e_19, e_21, go_sem, reduceIte, reduceCtorEq, Nat.reduceEqDiff, Nat.reduceLT, Nat.reduceLeDiff, Nat.reduceAdd, Nat.reduceSub, Nat.reduceMul, Int.reduceToNat, Int.reduceLE, Int.reduceLT, Int.reduceAdd, Int.reduceSub, Int.reduceMul, Int.reduceEq, Int.reduceNeg]
            have g := Option.some.inj h
            subst g
            rw [← hQ]
            exact ⟨_, _, (Ref.out [4] rfl), hp⟩
        · rw [if_neg h_18] at h
          have e_19 : (x_6.Cluster = x_11.Cluster) = False := eq_false h_18
          simp only [e_5, e_8, e_9, e_10, e_13, e_14, e_15, e_17, e_19, go_sem, reduceIte, reduceCtorEq, Nat.reduceEqDiff, Nat.reduceLT, Nat.reduceLeDiff, Nat.reduceAdd, Nat.reduceSub, Nat.reduceMul, Int.reduceToNat, Int.reduceLE, Int.reduceLT, Int.reduceAdd, Int.reduceSub, Int.reduceMul, Int.reduceEq, Int.reduceNeg]
          have g := Option.some.inj h
          subst g
          rw [← hQ]
          exact ⟨_, _, (Ref.out [4] rfl), hp⟩
      · rw [if_neg h_16] at h
        have e_17 : (x_6.Id = x_11.Id) = False := eq_false h_16
        simp only [e_5, e_8, e_9, e_10, e_13, e_14, e_15, e_17, go_sem, reduceIte, reduceCtorEq, Nat.reduceEqDiff, Nat.reduceLT, Nat.reduceLeDiff, Nat.reduceAdd, Nat.reduceSub, Nat.reduceMul, Int.reduceToNat, Int.reduceLE, Int.reduceLT, Int.reduceAdd, Int.reduceSub, Int.reduceMul, Int.reduceEq, Int.reduceNeg]
        have g := Option.some.inj h
        subst g
        rw [← hQ]
        exact ⟨_, _, (Ref.out [4] rfl), hp⟩
    · rw [if_neg h_4] at h
      have e_5 : (i_3 < (l_0.length : Int)) = False := eq_false h_4
      simp only [e_5, go_sem, reduceIte, reduceCtorEq, Nat.reduceEqDiff, Nat.reduceLT, Nat.reduceLeDiff, Nat.reduceAdd, Nat.reduceSub, Nat.reduceMul, Int.reduceToNat, Int.reduceLE, Int.reduceLT, Int.reduceAdd, Int.reduceSub, Int.reduceMul, Int.reduceEq, Int.reduceNeg]
      have g := Option.some.inj h
      subst g
      rw [← hQ]
      exact ⟨_, _, (Ref.out [] rfl), hp⟩
theorem ref17_Same_w (N : Nat) (l_0 : List TGlyph) (l_1 : List TGlyph) (c_0 : Bool) (c_1 : Bool) (z_1 : Bool) (h : ref17_Same N l_0 l_1 = some z_1) :
    ACalls Go.Proofs.Try.prog 15 [.vec c_0 (List.map eTGlyph l_0), .vec c_1 (List.map eTGlyph l_1)] [] (fun e H => H = [] ∧ e = .ret (.bool z_1)) := by
  unfold ref17_Same at h
  refine ACalls.goN Go.Proofs.Try.func15 n15 a15 Go.Proofs.Try.ntmps15 r15 (by simp) 0 rfl ?_
  generalize hQ : bodyA _ _ _ = QQ
  simp only [A15, go_sem, reduceIte, reduceCtorEq, Nat.reduceEqDiff, Nat.reduceLT, Nat.reduceLeDiff, Nat.reduceAdd, Nat.reduceSub, Nat.reduceMul, Int.reduceToNat, Int.reduceLE, Int.reduceLT, Int.reduceAdd, Int.reduceSub, Int.reduceMul, Int.reduceEq, Int.reduceNeg]
  by_cases h_1 : (l_0.length : Int) = (l_1.length : Int)
  · rw [if_pos h_1] at h
    have e_2 : ((l_0.length : Int) = (l_1.length : Int)) = True := eq_true h_1
    simp only [e_2, go_sem, reduceIte, reduceCtorEq, Nat.reduceEqDiff, Nat.reduceLT, Nat.reduceLeDiff, Nat.reduceAdd, Nat.reduceSub, Nat.reduceMul, Int.reduceToNat, Int.reduceLE, Int.reduceLT, Int.reduceAdd, Int.reduceSub, Int.reduceMul, Int.reduceEq, Int.reduceNeg]
    obtain ⟨o_1004, h_1003, h⟩ := bindS h
    refine ALp.ref (Ref.out [0, 1, 5] rfl) (Nat.zero_le _) (ref17_Same_L1_w N _ _ c_0 c_1 N _ o_1004 h_1003 ?_)
    rcases o_1004 with _ | _
    · try dsimp only at h
      refine LoopK_go rfl (Nat.zero_le _) ?_
      simp only [e_2, go_sem, reduceIte, reduceCtorEq, Nat.reduceEqDiff, Nat.reduceLT, Nat.reduceLeDiff, Nat.reduceAdd, Nat.reduceSub, Nat.reduceMul, Int.reduceToNat, Int.reduceLE, Int.reduceLT, Int.reduceAdd, Int.reduceSub, Int.reduceMul, Int.reduceEq, Int.reduceNeg]
      have g_0 := Option.some.inj h
      subst g_0
      rw [← hQ]
      exact ⟨rfl, _, rfl, _, _, (RefV.out rfl), rfl, rfl⟩
    · try dsimp only at h
      refine LoopK_ret ?_
      have g_0 := Option.some.inj h
      subst g_0
      rw [← hQ]
      exact ⟨rfl, _, rfl, _, _, (RefV.out rfl), rfl, rfl⟩
  · rw [if_neg h_1] at h
    have e_2 : ((l_0.length : Int) = (l_1.length : Int)) = False := eq_false h_1
    simp only [e_2, go_sem, reduceIte, reduceCtorEq, Nat.reduceEqDiff, Nat.reduceLT, Nat.reduceLeDiff, Nat.reduceAdd, Nat.reduceSub, Nat.reduceMul, Int.reduceToNat, Int.reduceLE, Int.reduceLT, Int.reduceAdd, Int.reduceSub, Int.reduceMul, Int.reduceEq, Int.reduceNeg]
    have g_0 := Option.some.inj h
    subst g_0
    rw [← hQ]
    exact ⟨rfl, _, rfl, _, _, (RefV.out rfl), rfl, rfl⟩
theorem buffer_Sort_1_row_w (N : Nat) (a_0 : Int) (a_1 : Int) (l_2 : List Int) (z_1 : Int) (h : buffer_Sort_1_row N a_0 a_1 l_2 = some z_1) :
    ACalls Go.Proofs.Try.prog 56 [.int .i64 a_0, .int .i64 a_1, .ptr 0 0 0] [.box [.row 1 0 l_2.length] 28, .mem 1 (List.map eI64 l_2) 3] (fun e H => H = [.box [.row 2 0 l_2.length] 28, .dead, .mem 1 (List.map eI64 l_2) 3] ∧ e = .ret (.int .i64 z_1)) := by
  unfold buffer_Sort_1_row at h
  refine ACalls.goN Go.Proofs.Try.func56 n56 a56 Go.Proofs.Try.ntmps56 r56 (by simp) 2 rfl ?_
  generalize hQ : bodyA _ _ _ = QQ
  obtain ⟨x_1, h_2, h⟩ := bindS h
  have e_3 : (List.map eI64 l_2)[(a_0).toNat]? = some [.int .i64 x_1] := atI_map eI64 h_2
  have e_4 : ((0 : Int) ≤ a_0) = True := eq_true (atI_some h_2).1
  have e_5 : ((a_0 : Int) < (l_2.length : Int)) = True := eq_true (atI_lt h_2)
  obtain ⟨x_6, h_7, h⟩ := bindS h
  have e_8 : (List.map eI64 l_2)[(a_1).toNat]? = some [.int .i64 x_6] := atI_map eI64 h_7
  have e_9 : ((0 : Int) ≤ a_1) = True := eq_true (atI_some h_7).1
  have e_10 : ((a_1 : Int) < (l_2.length : Int)) = True := eq_true (atI_lt h_7)
  simp only [A56, e_3, e_4, e_5, e_8, e_9, e_10, go_sem, reduceIte, reduceCtorEq, Nat.reduceEqDiff, Nat.reduceLT, Nat.reduceLeDiff, Nat.reduceAdd, Nat.reduceSub, Nat.reduceMul, Int.reduceToNat, Int.reduceLE, Int.reduceLT, Int.reduceAdd, Int.reduceSub, Int.reduceMul, Int.reduceEq, Int.reduceNeg]
  by_cases h_11 : x_1 < x_6
  · rw [if_pos h_11] at h
    have e_12 : (x_1 < x_6) = True := eq_true h_11
    simp only [e_3, e_4, e_5, e_8, e_9, e_10, e_12, go_sem, reduceIte, reduceCtorEq, Nat.reduceEqDiff, Nat.reduceLT, Nat.reduceLeDiff, Nat.reduceAdd, Nat.reduceSub, Nat.reduceMul, Int.reduceToNat, Int.reduceLE, Int.reduceLT, Int.reduceAdd, Int.reduceSub, Int.reduceMul, Int.reduceEq, Int.reduceNeg]
    have g_0 := Option.some.inj h
    subst g_0
    rw [← hQ]
    exact ⟨rfl, _, rfl, _, _, (RefV.trans (RefV.move (by simp) (id := 1) rfl rfl) (RefV.std [0, 1, 2] (by decide) (by decide) (by first | rfl | simp only [go_sem, reduceIte, Nat.reduceEqDiff, Nat.reduceAdd, e_12]) (by first | rfl | simp only [go_sem, reduceIte, Nat.reduceEqDiff, Nat.reduceAdd, e_12]))), rfl, rfl⟩
  · rw [if_neg h_11] at h
    have e_12 : (x_1 < x_6) = False := eq_false h_11
    simp only [e_3, e_4, e_5, e_8, e_9, e_10, e_12, go_sem, reduceIte, reduceCtorEq, Nat.reduceEqDiff, Nat.reduceLT, Nat.reduceLeDiff, Nat.reduceAdd, Nat.reduceSub, Nat.reduceMul, Int.reduceToNat, Int.reduceLE, Int.reduceLT, Int.reduceAdd, Int.reduceSub, Int.reduceMul, Int.reduceEq, Int.reduceNeg]
    by_cases h_13 : x_6 < x_1
    · rw [if_pos h_13] at h
      have e_14 : (x_6 < x_1) = True := eq_true h_13
      simp only [e_3, e_4, e_5, e_8, e_9, e_10, e_12, e_14, go_sem, reduceIte, reduceCtorEq, Nat.reduceEqDiff, Nat.reduceLT, Nat.reduceLeDiff, Nat.reduceAdd, Nat.reduceSub, Nat.reduceMul, Int.reduceToNat, Int.reduceLE, Int.reduceLT, Int.reduceAdd, Int.reduceSub, Int.reduceMul, Int.reduceEq, Int.reduceNeg]
      have g_0 := Option.some.inj h
      subst g_0
      rw [← hQ]
      exact ⟨rfl, _, rfl, _, _, (RefV.trans (RefV.move (by simp) (id := 1) rfl rfl) (RefV.std [0, 1, 2] (by decide) (by decide) (by first | rfl | simp only [go_sem, reduceIte, Nat.reduceEqDiff, Nat.reduceAdd, e_12, e_14]) (by first | rfl | simp only [go_sem, reduceIte, Nat.reduceEqDiff, Nat.reduceAdd, e_12, e_14]))), rfl, rfl⟩
    · rw [if_neg h_13] at h
      have e_14 : (x_6 < x_1) = False := eq_false h_13
      simp only [e_3, e_4, e_5, e_8, e_9, e_10, e_12, e_14, go_sem, reduceIte, reduceCtorEq, Nat.reduceEqDiff, Nat.reduceLT, Nat.reduceLeDiff, Nat.reduceAdd, Nat.reduceSub, Nat.reduceMul, Int.reduceToNat, Int.reduceLE, Int.reduceLT, Int.reduceAdd, Int.reduceSub, Int.reduceMul, Int.reduceEq, Int.reduceNeg]
      have g_0 := Option.some.inj h
      subst g_0
      rw [← hQ]
      exact ⟨rfl, _, rfl, _, _, (RefV.trans (RefV.move (by simp) (id := 1) rfl rfl) (RefV.std [0, 1, 2] (by decide) (by decide) (by first | rfl | simp only [go_sem, reduceIte, Nat.reduceEqDiff, Nat.reduceAdd, e_12, e_14]) (by first | rfl | simp only [go_sem, reduceIte, Nat.reduceEqDiff, Nat.reduceAdd, e_12, e_14]))), rfl, rfl⟩
theorem slices_insertionSortCmpFunc_int_row_L2_w (N : Nat) (a_1 : Int) (a_2 : Int) (i_1 : Int) (l_3 : List Int) {R : AExit → ATm → List AObj → Prop} : ∀ (n : Nat) (i_5 : Int) (s_6 : List Int) (o : (List Int)), slices_insertionSortCmpFunc_int_row_L2 N a_1 a_2 i_1 l_3 n i_5 s_6 = some o → (match o with | z_1 => R (.exit 2) ⟨53, [(0, .row 0 0 z_1.length), (1, .int .i64 a_1), (2, .int .i64 a_2), (3, .fn (.func 56) [] [.ptr 1 0 0]), (8, .int .i64 i_1)], []⟩ [.mem 1 (List.map eI64 z_1) 3, .box [.row 3 0 l_3.length] 28, .dead, .mem 1 (List.map eI64 l_3) 3]) →
    ALp Go.Proofs.Try.prog 3 B89_2 ⟨53, [(0, .row 0 0 s_6.length), (1, .int .i64 a_1), (2, .int .i64 a_2), (3, .fn (.func 56) [] [.ptr 1 0 0]), (8, .int .i64 i_1), (9, .int .i64 i_5)], []⟩ [.mem 1 (List.map eI64 s_6) 3, .box [.row 3 0 l_3.length] 28, .dead, .mem 1 (List.map eI64 l_3) 3] R := by
  intro n
  induction n with
  | zero =>
    intro i_5 s_6 o h _
    have h0 : none = some o := h
    cases h0
  | succ n ih =>
    intro i_5 s_6 o h hp
    rw [slices_insertionSortCmpFunc_int_row_L2] at h
    refine ALp.round ?_
    generalize hQ : RoundQ _ _ _ _ = QQ
    simp only [B89_2, B89_1, A89, go_sem, reduceIte, reduceCtorEq, Nat.reduceEqDiff, Nat.reduceLT, Nat.reduceLeDiff, Nat.reduceAdd, Nat.reduceSub, Nat.reduceMul, Int.reduceToNat, Int.reduceLE, Int.reduceLT, Int.reduceAdd, Int.reduceSub, Int.reduceMul, Int.reduceEq, Int.reduceNeg]
    by_cases h_7 : a_1 < i_5
    · rw [if_pos h_7] at h
      have e_8 : (a_1 < i_5) = True := eq_true h_7
      obtain ⟨x_9, h_10, h⟩ := bindS h
      have e_11 : (List.map eI64 s_6)[(i_5).toNat]? = some [.int .i64 x_9] := atI_map eI64 h_10
      have e_12 : ((0 : Int) ≤ i_5) = True := eq_true (atI_some h_10).1
      have e_13 : ((i_5 : Int) < (s_6.length : Int)) = True := eq_true (atI_lt h_10)
      obtain ⟨x_14, h_15, h⟩ := bindS h
      have e_16 : (List.map eI64 s_6)[(IntKind.i64.wrap (i_5 - 1)).toNat]? = some [.int .i64 x_14] := atI_map eI64 h_15
      have e_17 : ((0 : Int) ≤ IntKind.i64.wrap (i_5 - 1)) = True := eq_true (atI_some h_15).1
      have e_18 : ((IntKind.i64.wrap (i_5 - 1) : Int) < (s_6.length : Int)) = True := eq_true (atI_lt h_15)
      obtain ⟨y_19, h_20, h⟩ := bindS h
      simp only [e_8, e_11, e_12, e_13, e_16, e_17, e_18, go_sem, reduceIte, reduceCtorEq, Nat.reduceEqDiff, Nat.reduceLT, Nat.reduceLeDiff, Nat.reduceAdd, Nat.reduceSub, Nat.reduceMul, Int.reduceToNat, Int.reduceLE, Int.reduceLT, Int.reduceAdd, Int.reduceSub, Int.reduceMul, Int.reduceEq, Int.reduceNeg]
      refine ACalls.use (buffer_Sort_1_row_w N _ _ _ _ h_20) [1, 3] (by decide) ⟨(by first | rfl | simp only [go_sem, reduceIte, Nat.reduceEqDiff, Nat.reduceAdd, e_8]), (by first | rfl | simp only [go_sem, reduceIte, Nat.reduceEqDiff, Nat.reduceAdd, e_8]), trivial⟩ rfl (v' := .int .i64 y_19) (by first | rfl | simp only [go_sem, reduceIte, Nat.reduceEqDiff, Nat.reduceAdd, e_8]) (H' := [.mem 1 (List.map eI64 s_6) 3, .box [.row 4 0 l_3.length] 28, .dead, .dead, .mem 1 (List.map eI64 l_3) 3]) (by first | rfl | simp only [go_sem, reduceIte, Nat.reduceEqDiff, Nat.reduceAdd, e_8]) ?_
      simp only [e_8, e_11, e_12, e_13, e_16, e_17, e_18, go_sem, reduceIte, reduceCtorEq, Nat.reduceEqDiff, Nat.reduceLT, Nat.reduceLeDiff, Nat.reduceAdd, Nat.reduceSub, Nat.reduceMul, Int.reduceToNat, Int.reduceLE, Int.reduceLT, Int.reduceAdd, Int.reduceSub, Int.reduceMul, Int.reduceEq, Int.reduceNeg]
      by_cases h_21 : y_19 < 0
      · rw [if_pos h_21] at h
        have e_22 : (y_19 < 0) = True := eq_true h_21
        have e_23 : (List.map eI64 s_6).set (i_5).toNat [.int .i64 x_14] = List.map eI64 (List.set s_6 (i_5).toNat x_14) := set_map s_6 eI64 (i_5).toNat x_14
        obtain ⟨x_24, h_25, h⟩ := bindS h
        have e_26 : (List.map eI64 (List.set s_6 (i_5).toNat x_14))[(IntKind.i64.wrap (i_5 - 1)).toNat]? = some [.int .i64 x_24] := atI_map eI64 h_25
        have e_27 : ((0 : Int) ≤ IntKind.i64.wrap (i_5 - 1)) = True := eq_true (atI_some h_25).1
        have e_28 : ((IntKind.i64.wrap (i_5 - 1) : Int) < ((s_6.length : Nat) : Int)) = True := eq_true (by have := atI_lt h_25; simpa using this)
        have e_29 : (List.map eI64 (List.set s_6 (i_5).toNat x_14)).set (IntKind.i64.wrap (i_5 - 1)).toNat [.int .i64 x_9] = List.map eI64 (List.set (List.set s_6 (i_5).toNat x_14) (IntKind.i64.wrap (i_5 - 1)).toNat x_9) := set_map (List.set s_6 (i_5).toNat x_14) eI64 (IntKind.i64.wrap (i_5 - 1)).toNat x_9
        simp only [e_8, e_11, e_12, e_13, e_16, e_17, e_18, e_22, e_23, e_26, e_27, e_28, e_29, go_sem, reduceIte, reduceCtorEq, Nat.reduceEqDiff, Nat.reduceLT, Nat.reduceLeDiff, Nat.reduceAdd, Nat.reduceSub, Nat.reduceMul, Int.reduceToNat, Int.reduceLE, Int.reduceLT, Int.reduceAdd, Int.reduceSub, Int.reduceMul, Int.reduceEq, Int.reduceNeg]
        rw [← hQ]
        exact ⟨_, _, (Ref.std [0, 1, 2, 3, 8, 9] [0, 1, 2, 4] (by decide) (by decide) (by first | rfl | simp only [go_sem, reduceIte, Nat.reduceEqDiff, Nat.reduceAdd]) (by first | rfl | simp only [go_sem, reduceIte, Nat.reduceEqDiff, Nat.reduceAdd])), (by simp), ih _ _ _ h hp⟩
      · rw [if_neg h_21] at h
        have e_22 : (y_19 < 0) = False := eq_false h_21
        simp only [e_8, e_11, e_12, e_13, e_16, e_17, e_18, e_22, go_sem, reduceIte, reduceCtorEq, Nat.reduceEqDiff, Nat.reduceLT, Nat.reduceLeDiff, Nat.reduceAdd, Nat.reduceSub, Nat.reduceMul, Int.reduceToNat, Int.reduceLE, Int.reduceLT, Int.reduceAdd, Int.reduceSub, Int.reduceMul, Int.reduceEq, Int.reduceNeg]
        have g := Option.some.inj h
        subst g
        rw [← hQ]
        exact ⟨_, _, (Ref.std [0, 1, 2, 3, 8] [0, 1, 2, 4] (by decide) (by decide) rfl (by first | rfl | simp only [go_sem, reduceIte, Nat.reduceEqDiff, Nat.reduceAdd])), hp⟩
    · rw [if_neg h_7] at h
      have e_8 : (a_1 < i_5) = False := eq_false h_7
      simp only [e_8, go_sem, reduceIte, reduceCtorEq, Nat.reduceEqDiff, Nat.reduceLT, Nat.reduceLeDiff, Nat.reduceAdd, Nat.reduceSub, Nat.reduceMul, Int.reduceToNat, Int.reduceLE, Int.reduceLT, Int.reduceAdd, Int.reduceSub, Int.reduceMul, Int.reduceEq, Int.reduceNeg]
      have g := Option.some.inj h
      subst g
      rw [← hQ]
      exact ⟨_, _, (Ref.std [0, 1, 2, 3, 8] [0, 1, 2, 3] (by decide) (by decide) rfl (by first | rfl | simp only [go_sem, reduceIte, Nat.reduceEqDiff, Nat.reduceAdd])), hp⟩
theorem slices_insertionSortCmpFunc_int_row_L3_w (N : Nat) (a_1 : Int) (a_2 : Int) (l_3 : List Int) {R : AExit → ATm → List AObj → Prop} : ∀ (n : Nat) (i_1 : Int) (s_2 : List Int) (o : (List Int)), slices_insertionSortCmpFunc_int_row_L3 N a_1 a_2 l_3 n i_1 s_2 = some o → (match o with | z_1 => R (.exit 0) ⟨53, [], []⟩ [.mem 1 (List.map eI64 z_1) 3, .box [.row 3 0 l_3.length] 28, .dead, .mem 1 (List.map eI64 l_3) 3]) →
    ALp Go.Proofs.Try.prog 3 B89_1 ⟨53, [(0, .row 0 0 s_2.length), (1, .int .i64 a_1), (2, .int .i64 a_2), (3, .fn (.func 56) [] [.ptr 1 0 0]), (8, .int .i64 i_1)], []⟩ [.mem 1 (List.map eI64 s_2) 3, .box [.row 3 0 l_3.length] 28, .dead, .mem 1 (List.map eI64 l_3) 3] R := by
  intro n
  induction n with
  | zero =>
    intro i_1 s_2 o h _
    have h0 : none = some o := h
    cases h0
  | succ n ih =>
    intro i_1 s_2 o h hp
    rw [slices_insertionSortCmpFunc_int_row_L3] at h
    refine ALp.round ?_
    generalize hQ : RoundQ _ _ _ _ = QQ
    simp only [B89_1, A89, go_sem, reduceIte, reduceCtorEq, Nat.reduceEqDiff, Nat.reduceLT, Nat.reduceLeDiff, Nat.reduceAdd, Nat.reduceSub, Nat.reduceMul, Int.reduceToNat, Int.reduceLE, Int.reduceLT, Int.reduceAdd, Int.reduceSub, Int.reduceMul, Int.reduceEq, Int.reduceNeg]
    by_cases h_3 : i_1 < a_2
    · rw [if_pos h_3] at h
      have e_4 : (i_1 < a_2) = True := eq_true h_3
      simp only [e_4, go_sem, reduceIte, reduceCtorEq, Nat.reduceEqDiff, Nat.reduceLT, Nat.reduceLeDiff, Nat.reduceAdd, Nat.reduceSub, Nat.reduceMul, Int.reduceToNat, Int.reduceLE, Int.reduceLT, Int.reduceAdd, Int.reduceSub, Int.reduceMul, Int.reduceEq, Int.reduceNeg]
      obtain ⟨y_1006, h_1005, h⟩ := bindS h
      refine ALp.ref (Ref.std [0, 1, 2, 3, 8, 9] [0, 1, 2, 3] (by decide) (by decide) rfl (by first | rfl | simp only [go_sem, reduceIte, Nat.reduceEqDiff, Nat.reduceAdd])) (by simp) (slices_insertionSortCmpFunc_int_row_L2_w N _ _ _ _ N _ _ y_1006 h_1005 ?_)
      refine LoopK_go rfl (by simp) ?_
      simp only [e_4, go_sem, reduceIte, reduceCtorEq, Nat.reduceEqDiff, Nat.reduceLT, Nat.reduceLeDiff, Nat.reduceAdd, Nat.reduceSub, Nat.reduceMul, Int.reduceToNat, Int.reduceLE, Int.reduceLT, Int.reduceAdd, Int.reduceSub, Int.reduceMul, Int.reduceEq, Int.reduceNeg]
      rw [← hQ]
      exact ⟨_, _, (Ref.std [0, 1, 2, 3, 8] [0, 1, 2, 3] (by decide) (by decide) rfl (by first | rfl | simp only [go_sem, reduceIte, Nat.reduceEqDiff, Nat.reduceAdd])), (by simp), ih _ _ _ h hp⟩
    · rw [if_neg h_3] at h
      have e_4 : (i_1 < a_2) = False := eq_false h_3
      simp only [e_4, go_sem, reduceIte, reduceCtorEq, Nat.reduceEqDiff, Nat.reduceLT, Nat.reduceLeDiff, Nat.reduceAdd, Nat.reduceSub, Nat.reduceMul, Int.reduceToNat, Int.reduceLE, Int.reduceLT, Int.reduceAdd, Int.reduceSub, Int.reduceMul, Int.reduceEq, Int.reduceNeg]
      have g := Option.some.inj h
      subst g
      rw [← hQ]
      exact ⟨_, _, (Ref.std [] [0, 1, 2, 3] (by decide) (by decide) rfl (by first | rfl | simp only [go_sem, reduceIte, Nat.reduceEqDiff, Nat.reduceAdd])), hp⟩
theorem slices_insertionSortCmpFunc_int_row_w (N : Nat) (l_0 : List Int) (a_1 : Int) (a_2 : Int) (l_3 : List Int) (z_1 : List Int) (h : slices_insertionSortCmpFunc_int_row N l_0 a_1 a_2 l_3 = some z_1) :
    ACalls Go.Proofs.Try.prog 89 [.row 0 0 l_0.length, .int .i64 a_1, .int .i64 a_2, .fn (.func 56) [] [.ptr 1 0 0]] [.mem 1 (List.map eI64 l_0) 3, .box [.row 2 0 l_3.length] 28, .mem 1 (List.map eI64 l_3) 3] (fun e H => H = [.mem 1 (List.map eI64 z_1) 3, .box [.row 3 0 l_3.length] 28, .dead, .mem 1 (List.map eI64 l_3) 3] ∧ e = .ret (.tup [])) := by
  unfold slices_insertionSortCmpFunc_int_row at h
  refine ACalls.goN Go.Proofs.Try.func89 n89 a89 Go.Proofs.Try.ntmps89 r89 (by simp) 3 rfl ?_
  generalize hQ : bodyA _ _ _ = QQ
  simp only [A89, go_sem, reduceIte, reduceCtorEq, Nat.reduceEqDiff, Nat.reduceLT, Nat.reduceLeDiff, Nat.reduceAdd, Nat.reduceSub, Nat.reduceMul, Int.reduceToNat, Int.reduceLE, Int.reduceLT, Int.reduceAdd, Int.reduceSub, Int.reduceMul, Int.reduceEq, Int.reduceNeg]
  obtain ⟨y_1002, h_1001, h⟩ := bindS h
  refine ALp.ref (Ref.trans (Ref.move (by simp) (id := 2) rfl rfl) (Ref.std [0, 1, 2, 3, 8] [0, 1, 2, 3] (by decide) (by decide) rfl (by first | rfl | simp only [go_sem, reduceIte, Nat.reduceEqDiff, Nat.reduceAdd]))) (by simp) (slices_insertionSortCmpFunc_int_row_L3_w N _ _ _ N _ _ y_1002 h_1001 ?_)
  refine LoopK_go rfl (by simp) ?_
  simp only [go_sem, reduceIte, reduceCtorEq, Nat.reduceEqDiff, Nat.reduceLT, Nat.reduceLeDiff, Nat.reduceAdd, Nat.reduceSub, Nat.reduceMul, Int.reduceToNat, Int.reduceLE, Int.reduceLT, Int.reduceAdd, Int.reduceSub, Int.reduceMul, Int.reduceEq, Int.reduceNeg]
  have g_0 := Option.some.inj h
  subst g_0
  rw [← hQ]
  exact ⟨rfl, _, rfl, _, _, (RefV.std [0, 1, 2, 3] (by decide) (by decide) rfl (by first | rfl | simp only [go_sem, reduceIte, Nat.reduceEqDiff, Nat.reduceAdd])), rfl, rfl⟩
theorem slices_stableCmpFunc_int_row_L1_w (N : Nat) (a_1 : Int) (l_2 : List Int) {R : AExit → ATm → List AObj → Prop} : ∀ (n : Nat) (i_1 : Int) (i_2 : Int) (s_3 : List Int) (o : Int × (List Int)), slices_stableCmpFunc_int_row_L1 N a_1 l_2 n i_1 i_2 s_3 = some o → (match o with | (z_1, z_2) => R (.exit 0) ⟨63, [(0, .row 0 0 z_2.length), (1, .int .i64 a_1), (2, .fn (.func 56) [] [.ptr 1 0 0]), (6, .int .i64 20), (7, .int .i64 z_1)], []⟩ [.mem 1 (List.map eI64 z_2) 3, .box [.row 3 0 l_2.length] 28, .dead, .mem 1 (List.map eI64 l_2) 3]) →
    ALp Go.Proofs.Try.prog 3 B75_1 ⟨63, [(0, .row 0 0 s_3.length), (1, .int .i64 a_1), (2, .fn (.func 56) [] [.ptr 1 0 0]), (6, .int .i64 20), (7, .int .i64 i_1), (8, .int .i64 i_2)], []⟩ [.mem 1 (List.map eI64 s_3) 3, .box [.row 3 0 l_2.length] 28, .dead, .mem 1 (List.map eI64 l_2) 3] R := by
  intro n
  induction n with
  | zero =>
    intro i_1 i_2 s_3 o h _
    have h0 : none = some o := h
    cases h0
  | succ n ih =>
    intro i_1 i_2 s_3 o h hp
    rw [slices_stableCmpFunc_int_row_L1] at h
    refine ALp.round ?_
    generalize hQ : RoundQ _ _ _ _ = QQ
    simp only [B75_1, A75, go_sem, reduceIte, reduceCtorEq, Nat.reduceEqDiff, Nat.reduceLT, Nat.reduceLeDiff, Nat.reduceAdd, Nat.reduceSub, Nat.reduceMul, Int.reduceToNat, Int.reduceLE, Int.reduceLT, Int.reduceAdd, Int.reduceSub, Int.reduceMul, Int.reduceEq, Int.reduceNeg]
    by_cases h_4 : i_2 ≤ a_1
    · rw [if_pos h_4] at h
      have e_5 : (i_2 ≤ a_1) = True := eq_true h_4
      obtain ⟨y_6, h_7, h⟩ := bindS h
      simp only [e_5, go_sem, reduceIte, reduceCtorEq, Nat.reduceEqDiff, Nat.reduceLT, Nat.reduceLeDiff, Nat.reduceAdd, Nat.reduceSub, Nat.reduceMul, Int.reduceToNat, Int.reduceLE, Int.reduceLT, Int.reduceAdd, Int.reduceSub, Int.reduceMul, Int.reduceEq, Int.reduceNeg]
      refine ACalls.use (slices_insertionSortCmpFunc_int_row_w N _ _ _ _ _ h_7) [0, 1, 3] (by decide) ⟨(by first | rfl | simp only [go_sem, reduceIte, Nat.reduceEqDiff, Nat.reduceAdd, e_5]), (by first | rfl | simp only [go_sem, reduceIte, Nat.reduceEqDiff, Nat.reduceAdd, e_5]), (by first | rfl | simp only [go_sem, reduceIte, Nat.reduceEqDiff, Nat.reduceAdd, e_5]), trivial⟩ rfl (v' := .tup []) (by first | rfl | simp only [go_sem, reduceIte, Nat.reduceEqDiff, Nat.reduceAdd, e_5]) (H' := [.mem 1 (List.map eI64 y_6) 3, .box [.row 4 0 l_2.length] 28, .dead, .dead, .mem 1 (List.map eI64 l_2) 3]) (by first | rfl | simp only [go_sem, reduceIte, Nat.reduceEqDiff, Nat.reduceAdd, e_5]) ?_
      refine CallK_go (by simp) ?_
      obtain ⟨h_8, h⟩ := guardS h
      simp only [e_5, go_sem, reduceIte, reduceCtorEq, Nat.reduceEqDiff, Nat.reduceLT, Nat.reduceLeDiff, Nat.reduceAdd, Nat.reduceSub, Nat.reduceMul, Int.reduceToNat, Int.reduceLE, Int.reduceLT, Int.reduceAdd, Int.reduceSub, Int.reduceMul, Int.reduceEq, Int.reduceNeg]
      rw [← hQ]
      exact ⟨_, _, (Ref.std (l' := [(0, .row 0 0 y_6.length), (1, .int .i64 a_1), (2, .fn (.func 56) [] [.ptr 1 0 0]), (6, .int .i64 20), (7, .int .i64 i_2), (8, .int .i64 (IntKind.i64.wrap (i_2 + 20)))]) (H' := [.mem 1 (List.map eI64 y_6) 3, .box [.row 3 0 l_2.length] 28, .dead, .mem 1 (List.map eI64 l_2) 3]) [0, 1, 2, 6, 7, 8] [0, 1, 2, 4] (by decide) (by decide) (by first | rfl | simp only [go_sem, reduceIte, Nat.reduceEqDiff, Nat.reduceAdd, h_8]) (by first | rfl | simp only [go_sem, reduceIte, Nat.reduceEqDiff, Nat.reduceAdd, h_8])), (by simp), ih _ _ _ _ h hp⟩
    · rw [if_neg h_4] at h
      have e_5 : (i_2 ≤ a_1) = False := eq_false h_4
      simp only [e_5, go_sem, reduceIte, reduceCtorEq, Nat.reduceEqDiff, Nat.reduceLT, Nat.reduceLeDiff, Nat.reduceAdd, Nat.reduceSub, Nat.reduceMul, Int.reduceToNat, Int.reduceLE, Int.reduceLT, Int.reduceAdd, Int.reduceSub, Int.reduceMul, Int.reduceEq, Int.reduceNeg]
      have g := Option.some.inj h
      subst g
      rw [← hQ]
      exact ⟨_, _, (Ref.std [0, 1, 2, 6, 7] [0, 1, 2, 3] (by decide) (by decide) rfl (by first | rfl | simp only [go_sem, reduceIte, Nat.reduceEqDiff, Nat.reduceAdd])), hp⟩
theorem slices_swapRangeCmpFunc_int_row_L1_w (N : Nat) (a_1 : Int) (a_2 : Int) (a_3 : Int) (l_4 : List Int) {R : AExit → ATm → List AObj → Prop} : ∀ (n : Nat) (i_1 : Int) (s_2 : List Int) (o : (List Int)), slices_swapRangeCmpFunc_int_row_L1 N a_1 a_2 a_3 l_4 n i_1 s_2 = some o → (match o with | z_1 => R (.exit 0) ⟨38, [], []⟩ [.mem 1 (List.map eI64 z_1) 3, .box [.row 2 0 l_4.length] 28, .mem 1 (List.map eI64 l_4) 3]) →
    ALp Go.Proofs.Try.prog 3 B104_1 ⟨38, [(0, .row 0 0 s_2.length), (1, .int .i64 a_1), (2, .int .i64 a_2), (3, .int .i64 a_3), (10, .int .i64 i_1)], []⟩ [.mem 1 (List.map eI64 s_2) 3, .box [.row 2 0 l_4.length] 28, .mem 1 (List.map eI64 l_4) 3] R := by
  intro n
  induction n with
  | zero =>
    intro i_1 s_2 o h _
    have h0 : none = some o := h
    cases h0
  | succ n ih =>
    intro i_1 s_2 o h hp
    rw [slices_swapRangeCmpFunc_int_row_L1] at h
    refine ALp.round ?_
    generalize hQ : RoundQ _ _ _ _ = QQ
    simp only [B104_1, A104, go_sem, reduceIte, reduceCtorEq, Nat.reduceEqDiff, Nat.reduceLT, Nat.reduceLeDiff, Nat.reduceAdd, Nat.reduceSub, Nat.reduceMul, Int.reduceToNat, Int.reduceLE, Int.reduceLT, Int.reduceAdd, Int.reduceSub, Int.reduceMul, Int.reduceEq, Int.reduceNeg]
    by_cases h_3 : i_1 < a_3
    · rw [if_pos h_3] at h
      have e_4 : (i_1 < a_3) = True := eq_true h_3
      obtain ⟨x_5, h_6, h⟩ := bindS h
      have e_7 : (List.map eI64 s_2)[(IntKind.i64.wrap (a_2 + i_1)).toNat]? = some [.int .i64 x_5] := atI_map eI64 h_6
      have e_8 : ((0 : Int) ≤ IntKind.i64.wrap (a_2 + i_1)) = True := eq_true (atI_some h_6).1
      have e_9 : ((IntKind.i64.wrap (a_2 + i_1) : Int) < (s_2.length : Int)) = True := eq_true (atI_lt h_6)
      obtain ⟨x_10, h_11, h⟩ := bindS h
      have e_12 : (List.map eI64 s_2)[(IntKind.i64.wrap (a_1 + i_1)).toNat]? = some [.int .i64 x_10] := atI_map eI64 h_11
      have e_13 : ((0 : Int) ≤ IntKind.i64.wrap (a_1 + i_1)) = True := eq_true (atI_some h_11).1
      have e_14 : ((IntKind.i64.wrap (a_1 + i_1) : Int) < (s_2.length : Int)) = True := eq_true (atI_lt h_11)
      have e_15 : (List.map eI64 s_2).set (IntKind.i64.wrap (a_1 + i_1)).toNat [.int .i64 x_5] = List.map eI64 (List.set s_2 (IntKind.i64.wrap (a_1 + i_1)).toNat x_5) := set_map s_2 eI64 (IntKind.i64.wrap (a_1 + i_1)).toNat x_5
      obtain ⟨x_16, h_17, h⟩ := bindS h
      have e_18 : (List.map eI64 (List.set s_2 (IntKind.i64.wrap (a_1 + i_1)).toNat x_5))[(IntKind.i64.wrap (a_2 + i_1)).toNat]? = some [.int .i64 x_16] := atI_map eI64 h_17
      have e_19 : ((0 : Int) ≤ IntKind.i64.wrap (a_2 + i_1)) = True := eq_true (atI_some h_17).1
      have e_20 : ((IntKind.i64.wrap (a_2 + i_1) : Int) < ((s_2.length : Nat) : Int)) = True := eq_true (by have := atI_lt h_17; simpa using this)
      have e_21 : (List.map eI64 (List.set s_2 (IntKind.i64.wrap (a_1 + i_1)).toNat x_5)).set (IntKind.i64.wrap (a_2 + i_1)).toNat [.int .i64 x_10] = List.map eI64 (List.set (List.set s_2 (IntKind.i64.wrap (a_1 + i_1)).toNat x_5) (IntKind.i64.wrap (a_2 + i_1)).toNat x_10) := set_map (List.set s_2 (IntKind.i64.wrap (a_1 + i_1)).toNat x_5) eI64 (IntKind.i64.wrap (a_2 + i_1)).toNat x_10
      simp only [e_4, e_7, e_8, e_9, e_12, e_13, e_14, e_15, e_18, e_19, e_20, e_21, go_sem, reduceIte, reduceCtorEq, Nat.reduceEqDiff, Nat.reduceLT, Nat.reduceLeDiff, Nat.reduceAdd, Nat.reduceSub, Nat.reduceMul, Int.reduceToNat, Int.reduceLE, Int.reduceLT, Int.reduceAdd, Int.reduceSub, Int.reduceMul, Int.reduceEq, Int.reduceNeg]
      rw [← hQ]
      exact ⟨_, _, (Ref.std [0, 1, 2, 3, 10] [0, 1, 2] (by decide) (by decide) (by first | rfl | simp only [go_sem, reduceIte, Nat.reduceEqDiff, Nat.reduceAdd]) (by first | rfl | simp only [go_sem, reduceIte, Nat.reduceEqDiff, Nat.reduceAdd])), (by simp), ih _ _ _ h hp⟩
    · rw [if_neg h_3] at h
      have e_4 : (i_1 < a_3) = False := eq_false h_3
      simp only [e_4, go_sem, reduceIte, reduceCtorEq, Nat.reduceEqDiff, Nat.reduceLT, Nat.reduceLeDiff, Nat.reduceAdd, Nat.reduceSub, Nat.reduceMul, Int.reduceToNat, Int.reduceLE, Int.reduceLT, Int.reduceAdd, Int.reduceSub, Int.reduceMul, Int.reduceEq, Int.reduceNeg]
      have g := Option.some.inj h
      subst g
      rw [← hQ]
      exact ⟨_, _, (Ref.std [] [0, 1, 2] (by decide) (by decide) rfl (by first | rfl | simp only [go_sem, reduceIte, Nat.reduceEqDiff, Nat.reduceAdd])), hp⟩
theorem slices_swapRangeCmpFunc_int_row_w (N : Nat) (l_0 : List Int) (a_1 : Int) (a_2 : Int) (a_3 : Int) (l_4 : List Int) (z_1 : List Int) (h : slices_swapRangeCmpFunc_int_row N l_0 a_1 a_2 a_3 l_4 = some z_1) :
    ACalls Go.Proofs.Try.prog 104 [.row 0 0 l_0.length, .int .i64 a_1, .int .i64 a_2, .int .i64 a_3, .fn (.func 56) [] [.ptr 1 0 0]] [.mem 1 (List.map eI64 l_0) 3, .box [.row 2 0 l_4.length] 28, .mem 1 (List.map eI64 l_4) 3] (fun e H => H = [.mem 1 (List.map eI64 z_1) 3, .box [.row 3 0 l_4.length] 28, .dead, .mem 1 (List.map eI64 l_4) 3] ∧ e = .ret (.tup [])) := by
  unfold slices_swapRangeCmpFunc_int_row at h
  refine ACalls.goN Go.Proofs.Try.func104 n104 a104 Go.Proofs.Try.ntmps104 r104 (by simp) 3 rfl ?_
  generalize hQ : bodyA _ _ _ = QQ
  simp only [A104, go_sem, reduceIte, reduceCtorEq, Nat.reduceEqDiff, Nat.reduceLT, Nat.reduceLeDiff, Nat.reduceAdd, Nat.reduceSub, Nat.reduceMul, Int.reduceToNat, Int.reduceLE, Int.reduceLT, Int.reduceAdd, Int.reduceSub, Int.reduceMul, Int.reduceEq, Int.reduceNeg]
  obtain ⟨y_1002, h_1001, h⟩ := bindS h
  refine ALp.ref (Ref.std [0, 1, 2, 3, 10] [0, 1, 2] (by decide) (by decide) rfl (by first | rfl | simp only [go_sem, reduceIte, Nat.reduceEqDiff, Nat.reduceAdd])) (by simp) (slices_swapRangeCmpFunc_int_row_L1_w N _ _ _ _ N _ _ y_1002 h_1001 ?_)
  refine LoopK_go rfl (by simp) ?_
  simp only [go_sem, reduceIte, reduceCtorEq, Nat.reduceEqDiff, Nat.reduceLT, Nat.reduceLeDiff, Nat.reduceAdd, Nat.reduceSub, Nat.reduceMul, Int.reduceToNat, Int.reduceLE, Int.reduceLT, Int.reduceAdd, Int.reduceSub, Int.reduceMul, Int.reduceEq, Int.reduceNeg]
  have g_0 := Option.some.inj h
  subst g_0
  rw [← hQ]
  exact ⟨rfl, _, rfl, _, _, (RefV.trans (RefV.move (by simp) (id := 2) rfl rfl) (RefV.std [0, 1, 2, 3] (by decide) (by decide) (by first | rfl | simp only [go_sem, reduceIte, Nat.reduceEqDiff, Nat.reduceAdd]) (by first | rfl | simp only [go_sem, reduceIte, Nat.reduceEqDiff, Nat.reduceAdd]))), rfl, rfl⟩
theorem slices_rotateCmpFunc_int_row_L1_w (N : Nat) (a_2 : Int) (l_4 : List Int) {R : AExit → ATm → List AObj → Prop} : ∀ (n : Nat) (i_1 : Int) (i_2 : Int) (s_3 : List Int) (o : Int × (List Int)), slices_rotateCmpFunc_int_row_L1 N a_2 l_4 n i_1 i_2 s_3 = some o → (match o with | (z_1, z_2) => R (.exit 0) ⟨58, [(0, .row 0 0 z_2.length), (2, .int .i64 a_2), (4, .fn (.func 56) [] [.ptr 1 0 0]), (10, .int .i64 z_1)], []⟩ [.mem 1 (List.map eI64 z_2) 3, .box [.row 3 0 l_4.length] 28, .dead, .mem 1 (List.map eI64 l_4) 3]) →
    ALp Go.Proofs.Try.prog 3 B96_1 ⟨58, [(0, .row 0 0 s_3.length), (2, .int .i64 a_2), (4, .fn (.func 56) [] [.ptr 1 0 0]), (10, .int .i64 i_1), (11, .int .i64 i_2)], []⟩ [.mem 1 (List.map eI64 s_3) 3, .box [.row 3 0 l_4.length] 28, .dead, .mem 1 (List.map eI64 l_4) 3] R := by
  intro n
  induction n with
  | zero =>
    intro i_1 i_2 s_3 o h _
    have h0 : none = some o := h
    cases h0
  | succ n ih =>
    intro i_1 i_2 s_3 o h hp
    rw [slices_rotateCmpFunc_int_row_L1] at h
    refine ALp.round ?_
    generalize hQ : RoundQ _ _ _ _ = QQ
    simp only [B96_1, A96, go_sem, reduceIte, reduceCtorEq, Nat.reduceEqDiff, Nat.reduceLT, Nat.reduceLeDiff, Nat.reduceAdd, Nat.reduceSub, Nat.reduceMul, Int.reduceToNat, Int.reduceLE, Int.reduceLT, Int.reduceAdd, Int.reduceSub, Int.reduceMul, Int.reduceEq, Int.reduceNeg]
    by_cases h_4 : i_1 = i_2
    · rw [if_pos h_4] at h
      have e_5 : (i_1 = i_2) = True := eq_true h_4
      simp only [e_5, go_sem, reduceIte, reduceCtorEq, Nat.reduceEqDiff, Nat.reduceLT, Nat.reduceLeDiff, Nat.reduceAdd, Nat.reduceSub, Nat.reduceMul, Int.reduceToNat, Int.reduceLE, Int.reduceLT, Int.reduceAdd, Int.reduceSub, Int.reduceMul, Int.reduceEq, Int.reduceNeg]
      have g := Option.some.inj h
      subst g
      rw [← hQ]
      exact ⟨_, _, (Ref.std [0, 2, 4, 10] [0, 1, 2, 3] (by decide) (by decide) rfl (by first | rfl | simp only [go_sem, reduceIte, Nat.reduceEqDiff, Nat.reduceAdd])), hp⟩
    · rw [if_neg h_4] at h
      have e_5 : (i_1 = i_2) = False := eq_false h_4
      simp only [e_5, go_sem, reduceIte, reduceCtorEq, Nat.reduceEqDiff, Nat.reduceLT, Nat.reduceLeDiff, Nat.reduceAdd, Nat.reduceSub, Nat.reduceMul, Int.reduceToNat, Int.reduceLE, Int.reduceLT, Int.reduceAdd, Int.reduceSub, Int.reduceMul, Int.reduceEq, Int.reduceNeg]
      by_cases h_6 : i_2 < i_1
      · rw [if_pos h_6] at h
        have e_7 : (i_2 < i_1) = True := eq_true h_6
        obtain ⟨y_8, h_9, h⟩ := bindS h
        simp only [e_5, e_7, go_sem, reduceIte, reduceCtorEq, Nat.reduceEqDiff, Nat.reduceLT, Nat.reduceLeDiff, Nat.reduceAdd, Nat.reduceSub, Nat.reduceMul, Int.reduceToNat, Int.reduceLE, Int.reduceLT, Int.reduceAdd, Int.reduceSub, Int.reduceMul, Int.reduceEq, Int.reduceNeg]
        refine ACalls.use (slices_swapRangeCmpFunc_int_row_w N _ _ _ _ _ _ h_9) [0, 1, 3] (by decide) ⟨(by first | rfl | simp only [go_sem, reduceIte, Nat.reduceEqDiff, Nat.reduceAdd, e_5, e_7]), (by first | rfl | simp only [go_sem, reduceIte, Nat.reduceEqDiff, Nat.reduceAdd, e_5, e_7]), (by first | rfl | simp only [go_sem, reduceIte, Nat.reduceEqDiff, Nat.reduceAdd, e_5, e_7]), trivial⟩ rfl (v' := .tup []) (by first | rfl | simp only [go_sem, reduceIte, Nat.reduceEqDiff, Nat.reduceAdd, e_5, e_7]) (H' := [.mem 1 (List.map eI64 y_8) 3, .box [.row 4 0 l_4.length] 28, .dead, .dead, .mem 1 (List.map eI64 l_4) 3]) (by first | rfl | simp only [go_sem, reduceIte, Nat.reduceEqDiff, Nat.reduceAdd, e_5, e_7]) ?_
        refine CallK_go (by simp) ?_
        obtain ⟨h_10, h⟩ := guardS h
        simp only [e_5, e_7, go_sem, reduceIte, reduceCtorEq, Nat.reduceEqDiff, Nat.reduceLT, Nat.reduceLeDiff, Nat.reduceAdd, Nat.reduceSub, Nat.reduceMul, Int.reduceToNat, Int.reduceLE, Int.reduceLT, Int.reduceAdd, Int.reduceSub, Int.reduceMul, Int.reduceEq, Int.reduceNeg]
        rw [← hQ]
        exact ⟨_, _, (Ref.std (l' := [(0, .row 0 0 y_8.length), (2, .int .i64 a_2), (4, .fn (.func 56) [] [.ptr 1 0 0]), (10, .int .i64 (IntKind.i64.wrap (i_1 - i_2))), (11, .int .i64 i_2)]) (H' := [.mem 1 (List.map eI64 y_8) 3, .box [.row 3 0 l_4.length] 28, .dead, .mem 1 (List.map eI64 l_4) 3]) [0, 2, 4, 10, 11] [0, 1, 2, 4] (by decide) (by decide) (by first | rfl | simp only [go_sem, reduceIte, Nat.reduceEqDiff, Nat.reduceAdd, h_10]) (by first | rfl | simp only [go_sem, reduceIte, Nat.reduceEqDiff, Nat.reduceAdd, h_10])), (by simp), ih _ _ _ _ h hp⟩
      · rw [if_neg h_6] at h
        have e_7 : (i_2 < i_1) = False := eq_false h_6
        obtain ⟨y_11, h_12, h⟩ := bindS h
        simp only [e_5, e_7, go_sem, reduceIte, reduceCtorEq, Nat.reduceEqDiff, Nat.reduceLT, Nat.reduceLeDiff, Nat.reduceAdd, Nat.reduceSub, Nat.reduceMul, Int.reduceToNat, Int.reduceLE, Int.reduceLT, Int.reduceAdd, Int.reduceSub, Int.reduceMul, Int.reduceEq, Int.reduceNeg]
        refine ACalls.use (slices_swapRangeCmpFunc_int_row_w N _ _ _ _ _ _ h_12) [0, 1, 3] (by decide) ⟨(by first | rfl | simp only [go_sem, reduceIte, Nat.reduceEqDiff, Nat.reduceAdd, e_5, e_7]), (by first | rfl | simp only [go_sem, reduceIte, Nat.reduceEqDiff, Nat.reduceAdd, e_5, e_7]), (by first | rfl | simp only [go_sem, reduceIte, Nat.reduceEqDiff, Nat.reduceAdd, e_5, e_7]), trivial⟩ rfl (v' := .tup []) (by first | rfl | simp only [go_sem, reduceIte, Nat.reduceEqDiff, Nat.reduceAdd, e_5, e_7]) (H' := [.mem 1 (List.map eI64 y_11) 3, .box [.row 4 0 l_4.length] 28, .dead, .dead, .mem 1 (List.map eI64 l_4) 3]) (by first | rfl | simp only [go_sem, reduceIte, Nat.reduceEqDiff, Nat.reduceAdd, e_5, e_7]) ?_
        refine CallK_go (by simp) ?_
        obtain ⟨h_13, h⟩ := guardS h
        simp only [e_5, e_7, go_sem, reduceIte, reduceCtorEq, Nat.reduceEqDiff, Nat.reduceLT, Nat.reduceLeDiff, Nat.reduceAdd, Nat.reduceSub, Nat.reduceMul, Int.reduceToNat, Int.reduceLE, Int.reduceLT, Int.reduceAdd, Int.reduceSub, Int.reduceMul, Int.reduceEq, Int.reduceNeg]
        rw [← hQ]
        exact ⟨_, _, (Ref.std (l' := [(0, .row 0 0 y_11.length), (2, .int .i64 a_2), (4, .fn (.func 56) [] [.ptr 1 0 0]), (10, .int .i64 i_1), (11, .int .i64 (IntKind.i64.wrap (i_2 - i_1)))]) (H' := [.mem 1 (List.map eI64 y_11) 3, .box [.row 3 0 l_4.length] 28, .dead, .mem 1 (List.map eI64 l_4) 3]) [0, 2, 4, 10, 11] [0, 1, 2, 4] (by decide) (by decide) (by first | rfl | simp only [go_sem, reduceIte, Nat.reduceEqDiff, Nat.reduceAdd, h_13]) (by first | rfl | simp only [go_sem, reduceIte, Nat.reduceEqDiff, Nat.reduceAdd, h_13])), (by simp), ih _ _ _ _ h hp⟩
theorem slices_rotateCmpFunc_int_row_w (N : Nat) (l_0 : List Int) (a_1 : Int) (a_2 : Int) (a_3 : Int) (l_4 : List Int) (z_1 : List Int) (h : slices_rotateCmpFunc_int_row N l_0 a_1 a_2 a_3 l_4 = some z_1) :
    ACalls Go.Proofs.Try.prog 96 [.row 0 0 l_0.length, .int .i64 a_1, .int .i64 a_2, .int .i64 a_3, .fn (.func 56) [] [.ptr 1 0 0]] [.mem 1 (List.map eI64 l_0) 3, .box [.row 2 0 l_4.length] 28, .mem 1 (List.map eI64 l_4) 3] (fun e H => H = [.mem 1 (List.map eI64 z_1) 3, .box [.row 3 0 l_4.length] 28, .dead, .mem 1 (List.map eI64 l_4) 3] ∧ e = .ret (.tup [])) := by
  unfold slices_rotateCmpFunc_int_row at h
  refine ACalls.goN Go.Proofs.Try.func96 n96 a96 Go.Proofs.Try.ntmps96 r96 (by simp) 3 rfl ?_
  generalize hQ : bodyA _ _ _ = QQ
  simp only [A96, go_sem, reduceIte, reduceCtorEq, Nat.reduceEqDiff, Nat.reduceLT, Nat.reduceLeDiff, Nat.reduceAdd, Nat.reduceSub, Nat.reduceMul, Int.reduceToNat, Int.reduceLE, Int.reduceLT, Int.reduceAdd, Int.reduceSub, Int.reduceMul, Int.reduceEq, Int.reduceNeg]
  obtain ⟨⟨y_1002, y_1003⟩, h_1001, h⟩ := bindS h
  try dsimp only at h
  refine ALp.ref (Ref.trans (Ref.move (by simp) (id := 2) rfl rfl) (Ref.std [0, 2, 4, 10, 11] [0, 1, 2, 3] (by decide) (by decide) rfl (by first | rfl | simp only [go_sem, reduceIte, Nat.reduceEqDiff, Nat.reduceAdd]))) (by simp) (slices_rotateCmpFunc_int_row_L1_w N _ _ N _ _ _ _ h_1001 ?_)
  refine LoopK_go rfl (by simp) ?_
  obtain ⟨y_1004, h_1005, h⟩ := bindS h
  simp only [go_sem, reduceIte, reduceCtorEq, Nat.reduceEqDiff, Nat.reduceLT, Nat.reduceLeDiff, Nat.reduceAdd, Nat.reduceSub, Nat.reduceMul, Int.reduceToNat, Int.reduceLE, Int.reduceLT, Int.reduceAdd, Int.reduceSub, Int.reduceMul, Int.reduceEq, Int.reduceNeg]
  refine ACalls.use (slices_swapRangeCmpFunc_int_row_w N _ _ _ _ _ _ h_1005) [0, 1, 3] (by decide) ⟨(by first | rfl | simp only [go_sem, reduceIte, Nat.reduceEqDiff, Nat.reduceAdd]), (by first | rfl | simp only [go_sem, reduceIte, Nat.reduceEqDiff, Nat.reduceAdd]), (by first | rfl | simp only [go_sem, reduceIte, Nat.reduceEqDiff, Nat.reduceAdd]), trivial⟩ rfl (v' := .tup []) (by first | rfl | simp only [go_sem, reduceIte, Nat.reduceEqDiff, Nat.reduceAdd]) (H' := [.mem 1 (List.map eI64 y_1004) 3, .box [.row 4 0 l_4.length] 28, .dead, .dead, .mem 1 (List.map eI64 l_4) 3]) (by first | rfl | simp only [go_sem, reduceIte, Nat.reduceEqDiff, Nat.reduceAdd]) ?_
  refine CallK_go (by simp) ?_
  obtain ⟨h_1006, h⟩ := guardS h
  simp only [go_sem, reduceIte, reduceCtorEq, Nat.reduceEqDiff, Nat.reduceLT, Nat.reduceLeDiff, Nat.reduceAdd, Nat.reduceSub, Nat.reduceMul, Int.reduceToNat, Int.reduceLE, Int.reduceLT, Int.reduceAdd, Int.reduceSub, Int.reduceMul, Int.reduceEq, Int.reduceNeg]
  have g_0 := Option.some.inj h
  subst g_0
  rw [← hQ]
  exact ⟨rfl, _, rfl, _, _, (RefV.std [0, 1, 2, 4] (by decide) (by decide) (by first | rfl | simp only [go_sem, reduceIte, Nat.reduceEqDiff, Nat.reduceAdd, h_1006]) (by first | rfl | simp only [go_sem, reduceIte, Nat.reduceEqDiff, Nat.reduceAdd])), rfl, rfl⟩
theorem slices_symMergeCmpFunc_int_row_L1_w (N : Nat) (a_1 : Int) (l_0 : List Int) (l_4 : List Int) {R : AExit → ATm → List AObj → Prop} : ∀ (n : Nat) (i_3 : Int) (i_4 : Int) (o : Int), slices_symMergeCmpFunc_int_row_L1 N a_1 l_0 l_4 n i_3 i_4 = some o → (match o with | z_1 => R (.exit 0) ⟨220, [(0, .row 0 0 l_0.length), (1, .int .i64 a_1), (10, .int .i64 z_1)], []⟩ [.mem 1 (List.map eI64 l_0) 3, .box [.row 3 0 l_4.length] 28, .dead, .mem 1 (List.map eI64 l_4) 3]) →
    ALp Go.Proofs.Try.prog 3 B90_1 ⟨220, [(0, .row 0 0 l_0.length), (1, .int .i64 a_1), (4, .fn (.func 56) [] [.ptr 1 0 0]), (10, .int .i64 i_3), (11, .int .i64 i_4)], []⟩ [.mem 1 (List.map eI64 l_0) 3, .box [.row 3 0 l_4.length] 28, .dead, .mem 1 (List.map eI64 l_4) 3] R := by
  intro n
  induction n with
  | zero =>
    intro i_3 i_4 o h _
    have h0 : none = some o := h
    cases h0
  | succ n ih =>
    intro i_3 i_4 o h hp
    rw [slices_symMergeCmpFunc_int_row_L1] at h
    refine ALp.round ?_
    generalize hQ : RoundQ _ _ _ _ = QQ
    simp only [B90_1, A90, go_sem, reduceIte, reduceCtorEq, Nat.reduceEqDiff, Nat.reduceLT, Nat.reduceLeDiff, Nat.reduceAdd, Nat.reduceSub, Nat.reduceMul, Int.reduceToNat, Int.reduceLE, Int.reduceLT, Int.reduceAdd, Int.reduceSub, Int.reduceMul, Int.reduceEq, Int.reduceNeg]
    by_cases h_5 : i_3 < i_4
    · rw [if_pos h_5] at h
      have e_6 : (i_3 < i_4) = True := eq_true h_5
      have e_7 : (min 1 64 : Nat) = 1 := rfl
      obtain ⟨x_8, h_9, h⟩ := bindS h
      have e_10 : (List.map eI64 l_0)[(IntKind.i64.wrap ((IntKind.u64.wrap (IntKind.i64.wrap (i_3 + i_4))).fdiv (2 ^ 1))).toNat]? = some [.int .i64 x_8] := atI_map eI64 h_9
      have e_11 : ((0 : Int) ≤ IntKind.i64.wrap ((IntKind.u64.wrap (IntKind.i64.wrap (i_3 + i_4))).fdiv (2 ^ 1))) = True := eq_true (atI_some h_9).1
      have e_12 : ((IntKind.i64.wrap ((IntKind.u64.wrap (IntKind.i64.wrap (i_3 + i_4))).fdiv (2 ^ 1)) : Int) < (l_0.length : Int)) = True := eq_true (atI_lt h_9)
      obtain ⟨x_13, h_14, h⟩ := bindS h
      have e_15 : (List.map eI64 l_0)[(a_1).toNat]? = some [.int .i64 x_13] := atI_map eI64 h_14
      have e_16 : ((0 : Int) ≤ a_1) = True := eq_true (atI_some h_14).1
      have e_17 : ((a_1 : Int) < (l_0.length : Int)) = True := eq_true (atI_lt h_14)
      obtain ⟨y_18, h_19, h⟩ := bindS h
      simp only [e_6, e_7, e_10, e_11, e_12, e_15, e_16, e_17, go_sem, reduceIte, reduceCtorEq, Nat.reduceEqDiff, Nat.reduceLT, Nat.reduceLeDiff, Nat.reduceAdd, Nat.reduceSub, Nat.reduceMul, Int.reduceToNat, Int.reduceLE, Int.reduceLT, Int.reduceAdd, Int.reduceSub, Int.reduceMul, Int.reduceEq, Int.reduceNeg]
      refine ACalls.use (buffer_Sort_1_row_w N _ _ _ _ h_19) [1, 3] (by decide) ⟨(by first | rfl | simp only [go_sem, reduceIte, Nat.reduceEqDiff, Nat.reduceAdd, e_6]), (by first | rfl | simp only [go_sem, reduceIte, Nat.reduceEqDiff, Nat.reduceAdd, e_6]), trivial⟩ rfl (v' := .int .i64 y_18) (by first | rfl | simp only [go_sem, reduceIte, Nat.reduceEqDiff, Nat.reduceAdd, e_6]) (H' := [.mem 1 (List.map eI64 l_0) 3, .box [.row 4 0 l_4.length] 28, .dead, .dead, .mem 1 (List.map eI64 l_4) 3]) (by first | rfl | simp only [go_sem, reduceIte, Nat.reduceEqDiff, Nat.reduceAdd, e_6]) ?_
      simp only [e_6, e_7, e_10, e_11, e_12, e_15, e_16, e_17, go_sem, reduceIte, reduceCtorEq, Nat.reduceEqDiff, Nat.reduceLT, Nat.reduceLeDiff, Nat.reduceAdd, Nat.reduceSub, Nat.reduceMul, Int.reduceToNat, Int.reduceLE, Int.reduceLT, Int.reduceAdd, Int.reduceSub, Int.reduceMul, Int.reduceEq, Int.reduceNeg]
      by_cases h_20 : y_18 < 0
      · rw [if_pos h_20] at h
        have e_21 : (y_18 < 0) = True := eq_true h_20
        simp only [e_6, e_7, e_10, e_11, e_12, e_15, e_16, e_17, e_21, go_sem, reduceIte, reduceCtorEq, Nat.reduceEqDiff, Nat.reduceLT, Nat.reduceLeDiff, Nat.reduceAdd, Nat.reduceSub, Nat.reduceMul, Int.reduceToNat, Int.reduceLE, Int.reduceLT, Int.reduceAdd, Int.reduceSub, Int.reduceMul, Int.reduceEq, Int.reduceNeg]
        rw [← hQ]
        exact ⟨_, _, (Ref.std [0, 1, 4, 10, 11] [0, 1, 2, 4] (by decide) (by decide) rfl (by first | rfl | simp only [go_sem, reduceIte, Nat.reduceEqDiff, Nat.reduceAdd])), (by simp), ih _ _ _ h hp⟩
      · rw [if_neg h_20] at h
        have e_21 : (y_18 < 0) = False := eq_false h_20
        simp only [e_6, e_7, e_10, e_11, e_12, e_15, e_16, e_17, e_21, go_sem, reduceIte, reduceCtorEq, Nat.reduceEqDiff, Nat.reduceLT, Nat.reduceLeDiff, Nat.reduceAdd, Nat.reduceSub, Nat.reduceMul, Int.reduceToNat, Int.reduceLE, Int.reduceLT, Int.reduceAdd, Int.reduceSub, Int.reduceMul, Int.reduceEq, Int.reduceNeg]
        rw [← hQ]
        exact ⟨_, _, (Ref.std [0, 1, 4, 10, 11] [0, 1, 2, 4] (by decide) (by decide) rfl (by first | rfl | simp only [go_sem, reduceIte, Nat.reduceEqDiff, Nat.reduceAdd])), (by simp), ih _ _ _ h hp⟩
    · rw [if_neg h_5] at h
      have e_6 : (i_3 < i_4) = False := eq_false h_5
      simp only [e_6, go_sem, reduceIte, reduceCtorEq, Nat.reduceEqDiff, Nat.reduceLT, Nat.reduceLeDiff, Nat.reduceAdd, Nat.reduceSub, Nat.reduceMul, Int.reduceToNat, Int.reduceLE, Int.reduceLT, Int.reduceAdd, Int.reduceSub, Int.reduceMul, Int.reduceEq, Int.reduceNeg]
      have g := Option.some.inj h
      subst g
      rw [← hQ]
      exact ⟨_, _, (Ref.std [0, 1, 10] [0, 1, 2, 3] (by decide) (by decide) rfl (by first | rfl | simp only [go_sem, reduceIte, Nat.reduceEqDiff, Nat.reduceAdd])), hp⟩
theorem slices_symMergeCmpFunc_int_row_L2_w (N : Nat) (y_1004 : Int) (l_4 : List Int) {R : AExit → ATm → List AObj → Prop} : ∀ (n : Nat) (i_1005 : Int) (s_1006 : List Int) (o : (List Int)), slices_symMergeCmpFunc_int_row_L2 N y_1004 l_4 n i_1005 s_1006 = some o → (match o with | z_1 => R (.exit 2) ⟨220, [], []⟩ [.mem 1 (List.map eI64 z_1) 3, .box [.row 3 0 l_4.length] 28, .dead, .mem 1 (List.map eI64 l_4) 3]) →
    ALp Go.Proofs.Try.prog 3 B90_2 ⟨220, [(0, .row 0 0 s_1006.length), (10, .int .i64 y_1004), (13, .int .i64 i_1005)], []⟩ [.mem 1 (List.map eI64 s_1006) 3, .box [.row 3 0 l_4.length] 28, .dead, .mem 1 (List.map eI64 l_4) 3] R := by
  intro n
  induction n with
  | zero =>
    intro i_1005 s_1006 o h _
    have h0 : none = some o := h
    cases h0
  | succ n ih =>
    intro i_1005 s_1006 o h hp
    rw [slices_symMergeCmpFunc_int_row_L2] at h
    refine ALp.round ?_
    generalize hQ : RoundQ _ _ _ _ = QQ
    simp only [B90_2, A90, go_sem, reduceIte, reduceCtorEq, Nat.reduceEqDiff, Nat.reduceLT, Nat.reduceLeDiff, Nat.reduceAdd, Nat.reduceSub, Nat.reduceMul, Int.reduceToNat, Int.reduceLE, Int.reduceLT, Int.reduceAdd, Int.reduceSub, Int.reduceMul, Int.reduceEq, Int.reduceNeg]
    by_cases h_1007 : i_1005 < IntKind.i64.wrap (y_1004 - 1)
    · rw [if_pos h_1007] at h
      have e_1008 : (i_1005 < IntKind.i64.wrap (y_1004 - 1)) = True := eq_true h_1007
      obtain ⟨x_1009, h_1010, h⟩ := bindS h
      have e_1011 : (List.map eI64 s_1006)[(IntKind.i64.wrap (i_1005 + 1)).toNat]? = some [.int .i64 x_1009] := atI_map eI64 h_1010
      have e_1012 : ((0 : Int) ≤ IntKind.i64.wrap (i_1005 + 1)) = True := eq_true (atI_some h_1010).1
      have e_1013 : ((IntKind.i64.wrap (i_1005 + 1) : Int) < (s_1006.length : Int)) = True := eq_true (atI_lt h_1010)
      obtain ⟨x_1014, h_1015, h⟩ := bindS h
      have e_1016 : (List.map eI64 s_1006)[(i_1005).toNat]? = some [.int .i64 x_1014] := atI_map eI64 h_1015
      have e_1017 : ((0 : Int) ≤ i_1005) = True := eq_true (atI_some h_1015).1
      have e_1018 : ((i_1005 : Int) < (s_1006.length : Int)) = True := eq_true (atI_lt h_1015)
      have e_1019 : (List.map eI64 s_1006).set (i_1005).toNat [.int .i64 x_1009] = List.map eI64 (List.set s_1006 (i_1005).toNat x_1009) := set_map s_1006 eI64 (i_1005).toNat x_1009
      obtain ⟨x_1020, h_1021, h⟩ := bindS h
      have e_1022 : (List.map eI64 (List.set s_1006 (i_1005).toNat x_1009))[(IntKind.i64.wrap (i_1005 + 1)).toNat]? = some [.int .i64 x_1020] := atI_map eI64 h_1021
      have e_1023 : ((0 : Int) ≤ IntKind.i64.wrap (i_1005 + 1)) = True := eq_true (atI_some h_1021).1
      have e_1024 : ((IntKind.i64.wrap (i_1005 + 1) : Int) < ((s_1006.length : Nat) : Int)) = True := eq_true (by have := atI_lt h_1021; simpa using this)
      have e_1025 : (List.map eI64 (List.set s_1006 (i_1005).toNat x_1009)).set (IntKind.i64.wrap (i_1005 + 1)).toNat [.int .i64 x_1014] = List.map eI64 (List.set (List.set s_1006 (i_1005).toNat x_1009) (IntKind.i64.wrap (i_1005 + 1)).toNat x_1014) := set_map (List.set s_1006 (i_1005).toNat x_1009) eI64 (IntKind.i64.wrap (i_1005 + 1)).toNat x_1014
      simp only [e_1008, e_1011, e_1012, e_1013, e_1016, e_1017, e_1018, e_1019, e_1022, e_1023, e_1024, e_1025, go_sem, reduceIte, reduceCtorEq, Nat.reduceEqDiff, Nat.reduceLT, Nat.reduceLeDiff, Nat.reduceAdd, Nat.reduceSub, Nat.reduceMul, Int.reduceToNat, Int.reduceLE, Int.reduceLT, Int.reduceAdd, Int.reduceSub, Int.reduceMul, Int.reduceEq, Int.reduceNeg]
      rw [← hQ]
      exact ⟨_, _, (Ref.std [0, 10, 13] [0, 1, 2, 3] (by decide) (by decide) (by first | rfl | simp only [go_sem, reduceIte, Nat.reduceEqDiff, Nat.reduceAdd]) (by first | rfl | simp only [go_sem, reduceIte, Nat.reduceEqDiff, Nat.reduceAdd])), (by simp), ih _ _ _ h hp⟩
    · rw [if_neg h_1007] at h
      have e_1008 : (i_1005 < IntKind.i64.wrap (y_1004 - 1)) = False := eq_false h_1007
      simp only [e_1008, go_sem, reduceIte, reduceCtorEq, Nat.reduceEqDiff, Nat.reduceLT, Nat.reduceLeDiff, Nat.reduceAdd, Nat.reduceSub, Nat.reduceMul, Int.reduceToNat, Int.reduceLE, Int.reduceLT, Int.reduceAdd, Int.reduceSub, Int.reduceMul, Int.reduceEq, Int.reduceNeg]
      have g := Option.some.inj h
      subst g
      rw [← hQ]
      exact ⟨_, _, (Ref.std [] [0, 1, 2, 3] (by decide) (by decide) rfl (by first | rfl | simp only [go_sem, reduceIte, Nat.reduceEqDiff, Nat.reduceAdd])), hp⟩
theorem slices_symMergeCmpFunc_int_row_L3_w (N : Nat) (a_2 : Int) (l_0 : List Int) (l_4 : List Int) {R : AExit → ATm → List AObj → Prop} : ∀ (n : Nat) (i_2009 : Int) (i_2010 : Int) (o : Int), slices_symMergeCmpFunc_int_row_L3 N a_2 l_0 l_4 n i_2009 i_2010 = some o → (match o with | z_1 => R (.exit 4) ⟨220, [(0, .row 0 0 l_0.length), (2, .int .i64 a_2), (14, .int .i64 z_1)], []⟩ [.mem 1 (List.map eI64 l_0) 3, .box [.row 3 0 l_4.length] 28, .dead, .mem 1 (List.map eI64 l_4) 3]) →
    ALp Go.Proofs.Try.prog 3 B90_3 ⟨220, [(0, .row 0 0 l_0.length), (2, .int .i64 a_2), (4, .fn (.func 56) [] [.ptr 1 0 0]), (14, .int .i64 i_2009), (15, .int .i64 i_2010)], []⟩ [.mem 1 (List.map eI64 l_0) 3, .box [.row 3 0 l_4.length] 28, .dead, .mem 1 (List.map eI64 l_4) 3] R := by
  intro n
  induction n with
  | zero =>
    intro i_2009 i_2010 o h _
    have h0 : none = some o := h
    cases h0
  | succ n ih =>
    intro i_2009 i_2010 o h hp
    rw [slices_symMergeCmpFunc_int_row_L3] at h
    refine ALp.round ?_
    generalize hQ : RoundQ _ _ _ _ = QQ
    simp only [B90_3, A90, go_sem, reduceIte, reduceCtorEq, Nat.reduceEqDiff, Nat.reduceLT, Nat.reduceLeDiff, Nat.reduceAdd, Nat.reduceSub, Nat.reduceMul, Int.reduceToNat, Int.reduceLE, Int.reduceLT, Int.reduceAdd, Int.reduceSub, Int.reduceMul, Int.reduceEq, Int.reduceNeg]
    by_cases h_2011 : i_2009 < i_2010
    · rw [if_pos h_2011] at h
      have e_2012 : (i_2009 < i_2010) = True := eq_true h_2011
      have e_2013 : (min 1 64 : Nat) = 1 := rfl
      obtain ⟨x_2014, h_2015, h⟩ := bindS h
      have e_2016 : (List.map eI64 l_0)[(a_2).toNat]? = some [.int .i64 x_2014] := atI_map eI64 h_2015
      have e_2017 : ((0 : Int) ≤ a_2) = True := eq_true (atI_some h_2015).1
      have e_2018 : ((a_2 : Int) < (l_0.length : Int)) = True := eq_true (atI_lt h_2015)
      obtain ⟨x_2019, h_2020, h⟩ := bindS h
      have e_2021 : (List.map eI64 l_0)[(IntKind.i64.wrap ((IntKind.u64.wrap (IntKind.i64.wrap (i_2009 + i_2010))).fdiv (2 ^ 1))).toNat]? = some [.int .i64 x_2019] := atI_map eI64 h_2020
      have e_2022 : ((0 : Int) ≤ IntKind.i64.wrap ((IntKind.u64.wrap (IntKind.i64.wrap (i_2009 + i_2010))).fdiv (2 ^ 1))) = True := eq_true (atI_some h_2020).1
      have e_2023 : ((IntKind.i64.wrap ((IntKind.u64.wrap (IntKind.i64.wrap (i_2009 + i_2010))).fdiv (2 ^ 1)) : Int) < (l_0.length : Int)) = True := eq_true (atI_lt h_2020)
      obtain ⟨y_2024, h_2025, h⟩ := bindS h
      simp only [e_2012, e_2013, e_2016, e_2017, e_2018, e_2021, e_2022, e_2023, go_sem, reduceIte, reduceCtorEq, Nat.reduceEqDiff, Nat.reduceLT, Nat.reduceLeDiff, Nat.reduceAdd, Nat.reduceSub, Nat.reduceMul, Int.reduceToNat, Int.reduceLE, Int.reduceLT, Int.reduceAdd, Int.reduceSub, Int.reduceMul, Int.reduceEq, Int.reduceNeg]
      refine ACalls.use (buffer_Sort_1_row_w N _ _ _ _ h_2025) [1, 3] (by decide) ⟨(by first | rfl | simp only [go_sem, reduceIte, Nat.reduceEqDiff, Nat.reduceAdd, e_2012]), (by first | rfl | simp only [go_sem, reduceIte, Nat.reduceEqDiff, Nat.reduceAdd, e_2012]), trivial⟩ rfl (v' := .int .i64 y_2024) (by first | rfl | simp only [go_sem, reduceIte, Nat.reduceEqDiff, Nat.reduceAdd, e_2012]) (H' := [.mem 1 (List.map eI64 l_0) 3, .box [.row 4 0 l_4.length] 28, .dead, .dead, .mem 1 (List.map eI64 l_4) 3]) (by first | rfl | simp only [go_sem, reduceIte, Nat.reduceEqDiff, Nat.reduceAdd, e_2012]) ?_
      simp only [e_2012, e_2013, e_2016, e_2017, e_2018, e_2021, e_2022, e_2023, go_sem, reduceIte, reduceCtorEq, Nat.reduceEqDiff, Nat.reduceLT, Nat.reduceLeDiff, Nat.reduceAdd, Nat.reduceSub, Nat.reduceMul, Int.reduceToNat, Int.reduceLE, Int.reduceLT, Int.reduceAdd, Int.reduceSub, Int.reduceMul, Int.reduceEq, Int.reduceNeg]
      by_cases h_2026 : y_2024 < 0
      · rw [if_pos h_2026] at h
        have e_2027 : (y_2024 < 0) = True := eq_true h_2026
        simp only [e_2012, e_2013, e_2016, e_2017, e_2018, e_2021, e_2022, e_2023, e_2027, go_sem, reduceIte, reduceCtorEq, Nat.reduceEqDiff, Nat.reduceLT, Nat.reduceLeDiff, Nat.reduceAdd, Nat.reduceSub, Nat.reduceMul, Int.reduceToNat, Int.reduceLE, Int.reduceLT, Int.reduceAdd, Int.reduceSub, Int.reduceMul, Int.reduceEq, Int.reduceNeg]
        rw [← hQ]
        exact ⟨_, _, (Ref.std [0, 2, 4, 14, 15] [0, 1, 2, 4] (by decide) (by decide) rfl (by first | rfl | simp only [go_sem, reduceIte, Nat.reduceEqDiff, Nat.reduceAdd])), (by simp), ih _ _ _ h hp⟩
      · rw [if_neg h_2026] at h
        have e_2027 : (y_2024 < 0) = False := eq_false h_2026
        simp only [e_2012, e_2013, e_2016, e_2017, e_2018, e_2021, e_2022, e_2023, e_2027, go_sem, reduceIte, reduceCtorEq, Nat.reduceEqDiff, Nat.reduceLT, Nat.reduceLeDiff, Nat.reduceAdd, Nat.reduceSub, Nat.reduceMul, Int.reduceToNat, Int.reduceLE, Int.reduceLT, Int.reduceAdd, Int.reduceSub, Int.reduceMul, Int.reduceEq, Int.reduceNeg]
        rw [← hQ]
        exact ⟨_, _, (Ref.std [0, 2, 4, 14, 15] [0, 1, 2, 4] (by decide) (by decide) rfl (by first | rfl | simp only [go_sem, reduceIte, Nat.reduceEqDiff, Nat.reduceAdd])), (by simp), ih _ _ _ h hp⟩
    · rw [if_neg h_2011] at h
      have e_2012 : (i_2009 < i_2010) = False := eq_false h_2011
      simp only [e_2012, go_sem, reduceIte, reduceCtorEq, Nat.reduceEqDiff, Nat.reduceLT, Nat.reduceLeDiff, Nat.reduceAdd, Nat.reduceSub, Nat.reduceMul, Int.reduceToNat, Int.reduceLE, Int.reduceLT, Int.reduceAdd, Int.reduceSub, Int.reduceMul, Int.reduceEq, Int.reduceNeg]
      have g := Option.some.inj h
      subst g
      rw [← hQ]
      exact ⟨_, _, (Ref.std [0, 2, 14] [0, 1, 2, 3] (by decide) (by decide) rfl (by first | rfl | simp only [go_sem, reduceIte, Nat.reduceEqDiff, Nat.reduceAdd])), hp⟩
theorem slices_symMergeCmpFunc_int_row_L4_w (N : Nat) (y_3010 : Int) (l_4 : List Int) {R : AExit → ATm → List AObj → Prop} : ∀ (n : Nat) (i_3011 : Int) (s_3012 : List Int) (o : (List Int)), slices_symMergeCmpFunc_int_row_L4 N y_3010 l_4 n i_3011 s_3012 = some o → (match o with | z_1 => R (.exit 6) ⟨220, [], []⟩ [.mem 1 (List.map eI64 z_1) 3, .box [.row 3 0 l_4.length] 28, .dead, .mem 1 (List.map eI64 l_4) 3]) →
    ALp Go.Proofs.Try.prog 3 B90_4 ⟨220, [(0, .row 0 0 s_3012.length), (14, .int .i64 y_3010), (17, .int .i64 i_3011)], []⟩ [.mem 1 (List.map eI64 s_3012) 3, .box [.row 3 0 l_4.length] 28, .dead, .mem 1 (List.map eI64 l_4) 3] R := by
  intro n
  induction n with
  | zero =>
    intro i_3011 s_3012 o h _
    have h0 : none = some o := h
    cases h0
  | succ n ih =>
    intro i_3011 s_3012 o h hp
    rw [slices_symMergeCmpFunc_int_row_L4] at h
    refine ALp.round ?_
    generalize hQ : RoundQ _ _ _ _ = QQ
    simp only [B90_4, A90, go_sem, reduceIte, reduceCtorEq, Nat.reduceEqDiff, Nat.reduceLT, Nat.reduceLeDiff, Nat.reduceAdd, Nat.reduceSub, Nat.reduceMul, Int.reduceToNat, Int.reduceLE, Int.reduceLT, Int.reduceAdd, Int.reduceSub, Int.reduceMul, Int.reduceEq, Int.reduceNeg]
    by_cases h_3013 : y_3010 < i_3011
    · rw [if_pos h_3013] at h
      have e_3014 : (y_3010 < i_3011) = True := eq_true h_3013
      obtain ⟨x_3015, h_3016, h⟩ := bindS h
      have e_3017 : (List.map eI64 s_3012)[(IntKind.i64.wrap (i_3011 - 1)).toNat]? = some [.int .i64 x_3015] := atI_map eI64 h_3016
      have e_3018 : ((0 : Int) ≤ IntKind.i64.wrap (i_3011 - 1)) = True := eq_true (atI_some h_3016).1
      have e_3019 : ((IntKind.i64.wrap (i_3011 - 1) : Int) < (s_3012.length : Int)) = True := eq_true (atI_lt h_3016)
      obtain ⟨x_3020, h_3021, h⟩ := bindS h
      have e_3022 : (List.map eI64 s_3012)[(i_3011).toNat]? = some [.int .i64 x_3020] := atI_map eI64 h_3021
      have e_3023 : ((0 : Int) ≤ i_3011) = True := eq_true (atI_some h_3021).1
      have e_3024 : ((i_3011 : Int) < (s_3012.length : Int)) = True := eq_true (atI_lt h_3021)
      have e_3025 : (List.map eI64 s_3012).set (i_3011).toNat [.int .i64 x_3015] = List.map eI64 (List.set s_3012 (i_3011).toNat x_3015) := set_map s_3012 eI64 (i_3011).toNat x_3015
      obtain ⟨x_3026, h_3027, h⟩ := bindS h
      have e_3028 : (List.map eI64 (List.set s_3012 (i_3011).toNat x_3015))[(IntKind.i64.wrap (i_3011 - 1)).toNat]? = some [.int .i64 x_3026] := atI_map eI64 h_3027
      have e_3029 : ((0 : Int) ≤ IntKind.i64.wrap (i_3011 - 1)) = True := eq_true (atI_some h_3027).1
      have e_3030 : ((IntKind.i64.wrap (i_3011 - 1) : Int) < ((s_3012.length : Nat) : Int)) = True := eq_true (by have := atI_lt h_3027; simpa using this)
      have e_3031 : (List.map eI64 (List.set s_3012 (i_3011).toNat x_3015)).set (IntKind.i64.wrap (i_3011 - 1)).toNat [.int .i64 x_3020] = List.map eI64 (List.set (List.set s_3012 (i_3011).toNat x_3015) (IntKind.i64.wrap (i_3011 - 1)).toNat x_3020) := set_map (List.set s_3012 (i_3011).toNat x_3015) eI64 (IntKind.i64.wrap (i_3011 - 1)).toNat x_3020
      simp only [e_3014, e_3017, e_3018, e_3019, e_3022, e_3023, e_3024, e_3025, e_3028, e_3029, e_3030, e_3031, go_sem, reduceIte, reduceCtorEq, Nat.reduceEqDiff, Nat.reduceLT, Nat.reduceLeDiff, Nat.reduceAdd, Nat.reduceSub, Nat.reduceMul, Int.reduceToNat, Int.reduceLE, Int.reduceLT, Int.reduceAdd, Int.reduceSub, Int.reduceMul, Int.reduceEq, Int.reduceNeg]
      rw [← hQ]
      exact ⟨_, _, (Ref.std [0, 14, 17] [0, 1, 2, 3] (by decide) (by decide) (by first | rfl | simp only [go_sem, reduceIte, Nat.reduceEqDiff, Nat.reduceAdd]) (by first | rfl | simp only [go_sem, reduceIte, Nat.reduceEqDiff, Nat.reduceAdd])), (by simp), ih _ _ _ h hp⟩
    · rw [if_neg h_3013] at h
      have e_3014 : (y_3010 < i_3011) = False := eq_false h_3013
      simp only [e_3014, go_sem, reduceIte, reduceCtorEq, Nat.reduceEqDiff, Nat.reduceLT, Nat.reduceLeDiff, Nat.reduceAdd, Nat.reduceSub, Nat.reduceMul, Int.reduceToNat, Int.reduceLE, Int.reduceLT, Int.reduceAdd, Int.reduceSub, Int.reduceMul, Int.reduceEq, Int.reduceNeg]
      have g := Option.some.inj h
      subst g
      rw [← hQ]
      exact ⟨_, _, (Ref.std [] [0, 1, 2, 3] (by decide) (by decide) rfl (by first | rfl | simp only [go_sem, reduceIte, Nat.reduceEqDiff, Nat.reduceAdd])), hp⟩
end Go.Proofs.Ytjdnbdhdpcnikaa.AI
