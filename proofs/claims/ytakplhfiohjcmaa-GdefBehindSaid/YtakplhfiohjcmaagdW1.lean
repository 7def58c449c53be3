/- Walks: printed by a program (pw.py); each shows that a function answers what is told plainly. -/
import Derived.Test.YtakplhfiohjcmaagdP
import Derived.Test.YtakplhfiohjcmaagdA
set_option linter.unusedVariables false
set_option linter.unusedSimpArgs false
set_option maxRecDepth 100000
set_option maxHeartbeats 1000000
namespace Go.Proofs.Ytakplhfiohjcmaa.AI
open Go.Proofs (Try.prog)
def eU8 (x : Int) : List AV := [.int .u8 x]
theorem subs_eU8 (S : Sub) (l : List Int) : (List.map eU8 l).map (subs S) = List.map eU8 l := subs_map S l eU8 (fun _ => rfl)
def eI64 (x : Int) : List AV := [.int .i64 x]
theorem subs_eI64 (S : Sub) (l : List Int) : (List.map eI64 l).map (subs S) = List.map eI64 l := subs_map S l eI64 (fun _ => rfl)
def eTClass (x : TClass) : List AV := [.int .i64 x.From, .int .i64 x.To, .int .i64 x.Class]
theorem subs_eTClass (S : Sub) (l : List TClass) : (List.map eTClass l).map (subs S) = List.map eTClass l := subs_map S l eTClass (fun _ => rfl)
def eTArr3_I64 (x : TArr3_I64) : List AV := [.int .i64 x.e0, .int .i64 x.e1, .int .i64 x.e2]
theorem subs_eTArr3_I64 (S : Sub) (l : List TArr3_I64) : (List.map eTArr3_I64 l).map (subs S) = List.map eTArr3_I64 l := subs_map S l eTArr3_I64 (fun _ => rfl)
def eTSpan (x : TSpan) : List AV := [.int .i64 x.From, .int .i64 x.To]
theorem subs_eTSpan (S : Sub) (l : List TSpan) : (List.map eTSpan l).map (subs S) = List.map eTSpan l := subs_map S l eTSpan (fun _ => rfl)
def eLTSpan (x : List TSpan) : List AV := [.vec false (List.map eTSpan x)]
theorem subs_eLTSpan (S : Sub) (l : List (List TSpan)) : (List.map eLTSpan l).map (subs S) = List.map eLTSpan l := subs_map S l eLTSpan (fun _ => rfl)
def eTGroup (x : TGroup) : List AV := [.int .i32 x.From, .int .i32 x.To, .int .i64 x.Glyph]
theorem subs_eTGroup (S : Sub) (l : List TGroup) : (List.map eTGroup l).map (subs S) = List.map eTGroup l := subs_map S l eTGroup (fun _ => rfl)
def eB (x : Bool) : List AV := [.bool x]
theorem subs_eB (S : Sub) (l : List Bool) : (List.map eB l).map (subs S) = List.map eB l := subs_map S l eB (fun _ => rfl)
attribute [local go_sem] subs_eU8 subs_eI64 subs_eTClass subs_eTArr3_I64 subs_eTSpan subs_eLTSpan subs_eTGroup subs_eB
def tab_alive15 : List (Nat × ACode × Nat × List RV) := [E18, E20, E26, E29, E42, E43, E46, E48, E49, E51, E53, E54, E55, E57, E58, E59, E60, E61, E70, E71, E72, E73, E75, E76, E77, E78, E79, E80, E91, E92]
theorem tab_alive15_ok : AllOk Go.Proofs.Try.prog tab_alive15 := ⟨e18, e20, e26, e29, e42, e43, e46, e48, e49, e51, e53, e54, e55, e57, e58, e59, e60, e61, e70, e71, e72, e73, e75, e76, e77, e78, e79, e80, e91, e92, trivial⟩
theorem alive15 : ACalls Go.Proofs.Try.prog 42 [] [] fun e H => H = [] ∧ e = .ret (.bool true) := ACalls.told (m := 300) (n := 20) tab_alive15_ok (by decide +kernel)
def B80_1 : ACode := match A80 with | (.seq _ (.seq _ (.seq (.seq _ (.block _ (.loop b))) _))) => b | _ => .skip
def B20_1 : ACode := match A20 with | (.seq _ (.scope (.seq _ (.seq _ (.seq _ (.seq (.seq _ (.block _ (.seq _ (.cond _ (.seq _ (.seq _ (.seq _ (.seq _ (.seq (.seq _ (.block _ (.loop b))) _))))) _)))) _)))))) => b | _ => .skip
def B20_2 : ACode := match A20 with | (.seq _ (.scope (.seq _ (.seq _ (.seq _ (.seq (.seq _ (.block _ (.seq _ (.cond _ _ (.seq _ (.cond _ (.seq _ (.seq (.seq _ (.block _ (.loop b))) _)) _)))))) _)))))) => b | _ => .skip
def B78_1 : ACode := match A78 with | (.seq _ (.seq _ (.seq (.seq _ (.block _ (.loop b))) _))) => b | _ => .skip
def B60_1 : ACode := match A60 with | (.seq _ (.seq _ (.seq _ (.seq _ (.seq _ (.seq _ (.seq (.seq _ (.block _ (.loop b))) _))))))) => b | _ => .skip
def B73_1 : ACode := match A73 with | (.seq _ (.seq _ (.seq _ (.seq _ (.seq _ (.seq _ (.seq _ (.seq _ (.seq _ (.seq (.seq _ (.block _ (.loop b))) _)))))))))) => b | _ => .skip
def B54_1 : ACode := match A54 with | (.seq _ (.seq _ (.seq _ (.seq _ (.seq _ (.seq _ (.seq (.seq _ (.block _ (.loop b))) _))))))) => b | _ => .skip
def B55_1 : ACode := match A55 with | (.seq _ (.seq _ (.seq _ (.seq _ (.seq _ (.seq (.seq _ (.block _ (.loop b))) _)))))) => b | _ => .skip
def B45_1 : ACode := match A45 with | (.seq _ (.seq _ (.seq (.seq _ (.block _ (.loop b))) _))) => b | _ => .skip
def B23_1 : ACode := match A23 with | (.seq _ (.seq _ (.seq (.seq _ (.block _ (.loop b))) _))) => b | _ => .skip
def B22_1 : ACode := match A22 with | (.seq _ (.seq _ (.seq (.seq _ (.block _ (.loop b))) _))) => b | _ => .skip
def B51_1 : ACode := match A51 with | (.seq _ (.scope (.seq _ (.seq _ (.seq _ (.seq _ (.seq _ (.seq _ (.seq (.seq _ (.block _ (.loop b))) _))))))))) => b | _ => .skip
def B75_1 : ACode := match A75 with | (.seq _ (.seq _ (.seq _ (.seq _ (.seq _ (.seq (.seq _ (.block _ (.loop b))) _)))))) => b | _ => .skip
def B76_1 : ACode := match A76 with | (.seq _ (.seq _ (.seq _ (.seq _ (.seq _ (.seq _ (.seq _ (.seq _ (.seq (.seq _ (.block _ (.loop b))) _))))))))) => b | _ => .skip
def B92_1 : ACode := match A92 with | (.seq _ (.seq (.seq _ (.block _ (.loop b))) _)) => b | _ => .skip
def B52_1 : ACode := match A52 with | (.seq _ (.seq _ (.seq (.seq _ (.block _ (.loop b))) _))) => b | _ => .skip
theorem octet_Within_w (N : Nat) (l_0 : List Int) (a_1 : Int) (a_2 : Int) (c_0 : Bool) (z_1 : Bool) (h : octet_Within N l_0 a_1 a_2 = some z_1) :
    ACalls Go.Proofs.Try.prog 71 [.vec c_0 (List.map eU8 l_0), .int .i64 a_1, .int .i64 a_2] [] (fun e H => H = [] ∧ e = .ret (.bool z_1)) := by
  unfold octet_Within at h
  refine ACalls.goN Go.Proofs.Try.func71 n71 a71 Go.Proofs.Try.ntmps71 r71 (by simp) 0 rfl ?_
  generalize hQ : bodyA _ _ _ = QQ
  simp only [A71, go_sem, reduceIte, reduceCtorEq, Nat.reduceEqDiff, Nat.reduceLT, Nat.reduceLeDiff, Nat.reduceAdd, Nat.reduceSub, Nat.reduceMul, Int.reduceToNat, Int.reduceLE, Int.reduceLT, Int.reduceAdd, Int.reduceSub, Int.reduceMul, Int.reduceEq, Int.reduceNeg]
  by_cases h_1 : 0 ≤ a_1
  · rw [if_pos h_1] at h
    have e_2 : (0 ≤ a_1) = True := eq_true h_1
    simp only [e_2, go_sem, reduceIte, reduceCtorEq, Nat.reduceEqDiff, Nat.reduceLT, Nat.reduceLeDiff, Nat.reduceAdd, Nat.reduceSub, Nat.reduceMul, Int.reduceToNat, Int.reduceLE, Int.reduceLT, Int.reduceAdd, Int.reduceSub, Int.reduceMul, Int.reduceEq, Int.reduceNeg]
    by_cases h_3 : 0 ≤ a_2
    · rw [if_pos h_3] at h
      have e_4 : (0 ≤ a_2) = True := eq_true h_3
      simp only [e_2, e_4, go_sem, reduceIte, reduceCtorEq, Nat.reduceEqDiff, Nat.reduceLT, Nat.reduceLeDiff, Nat.reduceAdd, Nat.reduceSub, Nat.reduceMul, Int.reduceToNat, Int.reduceLE, Int.reduceLT, Int.reduceAdd, Int.reduceSub, Int.reduceMul, Int.reduceEq, Int.reduceNeg]
      by_cases h_5 : a_2 ≤ (l_0.length : Int)
      · rw [if_pos h_5] at h
        have e_6 : (a_2 ≤ (l_0.length : Int)) = True := eq_true h_5
        simp only [e_2, e_4, e_6, go_sem, reduceIte, reduceCtorEq, Nat.reduceEqDiff, Nat.reduceLT, Nat.reduceLeDiff, Nat.reduceAdd, Nat.reduceSub, Nat.reduceMul, Int.reduceToNat, Int.reduceLE, Int.reduceLT, Int.reduceAdd, Int.reduceSub, Int.reduceMul, Int.reduceEq, Int.reduceNeg]
        have g_0 := Option.some.inj h
        subst g_0
        rw [← hQ]
        exact ⟨rfl, _, rfl, _, _, (RefV.out (by first | rfl | simp only [go_sem, reduceIte, Nat.reduceEqDiff, Nat.reduceAdd, e_2, e_4, e_6])), rfl, rfl⟩
      · rw [if_neg h_5] at h
        have e_6 : (a_2 ≤ (l_0.length : Int)) = False := eq_false h_5
        simp only [e_2, e_4, e_6, go_sem, reduceIte, reduceCtorEq, Nat.reduceEqDiff, Nat.reduceLT, Nat.reduceLeDiff, Nat.reduceAdd, Nat.reduceSub, Nat.reduceMul, Int.reduceToNat, Int.reduceLE, Int.reduceLT, Int.reduceAdd, Int.reduceSub, Int.reduceMul, Int.reduceEq, Int.reduceNeg]
        have g_0 := Option.some.inj h
        subst g_0
        rw [← hQ]
        exact ⟨rfl, _, rfl, _, _, (RefV.out rfl), rfl, rfl⟩
    · rw [if_neg h_3] at h
      have e_4 : (0 ≤ a_2) = False := eq_false h_3
      simp only [e_2, e_4, go_sem, reduceIte, reduceCtorEq, Nat.reduceEqDiff, Nat.reduceLT, Nat.reduceLeDiff, Nat.reduceAdd, Nat.reduceSub, Nat.reduceMul, Int.reduceToNat, Int.reduceLE, Int.reduceLT, Int.reduceAdd, Int.reduceSub, Int.reduceMul, Int.reduceEq, Int.reduceNeg]
      have g_0 := Option.some.inj h
      subst g_0
      rw [← hQ]
      exact ⟨rfl, _, rfl, _, _, (RefV.out rfl), rfl, rfl⟩
  · rw [if_neg h_1] at h
    have e_2 : (0 ≤ a_1) = False := eq_false h_1
    simp only [e_2, go_sem, reduceIte, reduceCtorEq, Nat.reduceEqDiff, Nat.reduceLT, Nat.reduceLeDiff, Nat.reduceAdd, Nat.reduceSub, Nat.reduceMul, Int.reduceToNat, Int.reduceLE, Int.reduceLT, Int.reduceAdd, Int.reduceSub, Int.reduceMul, Int.reduceEq, Int.reduceNeg]
    have g_0 := Option.some.inj h
    subst g_0
    rw [← hQ]
    exact ⟨rfl, _, rfl, _, _, (RefV.out rfl), rfl, rfl⟩
theorem octet_number_L1_w (N : Nat) (l_0 : List Int) (c_0 : Bool) {R : AExit → ATm → List AObj → Prop} : ∀ (n : Nat) (i_1 : Int) (i_2 : Int) (o : Int), octet_number_L1 N l_0 n i_1 i_2 = some o → (match o with | z_1 => R (.exit 0) ⟨19, [(3, .int .i64 z_1)], []⟩ []) →
    ALp Go.Proofs.Try.prog 0 B80_1 ⟨19, [(3, .int .i64 i_1), (6, .vec c_0 (List.map eU8 l_0)), (7, .int .i64 (l_0.length : Int)), (8, .int .i64 i_2)], []⟩ [] R := by
  intro n
  induction n with
  | zero =>
    intro i_1 i_2 o h _
    have h0 : none = some o := h
    cases h0
  | succ n ih =>
    intro i_1 i_2 o h hp
    rw [octet_number_L1] at h
    refine ALp.round ?_
    generalize hQ : RoundQ _ _ _ _ = QQ
    simp only [B80_1, A80, go_sem, reduceIte, reduceCtorEq, Nat.reduceEqDiff, Nat.reduceLT, Nat.reduceLeDiff, Nat.reduceAdd, Nat.reduceSub, Nat.reduceMul, Int.reduceToNat, Int.reduceLE, Int.reduceLT, Int.reduceAdd, Int.reduceSub, Int.reduceMul, Int.reduceEq, Int.reduceNeg]
    by_cases h_3 : i_2 < (l_0.length : Int)
    · rw [if_pos h_3] at h
      have e_4 : (i_2 < (l_0.length : Int)) = True := eq_true h_3
      obtain ⟨x_5, h_6, h⟩ := bindS h
      have e_7 : (List.map eU8 l_0)[(i_2).toNat]? = some [.int .u8 x_5] := atI_map eU8 h_6
      have e_8 : ((0 : Int) ≤ i_2) = True := eq_true (atI_some h_6).1
      have e_9 : ((i_2 : Int) < (l_0.length : Int)) = True := eq_true (atI_lt h_6)
      have e_10 : (min 8 64 : Nat) = 8 := rfl
      simp only [e_4, e_7, e_8, e_9, e_10, go_sem, reduceIte, reduceCtorEq, Nat.reduceEqDiff, Nat.reduceLT, Nat.reduceLeDiff, Nat.reduceAdd, Nat.reduceSub, Nat.reduceMul, Int.reduceToNat, Int.reduceLE, Int.reduceLT, Int.reduceAdd, Int.reduceSub, Int.reduceMul, Int.reduceEq, Int.reduceNeg]
      rw [← hQ]
      exact ⟨_, _, (Ref.out [3, 6, 7, 8] rfl), (Nat.zero_le _), ih _ _ _ h hp⟩
    · rw [if_neg h_3] at h
      have e_4 : (i_2 < (l_0.length : Int)) = False := eq_false h_3
      simp only [e_4, go_sem, reduceIte, reduceCtorEq, Nat.reduceEqDiff, Nat.reduceLT, Nat.reduceLeDiff, Nat.reduceAdd, Nat.reduceSub, Nat.reduceMul, Int.reduceToNat, Int.reduceLE, Int.reduceLT, Int.reduceAdd, Int.reduceSub, Int.reduceMul, Int.reduceEq, Int.reduceNeg]
      have g := Option.some.inj h
      subst g
      rw [← hQ]
      exact ⟨_, _, (Ref.out [3] rfl), hp⟩
theorem octet_number_w (N : Nat) (l_0 : List Int) (c_0 : Bool) (z_1 : Int) (h : octet_number N l_0 = some z_1) :
    ACalls Go.Proofs.Try.prog 80 [.vec c_0 (List.map eU8 l_0)] [] (fun e H => H = [] ∧ e = .ret (.int .i64 z_1)) := by
  unfold octet_number at h
  refine ACalls.goN Go.Proofs.Try.func80 n80 a80 Go.Proofs.Try.ntmps80 r80 (by simp) 0 rfl ?_
  generalize hQ : bodyA _ _ _ = QQ
  simp only [A80, go_sem, reduceIte, reduceCtorEq, Nat.reduceEqDiff, Nat.reduceLT, Nat.reduceLeDiff, Nat.reduceAdd, Nat.reduceSub, Nat.reduceMul, Int.reduceToNat, Int.reduceLE, Int.reduceLT, Int.reduceAdd, Int.reduceSub, Int.reduceMul, Int.reduceEq, Int.reduceNeg]
  obtain ⟨y_1002, h_1001, h⟩ := bindS h
  refine ALp.ref (Ref.out [3, 6, 7, 8] rfl) (Nat.zero_le _) (octet_number_L1_w N _ c_0 N _ _ y_1002 h_1001 ?_)
  refine LoopK_go rfl (Nat.zero_le _) ?_
  simp only [go_sem, reduceIte, reduceCtorEq, Nat.reduceEqDiff, Nat.reduceLT, Nat.reduceLeDiff, Nat.reduceAdd, Nat.reduceSub, Nat.reduceMul, Int.reduceToNat, Int.reduceLE, Int.reduceLT, Int.reduceAdd, Int.reduceSub, Int.reduceMul, Int.reduceEq, Int.reduceNeg]
  have g_0 := Option.some.inj h
  subst g_0
  rw [← hQ]
  exact ⟨rfl, _, rfl, _, _, (RefV.out rfl), rfl, rfl⟩
theorem octet_read_w (N : Nat) (l_0 : List Int) (a_1 : Int) (a_2 : Int) (c_0 : Bool) (z_1 : Int) (z_2 : Bool) (h : octet_read N l_0 a_1 a_2 = some (z_1, z_2)) :
    ACalls Go.Proofs.Try.prog 77 [.vec c_0 (List.map eU8 l_0), .int .i64 a_1, .int .i64 a_2] [] (fun e H => H = [] ∧ e = .ret (.tup [.int .i64 z_1, .bool z_2])) := by
  unfold octet_read at h
  refine ACalls.goN Go.Proofs.Try.func77 n77 a77 Go.Proofs.Try.ntmps77 r77 (by simp) 0 rfl ?_
  generalize hQ : bodyA _ _ _ = QQ
  obtain ⟨y_1, h_2, h⟩ := bindS h
  simp only [A77, go_sem, reduceIte, reduceCtorEq, Nat.reduceEqDiff, Nat.reduceLT, Nat.reduceLeDiff, Nat.reduceAdd, Nat.reduceSub, Nat.reduceMul, Int.reduceToNat, Int.reduceLE, Int.reduceLT, Int.reduceAdd, Int.reduceSub, Int.reduceMul, Int.reduceEq, Int.reduceNeg]
  refine ACalls.use0 (octet_Within_w N _ _ _ _ _ h_2) rfl rfl ?_
  refine CallK_go (Nat.zero_le _) ?_
  simp only [go_sem, reduceIte, reduceCtorEq, Nat.reduceEqDiff, Nat.reduceLT, Nat.reduceLeDiff, Nat.reduceAdd, Nat.reduceSub, Nat.reduceMul, Int.reduceToNat, Int.reduceLE, Int.reduceLT, Int.reduceAdd, Int.reduceSub, Int.reduceMul, Int.reduceEq, Int.reduceNeg]
  by_cases h_3 : y_1 = true
  · rw [if_pos h_3] at h
    have e_4 : y_1 = true := h_3
    obtain ⟨h_5, h⟩ := guardS h
    have e_6 : (0 ≤ a_1) = True := eq_true h_5
    obtain ⟨h_7, h⟩ := guardS h
    have e_8 : (a_1 ≤ IntKind.i64.wrap (a_1 + a_2)) = True := eq_true h_7
    obtain ⟨h_9, h⟩ := guardS h
    have e_10 : (IntKind.i64.wrap (a_1 + a_2) ≤ (l_0.length : Int)) = True := eq_true h_9
    have e_11 : ((List.map eU8 l_0)).all (fun el => el.length == 1) = true := all_len _ eU8 1 (fun _ => rfl)
    have e_12 : List.take ((IntKind.i64.wrap (a_1 + a_2)).toNat - (a_1).toNat) (List.drop (a_1).toNat (List.map eU8 l_0)) = List.map eU8 (slI l_0 a_1 (IntKind.i64.wrap (a_1 + a_2))) := slI_map l_0 a_1 (IntKind.i64.wrap (a_1 + a_2)) eU8
    obtain ⟨y_13, h_14, h⟩ := bindS h
    simp only [e_4, e_6, e_8, e_10, e_11, e_12, go_sem, reduceIte, reduceCtorEq, Nat.reduceEqDiff, Nat.reduceLT, Nat.reduceLeDiff, Nat.reduceAdd, Nat.reduceSub, Nat.reduceMul, Int.reduceToNat, Int.reduceLE, Int.reduceLT, Int.reduceAdd, Int.reduceSub, Int.reduceMul, Int.reduceEq, Int.reduceNeg]
    refine ACalls.use0 (octet_number_w N _ _ _ h_14) rfl rfl ?_
    refine CallK_go (Nat.zero_le _) ?_
    simp only [e_4, e_6, e_8, e_10, e_11, e_12, go_sem, reduceIte, reduceCtorEq, Nat.reduceEqDiff, Nat.reduceLT, Nat.reduceLeDiff, Nat.reduceAdd, Nat.reduceSub, Nat.reduceMul, Int.reduceToNat, Int.reduceLE, Int.reduceLT, Int.reduceAdd, Int.reduceSub, Int.reduceMul, Int.reduceEq, Int.reduceNeg]
    have g_0 := Option.some.inj h
    obtain ⟨k_1, g_1⟩ := Prod.mk.inj g_0
    subst k_1
    subst g_1
    rw [← hQ]
    exact ⟨rfl, _, rfl, _, _, (RefV.out rfl), rfl, rfl⟩
  · rw [if_neg h_3] at h
    have e_4 : y_1 = false := bfalse h_3
    simp only [e_4, go_sem, reduceIte, reduceCtorEq, Nat.reduceEqDiff, Nat.reduceLT, Nat.reduceLeDiff, Nat.reduceAdd, Nat.reduceSub, Nat.reduceMul, Int.reduceToNat, Int.reduceLE, Int.reduceLT, Int.reduceAdd, Int.reduceSub, Int.reduceMul, Int.reduceEq, Int.reduceNeg]
    have g_0 := Option.some.inj h
    obtain ⟨k_1, g_1⟩ := Prod.mk.inj g_0
    subst k_1
    subst g_1
    rw [← hQ]
    exact ⟨rfl, _, rfl, _, _, (RefV.out rfl), rfl, rfl⟩
theorem octet_U32_w (N : Nat) (l_0 : List Int) (a_1 : Int) (c_0 : Bool) (z_1 : Int) (z_2 : Bool) (h : octet_U32 N l_0 a_1 = some (z_1, z_2)) :
    ACalls Go.Proofs.Try.prog 70 [.vec c_0 (List.map eU8 l_0), .int .i64 a_1] [] (fun e H => H = [] ∧ e = .ret (.tup [.int .i64 z_1, .bool z_2])) := by
  unfold octet_U32 at h
  refine ACalls.goN Go.Proofs.Try.func70 n70 a70 Go.Proofs.Try.ntmps70 r70 (by simp) 0 rfl ?_
  generalize hQ : bodyA _ _ _ = QQ
  obtain ⟨⟨y_1, y_2⟩, h_3, h⟩ := bindS h
  try dsimp only at h
  simp only [A70, go_sem, reduceIte, reduceCtorEq, Nat.reduceEqDiff, Nat.reduceLT, Nat.reduceLeDiff, Nat.reduceAdd, Nat.reduceSub, Nat.reduceMul, Int.reduceToNat, Int.reduceLE, Int.reduceLT, Int.reduceAdd, Int.reduceSub, Int.reduceMul, Int.reduceEq, Int.reduceNeg]
  refine ACalls.use0 (octet_read_w N _ _ _ _ _ _ h_3) rfl rfl ?_
  refine CallK_go (Nat.zero_le _) ?_
  simp only [go_sem, reduceIte, reduceCtorEq, Nat.reduceEqDiff, Nat.reduceLT, Nat.reduceLeDiff, Nat.reduceAdd, Nat.reduceSub, Nat.reduceMul, Int.reduceToNat, Int.reduceLE, Int.reduceLT, Int.reduceAdd, Int.reduceSub, Int.reduceMul, Int.reduceEq, Int.reduceNeg]
  have g_0 := Option.some.inj h
  obtain ⟨k_1, g_1⟩ := Prod.mk.inj g_0
  subst k_1
  subst g_1
  rw [← hQ]
  exact ⟨rfl, _, rfl, _, _, (RefV.out rfl), rfl, rfl⟩
theorem octet_U16_w (N : Nat) (l_0 : List Int) (a_1 : Int) (c_0 : Bool) (z_1 : Int) (z_2 : Bool) (h : octet_U16 N l_0 a_1 = some (z_1, z_2)) :
    ACalls Go.Proofs.Try.prog 57 [.vec c_0 (List.map eU8 l_0), .int .i64 a_1] [] (fun e H => H = [] ∧ e = .ret (.tup [.int .i64 z_1, .bool z_2])) := by
  unfold octet_U16 at h
  refine ACalls.goN Go.Proofs.Try.func57 n57 a57 Go.Proofs.Try.ntmps57 r57 (by simp) 0 rfl ?_
  generalize hQ : bodyA _ _ _ = QQ
  obtain ⟨⟨y_1, y_2⟩, h_3, h⟩ := bindS h
  try dsimp only at h
  simp only [A57, go_sem, reduceIte, reduceCtorEq, Nat.reduceEqDiff, Nat.reduceLT, Nat.reduceLeDiff, Nat.reduceAdd, Nat.reduceSub, Nat.reduceMul, Int.reduceToNat, Int.reduceLE, Int.reduceLT, Int.reduceAdd, Int.reduceSub, Int.reduceMul, Int.reduceEq, Int.reduceNeg]
  refine ACalls.use0 (octet_read_w N _ _ _ _ _ _ h_3) rfl rfl ?_
  refine CallK_go (Nat.zero_le _) ?_
  simp only [go_sem, reduceIte, reduceCtorEq, Nat.reduceEqDiff, Nat.reduceLT, Nat.reduceLeDiff, Nat.reduceAdd, Nat.reduceSub, Nat.reduceMul, Int.reduceToNat, Int.reduceLE, Int.reduceLT, Int.reduceAdd, Int.reduceSub, Int.reduceMul, Int.reduceEq, Int.reduceNeg]
  have g_0 := Option.some.inj h
  obtain ⟨k_1, g_1⟩ := Prod.mk.inj g_0
  subst k_1
  subst g_1
  rw [← hQ]
  exact ⟨rfl, _, rfl, _, _, (RefV.out rfl), rfl, rfl⟩
theorem cover_format_w (N : Nat) (l_0 : List Int) (a_1 : Int) (c_0 : Bool) (z_1 : Int) (h : cover_format N l_0 a_1 = some z_1) :
    ACalls Go.Proofs.Try.prog 53 [.vec c_0 (List.map eU8 l_0), .int .i64 a_1] [] (fun e H => H = [] ∧ e = .ret (.int .i64 z_1)) := by
  unfold cover_format at h
  refine ACalls.goN Go.Proofs.Try.func53 n53 a53 Go.Proofs.Try.ntmps53 r53 (by simp) 0 rfl ?_
  generalize hQ : bodyA _ _ _ = QQ
  obtain ⟨⟨y_1, y_2⟩, h_3, h⟩ := bindS h
  try dsimp only at h
  simp only [A53, go_sem, reduceIte, reduceCtorEq, Nat.reduceEqDiff, Nat.reduceLT, Nat.reduceLeDiff, Nat.reduceAdd, Nat.reduceSub, Nat.reduceMul, Int.reduceToNat, Int.reduceLE, Int.reduceLT, Int.reduceAdd, Int.reduceSub, Int.reduceMul, Int.reduceEq, Int.reduceNeg]
  refine ACalls.use0 (octet_U16_w N _ _ _ _ _ h_3) rfl rfl ?_
  refine CallK_go (Nat.zero_le _) ?_
  simp only [go_sem, reduceIte, reduceCtorEq, Nat.reduceEqDiff, Nat.reduceLT, Nat.reduceLeDiff, Nat.reduceAdd, Nat.reduceSub, Nat.reduceMul, Int.reduceToNat, Int.reduceLE, Int.reduceLT, Int.reduceAdd, Int.reduceSub, Int.reduceMul, Int.reduceEq, Int.reduceNeg]
  by_cases h_4 : y_2 = true
  · rw [if_pos h_4] at h
    have e_5 : y_2 = true := h_4
    simp only [e_5, go_sem, reduceIte, reduceCtorEq, Nat.reduceEqDiff, Nat.reduceLT, Nat.reduceLeDiff, Nat.reduceAdd, Nat.reduceSub, Nat.reduceMul, Int.reduceToNat, Int.reduceLE, Int.reduceLT, Int.reduceAdd, Int.reduceSub, Int.reduceMul, Int.reduceEq, Int.reduceNeg]
    have g_0 := Option.some.inj h
    subst g_0
    rw [← hQ]
    exact ⟨rfl, _, rfl, _, _, (RefV.out rfl), rfl, rfl⟩
  · rw [if_neg h_4] at h
    have e_5 : y_2 = false := bfalse h_4
    simp only [e_5, go_sem, reduceIte, reduceCtorEq, Nat.reduceEqDiff, Nat.reduceLT, Nat.reduceLeDiff, Nat.reduceAdd, Nat.reduceSub, Nat.reduceMul, Int.reduceToNat, Int.reduceLE, Int.reduceLT, Int.reduceAdd, Int.reduceSub, Int.reduceMul, Int.reduceEq, Int.reduceNeg]
    have g_0 := Option.some.inj h
    subst g_0
    rw [← hQ]
    exact ⟨rfl, _, rfl, _, _, (RefV.out rfl), rfl, rfl⟩
theorem octet_Row_1_w (N : Nat) (a_0 : Int) (l_1 : List Int) (a_2 : Int) (a_3 : Int) (c_0 : Bool) (z_1 : Int) (h : octet_Row_1 N a_0 l_1 a_2 a_3 = some z_1) :
    ACalls Go.Proofs.Try.prog 79 [.int .i64 a_0, .ptr 0 0 0, .ptr 1 0 0, .ptr 2 0 0] [.box [.vec c_0 (List.map eU8 l_1)] 22, .box [.int .i64 a_2] 3, .box [.int .i64 a_3] 3] (fun e H => H = [.box [.vec c_0 (List.map eU8 l_1)] 22, .box [.int .i64 a_2] 3, .box [.int .i64 a_3] 3] ∧ e = .ret (.int .i64 z_1)) := by
  unfold octet_Row_1 at h
  refine ACalls.goN Go.Proofs.Try.func79 n79 a79 Go.Proofs.Try.ntmps79 r79 (by simp) 3 rfl ?_
  generalize hQ : bodyA _ _ _ = QQ
  obtain ⟨h_1, h⟩ := guardS h
  have e_2 : (0 ≤ IntKind.i64.wrap (a_2 + (IntKind.i64.wrap (a_0 * a_3)))) = True := eq_true h_1
  obtain ⟨h_3, h⟩ := guardS h
  have e_4 : (IntKind.i64.wrap (a_2 + (IntKind.i64.wrap (a_0 * a_3))) ≤ IntKind.i64.wrap (a_2 + (IntKind.i64.wrap ((IntKind.i64.wrap (a_0 + 1)) * a_3)))) = True := eq_true h_3
  obtain ⟨h_5, h⟩ := guardS h
  have e_6 : (IntKind.i64.wrap (a_2 + (IntKind.i64.wrap ((IntKind.i64.wrap (a_0 + 1)) * a_3))) ≤ (l_1.length : Int)) = True := eq_true h_5
  have e_7 : ((List.map eU8 l_1)).all (fun el => el.length == 1) = true := all_len _ eU8 1 (fun _ => rfl)
  have e_8 : List.take ((IntKind.i64.wrap (a_2 + (IntKind.i64.wrap ((IntKind.i64.wrap (a_0 + 1)) * a_3)))).toNat - (IntKind.i64.wrap (a_2 + (IntKind.i64.wrap (a_0 * a_3)))).toNat) (List.drop (IntKind.i64.wrap (a_2 + (IntKind.i64.wrap (a_0 * a_3)))).toNat (List.map eU8 l_1)) = List.map eU8 (slI l_1 (IntKind.i64.wrap (a_2 + (IntKind.i64.wrap (a_0 * a_3)))) (IntKind.i64.wrap (a_2 + (IntKind.i64.wrap ((IntKind.i64.wrap (a_0 + 1)) * a_3))))) := slI_map l_1 (IntKind.i64.wrap (a_2 + (IntKind.i64.wrap (a_0 * a_3)))) (IntKind.i64.wrap (a_2 + (IntKind.i64.wrap ((IntKind.i64.wrap (a_0 + 1)) * a_3)))) eU8
  obtain ⟨y_9, h_10, h⟩ := bindS h
  simp only [A79, e_2, e_4, e_6, e_7, e_8, go_sem, reduceIte, reduceCtorEq, Nat.reduceEqDiff, Nat.reduceLT, Nat.reduceLeDiff, Nat.reduceAdd, Nat.reduceSub, Nat.reduceMul, Int.reduceToNat, Int.reduceLE, Int.reduceLT, Int.reduceAdd, Int.reduceSub, Int.reduceMul, Int.reduceEq, Int.reduceNeg]
  refine ACalls.use0 (octet_number_w N _ _ _ h_10) rfl rfl ?_
  refine CallK_go (by simp) ?_
  simp only [e_2, e_4, e_6, e_7, e_8, go_sem, reduceIte, reduceCtorEq, Nat.reduceEqDiff, Nat.reduceLT, Nat.reduceLeDiff, Nat.reduceAdd, Nat.reduceSub, Nat.reduceMul, Int.reduceToNat, Int.reduceLE, Int.reduceLT, Int.reduceAdd, Int.reduceSub, Int.reduceMul, Int.reduceEq, Int.reduceNeg]
  have g_0 := Option.some.inj h
  subst g_0
  rw [← hQ]
  exact ⟨rfl, _, rfl, _, _, (RefV.std [0, 1, 2] (by decide) (by decide) rfl (by first | rfl | simp only [go_sem, reduceIte, Nat.reduceEqDiff, Nat.reduceAdd])), rfl, rfl⟩
theorem octet_many_int_L1_w (N : Nat) (a_0 : Int) (l_1 : List Int) (a_2 : Int) (a_3 : Int) (c_0 : Bool) {R : AExit → ATm → List AObj → Prop} : ∀ (n : Nat) (i_1 : Int) (s_2 : List Int) (o : (List Int)), octet_many_int_L1 N a_0 l_1 a_2 a_3 n i_1 s_2 = some o → (match o with | z_1 => R (.exit 0) ⟨19, [(5, .row 3 0 z_1.length)], []⟩ [.box [.vec c_0 (List.map eU8 l_1)] 22, .box [.int .i64 a_2] 3, .box [.int .i64 a_3] 3, .mem 1 (List.map eI64 z_1) 3]) →
    ALp Go.Proofs.Try.prog 3 B78_1 ⟨19, [(1, .fn (.func 79) [] [.ptr 0 0 0, .ptr 1 0 0, .ptr 2 0 0]), (5, .row 3 0 s_2.length), (7, .int .i64 a_0), (8, .int .i64 i_1)], []⟩ [.box [.vec c_0 (List.map eU8 l_1)] 22, .box [.int .i64 a_2] 3, .box [.int .i64 a_3] 3, .mem 1 (List.map eI64 s_2) 3] R := by
  intro n
  induction n with
  | zero =>
    intro i_1 s_2 o h _
    have h0 : none = some o := h
    cases h0
  | succ n ih =>
    intro i_1 s_2 o h hp
    rw [octet_many_int_L1] at h
    refine ALp.round ?_
    generalize hQ : RoundQ _ _ _ _ = QQ
    simp only [B78_1, A78, go_sem, reduceIte, reduceCtorEq, Nat.reduceEqDiff, Nat.reduceLT, Nat.reduceLeDiff, Nat.reduceAdd, Nat.reduceSub, Nat.reduceMul, Int.reduceToNat, Int.reduceLE, Int.reduceLT, Int.reduceAdd, Int.reduceSub, Int.reduceMul, Int.reduceEq, Int.reduceNeg]
    by_cases h_3 : i_1 < a_0
    · rw [if_pos h_3] at h
      have e_4 : (i_1 < a_0) = True := eq_true h_3
      obtain ⟨y_5, h_6, h⟩ := bindS h
      simp only [e_4, go_sem, reduceIte, reduceCtorEq, Nat.reduceEqDiff, Nat.reduceLT, Nat.reduceLeDiff, Nat.reduceAdd, Nat.reduceSub, Nat.reduceMul, Int.reduceToNat, Int.reduceLE, Int.reduceLT, Int.reduceAdd, Int.reduceSub, Int.reduceMul, Int.reduceEq, Int.reduceNeg]
      refine ACalls.use (octet_Row_1_w N _ _ _ _ _ _ h_6) [0, 1, 2] (by decide) ⟨(by first | rfl | simp only [go_sem, reduceIte, Nat.reduceEqDiff, Nat.reduceAdd, e_4]), (by first | rfl | simp only [go_sem, reduceIte, Nat.reduceEqDiff, Nat.reduceAdd, e_4]), (by first | rfl | simp only [go_sem, reduceIte, Nat.reduceEqDiff, Nat.reduceAdd, e_4]), trivial⟩ rfl (v' := .int .i64 y_5) (by first | rfl | simp only [go_sem, reduceIte, Nat.reduceEqDiff, Nat.reduceAdd, e_4]) (H' := [.box [.vec c_0 (List.map eU8 l_1)] 22, .box [.int .i64 a_2] 3, .box [.int .i64 a_3] 3, .mem 1 (List.map eI64 s_2) 3]) (by first | rfl | simp only [go_sem, reduceIte, Nat.reduceEqDiff, Nat.reduceAdd, e_4]) ?_
      refine CallK_go (by simp) ?_
      have e_7 : List.take s_2.length (List.map eI64 s_2) = (List.map eI64 s_2) := List.take_of_length_le (by simp)
      have e_8 : (List.map eI64 s_2) ++ [[.int .i64 y_5]] = (List.map eI64 (s_2 ++ [y_5])) := app_map s_2 ([y_5]) eI64
      obtain ⟨h_9, h⟩ := guardS h
      have e_10 : ((s_2.length + 1) * 8 ≤ 140737488355328) = True := eq_true h_9
      simp only [e_4, e_7, e_8, e_10, go_sem, reduceIte, reduceCtorEq, Nat.reduceEqDiff, Nat.reduceLT, Nat.reduceLeDiff, Nat.reduceAdd, Nat.reduceSub, Nat.reduceMul, Int.reduceToNat, Int.reduceLE, Int.reduceLT, Int.reduceAdd, Int.reduceSub, Int.reduceMul, Int.reduceEq, Int.reduceNeg]
      rw [← hQ]
      exact ⟨_, _, (Ref.std [1, 5, 7, 8] [0, 1, 2, 4] (by decide) (by decide) (by first | rfl | simp only [go_sem, reduceIte, Nat.reduceEqDiff, Nat.reduceAdd]) (by first | rfl | simp only [go_sem, reduceIte, Nat.reduceEqDiff, Nat.reduceAdd])), (by simp), ih _ _ _ h hp⟩
    · rw [if_neg h_3] at h
      have e_4 : (i_1 < a_0) = False := eq_false h_3
      simp only [e_4, go_sem, reduceIte, reduceCtorEq, Nat.reduceEqDiff, Nat.reduceLT, Nat.reduceLeDiff, Nat.reduceAdd, Nat.reduceSub, Nat.reduceMul, Int.reduceToNat, Int.reduceLE, Int.reduceLT, Int.reduceAdd, Int.reduceSub, Int.reduceMul, Int.reduceEq, Int.reduceNeg]
      have g := Option.some.inj h
      subst g
      rw [← hQ]
      exact ⟨_, _, (Ref.std [5] [0, 1, 2, 3] (by decide) (by decide) rfl (by first | rfl | simp only [go_sem, reduceIte, Nat.reduceEqDiff, Nat.reduceAdd])), hp⟩
theorem octet_many_int_w (N : Nat) (a_0 : Int) (l_1 : List Int) (a_2 : Int) (a_3 : Int) (c_0 : Bool) (z_1 : List Int) (h : octet_many_int N a_0 l_1 a_2 a_3 = some z_1) :
    ACalls Go.Proofs.Try.prog 78 [.int .i64 a_0, .fn (.func 79) [] [.ptr 0 0 0, .ptr 1 0 0, .ptr 2 0 0]] [.box [.vec c_0 (List.map eU8 l_1)] 22, .box [.int .i64 a_2] 3, .box [.int .i64 a_3] 3] (fun e H => H = [.box [.vec c_0 (List.map eU8 l_1)] 22, .box [.int .i64 a_2] 3, .box [.int .i64 a_3] 3] ∧ e = .ret (.vec false (List.map eI64 z_1))) := by
  unfold octet_many_int at h
  refine ACalls.goN Go.Proofs.Try.func78 n78 a78 Go.Proofs.Try.ntmps78 r78 (by simp) 3 rfl ?_
  generalize hQ : bodyA _ _ _ = QQ
  simp only [A78, go_sem, reduceIte, reduceCtorEq, Nat.reduceEqDiff, Nat.reduceLT, Nat.reduceLeDiff, Nat.reduceAdd, Nat.reduceSub, Nat.reduceMul, Int.reduceToNat, Int.reduceLE, Int.reduceLT, Int.reduceAdd, Int.reduceSub, Int.reduceMul, Int.reduceEq, Int.reduceNeg]
  obtain ⟨y_1002, h_1001, h⟩ := bindS h
  refine ALp.ref (Ref.trans (Ref.thaw (by simp) 5 rfl (sz := 1) (by decide) 3) (Ref.std [1, 5, 7, 8] [0, 1, 2, 3] (by decide) (by decide) rfl (by first | rfl | simp only [go_sem, reduceIte, Nat.reduceEqDiff, Nat.reduceAdd]))) (by simp) (octet_many_int_L1_w N _ _ _ _ c_0 N _ _ y_1002 h_1001 ?_)
  refine LoopK_go rfl (by simp) ?_
  simp only [go_sem, reduceIte, reduceCtorEq, Nat.reduceEqDiff, Nat.reduceLT, Nat.reduceLeDiff, Nat.reduceAdd, Nat.reduceSub, Nat.reduceMul, Int.reduceToNat, Int.reduceLE, Int.reduceLT, Int.reduceAdd, Int.reduceSub, Int.reduceMul, Int.reduceEq, Int.reduceNeg]
  have g_0 := Option.some.inj h
  subst g_0
  rw [← hQ]
  exact ⟨rfl, _, rfl, _, _, (RefV.trans (RefV.frz (by simp) (id := 3) rfl (pures_map y_1002 eI64 (fun _ => rfl))) (RefV.std [0, 1, 2] (by decide) (by decide) (by first | rfl | simp only [go_sem, reduceIte, Nat.reduceEqDiff, Nat.reduceAdd]) (by first | rfl | simp only [go_sem, reduceIte, Nat.reduceEqDiff, Nat.reduceAdd]))), rfl, rfl⟩
theorem octet_Row_w (N : Nat) (l_0 : List Int) (a_1 : Int) (a_2 : Int) (a_3 : Int) (c_0 : Bool) (z_1 : List Int) (z_2 : Bool) (h : octet_Row N l_0 a_1 a_2 a_3 = some (z_1, z_2)) :
    ACalls Go.Proofs.Try.prog 58 [.vec c_0 (List.map eU8 l_0), .int .i64 a_1, .int .i64 a_2, .int .i64 a_3] [] (fun e H => H = [] ∧ e = .ret (.tup [.vec false (List.map eI64 z_1), .bool z_2])) := by
  unfold octet_Row at h
  refine ACalls.goN Go.Proofs.Try.func58 n58 a58 Go.Proofs.Try.ntmps58 r58 (by simp) 0 rfl ?_
  generalize hQ : bodyA _ _ _ = QQ
  simp only [A58, go_sem, reduceIte, reduceCtorEq, Nat.reduceEqDiff, Nat.reduceLT, Nat.reduceLeDiff, Nat.reduceAdd, Nat.reduceSub, Nat.reduceMul, Int.reduceToNat, Int.reduceLE, Int.reduceLT, Int.reduceAdd, Int.reduceSub, Int.reduceMul, Int.reduceEq, Int.reduceNeg]
  by_cases h_1 : a_3 = 1
  · rw [if_pos h_1] at h
    have e_2 : (a_3 = 1) = True := eq_true h_1
    simp only [e_2, go_sem, reduceIte, reduceCtorEq, Nat.reduceEqDiff, Nat.reduceLT, Nat.reduceLeDiff, Nat.reduceAdd, Nat.reduceSub, Nat.reduceMul, Int.reduceToNat, Int.reduceLE, Int.reduceLT, Int.reduceAdd, Int.reduceSub, Int.reduceMul, Int.reduceEq, Int.reduceNeg]
    by_cases h_3 : a_2 < 0
    · rw [if_pos h_3] at h
      have e_4 : (a_2 < 0) = True := eq_true h_3
      simp only [e_2, e_4, go_sem, reduceIte, reduceCtorEq, Nat.reduceEqDiff, Nat.reduceLT, Nat.reduceLeDiff, Nat.reduceAdd, Nat.reduceSub, Nat.reduceMul, Int.reduceToNat, Int.reduceLE, Int.reduceLT, Int.reduceAdd, Int.reduceSub, Int.reduceMul, Int.reduceEq, Int.reduceNeg]
      have g_0 := Option.some.inj h
      obtain ⟨k_1, g_1⟩ := Prod.mk.inj g_0
      subst k_1
      subst g_1
      rw [← hQ]
      exact ⟨rfl, _, rfl, _, _, (RefV.trans (RefV.out (v' := .tup [.vec true [], .bool false]) rfl) (RefV.weak (Wks.cons (Wk.tup (Wks.cons Wk.vec (Wks.cons (Wk.refl _) (Wks.nil)))) Wks.nil) (WkH.refl _))), rfl, rfl⟩
    · rw [if_neg h_3] at h
      have e_4 : (a_2 < 0) = False := eq_false h_3
      simp only [e_2, e_4, go_sem, reduceIte, reduceCtorEq, Nat.reduceEqDiff, Nat.reduceLT, Nat.reduceLeDiff, Nat.reduceAdd, Nat.reduceSub, Nat.reduceMul, Int.reduceToNat, Int.reduceLE, Int.reduceLT, Int.reduceAdd, Int.reduceSub, Int.reduceMul, Int.reduceEq, Int.reduceNeg]
      by_cases h_5 : (l_0.length : Int) < a_2
      · rw [if_pos h_5] at h
        have e_6 : ((l_0.length : Int) < a_2) = True := eq_true h_5
        simp only [e_2, e_4, e_6, go_sem, reduceIte, reduceCtorEq, Nat.reduceEqDiff, Nat.reduceLT, Nat.reduceLeDiff, Nat.reduceAdd, Nat.reduceSub, Nat.reduceMul, Int.reduceToNat, Int.reduceLE, Int.reduceLT, Int.reduceAdd, Int.reduceSub, Int.reduceMul, Int.reduceEq, Int.reduceNeg]
        have g_0 := Option.some.inj h
        obtain ⟨k_1, g_1⟩ := Prod.mk.inj g_0
        subst k_1
        subst g_1
        rw [← hQ]
        exact ⟨rfl, _, rfl, _, _, (RefV.trans (RefV.out (v' := .tup [.vec true [], .bool false]) rfl) (RefV.weak (Wks.cons (Wk.tup (Wks.cons Wk.vec (Wks.cons (Wk.refl _) (Wks.nil)))) Wks.nil) (WkH.refl _))), rfl, rfl⟩
      · rw [if_neg h_5] at h
        have e_6 : ((l_0.length : Int) < a_2) = False := eq_false h_5
        obtain ⟨y_7, h_8, h⟩ := bindS h
        simp only [e_2, e_4, e_6, go_sem, reduceIte, reduceCtorEq, Nat.reduceEqDiff, Nat.reduceLT, Nat.reduceLeDiff, Nat.reduceAdd, Nat.reduceSub, Nat.reduceMul, Int.reduceToNat, Int.reduceLE, Int.reduceLT, Int.reduceAdd, Int.reduceSub, Int.reduceMul, Int.reduceEq, Int.reduceNeg]
        refine ACalls.use0 (octet_Within_w N _ _ _ _ _ h_8) rfl rfl ?_
        refine CallK_go (Nat.zero_le _) ?_
        simp only [e_2, e_4, e_6, go_sem, reduceIte, reduceCtorEq, Nat.reduceEqDiff, Nat.reduceLT, Nat.reduceLeDiff, Nat.reduceAdd, Nat.reduceSub, Nat.reduceMul, Int.reduceToNat, Int.reduceLE, Int.reduceLT, Int.reduceAdd, Int.reduceSub, Int.reduceMul, Int.reduceEq, Int.reduceNeg]
        by_cases h_9 : y_7 = true
        · rw [if_pos h_9] at h
          have e_10 : y_7 = true := h_9
          obtain ⟨y_11, h_12, h⟩ := bindS h
          simp only [e_2, e_4, e_6, e_10, go_sem, reduceIte, reduceCtorEq, Nat.reduceEqDiff, Nat.reduceLT, Nat.reduceLeDiff, Nat.reduceAdd, Nat.reduceSub, Nat.reduceMul, Int.reduceToNat, Int.reduceLE, Int.reduceLT, Int.reduceAdd, Int.reduceSub, Int.reduceMul, Int.reduceEq, Int.reduceNeg]
          refine ACalls.use (octet_many_int_w N _ _ _ _ _ _ h_12) [0, 1, 2] (by decide) ⟨(by first | rfl | simp only [go_sem, reduceIte, Nat.reduceEqDiff, Nat.reduceAdd, e_2, e_4, e_6, e_10]), (by first | rfl | simp only [go_sem, reduceIte, Nat.reduceEqDiff, Nat.reduceAdd, e_2, e_4, e_6, e_10]), (by first | rfl | simp only [go_sem, reduceIte, Nat.reduceEqDiff, Nat.reduceAdd, e_2, e_4, e_6, e_10]), trivial⟩ rfl (v' := .vec false (List.map eI64 y_11)) (by first | rfl | simp only [go_sem, reduceIte, Nat.reduceEqDiff, Nat.reduceAdd, e_2, e_4, e_6, e_10]) (H' := [.box [.vec c_0 (List.map eU8 l_0)] 22, .box [.int .i64 a_1] 3, .box [.int .i64 a_3] 3]) (by first | rfl | simp only [go_sem, reduceIte, Nat.reduceEqDiff, Nat.reduceAdd, e_2, e_4, e_6, e_10]) ?_
          refine CallK_go (Nat.zero_le _) ?_
          simp only [e_2, e_4, e_6, e_10, go_sem, reduceIte, reduceCtorEq, Nat.reduceEqDiff, Nat.reduceLT, Nat.reduceLeDiff, Nat.reduceAdd, Nat.reduceSub, Nat.reduceMul, Int.reduceToNat, Int.reduceLE, Int.reduceLT, Int.reduceAdd, Int.reduceSub, Int.reduceMul, Int.reduceEq, Int.reduceNeg]
          have g_0 := Option.some.inj h
          obtain ⟨k_1, g_1⟩ := Prod.mk.inj g_0
          subst k_1
          subst g_1
          rw [← hQ]
          exact ⟨rfl, _, rfl, _, _, (RefV.out rfl), rfl, rfl⟩
        · rw [if_neg h_9] at h
          have e_10 : y_7 = false := bfalse h_9
          simp only [e_2, e_4, e_6, e_10, go_sem, reduceIte, reduceCtorEq, Nat.reduceEqDiff, Nat.reduceLT, Nat.reduceLeDiff, Nat.reduceAdd, Nat.reduceSub, Nat.reduceMul, Int.reduceToNat, Int.reduceLE, Int.reduceLT, Int.reduceAdd, Int.reduceSub, Int.reduceMul, Int.reduceEq, Int.reduceNeg]
          have g_0 := Option.some.inj h
          obtain ⟨k_1, g_1⟩ := Prod.mk.inj g_0
          subst k_1
          subst g_1
          rw [← hQ]
          exact ⟨rfl, _, rfl, _, _, (RefV.trans (RefV.out (v' := .tup [.vec true [], .bool false]) rfl) (RefV.weak (Wks.cons (Wk.tup (Wks.cons Wk.vec (Wks.cons (Wk.refl _) (Wks.nil)))) Wks.nil) (WkH.refl _))), rfl, rfl⟩
  · rw [if_neg h_1] at h
    have e_2 : (a_3 = 1) = False := eq_false h_1
    simp only [e_2, go_sem, reduceIte, reduceCtorEq, Nat.reduceEqDiff, Nat.reduceLT, Nat.reduceLeDiff, Nat.reduceAdd, Nat.reduceSub, Nat.reduceMul, Int.reduceToNat, Int.reduceLE, Int.reduceLT, Int.reduceAdd, Int.reduceSub, Int.reduceMul, Int.reduceEq, Int.reduceNeg]
    by_cases h_13 : a_3 = 2
    · rw [if_pos h_13] at h
      have e_14 : (a_3 = 2) = True := eq_true h_13
      simp only [e_2, e_14, go_sem, reduceIte, reduceCtorEq, Nat.reduceEqDiff, Nat.reduceLT, Nat.reduceLeDiff, Nat.reduceAdd, Nat.reduceSub, Nat.reduceMul, Int.reduceToNat, Int.reduceLE, Int.reduceLT, Int.reduceAdd, Int.reduceSub, Int.reduceMul, Int.reduceEq, Int.reduceNeg]
      by_cases h_15 : a_2 < 0
      · rw [if_pos h_15] at h
        have e_16 : (a_2 < 0) = True := eq_true h_15
        simp only [e_2, e_14, e_16, go_sem, reduceIte, reduceCtorEq, Nat.reduceEqDiff, Nat.reduceLT, Nat.reduceLeDiff, Nat.reduceAdd, Nat.reduceSub, Nat.reduceMul, Int.reduceToNat, Int.reduceLE, Int.reduceLT, Int.reduceAdd, Int.reduceSub, Int.reduceMul, Int.reduceEq, Int.reduceNeg]
        have g_0 := Option.some.inj h
        obtain ⟨k_1, g_1⟩ := Prod.mk.inj g_0
        subst k_1
        subst g_1
        rw [← hQ]
        exact ⟨rfl, _, rfl, _, _, (RefV.trans (RefV.out (v' := .tup [.vec true [], .bool false]) rfl) (RefV.weak (Wks.cons (Wk.tup (Wks.cons Wk.vec (Wks.cons (Wk.refl _) (Wks.nil)))) Wks.nil) (WkH.refl _))), rfl, rfl⟩
      · rw [if_neg h_15] at h
        have e_16 : (a_2 < 0) = False := eq_false h_15
        simp only [e_2, e_14, e_16, go_sem, reduceIte, reduceCtorEq, Nat.reduceEqDiff, Nat.reduceLT, Nat.reduceLeDiff, Nat.reduceAdd, Nat.reduceSub, Nat.reduceMul, Int.reduceToNat, Int.reduceLE, Int.reduceLT, Int.reduceAdd, Int.reduceSub, Int.reduceMul, Int.reduceEq, Int.reduceNeg]
        by_cases h_17 : (l_0.length : Int) < a_2
        · rw [if_pos h_17] at h
          have e_18 : ((l_0.length : Int) < a_2) = True := eq_true h_17
          simp only [e_2, e_14, e_16, e_18, go_sem, reduceIte, reduceCtorEq, Nat.reduceEqDiff, Nat.reduceLT, Nat.reduceLeDiff, Nat.reduceAdd, Nat.reduceSub, Nat.reduceMul, Int.reduceToNat, Int.reduceLE, Int.reduceLT, Int.reduceAdd, Int.reduceSub, Int.reduceMul, Int.reduceEq, Int.reduceNeg]
          have g_0 := Option.some.inj h
          obtain ⟨k_1, g_1⟩ := Prod.mk.inj g_0
          subst k_1
          subst g_1
          rw [← hQ]
          exact ⟨rfl, _, rfl, _, _, (RefV.trans (RefV.out (v' := .tup [.vec true [], .bool false]) rfl) (RefV.weak (Wks.cons (Wk.tup (Wks.cons Wk.vec (Wks.cons (Wk.refl _) (Wks.nil)))) Wks.nil) (WkH.refl _))), rfl, rfl⟩
        · rw [if_neg h_17] at h
          have e_18 : ((l_0.length : Int) < a_2) = False := eq_false h_17
          obtain ⟨y_19, h_20, h⟩ := bindS h
          simp only [e_2, e_14, e_16, e_18, go_sem, reduceIte, reduceCtorEq, Nat.reduceEqDiff, Nat.reduceLT, Nat.reduceLeDiff, Nat.reduceAdd, Nat.reduceSub, Nat.reduceMul, Int.reduceToNat, Int.reduceLE, Int.reduceLT, Int.reduceAdd, Int.reduceSub, Int.reduceMul, Int.reduceEq, Int.reduceNeg]
          refine ACalls.use0 (octet_Within_w N _ _ _ _ _ h_20) rfl rfl ?_
          refine CallK_go (Nat.zero_le _) ?_
          simp only [e_2, e_14, e_16, e_18, go_sem, reduceIte, reduceCtorEq, Nat.reduceEqDiff, Nat.reduceLT, Nat.reduceLeDiff, Nat.reduceAdd, Nat.reduceSub, Nat.reduceMul, Int.reduceToNat, Int.reduceLE, Int.reduceLT, Int.reduceAdd, Int.reduceSub, Int.reduceMul, Int.reduceEq, Int.reduceNeg]
          by_cases h_21 : y_19 = true
          · rw [if_pos h_21] at h
            have e_22 : y_19 = true := h_21
            obtain ⟨y_23, h_24, h⟩ := bindS h
            simp only [e_2, e_14, e_16, e_18, e_22, go_sem, reduceIte, reduceCtorEq, Nat.reduceEqDiff, Nat.reduceLT, Nat.reduceLeDiff, Nat.reduceAdd, Nat.reduceSub, Nat.reduceMul, Int.reduceToNat, Int.reduceLE, Int.reduceLT, Int.reduceAdd, Int.reduceSub, Int.reduceMul, Int.reduceEq, Int.reduceNeg]
            refine ACalls.use (octet_many_int_w N _ _ _ _ _ _ h_24) [0, 1, 2] (by decide) ⟨(by first | rfl | simp only [go_sem, reduceIte, Nat.reduceEqDiff, Nat.reduceAdd, e_2, e_14, e_16, e_18, e_22]), (by first | rfl | simp only [go_sem, reduceIte, Nat.reduceEqDiff, Nat.reduceAdd, e_2, e_14, e_16, e_18, e_22]), (by first | rfl | simp only [go_sem, reduceIte, Nat.reduceEqDiff, Nat.reduceAdd, e_2, e_14, e_16, e_18, e_22]), trivial⟩ rfl (v' := .vec false (List.map eI64 y_23)) (by first | rfl | simp only [go_sem, reduceIte, Nat.reduceEqDiff, Nat.reduceAdd, e_2, e_14, e_16, e_18, e_22]) (H' := [.box [.vec c_0 (List.map eU8 l_0)] 22, .box [.int .i64 a_1] 3, .box [.int .i64 a_3] 3]) (by first | rfl | simp only [go_sem, reduceIte, Nat.reduceEqDiff, Nat.reduceAdd, e_2, e_14, e_16, e_18, e_22]) ?_
            refine CallK_go (Nat.zero_le _) ?_
            simp only [e_2, e_14, e_16, e_18, e_22, go_sem, reduceIte, reduceCtorEq, Nat.reduceEqDiff, Nat.reduceLT, Nat.reduceLeDiff, Nat.reduceAdd, Nat.reduceSub, Nat.reduceMul, Int.reduceToNat, Int.reduceLE, Int.reduceLT, Int.reduceAdd, Int.reduceSub, Int.reduceMul, Int.reduceEq, Int.reduceNeg]
            have g_0 := Option.some.inj h
            obtain ⟨k_1, g_1⟩ := Prod.mk.inj g_0
            subst k_1
            subst g_1
            rw [← hQ]
            exact ⟨rfl, _, rfl, _, _, (RefV.out rfl), rfl, rfl⟩
          · rw [if_neg h_21] at h
            have e_22 : y_19 = false := bfalse h_21
            simp only [e_2, e_14, e_16, e_18, e_22, go_sem, reduceIte, reduceCtorEq, Nat.reduceEqDiff, Nat.reduceLT, Nat.reduceLeDiff, Nat.reduceAdd, Nat.reduceSub, Nat.reduceMul, Int.reduceToNat, Int.reduceLE, Int.reduceLT, Int.reduceAdd, Int.reduceSub, Int.reduceMul, Int.reduceEq, Int.reduceNeg]
            have g_0 := Option.some.inj h
            obtain ⟨k_1, g_1⟩ := Prod.mk.inj g_0
            subst k_1
            subst g_1
            rw [← hQ]
            exact ⟨rfl, _, rfl, _, _, (RefV.trans (RefV.out (v' := .tup [.vec true [], .bool false]) rfl) (RefV.weak (Wks.cons (Wk.tup (Wks.cons Wk.vec (Wks.cons (Wk.refl _) (Wks.nil)))) Wks.nil) (WkH.refl _))), rfl, rfl⟩
    · rw [if_neg h_13] at h
      have e_14 : (a_3 = 2) = False := eq_false h_13
      simp only [e_2, e_14, go_sem, reduceIte, reduceCtorEq, Nat.reduceEqDiff, Nat.reduceLT, Nat.reduceLeDiff, Nat.reduceAdd, Nat.reduceSub, Nat.reduceMul, Int.reduceToNat, Int.reduceLE, Int.reduceLT, Int.reduceAdd, Int.reduceSub, Int.reduceMul, Int.reduceEq, Int.reduceNeg]
      by_cases h_25 : a_3 = 4
      · rw [if_pos h_25] at h
        have e_26 : (a_3 = 4) = True := eq_true h_25
        simp only [e_2, e_14, e_26, go_sem, reduceIte, reduceCtorEq, Nat.reduceEqDiff, Nat.reduceLT, Nat.reduceLeDiff, Nat.reduceAdd, Nat.reduceSub, Nat.reduceMul, Int.reduceToNat, Int.reduceLE, Int.reduceLT, Int.reduceAdd, Int.reduceSub, Int.reduceMul, Int.reduceEq, Int.reduceNeg]
        by_cases h_27 : a_2 < 0
        · rw [if_pos h_27] at h
          have e_28 : (a_2 < 0) = True := eq_true h_27
          simp only [e_2, e_14, e_26, e_28, go_sem, reduceIte, reduceCtorEq, Nat.reduceEqDiff, Nat.reduceLT, Nat.reduceLeDiff, Nat.reduceAdd, Nat.reduceSub, Nat.reduceMul, Int.reduceToNat, Int.reduceLE, Int.reduceLT, Int.reduceAdd, Int.reduceSub, Int.reduceMul, Int.reduceEq, Int.reduceNeg]
          have g_0 := Option.some.inj h
          obtain ⟨k_1, g_1⟩ := Prod.mk.inj g_0
          subst k_1
          subst g_1
          rw [← hQ]
          exact ⟨rfl, _, rfl, _, _, (RefV.trans (RefV.out (v' := .tup [.vec true [], .bool false]) rfl) (RefV.weak (Wks.cons (Wk.tup (Wks.cons Wk.vec (Wks.cons (Wk.refl _) (Wks.nil)))) Wks.nil) (WkH.refl _))), rfl, rfl⟩
        · rw [if_neg h_27] at h
          have e_28 : (a_2 < 0) = False := eq_false h_27
          simp only [e_2, e_14, e_26, e_28, go_sem, reduceIte, reduceCtorEq, Nat.reduceEqDiff, Nat.reduceLT, Nat.reduceLeDiff, Nat.reduceAdd, Nat.reduceSub, Nat.reduceMul, Int.reduceToNat, Int.reduceLE, Int.reduceLT, Int.reduceAdd, Int.reduceSub, Int.reduceMul, Int.reduceEq, Int.reduceNeg]
          by_cases h_29 : (l_0.length : Int) < a_2
          · rw [if_pos h_29] at h
            have e_30 : ((l_0.length : Int) < a_2) = True := eq_true h_29
            simp only [e_2, e_14, e_26, e_28, e_30, go_sem, reduceIte, reduceCtorEq, Nat.reduceEqDiff, Nat.reduceLT, Nat.reduceLeDiff, Nat.reduceAdd, Nat.reduceSub, Nat.reduceMul, Int.reduceToNat, Int.reduceLE, Int.reduceLT, Int.reduceAdd, Int.reduceSub, Int.reduceMul, Int.reduceEq, Int.reduceNeg]
            have g_0 := Option.some.inj h
            obtain ⟨k_1, g_1⟩ := Prod.mk.inj g_0
            subst k_1
            subst g_1
            rw [← hQ]
            exact ⟨rfl, _, rfl, _, _, (RefV.trans (RefV.out (v' := .tup [.vec true [], .bool false]) rfl) (RefV.weak (Wks.cons (Wk.tup (Wks.cons Wk.vec (Wks.cons (Wk.refl _) (Wks.nil)))) Wks.nil) (WkH.refl _))), rfl, rfl⟩
          · rw [if_neg h_29] at h
            have e_30 : ((l_0.length : Int) < a_2) = False := eq_false h_29
            obtain ⟨y_31, h_32, h⟩ := bindS h
            simp only [e_2, e_14, e_26, e_28, e_30, go_sem, reduceIte, reduceCtorEq, Nat.reduceEqDiff, Nat.reduceLT, Nat.reduceLeDiff, Nat.reduceAdd, Nat.reduceSub, Nat.reduceMul, Int.reduceToNat, Int.reduceLE, Int.reduceLT, Int.reduceAdd, Int.reduceSub, Int.reduceMul, Int.reduceEq, Int.reduceNeg]
            refine ACalls.use0 (octet_Within_w N _ _ _ _ _ h_32) rfl rfl ?_
            refine CallK_go (Nat.zero_le _) ?_
            simp only [e_2, e_14, e_26, e_28, e_30, go_sem, reduceIte, reduceCtorEq, Nat.reduceEqDiff, Nat.reduceLT, Nat.reduceLeDiff, Nat.reduceAdd, Nat.reduceSub, Nat.reduceMul, Int.reduceToNat, Int.reduceLE, Int.reduceLT, Int.reduceAdd, Int.reduceSub, Int.reduceMul, Int.reduceEq, Int.reduceNeg]
            by_cases h_33 : y_31 = true
            · rw [if_pos h_33] at h
              have e_34 : y_31 = true := h_33
              obtain ⟨y_35, h_36, h⟩ := bindS h
              simp only [e_2, e_14, e_26, e_28, e_30, e_34, go_sem, reduceIte, reduceCtorEq, Nat.reduceEqDiff, Nat.reduceLT, Nat.reduceLeDiff, Nat.reduceAdd, Nat.reduceSub, Nat.reduceMul, Int.reduceToNat, Int.reduceLE, Int.reduceLT, Int.reduceAdd, Int.reduceSub, Int.reduceMul, Int.reduceEq, Int.reduceNeg]
              refine ACalls.use (octet_many_int_w N _ _ _ _ _ _ h_36) [0, 1, 2] (by decide) ⟨(by first | rfl | simp only [go_sem, reduceIte, Nat.reduceEqDiff, Nat.reduceAdd, e_2, e_14, e_26, e_28, e_30, e_34]), (by first | rfl | simp only [go_sem, reduceIte, Nat.reduceEqDiff, Nat.reduceAdd, e_2, e_14, e_26, e_28, e_30, e_34]), (by first | rfl | simp only [go_sem, reduceIte, Nat.reduceEqDiff, Nat.reduceAdd, e_2, e_14, e_26, e_28, e_30, e_34]), trivial⟩ rfl (v' := .vec false (List.map eI64 y_35)) (by first | rfl | simp only [go_sem, reduceIte, Nat.reduceEqDiff, Nat.reduceAdd, e_2, e_14, e_26, e_28, e_30, e_34]) (H' := [.box [.vec c_0 (List.map eU8 l_0)] 22, .box [.int .i64 a_1] 3, .box [.int .i64 a_3] 3]) (by first | rfl | simp only [go_sem, reduceIte, Nat.reduceEqDiff, Nat.reduceAdd, e_2, e_14, e_26, e_28, e_30, e_34]) ?_
              refine CallK_go (Nat.zero_le _) ?_
              simp only [e_2, e_14, e_26, e_28, e_30, e_34, go_sem, reduceIte, reduceCtorEq, Nat.reduceEqDiff, Nat.reduceLT, Nat.reduceLeDiff, Nat.reduceAdd, Nat.reduceSub, Nat.reduceMul, Int.reduceToNat, Int.reduceLE, Int.reduceLT, Int.reduceAdd, Int.reduceSub, Int.reduceMul, Int.reduceEq, Int.reduceNeg]
              have g_0 := Option.some.inj h
              obtain ⟨k_1, g_1⟩ := Prod.mk.inj g_0
              subst k_1
              subst g_1
              rw [← hQ]
              exact ⟨rfl, _, rfl, _, _, (RefV.out rfl), rfl, rfl⟩
            · rw [if_neg h_33] at h
              have e_34 : y_31 = false := bfalse h_33
              simp only [e_2, e_14, e_26, e_28, e_30, e_34, go_sem, reduceIte, reduceCtorEq, Nat.reduceEqDiff, Nat.reduceLT, Nat.reduceLeDiff, Nat.reduceAdd, Nat.reduceSub, Nat.reduceMul, Int.reduceToNat, Int.reduceLE, Int.reduceLT, Int.reduceAdd, Int.reduceSub, Int.reduceMul, Int.reduceEq, Int.reduceNeg]
              have g_0 := Option.some.inj h
              obtain ⟨k_1, g_1⟩ := Prod.mk.inj g_0
              subst k_1
              subst g_1
              rw [← hQ]
              exact ⟨rfl, _, rfl, _, _, (RefV.trans (RefV.out (v' := .tup [.vec true [], .bool false]) rfl) (RefV.weak (Wks.cons (Wk.tup (Wks.cons Wk.vec (Wks.cons (Wk.refl _) (Wks.nil)))) Wks.nil) (WkH.refl _))), rfl, rfl⟩
      · rw [if_neg h_25] at h
        have e_26 : (a_3 = 4) = False := eq_false h_25
        simp only [e_2, e_14, e_26, go_sem, reduceIte, reduceCtorEq, Nat.reduceEqDiff, Nat.reduceLT, Nat.reduceLeDiff, Nat.reduceAdd, Nat.reduceSub, Nat.reduceMul, Int.reduceToNat, Int.reduceLE, Int.reduceLT, Int.reduceAdd, Int.reduceSub, Int.reduceMul, Int.reduceEq, Int.reduceNeg]
        have g_0 := Option.some.inj h
        obtain ⟨k_1, g_1⟩ := Prod.mk.inj g_0
        subst k_1
        subst g_1
        rw [← hQ]
        exact ⟨rfl, _, rfl, _, _, (RefV.trans (RefV.out (v' := .tup [.vec true [], .bool false]) rfl) (RefV.weak (Wks.cons (Wk.tup (Wks.cons Wk.vec (Wks.cons (Wk.refl _) (Wks.nil)))) Wks.nil) (WkH.refl _))), rfl, rfl⟩
theorem cover_classed_row_w (N : Nat) (l_0 : List TClass) (a_1 : Int) (a_2 : Int) (a_3 : Int) (z_1 : List TClass) (h : cover_classed_row N l_0 a_1 a_2 a_3 = some z_1) :
    ACalls Go.Proofs.Try.prog 59 [.row 0 0 l_0.length, .agg [.int .i64 a_1, .int .i64 a_2, .int .i64 a_3]] [.mem 3 (List.map eTClass l_0) 48] (fun e H => H = [.dead, .mem 3 (List.map eTClass z_1) 48] ∧ e = .ret (.row 1 0 z_1.length)) := by
  unfold cover_classed_row at h
  refine ACalls.goN Go.Proofs.Try.func59 n59 a59 Go.Proofs.Try.ntmps59 r59 (by simp) 1 rfl ?_
  generalize hQ : bodyA _ _ _ = QQ
  simp only [A59, go_sem, reduceIte, reduceCtorEq, Nat.reduceEqDiff, Nat.reduceLT, Nat.reduceLeDiff, Nat.reduceAdd, Nat.reduceSub, Nat.reduceMul, Int.reduceToNat, Int.reduceLE, Int.reduceLT, Int.reduceAdd, Int.reduceSub, Int.reduceMul, Int.reduceEq, Int.reduceNeg]
  by_cases h_1 : a_3 = 0
  · rw [if_pos h_1] at h
    have e_2 : (a_3 = 0) = True := eq_true h_1
    simp only [e_2, go_sem, reduceIte, reduceCtorEq, Nat.reduceEqDiff, Nat.reduceLT, Nat.reduceLeDiff, Nat.reduceAdd, Nat.reduceSub, Nat.reduceMul, Int.reduceToNat, Int.reduceLE, Int.reduceLT, Int.reduceAdd, Int.reduceSub, Int.reduceMul, Int.reduceEq, Int.reduceNeg]
    have g_0 := Option.some.inj h
    subst g_0
    rw [← hQ]
    exact ⟨rfl, _, rfl, _, _, (RefV.trans (RefV.move (by simp) (id := 0) rfl rfl) (RefV.std [0, 2] (by decide) (by decide) (by first | rfl | simp only [go_sem, reduceIte, Nat.reduceEqDiff, Nat.reduceAdd, e_2]) (by first | rfl | simp only [go_sem, reduceIte, Nat.reduceEqDiff, Nat.reduceAdd, e_2]))), rfl, rfl⟩
  · rw [if_neg h_1] at h
    have e_2 : (a_3 = 0) = False := eq_false h_1
    simp only [e_2, go_sem, reduceIte, reduceCtorEq, Nat.reduceEqDiff, Nat.reduceLT, Nat.reduceLeDiff, Nat.reduceAdd, Nat.reduceSub, Nat.reduceMul, Int.reduceToNat, Int.reduceLE, Int.reduceLT, Int.reduceAdd, Int.reduceSub, Int.reduceMul, Int.reduceEq, Int.reduceNeg]
    by_cases h_3 : 0 < (l_0.length : Int)
    · rw [if_pos h_3] at h
      have e_4 : (0 < (l_0.length : Int)) = True := eq_true h_3
      obtain ⟨x_5, h_6, h⟩ := bindS h
      have e_7 : (List.map eTClass l_0)[(IntKind.i64.wrap ((l_0.length : Int) - 1)).toNat]? = some [.int .i64 x_5.From, .int .i64 x_5.To, .int .i64 x_5.Class] := atI_map eTClass h_6
      have e_8 : ((0 : Int) ≤ IntKind.i64.wrap ((l_0.length : Int) - 1)) = True := eq_true (atI_some h_6).1
      have e_9 : ((IntKind.i64.wrap ((l_0.length : Int) - 1) : Int) < (l_0.length : Int)) = True := eq_true (atI_lt h_6)
      simp only [e_2, e_4, e_7, e_8, e_9, go_sem, reduceIte, reduceCtorEq, Nat.reduceEqDiff, Nat.reduceLT, Nat.reduceLeDiff, Nat.reduceAdd, Nat.reduceSub, Nat.reduceMul, Int.reduceToNat, Int.reduceLE, Int.reduceLT, Int.reduceAdd, Int.reduceSub, Int.reduceMul, Int.reduceEq, Int.reduceNeg]
      by_cases h_10 : IntKind.i64.wrap (x_5.To + 1) = a_1
      · rw [if_pos h_10] at h
        have e_11 : (IntKind.i64.wrap (x_5.To + 1) = a_1) = True := eq_true h_10
        simp only [e_2, e_4, e_7, e_8, e_9, e_11, go_sem, reduceIte, reduceCtorEq, Nat.reduceEqDiff, Nat.reduceLT, Nat.reduceLeDiff, Nat.reduceAdd, Nat.reduceSub, Nat.reduceMul, Int.reduceToNat, Int.reduceLE, Int.reduceLT, Int.reduceAdd, Int.reduceSub, Int.reduceMul, Int.reduceEq, Int.reduceNeg]
        by_cases h_12 : x_5.Class = a_3
        · rw [if_pos h_12] at h
          have e_13 : (x_5.Class = a_3) = True := eq_true h_12
          have e_14 : (List.map eTClass l_0).set (IntKind.i64.wrap ((l_0.length : Int) - 1)).toNat [.int .i64 x_5.From, .int .i64 a_2, .int .i64 x_5.Class] = List.map eTClass (List.set l_0 (IntKind.i64.wrap ((l_0.length : Int) - 1)).toNat (TClass.mk x_5.From a_2 x_5.Class)) := set_map l_0 eTClass (IntKind.i64.wrap ((l_0.length : Int) - 1)).toNat (TClass.mk x_5.From a_2 x_5.Class)
          simp only [e_2, e_4, e_7, e_8, e_9, e_11, e_13, e_14, go_sem, reduceIte, reduceCtorEq, Nat.reduceEqDiff, Nat.reduceLT, Nat.reduceLeDiff, Nat.reduceAdd, Nat.reduceSub, Nat.reduceMul, Int.reduceToNat, Int.reduceLE, Int.reduceLT, Int.reduceAdd, Int.reduceSub, Int.reduceMul, Int.reduceEq, Int.reduceNeg]
          have g_0 := Option.some.inj h
          subst g_0
          rw [← hQ]
          exact ⟨rfl, _, rfl, _, _, (RefV.trans (RefV.move (by simp) (id := 0) rfl rfl) (RefV.std [0, 2] (by decide) (by decide) (by first | rfl | simp only [go_sem, reduceIte, Nat.reduceEqDiff, Nat.reduceAdd, e_2, e_4, e_11, e_13]) (by first | rfl | simp only [go_sem, reduceIte, Nat.reduceEqDiff, Nat.reduceAdd, e_2, e_4, e_11, e_13]))), rfl, rfl⟩
        · rw [if_neg h_12] at h
          have e_13 : (x_5.Class = a_3) = False := eq_false h_12
          have e_15 : List.take l_0.length (List.map eTClass l_0) = (List.map eTClass l_0) := List.take_of_length_le (by simp)
          have e_16 : (List.map eTClass l_0) ++ [[.int .i64 a_1, .int .i64 a_2, .int .i64 a_3]] = (List.map eTClass (l_0 ++ [TClass.mk a_1 a_2 a_3])) := app_map l_0 ([TClass.mk a_1 a_2 a_3]) eTClass
          obtain ⟨h_17, h⟩ := guardS h
          have e_18 : ((l_0.length + 1) * 24 ≤ 140737488355328) = True := eq_true h_17
          simp only [e_2, e_4, e_7, e_8, e_9, e_11, e_13, e_15, e_16, e_18, go_sem, reduceIte, reduceCtorEq, Nat.reduceEqDiff, Nat.reduceLT, Nat.reduceLeDiff, Nat.reduceAdd, Nat.reduceSub, Nat.reduceMul, Int.reduceToNat, Int.reduceLE, Int.reduceLT, Int.reduceAdd, Int.reduceSub, Int.reduceMul, Int.reduceEq, Int.reduceNeg]
          have g_0 := Option.some.inj h
          subst g_0
          rw [← hQ]
          exact ⟨rfl, _, rfl, _, _, (RefV.std [0, 2] (by decide) (by decide) (by first | rfl | simp only [go_sem, reduceIte, Nat.reduceEqDiff, Nat.reduceAdd]) (by first | rfl | simp only [go_sem, reduceIte, Nat.reduceEqDiff, Nat.reduceAdd, e_2, e_4, e_11, e_13])), rfl, rfl⟩
      · rw [if_neg h_10] at h
        have e_11 : (IntKind.i64.wrap (x_5.To + 1) = a_1) = False := eq_false h_10
        have e_19 : List.take l_0.length (List.map eTClass l_0) = (List.map eTClass l_0) := List.take_of_length_le (by simp)
        have e_20 : (List.map eTClass l_0) ++ [[.int .i64 a_1, .int .i64 a_2, .int .i64 a_3]] = (List.map eTClass (l_0 ++ [TClass.mk a_1 a_2 a_3])) := app_map l_0 ([TClass.mk a_1 a_2 a_3]) eTClass
        obtain ⟨h_21, h⟩ := guardS h
        have e_22 : ((l_0.length + 1) * 24 ≤ 140737488355328) = True := eq_true h_21
        simp only [e_2, e_4, e_7, e_8, e_9, e_11, e_19, e_20, e_22, go_sem, reduceIte, reduceCtorEq, Nat.reduceEqDiff, Nat.reduceLT, Nat.reduceLeDiff, Nat.reduceAdd, Nat.reduceSub, Nat.reduceMul, Int.reduceToNat, Int.reduceLE, Int.reduceLT, Int.reduceAdd, Int.reduceSub, Int.reduceMul, Int.reduceEq, Int.reduceNeg]
        have g_0 := Option.some.inj h
        subst g_0
        rw [← hQ]
        exact ⟨rfl, _, rfl, _, _, (RefV.std [0, 2] (by decide) (by decide) (by first | rfl | simp only [go_sem, reduceIte, Nat.reduceEqDiff, Nat.reduceAdd]) (by first | rfl | simp only [go_sem, reduceIte, Nat.reduceEqDiff, Nat.reduceAdd, e_2, e_4, e_11])), rfl, rfl⟩
    · rw [if_neg h_3] at h
      have e_4 : (0 < (l_0.length : Int)) = False := eq_false h_3
      have e_23 : List.take l_0.length (List.map eTClass l_0) = (List.map eTClass l_0) := List.take_of_length_le (by simp)
      have e_24 : (List.map eTClass l_0) ++ [[.int .i64 a_1, .int .i64 a_2, .int .i64 a_3]] = (List.map eTClass (l_0 ++ [TClass.mk a_1 a_2 a_3])) := app_map l_0 ([TClass.mk a_1 a_2 a_3]) eTClass
      obtain ⟨h_25, h⟩ := guardS h
      have e_26 : ((l_0.length + 1) * 24 ≤ 140737488355328) = True := eq_true h_25
      simp only [e_2, e_4, e_23, e_24, e_26, go_sem, reduceIte, reduceCtorEq, Nat.reduceEqDiff, Nat.reduceLT, Nat.reduceLeDiff, Nat.reduceAdd, Nat.reduceSub, Nat.reduceMul, Int.reduceToNat, Int.reduceLE, Int.reduceLT, Int.reduceAdd, Int.reduceSub, Int.reduceMul, Int.reduceEq, Int.reduceNeg]
      have g_0 := Option.some.inj h
      subst g_0
      rw [← hQ]
      exact ⟨rfl, _, rfl, _, _, (RefV.std [0, 2] (by decide) (by decide) (by first | rfl | simp only [go_sem, reduceIte, Nat.reduceEqDiff, Nat.reduceAdd]) (by first | rfl | simp only [go_sem, reduceIte, Nat.reduceEqDiff, Nat.reduceAdd, e_2, e_4])), rfl, rfl⟩
theorem cover_Classes_L1_w (N : Nat) (y_5 : Int) (y_11 : List Int) {R : AExit → ATm → List AObj → Prop} : ∀ (n : Nat) (i_20 : Int) (s_21 : List TClass) (o : (List TClass)), cover_Classes_L1 N y_5 y_11 n i_20 s_21 = some o → (match o with | z_1 => R (.exit 1) ⟨105, [(6, .row 0 0 z_1.length)], []⟩ [.mem 3 (List.map eTClass z_1) 48]) →
    ALp Go.Proofs.Try.prog 0 B20_1 ⟨105, [(6, .row 0 0 s_21.length), (8, .int .i64 y_5), (60, .vec false (List.map eI64 y_11)), (61, .int .i64 (y_11.length : Int)), (62, .int .i64 i_20)], []⟩ [.mem 3 (List.map eTClass s_21) 48] R := by
  intro n
  induction n with
  | zero =>
    intro i_20 s_21 o h _
    have h0 : none = some o := h
    cases h0
  | succ n ih =>
    intro i_20 s_21 o h hp
    rw [cover_Classes_L1] at h
    refine ALp.round ?_
    generalize hQ : RoundQ _ _ _ _ = QQ
    simp only [B20_1, A20, go_sem, reduceIte, reduceCtorEq, Nat.reduceEqDiff, Nat.reduceLT, Nat.reduceLeDiff, Nat.reduceAdd, Nat.reduceSub, Nat.reduceMul, Int.reduceToNat, Int.reduceLE, Int.reduceLT, Int.reduceAdd, Int.reduceSub, Int.reduceMul, Int.reduceEq, Int.reduceNeg]
    by_cases h_22 : i_20 < (y_11.length : Int)
    · rw [if_pos h_22] at h
      have e_23 : (i_20 < (y_11.length : Int)) = True := eq_true h_22
      obtain ⟨x_24, h_25, h⟩ := bindS h
      have e_26 : (List.map eI64 y_11)[(i_20).toNat]? = some [.int .i64 x_24] := atI_map eI64 h_25
      have e_27 : ((0 : Int) ≤ i_20) = True := eq_true (atI_some h_25).1
      have e_28 : ((i_20 : Int) < (y_11.length : Int)) = True := eq_true (atI_lt h_25)
      obtain ⟨y_29, h_30, h⟩ := bindS h
      simp only [e_23, e_26, e_27, e_28, go_sem, reduceIte, reduceCtorEq, Nat.reduceEqDiff, Nat.reduceLT, Nat.reduceLeDiff, Nat.reduceAdd, Nat.reduceSub, Nat.reduceMul, Int.reduceToNat, Int.reduceLE, Int.reduceLT, Int.reduceAdd, Int.reduceSub, Int.reduceMul, Int.reduceEq, Int.reduceNeg]
      refine ACalls.use (cover_classed_row_w N _ _ _ _ _ h_30) [0] (by decide) ⟨(by first | rfl | simp only [go_sem, reduceIte, Nat.reduceEqDiff, Nat.reduceAdd, e_23]), trivial⟩ rfl (v' := .row 1 0 y_29.length) (by first | rfl | simp only [go_sem, reduceIte, Nat.reduceEqDiff, Nat.reduceAdd, e_23]) (H' := [.dead, .mem 3 (List.map eTClass y_29) 48]) (by first | rfl | simp only [go_sem, reduceIte, Nat.reduceEqDiff, Nat.reduceAdd, e_23]) ?_
      refine CallK_go (Nat.zero_le _) ?_
      simp only [e_23, e_26, e_27, e_28, go_sem, reduceIte, reduceCtorEq, Nat.reduceEqDiff, Nat.reduceLT, Nat.reduceLeDiff, Nat.reduceAdd, Nat.reduceSub, Nat.reduceMul, Int.reduceToNat, Int.reduceLE, Int.reduceLT, Int.reduceAdd, Int.reduceSub, Int.reduceMul, Int.reduceEq, Int.reduceNeg]
      rw [← hQ]
      exact ⟨_, _, (Ref.std [6, 8, 60, 61, 62] [1] (by decide) low0 rfl (by first | rfl | simp only [go_sem, reduceIte, Nat.reduceEqDiff, Nat.reduceAdd])), (Nat.zero_le _), ih _ _ _ h hp⟩
    · rw [if_neg h_22] at h
      have e_23 : (i_20 < (y_11.length : Int)) = False := eq_false h_22
      simp only [e_23, go_sem, reduceIte, reduceCtorEq, Nat.reduceEqDiff, Nat.reduceLT, Nat.reduceLeDiff, Nat.reduceAdd, Nat.reduceSub, Nat.reduceMul, Int.reduceToNat, Int.reduceLE, Int.reduceLT, Int.reduceAdd, Int.reduceSub, Int.reduceMul, Int.reduceEq, Int.reduceNeg]
      have g := Option.some.inj h
      subst g
      rw [← hQ]
      exact ⟨_, _, (Ref.std [6] [0] (by decide) low0 rfl (by first | rfl | simp only [go_sem, reduceIte, Nat.reduceEqDiff, Nat.reduceAdd])), hp⟩
theorem cover_triples_L1_w (N : Nat) (y_4 : List Int) {R : AExit → ATm → List AObj → Prop} : ∀ (n : Nat) (i_11 : Int) (i_12 : Int) (s_13 : List TArr3_I64) (o : ((List TArr3_I64)) ⊕ (Unit)), cover_triples_L1 N y_4 n i_11 i_12 s_13 = some o → (match o with | .inl z_1 => R (.exit 0) ⟨75, [(10, .row 0 0 z_1.length)], []⟩ [.mem 3 (List.map eTArr3_I64 z_1) 97] | .inr (_) => R .ret ⟨75, [(4, .vec true []), (5, .bool false)], []⟩ []) →
    ALp Go.Proofs.Try.prog 0 B60_1 ⟨75, [(8, .vec false (List.map eI64 y_4)), (10, .row 0 0 s_13.length), (11, .int .i64 i_11), (12, .int .i64 i_12)], []⟩ [.mem 3 (List.map eTArr3_I64 s_13) 97] R := by
  intro n
  induction n with
  | zero =>
    intro i_11 i_12 s_13 o h _
    have h0 : none = some o := h
    cases h0
  | succ n ih =>
    intro i_11 i_12 s_13 o h hp
    rw [cover_triples_L1] at h
    refine ALp.round ?_
    generalize hQ : RoundQ _ _ _ _ = QQ
    simp only [B60_1, A60, go_sem, reduceIte, reduceCtorEq, Nat.reduceEqDiff, Nat.reduceLT, Nat.reduceLeDiff, Nat.reduceAdd, Nat.reduceSub, Nat.reduceMul, Int.reduceToNat, Int.reduceLE, Int.reduceLT, Int.reduceAdd, Int.reduceSub, Int.reduceMul, Int.reduceEq, Int.reduceNeg]
    by_cases h_14 : i_12 < (y_4.length : Int)
    · rw [if_pos h_14] at h
      have e_15 : (i_12 < (y_4.length : Int)) = True := eq_true h_14
      obtain ⟨x_16, h_17, h⟩ := bindS h
      have e_18 : (List.map eI64 y_4)[(i_12).toNat]? = some [.int .i64 x_16] := atI_map eI64 h_17
      have e_19 : ((0 : Int) ≤ i_12) = True := eq_true (atI_some h_17).1
      have e_20 : ((i_12 : Int) < (y_4.length : Int)) = True := eq_true (atI_lt h_17)
      obtain ⟨x_21, h_22, h⟩ := bindS h
      have e_23 : (List.map eI64 y_4)[(IntKind.i64.wrap (i_12 + 1)).toNat]? = some [.int .i64 x_21] := atI_map eI64 h_22
      have e_24 : ((0 : Int) ≤ IntKind.i64.wrap (i_12 + 1)) = True := eq_true (atI_some h_22).1
      have e_25 : ((IntKind.i64.wrap (i_12 + 1) : Int) < (y_4.length : Int)) = True := eq_true (atI_lt h_22)
      obtain ⟨x_26, h_27, h⟩ := bindS h
      have e_28 : (List.map eI64 y_4)[(IntKind.i64.wrap (i_12 + 2)).toNat]? = some [.int .i64 x_26] := atI_map eI64 h_27
      have e_29 : ((0 : Int) ≤ IntKind.i64.wrap (i_12 + 2)) = True := eq_true (atI_some h_27).1
      have e_30 : ((IntKind.i64.wrap (i_12 + 2) : Int) < (y_4.length : Int)) = True := eq_true (atI_lt h_27)
      simp only [e_15, e_18, e_19, e_20, e_23, e_24, e_25, e_28, e_29, e_30, go_sem, reduceIte, reduceCtorEq, Nat.reduceEqDiff, Nat.reduceLT, Nat.reduceLeDiff, Nat.reduceAdd, Nat.reduceSub, Nat.reduceMul, Int.reduceToNat, Int.reduceLE, Int.reduceLT, Int.reduceAdd, Int.reduceSub, Int.reduceMul, Int.reduceEq, Int.reduceNeg]
      by_cases h_31 : x_16 ≤ i_11
      · rw [if_pos h_31] at h
        have e_32 : (x_16 ≤ i_11) = True := eq_true h_31
        simp only [e_15, e_18, e_19, e_20, e_23, e_24, e_25, e_28, e_29, e_30, e_32, go_sem, reduceIte, reduceCtorEq, Nat.reduceEqDiff, Nat.reduceLT, Nat.reduceLeDiff, Nat.reduceAdd, Nat.reduceSub, Nat.reduceMul, Int.reduceToNat, Int.reduceLE, Int.reduceLT, Int.reduceAdd, Int.reduceSub, Int.reduceMul, Int.reduceEq, Int.reduceNeg]
        have g := Option.some.inj h
        subst g
        rw [← hQ]
        exact ⟨_, _, (Ref.out [4, 5] rfl), hp⟩
      · rw [if_neg h_31] at h
        have e_32 : (x_16 ≤ i_11) = False := eq_false h_31
        simp only [e_15, e_18, e_19, e_20, e_23, e_24, e_25, e_28, e_29, e_30, e_32, go_sem, reduceIte, reduceCtorEq, Nat.reduceEqDiff, Nat.reduceLT, Nat.reduceLeDiff, Nat.reduceAdd, Nat.reduceSub, Nat.reduceMul, Int.reduceToNat, Int.reduceLE, Int.reduceLT, Int.reduceAdd, Int.reduceSub, Int.reduceMul, Int.reduceEq, Int.reduceNeg]
        by_cases h_33 : x_21 < x_16
        · rw [if_pos h_33] at h
          have e_34 : (x_21 < x_16) = True := eq_true h_33
          simp only [e_15, e_18, e_19, e_20, e_23, e_24, e_25, e_28, e_29, e_30, e_32, e_34, go_sem, reduceIte, reduceCtorEq, Nat.reduceEqDiff, Nat.reduceLT, Nat.reduceLeDiff, Nat.reduceAdd, Nat.reduceSub, Nat.reduceMul, Int.reduceToNat, Int.reduceLE, Int.reduceLT, Int.reduceAdd, Int.reduceSub, Int.reduceMul, Int.reduceEq, Int.reduceNeg]
          have g := Option.some.inj h
          subst g
          rw [← hQ]
          exact ⟨_, _, (Ref.out [4, 5] rfl), hp⟩
        · rw [if_neg h_33] at h
          have e_34 : (x_21 < x_16) = False := eq_false h_33
          have e_35 : List.take s_13.length (List.map eTArr3_I64 s_13) = (List.map eTArr3_I64 s_13) := List.take_of_length_le (by simp)
          have e_36 : (List.map eTArr3_I64 s_13) ++ [[.int .i64 x_16, .int .i64 x_21, .int .i64 x_26]] = (List.map eTArr3_I64 (s_13 ++ [TArr3_I64.mk x_16 x_21 x_26])) := app_map s_13 ([TArr3_I64.mk x_16 x_21 x_26]) eTArr3_I64
          obtain ⟨h_37, h⟩ := guardS h
          have e_38 : ((s_13.length + 1) * 24 ≤ 140737488355328) = True := eq_true h_37
          simp only [e_15, e_18, e_19, e_20, e_23, e_24, e_25, e_28, e_29, e_30, e_32, e_34, e_35, e_36, e_38, go_sem, reduceIte, reduceCtorEq, Nat.reduceEqDiff, Nat.reduceLT, Nat.reduceLeDiff, Nat.reduceAdd, Nat.reduceSub, Nat.reduceMul, Int.reduceToNat, Int.reduceLE, Int.reduceLT, Int.reduceAdd, Int.reduceSub, Int.reduceMul, Int.reduceEq, Int.reduceNeg]
          rw [← hQ]
          exact ⟨_, _, (Ref.std [8, 10, 11, 12] [2] (by decide) low0 (by first | rfl | simp only [go_sem, reduceIte, Nat.reduceEqDiff, Nat.reduceAdd]) (by first | rfl | simp only [go_sem, reduceIte, Nat.reduceEqDiff, Nat.reduceAdd])), (Nat.zero_le _), ih _ _ _ _ h hp⟩
    · rw [if_neg h_14] at h
      have e_15 : (i_12 < (y_4.length : Int)) = False := eq_false h_14
      simp only [e_15, go_sem, reduceIte, reduceCtorEq, Nat.reduceEqDiff, Nat.reduceLT, Nat.reduceLeDiff, Nat.reduceAdd, Nat.reduceSub, Nat.reduceMul, Int.reduceToNat, Int.reduceLE, Int.reduceLT, Int.reduceAdd, Int.reduceSub, Int.reduceMul, Int.reduceEq, Int.reduceNeg]
      have g := Option.some.inj h
      subst g
      rw [← hQ]
      exact ⟨_, _, (Ref.std [10] [0] (by decide) low0 rfl (by first | rfl | simp only [go_sem, reduceIte, Nat.reduceEqDiff, Nat.reduceAdd])), hp⟩
theorem cover_triples_w (N : Nat) (l_0 : List Int) (a_1 : Int) (c_0 : Bool) (z_1 : List TArr3_I64) (z_2 : Bool) (h : cover_triples N l_0 a_1 = some (z_1, z_2)) :
    ACalls Go.Proofs.Try.prog 60 [.vec c_0 (List.map eU8 l_0), .int .i64 a_1] [] (fun e H => H = [] ∧ e = .ret (.tup [.vec false (List.map eTArr3_I64 z_1), .bool z_2])) := by
  unfold cover_triples at h
  refine ACalls.goN Go.Proofs.Try.func60 n60 a60 Go.Proofs.Try.ntmps60 r60 (by simp) 0 rfl ?_
  generalize hQ : bodyA _ _ _ = QQ
  obtain ⟨⟨y_1, y_2⟩, h_3, h⟩ := bindS h
  try dsimp only at h
  simp only [A60, go_sem, reduceIte, reduceCtorEq, Nat.reduceEqDiff, Nat.reduceLT, Nat.reduceLeDiff, Nat.reduceAdd, Nat.reduceSub, Nat.reduceMul, Int.reduceToNat, Int.reduceLE, Int.reduceLT, Int.reduceAdd, Int.reduceSub, Int.reduceMul, Int.reduceEq, Int.reduceNeg]
  refine ACalls.use0 (octet_U16_w N _ _ _ _ _ h_3) rfl rfl ?_
  refine CallK_go (Nat.zero_le _) ?_
  obtain ⟨⟨y_4, y_5⟩, h_6, h⟩ := bindS h
  try dsimp only at h
  simp only [go_sem, reduceIte, reduceCtorEq, Nat.reduceEqDiff, Nat.reduceLT, Nat.reduceLeDiff, Nat.reduceAdd, Nat.reduceSub, Nat.reduceMul, Int.reduceToNat, Int.reduceLE, Int.reduceLT, Int.reduceAdd, Int.reduceSub, Int.reduceMul, Int.reduceEq, Int.reduceNeg]
  refine ACalls.use0 (octet_Row_w N _ _ _ _ _ _ _ h_6) rfl rfl ?_
  refine CallK_go (Nat.zero_le _) ?_
  simp only [go_sem, reduceIte, reduceCtorEq, Nat.reduceEqDiff, Nat.reduceLT, Nat.reduceLeDiff, Nat.reduceAdd, Nat.reduceSub, Nat.reduceMul, Int.reduceToNat, Int.reduceLE, Int.reduceLT, Int.reduceAdd, Int.reduceSub, Int.reduceMul, Int.reduceEq, Int.reduceNeg]
  by_cases h_7 : y_2 = true
  · rw [if_pos h_7] at h
    have e_8 : y_2 = true := h_7
    simp only [e_8, go_sem, reduceIte, reduceCtorEq, Nat.reduceEqDiff, Nat.reduceLT, Nat.reduceLeDiff, Nat.reduceAdd, Nat.reduceSub, Nat.reduceMul, Int.reduceToNat, Int.reduceLE, Int.reduceLT, Int.reduceAdd, Int.reduceSub, Int.reduceMul, Int.reduceEq, Int.reduceNeg]
    by_cases h_9 : y_5 = true
    · rw [if_pos h_9] at h
      have e_10 : y_5 = true := h_9
      simp only [e_8, e_10, go_sem, reduceIte, reduceCtorEq, Nat.reduceEqDiff, Nat.reduceLT, Nat.reduceLeDiff, Nat.reduceAdd, Nat.reduceSub, Nat.reduceMul, Int.reduceToNat, Int.reduceLE, Int.reduceLT, Int.reduceAdd, Int.reduceSub, Int.reduceMul, Int.reduceEq, Int.reduceNeg]
      obtain ⟨o_1013, h_1011, h⟩ := bindS h
      refine ALp.ref (Ref.trans (Ref.thaw (Nat.zero_le _) 10 rfl (sz := 3) (by decide) 97) (Ref.std [8, 10, 11, 12] [0] (by decide) low0 rfl (by first | rfl | simp only [go_sem, reduceIte, Nat.reduceEqDiff, Nat.reduceAdd]))) (Nat.zero_le _) (cover_triples_L1_w N _ N _ _ _ o_1013 h_1011 ?_)
      rcases o_1013 with y_1012 | _
      · try dsimp only at h
        refine LoopK_go rfl (Nat.zero_le _) ?_
        simp only [e_8, e_10, go_sem, reduceIte, reduceCtorEq, Nat.reduceEqDiff, Nat.reduceLT, Nat.reduceLeDiff, Nat.reduceAdd, Nat.reduceSub, Nat.reduceMul, Int.reduceToNat, Int.reduceLE, Int.reduceLT, Int.reduceAdd, Int.reduceSub, Int.reduceMul, Int.reduceEq, Int.reduceNeg]
        have g_0 := Option.some.inj h
        obtain ⟨k_1, g_1⟩ := Prod.mk.inj g_0
        subst k_1
        subst g_1
        rw [← hQ]
        exact ⟨rfl, _, rfl, _, _, (RefV.trans (RefV.frz (Nat.zero_le _) (id := 0) rfl (pures_map y_1012 eTArr3_I64 (fun _ => rfl))) (RefV.out (by first | rfl | simp only [go_sem, reduceIte, Nat.reduceEqDiff, Nat.reduceAdd, e_8, e_10]))), rfl, rfl⟩
      · try dsimp only at h
        refine LoopK_ret ?_
        have g_0 := Option.some.inj h
        obtain ⟨k_1, g_1⟩ := Prod.mk.inj g_0
        subst k_1
        subst g_1
        rw [← hQ]
        exact ⟨rfl, _, rfl, _, _, (RefV.trans (RefV.out (v' := .tup [.vec true [], .bool false]) rfl) (RefV.weak (Wks.cons (Wk.tup (Wks.cons Wk.vec (Wks.cons (Wk.refl _) (Wks.nil)))) Wks.nil) (WkH.refl _))), rfl, rfl⟩
    · rw [if_neg h_9] at h
      have e_10 : y_5 = false := bfalse h_9
      simp only [e_8, e_10, go_sem, reduceIte, reduceCtorEq, Nat.reduceEqDiff, Nat.reduceLT, Nat.reduceLeDiff, Nat.reduceAdd, Nat.reduceSub, Nat.reduceMul, Int.reduceToNat, Int.reduceLE, Int.reduceLT, Int.reduceAdd, Int.reduceSub, Int.reduceMul, Int.reduceEq, Int.reduceNeg]
      have g_0 := Option.some.inj h
      obtain ⟨k_1, g_1⟩ := Prod.mk.inj g_0
      subst k_1
      subst g_1
      rw [← hQ]
      exact ⟨rfl, _, rfl, _, _, (RefV.trans (RefV.out (v' := .tup [.vec true [], .bool false]) rfl) (RefV.weak (Wks.cons (Wk.tup (Wks.cons Wk.vec (Wks.cons (Wk.refl _) (Wks.nil)))) Wks.nil) (WkH.refl _))), rfl, rfl⟩
  · rw [if_neg h_7] at h
    have e_8 : y_2 = false := bfalse h_7
    simp only [e_8, go_sem, reduceIte, reduceCtorEq, Nat.reduceEqDiff, Nat.reduceLT, Nat.reduceLeDiff, Nat.reduceAdd, Nat.reduceSub, Nat.reduceMul, Int.reduceToNat, Int.reduceLE, Int.reduceLT, Int.reduceAdd, Int.reduceSub, Int.reduceMul, Int.reduceEq, Int.reduceNeg]
    have g_0 := Option.some.inj h
    obtain ⟨k_1, g_1⟩ := Prod.mk.inj g_0
    subst k_1
    subst g_1
    rw [← hQ]
    exact ⟨rfl, _, rfl, _, _, (RefV.trans (RefV.out (v' := .tup [.vec true [], .bool false]) rfl) (RefV.weak (Wks.cons (Wk.tup (Wks.cons Wk.vec (Wks.cons (Wk.refl _) (Wks.nil)))) Wks.nil) (WkH.refl _))), rfl, rfl⟩
theorem cover_Classes_L2_w (N : Nat) (y_1025 : Bool) (y_1024 : List TArr3_I64) {R : AExit → ATm → List AObj → Prop} : ∀ (n : Nat) (i_1027 : Int) (s_1028 : List TClass) (o : (List TClass)), cover_Classes_L2 N y_1025 y_1024 n i_1027 s_1028 = some o → (match o with | z_1 => R (.exit 3) ⟨105, [(6, .row 0 0 z_1.length), (17, .bool y_1025)], []⟩ [.mem 3 (List.map eTClass z_1) 48]) →
    ALp Go.Proofs.Try.prog 0 B20_2 ⟨105, [(6, .row 0 0 s_1028.length), (17, .bool y_1025), (86, .vec false (List.map eTArr3_I64 y_1024)), (87, .int .i64 (y_1024.length : Int)), (88, .int .i64 i_1027)], []⟩ [.mem 3 (List.map eTClass s_1028) 48] R := by
  intro n
  induction n with
  | zero =>
    intro i_1027 s_1028 o h _
    have h0 : none = some o := h
    cases h0
  | succ n ih =>
    intro i_1027 s_1028 o h hp
    rw [cover_Classes_L2] at h
    refine ALp.round ?_
    generalize hQ : RoundQ _ _ _ _ = QQ
    simp only [B20_2, A20, go_sem, reduceIte, reduceCtorEq, Nat.reduceEqDiff, Nat.reduceLT, Nat.reduceLeDiff, Nat.reduceAdd, Nat.reduceSub, Nat.reduceMul, Int.reduceToNat, Int.reduceLE, Int.reduceLT, Int.reduceAdd, Int.reduceSub, Int.reduceMul, Int.reduceEq, Int.reduceNeg]
    by_cases h_1029 : i_1027 < (y_1024.length : Int)
    · rw [if_pos h_1029] at h
      have e_1030 : (i_1027 < (y_1024.length : Int)) = True := eq_true h_1029
      obtain ⟨x_1031, h_1032, h⟩ := bindS h
      have e_1033 : (List.map eTArr3_I64 y_1024)[(i_1027).toNat]? = some [.int .i64 x_1031.e0, .int .i64 x_1031.e1, .int .i64 x_1031.e2] := atI_map eTArr3_I64 h_1032
      have e_1034 : ((0 : Int) ≤ i_1027) = True := eq_true (atI_some h_1032).1
      have e_1035 : ((i_1027 : Int) < (y_1024.length : Int)) = True := eq_true (atI_lt h_1032)
      obtain ⟨y_1036, h_1037, h⟩ := bindS h
      simp only [e_1030, e_1033, e_1034, e_1035, go_sem, reduceIte, reduceCtorEq, Nat.reduceEqDiff, Nat.reduceLT, Nat.reduceLeDiff, Nat.reduceAdd, Nat.reduceSub, Nat.reduceMul, Int.reduceToNat, Int.reduceLE, Int.reduceLT, Int.reduceAdd, Int.reduceSub, Int.reduceMul, Int.reduceEq, Int.reduceNeg]
      refine ACalls.use (cover_classed_row_w N _ _ _ _ _ h_1037) [0] (by decide) ⟨(by first | rfl | simp only [go_sem, reduceIte, Nat.reduceEqDiff, Nat.reduceAdd, e_1030]), trivial⟩ rfl (v' := .row 2 0 y_1036.length) (by first | rfl | simp only [go_sem, reduceIte, Nat.reduceEqDiff, Nat.reduceAdd, e_1030]) (H' := [.dead, .box [.int .i64 x_1031.e0, .int .i64 x_1031.e1, .int .i64 x_1031.e2] 97, .mem 3 (List.map eTClass y_1036) 48]) (by first | rfl | simp only [go_sem, reduceIte, Nat.reduceEqDiff, Nat.reduceAdd, e_1030]) ?_
      refine CallK_go (Nat.zero_le _) ?_
      simp only [e_1030, e_1033, e_1034, e_1035, go_sem, reduceIte, reduceCtorEq, Nat.reduceEqDiff, Nat.reduceLT, Nat.reduceLeDiff, Nat.reduceAdd, Nat.reduceSub, Nat.reduceMul, Int.reduceToNat, Int.reduceLE, Int.reduceLT, Int.reduceAdd, Int.reduceSub, Int.reduceMul, Int.reduceEq, Int.reduceNeg]
      rw [← hQ]
      exact ⟨_, _, (Ref.std [6, 17, 86, 87, 88] [2] (by decide) low0 (by first | rfl | simp only [go_sem, reduceIte, Nat.reduceEqDiff, Nat.reduceAdd, e_1030]) (by first | rfl | simp only [go_sem, reduceIte, Nat.reduceEqDiff, Nat.reduceAdd])), (Nat.zero_le _), ih _ _ _ h hp⟩
    · rw [if_neg h_1029] at h
      have e_1030 : (i_1027 < (y_1024.length : Int)) = False := eq_false h_1029
      simp only [e_1030, go_sem, reduceIte, reduceCtorEq, Nat.reduceEqDiff, Nat.reduceLT, Nat.reduceLeDiff, Nat.reduceAdd, Nat.reduceSub, Nat.reduceMul, Int.reduceToNat, Int.reduceLE, Int.reduceLT, Int.reduceAdd, Int.reduceSub, Int.reduceMul, Int.reduceEq, Int.reduceNeg]
      have g := Option.some.inj h
      subst g
      rw [← hQ]
      exact ⟨_, _, (Ref.std [6, 17] [0] (by decide) low0 (by first | rfl | simp only [go_sem, reduceIte, Nat.reduceEqDiff, Nat.reduceAdd, e_1030]) (by first | rfl | simp only [go_sem, reduceIte, Nat.reduceEqDiff, Nat.reduceAdd])), hp⟩
theorem cover_Classes_w (N : Nat) (l_0 : List Int) (a_1 : Int) (c_0 : Bool) (z_1 : List TClass) (z_2 : Bool) (h : cover_Classes N l_0 a_1 = some (z_1, z_2)) :
    ACalls Go.Proofs.Try.prog 20 [.vec c_0 (List.map eU8 l_0), .int .i64 a_1] [] (fun e H => H = [] ∧ e = .ret (.tup [.vec false (List.map eTClass z_1), .bool z_2])) := by
  unfold cover_Classes at h
  refine ACalls.goN Go.Proofs.Try.func20 n20 a20 Go.Proofs.Try.ntmps20 r20 (by simp) 0 rfl ?_
  generalize hQ : bodyA _ _ _ = QQ
  obtain ⟨y_1, h_2, h⟩ := bindS h
  simp only [A20, go_sem, reduceIte, reduceCtorEq, Nat.reduceEqDiff, Nat.reduceLT, Nat.reduceLeDiff, Nat.reduceAdd, Nat.reduceSub, Nat.reduceMul, Int.reduceToNat, Int.reduceLE, Int.reduceLT, Int.reduceAdd, Int.reduceSub, Int.reduceMul, Int.reduceEq, Int.reduceNeg]
  refine ACalls.use0 (cover_format_w N _ _ _ _ h_2) rfl rfl ?_
  refine CallK_go (Nat.zero_le _) ?_
  simp only [go_sem, reduceIte, reduceCtorEq, Nat.reduceEqDiff, Nat.reduceLT, Nat.reduceLeDiff, Nat.reduceAdd, Nat.reduceSub, Nat.reduceMul, Int.reduceToNat, Int.reduceLE, Int.reduceLT, Int.reduceAdd, Int.reduceSub, Int.reduceMul, Int.reduceEq, Int.reduceNeg]
  by_cases h_3 : y_1 = 1
  · rw [if_pos h_3] at h
    have e_4 : (y_1 = 1) = True := eq_true h_3
    obtain ⟨⟨y_5, y_6⟩, h_7, h⟩ := bindS h
    try dsimp only at h
    simp only [e_4, go_sem, reduceIte, reduceCtorEq, Nat.reduceEqDiff, Nat.reduceLT, Nat.reduceLeDiff, Nat.reduceAdd, Nat.reduceSub, Nat.reduceMul, Int.reduceToNat, Int.reduceLE, Int.reduceLT, Int.reduceAdd, Int.reduceSub, Int.reduceMul, Int.reduceEq, Int.reduceNeg]
    refine ACalls.use0 (octet_U16_w N _ _ _ _ _ h_7) rfl rfl ?_
    refine CallK_go (Nat.zero_le _) ?_
    obtain ⟨⟨y_8, y_9⟩, h_10, h⟩ := bindS h
    try dsimp only at h
    simp only [e_4, go_sem, reduceIte, reduceCtorEq, Nat.reduceEqDiff, Nat.reduceLT, Nat.reduceLeDiff, Nat.reduceAdd, Nat.reduceSub, Nat.reduceMul, Int.reduceToNat, Int.reduceLE, Int.reduceLT, Int.reduceAdd, Int.reduceSub, Int.reduceMul, Int.reduceEq, Int.reduceNeg]
    refine ACalls.use0 (octet_U16_w N _ _ _ _ _ h_10) rfl rfl ?_
    refine CallK_go (Nat.zero_le _) ?_
    obtain ⟨⟨y_11, y_12⟩, h_13, h⟩ := bindS h
    try dsimp only at h
    simp only [e_4, go_sem, reduceIte, reduceCtorEq, Nat.reduceEqDiff, Nat.reduceLT, Nat.reduceLeDiff, Nat.reduceAdd, Nat.reduceSub, Nat.reduceMul, Int.reduceToNat, Int.reduceLE, Int.reduceLT, Int.reduceAdd, Int.reduceSub, Int.reduceMul, Int.reduceEq, Int.reduceNeg]
    refine ACalls.use0 (octet_Row_w N _ _ _ _ _ _ _ h_13) rfl rfl ?_
    refine CallK_go (Nat.zero_le _) ?_
    simp only [e_4, go_sem, reduceIte, reduceCtorEq, Nat.reduceEqDiff, Nat.reduceLT, Nat.reduceLeDiff, Nat.reduceAdd, Nat.reduceSub, Nat.reduceMul, Int.reduceToNat, Int.reduceLE, Int.reduceLT, Int.reduceAdd, Int.reduceSub, Int.reduceMul, Int.reduceEq, Int.reduceNeg]
    by_cases h_14 : y_9 = true
    · rw [if_pos h_14] at h
      have e_15 : y_9 = true := h_14
      simp only [e_4, e_15, go_sem, reduceIte, reduceCtorEq, Nat.reduceEqDiff, Nat.reduceLT, Nat.reduceLeDiff, Nat.reduceAdd, Nat.reduceSub, Nat.reduceMul, Int.reduceToNat, Int.reduceLE, Int.reduceLT, Int.reduceAdd, Int.reduceSub, Int.reduceMul, Int.reduceEq, Int.reduceNeg]
      by_cases h_16 : y_12 = true
      · rw [if_pos h_16] at h
        have e_17 : y_12 = true := h_16
        simp only [e_4, e_15, e_17, go_sem, reduceIte, reduceCtorEq, Nat.reduceEqDiff, Nat.reduceLT, Nat.reduceLeDiff, Nat.reduceAdd, Nat.reduceSub, Nat.reduceMul, Int.reduceToNat, Int.reduceLE, Int.reduceLT, Int.reduceAdd, Int.reduceSub, Int.reduceMul, Int.reduceEq, Int.reduceNeg]
        by_cases h_18 : 65536 < IntKind.i64.wrap (y_5 + y_8)
        · rw [if_pos h_18] at h
          have e_19 : (65536 < IntKind.i64.wrap (y_5 + y_8)) = True := eq_true h_18
          simp only [e_4, e_15, e_17, e_19, go_sem, reduceIte, reduceCtorEq, Nat.reduceEqDiff, Nat.reduceLT, Nat.reduceLeDiff, Nat.reduceAdd, Nat.reduceSub, Nat.reduceMul, Int.reduceToNat, Int.reduceLE, Int.reduceLT, Int.reduceAdd, Int.reduceSub, Int.reduceMul, Int.reduceEq, Int.reduceNeg]
          have g_0 := Option.some.inj h
          obtain ⟨k_1, g_1⟩ := Prod.mk.inj g_0
          subst k_1
          subst g_1
          rw [← hQ]
          exact ⟨rfl, _, rfl, _, _, (RefV.trans (RefV.out (v' := .tup [.vec true [], .bool false]) rfl) (RefV.weak (Wks.cons (Wk.tup (Wks.cons Wk.vec (Wks.cons (Wk.refl _) (Wks.nil)))) Wks.nil) (WkH.refl _))), rfl, rfl⟩
        · rw [if_neg h_18] at h
          have e_19 : (65536 < IntKind.i64.wrap (y_5 + y_8)) = False := eq_false h_18
          simp only [e_4, e_15, e_17, e_19, go_sem, reduceIte, reduceCtorEq, Nat.reduceEqDiff, Nat.reduceLT, Nat.reduceLeDiff, Nat.reduceAdd, Nat.reduceSub, Nat.reduceMul, Int.reduceToNat, Int.reduceLE, Int.reduceLT, Int.reduceAdd, Int.reduceSub, Int.reduceMul, Int.reduceEq, Int.reduceNeg]
          obtain ⟨y_1021, h_1020, h⟩ := bindS h
          refine ALp.ref (Ref.trans (Ref.thaw (Nat.zero_le _) 6 rfl (sz := 3) (by decide) 48) (Ref.std [6, 8, 60, 61, 62] [0] (by decide) low0 rfl (by first | rfl | simp only [go_sem, reduceIte, Nat.reduceEqDiff, Nat.reduceAdd]))) (Nat.zero_le _) (cover_Classes_L1_w N _ _ N _ _ y_1021 h_1020 ?_)
          refine LoopK_go rfl (Nat.zero_le _) ?_
          simp only [e_4, e_15, e_17, e_19, go_sem, reduceIte, reduceCtorEq, Nat.reduceEqDiff, Nat.reduceLT, Nat.reduceLeDiff, Nat.reduceAdd, Nat.reduceSub, Nat.reduceMul, Int.reduceToNat, Int.reduceLE, Int.reduceLT, Int.reduceAdd, Int.reduceSub, Int.reduceMul, Int.reduceEq, Int.reduceNeg]
          have g_0 := Option.some.inj h
          obtain ⟨k_1, g_1⟩ := Prod.mk.inj g_0
          subst k_1
          subst g_1
          rw [← hQ]
          exact ⟨rfl, _, rfl, _, _, (RefV.trans (RefV.frz (Nat.zero_le _) (id := 0) rfl (pures_map y_1021 eTClass (fun _ => rfl))) (RefV.out (by first | rfl | simp only [go_sem, reduceIte, Nat.reduceEqDiff, Nat.reduceAdd, e_4, e_15, e_17, e_19]))), rfl, rfl⟩
      · rw [if_neg h_16] at h
        have e_17 : y_12 = false := bfalse h_16
        simp only [e_4, e_15, e_17, go_sem, reduceIte, reduceCtorEq, Nat.reduceEqDiff, Nat.reduceLT, Nat.reduceLeDiff, Nat.reduceAdd, Nat.reduceSub, Nat.reduceMul, Int.reduceToNat, Int.reduceLE, Int.reduceLT, Int.reduceAdd, Int.reduceSub, Int.reduceMul, Int.reduceEq, Int.reduceNeg]
        have g_0 := Option.some.inj h
        obtain ⟨k_1, g_1⟩ := Prod.mk.inj g_0
        subst k_1
        subst g_1
        rw [← hQ]
        exact ⟨rfl, _, rfl, _, _, (RefV.trans (RefV.out (v' := .tup [.vec true [], .bool false]) rfl) (RefV.weak (Wks.cons (Wk.tup (Wks.cons Wk.vec (Wks.cons (Wk.refl _) (Wks.nil)))) Wks.nil) (WkH.refl _))), rfl, rfl⟩
    · rw [if_neg h_14] at h
      have e_15 : y_9 = false := bfalse h_14
      simp only [e_4, e_15, go_sem, reduceIte, reduceCtorEq, Nat.reduceEqDiff, Nat.reduceLT, Nat.reduceLeDiff, Nat.reduceAdd, Nat.reduceSub, Nat.reduceMul, Int.reduceToNat, Int.reduceLE, Int.reduceLT, Int.reduceAdd, Int.reduceSub, Int.reduceMul, Int.reduceEq, Int.reduceNeg]
      have g_0 := Option.some.inj h
      obtain ⟨k_1, g_1⟩ := Prod.mk.inj g_0
      subst k_1
      subst g_1
      rw [← hQ]
      exact ⟨rfl, _, rfl, _, _, (RefV.trans (RefV.out (v' := .tup [.vec true [], .bool false]) rfl) (RefV.weak (Wks.cons (Wk.tup (Wks.cons Wk.vec (Wks.cons (Wk.refl _) (Wks.nil)))) Wks.nil) (WkH.refl _))), rfl, rfl⟩
  · rw [if_neg h_3] at h
    have e_4 : (y_1 = 1) = False := eq_false h_3
    simp only [e_4, go_sem, reduceIte, reduceCtorEq, Nat.reduceEqDiff, Nat.reduceLT, Nat.reduceLeDiff, Nat.reduceAdd, Nat.reduceSub, Nat.reduceMul, Int.reduceToNat, Int.reduceLE, Int.reduceLT, Int.reduceAdd, Int.reduceSub, Int.reduceMul, Int.reduceEq, Int.reduceNeg]
    by_cases h_1022 : y_1 = 2
    · rw [if_pos h_1022] at h
      have e_1023 : (y_1 = 2) = True := eq_true h_1022
      obtain ⟨⟨y_1024, y_1025⟩, h_1026, h⟩ := bindS h
      try dsimp only at h
      simp only [e_4, e_1023, go_sem, reduceIte, reduceCtorEq, Nat.reduceEqDiff, Nat.reduceLT, Nat.reduceLeDiff, Nat.reduceAdd, Nat.reduceSub, Nat.reduceMul, Int.reduceToNat, Int.reduceLE, Int.reduceLT, Int.reduceAdd, Int.reduceSub, Int.reduceMul, Int.reduceEq, Int.reduceNeg]
      refine ACalls.use0 (cover_triples_w N _ _ _ _ _ h_1026) rfl rfl ?_
      refine CallK_go (Nat.zero_le _) ?_
      simp only [e_4, e_1023, go_sem, reduceIte, reduceCtorEq, Nat.reduceEqDiff, Nat.reduceLT, Nat.reduceLeDiff, Nat.reduceAdd, Nat.reduceSub, Nat.reduceMul, Int.reduceToNat, Int.reduceLE, Int.reduceLT, Int.reduceAdd, Int.reduceSub, Int.reduceMul, Int.reduceEq, Int.reduceNeg]
      obtain ⟨y_2028, h_2027, h⟩ := bindS h
      refine ALp.ref (Ref.trans (Ref.thaw (Nat.zero_le _) 6 rfl (sz := 3) (by decide) 48) (Ref.std [6, 17, 86, 87, 88] [0] (by decide) low0 (by first | rfl | simp only [go_sem, reduceIte, Nat.reduceEqDiff, Nat.reduceAdd, e_4, e_1023]) (by first | rfl | simp only [go_sem, reduceIte, Nat.reduceEqDiff, Nat.reduceAdd]))) (Nat.zero_le _) (cover_Classes_L2_w N _ _ N _ _ y_2028 h_2027 ?_)
      refine LoopK_go rfl (Nat.zero_le _) ?_
      simp only [e_4, e_1023, go_sem, reduceIte, reduceCtorEq, Nat.reduceEqDiff, Nat.reduceLT, Nat.reduceLeDiff, Nat.reduceAdd, Nat.reduceSub, Nat.reduceMul, Int.reduceToNat, Int.reduceLE, Int.reduceLT, Int.reduceAdd, Int.reduceSub, Int.reduceMul, Int.reduceEq, Int.reduceNeg]
      have g_0 := Option.some.inj h
      obtain ⟨k_1, g_1⟩ := Prod.mk.inj g_0
      subst k_1
      subst g_1
      rw [← hQ]
      exact ⟨rfl, _, rfl, _, _, (RefV.trans (RefV.frz (Nat.zero_le _) (id := 0) rfl (pures_map y_2028 eTClass (fun _ => rfl))) (RefV.out (by first | rfl | simp only [go_sem, reduceIte, Nat.reduceEqDiff, Nat.reduceAdd, e_4, e_1023]))), rfl, rfl⟩
    · rw [if_neg h_1022] at h
      have e_1023 : (y_1 = 2) = False := eq_false h_1022
      simp only [e_4, e_1023, go_sem, reduceIte, reduceCtorEq, Nat.reduceEqDiff, Nat.reduceLT, Nat.reduceLeDiff, Nat.reduceAdd, Nat.reduceSub, Nat.reduceMul, Int.reduceToNat, Int.reduceLE, Int.reduceLT, Int.reduceAdd, Int.reduceSub, Int.reduceMul, Int.reduceEq, Int.reduceNeg]
      have g_0 := Option.some.inj h
      obtain ⟨k_1, g_1⟩ := Prod.mk.inj g_0
      subst k_1
      subst g_1
      rw [← hQ]
      exact ⟨rfl, _, rfl, _, _, (RefV.trans (RefV.out (v' := .tup [.vec true [], .bool false]) rfl) (RefV.weak (Wks.cons (Wk.tup (Wks.cons Wk.vec (Wks.cons (Wk.refl _) (Wks.nil)))) Wks.nil) (WkH.refl _))), rfl, rfl⟩
theorem gdef_classes_w (N : Nat) (l_0 : List Int) (a_1 : Int) (a_2 : Int) (c_0 : Bool) (z_1 : List TClass) (z_2 : Bool) (h : gdef_classes N l_0 a_1 a_2 = some (z_1, z_2)) :
    ACalls Go.Proofs.Try.prog 72 [.vec c_0 (List.map eU8 l_0), .int .i64 a_1, .int .i64 a_2] [] (fun e H => H = [] ∧ e = .ret (.tup [.vec false (List.map eTClass z_1), .bool z_2])) := by
  unfold gdef_classes at h
  refine ACalls.goN Go.Proofs.Try.func72 n72 a72 Go.Proofs.Try.ntmps72 r72 (by simp) 0 rfl ?_
  generalize hQ : bodyA _ _ _ = QQ
  obtain ⟨⟨y_1, y_2⟩, h_3, h⟩ := bindS h
  try dsimp only at h
  simp only [A72, go_sem, reduceIte, reduceCtorEq, Nat.reduceEqDiff, Nat.reduceLT, Nat.reduceLeDiff, Nat.reduceAdd, Nat.reduceSub, Nat.reduceMul, Int.reduceToNat, Int.reduceLE, Int.reduceLT, Int.reduceAdd, Int.reduceSub, Int.reduceMul, Int.reduceEq, Int.reduceNeg]
  refine ACalls.use0 (octet_U16_w N _ _ _ _ _ h_3) rfl rfl ?_
  refine CallK_go (Nat.zero_le _) ?_
  simp only [go_sem, reduceIte, reduceCtorEq, Nat.reduceEqDiff, Nat.reduceLT, Nat.reduceLeDiff, Nat.reduceAdd, Nat.reduceSub, Nat.reduceMul, Int.reduceToNat, Int.reduceLE, Int.reduceLT, Int.reduceAdd, Int.reduceSub, Int.reduceMul, Int.reduceEq, Int.reduceNeg]
  by_cases h_4 : y_2 = true
  · rw [if_pos h_4] at h
    have e_5 : y_2 = true := h_4
    simp only [e_5, go_sem, reduceIte, reduceCtorEq, Nat.reduceEqDiff, Nat.reduceLT, Nat.reduceLeDiff, Nat.reduceAdd, Nat.reduceSub, Nat.reduceMul, Int.reduceToNat, Int.reduceLE, Int.reduceLT, Int.reduceAdd, Int.reduceSub, Int.reduceMul, Int.reduceEq, Int.reduceNeg]
    by_cases h_6 : y_1 = 0
    · rw [if_pos h_6] at h
      have e_7 : (y_1 = 0) = True := eq_true h_6
      simp only [e_5, e_7, go_sem, reduceIte, reduceCtorEq, Nat.reduceEqDiff, Nat.reduceLT, Nat.reduceLeDiff, Nat.reduceAdd, Nat.reduceSub, Nat.reduceMul, Int.reduceToNat, Int.reduceLE, Int.reduceLT, Int.reduceAdd, Int.reduceSub, Int.reduceMul, Int.reduceEq, Int.reduceNeg]
      have g_0 := Option.some.inj h
      obtain ⟨k_1, g_1⟩ := Prod.mk.inj g_0
      subst k_1
      subst g_1
      rw [← hQ]
      exact ⟨rfl, _, rfl, _, _, (RefV.trans (RefV.out (v' := .tup [.vec true [], .bool y_2]) (by first | rfl | simp only [go_sem, reduceIte, Nat.reduceEqDiff, Nat.reduceAdd, e_5, e_7])) (RefV.weak (Wks.cons (Wk.tup (Wks.cons Wk.vec (Wks.cons (Wk.refl _) (Wks.nil)))) Wks.nil) (WkH.refl _))), rfl, rfl⟩
    · rw [if_neg h_6] at h
      have e_7 : (y_1 = 0) = False := eq_false h_6
      obtain ⟨⟨y_8, y_9⟩, h_10, h⟩ := bindS h
      try dsimp only at h
      simp only [e_5, e_7, go_sem, reduceIte, reduceCtorEq, Nat.reduceEqDiff, Nat.reduceLT, Nat.reduceLeDiff, Nat.reduceAdd, Nat.reduceSub, Nat.reduceMul, Int.reduceToNat, Int.reduceLE, Int.reduceLT, Int.reduceAdd, Int.reduceSub, Int.reduceMul, Int.reduceEq, Int.reduceNeg]
      refine ACalls.use0 (cover_Classes_w N _ _ _ _ _ h_10) rfl rfl ?_
      refine CallK_go (Nat.zero_le _) ?_
      simp only [e_5, e_7, go_sem, reduceIte, reduceCtorEq, Nat.reduceEqDiff, Nat.reduceLT, Nat.reduceLeDiff, Nat.reduceAdd, Nat.reduceSub, Nat.reduceMul, Int.reduceToNat, Int.reduceLE, Int.reduceLT, Int.reduceAdd, Int.reduceSub, Int.reduceMul, Int.reduceEq, Int.reduceNeg]
      have g_0 := Option.some.inj h
      obtain ⟨k_1, g_1⟩ := Prod.mk.inj g_0
      subst k_1
      subst g_1
      rw [← hQ]
      exact ⟨rfl, _, rfl, _, _, (RefV.out (by first | rfl | simp only [go_sem, reduceIte, Nat.reduceEqDiff, Nat.reduceAdd, e_5, e_7])), rfl, rfl⟩
  · rw [if_neg h_4] at h
    have e_5 : y_2 = false := bfalse h_4
    simp only [e_5, go_sem, reduceIte, reduceCtorEq, Nat.reduceEqDiff, Nat.reduceLT, Nat.reduceLeDiff, Nat.reduceAdd, Nat.reduceSub, Nat.reduceMul, Int.reduceToNat, Int.reduceLE, Int.reduceLT, Int.reduceAdd, Int.reduceSub, Int.reduceMul, Int.reduceEq, Int.reduceNeg]
    have g_0 := Option.some.inj h
    obtain ⟨k_1, g_1⟩ := Prod.mk.inj g_0
    subst k_1
    subst g_1
    rw [← hQ]
    exact ⟨rfl, _, rfl, _, _, (RefV.trans (RefV.out (v' := .tup [.vec true [], .bool y_2]) (by first | rfl | simp only [go_sem, reduceIte, Nat.reduceEqDiff, Nat.reduceAdd, e_5])) (RefV.weak (Wks.cons (Wk.tup (Wks.cons Wk.vec (Wks.cons (Wk.refl _) (Wks.nil)))) Wks.nil) (WkH.refl _))), rfl, rfl⟩
theorem cover_joined_row_w (N : Nat) (l_0 : List TSpan) (a_1 : Int) (a_2 : Int) (z_1 : List TSpan) (h : cover_joined_row N l_0 a_1 a_2 = some z_1) :
    ACalls Go.Proofs.Try.prog 61 [.row 0 0 l_0.length, .agg [.int .i64 a_1, .int .i64 a_2]] [.mem 2 (List.map eTSpan l_0) 38] (fun e H => H = [.dead, .mem 2 (List.map eTSpan z_1) 38] ∧ e = .ret (.row 1 0 z_1.length)) := by
  unfold cover_joined_row at h
  refine ACalls.goN Go.Proofs.Try.func61 n61 a61 Go.Proofs.Try.ntmps61 r61 (by simp) 1 rfl ?_
  generalize hQ : bodyA _ _ _ = QQ
  simp only [A61, go_sem, reduceIte, reduceCtorEq, Nat.reduceEqDiff, Nat.reduceLT, Nat.reduceLeDiff, Nat.reduceAdd, Nat.reduceSub, Nat.reduceMul, Int.reduceToNat, Int.reduceLE, Int.reduceLT, Int.reduceAdd, Int.reduceSub, Int.reduceMul, Int.reduceEq, Int.reduceNeg]
  by_cases h_1 : 0 < (l_0.length : Int)
  · rw [if_pos h_1] at h
    have e_2 : (0 < (l_0.length : Int)) = True := eq_true h_1
    obtain ⟨x_3, h_4, h⟩ := bindS h
    have e_5 : (List.map eTSpan l_0)[(IntKind.i64.wrap ((l_0.length : Int) - 1)).toNat]? = some [.int .i64 x_3.From, .int .i64 x_3.To] := atI_map eTSpan h_4
    have e_6 : ((0 : Int) ≤ IntKind.i64.wrap ((l_0.length : Int) - 1)) = True := eq_true (atI_some h_4).1
    have e_7 : ((IntKind.i64.wrap ((l_0.length : Int) - 1) : Int) < (l_0.length : Int)) = True := eq_true (atI_lt h_4)
    simp only [e_2, e_5, e_6, e_7, go_sem, reduceIte, reduceCtorEq, Nat.reduceEqDiff, Nat.reduceLT, Nat.reduceLeDiff, Nat.reduceAdd, Nat.reduceSub, Nat.reduceMul, Int.reduceToNat, Int.reduceLE, Int.reduceLT, Int.reduceAdd, Int.reduceSub, Int.reduceMul, Int.reduceEq, Int.reduceNeg]
    by_cases h_8 : IntKind.i64.wrap (x_3.To + 1) = a_1
    · rw [if_pos h_8] at h
      have e_9 : (IntKind.i64.wrap (x_3.To + 1) = a_1) = True := eq_true h_8
      have e_10 : (List.map eTSpan l_0).set (IntKind.i64.wrap ((l_0.length : Int) - 1)).toNat [.int .i64 x_3.From, .int .i64 a_2] = List.map eTSpan (List.set l_0 (IntKind.i64.wrap ((l_0.length : Int) - 1)).toNat (TSpan.mk x_3.From a_2)) := set_map l_0 eTSpan (IntKind.i64.wrap ((l_0.length : Int) - 1)).toNat (TSpan.mk x_3.From a_2)
      simp only [e_2, e_5, e_6, e_7, e_9, e_10, go_sem, reduceIte, reduceCtorEq, Nat.reduceEqDiff, Nat.reduceLT, Nat.reduceLeDiff, Nat.reduceAdd, Nat.reduceSub, Nat.reduceMul, Int.reduceToNat, Int.reduceLE, Int.reduceLT, Int.reduceAdd, Int.reduceSub, Int.reduceMul, Int.reduceEq, Int.reduceNeg]
      have g_0 := Option.some.inj h
      subst g_0
      rw [← hQ]
      exact ⟨rfl, _, rfl, _, _, (RefV.trans (RefV.move (by simp) (id := 0) rfl rfl) (RefV.std [0, 2] (by decide) (by decide) (by first | rfl | simp only [go_sem, reduceIte, Nat.reduceEqDiff, Nat.reduceAdd, e_2, e_9]) (by first | rfl | simp only [go_sem, reduceIte, Nat.reduceEqDiff, Nat.reduceAdd, e_2, e_9]))), rfl, rfl⟩
    · rw [if_neg h_8] at h
      have e_9 : (IntKind.i64.wrap (x_3.To + 1) = a_1) = False := eq_false h_8
      have e_11 : List.take l_0.length (List.map eTSpan l_0) = (List.map eTSpan l_0) := List.take_of_length_le (by simp)
      have e_12 : (List.map eTSpan l_0) ++ [[.int .i64 a_1, .int .i64 a_2]] = (List.map eTSpan (l_0 ++ [TSpan.mk a_1 a_2])) := app_map l_0 ([TSpan.mk a_1 a_2]) eTSpan
      obtain ⟨h_13, h⟩ := guardS h
      have e_14 : ((l_0.length + 1) * 16 ≤ 140737488355328) = True := eq_true h_13
      simp only [e_2, e_5, e_6, e_7, e_9, e_11, e_12, e_14, go_sem, reduceIte, reduceCtorEq, Nat.reduceEqDiff, Nat.reduceLT, Nat.reduceLeDiff, Nat.reduceAdd, Nat.reduceSub, Nat.reduceMul, Int.reduceToNat, Int.reduceLE, Int.reduceLT, Int.reduceAdd, Int.reduceSub, Int.reduceMul, Int.reduceEq, Int.reduceNeg]
      have g_0 := Option.some.inj h
      subst g_0
      rw [← hQ]
      exact ⟨rfl, _, rfl, _, _, (RefV.std [0, 2] (by decide) (by decide) (by first | rfl | simp only [go_sem, reduceIte, Nat.reduceEqDiff, Nat.reduceAdd]) (by first | rfl | simp only [go_sem, reduceIte, Nat.reduceEqDiff, Nat.reduceAdd, e_2, e_9])), rfl, rfl⟩
  · rw [if_neg h_1] at h
    have e_2 : (0 < (l_0.length : Int)) = False := eq_false h_1
    have e_15 : List.take l_0.length (List.map eTSpan l_0) = (List.map eTSpan l_0) := List.take_of_length_le (by simp)
    have e_16 : (List.map eTSpan l_0) ++ [[.int .i64 a_1, .int .i64 a_2]] = (List.map eTSpan (l_0 ++ [TSpan.mk a_1 a_2])) := app_map l_0 ([TSpan.mk a_1 a_2]) eTSpan
    obtain ⟨h_17, h⟩ := guardS h
    have e_18 : ((l_0.length + 1) * 16 ≤ 140737488355328) = True := eq_true h_17
    simp only [e_2, e_15, e_16, e_18, go_sem, reduceIte, reduceCtorEq, Nat.reduceEqDiff, Nat.reduceLT, Nat.reduceLeDiff, Nat.reduceAdd, Nat.reduceSub, Nat.reduceMul, Int.reduceToNat, Int.reduceLE, Int.reduceLT, Int.reduceAdd, Int.reduceSub, Int.reduceMul, Int.reduceEq, Int.reduceNeg]
    have g_0 := Option.some.inj h
    subst g_0
    rw [← hQ]
    exact ⟨rfl, _, rfl, _, _, (RefV.std [0, 2] (by decide) (by decide) (by first | rfl | simp only [go_sem, reduceIte, Nat.reduceEqDiff, Nat.reduceAdd]) (by first | rfl | simp only [go_sem, reduceIte, Nat.reduceEqDiff, Nat.reduceAdd, e_2])), rfl, rfl⟩
theorem cover_glyphs_L1_w (N : Nat) (y_4 : List Int) {R : AExit → ATm → List AObj → Prop} : ∀ (n : Nat) (i_11 : Int) (i_12 : Int) (s_13 : List TSpan) (o : ((List TSpan)) ⊕ (Unit)), cover_glyphs_L1 N y_4 n i_11 i_12 s_13 = some o → (match o with | .inl z_1 => R (.exit 0) ⟨52, [(10, .row 0 0 z_1.length)], []⟩ [.mem 2 (List.map eTSpan z_1) 38] | .inr (_) => R .ret ⟨52, [(4, .vec true []), (5, .bool false)], []⟩ []) →
    ALp Go.Proofs.Try.prog 0 B54_1 ⟨52, [(10, .row 0 0 s_13.length), (11, .int .i64 i_11), (35, .vec false (List.map eI64 y_4)), (36, .int .i64 (y_4.length : Int)), (37, .int .i64 i_12)], []⟩ [.mem 2 (List.map eTSpan s_13) 38] R := by
  intro n
  induction n with
  | zero =>
    intro i_11 i_12 s_13 o h _
    have h0 : none = some o := h
    cases h0
  | succ n ih =>
    intro i_11 i_12 s_13 o h hp
    rw [cover_glyphs_L1] at h
    refine ALp.round ?_
    generalize hQ : RoundQ _ _ _ _ = QQ
    simp only [B54_1, A54, go_sem, reduceIte, reduceCtorEq, Nat.reduceEqDiff, Nat.reduceLT, Nat.reduceLeDiff, Nat.reduceAdd, Nat.reduceSub, Nat.reduceMul, Int.reduceToNat, Int.reduceLE, Int.reduceLT, Int.reduceAdd, Int.reduceSub, Int.reduceMul, Int.reduceEq, Int.reduceNeg]
    by_cases h_14 : i_12 < (y_4.length : Int)
    · rw [if_pos h_14] at h
      have e_15 : (i_12 < (y_4.length : Int)) = True := eq_true h_14
      obtain ⟨x_16, h_17, h⟩ := bindS h
      have e_18 : (List.map eI64 y_4)[(i_12).toNat]? = some [.int .i64 x_16] := atI_map eI64 h_17
      have e_19 : ((0 : Int) ≤ i_12) = True := eq_true (atI_some h_17).1
      have e_20 : ((i_12 : Int) < (y_4.length : Int)) = True := eq_true (atI_lt h_17)
      simp only [e_15, e_18, e_19, e_20, go_sem, reduceIte, reduceCtorEq, Nat.reduceEqDiff, Nat.reduceLT, Nat.reduceLeDiff, Nat.reduceAdd, Nat.reduceSub, Nat.reduceMul, Int.reduceToNat, Int.reduceLE, Int.reduceLT, Int.reduceAdd, Int.reduceSub, Int.reduceMul, Int.reduceEq, Int.reduceNeg]
      by_cases h_21 : x_16 ≤ i_11
      · rw [if_pos h_21] at h
        have e_22 : (x_16 ≤ i_11) = True := eq_true h_21
        simp only [e_15, e_18, e_19, e_20, e_22, go_sem, reduceIte, reduceCtorEq, Nat.reduceEqDiff, Nat.reduceLT, Nat.reduceLeDiff, Nat.reduceAdd, Nat.reduceSub, Nat.reduceMul, Int.reduceToNat, Int.reduceLE, Int.reduceLT, Int.reduceAdd, Int.reduceSub, Int.reduceMul, Int.reduceEq, Int.reduceNeg]
        have g := Option.some.inj h
        subst g
        rw [← hQ]
        exact ⟨_, _, (Ref.out [4, 5] rfl), hp⟩
      · rw [if_neg h_21] at h
        have e_22 : (x_16 ≤ i_11) = False := eq_false h_21
        obtain ⟨y_23, h_24, h⟩ := bindS h
        simp only [e_15, e_18, e_19, e_20, e_22, go_sem, reduceIte, reduceCtorEq, Nat.reduceEqDiff, Nat.reduceLT, Nat.reduceLeDiff, Nat.reduceAdd, Nat.reduceSub, Nat.reduceMul, Int.reduceToNat, Int.reduceLE, Int.reduceLT, Int.reduceAdd, Int.reduceSub, Int.reduceMul, Int.reduceEq, Int.reduceNeg]
        refine ACalls.use (cover_joined_row_w N _ _ _ _ h_24) [0] (by decide) ⟨(by first | rfl | simp only [go_sem, reduceIte, Nat.reduceEqDiff, Nat.reduceAdd, e_15, e_22]), trivial⟩ rfl (v' := .row 1 0 y_23.length) (by first | rfl | simp only [go_sem, reduceIte, Nat.reduceEqDiff, Nat.reduceAdd, e_15, e_22]) (H' := [.dead, .mem 2 (List.map eTSpan y_23) 38]) (by first | rfl | simp only [go_sem, reduceIte, Nat.reduceEqDiff, Nat.reduceAdd, e_15, e_22]) ?_
        refine CallK_go (Nat.zero_le _) ?_
        simp only [e_15, e_18, e_19, e_20, e_22, go_sem, reduceIte, reduceCtorEq, Nat.reduceEqDiff, Nat.reduceLT, Nat.reduceLeDiff, Nat.reduceAdd, Nat.reduceSub, Nat.reduceMul, Int.reduceToNat, Int.reduceLE, Int.reduceLT, Int.reduceAdd, Int.reduceSub, Int.reduceMul, Int.reduceEq, Int.reduceNeg]
        rw [← hQ]
        exact ⟨_, _, (Ref.std [10, 11, 35, 36, 37] [1] (by decide) low0 rfl (by first | rfl | simp only [go_sem, reduceIte, Nat.reduceEqDiff, Nat.reduceAdd])), (Nat.zero_le _), ih _ _ _ _ h hp⟩
    · rw [if_neg h_14] at h
      have e_15 : (i_12 < (y_4.length : Int)) = False := eq_false h_14
      simp only [e_15, go_sem, reduceIte, reduceCtorEq, Nat.reduceEqDiff, Nat.reduceLT, Nat.reduceLeDiff, Nat.reduceAdd, Nat.reduceSub, Nat.reduceMul, Int.reduceToNat, Int.reduceLE, Int.reduceLT, Int.reduceAdd, Int.reduceSub, Int.reduceMul, Int.reduceEq, Int.reduceNeg]
      have g := Option.some.inj h
      subst g
      rw [← hQ]
      exact ⟨_, _, (Ref.std [10] [0] (by decide) low0 rfl (by first | rfl | simp only [go_sem, reduceIte, Nat.reduceEqDiff, Nat.reduceAdd])), hp⟩
theorem cover_glyphs_w (N : Nat) (l_0 : List Int) (a_1 : Int) (c_0 : Bool) (z_1 : List TSpan) (z_2 : Bool) (h : cover_glyphs N l_0 a_1 = some (z_1, z_2)) :
    ACalls Go.Proofs.Try.prog 54 [.vec c_0 (List.map eU8 l_0), .int .i64 a_1] [] (fun e H => H = [] ∧ e = .ret (.tup [.vec false (List.map eTSpan z_1), .bool z_2])) := by
  unfold cover_glyphs at h
  refine ACalls.goN Go.Proofs.Try.func54 n54 a54 Go.Proofs.Try.ntmps54 r54 (by simp) 0 rfl ?_
  generalize hQ : bodyA _ _ _ = QQ
  obtain ⟨⟨y_1, y_2⟩, h_3, h⟩ := bindS h
  try dsimp only at h
  simp only [A54, go_sem, reduceIte, reduceCtorEq, Nat.reduceEqDiff, Nat.reduceLT, Nat.reduceLeDiff, Nat.reduceAdd, Nat.reduceSub, Nat.reduceMul, Int.reduceToNat, Int.reduceLE, Int.reduceLT, Int.reduceAdd, Int.reduceSub, Int.reduceMul, Int.reduceEq, Int.reduceNeg]
  refine ACalls.use0 (octet_U16_w N _ _ _ _ _ h_3) rfl rfl ?_
  refine CallK_go (Nat.zero_le _) ?_
  obtain ⟨⟨y_4, y_5⟩, h_6, h⟩ := bindS h
  try dsimp only at h
  simp only [go_sem, reduceIte, reduceCtorEq, Nat.reduceEqDiff, Nat.reduceLT, Nat.reduceLeDiff, Nat.reduceAdd, Nat.reduceSub, Nat.reduceMul, Int.reduceToNat, Int.reduceLE, Int.reduceLT, Int.reduceAdd, Int.reduceSub, Int.reduceMul, Int.reduceEq, Int.reduceNeg]
  refine ACalls.use0 (octet_Row_w N _ _ _ _ _ _ _ h_6) rfl rfl ?_
  refine CallK_go (Nat.zero_le _) ?_
  simp only [go_sem, reduceIte, reduceCtorEq, Nat.reduceEqDiff, Nat.reduceLT, Nat.reduceLeDiff, Nat.reduceAdd, Nat.reduceSub, Nat.reduceMul, Int.reduceToNat, Int.reduceLE, Int.reduceLT, Int.reduceAdd, Int.reduceSub, Int.reduceMul, Int.reduceEq, Int.reduceNeg]
  by_cases h_7 : y_2 = true
  · rw [if_pos h_7] at h
    have e_8 : y_2 = true := h_7
    simp only [e_8, go_sem, reduceIte, reduceCtorEq, Nat.reduceEqDiff, Nat.reduceLT, Nat.reduceLeDiff, Nat.reduceAdd, Nat.reduceSub, Nat.reduceMul, Int.reduceToNat, Int.reduceLE, Int.reduceLT, Int.reduceAdd, Int.reduceSub, Int.reduceMul, Int.reduceEq, Int.reduceNeg]
    by_cases h_9 : y_5 = true
    · rw [if_pos h_9] at h
      have e_10 : y_5 = true := h_9
      simp only [e_8, e_10, go_sem, reduceIte, reduceCtorEq, Nat.reduceEqDiff, Nat.reduceLT, Nat.reduceLeDiff, Nat.reduceAdd, Nat.reduceSub, Nat.reduceMul, Int.reduceToNat, Int.reduceLE, Int.reduceLT, Int.reduceAdd, Int.reduceSub, Int.reduceMul, Int.reduceEq, Int.reduceNeg]
      obtain ⟨o_1013, h_1011, h⟩ := bindS h
      refine ALp.ref (Ref.trans (Ref.thaw (Nat.zero_le _) 10 rfl (sz := 2) (by decide) 38) (Ref.std [10, 11, 35, 36, 37] [0] (by decide) low0 rfl (by first | rfl | simp only [go_sem, reduceIte, Nat.reduceEqDiff, Nat.reduceAdd]))) (Nat.zero_le _) (cover_glyphs_L1_w N _ N _ _ _ o_1013 h_1011 ?_)
      rcases o_1013 with y_1012 | _
      · try dsimp only at h
        refine LoopK_go rfl (Nat.zero_le _) ?_
        simp only [e_8, e_10, go_sem, reduceIte, reduceCtorEq, Nat.reduceEqDiff, Nat.reduceLT, Nat.reduceLeDiff, Nat.reduceAdd, Nat.reduceSub, Nat.reduceMul, Int.reduceToNat, Int.reduceLE, Int.reduceLT, Int.reduceAdd, Int.reduceSub, Int.reduceMul, Int.reduceEq, Int.reduceNeg]
        have g_0 := Option.some.inj h
        obtain ⟨k_1, g_1⟩ := Prod.mk.inj g_0
        subst k_1
        subst g_1
        rw [← hQ]
        exact ⟨rfl, _, rfl, _, _, (RefV.trans (RefV.frz (Nat.zero_le _) (id := 0) rfl (pures_map y_1012 eTSpan (fun _ => rfl))) (RefV.out (by first | rfl | simp only [go_sem, reduceIte, Nat.reduceEqDiff, Nat.reduceAdd, e_8, e_10]))), rfl, rfl⟩
      · try dsimp only at h
        refine LoopK_ret ?_
        have g_0 := Option.some.inj h
        obtain ⟨k_1, g_1⟩ := Prod.mk.inj g_0
        subst k_1
        subst g_1
        rw [← hQ]
        exact ⟨rfl, _, rfl, _, _, (RefV.trans (RefV.out (v' := .tup [.vec true [], .bool false]) rfl) (RefV.weak (Wks.cons (Wk.tup (Wks.cons Wk.vec (Wks.cons (Wk.refl _) (Wks.nil)))) Wks.nil) (WkH.refl _))), rfl, rfl⟩
    · rw [if_neg h_9] at h
      have e_10 : y_5 = false := bfalse h_9
      simp only [e_8, e_10, go_sem, reduceIte, reduceCtorEq, Nat.reduceEqDiff, Nat.reduceLT, Nat.reduceLeDiff, Nat.reduceAdd, Nat.reduceSub, Nat.reduceMul, Int.reduceToNat, Int.reduceLE, Int.reduceLT, Int.reduceAdd, Int.reduceSub, Int.reduceMul, Int.reduceEq, Int.reduceNeg]
      have g_0 := Option.some.inj h
      obtain ⟨k_1, g_1⟩ := Prod.mk.inj g_0
      subst k_1
      subst g_1
      rw [← hQ]
      exact ⟨rfl, _, rfl, _, _, (RefV.trans (RefV.out (v' := .tup [.vec true [], .bool false]) rfl) (RefV.weak (Wks.cons (Wk.tup (Wks.cons Wk.vec (Wks.cons (Wk.refl _) (Wks.nil)))) Wks.nil) (WkH.refl _))), rfl, rfl⟩
  · rw [if_neg h_7] at h
    have e_8 : y_2 = false := bfalse h_7
    simp only [e_8, go_sem, reduceIte, reduceCtorEq, Nat.reduceEqDiff, Nat.reduceLT, Nat.reduceLeDiff, Nat.reduceAdd, Nat.reduceSub, Nat.reduceMul, Int.reduceToNat, Int.reduceLE, Int.reduceLT, Int.reduceAdd, Int.reduceSub, Int.reduceMul, Int.reduceEq, Int.reduceNeg]
    have g_0 := Option.some.inj h
    obtain ⟨k_1, g_1⟩ := Prod.mk.inj g_0
    subst k_1
    subst g_1
    rw [← hQ]
    exact ⟨rfl, _, rfl, _, _, (RefV.trans (RefV.out (v' := .tup [.vec true [], .bool false]) rfl) (RefV.weak (Wks.cons (Wk.tup (Wks.cons Wk.vec (Wks.cons (Wk.refl _) (Wks.nil)))) Wks.nil) (WkH.refl _))), rfl, rfl⟩
theorem cover_ranges_L1_w (N : Nat) (y_1 : List TArr3_I64) {R : AExit → ATm → List AObj → Prop} : ∀ (n : Nat) (i_6 : Int) (i_7 : Int) (s_8 : List TSpan) (o : ((List TSpan)) ⊕ (Unit)), cover_ranges_L1 N y_1 n i_6 i_7 s_8 = some o → (match o with | .inl z_1 => R (.exit 0) ⟨47, [(8, .row 0 0 z_1.length)], []⟩ [.mem 2 (List.map eTSpan z_1) 38] | .inr (_) => R .ret ⟨47, [(4, .vec true []), (5, .bool false)], []⟩ []) →
    ALp Go.Proofs.Try.prog 0 B55_1 ⟨47, [(8, .row 0 0 s_8.length), (9, .int .i64 i_6), (20, .vec false (List.map eTArr3_I64 y_1)), (21, .int .i64 (y_1.length : Int)), (22, .int .i64 i_7)], []⟩ [.mem 2 (List.map eTSpan s_8) 38] R := by
  intro n
  induction n with
  | zero =>
    intro i_6 i_7 s_8 o h _
    have h0 : none = some o := h
    cases h0
  | succ n ih =>
    intro i_6 i_7 s_8 o h hp
    rw [cover_ranges_L1] at h
    refine ALp.round ?_
    generalize hQ : RoundQ _ _ _ _ = QQ
    simp only [B55_1, A55, go_sem, reduceIte, reduceCtorEq, Nat.reduceEqDiff, Nat.reduceLT, Nat.reduceLeDiff, Nat.reduceAdd, Nat.reduceSub, Nat.reduceMul, Int.reduceToNat, Int.reduceLE, Int.reduceLT, Int.reduceAdd, Int.reduceSub, Int.reduceMul, Int.reduceEq, Int.reduceNeg]
    by_cases h_9 : i_7 < (y_1.length : Int)
    · rw [if_pos h_9] at h
      have e_10 : (i_7 < (y_1.length : Int)) = True := eq_true h_9
      obtain ⟨x_11, h_12, h⟩ := bindS h
      have e_13 : (List.map eTArr3_I64 y_1)[(i_7).toNat]? = some [.int .i64 x_11.e0, .int .i64 x_11.e1, .int .i64 x_11.e2] := atI_map eTArr3_I64 h_12
      have e_14 : ((0 : Int) ≤ i_7) = True := eq_true (atI_some h_12).1
      have e_15 : ((i_7 : Int) < (y_1.length : Int)) = True := eq_true (atI_lt h_12)
      simp only [e_10, e_13, e_14, e_15, go_sem, reduceIte, reduceCtorEq, Nat.reduceEqDiff, Nat.reduceLT, Nat.reduceLeDiff, Nat.reduceAdd, Nat.reduceSub, Nat.reduceMul, Int.reduceToNat, Int.reduceLE, Int.reduceLT, Int.reduceAdd, Int.reduceSub, Int.reduceMul, Int.reduceEq, Int.reduceNeg]
      by_cases h_16 : x_11.e2 = i_6
      · rw [if_pos h_16] at h
        have e_17 : (x_11.e2 = i_6) = True := eq_true h_16
        obtain ⟨y_18, h_19, h⟩ := bindS h
        simp only [e_10, e_13, e_14, e_15, e_17, go_sem, reduceIte, reduceCtorEq, Nat.reduceEqDiff, Nat.reduceLT, Nat.reduceLeDiff, Nat.reduceAdd, Nat.reduceSub, Nat.reduceMul, Int.reduceToNat, Int.reduceLE, Int.reduceLT, Int.reduceAdd, Int.reduceSub, Int.reduceMul, Int.reduceEq, Int.reduceNeg]
        refine ACalls.use (cover_joined_row_w N _ _ _ _ h_19) [0] (by decide) ⟨(by first | rfl | simp only [go_sem, reduceIte, Nat.reduceEqDiff, Nat.reduceAdd, e_10, e_17]), trivial⟩ rfl (v' := .row 2 0 y_18.length) (by first | rfl | simp only [go_sem, reduceIte, Nat.reduceEqDiff, Nat.reduceAdd, e_10, e_17]) (H' := [.dead, .box [.int .i64 x_11.e0, .int .i64 x_11.e1, .int .i64 x_11.e2] 97, .mem 2 (List.map eTSpan y_18) 38]) (by first | rfl | simp only [go_sem, reduceIte, Nat.reduceEqDiff, Nat.reduceAdd, e_10, e_17]) ?_
        refine CallK_go (Nat.zero_le _) ?_
        simp only [e_10, e_13, e_14, e_15, e_17, go_sem, reduceIte, reduceCtorEq, Nat.reduceEqDiff, Nat.reduceLT, Nat.reduceLeDiff, Nat.reduceAdd, Nat.reduceSub, Nat.reduceMul, Int.reduceToNat, Int.reduceLE, Int.reduceLT, Int.reduceAdd, Int.reduceSub, Int.reduceMul, Int.reduceEq, Int.reduceNeg]
        rw [← hQ]
        exact ⟨_, _, (Ref.std [8, 9, 20, 21, 22] [2] (by decide) low0 rfl (by first | rfl | simp only [go_sem, reduceIte, Nat.reduceEqDiff, Nat.reduceAdd])), (Nat.zero_le _), ih _ _ _ _ h hp⟩
      · rw [if_neg h_16] at h
        have e_17 : (x_11.e2 = i_6) = False := eq_false h_16
        simp only [e_10, e_13, e_14, e_15, e_17, go_sem, reduceIte, reduceCtorEq, Nat.reduceEqDiff, Nat.reduceLT, Nat.reduceLeDiff, Nat.reduceAdd, Nat.reduceSub, Nat.reduceMul, Int.reduceToNat, Int.reduceLE, Int.reduceLT, Int.reduceAdd, Int.reduceSub, Int.reduceMul, Int.reduceEq, Int.reduceNeg]
        have g := Option.some.inj h
        subst g
        rw [← hQ]
        exact ⟨_, _, (Ref.out [4, 5] rfl), hp⟩
    · rw [if_neg h_9] at h
      have e_10 : (i_7 < (y_1.length : Int)) = False := eq_false h_9
      simp only [e_10, go_sem, reduceIte, reduceCtorEq, Nat.reduceEqDiff, Nat.reduceLT, Nat.reduceLeDiff, Nat.reduceAdd, Nat.reduceSub, Nat.reduceMul, Int.reduceToNat, Int.reduceLE, Int.reduceLT, Int.reduceAdd, Int.reduceSub, Int.reduceMul, Int.reduceEq, Int.reduceNeg]
      have g := Option.some.inj h
      subst g
      rw [← hQ]
      exact ⟨_, _, (Ref.std [8] [0] (by decide) low0 rfl (by first | rfl | simp only [go_sem, reduceIte, Nat.reduceEqDiff, Nat.reduceAdd])), hp⟩
theorem cover_ranges_w (N : Nat) (l_0 : List Int) (a_1 : Int) (c_0 : Bool) (z_1 : List TSpan) (z_2 : Bool) (h : cover_ranges N l_0 a_1 = some (z_1, z_2)) :
    ACalls Go.Proofs.Try.prog 55 [.vec c_0 (List.map eU8 l_0), .int .i64 a_1] [] (fun e H => H = [] ∧ e = .ret (.tup [.vec false (List.map eTSpan z_1), .bool z_2])) := by
  unfold cover_ranges at h
  refine ACalls.goN Go.Proofs.Try.func55 n55 a55 Go.Proofs.Try.ntmps55 r55 (by simp) 0 rfl ?_
  generalize hQ : bodyA _ _ _ = QQ
  obtain ⟨⟨y_1, y_2⟩, h_3, h⟩ := bindS h
  try dsimp only at h
  simp only [A55, go_sem, reduceIte, reduceCtorEq, Nat.reduceEqDiff, Nat.reduceLT, Nat.reduceLeDiff, Nat.reduceAdd, Nat.reduceSub, Nat.reduceMul, Int.reduceToNat, Int.reduceLE, Int.reduceLT, Int.reduceAdd, Int.reduceSub, Int.reduceMul, Int.reduceEq, Int.reduceNeg]
  refine ACalls.use0 (cover_triples_w N _ _ _ _ _ h_3) rfl rfl ?_
  refine CallK_go (Nat.zero_le _) ?_
  simp only [go_sem, reduceIte, reduceCtorEq, Nat.reduceEqDiff, Nat.reduceLT, Nat.reduceLeDiff, Nat.reduceAdd, Nat.reduceSub, Nat.reduceMul, Int.reduceToNat, Int.reduceLE, Int.reduceLT, Int.reduceAdd, Int.reduceSub, Int.reduceMul, Int.reduceEq, Int.reduceNeg]
  by_cases h_4 : y_2 = true
  · rw [if_pos h_4] at h
    have e_5 : y_2 = true := h_4
    simp only [e_5, go_sem, reduceIte, reduceCtorEq, Nat.reduceEqDiff, Nat.reduceLT, Nat.reduceLeDiff, Nat.reduceAdd, Nat.reduceSub, Nat.reduceMul, Int.reduceToNat, Int.reduceLE, Int.reduceLT, Int.reduceAdd, Int.reduceSub, Int.reduceMul, Int.reduceEq, Int.reduceNeg]
    obtain ⟨o_1008, h_1006, h⟩ := bindS h
    refine ALp.ref (Ref.trans (Ref.thaw (Nat.zero_le _) 8 rfl (sz := 2) (by decide) 38) (Ref.std [8, 9, 20, 21, 22] [0] (by decide) low0 rfl (by first | rfl | simp only [go_sem, reduceIte, Nat.reduceEqDiff, Nat.reduceAdd]))) (Nat.zero_le _) (cover_ranges_L1_w N _ N _ _ _ o_1008 h_1006 ?_)
    rcases o_1008 with y_1007 | _
    · try dsimp only at h
      refine LoopK_go rfl (Nat.zero_le _) ?_
      simp only [e_5, go_sem, reduceIte, reduceCtorEq, Nat.reduceEqDiff, Nat.reduceLT, Nat.reduceLeDiff, Nat.reduceAdd, Nat.reduceSub, Nat.reduceMul, Int.reduceToNat, Int.reduceLE, Int.reduceLT, Int.reduceAdd, Int.reduceSub, Int.reduceMul, Int.reduceEq, Int.reduceNeg]
      have g_0 := Option.some.inj h
      obtain ⟨k_1, g_1⟩ := Prod.mk.inj g_0
      subst k_1
      subst g_1
      rw [← hQ]
      exact ⟨rfl, _, rfl, _, _, (RefV.trans (RefV.frz (Nat.zero_le _) (id := 0) rfl (pures_map y_1007 eTSpan (fun _ => rfl))) (RefV.out (by first | rfl | simp only [go_sem, reduceIte, Nat.reduceEqDiff, Nat.reduceAdd, e_5]))), rfl, rfl⟩
    · try dsimp only at h
      refine LoopK_ret ?_
      have g_0 := Option.some.inj h
      obtain ⟨k_1, g_1⟩ := Prod.mk.inj g_0
      subst k_1
      subst g_1
      rw [← hQ]
      exact ⟨rfl, _, rfl, _, _, (RefV.trans (RefV.out (v' := .tup [.vec true [], .bool false]) rfl) (RefV.weak (Wks.cons (Wk.tup (Wks.cons Wk.vec (Wks.cons (Wk.refl _) (Wks.nil)))) Wks.nil) (WkH.refl _))), rfl, rfl⟩
  · rw [if_neg h_4] at h
    have e_5 : y_2 = false := bfalse h_4
    simp only [e_5, go_sem, reduceIte, reduceCtorEq, Nat.reduceEqDiff, Nat.reduceLT, Nat.reduceLeDiff, Nat.reduceAdd, Nat.reduceSub, Nat.reduceMul, Int.reduceToNat, Int.reduceLE, Int.reduceLT, Int.reduceAdd, Int.reduceSub, Int.reduceMul, Int.reduceEq, Int.reduceNeg]
    have g_0 := Option.some.inj h
    obtain ⟨k_1, g_1⟩ := Prod.mk.inj g_0
    subst k_1
    subst g_1
    rw [← hQ]
    exact ⟨rfl, _, rfl, _, _, (RefV.trans (RefV.out (v' := .tup [.vec true [], .bool false]) rfl) (RefV.weak (Wks.cons (Wk.tup (Wks.cons Wk.vec (Wks.cons (Wk.refl _) (Wks.nil)))) Wks.nil) (WkH.refl _))), rfl, rfl⟩
theorem cover_Cover_w (N : Nat) (l_0 : List Int) (a_1 : Int) (c_0 : Bool) (z_1 : List TSpan) (z_2 : Bool) (h : cover_Cover N l_0 a_1 = some (z_1, z_2)) :
    ACalls Go.Proofs.Try.prog 18 [.vec c_0 (List.map eU8 l_0), .int .i64 a_1] [] (fun e H => H = [] ∧ e = .ret (.tup [.vec false (List.map eTSpan z_1), .bool z_2])) := by
  unfold cover_Cover at h
  refine ACalls.goN Go.Proofs.Try.func18 n18 a18 Go.Proofs.Try.ntmps18 r18 (by simp) 0 rfl ?_
  generalize hQ : bodyA _ _ _ = QQ
  obtain ⟨y_1, h_2, h⟩ := bindS h
  simp only [A18, go_sem, reduceIte, reduceCtorEq, Nat.reduceEqDiff, Nat.reduceLT, Nat.reduceLeDiff, Nat.reduceAdd, Nat.reduceSub, Nat.reduceMul, Int.reduceToNat, Int.reduceLE, Int.reduceLT, Int.reduceAdd, Int.reduceSub, Int.reduceMul, Int.reduceEq, Int.reduceNeg]
  refine ACalls.use0 (cover_format_w N _ _ _ _ h_2) rfl rfl ?_
  refine CallK_go (Nat.zero_le _) ?_
  simp only [go_sem, reduceIte, reduceCtorEq, Nat.reduceEqDiff, Nat.reduceLT, Nat.reduceLeDiff, Nat.reduceAdd, Nat.reduceSub, Nat.reduceMul, Int.reduceToNat, Int.reduceLE, Int.reduceLT, Int.reduceAdd, Int.reduceSub, Int.reduceMul, Int.reduceEq, Int.reduceNeg]
  by_cases h_3 : y_1 = 1
  · rw [if_pos h_3] at h
    have e_4 : (y_1 = 1) = True := eq_true h_3
    obtain ⟨⟨y_5, y_6⟩, h_7, h⟩ := bindS h
    try dsimp only at h
    simp only [e_4, go_sem, reduceIte, reduceCtorEq, Nat.reduceEqDiff, Nat.reduceLT, Nat.reduceLeDiff, Nat.reduceAdd, Nat.reduceSub, Nat.reduceMul, Int.reduceToNat, Int.reduceLE, Int.reduceLT, Int.reduceAdd, Int.reduceSub, Int.reduceMul, Int.reduceEq, Int.reduceNeg]
    refine ACalls.use0 (cover_glyphs_w N _ _ _ _ _ h_7) rfl rfl ?_
    refine CallK_go (Nat.zero_le _) ?_
    simp only [e_4, go_sem, reduceIte, reduceCtorEq, Nat.reduceEqDiff, Nat.reduceLT, Nat.reduceLeDiff, Nat.reduceAdd, Nat.reduceSub, Nat.reduceMul, Int.reduceToNat, Int.reduceLE, Int.reduceLT, Int.reduceAdd, Int.reduceSub, Int.reduceMul, Int.reduceEq, Int.reduceNeg]
    have g_0 := Option.some.inj h
    obtain ⟨k_1, g_1⟩ := Prod.mk.inj g_0
    subst k_1
    subst g_1
    rw [← hQ]
    exact ⟨rfl, _, rfl, _, _, (RefV.out (by first | rfl | simp only [go_sem, reduceIte, Nat.reduceEqDiff, Nat.reduceAdd, e_4])), rfl, rfl⟩
  · rw [if_neg h_3] at h
    have e_4 : (y_1 = 1) = False := eq_false h_3
    simp only [e_4, go_sem, reduceIte, reduceCtorEq, Nat.reduceEqDiff, Nat.reduceLT, Nat.reduceLeDiff, Nat.reduceAdd, Nat.reduceSub, Nat.reduceMul, Int.reduceToNat, Int.reduceLE, Int.reduceLT, Int.reduceAdd, Int.reduceSub, Int.reduceMul, Int.reduceEq, Int.reduceNeg]
    by_cases h_8 : y_1 = 2
    · rw [if_pos h_8] at h
      have e_9 : (y_1 = 2) = True := eq_true h_8
      obtain ⟨⟨y_10, y_11⟩, h_12, h⟩ := bindS h
      try dsimp only at h
      simp only [e_4, e_9, go_sem, reduceIte, reduceCtorEq, Nat.reduceEqDiff, Nat.reduceLT, Nat.reduceLeDiff, Nat.reduceAdd, Nat.reduceSub, Nat.reduceMul, Int.reduceToNat, Int.reduceLE, Int.reduceLT, Int.reduceAdd, Int.reduceSub, Int.reduceMul, Int.reduceEq, Int.reduceNeg]
      refine ACalls.use0 (cover_ranges_w N _ _ _ _ _ h_12) rfl rfl ?_
      refine CallK_go (Nat.zero_le _) ?_
      simp only [e_4, e_9, go_sem, reduceIte, reduceCtorEq, Nat.reduceEqDiff, Nat.reduceLT, Nat.reduceLeDiff, Nat.reduceAdd, Nat.reduceSub, Nat.reduceMul, Int.reduceToNat, Int.reduceLE, Int.reduceLT, Int.reduceAdd, Int.reduceSub, Int.reduceMul, Int.reduceEq, Int.reduceNeg]
      have g_0 := Option.some.inj h
      obtain ⟨k_1, g_1⟩ := Prod.mk.inj g_0
      subst k_1
      subst g_1
      rw [← hQ]
      exact ⟨rfl, _, rfl, _, _, (RefV.out (by first | rfl | simp only [go_sem, reduceIte, Nat.reduceEqDiff, Nat.reduceAdd, e_4, e_9])), rfl, rfl⟩
    · rw [if_neg h_8] at h
      have e_9 : (y_1 = 2) = False := eq_false h_8
      simp only [e_4, e_9, go_sem, reduceIte, reduceCtorEq, Nat.reduceEqDiff, Nat.reduceLT, Nat.reduceLeDiff, Nat.reduceAdd, Nat.reduceSub, Nat.reduceMul, Int.reduceToNat, Int.reduceLE, Int.reduceLT, Int.reduceAdd, Int.reduceSub, Int.reduceMul, Int.reduceEq, Int.reduceNeg]
      have g_0 := Option.some.inj h
      obtain ⟨k_1, g_1⟩ := Prod.mk.inj g_0
      subst k_1
      subst g_1
      rw [← hQ]
      exact ⟨rfl, _, rfl, _, _, (RefV.trans (RefV.out (v' := .tup [.vec true [], .bool false]) rfl) (RefV.weak (Wks.cons (Wk.tup (Wks.cons Wk.vec (Wks.cons (Wk.refl _) (Wks.nil)))) Wks.nil) (WkH.refl _))), rfl, rfl⟩
theorem gdef_sets_L1_w (N : Nat) (l_0 : List Int) (a_1 : Int) (y_1 : Int) (y_14 : List Int) (c_0 : Bool) {R : AExit → ATm → List AObj → Prop} : ∀ (n : Nat) (i_23 : Int) (s_24 : List (List TSpan)) (o : ((List (List TSpan))) ⊕ (Unit)), gdef_sets_L1 N l_0 a_1 y_1 y_14 n i_23 s_24 = some o → (match o with | .inl z_1 => R (.exit 0) ⟨94, [(16, .row 0 0 z_1.length)], []⟩ [.mem 1 (List.map eLTSpan z_1) 24] | .inr (_) => R .ret ⟨94, [(6, .vec true []), (7, .bool false)], []⟩ []) →
    ALp Go.Proofs.Try.prog 0 B73_1 ⟨94, [(0, .vec c_0 (List.map eU8 l_0)), (1, .int .i64 (IntKind.i64.wrap (a_1 + y_1))), (16, .row 0 0 s_24.length), (68, .vec false (List.map eI64 y_14)), (69, .int .i64 (y_14.length : Int)), (70, .int .i64 i_23)], []⟩ [.mem 1 (List.map eLTSpan s_24) 24] R := by
  intro n
  induction n with
  | zero =>
    intro i_23 s_24 o h _
    have h0 : none = some o := h
    cases h0
  | succ n ih =>
    intro i_23 s_24 o h hp
    rw [gdef_sets_L1] at h
    refine ALp.round ?_
    generalize hQ : RoundQ _ _ _ _ = QQ
    simp only [B73_1, A73, go_sem, reduceIte, reduceCtorEq, Nat.reduceEqDiff, Nat.reduceLT, Nat.reduceLeDiff, Nat.reduceAdd, Nat.reduceSub, Nat.reduceMul, Int.reduceToNat, Int.reduceLE, Int.reduceLT, Int.reduceAdd, Int.reduceSub, Int.reduceMul, Int.reduceEq, Int.reduceNeg]
    by_cases h_25 : i_23 < (y_14.length : Int)
    · rw [if_pos h_25] at h
      have e_26 : (i_23 < (y_14.length : Int)) = True := eq_true h_25
      obtain ⟨x_27, h_28, h⟩ := bindS h
      have e_29 : (List.map eI64 y_14)[(i_23).toNat]? = some [.int .i64 x_27] := atI_map eI64 h_28
      have e_30 : ((0 : Int) ≤ i_23) = True := eq_true (atI_some h_28).1
      have e_31 : ((i_23 : Int) < (y_14.length : Int)) = True := eq_true (atI_lt h_28)
      simp only [e_26, e_29, e_30, e_31, go_sem, reduceIte, reduceCtorEq, Nat.reduceEqDiff, Nat.reduceLT, Nat.reduceLeDiff, Nat.reduceAdd, Nat.reduceSub, Nat.reduceMul, Int.reduceToNat, Int.reduceLE, Int.reduceLT, Int.reduceAdd, Int.reduceSub, Int.reduceMul, Int.reduceEq, Int.reduceNeg]
      by_cases h_32 : (l_0.length : Int) < x_27
      · rw [if_pos h_32] at h
        have e_33 : ((l_0.length : Int) < x_27) = True := eq_true h_32
        simp only [e_26, e_29, e_30, e_31, e_33, go_sem, reduceIte, reduceCtorEq, Nat.reduceEqDiff, Nat.reduceLT, Nat.reduceLeDiff, Nat.reduceAdd, Nat.reduceSub, Nat.reduceMul, Int.reduceToNat, Int.reduceLE, Int.reduceLT, Int.reduceAdd, Int.reduceSub, Int.reduceMul, Int.reduceEq, Int.reduceNeg]
        have g := Option.some.inj h
        subst g
        rw [← hQ]
        exact ⟨_, _, (Ref.out [6, 7] rfl), hp⟩
      · rw [if_neg h_32] at h
        have e_33 : ((l_0.length : Int) < x_27) = False := eq_false h_32
        obtain ⟨⟨y_34, y_35⟩, h_36, h⟩ := bindS h
        try dsimp only at h
        simp only [e_26, e_29, e_30, e_31, e_33, go_sem, reduceIte, reduceCtorEq, Nat.reduceEqDiff, Nat.reduceLT, Nat.reduceLeDiff, Nat.reduceAdd, Nat.reduceSub, Nat.reduceMul, Int.reduceToNat, Int.reduceLE, Int.reduceLT, Int.reduceAdd, Int.reduceSub, Int.reduceMul, Int.reduceEq, Int.reduceNeg]
        refine ACalls.use0 (cover_Cover_w N _ _ _ _ _ h_36) rfl rfl ?_
        refine CallK_go (Nat.zero_le _) ?_
        simp only [e_26, e_29, e_30, e_31, e_33, go_sem, reduceIte, reduceCtorEq, Nat.reduceEqDiff, Nat.reduceLT, Nat.reduceLeDiff, Nat.reduceAdd, Nat.reduceSub, Nat.reduceMul, Int.reduceToNat, Int.reduceLE, Int.reduceLT, Int.reduceAdd, Int.reduceSub, Int.reduceMul, Int.reduceEq, Int.reduceNeg]
        by_cases h_37 : y_35 = true
        · rw [if_pos h_37] at h
          have e_38 : y_35 = true := h_37
          have e_39 : List.take s_24.length (List.map eLTSpan s_24) = (List.map eLTSpan s_24) := List.take_of_length_le (by simp)
          have e_40 : (List.map eLTSpan s_24) ++ [[.vec false (List.map eTSpan y_34)]] = (List.map eLTSpan (s_24 ++ [y_34])) := app_map s_24 ([y_34]) eLTSpan
          obtain ⟨h_41, h⟩ := guardS h
          have e_42 : ((s_24.length + 1) * 24 ≤ 140737488355328) = True := eq_true h_41
          simp only [e_26, e_29, e_30, e_31, e_33, e_38, e_39, e_40, e_42, go_sem, reduceIte, reduceCtorEq, Nat.reduceEqDiff, Nat.reduceLT, Nat.reduceLeDiff, Nat.reduceAdd, Nat.reduceSub, Nat.reduceMul, Int.reduceToNat, Int.reduceLE, Int.reduceLT, Int.reduceAdd, Int.reduceSub, Int.reduceMul, Int.reduceEq, Int.reduceNeg]
          rw [← hQ]
          exact ⟨_, _, (Ref.std [0, 1, 16, 68, 69, 70] [1] (by decide) low0 (by first | rfl | simp only [go_sem, reduceIte, Nat.reduceEqDiff, Nat.reduceAdd]) (by first | rfl | simp only [go_sem, reduceIte, Nat.reduceEqDiff, Nat.reduceAdd])), (Nat.zero_le _), ih _ _ _ h hp⟩
        · rw [if_neg h_37] at h
          have e_38 : y_35 = false := bfalse h_37
          simp only [e_26, e_29, e_30, e_31, e_33, e_38, go_sem, reduceIte, reduceCtorEq, Nat.reduceEqDiff, Nat.reduceLT, Nat.reduceLeDiff, Nat.reduceAdd, Nat.reduceSub, Nat.reduceMul, Int.reduceToNat, Int.reduceLE, Int.reduceLT, Int.reduceAdd, Int.reduceSub, Int.reduceMul, Int.reduceEq, Int.reduceNeg]
          have g := Option.some.inj h
          subst g
          rw [← hQ]
          exact ⟨_, _, (Ref.out [6, 7] rfl), hp⟩
    · rw [if_neg h_25] at h
      have e_26 : (i_23 < (y_14.length : Int)) = False := eq_false h_25
      simp only [e_26, go_sem, reduceIte, reduceCtorEq, Nat.reduceEqDiff, Nat.reduceLT, Nat.reduceLeDiff, Nat.reduceAdd, Nat.reduceSub, Nat.reduceMul, Int.reduceToNat, Int.reduceLE, Int.reduceLT, Int.reduceAdd, Int.reduceSub, Int.reduceMul, Int.reduceEq, Int.reduceNeg]
      have g := Option.some.inj h
      subst g
      rw [← hQ]
      exact ⟨_, _, (Ref.std [16] [0] (by decide) low0 rfl (by first | rfl | simp only [go_sem, reduceIte, Nat.reduceEqDiff, Nat.reduceAdd])), hp⟩
theorem gdef_sets_w (N : Nat) (l_0 : List Int) (a_1 : Int) (a_2 : Int) (c_0 : Bool) (z_1 : List (List TSpan)) (z_2 : Bool) (h : gdef_sets N l_0 a_1 a_2 = some (z_1, z_2)) :
    ACalls Go.Proofs.Try.prog 73 [.vec c_0 (List.map eU8 l_0), .int .i64 a_1, .int .i64 a_2] [] (fun e H => H = [] ∧ e = .ret (.tup [.vec false (List.map eLTSpan z_1), .bool z_2])) := by
  unfold gdef_sets at h
  refine ACalls.goN Go.Proofs.Try.func73 n73 a73 Go.Proofs.Try.ntmps73 r73 (by simp) 0 rfl ?_
  generalize hQ : bodyA _ _ _ = QQ
  obtain ⟨⟨y_1, y_2⟩, h_3, h⟩ := bindS h
  try dsimp only at h
  simp only [A73, go_sem, reduceIte, reduceCtorEq, Nat.reduceEqDiff, Nat.reduceLT, Nat.reduceLeDiff, Nat.reduceAdd, Nat.reduceSub, Nat.reduceMul, Int.reduceToNat, Int.reduceLE, Int.reduceLT, Int.reduceAdd, Int.reduceSub, Int.reduceMul, Int.reduceEq, Int.reduceNeg]
  refine ACalls.use0 (octet_U16_w N _ _ _ _ _ h_3) rfl rfl ?_
  refine CallK_go (Nat.zero_le _) ?_
  simp only [go_sem, reduceIte, reduceCtorEq, Nat.reduceEqDiff, Nat.reduceLT, Nat.reduceLeDiff, Nat.reduceAdd, Nat.reduceSub, Nat.reduceMul, Int.reduceToNat, Int.reduceLE, Int.reduceLT, Int.reduceAdd, Int.reduceSub, Int.reduceMul, Int.reduceEq, Int.reduceNeg]
  by_cases h_4 : y_2 = true
  · rw [if_pos h_4] at h
    have e_5 : y_2 = true := h_4
    simp only [e_5, go_sem, reduceIte, reduceCtorEq, Nat.reduceEqDiff, Nat.reduceLT, Nat.reduceLeDiff, Nat.reduceAdd, Nat.reduceSub, Nat.reduceMul, Int.reduceToNat, Int.reduceLE, Int.reduceLT, Int.reduceAdd, Int.reduceSub, Int.reduceMul, Int.reduceEq, Int.reduceNeg]
    by_cases h_6 : y_1 = 0
    · rw [if_pos h_6] at h
      have e_7 : (y_1 = 0) = True := eq_true h_6
      simp only [e_5, e_7, go_sem, reduceIte, reduceCtorEq, Nat.reduceEqDiff, Nat.reduceLT, Nat.reduceLeDiff, Nat.reduceAdd, Nat.reduceSub, Nat.reduceMul, Int.reduceToNat, Int.reduceLE, Int.reduceLT, Int.reduceAdd, Int.reduceSub, Int.reduceMul, Int.reduceEq, Int.reduceNeg]
      have g_0 := Option.some.inj h
      obtain ⟨k_1, g_1⟩ := Prod.mk.inj g_0
      subst k_1
      subst g_1
      rw [← hQ]
      exact ⟨rfl, _, rfl, _, _, (RefV.trans (RefV.out (v' := .tup [.vec true [], .bool y_2]) (by first | rfl | simp only [go_sem, reduceIte, Nat.reduceEqDiff, Nat.reduceAdd, e_5, e_7])) (RefV.weak (Wks.cons (Wk.tup (Wks.cons Wk.vec (Wks.cons (Wk.refl _) (Wks.nil)))) Wks.nil) (WkH.refl _))), rfl, rfl⟩
    · rw [if_neg h_6] at h
      have e_7 : (y_1 = 0) = False := eq_false h_6
      obtain ⟨⟨y_8, y_9⟩, h_10, h⟩ := bindS h
      try dsimp only at h
      simp only [e_5, e_7, go_sem, reduceIte, reduceCtorEq, Nat.reduceEqDiff, Nat.reduceLT, Nat.reduceLeDiff, Nat.reduceAdd, Nat.reduceSub, Nat.reduceMul, Int.reduceToNat, Int.reduceLE, Int.reduceLT, Int.reduceAdd, Int.reduceSub, Int.reduceMul, Int.reduceEq, Int.reduceNeg]
      refine ACalls.use0 (octet_U16_w N _ _ _ _ _ h_10) rfl rfl ?_
      refine CallK_go (Nat.zero_le _) ?_
      obtain ⟨⟨y_11, y_12⟩, h_13, h⟩ := bindS h
      try dsimp only at h
      simp only [e_5, e_7, go_sem, reduceIte, reduceCtorEq, Nat.reduceEqDiff, Nat.reduceLT, Nat.reduceLeDiff, Nat.reduceAdd, Nat.reduceSub, Nat.reduceMul, Int.reduceToNat, Int.reduceLE, Int.reduceLT, Int.reduceAdd, Int.reduceSub, Int.reduceMul, Int.reduceEq, Int.reduceNeg]
      refine ACalls.use0 (octet_U16_w N _ _ _ _ _ h_13) rfl rfl ?_
      refine CallK_go (Nat.zero_le _) ?_
      obtain ⟨⟨y_14, y_15⟩, h_16, h⟩ := bindS h
      try dsimp only at h
      simp only [e_5, e_7, go_sem, reduceIte, reduceCtorEq, Nat.reduceEqDiff, Nat.reduceLT, Nat.reduceLeDiff, Nat.reduceAdd, Nat.reduceSub, Nat.reduceMul, Int.reduceToNat, Int.reduceLE, Int.reduceLT, Int.reduceAdd, Int.reduceSub, Int.reduceMul, Int.reduceEq, Int.reduceNeg]
      refine ACalls.use0 (octet_Row_w N _ _ _ _ _ _ _ h_16) rfl rfl ?_
      refine CallK_go (Nat.zero_le _) ?_
      simp only [e_5, e_7, go_sem, reduceIte, reduceCtorEq, Nat.reduceEqDiff, Nat.reduceLT, Nat.reduceLeDiff, Nat.reduceAdd, Nat.reduceSub, Nat.reduceMul, Int.reduceToNat, Int.reduceLE, Int.reduceLT, Int.reduceAdd, Int.reduceSub, Int.reduceMul, Int.reduceEq, Int.reduceNeg]
      by_cases h_17 : y_8 = 1
      · rw [if_pos h_17] at h
        have e_18 : (y_8 = 1) = True := eq_true h_17
        simp only [e_5, e_7, e_18, go_sem, reduceIte, reduceCtorEq, Nat.reduceEqDiff, Nat.reduceLT, Nat.reduceLeDiff, Nat.reduceAdd, Nat.reduceSub, Nat.reduceMul, Int.reduceToNat, Int.reduceLE, Int.reduceLT, Int.reduceAdd, Int.reduceSub, Int.reduceMul, Int.reduceEq, Int.reduceNeg]
        by_cases h_19 : 64 < y_11
        · rw [if_pos h_19] at h
          have e_20 : (64 < y_11) = True := eq_true h_19
          simp only [e_5, e_7, e_18, e_20, go_sem, reduceIte, reduceCtorEq, Nat.reduceEqDiff, Nat.reduceLT, Nat.reduceLeDiff, Nat.reduceAdd, Nat.reduceSub, Nat.reduceMul, Int.reduceToNat, Int.reduceLE, Int.reduceLT, Int.reduceAdd, Int.reduceSub, Int.reduceMul, Int.reduceEq, Int.reduceNeg]
          have g_0 := Option.some.inj h
          obtain ⟨k_1, g_1⟩ := Prod.mk.inj g_0
          subst k_1
          subst g_1
          rw [← hQ]
          exact ⟨rfl, _, rfl, _, _, (RefV.trans (RefV.out (v' := .tup [.vec true [], .bool false]) rfl) (RefV.weak (Wks.cons (Wk.tup (Wks.cons Wk.vec (Wks.cons (Wk.refl _) (Wks.nil)))) Wks.nil) (WkH.refl _))), rfl, rfl⟩
        · rw [if_neg h_19] at h
          have e_20 : (64 < y_11) = False := eq_false h_19
          simp only [e_5, e_7, e_18, e_20, go_sem, reduceIte, reduceCtorEq, Nat.reduceEqDiff, Nat.reduceLT, Nat.reduceLeDiff, Nat.reduceAdd, Nat.reduceSub, Nat.reduceMul, Int.reduceToNat, Int.reduceLE, Int.reduceLT, Int.reduceAdd, Int.reduceSub, Int.reduceMul, Int.reduceEq, Int.reduceNeg]
          by_cases h_21 : y_15 = true
          · rw [if_pos h_21] at h
            have e_22 : y_15 = true := h_21
            simp only [e_5, e_7, e_18, e_20, e_22, go_sem, reduceIte, reduceCtorEq, Nat.reduceEqDiff, Nat.reduceLT, Nat.reduceLeDiff, Nat.reduceAdd, Nat.reduceSub, Nat.reduceMul, Int.reduceToNat, Int.reduceLE, Int.reduceLT, Int.reduceAdd, Int.reduceSub, Int.reduceMul, Int.reduceEq, Int.reduceNeg]
            obtain ⟨o_1025, h_1023, h⟩ := bindS h
            refine ALp.ref (Ref.trans (Ref.thaw (Nat.zero_le _) 16 rfl (sz := 1) (by decide) 24) (Ref.std [0, 1, 16, 68, 69, 70] [0] (by decide) low0 rfl (by first | rfl | simp only [go_sem, reduceIte, Nat.reduceEqDiff, Nat.reduceAdd]))) (Nat.zero_le _) (gdef_sets_L1_w N _ _ _ _ c_0 N _ _ o_1025 h_1023 ?_)
            rcases o_1025 with y_1024 | _
            · try dsimp only at h
              refine LoopK_go rfl (Nat.zero_le _) ?_
              simp only [e_5, e_7, e_18, e_20, e_22, go_sem, reduceIte, reduceCtorEq, Nat.reduceEqDiff, Nat.reduceLT, Nat.reduceLeDiff, Nat.reduceAdd, Nat.reduceSub, Nat.reduceMul, Int.reduceToNat, Int.reduceLE, Int.reduceLT, Int.reduceAdd, Int.reduceSub, Int.reduceMul, Int.reduceEq, Int.reduceNeg]
              have g_0 := Option.some.inj h
              obtain ⟨k_1, g_1⟩ := Prod.mk.inj g_0
              subst k_1
              subst g_1
              rw [← hQ]
              exact ⟨rfl, _, rfl, _, _, (RefV.trans (RefV.frz (Nat.zero_le _) (id := 0) rfl (pures_map y_1024 eLTSpan (fun _ => rfl))) (RefV.out (by first | rfl | simp only [go_sem, reduceIte, Nat.reduceEqDiff, Nat.reduceAdd, e_5, e_7, e_18, e_20, e_22]))), rfl, rfl⟩
            · try dsimp only at h
              refine LoopK_ret ?_
              have g_0 := Option.some.inj h
              obtain ⟨k_1, g_1⟩ := Prod.mk.inj g_0
              subst k_1
              subst g_1
              rw [← hQ]
              exact ⟨rfl, _, rfl, _, _, (RefV.trans (RefV.out (v' := .tup [.vec true [], .bool false]) rfl) (RefV.weak (Wks.cons (Wk.tup (Wks.cons Wk.vec (Wks.cons (Wk.refl _) (Wks.nil)))) Wks.nil) (WkH.refl _))), rfl, rfl⟩
          · rw [if_neg h_21] at h
            have e_22 : y_15 = false := bfalse h_21
            simp only [e_5, e_7, e_18, e_20, e_22, go_sem, reduceIte, reduceCtorEq, Nat.reduceEqDiff, Nat.reduceLT, Nat.reduceLeDiff, Nat.reduceAdd, Nat.reduceSub, Nat.reduceMul, Int.reduceToNat, Int.reduceLE, Int.reduceLT, Int.reduceAdd, Int.reduceSub, Int.reduceMul, Int.reduceEq, Int.reduceNeg]
            have g_0 := Option.some.inj h
            obtain ⟨k_1, g_1⟩ := Prod.mk.inj g_0
            subst k_1
            subst g_1
            rw [← hQ]
            exact ⟨rfl, _, rfl, _, _, (RefV.trans (RefV.out (v' := .tup [.vec true [], .bool false]) rfl) (RefV.weak (Wks.cons (Wk.tup (Wks.cons Wk.vec (Wks.cons (Wk.refl _) (Wks.nil)))) Wks.nil) (WkH.refl _))), rfl, rfl⟩
      · rw [if_neg h_17] at h
        have e_18 : (y_8 = 1) = False := eq_false h_17
        simp only [e_5, e_7, e_18, go_sem, reduceIte, reduceCtorEq, Nat.reduceEqDiff, Nat.reduceLT, Nat.reduceLeDiff, Nat.reduceAdd, Nat.reduceSub, Nat.reduceMul, Int.reduceToNat, Int.reduceLE, Int.reduceLT, Int.reduceAdd, Int.reduceSub, Int.reduceMul, Int.reduceEq, Int.reduceNeg]
        have g_0 := Option.some.inj h
        obtain ⟨k_1, g_1⟩ := Prod.mk.inj g_0
        subst k_1
        subst g_1
        rw [← hQ]
        exact ⟨rfl, _, rfl, _, _, (RefV.trans (RefV.out (v' := .tup [.vec true [], .bool false]) rfl) (RefV.weak (Wks.cons (Wk.tup (Wks.cons Wk.vec (Wks.cons (Wk.refl _) (Wks.nil)))) Wks.nil) (WkH.refl _))), rfl, rfl⟩
  · rw [if_neg h_4] at h
    have e_5 : y_2 = false := bfalse h_4
    simp only [e_5, go_sem, reduceIte, reduceCtorEq, Nat.reduceEqDiff, Nat.reduceLT, Nat.reduceLeDiff, Nat.reduceAdd, Nat.reduceSub, Nat.reduceMul, Int.reduceToNat, Int.reduceLE, Int.reduceLT, Int.reduceAdd, Int.reduceSub, Int.reduceMul, Int.reduceEq, Int.reduceNeg]
    have g_0 := Option.some.inj h
    obtain ⟨k_1, g_1⟩ := Prod.mk.inj g_0
    subst k_1
    subst g_1
    rw [← hQ]
    exact ⟨rfl, _, rfl, _, _, (RefV.trans (RefV.out (v' := .tup [.vec true [], .bool y_2]) (by first | rfl | simp only [go_sem, reduceIte, Nat.reduceEqDiff, Nat.reduceAdd, e_5])) (RefV.weak (Wks.cons (Wk.tup (Wks.cons Wk.vec (Wks.cons (Wk.refl _) (Wks.nil)))) Wks.nil) (WkH.refl _))), rfl, rfl⟩
theorem gdef_Read_w (N : Nat) (l_0 : List Int) (a_1 : Int) (c_0 : Bool) (z_1 : List TClass) (z_2 : List TClass) (z_3 : List (List TSpan)) (z_4 : Bool) (h : gdef_Read N l_0 a_1 = some (z_1, z_2, z_3, z_4)) :
    ACalls Go.Proofs.Try.prog 43 [.vec c_0 (List.map eU8 l_0), .int .i64 a_1] [] (fun e H => H = [] ∧ e = .ret (.tup [.agg [.vec false (List.map eTClass z_1), .vec false (List.map eTClass z_2), .vec false (List.map eLTSpan z_3)], .bool z_4])) := by
  unfold gdef_Read at h
  refine ACalls.goN Go.Proofs.Try.func43 n43 a43 Go.Proofs.Try.ntmps43 r43 (by simp) 0 rfl ?_
  generalize hQ : bodyA _ _ _ = QQ
  obtain ⟨⟨y_1, y_2⟩, h_3, h⟩ := bindS h
  try dsimp only at h
  simp only [A43, go_sem, reduceIte, reduceCtorEq, Nat.reduceEqDiff, Nat.reduceLT, Nat.reduceLeDiff, Nat.reduceAdd, Nat.reduceSub, Nat.reduceMul, Int.reduceToNat, Int.reduceLE, Int.reduceLT, Int.reduceAdd, Int.reduceSub, Int.reduceMul, Int.reduceEq, Int.reduceNeg]
  refine ACalls.use0 (octet_U32_w N _ _ _ _ _ h_3) rfl rfl ?_
  refine CallK_go (Nat.zero_le _) ?_
  simp only [go_sem, reduceIte, reduceCtorEq, Nat.reduceEqDiff, Nat.reduceLT, Nat.reduceLeDiff, Nat.reduceAdd, Nat.reduceSub, Nat.reduceMul, Int.reduceToNat, Int.reduceLE, Int.reduceLT, Int.reduceAdd, Int.reduceSub, Int.reduceMul, Int.reduceEq, Int.reduceNeg]
  by_cases h_4 : y_2 = true
  · rw [if_pos h_4] at h
    have e_5 : y_2 = true := h_4
    simp only [e_5, go_sem, reduceIte, reduceCtorEq, Nat.reduceEqDiff, Nat.reduceLT, Nat.reduceLeDiff, Nat.reduceAdd, Nat.reduceSub, Nat.reduceMul, Int.reduceToNat, Int.reduceLE, Int.reduceLT, Int.reduceAdd, Int.reduceSub, Int.reduceMul, Int.reduceEq, Int.reduceNeg]
    by_cases h_6 : y_1 = 65536
    · rw [if_pos h_6] at h
      have e_7 : (y_1 = 65536) = True := eq_true h_6
      obtain ⟨y_8, h_9, h⟩ := bindS h
      simp only [e_5, e_7, go_sem, reduceIte, reduceCtorEq, Nat.reduceEqDiff, Nat.reduceLT, Nat.reduceLeDiff, Nat.reduceAdd, Nat.reduceSub, Nat.reduceMul, Int.reduceToNat, Int.reduceLE, Int.reduceLT, Int.reduceAdd, Int.reduceSub, Int.reduceMul, Int.reduceEq, Int.reduceNeg]
      refine ACalls.use0 (octet_Within_w N _ _ _ _ _ h_9) rfl rfl ?_
      refine CallK_go (Nat.zero_le _) ?_
      simp only [e_5, e_7, go_sem, reduceIte, reduceCtorEq, Nat.reduceEqDiff, Nat.reduceLT, Nat.reduceLeDiff, Nat.reduceAdd, Nat.reduceSub, Nat.reduceMul, Int.reduceToNat, Int.reduceLE, Int.reduceLT, Int.reduceAdd, Int.reduceSub, Int.reduceMul, Int.reduceEq, Int.reduceNeg]
      by_cases h_10 : y_8 = true
      · rw [if_pos h_10] at h
        have e_11 : y_8 = true := h_10
        obtain ⟨⟨y_12, y_13⟩, h_14, h⟩ := bindS h
        try dsimp only at h
        simp only [e_5, e_7, e_11, go_sem, reduceIte, reduceCtorEq, Nat.reduceEqDiff, Nat.reduceLT, Nat.reduceLeDiff, Nat.reduceAdd, Nat.reduceSub, Nat.reduceMul, Int.reduceToNat, Int.reduceLE, Int.reduceLT, Int.reduceAdd, Int.reduceSub, Int.reduceMul, Int.reduceEq, Int.reduceNeg]
        refine ACalls.use0 (gdef_classes_w N _ _ _ _ _ _ h_14) rfl rfl ?_
        refine CallK_go (Nat.zero_le _) ?_
        obtain ⟨⟨y_15, y_16⟩, h_17, h⟩ := bindS h
        try dsimp only at h
        simp only [e_5, e_7, e_11, go_sem, reduceIte, reduceCtorEq, Nat.reduceEqDiff, Nat.reduceLT, Nat.reduceLeDiff, Nat.reduceAdd, Nat.reduceSub, Nat.reduceMul, Int.reduceToNat, Int.reduceLE, Int.reduceLT, Int.reduceAdd, Int.reduceSub, Int.reduceMul, Int.reduceEq, Int.reduceNeg]
        refine ACalls.use0 (gdef_classes_w N _ _ _ _ _ _ h_17) rfl rfl ?_
        refine CallK_go (Nat.zero_le _) ?_
        simp only [e_5, e_7, e_11, go_sem, reduceIte, reduceCtorEq, Nat.reduceEqDiff, Nat.reduceLT, Nat.reduceLeDiff, Nat.reduceAdd, Nat.reduceSub, Nat.reduceMul, Int.reduceToNat, Int.reduceLE, Int.reduceLT, Int.reduceAdd, Int.reduceSub, Int.reduceMul, Int.reduceEq, Int.reduceNeg]
        by_cases h_18 : y_1 = 65538
        · rw [if_pos h_18] at h
          have e_19 : (y_1 = 65538) = True := eq_true h_18
          obtain ⟨⟨y_20, y_21⟩, h_22, h⟩ := bindS h
          try dsimp only at h
          simp only [e_5, e_7, e_11, e_19, go_sem, reduceIte, reduceCtorEq, Nat.reduceEqDiff, Nat.reduceLT, Nat.reduceLeDiff, Nat.reduceAdd, Nat.reduceSub, Nat.reduceMul, Int.reduceToNat, Int.reduceLE, Int.reduceLT, Int.reduceAdd, Int.reduceSub, Int.reduceMul, Int.reduceEq, Int.reduceNeg]
          refine ACalls.use0 (gdef_sets_w N _ _ _ _ _ _ h_22) rfl rfl ?_
          refine CallK_go (Nat.zero_le _) ?_
          simp only [e_5, e_7, e_11, e_19, go_sem, reduceIte, reduceCtorEq, Nat.reduceEqDiff, Nat.reduceLT, Nat.reduceLeDiff, Nat.reduceAdd, Nat.reduceSub, Nat.reduceMul, Int.reduceToNat, Int.reduceLE, Int.reduceLT, Int.reduceAdd, Int.reduceSub, Int.reduceMul, Int.reduceEq, Int.reduceNeg]
          by_cases h_23 : y_13 = true
          · rw [if_pos h_23] at h
            have e_24 : y_13 = true := h_23
            simp only [e_5, e_7, e_11, e_19, e_24, go_sem, reduceIte, reduceCtorEq, Nat.reduceEqDiff, Nat.reduceLT, Nat.reduceLeDiff, Nat.reduceAdd, Nat.reduceSub, Nat.reduceMul, Int.reduceToNat, Int.reduceLE, Int.reduceLT, Int.reduceAdd, Int.reduceSub, Int.reduceMul, Int.reduceEq, Int.reduceNeg]
            by_cases h_25 : y_16 = true
            · rw [if_pos h_25] at h
              have e_26 : y_16 = true := h_25
              simp only [e_5, e_7, e_11, e_19, e_24, e_26, go_sem, reduceIte, reduceCtorEq, Nat.reduceEqDiff, Nat.reduceLT, Nat.reduceLeDiff, Nat.reduceAdd, Nat.reduceSub, Nat.reduceMul, Int.reduceToNat, Int.reduceLE, Int.reduceLT, Int.reduceAdd, Int.reduceSub, Int.reduceMul, Int.reduceEq, Int.reduceNeg]
              by_cases h_27 : y_21 = true
              · rw [if_pos h_27] at h
                have e_28 : y_21 = true := h_27
                simp only [e_5, e_7, e_11, e_19, e_24, e_26, e_28, go_sem, reduceIte, reduceCtorEq, Nat.reduceEqDiff, Nat.reduceLT, Nat.reduceLeDiff, Nat.reduceAdd, Nat.reduceSub, Nat.reduceMul, Int.reduceToNat, Int.reduceLE, Int.reduceLT, Int.reduceAdd, Int.reduceSub, Int.reduceMul, Int.reduceEq, Int.reduceNeg]
                have g_0 := Option.some.inj h
                obtain ⟨k_1, g_1⟩ := Prod.mk.inj g_0
                subst k_1
                obtain ⟨k_2, g_2⟩ := Prod.mk.inj g_1
                subst k_2
                obtain ⟨k_3, g_3⟩ := Prod.mk.inj g_2
                subst k_3
                subst g_3
                rw [← hQ]
                exact ⟨rfl, _, rfl, _, _, (RefV.out rfl), rfl, rfl⟩
              · rw [if_neg h_27] at h
                have e_28 : y_21 = false := bfalse h_27
                simp only [e_5, e_7, e_11, e_19, e_24, e_26, e_28, go_sem, reduceIte, reduceCtorEq, Nat.reduceEqDiff, Nat.reduceLT, Nat.reduceLeDiff, Nat.reduceAdd, Nat.reduceSub, Nat.reduceMul, Int.reduceToNat, Int.reduceLE, Int.reduceLT, Int.reduceAdd, Int.reduceSub, Int.reduceMul, Int.reduceEq, Int.reduceNeg]
                have g_0 := Option.some.inj h
                obtain ⟨k_1, g_1⟩ := Prod.mk.inj g_0
                subst k_1
                obtain ⟨k_2, g_2⟩ := Prod.mk.inj g_1
                subst k_2
                obtain ⟨k_3, g_3⟩ := Prod.mk.inj g_2
                subst k_3
                subst g_3
                rw [← hQ]
                exact ⟨rfl, _, rfl, _, _, (RefV.trans (RefV.out (v' := .tup [.agg [.vec true [], .vec true [], .vec true []], .bool false]) rfl) (RefV.weak (Wks.cons (Wk.tup (Wks.cons (Wk.agg (Wks.cons Wk.vec (Wks.cons Wk.vec (Wks.cons Wk.vec (Wks.nil))))) (Wks.cons (Wk.refl _) (Wks.nil)))) Wks.nil) (WkH.refl _))), rfl, rfl⟩
            · rw [if_neg h_25] at h
              have e_26 : y_16 = false := bfalse h_25
              simp only [e_5, e_7, e_11, e_19, e_24, e_26, go_sem, reduceIte, reduceCtorEq, Nat.reduceEqDiff, Nat.reduceLT, Nat.reduceLeDiff, Nat.reduceAdd, Nat.reduceSub, Nat.reduceMul, Int.reduceToNat, Int.reduceLE, Int.reduceLT, Int.reduceAdd, Int.reduceSub, Int.reduceMul, Int.reduceEq, Int.reduceNeg]
              have g_0 := Option.some.inj h
              obtain ⟨k_1, g_1⟩ := Prod.mk.inj g_0
              subst k_1
              obtain ⟨k_2, g_2⟩ := Prod.mk.inj g_1
              subst k_2
              obtain ⟨k_3, g_3⟩ := Prod.mk.inj g_2
              subst k_3
              subst g_3
              rw [← hQ]
              exact ⟨rfl, _, rfl, _, _, (RefV.trans (RefV.out (v' := .tup [.agg [.vec true [], .vec true [], .vec true []], .bool false]) rfl) (RefV.weak (Wks.cons (Wk.tup (Wks.cons (Wk.agg (Wks.cons Wk.vec (Wks.cons Wk.vec (Wks.cons Wk.vec (Wks.nil))))) (Wks.cons (Wk.refl _) (Wks.nil)))) Wks.nil) (WkH.refl _))), rfl, rfl⟩
          · rw [if_neg h_23] at h
            have e_24 : y_13 = false := bfalse h_23
            simp only [e_5, e_7, e_11, e_19, e_24, go_sem, reduceIte, reduceCtorEq, Nat.reduceEqDiff, Nat.reduceLT, Nat.reduceLeDiff, Nat.reduceAdd, Nat.reduceSub, Nat.reduceMul, Int.reduceToNat, Int.reduceLE, Int.reduceLT, Int.reduceAdd, Int.reduceSub, Int.reduceMul, Int.reduceEq, Int.reduceNeg]
            have g_0 := Option.some.inj h
            obtain ⟨k_1, g_1⟩ := Prod.mk.inj g_0
            subst k_1
            obtain ⟨k_2, g_2⟩ := Prod.mk.inj g_1
            subst k_2
            obtain ⟨k_3, g_3⟩ := Prod.mk.inj g_2
            subst k_3
            subst g_3
            rw [← hQ]
            exact ⟨rfl, _, rfl, _, _, (RefV.trans (RefV.out (v' := .tup [.agg [.vec true [], .vec true [], .vec true []], .bool false]) rfl) (RefV.weak (Wks.cons (Wk.tup (Wks.cons (Wk.agg (Wks.cons Wk.vec (Wks.cons Wk.vec (Wks.cons Wk.vec (Wks.nil))))) (Wks.cons (Wk.refl _) (Wks.nil)))) Wks.nil) (WkH.refl _))), rfl, rfl⟩
        · rw [if_neg h_18] at h
          have e_19 : (y_1 = 65538) = False := eq_false h_18
          simp only [e_5, e_7, e_11, e_19, go_sem, reduceIte, reduceCtorEq, Nat.reduceEqDiff, Nat.reduceLT, Nat.reduceLeDiff, Nat.reduceAdd, Nat.reduceSub, Nat.reduceMul, Int.reduceToNat, Int.reduceLE, Int.reduceLT, Int.reduceAdd, Int.reduceSub, Int.reduceMul, Int.reduceEq, Int.reduceNeg]
          by_cases h_29 : y_13 = true
          · rw [if_pos h_29] at h
            have e_30 : y_13 = true := h_29
            simp only [e_5, e_7, e_11, e_19, e_30, go_sem, reduceIte, reduceCtorEq, Nat.reduceEqDiff, Nat.reduceLT, Nat.reduceLeDiff, Nat.reduceAdd, Nat.reduceSub, Nat.reduceMul, Int.reduceToNat, Int.reduceLE, Int.reduceLT, Int.reduceAdd, Int.reduceSub, Int.reduceMul, Int.reduceEq, Int.reduceNeg]
            by_cases h_31 : y_16 = true
            · rw [if_pos h_31] at h
              have e_32 : y_16 = true := h_31
              simp only [e_5, e_7, e_11, e_19, e_30, e_32, go_sem, reduceIte, reduceCtorEq, Nat.reduceEqDiff, Nat.reduceLT, Nat.reduceLeDiff, Nat.reduceAdd, Nat.reduceSub, Nat.reduceMul, Int.reduceToNat, Int.reduceLE, Int.reduceLT, Int.reduceAdd, Int.reduceSub, Int.reduceMul, Int.reduceEq, Int.reduceNeg]
              have g_0 := Option.some.inj h
              obtain ⟨k_1, g_1⟩ := Prod.mk.inj g_0
              subst k_1
              obtain ⟨k_2, g_2⟩ := Prod.mk.inj g_1
              subst k_2
              obtain ⟨k_3, g_3⟩ := Prod.mk.inj g_2
              subst k_3
              subst g_3
              rw [← hQ]
              exact ⟨rfl, _, rfl, _, _, (RefV.trans (RefV.out (v' := .tup [.agg [.vec false (List.map eTClass y_12), .vec false (List.map eTClass y_15), .vec true []], .bool true]) rfl) (RefV.weak (Wks.cons (Wk.tup (Wks.cons (Wk.agg (Wks.cons (Wk.refl _) (Wks.cons (Wk.refl _) (Wks.cons Wk.vec (Wks.nil))))) (Wks.cons (Wk.refl _) (Wks.nil)))) Wks.nil) (WkH.refl _))), rfl, rfl⟩
            · rw [if_neg h_31] at h
              have e_32 : y_16 = false := bfalse h_31
              simp only [e_5, e_7, e_11, e_19, e_30, e_32, go_sem, reduceIte, reduceCtorEq, Nat.reduceEqDiff, Nat.reduceLT, Nat.reduceLeDiff, Nat.reduceAdd, Nat.reduceSub, Nat.reduceMul, Int.reduceToNat, Int.reduceLE, Int.reduceLT, Int.reduceAdd, Int.reduceSub, Int.reduceMul, Int.reduceEq, Int.reduceNeg]
              have g_0 := Option.some.inj h
              obtain ⟨k_1, g_1⟩ := Prod.mk.inj g_0
              subst k_1
              obtain ⟨k_2, g_2⟩ := Prod.mk.inj g_1
              subst k_2
              obtain ⟨k_3, g_3⟩ := Prod.mk.inj g_2
              subst k_3
              subst g_3
              rw [← hQ]
              exact ⟨rfl, _, rfl, _, _, (RefV.trans (RefV.out (v' := .tup [.agg [.vec true [], .vec true [], .vec true []], .bool false]) rfl) (RefV.weak (Wks.cons (Wk.tup (Wks.cons (Wk.agg (Wks.cons Wk.vec (Wks.cons Wk.vec (Wks.cons Wk.vec (Wks.nil))))) (Wks.cons (Wk.refl _) (Wks.nil)))) Wks.nil) (WkH.refl _))), rfl, rfl⟩
          · rw [if_neg h_29] at h
            have e_30 : y_13 = false := bfalse h_29
            simp only [e_5, e_7, e_11, e_19, e_30, go_sem, reduceIte, reduceCtorEq, Nat.reduceEqDiff, Nat.reduceLT, Nat.reduceLeDiff, Nat.reduceAdd, Nat.reduceSub, Nat.reduceMul, Int.reduceToNat, Int.reduceLE, Int.reduceLT, Int.reduceAdd, Int.reduceSub, Int.reduceMul, Int.reduceEq, Int.reduceNeg]
            have g_0 := Option.some.inj h
            obtain ⟨k_1, g_1⟩ := Prod.mk.inj g_0
            subst k_1
            obtain ⟨k_2, g_2⟩ := Prod.mk.inj g_1
            subst k_2
            obtain ⟨k_3, g_3⟩ := Prod.mk.inj g_2
            subst k_3
            subst g_3
            rw [← hQ]
            exact ⟨rfl, _, rfl, _, _, (RefV.trans (RefV.out (v' := .tup [.agg [.vec true [], .vec true [], .vec true []], .bool false]) rfl) (RefV.weak (Wks.cons (Wk.tup (Wks.cons (Wk.agg (Wks.cons Wk.vec (Wks.cons Wk.vec (Wks.cons Wk.vec (Wks.nil))))) (Wks.cons (Wk.refl _) (Wks.nil)))) Wks.nil) (WkH.refl _))), rfl, rfl⟩
      · rw [if_neg h_10] at h
        have e_11 : y_8 = false := bfalse h_10
        simp only [e_5, e_7, e_11, go_sem, reduceIte, reduceCtorEq, Nat.reduceEqDiff, Nat.reduceLT, Nat.reduceLeDiff, Nat.reduceAdd, Nat.reduceSub, Nat.reduceMul, Int.reduceToNat, Int.reduceLE, Int.reduceLT, Int.reduceAdd, Int.reduceSub, Int.reduceMul, Int.reduceEq, Int.reduceNeg]
        have g_0 := Option.some.inj h
        obtain ⟨k_1, g_1⟩ := Prod.mk.inj g_0
        subst k_1
        obtain ⟨k_2, g_2⟩ := Prod.mk.inj g_1
        subst k_2
        obtain ⟨k_3, g_3⟩ := Prod.mk.inj g_2
        subst k_3
        subst g_3
        rw [← hQ]
        exact ⟨rfl, _, rfl, _, _, (RefV.trans (RefV.out (v' := .tup [.agg [.vec true [], .vec true [], .vec true []], .bool false]) rfl) (RefV.weak (Wks.cons (Wk.tup (Wks.cons (Wk.agg (Wks.cons Wk.vec (Wks.cons Wk.vec (Wks.cons Wk.vec (Wks.nil))))) (Wks.cons (Wk.refl _) (Wks.nil)))) Wks.nil) (WkH.refl _))), rfl, rfl⟩
    · rw [if_neg h_6] at h
      have e_7 : (y_1 = 65536) = False := eq_false h_6
      simp only [e_5, e_7, go_sem, reduceIte, reduceCtorEq, Nat.reduceEqDiff, Nat.reduceLT, Nat.reduceLeDiff, Nat.reduceAdd, Nat.reduceSub, Nat.reduceMul, Int.reduceToNat, Int.reduceLE, Int.reduceLT, Int.reduceAdd, Int.reduceSub, Int.reduceMul, Int.reduceEq, Int.reduceNeg]
      by_cases h_33 : y_1 = 65538
      · rw [if_pos h_33] at h
        have e_34 : (y_1 = 65538) = True := eq_true h_33
        obtain ⟨y_35, h_36, h⟩ := bindS h
        simp only [e_5, e_7, e_34, go_sem, reduceIte, reduceCtorEq, Nat.reduceEqDiff, Nat.reduceLT, Nat.reduceLeDiff, Nat.reduceAdd, Nat.reduceSub, Nat.reduceMul, Int.reduceToNat, Int.reduceLE, Int.reduceLT, Int.reduceAdd, Int.reduceSub, Int.reduceMul, Int.reduceEq, Int.reduceNeg]
        refine ACalls.use0 (octet_Within_w N _ _ _ _ _ h_36) rfl rfl ?_
        refine CallK_go (Nat.zero_le _) ?_
        simp only [e_5, e_7, e_34, go_sem, reduceIte, reduceCtorEq, Nat.reduceEqDiff, Nat.reduceLT, Nat.reduceLeDiff, Nat.reduceAdd, Nat.reduceSub, Nat.reduceMul, Int.reduceToNat, Int.reduceLE, Int.reduceLT, Int.reduceAdd, Int.reduceSub, Int.reduceMul, Int.reduceEq, Int.reduceNeg]
        by_cases h_37 : y_35 = true
        · rw [if_pos h_37] at h
          have e_38 : y_35 = true := h_37
          obtain ⟨⟨y_39, y_40⟩, h_41, h⟩ := bindS h
          try dsimp only at h
          simp only [e_5, e_7, e_34, e_38, go_sem, reduceIte, reduceCtorEq, Nat.reduceEqDiff, Nat.reduceLT, Nat.reduceLeDiff, Nat.reduceAdd, Nat.reduceSub, Nat.reduceMul, Int.reduceToNat, Int.reduceLE, Int.reduceLT, Int.reduceAdd, Int.reduceSub, Int.reduceMul, Int.reduceEq, Int.reduceNeg]
          refine ACalls.use0 (gdef_classes_w N _ _ _ _ _ _ h_41) rfl rfl ?_
          refine CallK_go (Nat.zero_le _) ?_
          obtain ⟨⟨y_42, y_43⟩, h_44, h⟩ := bindS h
          try dsimp only at h
          simp only [e_5, e_7, e_34, e_38, go_sem, reduceIte, reduceCtorEq, Nat.reduceEqDiff, Nat.reduceLT, Nat.reduceLeDiff, Nat.reduceAdd, Nat.reduceSub, Nat.reduceMul, Int.reduceToNat, Int.reduceLE, Int.reduceLT, Int.reduceAdd, Int.reduceSub, Int.reduceMul, Int.reduceEq, Int.reduceNeg]
          refine ACalls.use0 (gdef_classes_w N _ _ _ _ _ _ h_44) rfl rfl ?_
          refine CallK_go (Nat.zero_le _) ?_
          obtain ⟨⟨y_45, y_46⟩, h_47, h⟩ := bindS h
          try dsimp only at h
          simp only [e_5, e_7, e_34, e_38, go_sem, reduceIte, reduceCtorEq, Nat.reduceEqDiff, Nat.reduceLT, Nat.reduceLeDiff, Nat.reduceAdd, Nat.reduceSub, Nat.reduceMul, Int.reduceToNat, Int.reduceLE, Int.reduceLT, Int.reduceAdd, Int.reduceSub, Int.reduceMul, Int.reduceEq, Int.reduceNeg]
          refine ACalls.use0 (gdef_sets_w N _ _ _ _ _ _ h_47) rfl rfl ?_
          refine CallK_go (Nat.zero_le _) ?_
          simp only [e_5, e_7, e_34, e_38, go_sem, reduceIte, reduceCtorEq, Nat.reduceEqDiff, Nat.reduceLT, Nat.reduceLeDiff, Nat.reduceAdd, Nat.reduceSub, Nat.reduceMul, Int.reduceToNat, Int.reduceLE, Int.reduceLT, Int.reduceAdd, Int.reduceSub, Int.reduceMul, Int.reduceEq, Int.reduceNeg]
          by_cases h_48 : y_40 = true
          · rw [if_pos h_48] at h
            have e_49 : y_40 = true := h_48
            simp only [e_5, e_7, e_34, e_38, e_49, go_sem, reduceIte, reduceCtorEq, Nat.reduceEqDiff, Nat.reduceLT, Nat.reduceLeDiff, Nat.reduceAdd, Nat.reduceSub, Nat.reduceMul, Int.reduceToNat, Int.reduceLE, Int.reduceLT, Int.reduceAdd, Int.reduceSub, Int.reduceMul, Int.reduceEq, Int.reduceNeg]
            by_cases h_50 : y_43 = true
            · rw [if_pos h_50] at h
              have e_51 : y_43 = true := h_50
              simp only [e_5, e_7, e_34, e_38, e_49, e_51, go_sem, reduceIte, reduceCtorEq, Nat.reduceEqDiff, Nat.reduceLT, Nat.reduceLeDiff, Nat.reduceAdd, Nat.reduceSub, Nat.reduceMul, Int.reduceToNat, Int.reduceLE, Int.reduceLT, Int.reduceAdd, Int.reduceSub, Int.reduceMul, Int.reduceEq, Int.reduceNeg]
              by_cases h_52 : y_46 = true
              · rw [if_pos h_52] at h
                have e_53 : y_46 = true := h_52
                simp only [e_5, e_7, e_34, e_38, e_49, e_51, e_53, go_sem, reduceIte, reduceCtorEq, Nat.reduceEqDiff, Nat.reduceLT, Nat.reduceLeDiff, Nat.reduceAdd, Nat.reduceSub, Nat.reduceMul, Int.reduceToNat, Int.reduceLE, Int.reduceLT, Int.reduceAdd, Int.reduceSub, Int.reduceMul, Int.reduceEq, Int.reduceNeg]
                have g_0 := Option.some.inj h
                obtain ⟨k_1, g_1⟩ := Prod.mk.inj g_0
                subst k_1
                obtain ⟨k_2, g_2⟩ := Prod.mk.inj g_1
                subst k_2
                obtain ⟨k_3, g_3⟩ := Prod.mk.inj g_2
                subst k_3
                subst g_3
                rw [← hQ]
                exact ⟨rfl, _, rfl, _, _, (RefV.out rfl), rfl, rfl⟩
              · rw [if_neg h_52] at h
                have e_53 : y_46 = false := bfalse h_52
                simp only [e_5, e_7, e_34, e_38, e_49, e_51, e_53, go_sem, reduceIte, reduceCtorEq, Nat.reduceEqDiff, Nat.reduceLT, Nat.reduceLeDiff, Nat.reduceAdd, Nat.reduceSub, Nat.reduceMul, Int.reduceToNat, Int.reduceLE, Int.reduceLT, Int.reduceAdd, Int.reduceSub, Int.reduceMul, Int.reduceEq, Int.reduceNeg]
                have g_0 := Option.some.inj h
                obtain ⟨k_1, g_1⟩ := Prod.mk.inj g_0
                subst k_1
                obtain ⟨k_2, g_2⟩ := Prod.mk.inj g_1
                subst k_2
                obtain ⟨k_3, g_3⟩ := Prod.mk.inj g_2
                subst k_3
                subst g_3
                rw [← hQ]
                exact ⟨rfl, _, rfl, _, _, (RefV.trans (RefV.out (v' := .tup [.agg [.vec true [], .vec true [], .vec true []], .bool false]) rfl) (RefV.weak (Wks.cons (Wk.tup (Wks.cons (Wk.agg (Wks.cons Wk.vec (Wks.cons Wk.vec (Wks.cons Wk.vec (Wks.nil))))) (Wks.cons (Wk.refl _) (Wks.nil)))) Wks.nil) (WkH.refl _))), rfl, rfl⟩
            · rw [if_neg h_50] at h
              have e_51 : y_43 = false := bfalse h_50
              simp only [e_5, e_7, e_34, e_38, e_49, e_51, go_sem, reduceIte, reduceCtorEq, Nat.reduceEqDiff, Nat.reduceLT, Nat.reduceLeDiff, Nat.reduceAdd, Nat.reduceSub, Nat.reduceMul, Int.reduceToNat, Int.reduceLE, Int.reduceLT, Int.reduceAdd, Int.reduceSub, Int.reduceMul, Int.reduceEq, Int.reduceNeg]
              have g_0 := Option.some.inj h
              obtain ⟨k_1, g_1⟩ := Prod.mk.inj g_0
              subst k_1
              obtain ⟨k_2, g_2⟩ := Prod.mk.inj g_1
              subst k_2
              obtain ⟨k_3, g_3⟩ := Prod.mk.inj g_2
              subst k_3
              subst g_3
              rw [← hQ]
              exact ⟨rfl, _, rfl, _, _, (RefV.trans (RefV.out (v' := .tup [.agg [.vec true [], .vec true [], .vec true []], .bool false]) rfl) (RefV.weak (Wks.cons (Wk.tup (Wks.cons (Wk.agg (Wks.cons Wk.vec (Wks.cons Wk.vec (Wks.cons Wk.vec (Wks.nil))))) (Wks.cons (Wk.refl _) (Wks.nil)))) Wks.nil) (WkH.refl _))), rfl, rfl⟩
          · rw [if_neg h_48] at h
            have e_49 : y_40 = false := bfalse h_48
            simp only [e_5, e_7, e_34, e_38, e_49, go_sem, reduceIte, reduceCtorEq, Nat.reduceEqDiff, Nat.reduceLT, Nat.reduceLeDiff, Nat.reduceAdd, Nat.reduceSub, Nat.reduceMul, Int.reduceToNat, Int.reduceLE, Int.reduceLT, Int.reduceAdd, Int.reduceSub, Int.reduceMul, Int.reduceEq, Int.reduceNeg]
            have g_0 := Option.some.inj h
            obtain ⟨k_1, g_1⟩ := Prod.mk.inj g_0
            subst k_1
            obtain ⟨k_2, g_2⟩ := Prod.mk.inj g_1
            subst k_2
            obtain ⟨k_3, g_3⟩ := Prod.mk.inj g_2
            subst k_3
            subst g_3
            rw [← hQ]
            exact ⟨rfl, _, rfl, _, _, (RefV.trans (RefV.out (v' := .tup [.agg [.vec true [], .vec true [], .vec true []], .bool false]) rfl) (RefV.weak (Wks.cons (Wk.tup (Wks.cons (Wk.agg (Wks.cons Wk.vec (Wks.cons Wk.vec (Wks.cons Wk.vec (Wks.nil))))) (Wks.cons (Wk.refl _) (Wks.nil)))) Wks.nil) (WkH.refl _))), rfl, rfl⟩
        · rw [if_neg h_37] at h
          have e_38 : y_35 = false := bfalse h_37
          simp only [e_5, e_7, e_34, e_38, go_sem, reduceIte, reduceCtorEq, Nat.reduceEqDiff, Nat.reduceLT, Nat.reduceLeDiff, Nat.reduceAdd, Nat.reduceSub, Nat.reduceMul, Int.reduceToNat, Int.reduceLE, Int.reduceLT, Int.reduceAdd, Int.reduceSub, Int.reduceMul, Int.reduceEq, Int.reduceNeg]
          have g_0 := Option.some.inj h
          obtain ⟨k_1, g_1⟩ := Prod.mk.inj g_0
          subst k_1
          obtain ⟨k_2, g_2⟩ := Prod.mk.inj g_1
          subst k_2
          obtain ⟨k_3, g_3⟩ := Prod.mk.inj g_2
          subst k_3
          subst g_3
          rw [← hQ]
          exact ⟨rfl, _, rfl, _, _, (RefV.trans (RefV.out (v' := .tup [.agg [.vec true [], .vec true [], .vec true []], .bool false]) rfl) (RefV.weak (Wks.cons (Wk.tup (Wks.cons (Wk.agg (Wks.cons Wk.vec (Wks.cons Wk.vec (Wks.cons Wk.vec (Wks.nil))))) (Wks.cons (Wk.refl _) (Wks.nil)))) Wks.nil) (WkH.refl _))), rfl, rfl⟩
      · rw [if_neg h_33] at h
        have e_34 : (y_1 = 65538) = False := eq_false h_33
        simp only [e_5, e_7, e_34, go_sem, reduceIte, reduceCtorEq, Nat.reduceEqDiff, Nat.reduceLT, Nat.reduceLeDiff, Nat.reduceAdd, Nat.reduceSub, Nat.reduceMul, Int.reduceToNat, Int.reduceLE, Int.reduceLT, Int.reduceAdd, Int.reduceSub, Int.reduceMul, Int.reduceEq, Int.reduceNeg]
        have g_0 := Option.some.inj h
        obtain ⟨k_1, g_1⟩ := Prod.mk.inj g_0
        subst k_1
        obtain ⟨k_2, g_2⟩ := Prod.mk.inj g_1
        subst k_2
        obtain ⟨k_3, g_3⟩ := Prod.mk.inj g_2
        subst k_3
        subst g_3
        rw [← hQ]
        exact ⟨rfl, _, rfl, _, _, (RefV.trans (RefV.out (v' := .tup [.agg [.vec true [], .vec true [], .vec true []], .bool false]) rfl) (RefV.weak (Wks.cons (Wk.tup (Wks.cons (Wk.agg (Wks.cons Wk.vec (Wks.cons Wk.vec (Wks.cons Wk.vec (Wks.nil))))) (Wks.cons (Wk.refl _) (Wks.nil)))) Wks.nil) (WkH.refl _))), rfl, rfl⟩
  · rw [if_neg h_4] at h
    have e_5 : y_2 = false := bfalse h_4
    simp only [e_5, go_sem, reduceIte, reduceCtorEq, Nat.reduceEqDiff, Nat.reduceLT, Nat.reduceLeDiff, Nat.reduceAdd, Nat.reduceSub, Nat.reduceMul, Int.reduceToNat, Int.reduceLE, Int.reduceLT, Int.reduceAdd, Int.reduceSub, Int.reduceMul, Int.reduceEq, Int.reduceNeg]
    have g_0 := Option.some.inj h
    obtain ⟨k_1, g_1⟩ := Prod.mk.inj g_0
    subst k_1
    obtain ⟨k_2, g_2⟩ := Prod.mk.inj g_1
    subst k_2
    obtain ⟨k_3, g_3⟩ := Prod.mk.inj g_2
    subst k_3
    subst g_3
    rw [← hQ]
    exact ⟨rfl, _, rfl, _, _, (RefV.trans (RefV.out (v' := .tup [.agg [.vec true [], .vec true [], .vec true []], .bool false]) rfl) (RefV.weak (Wks.cons (Wk.tup (Wks.cons (Wk.agg (Wks.cons Wk.vec (Wks.cons Wk.vec (Wks.cons Wk.vec (Wks.nil))))) (Wks.cons (Wk.refl _) (Wks.nil)))) Wks.nil) (WkH.refl _))), rfl, rfl⟩
theorem ref10_SameClasses_L1_w (N : Nat) (l_0 : List TClass) (l_1 : List TClass) (c_0 : Bool) (c_1 : Bool) {R : AExit → ATm → List AObj → Prop} : ∀ (n : Nat) (i_3 : Int) (o : (Unit) ⊕ (Unit)), ref10_SameClasses_L1 N l_0 l_1 n i_3 = some o → (match o with | .inl _ => R (.exit 0) ⟨26, [], []⟩ [] | .inr (_) => R .ret ⟨26, [(4, .bool false)], []⟩ []) →
    ALp Go.Proofs.Try.prog 0 B23_1 ⟨26, [(0, .vec c_0 (List.map eTClass l_0)), (1, .vec c_1 (List.map eTClass l_1)), (5, .int .i64 i_3)], []⟩ [] R := by
  intro n
  induction n with
  | zero =>
    intro i_3 o h _
    have h0 : none = some o := h
    cases h0
  | succ n ih =>
    intro i_3 o h hp
    rw [ref10_SameClasses_L1] at h
    refine ALp.round ?_
    generalize hQ : RoundQ _ _ _ _ = QQ
    simp only [B23_1, A23, go_sem, reduceIte, reduceCtorEq, Nat.reduceEqDiff, Nat.reduceLT, Nat.reduceLeDiff, Nat.reduceAdd, Nat.reduceSub, Nat.reduceMul, Int.reduceToNat, Int.reduceLE, Int.reduceLT, Int.reduceAdd, Int.reduceSub, Int.reduceMul, Int.reduceEq, Int.reduceNeg]
    by_cases h_4 : i_3 < (l_0.length : Int)
    · rw [if_pos h_4] at h
      have e_5 : (i_3 < (l_0.length : Int)) = True := eq_true h_4
      obtain ⟨x_6, h_7, h⟩ := bindS h
      have e_8 : (List.map eTClass l_0)[(i_3).toNat]? = some [.int .i64 x_6.From, .int .i64 x_6.To, .int .i64 x_6.Class] := atI_map eTClass h_7
      have e_9 : ((0 : Int) ≤ i_3) = True := eq_true (atI_some h_7).1
      have e_10 : ((i_3 : Int) < (l_0.length : Int)) = True := eq_true (atI_lt h_7)
      obtain ⟨x_11, h_12, h⟩ := bindS h
      have e_13 : (List.map eTClass l_1)[(i_3).toNat]? = some [.int .i64 x_11.From, .int .i64 x_11.To, .int .i64 x_11.Class] := atI_map eTClass h_12
      have e_14 : ((0 : Int) ≤ i_3) = True := eq_true (atI_some h_12).1
      have e_15 : ((i_3 : Int) < (l_1.length : Int)) = True := eq_true (atI_lt h_12)
      simp only [e_5, e_8, e_9, e_10, e_13, e_14, e_15, go_sem, reduceIte, reduceCtorEq, Nat.reduceEqDiff, Nat.reduceLT, Nat.reduceLeDiff, Nat.reduceAdd, Nat.reduceSub, Nat.reduceMul, Int.reduceToNat, Int.reduceLE, Int.reduceLT, Int.reduceAdd, Int.reduceSub, Int.reduceMul, Int.reduceEq, Int.reduceNeg]
      by_cases h_16 : x_6.From = x_11.From
      · rw [if_pos h_16] at h
        have e_17 : (x_6.From = x_11.From) = True := eq_true h_16
        simp only [e_5, e_8, e_9, e_10, e_13, e_14, e_15, e_17, go_sem, reduceIte, reduceCtorEq, Nat.reduceEqDiff, Nat.reduceLT, Nat.reduceLeDiff, Nat.reduceAdd, Nat.reduceSub, Nat.reduceMul, Int.reduceToNat, Int.reduceLE, Int.reduceLT, Int.reduceAdd, Int.reduceSub, Int.reduceMul, Int.reduceEq, Int.reduceNeg]
        by_cases h_18 : x_6.To = x_11.To
        · rw [if_pos h_18] at h
          have e_19 : (x_6.To = x_11.To) = True := eq_true h_18
          simp only [e_5, e_8, e_9, e_10, e_13, e_14, e_15, e_17, e_19, go_sem, reduceIte, reduceCtorEq, Nat.reduceEqDiff, Nat.reduceLT, Nat.reduceLeDiff, Nat.reduceAdd, Nat.reduceSub, Nat.reduceMul, Int.reduceToNat, Int.reduceLE, Int.reduceLT, Int.reduceAdd, Int.reduceSub, Int.reduceMul, Int.reduceEq, Int.reduceNeg]
          by_cases h_20 : x_6.Class = x_11.Class
          · rw [if_pos h_20] at h
            have e_21 : (x_6.Class = x_11.Class) = True := eq_true h_20
            simp only [e_5, e_8, e_9, e_10, e_13, e_14, e_15, e_17, e_19, e_21, go_sem, reduceIte, reduceCtorEq, Nat.reduceEqDiff, Nat.reduceLT, Nat.reduceLeDiff, Nat.reduceAdd, Nat.reduceSub, Nat.reduceMul, Int.reduceToNat, Int.reduceLE, Int.reduceLT, Int.reduceAdd, Int.reduceSub, Int.reduceMul, Int.reduceEq, Int.reduceNeg]
            rw [← hQ]
            exact ⟨_, _, (Ref.out [0, 1, 5] rfl), (Nat.zero_le _), ih _ _ h hp⟩
          · rw [if_neg h_20] at h
            have e_21 : (x_6.Class = x_11.Class) = False := eq_false h_20
            simp only [e_5, e_8, e_9, e_10, e_13, e_14, e_15, e_17, e_19, e_21, go_sem, reduceIte, reduceCtorEq, Nat.reduceEqDiff, Nat.reduceLT, Nat.reduceLeDiff, Nat.reduceAdd, Nat.reduceSub, Nat.reduceMul, Int.reduceToNat, Int.reduceLE, Int.reduceLT, Int.reduceAdd, Int.reduceSub, Int.reduceMul, Int.reduceEq, Int.reduceNeg]
            have g := Option.some.inj h
            subst g
            rw [← hQ]
            exact ⟨_, _, (Ref.out [4] rfl), hp⟩
        · rw [if_neg h_18] at h
          have e_19 : (x_6.To = x_11.To) = False := eq_false h_18
          simp only [e_5, e_8, e_9, e_10, e_13, e_14, e_15, e_17, e_19, go_sem, reduceIte, reduceCtorEq, Nat.reduceEqDiff, Nat.reduceLT, Nat.reduceLeDiff, Nat.reduceAdd, Nat.reduceSub, Nat.reduceMul, Int.reduceToNat, Int.reduceLE, Int.reduceLT, Int.reduceAdd, Int.reduceSub, Int.reduceMul, Int.reduceEq, Int.reduceNeg]
          have g := Option.some.inj h
          subst g
          rw [← hQ]
          exact ⟨_, _, (Ref.out [4] rfl), hp⟩
      · rw [if_neg h_16] at h
        have e_17 : (x_6.From = x_11.From) = False := eq_false h_16
        simp only [e_5, e_8, e_9, e_10, e_13, e_14, e_15, e_17, go_sem, reduceIte, reduceCtorEq, Nat.reduceEqDiff, Nat.reduceLT, Nat.reduceLeDiff, Nat.reduceAdd, Nat.reduceSub, Nat.reduceMul, Int.reduceToNat, Int.reduceLE, Int.reduceLT, Int.reduceAdd, Int.reduceSub, Int.reduceMul, Int.reduceEq, Int.reduceNeg]
        have g := Option.some.inj h
        subst g
        rw [← hQ]
        exact ⟨_, _, (Ref.out [4] rfl), hp⟩
    · rw [if_neg h_4] at h
      have e_5 : (i_3 < (l_0.length : Int)) = False := eq_false h_4
      simp only [e_5, go_sem, reduceIte, reduceCtorEq, Nat.reduceEqDiff, Nat.reduceLT, Nat.reduceLeDiff, Nat.reduceAdd, Nat.reduceSub, Nat.reduceMul, Int.reduceToNat, Int.reduceLE, Int.reduceLT, Int.reduceAdd, Int.reduceSub, Int.reduceMul, Int.reduceEq, Int.reduceNeg]
      have g := Option.some.inj h
      subst g
      rw [← hQ]
      exact ⟨_, _, (Ref.out [] rfl), hp⟩
theorem ref10_SameClasses_w (N : Nat) (l_0 : List TClass) (l_1 : List TClass) (c_0 : Bool) (c_1 : Bool) (z_1 : Bool) (h : ref10_SameClasses N l_0 l_1 = some z_1) :
    ACalls Go.Proofs.Try.prog 23 [.vec c_0 (List.map eTClass l_0), .vec c_1 (List.map eTClass l_1)] [] (fun e H => H = [] ∧ e = .ret (.bool z_1)) := by
  unfold ref10_SameClasses at h
  refine ACalls.goN Go.Proofs.Try.func23 n23 a23 Go.Proofs.Try.ntmps23 r23 (by simp) 0 rfl ?_
  generalize hQ : bodyA _ _ _ = QQ
  simp only [A23, go_sem, reduceIte, reduceCtorEq, Nat.reduceEqDiff, Nat.reduceLT, Nat.reduceLeDiff, Nat.reduceAdd, Nat.reduceSub, Nat.reduceMul, Int.reduceToNat, Int.reduceLE, Int.reduceLT, Int.reduceAdd, Int.reduceSub, Int.reduceMul, Int.reduceEq, Int.reduceNeg]
  by_cases h_1 : (l_0.length : Int) = (l_1.length : Int)
  · rw [if_pos h_1] at h
    have e_2 : ((l_0.length : Int) = (l_1.length : Int)) = True := eq_true h_1
    simp only [e_2, go_sem, reduceIte, reduceCtorEq, Nat.reduceEqDiff, Nat.reduceLT, Nat.reduceLeDiff, Nat.reduceAdd, Nat.reduceSub, Nat.reduceMul, Int.reduceToNat, Int.reduceLE, Int.reduceLT, Int.reduceAdd, Int.reduceSub, Int.reduceMul, Int.reduceEq, Int.reduceNeg]
    obtain ⟨o_1004, h_1003, h⟩ := bindS h
    refine ALp.ref (Ref.out [0, 1, 5] rfl) (Nat.zero_le _) (ref10_SameClasses_L1_w N _ _ c_0 c_1 N _ o_1004 h_1003 ?_)
    rcases o_1004 with _ | _
    · try dsimp only at h
      refine LoopK_go rfl (Nat.zero_le _) ?_
      simp only [e_2, go_sem, reduceIte, reduceCtorEq, Nat.reduceEqDiff, Nat.reduceLT, Nat.reduceLeDiff, Nat.reduceAdd, Nat.reduceSub, Nat.reduceMul, Int.reduceToNat, Int.reduceLE, Int.reduceLT, Int.reduceAdd, Int.reduceSub, Int.reduceMul, Int.reduceEq, Int.reduceNeg]
      have g_0 := Option.some.inj h
      subst g_0
      rw [← hQ]
      exact ⟨rfl, _, rfl, _, _, (RefV.out rfl), rfl, rfl⟩
    · try dsimp only at h
      refine LoopK_ret ?_
      have g_0 := Option.some.inj h
      subst g_0
      rw [← hQ]
      exact ⟨rfl, _, rfl, _, _, (RefV.out rfl), rfl, rfl⟩
  · rw [if_neg h_1] at h
    have e_2 : ((l_0.length : Int) = (l_1.length : Int)) = False := eq_false h_1
    simp only [e_2, go_sem, reduceIte, reduceCtorEq, Nat.reduceEqDiff, Nat.reduceLT, Nat.reduceLeDiff, Nat.reduceAdd, Nat.reduceSub, Nat.reduceMul, Int.reduceToNat, Int.reduceLE, Int.reduceLT, Int.reduceAdd, Int.reduceSub, Int.reduceMul, Int.reduceEq, Int.reduceNeg]
    have g_0 := Option.some.inj h
    subst g_0
    rw [← hQ]
    exact ⟨rfl, _, rfl, _, _, (RefV.out rfl), rfl, rfl⟩
theorem ref10_Same_L1_w (N : Nat) (l_0 : List TSpan) (l_1 : List TSpan) (c_0 : Bool) (c_1 : Bool) {R : AExit → ATm → List AObj → Prop} : ∀ (n : Nat) (i_3 : Int) (o : (Unit) ⊕ (Unit)), ref10_Same_L1 N l_0 l_1 n i_3 = some o → (match o with | .inl _ => R (.exit 0) ⟨26, [], []⟩ [] | .inr (_) => R .ret ⟨26, [(4, .bool false)], []⟩ []) →
    ALp Go.Proofs.Try.prog 0 B22_1 ⟨26, [(0, .vec c_0 (List.map eTSpan l_0)), (1, .vec c_1 (List.map eTSpan l_1)), (5, .int .i64 i_3)], []⟩ [] R := by
  intro n
  induction n with
  | zero =>
    intro i_3 o h _
    have h0 : none = some o := h
    cases h0
  | succ n ih =>
    intro i_3 o h hp
    rw [ref10_Same_L1] at h
    refine ALp.round ?_
    generalize hQ : RoundQ _ _ _ _ = QQ
    simp only [B22_1, A22, go_sem, reduceIte, reduceCtorEq, Nat.reduceEqDiff, Nat.reduceLT, Nat.reduceLeDiff, Nat.reduceAdd, Nat.reduceSub, Nat.reduceMul, Int.reduceToNat, Int.reduceLE, Int.reduceLT, Int.reduceAdd, Int.reduceSub, Int.reduceMul, Int.reduceEq, Int.reduceNeg]
    by_cases h_4 : i_3 < (l_0.length : Int)
    · rw [if_pos h_4] at h
      have e_5 : (i_3 < (l_0.length : Int)) = True := eq_true h_4
      obtain ⟨x_6, h_7, h⟩ := bindS h
      have e_8 : (List.map eTSpan l_0)[(i_3).toNat]? = some [.int .i64 x_6.From, .int .i64 x_6.To] := atI_map eTSpan h_7
      have e_9 : ((0 : Int) ≤ i_3) = True := eq_true (atI_some h_7).1
      have e_10 : ((i_3 : Int) < (l_0.length : Int)) = True := eq_true (atI_lt h_7)
      obtain ⟨x_11, h_12, h⟩ := bindS h
      have e_13 : (List.map eTSpan l_1)[(i_3).toNat]? = some [.int .i64 x_11.From, .int .i64 x_11.To] := atI_map eTSpan h_12
      have e_14 : ((0 : Int) ≤ i_3) = True := eq_true (atI_some h_12).1
      have e_15 : ((i_3 : Int) < (l_1.length : Int)) = True := eq_true (atI_lt h_12)
      simp only [e_5, e_8, e_9, e_10, e_13, e_14, e_15, go_sem, reduceIte, reduceCtorEq, Nat.reduceEqDiff, Nat.reduceLT, Nat.reduceLeDiff, Nat.reduceAdd, Nat.reduceSub, Nat.reduceMul, Int.reduceToNat, Int.reduceLE, Int.reduceLT, Int.reduceAdd, Int.reduceSub, Int.reduceMul, Int.reduceEq, Int.reduceNeg]
      by_cases h_16 : x_6.From = x_11.From
      · rw [if_pos h_16] at h
        have e_17 : (x_6.From = x_11.From) = True := eq_true h_16
        simp only [e_5, e_8, e_9, e_10, e_13, e_14, e_15, e_17, go_sem, reduceIte, reduceCtorEq, Nat.reduceEqDiff, Nat.reduceLT, Nat.reduceLeDiff, Nat.reduceAdd, Nat.reduceSub, Nat.reduceMul, Int.reduceToNat, Int.reduceLE, Int.reduceLT, Int.reduceAdd, Int.reduceSub, Int.reduceMul, Int.reduceEq, Int.reduceNeg]
        by_cases h_18 : x_6.To = x_11.To
        · rw [if_pos h_18] at h
          have e_19 : (x_6.To = x_11.To) = True := eq_true h_18
          simp only [e_5, e_8, e_9, e_10, e_13, e_14, e_15, e_17, e_19, go_sem, reduceIte, reduceCtorEq, Nat.reduceEqDiff, Nat.reduceLT, Nat.reduceLeDiff, Nat.reduceAdd, Nat.reduceSub, Nat.reduceMul, Int.reduceToNat, Int.reduceLE, Int.reduceLT, Int.reduceAdd, Int.reduceSub, Int.reduceMul, Int.reduceEq, Int.reduceNeg]
          rw [← hQ]
          exact ⟨_, _, (Ref.out [0, 1, 5] rfl), (Nat.zero_le _), ih _ _ h hp⟩
        · rw [if_neg h_18] at h
          have e_19 : (x_6.To = x_11.To) = False := eq_false h_18
          simp only [e_5, e_8, e_9, e_10, e_13, e_14, e_15, e_17, e_19, go_sem, reduceIte, reduceCtorEq, Nat.reduceEqDiff, Nat.reduceLT, Nat.reduceLeDiff, Nat.reduceAdd, Nat.reduceSub, Nat.reduceMul, Int.reduceToNat, Int.reduceLE, Int.reduceLT, Int.reduceAdd, Int.reduceSub, Int.reduceMul, Int.reduceEq, Int.reduceNeg]
          have g := Option.some.inj h
          subst g
          rw [← hQ]
          exact ⟨_, _, (Ref.out [4] rfl), hp⟩
      · rw [if_neg h_16] at h
        have e_17 : (x_6.From = x_11.From) = False := eq_false h_16
        simp only [e_5, e_8, e_9, e_10, e_13, e_14, e_15, e_17, go_sem, reduceIte, reduceCtorEq, Nat.reduceEqDiff, Nat.reduceLT, Nat.reduceLeDiff, Nat.reduceAdd, Nat.reduceSub, Nat.reduceMul, Int.reduceToNat, Int.reduceLE, Int.reduceLT, Int.reduceAdd, Int.reduceSub, Int.reduceMul, Int.reduceEq, Int.reduceNeg]
        have g := Option.some.inj h
        subst g
        rw [← hQ]
        exact ⟨_, _, (Ref.out [4] rfl), hp⟩
    · rw [if_neg h_4] at h
      have e_5 : (i_3 < (l_0.length : Int)) = False := eq_false h_4
      simp only [e_5, go_sem, reduceIte, reduceCtorEq, Nat.reduceEqDiff, Nat.reduceLT, Nat.reduceLeDiff, Nat.reduceAdd, Nat.reduceSub, Nat.reduceMul, Int.reduceToNat, Int.reduceLE, Int.reduceLT, Int.reduceAdd, Int.reduceSub, Int.reduceMul, Int.reduceEq, Int.reduceNeg]
      have g := Option.some.inj h
      subst g
      rw [← hQ]
      exact ⟨_, _, (Ref.out [] rfl), hp⟩
theorem ref10_Same_w (N : Nat) (l_0 : List TSpan) (l_1 : List TSpan) (c_0 : Bool) (c_1 : Bool) (z_1 : Bool) (h : ref10_Same N l_0 l_1 = some z_1) :
    ACalls Go.Proofs.Try.prog 22 [.vec c_0 (List.map eTSpan l_0), .vec c_1 (List.map eTSpan l_1)] [] (fun e H => H = [] ∧ e = .ret (.bool z_1)) := by
  unfold ref10_Same at h
  refine ACalls.goN Go.Proofs.Try.func22 n22 a22 Go.Proofs.Try.ntmps22 r22 (by simp) 0 rfl ?_
  generalize hQ : bodyA _ _ _ = QQ
  simp only [A22, go_sem, reduceIte, reduceCtorEq, Nat.reduceEqDiff, Nat.reduceLT, Nat.reduceLeDiff, Nat.reduceAdd, Nat.reduceSub, Nat.reduceMul, Int.reduceToNat, Int.reduceLE, Int.reduceLT, Int.reduceAdd, Int.reduceSub, Int.reduceMul, Int.reduceEq, Int.reduceNeg]
  by_cases h_1 : (l_0.length : Int) = (l_1.length : Int)
  · rw [if_pos h_1] at h
    have e_2 : ((l_0.length : Int) = (l_1.length : Int)) = True := eq_true h_1
    simp only [e_2, go_sem, reduceIte, reduceCtorEq, Nat.reduceEqDiff, Nat.reduceLT, Nat.reduceLeDiff, Nat.reduceAdd, Nat.reduceSub, Nat.reduceMul, Int.reduceToNat, Int.reduceLE, Int.reduceLT, Int.reduceAdd, Int.reduceSub, Int.reduceMul, Int.reduceEq, Int.reduceNeg]
    obtain ⟨o_1004, h_1003, h⟩ := bindS h
    refine ALp.ref (Ref.out [0, 1, 5] rfl) (Nat.zero_le _) (ref10_Same_L1_w N _ _ c_0 c_1 N _ o_1004 h_1003 ?_)
    rcases o_1004 with _ | _
    · try dsimp only at h
      refine LoopK_go rfl (Nat.zero_le _) ?_
      simp only [e_2, go_sem, reduceIte, reduceCtorEq, Nat.reduceEqDiff, Nat.reduceLT, Nat.reduceLeDiff, Nat.reduceAdd, Nat.reduceSub, Nat.reduceMul, Int.reduceToNat, Int.reduceLE, Int.reduceLT, Int.reduceAdd, Int.reduceSub, Int.reduceMul, Int.reduceEq, Int.reduceNeg]
      have g_0 := Option.some.inj h
      subst g_0
      rw [← hQ]
      exact ⟨rfl, _, rfl, _, _, (RefV.out rfl), rfl, rfl⟩
    · try dsimp only at h
      refine LoopK_ret ?_
      have g_0 := Option.some.inj h
      subst g_0
      rw [← hQ]
      exact ⟨rfl, _, rfl, _, _, (RefV.out rfl), rfl, rfl⟩
  · rw [if_neg h_1] at h
    have e_2 : ((l_0.length : Int) = (l_1.length : Int)) = False := eq_false h_1
    simp only [e_2, go_sem, reduceIte, reduceCtorEq, Nat.reduceEqDiff, Nat.reduceLT, Nat.reduceLeDiff, Nat.reduceAdd, Nat.reduceSub, Nat.reduceMul, Int.reduceToNat, Int.reduceLE, Int.reduceLT, Int.reduceAdd, Int.reduceSub, Int.reduceMul, Int.reduceEq, Int.reduceNeg]
    have g_0 := Option.some.inj h
    subst g_0
    rw [← hQ]
    exact ⟨rfl, _, rfl, _, _, (RefV.out rfl), rfl, rfl⟩
theorem ref15_Same_L1_w (N : Nat) (l_0 : List TClass) (l_1 : List TClass) (l_2 : List (List TSpan)) (l_3 : List TClass) (l_4 : List TClass) (l_5 : List (List TSpan)) (c_0 : Bool) (c_1 : Bool) (c_2 : Bool) (c_3 : Bool) (c_4 : Bool) (c_5 : Bool) {R : AExit → ATm → List AObj → Prop} : ∀ (n : Nat) (i_11 : Int) (o : (Unit) ⊕ (Unit)), ref15_Same_L1 N l_0 l_1 l_2 l_3 l_4 l_5 n i_11 = some o → (match o with | .inl _ => R (.exit 0) ⟨48, [], []⟩ [] | .inr (_) => R .ret ⟨48, [(4, .bool false)], []⟩ []) →
    ALp Go.Proofs.Try.prog 0 B45_1 ⟨48, [(2, .ptr 0 0 0), (3, .ptr 1 0 0), (5, .int .i64 i_11)], []⟩ [.box [.vec c_0 (List.map eTClass l_0), .vec c_1 (List.map eTClass l_1), .vec c_2 (List.map eLTSpan l_2)] 70, .box [.vec c_3 (List.map eTClass l_3), .vec c_4 (List.map eTClass l_4), .vec c_5 (List.map eLTSpan l_5)] 70] R := by
  intro n
  induction n with
  | zero =>
    intro i_11 o h _
    have h0 : none = some o := h
    cases h0
  | succ n ih =>
    intro i_11 o h hp
    rw [ref15_Same_L1] at h
    refine ALp.round ?_
    generalize hQ : RoundQ _ _ _ _ = QQ
    simp only [B45_1, A45, go_sem, reduceIte, reduceCtorEq, Nat.reduceEqDiff, Nat.reduceLT, Nat.reduceLeDiff, Nat.reduceAdd, Nat.reduceSub, Nat.reduceMul, Int.reduceToNat, Int.reduceLE, Int.reduceLT, Int.reduceAdd, Int.reduceSub, Int.reduceMul, Int.reduceEq, Int.reduceNeg]
    by_cases h_12 : i_11 < (l_2.length : Int)
    · rw [if_pos h_12] at h
      have e_13 : (i_11 < (l_2.length : Int)) = True := eq_true h_12
      obtain ⟨x_14, h_15, h⟩ := bindS h
      have e_16 : (List.map eLTSpan l_2)[(i_11).toNat]? = some [.vec false (List.map eTSpan x_14)] := atI_map eLTSpan h_15
      have e_17 : ((0 : Int) ≤ i_11) = True := eq_true (atI_some h_15).1
      have e_18 : ((i_11 : Int) < (l_2.length : Int)) = True := eq_true (atI_lt h_15)
      obtain ⟨x_19, h_20, h⟩ := bindS h
      have e_21 : (List.map eLTSpan l_5)[(i_11).toNat]? = some [.vec false (List.map eTSpan x_19)] := atI_map eLTSpan h_20
      have e_22 : ((0 : Int) ≤ i_11) = True := eq_true (atI_some h_20).1
      have e_23 : ((i_11 : Int) < (l_5.length : Int)) = True := eq_true (atI_lt h_20)
      obtain ⟨y_24, h_25, h⟩ := bindS h
      simp only [e_13, e_16, e_17, e_18, e_21, e_22, e_23, go_sem, reduceIte, reduceCtorEq, Nat.reduceEqDiff, Nat.reduceLT, Nat.reduceLeDiff, Nat.reduceAdd, Nat.reduceSub, Nat.reduceMul, Int.reduceToNat, Int.reduceLE, Int.reduceLT, Int.reduceAdd, Int.reduceSub, Int.reduceMul, Int.reduceEq, Int.reduceNeg]
      refine ACalls.use0 (ref10_Same_w N _ _ _ _ _ h_25) rfl rfl ?_
      simp only [e_13, e_16, e_17, e_18, e_21, e_22, e_23, go_sem, reduceIte, reduceCtorEq, Nat.reduceEqDiff, Nat.reduceLT, Nat.reduceLeDiff, Nat.reduceAdd, Nat.reduceSub, Nat.reduceMul, Int.reduceToNat, Int.reduceLE, Int.reduceLT, Int.reduceAdd, Int.reduceSub, Int.reduceMul, Int.reduceEq, Int.reduceNeg]
      by_cases h_26 : y_24 = true
      · rw [if_pos h_26] at h
        have e_27 : y_24 = true := h_26
        simp only [e_13, e_16, e_17, e_18, e_21, e_22, e_23, e_27, go_sem, reduceIte, reduceCtorEq, Nat.reduceEqDiff, Nat.reduceLT, Nat.reduceLeDiff, Nat.reduceAdd, Nat.reduceSub, Nat.reduceMul, Int.reduceToNat, Int.reduceLE, Int.reduceLT, Int.reduceAdd, Int.reduceSub, Int.reduceMul, Int.reduceEq, Int.reduceNeg]
        rw [← hQ]
        exact ⟨_, _, (Ref.std [2, 3, 5] [0, 1] (by decide) low0 rfl rfl), (Nat.zero_le _), ih _ _ h hp⟩
      · rw [if_neg h_26] at h
        have e_27 : y_24 = false := bfalse h_26
        simp only [e_13, e_16, e_17, e_18, e_21, e_22, e_23, e_27, go_sem, reduceIte, reduceCtorEq, Nat.reduceEqDiff, Nat.reduceLT, Nat.reduceLeDiff, Nat.reduceAdd, Nat.reduceSub, Nat.reduceMul, Int.reduceToNat, Int.reduceLE, Int.reduceLT, Int.reduceAdd, Int.reduceSub, Int.reduceMul, Int.reduceEq, Int.reduceNeg]
        have g := Option.some.inj h
        subst g
        rw [← hQ]
        exact ⟨_, _, (Ref.out [4] rfl), hp⟩
    · rw [if_neg h_12] at h
      have e_13 : (i_11 < (l_2.length : Int)) = False := eq_false h_12
      simp only [e_13, go_sem, reduceIte, reduceCtorEq, Nat.reduceEqDiff, Nat.reduceLT, Nat.reduceLeDiff, Nat.reduceAdd, Nat.reduceSub, Nat.reduceMul, Int.reduceToNat, Int.reduceLE, Int.reduceLT, Int.reduceAdd, Int.reduceSub, Int.reduceMul, Int.reduceEq, Int.reduceNeg]
      have g := Option.some.inj h
      subst g
      rw [← hQ]
      exact ⟨_, _, (Ref.out [] rfl), hp⟩
theorem ref15_Same_w (N : Nat) (l_0 : List TClass) (l_1 : List TClass) (l_2 : List (List TSpan)) (l_3 : List TClass) (l_4 : List TClass) (l_5 : List (List TSpan)) (c_0 : Bool) (c_1 : Bool) (c_2 : Bool) (c_3 : Bool) (c_4 : Bool) (c_5 : Bool) (z_1 : Bool) (h : ref15_Same N l_0 l_1 l_2 l_3 l_4 l_5 = some z_1) :
    ACalls Go.Proofs.Try.prog 45 [.agg [.vec c_0 (List.map eTClass l_0), .vec c_1 (List.map eTClass l_1), .vec c_2 (List.map eLTSpan l_2)], .agg [.vec c_3 (List.map eTClass l_3), .vec c_4 (List.map eTClass l_4), .vec c_5 (List.map eLTSpan l_5)]] [] (fun e H => H = [] ∧ e = .ret (.bool z_1)) := by
  unfold ref15_Same at h
  refine ACalls.goN Go.Proofs.Try.func45 n45 a45 Go.Proofs.Try.ntmps45 r45 (by simp) 0 rfl ?_
  generalize hQ : bodyA _ _ _ = QQ
  obtain ⟨y_1, h_2, h⟩ := bindS h
  simp only [A45, go_sem, reduceIte, reduceCtorEq, Nat.reduceEqDiff, Nat.reduceLT, Nat.reduceLeDiff, Nat.reduceAdd, Nat.reduceSub, Nat.reduceMul, Int.reduceToNat, Int.reduceLE, Int.reduceLT, Int.reduceAdd, Int.reduceSub, Int.reduceMul, Int.reduceEq, Int.reduceNeg]
  refine ACalls.use0 (ref10_SameClasses_w N _ _ _ _ _ h_2) rfl rfl ?_
  refine CallK_go (Nat.zero_le _) ?_
  simp only [go_sem, reduceIte, reduceCtorEq, Nat.reduceEqDiff, Nat.reduceLT, Nat.reduceLeDiff, Nat.reduceAdd, Nat.reduceSub, Nat.reduceMul, Int.reduceToNat, Int.reduceLE, Int.reduceLT, Int.reduceAdd, Int.reduceSub, Int.reduceMul, Int.reduceEq, Int.reduceNeg]
  by_cases h_3 : y_1 = true
  · rw [if_pos h_3] at h
    have e_4 : y_1 = true := h_3
    obtain ⟨y_5, h_6, h⟩ := bindS h
    simp only [e_4, go_sem, reduceIte, reduceCtorEq, Nat.reduceEqDiff, Nat.reduceLT, Nat.reduceLeDiff, Nat.reduceAdd, Nat.reduceSub, Nat.reduceMul, Int.reduceToNat, Int.reduceLE, Int.reduceLT, Int.reduceAdd, Int.reduceSub, Int.reduceMul, Int.reduceEq, Int.reduceNeg]
    refine ACalls.use0 (ref10_SameClasses_w N _ _ _ _ _ h_6) rfl rfl ?_
    refine CallK_go (Nat.zero_le _) ?_
    simp only [e_4, go_sem, reduceIte, reduceCtorEq, Nat.reduceEqDiff, Nat.reduceLT, Nat.reduceLeDiff, Nat.reduceAdd, Nat.reduceSub, Nat.reduceMul, Int.reduceToNat, Int.reduceLE, Int.reduceLT, Int.reduceAdd, Int.reduceSub, Int.reduceMul, Int.reduceEq, Int.reduceNeg]
    by_cases h_7 : y_5 = true
    · rw [if_pos h_7] at h
      have e_8 : y_5 = true := h_7
      simp only [e_4, e_8, go_sem, reduceIte, reduceCtorEq, Nat.reduceEqDiff, Nat.reduceLT, Nat.reduceLeDiff, Nat.reduceAdd, Nat.reduceSub, Nat.reduceMul, Int.reduceToNat, Int.reduceLE, Int.reduceLT, Int.reduceAdd, Int.reduceSub, Int.reduceMul, Int.reduceEq, Int.reduceNeg]
      by_cases h_9 : (l_2.length : Int) = (l_5.length : Int)
      · rw [if_pos h_9] at h
        have e_10 : ((l_2.length : Int) = (l_5.length : Int)) = True := eq_true h_9
        simp only [e_4, e_8, e_10, go_sem, reduceIte, reduceCtorEq, Nat.reduceEqDiff, Nat.reduceLT, Nat.reduceLeDiff, Nat.reduceAdd, Nat.reduceSub, Nat.reduceMul, Int.reduceToNat, Int.reduceLE, Int.reduceLT, Int.reduceAdd, Int.reduceSub, Int.reduceMul, Int.reduceEq, Int.reduceNeg]
        obtain ⟨o_1012, h_1011, h⟩ := bindS h
        refine ALp.ref (Ref.std [2, 3, 5] [0, 1] (by decide) low0 rfl rfl) (Nat.zero_le _) (ref15_Same_L1_w N _ _ _ _ _ _ c_0 c_1 c_2 c_3 c_4 c_5 N _ o_1012 h_1011 ?_)
        rcases o_1012 with _ | _
        · try dsimp only at h
          refine LoopK_go rfl (Nat.zero_le _) ?_
          simp only [e_4, e_8, e_10, go_sem, reduceIte, reduceCtorEq, Nat.reduceEqDiff, Nat.reduceLT, Nat.reduceLeDiff, Nat.reduceAdd, Nat.reduceSub, Nat.reduceMul, Int.reduceToNat, Int.reduceLE, Int.reduceLT, Int.reduceAdd, Int.reduceSub, Int.reduceMul, Int.reduceEq, Int.reduceNeg]
          have g_0 := Option.some.inj h
          subst g_0
          rw [← hQ]
          exact ⟨rfl, _, rfl, _, _, (RefV.out rfl), rfl, rfl⟩
        · try dsimp only at h
          refine LoopK_ret ?_
          have g_0 := Option.some.inj h
          subst g_0
          rw [← hQ]
          exact ⟨rfl, _, rfl, _, _, (RefV.out rfl), rfl, rfl⟩
      · rw [if_neg h_9] at h
        have e_10 : ((l_2.length : Int) = (l_5.length : Int)) = False := eq_false h_9
        simp only [e_4, e_8, e_10, go_sem, reduceIte, reduceCtorEq, Nat.reduceEqDiff, Nat.reduceLT, Nat.reduceLeDiff, Nat.reduceAdd, Nat.reduceSub, Nat.reduceMul, Int.reduceToNat, Int.reduceLE, Int.reduceLT, Int.reduceAdd, Int.reduceSub, Int.reduceMul, Int.reduceEq, Int.reduceNeg]
        have g_0 := Option.some.inj h
        subst g_0
        rw [← hQ]
        exact ⟨rfl, _, rfl, _, _, (RefV.out rfl), rfl, rfl⟩
    · rw [if_neg h_7] at h
      have e_8 : y_5 = false := bfalse h_7
      simp only [e_4, e_8, go_sem, reduceIte, reduceCtorEq, Nat.reduceEqDiff, Nat.reduceLT, Nat.reduceLeDiff, Nat.reduceAdd, Nat.reduceSub, Nat.reduceMul, Int.reduceToNat, Int.reduceLE, Int.reduceLT, Int.reduceAdd, Int.reduceSub, Int.reduceMul, Int.reduceEq, Int.reduceNeg]
      have g_0 := Option.some.inj h
      subst g_0
      rw [← hQ]
      exact ⟨rfl, _, rfl, _, _, (RefV.out rfl), rfl, rfl⟩
  · rw [if_neg h_3] at h
    have e_4 : y_1 = false := bfalse h_3
    simp only [e_4, go_sem, reduceIte, reduceCtorEq, Nat.reduceEqDiff, Nat.reduceLT, Nat.reduceLeDiff, Nat.reduceAdd, Nat.reduceSub, Nat.reduceMul, Int.reduceToNat, Int.reduceLE, Int.reduceLT, Int.reduceAdd, Int.reduceSub, Int.reduceMul, Int.reduceEq, Int.reduceNeg]
    have g_0 := Option.some.inj h
    subst g_0
    rw [← hQ]
    exact ⟨rfl, _, rfl, _, _, (RefV.out rfl), rfl, rfl⟩
theorem gdef_Codes_L1_w (N : Nat) (l_0 : List Int) (a_1 : Int) (a_2 : Int) (y_8 : Int) (c_0 : Bool) {R : AExit → ATm → List AObj → Prop} : ∀ (n : Nat) (i_17 : Int) (i_18 : Int) (i_19 : Int) (o : (Int × Int) ⊕ (Unit)), gdef_Codes_L1 N l_0 a_1 a_2 y_8 n i_17 i_18 i_19 = some o → (match o with | .inl (z_1, z_2) => R (.exit 0) ⟨126, [(0, .vec c_0 (List.map eU8 l_0)), (2, .int .i64 a_2), (12, .ptr 0 0 0)], []⟩ [.box [.int .i64 z_1, .int .i64 z_2] 110] | .inr (_) => R .ret ⟨126, [(6, .vec true []), (7, .bool false)], []⟩ []) →
    ALp Go.Proofs.Try.prog 0 B51_1 ⟨126, [(0, .vec c_0 (List.map eU8 l_0)), (1, .int .i64 a_1), (2, .int .i64 a_2), (12, .ptr 0 0 0), (51, .int .i64 y_8), (52, .int .i64 i_17)], []⟩ [.box [.int .i64 i_18, .int .i64 i_19] 110] R := by
  intro n
  induction n with
  | zero =>
    intro i_17 i_18 i_19 o h _
    have h0 : none = some o := h
    cases h0
  | succ n ih =>
    intro i_17 i_18 i_19 o h hp
    rw [gdef_Codes_L1] at h
    refine ALp.round ?_
    generalize hQ : RoundQ _ _ _ _ = QQ
    simp only [B51_1, A51, go_sem, reduceIte, reduceCtorEq, Nat.reduceEqDiff, Nat.reduceLT, Nat.reduceLeDiff, Nat.reduceAdd, Nat.reduceSub, Nat.reduceMul, Int.reduceToNat, Int.reduceLE, Int.reduceLT, Int.reduceAdd, Int.reduceSub, Int.reduceMul, Int.reduceEq, Int.reduceNeg]
    by_cases h_20 : i_17 < y_8
    · rw [if_pos h_20] at h
      have e_21 : (i_17 < y_8) = True := eq_true h_20
      obtain ⟨⟨y_22, y_23⟩, h_24, h⟩ := bindS h
      try dsimp only at h
      simp only [e_21, go_sem, reduceIte, reduceCtorEq, Nat.reduceEqDiff, Nat.reduceLT, Nat.reduceLeDiff, Nat.reduceAdd, Nat.reduceSub, Nat.reduceMul, Int.reduceToNat, Int.reduceLE, Int.reduceLT, Int.reduceAdd, Int.reduceSub, Int.reduceMul, Int.reduceEq, Int.reduceNeg]
      refine ACalls.use0 (octet_U32_w N _ _ _ _ _ h_24) rfl rfl ?_
      refine CallK_go (Nat.zero_le _) ?_
      simp only [e_21, go_sem, reduceIte, reduceCtorEq, Nat.reduceEqDiff, Nat.reduceLT, Nat.reduceLeDiff, Nat.reduceAdd, Nat.reduceSub, Nat.reduceMul, Int.reduceToNat, Int.reduceLE, Int.reduceLT, Int.reduceAdd, Int.reduceSub, Int.reduceMul, Int.reduceEq, Int.reduceNeg]
      by_cases h_25 : y_23 = true
      · rw [if_pos h_25] at h
        have e_26 : y_23 = true := h_25
        simp only [e_21, e_26, go_sem, reduceIte, reduceCtorEq, Nat.reduceEqDiff, Nat.reduceLT, Nat.reduceLeDiff, Nat.reduceAdd, Nat.reduceSub, Nat.reduceMul, Int.reduceToNat, Int.reduceLE, Int.reduceLT, Int.reduceAdd, Int.reduceSub, Int.reduceMul, Int.reduceEq, Int.reduceNeg]
        by_cases h_27 : (l_0.length : Int) < y_22
        · rw [if_pos h_27] at h
          have e_28 : ((l_0.length : Int) < y_22) = True := eq_true h_27
          simp only [e_21, e_26, e_28, go_sem, reduceIte, reduceCtorEq, Nat.reduceEqDiff, Nat.reduceLT, Nat.reduceLeDiff, Nat.reduceAdd, Nat.reduceSub, Nat.reduceMul, Int.reduceToNat, Int.reduceLE, Int.reduceLT, Int.reduceAdd, Int.reduceSub, Int.reduceMul, Int.reduceEq, Int.reduceNeg]
          have g := Option.some.inj h
          subst g
          rw [← hQ]
          exact ⟨_, _, (Ref.out [6, 7] rfl), hp⟩
        · rw [if_neg h_27] at h
          have e_28 : ((l_0.length : Int) < y_22) = False := eq_false h_27
          obtain ⟨⟨y_29, y_30⟩, h_31, h⟩ := bindS h
          try dsimp only at h
          simp only [e_21, e_26, e_28, go_sem, reduceIte, reduceCtorEq, Nat.reduceEqDiff, Nat.reduceLT, Nat.reduceLeDiff, Nat.reduceAdd, Nat.reduceSub, Nat.reduceMul, Int.reduceToNat, Int.reduceLE, Int.reduceLT, Int.reduceAdd, Int.reduceSub, Int.reduceMul, Int.reduceEq, Int.reduceNeg]
          refine ACalls.use0 (octet_U16_w N _ _ _ _ _ h_31) rfl rfl ?_
          refine CallK_go (Nat.zero_le _) ?_
          simp only [e_21, e_26, e_28, go_sem, reduceIte, reduceCtorEq, Nat.reduceEqDiff, Nat.reduceLT, Nat.reduceLeDiff, Nat.reduceAdd, Nat.reduceSub, Nat.reduceMul, Int.reduceToNat, Int.reduceLE, Int.reduceLT, Int.reduceAdd, Int.reduceSub, Int.reduceMul, Int.reduceEq, Int.reduceNeg]
          by_cases h_32 : y_30 = true
          · rw [if_pos h_32] at h
            have e_33 : y_30 = true := h_32
            simp only [e_21, e_26, e_28, e_33, go_sem, reduceIte, reduceCtorEq, Nat.reduceEqDiff, Nat.reduceLT, Nat.reduceLeDiff, Nat.reduceAdd, Nat.reduceSub, Nat.reduceMul, Int.reduceToNat, Int.reduceLE, Int.reduceLT, Int.reduceAdd, Int.reduceSub, Int.reduceMul, Int.reduceEq, Int.reduceNeg]
            by_cases h_34 : y_29 = 12
            · rw [if_pos h_34] at h
              have e_35 : (y_29 = 12) = True := eq_true h_34
              simp only [e_21, e_26, e_28, e_33, e_35, go_sem, reduceIte, reduceCtorEq, Nat.reduceEqDiff, Nat.reduceLT, Nat.reduceLeDiff, Nat.reduceAdd, Nat.reduceSub, Nat.reduceMul, Int.reduceToNat, Int.reduceLE, Int.reduceLT, Int.reduceAdd, Int.reduceSub, Int.reduceMul, Int.reduceEq, Int.reduceNeg]
              by_cases h_36 : i_18 < 0
              · rw [if_pos h_36] at h
                have e_37 : (i_18 < 0) = True := eq_true h_36
                simp only [e_21, e_26, e_28, e_33, e_35, e_37, go_sem, reduceIte, reduceCtorEq, Nat.reduceEqDiff, Nat.reduceLT, Nat.reduceLeDiff, Nat.reduceAdd, Nat.reduceSub, Nat.reduceMul, Int.reduceToNat, Int.reduceLE, Int.reduceLT, Int.reduceAdd, Int.reduceSub, Int.reduceMul, Int.reduceEq, Int.reduceNeg]
                rw [← hQ]
                exact ⟨_, _, (Ref.std [0, 1, 2, 12, 51, 52] [0] (by decide) low0 rfl rfl), (Nat.zero_le _), ih _ _ _ _ h hp⟩
              · rw [if_neg h_36] at h
                have e_37 : (i_18 < 0) = False := eq_false h_36
                simp only [e_21, e_26, e_28, e_33, e_35, e_37, go_sem, reduceIte, reduceCtorEq, Nat.reduceEqDiff, Nat.reduceLT, Nat.reduceLeDiff, Nat.reduceAdd, Nat.reduceSub, Nat.reduceMul, Int.reduceToNat, Int.reduceLE, Int.reduceLT, Int.reduceAdd, Int.reduceSub, Int.reduceMul, Int.reduceEq, Int.reduceNeg]
                rw [← hQ]
                exact ⟨_, _, (Ref.std [0, 1, 2, 12, 51, 52] [0] (by decide) low0 rfl rfl), (Nat.zero_le _), ih _ _ _ _ h hp⟩
            · rw [if_neg h_34] at h
              have e_35 : (y_29 = 12) = False := eq_false h_34
              simp only [e_21, e_26, e_28, e_33, e_35, go_sem, reduceIte, reduceCtorEq, Nat.reduceEqDiff, Nat.reduceLT, Nat.reduceLeDiff, Nat.reduceAdd, Nat.reduceSub, Nat.reduceMul, Int.reduceToNat, Int.reduceLE, Int.reduceLT, Int.reduceAdd, Int.reduceSub, Int.reduceMul, Int.reduceEq, Int.reduceNeg]
              by_cases h_38 : y_29 = 4
              · rw [if_pos h_38] at h
                have e_39 : (y_29 = 4) = True := eq_true h_38
                simp only [e_21, e_26, e_28, e_33, e_35, e_39, go_sem, reduceIte, reduceCtorEq, Nat.reduceEqDiff, Nat.reduceLT, Nat.reduceLeDiff, Nat.reduceAdd, Nat.reduceSub, Nat.reduceMul, Int.reduceToNat, Int.reduceLE, Int.reduceLT, Int.reduceAdd, Int.reduceSub, Int.reduceMul, Int.reduceEq, Int.reduceNeg]
                by_cases h_40 : i_19 < 0
                · rw [if_pos h_40] at h
                  have e_41 : (i_19 < 0) = True := eq_true h_40
                  simp only [e_21, e_26, e_28, e_33, e_35, e_39, e_41, go_sem, reduceIte, reduceCtorEq, Nat.reduceEqDiff, Nat.reduceLT, Nat.reduceLeDiff, Nat.reduceAdd, Nat.reduceSub, Nat.reduceMul, Int.reduceToNat, Int.reduceLE, Int.reduceLT, Int.reduceAdd, Int.reduceSub, Int.reduceMul, Int.reduceEq, Int.reduceNeg]
                  rw [← hQ]
                  exact ⟨_, _, (Ref.std [0, 1, 2, 12, 51, 52] [0] (by decide) low0 rfl rfl), (Nat.zero_le _), ih _ _ _ _ h hp⟩
                · rw [if_neg h_40] at h
                  have e_41 : (i_19 < 0) = False := eq_false h_40
                  simp only [e_21, e_26, e_28, e_33, e_35, e_39, e_41, go_sem, reduceIte, reduceCtorEq, Nat.reduceEqDiff, Nat.reduceLT, Nat.reduceLeDiff, Nat.reduceAdd, Nat.reduceSub, Nat.reduceMul, Int.reduceToNat, Int.reduceLE, Int.reduceLT, Int.reduceAdd, Int.reduceSub, Int.reduceMul, Int.reduceEq, Int.reduceNeg]
                  rw [← hQ]
                  exact ⟨_, _, (Ref.std [0, 1, 2, 12, 51, 52] [0] (by decide) low0 rfl rfl), (Nat.zero_le _), ih _ _ _ _ h hp⟩
              · rw [if_neg h_38] at h
                have e_39 : (y_29 = 4) = False := eq_false h_38
                simp only [e_21, e_26, e_28, e_33, e_35, e_39, go_sem, reduceIte, reduceCtorEq, Nat.reduceEqDiff, Nat.reduceLT, Nat.reduceLeDiff, Nat.reduceAdd, Nat.reduceSub, Nat.reduceMul, Int.reduceToNat, Int.reduceLE, Int.reduceLT, Int.reduceAdd, Int.reduceSub, Int.reduceMul, Int.reduceEq, Int.reduceNeg]
                rw [← hQ]
                exact ⟨_, _, (Ref.std [0, 1, 2, 12, 51, 52] [0] (by decide) low0 rfl rfl), (Nat.zero_le _), ih _ _ _ _ h hp⟩
          · rw [if_neg h_32] at h
            have e_33 : y_30 = false := bfalse h_32
            simp only [e_21, e_26, e_28, e_33, go_sem, reduceIte, reduceCtorEq, Nat.reduceEqDiff, Nat.reduceLT, Nat.reduceLeDiff, Nat.reduceAdd, Nat.reduceSub, Nat.reduceMul, Int.reduceToNat, Int.reduceLE, Int.reduceLT, Int.reduceAdd, Int.reduceSub, Int.reduceMul, Int.reduceEq, Int.reduceNeg]
            have g := Option.some.inj h
            subst g
            rw [← hQ]
            exact ⟨_, _, (Ref.out [6, 7] rfl), hp⟩
      · rw [if_neg h_25] at h
        have e_26 : y_23 = false := bfalse h_25
        simp only [e_21, e_26, go_sem, reduceIte, reduceCtorEq, Nat.reduceEqDiff, Nat.reduceLT, Nat.reduceLeDiff, Nat.reduceAdd, Nat.reduceSub, Nat.reduceMul, Int.reduceToNat, Int.reduceLE, Int.reduceLT, Int.reduceAdd, Int.reduceSub, Int.reduceMul, Int.reduceEq, Int.reduceNeg]
        have g := Option.some.inj h
        subst g
        rw [← hQ]
        exact ⟨_, _, (Ref.out [6, 7] rfl), hp⟩
    · rw [if_neg h_20] at h
      have e_21 : (i_17 < y_8) = False := eq_false h_20
      simp only [e_21, go_sem, reduceIte, reduceCtorEq, Nat.reduceEqDiff, Nat.reduceLT, Nat.reduceLeDiff, Nat.reduceAdd, Nat.reduceSub, Nat.reduceMul, Int.reduceToNat, Int.reduceLE, Int.reduceLT, Int.reduceAdd, Int.reduceSub, Int.reduceMul, Int.reduceEq, Int.reduceNeg]
      have g := Option.some.inj h
      subst g
      rw [← hQ]
      exact ⟨_, _, (Ref.std [0, 2, 12] [0] (by decide) low0 rfl rfl), hp⟩
theorem gdef_list_add_row_w (N : Nat) (l_0 : List TGroup) (a_1 : Int) (a_2 : Int) (a_3 : Int) (a_4 : Int) (z_1 : List TGroup) (h : gdef_list_add_row N l_0 a_1 a_2 a_3 a_4 = some z_1) :
    ACalls Go.Proofs.Try.prog 91 [.ptr 0 0 0, .int .i64 a_2, .int .i64 a_3, .int .i64 a_4] [.box [.row 1 0 l_0.length, .int .i64 a_1] 113, .mem 3 (List.map eTGroup l_0) 76] (fun e H => H = [.box [.row 2 0 z_1.length, .int .i64 a_1] 113, .dead, .mem 3 (List.map eTGroup z_1) 76] ∧ e = .ret (.tup [])) := by
  unfold gdef_list_add_row at h
  refine ACalls.goN Go.Proofs.Try.func91 n91 a91 Go.Proofs.Try.ntmps91 r91 (by simp) 2 rfl ?_
  generalize hQ : bodyA _ _ _ = QQ
  simp only [A91, go_sem, reduceIte, reduceCtorEq, Nat.reduceEqDiff, Nat.reduceLT, Nat.reduceLeDiff, Nat.reduceAdd, Nat.reduceSub, Nat.reduceMul, Int.reduceToNat, Int.reduceLE, Int.reduceLT, Int.reduceAdd, Int.reduceSub, Int.reduceMul, Int.reduceEq, Int.reduceNeg]
  by_cases h_1 : a_4 = 0
  · rw [if_pos h_1] at h
    have e_2 : (a_4 = 0) = True := eq_true h_1
    simp only [e_2, go_sem, reduceIte, reduceCtorEq, Nat.reduceEqDiff, Nat.reduceLT, Nat.reduceLeDiff, Nat.reduceAdd, Nat.reduceSub, Nat.reduceMul, Int.reduceToNat, Int.reduceLE, Int.reduceLT, Int.reduceAdd, Int.reduceSub, Int.reduceMul, Int.reduceEq, Int.reduceNeg]
    by_cases h_3 : min a_3 (IntKind.i64.wrap ((IntKind.i64.wrap ((IntKind.i64.wrap ((IntKind.i64.wrap (a_2 + 1)) + a_1)) - 1)) - 1)) < IntKind.i64.wrap (a_2 + 1)
    · rw [if_pos h_3] at h
      have e_4 : (min a_3 (IntKind.i64.wrap ((IntKind.i64.wrap ((IntKind.i64.wrap ((IntKind.i64.wrap (a_2 + 1)) + a_1)) - 1)) - 1)) < IntKind.i64.wrap (a_2 + 1)) = True := eq_true h_3
      simp only [e_2, e_4, go_sem, reduceIte, reduceCtorEq, Nat.reduceEqDiff, Nat.reduceLT, Nat.reduceLeDiff, Nat.reduceAdd, Nat.reduceSub, Nat.reduceMul, Int.reduceToNat, Int.reduceLE, Int.reduceLT, Int.reduceAdd, Int.reduceSub, Int.reduceMul, Int.reduceEq, Int.reduceNeg]
      have g_0 := Option.some.inj h
      subst g_0
      rw [← hQ]
      exact ⟨rfl, _, rfl, _, _, (RefV.trans (RefV.move (by simp) (id := 1) rfl rfl) (RefV.std [0, 1, 2] (by decide) (by decide) (by first | rfl | simp only [go_sem, reduceIte, Nat.reduceEqDiff, Nat.reduceAdd, e_2, e_4]) (by first | rfl | simp only [go_sem, reduceIte, Nat.reduceEqDiff, Nat.reduceAdd, e_2, e_4]))), rfl, rfl⟩
    · rw [if_neg h_3] at h
      have e_4 : (min a_3 (IntKind.i64.wrap ((IntKind.i64.wrap ((IntKind.i64.wrap ((IntKind.i64.wrap (a_2 + 1)) + a_1)) - 1)) - 1)) < IntKind.i64.wrap (a_2 + 1)) = False := eq_false h_3
      simp only [e_2, e_4, go_sem, reduceIte, reduceCtorEq, Nat.reduceEqDiff, Nat.reduceLT, Nat.reduceLeDiff, Nat.reduceAdd, Nat.reduceSub, Nat.reduceMul, Int.reduceToNat, Int.reduceLE, Int.reduceLT, Int.reduceAdd, Int.reduceSub, Int.reduceMul, Int.reduceEq, Int.reduceNeg]
      by_cases h_5 : 0 < (l_0.length : Int)
      · rw [if_pos h_5] at h
        have e_6 : (0 < (l_0.length : Int)) = True := eq_true h_5
        obtain ⟨x_7, h_8, h⟩ := bindS h
        have e_9 : (List.map eTGroup l_0)[(IntKind.i64.wrap ((l_0.length : Int) - 1)).toNat]? = some [.int .i32 x_7.From, .int .i32 x_7.To, .int .i64 x_7.Glyph] := atI_map eTGroup h_8
        have e_10 : ((0 : Int) ≤ IntKind.i64.wrap ((l_0.length : Int) - 1)) = True := eq_true (atI_some h_8).1
        have e_11 : ((IntKind.i64.wrap ((l_0.length : Int) - 1) : Int) < (l_0.length : Int)) = True := eq_true (atI_lt h_8)
        simp only [e_2, e_4, e_6, e_9, e_10, e_11, go_sem, reduceIte, reduceCtorEq, Nat.reduceEqDiff, Nat.reduceLT, Nat.reduceLeDiff, Nat.reduceAdd, Nat.reduceSub, Nat.reduceMul, Int.reduceToNat, Int.reduceLE, Int.reduceLT, Int.reduceAdd, Int.reduceSub, Int.reduceMul, Int.reduceEq, Int.reduceNeg]
        by_cases h_12 : IntKind.i32.wrap (x_7.To + 1) = IntKind.i32.wrap (IntKind.i64.wrap (a_2 + 1))
        · rw [if_pos h_12] at h
          have e_13 : (IntKind.i32.wrap (x_7.To + 1) = IntKind.i32.wrap (IntKind.i64.wrap (a_2 + 1))) = True := eq_true h_12
          simp only [e_2, e_4, e_6, e_9, e_10, e_11, e_13, go_sem, reduceIte, reduceCtorEq, Nat.reduceEqDiff, Nat.reduceLT, Nat.reduceLeDiff, Nat.reduceAdd, Nat.reduceSub, Nat.reduceMul, Int.reduceToNat, Int.reduceLE, Int.reduceLT, Int.reduceAdd, Int.reduceSub, Int.reduceMul, Int.reduceEq, Int.reduceNeg]
          by_cases h_14 : IntKind.i64.wrap ((IntKind.i64.wrap (x_7.Glyph + (IntKind.i64.wrap (IntKind.i32.wrap (x_7.To - x_7.From))))) + 1) = 1
          · rw [if_pos h_14] at h
            have e_15 : (IntKind.i64.wrap ((IntKind.i64.wrap (x_7.Glyph + (IntKind.i64.wrap (IntKind.i32.wrap (x_7.To - x_7.From))))) + 1) = 1) = True := eq_true h_14
            have e_16 : (List.map eTGroup l_0).set (IntKind.i64.wrap ((l_0.length : Int) - 1)).toNat [.int .i32 x_7.From, .int .i32 (IntKind.i32.wrap (min a_3 (IntKind.i64.wrap ((IntKind.i64.wrap ((IntKind.i64.wrap ((IntKind.i64.wrap (a_2 + 1)) + a_1)) - 1)) - 1)))), .int .i64 x_7.Glyph] = List.map eTGroup (List.set l_0 (IntKind.i64.wrap ((l_0.length : Int) - 1)).toNat (TGroup.mk x_7.From (IntKind.i32.wrap (min a_3 (IntKind.i64.wrap ((IntKind.i64.wrap ((IntKind.i64.wrap ((IntKind.i64.wrap (a_2 + 1)) + a_1)) - 1)) - 1)))) x_7.Glyph)) := set_map l_0 eTGroup (IntKind.i64.wrap ((l_0.length : Int) - 1)).toNat (TGroup.mk x_7.From (IntKind.i32.wrap (min a_3 (IntKind.i64.wrap ((IntKind.i64.wrap ((IntKind.i64.wrap ((IntKind.i64.wrap (a_2 + 1)) + a_1)) - 1)) - 1)))) x_7.Glyph)
            simp only [e_2, e_4, e_6, e_9, e_10, e_11, e_13, e_15, e_16, go_sem, reduceIte, reduceCtorEq, Nat.reduceEqDiff, Nat.reduceLT, Nat.reduceLeDiff, Nat.reduceAdd, Nat.reduceSub, Nat.reduceMul, Int.reduceToNat, Int.reduceLE, Int.reduceLT, Int.reduceAdd, Int.reduceSub, Int.reduceMul, Int.reduceEq, Int.reduceNeg]
            have g_0 := Option.some.inj h
            subst g_0
            rw [← hQ]
            exact ⟨rfl, _, rfl, _, _, (RefV.trans (RefV.move (by simp) (id := 1) rfl rfl) (RefV.std [0, 1, 3] (by decide) (by decide) (by first | rfl | simp only [go_sem, reduceIte, Nat.reduceEqDiff, Nat.reduceAdd, e_2, e_4, e_6, e_13, e_15]) (by first | rfl | simp only [go_sem, reduceIte, Nat.reduceEqDiff, Nat.reduceAdd, e_2, e_4, e_6, e_13, e_15]))), rfl, rfl⟩
          · rw [if_neg h_14] at h
            have e_15 : (IntKind.i64.wrap ((IntKind.i64.wrap (x_7.Glyph + (IntKind.i64.wrap (IntKind.i32.wrap (x_7.To - x_7.From))))) + 1) = 1) = False := eq_false h_14
            have e_17 : List.take l_0.length (List.map eTGroup l_0) = (List.map eTGroup l_0) := List.take_of_length_le (by simp)
            have e_18 : (List.map eTGroup l_0) ++ [[.int .i32 (IntKind.i32.wrap (IntKind.i64.wrap (a_2 + 1))), .int .i32 (IntKind.i32.wrap (min a_3 (IntKind.i64.wrap ((IntKind.i64.wrap ((IntKind.i64.wrap ((IntKind.i64.wrap (a_2 + 1)) + a_1)) - 1)) - 1)))), .int .i64 1]] = (List.map eTGroup (l_0 ++ [TGroup.mk (IntKind.i32.wrap (IntKind.i64.wrap (a_2 + 1))) (IntKind.i32.wrap (min a_3 (IntKind.i64.wrap ((IntKind.i64.wrap ((IntKind.i64.wrap ((IntKind.i64.wrap (a_2 + 1)) + a_1)) - 1)) - 1)))) 1])) := app_map l_0 ([TGroup.mk (IntKind.i32.wrap (IntKind.i64.wrap (a_2 + 1))) (IntKind.i32.wrap (min a_3 (IntKind.i64.wrap ((IntKind.i64.wrap ((IntKind.i64.wrap ((IntKind.i64.wrap (a_2 + 1)) + a_1)) - 1)) - 1)))) 1]) eTGroup
            obtain ⟨h_19, h⟩ := guardS h
            have e_20 : ((l_0.length + 1) * 16 ≤ 140737488355328) = True := eq_true h_19
            simp only [e_2, e_4, e_6, e_9, e_10, e_11, e_13, e_15, e_17, e_18, e_20, go_sem, reduceIte, reduceCtorEq, Nat.reduceEqDiff, Nat.reduceLT, Nat.reduceLeDiff, Nat.reduceAdd, Nat.reduceSub, Nat.reduceMul, Int.reduceToNat, Int.reduceLE, Int.reduceLT, Int.reduceAdd, Int.reduceSub, Int.reduceMul, Int.reduceEq, Int.reduceNeg]
            have g_0 := Option.some.inj h
            subst g_0
            rw [← hQ]
            exact ⟨rfl, _, rfl, _, _, (RefV.std [0, 1, 3] (by decide) (by decide) rfl (by first | rfl | simp only [go_sem, reduceIte, Nat.reduceEqDiff, Nat.reduceAdd, e_2, e_4, e_6, e_13, e_15])), rfl, rfl⟩
        · rw [if_neg h_12] at h
          have e_13 : (IntKind.i32.wrap (x_7.To + 1) = IntKind.i32.wrap (IntKind.i64.wrap (a_2 + 1))) = False := eq_false h_12
          have e_21 : List.take l_0.length (List.map eTGroup l_0) = (List.map eTGroup l_0) := List.take_of_length_le (by simp)
          have e_22 : (List.map eTGroup l_0) ++ [[.int .i32 (IntKind.i32.wrap (IntKind.i64.wrap (a_2 + 1))), .int .i32 (IntKind.i32.wrap (min a_3 (IntKind.i64.wrap ((IntKind.i64.wrap ((IntKind.i64.wrap ((IntKind.i64.wrap (a_2 + 1)) + a_1)) - 1)) - 1)))), .int .i64 1]] = (List.map eTGroup (l_0 ++ [TGroup.mk (IntKind.i32.wrap (IntKind.i64.wrap (a_2 + 1))) (IntKind.i32.wrap (min a_3 (IntKind.i64.wrap ((IntKind.i64.wrap ((IntKind.i64.wrap ((IntKind.i64.wrap (a_2 + 1)) + a_1)) - 1)) - 1)))) 1])) := app_map l_0 ([TGroup.mk (IntKind.i32.wrap (IntKind.i64.wrap (a_2 + 1))) (IntKind.i32.wrap (min a_3 (IntKind.i64.wrap ((IntKind.i64.wrap ((IntKind.i64.wrap ((IntKind.i64.wrap (a_2 + 1)) + a_1)) - 1)) - 1)))) 1]) eTGroup
          obtain ⟨h_23, h⟩ := guardS h
          have e_24 : ((l_0.length + 1) * 16 ≤ 140737488355328) = True := eq_true h_23
          simp only [e_2, e_4, e_6, e_9, e_10, e_11, e_13, e_21, e_22, e_24, go_sem, reduceIte, reduceCtorEq, Nat.reduceEqDiff, Nat.reduceLT, Nat.reduceLeDiff, Nat.reduceAdd, Nat.reduceSub, Nat.reduceMul, Int.reduceToNat, Int.reduceLE, Int.reduceLT, Int.reduceAdd, Int.reduceSub, Int.reduceMul, Int.reduceEq, Int.reduceNeg]
          have g_0 := Option.some.inj h
          subst g_0
          rw [← hQ]
          exact ⟨rfl, _, rfl, _, _, (RefV.std [0, 1, 3] (by decide) (by decide) rfl (by first | rfl | simp only [go_sem, reduceIte, Nat.reduceEqDiff, Nat.reduceAdd, e_2, e_4, e_6, e_13])), rfl, rfl⟩
      · rw [if_neg h_5] at h
        have e_6 : (0 < (l_0.length : Int)) = False := eq_false h_5
        have e_25 : List.take l_0.length (List.map eTGroup l_0) = (List.map eTGroup l_0) := List.take_of_length_le (by simp)
        have e_26 : (List.map eTGroup l_0) ++ [[.int .i32 (IntKind.i32.wrap (IntKind.i64.wrap (a_2 + 1))), .int .i32 (IntKind.i32.wrap (min a_3 (IntKind.i64.wrap ((IntKind.i64.wrap ((IntKind.i64.wrap ((IntKind.i64.wrap (a_2 + 1)) + a_1)) - 1)) - 1)))), .int .i64 1]] = (List.map eTGroup (l_0 ++ [TGroup.mk (IntKind.i32.wrap (IntKind.i64.wrap (a_2 + 1))) (IntKind.i32.wrap (min a_3 (IntKind.i64.wrap ((IntKind.i64.wrap ((IntKind.i64.wrap ((IntKind.i64.wrap (a_2 + 1)) + a_1)) - 1)) - 1)))) 1])) := app_map l_0 ([TGroup.mk (IntKind.i32.wrap (IntKind.i64.wrap (a_2 + 1))) (IntKind.i32.wrap (min a_3 (IntKind.i64.wrap ((IntKind.i64.wrap ((IntKind.i64.wrap ((IntKind.i64.wrap (a_2 + 1)) + a_1)) - 1)) - 1)))) 1]) eTGroup
        obtain ⟨h_27, h⟩ := guardS h
        have e_28 : ((l_0.length + 1) * 16 ≤ 140737488355328) = True := eq_true h_27
        simp only [e_2, e_4, e_6, e_25, e_26, e_28, go_sem, reduceIte, reduceCtorEq, Nat.reduceEqDiff, Nat.reduceLT, Nat.reduceLeDiff, Nat.reduceAdd, Nat.reduceSub, Nat.reduceMul, Int.reduceToNat, Int.reduceLE, Int.reduceLT, Int.reduceAdd, Int.reduceSub, Int.reduceMul, Int.reduceEq, Int.reduceNeg]
        have g_0 := Option.some.inj h
        subst g_0
        rw [← hQ]
        exact ⟨rfl, _, rfl, _, _, (RefV.std [0, 1, 3] (by decide) (by decide) rfl (by first | rfl | simp only [go_sem, reduceIte, Nat.reduceEqDiff, Nat.reduceAdd, e_2, e_4, e_6])), rfl, rfl⟩
  · rw [if_neg h_1] at h
    have e_2 : (a_4 = 0) = False := eq_false h_1
    simp only [e_2, go_sem, reduceIte, reduceCtorEq, Nat.reduceEqDiff, Nat.reduceLT, Nat.reduceLeDiff, Nat.reduceAdd, Nat.reduceSub, Nat.reduceMul, Int.reduceToNat, Int.reduceLE, Int.reduceLT, Int.reduceAdd, Int.reduceSub, Int.reduceMul, Int.reduceEq, Int.reduceNeg]
    by_cases h_29 : min a_3 (IntKind.i64.wrap ((IntKind.i64.wrap ((IntKind.i64.wrap (a_2 + a_1)) - 1)) - a_4)) < a_2
    · rw [if_pos h_29] at h
      have e_30 : (min a_3 (IntKind.i64.wrap ((IntKind.i64.wrap ((IntKind.i64.wrap (a_2 + a_1)) - 1)) - a_4)) < a_2) = True := eq_true h_29
      simp only [e_2, e_30, go_sem, reduceIte, reduceCtorEq, Nat.reduceEqDiff, Nat.reduceLT, Nat.reduceLeDiff, Nat.reduceAdd, Nat.reduceSub, Nat.reduceMul, Int.reduceToNat, Int.reduceLE, Int.reduceLT, Int.reduceAdd, Int.reduceSub, Int.reduceMul, Int.reduceEq, Int.reduceNeg]
      have g_0 := Option.some.inj h
      subst g_0
      rw [← hQ]
      exact ⟨rfl, _, rfl, _, _, (RefV.trans (RefV.move (by simp) (id := 1) rfl rfl) (RefV.std [0, 1, 2] (by decide) (by decide) (by first | rfl | simp only [go_sem, reduceIte, Nat.reduceEqDiff, Nat.reduceAdd, e_2, e_30]) (by first | rfl | simp only [go_sem, reduceIte, Nat.reduceEqDiff, Nat.reduceAdd, e_2, e_30]))), rfl, rfl⟩
    · rw [if_neg h_29] at h
      have e_30 : (min a_3 (IntKind.i64.wrap ((IntKind.i64.wrap ((IntKind.i64.wrap (a_2 + a_1)) - 1)) - a_4)) < a_2) = False := eq_false h_29
      simp only [e_2, e_30, go_sem, reduceIte, reduceCtorEq, Nat.reduceEqDiff, Nat.reduceLT, Nat.reduceLeDiff, Nat.reduceAdd, Nat.reduceSub, Nat.reduceMul, Int.reduceToNat, Int.reduceLE, Int.reduceLT, Int.reduceAdd, Int.reduceSub, Int.reduceMul, Int.reduceEq, Int.reduceNeg]
      by_cases h_31 : 0 < (l_0.length : Int)
      · rw [if_pos h_31] at h
        have e_32 : (0 < (l_0.length : Int)) = True := eq_true h_31
        obtain ⟨x_33, h_34, h⟩ := bindS h
        have e_35 : (List.map eTGroup l_0)[(IntKind.i64.wrap ((l_0.length : Int) - 1)).toNat]? = some [.int .i32 x_33.From, .int .i32 x_33.To, .int .i64 x_33.Glyph] := atI_map eTGroup h_34
        have e_36 : ((0 : Int) ≤ IntKind.i64.wrap ((l_0.length : Int) - 1)) = True := eq_true (atI_some h_34).1
        have e_37 : ((IntKind.i64.wrap ((l_0.length : Int) - 1) : Int) < (l_0.length : Int)) = True := eq_true (atI_lt h_34)
        simp only [e_2, e_30, e_32, e_35, e_36, e_37, go_sem, reduceIte, reduceCtorEq, Nat.reduceEqDiff, Nat.reduceLT, Nat.reduceLeDiff, Nat.reduceAdd, Nat.reduceSub, Nat.reduceMul, Int.reduceToNat, Int.reduceLE, Int.reduceLT, Int.reduceAdd, Int.reduceSub, Int.reduceMul, Int.reduceEq, Int.reduceNeg]
        by_cases h_38 : IntKind.i32.wrap (x_33.To + 1) = IntKind.i32.wrap a_2
        · rw [if_pos h_38] at h
          have e_39 : (IntKind.i32.wrap (x_33.To + 1) = IntKind.i32.wrap a_2) = True := eq_true h_38
          simp only [e_2, e_30, e_32, e_35, e_36, e_37, e_39, go_sem, reduceIte, reduceCtorEq, Nat.reduceEqDiff, Nat.reduceLT, Nat.reduceLeDiff, Nat.reduceAdd, Nat.reduceSub, Nat.reduceMul, Int.reduceToNat, Int.reduceLE, Int.reduceLT, Int.reduceAdd, Int.reduceSub, Int.reduceMul, Int.reduceEq, Int.reduceNeg]
          by_cases h_40 : IntKind.i64.wrap ((IntKind.i64.wrap (x_33.Glyph + (IntKind.i64.wrap (IntKind.i32.wrap (x_33.To - x_33.From))))) + 1) = a_4
          · rw [if_pos h_40] at h
            have e_41 : (IntKind.i64.wrap ((IntKind.i64.wrap (x_33.Glyph + (IntKind.i64.wrap (IntKind.i32.wrap (x_33.To - x_33.From))))) + 1) = a_4) = True := eq_true h_40
            have e_42 : (List.map eTGroup l_0).set (IntKind.i64.wrap ((l_0.length : Int) - 1)).toNat [.int .i32 x_33.From, .int .i32 (IntKind.i32.wrap (min a_3 (IntKind.i64.wrap ((IntKind.i64.wrap ((IntKind.i64.wrap (a_2 + a_1)) - 1)) - a_4)))), .int .i64 x_33.Glyph] = List.map eTGroup (List.set l_0 (IntKind.i64.wrap ((l_0.length : Int) - 1)).toNat (TGroup.mk x_33.From (IntKind.i32.wrap (min a_3 (IntKind.i64.wrap ((IntKind.i64.wrap ((IntKind.i64.wrap (a_2 + a_1)) - 1)) - a_4)))) x_33.Glyph)) := set_map l_0 eTGroup (IntKind.i64.wrap ((l_0.length : Int) - 1)).toNat (TGroup.mk x_33.From (IntKind.i32.wrap (min a_3 (IntKind.i64.wrap ((IntKind.i64.wrap ((IntKind.i64.wrap (a_2 + a_1)) - 1)) - a_4)))) x_33.Glyph)
            simp only [e_2, e_30, e_32, e_35, e_36, e_37, e_39, e_41, e_42, go_sem, reduceIte, reduceCtorEq, Nat.reduceEqDiff, Nat.reduceLT, Nat.reduceLeDiff, Nat.reduceAdd, Nat.reduceSub, Nat.reduceMul, Int.reduceToNat, Int.reduceLE, Int.reduceLT, Int.reduceAdd, Int.reduceSub, Int.reduceMul, Int.reduceEq, Int.reduceNeg]
            have g_0 := Option.some.inj h
            subst g_0
            rw [← hQ]
            exact ⟨rfl, _, rfl, _, _, (RefV.trans (RefV.move (by simp) (id := 1) rfl rfl) (RefV.std [0, 1, 3] (by decide) (by decide) (by first | rfl | simp only [go_sem, reduceIte, Nat.reduceEqDiff, Nat.reduceAdd, e_2, e_30, e_32, e_39, e_41]) (by first | rfl | simp only [go_sem, reduceIte, Nat.reduceEqDiff, Nat.reduceAdd, e_2, e_30, e_32, e_39, e_41]))), rfl, rfl⟩
          · rw [if_neg h_40] at h
            have e_41 : (IntKind.i64.wrap ((IntKind.i64.wrap (x_33.Glyph + (IntKind.i64.wrap (IntKind.i32.wrap (x_33.To - x_33.From))))) + 1) = a_4) = False := eq_false h_40
            have e_43 : List.take l_0.length (List.map eTGroup l_0) = (List.map eTGroup l_0) := List.take_of_length_le (by simp)
            have e_44 : (List.map eTGroup l_0) ++ [[.int .i32 (IntKind.i32.wrap a_2), .int .i32 (IntKind.i32.wrap (min a_3 (IntKind.i64.wrap ((IntKind.i64.wrap ((IntKind.i64.wrap (a_2 + a_1)) - 1)) - a_4)))), .int .i64 a_4]] = (List.map eTGroup (l_0 ++ [TGroup.mk (IntKind.i32.wrap a_2) (IntKind.i32.wrap (min a_3 (IntKind.i64.wrap ((IntKind.i64.wrap ((IntKind.i64.wrap (a_2 + a_1)) - 1)) - a_4)))) a_4])) := app_map l_0 ([TGroup.mk (IntKind.i32.wrap a_2) (IntKind.i32.wrap (min a_3 (IntKind.i64.wrap ((IntKind.i64.wrap ((IntKind.i64.wrap (a_2 + a_1)) - 1)) - a_4)))) a_4]) eTGroup
            obtain ⟨h_45, h⟩ := guardS h
            have e_46 : ((l_0.length + 1) * 16 ≤ 140737488355328) = True := eq_true h_45
            simp only [e_2, e_30, e_32, e_35, e_36, e_37, e_39, e_41, e_43, e_44, e_46, go_sem, reduceIte, reduceCtorEq, Nat.reduceEqDiff, Nat.reduceLT, Nat.reduceLeDiff, Nat.reduceAdd, Nat.reduceSub, Nat.reduceMul, Int.reduceToNat, Int.reduceLE, Int.reduceLT, Int.reduceAdd, Int.reduceSub, Int.reduceMul, Int.reduceEq, Int.reduceNeg]
            have g_0 := Option.some.inj h
            subst g_0
            rw [← hQ]
            exact ⟨rfl, _, rfl, _, _, (RefV.std [0, 1, 3] (by decide) (by decide) rfl (by first | rfl | simp only [go_sem, reduceIte, Nat.reduceEqDiff, Nat.reduceAdd, e_2, e_30, e_32, e_39, e_41])), rfl, rfl⟩
        · rw [if_neg h_38] at h
          have e_39 : (IntKind.i32.wrap (x_33.To + 1) = IntKind.i32.wrap a_2) = False := eq_false h_38
          have e_47 : List.take l_0.length (List.map eTGroup l_0) = (List.map eTGroup l_0) := List.take_of_length_le (by simp)
          have e_48 : (List.map eTGroup l_0) ++ [[.int .i32 (IntKind.i32.wrap a_2), .int .i32 (IntKind.i32.wrap (min a_3 (IntKind.i64.wrap ((IntKind.i64.wrap ((IntKind.i64.wrap (a_2 + a_1)) - 1)) - a_4)))), .int .i64 a_4]] = (List.map eTGroup (l_0 ++ [TGroup.mk (IntKind.i32.wrap a_2) (IntKind.i32.wrap (min a_3 (IntKind.i64.wrap ((IntKind.i64.wrap ((IntKind.i64.wrap (a_2 + a_1)) - 1)) - a_4)))) a_4])) := app_map l_0 ([TGroup.mk (IntKind.i32.wrap a_2) (IntKind.i32.wrap (min a_3 (IntKind.i64.wrap ((IntKind.i64.wrap ((IntKind.i64.wrap (a_2 + a_1)) - 1)) - a_4)))) a_4]) eTGroup
          obtain ⟨h_49, h⟩ := guardS h
          have e_50 : ((l_0.length + 1) * 16 ≤ 140737488355328) = True := eq_true h_49
          simp only [e_2, e_30, e_32, e_35, e_36, e_37, e_39, e_47, e_48, e_50, go_sem, reduceIte, reduceCtorEq, Nat.reduceEqDiff, Nat.reduceLT, Nat.reduceLeDiff, Nat.reduceAdd, Nat.reduceSub, Nat.reduceMul, Int.reduceToNat, Int.reduceLE, Int.reduceLT, Int.reduceAdd, Int.reduceSub, Int.reduceMul, Int.reduceEq, Int.reduceNeg]
          have g_0 := Option.some.inj h
          subst g_0
          rw [← hQ]
          exact ⟨rfl, _, rfl, _, _, (RefV.std [0, 1, 3] (by decide) (by decide) rfl (by first | rfl | simp only [go_sem, reduceIte, Nat.reduceEqDiff, Nat.reduceAdd, e_2, e_30, e_32, e_39])), rfl, rfl⟩
      · rw [if_neg h_31] at h
        have e_32 : (0 < (l_0.length : Int)) = False := eq_false h_31
        have e_51 : List.take l_0.length (List.map eTGroup l_0) = (List.map eTGroup l_0) := List.take_of_length_le (by simp)
        have e_52 : (List.map eTGroup l_0) ++ [[.int .i32 (IntKind.i32.wrap a_2), .int .i32 (IntKind.i32.wrap (min a_3 (IntKind.i64.wrap ((IntKind.i64.wrap ((IntKind.i64.wrap (a_2 + a_1)) - 1)) - a_4)))), .int .i64 a_4]] = (List.map eTGroup (l_0 ++ [TGroup.mk (IntKind.i32.wrap a_2) (IntKind.i32.wrap (min a_3 (IntKind.i64.wrap ((IntKind.i64.wrap ((IntKind.i64.wrap (a_2 + a_1)) - 1)) - a_4)))) a_4])) := app_map l_0 ([TGroup.mk (IntKind.i32.wrap a_2) (IntKind.i32.wrap (min a_3 (IntKind.i64.wrap ((IntKind.i64.wrap ((IntKind.i64.wrap (a_2 + a_1)) - 1)) - a_4)))) a_4]) eTGroup
        obtain ⟨h_53, h⟩ := guardS h
        have e_54 : ((l_0.length + 1) * 16 ≤ 140737488355328) = True := eq_true h_53
        simp only [e_2, e_30, e_32, e_51, e_52, e_54, go_sem, reduceIte, reduceCtorEq, Nat.reduceEqDiff, Nat.reduceLT, Nat.reduceLeDiff, Nat.reduceAdd, Nat.reduceSub, Nat.reduceMul, Int.reduceToNat, Int.reduceLE, Int.reduceLT, Int.reduceAdd, Int.reduceSub, Int.reduceMul, Int.reduceEq, Int.reduceNeg]
        have g_0 := Option.some.inj h
        subst g_0
        rw [← hQ]
        exact ⟨rfl, _, rfl, _, _, (RefV.std [0, 1, 3] (by decide) (by decide) rfl (by first | rfl | simp only [go_sem, reduceIte, Nat.reduceEqDiff, Nat.reduceAdd, e_2, e_30, e_32])), rfl, rfl⟩
theorem gdef_list_wide_nil_L1_w (N : Nat) (y_8 : List Int) (y_9 : Bool) (a_0 : Int) {R : AExit → ATm → List AObj → Prop} : ∀ (n : Nat) (i_11 : Int) (i_12 : Int) (s_13 : List TGroup) (o : ((List TGroup)) ⊕ ((List TGroup))), gdef_list_wide_nil_L1 N y_8 y_9 a_0 n i_11 i_12 s_13 = some o → (match o with | .inl z_1 => R (.exit 0) ⟨76, [(10, .bool y_9)], []⟩ [.box [.row 1 0 z_1.length, .int .i64 a_0] 113, .mem 3 (List.map eTGroup z_1) 76] | .inr (z_1) => R .ret ⟨76, [(6, .bool false)], []⟩ [.box [.row 1 0 z_1.length, .int .i64 a_0] 113, .mem 3 (List.map eTGroup z_1) 76]) →
    ALp Go.Proofs.Try.prog 1 B75_1 ⟨76, [(0, .ptr 0 0 0), (9, .vec false (List.map eI64 y_8)), (10, .bool y_9), (11, .int .i64 i_11), (12, .int .i64 i_12)], []⟩ [.box [.row 1 0 s_13.length, .int .i64 a_0] 113, .mem 3 (List.map eTGroup s_13) 76] R := by
  intro n
  induction n with
  | zero =>
    intro i_11 i_12 s_13 o h _
    have h0 : none = some o := h
    cases h0
  | succ n ih =>
    intro i_11 i_12 s_13 o h hp
    rw [gdef_list_wide_nil_L1] at h
    refine ALp.round ?_
    generalize hQ : RoundQ _ _ _ _ = QQ
    simp only [B75_1, A75, go_sem, reduceIte, reduceCtorEq, Nat.reduceEqDiff, Nat.reduceLT, Nat.reduceLeDiff, Nat.reduceAdd, Nat.reduceSub, Nat.reduceMul, Int.reduceToNat, Int.reduceLE, Int.reduceLT, Int.reduceAdd, Int.reduceSub, Int.reduceMul, Int.reduceEq, Int.reduceNeg]
    by_cases h_14 : IntKind.i64.wrap (i_12 + 2) < (y_8.length : Int)
    · rw [if_pos h_14] at h
      have e_15 : (IntKind.i64.wrap (i_12 + 2) < (y_8.length : Int)) = True := eq_true h_14
      obtain ⟨x_16, h_17, h⟩ := bindS h
      have e_18 : (List.map eI64 y_8)[(i_12).toNat]? = some [.int .i64 x_16] := atI_map eI64 h_17
      have e_19 : ((0 : Int) ≤ i_12) = True := eq_true (atI_some h_17).1
      have e_20 : ((i_12 : Int) < (y_8.length : Int)) = True := eq_true (atI_lt h_17)
      obtain ⟨x_21, h_22, h⟩ := bindS h
      have e_23 : (List.map eI64 y_8)[(IntKind.i64.wrap (i_12 + 1)).toNat]? = some [.int .i64 x_21] := atI_map eI64 h_22
      have e_24 : ((0 : Int) ≤ IntKind.i64.wrap (i_12 + 1)) = True := eq_true (atI_some h_22).1
      have e_25 : ((IntKind.i64.wrap (i_12 + 1) : Int) < (y_8.length : Int)) = True := eq_true (atI_lt h_22)
      simp only [e_15, e_18, e_19, e_20, e_23, e_24, e_25, go_sem, reduceIte, reduceCtorEq, Nat.reduceEqDiff, Nat.reduceLT, Nat.reduceLeDiff, Nat.reduceAdd, Nat.reduceSub, Nat.reduceMul, Int.reduceToNat, Int.reduceLE, Int.reduceLT, Int.reduceAdd, Int.reduceSub, Int.reduceMul, Int.reduceEq, Int.reduceNeg]
      by_cases h_26 : x_16 ≤ i_11
      · rw [if_pos h_26] at h
        have e_27 : (x_16 ≤ i_11) = True := eq_true h_26
        simp only [e_15, e_18, e_19, e_20, e_23, e_24, e_25, e_27, go_sem, reduceIte, reduceCtorEq, Nat.reduceEqDiff, Nat.reduceLT, Nat.reduceLeDiff, Nat.reduceAdd, Nat.reduceSub, Nat.reduceMul, Int.reduceToNat, Int.reduceLE, Int.reduceLT, Int.reduceAdd, Int.reduceSub, Int.reduceMul, Int.reduceEq, Int.reduceNeg]
        have g := Option.some.inj h
        subst g
        rw [← hQ]
        exact ⟨_, _, (Ref.std [6] [0, 1] (by decide) (by decide) rfl (by first | rfl | simp only [go_sem, reduceIte, Nat.reduceEqDiff, Nat.reduceAdd])), hp⟩
      · rw [if_neg h_26] at h
        have e_27 : (x_16 ≤ i_11) = False := eq_false h_26
        simp only [e_15, e_18, e_19, e_20, e_23, e_24, e_25, e_27, go_sem, reduceIte, reduceCtorEq, Nat.reduceEqDiff, Nat.reduceLT, Nat.reduceLeDiff, Nat.reduceAdd, Nat.reduceSub, Nat.reduceMul, Int.reduceToNat, Int.reduceLE, Int.reduceLT, Int.reduceAdd, Int.reduceSub, Int.reduceMul, Int.reduceEq, Int.reduceNeg]
        by_cases h_28 : x_21 < x_16
        · rw [if_pos h_28] at h
          have e_29 : (x_21 < x_16) = True := eq_true h_28
          simp only [e_15, e_18, e_19, e_20, e_23, e_24, e_25, e_27, e_29, go_sem, reduceIte, reduceCtorEq, Nat.reduceEqDiff, Nat.reduceLT, Nat.reduceLeDiff, Nat.reduceAdd, Nat.reduceSub, Nat.reduceMul, Int.reduceToNat, Int.reduceLE, Int.reduceLT, Int.reduceAdd, Int.reduceSub, Int.reduceMul, Int.reduceEq, Int.reduceNeg]
          have g := Option.some.inj h
          subst g
          rw [← hQ]
          exact ⟨_, _, (Ref.std [6] [0, 1] (by decide) (by decide) rfl (by first | rfl | simp only [go_sem, reduceIte, Nat.reduceEqDiff, Nat.reduceAdd])), hp⟩
        · rw [if_neg h_28] at h
          have e_29 : (x_21 < x_16) = False := eq_false h_28
          simp only [e_15, e_18, e_19, e_20, e_23, e_24, e_25, e_27, e_29, go_sem, reduceIte, reduceCtorEq, Nat.reduceEqDiff, Nat.reduceLT, Nat.reduceLeDiff, Nat.reduceAdd, Nat.reduceSub, Nat.reduceMul, Int.reduceToNat, Int.reduceLE, Int.reduceLT, Int.reduceAdd, Int.reduceSub, Int.reduceMul, Int.reduceEq, Int.reduceNeg]
          by_cases h_30 : 1114111 < x_21
          · rw [if_pos h_30] at h
            have e_31 : (1114111 < x_21) = True := eq_true h_30
            simp only [e_15, e_18, e_19, e_20, e_23, e_24, e_25, e_27, e_29, e_31, go_sem, reduceIte, reduceCtorEq, Nat.reduceEqDiff, Nat.reduceLT, Nat.reduceLeDiff, Nat.reduceAdd, Nat.reduceSub, Nat.reduceMul, Int.reduceToNat, Int.reduceLE, Int.reduceLT, Int.reduceAdd, Int.reduceSub, Int.reduceMul, Int.reduceEq, Int.reduceNeg]
            have g := Option.some.inj h
            subst g
            rw [← hQ]
            exact ⟨_, _, (Ref.std [6] [0, 1] (by decide) (by decide) rfl (by first | rfl | simp only [go_sem, reduceIte, Nat.reduceEqDiff, Nat.reduceAdd])), hp⟩
          · rw [if_neg h_30] at h
            have e_31 : (1114111 < x_21) = False := eq_false h_30
            obtain ⟨x_32, h_33, h⟩ := bindS h
            have e_34 : (List.map eI64 y_8)[(IntKind.i64.wrap (i_12 + 2)).toNat]? = some [.int .i64 x_32] := atI_map eI64 h_33
            have e_35 : ((0 : Int) ≤ IntKind.i64.wrap (i_12 + 2)) = True := eq_true (atI_some h_33).1
            have e_36 : ((IntKind.i64.wrap (i_12 + 2) : Int) < (y_8.length : Int)) = True := eq_true (atI_lt h_33)
            obtain ⟨y_37, h_38, h⟩ := bindS h
            simp only [e_15, e_18, e_19, e_20, e_23, e_24, e_25, e_27, e_29, e_31, e_34, e_35, e_36, go_sem, reduceIte, reduceCtorEq, Nat.reduceEqDiff, Nat.reduceLT, Nat.reduceLeDiff, Nat.reduceAdd, Nat.reduceSub, Nat.reduceMul, Int.reduceToNat, Int.reduceLE, Int.reduceLT, Int.reduceAdd, Int.reduceSub, Int.reduceMul, Int.reduceEq, Int.reduceNeg]
            refine ACalls.use (gdef_list_add_row_w N _ _ _ _ _ _ h_38) [0, 1] (by decide) ⟨(by first | rfl | simp only [go_sem, reduceIte, Nat.reduceEqDiff, Nat.reduceAdd, e_15, e_27, e_29, e_31]), (by first | rfl | simp only [go_sem, reduceIte, Nat.reduceEqDiff, Nat.reduceAdd, e_15, e_27, e_29, e_31]), trivial⟩ rfl (v' := .tup []) (by first | rfl | simp only [go_sem, reduceIte, Nat.reduceEqDiff, Nat.reduceAdd, e_15, e_27, e_29, e_31]) (H' := [.box [.row 2 0 y_37.length, .int .i64 a_0] 113, .dead, .mem 3 (List.map eTGroup y_37) 76]) (by first | rfl | simp only [go_sem, reduceIte, Nat.reduceEqDiff, Nat.reduceAdd, e_15, e_27, e_29, e_31]) ?_
            refine CallK_go (by simp) ?_
            simp only [e_15, e_18, e_19, e_20, e_23, e_24, e_25, e_27, e_29, e_31, e_34, e_35, e_36, go_sem, reduceIte, reduceCtorEq, Nat.reduceEqDiff, Nat.reduceLT, Nat.reduceLeDiff, Nat.reduceAdd, Nat.reduceSub, Nat.reduceMul, Int.reduceToNat, Int.reduceLE, Int.reduceLT, Int.reduceAdd, Int.reduceSub, Int.reduceMul, Int.reduceEq, Int.reduceNeg]
            rw [← hQ]
            exact ⟨_, _, (Ref.std [0, 9, 10, 11, 12] [0, 2] (by decide) (by decide) (by first | rfl | simp only [go_sem, reduceIte, Nat.reduceEqDiff, Nat.reduceAdd, e_15, e_27, e_29, e_31]) (by first | rfl | simp only [go_sem, reduceIte, Nat.reduceEqDiff, Nat.reduceAdd])), (by simp), ih _ _ _ _ h hp⟩
    · rw [if_neg h_14] at h
      have e_15 : (IntKind.i64.wrap (i_12 + 2) < (y_8.length : Int)) = False := eq_false h_14
      simp only [e_15, go_sem, reduceIte, reduceCtorEq, Nat.reduceEqDiff, Nat.reduceLT, Nat.reduceLeDiff, Nat.reduceAdd, Nat.reduceSub, Nat.reduceMul, Int.reduceToNat, Int.reduceLE, Int.reduceLT, Int.reduceAdd, Int.reduceSub, Int.reduceMul, Int.reduceEq, Int.reduceNeg]
      have g := Option.some.inj h
      subst g
      rw [← hQ]
      exact ⟨_, _, (Ref.std [10] [0, 1] (by decide) (by decide) (by first | rfl | simp only [go_sem, reduceIte, Nat.reduceEqDiff, Nat.reduceAdd, e_15]) (by first | rfl | simp only [go_sem, reduceIte, Nat.reduceEqDiff, Nat.reduceAdd])), hp⟩
end Go.Proofs.Ytakplhfiohjcmaa.AI
