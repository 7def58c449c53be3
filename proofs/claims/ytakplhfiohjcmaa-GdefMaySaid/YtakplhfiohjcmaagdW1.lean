/- Walks: printed by a program (pw.py); each shows that a function answers what is told plainly. -/
import Derived.Test.YtakplhfiohjcmaagdP
import Derived.Test.YtakplhfiohjcmaagdA
set_option linter.unusedVariables false
set_option linter.unusedSimpArgs false
set_option maxRecDepth 100000
set_option maxHeartbeats 1000000
namespace Go.Proofs.Ytakplhfiohjcmaa.AI
open Go.Proofs (Try.prog)
def eU8 (x : Int) : List AV := [.int .u8 x]
theorem subs_eU8 (S : Sub) (l : List Int) : (List.map eU8 l).map (subs S) = List.map eU8 l := subs_map S l eU8 (fun _ => rfl)
def eI64 (x : Int) : List AV := [.int .i64 x]
theorem subs_eI64 (S : Sub) (l : List Int) : (List.map eI64 l).map (subs S) = List.map eI64 l := subs_map S l eI64 (fun _ => rfl)
def eTGroup (x : TGroup) : List AV := [.int .i32 x.From, .int .i32 x.To, .int .i64 x.Glyph]
theorem subs_eTGroup (S : Sub) (l : List TGroup) : (List.map eTGroup l).map (subs S) = List.map eTGroup l := subs_map S l eTGroup (fun _ => rfl)
def eTClass (x : TClass) : List AV := [.int .i64 x.From, .int .i64 x.To, .int .i64 x.Class]
theorem subs_eTClass (S : Sub) (l : List TClass) : (List.map eTClass l).map (subs S) = List.map eTClass l := subs_map S l eTClass (fun _ => rfl)
def eTArr3_I64 (x : TArr3_I64) : List AV := [.int .i64 x.e0, .int .i64 x.e1, .int .i64 x.e2]
theorem subs_eTArr3_I64 (S : Sub) (l : List TArr3_I64) : (List.map eTArr3_I64 l).map (subs S) = List.map eTArr3_I64 l := subs_map S l eTArr3_I64 (fun _ => rfl)
def eTSpan (x : TSpan) : List AV := [.int .i64 x.From, .int .i64 x.To]
theorem subs_eTSpan (S : Sub) (l : List TSpan) : (List.map eTSpan l).map (subs S) = List.map eTSpan l := subs_map S l eTSpan (fun _ => rfl)
def eLTSpan (x : List TSpan) : List AV := [.vec false (List.map eTSpan x)]
theorem subs_eLTSpan (S : Sub) (l : List (List TSpan)) : (List.map eLTSpan l).map (subs S) = List.map eLTSpan l := subs_map S l eLTSpan (fun _ => rfl)
def eB (x : Bool) : List AV := [.bool x]
theorem subs_eB (S : Sub) (l : List Bool) : (List.map eB l).map (subs S) = List.map eB l := subs_map S l eB (fun _ => rfl)
attribute [local go_sem] subs_eU8 subs_eI64 subs_eTGroup subs_eTClass subs_eTArr3_I64 subs_eTSpan subs_eLTSpan subs_eB
def tab_alive15 : List (Nat × ACode × Nat × List RV) := [E18, E20, E26, E29, E42, E43, E46, E48, E49, E51, E53, E54, E55, E57, E58, E59, E60, E61, E70, E71, E72, E73, E75, E76, E77, E78, E79, E80, E91, E92]
theorem tab_alive15_ok : AllOk Go.Proofs.Try.prog tab_alive15 := ⟨e18, e20, e26, e29, e42, e43, e46, e48, e49, e51, e53, e54, e55, e57, e58, e59, e60, e61, e70, e71, e72, e73, e75, e76, e77, e78, e79, e80, e91, e92, trivial⟩
theorem alive15 : ACalls Go.Proofs.Try.prog 42 [] [] fun e H => H = [] ∧ e = .ret (.bool true) := ACalls.told (m := 300) (n := 20) tab_alive15_ok (by decide +kernel)
def B15_1 : ACode := match A15 with | (.seq _ (.seq _ (.seq _ (.seq _ (.seq _ (.seq (.seq _ (.block _ (.loop b))) _)))))) => b | _ => .skip
def B51_1 : ACode := match A51 with | (.seq _ (.scope (.seq _ (.seq _ (.seq _ (.seq _ (.seq _ (.seq _ (.seq (.seq _ (.block _ (.loop b))) _))))))))) => b | _ => .skip
def B80_1 : ACode := match A80 with | (.seq _ (.seq _ (.seq (.seq _ (.block _ (.loop b))) _))) => b | _ => .skip
def B75_1 : ACode := match A75 with | (.seq _ (.seq _ (.seq _ (.seq _ (.seq _ (.seq (.seq _ (.block _ (.loop b))) _)))))) => b | _ => .skip
def B78_1 : ACode := match A78 with | (.seq _ (.seq _ (.seq (.seq _ (.block _ (.loop b))) _))) => b | _ => .skip
def B76_1 : ACode := match A76 with | (.seq _ (.seq _ (.seq _ (.seq _ (.seq _ (.seq _ (.seq _ (.seq _ (.seq (.seq _ (.block _ (.loop b))) _))))))))) => b | _ => .skip
def B92_1 : ACode := match A92 with | (.seq _ (.seq (.seq _ (.block _ (.loop b))) _)) => b | _ => .skip
theorem octet_Within_w (N : Nat) (l_0 : List Int) (a_1 : Int) (a_2 : Int) (c_0 : Bool) (z_1 : Bool) (h : octet_Within N l_0 a_1 a_2 = some z_1) :
    ACalls Go.Proofs.Try.prog 71 [.vec c_0 (List.map eU8 l_0), .int .i64 a_1, .int .i64 a_2] [] (fun e H => H = [] ∧ e = .ret (.bool z_1)) := by
  unfold octet_Within at h
  refine ACalls.goN Go.Proofs.Try.func71 n71 a71 Go.Proofs.Try.ntmps71 r71 (by simp) 0 rfl ?_
  generalize hQ : bodyA _ _ _ = QQ
  simp only [A71, go_sem, reduceIte, reduceCtorEq, Nat.reduceEqDiff, Nat.reduceLT, Nat.reduceLeDiff, Nat.reduceAdd, Nat.reduceSub, Nat.reduceMul, Int.reduceToNat, Int.reduceLE, Int.reduceLT, Int.reduceAdd, Int.reduceSub, Int.reduceMul, Int.reduceEq, Int.reduceNeg]
  by_cases h_1 : 0 ≤ a_1
  · rw [if_pos h_1] at h
    have e_2 : (0 ≤ a_1) = True := eq_true h_1
    simp only [e_2, go_sem, reduceIte, reduceCtorEq, Nat.reduceEqDiff, Nat.reduceLT, Nat.reduceLeDiff, Nat.reduceAdd, Nat.reduceSub, Nat.reduceMul, Int.reduceToNat, Int.reduceLE, Int.reduceLT, Int.reduceAdd, Int.reduceSub, Int.reduceMul, Int.reduceEq, Int.reduceNeg]
    by_cases h_3 : 0 ≤ a_2
    · rw [if_pos h_3] at h
      have e_4 : (0 ≤ a_2) = True := eq_true h_3
      simp only [e_2, e_4, go_sem, reduceIte, reduceCtorEq, Nat.reduceEqDiff, Nat.reduceLT, Nat.reduceLeDiff, Nat.reduceAdd, Nat.reduceSub, Nat.reduceMul, Int.reduceToNat, Int.reduceLE, Int.reduceLT, Int.reduceAdd, Int.reduceSub, Int.reduceMul, Int.reduceEq, Int.reduceNeg]
      by_cases h_5 : a_2 ≤ (l_0.length : Int)
      · rw [if_pos h_5] at h
        have e_6 : (a_2 ≤ (l_0.length : Int)) = True := eq_true h_5
        simp only [e_2, e_4, e_6, go_sem, reduceIte, reduceCtorEq, Nat.reduceEqDiff, Nat.reduceLT, Nat.reduceLeDiff, Nat.reduceAdd, Nat.reduceSub, Nat.reduceMul, Int.reduceToNat, Int.reduceLE, Int.reduceLT, Int.reduceAdd, Int.reduceSub, Int.reduceMul, Int.reduceEq, Int.reduceNeg]
        have g_0 := Option.some.inj h
        subst g_0
        rw [← hQ]
        exact ⟨rfl, _, rfl, _, _, (RefV.out (by first | rfl | simp only [go_sem, reduceIte, Nat.reduceEqDiff, Nat.reduceAdd, e_2, e_4, e_6])), rfl, rfl⟩
      · rw [if_neg h_5] at h
        have e_6 : (a_2 ≤ (l_0.length : Int)) = False := eq_false h_5
        simp only [e_2, e_4, e_6, go_sem, reduceIte, reduceCtorEq, Nat.reduceEqDiff, Nat.reduceLT, Nat.reduceLeDiff, Nat.reduceAdd, Nat.reduceSub, Nat.reduceMul, Int.reduceToNat, Int.reduceLE, Int.reduceLT, Int.reduceAdd, Int.reduceSub, Int.reduceMul, Int.reduceEq, Int.reduceNeg]
        have g_0 := Option.some.inj h
        subst g_0
        rw [← hQ]
        exact ⟨rfl, _, rfl, _, _, (RefV.out rfl), rfl, rfl⟩
    · rw [if_neg h_3] at h
      have e_4 : (0 ≤ a_2) = False := eq_false h_3
      simp only [e_2, e_4, go_sem, reduceIte, reduceCtorEq, Nat.reduceEqDiff, Nat.reduceLT, Nat.reduceLeDiff, Nat.reduceAdd, Nat.reduceSub, Nat.reduceMul, Int.reduceToNat, Int.reduceLE, Int.reduceLT, Int.reduceAdd, Int.reduceSub, Int.reduceMul, Int.reduceEq, Int.reduceNeg]
      have g_0 := Option.some.inj h
      subst g_0
      rw [← hQ]
      exact ⟨rfl, _, rfl, _, _, (RefV.out rfl), rfl, rfl⟩
  · rw [if_neg h_1] at h
    have e_2 : (0 ≤ a_1) = False := eq_false h_1
    simp only [e_2, go_sem, reduceIte, reduceCtorEq, Nat.reduceEqDiff, Nat.reduceLT, Nat.reduceLeDiff, Nat.reduceAdd, Nat.reduceSub, Nat.reduceMul, Int.reduceToNat, Int.reduceLE, Int.reduceLT, Int.reduceAdd, Int.reduceSub, Int.reduceMul, Int.reduceEq, Int.reduceNeg]
    have g_0 := Option.some.inj h
    subst g_0
    rw [← hQ]
    exact ⟨rfl, _, rfl, _, _, (RefV.out rfl), rfl, rfl⟩
theorem octet_number_L1_w (N : Nat) (l_0 : List Int) (c_0 : Bool) {R : AExit → ATm → List AObj → Prop} : ∀ (n : Nat) (i_1 : Int) (i_2 : Int) (o : Int), octet_number_L1 N l_0 n i_1 i_2 = some o → (match o with | z_1 => R (.exit 0) ⟨19, [(3, .int .i64 z_1)], []⟩ []) →
    ALp Go.Proofs.Try.prog 0 B80_1 ⟨19, [(3, .int .i64 i_1), (6, .vec c_0 (List.map eU8 l_0)), (7, .int .i64 (l_0.length : Int)), (8, .int .i64 i_2)], []⟩ [] R := by
  intro n
  induction n with
  | zero =>
    intro i_1 i_2 o h _
    have h0 : none = some o := h
    cases h0
  | succ n ih =>
    intro i_1 i_2 o h hp
    rw [octet_number_L1] at h
    refine ALp.round ?_
    generalize hQ : RoundQ _ _ _ _ = QQ
    simp only [B80_1, A80, go_sem, reduceIte, reduceCtorEq, Nat.reduceEqDiff, Nat.reduceLT, Nat.reduceLeDiff, Nat.reduceAdd, Nat.reduceSub, Nat.reduceMul, Int.reduceToNat, Int.reduceLE, Int.reduceLT, Int.reduceAdd, Int.reduceSub, Int.reduceMul, Int.reduceEq, Int.reduceNeg]
    by_cases h_3 : i_2 < (l_0.length : Int)
    · rw [if_pos h_3] at h
      have e_4 : (i_2 < (l_0.length : Int)) = True := eq_true h_3
      obtain ⟨x_5, h_6, h⟩ := bindS h
      have e_7 : (List.map eU8 l_0)[(i_2).toNat]? = some [.int .u8 x_5] := atI_map eU8 h_6
      have e_8 : ((0 : Int) ≤ i_2) = True := eq_true (atI_some h_6).1
      have e_9 : ((i_2 : Int) < (l_0.length : Int)) = True := eq_true (atI_lt h_6)
      have e_10 : (min 8 64 : Nat) = 8 := rfl
      simp only [e_4, e_7, e_8, e_9, e_10, go_sem, reduceIte, reduceCtorEq, Nat.reduceEqDiff, Nat.reduceLT, Nat.reduceLeDiff, Nat.reduceAdd, Nat.reduceSub, Nat.reduceMul, Int.reduceToNat, Int.reduceLE, Int.reduceLT, Int.reduceAdd, Int.reduceSub, Int.reduceMul, Int.reduceEq, Int.reduceNeg]
      rw [← hQ]
      exact ⟨_, _, (Ref.out [3, 6, 7, 8] rfl), (Nat.zero_le _), ih _ _ _ h hp⟩
    · rw [if_neg h_3] at h
      have e_4 : (i_2 < (l_0.length : Int)) = False := eq_false h_3
      simp only [e_4, go_sem, reduceIte, reduceCtorEq, Nat.reduceEqDiff, Nat.reduceLT, Nat.reduceLeDiff, Nat.reduceAdd, Nat.reduceSub, Nat.reduceMul, Int.reduceToNat, Int.reduceLE, Int.reduceLT, Int.reduceAdd, Int.reduceSub, Int.reduceMul, Int.reduceEq, Int.reduceNeg]
      have g := Option.some.inj h
      subst g
      rw [← hQ]
      exact ⟨_, _, (Ref.out [3] rfl), hp⟩
theorem octet_number_w (N : Nat) (l_0 : List Int) (c_0 : Bool) (z_1 : Int) (h : octet_number N l_0 = some z_1) :
    ACalls Go.Proofs.Try.prog 80 [.vec c_0 (List.map eU8 l_0)] [] (fun e H => H = [] ∧ e = .ret (.int .i64 z_1)) := by
  unfold octet_number at h
  refine ACalls.goN Go.Proofs.Try.func80 n80 a80 Go.Proofs.Try.ntmps80 r80 (by simp) 0 rfl ?_
  generalize hQ : bodyA _ _ _ = QQ
  simp only [A80, go_sem, reduceIte, reduceCtorEq, Nat.reduceEqDiff, Nat.reduceLT, Nat.reduceLeDiff, Nat.reduceAdd, Nat.reduceSub, Nat.reduceMul, Int.reduceToNat, Int.reduceLE, Int.reduceLT, Int.reduceAdd, Int.reduceSub, Int.reduceMul, Int.reduceEq, Int.reduceNeg]
  obtain ⟨y_1002, h_1001, h⟩ := bindS h
  refine ALp.ref (Ref.out [3, 6, 7, 8] rfl) (Nat.zero_le _) (octet_number_L1_w N _ c_0 N _ _ y_1002 h_1001 ?_)
  refine LoopK_go rfl (Nat.zero_le _) ?_
  simp only [go_sem, reduceIte, reduceCtorEq, Nat.reduceEqDiff, Nat.reduceLT, Nat.reduceLeDiff, Nat.reduceAdd, Nat.reduceSub, Nat.reduceMul, Int.reduceToNat, Int.reduceLE, Int.reduceLT, Int.reduceAdd, Int.reduceSub, Int.reduceMul, Int.reduceEq, Int.reduceNeg]
  have g_0 := Option.some.inj h
  subst g_0
  rw [← hQ]
  exact ⟨rfl, _, rfl, _, _, (RefV.out rfl), rfl, rfl⟩
theorem octet_read_w (N : Nat) (l_0 : List Int) (a_1 : Int) (a_2 : Int) (c_0 : Bool) (z_1 : Int) (z_2 : Bool) (h : octet_read N l_0 a_1 a_2 = some (z_1, z_2)) :
    ACalls Go.Proofs.Try.prog 77 [.vec c_0 (List.map eU8 l_0), .int .i64 a_1, .int .i64 a_2] [] (fun e H => H = [] ∧ e = .ret (.tup [.int .i64 z_1, .bool z_2])) := by
  unfold octet_read at h
  refine ACalls.goN Go.Proofs.Try.func77 n77 a77 Go.Proofs.Try.ntmps77 r77 (by simp) 0 rfl ?_
  generalize hQ : bodyA _ _ _ = QQ
  obtain ⟨y_1, h_2, h⟩ := bindS h
  simp only [A77, go_sem, reduceIte, reduceCtorEq, Nat.reduceEqDiff, Nat.reduceLT, Nat.reduceLeDiff, Nat.reduceAdd, Nat.reduceSub, Nat.reduceMul, Int.reduceToNat, Int.reduceLE, Int.reduceLT, Int.reduceAdd, Int.reduceSub, Int.reduceMul, Int.reduceEq, Int.reduceNeg]
  refine ACalls.use0 (octet_Within_w N _ _ _ _ _ h_2) rfl rfl ?_
  refine CallK_go (Nat.zero_le _) ?_
  simp only [go_sem, reduceIte, reduceCtorEq, Nat.reduceEqDiff, Nat.reduceLT, Nat.reduceLeDiff, Nat.reduceAdd, Nat.reduceSub, Nat.reduceMul, Int.reduceToNat, Int.reduceLE, Int.reduceLT, Int.reduceAdd, Int.reduceSub, Int.reduceMul, Int.reduceEq, Int.reduceNeg]
  by_cases h_3 : y_1 = true
  · rw [if_pos h_3] at h
    have e_4 : y_1 = true := h_3
    obtain ⟨h_5, h⟩ := guardS h
    have e_6 : (0 ≤ a_1) = True := eq_true h_5
    obtain ⟨h_7, h⟩ := guardS h
    have e_8 : (a_1 ≤ IntKind.i64.wrap (a_1 + a_2)) = True := eq_true h_7
    obtain ⟨h_9, h⟩ := guardS h
    have e_10 : (IntKind.i64.wrap (a_1 + a_2) ≤ (l_0.length : Int)) = True := eq_true h_9
    have e_11 : ((List.map eU8 l_0)).all (fun el => el.length == 1) = true := all_len _ eU8 1 (fun _ => rfl)
    have e_12 : List.take ((IntKind.i64.wrap (a_1 + a_2)).toNat - (a_1).toNat) (List.drop (a_1).toNat (List.map eU8 l_0)) = List.map eU8 (slI l_0 a_1 (IntKind.i64.wrap (a_1 + a_2))) := slI_map l_0 a_1 (IntKind.i64.wrap (a_1 + a_2)) eU8
    obtain ⟨y_13, h_14, h⟩ := bindS h
    simp only [e_4, e_6, e_8, e_10, e_11, e_12, go_sem, reduceIte, reduceCtorEq, Nat.reduceEqDiff, Nat.reduceLT, Nat.reduceLeDiff, Nat.reduceAdd, Nat.reduceSub, Nat.reduceMul, Int.reduceToNat, Int.reduceLE, Int.reduceLT, Int.reduceAdd, Int.reduceSub, Int.reduceMul, Int.reduceEq, Int.reduceNeg]
    refine ACalls.use0 (octet_number_w N _ _ _ h_14) rfl rfl ?_
    refine CallK_go (Nat.zero_le _) ?_
    simp only [e_4, e_6, e_8, e_10, e_11, e_12, go_sem, reduceIte, reduceCtorEq, Nat.reduceEqDiff, Nat.reduceLT, Nat.reduceLeDiff, Nat.reduceAdd, Nat.reduceSub, Nat.reduceMul, Int.reduceToNat, Int.reduceLE, Int.reduceLT, Int.reduceAdd, Int.reduceSub, Int.reduceMul, Int.reduceEq, Int.reduceNeg]
    have g_0 := Option.some.inj h
    obtain ⟨k_1, g_1⟩ := Prod.mk.inj g_0
    subst k_1
    subst g_1
    rw [← hQ]
    exact ⟨rfl, _, rfl, _, _, (RefV.out rfl), rfl, rfl⟩
  · rw [if_neg h_3] at h
    have e_4 : y_1 = false := bfalse h_3
    simp only [e_4, go_sem, reduceIte, reduceCtorEq, Nat.reduceEqDiff, Nat.reduceLT, Nat.reduceLeDiff, Nat.reduceAdd, Nat.reduceSub, Nat.reduceMul, Int.reduceToNat, Int.reduceLE, Int.reduceLT, Int.reduceAdd, Int.reduceSub, Int.reduceMul, Int.reduceEq, Int.reduceNeg]
    have g_0 := Option.some.inj h
    obtain ⟨k_1, g_1⟩ := Prod.mk.inj g_0
    subst k_1
    subst g_1
    rw [← hQ]
    exact ⟨rfl, _, rfl, _, _, (RefV.out rfl), rfl, rfl⟩
theorem octet_U16_w (N : Nat) (l_0 : List Int) (a_1 : Int) (c_0 : Bool) (z_1 : Int) (z_2 : Bool) (h : octet_U16 N l_0 a_1 = some (z_1, z_2)) :
    ACalls Go.Proofs.Try.prog 57 [.vec c_0 (List.map eU8 l_0), .int .i64 a_1] [] (fun e H => H = [] ∧ e = .ret (.tup [.int .i64 z_1, .bool z_2])) := by
  unfold octet_U16 at h
  refine ACalls.goN Go.Proofs.Try.func57 n57 a57 Go.Proofs.Try.ntmps57 r57 (by simp) 0 rfl ?_
  generalize hQ : bodyA _ _ _ = QQ
  obtain ⟨⟨y_1, y_2⟩, h_3, h⟩ := bindS h
  try dsimp only at h
  simp only [A57, go_sem, reduceIte, reduceCtorEq, Nat.reduceEqDiff, Nat.reduceLT, Nat.reduceLeDiff, Nat.reduceAdd, Nat.reduceSub, Nat.reduceMul, Int.reduceToNat, Int.reduceLE, Int.reduceLT, Int.reduceAdd, Int.reduceSub, Int.reduceMul, Int.reduceEq, Int.reduceNeg]
  refine ACalls.use0 (octet_read_w N _ _ _ _ _ _ h_3) rfl rfl ?_
  refine CallK_go (Nat.zero_le _) ?_
  simp only [go_sem, reduceIte, reduceCtorEq, Nat.reduceEqDiff, Nat.reduceLT, Nat.reduceLeDiff, Nat.reduceAdd, Nat.reduceSub, Nat.reduceMul, Int.reduceToNat, Int.reduceLE, Int.reduceLT, Int.reduceAdd, Int.reduceSub, Int.reduceMul, Int.reduceEq, Int.reduceNeg]
  have g_0 := Option.some.inj h
  obtain ⟨k_1, g_1⟩ := Prod.mk.inj g_0
  subst k_1
  subst g_1
  rw [← hQ]
  exact ⟨rfl, _, rfl, _, _, (RefV.out rfl), rfl, rfl⟩
theorem octet_U32_w (N : Nat) (l_0 : List Int) (a_1 : Int) (c_0 : Bool) (z_1 : Int) (z_2 : Bool) (h : octet_U32 N l_0 a_1 = some (z_1, z_2)) :
    ACalls Go.Proofs.Try.prog 70 [.vec c_0 (List.map eU8 l_0), .int .i64 a_1] [] (fun e H => H = [] ∧ e = .ret (.tup [.int .i64 z_1, .bool z_2])) := by
  unfold octet_U32 at h
  refine ACalls.goN Go.Proofs.Try.func70 n70 a70 Go.Proofs.Try.ntmps70 r70 (by simp) 0 rfl ?_
  generalize hQ : bodyA _ _ _ = QQ
  obtain ⟨⟨y_1, y_2⟩, h_3, h⟩ := bindS h
  try dsimp only at h
  simp only [A70, go_sem, reduceIte, reduceCtorEq, Nat.reduceEqDiff, Nat.reduceLT, Nat.reduceLeDiff, Nat.reduceAdd, Nat.reduceSub, Nat.reduceMul, Int.reduceToNat, Int.reduceLE, Int.reduceLT, Int.reduceAdd, Int.reduceSub, Int.reduceMul, Int.reduceEq, Int.reduceNeg]
  refine ACalls.use0 (octet_read_w N _ _ _ _ _ _ h_3) rfl rfl ?_
  refine CallK_go (Nat.zero_le _) ?_
  simp only [go_sem, reduceIte, reduceCtorEq, Nat.reduceEqDiff, Nat.reduceLT, Nat.reduceLeDiff, Nat.reduceAdd, Nat.reduceSub, Nat.reduceMul, Int.reduceToNat, Int.reduceLE, Int.reduceLT, Int.reduceAdd, Int.reduceSub, Int.reduceMul, Int.reduceEq, Int.reduceNeg]
  have g_0 := Option.some.inj h
  obtain ⟨k_1, g_1⟩ := Prod.mk.inj g_0
  subst k_1
  subst g_1
  rw [← hQ]
  exact ⟨rfl, _, rfl, _, _, (RefV.out rfl), rfl, rfl⟩
theorem gdef_Codes_L1_w (N : Nat) (l_0 : List Int) (a_1 : Int) (a_2 : Int) (y_8 : Int) (c_0 : Bool) {R : AExit → ATm → List AObj → Prop} : ∀ (n : Nat) (i_17 : Int) (i_18 : Int) (i_19 : Int) (o : (Int × Int) ⊕ (Unit)), gdef_Codes_L1 N l_0 a_1 a_2 y_8 n i_17 i_18 i_19 = some o → (match o with | .inl (z_1, z_2) => R (.exit 0) ⟨126, [(0, .vec c_0 (List.map eU8 l_0)), (2, .int .i64 a_2), (12, .ptr 0 0 0)], []⟩ [.box [.int .i64 z_1, .int .i64 z_2] 110] | .inr (_) => R .ret ⟨126, [(6, .vec true []), (7, .bool false)], []⟩ []) →
    ALp Go.Proofs.Try.prog 0 B51_1 ⟨126, [(0, .vec c_0 (List.map eU8 l_0)), (1, .int .i64 a_1), (2, .int .i64 a_2), (12, .ptr 0 0 0), (51, .int .i64 y_8), (52, .int .i64 i_17)], []⟩ [.box [.int .i64 i_18, .int .i64 i_19] 110] R := by
  intro n
  induction n with
  | zero =>
    intro i_17 i_18 i_19 o h _
    have h0 : none = some o := h
    cases h0
  | succ n ih =>
    intro i_17 i_18 i_19 o h hp
    rw [gdef_Codes_L1] at h
    refine ALp.round ?_
    generalize hQ : RoundQ _ _ _ _ = QQ
    simp only [B51_1, A51, go_sem, reduceIte, reduceCtorEq, Nat.reduceEqDiff, Nat.reduceLT, Nat.reduceLeDiff, Nat.reduceAdd, Nat.reduceSub, Nat.reduceMul, Int.reduceToNat, Int.reduceLE, Int.reduceLT, Int.reduceAdd, Int.reduceSub, Int.reduceMul, Int.reduceEq, Int.reduceNeg]
    by_cases h_20 : i_17 < y_8
    · rw [if_pos h_20] at h
      have e_21 : (i_17 < y_8) = True := eq_true h_20
      obtain ⟨⟨y_22, y_23⟩, h_24, h⟩ := bindS h
      try dsimp only at h
      simp only [e_21, go_sem, reduceIte, reduceCtorEq, Nat.reduceEqDiff, Nat.reduceLT, Nat.reduceLeDiff, Nat.reduceAdd, Nat.reduceSub, Nat.reduceMul, Int.reduceToNat, Int.reduceLE, Int.reduceLT, Int.reduceAdd, Int.reduceSub, Int.reduceMul, Int.reduceEq, Int.reduceNeg]
      refine ACalls.use0 (octet_U32_w N _ _ _ _ _ h_24) rfl rfl ?_
      refine CallK_go (Nat.zero_le _) ?_
      simp only [e_21, go_sem, reduceIte, reduceCtorEq, Nat.reduceEqDiff, Nat.reduceLT, Nat.reduceLeDiff, Nat.reduceAdd, Nat.reduceSub, Nat.reduceMul, Int.reduceToNat, Int.reduceLE, Int.reduceLT, Int.reduceAdd, Int.reduceSub, Int.reduceMul, Int.reduceEq, Int.reduceNeg]
      by_cases h_25 : y_23 = true
      · rw [if_pos h_25] at h
        have e_26 : y_23 = true := h_25
        simp only [e_21, e_26, go_sem, reduceIte, reduceCtorEq, Nat.reduceEqDiff, Nat.reduceLT, Nat.reduceLeDiff, Nat.reduceAdd, Nat.reduceSub, Nat.reduceMul, Int.reduceToNat, Int.reduceLE, Int.reduceLT, Int.reduceAdd, Int.reduceSub, Int.reduceMul, Int.reduceEq, Int.reduceNeg]
        by_cases h_27 : (l_0.length : Int) < y_22
        · rw [if_pos h_27] at h
          have e_28 : ((l_0.length : Int) < y_22) = True := eq_true h_27
          simp only [e_21, e_26, e_28, go_sem, reduceIte, reduceCtorEq, Nat.reduceEqDiff, Nat.reduceLT, Nat.reduceLeDiff, Nat.reduceAdd, Nat.reduceSub, Nat.reduceMul, Int.reduceToNat, Int.reduceLE, Int.reduceLT, Int.reduceAdd, Int.reduceSub, Int.reduceMul, Int.reduceEq, Int.reduceNeg]
          have g := Option.some.inj h
          subst g
          rw [← hQ]
          exact ⟨_, _, (Ref.out [6, 7] rfl), hp⟩
        · rw [if_neg h_27] at h
          have e_28 : ((l_0.length : Int) < y_22) = False := eq_false h_27
          obtain ⟨⟨y_29, y_30⟩, h_31, h⟩ := bindS h
          try dsimp only at h
          simp only [e_21, e_26, e_28, go_sem, reduceIte, reduceCtorEq, Nat.reduceEqDiff, Nat.reduceLT, Nat.reduceLeDiff, Nat.reduceAdd, Nat.reduceSub, Nat.reduceMul, Int.reduceToNat, Int.reduceLE, Int.reduceLT, Int.reduceAdd, Int.reduceSub, Int.reduceMul, Int.reduceEq, Int.reduceNeg]
          refine ACalls.use0 (octet_U16_w N _ _ _ _ _ h_31) rfl rfl ?_
          refine CallK_go (Nat.zero_le _) ?_
          simp only [e_21, e_26, e_28, go_sem, reduceIte, reduceCtorEq, Nat.reduceEqDiff, Nat.reduceLT, Nat.reduceLeDiff, Nat.reduceAdd, Nat.reduceSub, Nat.reduceMul, Int.reduceToNat, Int.reduceLE, Int.reduceLT, Int.reduceAdd, Int.reduceSub, Int.reduceMul, Int.reduceEq, Int.reduceNeg]
          by_cases h_32 : y_30 = true
          · rw [if_pos h_32] at h
            have e_33 : y_30 = true := h_32
            simp only [e_21, e_26, e_28, e_33, go_sem, reduceIte, reduceCtorEq, Nat.reduceEqDiff, Nat.reduceLT, Nat.reduceLeDiff, Nat.reduceAdd, Nat.reduceSub, Nat.reduceMul, Int.reduceToNat, Int.reduceLE, Int.reduceLT, Int.reduceAdd, Int.reduceSub, Int.reduceMul, Int.reduceEq, Int.reduceNeg]
            by_cases h_34 : y_29 = 12
            · rw [if_pos h_34] at h
              have e_35 : (y_29 = 12) = True := eq_true h_34
              simp only [e_21, e_26, e_28, e_33, e_35, go_sem, reduceIte, reduceCtorEq, Nat.reduceEqDiff, Nat.reduceLT, Nat.reduceLeDiff, Nat.reduceAdd, Nat.reduceSub, Nat.reduceMul, Int.reduceToNat, Int.reduceLE, Int.reduceLT, Int.reduceAdd, Int.reduceSub, Int.reduceMul, Int.reduceEq, Int.reduceNeg]
              by_cases h_36 : i_18 < 0
              · rw [if_pos h_36] at h
                have e_37 : (i_18 < 0) = True := eq_true h_36
                simp only [e_21, e_26, e_28, e_33, e_35, e_37, go_sem, reduceIte, reduceCtorEq, Nat.reduceEqDiff, Nat.reduceLT, Nat.reduceLeDiff, Nat.reduceAdd, Nat.reduceSub, Nat.reduceMul, Int.reduceToNat, Int.reduceLE, Int.reduceLT, Int.reduceAdd, Int.reduceSub, Int.reduceMul, Int.reduceEq, Int.reduceNeg]
                rw [← hQ]
                exact ⟨_, _, (Ref.std [0, 1, 2, 12, 51, 52] [0] (by decide) low0 rfl rfl), (Nat.zero_le _), ih _ _ _ _ h hp⟩
              · rw [if_neg h_36] at h
                have e_37 : (i_18 < 0) = False := eq_false h_36
                simp only [e_21, e_26, e_28, e_33, e_35, e_37, go_sem, reduceIte, reduceCtorEq, Nat.reduceEqDiff, Nat.reduceLT, Nat.reduceLeDiff, Nat.reduceAdd, Nat.reduceSub, Nat.reduceMul, Int.reduceToNat, Int.reduceLE, Int.reduceLT, Int.reduceAdd, Int.reduceSub, Int.reduceMul, Int.reduceEq, Int.reduceNeg]
                rw [← hQ]
                exact ⟨_, _, (Ref.std [0, 1, 2, 12, 51, 52] [0] (by decide) low0 rfl rfl), (Nat.zero_le _), ih _ _ _ _ h hp⟩
            · rw [if_neg h_34] at h
              have e_35 : (y_29 = 12) = False := eq_false h_34
              simp only [e_21, e_26, e_28, e_33, e_35, go_sem, reduceIte, reduceCtorEq, Nat.reduceEqDiff, Nat.reduceLT, Nat.reduceLeDiff, Nat.reduceAdd, Nat.reduceSub, Nat.reduceMul, Int.reduceToNat, Int.reduceLE, Int.reduceLT, Int.reduceAdd, Int.reduceSub, Int.reduceMul, Int.reduceEq, Int.reduceNeg]
              by_cases h_38 : y_29 = 4
              · rw [if_pos h_38] at h
                have e_39 : (y_29 = 4) = True := eq_true h_38
                simp only [e_21, e_26, e_28, e_33, e_35, e_39, go_sem, reduceIte, reduceCtorEq, Nat.reduceEqDiff, Nat.reduceLT, Nat.reduceLeDiff, Nat.reduceAdd, Nat.reduceSub, Nat.reduceMul, Int.reduceToNat, Int.reduceLE, Int.reduceLT, Int.reduceAdd, Int.reduceSub, Int.reduceMul, Int.reduceEq, Int.reduceNeg]
                by_cases h_40 : i_19 < 0
                · rw [if_pos h_40] at h
                  have e_41 : (i_19 < 0) = True := eq_true h_40
                  simp only [e_21, e_26, e_28, e_33, e_35, e_39, e_41, go_sem, reduceIte, reduceCtorEq, Nat.reduceEqDiff, Nat.reduceLT, Nat.reduceLeDiff, Nat.reduceAdd, Nat.reduceSub, Nat.reduceMul, Int.reduceToNat, Int.reduceLE, Int.reduceLT, Int.reduceAdd, Int.reduceSub, Int.reduceMul, Int.reduceEq, Int.reduceNeg]
                  rw [← hQ]
                  exact ⟨_, _, (Ref.std [0, 1, 2, 12, 51, 52] [0] (by decide) low0 rfl rfl), (Nat.zero_le _), ih _ _ _ _ h hp⟩
                · rw [if_neg h_40] at h
                  have e_41 : (i_19 < 0) = False := eq_false h_40
                  simp only [e_21, e_26, e_28, e_33, e_35, e_39, e_41, go_sem, reduceIte, reduceCtorEq, Nat.reduceEqDiff, Nat.reduceLT, Nat.reduceLeDiff, Nat.reduceAdd, Nat.reduceSub, Nat.reduceMul, Int.reduceToNat, Int.reduceLE, Int.reduceLT, Int.reduceAdd, Int.reduceSub, Int.reduceMul, Int.reduceEq, Int.reduceNeg]
                  rw [← hQ]
                  exact ⟨_, _, (Ref.std [0, 1, 2, 12, 51, 52] [0] (by decide) low0 rfl rfl), (Nat.zero_le _), ih _ _ _ _ h hp⟩
              · rw [if_neg h_38] at h
                have e_39 : (y_29 = 4) = False := eq_false h_38
                simp only [e_21, e_26, e_28, e_33, e_35, e_39, go_sem, reduceIte, reduceCtorEq, Nat.reduceEqDiff, Nat.reduceLT, Nat.reduceLeDiff, Nat.reduceAdd, Nat.reduceSub, Nat.reduceMul, Int.reduceToNat, Int.reduceLE, Int.reduceLT, Int.reduceAdd, Int.reduceSub, Int.reduceMul, Int.reduceEq, Int.reduceNeg]
                rw [← hQ]
                exact ⟨_, _, (Ref.std [0, 1, 2, 12, 51, 52] [0] (by decide) low0 rfl rfl), (Nat.zero_le _), ih _ _ _ _ h hp⟩
          · rw [if_neg h_32] at h
            have e_33 : y_30 = false := bfalse h_32
            simp only [e_21, e_26, e_28, e_33, go_sem, reduceIte, reduceCtorEq, Nat.reduceEqDiff, Nat.reduceLT, Nat.reduceLeDiff, Nat.reduceAdd, Nat.reduceSub, Nat.reduceMul, Int.reduceToNat, Int.reduceLE, Int.reduceLT, Int.reduceAdd, Int.reduceSub, Int.reduceMul, Int.reduceEq, Int.reduceNeg]
            have g := Option.some.inj h
            subst g
            rw [← hQ]
            exact ⟨_, _, (Ref.out [6, 7] rfl), hp⟩
      · rw [if_neg h_25] at h
        have e_26 : y_23 = false := bfalse h_25
        simp only [e_21, e_26, go_sem, reduceIte, reduceCtorEq, Nat.reduceEqDiff, Nat.reduceLT, Nat.reduceLeDiff, Nat.reduceAdd, Nat.reduceSub, Nat.reduceMul, Int.reduceToNat, Int.reduceLE, Int.reduceLT, Int.reduceAdd, Int.reduceSub, Int.reduceMul, Int.reduceEq, Int.reduceNeg]
        have g := Option.some.inj h
        subst g
        rw [← hQ]
        exact ⟨_, _, (Ref.out [6, 7] rfl), hp⟩
    · rw [if_neg h_20] at h
      have e_21 : (i_17 < y_8) = False := eq_false h_20
      simp only [e_21, go_sem, reduceIte, reduceCtorEq, Nat.reduceEqDiff, Nat.reduceLT, Nat.reduceLeDiff, Nat.reduceAdd, Nat.reduceSub, Nat.reduceMul, Int.reduceToNat, Int.reduceLE, Int.reduceLT, Int.reduceAdd, Int.reduceSub, Int.reduceMul, Int.reduceEq, Int.reduceNeg]
      have g := Option.some.inj h
      subst g
      rw [← hQ]
      exact ⟨_, _, (Ref.std [0, 2, 12] [0] (by decide) low0 rfl rfl), hp⟩
theorem octet_Row_1_w (N : Nat) (a_0 : Int) (l_1 : List Int) (a_2 : Int) (a_3 : Int) (c_0 : Bool) (z_1 : Int) (h : octet_Row_1 N a_0 l_1 a_2 a_3 = some z_1) :
    ACalls Go.Proofs.Try.prog 79 [.int .i64 a_0, .ptr 0 0 0, .ptr 1 0 0, .ptr 2 0 0] [.box [.vec c_0 (List.map eU8 l_1)] 22, .box [.int .i64 a_2] 3, .box [.int .i64 a_3] 3] (fun e H => H = [.box [.vec c_0 (List.map eU8 l_1)] 22, .box [.int .i64 a_2] 3, .box [.int .i64 a_3] 3] ∧ e = .ret (.int .i64 z_1)) := by
  unfold octet_Row_1 at h
  refine ACalls.goN Go.Proofs.Try.func79 n79 a79 Go.Proofs.Try.ntmps79 r79 (by simp) 3 rfl ?_
  generalize hQ : bodyA _ _ _ = QQ
  obtain ⟨h_1, h⟩ := guardS h
  have e_2 : (0 ≤ IntKind.i64.wrap (a_2 + (IntKind.i64.wrap (a_0 * a_3)))) = True := eq_true h_1
  obtain ⟨h_3, h⟩ := guardS h
  have e_4 : (IntKind.i64.wrap (a_2 + (IntKind.i64.wrap (a_0 * a_3))) ≤ IntKind.i64.wrap (a_2 + (IntKind.i64.wrap ((IntKind.i64.wrap (a_0 + 1)) * a_3)))) = True := eq_true h_3
  obtain ⟨h_5, h⟩ := guardS h
  have e_6 : (IntKind.i64.wrap (a_2 + (IntKind.i64.wrap ((IntKind.i64.wrap (a_0 + 1)) * a_3))) ≤ (l_1.length : Int)) = True := eq_true h_5
  have e_7 : ((List.map eU8 l_1)).all (fun el => el.length == 1) = true := all_len _ eU8 1 (fun _ => rfl)
  have e_8 : List.take ((IntKind.i64.wrap (a_2 + (IntKind.i64.wrap ((IntKind.i64.wrap (a_0 + 1)) * a_3)))).toNat - (IntKind.i64.wrap (a_2 + (IntKind.i64.wrap (a_0 * a_3)))).toNat) (List.drop (IntKind.i64.wrap (a_2 + (IntKind.i64.wrap (a_0 * a_3)))).toNat (List.map eU8 l_1)) = List.map eU8 (slI l_1 (IntKind.i64.wrap (a_2 + (IntKind.i64.wrap (a_0 * a_3)))) (IntKind.i64.wrap (a_2 + (IntKind.i64.wrap ((IntKind.i64.wrap (a_0 + 1)) * a_3))))) := slI_map l_1 (IntKind.i64.wrap (a_2 + (IntKind.i64.wrap (a_0 * a_3)))) (IntKind.i64.wrap (a_2 + (IntKind.i64.wrap ((IntKind.i64.wrap (a_0 + 1)) * a_3)))) eU8
  obtain ⟨y_9, h_10, h⟩ := bindS h
  simp only [A79, e_2, e_4, e_6, e_7, e_8, go_sem, reduceIte, reduceCtorEq, Nat.reduceEqDiff, Nat.reduceLT, Nat.reduceLeDiff, Nat.reduceAdd, Nat.reduceSub, Nat.reduceMul, Int.reduceToNat, Int.reduceLE, Int.reduceLT, Int.reduceAdd, Int.reduceSub, Int.reduceMul, Int.reduceEq, Int.reduceNeg]
  refine ACalls.use0 (octet_number_w N _ _ _ h_10) rfl rfl ?_
  refine CallK_go (by simp) ?_
  simp only [e_2, e_4, e_6, e_7, e_8, go_sem, reduceIte, reduceCtorEq, Nat.reduceEqDiff, Nat.reduceLT, Nat.reduceLeDiff, Nat.reduceAdd, Nat.reduceSub, Nat.reduceMul, Int.reduceToNat, Int.reduceLE, Int.reduceLT, Int.reduceAdd, Int.reduceSub, Int.reduceMul, Int.reduceEq, Int.reduceNeg]
  have g_0 := Option.some.inj h
  subst g_0
  rw [← hQ]
  exact ⟨rfl, _, rfl, _, _, (RefV.std [0, 1, 2] (by decide) (by decide) rfl (by first | rfl | simp only [go_sem, reduceIte, Nat.reduceEqDiff, Nat.reduceAdd])), rfl, rfl⟩
theorem octet_many_int_L1_w (N : Nat) (a_0 : Int) (l_1 : List Int) (a_2 : Int) (a_3 : Int) (c_0 : Bool) {R : AExit → ATm → List AObj → Prop} : ∀ (n : Nat) (i_1 : Int) (s_2 : List Int) (o : (List Int)), octet_many_int_L1 N a_0 l_1 a_2 a_3 n i_1 s_2 = some o → (match o with | z_1 => R (.exit 0) ⟨19, [(5, .row 3 0 z_1.length)], []⟩ [.box [.vec c_0 (List.map eU8 l_1)] 22, .box [.int .i64 a_2] 3, .box [.int .i64 a_3] 3, .mem 1 (List.map eI64 z_1) 3]) →
    ALp Go.Proofs.Try.prog 3 B78_1 ⟨19, [(1, .fn (.func 79) [] [.ptr 0 0 0, .ptr 1 0 0, .ptr 2 0 0]), (5, .row 3 0 s_2.length), (7, .int .i64 a_0), (8, .int .i64 i_1)], []⟩ [.box [.vec c_0 (List.map eU8 l_1)] 22, .box [.int .i64 a_2] 3, .box [.int .i64 a_3] 3, .mem 1 (List.map eI64 s_2) 3] R := by
  intro n
  induction n with
  | zero =>
    intro i_1 s_2 o h _
    have h0 : none = some o := h
    cases h0
  | succ n ih =>
    intro i_1 s_2 o h hp
    rw [octet_many_int_L1] at h
    refine ALp.round ?_
    generalize hQ : RoundQ _ _ _ _ = QQ
    simp only [B78_1, A78, go_sem, reduceIte, reduceCtorEq, Nat.reduceEqDiff, Nat.reduceLT, Nat.reduceLeDiff, Nat.reduceAdd, Nat.reduceSub, Nat.reduceMul, Int.reduceToNat, Int.reduceLE, Int.reduceLT, Int.reduceAdd, Int.reduceSub, Int.reduceMul, Int.reduceEq, Int.reduceNeg]
    by_cases h_3 : i_1 < a_0
    · rw [if_pos h_3] at h
      have e_4 : (i_1 < a_0) = True := eq_true h_3
      obtain ⟨y_5, h_6, h⟩ := bindS h
      simp only [e_4, go_sem, reduceIte, reduceCtorEq, Nat.reduceEqDiff, Nat.reduceLT, Nat.reduceLeDiff, Nat.reduceAdd, Nat.reduceSub, Nat.reduceMul, Int.reduceToNat, Int.reduceLE, Int.reduceLT, Int.reduceAdd, Int.reduceSub, Int.reduceMul, Int.reduceEq, Int.reduceNeg]
      refine ACalls.use (octet_Row_1_w N _ _ _ _ _ _ h_6) [0, 1, 2] (by decide) ⟨(by first | rfl | simp only [go_sem, reduceIte, Nat.reduceEqDiff, Nat.reduceAdd, e_4]), (by first | rfl | simp only [go_sem, reduceIte, Nat.reduceEqDiff, Nat.reduceAdd, e_4]), (by first | rfl | simp only [go_sem, reduceIte, Nat.reduceEqDiff, Nat.reduceAdd, e_4]), trivial⟩ rfl (v' := .int .i64 y_5) (by first | rfl | simp only [go_sem, reduceIte, Nat.reduceEqDiff, Nat.reduceAdd, e_4]) (H' := [.box [.vec c_0 (List.map eU8 l_1)] 22, .box [.int .i64 a_2] 3, .box [.int .i64 a_3] 3, .mem 1 (List.map eI64 s_2) 3]) (by first | rfl | simp only [go_sem, reduceIte, Nat.reduceEqDiff, Nat.reduceAdd, e_4]) ?_
      refine CallK_go (by simp) ?_
      have e_7 : List.take s_2.length (List.map eI64 s_2) = (List.map eI64 s_2) := List.take_of_length_le (by simp)
      have e_8 : (List.map eI64 s_2) ++ [[.int .i64 y_5]] = (List.map eI64 (s_2 ++ [y_5])) := app_map s_2 ([y_5]) eI64
      obtain ⟨h_9, h⟩ := guardS h
      have e_10 : ((s_2.length + 1) * 8 ≤ 140737488355328) = True := eq_true h_9
      simp only [e_4, e_7, e_8, e_10, go_sem, reduceIte, reduceCtorEq, Nat.reduceEqDiff, Nat.reduceLT, Nat.reduceLeDiff, Nat.reduceAdd, Nat.reduceSub, Nat.reduceMul, Int.reduceToNat, Int.reduceLE, Int.reduceLT, Int.reduceAdd, Int.reduceSub, Int.reduceMul, Int.reduceEq, Int.reduceNeg]
      rw [← hQ]
      exact ⟨_, _, (Ref.std [1, 5, 7, 8] [0, 1, 2, 4] (by decide) (by decide) (by first | rfl | simp only [go_sem, reduceIte, Nat.reduceEqDiff, Nat.reduceAdd]) (by first | rfl | simp only [go_sem, reduceIte, Nat.reduceEqDiff, Nat.reduceAdd])), (by simp), ih _ _ _ h hp⟩
    · rw [if_neg h_3] at h
      have e_4 : (i_1 < a_0) = False := eq_false h_3
      simp only [e_4, go_sem, reduceIte, reduceCtorEq, Nat.reduceEqDiff, Nat.reduceLT, Nat.reduceLeDiff, Nat.reduceAdd, Nat.reduceSub, Nat.reduceMul, Int.reduceToNat, Int.reduceLE, Int.reduceLT, Int.reduceAdd, Int.reduceSub, Int.reduceMul, Int.reduceEq, Int.reduceNeg]
      have g := Option.some.inj h
      subst g
      rw [← hQ]
      exact ⟨_, _, (Ref.std [5] [0, 1, 2, 3] (by decide) (by decide) rfl (by first | rfl | simp only [go_sem, reduceIte, Nat.reduceEqDiff, Nat.reduceAdd])), hp⟩
theorem octet_many_int_w (N : Nat) (a_0 : Int) (l_1 : List Int) (a_2 : Int) (a_3 : Int) (c_0 : Bool) (z_1 : List Int) (h : octet_many_int N a_0 l_1 a_2 a_3 = some z_1) :
    ACalls Go.Proofs.Try.prog 78 [.int .i64 a_0, .fn (.func 79) [] [.ptr 0 0 0, .ptr 1 0 0, .ptr 2 0 0]] [.box [.vec c_0 (List.map eU8 l_1)] 22, .box [.int .i64 a_2] 3, .box [.int .i64 a_3] 3] (fun e H => H = [.box [.vec c_0 (List.map eU8 l_1)] 22, .box [.int .i64 a_2] 3, .box [.int .i64 a_3] 3] ∧ e = .ret (.vec false (List.map eI64 z_1))) := by
  unfold octet_many_int at h
  refine ACalls.goN Go.Proofs.Try.func78 n78 a78 Go.Proofs.Try.ntmps78 r78 (by simp) 3 rfl ?_
  generalize hQ : bodyA _ _ _ = QQ
  simp only [A78, go_sem, reduceIte, reduceCtorEq, Nat.reduceEqDiff, Nat.reduceLT, Nat.reduceLeDiff, Nat.reduceAdd, Nat.reduceSub, Nat.reduceMul, Int.reduceToNat, Int.reduceLE, Int.reduceLT, Int.reduceAdd, Int.reduceSub, Int.reduceMul, Int.reduceEq, Int.reduceNeg]
  obtain ⟨y_1002, h_1001, h⟩ := bindS h
  refine ALp.ref (Ref.trans (Ref.thaw (by simp) 5 rfl (sz := 1) (by decide) 3) (Ref.std [1, 5, 7, 8] [0, 1, 2, 3] (by decide) (by decide) rfl (by first | rfl | simp only [go_sem, reduceIte, Nat.reduceEqDiff, Nat.reduceAdd]))) (by simp) (octet_many_int_L1_w N _ _ _ _ c_0 N _ _ y_1002 h_1001 ?_)
  refine LoopK_go rfl (by simp) ?_
  simp only [go_sem, reduceIte, reduceCtorEq, Nat.reduceEqDiff, Nat.reduceLT, Nat.reduceLeDiff, Nat.reduceAdd, Nat.reduceSub, Nat.reduceMul, Int.reduceToNat, Int.reduceLE, Int.reduceLT, Int.reduceAdd, Int.reduceSub, Int.reduceMul, Int.reduceEq, Int.reduceNeg]
  have g_0 := Option.some.inj h
  subst g_0
  rw [← hQ]
  exact ⟨rfl, _, rfl, _, _, (RefV.trans (RefV.frz (by simp) (id := 3) rfl (pures_map y_1002 eI64 (fun _ => rfl))) (RefV.std [0, 1, 2] (by decide) (by decide) (by first | rfl | simp only [go_sem, reduceIte, Nat.reduceEqDiff, Nat.reduceAdd]) (by first | rfl | simp only [go_sem, reduceIte, Nat.reduceEqDiff, Nat.reduceAdd]))), rfl, rfl⟩
theorem octet_Row_w (N : Nat) (l_0 : List Int) (a_1 : Int) (a_2 : Int) (a_3 : Int) (c_0 : Bool) (z_1 : List Int) (z_2 : Bool) (h : octet_Row N l_0 a_1 a_2 a_3 = some (z_1, z_2)) :
    ACalls Go.Proofs.Try.prog 58 [.vec c_0 (List.map eU8 l_0), .int .i64 a_1, .int .i64 a_2, .int .i64 a_3] [] (fun e H => H = [] ∧ e = .ret (.tup [.vec false (List.map eI64 z_1), .bool z_2])) := by
  unfold octet_Row at h
  refine ACalls.goN Go.Proofs.Try.func58 n58 a58 Go.Proofs.Try.ntmps58 r58 (by simp) 0 rfl ?_
  generalize hQ : bodyA _ _ _ = QQ
  simp only [A58, go_sem, reduceIte, reduceCtorEq, Nat.reduceEqDiff, Nat.reduceLT, Nat.reduceLeDiff, Nat.reduceAdd, Nat.reduceSub, Nat.reduceMul, Int.reduceToNat, Int.reduceLE, Int.reduceLT, Int.reduceAdd, Int.reduceSub, Int.reduceMul, Int.reduceEq, Int.reduceNeg]
  by_cases h_1 : a_3 = 1
  · rw [if_pos h_1] at h
    have e_2 : (a_3 = 1) = True := eq_true h_1
    simp only [e_2, go_sem, reduceIte, reduceCtorEq, Nat.reduceEqDiff, Nat.reduceLT, Nat.reduceLeDiff, Nat.reduceAdd, Nat.reduceSub, Nat.reduceMul, Int.reduceToNat, Int.reduceLE, Int.reduceLT, Int.reduceAdd, Int.reduceSub, Int.reduceMul, Int.reduceEq, Int.reduceNeg]
    by_cases h_3 : a_2 < 0
    · rw [if_pos h_3] at h
      have e_4 : (a_2 < 0) = True := eq_true h_3
      simp only [e_2, e_4, go_sem, reduceIte, reduceCtorEq, Nat.reduceEqDiff, Nat.reduceLT, Nat.reduceLeDiff, Nat.reduceAdd, Nat.reduceSub, Nat.reduceMul, Int.reduceToNat, Int.reduceLE, Int.reduceLT, Int.reduceAdd, Int.reduceSub, Int.reduceMul, Int.reduceEq, Int.reduceNeg]
      have g_0 := Option.some.inj h
      obtain ⟨k_1, g_1⟩ := Prod.mk.inj g_0
      subst k_1
      subst g_1
      rw [← hQ]
      exact ⟨rfl, _, rfl, _, _, (RefV.trans (RefV.out (v' := .tup [.vec true [], .bool false]) rfl) (RefV.weak (Wks.cons (Wk.tup (Wks.cons Wk.vec (Wks.cons (Wk.refl _) (Wks.nil)))) Wks.nil) (WkH.refl _))), rfl, rfl⟩
    · rw [if_neg h_3] at h
      have e_4 : (a_2 < 0) = False := eq_false h_3
      simp only [e_2, e_4, go_sem, reduceIte, reduceCtorEq, Nat.reduceEqDiff, Nat.reduceLT, Nat.reduceLeDiff, Nat.reduceAdd, Nat.reduceSub, Nat.reduceMul, Int.reduceToNat, Int.reduceLE, Int.reduceLT, Int.reduceAdd, Int.reduceSub, Int.reduceMul, Int.reduceEq, Int.reduceNeg]
      by_cases h_5 : (l_0.length : Int) < a_2
      · rw [if_pos h_5] at h
        have e_6 : ((l_0.length : Int) < a_2) = True := eq_true h_5
        simp only [e_2, e_4, e_6, go_sem, reduceIte, reduceCtorEq, Nat.reduceEqDiff, Nat.reduceLT, Nat.reduceLeDiff, Nat.reduceAdd, Nat.reduceSub, Nat.reduceMul, Int.reduceToNat, Int.reduceLE, Int.reduceLT, Int.reduceAdd, Int.reduceSub, Int.reduceMul, Int.reduceEq, Int.reduceNeg]
        have g_0 := Option.some.inj h
        obtain ⟨k_1, g_1⟩ := Prod.mk.inj g_0
        subst k_1
        subst g_1
        rw [← hQ]
        exact ⟨rfl, _, rfl, _, _, (RefV.trans (RefV.out (v' := .tup [.vec true [], .bool false]) rfl) (RefV.weak (Wks.cons (Wk.tup (Wks.cons Wk.vec (Wks.cons (Wk.refl _) (Wks.nil)))) Wks.nil) (WkH.refl _))), rfl, rfl⟩
      · rw [if_neg h_5] at h
        have e_6 : ((l_0.length : Int) < a_2) = False := eq_false h_5
        obtain ⟨y_7, h_8, h⟩ := bindS h
        simp only [e_2, e_4, e_6, go_sem, reduceIte, reduceCtorEq, Nat.reduceEqDiff, Nat.reduceLT, Nat.reduceLeDiff, Nat.reduceAdd, Nat.reduceSub, Nat.reduceMul, Int.reduceToNat, Int.reduceLE, Int.reduceLT, Int.reduceAdd, Int.reduceSub, Int.reduceMul, Int.reduceEq, Int.reduceNeg]
        refine ACalls.use0 (octet_Within_w N _ _ _ _ _ h_8) rfl rfl ?_
        refine CallK_go (Nat.zero_le _) ?_
        simp only [e_2, e_4, e_6, go_sem, reduceIte, reduceCtorEq, Nat.reduceEqDiff, Nat.reduceLT, Nat.reduceLeDiff, Nat.reduceAdd, Nat.reduceSub, Nat.reduceMul, Int.reduceToNat, Int.reduceLE, Int.reduceLT, Int.reduceAdd, Int.reduceSub, Int.reduceMul, Int.reduceEq, Int.reduceNeg]
        by_cases h_9 : y_7 = true
        · rw [if_pos h_9] at h
          have e_10 : y_7 = true := h_9
          obtain ⟨y_11, h_12, h⟩ := bindS h
          simp only [e_2, e_4, e_6, e_10, go_sem, reduceIte, reduceCtorEq, Nat.reduceEqDiff, Nat.reduceLT, Nat.reduceLeDiff, Nat.reduceAdd, Nat.reduceSub, Nat.reduceMul, Int.reduceToNat, Int.reduceLE, Int.reduceLT, Int.reduceAdd, Int.reduceSub, Int.reduceMul, Int.reduceEq, Int.reduceNeg]
          refine ACalls.use (octet_many_int_w N _ _ _ _ _ _ h_12) [0, 1, 2] (by decide) ⟨(by first | rfl | simp only [go_sem, reduceIte, Nat.reduceEqDiff, Nat.reduceAdd, e_2, e_4, e_6, e_10]), (by first | rfl | simp only [go_sem, reduceIte, Nat.reduceEqDiff, Nat.reduceAdd, e_2, e_4, e_6, e_10]), (by first | rfl | simp only [go_sem, reduceIte, Nat.reduceEqDiff, Nat.reduceAdd, e_2, e_4, e_6, e_10]), trivial⟩ rfl (v' := .vec false (List.map eI64 y_11)) (by first | rfl | simp only [go_sem, reduceIte, Nat.reduceEqDiff, Nat.reduceAdd, e_2, e_4, e_6, e_10]) (H' := [.box [.vec c_0 (List.map eU8 l_0)] 22, .box [.int .i64 a_1] 3, .box [.int .i64 a_3] 3]) (by first | rfl | simp only [go_sem, reduceIte, Nat.reduceEqDiff, Nat.reduceAdd, e_2, e_4, e_6, e_10]) ?_
          refine CallK_go (Nat.zero_le _) ?_
          simp only [e_2, e_4, e_6, e_10, go_sem, reduceIte, reduceCtorEq, Nat.reduceEqDiff, Nat.reduceLT, Nat.reduceLeDiff, Nat.reduceAdd, Nat.reduceSub, Nat.reduceMul, Int.reduceToNat, Int.reduceLE, Int.reduceLT, Int.reduceAdd, Int.reduceSub, Int.reduceMul, Int.reduceEq, Int.reduceNeg]
          have g_0 := Option.some.inj h
          obtain ⟨k_1, g_1⟩ := Prod.mk.inj g_0
          subst k_1
          subst g_1
          rw [← hQ]
          exact ⟨rfl, _, rfl, _, _, (RefV.out rfl), rfl, rfl⟩
        · rw [if_neg h_9] at h
          have e_10 : y_7 = false := bfalse h_9
          simp only [e_2, e_4, e_6, e_10, go_sem, reduceIte, reduceCtorEq, Nat.reduceEqDiff, Nat.reduceLT, Nat.reduceLeDiff, Nat.reduceAdd, Nat.reduceSub, Nat.reduceMul, Int.reduceToNat, Int.reduceLE, Int.reduceLT, Int.reduceAdd, Int.reduceSub, Int.reduceMul, Int.reduceEq, Int.reduceNeg]
          have g_0 := Option.some.inj h
          obtain ⟨k_1, g_1⟩ := Prod.mk.inj g_0
          subst k_1
          subst g_1
          rw [← hQ]
          exact ⟨rfl, _, rfl, _, _, (RefV.trans (RefV.out (v' := .tup [.vec true [], .bool false]) rfl) (RefV.weak (Wks.cons (Wk.tup (Wks.cons Wk.vec (Wks.cons (Wk.refl _) (Wks.nil)))) Wks.nil) (WkH.refl _))), rfl, rfl⟩
  · rw [if_neg h_1] at h
    have e_2 : (a_3 = 1) = False := eq_false h_1
    simp only [e_2, go_sem, reduceIte, reduceCtorEq, Nat.reduceEqDiff, Nat.reduceLT, Nat.reduceLeDiff, Nat.reduceAdd, Nat.reduceSub, Nat.reduceMul, Int.reduceToNat, Int.reduceLE, Int.reduceLT, Int.reduceAdd, Int.reduceSub, Int.reduceMul, Int.reduceEq, Int.reduceNeg]
    by_cases h_13 : a_3 = 2
    · rw [if_pos h_13] at h
      have e_14 : (a_3 = 2) = True := eq_true h_13
      simp only [e_2, e_14, go_sem, reduceIte, reduceCtorEq, Nat.reduceEqDiff, Nat.reduceLT, Nat.reduceLeDiff, Nat.reduceAdd, Nat.reduceSub, Nat.reduceMul, Int.reduceToNat, Int.reduceLE, Int.reduceLT, Int.reduceAdd, Int.reduceSub, Int.reduceMul, Int.reduceEq, Int.reduceNeg]
      by_cases h_15 : a_2 < 0
      · rw [if_pos h_15] at h
        have e_16 : (a_2 < 0) = True := eq_true h_15
        simp only [e_2, e_14, e_16, go_sem, reduceIte, reduceCtorEq, Nat.reduceEqDiff, Nat.reduceLT, Nat.reduceLeDiff, Nat.reduceAdd, Nat.reduceSub, Nat.reduceMul, Int.reduceToNat, Int.reduceLE, Int.reduceLT, Int.reduceAdd, Int.reduceSub, Int.reduceMul, Int.reduceEq, Int.reduceNeg]
        have g_0 := Option.some.inj h
        obtain ⟨k_1, g_1⟩ := Prod.mk.inj g_0
        subst k_1
        subst g_1
        rw [← hQ]
        exact ⟨rfl, _, rfl, _, _, (RefV.trans (RefV.out (v' := .tup [.vec true [], .bool false]) rfl) (RefV.weak (Wks.cons (Wk.tup (Wks.cons Wk.vec (Wks.cons (Wk.refl _) (Wks.nil)))) Wks.nil) (WkH.refl _))), rfl, rfl⟩
      · rw [if_neg h_15] at h
        have e_16 : (a_2 < 0) = False := eq_false h_15
        simp only [e_2, e_14, e_16, go_sem, reduceIte, reduceCtorEq, Nat.reduceEqDiff, Nat.reduceLT, Nat.reduceLeDiff, Nat.reduceAdd, Nat.reduceSub, Nat.reduceMul, Int.reduceToNat, Int.reduceLE, Int.reduceLT, Int.reduceAdd, Int.reduceSub, Int.reduceMul, Int.reduceEq, Int.reduceNeg]
        by_cases h_17 : (l_0.length : Int) < a_2
        · rw [if_pos h_17] at h
          have e_18 : ((l_0.length : Int) < a_2) = True := eq_true h_17
          simp only [e_2, e_14, e_16, e_18, go_sem, reduceIte, reduceCtorEq, Nat.reduceEqDiff, Nat.reduceLT, Nat.reduceLeDiff, Nat.reduceAdd, Nat.reduceSub, Nat.reduceMul, Int.reduceToNat, Int.reduceLE, Int.reduceLT, Int.reduceAdd, Int.reduceSub, Int.reduceMul, Int.reduceEq, Int.reduceNeg]
          have g_0 := Option.some.inj h
          obtain ⟨k_1, g_1⟩ := Prod.mk.inj g_0
          subst k_1
          subst g_1
          rw [← hQ]
          exact ⟨rfl, _, rfl, _, _, (RefV.trans (RefV.out (v' := .tup [.vec true [], .bool false]) rfl) (RefV.weak (Wks.cons (Wk.tup (Wks.cons Wk.vec (Wks.cons (Wk.refl _) (Wks.nil)))) Wks.nil) (WkH.refl _))), rfl, rfl⟩
        · rw [if_neg h_17] at h
          have e_18 : ((l_0.length : Int) < a_2) = False := eq_false h_17
          obtain ⟨y_19, h_20, h⟩ := bindS h
          simp only [e_2, e_14, e_16, e_18, go_sem, reduceIte, reduceCtorEq, Nat.reduceEqDiff, Nat.reduceLT, Nat.reduceLeDiff, Nat.reduceAdd, Nat.reduceSub, Nat.reduceMul, Int.reduceToNat, Int.reduceLE, Int.reduceLT, Int.reduceAdd, Int.reduceSub, Int.reduceMul, Int.reduceEq, Int.reduceNeg]
          refine ACalls.use0 (octet_Within_w N _ _ _ _ _ h_20) rfl rfl ?_
          refine CallK_go (Nat.zero_le _) ?_
          simp only [e_2, e_14, e_16, e_18, go_sem, reduceIte, reduceCtorEq, Nat.reduceEqDiff, Nat.reduceLT, Nat.reduceLeDiff, Nat.reduceAdd, Nat.reduceSub, Nat.reduceMul, Int.reduceToNat, Int.reduceLE, Int.reduceLT, Int.reduceAdd, Int.reduceSub, Int.reduceMul, Int.reduceEq, Int.reduceNeg]
          by_cases h_21 : y_19 = true
          · rw [if_pos h_21] at h
            have e_22 : y_19 = true := h_21
            obtain ⟨y_23, h_24, h⟩ := bindS h
            simp only [e_2, e_14, e_16, e_18, e_22, go_sem, reduceIte, reduceCtorEq, Nat.reduceEqDiff, Nat.reduceLT, Nat.reduceLeDiff, Nat.reduceAdd, Nat.reduceSub, Nat.reduceMul, Int.reduceToNat, Int.reduceLE, Int.reduceLT, Int.reduceAdd, Int.reduceSub, Int.reduceMul, Int.reduceEq, Int.reduceNeg]
            refine ACalls.use (octet_many_int_w N _ _ _ _ _ _ h_24) [0, 1, 2] (by decide) ⟨(by first | rfl | simp only [go_sem, reduceIte, Nat.reduceEqDiff, Nat.reduceAdd, e_2, e_14, e_16, e_18, e_22]), (by first | rfl | simp only [go_sem, reduceIte, Nat.reduceEqDiff, Nat.reduceAdd, e_2, e_14, e_16, e_18, e_22]), (by first | rfl | simp only [go_sem, reduceIte, Nat.reduceEqDiff, Nat.reduceAdd, e_2, e_14, e_16, e_18, e_22]), trivial⟩ rfl (v' := .vec false (List.map eI64 y_23)) (by first | rfl | simp only [go_sem, reduceIte, Nat.reduceEqDiff, Nat.reduceAdd, e_2, e_14, e_16, e_18, e_22]) (H' := [.box [.vec c_0 (List.map eU8 l_0)] 22, .box [.int .i64 a_1] 3, .box [.int .i64 a_3] 3]) (by first | rfl | simp only [go_sem, reduceIte, Nat.reduceEqDiff, Nat.reduceAdd, e_2, e_14, e_16, e_18, e_22]) ?_
            refine CallK_go (Nat.zero_le _) ?_
            simp only [e_2, e_14, e_16, e_18, e_22, go_sem, reduceIte, reduceCtorEq, Nat.reduceEqDiff, Nat.reduceLT, Nat.reduceLeDiff, Nat.reduceAdd, Nat.reduceSub, Nat.reduceMul, Int.reduceToNat, Int.reduceLE, Int.reduceLT, Int.reduceAdd, Int.reduceSub, Int.reduceMul, Int.reduceEq, Int.reduceNeg]
            have g_0 := Option.some.inj h
            obtain ⟨k_1, g_1⟩ := Prod.mk.inj g_0
            subst k_1
            subst g_1
            rw [← hQ]
            exact ⟨rfl, _, rfl, _, _, (RefV.out rfl), rfl, rfl⟩
          · rw [if_neg h_21] at h
            have e_22 : y_19 = false := bfalse h_21
            simp only [e_2, e_14, e_16, e_18, e_22, go_sem, reduceIte, reduceCtorEq, Nat.reduceEqDiff, Nat.reduceLT, Nat.reduceLeDiff, Nat.reduceAdd, Nat.reduceSub, Nat.reduceMul, Int.reduceToNat, Int.reduceLE, Int.reduceLT, Int.reduceAdd, Int.reduceSub, Int.reduceMul, Int.reduceEq, Int.reduceNeg]
            have g_0 := Option.some.inj h
            obtain ⟨k_1, g_1⟩ := Prod.mk.inj g_0
            subst k_1
            subst g_1
            rw [← hQ]
            exact ⟨rfl, _, rfl, _, _, (RefV.trans (RefV.out (v' := .tup [.vec true [], .bool false]) rfl) (RefV.weak (Wks.cons (Wk.tup (Wks.cons Wk.vec (Wks.cons (Wk.refl _) (Wks.nil)))) Wks.nil) (WkH.refl _))), rfl, rfl⟩
    · rw [if_neg h_13] at h
      have e_14 : (a_3 = 2) = False := eq_false h_13
      simp only [e_2, e_14, go_sem, reduceIte, reduceCtorEq, Nat.reduceEqDiff, Nat.reduceLT, Nat.reduceLeDiff, Nat.reduceAdd, Nat.reduceSub, Nat.reduceMul, Int.reduceToNat, Int.reduceLE, Int.reduceLT, Int.reduceAdd, Int.reduceSub, Int.reduceMul, Int.reduceEq, Int.reduceNeg]
      by_cases h_25 : a_3 = 4
      · rw [if_pos h_25] at h
        have e_26 : (a_3 = 4) = True := eq_true h_25
        simp only [e_2, e_14, e_26, go_sem, reduceIte, reduceCtorEq, Nat.reduceEqDiff, Nat.reduceLT, Nat.reduceLeDiff, Nat.reduceAdd, Nat.reduceSub, Nat.reduceMul, Int.reduceToNat, Int.reduceLE, Int.reduceLT, Int.reduceAdd, Int.reduceSub, Int.reduceMul, Int.reduceEq, Int.reduceNeg]
        by_cases h_27 : a_2 < 0
        · rw [if_pos h_27] at h
          have e_28 : (a_2 < 0) = True := eq_true h_27
          simp only [e_2, e_14, e_26, e_28, go_sem, reduceIte, reduceCtorEq, Nat.reduceEqDiff, Nat.reduceLT, Nat.reduceLeDiff, Nat.reduceAdd, Nat.reduceSub, Nat.reduceMul, Int.reduceToNat, Int.reduceLE, Int.reduceLT, Int.reduceAdd, Int.reduceSub, Int.reduceMul, Int.reduceEq, Int.reduceNeg]
          have g_0 := Option.some.inj h
          obtain ⟨k_1, g_1⟩ := Prod.mk.inj g_0
          subst k_1
          subst g_1
          rw [← hQ]
          exact ⟨rfl, _, rfl, _, _, (RefV.trans (RefV.out (v' := .tup [.vec true [], .bool false]) rfl) (RefV.weak (Wks.cons (Wk.tup (Wks.cons Wk.vec (Wks.cons (Wk.refl _) (Wks.nil)))) Wks.nil) (WkH.refl _))), rfl, rfl⟩
        · rw [if_neg h_27] at h
          have e_28 : (a_2 < 0) = False := eq_false h_27
          simp only [e_2, e_14, e_26, e_28, go_sem, reduceIte, reduceCtorEq, Nat.reduceEqDiff, Nat.reduceLT, Nat.reduceLeDiff, Nat.reduceAdd, Nat.reduceSub, Nat.reduceMul, Int.reduceToNat, Int.reduceLE, Int.reduceLT, Int.reduceAdd, Int.reduceSub, Int.reduceMul, Int.reduceEq, Int.reduceNeg]
          by_cases h_29 : (l_0.length : Int) < a_2
          · rw [if_pos h_29] at h
            have e_30 : ((l_0.length : Int) < a_2) = True := eq_true h_29
            simp only [e_2, e_14, e_26, e_28, e_30, go_sem, reduceIte, reduceCtorEq, Nat.reduceEqDiff, Nat.reduceLT, Nat.reduceLeDiff, Nat.reduceAdd, Nat.reduceSub, Nat.reduceMul, Int.reduceToNat, Int.reduceLE, Int.reduceLT, Int.reduceAdd, Int.reduceSub, Int.reduceMul, Int.reduceEq, Int.reduceNeg]
            have g_0 := Option.some.inj h
            obtain ⟨k_1, g_1⟩ := Prod.mk.inj g_0
            subst k_1
            subst g_1
            rw [← hQ]
            exact ⟨rfl, _, rfl, _, _, (RefV.trans (RefV.out (v' := .tup [.vec true [], .bool false]) rfl) (RefV.weak (Wks.cons (Wk.tup (Wks.cons Wk.vec (Wks.cons (Wk.refl _) (Wks.nil)))) Wks.nil) (WkH.refl _))), rfl, rfl⟩
          · rw [if_neg h_29] at h
            have e_30 : ((l_0.length : Int) < a_2) = False := eq_false h_29
            obtain ⟨y_31, h_32, h⟩ := bindS h
            simp only [e_2, e_14, e_26, e_28, e_30, go_sem, reduceIte, reduceCtorEq, Nat.reduceEqDiff, Nat.reduceLT, Nat.reduceLeDiff, Nat.reduceAdd, Nat.reduceSub, Nat.reduceMul, Int.reduceToNat, Int.reduceLE, Int.reduceLT, Int.reduceAdd, Int.reduceSub, Int.reduceMul, Int.reduceEq, Int.reduceNeg]
            refine ACalls.use0 (octet_Within_w N _ _ _ _ _ h_32) rfl rfl ?_
            refine CallK_go (Nat.zero_le _) ?_
            simp only [e_2, e_14, e_26, e_28, e_30, go_sem, reduceIte, reduceCtorEq, Nat.reduceEqDiff, Nat.reduceLT, Nat.reduceLeDiff, Nat.reduceAdd, Nat.reduceSub, Nat.reduceMul, Int.reduceToNat, Int.reduceLE, Int.reduceLT, Int.reduceAdd, Int.reduceSub, Int.reduceMul, Int.reduceEq, Int.reduceNeg]
            by_cases h_33 : y_31 = true
            · rw [if_pos h_33] at h
              have e_34 : y_31 = true := h_33
              obtain ⟨y_35, h_36, h⟩ := bindS h
              simp only [e_2, e_14, e_26, e_28, e_30, e_34, go_sem, reduceIte, reduceCtorEq, Nat.reduceEqDiff, Nat.reduceLT, Nat.reduceLeDiff, Nat.reduceAdd, Nat.reduceSub, Nat.reduceMul, Int.reduceToNat, Int.reduceLE, Int.reduceLT, Int.reduceAdd, Int.reduceSub, Int.reduceMul, Int.reduceEq, Int.reduceNeg]
              refine ACalls.use (octet_many_int_w N _ _ _ _ _ _ h_36) [0, 1, 2] (by decide) ⟨(by first | rfl | simp only [go_sem, reduceIte, Nat.reduceEqDiff, Nat.reduceAdd, e_2, e_14, e_26, e_28, e_30, e_34]), (by first | rfl | simp only [go_sem, reduceIte, Nat.reduceEqDiff, Nat.reduceAdd, e_2, e_14, e_26, e_28, e_30, e_34]), (by first | rfl | simp only [go_sem, reduceIte, Nat.reduceEqDiff, Nat.reduceAdd, e_2, e_14, e_26, e_28, e_30, e_34]), trivial⟩ rfl (v' := .vec false (List.map eI64 y_35)) (by first | rfl | simp only [go_sem, reduceIte, Nat.reduceEqDiff, Nat.reduceAdd, e_2, e_14, e_26, e_28, e_30, e_34]) (H' := [.box [.vec c_0 (List.map eU8 l_0)] 22, .box [.int .i64 a_1] 3, .box [.int .i64 a_3] 3]) (by first | rfl | simp only [go_sem, reduceIte, Nat.reduceEqDiff, Nat.reduceAdd, e_2, e_14, e_26, e_28, e_30, e_34]) ?_
              refine CallK_go (Nat.zero_le _) ?_
              simp only [e_2, e_14, e_26, e_28, e_30, e_34, go_sem, reduceIte, reduceCtorEq, Nat.reduceEqDiff, Nat.reduceLT, Nat.reduceLeDiff, Nat.reduceAdd, Nat.reduceSub, Nat.reduceMul, Int.reduceToNat, Int.reduceLE, Int.reduceLT, Int.reduceAdd, Int.reduceSub, Int.reduceMul, Int.reduceEq, Int.reduceNeg]
              have g_0 := Option.some.inj h
              obtain ⟨k_1, g_1⟩ := Prod.mk.inj g_0
              subst k_1
              subst g_1
              rw [← hQ]
              exact ⟨rfl, _, rfl, _, _, (RefV.out rfl), rfl, rfl⟩
            · rw [if_neg h_33] at h
              have e_34 : y_31 = false := bfalse h_33
              simp only [e_2, e_14, e_26, e_28, e_30, e_34, go_sem, reduceIte, reduceCtorEq, Nat.reduceEqDiff, Nat.reduceLT, Nat.reduceLeDiff, Nat.reduceAdd, Nat.reduceSub, Nat.reduceMul, Int.reduceToNat, Int.reduceLE, Int.reduceLT, Int.reduceAdd, Int.reduceSub, Int.reduceMul, Int.reduceEq, Int.reduceNeg]
              have g_0 := Option.some.inj h
              obtain ⟨k_1, g_1⟩ := Prod.mk.inj g_0
              subst k_1
              subst g_1
              rw [← hQ]
              exact ⟨rfl, _, rfl, _, _, (RefV.trans (RefV.out (v' := .tup [.vec true [], .bool false]) rfl) (RefV.weak (Wks.cons (Wk.tup (Wks.cons Wk.vec (Wks.cons (Wk.refl _) (Wks.nil)))) Wks.nil) (WkH.refl _))), rfl, rfl⟩
      · rw [if_neg h_25] at h
        have e_26 : (a_3 = 4) = False := eq_false h_25
        simp only [e_2, e_14, e_26, go_sem, reduceIte, reduceCtorEq, Nat.reduceEqDiff, Nat.reduceLT, Nat.reduceLeDiff, Nat.reduceAdd, Nat.reduceSub, Nat.reduceMul, Int.reduceToNat, Int.reduceLE, Int.reduceLT, Int.reduceAdd, Int.reduceSub, Int.reduceMul, Int.reduceEq, Int.reduceNeg]
        have g_0 := Option.some.inj h
        obtain ⟨k_1, g_1⟩ := Prod.mk.inj g_0
        subst k_1
        subst g_1
        rw [← hQ]
        exact ⟨rfl, _, rfl, _, _, (RefV.trans (RefV.out (v' := .tup [.vec true [], .bool false]) rfl) (RefV.weak (Wks.cons (Wk.tup (Wks.cons Wk.vec (Wks.cons (Wk.refl _) (Wks.nil)))) Wks.nil) (WkH.refl _))), rfl, rfl⟩
theorem gdef_list_add_row_w (N : Nat) (l_0 : List TGroup) (a_1 : Int) (a_2 : Int) (a_3 : Int) (a_4 : Int) (z_1 : List TGroup) (h : gdef_list_add_row N l_0 a_1 a_2 a_3 a_4 = some z_1) :
    ACalls Go.Proofs.Try.prog 91 [.ptr 0 0 0, .int .i64 a_2, .int .i64 a_3, .int .i64 a_4] [.box [.row 1 0 l_0.length, .int .i64 a_1] 113, .mem 3 (List.map eTGroup l_0) 76] (fun e H => H = [.box [.row 2 0 z_1.length, .int .i64 a_1] 113, .dead, .mem 3 (List.map eTGroup z_1) 76] ∧ e = .ret (.tup [])) := by
  unfold gdef_list_add_row at h
  refine ACalls.goN Go.Proofs.Try.func91 n91 a91 Go.Proofs.Try.ntmps91 r91 (by simp) 2 rfl ?_
  generalize hQ : bodyA _ _ _ = QQ
  simp only [A91, go_sem, reduceIte, reduceCtorEq, Nat.reduceEqDiff, Nat.reduceLT, Nat.reduceLeDiff, Nat.reduceAdd, Nat.reduceSub, Nat.reduceMul, Int.reduceToNat, Int.reduceLE, Int.reduceLT, Int.reduceAdd, Int.reduceSub, Int.reduceMul, Int.reduceEq, Int.reduceNeg]
  by_cases h_1 : a_4 = 0
  · rw [if_pos h_1] at h
    have e_2 : (a_4 = 0) = True := eq_true h_1
    simp only [e_2, go_sem, reduceIte, reduceCtorEq, Nat.reduceEqDiff, Nat.reduceLT, Nat.reduceLeDiff, Nat.reduceAdd, Nat.reduceSub, Nat.reduceMul, Int.reduceToNat, Int.reduceLE, Int.reduceLT, Int.reduceAdd, Int.reduceSub, Int.reduceMul, Int.reduceEq, Int.reduceNeg]
    by_cases h_3 : min a_3 (IntKind.i64.wrap ((IntKind.i64.wrap ((IntKind.i64.wrap ((IntKind.i64.wrap (a_2 + 1)) + a_1)) - 1)) - 1)) < IntKind.i64.wrap (a_2 + 1)
    · rw [if_pos h_3] at h
      have e_4 : (min a_3 (IntKind.i64.wrap ((IntKind.i64.wrap ((IntKind.i64.wrap ((IntKind.i64.wrap (a_2 + 1)) + a_1)) - 1)) - 1)) < IntKind.i64.wrap (a_2 + 1)) = True := eq_true h_3
      simp only [e_2, e_4, go_sem, reduceIte, reduceCtorEq, Nat.reduceEqDiff, Nat.reduceLT, Nat.reduceLeDiff, Nat.reduceAdd, Nat.reduceSub, Nat.reduceMul, Int.reduceToNat, Int.reduceLE, Int.reduceLT, Int.reduceAdd, Int.reduceSub, Int.reduceMul, Int.reduceEq, Int.reduceNeg]
      have g_0 := Option.some.inj h
      subst g_0
      rw [← hQ]
      exact ⟨rfl, _, rfl, _, _, (RefV.trans (RefV.move (by simp) (id := 1) rfl rfl) (RefV.std [0, 1, 2] (by decide) (by decide) (by first | rfl | simp only [go_sem, reduceIte, Nat.reduceEqDiff, Nat.reduceAdd, e_2, e_4]) (by first | rfl | simp only [go_sem, reduceIte, Nat.reduceEqDiff, Nat.reduceAdd, e_2, e_4]))), rfl, rfl⟩
    · rw [if_neg h_3] at h
      have e_4 : (min a_3 (IntKind.i64.wrap ((IntKind.i64.wrap ((IntKind.i64.wrap ((IntKind.i64.wrap (a_2 + 1)) + a_1)) - 1)) - 1)) < IntKind.i64.wrap (a_2 + 1)) = False := eq_false h_3
      simp only [e_2, e_4, go_sem, reduceIte, reduceCtorEq, Nat.reduceEqDiff, Nat.reduceLT, Nat.reduceLeDiff, Nat.reduceAdd, Nat.reduceSub, Nat.reduceMul, Int.reduceToNat, Int.reduceLE, Int.reduceLT, Int.reduceAdd, Int.reduceSub, Int.reduceMul, Int.reduceEq, Int.reduceNeg]
      by_cases h_5 : 0 < (l_0.length : Int)
      · rw [if_pos h_5] at h
        have e_6 : (0 < (l_0.length : Int)) = True := eq_true h_5
        obtain ⟨x_7, h_8, h⟩ := bindS h
        have e_9 : (List.map eTGroup l_0)[(IntKind.i64.wrap ((l_0.length : Int) - 1)).toNat]? = some [.int .i32 x_7.From, .int .i32 x_7.To, .int .i64 x_7.Glyph] := atI_map eTGroup h_8
        have e_10 : ((0 : Int) ≤ IntKind.i64.wrap ((l_0.length : Int) - 1)) = True := eq_true (atI_some h_8).1
        have e_11 : ((IntKind.i64.wrap ((l_0.length : Int) - 1) : Int) < (l_0.length : Int)) = True := eq_true (atI_lt h_8)
        simp only [e_2, e_4, e_6, e_9, e_10, e_11, go_sem, reduceIte, reduceCtorEq, Nat.reduceEqDiff, Nat.reduceLT, Nat.reduceLeDiff, Nat.reduceAdd, Nat.reduceSub, Nat.reduceMul, Int.reduceToNat, Int.reduceLE, Int.reduceLT, Int.reduceAdd, Int.reduceSub, Int.reduceMul, Int.reduceEq, Int.reduceNeg]
        by_cases h_12 : IntKind.i32.wrap (x_7.To + 1) = IntKind.i32.wrap (IntKind.i64.wrap (a_2 + 1))
        · rw [if_pos h_12] at h
          have e_13 : (IntKind.i32.wrap (x_7.To + 1) = IntKind.i32.wrap (IntKind.i64.wrap (a_2 + 1))) = True := eq_true h_12
          simp only [e_2, e_4, e_6, e_9, e_10, e_11, e_13, go_sem, reduceIte, reduceCtorEq, Nat.reduceEqDiff, Nat.reduceLT, Nat.reduceLeDiff, Nat.reduceAdd, Nat.reduceSub, Nat.reduceMul, Int.reduceToNat, Int.reduceLE, Int.reduceLT, Int.reduceAdd, Int.reduceSub, Int.reduceMul, Int.reduceEq, Int.reduceNeg]
          by_cases h_14 : IntKind.i64.wrap ((IntKind.i64.wrap (x_7.Glyph + (IntKind.i64.wrap (IntKind.i32.wrap (x_7.To - x_7.From))))) + 1) = 1
          · rw [if_pos h_14] at h
            have e_15 : (IntKind.i64.wrap ((IntKind.i64.wrap (x_7.Glyph + (IntKind.i64.wrap (IntKind.i32.wrap (x_7.To - x_7.From))))) + 1) = 1) = True := eq_true h_14
            have e_16 : (List.map eTGroup l_0).set (IntKind.i64.wrap ((l_0.length : Int) - 1)).toNat [.int .i32 x_7.From, .int .i32 (IntKind.i32.wrap (min a_3 (IntKind.i64.wrap ((IntKind.i64.wrap ((IntKind.i64.wrap ((IntKind.i64.wrap (a_2 + 1)) + a_1)) - 1)) - 1)))), .int .i64 x_7.Glyph] = List.map eTGroup (List.set l_0 (IntKind.i64.wrap ((l_0.length : Int) - 1)).toNat (TGroup.mk x_7.From (IntKind.i32.wrap (min a_3 (IntKind.i64.wrap ((IntKind.i64.wrap ((IntKind.i64.wrap ((IntKind.i64.wrap (a_2 + 1)) + a_1)) - 1)) - 1)))) x_7.Glyph)) := set_map l_0 eTGroup (IntKind.i64.wrap ((l_0.length : Int) - 1)).toNat (TGroup.mk x_7.From (IntKind.i32.wrap (min a_3 (IntKind.i64.wrap ((IntKind.i64.wrap ((IntKind.i64.wrap ((IntKind.i64.wrap (a_2 + 1)) + a_1)) - 1)) - 1)))) x_7.Glyph)
            simp only [e_2, e_4, e_6, e_9, e_10, e_11, e_13, e_15, e_16, go_sem, reduceIte, reduceCtorEq, Nat.reduceEqDiff, Nat.reduceLT, Nat.reduceLeDiff, Nat.reduceAdd, Nat.reduceSub, Nat.reduceMul, Int.reduceToNat, Int.reduceLE, Int.reduceLT, Int.reduceAdd, Int.reduceSub, Int.reduceMul, Int.reduceEq, Int.reduceNeg]
            have g_0 := Option.some.inj h
            subst g_0
            rw [← hQ]
            exact ⟨rfl, _, rfl, _, _, (RefV.trans (RefV.move (by simp) (id := 1) rfl rfl) (RefV.std [0, 1, 3] (by decide) (by decide) (by first | rfl | simp only [go_sem, reduceIte, Nat.reduceEqDiff, Nat.reduceAdd, e_2, e_4, e_6, e_13, e_15]) (by first | rfl | simp only [go_sem, reduceIte, Nat.reduceEqDiff, Nat.reduceAdd, e_2, e_4, e_6, e_13, e_15]))), rfl, rfl⟩
          · rw [if_neg h_14] at h
            have e_15 : (IntKind.i64.wrap ((IntKind.i64.wrap (x_7.Glyph + (IntKind.i64.wrap (IntKind.i32.wrap (x_7.To - x_7.From))))) + 1) = 1) = False := eq_false h_14
            have e_17 : List.take l_0.length (List.map eTGroup l_0) = (List.map eTGroup l_0) := List.take_of_length_le (by simp)
            have e_18 : (List.map eTGroup l_0) ++ [[.int .i32 (IntKind.i32.wrap (IntKind.i64.wrap (a_2 + 1))), .int .i32 (IntKind.i32.wrap (min a_3 (IntKind.i64.wrap ((IntKind.i64.wrap ((IntKind.i64.wrap ((IntKind.i64.wrap (a_2 + 1)) + a_1)) - 1)) - 1)))), .int .i64 1]] = (List.map eTGroup (l_0 ++ [TGroup.mk (IntKind.i32.wrap (IntKind.i64.wrap (a_2 + 1))) (IntKind.i32.wrap (min a_3 (IntKind.i64.wrap ((IntKind.i64.wrap ((IntKind.i64.wrap ((IntKind.i64.wrap (a_2 + 1)) + a_1)) - 1)) - 1)))) 1])) := app_map l_0 ([TGroup.mk (IntKind.i32.wrap (IntKind.i64.wrap (a_2 + 1))) (IntKind.i32.wrap (min a_3 (IntKind.i64.wrap ((IntKind.i64.wrap ((IntKind.i64.wrap ((IntKind.i64.wrap (a_2 + 1)) + a_1)) - 1)) - 1)))) 1]) eTGroup
            obtain ⟨h_19, h⟩ := guardS h
            have e_20 : ((l_0.length + 1) * 16 ≤ 140737488355328) = True := eq_true h_19
            simp only [e_2, e_4, e_6, e_9, e_10, e_11, e_13, e_15, e_17, e_18, e_20, go_sem, reduceIte, reduceCtorEq, Nat.reduceEqDiff, Nat.reduceLT, Nat.reduceLeDiff, Nat.reduceAdd, Nat.reduceSub, Nat.reduceMul, Int.reduceToNat, Int.reduceLE, Int.reduceLT, Int.reduceAdd, Int.reduceSub, Int.reduceMul, Int.reduceEq, Int.reduceNeg]
            have g_0 := Option.some.inj h
            subst g_0
            rw [← hQ]
            exact ⟨rfl, _, rfl, _, _, (RefV.std [0, 1, 3] (by decide) (by decide) rfl (by first | rfl | simp only [go_sem, reduceIte, Nat.reduceEqDiff, Nat.reduceAdd, e_2, e_4, e_6, e_13, e_15])), rfl, rfl⟩
        · rw [if_neg h_12] at h
          have e_13 : (IntKind.i32.wrap (x_7.To + 1) = IntKind.i32.wrap (IntKind.i64.wrap (a_2 + 1))) = False := eq_false h_12
          have e_21 : List.take l_0.length (List.map eTGroup l_0) = (List.map eTGroup l_0) := List.take_of_length_le (by simp)
          have e_22 : (List.map eTGroup l_0) ++ [[.int .i32 (IntKind.i32.wrap (IntKind.i64.wrap (a_2 + 1))), .int .i32 (IntKind.i32.wrap (min a_3 (IntKind.i64.wrap ((IntKind.i64.wrap ((IntKind.i64.wrap ((IntKind.i64.wrap (a_2 + 1)) + a_1)) - 1)) - 1)))), .int .i64 1]] = (List.map eTGroup (l_0 ++ [TGroup.mk (IntKind.i32.wrap (IntKind.i64.wrap (a_2 + 1))) (IntKind.i32.wrap (min a_3 (IntKind.i64.wrap ((IntKind.i64.wrap ((IntKind.i64.wrap ((IntKind.i64.wrap (a_2 + 1)) + a_1)) - 1)) - 1)))) 1])) := app_map l_0 ([TGroup.mk (IntKind.i32.wrap (IntKind.i64.wrap (a_2 + 1))) (IntKind.i32.wrap (min a_3 (IntKind.i64.wrap ((IntKind.i64.wrap ((IntKind.i64.wrap ((IntKind.i64.wrap (a_2 + 1)) + a_1)) - 1)) - 1)))) 1]) eTGroup
          obtain ⟨h_23, h⟩ := guardS h
          have e_24 : ((l_0.length + 1) * 16 ≤ 140737488355328) = True := eq_true h_23
          simp only [e_2, e_4, e_6, e_9, e_10, e_11, e_13, e_21, e_22, e_24, go_sem, reduceIte, reduceCtorEq, Nat.reduceEqDiff, Nat.reduceLT, Nat.reduceLeDiff, Nat.reduceAdd, Nat.reduceSub, Nat.reduceMul, Int.reduceToNat, Int.reduceLE, Int.reduceLT, Int.reduceAdd, Int.reduceSub, Int.reduceMul, Int.reduceEq, Int.reduceNeg]
          have g_0 := Option.some.inj h
          subst g_0
          rw [← hQ]
          exact ⟨rfl, _, rfl, _, _, (RefV.std [0, 1, 3] (by decide) (by decide) rfl (by first | rfl | simp only [go_sem, reduceIte, Nat.reduceEqDiff, Nat.reduceAdd, e_2, e_4, e_6, e_13])), rfl, rfl⟩
      · rw [if_neg h_5] at h
        have e_6 : (0 < (l_0.length : Int)) = False := eq_false h_5
        have e_25 : List.take l_0.length (List.map eTGroup l_0) = (List.map eTGroup l_0) := List.take_of_length_le (by simp)
        have e_26 : (List.map eTGroup l_0) ++ [[.int .i32 (IntKind.i32.wrap (IntKind.i64.wrap (a_2 + 1))), .int .i32 (IntKind.i32.wrap (min a_3 (IntKind.i64.wrap ((IntKind.i64.wrap ((IntKind.i64.wrap ((IntKind.i64.wrap (a_2 + 1)) + a_1)) - 1)) - 1)))), .int .i64 1]] = (List.map eTGroup (l_0 ++ [TGroup.mk (IntKind.i32.wrap (IntKind.i64.wrap (a_2 + 1))) (IntKind.i32.wrap (min a_3 (IntKind.i64.wrap ((IntKind.i64.wrap ((IntKind.i64.wrap ((IntKind.i64.wrap (a_2 + 1)) + a_1)) - 1)) - 1)))) 1])) := app_map l_0 ([TGroup.mk (IntKind.i32.wrap (IntKind.i64.wrap (a_2 + 1))) (IntKind.i32.wrap (min a_3 (IntKind.i64.wrap ((IntKind.i64.wrap ((IntKind.i64.wrap ((IntKind.i64.wrap (a_2 + 1)) + a_1)) - 1)) - 1)))) 1]) eTGroup
        obtain ⟨h_27, h⟩ := guardS h
        have e_28 : ((l_0.length + 1) * 16 ≤ 140737488355328) = True := eq_true h_27
        simp only [e_2, e_4, e_6, e_25, e_26, e_28, go_sem, reduceIte, reduceCtorEq, Nat.reduceEqDiff, Nat.reduceLT, Nat.reduceLeDiff, Nat.reduceAdd, Nat.reduceSub, Nat.reduceMul, Int.reduceToNat, Int.reduceLE, Int.reduceLT, Int.reduceAdd, Int.reduceSub, Int.reduceMul, Int.reduceEq, Int.reduceNeg]
        have g_0 := Option.some.inj h
        subst g_0
        rw [← hQ]
        exact ⟨rfl, _, rfl, _, _, (RefV.std [0, 1, 3] (by decide) (by decide) rfl (by first | rfl | simp only [go_sem, reduceIte, Nat.reduceEqDiff, Nat.reduceAdd, e_2, e_4, e_6])), rfl, rfl⟩
  · rw [if_neg h_1] at h
    have e_2 : (a_4 = 0) = False := eq_false h_1
    simp only [e_2, go_sem, reduceIte, reduceCtorEq, Nat.reduceEqDiff, Nat.reduceLT, Nat.reduceLeDiff, Nat.reduceAdd, Nat.reduceSub, Nat.reduceMul, Int.reduceToNat, Int.reduceLE, Int.reduceLT, Int.reduceAdd, Int.reduceSub, Int.reduceMul, Int.reduceEq, Int.reduceNeg]
    by_cases h_29 : min a_3 (IntKind.i64.wrap ((IntKind.i64.wrap ((IntKind.i64.wrap (a_2 + a_1)) - 1)) - a_4)) < a_2
    · rw [if_pos h_29] at h
      have e_30 : (min a_3 (IntKind.i64.wrap ((IntKind.i64.wrap ((IntKind.i64.wrap (a_2 + a_1)) - 1)) - a_4)) < a_2) = True := eq_true h_29
      simp only [e_2, e_30, go_sem, reduceIte, reduceCtorEq, Nat.reduceEqDiff, Nat.reduceLT, Nat.reduceLeDiff, Nat.reduceAdd, Nat.reduceSub, Nat.reduceMul, Int.reduceToNat, Int.reduceLE, Int.reduceLT, Int.reduceAdd, Int.reduceSub, Int.reduceMul, Int.reduceEq, Int.reduceNeg]
      have g_0 := Option.some.inj h
      subst g_0
      rw [← hQ]
      exact ⟨rfl, _, rfl, _, _, (RefV.trans (RefV.move (by simp) (id := 1) rfl rfl) (RefV.std [0, 1, 2] (by decide) (by decide) (by first | rfl | simp only [go_sem, reduceIte, Nat.reduceEqDiff, Nat.reduceAdd, e_2, e_30]) (by first | rfl | simp only [go_sem, reduceIte, Nat.reduceEqDiff, Nat.reduceAdd, e_2, e_30]))), rfl, rfl⟩
    · rw [if_neg h_29] at h
      have e_30 : (min a_3 (IntKind.i64.wrap ((IntKind.i64.wrap ((IntKind.i64.wrap (a_2 + a_1)) - 1)) - a_4)) < a_2) = False := eq_false h_29
      simp only [e_2, e_30, go_sem, reduceIte, reduceCtorEq, Nat.reduceEqDiff, Nat.reduceLT, Nat.reduceLeDiff, Nat.reduceAdd, Nat.reduceSub, Nat.reduceMul, Int.reduceToNat, Int.reduceLE, Int.reduceLT, Int.reduceAdd, Int.reduceSub, Int.reduceMul, Int.reduceEq, Int.reduceNeg]
      by_cases h_31 : 0 < (l_0.length : Int)
      · rw [if_pos h_31] at h
        have e_32 : (0 < (l_0.length : Int)) = True := eq_true h_31
        obtain ⟨x_33, h_34, h⟩ := bindS h
        have e_35 : (List.map eTGroup l_0)[(IntKind.i64.wrap ((l_0.length : Int) - 1)).toNat]? = some [.int .i32 x_33.From, .int .i32 x_33.To, .int .i64 x_33.Glyph] := atI_map eTGroup h_34
        have e_36 : ((0 : Int) ≤ IntKind.i64.wrap ((l_0.length : Int) - 1)) = True := eq_true (atI_some h_34).1
        have e_37 : ((IntKind.i64.wrap ((l_0.length : Int) - 1) : Int) < (l_0.length : Int)) = True := eq_true (atI_lt h_34)
        simp only [e_2, e_30, e_32, e_35, e_36, e_37, go_sem, reduceIte, reduceCtorEq, Nat.reduceEqDiff, Nat.reduceLT, Nat.reduceLeDiff, Nat.reduceAdd, Nat.reduceSub, Nat.reduceMul, Int.reduceToNat, Int.reduceLE, Int.reduceLT, Int.reduceAdd, Int.reduceSub, Int.reduceMul, Int.reduceEq, Int.reduceNeg]
        by_cases h_38 : IntKind.i32.wrap (x_33.To + 1) = IntKind.i32.wrap a_2
        · rw [if_pos h_38] at h
          have e_39 : (IntKind.i32.wrap (x_33.To + 1) = IntKind.i32.wrap a_2) = True := eq_true h_38
          simp only [e_2, e_30, e_32, e_35, e_36, e_37, e_39, go_sem, reduceIte, reduceCtorEq, Nat.reduceEqDiff, Nat.reduceLT, Nat.reduceLeDiff, Nat.reduceAdd, Nat.reduceSub, Nat.reduceMul, Int.reduceToNat, Int.reduceLE, Int.reduceLT, Int.reduceAdd, Int.reduceSub, Int.reduceMul, Int.reduceEq, Int.reduceNeg]
          by_cases h_40 : IntKind.i64.wrap ((IntKind.i64.wrap (x_33.Glyph + (IntKind.i64.wrap (IntKind.i32.wrap (x_33.To - x_33.From))))) + 1) = a_4
          · rw [if_pos h_40] at h
            have e_41 : (IntKind.i64.wrap ((IntKind.i64.wrap (x_33.Glyph + (IntKind.i64.wrap (IntKind.i32.wrap (x_33.To - x_33.From))))) + 1) = a_4) = True := eq_true h_40
            have e_42 : (List.map eTGroup l_0).set (IntKind.i64.wrap ((l_0.length : Int) - 1)).toNat [.int .i32 x_33.From, .int .i32 (IntKind.i32.wrap (min a_3 (IntKind.i64.wrap ((IntKind.i64.wrap ((IntKind.i64.wrap (a_2 + a_1)) - 1)) - a_4)))), .int .i64 x_33.Glyph] = List.map eTGroup (List.set l_0 (IntKind.i64.wrap ((l_0.length : Int) - 1)).toNat (TGroup.mk x_33.From (IntKind.i32.wrap (min a_3 (IntKind.i64.wrap ((IntKind.i64.wrap ((IntKind.i64.wrap (a_2 + a_1)) - 1)) - a_4)))) x_33.Glyph)) := set_map l_0 eTGroup (IntKind.i64.wrap ((l_0.length : Int) - 1)).toNat (TGroup.mk x_33.From (IntKind.i32.wrap (min a_3 (IntKind.i64.wrap ((IntKind.i64.wrap ((IntKind.i64.wrap (a_2 + a_1)) - 1)) - a_4)))) x_33.Glyph)
            simp only [e_2, e_30, e_32, e_35, e_36, e_37, e_39, e_41, e_42, go_sem, reduceIte, reduceCtorEq, Nat.reduceEqDiff, Nat.reduceLT, Nat.reduceLeDiff, Nat.reduceAdd, Nat.reduceSub, Nat.reduceMul, Int.reduceToNat, Int.reduceLE, Int.reduceLT, Int.reduceAdd, Int.reduceSub, Int.reduceMul, Int.reduceEq, Int.reduceNeg]
            have g_0 := Option.some.inj h
            subst g_0
            rw [← hQ]
            exact ⟨rfl, _, rfl, _, _, (RefV.trans (RefV.move (by simp) (id := 1) rfl rfl) (RefV.std [0, 1, 3] (by decide) (by decide) (by first | rfl | simp only [go_sem, reduceIte, Nat.reduceEqDiff, Nat.reduceAdd, e_2, e_30, e_32, e_39, e_41]) (by first | rfl | simp only [go_sem, reduceIte, Nat.reduceEqDiff, Nat.reduceAdd, e_2, e_30, e_32, e_39, e_41]))), rfl, rfl⟩
          · rw [if_neg h_40] at h
            have e_41 : (IntKind.i64.wrap ((IntKind.i64.wrap (x_33.Glyph + (IntKind.i64.wrap (IntKind.i32.wrap (x_33.To - x_33.From))))) + 1) = a_4) = False := eq_false h_40
            have e_43 : List.take l_0.length (List.map eTGroup l_0) = (List.map eTGroup l_0) := List.take_of_length_le (by simp)
            have e_44 : (List.map eTGroup l_0) ++ [[.int .i32 (IntKind.i32.wrap a_2), .int .i32 (IntKind.i32.wrap (min a_3 (IntKind.i64.wrap ((IntKind.i64.wrap ((IntKind.i64.wrap (a_2 + a_1)) - 1)) - a_4)))), .int .i64 a_4]] = (List.map eTGroup (l_0 ++ [TGroup.mk (IntKind.i32.wrap a_2) (IntKind.i32.wrap (min a_3 (IntKind.i64.wrap ((IntKind.i64.wrap ((IntKind.i64.wrap (a_2 + a_1)) - 1)) - a_4)))) a_4])) := app_map l_0 ([TGroup.mk (IntKind.i32.wrap a_2) (IntKind.i32.wrap (min a_3 (IntKind.i64.wrap ((IntKind.i64.wrap ((IntKind.i64.wrap (a_2 + a_1)) - 1)) - a_4)))) a_4]) eTGroup
            obtain ⟨h_45, h⟩ := guardS h
            have e_46 : ((l_0.length + 1) * 16 ≤ 140737488355328) = True := eq_true h_45
            simp only [e_2, e_30, e_32, e_35, e_36, e_37, e_39, e_41, e_43, e_44, e_46, go_sem, reduceIte, reduceCtorEq, Nat.reduceEqDiff, Nat.reduceLT, Nat.reduceLeDiff, Nat.reduceAdd, Nat.reduceSub, Nat.reduceMul, Int.reduceToNat, Int.reduceLE, Int.reduceLT, Int.reduceAdd, Int.reduceSub, Int.reduceMul, Int.reduceEq, Int.reduceNeg]
            have g_0 := Option.some.inj h
            subst g_0
            rw [← hQ]
            exact ⟨rfl, _, rfl, _, _, (RefV.std [0, 1, 3] (by decide) (by decide) rfl (by first | rfl | simp only [go_sem, reduceIte, Nat.reduceEqDiff, Nat.reduceAdd, e_2, e_30, e_32, e_39, e_41])), rfl, rfl⟩
        · rw [if_neg h_38] at h
          have e_39 : (IntKind.i32.wrap (x_33.To + 1) = IntKind.i32.wrap a_2) = False := eq_false h_38
          have e_47 : List.take l_0.length (List.map eTGroup l_0) = (List.map eTGroup l_0) := List.take_of_length_le (by simp)
          have e_48 : (List.map eTGroup l_0) ++ [[.int .i32 (IntKind.i32.wrap a_2), .int .i32 (IntKind.i32.wrap (min a_3 (IntKind.i64.wrap ((IntKind.i64.wrap ((IntKind.i64.wrap (a_2 + a_1)) - 1)) - a_4)))), .int .i64 a_4]] = (List.map eTGroup (l_0 ++ [TGroup.mk (IntKind.i32.wrap a_2) (IntKind.i32.wrap (min a_3 (IntKind.i64.wrap ((IntKind.i64.wrap ((IntKind.i64.wrap (a_2 + a_1)) - 1)) - a_4)))) a_4])) := app_map l_0 ([TGroup.mk (IntKind.i32.wrap a_2) (IntKind.i32.wrap (min a_3 (IntKind.i64.wrap ((IntKind.i64.wrap ((IntKind.i64.wrap (a_2 + a_1)) - 1)) - a_4)))) a_4]) eTGroup
          obtain ⟨h_49, h⟩ := guardS h
          have e_50 : ((l_0.length + 1) * 16 ≤ 140737488355328) = True := eq_true h_49
          simp only [e_2, e_30, e_32, e_35, e_36, e_37, e_39, e_47, e_48, e_50, go_sem, reduceIte, reduceCtorEq, Nat.reduceEqDiff, Nat.reduceLT, Nat.reduceLeDiff, Nat.reduceAdd, Nat.reduceSub, Nat.reduceMul, Int.reduceToNat, Int.reduceLE, Int.reduceLT, Int.reduceAdd, Int.reduceSub, Int.reduceMul, Int.reduceEq, Int.reduceNeg]
          have g_0 := Option.some.inj h
          subst g_0
          rw [← hQ]
          exact ⟨rfl, _, rfl, _, _, (RefV.std [0, 1, 3] (by decide) (by decide) rfl (by first | rfl | simp only [go_sem, reduceIte, Nat.reduceEqDiff, Nat.reduceAdd, e_2, e_30, e_32, e_39])), rfl, rfl⟩
      · rw [if_neg h_31] at h
        have e_32 : (0 < (l_0.length : Int)) = False := eq_false h_31
        have e_51 : List.take l_0.length (List.map eTGroup l_0) = (List.map eTGroup l_0) := List.take_of_length_le (by simp)
        have e_52 : (List.map eTGroup l_0) ++ [[.int .i32 (IntKind.i32.wrap a_2), .int .i32 (IntKind.i32.wrap (min a_3 (IntKind.i64.wrap ((IntKind.i64.wrap ((IntKind.i64.wrap (a_2 + a_1)) - 1)) - a_4)))), .int .i64 a_4]] = (List.map eTGroup (l_0 ++ [TGroup.mk (IntKind.i32.wrap a_2) (IntKind.i32.wrap (min a_3 (IntKind.i64.wrap ((IntKind.i64.wrap ((IntKind.i64.wrap (a_2 + a_1)) - 1)) - a_4)))) a_4])) := app_map l_0 ([TGroup.mk (IntKind.i32.wrap a_2) (IntKind.i32.wrap (min a_3 (IntKind.i64.wrap ((IntKind.i64.wrap ((IntKind.i64.wrap (a_2 + a_1)) - 1)) - a_4)))) a_4]) eTGroup
        obtain ⟨h_53, h⟩ := guardS h
        have e_54 : ((l_0.length + 1) * 16 ≤ 140737488355328) = True := eq_true h_53
        simp only [e_2, e_30, e_32, e_51, e_52, e_54, go_sem, reduceIte, reduceCtorEq, Nat.reduceEqDiff, Nat.reduceLT, Nat.reduceLeDiff, Nat.reduceAdd, Nat.reduceSub, Nat.reduceMul, Int.reduceToNat, Int.reduceLE, Int.reduceLT, Int.reduceAdd, Int.reduceSub, Int.reduceMul, Int.reduceEq, Int.reduceNeg]
        have g_0 := Option.some.inj h
        subst g_0
        rw [← hQ]
        exact ⟨rfl, _, rfl, _, _, (RefV.std [0, 1, 3] (by decide) (by decide) rfl (by first | rfl | simp only [go_sem, reduceIte, Nat.reduceEqDiff, Nat.reduceAdd, e_2, e_30, e_32])), rfl, rfl⟩
theorem gdef_list_wide_nil_L1_w (N : Nat) (y_8 : List Int) (y_9 : Bool) (a_0 : Int) {R : AExit → ATm → List AObj → Prop} : ∀ (n : Nat) (i_11 : Int) (i_12 : Int) (s_13 : List TGroup) (o : ((List TGroup)) ⊕ ((List TGroup))), gdef_list_wide_nil_L1 N y_8 y_9 a_0 n i_11 i_12 s_13 = some o → (match o with | .inl z_1 => R (.exit 0) ⟨76, [(10, .bool y_9)], []⟩ [.box [.row 1 0 z_1.length, .int .i64 a_0] 113, .mem 3 (List.map eTGroup z_1) 76] | .inr (z_1) => R .ret ⟨76, [(6, .bool false)], []⟩ [.box [.row 1 0 z_1.length, .int .i64 a_0] 113, .mem 3 (List.map eTGroup z_1) 76]) →
    ALp Go.Proofs.Try.prog 1 B75_1 ⟨76, [(0, .ptr 0 0 0), (9, .vec false (List.map eI64 y_8)), (10, .bool y_9), (11, .int .i64 i_11), (12, .int .i64 i_12)], []⟩ [.box [.row 1 0 s_13.length, .int .i64 a_0] 113, .mem 3 (List.map eTGroup s_13) 76] R := by
  intro n
  induction n with
  | zero =>
    intro i_11 i_12 s_13 o h _
    have h0 : none = some o := h
    cases h0
  | succ n ih =>
    intro i_11 i_12 s_13 o h hp
    rw [gdef_list_wide_nil_L1] at h
    refine ALp.round ?_
    generalize hQ : RoundQ _ _ _ _ = QQ
    simp only [B75_1, A75, go_sem, reduceIte, reduceCtorEq, Nat.reduceEqDiff, Nat.reduceLT, Nat.reduceLeDiff, Nat.reduceAdd, Nat.reduceSub, Nat.reduceMul, Int.reduceToNat, Int.reduceLE, Int.reduceLT, Int.reduceAdd, Int.reduceSub, Int.reduceMul, Int.reduceEq, Int.reduceNeg]
    by_cases h_14 : IntKind.i64.wrap (i_12 + 2) < (y_8.length : Int)
    · rw [if_pos h_14] at h
      have e_15 : (IntKind.i64.wrap (i_12 + 2) < (y_8.length : Int)) = True := eq_true h_14
      obtain ⟨x_16, h_17, h⟩ := bindS h
      have e_18 : (List.map eI64 y_8)[(i_12).toNat]? = some [.int .i64 x_16] := atI_map eI64 h_17
      have e_19 : ((0 : Int) ≤ i_12) = True := eq_true (atI_some h_17).1
      have e_20 : ((i_12 : Int) < (y_8.length : Int)) = True := eq_true (atI_lt h_17)
      obtain ⟨x_21, h_22, h⟩ := bindS h
      have e_23 : (List.map eI64 y_8)[(IntKind.i64.wrap (i_12 + 1)).toNat]? = some [.int .i64 x_21] := atI_map eI64 h_22
      have e_24 : ((0 : Int) ≤ IntKind.i64.wrap (i_12 + 1)) = True := eq_true (atI_some h_22).1
      have e_25 : ((IntKind.i64.wrap (i_12 + 1) : Int) < (y_8.length : Int)) = True := eq_true (atI_lt h_22)
      simp only [e_15, e_18, e_19, e_20, e_23, e_24, e_25, go_sem, reduceIte, reduceCtorEq, Nat.reduceEqDiff, Nat.reduceLT, Nat.reduceLeDiff, Nat.reduceAdd, Nat.reduceSub, Nat.reduceMul, Int.reduceToNat, Int.reduceLE, Int.reduceLT, Int.reduceAdd, Int.reduceSub, Int.reduceMul, Int.reduceEq, Int.reduceNeg]
      by_cases h_26 : x_16 ≤ i_11
      · rw [if_pos h_26] at h
        have e_27 : (x_16 ≤ i_11) = True := eq_true h_26
        simp only [e_15, e_18, e_19, e_20, e_23, e_24, e_25, e_27, go_sem, reduceIte, reduceCtorEq, Nat.reduceEqDiff, Nat.reduceLT, Nat.reduceLeDiff, Nat.reduceAdd, Nat.reduceSub, Nat.reduceMul, Int.reduceToNat, Int.reduceLE, Int.reduceLT, Int.reduceAdd, Int.reduceSub, Int.reduceMul, Int.reduceEq, Int.reduceNeg]
        have g := Option.some.inj h
        subst g
        rw [← hQ]
        exact ⟨_, _, (Ref.std [6] [0, 1] (by decide) (by decide) rfl (by first | rfl | simp only [go_sem, reduceIte, Nat.reduceEqDiff, Nat.reduceAdd])), hp⟩
      · rw [if_neg h_26] at h
        have e_27 : (x_16 ≤ i_11) = False := eq_false h_26
        simp only [e_15, e_18, e_19, e_20, e_23, e_24, e_25, e_27, go_sem, reduceIte, reduceCtorEq, Nat.reduceEqDiff, Nat.reduceLT, Nat.reduceLeDiff, Nat.reduceAdd, Nat.reduceSub, Nat.reduceMul, Int.reduceToNat, Int.reduceLE, Int.reduceLT, Int.reduceAdd, Int.reduceSub, Int.reduceMul, Int.reduceEq, Int.reduceNeg]
        by_cases h_28 : x_21 < x_16
        · rw [if_pos h_28] at h
          have e_29 : (x_21 < x_16) = True := eq_true h_28
          simp only [e_15, e_18, e_19, e_20, e_23, e_24, e_25, e_27, e_29, go_sem, reduceIte, reduceCtorEq, Nat.reduceEqDiff, Nat.reduceLT, Nat.reduceLeDiff, Nat.reduceAdd, Nat.reduceSub, Nat.reduceMul, Int.reduceToNat, Int.reduceLE, Int.reduceLT, Int.reduceAdd, Int.reduceSub, Int.reduceMul, Int.reduceEq, Int.reduceNeg]
          have g := Option.some.inj h
          subst g
          rw [← hQ]
          exact ⟨_, _, (Ref.std [6] [0, 1] (by decide) (by decide) rfl (by first | rfl | simp only [go_sem, reduceIte, Nat.reduceEqDiff, Nat.reduceAdd])), hp⟩
        · rw [if_neg h_28] at h
          have e_29 : (x_21 < x_16) = False := eq_false h_28
          simp only [e_15, e_18, e_19, e_20, e_23, e_24, e_25, e_27, e_29, go_sem, reduceIte, reduceCtorEq, Nat.reduceEqDiff, Nat.reduceLT, Nat.reduceLeDiff, Nat.reduceAdd, Nat.reduceSub, Nat.reduceMul, Int.reduceToNat, Int.reduceLE, Int.reduceLT, Int.reduceAdd, Int.reduceSub, Int.reduceMul, Int.reduceEq, Int.reduceNeg]
          by_cases h_30 : 1114111 < x_21
          · rw [if_pos h_30] at h
            have e_31 : (1114111 < x_21) = True := eq_true h_30
            simp only [e_15, e_18, e_19, e_20, e_23, e_24, e_25, e_27, e_29, e_31, go_sem, reduceIte, reduceCtorEq, Nat.reduceEqDiff, Nat.reduceLT, Nat.reduceLeDiff, Nat.reduceAdd, Nat.reduceSub, Nat.reduceMul, Int.reduceToNat, Int.reduceLE, Int.reduceLT, Int.reduceAdd, Int.reduceSub, Int.reduceMul, Int.reduceEq, Int.reduceNeg]
            have g := Option.some.inj h
            subst g
            rw [← hQ]
            exact ⟨_, _, (Ref.std [6] [0, 1] (by decide) (by decide) rfl (by first | rfl | simp only [go_sem, reduceIte, Nat.reduceEqDiff, Nat.reduceAdd])), hp⟩
          · rw [if_neg h_30] at h
            have e_31 : (1114111 < x_21) = False := eq_false h_30
            obtain ⟨x_32, h_33, h⟩ := bindS h
            have e_34 : (List.map eI64 y_8)[(IntKind.i64.wrap (i_12 + 2)).toNat]? = some [.int .i64 x_32] := atI_map eI64 h_33
            have e_35 : ((0 : Int) ≤ IntKind.i64.wrap (i_12 + 2)) = True := eq_true (atI_some h_33).1
            have e_36 : ((IntKind.i64.wrap (i_12 + 2) : Int) < (y_8.length : Int)) = True := eq_true (atI_lt h_33)
            obtain ⟨y_37, h_38, h⟩ := bindS h
            simp only [e_15, e_18, e_19, e_20, e_23, e_24, e_25, e_27, e_29, e_31, e_34, e_35, e_36, go_sem, reduceIte, reduceCtorEq, Nat.reduceEqDiff, Nat.reduceLT, Nat.reduceLeDiff, Nat.reduceAdd, Nat.reduceSub, Nat.reduceMul, Int.reduceToNat, Int.reduceLE, Int.reduceLT, Int.reduceAdd, Int.reduceSub, Int.reduceMul, Int.reduceEq, Int.reduceNeg]
            refine ACalls.use (gdef_list_add_row_w N _ _ _ _ _ _ h_38) [0, 1] (by decide) ⟨(by first | rfl | simp only [go_sem, reduceIte, Nat.reduceEqDiff, Nat.reduceAdd, e_15, e_27, e_29, e_31]), (by first | rfl | simp only [go_sem, reduceIte, Nat.reduceEqDiff, Nat.reduceAdd, e_15, e_27, e_29, e_31]), trivial⟩ rfl (v' := .tup []) (by first | rfl | simp only [go_sem, reduceIte, Nat.reduceEqDiff, Nat.reduceAdd, e_15, e_27, e_29, e_31]) (H' := [.box [.row 2 0 y_37.length, .int .i64 a_0] 113, .dead, .mem 3 (List.map eTGroup y_37) 76]) (by first | rfl | simp only [go_sem, reduceIte, Nat.reduceEqDiff, Nat.reduceAdd, e_15, e_27, e_29, e_31]) ?_
            refine CallK_go (by simp) ?_
            simp only [e_15, e_18, e_19, e_20, e_23, e_24, e_25, e_27, e_29, e_31, e_34, e_35, e_36, go_sem, reduceIte, reduceCtorEq, Nat.reduceEqDiff, Nat.reduceLT, Nat.reduceLeDiff, Nat.reduceAdd, Nat.reduceSub, Nat.reduceMul, Int.reduceToNat, Int.reduceLE, Int.reduceLT, Int.reduceAdd, Int.reduceSub, Int.reduceMul, Int.reduceEq, Int.reduceNeg]
            rw [← hQ]
            exact ⟨_, _, (Ref.std [0, 9, 10, 11, 12] [0, 2] (by decide) (by decide) (by first | rfl | simp only [go_sem, reduceIte, Nat.reduceEqDiff, Nat.reduceAdd, e_15, e_27, e_29, e_31]) (by first | rfl | simp only [go_sem, reduceIte, Nat.reduceEqDiff, Nat.reduceAdd])), (by simp), ih _ _ _ _ h hp⟩
    · rw [if_neg h_14] at h
      have e_15 : (IntKind.i64.wrap (i_12 + 2) < (y_8.length : Int)) = False := eq_false h_14
      simp only [e_15, go_sem, reduceIte, reduceCtorEq, Nat.reduceEqDiff, Nat.reduceLT, Nat.reduceLeDiff, Nat.reduceAdd, Nat.reduceSub, Nat.reduceMul, Int.reduceToNat, Int.reduceLE, Int.reduceLT, Int.reduceAdd, Int.reduceSub, Int.reduceMul, Int.reduceEq, Int.reduceNeg]
      have g := Option.some.inj h
      subst g
      rw [← hQ]
      exact ⟨_, _, (Ref.std [10] [0, 1] (by decide) (by decide) (by first | rfl | simp only [go_sem, reduceIte, Nat.reduceEqDiff, Nat.reduceAdd, e_15]) (by first | rfl | simp only [go_sem, reduceIte, Nat.reduceEqDiff, Nat.reduceAdd])), hp⟩
theorem gdef_list_wide_nil_w (N : Nat) (a_0 : Int) (l_1 : List Int) (a_2 : Int) (c_0 : Bool) (z_1 : Bool) (z_2 : List TGroup) (h : gdef_list_wide_nil N a_0 l_1 a_2 = some (z_1, z_2)) :
    ACalls Go.Proofs.Try.prog 75 [.ptr 0 0 0, .vec c_0 (List.map eU8 l_1), .int .i64 a_2] [.box [.vec true [], .int .i64 a_0] 113] (fun e H => H = [.box [.row 1 0 z_2.length, .int .i64 a_0] 113, .mem 3 (List.map eTGroup z_2) 76] ∧ e = .ret (.bool z_1)) := by
  unfold gdef_list_wide_nil at h
  refine ACalls.goN Go.Proofs.Try.func75 n75 a75 Go.Proofs.Try.ntmps75 r75 (by simp) 1 rfl ?_
  generalize hQ : bodyA _ _ _ = QQ
  obtain ⟨⟨y_1, y_2⟩, h_3, h⟩ := bindS h
  try dsimp only at h
  simp only [A75, go_sem, reduceIte, reduceCtorEq, Nat.reduceEqDiff, Nat.reduceLT, Nat.reduceLeDiff, Nat.reduceAdd, Nat.reduceSub, Nat.reduceMul, Int.reduceToNat, Int.reduceLE, Int.reduceLT, Int.reduceAdd, Int.reduceSub, Int.reduceMul, Int.reduceEq, Int.reduceNeg]
  refine ACalls.use0 (octet_U32_w N _ _ _ _ _ h_3) rfl rfl ?_
  refine CallK_go (by simp) ?_
  simp only [go_sem, reduceIte, reduceCtorEq, Nat.reduceEqDiff, Nat.reduceLT, Nat.reduceLeDiff, Nat.reduceAdd, Nat.reduceSub, Nat.reduceMul, Int.reduceToNat, Int.reduceLE, Int.reduceLT, Int.reduceAdd, Int.reduceSub, Int.reduceMul, Int.reduceEq, Int.reduceNeg]
  by_cases h_4 : y_2 = true
  · rw [if_pos h_4] at h
    have e_5 : y_2 = true := h_4
    simp only [e_5, go_sem, reduceIte, reduceCtorEq, Nat.reduceEqDiff, Nat.reduceLT, Nat.reduceLeDiff, Nat.reduceAdd, Nat.reduceSub, Nat.reduceMul, Int.reduceToNat, Int.reduceLE, Int.reduceLT, Int.reduceAdd, Int.reduceSub, Int.reduceMul, Int.reduceEq, Int.reduceNeg]
    by_cases h_6 : 5000 < y_1
    · rw [if_pos h_6] at h
      have e_7 : (5000 < y_1) = True := eq_true h_6
      simp only [e_5, e_7, go_sem, reduceIte, reduceCtorEq, Nat.reduceEqDiff, Nat.reduceLT, Nat.reduceLeDiff, Nat.reduceAdd, Nat.reduceSub, Nat.reduceMul, Int.reduceToNat, Int.reduceLE, Int.reduceLT, Int.reduceAdd, Int.reduceSub, Int.reduceMul, Int.reduceEq, Int.reduceNeg]
      have g_0 := Option.some.inj h
      obtain ⟨k_1, g_1⟩ := Prod.mk.inj g_0
      subst k_1
      subst g_1
      rw [← hQ]
      exact ⟨rfl, _, rfl, _, _, (RefV.trans (RefV.thawB (by simp) (id := 0) 0 rfl rfl (sz := 3) (by decide) 76) (RefV.std [0, 1] (by decide) (by decide) rfl (by first | rfl | simp only [go_sem, reduceIte, Nat.reduceEqDiff, Nat.reduceAdd, e_5, e_7]))), rfl, rfl⟩
    · rw [if_neg h_6] at h
      have e_7 : (5000 < y_1) = False := eq_false h_6
      obtain ⟨⟨y_8, y_9⟩, h_10, h⟩ := bindS h
      try dsimp only at h
      simp only [e_5, e_7, go_sem, reduceIte, reduceCtorEq, Nat.reduceEqDiff, Nat.reduceLT, Nat.reduceLeDiff, Nat.reduceAdd, Nat.reduceSub, Nat.reduceMul, Int.reduceToNat, Int.reduceLE, Int.reduceLT, Int.reduceAdd, Int.reduceSub, Int.reduceMul, Int.reduceEq, Int.reduceNeg]
      refine ACalls.use0 (octet_Row_w N _ _ _ _ _ _ _ h_10) rfl rfl ?_
      refine CallK_go (by simp) ?_
      simp only [e_5, e_7, go_sem, reduceIte, reduceCtorEq, Nat.reduceEqDiff, Nat.reduceLT, Nat.reduceLeDiff, Nat.reduceAdd, Nat.reduceSub, Nat.reduceMul, Int.reduceToNat, Int.reduceLE, Int.reduceLT, Int.reduceAdd, Int.reduceSub, Int.reduceMul, Int.reduceEq, Int.reduceNeg]
      obtain ⟨o_1014, h_1011, h⟩ := bindS h
      refine ALp.ref (Ref.trans (Ref.thawB (by simp) (id := 0) 0 rfl rfl (sz := 3) (by decide) 76) (Ref.std [0, 9, 10, 11, 12] [0, 1] (by decide) (by decide) (by first | rfl | simp only [go_sem, reduceIte, Nat.reduceEqDiff, Nat.reduceAdd, e_5, e_7]) (by first | rfl | simp only [go_sem, reduceIte, Nat.reduceEqDiff, Nat.reduceAdd]))) (by simp) (gdef_list_wide_nil_L1_w N _ _ _ N _ _ _ o_1014 h_1011 ?_)
      rcases o_1014 with y_1012 | y_1013
      · try dsimp only at h
        refine LoopK_go rfl (by simp) ?_
        simp only [e_5, e_7, go_sem, reduceIte, reduceCtorEq, Nat.reduceEqDiff, Nat.reduceLT, Nat.reduceLeDiff, Nat.reduceAdd, Nat.reduceSub, Nat.reduceMul, Int.reduceToNat, Int.reduceLE, Int.reduceLT, Int.reduceAdd, Int.reduceSub, Int.reduceMul, Int.reduceEq, Int.reduceNeg]
        have g_0 := Option.some.inj h
        obtain ⟨k_1, g_1⟩ := Prod.mk.inj g_0
        subst k_1
        subst g_1
        rw [← hQ]
        exact ⟨rfl, _, rfl, _, _, (RefV.std [0, 1] (by decide) (by decide) (by first | rfl | simp only [go_sem, reduceIte, Nat.reduceEqDiff, Nat.reduceAdd, e_5, e_7]) (by first | rfl | simp only [go_sem, reduceIte, Nat.reduceEqDiff, Nat.reduceAdd, e_5, e_7])), rfl, rfl⟩
      · try dsimp only at h
        refine LoopK_ret ?_
        have g_0 := Option.some.inj h
        obtain ⟨k_1, g_1⟩ := Prod.mk.inj g_0
        subst k_1
        subst g_1
        rw [← hQ]
        exact ⟨rfl, _, rfl, _, _, (RefV.std [0, 1] (by decide) (by decide) rfl (by first | rfl | simp only [go_sem, reduceIte, Nat.reduceEqDiff, Nat.reduceAdd, e_5, e_7])), rfl, rfl⟩
  · rw [if_neg h_4] at h
    have e_5 : y_2 = false := bfalse h_4
    simp only [e_5, go_sem, reduceIte, reduceCtorEq, Nat.reduceEqDiff, Nat.reduceLT, Nat.reduceLeDiff, Nat.reduceAdd, Nat.reduceSub, Nat.reduceMul, Int.reduceToNat, Int.reduceLE, Int.reduceLT, Int.reduceAdd, Int.reduceSub, Int.reduceMul, Int.reduceEq, Int.reduceNeg]
    have g_0 := Option.some.inj h
    obtain ⟨k_1, g_1⟩ := Prod.mk.inj g_0
    subst k_1
    subst g_1
    rw [← hQ]
    exact ⟨rfl, _, rfl, _, _, (RefV.trans (RefV.thawB (by simp) (id := 0) 0 rfl rfl (sz := 3) (by decide) 76) (RefV.std [0, 1] (by decide) (by decide) rfl (by first | rfl | simp only [go_sem, reduceIte, Nat.reduceEqDiff, Nat.reduceAdd, e_5]))), rfl, rfl⟩
theorem gdef_list_narrow_row_L1_w (N : Nat) (l_2 : List Int) (a_1 : Int) (a_3 : Int) (a_4 : Int) (a_5 : Int) (a_6 : Int) (a_7 : Int) (c_0 : Bool) {R : AExit → ATm → List AObj → Prop} : ∀ (n : Nat) (i_1 : Int) (s_2 : List TGroup) (o : ((List TGroup)) ⊕ ((List TGroup))), gdef_list_narrow_row_L1 N l_2 a_1 a_3 a_4 a_5 a_6 a_7 n i_1 s_2 = some o → (match o with | .inl z_1 => R (.exit 0) ⟨56, [], []⟩ [.box [.row 2 0 z_1.length, .int .i64 a_1] 113, .dead, .mem 3 (List.map eTGroup z_1) 76] | .inr (z_1) => R .ret ⟨56, [(6, .bool false)], []⟩ [.box [.row 2 0 z_1.length, .int .i64 a_1] 113, .dead, .mem 3 (List.map eTGroup z_1) 76]) →
    ALp Go.Proofs.Try.prog 2 B92_1 ⟨56, [(0, .ptr 0 0 0), (1, .vec c_0 (List.map eU8 l_2)), (5, .ptr 3 0 0), (7, .int .i64 i_1)], []⟩ [.box [.row 2 0 s_2.length, .int .i64 a_1] 113, .dead, .mem 3 (List.map eTGroup s_2) 76, .box [.int .i64 a_3, .int .i64 a_4, .int .i64 a_5, .int .i64 a_6, .int .i64 a_7] 135] R := by
  intro n
  induction n with
  | zero =>
    intro i_1 s_2 o h _
    have h0 : none = some o := h
    cases h0
  | succ n ih =>
    intro i_1 s_2 o h hp
    rw [gdef_list_narrow_row_L1] at h
    refine ALp.round ?_
    generalize hQ : RoundQ _ _ _ _ = QQ
    simp only [B92_1, A92, go_sem, reduceIte, reduceCtorEq, Nat.reduceEqDiff, Nat.reduceLT, Nat.reduceLeDiff, Nat.reduceAdd, Nat.reduceSub, Nat.reduceMul, Int.reduceToNat, Int.reduceLE, Int.reduceLT, Int.reduceAdd, Int.reduceSub, Int.reduceMul, Int.reduceEq, Int.reduceNeg]
    by_cases h_3 : i_1 ≤ a_4
    · rw [if_pos h_3] at h
      have e_4 : (i_1 ≤ a_4) = True := eq_true h_3
      simp only [e_4, go_sem, reduceIte, reduceCtorEq, Nat.reduceEqDiff, Nat.reduceLT, Nat.reduceLeDiff, Nat.reduceAdd, Nat.reduceSub, Nat.reduceMul, Int.reduceToNat, Int.reduceLE, Int.reduceLT, Int.reduceAdd, Int.reduceSub, Int.reduceMul, Int.reduceEq, Int.reduceNeg]
      by_cases h_5 : a_6 = 0
      · rw [if_pos h_5] at h
        have e_6 : (a_6 = 0) = True := eq_true h_5
        simp only [e_4, e_6, go_sem, reduceIte, reduceCtorEq, Nat.reduceEqDiff, Nat.reduceLT, Nat.reduceLeDiff, Nat.reduceAdd, Nat.reduceSub, Nat.reduceMul, Int.reduceToNat, Int.reduceLE, Int.reduceLT, Int.reduceAdd, Int.reduceSub, Int.reduceMul, Int.reduceEq, Int.reduceNeg]
        by_cases h_7 : (IntKind.i64.wrap (i_1 + a_5)).tmod 65536 = 0
        · rw [if_pos h_7] at h
          have e_8 : ((IntKind.i64.wrap (i_1 + a_5)).tmod 65536 = 0) = True := eq_true h_7
          simp only [e_4, e_6, e_8, go_sem, reduceIte, reduceCtorEq, Nat.reduceEqDiff, Nat.reduceLT, Nat.reduceLeDiff, Nat.reduceAdd, Nat.reduceSub, Nat.reduceMul, Int.reduceToNat, Int.reduceLE, Int.reduceLT, Int.reduceAdd, Int.reduceSub, Int.reduceMul, Int.reduceEq, Int.reduceNeg]
          rw [← hQ]
          exact ⟨_, _, (Ref.std [0, 1, 5, 7] [0, 1, 2, 3] (by decide) (by decide) rfl (by first | rfl | simp only [go_sem, reduceIte, Nat.reduceEqDiff, Nat.reduceAdd])), (by simp), ih _ _ _ h hp⟩
        · rw [if_neg h_7] at h
          have e_8 : ((IntKind.i64.wrap (i_1 + a_5)).tmod 65536 = 0) = False := eq_false h_7
          obtain ⟨y_9, h_10, h⟩ := bindS h
          simp only [e_4, e_6, e_8, go_sem, reduceIte, reduceCtorEq, Nat.reduceEqDiff, Nat.reduceLT, Nat.reduceLeDiff, Nat.reduceAdd, Nat.reduceSub, Nat.reduceMul, Int.reduceToNat, Int.reduceLE, Int.reduceLT, Int.reduceAdd, Int.reduceSub, Int.reduceMul, Int.reduceEq, Int.reduceNeg]
          refine ACalls.use (gdef_list_add_row_w N _ _ _ _ _ _ h_10) [0, 2] (by decide) ⟨(by first | rfl | simp only [go_sem, reduceIte, Nat.reduceEqDiff, Nat.reduceAdd, e_4, e_6, e_8]), (by first | rfl | simp only [go_sem, reduceIte, Nat.reduceEqDiff, Nat.reduceAdd, e_4, e_6, e_8]), trivial⟩ rfl (v' := .tup []) (by first | rfl | simp only [go_sem, reduceIte, Nat.reduceEqDiff, Nat.reduceAdd, e_4, e_6, e_8]) (H' := [.box [.row 4 0 y_9.length, .int .i64 a_1] 113, .dead, .dead, .box [.int .i64 a_3, .int .i64 a_4, .int .i64 a_5, .int .i64 a_6, .int .i64 a_7] 135, .mem 3 (List.map eTGroup y_9) 76]) (by first | rfl | simp only [go_sem, reduceIte, Nat.reduceEqDiff, Nat.reduceAdd, e_4, e_6, e_8]) ?_
          refine CallK_go (by simp) ?_
          simp only [e_4, e_6, e_8, go_sem, reduceIte, reduceCtorEq, Nat.reduceEqDiff, Nat.reduceLT, Nat.reduceLeDiff, Nat.reduceAdd, Nat.reduceSub, Nat.reduceMul, Int.reduceToNat, Int.reduceLE, Int.reduceLT, Int.reduceAdd, Int.reduceSub, Int.reduceMul, Int.reduceEq, Int.reduceNeg]
          rw [← hQ]
          exact ⟨_, _, (Ref.std [0, 1, 5, 7] [0, 1, 4, 3] (by decide) (by decide) rfl (by first | rfl | simp only [go_sem, reduceIte, Nat.reduceEqDiff, Nat.reduceAdd])), (by simp), ih _ _ _ h hp⟩
      · rw [if_neg h_5] at h
        have e_6 : (a_6 = 0) = False := eq_false h_5
        obtain ⟨⟨y_11, y_12⟩, h_13, h⟩ := bindS h
        try dsimp only at h
        simp only [e_4, e_6, go_sem, reduceIte, reduceCtorEq, Nat.reduceEqDiff, Nat.reduceLT, Nat.reduceLeDiff, Nat.reduceAdd, Nat.reduceSub, Nat.reduceMul, Int.reduceToNat, Int.reduceLE, Int.reduceLT, Int.reduceAdd, Int.reduceSub, Int.reduceMul, Int.reduceEq, Int.reduceNeg]
        refine ACalls.use0 (octet_U16_w N _ _ _ _ _ h_13) rfl rfl ?_
        refine CallK_go (by simp) ?_
        simp only [e_4, e_6, go_sem, reduceIte, reduceCtorEq, Nat.reduceEqDiff, Nat.reduceLT, Nat.reduceLeDiff, Nat.reduceAdd, Nat.reduceSub, Nat.reduceMul, Int.reduceToNat, Int.reduceLE, Int.reduceLT, Int.reduceAdd, Int.reduceSub, Int.reduceMul, Int.reduceEq, Int.reduceNeg]
        by_cases h_14 : y_12 = true
        · rw [if_pos h_14] at h
          have e_15 : y_12 = true := h_14
          simp only [e_4, e_6, e_15, go_sem, reduceIte, reduceCtorEq, Nat.reduceEqDiff, Nat.reduceLT, Nat.reduceLeDiff, Nat.reduceAdd, Nat.reduceSub, Nat.reduceMul, Int.reduceToNat, Int.reduceLE, Int.reduceLT, Int.reduceAdd, Int.reduceSub, Int.reduceMul, Int.reduceEq, Int.reduceNeg]
          by_cases h_16 : y_11 = 0
          · rw [if_pos h_16] at h
            have e_17 : (y_11 = 0) = True := eq_true h_16
            simp only [e_4, e_6, e_15, e_17, go_sem, reduceIte, reduceCtorEq, Nat.reduceEqDiff, Nat.reduceLT, Nat.reduceLeDiff, Nat.reduceAdd, Nat.reduceSub, Nat.reduceMul, Int.reduceToNat, Int.reduceLE, Int.reduceLT, Int.reduceAdd, Int.reduceSub, Int.reduceMul, Int.reduceEq, Int.reduceNeg]
            rw [← hQ]
            exact ⟨_, _, (Ref.std [0, 1, 5, 7] [0, 1, 2, 3] (by decide) (by decide) rfl (by first | rfl | simp only [go_sem, reduceIte, Nat.reduceEqDiff, Nat.reduceAdd])), (by simp), ih _ _ _ h hp⟩
          · rw [if_neg h_16] at h
            have e_17 : (y_11 = 0) = False := eq_false h_16
            simp only [e_4, e_6, e_15, e_17, go_sem, reduceIte, reduceCtorEq, Nat.reduceEqDiff, Nat.reduceLT, Nat.reduceLeDiff, Nat.reduceAdd, Nat.reduceSub, Nat.reduceMul, Int.reduceToNat, Int.reduceLE, Int.reduceLT, Int.reduceAdd, Int.reduceSub, Int.reduceMul, Int.reduceEq, Int.reduceNeg]
            by_cases h_18 : (IntKind.i64.wrap (y_11 + a_5)).tmod 65536 = 0
            · rw [if_pos h_18] at h
              have e_19 : ((IntKind.i64.wrap (y_11 + a_5)).tmod 65536 = 0) = True := eq_true h_18
              simp only [e_4, e_6, e_15, e_17, e_19, go_sem, reduceIte, reduceCtorEq, Nat.reduceEqDiff, Nat.reduceLT, Nat.reduceLeDiff, Nat.reduceAdd, Nat.reduceSub, Nat.reduceMul, Int.reduceToNat, Int.reduceLE, Int.reduceLT, Int.reduceAdd, Int.reduceSub, Int.reduceMul, Int.reduceEq, Int.reduceNeg]
              rw [← hQ]
              exact ⟨_, _, (Ref.std [0, 1, 5, 7] [0, 1, 2, 3] (by decide) (by decide) rfl (by first | rfl | simp only [go_sem, reduceIte, Nat.reduceEqDiff, Nat.reduceAdd])), (by simp), ih _ _ _ h hp⟩
            · rw [if_neg h_18] at h
              have e_19 : ((IntKind.i64.wrap (y_11 + a_5)).tmod 65536 = 0) = False := eq_false h_18
              obtain ⟨y_20, h_21, h⟩ := bindS h
              simp only [e_4, e_6, e_15, e_17, e_19, go_sem, reduceIte, reduceCtorEq, Nat.reduceEqDiff, Nat.reduceLT, Nat.reduceLeDiff, Nat.reduceAdd, Nat.reduceSub, Nat.reduceMul, Int.reduceToNat, Int.reduceLE, Int.reduceLT, Int.reduceAdd, Int.reduceSub, Int.reduceMul, Int.reduceEq, Int.reduceNeg]
              refine ACalls.use (gdef_list_add_row_w N _ _ _ _ _ _ h_21) [0, 2] (by decide) ⟨(by first | rfl | simp only [go_sem, reduceIte, Nat.reduceEqDiff, Nat.reduceAdd, e_4, e_6, e_15, e_17, e_19]), (by first | rfl | simp only [go_sem, reduceIte, Nat.reduceEqDiff, Nat.reduceAdd, e_4, e_6, e_15, e_17, e_19]), trivial⟩ rfl (v' := .tup []) (by first | rfl | simp only [go_sem, reduceIte, Nat.reduceEqDiff, Nat.reduceAdd, e_4, e_6, e_15, e_17, e_19]) (H' := [.box [.row 4 0 y_20.length, .int .i64 a_1] 113, .dead, .dead, .box [.int .i64 a_3, .int .i64 a_4, .int .i64 a_5, .int .i64 a_6, .int .i64 a_7] 135, .mem 3 (List.map eTGroup y_20) 76]) (by first | rfl | simp only [go_sem, reduceIte, Nat.reduceEqDiff, Nat.reduceAdd, e_4, e_6, e_15, e_17, e_19]) ?_
              refine CallK_go (by simp) ?_
              simp only [e_4, e_6, e_15, e_17, e_19, go_sem, reduceIte, reduceCtorEq, Nat.reduceEqDiff, Nat.reduceLT, Nat.reduceLeDiff, Nat.reduceAdd, Nat.reduceSub, Nat.reduceMul, Int.reduceToNat, Int.reduceLE, Int.reduceLT, Int.reduceAdd, Int.reduceSub, Int.reduceMul, Int.reduceEq, Int.reduceNeg]
              rw [← hQ]
              exact ⟨_, _, (Ref.std [0, 1, 5, 7] [0, 1, 4, 3] (by decide) (by decide) rfl (by first | rfl | simp only [go_sem, reduceIte, Nat.reduceEqDiff, Nat.reduceAdd])), (by simp), ih _ _ _ h hp⟩
        · rw [if_neg h_14] at h
          have e_15 : y_12 = false := bfalse h_14
          simp only [e_4, e_6, e_15, go_sem, reduceIte, reduceCtorEq, Nat.reduceEqDiff, Nat.reduceLT, Nat.reduceLeDiff, Nat.reduceAdd, Nat.reduceSub, Nat.reduceMul, Int.reduceToNat, Int.reduceLE, Int.reduceLT, Int.reduceAdd, Int.reduceSub, Int.reduceMul, Int.reduceEq, Int.reduceNeg]
          have g := Option.some.inj h
          subst g
          rw [← hQ]
          exact ⟨_, _, (Ref.std [6] [0, 1, 2] (by decide) (by decide) rfl (by first | rfl | simp only [go_sem, reduceIte, Nat.reduceEqDiff, Nat.reduceAdd])), hp⟩
    · rw [if_neg h_3] at h
      have e_4 : (i_1 ≤ a_4) = False := eq_false h_3
      simp only [e_4, go_sem, reduceIte, reduceCtorEq, Nat.reduceEqDiff, Nat.reduceLT, Nat.reduceLeDiff, Nat.reduceAdd, Nat.reduceSub, Nat.reduceMul, Int.reduceToNat, Int.reduceLE, Int.reduceLT, Int.reduceAdd, Int.reduceSub, Int.reduceMul, Int.reduceEq, Int.reduceNeg]
      have g := Option.some.inj h
      subst g
      rw [← hQ]
      exact ⟨_, _, (Ref.std [] [0, 1, 2] (by decide) (by decide) rfl (by first | rfl | simp only [go_sem, reduceIte, Nat.reduceEqDiff, Nat.reduceAdd])), hp⟩
theorem gdef_list_narrow_row_w (N : Nat) (l_0 : List TGroup) (a_1 : Int) (l_2 : List Int) (a_3 : Int) (a_4 : Int) (a_5 : Int) (a_6 : Int) (a_7 : Int) (c_0 : Bool) (z_1 : Bool) (z_2 : List TGroup) (h : gdef_list_narrow_row N l_0 a_1 l_2 a_3 a_4 a_5 a_6 a_7 = some (z_1, z_2)) :
    ACalls Go.Proofs.Try.prog 92 [.ptr 0 0 0, .vec c_0 (List.map eU8 l_2), .agg [.int .i64 a_3, .int .i64 a_4, .int .i64 a_5, .int .i64 a_6, .int .i64 a_7]] [.box [.row 1 0 l_0.length, .int .i64 a_1] 113, .mem 3 (List.map eTGroup l_0) 76] (fun e H => H = [.box [.row 2 0 z_2.length, .int .i64 a_1] 113, .dead, .mem 3 (List.map eTGroup z_2) 76] ∧ e = .ret (.bool z_1)) := by
  unfold gdef_list_narrow_row at h
  refine ACalls.goN Go.Proofs.Try.func92 n92 a92 Go.Proofs.Try.ntmps92 r92 (by simp) 2 rfl ?_
  generalize hQ : bodyA _ _ _ = QQ
  simp only [A92, go_sem, reduceIte, reduceCtorEq, Nat.reduceEqDiff, Nat.reduceLT, Nat.reduceLeDiff, Nat.reduceAdd, Nat.reduceSub, Nat.reduceMul, Int.reduceToNat, Int.reduceLE, Int.reduceLT, Int.reduceAdd, Int.reduceSub, Int.reduceMul, Int.reduceEq, Int.reduceNeg]
  obtain ⟨o_1004, h_1001, h⟩ := bindS h
  refine ALp.ref (Ref.trans (Ref.move (by simp) (id := 1) rfl rfl) (Ref.std [0, 1, 5, 7] [0, 1, 3, 2] (by decide) (by decide) rfl (by first | rfl | simp only [go_sem, reduceIte, Nat.reduceEqDiff, Nat.reduceAdd]))) (by simp) (gdef_list_narrow_row_L1_w N _ _ _ _ _ _ _ c_0 N _ _ o_1004 h_1001 ?_)
  rcases o_1004 with y_1002 | y_1003
  · try dsimp only at h
    refine LoopK_go rfl (by simp) ?_
    simp only [go_sem, reduceIte, reduceCtorEq, Nat.reduceEqDiff, Nat.reduceLT, Nat.reduceLeDiff, Nat.reduceAdd, Nat.reduceSub, Nat.reduceMul, Int.reduceToNat, Int.reduceLE, Int.reduceLT, Int.reduceAdd, Int.reduceSub, Int.reduceMul, Int.reduceEq, Int.reduceNeg]
    have g_0 := Option.some.inj h
    obtain ⟨k_1, g_1⟩ := Prod.mk.inj g_0
    subst k_1
    subst g_1
    rw [← hQ]
    exact ⟨rfl, _, rfl, _, _, (RefV.std [0, 1, 2] (by decide) (by decide) rfl (by first | rfl | simp only [go_sem, reduceIte, Nat.reduceEqDiff, Nat.reduceAdd])), rfl, rfl⟩
  · try dsimp only at h
    refine LoopK_ret ?_
    have g_0 := Option.some.inj h
    obtain ⟨k_1, g_1⟩ := Prod.mk.inj g_0
    subst k_1
    subst g_1
    rw [← hQ]
    exact ⟨rfl, _, rfl, _, _, (RefV.std [0, 1, 2] (by decide) (by decide) rfl (by first | rfl | simp only [go_sem, reduceIte, Nat.reduceEqDiff, Nat.reduceAdd])), rfl, rfl⟩
theorem gdef_list_segments_nil_L1_w (N : Nat) (l_1 : List Int) (a_2 : Int) (y_1 : Int) (y_8 : List Int) (y_11 : List Int) (a_0 : Int) (c_0 : Bool) {R : AExit → ATm → List AObj → Prop} : ∀ (n : Nat) (i_16 : Int) (i_17 : Int) (s_18 : List TGroup) (o : ((List TGroup)) ⊕ ((List TGroup))), gdef_list_segments_nil_L1 N l_1 a_2 y_1 y_8 y_11 a_0 n i_16 i_17 s_18 = some o → (match o with | .inl z_1 => R (.exit 0) ⟨109, [], []⟩ [.box [.row 1 0 z_1.length, .int .i64 a_0] 113, .mem 3 (List.map eTGroup z_1) 76] | .inr (z_1) => R .ret ⟨109, [(6, .bool false)], []⟩ [.box [.row 1 0 z_1.length, .int .i64 a_0] 113, .mem 3 (List.map eTGroup z_1) 76]) →
    ALp Go.Proofs.Try.prog 1 B76_1 ⟨109, [(0, .ptr 0 0 0), (1, .vec c_0 (List.map eU8 l_1)), (2, .int .i64 a_2), (7, .int .i64 (IntKind.i64.wrap (y_1.tdiv 2))), (9, .vec false (List.map eI64 y_8)), (11, .vec false (List.map eI64 y_11)), (13, .int .i64 i_16), (54, .int .i64 (IntKind.i64.wrap (y_1.tdiv 2))), (55, .int .i64 i_17)], []⟩ [.box [.row 1 0 s_18.length, .int .i64 a_0] 113, .mem 3 (List.map eTGroup s_18) 76] R := by
  intro n
  induction n with
  | zero =>
    intro i_16 i_17 s_18 o h _
    have h0 : none = some o := h
    cases h0
  | succ n ih =>
    intro i_16 i_17 s_18 o h hp
    rw [gdef_list_segments_nil_L1] at h
    refine ALp.round ?_
    generalize hQ : RoundQ _ _ _ _ = QQ
    simp only [B76_1, A76, go_sem, reduceIte, reduceCtorEq, Nat.reduceEqDiff, Nat.reduceLT, Nat.reduceLeDiff, Nat.reduceAdd, Nat.reduceSub, Nat.reduceMul, Int.reduceToNat, Int.reduceLE, Int.reduceLT, Int.reduceAdd, Int.reduceSub, Int.reduceMul, Int.reduceEq, Int.reduceNeg]
    by_cases h_19 : i_17 < IntKind.i64.wrap (y_1.tdiv 2)
    · rw [if_pos h_19] at h
      have e_20 : (i_17 < IntKind.i64.wrap (y_1.tdiv 2)) = True := eq_true h_19
      obtain ⟨x_21, h_22, h⟩ := bindS h
      have e_23 : (List.map eI64 y_11)[(i_17).toNat]? = some [.int .i64 x_21] := atI_map eI64 h_22
      have e_24 : ((0 : Int) ≤ i_17) = True := eq_true (atI_some h_22).1
      have e_25 : ((i_17 : Int) < (y_11.length : Int)) = True := eq_true (atI_lt h_22)
      obtain ⟨x_26, h_27, h⟩ := bindS h
      have e_28 : (List.map eI64 y_8)[(i_17).toNat]? = some [.int .i64 x_26] := atI_map eI64 h_27
      have e_29 : ((0 : Int) ≤ i_17) = True := eq_true (atI_some h_27).1
      have e_30 : ((i_17 : Int) < (y_8.length : Int)) = True := eq_true (atI_lt h_27)
      obtain ⟨x_31, h_32, h⟩ := bindS h
      have e_33 : (List.map eI64 y_11)[(IntKind.i64.wrap ((IntKind.i64.wrap (y_1.tdiv 2)) + i_17)).toNat]? = some [.int .i64 x_31] := atI_map eI64 h_32
      have e_34 : ((0 : Int) ≤ IntKind.i64.wrap ((IntKind.i64.wrap (y_1.tdiv 2)) + i_17)) = True := eq_true (atI_some h_32).1
      have e_35 : ((IntKind.i64.wrap ((IntKind.i64.wrap (y_1.tdiv 2)) + i_17) : Int) < (y_11.length : Int)) = True := eq_true (atI_lt h_32)
      obtain ⟨x_36, h_37, h⟩ := bindS h
      have e_38 : (List.map eI64 y_11)[(IntKind.i64.wrap ((IntKind.i64.wrap (2 * (IntKind.i64.wrap (y_1.tdiv 2)))) + i_17)).toNat]? = some [.int .i64 x_36] := atI_map eI64 h_37
      have e_39 : ((0 : Int) ≤ IntKind.i64.wrap ((IntKind.i64.wrap (2 * (IntKind.i64.wrap (y_1.tdiv 2)))) + i_17)) = True := eq_true (atI_some h_37).1
      have e_40 : ((IntKind.i64.wrap ((IntKind.i64.wrap (2 * (IntKind.i64.wrap (y_1.tdiv 2)))) + i_17) : Int) < (y_11.length : Int)) = True := eq_true (atI_lt h_37)
      simp only [e_20, e_23, e_24, e_25, e_28, e_29, e_30, e_33, e_34, e_35, e_38, e_39, e_40, go_sem, reduceIte, reduceCtorEq, Nat.reduceEqDiff, Nat.reduceLT, Nat.reduceLeDiff, Nat.reduceAdd, Nat.reduceSub, Nat.reduceMul, Int.reduceToNat, Int.reduceLE, Int.reduceLT, Int.reduceAdd, Int.reduceSub, Int.reduceMul, Int.reduceEq, Int.reduceNeg]
      by_cases h_41 : x_21 ≤ i_16
      · rw [if_pos h_41] at h
        have e_42 : (x_21 ≤ i_16) = True := eq_true h_41
        simp only [e_20, e_23, e_24, e_25, e_28, e_29, e_30, e_33, e_34, e_35, e_38, e_39, e_40, e_42, go_sem, reduceIte, reduceCtorEq, Nat.reduceEqDiff, Nat.reduceLT, Nat.reduceLeDiff, Nat.reduceAdd, Nat.reduceSub, Nat.reduceMul, Int.reduceToNat, Int.reduceLE, Int.reduceLT, Int.reduceAdd, Int.reduceSub, Int.reduceMul, Int.reduceEq, Int.reduceNeg]
        have g := Option.some.inj h
        subst g
        rw [← hQ]
        exact ⟨_, _, (Ref.std [6] [0, 1] (by decide) (by decide) rfl (by first | rfl | simp only [go_sem, reduceIte, Nat.reduceEqDiff, Nat.reduceAdd])), hp⟩
      · rw [if_neg h_41] at h
        have e_42 : (x_21 ≤ i_16) = False := eq_false h_41
        simp only [e_20, e_23, e_24, e_25, e_28, e_29, e_30, e_33, e_34, e_35, e_38, e_39, e_40, e_42, go_sem, reduceIte, reduceCtorEq, Nat.reduceEqDiff, Nat.reduceLT, Nat.reduceLeDiff, Nat.reduceAdd, Nat.reduceSub, Nat.reduceMul, Int.reduceToNat, Int.reduceLE, Int.reduceLT, Int.reduceAdd, Int.reduceSub, Int.reduceMul, Int.reduceEq, Int.reduceNeg]
        by_cases h_43 : x_26 < x_21
        · rw [if_pos h_43] at h
          have e_44 : (x_26 < x_21) = True := eq_true h_43
          simp only [e_20, e_23, e_24, e_25, e_28, e_29, e_30, e_33, e_34, e_35, e_38, e_39, e_40, e_42, e_44, go_sem, reduceIte, reduceCtorEq, Nat.reduceEqDiff, Nat.reduceLT, Nat.reduceLeDiff, Nat.reduceAdd, Nat.reduceSub, Nat.reduceMul, Int.reduceToNat, Int.reduceLE, Int.reduceLT, Int.reduceAdd, Int.reduceSub, Int.reduceMul, Int.reduceEq, Int.reduceNeg]
          have g := Option.some.inj h
          subst g
          rw [← hQ]
          exact ⟨_, _, (Ref.std [6] [0, 1] (by decide) (by decide) rfl (by first | rfl | simp only [go_sem, reduceIte, Nat.reduceEqDiff, Nat.reduceAdd])), hp⟩
        · rw [if_neg h_43] at h
          have e_44 : (x_26 < x_21) = False := eq_false h_43
          obtain ⟨⟨y_45, y_46⟩, h_47, h⟩ := bindS h
          try dsimp only at h
          simp only [e_20, e_23, e_24, e_25, e_28, e_29, e_30, e_33, e_34, e_35, e_38, e_39, e_40, e_42, e_44, go_sem, reduceIte, reduceCtorEq, Nat.reduceEqDiff, Nat.reduceLT, Nat.reduceLeDiff, Nat.reduceAdd, Nat.reduceSub, Nat.reduceMul, Int.reduceToNat, Int.reduceLE, Int.reduceLT, Int.reduceAdd, Int.reduceSub, Int.reduceMul, Int.reduceEq, Int.reduceNeg]
          refine ACalls.use (gdef_list_narrow_row_w N _ _ _ _ _ _ _ _ _ _ _ h_47) [0, 1] (by decide) ⟨(by first | rfl | simp only [go_sem, reduceIte, Nat.reduceEqDiff, Nat.reduceAdd, e_20, e_42, e_44]), (by first | rfl | simp only [go_sem, reduceIte, Nat.reduceEqDiff, Nat.reduceAdd, e_20, e_42, e_44]), trivial⟩ rfl (v' := .bool y_45) (by first | rfl | simp only [go_sem, reduceIte, Nat.reduceEqDiff, Nat.reduceAdd, e_20, e_42, e_44]) (H' := [.box [.row 3 0 y_46.length, .int .i64 a_0] 113, .dead, .box [.int .i64 x_21, .int .i64 x_26, .int .i64 x_31, .int .i64 x_36, .int .i64 (IntKind.i64.wrap ((IntKind.i64.wrap (a_2 + 16)) + (IntKind.i64.wrap (2 * (IntKind.i64.wrap ((IntKind.i64.wrap (3 * (IntKind.i64.wrap (y_1.tdiv 2)))) + i_17))))))] 135, .mem 3 (List.map eTGroup y_46) 76]) (by first | rfl | simp only [go_sem, reduceIte, Nat.reduceEqDiff, Nat.reduceAdd, e_20, e_42, e_44]) ?_
          refine CallK_go (by simp) ?_
          simp only [e_20, e_23, e_24, e_25, e_28, e_29, e_30, e_33, e_34, e_35, e_38, e_39, e_40, e_42, e_44, go_sem, reduceIte, reduceCtorEq, Nat.reduceEqDiff, Nat.reduceLT, Nat.reduceLeDiff, Nat.reduceAdd, Nat.reduceSub, Nat.reduceMul, Int.reduceToNat, Int.reduceLE, Int.reduceLT, Int.reduceAdd, Int.reduceSub, Int.reduceMul, Int.reduceEq, Int.reduceNeg]
          by_cases h_48 : y_45 = true
          · rw [if_pos h_48] at h
            have e_49 : y_45 = true := h_48
            simp only [e_20, e_23, e_24, e_25, e_28, e_29, e_30, e_33, e_34, e_35, e_38, e_39, e_40, e_42, e_44, e_49, go_sem, reduceIte, reduceCtorEq, Nat.reduceEqDiff, Nat.reduceLT, Nat.reduceLeDiff, Nat.reduceAdd, Nat.reduceSub, Nat.reduceMul, Int.reduceToNat, Int.reduceLE, Int.reduceLT, Int.reduceAdd, Int.reduceSub, Int.reduceMul, Int.reduceEq, Int.reduceNeg]
            rw [← hQ]
            exact ⟨_, _, (Ref.std [0, 1, 2, 7, 9, 11, 13, 54, 55] [0, 3] (by decide) (by decide) rfl (by first | rfl | simp only [go_sem, reduceIte, Nat.reduceEqDiff, Nat.reduceAdd])), (by simp), ih _ _ _ _ h hp⟩
          · rw [if_neg h_48] at h
            have e_49 : y_45 = false := bfalse h_48
            simp only [e_20, e_23, e_24, e_25, e_28, e_29, e_30, e_33, e_34, e_35, e_38, e_39, e_40, e_42, e_44, e_49, go_sem, reduceIte, reduceCtorEq, Nat.reduceEqDiff, Nat.reduceLT, Nat.reduceLeDiff, Nat.reduceAdd, Nat.reduceSub, Nat.reduceMul, Int.reduceToNat, Int.reduceLE, Int.reduceLT, Int.reduceAdd, Int.reduceSub, Int.reduceMul, Int.reduceEq, Int.reduceNeg]
            have g := Option.some.inj h
            subst g
            rw [← hQ]
            exact ⟨_, _, (Ref.std [6] [0, 3] (by decide) (by decide) rfl (by first | rfl | simp only [go_sem, reduceIte, Nat.reduceEqDiff, Nat.reduceAdd])), hp⟩
    · rw [if_neg h_19] at h
      have e_20 : (i_17 < IntKind.i64.wrap (y_1.tdiv 2)) = False := eq_false h_19
      simp only [e_20, go_sem, reduceIte, reduceCtorEq, Nat.reduceEqDiff, Nat.reduceLT, Nat.reduceLeDiff, Nat.reduceAdd, Nat.reduceSub, Nat.reduceMul, Int.reduceToNat, Int.reduceLE, Int.reduceLT, Int.reduceAdd, Int.reduceSub, Int.reduceMul, Int.reduceEq, Int.reduceNeg]
      have g := Option.some.inj h
      subst g
      rw [← hQ]
      exact ⟨_, _, (Ref.std [] [0, 1] (by decide) (by decide) rfl (by first | rfl | simp only [go_sem, reduceIte, Nat.reduceEqDiff, Nat.reduceAdd])), hp⟩
theorem gdef_list_segments_nil_w (N : Nat) (a_0 : Int) (l_1 : List Int) (a_2 : Int) (c_0 : Bool) (z_1 : Bool) (z_2 : List TGroup) (h : gdef_list_segments_nil N a_0 l_1 a_2 = some (z_1, z_2)) :
    ACalls Go.Proofs.Try.prog 76 [.ptr 0 0 0, .vec c_0 (List.map eU8 l_1), .int .i64 a_2] [.box [.vec true [], .int .i64 a_0] 113] (fun e H => H = [.box [.row 1 0 z_2.length, .int .i64 a_0] 113, .mem 3 (List.map eTGroup z_2) 76] ∧ e = .ret (.bool z_1)) := by
  unfold gdef_list_segments_nil at h
  refine ACalls.goN Go.Proofs.Try.func76 n76 a76 Go.Proofs.Try.ntmps76 r76 (by simp) 1 rfl ?_
  generalize hQ : bodyA _ _ _ = QQ
  obtain ⟨⟨y_1, y_2⟩, h_3, h⟩ := bindS h
  try dsimp only at h
  simp only [A76, go_sem, reduceIte, reduceCtorEq, Nat.reduceEqDiff, Nat.reduceLT, Nat.reduceLeDiff, Nat.reduceAdd, Nat.reduceSub, Nat.reduceMul, Int.reduceToNat, Int.reduceLE, Int.reduceLT, Int.reduceAdd, Int.reduceSub, Int.reduceMul, Int.reduceEq, Int.reduceNeg]
  refine ACalls.use0 (octet_U16_w N _ _ _ _ _ h_3) rfl rfl ?_
  refine CallK_go (by simp) ?_
  simp only [go_sem, reduceIte, reduceCtorEq, Nat.reduceEqDiff, Nat.reduceLT, Nat.reduceLeDiff, Nat.reduceAdd, Nat.reduceSub, Nat.reduceMul, Int.reduceToNat, Int.reduceLE, Int.reduceLT, Int.reduceAdd, Int.reduceSub, Int.reduceMul, Int.reduceEq, Int.reduceNeg]
  by_cases h_4 : y_2 = true
  · rw [if_pos h_4] at h
    have e_5 : y_2 = true := h_4
    simp only [e_5, go_sem, reduceIte, reduceCtorEq, Nat.reduceEqDiff, Nat.reduceLT, Nat.reduceLeDiff, Nat.reduceAdd, Nat.reduceSub, Nat.reduceMul, Int.reduceToNat, Int.reduceLE, Int.reduceLT, Int.reduceAdd, Int.reduceSub, Int.reduceMul, Int.reduceEq, Int.reduceNeg]
    by_cases h_6 : y_1.tmod 2 = 0
    · rw [if_pos h_6] at h
      have e_7 : (y_1.tmod 2 = 0) = True := eq_true h_6
      obtain ⟨⟨y_8, y_9⟩, h_10, h⟩ := bindS h
      try dsimp only at h
      simp only [e_5, e_7, go_sem, reduceIte, reduceCtorEq, Nat.reduceEqDiff, Nat.reduceLT, Nat.reduceLeDiff, Nat.reduceAdd, Nat.reduceSub, Nat.reduceMul, Int.reduceToNat, Int.reduceLE, Int.reduceLT, Int.reduceAdd, Int.reduceSub, Int.reduceMul, Int.reduceEq, Int.reduceNeg]
      refine ACalls.use0 (octet_Row_w N _ _ _ _ _ _ _ h_10) rfl rfl ?_
      refine CallK_go (by simp) ?_
      obtain ⟨⟨y_11, y_12⟩, h_13, h⟩ := bindS h
      try dsimp only at h
      simp only [e_5, e_7, go_sem, reduceIte, reduceCtorEq, Nat.reduceEqDiff, Nat.reduceLT, Nat.reduceLeDiff, Nat.reduceAdd, Nat.reduceSub, Nat.reduceMul, Int.reduceToNat, Int.reduceLE, Int.reduceLT, Int.reduceAdd, Int.reduceSub, Int.reduceMul, Int.reduceEq, Int.reduceNeg]
      refine ACalls.use0 (octet_Row_w N _ _ _ _ _ _ _ h_13) rfl rfl ?_
      refine CallK_go (by simp) ?_
      simp only [e_5, e_7, go_sem, reduceIte, reduceCtorEq, Nat.reduceEqDiff, Nat.reduceLT, Nat.reduceLeDiff, Nat.reduceAdd, Nat.reduceSub, Nat.reduceMul, Int.reduceToNat, Int.reduceLE, Int.reduceLT, Int.reduceAdd, Int.reduceSub, Int.reduceMul, Int.reduceEq, Int.reduceNeg]
      by_cases h_14 : y_12 = true
      · rw [if_pos h_14] at h
        have e_15 : y_12 = true := h_14
        simp only [e_5, e_7, e_15, go_sem, reduceIte, reduceCtorEq, Nat.reduceEqDiff, Nat.reduceLT, Nat.reduceLeDiff, Nat.reduceAdd, Nat.reduceSub, Nat.reduceMul, Int.reduceToNat, Int.reduceLE, Int.reduceLT, Int.reduceAdd, Int.reduceSub, Int.reduceMul, Int.reduceEq, Int.reduceNeg]
        obtain ⟨o_1019, h_1016, h⟩ := bindS h
        refine ALp.ref (Ref.trans (Ref.thawB (by simp) (id := 0) 0 rfl rfl (sz := 3) (by decide) 76) (Ref.std [0, 1, 2, 7, 9, 11, 13, 54, 55] [0, 1] (by decide) (by decide) rfl (by first | rfl | simp only [go_sem, reduceIte, Nat.reduceEqDiff, Nat.reduceAdd]))) (by simp) (gdef_list_segments_nil_L1_w N _ _ _ _ _ _ c_0 N _ _ _ o_1019 h_1016 ?_)
        rcases o_1019 with y_1017 | y_1018
        · try dsimp only at h
          refine LoopK_go rfl (by simp) ?_
          simp only [e_5, e_7, e_15, go_sem, reduceIte, reduceCtorEq, Nat.reduceEqDiff, Nat.reduceLT, Nat.reduceLeDiff, Nat.reduceAdd, Nat.reduceSub, Nat.reduceMul, Int.reduceToNat, Int.reduceLE, Int.reduceLT, Int.reduceAdd, Int.reduceSub, Int.reduceMul, Int.reduceEq, Int.reduceNeg]
          have g_0 := Option.some.inj h
          obtain ⟨k_1, g_1⟩ := Prod.mk.inj g_0
          subst k_1
          subst g_1
          rw [← hQ]
          exact ⟨rfl, _, rfl, _, _, (RefV.std [0, 1] (by decide) (by decide) rfl (by first | rfl | simp only [go_sem, reduceIte, Nat.reduceEqDiff, Nat.reduceAdd, e_5, e_7, e_15])), rfl, rfl⟩
        · try dsimp only at h
          refine LoopK_ret ?_
          have g_0 := Option.some.inj h
          obtain ⟨k_1, g_1⟩ := Prod.mk.inj g_0
          subst k_1
          subst g_1
          rw [← hQ]
          exact ⟨rfl, _, rfl, _, _, (RefV.std [0, 1] (by decide) (by decide) rfl (by first | rfl | simp only [go_sem, reduceIte, Nat.reduceEqDiff, Nat.reduceAdd, e_5, e_7, e_15])), rfl, rfl⟩
      · rw [if_neg h_14] at h
        have e_15 : y_12 = false := bfalse h_14
        simp only [e_5, e_7, e_15, go_sem, reduceIte, reduceCtorEq, Nat.reduceEqDiff, Nat.reduceLT, Nat.reduceLeDiff, Nat.reduceAdd, Nat.reduceSub, Nat.reduceMul, Int.reduceToNat, Int.reduceLE, Int.reduceLT, Int.reduceAdd, Int.reduceSub, Int.reduceMul, Int.reduceEq, Int.reduceNeg]
        have g_0 := Option.some.inj h
        obtain ⟨k_1, g_1⟩ := Prod.mk.inj g_0
        subst k_1
        subst g_1
        rw [← hQ]
        exact ⟨rfl, _, rfl, _, _, (RefV.trans (RefV.thawB (by simp) (id := 0) 0 rfl rfl (sz := 3) (by decide) 76) (RefV.std [0, 1] (by decide) (by decide) rfl (by first | rfl | simp only [go_sem, reduceIte, Nat.reduceEqDiff, Nat.reduceAdd, e_5, e_7, e_15]))), rfl, rfl⟩
    · rw [if_neg h_6] at h
      have e_7 : (y_1.tmod 2 = 0) = False := eq_false h_6
      simp only [e_5, e_7, go_sem, reduceIte, reduceCtorEq, Nat.reduceEqDiff, Nat.reduceLT, Nat.reduceLeDiff, Nat.reduceAdd, Nat.reduceSub, Nat.reduceMul, Int.reduceToNat, Int.reduceLE, Int.reduceLT, Int.reduceAdd, Int.reduceSub, Int.reduceMul, Int.reduceEq, Int.reduceNeg]
      have g_0 := Option.some.inj h
      obtain ⟨k_1, g_1⟩ := Prod.mk.inj g_0
      subst k_1
      subst g_1
      rw [← hQ]
      exact ⟨rfl, _, rfl, _, _, (RefV.trans (RefV.thawB (by simp) (id := 0) 0 rfl rfl (sz := 3) (by decide) 76) (RefV.std [0, 1] (by decide) (by decide) rfl (by first | rfl | simp only [go_sem, reduceIte, Nat.reduceEqDiff, Nat.reduceAdd, e_5, e_7]))), rfl, rfl⟩
  · rw [if_neg h_4] at h
    have e_5 : y_2 = false := bfalse h_4
    simp only [e_5, go_sem, reduceIte, reduceCtorEq, Nat.reduceEqDiff, Nat.reduceLT, Nat.reduceLeDiff, Nat.reduceAdd, Nat.reduceSub, Nat.reduceMul, Int.reduceToNat, Int.reduceLE, Int.reduceLT, Int.reduceAdd, Int.reduceSub, Int.reduceMul, Int.reduceEq, Int.reduceNeg]
    have g_0 := Option.some.inj h
    obtain ⟨k_1, g_1⟩ := Prod.mk.inj g_0
    subst k_1
    subst g_1
    rw [← hQ]
    exact ⟨rfl, _, rfl, _, _, (RefV.trans (RefV.thawB (by simp) (id := 0) 0 rfl rfl (sz := 3) (by decide) 76) (RefV.std [0, 1] (by decide) (by decide) rfl (by first | rfl | simp only [go_sem, reduceIte, Nat.reduceEqDiff, Nat.reduceAdd, e_5]))), rfl, rfl⟩
theorem gdef_Codes_w (N : Nat) (l_0 : List Int) (a_1 : Int) (a_2 : Int) (c_0 : Bool) (z_1 : List TGroup) (z_2 : Bool) (h : gdef_Codes N l_0 a_1 a_2 = some (z_1, z_2)) :
    ACalls Go.Proofs.Try.prog 51 [.vec c_0 (List.map eU8 l_0), .int .i64 a_1, .int .i64 a_2] [] (fun e H => H = [] ∧ e = .ret (.tup [.vec false (List.map eTGroup z_1), .bool z_2])) := by
  unfold gdef_Codes at h
  refine ACalls.goN Go.Proofs.Try.func51 n51 a51 Go.Proofs.Try.ntmps51 r51 (by simp) 0 rfl ?_
  generalize hQ : bodyA _ _ _ = QQ
  simp only [A51, go_sem, reduceIte, reduceCtorEq, Nat.reduceEqDiff, Nat.reduceLT, Nat.reduceLeDiff, Nat.reduceAdd, Nat.reduceSub, Nat.reduceMul, Int.reduceToNat, Int.reduceLE, Int.reduceLT, Int.reduceAdd, Int.reduceSub, Int.reduceMul, Int.reduceEq, Int.reduceNeg]
  by_cases h_1 : a_2 < 0
  · rw [if_pos h_1] at h
    have e_2 : (a_2 < 0) = True := eq_true h_1
    simp only [e_2, go_sem, reduceIte, reduceCtorEq, Nat.reduceEqDiff, Nat.reduceLT, Nat.reduceLeDiff, Nat.reduceAdd, Nat.reduceSub, Nat.reduceMul, Int.reduceToNat, Int.reduceLE, Int.reduceLT, Int.reduceAdd, Int.reduceSub, Int.reduceMul, Int.reduceEq, Int.reduceNeg]
    have g_0 := Option.some.inj h
    obtain ⟨k_1, g_1⟩ := Prod.mk.inj g_0
    subst k_1
    subst g_1
    rw [← hQ]
    exact ⟨rfl, _, rfl, _, _, (RefV.trans (RefV.out (v' := .tup [.vec true [], .bool false]) rfl) (RefV.weak (Wks.cons (Wk.tup (Wks.cons Wk.vec (Wks.cons (Wk.refl _) (Wks.nil)))) Wks.nil) (WkH.refl _))), rfl, rfl⟩
  · rw [if_neg h_1] at h
    have e_2 : (a_2 < 0) = False := eq_false h_1
    simp only [e_2, go_sem, reduceIte, reduceCtorEq, Nat.reduceEqDiff, Nat.reduceLT, Nat.reduceLeDiff, Nat.reduceAdd, Nat.reduceSub, Nat.reduceMul, Int.reduceToNat, Int.reduceLE, Int.reduceLT, Int.reduceAdd, Int.reduceSub, Int.reduceMul, Int.reduceEq, Int.reduceNeg]
    by_cases h_3 : 65536 < a_2
    · rw [if_pos h_3] at h
      have e_4 : (65536 < a_2) = True := eq_true h_3
      simp only [e_2, e_4, go_sem, reduceIte, reduceCtorEq, Nat.reduceEqDiff, Nat.reduceLT, Nat.reduceLeDiff, Nat.reduceAdd, Nat.reduceSub, Nat.reduceMul, Int.reduceToNat, Int.reduceLE, Int.reduceLT, Int.reduceAdd, Int.reduceSub, Int.reduceMul, Int.reduceEq, Int.reduceNeg]
      have g_0 := Option.some.inj h
      obtain ⟨k_1, g_1⟩ := Prod.mk.inj g_0
      subst k_1
      subst g_1
      rw [← hQ]
      exact ⟨rfl, _, rfl, _, _, (RefV.trans (RefV.out (v' := .tup [.vec true [], .bool false]) rfl) (RefV.weak (Wks.cons (Wk.tup (Wks.cons Wk.vec (Wks.cons (Wk.refl _) (Wks.nil)))) Wks.nil) (WkH.refl _))), rfl, rfl⟩
    · rw [if_neg h_3] at h
      have e_4 : (65536 < a_2) = False := eq_false h_3
      obtain ⟨⟨y_5, y_6⟩, h_7, h⟩ := bindS h
      try dsimp only at h
      simp only [e_2, e_4, go_sem, reduceIte, reduceCtorEq, Nat.reduceEqDiff, Nat.reduceLT, Nat.reduceLeDiff, Nat.reduceAdd, Nat.reduceSub, Nat.reduceMul, Int.reduceToNat, Int.reduceLE, Int.reduceLT, Int.reduceAdd, Int.reduceSub, Int.reduceMul, Int.reduceEq, Int.reduceNeg]
      refine ACalls.use0 (octet_U16_w N _ _ _ _ _ h_7) rfl rfl ?_
      refine CallK_go (Nat.zero_le _) ?_
      obtain ⟨⟨y_8, y_9⟩, h_10, h⟩ := bindS h
      try dsimp only at h
      simp only [e_2, e_4, go_sem, reduceIte, reduceCtorEq, Nat.reduceEqDiff, Nat.reduceLT, Nat.reduceLeDiff, Nat.reduceAdd, Nat.reduceSub, Nat.reduceMul, Int.reduceToNat, Int.reduceLE, Int.reduceLT, Int.reduceAdd, Int.reduceSub, Int.reduceMul, Int.reduceEq, Int.reduceNeg]
      refine ACalls.use0 (octet_U16_w N _ _ _ _ _ h_10) rfl rfl ?_
      refine CallK_go (Nat.zero_le _) ?_
      simp only [e_2, e_4, go_sem, reduceIte, reduceCtorEq, Nat.reduceEqDiff, Nat.reduceLT, Nat.reduceLeDiff, Nat.reduceAdd, Nat.reduceSub, Nat.reduceMul, Int.reduceToNat, Int.reduceLE, Int.reduceLT, Int.reduceAdd, Int.reduceSub, Int.reduceMul, Int.reduceEq, Int.reduceNeg]
      by_cases h_11 : y_9 = true
      · rw [if_pos h_11] at h
        have e_12 : y_9 = true := h_11
        simp only [e_2, e_4, e_12, go_sem, reduceIte, reduceCtorEq, Nat.reduceEqDiff, Nat.reduceLT, Nat.reduceLeDiff, Nat.reduceAdd, Nat.reduceSub, Nat.reduceMul, Int.reduceToNat, Int.reduceLE, Int.reduceLT, Int.reduceAdd, Int.reduceSub, Int.reduceMul, Int.reduceEq, Int.reduceNeg]
        by_cases h_13 : y_5 = 0
        · rw [if_pos h_13] at h
          have e_14 : (y_5 = 0) = True := eq_true h_13
          simp only [e_2, e_4, e_12, e_14, go_sem, reduceIte, reduceCtorEq, Nat.reduceEqDiff, Nat.reduceLT, Nat.reduceLeDiff, Nat.reduceAdd, Nat.reduceSub, Nat.reduceMul, Int.reduceToNat, Int.reduceLE, Int.reduceLT, Int.reduceAdd, Int.reduceSub, Int.reduceMul, Int.reduceEq, Int.reduceNeg]
          by_cases h_15 : 64 < y_8
          · rw [if_pos h_15] at h
            have e_16 : (64 < y_8) = True := eq_true h_15
            simp only [e_2, e_4, e_12, e_14, e_16, go_sem, reduceIte, reduceCtorEq, Nat.reduceEqDiff, Nat.reduceLT, Nat.reduceLeDiff, Nat.reduceAdd, Nat.reduceSub, Nat.reduceMul, Int.reduceToNat, Int.reduceLE, Int.reduceLT, Int.reduceAdd, Int.reduceSub, Int.reduceMul, Int.reduceEq, Int.reduceNeg]
            have g_0 := Option.some.inj h
            obtain ⟨k_1, g_1⟩ := Prod.mk.inj g_0
            subst k_1
            subst g_1
            rw [← hQ]
            exact ⟨rfl, _, rfl, _, _, (RefV.trans (RefV.out (v' := .tup [.vec true [], .bool false]) rfl) (RefV.weak (Wks.cons (Wk.tup (Wks.cons Wk.vec (Wks.cons (Wk.refl _) (Wks.nil)))) Wks.nil) (WkH.refl _))), rfl, rfl⟩
          · rw [if_neg h_15] at h
            have e_16 : (64 < y_8) = False := eq_false h_15
            simp only [e_2, e_4, e_12, e_14, e_16, go_sem, reduceIte, reduceCtorEq, Nat.reduceEqDiff, Nat.reduceLT, Nat.reduceLeDiff, Nat.reduceAdd, Nat.reduceSub, Nat.reduceMul, Int.reduceToNat, Int.reduceLE, Int.reduceLT, Int.reduceAdd, Int.reduceSub, Int.reduceMul, Int.reduceEq, Int.reduceNeg]
            obtain ⟨o_1020, h_1017, h⟩ := bindS h
            refine ALp.ref (Ref.std [0, 1, 2, 12, 51, 52] [0] (by decide) low0 rfl rfl) (Nat.zero_le _) (gdef_Codes_L1_w N _ _ _ _ c_0 N _ _ _ o_1020 h_1017 ?_)
            rcases o_1020 with ⟨y_1018, y_1019⟩ | _
            · try dsimp only at h
              refine LoopK_go rfl (Nat.zero_le _) ?_
              simp only [e_2, e_4, e_12, e_14, e_16, go_sem, reduceIte, reduceCtorEq, Nat.reduceEqDiff, Nat.reduceLT, Nat.reduceLeDiff, Nat.reduceAdd, Nat.reduceSub, Nat.reduceMul, Int.reduceToNat, Int.reduceLE, Int.reduceLT, Int.reduceAdd, Int.reduceSub, Int.reduceMul, Int.reduceEq, Int.reduceNeg]
              by_cases h_1021 : 0 ≤ y_1018
              · rw [if_pos h_1021] at h
                have e_1022 : (0 ≤ y_1018) = True := eq_true h_1021
                obtain ⟨⟨y_1023, y_1024⟩, h_1025, h⟩ := bindS h
                try dsimp only at h
                simp only [e_2, e_4, e_12, e_14, e_16, e_1022, go_sem, reduceIte, reduceCtorEq, Nat.reduceEqDiff, Nat.reduceLT, Nat.reduceLeDiff, Nat.reduceAdd, Nat.reduceSub, Nat.reduceMul, Int.reduceToNat, Int.reduceLE, Int.reduceLT, Int.reduceAdd, Int.reduceSub, Int.reduceMul, Int.reduceEq, Int.reduceNeg]
                refine ACalls.use (gdef_list_wide_nil_w N _ _ _ _ _ _ h_1025) [1] (by decide) ⟨(by first | rfl | simp only [go_sem, reduceIte, Nat.reduceEqDiff, Nat.reduceAdd, e_2, e_4, e_12, e_14, e_16, e_1022]), trivial⟩ rfl (v' := .bool y_1023) (by first | rfl | simp only [go_sem, reduceIte, Nat.reduceEqDiff, Nat.reduceAdd, e_2, e_4, e_12, e_14, e_16, e_1022]) (H' := [.box [.int .i64 y_1018, .int .i64 y_1019] 110, .box [.row 2 0 y_1024.length, .int .i64 a_2] 113, .mem 3 (List.map eTGroup y_1024) 76]) (by first | rfl | simp only [go_sem, reduceIte, Nat.reduceEqDiff, Nat.reduceAdd, e_2, e_4, e_12, e_14, e_16, e_1022]) ?_
                refine CallK_go (Nat.zero_le _) ?_
                simp only [e_2, e_4, e_12, e_14, e_16, e_1022, go_sem, reduceIte, reduceCtorEq, Nat.reduceEqDiff, Nat.reduceLT, Nat.reduceLeDiff, Nat.reduceAdd, Nat.reduceSub, Nat.reduceMul, Int.reduceToNat, Int.reduceLE, Int.reduceLT, Int.reduceAdd, Int.reduceSub, Int.reduceMul, Int.reduceEq, Int.reduceNeg]
                by_cases h_1026 : y_1023 = true
                · rw [if_pos h_1026] at h
                  have e_1027 : y_1023 = true := h_1026
                  simp only [e_2, e_4, e_12, e_14, e_16, e_1022, e_1027, go_sem, reduceIte, reduceCtorEq, Nat.reduceEqDiff, Nat.reduceLT, Nat.reduceLeDiff, Nat.reduceAdd, Nat.reduceSub, Nat.reduceMul, Int.reduceToNat, Int.reduceLE, Int.reduceLT, Int.reduceAdd, Int.reduceSub, Int.reduceMul, Int.reduceEq, Int.reduceNeg]
                  have g_0 := Option.some.inj h
                  obtain ⟨k_1, g_1⟩ := Prod.mk.inj g_0
                  subst k_1
                  subst g_1
                  rw [← hQ]
                  exact ⟨rfl, _, rfl, _, _, (RefV.trans (RefV.frz (Nat.zero_le _) (id := 2) rfl (pures_map y_1024 eTGroup (fun _ => rfl))) (RefV.out (by first | rfl | simp only [go_sem, reduceIte, Nat.reduceEqDiff, Nat.reduceAdd, e_2, e_4, e_12, e_14, e_16, e_1022, e_1027]))), rfl, rfl⟩
                · rw [if_neg h_1026] at h
                  have e_1027 : y_1023 = false := bfalse h_1026
                  simp only [e_2, e_4, e_12, e_14, e_16, e_1022, e_1027, go_sem, reduceIte, reduceCtorEq, Nat.reduceEqDiff, Nat.reduceLT, Nat.reduceLeDiff, Nat.reduceAdd, Nat.reduceSub, Nat.reduceMul, Int.reduceToNat, Int.reduceLE, Int.reduceLT, Int.reduceAdd, Int.reduceSub, Int.reduceMul, Int.reduceEq, Int.reduceNeg]
                  have g_0 := Option.some.inj h
                  obtain ⟨k_1, g_1⟩ := Prod.mk.inj g_0
                  subst k_1
                  subst g_1
                  rw [← hQ]
                  exact ⟨rfl, _, rfl, _, _, (RefV.trans (RefV.out (v' := .tup [.vec true [], .bool false]) rfl) (RefV.weak (Wks.cons (Wk.tup (Wks.cons Wk.vec (Wks.cons (Wk.refl _) (Wks.nil)))) Wks.nil) (WkH.refl _))), rfl, rfl⟩
              · rw [if_neg h_1021] at h
                have e_1022 : (0 ≤ y_1018) = False := eq_false h_1021
                simp only [e_2, e_4, e_12, e_14, e_16, e_1022, go_sem, reduceIte, reduceCtorEq, Nat.reduceEqDiff, Nat.reduceLT, Nat.reduceLeDiff, Nat.reduceAdd, Nat.reduceSub, Nat.reduceMul, Int.reduceToNat, Int.reduceLE, Int.reduceLT, Int.reduceAdd, Int.reduceSub, Int.reduceMul, Int.reduceEq, Int.reduceNeg]
                by_cases h_1028 : 0 ≤ y_1019
                · rw [if_pos h_1028] at h
                  have e_1029 : (0 ≤ y_1019) = True := eq_true h_1028
                  obtain ⟨⟨y_1030, y_1031⟩, h_1032, h⟩ := bindS h
                  try dsimp only at h
                  simp only [e_2, e_4, e_12, e_14, e_16, e_1022, e_1029, go_sem, reduceIte, reduceCtorEq, Nat.reduceEqDiff, Nat.reduceLT, Nat.reduceLeDiff, Nat.reduceAdd, Nat.reduceSub, Nat.reduceMul, Int.reduceToNat, Int.reduceLE, Int.reduceLT, Int.reduceAdd, Int.reduceSub, Int.reduceMul, Int.reduceEq, Int.reduceNeg]
                  refine ACalls.use (gdef_list_segments_nil_w N _ _ _ _ _ _ h_1032) [1] (by decide) ⟨(by first | rfl | simp only [go_sem, reduceIte, Nat.reduceEqDiff, Nat.reduceAdd, e_2, e_4, e_12, e_14, e_16, e_1022, e_1029]), trivial⟩ rfl (v' := .bool y_1030) (by first | rfl | simp only [go_sem, reduceIte, Nat.reduceEqDiff, Nat.reduceAdd, e_2, e_4, e_12, e_14, e_16, e_1022, e_1029]) (H' := [.box [.int .i64 y_1018, .int .i64 y_1019] 110, .box [.row 2 0 y_1031.length, .int .i64 a_2] 113, .mem 3 (List.map eTGroup y_1031) 76]) (by first | rfl | simp only [go_sem, reduceIte, Nat.reduceEqDiff, Nat.reduceAdd, e_2, e_4, e_12, e_14, e_16, e_1022, e_1029]) ?_
                  refine CallK_go (Nat.zero_le _) ?_
                  simp only [e_2, e_4, e_12, e_14, e_16, e_1022, e_1029, go_sem, reduceIte, reduceCtorEq, Nat.reduceEqDiff, Nat.reduceLT, Nat.reduceLeDiff, Nat.reduceAdd, Nat.reduceSub, Nat.reduceMul, Int.reduceToNat, Int.reduceLE, Int.reduceLT, Int.reduceAdd, Int.reduceSub, Int.reduceMul, Int.reduceEq, Int.reduceNeg]
                  by_cases h_1033 : y_1030 = true
                  · rw [if_pos h_1033] at h
                    have e_1034 : y_1030 = true := h_1033
                    simp only [e_2, e_4, e_12, e_14, e_16, e_1022, e_1029, e_1034, go_sem, reduceIte, reduceCtorEq, Nat.reduceEqDiff, Nat.reduceLT, Nat.reduceLeDiff, Nat.reduceAdd, Nat.reduceSub, Nat.reduceMul, Int.reduceToNat, Int.reduceLE, Int.reduceLT, Int.reduceAdd, Int.reduceSub, Int.reduceMul, Int.reduceEq, Int.reduceNeg]
                    have g_0 := Option.some.inj h
                    obtain ⟨k_1, g_1⟩ := Prod.mk.inj g_0
                    subst k_1
                    subst g_1
                    rw [← hQ]
                    exact ⟨rfl, _, rfl, _, _, (RefV.trans (RefV.frz (Nat.zero_le _) (id := 2) rfl (pures_map y_1031 eTGroup (fun _ => rfl))) (RefV.out (by first | rfl | simp only [go_sem, reduceIte, Nat.reduceEqDiff, Nat.reduceAdd, e_2, e_4, e_12, e_14, e_16, e_1022, e_1029, e_1034]))), rfl, rfl⟩
                  · rw [if_neg h_1033] at h
                    have e_1034 : y_1030 = false := bfalse h_1033
                    simp only [e_2, e_4, e_12, e_14, e_16, e_1022, e_1029, e_1034, go_sem, reduceIte, reduceCtorEq, Nat.reduceEqDiff, Nat.reduceLT, Nat.reduceLeDiff, Nat.reduceAdd, Nat.reduceSub, Nat.reduceMul, Int.reduceToNat, Int.reduceLE, Int.reduceLT, Int.reduceAdd, Int.reduceSub, Int.reduceMul, Int.reduceEq, Int.reduceNeg]
                    have g_0 := Option.some.inj h
                    obtain ⟨k_1, g_1⟩ := Prod.mk.inj g_0
                    subst k_1
                    subst g_1
                    rw [← hQ]
                    exact ⟨rfl, _, rfl, _, _, (RefV.trans (RefV.out (v' := .tup [.vec true [], .bool false]) rfl) (RefV.weak (Wks.cons (Wk.tup (Wks.cons Wk.vec (Wks.cons (Wk.refl _) (Wks.nil)))) Wks.nil) (WkH.refl _))), rfl, rfl⟩
                · rw [if_neg h_1028] at h
                  have e_1029 : (0 ≤ y_1019) = False := eq_false h_1028
                  simp only [e_2, e_4, e_12, e_14, e_16, e_1022, e_1029, go_sem, reduceIte, reduceCtorEq, Nat.reduceEqDiff, Nat.reduceLT, Nat.reduceLeDiff, Nat.reduceAdd, Nat.reduceSub, Nat.reduceMul, Int.reduceToNat, Int.reduceLE, Int.reduceLT, Int.reduceAdd, Int.reduceSub, Int.reduceMul, Int.reduceEq, Int.reduceNeg]
                  have g_0 := Option.some.inj h
                  obtain ⟨k_1, g_1⟩ := Prod.mk.inj g_0
                  subst k_1
                  subst g_1
                  rw [← hQ]
                  exact ⟨rfl, _, rfl, _, _, (RefV.trans (RefV.out (v' := .tup [.vec true [], .bool true]) rfl) (RefV.weak (Wks.cons (Wk.tup (Wks.cons Wk.vec (Wks.cons (Wk.refl _) (Wks.nil)))) Wks.nil) (WkH.refl _))), rfl, rfl⟩
            · try dsimp only at h
              refine LoopK_ret ?_
              have g_0 := Option.some.inj h
              obtain ⟨k_1, g_1⟩ := Prod.mk.inj g_0
              subst k_1
              subst g_1
              rw [← hQ]
              exact ⟨rfl, _, rfl, _, _, (RefV.trans (RefV.out (v' := .tup [.vec true [], .bool false]) rfl) (RefV.weak (Wks.cons (Wk.tup (Wks.cons Wk.vec (Wks.cons (Wk.refl _) (Wks.nil)))) Wks.nil) (WkH.refl _))), rfl, rfl⟩
        · rw [if_neg h_13] at h
          have e_14 : (y_5 = 0) = False := eq_false h_13
          simp only [e_2, e_4, e_12, e_14, go_sem, reduceIte, reduceCtorEq, Nat.reduceEqDiff, Nat.reduceLT, Nat.reduceLeDiff, Nat.reduceAdd, Nat.reduceSub, Nat.reduceMul, Int.reduceToNat, Int.reduceLE, Int.reduceLT, Int.reduceAdd, Int.reduceSub, Int.reduceMul, Int.reduceEq, Int.reduceNeg]
          have g_0 := Option.some.inj h
          obtain ⟨k_1, g_1⟩ := Prod.mk.inj g_0
          subst k_1
          subst g_1
          rw [← hQ]
          exact ⟨rfl, _, rfl, _, _, (RefV.trans (RefV.out (v' := .tup [.vec true [], .bool false]) rfl) (RefV.weak (Wks.cons (Wk.tup (Wks.cons Wk.vec (Wks.cons (Wk.refl _) (Wks.nil)))) Wks.nil) (WkH.refl _))), rfl, rfl⟩
      · rw [if_neg h_11] at h
        have e_12 : y_9 = false := bfalse h_11
        simp only [e_2, e_4, e_12, go_sem, reduceIte, reduceCtorEq, Nat.reduceEqDiff, Nat.reduceLT, Nat.reduceLeDiff, Nat.reduceAdd, Nat.reduceSub, Nat.reduceMul, Int.reduceToNat, Int.reduceLE, Int.reduceLT, Int.reduceAdd, Int.reduceSub, Int.reduceMul, Int.reduceEq, Int.reduceNeg]
        have g_0 := Option.some.inj h
        obtain ⟨k_1, g_1⟩ := Prod.mk.inj g_0
        subst k_1
        subst g_1
        rw [← hQ]
        exact ⟨rfl, _, rfl, _, _, (RefV.trans (RefV.out (v' := .tup [.vec true [], .bool false]) rfl) (RefV.weak (Wks.cons (Wk.tup (Wks.cons Wk.vec (Wks.cons (Wk.refl _) (Wks.nil)))) Wks.nil) (WkH.refl _))), rfl, rfl⟩
theorem law15_GdefMay_L1_w (N : Nat) (a_2 : Int) (y_7 : List TGroup) {R : AExit → ATm → List AObj → Prop} : ∀ (n : Nat) (i_12 : Int) (o : (Unit) ⊕ (Unit)), law15_GdefMay_L1 N a_2 y_7 n i_12 = some o → (match o with | .inl _ => R (.exit 0) ⟨161, [], []⟩ [] | .inr (_) => R .ret ⟨161, [(6, .bool false)], []⟩ []) →
    ALp Go.Proofs.Try.prog 0 B15_1 ⟨161, [(2, .int .i64 a_2), (7, .vec false (List.map eTGroup y_7)), (9, .int .i64 i_12)], []⟩ [] R := by
  intro n
  induction n with
  | zero =>
    intro i_12 o h _
    have h0 : none = some o := h
    cases h0
  | succ n ih =>
    intro i_12 o h hp
    rw [law15_GdefMay_L1] at h
    refine ALp.round ?_
    generalize hQ : RoundQ _ _ _ _ = QQ
    simp only [B15_1, A15, go_sem, reduceIte, reduceCtorEq, Nat.reduceEqDiff, Nat.reduceLT, Nat.reduceLeDiff, Nat.reduceAdd, Nat.reduceSub, Nat.reduceMul, Int.reduceToNat, Int.reduceLE, Int.reduceLT, Int.reduceAdd, Int.reduceSub, Int.reduceMul, Int.reduceEq, Int.reduceNeg]
    by_cases h_13 : i_12 < (y_7.length : Int)
    · rw [if_pos h_13] at h
      have e_14 : (i_12 < (y_7.length : Int)) = True := eq_true h_13
      obtain ⟨x_15, h_16, h⟩ := bindS h
      have e_17 : (List.map eTGroup y_7)[(i_12).toNat]? = some [.int .i32 x_15.From, .int .i32 x_15.To, .int .i64 x_15.Glyph] := atI_map eTGroup h_16
      have e_18 : ((0 : Int) ≤ i_12) = True := eq_true (atI_some h_16).1
      have e_19 : ((i_12 : Int) < (y_7.length : Int)) = True := eq_true (atI_lt h_16)
      simp only [e_14, e_17, e_18, e_19, go_sem, reduceIte, reduceCtorEq, Nat.reduceEqDiff, Nat.reduceLT, Nat.reduceLeDiff, Nat.reduceAdd, Nat.reduceSub, Nat.reduceMul, Int.reduceToNat, Int.reduceLE, Int.reduceLT, Int.reduceAdd, Int.reduceSub, Int.reduceMul, Int.reduceEq, Int.reduceNeg]
      by_cases h_20 : x_15.From < 0
      · rw [if_pos h_20] at h
        have e_21 : (x_15.From < 0) = True := eq_true h_20
        simp only [e_14, e_17, e_18, e_19, e_21, go_sem, reduceIte, reduceCtorEq, Nat.reduceEqDiff, Nat.reduceLT, Nat.reduceLeDiff, Nat.reduceAdd, Nat.reduceSub, Nat.reduceMul, Int.reduceToNat, Int.reduceLE, Int.reduceLT, Int.reduceAdd, Int.reduceSub, Int.reduceMul, Int.reduceEq, Int.reduceNeg]
        have g := Option.some.inj h
        subst g
        rw [← hQ]
        exact ⟨_, _, (Ref.out [6] rfl), hp⟩
      · rw [if_neg h_20] at h
        have e_21 : (x_15.From < 0) = False := eq_false h_20
        simp only [e_14, e_17, e_18, e_19, e_21, go_sem, reduceIte, reduceCtorEq, Nat.reduceEqDiff, Nat.reduceLT, Nat.reduceLeDiff, Nat.reduceAdd, Nat.reduceSub, Nat.reduceMul, Int.reduceToNat, Int.reduceLE, Int.reduceLT, Int.reduceAdd, Int.reduceSub, Int.reduceMul, Int.reduceEq, Int.reduceNeg]
        by_cases h_22 : x_15.To < x_15.From
        · rw [if_pos h_22] at h
          have e_23 : (x_15.To < x_15.From) = True := eq_true h_22
          simp only [e_14, e_17, e_18, e_19, e_21, e_23, go_sem, reduceIte, reduceCtorEq, Nat.reduceEqDiff, Nat.reduceLT, Nat.reduceLeDiff, Nat.reduceAdd, Nat.reduceSub, Nat.reduceMul, Int.reduceToNat, Int.reduceLE, Int.reduceLT, Int.reduceAdd, Int.reduceSub, Int.reduceMul, Int.reduceEq, Int.reduceNeg]
          have g := Option.some.inj h
          subst g
          rw [← hQ]
          exact ⟨_, _, (Ref.out [6] rfl), hp⟩
        · rw [if_neg h_22] at h
          have e_23 : (x_15.To < x_15.From) = False := eq_false h_22
          simp only [e_14, e_17, e_18, e_19, e_21, e_23, go_sem, reduceIte, reduceCtorEq, Nat.reduceEqDiff, Nat.reduceLT, Nat.reduceLeDiff, Nat.reduceAdd, Nat.reduceSub, Nat.reduceMul, Int.reduceToNat, Int.reduceLE, Int.reduceLT, Int.reduceAdd, Int.reduceSub, Int.reduceMul, Int.reduceEq, Int.reduceNeg]
          by_cases h_24 : 1114111 < x_15.To
          · rw [if_pos h_24] at h
            have e_25 : (1114111 < x_15.To) = True := eq_true h_24
            simp only [e_14, e_17, e_18, e_19, e_21, e_23, e_25, go_sem, reduceIte, reduceCtorEq, Nat.reduceEqDiff, Nat.reduceLT, Nat.reduceLeDiff, Nat.reduceAdd, Nat.reduceSub, Nat.reduceMul, Int.reduceToNat, Int.reduceLE, Int.reduceLT, Int.reduceAdd, Int.reduceSub, Int.reduceMul, Int.reduceEq, Int.reduceNeg]
            have g := Option.some.inj h
            subst g
            rw [← hQ]
            exact ⟨_, _, (Ref.out [6] rfl), hp⟩
          · rw [if_neg h_24] at h
            have e_25 : (1114111 < x_15.To) = False := eq_false h_24
            simp only [e_14, e_17, e_18, e_19, e_21, e_23, e_25, go_sem, reduceIte, reduceCtorEq, Nat.reduceEqDiff, Nat.reduceLT, Nat.reduceLeDiff, Nat.reduceAdd, Nat.reduceSub, Nat.reduceMul, Int.reduceToNat, Int.reduceLE, Int.reduceLT, Int.reduceAdd, Int.reduceSub, Int.reduceMul, Int.reduceEq, Int.reduceNeg]
            by_cases h_26 : x_15.Glyph < 1
            · rw [if_pos h_26] at h
              have e_27 : (x_15.Glyph < 1) = True := eq_true h_26
              simp only [e_14, e_17, e_18, e_19, e_21, e_23, e_25, e_27, go_sem, reduceIte, reduceCtorEq, Nat.reduceEqDiff, Nat.reduceLT, Nat.reduceLeDiff, Nat.reduceAdd, Nat.reduceSub, Nat.reduceMul, Int.reduceToNat, Int.reduceLE, Int.reduceLT, Int.reduceAdd, Int.reduceSub, Int.reduceMul, Int.reduceEq, Int.reduceNeg]
              have g := Option.some.inj h
              subst g
              rw [← hQ]
              exact ⟨_, _, (Ref.out [6] rfl), hp⟩
            · rw [if_neg h_26] at h
              have e_27 : (x_15.Glyph < 1) = False := eq_false h_26
              simp only [e_14, e_17, e_18, e_19, e_21, e_23, e_25, e_27, go_sem, reduceIte, reduceCtorEq, Nat.reduceEqDiff, Nat.reduceLT, Nat.reduceLeDiff, Nat.reduceAdd, Nat.reduceSub, Nat.reduceMul, Int.reduceToNat, Int.reduceLE, Int.reduceLT, Int.reduceAdd, Int.reduceSub, Int.reduceMul, Int.reduceEq, Int.reduceNeg]
              by_cases h_28 : a_2 ≤ IntKind.i64.wrap (x_15.Glyph + (IntKind.i64.wrap (IntKind.i32.wrap (x_15.To - x_15.From))))
              · rw [if_pos h_28] at h
                have e_29 : (a_2 ≤ IntKind.i64.wrap (x_15.Glyph + (IntKind.i64.wrap (IntKind.i32.wrap (x_15.To - x_15.From))))) = True := eq_true h_28
                simp only [e_14, e_17, e_18, e_19, e_21, e_23, e_25, e_27, e_29, go_sem, reduceIte, reduceCtorEq, Nat.reduceEqDiff, Nat.reduceLT, Nat.reduceLeDiff, Nat.reduceAdd, Nat.reduceSub, Nat.reduceMul, Int.reduceToNat, Int.reduceLE, Int.reduceLT, Int.reduceAdd, Int.reduceSub, Int.reduceMul, Int.reduceEq, Int.reduceNeg]
                have g := Option.some.inj h
                subst g
                rw [← hQ]
                exact ⟨_, _, (Ref.out [6] rfl), hp⟩
              · rw [if_neg h_28] at h
                have e_29 : (a_2 ≤ IntKind.i64.wrap (x_15.Glyph + (IntKind.i64.wrap (IntKind.i32.wrap (x_15.To - x_15.From))))) = False := eq_false h_28
                simp only [e_14, e_17, e_18, e_19, e_21, e_23, e_25, e_27, e_29, go_sem, reduceIte, reduceCtorEq, Nat.reduceEqDiff, Nat.reduceLT, Nat.reduceLeDiff, Nat.reduceAdd, Nat.reduceSub, Nat.reduceMul, Int.reduceToNat, Int.reduceLE, Int.reduceLT, Int.reduceAdd, Int.reduceSub, Int.reduceMul, Int.reduceEq, Int.reduceNeg]
                by_cases h_30 : 0 < i_12
                · rw [if_pos h_30] at h
                  have e_31 : (0 < i_12) = True := eq_true h_30
                  obtain ⟨x_32, h_33, h⟩ := bindS h
                  have e_34 : (List.map eTGroup y_7)[(IntKind.i64.wrap (i_12 - 1)).toNat]? = some [.int .i32 x_32.From, .int .i32 x_32.To, .int .i64 x_32.Glyph] := atI_map eTGroup h_33
                  have e_35 : ((0 : Int) ≤ IntKind.i64.wrap (i_12 - 1)) = True := eq_true (atI_some h_33).1
                  have e_36 : ((IntKind.i64.wrap (i_12 - 1) : Int) < (y_7.length : Int)) = True := eq_true (atI_lt h_33)
                  simp only [e_14, e_17, e_18, e_19, e_21, e_23, e_25, e_27, e_29, e_31, e_34, e_35, e_36, go_sem, reduceIte, reduceCtorEq, Nat.reduceEqDiff, Nat.reduceLT, Nat.reduceLeDiff, Nat.reduceAdd, Nat.reduceSub, Nat.reduceMul, Int.reduceToNat, Int.reduceLE, Int.reduceLT, Int.reduceAdd, Int.reduceSub, Int.reduceMul, Int.reduceEq, Int.reduceNeg]
                  by_cases h_37 : x_15.From ≤ x_32.To
                  · rw [if_pos h_37] at h
                    have e_38 : (x_15.From ≤ x_32.To) = True := eq_true h_37
                    simp only [e_14, e_17, e_18, e_19, e_21, e_23, e_25, e_27, e_29, e_31, e_34, e_35, e_36, e_38, go_sem, reduceIte, reduceCtorEq, Nat.reduceEqDiff, Nat.reduceLT, Nat.reduceLeDiff, Nat.reduceAdd, Nat.reduceSub, Nat.reduceMul, Int.reduceToNat, Int.reduceLE, Int.reduceLT, Int.reduceAdd, Int.reduceSub, Int.reduceMul, Int.reduceEq, Int.reduceNeg]
                    have g := Option.some.inj h
                    subst g
                    rw [← hQ]
                    exact ⟨_, _, (Ref.out [6] rfl), hp⟩
                  · rw [if_neg h_37] at h
                    have e_38 : (x_15.From ≤ x_32.To) = False := eq_false h_37
                    simp only [e_14, e_17, e_18, e_19, e_21, e_23, e_25, e_27, e_29, e_31, e_34, e_35, e_36, e_38, go_sem, reduceIte, reduceCtorEq, Nat.reduceEqDiff, Nat.reduceLT, Nat.reduceLeDiff, Nat.reduceAdd, Nat.reduceSub, Nat.reduceMul, Int.reduceToNat, Int.reduceLE, Int.reduceLT, Int.reduceAdd, Int.reduceSub, Int.reduceMul, Int.reduceEq, Int.reduceNeg]
                    by_cases h_39 : x_15.From = IntKind.i32.wrap (x_32.To + 1)
                    · rw [if_pos h_39] at h
                      have e_40 : (x_15.From = IntKind.i32.wrap (x_32.To + 1)) = True := eq_true h_39
                      simp only [e_14, e_17, e_18, e_19, e_21, e_23, e_25, e_27, e_29, e_31, e_34, e_35, e_36, e_38, e_40, go_sem, reduceIte, reduceCtorEq, Nat.reduceEqDiff, Nat.reduceLT, Nat.reduceLeDiff, Nat.reduceAdd, Nat.reduceSub, Nat.reduceMul, Int.reduceToNat, Int.reduceLE, Int.reduceLT, Int.reduceAdd, Int.reduceSub, Int.reduceMul, Int.reduceEq, Int.reduceNeg]
                      by_cases h_41 : x_15.Glyph = IntKind.i64.wrap ((IntKind.i64.wrap (x_32.Glyph + (IntKind.i64.wrap (IntKind.i32.wrap (x_32.To - x_32.From))))) + 1)
                      · rw [if_pos h_41] at h
                        have e_42 : (x_15.Glyph = IntKind.i64.wrap ((IntKind.i64.wrap (x_32.Glyph + (IntKind.i64.wrap (IntKind.i32.wrap (x_32.To - x_32.From))))) + 1)) = True := eq_true h_41
                        simp only [e_14, e_17, e_18, e_19, e_21, e_23, e_25, e_27, e_29, e_31, e_34, e_35, e_36, e_38, e_40, e_42, go_sem, reduceIte, reduceCtorEq, Nat.reduceEqDiff, Nat.reduceLT, Nat.reduceLeDiff, Nat.reduceAdd, Nat.reduceSub, Nat.reduceMul, Int.reduceToNat, Int.reduceLE, Int.reduceLT, Int.reduceAdd, Int.reduceSub, Int.reduceMul, Int.reduceEq, Int.reduceNeg]
                        have g := Option.some.inj h
                        subst g
                        rw [← hQ]
                        exact ⟨_, _, (Ref.out [6] rfl), hp⟩
                      · rw [if_neg h_41] at h
                        have e_42 : (x_15.Glyph = IntKind.i64.wrap ((IntKind.i64.wrap (x_32.Glyph + (IntKind.i64.wrap (IntKind.i32.wrap (x_32.To - x_32.From))))) + 1)) = False := eq_false h_41
                        simp only [e_14, e_17, e_18, e_19, e_21, e_23, e_25, e_27, e_29, e_31, e_34, e_35, e_36, e_38, e_40, e_42, go_sem, reduceIte, reduceCtorEq, Nat.reduceEqDiff, Nat.reduceLT, Nat.reduceLeDiff, Nat.reduceAdd, Nat.reduceSub, Nat.reduceMul, Int.reduceToNat, Int.reduceLE, Int.reduceLT, Int.reduceAdd, Int.reduceSub, Int.reduceMul, Int.reduceEq, Int.reduceNeg]
                        rw [← hQ]
                        exact ⟨_, _, (Ref.out [2, 7, 9] rfl), (Nat.zero_le _), ih _ _ h hp⟩
                    · rw [if_neg h_39] at h
                      have e_40 : (x_15.From = IntKind.i32.wrap (x_32.To + 1)) = False := eq_false h_39
                      simp only [e_14, e_17, e_18, e_19, e_21, e_23, e_25, e_27, e_29, e_31, e_34, e_35, e_36, e_38, e_40, go_sem, reduceIte, reduceCtorEq, Nat.reduceEqDiff, Nat.reduceLT, Nat.reduceLeDiff, Nat.reduceAdd, Nat.reduceSub, Nat.reduceMul, Int.reduceToNat, Int.reduceLE, Int.reduceLT, Int.reduceAdd, Int.reduceSub, Int.reduceMul, Int.reduceEq, Int.reduceNeg]
                      rw [← hQ]
                      exact ⟨_, _, (Ref.out [2, 7, 9] rfl), (Nat.zero_le _), ih _ _ h hp⟩
                · rw [if_neg h_30] at h
                  have e_31 : (0 < i_12) = False := eq_false h_30
                  simp only [e_14, e_17, e_18, e_19, e_21, e_23, e_25, e_27, e_29, e_31, go_sem, reduceIte, reduceCtorEq, Nat.reduceEqDiff, Nat.reduceLT, Nat.reduceLeDiff, Nat.reduceAdd, Nat.reduceSub, Nat.reduceMul, Int.reduceToNat, Int.reduceLE, Int.reduceLT, Int.reduceAdd, Int.reduceSub, Int.reduceMul, Int.reduceEq, Int.reduceNeg]
                  rw [← hQ]
                  exact ⟨_, _, (Ref.out [2, 7, 9] rfl), (Nat.zero_le _), ih _ _ h hp⟩
    · rw [if_neg h_13] at h
      have e_14 : (i_12 < (y_7.length : Int)) = False := eq_false h_13
      simp only [e_14, go_sem, reduceIte, reduceCtorEq, Nat.reduceEqDiff, Nat.reduceLT, Nat.reduceLeDiff, Nat.reduceAdd, Nat.reduceSub, Nat.reduceMul, Int.reduceToNat, Int.reduceLE, Int.reduceLT, Int.reduceAdd, Int.reduceSub, Int.reduceMul, Int.reduceEq, Int.reduceNeg]
      have g := Option.some.inj h
      subst g
      rw [← hQ]
      exact ⟨_, _, (Ref.out [] rfl), hp⟩
theorem law15_GdefMay_w (N : Nat) (l_0 : List Int) (a_1 : Int) (a_2 : Int) (c_0 : Bool) (z_1 : Bool) (h : law15_GdefMay N l_0 a_1 a_2 = some z_1) :
    ACalls Go.Proofs.Try.prog 15 [.vec c_0 (List.map eU8 l_0), .int .i64 a_1, .int .i64 a_2] [] (fun e H => H = [] ∧ e = .ret (.bool z_1)) := by
  unfold law15_GdefMay at h
  refine ACalls.goN Go.Proofs.Try.func15 n15 a15 Go.Proofs.Try.ntmps15 r15 (by simp) 0 rfl ?_
  generalize hQ : bodyA _ _ _ = QQ
  simp only [A15, go_sem, reduceIte, reduceCtorEq, Nat.reduceEqDiff, Nat.reduceLT, Nat.reduceLeDiff, Nat.reduceAdd, Nat.reduceSub, Nat.reduceMul, Int.reduceToNat, Int.reduceLE, Int.reduceLT, Int.reduceAdd, Int.reduceSub, Int.reduceMul, Int.reduceEq, Int.reduceNeg]
  refine ACalls.use0 alive15 rfl rfl ?_
  refine CallK_go (Nat.zero_le _) ?_
  simp only [go_sem, reduceIte, reduceCtorEq, Nat.reduceEqDiff, Nat.reduceLT, Nat.reduceLeDiff, Nat.reduceAdd, Nat.reduceSub, Nat.reduceMul, Int.reduceToNat, Int.reduceLE, Int.reduceLT, Int.reduceAdd, Int.reduceSub, Int.reduceMul, Int.reduceEq, Int.reduceNeg]
  by_cases h_1 : 1000 < (l_0.length : Int)
  · rw [if_pos h_1] at h
    have e_2 : (1000 < (l_0.length : Int)) = True := eq_true h_1
    simp only [e_2, go_sem, reduceIte, reduceCtorEq, Nat.reduceEqDiff, Nat.reduceLT, Nat.reduceLeDiff, Nat.reduceAdd, Nat.reduceSub, Nat.reduceMul, Int.reduceToNat, Int.reduceLE, Int.reduceLT, Int.reduceAdd, Int.reduceSub, Int.reduceMul, Int.reduceEq, Int.reduceNeg]
    have g_0 := Option.some.inj h
    subst g_0
    rw [← hQ]
    exact ⟨rfl, _, rfl, _, _, (RefV.out rfl), rfl, rfl⟩
  · rw [if_neg h_1] at h
    have e_2 : (1000 < (l_0.length : Int)) = False := eq_false h_1
    simp only [e_2, go_sem, reduceIte, reduceCtorEq, Nat.reduceEqDiff, Nat.reduceLT, Nat.reduceLeDiff, Nat.reduceAdd, Nat.reduceSub, Nat.reduceMul, Int.reduceToNat, Int.reduceLE, Int.reduceLT, Int.reduceAdd, Int.reduceSub, Int.reduceMul, Int.reduceEq, Int.reduceNeg]
    by_cases h_3 : 1000 < a_1
    · rw [if_pos h_3] at h
      have e_4 : (1000 < a_1) = True := eq_true h_3
      simp only [e_2, e_4, go_sem, reduceIte, reduceCtorEq, Nat.reduceEqDiff, Nat.reduceLT, Nat.reduceLeDiff, Nat.reduceAdd, Nat.reduceSub, Nat.reduceMul, Int.reduceToNat, Int.reduceLE, Int.reduceLT, Int.reduceAdd, Int.reduceSub, Int.reduceMul, Int.reduceEq, Int.reduceNeg]
      have g_0 := Option.some.inj h
      subst g_0
      rw [← hQ]
      exact ⟨rfl, _, rfl, _, _, (RefV.out rfl), rfl, rfl⟩
    · rw [if_neg h_3] at h
      have e_4 : (1000 < a_1) = False := eq_false h_3
      simp only [e_2, e_4, go_sem, reduceIte, reduceCtorEq, Nat.reduceEqDiff, Nat.reduceLT, Nat.reduceLeDiff, Nat.reduceAdd, Nat.reduceSub, Nat.reduceMul, Int.reduceToNat, Int.reduceLE, Int.reduceLT, Int.reduceAdd, Int.reduceSub, Int.reduceMul, Int.reduceEq, Int.reduceNeg]
      by_cases h_5 : a_1 < (-1000)
      · rw [if_pos h_5] at h
        have e_6 : (a_1 < (-1000)) = True := eq_true h_5
        simp only [e_2, e_4, e_6, go_sem, reduceIte, reduceCtorEq, Nat.reduceEqDiff, Nat.reduceLT, Nat.reduceLeDiff, Nat.reduceAdd, Nat.reduceSub, Nat.reduceMul, Int.reduceToNat, Int.reduceLE, Int.reduceLT, Int.reduceAdd, Int.reduceSub, Int.reduceMul, Int.reduceEq, Int.reduceNeg]
        have g_0 := Option.some.inj h
        subst g_0
        rw [← hQ]
        exact ⟨rfl, _, rfl, _, _, (RefV.out rfl), rfl, rfl⟩
      · rw [if_neg h_5] at h
        have e_6 : (a_1 < (-1000)) = False := eq_false h_5
        obtain ⟨⟨y_7, y_8⟩, h_9, h⟩ := bindS h
        try dsimp only at h
        simp only [e_2, e_4, e_6, go_sem, reduceIte, reduceCtorEq, Nat.reduceEqDiff, Nat.reduceLT, Nat.reduceLeDiff, Nat.reduceAdd, Nat.reduceSub, Nat.reduceMul, Int.reduceToNat, Int.reduceLE, Int.reduceLT, Int.reduceAdd, Int.reduceSub, Int.reduceMul, Int.reduceEq, Int.reduceNeg]
        refine ACalls.use0 (gdef_Codes_w N _ _ _ _ _ _ h_9) rfl rfl ?_
        refine CallK_go (Nat.zero_le _) ?_
        simp only [e_2, e_4, e_6, go_sem, reduceIte, reduceCtorEq, Nat.reduceEqDiff, Nat.reduceLT, Nat.reduceLeDiff, Nat.reduceAdd, Nat.reduceSub, Nat.reduceMul, Int.reduceToNat, Int.reduceLE, Int.reduceLT, Int.reduceAdd, Int.reduceSub, Int.reduceMul, Int.reduceEq, Int.reduceNeg]
        by_cases h_10 : y_8 = true
        · rw [if_pos h_10] at h
          have e_11 : y_8 = true := h_10
          simp only [e_2, e_4, e_6, e_11, go_sem, reduceIte, reduceCtorEq, Nat.reduceEqDiff, Nat.reduceLT, Nat.reduceLeDiff, Nat.reduceAdd, Nat.reduceSub, Nat.reduceMul, Int.reduceToNat, Int.reduceLE, Int.reduceLT, Int.reduceAdd, Int.reduceSub, Int.reduceMul, Int.reduceEq, Int.reduceNeg]
          obtain ⟨o_1013, h_1012, h⟩ := bindS h
          refine ALp.ref (Ref.out [2, 7, 9] rfl) (Nat.zero_le _) (law15_GdefMay_L1_w N _ _ N _ o_1013 h_1012 ?_)
          rcases o_1013 with _ | _
          · try dsimp only at h
            refine LoopK_go rfl (Nat.zero_le _) ?_
            simp only [e_2, e_4, e_6, e_11, go_sem, reduceIte, reduceCtorEq, Nat.reduceEqDiff, Nat.reduceLT, Nat.reduceLeDiff, Nat.reduceAdd, Nat.reduceSub, Nat.reduceMul, Int.reduceToNat, Int.reduceLE, Int.reduceLT, Int.reduceAdd, Int.reduceSub, Int.reduceMul, Int.reduceEq, Int.reduceNeg]
            have g_0 := Option.some.inj h
            subst g_0
            rw [← hQ]
            exact ⟨rfl, _, rfl, _, _, (RefV.out rfl), rfl, rfl⟩
          · try dsimp only at h
            refine LoopK_ret ?_
            have g_0 := Option.some.inj h
            subst g_0
            rw [← hQ]
            exact ⟨rfl, _, rfl, _, _, (RefV.out rfl), rfl, rfl⟩
        · rw [if_neg h_10] at h
          have e_11 : y_8 = false := bfalse h_10
          simp only [e_2, e_4, e_6, e_11, go_sem, reduceIte, reduceCtorEq, Nat.reduceEqDiff, Nat.reduceLT, Nat.reduceLeDiff, Nat.reduceAdd, Nat.reduceSub, Nat.reduceMul, Int.reduceToNat, Int.reduceLE, Int.reduceLT, Int.reduceAdd, Int.reduceSub, Int.reduceMul, Int.reduceEq, Int.reduceNeg]
          by_cases h_1014 : 0 < (y_7.length : Int)
          · rw [if_pos h_1014] at h
            have e_1015 : (0 < (y_7.length : Int)) = True := eq_true h_1014
            simp only [e_2, e_4, e_6, e_11, e_1015, go_sem, reduceIte, reduceCtorEq, Nat.reduceEqDiff, Nat.reduceLT, Nat.reduceLeDiff, Nat.reduceAdd, Nat.reduceSub, Nat.reduceMul, Int.reduceToNat, Int.reduceLE, Int.reduceLT, Int.reduceAdd, Int.reduceSub, Int.reduceMul, Int.reduceEq, Int.reduceNeg]
            have g_0 := Option.some.inj h
            subst g_0
            rw [← hQ]
            exact ⟨rfl, _, rfl, _, _, (RefV.out rfl), rfl, rfl⟩
          · rw [if_neg h_1014] at h
            have e_1015 : (0 < (y_7.length : Int)) = False := eq_false h_1014
            simp only [e_2, e_4, e_6, e_11, e_1015, go_sem, reduceIte, reduceCtorEq, Nat.reduceEqDiff, Nat.reduceLT, Nat.reduceLeDiff, Nat.reduceAdd, Nat.reduceSub, Nat.reduceMul, Int.reduceToNat, Int.reduceLE, Int.reduceLT, Int.reduceAdd, Int.reduceSub, Int.reduceMul, Int.reduceEq, Int.reduceNeg]
            obtain ⟨o_2017, h_2016, h⟩ := bindS h
            refine ALp.ref (Ref.out [2, 7, 9] rfl) (Nat.zero_le _) (law15_GdefMay_L1_w N _ _ N _ o_2017 h_2016 ?_)
            rcases o_2017 with _ | _
            · try dsimp only at h
              refine LoopK_go rfl (Nat.zero_le _) ?_
              simp only [e_2, e_4, e_6, e_11, e_1015, go_sem, reduceIte, reduceCtorEq, Nat.reduceEqDiff, Nat.reduceLT, Nat.reduceLeDiff, Nat.reduceAdd, Nat.reduceSub, Nat.reduceMul, Int.reduceToNat, Int.reduceLE, Int.reduceLT, Int.reduceAdd, Int.reduceSub, Int.reduceMul, Int.reduceEq, Int.reduceNeg]
              have g_0 := Option.some.inj h
              subst g_0
              rw [← hQ]
              exact ⟨rfl, _, rfl, _, _, (RefV.out rfl), rfl, rfl⟩
            · try dsimp only at h
              refine LoopK_ret ?_
              have g_0 := Option.some.inj h
              subst g_0
              rw [← hQ]
              exact ⟨rfl, _, rfl, _, _, (RefV.out rfl), rfl, rfl⟩
end Go.Proofs.Ytakplhfiohjcmaa.AI
