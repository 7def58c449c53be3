/- Walks: printed by a program (pw.py); each shows that a function answers what is told plainly. -/
import Derived.Test.YtakplhfiohjcmaagdP
import Derived.Test.YtakplhfiohjcmaagdA
set_option linter.unusedVariables false
set_option linter.unusedSimpArgs false
set_option maxRecDepth 100000
set_option maxHeartbeats 1000000
namespace Go.Proofs.Ytakplhfiohjcmaa.AI
open Go.Proofs (Try.prog)
def eTClass (x : TClass) : List AV := [.int .i64 x.From, .int .i64 x.To, .int .i64 x.Class]
theorem subs_eTClass (S : Sub) (l : List TClass) : (List.map eTClass l).map (subs S) = List.map eTClass l := subs_map S l eTClass (fun _ => rfl)
def eTGroup (x : TGroup) : List AV := [.int .i32 x.From, .int .i32 x.To, .int .i64 x.Glyph]
theorem subs_eTGroup (S : Sub) (l : List TGroup) : (List.map eTGroup l).map (subs S) = List.map eTGroup l := subs_map S l eTGroup (fun _ => rfl)
def eTSpan (x : TSpan) : List AV := [.int .i64 x.From, .int .i64 x.To]
theorem subs_eTSpan (S : Sub) (l : List TSpan) : (List.map eTSpan l).map (subs S) = List.map eTSpan l := subs_map S l eTSpan (fun _ => rfl)
def eLTSpan (x : List TSpan) : List AV := [.vec false (List.map eTSpan x)]
theorem subs_eLTSpan (S : Sub) (l : List (List TSpan)) : (List.map eLTSpan l).map (subs S) = List.map eLTSpan l := subs_map S l eLTSpan (fun _ => rfl)
def eTDef (x : TDef) : List AV := [.vec false (List.map eTClass x.Class), .vec false (List.map eTClass x.Attach), .vec false (List.map eLTSpan x.Sets)]
theorem subs_eTDef (S : Sub) (l : List TDef) : (List.map eTDef l).map (subs S) = List.map eTDef l := subs_map S l eTDef (fun _ => rfl)
attribute [local go_sem] subs_eTClass subs_eTGroup subs_eTSpan subs_eLTSpan subs_eTDef
def tab_alive15 : List (Nat × ACode × Nat × List RV) := [E18, E20, E26, E29, E42, E43, E46, E48, E49, E51, E53, E54, E55, E57, E58, E59, E60, E61, E70, E71, E72, E73, E75, E76, E77, E78, E79, E80, E91, E92]
theorem tab_alive15_ok : AllOk Go.Proofs.Try.prog tab_alive15 := ⟨e18, e20, e26, e29, e42, e43, e46, e48, e49, e51, e53, e54, e55, e57, e58, e59, e60, e61, e70, e71, e72, e73, e75, e76, e77, e78, e79, e80, e91, e92, trivial⟩
theorem alive15 : ACalls Go.Proofs.Try.prog 42 [] [] fun e H => H = [] ∧ e = .ret (.bool true) := ACalls.told (m := 300) (n := 20) tab_alive15_ok (by decide +kernel)
def B14_1 : ACode := match A14 with | (.seq _ (.seq _ (.seq _ (.seq (.seq _ (.block _ (.loop b))) _)))) => b | _ => .skip
def B14_2 : ACode := match A14 with | (.seq _ (.seq _ (.seq _ (.seq _ (.seq (.seq _ (.block _ (.loop b))) _))))) => b | _ => .skip
def B25_1 : ACode := match A25 with | (.seq _ (.seq (.seq _ (.block _ (.loop b))) _)) => b | _ => .skip
def B24_1 : ACode := match A24 with | (.seq _ (.seq (.seq _ (.block _ (.loop b))) _)) => b | _ => .skip
def B46_1 : ACode := match A46 with | (.seq _ (.seq (.seq _ (.block _ (.loop b))) _)) => b | _ => .skip
def B47_1 : ACode := match A47 with | (.seq _ (.seq (.seq _ (.block _ (.loop b))) _)) => b | _ => .skip
def B29_1 : ACode := match A29 with | (.seq _ (.seq (.seq _ (.block _ (.loop b))) _)) => b | _ => .skip
def B30_1 : ACode := match A30 with | (.seq _ (.seq (.seq _ (.block _ (.loop b))) _)) => b | _ => .skip
def B26_1 : ACode := match A26 with | (.seq _ (.seq _ (.seq (.seq _ (.block _ (.loop b))) _))) => b | _ => .skip
def B27_1 : ACode := match A27 with | (.seq _ (.seq _ (.seq _ (.seq (.seq _ (.block _ (.loop b))) _)))) => b | _ => .skip
theorem ref10_RightClasses_L1_w (N : Nat) (l_0 : List TClass) (c_0 : Bool) {R : AExit → ATm → List AObj → Prop} : ∀ (n : Nat) (i_1 : Int) (o : (Unit) ⊕ (Unit)), ref10_RightClasses_L1 N l_0 n i_1 = some o → (match o with | .inl _ => R (.exit 0) ⟨81, [(0, .vec c_0 (List.map eTClass l_0))], []⟩ [] | .inr (_) => R .ret ⟨81, [(2, .bool false)], []⟩ []) →
    ALp Go.Proofs.Try.prog 0 B25_1 ⟨81, [(0, .vec c_0 (List.map eTClass l_0)), (3, .int .i64 i_1)], []⟩ [] R := by
  intro n
  induction n with
  | zero =>
    intro i_1 o h _
    have h0 : none = some o := h
    cases h0
  | succ n ih =>
    intro i_1 o h hp
    rw [ref10_RightClasses_L1] at h
    refine ALp.round ?_
    generalize hQ : RoundQ _ _ _ _ = QQ
    simp only [B25_1, A25, go_sem, reduceIte, reduceCtorEq, Nat.reduceEqDiff, Nat.reduceLT, Nat.reduceLeDiff, Nat.reduceAdd, Nat.reduceSub, Nat.reduceMul, Int.reduceToNat, Int.reduceLE, Int.reduceLT, Int.reduceAdd, Int.reduceSub, Int.reduceMul, Int.reduceEq, Int.reduceNeg]
    by_cases h_2 : i_1 < (l_0.length : Int)
    · rw [if_pos h_2] at h
      have e_3 : (i_1 < (l_0.length : Int)) = True := eq_true h_2
      obtain ⟨x_4, h_5, h⟩ := bindS h
      have e_6 : (List.map eTClass l_0)[(i_1).toNat]? = some [.int .i64 x_4.From, .int .i64 x_4.To, .int .i64 x_4.Class] := atI_map eTClass h_5
      have e_7 : ((0 : Int) ≤ i_1) = True := eq_true (atI_some h_5).1
      have e_8 : ((i_1 : Int) < (l_0.length : Int)) = True := eq_true (atI_lt h_5)
      simp only [e_3, e_6, e_7, e_8, go_sem, reduceIte, reduceCtorEq, Nat.reduceEqDiff, Nat.reduceLT, Nat.reduceLeDiff, Nat.reduceAdd, Nat.reduceSub, Nat.reduceMul, Int.reduceToNat, Int.reduceLE, Int.reduceLT, Int.reduceAdd, Int.reduceSub, Int.reduceMul, Int.reduceEq, Int.reduceNeg]
      by_cases h_9 : x_4.From < 0
      · rw [if_pos h_9] at h
        have e_10 : (x_4.From < 0) = True := eq_true h_9
        simp only [e_3, e_6, e_7, e_8, e_10, go_sem, reduceIte, reduceCtorEq, Nat.reduceEqDiff, Nat.reduceLT, Nat.reduceLeDiff, Nat.reduceAdd, Nat.reduceSub, Nat.reduceMul, Int.reduceToNat, Int.reduceLE, Int.reduceLT, Int.reduceAdd, Int.reduceSub, Int.reduceMul, Int.reduceEq, Int.reduceNeg]
        have g := Option.some.inj h
        subst g
        rw [← hQ]
        exact ⟨_, _, (Ref.out [2] rfl), hp⟩
      · rw [if_neg h_9] at h
        have e_10 : (x_4.From < 0) = False := eq_false h_9
        simp only [e_3, e_6, e_7, e_8, e_10, go_sem, reduceIte, reduceCtorEq, Nat.reduceEqDiff, Nat.reduceLT, Nat.reduceLeDiff, Nat.reduceAdd, Nat.reduceSub, Nat.reduceMul, Int.reduceToNat, Int.reduceLE, Int.reduceLT, Int.reduceAdd, Int.reduceSub, Int.reduceMul, Int.reduceEq, Int.reduceNeg]
        by_cases h_11 : 65535 < x_4.To
        · rw [if_pos h_11] at h
          have e_12 : (65535 < x_4.To) = True := eq_true h_11
          simp only [e_3, e_6, e_7, e_8, e_10, e_12, go_sem, reduceIte, reduceCtorEq, Nat.reduceEqDiff, Nat.reduceLT, Nat.reduceLeDiff, Nat.reduceAdd, Nat.reduceSub, Nat.reduceMul, Int.reduceToNat, Int.reduceLE, Int.reduceLT, Int.reduceAdd, Int.reduceSub, Int.reduceMul, Int.reduceEq, Int.reduceNeg]
          have g := Option.some.inj h
          subst g
          rw [← hQ]
          exact ⟨_, _, (Ref.out [2] rfl), hp⟩
        · rw [if_neg h_11] at h
          have e_12 : (65535 < x_4.To) = False := eq_false h_11
          simp only [e_3, e_6, e_7, e_8, e_10, e_12, go_sem, reduceIte, reduceCtorEq, Nat.reduceEqDiff, Nat.reduceLT, Nat.reduceLeDiff, Nat.reduceAdd, Nat.reduceSub, Nat.reduceMul, Int.reduceToNat, Int.reduceLE, Int.reduceLT, Int.reduceAdd, Int.reduceSub, Int.reduceMul, Int.reduceEq, Int.reduceNeg]
          by_cases h_13 : x_4.To < x_4.From
          · rw [if_pos h_13] at h
            have e_14 : (x_4.To < x_4.From) = True := eq_true h_13
            simp only [e_3, e_6, e_7, e_8, e_10, e_12, e_14, go_sem, reduceIte, reduceCtorEq, Nat.reduceEqDiff, Nat.reduceLT, Nat.reduceLeDiff, Nat.reduceAdd, Nat.reduceSub, Nat.reduceMul, Int.reduceToNat, Int.reduceLE, Int.reduceLT, Int.reduceAdd, Int.reduceSub, Int.reduceMul, Int.reduceEq, Int.reduceNeg]
            have g := Option.some.inj h
            subst g
            rw [← hQ]
            exact ⟨_, _, (Ref.out [2] rfl), hp⟩
          · rw [if_neg h_13] at h
            have e_14 : (x_4.To < x_4.From) = False := eq_false h_13
            simp only [e_3, e_6, e_7, e_8, e_10, e_12, e_14, go_sem, reduceIte, reduceCtorEq, Nat.reduceEqDiff, Nat.reduceLT, Nat.reduceLeDiff, Nat.reduceAdd, Nat.reduceSub, Nat.reduceMul, Int.reduceToNat, Int.reduceLE, Int.reduceLT, Int.reduceAdd, Int.reduceSub, Int.reduceMul, Int.reduceEq, Int.reduceNeg]
            by_cases h_15 : x_4.Class < 1
            · rw [if_pos h_15] at h
              have e_16 : (x_4.Class < 1) = True := eq_true h_15
              simp only [e_3, e_6, e_7, e_8, e_10, e_12, e_14, e_16, go_sem, reduceIte, reduceCtorEq, Nat.reduceEqDiff, Nat.reduceLT, Nat.reduceLeDiff, Nat.reduceAdd, Nat.reduceSub, Nat.reduceMul, Int.reduceToNat, Int.reduceLE, Int.reduceLT, Int.reduceAdd, Int.reduceSub, Int.reduceMul, Int.reduceEq, Int.reduceNeg]
              have g := Option.some.inj h
              subst g
              rw [← hQ]
              exact ⟨_, _, (Ref.out [2] rfl), hp⟩
            · rw [if_neg h_15] at h
              have e_16 : (x_4.Class < 1) = False := eq_false h_15
              simp only [e_3, e_6, e_7, e_8, e_10, e_12, e_14, e_16, go_sem, reduceIte, reduceCtorEq, Nat.reduceEqDiff, Nat.reduceLT, Nat.reduceLeDiff, Nat.reduceAdd, Nat.reduceSub, Nat.reduceMul, Int.reduceToNat, Int.reduceLE, Int.reduceLT, Int.reduceAdd, Int.reduceSub, Int.reduceMul, Int.reduceEq, Int.reduceNeg]
              by_cases h_17 : 65535 < x_4.Class
              · rw [if_pos h_17] at h
                have e_18 : (65535 < x_4.Class) = True := eq_true h_17
                simp only [e_3, e_6, e_7, e_8, e_10, e_12, e_14, e_16, e_18, go_sem, reduceIte, reduceCtorEq, Nat.reduceEqDiff, Nat.reduceLT, Nat.reduceLeDiff, Nat.reduceAdd, Nat.reduceSub, Nat.reduceMul, Int.reduceToNat, Int.reduceLE, Int.reduceLT, Int.reduceAdd, Int.reduceSub, Int.reduceMul, Int.reduceEq, Int.reduceNeg]
                have g := Option.some.inj h
                subst g
                rw [← hQ]
                exact ⟨_, _, (Ref.out [2] rfl), hp⟩
              · rw [if_neg h_17] at h
                have e_18 : (65535 < x_4.Class) = False := eq_false h_17
                simp only [e_3, e_6, e_7, e_8, e_10, e_12, e_14, e_16, e_18, go_sem, reduceIte, reduceCtorEq, Nat.reduceEqDiff, Nat.reduceLT, Nat.reduceLeDiff, Nat.reduceAdd, Nat.reduceSub, Nat.reduceMul, Int.reduceToNat, Int.reduceLE, Int.reduceLT, Int.reduceAdd, Int.reduceSub, Int.reduceMul, Int.reduceEq, Int.reduceNeg]
                by_cases h_19 : 0 < i_1
                · rw [if_pos h_19] at h
                  have e_20 : (0 < i_1) = True := eq_true h_19
                  obtain ⟨x_21, h_22, h⟩ := bindS h
                  have e_23 : (List.map eTClass l_0)[(IntKind.i64.wrap (i_1 - 1)).toNat]? = some [.int .i64 x_21.From, .int .i64 x_21.To, .int .i64 x_21.Class] := atI_map eTClass h_22
                  have e_24 : ((0 : Int) ≤ IntKind.i64.wrap (i_1 - 1)) = True := eq_true (atI_some h_22).1
                  have e_25 : ((IntKind.i64.wrap (i_1 - 1) : Int) < (l_0.length : Int)) = True := eq_true (atI_lt h_22)
                  simp only [e_3, e_6, e_7, e_8, e_10, e_12, e_14, e_16, e_18, e_20, e_23, e_24, e_25, go_sem, reduceIte, reduceCtorEq, Nat.reduceEqDiff, Nat.reduceLT, Nat.reduceLeDiff, Nat.reduceAdd, Nat.reduceSub, Nat.reduceMul, Int.reduceToNat, Int.reduceLE, Int.reduceLT, Int.reduceAdd, Int.reduceSub, Int.reduceMul, Int.reduceEq, Int.reduceNeg]
                  by_cases h_26 : x_4.From ≤ x_21.To
                  · rw [if_pos h_26] at h
                    have e_27 : (x_4.From ≤ x_21.To) = True := eq_true h_26
                    simp only [e_3, e_6, e_7, e_8, e_10, e_12, e_14, e_16, e_18, e_20, e_23, e_24, e_25, e_27, go_sem, reduceIte, reduceCtorEq, Nat.reduceEqDiff, Nat.reduceLT, Nat.reduceLeDiff, Nat.reduceAdd, Nat.reduceSub, Nat.reduceMul, Int.reduceToNat, Int.reduceLE, Int.reduceLT, Int.reduceAdd, Int.reduceSub, Int.reduceMul, Int.reduceEq, Int.reduceNeg]
                    have g := Option.some.inj h
                    subst g
                    rw [← hQ]
                    exact ⟨_, _, (Ref.out [2] rfl), hp⟩
                  · rw [if_neg h_26] at h
                    have e_27 : (x_4.From ≤ x_21.To) = False := eq_false h_26
                    simp only [e_3, e_6, e_7, e_8, e_10, e_12, e_14, e_16, e_18, e_20, e_23, e_24, e_25, e_27, go_sem, reduceIte, reduceCtorEq, Nat.reduceEqDiff, Nat.reduceLT, Nat.reduceLeDiff, Nat.reduceAdd, Nat.reduceSub, Nat.reduceMul, Int.reduceToNat, Int.reduceLE, Int.reduceLT, Int.reduceAdd, Int.reduceSub, Int.reduceMul, Int.reduceEq, Int.reduceNeg]
                    by_cases h_28 : x_4.From = IntKind.i64.wrap (x_21.To + 1)
                    · rw [if_pos h_28] at h
                      have e_29 : (x_4.From = IntKind.i64.wrap (x_21.To + 1)) = True := eq_true h_28
                      simp only [e_3, e_6, e_7, e_8, e_10, e_12, e_14, e_16, e_18, e_20, e_23, e_24, e_25, e_27, e_29, go_sem, reduceIte, reduceCtorEq, Nat.reduceEqDiff, Nat.reduceLT, Nat.reduceLeDiff, Nat.reduceAdd, Nat.reduceSub, Nat.reduceMul, Int.reduceToNat, Int.reduceLE, Int.reduceLT, Int.reduceAdd, Int.reduceSub, Int.reduceMul, Int.reduceEq, Int.reduceNeg]
                      by_cases h_30 : x_4.Class = x_21.Class
                      · rw [if_pos h_30] at h
                        have e_31 : (x_4.Class = x_21.Class) = True := eq_true h_30
                        simp only [e_3, e_6, e_7, e_8, e_10, e_12, e_14, e_16, e_18, e_20, e_23, e_24, e_25, e_27, e_29, e_31, go_sem, reduceIte, reduceCtorEq, Nat.reduceEqDiff, Nat.reduceLT, Nat.reduceLeDiff, Nat.reduceAdd, Nat.reduceSub, Nat.reduceMul, Int.reduceToNat, Int.reduceLE, Int.reduceLT, Int.reduceAdd, Int.reduceSub, Int.reduceMul, Int.reduceEq, Int.reduceNeg]
                        have g := Option.some.inj h
                        subst g
                        rw [← hQ]
                        exact ⟨_, _, (Ref.out [2] rfl), hp⟩
                      · rw [if_neg h_30] at h
                        have e_31 : (x_4.Class = x_21.Class) = False := eq_false h_30
                        simp only [e_3, e_6, e_7, e_8, e_10, e_12, e_14, e_16, e_18, e_20, e_23, e_24, e_25, e_27, e_29, e_31, go_sem, reduceIte, reduceCtorEq, Nat.reduceEqDiff, Nat.reduceLT, Nat.reduceLeDiff, Nat.reduceAdd, Nat.reduceSub, Nat.reduceMul, Int.reduceToNat, Int.reduceLE, Int.reduceLT, Int.reduceAdd, Int.reduceSub, Int.reduceMul, Int.reduceEq, Int.reduceNeg]
                        rw [← hQ]
                        exact ⟨_, _, (Ref.out [0, 3] rfl), (Nat.zero_le _), ih _ _ h hp⟩
                    · rw [if_neg h_28] at h
                      have e_29 : (x_4.From = IntKind.i64.wrap (x_21.To + 1)) = False := eq_false h_28
                      simp only [e_3, e_6, e_7, e_8, e_10, e_12, e_14, e_16, e_18, e_20, e_23, e_24, e_25, e_27, e_29, go_sem, reduceIte, reduceCtorEq, Nat.reduceEqDiff, Nat.reduceLT, Nat.reduceLeDiff, Nat.reduceAdd, Nat.reduceSub, Nat.reduceMul, Int.reduceToNat, Int.reduceLE, Int.reduceLT, Int.reduceAdd, Int.reduceSub, Int.reduceMul, Int.reduceEq, Int.reduceNeg]
                      rw [← hQ]
                      exact ⟨_, _, (Ref.out [0, 3] rfl), (Nat.zero_le _), ih _ _ h hp⟩
                · rw [if_neg h_19] at h
                  have e_20 : (0 < i_1) = False := eq_false h_19
                  simp only [e_3, e_6, e_7, e_8, e_10, e_12, e_14, e_16, e_18, e_20, go_sem, reduceIte, reduceCtorEq, Nat.reduceEqDiff, Nat.reduceLT, Nat.reduceLeDiff, Nat.reduceAdd, Nat.reduceSub, Nat.reduceMul, Int.reduceToNat, Int.reduceLE, Int.reduceLT, Int.reduceAdd, Int.reduceSub, Int.reduceMul, Int.reduceEq, Int.reduceNeg]
                  rw [← hQ]
                  exact ⟨_, _, (Ref.out [0, 3] rfl), (Nat.zero_le _), ih _ _ h hp⟩
    · rw [if_neg h_2] at h
      have e_3 : (i_1 < (l_0.length : Int)) = False := eq_false h_2
      simp only [e_3, go_sem, reduceIte, reduceCtorEq, Nat.reduceEqDiff, Nat.reduceLT, Nat.reduceLeDiff, Nat.reduceAdd, Nat.reduceSub, Nat.reduceMul, Int.reduceToNat, Int.reduceLE, Int.reduceLT, Int.reduceAdd, Int.reduceSub, Int.reduceMul, Int.reduceEq, Int.reduceNeg]
      have g := Option.some.inj h
      subst g
      rw [← hQ]
      exact ⟨_, _, (Ref.out [0] rfl), hp⟩
theorem ref10_RightClasses_w (N : Nat) (l_0 : List TClass) (c_0 : Bool) (z_1 : Bool) (h : ref10_RightClasses N l_0 = some z_1) :
    ACalls Go.Proofs.Try.prog 25 [.vec c_0 (List.map eTClass l_0)] [] (fun e H => H = [] ∧ e = .ret (.bool z_1)) := by
  unfold ref10_RightClasses at h
  refine ACalls.goN Go.Proofs.Try.func25 n25 a25 Go.Proofs.Try.ntmps25 r25 (by simp) 0 rfl ?_
  generalize hQ : bodyA _ _ _ = QQ
  simp only [A25, go_sem, reduceIte, reduceCtorEq, Nat.reduceEqDiff, Nat.reduceLT, Nat.reduceLeDiff, Nat.reduceAdd, Nat.reduceSub, Nat.reduceMul, Int.reduceToNat, Int.reduceLE, Int.reduceLT, Int.reduceAdd, Int.reduceSub, Int.reduceMul, Int.reduceEq, Int.reduceNeg]
  obtain ⟨o_1002, h_1001, h⟩ := bindS h
  refine ALp.ref (Ref.out [0, 3] rfl) (Nat.zero_le _) (ref10_RightClasses_L1_w N _ c_0 N _ o_1002 h_1001 ?_)
  rcases o_1002 with _ | _
  · try dsimp only at h
    refine LoopK_go rfl (Nat.zero_le _) ?_
    simp only [go_sem, reduceIte, reduceCtorEq, Nat.reduceEqDiff, Nat.reduceLT, Nat.reduceLeDiff, Nat.reduceAdd, Nat.reduceSub, Nat.reduceMul, Int.reduceToNat, Int.reduceLE, Int.reduceLT, Int.reduceAdd, Int.reduceSub, Int.reduceMul, Int.reduceEq, Int.reduceNeg]
    have g_0 := Option.some.inj h
    subst g_0
    rw [← hQ]
    exact ⟨rfl, _, rfl, _, _, (RefV.out rfl), rfl, rfl⟩
  · try dsimp only at h
    refine LoopK_ret ?_
    have g_0 := Option.some.inj h
    subst g_0
    rw [← hQ]
    exact ⟨rfl, _, rfl, _, _, (RefV.out rfl), rfl, rfl⟩
theorem law15_GdefFinds_L1_w (N : Nat) (l_0 : List TGroup) (a_4 : Int) (a_5 : Int) (a_6 : Int) (l_1 : List TClass) (l_2 : List TClass) (l_3 : List (List TSpan)) (c_0 : Bool) (c_1 : Bool) (c_2 : Bool) (c_3 : Bool) {R : AExit → ATm → List AObj → Prop} : ∀ (n : Nat) (i_9 : Int) (o : (Unit) ⊕ (Unit)), law15_GdefFinds_L1 N l_0 a_4 a_5 a_6 l_1 l_2 l_3 n i_9 = some o → (match o with | .inl _ => R (.exit 0) ⟨131, [(0, .vec c_0 (List.map eTGroup l_0)), (2, .int .i32 a_4), (3, .int .i64 a_5), (4, .int .i64 a_6), (6, .ptr 0 0 0)], []⟩ [.box [.vec c_1 (List.map eTClass l_1), .vec c_2 (List.map eTClass l_2), .vec c_3 (List.map eLTSpan l_3)] 70] | .inr (_) => R .ret ⟨131, [(10, .bool true)], []⟩ []) →
    ALp Go.Proofs.Try.prog 0 B14_1 ⟨131, [(0, .vec c_0 (List.map eTGroup l_0)), (2, .int .i32 a_4), (3, .int .i64 a_5), (4, .int .i64 a_6), (6, .ptr 0 0 0), (11, .int .i64 i_9)], []⟩ [.box [.vec c_1 (List.map eTClass l_1), .vec c_2 (List.map eTClass l_2), .vec c_3 (List.map eLTSpan l_3)] 70] R := by
  intro n
  induction n with
  | zero =>
    intro i_9 o h _
    have h0 : none = some o := h
    cases h0
  | succ n ih =>
    intro i_9 o h hp
    rw [law15_GdefFinds_L1] at h
    refine ALp.round ?_
    generalize hQ : RoundQ _ _ _ _ = QQ
    simp only [B14_1, A14, go_sem, reduceIte, reduceCtorEq, Nat.reduceEqDiff, Nat.reduceLT, Nat.reduceLeDiff, Nat.reduceAdd, Nat.reduceSub, Nat.reduceMul, Int.reduceToNat, Int.reduceLE, Int.reduceLT, Int.reduceAdd, Int.reduceSub, Int.reduceMul, Int.reduceEq, Int.reduceNeg]
    by_cases h_10 : i_9 < (l_0.length : Int)
    · rw [if_pos h_10] at h
      have e_11 : (i_9 < (l_0.length : Int)) = True := eq_true h_10
      obtain ⟨x_12, h_13, h⟩ := bindS h
      have e_14 : (List.map eTGroup l_0)[(i_9).toNat]? = some [.int .i32 x_12.From, .int .i32 x_12.To, .int .i64 x_12.Glyph] := atI_map eTGroup h_13
      have e_15 : ((0 : Int) ≤ i_9) = True := eq_true (atI_some h_13).1
      have e_16 : ((i_9 : Int) < (l_0.length : Int)) = True := eq_true (atI_lt h_13)
      simp only [e_11, e_14, e_15, e_16, go_sem, reduceIte, reduceCtorEq, Nat.reduceEqDiff, Nat.reduceLT, Nat.reduceLeDiff, Nat.reduceAdd, Nat.reduceSub, Nat.reduceMul, Int.reduceToNat, Int.reduceLE, Int.reduceLT, Int.reduceAdd, Int.reduceSub, Int.reduceMul, Int.reduceEq, Int.reduceNeg]
      by_cases h_17 : x_12.Glyph < 0
      · rw [if_pos h_17] at h
        have e_18 : (x_12.Glyph < 0) = True := eq_true h_17
        simp only [e_11, e_14, e_15, e_16, e_18, go_sem, reduceIte, reduceCtorEq, Nat.reduceEqDiff, Nat.reduceLT, Nat.reduceLeDiff, Nat.reduceAdd, Nat.reduceSub, Nat.reduceMul, Int.reduceToNat, Int.reduceLE, Int.reduceLT, Int.reduceAdd, Int.reduceSub, Int.reduceMul, Int.reduceEq, Int.reduceNeg]
        have g := Option.some.inj h
        subst g
        rw [← hQ]
        exact ⟨_, _, (Ref.out [10] rfl), hp⟩
      · rw [if_neg h_17] at h
        have e_18 : (x_12.Glyph < 0) = False := eq_false h_17
        simp only [e_11, e_14, e_15, e_16, e_18, go_sem, reduceIte, reduceCtorEq, Nat.reduceEqDiff, Nat.reduceLT, Nat.reduceLeDiff, Nat.reduceAdd, Nat.reduceSub, Nat.reduceMul, Int.reduceToNat, Int.reduceLE, Int.reduceLT, Int.reduceAdd, Int.reduceSub, Int.reduceMul, Int.reduceEq, Int.reduceNeg]
        by_cases h_19 : 70000 < x_12.Glyph
        · rw [if_pos h_19] at h
          have e_20 : (70000 < x_12.Glyph) = True := eq_true h_19
          simp only [e_11, e_14, e_15, e_16, e_18, e_20, go_sem, reduceIte, reduceCtorEq, Nat.reduceEqDiff, Nat.reduceLT, Nat.reduceLeDiff, Nat.reduceAdd, Nat.reduceSub, Nat.reduceMul, Int.reduceToNat, Int.reduceLE, Int.reduceLT, Int.reduceAdd, Int.reduceSub, Int.reduceMul, Int.reduceEq, Int.reduceNeg]
          have g := Option.some.inj h
          subst g
          rw [← hQ]
          exact ⟨_, _, (Ref.out [10] rfl), hp⟩
        · rw [if_neg h_19] at h
          have e_20 : (70000 < x_12.Glyph) = False := eq_false h_19
          simp only [e_11, e_14, e_15, e_16, e_18, e_20, go_sem, reduceIte, reduceCtorEq, Nat.reduceEqDiff, Nat.reduceLT, Nat.reduceLeDiff, Nat.reduceAdd, Nat.reduceSub, Nat.reduceMul, Int.reduceToNat, Int.reduceLE, Int.reduceLT, Int.reduceAdd, Int.reduceSub, Int.reduceMul, Int.reduceEq, Int.reduceNeg]
          by_cases h_21 : x_12.To < x_12.From
          · rw [if_pos h_21] at h
            have e_22 : (x_12.To < x_12.From) = True := eq_true h_21
            simp only [e_11, e_14, e_15, e_16, e_18, e_20, e_22, go_sem, reduceIte, reduceCtorEq, Nat.reduceEqDiff, Nat.reduceLT, Nat.reduceLeDiff, Nat.reduceAdd, Nat.reduceSub, Nat.reduceMul, Int.reduceToNat, Int.reduceLE, Int.reduceLT, Int.reduceAdd, Int.reduceSub, Int.reduceMul, Int.reduceEq, Int.reduceNeg]
            have g := Option.some.inj h
            subst g
            rw [← hQ]
            exact ⟨_, _, (Ref.out [10] rfl), hp⟩
          · rw [if_neg h_21] at h
            have e_22 : (x_12.To < x_12.From) = False := eq_false h_21
            simp only [e_11, e_14, e_15, e_16, e_18, e_20, e_22, go_sem, reduceIte, reduceCtorEq, Nat.reduceEqDiff, Nat.reduceLT, Nat.reduceLeDiff, Nat.reduceAdd, Nat.reduceSub, Nat.reduceMul, Int.reduceToNat, Int.reduceLE, Int.reduceLT, Int.reduceAdd, Int.reduceSub, Int.reduceMul, Int.reduceEq, Int.reduceNeg]
            by_cases h_23 : x_12.From < 0
            · rw [if_pos h_23] at h
              have e_24 : (x_12.From < 0) = True := eq_true h_23
              simp only [e_11, e_14, e_15, e_16, e_18, e_20, e_22, e_24, go_sem, reduceIte, reduceCtorEq, Nat.reduceEqDiff, Nat.reduceLT, Nat.reduceLeDiff, Nat.reduceAdd, Nat.reduceSub, Nat.reduceMul, Int.reduceToNat, Int.reduceLE, Int.reduceLT, Int.reduceAdd, Int.reduceSub, Int.reduceMul, Int.reduceEq, Int.reduceNeg]
              have g := Option.some.inj h
              subst g
              rw [← hQ]
              exact ⟨_, _, (Ref.out [10] rfl), hp⟩
            · rw [if_neg h_23] at h
              have e_24 : (x_12.From < 0) = False := eq_false h_23
              simp only [e_11, e_14, e_15, e_16, e_18, e_20, e_22, e_24, go_sem, reduceIte, reduceCtorEq, Nat.reduceEqDiff, Nat.reduceLT, Nat.reduceLeDiff, Nat.reduceAdd, Nat.reduceSub, Nat.reduceMul, Int.reduceToNat, Int.reduceLE, Int.reduceLT, Int.reduceAdd, Int.reduceSub, Int.reduceMul, Int.reduceEq, Int.reduceNeg]
              by_cases h_25 : 0 < i_9
              · rw [if_pos h_25] at h
                have e_26 : (0 < i_9) = True := eq_true h_25
                obtain ⟨x_27, h_28, h⟩ := bindS h
                have e_29 : (List.map eTGroup l_0)[(IntKind.i64.wrap (i_9 - 1)).toNat]? = some [.int .i32 x_27.From, .int .i32 x_27.To, .int .i64 x_27.Glyph] := atI_map eTGroup h_28
                have e_30 : ((0 : Int) ≤ IntKind.i64.wrap (i_9 - 1)) = True := eq_true (atI_some h_28).1
                have e_31 : ((IntKind.i64.wrap (i_9 - 1) : Int) < (l_0.length : Int)) = True := eq_true (atI_lt h_28)
                simp only [e_11, e_14, e_15, e_16, e_18, e_20, e_22, e_24, e_26, e_29, e_30, e_31, go_sem, reduceIte, reduceCtorEq, Nat.reduceEqDiff, Nat.reduceLT, Nat.reduceLeDiff, Nat.reduceAdd, Nat.reduceSub, Nat.reduceMul, Int.reduceToNat, Int.reduceLE, Int.reduceLT, Int.reduceAdd, Int.reduceSub, Int.reduceMul, Int.reduceEq, Int.reduceNeg]
                by_cases h_32 : x_12.From ≤ x_27.To
                · rw [if_pos h_32] at h
                  have e_33 : (x_12.From ≤ x_27.To) = True := eq_true h_32
                  simp only [e_11, e_14, e_15, e_16, e_18, e_20, e_22, e_24, e_26, e_29, e_30, e_31, e_33, go_sem, reduceIte, reduceCtorEq, Nat.reduceEqDiff, Nat.reduceLT, Nat.reduceLeDiff, Nat.reduceAdd, Nat.reduceSub, Nat.reduceMul, Int.reduceToNat, Int.reduceLE, Int.reduceLT, Int.reduceAdd, Int.reduceSub, Int.reduceMul, Int.reduceEq, Int.reduceNeg]
                  have g := Option.some.inj h
                  subst g
                  rw [← hQ]
                  exact ⟨_, _, (Ref.out [10] rfl), hp⟩
                · rw [if_neg h_32] at h
                  have e_33 : (x_12.From ≤ x_27.To) = False := eq_false h_32
                  simp only [e_11, e_14, e_15, e_16, e_18, e_20, e_22, e_24, e_26, e_29, e_30, e_31, e_33, go_sem, reduceIte, reduceCtorEq, Nat.reduceEqDiff, Nat.reduceLT, Nat.reduceLeDiff, Nat.reduceAdd, Nat.reduceSub, Nat.reduceMul, Int.reduceToNat, Int.reduceLE, Int.reduceLT, Int.reduceAdd, Int.reduceSub, Int.reduceMul, Int.reduceEq, Int.reduceNeg]
                  rw [← hQ]
                  exact ⟨_, _, (Ref.std [0, 2, 3, 4, 6, 11] [0] (by decide) low0 rfl rfl), (Nat.zero_le _), ih _ _ h hp⟩
              · rw [if_neg h_25] at h
                have e_26 : (0 < i_9) = False := eq_false h_25
                simp only [e_11, e_14, e_15, e_16, e_18, e_20, e_22, e_24, e_26, go_sem, reduceIte, reduceCtorEq, Nat.reduceEqDiff, Nat.reduceLT, Nat.reduceLeDiff, Nat.reduceAdd, Nat.reduceSub, Nat.reduceMul, Int.reduceToNat, Int.reduceLE, Int.reduceLT, Int.reduceAdd, Int.reduceSub, Int.reduceMul, Int.reduceEq, Int.reduceNeg]
                rw [← hQ]
                exact ⟨_, _, (Ref.std [0, 2, 3, 4, 6, 11] [0] (by decide) low0 rfl rfl), (Nat.zero_le _), ih _ _ h hp⟩
    · rw [if_neg h_10] at h
      have e_11 : (i_9 < (l_0.length : Int)) = False := eq_false h_10
      simp only [e_11, go_sem, reduceIte, reduceCtorEq, Nat.reduceEqDiff, Nat.reduceLT, Nat.reduceLeDiff, Nat.reduceAdd, Nat.reduceSub, Nat.reduceMul, Int.reduceToNat, Int.reduceLE, Int.reduceLT, Int.reduceAdd, Int.reduceSub, Int.reduceMul, Int.reduceEq, Int.reduceNeg]
      have g := Option.some.inj h
      subst g
      rw [← hQ]
      exact ⟨_, _, (Ref.std [0, 2, 3, 4, 6] [0] (by decide) low0 rfl rfl), hp⟩
theorem ref10_Right_L1_w (N : Nat) (l_0 : List TSpan) (c_0 : Bool) {R : AExit → ATm → List AObj → Prop} : ∀ (n : Nat) (i_1 : Int) (o : (Unit) ⊕ (Unit)), ref10_Right_L1 N l_0 n i_1 = some o → (match o with | .inl _ => R (.exit 0) ⟨59, [(0, .vec c_0 (List.map eTSpan l_0))], []⟩ [] | .inr (_) => R .ret ⟨59, [(2, .bool false)], []⟩ []) →
    ALp Go.Proofs.Try.prog 0 B24_1 ⟨59, [(0, .vec c_0 (List.map eTSpan l_0)), (3, .int .i64 i_1)], []⟩ [] R := by
  intro n
  induction n with
  | zero =>
    intro i_1 o h _
    have h0 : none = some o := h
    cases h0
  | succ n ih =>
    intro i_1 o h hp
    rw [ref10_Right_L1] at h
    refine ALp.round ?_
    generalize hQ : RoundQ _ _ _ _ = QQ
    simp only [B24_1, A24, go_sem, reduceIte, reduceCtorEq, Nat.reduceEqDiff, Nat.reduceLT, Nat.reduceLeDiff, Nat.reduceAdd, Nat.reduceSub, Nat.reduceMul, Int.reduceToNat, Int.reduceLE, Int.reduceLT, Int.reduceAdd, Int.reduceSub, Int.reduceMul, Int.reduceEq, Int.reduceNeg]
    by_cases h_2 : i_1 < (l_0.length : Int)
    · rw [if_pos h_2] at h
      have e_3 : (i_1 < (l_0.length : Int)) = True := eq_true h_2
      obtain ⟨x_4, h_5, h⟩ := bindS h
      have e_6 : (List.map eTSpan l_0)[(i_1).toNat]? = some [.int .i64 x_4.From, .int .i64 x_4.To] := atI_map eTSpan h_5
      have e_7 : ((0 : Int) ≤ i_1) = True := eq_true (atI_some h_5).1
      have e_8 : ((i_1 : Int) < (l_0.length : Int)) = True := eq_true (atI_lt h_5)
      simp only [e_3, e_6, e_7, e_8, go_sem, reduceIte, reduceCtorEq, Nat.reduceEqDiff, Nat.reduceLT, Nat.reduceLeDiff, Nat.reduceAdd, Nat.reduceSub, Nat.reduceMul, Int.reduceToNat, Int.reduceLE, Int.reduceLT, Int.reduceAdd, Int.reduceSub, Int.reduceMul, Int.reduceEq, Int.reduceNeg]
      by_cases h_9 : x_4.From < 0
      · rw [if_pos h_9] at h
        have e_10 : (x_4.From < 0) = True := eq_true h_9
        simp only [e_3, e_6, e_7, e_8, e_10, go_sem, reduceIte, reduceCtorEq, Nat.reduceEqDiff, Nat.reduceLT, Nat.reduceLeDiff, Nat.reduceAdd, Nat.reduceSub, Nat.reduceMul, Int.reduceToNat, Int.reduceLE, Int.reduceLT, Int.reduceAdd, Int.reduceSub, Int.reduceMul, Int.reduceEq, Int.reduceNeg]
        have g := Option.some.inj h
        subst g
        rw [← hQ]
        exact ⟨_, _, (Ref.out [2] rfl), hp⟩
      · rw [if_neg h_9] at h
        have e_10 : (x_4.From < 0) = False := eq_false h_9
        simp only [e_3, e_6, e_7, e_8, e_10, go_sem, reduceIte, reduceCtorEq, Nat.reduceEqDiff, Nat.reduceLT, Nat.reduceLeDiff, Nat.reduceAdd, Nat.reduceSub, Nat.reduceMul, Int.reduceToNat, Int.reduceLE, Int.reduceLT, Int.reduceAdd, Int.reduceSub, Int.reduceMul, Int.reduceEq, Int.reduceNeg]
        by_cases h_11 : 65535 < x_4.To
        · rw [if_pos h_11] at h
          have e_12 : (65535 < x_4.To) = True := eq_true h_11
          simp only [e_3, e_6, e_7, e_8, e_10, e_12, go_sem, reduceIte, reduceCtorEq, Nat.reduceEqDiff, Nat.reduceLT, Nat.reduceLeDiff, Nat.reduceAdd, Nat.reduceSub, Nat.reduceMul, Int.reduceToNat, Int.reduceLE, Int.reduceLT, Int.reduceAdd, Int.reduceSub, Int.reduceMul, Int.reduceEq, Int.reduceNeg]
          have g := Option.some.inj h
          subst g
          rw [← hQ]
          exact ⟨_, _, (Ref.out [2] rfl), hp⟩
        · rw [if_neg h_11] at h
          have e_12 : (65535 < x_4.To) = False := eq_false h_11
          simp only [e_3, e_6, e_7, e_8, e_10, e_12, go_sem, reduceIte, reduceCtorEq, Nat.reduceEqDiff, Nat.reduceLT, Nat.reduceLeDiff, Nat.reduceAdd, Nat.reduceSub, Nat.reduceMul, Int.reduceToNat, Int.reduceLE, Int.reduceLT, Int.reduceAdd, Int.reduceSub, Int.reduceMul, Int.reduceEq, Int.reduceNeg]
          by_cases h_13 : x_4.To < x_4.From
          · rw [if_pos h_13] at h
            have e_14 : (x_4.To < x_4.From) = True := eq_true h_13
            simp only [e_3, e_6, e_7, e_8, e_10, e_12, e_14, go_sem, reduceIte, reduceCtorEq, Nat.reduceEqDiff, Nat.reduceLT, Nat.reduceLeDiff, Nat.reduceAdd, Nat.reduceSub, Nat.reduceMul, Int.reduceToNat, Int.reduceLE, Int.reduceLT, Int.reduceAdd, Int.reduceSub, Int.reduceMul, Int.reduceEq, Int.reduceNeg]
            have g := Option.some.inj h
            subst g
            rw [← hQ]
            exact ⟨_, _, (Ref.out [2] rfl), hp⟩
          · rw [if_neg h_13] at h
            have e_14 : (x_4.To < x_4.From) = False := eq_false h_13
            simp only [e_3, e_6, e_7, e_8, e_10, e_12, e_14, go_sem, reduceIte, reduceCtorEq, Nat.reduceEqDiff, Nat.reduceLT, Nat.reduceLeDiff, Nat.reduceAdd, Nat.reduceSub, Nat.reduceMul, Int.reduceToNat, Int.reduceLE, Int.reduceLT, Int.reduceAdd, Int.reduceSub, Int.reduceMul, Int.reduceEq, Int.reduceNeg]
            by_cases h_15 : 0 < i_1
            · rw [if_pos h_15] at h
              have e_16 : (0 < i_1) = True := eq_true h_15
              obtain ⟨x_17, h_18, h⟩ := bindS h
              have e_19 : (List.map eTSpan l_0)[(IntKind.i64.wrap (i_1 - 1)).toNat]? = some [.int .i64 x_17.From, .int .i64 x_17.To] := atI_map eTSpan h_18
              have e_20 : ((0 : Int) ≤ IntKind.i64.wrap (i_1 - 1)) = True := eq_true (atI_some h_18).1
              have e_21 : ((IntKind.i64.wrap (i_1 - 1) : Int) < (l_0.length : Int)) = True := eq_true (atI_lt h_18)
              simp only [e_3, e_6, e_7, e_8, e_10, e_12, e_14, e_16, e_19, e_20, e_21, go_sem, reduceIte, reduceCtorEq, Nat.reduceEqDiff, Nat.reduceLT, Nat.reduceLeDiff, Nat.reduceAdd, Nat.reduceSub, Nat.reduceMul, Int.reduceToNat, Int.reduceLE, Int.reduceLT, Int.reduceAdd, Int.reduceSub, Int.reduceMul, Int.reduceEq, Int.reduceNeg]
              by_cases h_22 : IntKind.i64.wrap (x_4.From - 1) ≤ x_17.To
              · rw [if_pos h_22] at h
                have e_23 : (IntKind.i64.wrap (x_4.From - 1) ≤ x_17.To) = True := eq_true h_22
                simp only [e_3, e_6, e_7, e_8, e_10, e_12, e_14, e_16, e_19, e_20, e_21, e_23, go_sem, reduceIte, reduceCtorEq, Nat.reduceEqDiff, Nat.reduceLT, Nat.reduceLeDiff, Nat.reduceAdd, Nat.reduceSub, Nat.reduceMul, Int.reduceToNat, Int.reduceLE, Int.reduceLT, Int.reduceAdd, Int.reduceSub, Int.reduceMul, Int.reduceEq, Int.reduceNeg]
                have g := Option.some.inj h
                subst g
                rw [← hQ]
                exact ⟨_, _, (Ref.out [2] rfl), hp⟩
              · rw [if_neg h_22] at h
                have e_23 : (IntKind.i64.wrap (x_4.From - 1) ≤ x_17.To) = False := eq_false h_22
                simp only [e_3, e_6, e_7, e_8, e_10, e_12, e_14, e_16, e_19, e_20, e_21, e_23, go_sem, reduceIte, reduceCtorEq, Nat.reduceEqDiff, Nat.reduceLT, Nat.reduceLeDiff, Nat.reduceAdd, Nat.reduceSub, Nat.reduceMul, Int.reduceToNat, Int.reduceLE, Int.reduceLT, Int.reduceAdd, Int.reduceSub, Int.reduceMul, Int.reduceEq, Int.reduceNeg]
                rw [← hQ]
                exact ⟨_, _, (Ref.out [0, 3] rfl), (Nat.zero_le _), ih _ _ h hp⟩
            · rw [if_neg h_15] at h
              have e_16 : (0 < i_1) = False := eq_false h_15
              simp only [e_3, e_6, e_7, e_8, e_10, e_12, e_14, e_16, go_sem, reduceIte, reduceCtorEq, Nat.reduceEqDiff, Nat.reduceLT, Nat.reduceLeDiff, Nat.reduceAdd, Nat.reduceSub, Nat.reduceMul, Int.reduceToNat, Int.reduceLE, Int.reduceLT, Int.reduceAdd, Int.reduceSub, Int.reduceMul, Int.reduceEq, Int.reduceNeg]
              rw [← hQ]
              exact ⟨_, _, (Ref.out [0, 3] rfl), (Nat.zero_le _), ih _ _ h hp⟩
    · rw [if_neg h_2] at h
      have e_3 : (i_1 < (l_0.length : Int)) = False := eq_false h_2
      simp only [e_3, go_sem, reduceIte, reduceCtorEq, Nat.reduceEqDiff, Nat.reduceLT, Nat.reduceLeDiff, Nat.reduceAdd, Nat.reduceSub, Nat.reduceMul, Int.reduceToNat, Int.reduceLE, Int.reduceLT, Int.reduceAdd, Int.reduceSub, Int.reduceMul, Int.reduceEq, Int.reduceNeg]
      have g := Option.some.inj h
      subst g
      rw [← hQ]
      exact ⟨_, _, (Ref.out [0] rfl), hp⟩
theorem ref10_Right_w (N : Nat) (l_0 : List TSpan) (c_0 : Bool) (z_1 : Bool) (h : ref10_Right N l_0 = some z_1) :
    ACalls Go.Proofs.Try.prog 24 [.vec c_0 (List.map eTSpan l_0)] [] (fun e H => H = [] ∧ e = .ret (.bool z_1)) := by
  unfold ref10_Right at h
  refine ACalls.goN Go.Proofs.Try.func24 n24 a24 Go.Proofs.Try.ntmps24 r24 (by simp) 0 rfl ?_
  generalize hQ : bodyA _ _ _ = QQ
  simp only [A24, go_sem, reduceIte, reduceCtorEq, Nat.reduceEqDiff, Nat.reduceLT, Nat.reduceLeDiff, Nat.reduceAdd, Nat.reduceSub, Nat.reduceMul, Int.reduceToNat, Int.reduceLE, Int.reduceLT, Int.reduceAdd, Int.reduceSub, Int.reduceMul, Int.reduceEq, Int.reduceNeg]
  obtain ⟨o_1002, h_1001, h⟩ := bindS h
  refine ALp.ref (Ref.out [0, 3] rfl) (Nat.zero_le _) (ref10_Right_L1_w N _ c_0 N _ o_1002 h_1001 ?_)
  rcases o_1002 with _ | _
  · try dsimp only at h
    refine LoopK_go rfl (Nat.zero_le _) ?_
    simp only [go_sem, reduceIte, reduceCtorEq, Nat.reduceEqDiff, Nat.reduceLT, Nat.reduceLeDiff, Nat.reduceAdd, Nat.reduceSub, Nat.reduceMul, Int.reduceToNat, Int.reduceLE, Int.reduceLT, Int.reduceAdd, Int.reduceSub, Int.reduceMul, Int.reduceEq, Int.reduceNeg]
    have g_0 := Option.some.inj h
    subst g_0
    rw [← hQ]
    exact ⟨rfl, _, rfl, _, _, (RefV.out rfl), rfl, rfl⟩
  · try dsimp only at h
    refine LoopK_ret ?_
    have g_0 := Option.some.inj h
    subst g_0
    rw [← hQ]
    exact ⟨rfl, _, rfl, _, _, (RefV.out rfl), rfl, rfl⟩
theorem law15_GdefFinds_L2_w (N : Nat) (l_0 : List TGroup) (a_4 : Int) (a_5 : Int) (a_6 : Int) (l_1 : List TClass) (l_2 : List TClass) (l_3 : List (List TSpan)) (c_0 : Bool) (c_1 : Bool) (c_2 : Bool) (c_3 : Bool) {R : AExit → ATm → List AObj → Prop} : ∀ (n : Nat) (i_1011 : Int) (o : (Unit) ⊕ (Unit)), law15_GdefFinds_L2 N l_0 a_4 a_5 a_6 l_1 l_2 l_3 n i_1011 = some o → (match o with | .inl _ => R (.exit 2) ⟨131, [(0, .vec c_0 (List.map eTGroup l_0)), (2, .int .i32 a_4), (3, .int .i64 a_5), (4, .int .i64 a_6), (6, .ptr 0 0 0)], []⟩ [.box [.vec c_1 (List.map eTClass l_1), .vec c_2 (List.map eTClass l_2), .vec c_3 (List.map eLTSpan l_3)] 70] | .inr (_) => R .ret ⟨131, [(10, .bool true)], []⟩ []) →
    ALp Go.Proofs.Try.prog 0 B14_2 ⟨131, [(0, .vec c_0 (List.map eTGroup l_0)), (2, .int .i32 a_4), (3, .int .i64 a_5), (4, .int .i64 a_6), (6, .ptr 0 0 0), (12, .int .i64 i_1011)], []⟩ [.box [.vec c_1 (List.map eTClass l_1), .vec c_2 (List.map eTClass l_2), .vec c_3 (List.map eLTSpan l_3)] 70] R := by
  intro n
  induction n with
  | zero =>
    intro i_1011 o h _
    have h0 : none = some o := h
    cases h0
  | succ n ih =>
    intro i_1011 o h hp
    rw [law15_GdefFinds_L2] at h
    refine ALp.round ?_
    generalize hQ : RoundQ _ _ _ _ = QQ
    simp only [B14_2, A14, go_sem, reduceIte, reduceCtorEq, Nat.reduceEqDiff, Nat.reduceLT, Nat.reduceLeDiff, Nat.reduceAdd, Nat.reduceSub, Nat.reduceMul, Int.reduceToNat, Int.reduceLE, Int.reduceLT, Int.reduceAdd, Int.reduceSub, Int.reduceMul, Int.reduceEq, Int.reduceNeg]
    by_cases h_1012 : i_1011 < (l_3.length : Int)
    · rw [if_pos h_1012] at h
      have e_1013 : (i_1011 < (l_3.length : Int)) = True := eq_true h_1012
      obtain ⟨x_1014, h_1015, h⟩ := bindS h
      have e_1016 : (List.map eLTSpan l_3)[(i_1011).toNat]? = some [.vec false (List.map eTSpan x_1014)] := atI_map eLTSpan h_1015
      have e_1017 : ((0 : Int) ≤ i_1011) = True := eq_true (atI_some h_1015).1
      have e_1018 : ((i_1011 : Int) < (l_3.length : Int)) = True := eq_true (atI_lt h_1015)
      obtain ⟨y_1019, h_1020, h⟩ := bindS h
      simp only [e_1013, e_1016, e_1017, e_1018, go_sem, reduceIte, reduceCtorEq, Nat.reduceEqDiff, Nat.reduceLT, Nat.reduceLeDiff, Nat.reduceAdd, Nat.reduceSub, Nat.reduceMul, Int.reduceToNat, Int.reduceLE, Int.reduceLT, Int.reduceAdd, Int.reduceSub, Int.reduceMul, Int.reduceEq, Int.reduceNeg]
      refine ACalls.use0 (ref10_Right_w N _ _ _ h_1020) rfl rfl ?_
      refine CallK_go (Nat.zero_le _) ?_
      simp only [e_1013, e_1016, e_1017, e_1018, go_sem, reduceIte, reduceCtorEq, Nat.reduceEqDiff, Nat.reduceLT, Nat.reduceLeDiff, Nat.reduceAdd, Nat.reduceSub, Nat.reduceMul, Int.reduceToNat, Int.reduceLE, Int.reduceLT, Int.reduceAdd, Int.reduceSub, Int.reduceMul, Int.reduceEq, Int.reduceNeg]
      by_cases h_1021 : y_1019 = true
      · rw [if_pos h_1021] at h
        have e_1022 : y_1019 = true := h_1021
        simp only [e_1013, e_1016, e_1017, e_1018, e_1022, go_sem, reduceIte, reduceCtorEq, Nat.reduceEqDiff, Nat.reduceLT, Nat.reduceLeDiff, Nat.reduceAdd, Nat.reduceSub, Nat.reduceMul, Int.reduceToNat, Int.reduceLE, Int.reduceLT, Int.reduceAdd, Int.reduceSub, Int.reduceMul, Int.reduceEq, Int.reduceNeg]
        rw [← hQ]
        exact ⟨_, _, (Ref.std [0, 2, 3, 4, 6, 12] [0] (by decide) low0 rfl rfl), (Nat.zero_le _), ih _ _ h hp⟩
      · rw [if_neg h_1021] at h
        have e_1022 : y_1019 = false := bfalse h_1021
        simp only [e_1013, e_1016, e_1017, e_1018, e_1022, go_sem, reduceIte, reduceCtorEq, Nat.reduceEqDiff, Nat.reduceLT, Nat.reduceLeDiff, Nat.reduceAdd, Nat.reduceSub, Nat.reduceMul, Int.reduceToNat, Int.reduceLE, Int.reduceLT, Int.reduceAdd, Int.reduceSub, Int.reduceMul, Int.reduceEq, Int.reduceNeg]
        have g := Option.some.inj h
        subst g
        rw [← hQ]
        exact ⟨_, _, (Ref.out [10] rfl), hp⟩
    · rw [if_neg h_1012] at h
      have e_1013 : (i_1011 < (l_3.length : Int)) = False := eq_false h_1012
      simp only [e_1013, go_sem, reduceIte, reduceCtorEq, Nat.reduceEqDiff, Nat.reduceLT, Nat.reduceLeDiff, Nat.reduceAdd, Nat.reduceSub, Nat.reduceMul, Int.reduceToNat, Int.reduceLE, Int.reduceLT, Int.reduceAdd, Int.reduceSub, Int.reduceMul, Int.reduceEq, Int.reduceNeg]
      have g := Option.some.inj h
      subst g
      rw [← hQ]
      exact ⟨_, _, (Ref.std [0, 2, 3, 4, 6] [0] (by decide) low0 rfl rfl), hp⟩
theorem gdef_Glyph_L1_w (N : Nat) (a_1 : Int) (l_0 : List TGroup) (c_0 : Bool) {R : AExit → ATm → List AObj → Prop} : ∀ (n : Nat) (i_1 : Int) (o : (Unit) ⊕ (Int)), gdef_Glyph_L1 N a_1 l_0 n i_1 = some o → (match o with | .inl _ => R (.exit 0) ⟨32, [], []⟩ [] | .inr (z_1) => R .ret ⟨32, [(4, .int .i64 z_1)], []⟩ []) →
    ALp Go.Proofs.Try.prog 0 B46_1 ⟨32, [(1, .int .i32 a_1), (7, .vec c_0 (List.map eTGroup l_0)), (8, .int .i64 (l_0.length : Int)), (9, .int .i64 i_1)], []⟩ [] R := by
  intro n
  induction n with
  | zero =>
    intro i_1 o h _
    have h0 : none = some o := h
    cases h0
  | succ n ih =>
    intro i_1 o h hp
    rw [gdef_Glyph_L1] at h
    refine ALp.round ?_
    generalize hQ : RoundQ _ _ _ _ = QQ
    simp only [B46_1, A46, go_sem, reduceIte, reduceCtorEq, Nat.reduceEqDiff, Nat.reduceLT, Nat.reduceLeDiff, Nat.reduceAdd, Nat.reduceSub, Nat.reduceMul, Int.reduceToNat, Int.reduceLE, Int.reduceLT, Int.reduceAdd, Int.reduceSub, Int.reduceMul, Int.reduceEq, Int.reduceNeg]
    by_cases h_2 : i_1 < (l_0.length : Int)
    · rw [if_pos h_2] at h
      have e_3 : (i_1 < (l_0.length : Int)) = True := eq_true h_2
      obtain ⟨x_4, h_5, h⟩ := bindS h
      have e_6 : (List.map eTGroup l_0)[(i_1).toNat]? = some [.int .i32 x_4.From, .int .i32 x_4.To, .int .i64 x_4.Glyph] := atI_map eTGroup h_5
      have e_7 : ((0 : Int) ≤ i_1) = True := eq_true (atI_some h_5).1
      have e_8 : ((i_1 : Int) < (l_0.length : Int)) = True := eq_true (atI_lt h_5)
      simp only [e_3, e_6, e_7, e_8, go_sem, reduceIte, reduceCtorEq, Nat.reduceEqDiff, Nat.reduceLT, Nat.reduceLeDiff, Nat.reduceAdd, Nat.reduceSub, Nat.reduceMul, Int.reduceToNat, Int.reduceLE, Int.reduceLT, Int.reduceAdd, Int.reduceSub, Int.reduceMul, Int.reduceEq, Int.reduceNeg]
      by_cases h_9 : x_4.From ≤ a_1
      · rw [if_pos h_9] at h
        have e_10 : (x_4.From ≤ a_1) = True := eq_true h_9
        simp only [e_3, e_6, e_7, e_8, e_10, go_sem, reduceIte, reduceCtorEq, Nat.reduceEqDiff, Nat.reduceLT, Nat.reduceLeDiff, Nat.reduceAdd, Nat.reduceSub, Nat.reduceMul, Int.reduceToNat, Int.reduceLE, Int.reduceLT, Int.reduceAdd, Int.reduceSub, Int.reduceMul, Int.reduceEq, Int.reduceNeg]
        by_cases h_11 : a_1 ≤ x_4.To
        · rw [if_pos h_11] at h
          have e_12 : (a_1 ≤ x_4.To) = True := eq_true h_11
          simp only [e_3, e_6, e_7, e_8, e_10, e_12, go_sem, reduceIte, reduceCtorEq, Nat.reduceEqDiff, Nat.reduceLT, Nat.reduceLeDiff, Nat.reduceAdd, Nat.reduceSub, Nat.reduceMul, Int.reduceToNat, Int.reduceLE, Int.reduceLT, Int.reduceAdd, Int.reduceSub, Int.reduceMul, Int.reduceEq, Int.reduceNeg]
          have g := Option.some.inj h
          subst g
          rw [← hQ]
          exact ⟨_, _, (Ref.out [4] rfl), hp⟩
        · rw [if_neg h_11] at h
          have e_12 : (a_1 ≤ x_4.To) = False := eq_false h_11
          simp only [e_3, e_6, e_7, e_8, e_10, e_12, go_sem, reduceIte, reduceCtorEq, Nat.reduceEqDiff, Nat.reduceLT, Nat.reduceLeDiff, Nat.reduceAdd, Nat.reduceSub, Nat.reduceMul, Int.reduceToNat, Int.reduceLE, Int.reduceLT, Int.reduceAdd, Int.reduceSub, Int.reduceMul, Int.reduceEq, Int.reduceNeg]
          rw [← hQ]
          exact ⟨_, _, (Ref.out [1, 7, 8, 9] rfl), (Nat.zero_le _), ih _ _ h hp⟩
      · rw [if_neg h_9] at h
        have e_10 : (x_4.From ≤ a_1) = False := eq_false h_9
        simp only [e_3, e_6, e_7, e_8, e_10, go_sem, reduceIte, reduceCtorEq, Nat.reduceEqDiff, Nat.reduceLT, Nat.reduceLeDiff, Nat.reduceAdd, Nat.reduceSub, Nat.reduceMul, Int.reduceToNat, Int.reduceLE, Int.reduceLT, Int.reduceAdd, Int.reduceSub, Int.reduceMul, Int.reduceEq, Int.reduceNeg]
        rw [← hQ]
        exact ⟨_, _, (Ref.out [1, 7, 8, 9] rfl), (Nat.zero_le _), ih _ _ h hp⟩
    · rw [if_neg h_2] at h
      have e_3 : (i_1 < (l_0.length : Int)) = False := eq_false h_2
      simp only [e_3, go_sem, reduceIte, reduceCtorEq, Nat.reduceEqDiff, Nat.reduceLT, Nat.reduceLeDiff, Nat.reduceAdd, Nat.reduceSub, Nat.reduceMul, Int.reduceToNat, Int.reduceLE, Int.reduceLT, Int.reduceAdd, Int.reduceSub, Int.reduceMul, Int.reduceEq, Int.reduceNeg]
      have g := Option.some.inj h
      subst g
      rw [← hQ]
      exact ⟨_, _, (Ref.out [] rfl), hp⟩
theorem gdef_Glyph_w (N : Nat) (l_0 : List TGroup) (a_1 : Int) (c_0 : Bool) (z_1 : Int) (h : gdef_Glyph N l_0 a_1 = some z_1) :
    ACalls Go.Proofs.Try.prog 46 [.vec c_0 (List.map eTGroup l_0), .int .i32 a_1] [] (fun e H => H = [] ∧ e = .ret (.int .i64 z_1)) := by
  unfold gdef_Glyph at h
  refine ACalls.goN Go.Proofs.Try.func46 n46 a46 Go.Proofs.Try.ntmps46 r46 (by simp) 0 rfl ?_
  generalize hQ : bodyA _ _ _ = QQ
  simp only [A46, go_sem, reduceIte, reduceCtorEq, Nat.reduceEqDiff, Nat.reduceLT, Nat.reduceLeDiff, Nat.reduceAdd, Nat.reduceSub, Nat.reduceMul, Int.reduceToNat, Int.reduceLE, Int.reduceLT, Int.reduceAdd, Int.reduceSub, Int.reduceMul, Int.reduceEq, Int.reduceNeg]
  obtain ⟨o_1003, h_1001, h⟩ := bindS h
  refine ALp.ref (Ref.out [1, 7, 8, 9] rfl) (Nat.zero_le _) (gdef_Glyph_L1_w N _ _ c_0 N _ o_1003 h_1001 ?_)
  rcases o_1003 with _ | y_1002
  · try dsimp only at h
    refine LoopK_go rfl (Nat.zero_le _) ?_
    simp only [go_sem, reduceIte, reduceCtorEq, Nat.reduceEqDiff, Nat.reduceLT, Nat.reduceLeDiff, Nat.reduceAdd, Nat.reduceSub, Nat.reduceMul, Int.reduceToNat, Int.reduceLE, Int.reduceLT, Int.reduceAdd, Int.reduceSub, Int.reduceMul, Int.reduceEq, Int.reduceNeg]
    have g_0 := Option.some.inj h
    subst g_0
    rw [← hQ]
    exact ⟨rfl, _, rfl, _, _, (RefV.out rfl), rfl, rfl⟩
  · try dsimp only at h
    refine LoopK_ret ?_
    have g_0 := Option.some.inj h
    subst g_0
    rw [← hQ]
    exact ⟨rfl, _, rfl, _, _, (RefV.out rfl), rfl, rfl⟩
theorem ref15_Glyph_L1_w (N : Nat) (l_0 : List TGroup) (a_1 : Int) (c_0 : Bool) {R : AExit → ATm → List AObj → Prop} : ∀ (n : Nat) (i_1 : Int) (o : (Unit) ⊕ (Int)), ref15_Glyph_L1 N l_0 a_1 n i_1 = some o → (match o with | .inl _ => R (.exit 0) ⟨43, [], []⟩ [] | .inr (z_1) => R .ret ⟨43, [(4, .int .i64 z_1)], []⟩ []) →
    ALp Go.Proofs.Try.prog 0 B47_1 ⟨43, [(0, .vec c_0 (List.map eTGroup l_0)), (1, .int .i32 a_1), (5, .int .i64 i_1)], []⟩ [] R := by
  intro n
  induction n with
  | zero =>
    intro i_1 o h _
    have h0 : none = some o := h
    cases h0
  | succ n ih =>
    intro i_1 o h hp
    rw [ref15_Glyph_L1] at h
    refine ALp.round ?_
    generalize hQ : RoundQ _ _ _ _ = QQ
    simp only [B47_1, A47, go_sem, reduceIte, reduceCtorEq, Nat.reduceEqDiff, Nat.reduceLT, Nat.reduceLeDiff, Nat.reduceAdd, Nat.reduceSub, Nat.reduceMul, Int.reduceToNat, Int.reduceLE, Int.reduceLT, Int.reduceAdd, Int.reduceSub, Int.reduceMul, Int.reduceEq, Int.reduceNeg]
    by_cases h_2 : i_1 < (l_0.length : Int)
    · rw [if_pos h_2] at h
      have e_3 : (i_1 < (l_0.length : Int)) = True := eq_true h_2
      obtain ⟨x_4, h_5, h⟩ := bindS h
      have e_6 : (List.map eTGroup l_0)[(i_1).toNat]? = some [.int .i32 x_4.From, .int .i32 x_4.To, .int .i64 x_4.Glyph] := atI_map eTGroup h_5
      have e_7 : ((0 : Int) ≤ i_1) = True := eq_true (atI_some h_5).1
      have e_8 : ((i_1 : Int) < (l_0.length : Int)) = True := eq_true (atI_lt h_5)
      simp only [e_3, e_6, e_7, e_8, go_sem, reduceIte, reduceCtorEq, Nat.reduceEqDiff, Nat.reduceLT, Nat.reduceLeDiff, Nat.reduceAdd, Nat.reduceSub, Nat.reduceMul, Int.reduceToNat, Int.reduceLE, Int.reduceLT, Int.reduceAdd, Int.reduceSub, Int.reduceMul, Int.reduceEq, Int.reduceNeg]
      by_cases h_9 : x_4.From ≤ a_1
      · rw [if_pos h_9] at h
        have e_10 : (x_4.From ≤ a_1) = True := eq_true h_9
        simp only [e_3, e_6, e_7, e_8, e_10, go_sem, reduceIte, reduceCtorEq, Nat.reduceEqDiff, Nat.reduceLT, Nat.reduceLeDiff, Nat.reduceAdd, Nat.reduceSub, Nat.reduceMul, Int.reduceToNat, Int.reduceLE, Int.reduceLT, Int.reduceAdd, Int.reduceSub, Int.reduceMul, Int.reduceEq, Int.reduceNeg]
        by_cases h_11 : a_1 ≤ x_4.To
        · rw [if_pos h_11] at h
          have e_12 : (a_1 ≤ x_4.To) = True := eq_true h_11
          simp only [e_3, e_6, e_7, e_8, e_10, e_12, go_sem, reduceIte, reduceCtorEq, Nat.reduceEqDiff, Nat.reduceLT, Nat.reduceLeDiff, Nat.reduceAdd, Nat.reduceSub, Nat.reduceMul, Int.reduceToNat, Int.reduceLE, Int.reduceLT, Int.reduceAdd, Int.reduceSub, Int.reduceMul, Int.reduceEq, Int.reduceNeg]
          have g := Option.some.inj h
          subst g
          rw [← hQ]
          exact ⟨_, _, (Ref.out [4] rfl), hp⟩
        · rw [if_neg h_11] at h
          have e_12 : (a_1 ≤ x_4.To) = False := eq_false h_11
          simp only [e_3, e_6, e_7, e_8, e_10, e_12, go_sem, reduceIte, reduceCtorEq, Nat.reduceEqDiff, Nat.reduceLT, Nat.reduceLeDiff, Nat.reduceAdd, Nat.reduceSub, Nat.reduceMul, Int.reduceToNat, Int.reduceLE, Int.reduceLT, Int.reduceAdd, Int.reduceSub, Int.reduceMul, Int.reduceEq, Int.reduceNeg]
          rw [← hQ]
          exact ⟨_, _, (Ref.out [0, 1, 5] rfl), (Nat.zero_le _), ih _ _ h hp⟩
      · rw [if_neg h_9] at h
        have e_10 : (x_4.From ≤ a_1) = False := eq_false h_9
        simp only [e_3, e_6, e_7, e_8, e_10, go_sem, reduceIte, reduceCtorEq, Nat.reduceEqDiff, Nat.reduceLT, Nat.reduceLeDiff, Nat.reduceAdd, Nat.reduceSub, Nat.reduceMul, Int.reduceToNat, Int.reduceLE, Int.reduceLT, Int.reduceAdd, Int.reduceSub, Int.reduceMul, Int.reduceEq, Int.reduceNeg]
        rw [← hQ]
        exact ⟨_, _, (Ref.out [0, 1, 5] rfl), (Nat.zero_le _), ih _ _ h hp⟩
    · rw [if_neg h_2] at h
      have e_3 : (i_1 < (l_0.length : Int)) = False := eq_false h_2
      simp only [e_3, go_sem, reduceIte, reduceCtorEq, Nat.reduceEqDiff, Nat.reduceLT, Nat.reduceLeDiff, Nat.reduceAdd, Nat.reduceSub, Nat.reduceMul, Int.reduceToNat, Int.reduceLE, Int.reduceLT, Int.reduceAdd, Int.reduceSub, Int.reduceMul, Int.reduceEq, Int.reduceNeg]
      have g := Option.some.inj h
      subst g
      rw [← hQ]
      exact ⟨_, _, (Ref.out [] rfl), hp⟩
theorem ref15_Glyph_w (N : Nat) (l_0 : List TGroup) (a_1 : Int) (c_0 : Bool) (z_1 : Int) (h : ref15_Glyph N l_0 a_1 = some z_1) :
    ACalls Go.Proofs.Try.prog 47 [.vec c_0 (List.map eTGroup l_0), .int .i32 a_1] [] (fun e H => H = [] ∧ e = .ret (.int .i64 z_1)) := by
  unfold ref15_Glyph at h
  refine ACalls.goN Go.Proofs.Try.func47 n47 a47 Go.Proofs.Try.ntmps47 r47 (by simp) 0 rfl ?_
  generalize hQ : bodyA _ _ _ = QQ
  simp only [A47, go_sem, reduceIte, reduceCtorEq, Nat.reduceEqDiff, Nat.reduceLT, Nat.reduceLeDiff, Nat.reduceAdd, Nat.reduceSub, Nat.reduceMul, Int.reduceToNat, Int.reduceLE, Int.reduceLT, Int.reduceAdd, Int.reduceSub, Int.reduceMul, Int.reduceEq, Int.reduceNeg]
  obtain ⟨o_1003, h_1001, h⟩ := bindS h
  refine ALp.ref (Ref.out [0, 1, 5] rfl) (Nat.zero_le _) (ref15_Glyph_L1_w N _ _ c_0 N _ o_1003 h_1001 ?_)
  rcases o_1003 with _ | y_1002
  · try dsimp only at h
    refine LoopK_go rfl (Nat.zero_le _) ?_
    simp only [go_sem, reduceIte, reduceCtorEq, Nat.reduceEqDiff, Nat.reduceLT, Nat.reduceLeDiff, Nat.reduceAdd, Nat.reduceSub, Nat.reduceMul, Int.reduceToNat, Int.reduceLE, Int.reduceLT, Int.reduceAdd, Int.reduceSub, Int.reduceMul, Int.reduceEq, Int.reduceNeg]
    have g_0 := Option.some.inj h
    subst g_0
    rw [← hQ]
    exact ⟨rfl, _, rfl, _, _, (RefV.out rfl), rfl, rfl⟩
  · try dsimp only at h
    refine LoopK_ret ?_
    have g_0 := Option.some.inj h
    subst g_0
    rw [← hQ]
    exact ⟨rfl, _, rfl, _, _, (RefV.out rfl), rfl, rfl⟩
theorem cover_Of_L1_w (N : Nat) (a_1 : Int) (l_0 : List TClass) (c_0 : Bool) {R : AExit → ATm → List AObj → Prop} : ∀ (n : Nat) (i_1 : Int) (o : (Unit) ⊕ (Int)), cover_Of_L1 N a_1 l_0 n i_1 = some o → (match o with | .inl _ => R (.exit 0) ⟨26, [], []⟩ [] | .inr (z_1) => R .ret ⟨26, [(4, .int .i64 z_1)], []⟩ []) →
    ALp Go.Proofs.Try.prog 0 B29_1 ⟨26, [(1, .int .i64 a_1), (7, .vec c_0 (List.map eTClass l_0)), (8, .int .i64 (l_0.length : Int)), (9, .int .i64 i_1)], []⟩ [] R := by
  intro n
  induction n with
  | zero =>
    intro i_1 o h _
    have h0 : none = some o := h
    cases h0
  | succ n ih =>
    intro i_1 o h hp
    rw [cover_Of_L1] at h
    refine ALp.round ?_
    generalize hQ : RoundQ _ _ _ _ = QQ
    simp only [B29_1, A29, go_sem, reduceIte, reduceCtorEq, Nat.reduceEqDiff, Nat.reduceLT, Nat.reduceLeDiff, Nat.reduceAdd, Nat.reduceSub, Nat.reduceMul, Int.reduceToNat, Int.reduceLE, Int.reduceLT, Int.reduceAdd, Int.reduceSub, Int.reduceMul, Int.reduceEq, Int.reduceNeg]
    by_cases h_2 : i_1 < (l_0.length : Int)
    · rw [if_pos h_2] at h
      have e_3 : (i_1 < (l_0.length : Int)) = True := eq_true h_2
      obtain ⟨x_4, h_5, h⟩ := bindS h
      have e_6 : (List.map eTClass l_0)[(i_1).toNat]? = some [.int .i64 x_4.From, .int .i64 x_4.To, .int .i64 x_4.Class] := atI_map eTClass h_5
      have e_7 : ((0 : Int) ≤ i_1) = True := eq_true (atI_some h_5).1
      have e_8 : ((i_1 : Int) < (l_0.length : Int)) = True := eq_true (atI_lt h_5)
      simp only [e_3, e_6, e_7, e_8, go_sem, reduceIte, reduceCtorEq, Nat.reduceEqDiff, Nat.reduceLT, Nat.reduceLeDiff, Nat.reduceAdd, Nat.reduceSub, Nat.reduceMul, Int.reduceToNat, Int.reduceLE, Int.reduceLT, Int.reduceAdd, Int.reduceSub, Int.reduceMul, Int.reduceEq, Int.reduceNeg]
      by_cases h_9 : x_4.From ≤ a_1
      · rw [if_pos h_9] at h
        have e_10 : (x_4.From ≤ a_1) = True := eq_true h_9
        simp only [e_3, e_6, e_7, e_8, e_10, go_sem, reduceIte, reduceCtorEq, Nat.reduceEqDiff, Nat.reduceLT, Nat.reduceLeDiff, Nat.reduceAdd, Nat.reduceSub, Nat.reduceMul, Int.reduceToNat, Int.reduceLE, Int.reduceLT, Int.reduceAdd, Int.reduceSub, Int.reduceMul, Int.reduceEq, Int.reduceNeg]
        by_cases h_11 : a_1 ≤ x_4.To
        · rw [if_pos h_11] at h
          have e_12 : (a_1 ≤ x_4.To) = True := eq_true h_11
          simp only [e_3, e_6, e_7, e_8, e_10, e_12, go_sem, reduceIte, reduceCtorEq, Nat.reduceEqDiff, Nat.reduceLT, Nat.reduceLeDiff, Nat.reduceAdd, Nat.reduceSub, Nat.reduceMul, Int.reduceToNat, Int.reduceLE, Int.reduceLT, Int.reduceAdd, Int.reduceSub, Int.reduceMul, Int.reduceEq, Int.reduceNeg]
          have g := Option.some.inj h
          subst g
          rw [← hQ]
          exact ⟨_, _, (Ref.out [4] rfl), hp⟩
        · rw [if_neg h_11] at h
          have e_12 : (a_1 ≤ x_4.To) = False := eq_false h_11
          simp only [e_3, e_6, e_7, e_8, e_10, e_12, go_sem, reduceIte, reduceCtorEq, Nat.reduceEqDiff, Nat.reduceLT, Nat.reduceLeDiff, Nat.reduceAdd, Nat.reduceSub, Nat.reduceMul, Int.reduceToNat, Int.reduceLE, Int.reduceLT, Int.reduceAdd, Int.reduceSub, Int.reduceMul, Int.reduceEq, Int.reduceNeg]
          rw [← hQ]
          exact ⟨_, _, (Ref.out [1, 7, 8, 9] rfl), (Nat.zero_le _), ih _ _ h hp⟩
      · rw [if_neg h_9] at h
        have e_10 : (x_4.From ≤ a_1) = False := eq_false h_9
        simp only [e_3, e_6, e_7, e_8, e_10, go_sem, reduceIte, reduceCtorEq, Nat.reduceEqDiff, Nat.reduceLT, Nat.reduceLeDiff, Nat.reduceAdd, Nat.reduceSub, Nat.reduceMul, Int.reduceToNat, Int.reduceLE, Int.reduceLT, Int.reduceAdd, Int.reduceSub, Int.reduceMul, Int.reduceEq, Int.reduceNeg]
        rw [← hQ]
        exact ⟨_, _, (Ref.out [1, 7, 8, 9] rfl), (Nat.zero_le _), ih _ _ h hp⟩
    · rw [if_neg h_2] at h
      have e_3 : (i_1 < (l_0.length : Int)) = False := eq_false h_2
      simp only [e_3, go_sem, reduceIte, reduceCtorEq, Nat.reduceEqDiff, Nat.reduceLT, Nat.reduceLeDiff, Nat.reduceAdd, Nat.reduceSub, Nat.reduceMul, Int.reduceToNat, Int.reduceLE, Int.reduceLT, Int.reduceAdd, Int.reduceSub, Int.reduceMul, Int.reduceEq, Int.reduceNeg]
      have g := Option.some.inj h
      subst g
      rw [← hQ]
      exact ⟨_, _, (Ref.out [] rfl), hp⟩
theorem cover_Of_w (N : Nat) (l_0 : List TClass) (a_1 : Int) (c_0 : Bool) (z_1 : Int) (h : cover_Of N l_0 a_1 = some z_1) :
    ACalls Go.Proofs.Try.prog 29 [.vec c_0 (List.map eTClass l_0), .int .i64 a_1] [] (fun e H => H = [] ∧ e = .ret (.int .i64 z_1)) := by
  unfold cover_Of at h
  refine ACalls.goN Go.Proofs.Try.func29 n29 a29 Go.Proofs.Try.ntmps29 r29 (by simp) 0 rfl ?_
  generalize hQ : bodyA _ _ _ = QQ
  simp only [A29, go_sem, reduceIte, reduceCtorEq, Nat.reduceEqDiff, Nat.reduceLT, Nat.reduceLeDiff, Nat.reduceAdd, Nat.reduceSub, Nat.reduceMul, Int.reduceToNat, Int.reduceLE, Int.reduceLT, Int.reduceAdd, Int.reduceSub, Int.reduceMul, Int.reduceEq, Int.reduceNeg]
  obtain ⟨o_1003, h_1001, h⟩ := bindS h
  refine ALp.ref (Ref.out [1, 7, 8, 9] rfl) (Nat.zero_le _) (cover_Of_L1_w N _ _ c_0 N _ o_1003 h_1001 ?_)
  rcases o_1003 with _ | y_1002
  · try dsimp only at h
    refine LoopK_go rfl (Nat.zero_le _) ?_
    simp only [go_sem, reduceIte, reduceCtorEq, Nat.reduceEqDiff, Nat.reduceLT, Nat.reduceLeDiff, Nat.reduceAdd, Nat.reduceSub, Nat.reduceMul, Int.reduceToNat, Int.reduceLE, Int.reduceLT, Int.reduceAdd, Int.reduceSub, Int.reduceMul, Int.reduceEq, Int.reduceNeg]
    have g_0 := Option.some.inj h
    subst g_0
    rw [← hQ]
    exact ⟨rfl, _, rfl, _, _, (RefV.out rfl), rfl, rfl⟩
  · try dsimp only at h
    refine LoopK_ret ?_
    have g_0 := Option.some.inj h
    subst g_0
    rw [← hQ]
    exact ⟨rfl, _, rfl, _, _, (RefV.out rfl), rfl, rfl⟩
theorem gdef_Class_w (N : Nat) (l_0 : List TClass) (l_1 : List TClass) (l_2 : List (List TSpan)) (a_3 : Int) (c_0 : Bool) (c_1 : Bool) (c_2 : Bool) (z_1 : Int) (h : gdef_Class N l_0 l_1 l_2 a_3 = some z_1) :
    ACalls Go.Proofs.Try.prog 48 [.agg [.vec c_0 (List.map eTClass l_0), .vec c_1 (List.map eTClass l_1), .vec c_2 (List.map eLTSpan l_2)], .int .i64 a_3] [] (fun e H => H = [] ∧ e = .ret (.int .i64 z_1)) := by
  unfold gdef_Class at h
  refine ACalls.goN Go.Proofs.Try.func48 n48 a48 Go.Proofs.Try.ntmps48 r48 (by simp) 0 rfl ?_
  generalize hQ : bodyA _ _ _ = QQ
  obtain ⟨y_1, h_2, h⟩ := bindS h
  simp only [A48, go_sem, reduceIte, reduceCtorEq, Nat.reduceEqDiff, Nat.reduceLT, Nat.reduceLeDiff, Nat.reduceAdd, Nat.reduceSub, Nat.reduceMul, Int.reduceToNat, Int.reduceLE, Int.reduceLT, Int.reduceAdd, Int.reduceSub, Int.reduceMul, Int.reduceEq, Int.reduceNeg]
  refine ACalls.use0 (cover_Of_w N _ _ _ _ h_2) rfl rfl ?_
  refine CallK_go (Nat.zero_le _) ?_
  simp only [go_sem, reduceIte, reduceCtorEq, Nat.reduceEqDiff, Nat.reduceLT, Nat.reduceLeDiff, Nat.reduceAdd, Nat.reduceSub, Nat.reduceMul, Int.reduceToNat, Int.reduceLE, Int.reduceLT, Int.reduceAdd, Int.reduceSub, Int.reduceMul, Int.reduceEq, Int.reduceNeg]
  have g_0 := Option.some.inj h
  subst g_0
  rw [← hQ]
  exact ⟨rfl, _, rfl, _, _, (RefV.out rfl), rfl, rfl⟩
theorem ref10_Of_L1_w (N : Nat) (l_0 : List TClass) (a_1 : Int) (c_0 : Bool) {R : AExit → ATm → List AObj → Prop} : ∀ (n : Nat) (i_1 : Int) (o : (Unit) ⊕ (Int)), ref10_Of_L1 N l_0 a_1 n i_1 = some o → (match o with | .inl _ => R (.exit 0) ⟨33, [], []⟩ [] | .inr (z_1) => R .ret ⟨33, [(4, .int .i64 z_1)], []⟩ []) →
    ALp Go.Proofs.Try.prog 0 B30_1 ⟨33, [(0, .vec c_0 (List.map eTClass l_0)), (1, .int .i64 a_1), (5, .int .i64 i_1)], []⟩ [] R := by
  intro n
  induction n with
  | zero =>
    intro i_1 o h _
    have h0 : none = some o := h
    cases h0
  | succ n ih =>
    intro i_1 o h hp
    rw [ref10_Of_L1] at h
    refine ALp.round ?_
    generalize hQ : RoundQ _ _ _ _ = QQ
    simp only [B30_1, A30, go_sem, reduceIte, reduceCtorEq, Nat.reduceEqDiff, Nat.reduceLT, Nat.reduceLeDiff, Nat.reduceAdd, Nat.reduceSub, Nat.reduceMul, Int.reduceToNat, Int.reduceLE, Int.reduceLT, Int.reduceAdd, Int.reduceSub, Int.reduceMul, Int.reduceEq, Int.reduceNeg]
    by_cases h_2 : i_1 < (l_0.length : Int)
    · rw [if_pos h_2] at h
      have e_3 : (i_1 < (l_0.length : Int)) = True := eq_true h_2
      obtain ⟨x_4, h_5, h⟩ := bindS h
      have e_6 : (List.map eTClass l_0)[(i_1).toNat]? = some [.int .i64 x_4.From, .int .i64 x_4.To, .int .i64 x_4.Class] := atI_map eTClass h_5
      have e_7 : ((0 : Int) ≤ i_1) = True := eq_true (atI_some h_5).1
      have e_8 : ((i_1 : Int) < (l_0.length : Int)) = True := eq_true (atI_lt h_5)
      simp only [e_3, e_6, e_7, e_8, go_sem, reduceIte, reduceCtorEq, Nat.reduceEqDiff, Nat.reduceLT, Nat.reduceLeDiff, Nat.reduceAdd, Nat.reduceSub, Nat.reduceMul, Int.reduceToNat, Int.reduceLE, Int.reduceLT, Int.reduceAdd, Int.reduceSub, Int.reduceMul, Int.reduceEq, Int.reduceNeg]
      by_cases h_9 : x_4.From ≤ a_1
      · rw [if_pos h_9] at h
        have e_10 : (x_4.From ≤ a_1) = True := eq_true h_9
        simp only [e_3, e_6, e_7, e_8, e_10, go_sem, reduceIte, reduceCtorEq, Nat.reduceEqDiff, Nat.reduceLT, Nat.reduceLeDiff, Nat.reduceAdd, Nat.reduceSub, Nat.reduceMul, Int.reduceToNat, Int.reduceLE, Int.reduceLT, Int.reduceAdd, Int.reduceSub, Int.reduceMul, Int.reduceEq, Int.reduceNeg]
        by_cases h_11 : a_1 ≤ x_4.To
        · rw [if_pos h_11] at h
          have e_12 : (a_1 ≤ x_4.To) = True := eq_true h_11
          simp only [e_3, e_6, e_7, e_8, e_10, e_12, go_sem, reduceIte, reduceCtorEq, Nat.reduceEqDiff, Nat.reduceLT, Nat.reduceLeDiff, Nat.reduceAdd, Nat.reduceSub, Nat.reduceMul, Int.reduceToNat, Int.reduceLE, Int.reduceLT, Int.reduceAdd, Int.reduceSub, Int.reduceMul, Int.reduceEq, Int.reduceNeg]
          have g := Option.some.inj h
          subst g
          rw [← hQ]
          exact ⟨_, _, (Ref.out [4] rfl), hp⟩
        · rw [if_neg h_11] at h
          have e_12 : (a_1 ≤ x_4.To) = False := eq_false h_11
          simp only [e_3, e_6, e_7, e_8, e_10, e_12, go_sem, reduceIte, reduceCtorEq, Nat.reduceEqDiff, Nat.reduceLT, Nat.reduceLeDiff, Nat.reduceAdd, Nat.reduceSub, Nat.reduceMul, Int.reduceToNat, Int.reduceLE, Int.reduceLT, Int.reduceAdd, Int.reduceSub, Int.reduceMul, Int.reduceEq, Int.reduceNeg]
          rw [← hQ]
          exact ⟨_, _, (Ref.out [0, 1, 5] rfl), (Nat.zero_le _), ih _ _ h hp⟩
      · rw [if_neg h_9] at h
        have e_10 : (x_4.From ≤ a_1) = False := eq_false h_9
        simp only [e_3, e_6, e_7, e_8, e_10, go_sem, reduceIte, reduceCtorEq, Nat.reduceEqDiff, Nat.reduceLT, Nat.reduceLeDiff, Nat.reduceAdd, Nat.reduceSub, Nat.reduceMul, Int.reduceToNat, Int.reduceLE, Int.reduceLT, Int.reduceAdd, Int.reduceSub, Int.reduceMul, Int.reduceEq, Int.reduceNeg]
        rw [← hQ]
        exact ⟨_, _, (Ref.out [0, 1, 5] rfl), (Nat.zero_le _), ih _ _ h hp⟩
    · rw [if_neg h_2] at h
      have e_3 : (i_1 < (l_0.length : Int)) = False := eq_false h_2
      simp only [e_3, go_sem, reduceIte, reduceCtorEq, Nat.reduceEqDiff, Nat.reduceLT, Nat.reduceLeDiff, Nat.reduceAdd, Nat.reduceSub, Nat.reduceMul, Int.reduceToNat, Int.reduceLE, Int.reduceLT, Int.reduceAdd, Int.reduceSub, Int.reduceMul, Int.reduceEq, Int.reduceNeg]
      have g := Option.some.inj h
      subst g
      rw [← hQ]
      exact ⟨_, _, (Ref.out [] rfl), hp⟩
theorem ref10_Of_w (N : Nat) (l_0 : List TClass) (a_1 : Int) (c_0 : Bool) (z_1 : Int) (h : ref10_Of N l_0 a_1 = some z_1) :
    ACalls Go.Proofs.Try.prog 30 [.vec c_0 (List.map eTClass l_0), .int .i64 a_1] [] (fun e H => H = [] ∧ e = .ret (.int .i64 z_1)) := by
  unfold ref10_Of at h
  refine ACalls.goN Go.Proofs.Try.func30 n30 a30 Go.Proofs.Try.ntmps30 r30 (by simp) 0 rfl ?_
  generalize hQ : bodyA _ _ _ = QQ
  simp only [A30, go_sem, reduceIte, reduceCtorEq, Nat.reduceEqDiff, Nat.reduceLT, Nat.reduceLeDiff, Nat.reduceAdd, Nat.reduceSub, Nat.reduceMul, Int.reduceToNat, Int.reduceLE, Int.reduceLT, Int.reduceAdd, Int.reduceSub, Int.reduceMul, Int.reduceEq, Int.reduceNeg]
  obtain ⟨o_1003, h_1001, h⟩ := bindS h
  refine ALp.ref (Ref.out [0, 1, 5] rfl) (Nat.zero_le _) (ref10_Of_L1_w N _ _ c_0 N _ o_1003 h_1001 ?_)
  rcases o_1003 with _ | y_1002
  · try dsimp only at h
    refine LoopK_go rfl (Nat.zero_le _) ?_
    simp only [go_sem, reduceIte, reduceCtorEq, Nat.reduceEqDiff, Nat.reduceLT, Nat.reduceLeDiff, Nat.reduceAdd, Nat.reduceSub, Nat.reduceMul, Int.reduceToNat, Int.reduceLE, Int.reduceLT, Int.reduceAdd, Int.reduceSub, Int.reduceMul, Int.reduceEq, Int.reduceNeg]
    have g_0 := Option.some.inj h
    subst g_0
    rw [← hQ]
    exact ⟨rfl, _, rfl, _, _, (RefV.out rfl), rfl, rfl⟩
  · try dsimp only at h
    refine LoopK_ret ?_
    have g_0 := Option.some.inj h
    subst g_0
    rw [← hQ]
    exact ⟨rfl, _, rfl, _, _, (RefV.out rfl), rfl, rfl⟩
theorem cover_Index_L1_w (N : Nat) (a_1 : Int) (l_0 : List TSpan) (c_0 : Bool) {R : AExit → ATm → List AObj → Prop} : ∀ (n : Nat) (i_1 : Int) (i_2 : Int) (o : (Unit) ⊕ (Int)), cover_Index_L1 N a_1 l_0 n i_1 i_2 = some o → (match o with | .inl _ => R (.exit 0) ⟨37, [], []⟩ [] | .inr (z_1) => R .ret ⟨37, [(4, .int .i64 z_1)], []⟩ []) →
    ALp Go.Proofs.Try.prog 0 B26_1 ⟨37, [(1, .int .i64 a_1), (5, .int .i64 i_1), (8, .vec c_0 (List.map eTSpan l_0)), (9, .int .i64 (l_0.length : Int)), (10, .int .i64 i_2)], []⟩ [] R := by
  intro n
  induction n with
  | zero =>
    intro i_1 i_2 o h _
    have h0 : none = some o := h
    cases h0
  | succ n ih =>
    intro i_1 i_2 o h hp
    rw [cover_Index_L1] at h
    refine ALp.round ?_
    generalize hQ : RoundQ _ _ _ _ = QQ
    simp only [B26_1, A26, go_sem, reduceIte, reduceCtorEq, Nat.reduceEqDiff, Nat.reduceLT, Nat.reduceLeDiff, Nat.reduceAdd, Nat.reduceSub, Nat.reduceMul, Int.reduceToNat, Int.reduceLE, Int.reduceLT, Int.reduceAdd, Int.reduceSub, Int.reduceMul, Int.reduceEq, Int.reduceNeg]
    by_cases h_3 : i_2 < (l_0.length : Int)
    · rw [if_pos h_3] at h
      have e_4 : (i_2 < (l_0.length : Int)) = True := eq_true h_3
      obtain ⟨x_5, h_6, h⟩ := bindS h
      have e_7 : (List.map eTSpan l_0)[(i_2).toNat]? = some [.int .i64 x_5.From, .int .i64 x_5.To] := atI_map eTSpan h_6
      have e_8 : ((0 : Int) ≤ i_2) = True := eq_true (atI_some h_6).1
      have e_9 : ((i_2 : Int) < (l_0.length : Int)) = True := eq_true (atI_lt h_6)
      simp only [e_4, e_7, e_8, e_9, go_sem, reduceIte, reduceCtorEq, Nat.reduceEqDiff, Nat.reduceLT, Nat.reduceLeDiff, Nat.reduceAdd, Nat.reduceSub, Nat.reduceMul, Int.reduceToNat, Int.reduceLE, Int.reduceLT, Int.reduceAdd, Int.reduceSub, Int.reduceMul, Int.reduceEq, Int.reduceNeg]
      by_cases h_10 : a_1 < x_5.From
      · rw [if_pos h_10] at h
        have e_11 : (a_1 < x_5.From) = True := eq_true h_10
        simp only [e_4, e_7, e_8, e_9, e_11, go_sem, reduceIte, reduceCtorEq, Nat.reduceEqDiff, Nat.reduceLT, Nat.reduceLeDiff, Nat.reduceAdd, Nat.reduceSub, Nat.reduceMul, Int.reduceToNat, Int.reduceLE, Int.reduceLT, Int.reduceAdd, Int.reduceSub, Int.reduceMul, Int.reduceEq, Int.reduceNeg]
        have g := Option.some.inj h
        subst g
        rw [← hQ]
        exact ⟨_, _, (Ref.out [] rfl), hp⟩
      · rw [if_neg h_10] at h
        have e_11 : (a_1 < x_5.From) = False := eq_false h_10
        simp only [e_4, e_7, e_8, e_9, e_11, go_sem, reduceIte, reduceCtorEq, Nat.reduceEqDiff, Nat.reduceLT, Nat.reduceLeDiff, Nat.reduceAdd, Nat.reduceSub, Nat.reduceMul, Int.reduceToNat, Int.reduceLE, Int.reduceLT, Int.reduceAdd, Int.reduceSub, Int.reduceMul, Int.reduceEq, Int.reduceNeg]
        by_cases h_12 : a_1 ≤ x_5.To
        · rw [if_pos h_12] at h
          have e_13 : (a_1 ≤ x_5.To) = True := eq_true h_12
          simp only [e_4, e_7, e_8, e_9, e_11, e_13, go_sem, reduceIte, reduceCtorEq, Nat.reduceEqDiff, Nat.reduceLT, Nat.reduceLeDiff, Nat.reduceAdd, Nat.reduceSub, Nat.reduceMul, Int.reduceToNat, Int.reduceLE, Int.reduceLT, Int.reduceAdd, Int.reduceSub, Int.reduceMul, Int.reduceEq, Int.reduceNeg]
          have g := Option.some.inj h
          subst g
          rw [← hQ]
          exact ⟨_, _, (Ref.out [4] rfl), hp⟩
        · rw [if_neg h_12] at h
          have e_13 : (a_1 ≤ x_5.To) = False := eq_false h_12
          simp only [e_4, e_7, e_8, e_9, e_11, e_13, go_sem, reduceIte, reduceCtorEq, Nat.reduceEqDiff, Nat.reduceLT, Nat.reduceLeDiff, Nat.reduceAdd, Nat.reduceSub, Nat.reduceMul, Int.reduceToNat, Int.reduceLE, Int.reduceLT, Int.reduceAdd, Int.reduceSub, Int.reduceMul, Int.reduceEq, Int.reduceNeg]
          rw [← hQ]
          exact ⟨_, _, (Ref.out [1, 5, 8, 9, 10] rfl), (Nat.zero_le _), ih _ _ _ h hp⟩
    · rw [if_neg h_3] at h
      have e_4 : (i_2 < (l_0.length : Int)) = False := eq_false h_3
      simp only [e_4, go_sem, reduceIte, reduceCtorEq, Nat.reduceEqDiff, Nat.reduceLT, Nat.reduceLeDiff, Nat.reduceAdd, Nat.reduceSub, Nat.reduceMul, Int.reduceToNat, Int.reduceLE, Int.reduceLT, Int.reduceAdd, Int.reduceSub, Int.reduceMul, Int.reduceEq, Int.reduceNeg]
      have g := Option.some.inj h
      subst g
      rw [← hQ]
      exact ⟨_, _, (Ref.out [] rfl), hp⟩
theorem cover_Index_w (N : Nat) (l_0 : List TSpan) (a_1 : Int) (c_0 : Bool) (z_1 : Int) (h : cover_Index N l_0 a_1 = some z_1) :
    ACalls Go.Proofs.Try.prog 26 [.vec c_0 (List.map eTSpan l_0), .int .i64 a_1] [] (fun e H => H = [] ∧ e = .ret (.int .i64 z_1)) := by
  unfold cover_Index at h
  refine ACalls.goN Go.Proofs.Try.func26 n26 a26 Go.Proofs.Try.ntmps26 r26 (by simp) 0 rfl ?_
  generalize hQ : bodyA _ _ _ = QQ
  simp only [A26, go_sem, reduceIte, reduceCtorEq, Nat.reduceEqDiff, Nat.reduceLT, Nat.reduceLeDiff, Nat.reduceAdd, Nat.reduceSub, Nat.reduceMul, Int.reduceToNat, Int.reduceLE, Int.reduceLT, Int.reduceAdd, Int.reduceSub, Int.reduceMul, Int.reduceEq, Int.reduceNeg]
  obtain ⟨o_1003, h_1001, h⟩ := bindS h
  refine ALp.ref (Ref.out [1, 5, 8, 9, 10] rfl) (Nat.zero_le _) (cover_Index_L1_w N _ _ c_0 N _ _ o_1003 h_1001 ?_)
  rcases o_1003 with _ | y_1002
  · try dsimp only at h
    refine LoopK_go rfl (Nat.zero_le _) ?_
    simp only [go_sem, reduceIte, reduceCtorEq, Nat.reduceEqDiff, Nat.reduceLT, Nat.reduceLeDiff, Nat.reduceAdd, Nat.reduceSub, Nat.reduceMul, Int.reduceToNat, Int.reduceLE, Int.reduceLT, Int.reduceAdd, Int.reduceSub, Int.reduceMul, Int.reduceEq, Int.reduceNeg]
    have g_0 := Option.some.inj h
    subst g_0
    rw [← hQ]
    exact ⟨rfl, _, rfl, _, _, (RefV.out rfl), rfl, rfl⟩
  · try dsimp only at h
    refine LoopK_ret ?_
    have g_0 := Option.some.inj h
    subst g_0
    rw [← hQ]
    exact ⟨rfl, _, rfl, _, _, (RefV.out rfl), rfl, rfl⟩
theorem gdef_Mark_w (N : Nat) (l_0 : List TClass) (l_1 : List TClass) (l_2 : List (List TSpan)) (a_3 : Int) (a_4 : Int) (c_0 : Bool) (c_1 : Bool) (c_2 : Bool) (z_1 : Bool) (h : gdef_Mark N l_0 l_1 l_2 a_3 a_4 = some z_1) :
    ACalls Go.Proofs.Try.prog 49 [.agg [.vec c_0 (List.map eTClass l_0), .vec c_1 (List.map eTClass l_1), .vec c_2 (List.map eLTSpan l_2)], .int .i64 a_3, .int .i64 a_4] [] (fun e H => H = [] ∧ e = .ret (.bool z_1)) := by
  unfold gdef_Mark at h
  refine ACalls.goN Go.Proofs.Try.func49 n49 a49 Go.Proofs.Try.ntmps49 r49 (by simp) 0 rfl ?_
  generalize hQ : bodyA _ _ _ = QQ
  simp only [A49, go_sem, reduceIte, reduceCtorEq, Nat.reduceEqDiff, Nat.reduceLT, Nat.reduceLeDiff, Nat.reduceAdd, Nat.reduceSub, Nat.reduceMul, Int.reduceToNat, Int.reduceLE, Int.reduceLT, Int.reduceAdd, Int.reduceSub, Int.reduceMul, Int.reduceEq, Int.reduceNeg]
  by_cases h_1 : 0 ≤ a_3
  · rw [if_pos h_1] at h
    have e_2 : (0 ≤ a_3) = True := eq_true h_1
    simp only [e_2, go_sem, reduceIte, reduceCtorEq, Nat.reduceEqDiff, Nat.reduceLT, Nat.reduceLeDiff, Nat.reduceAdd, Nat.reduceSub, Nat.reduceMul, Int.reduceToNat, Int.reduceLE, Int.reduceLT, Int.reduceAdd, Int.reduceSub, Int.reduceMul, Int.reduceEq, Int.reduceNeg]
    by_cases h_3 : a_3 < (l_2.length : Int)
    · rw [if_pos h_3] at h
      have e_4 : (a_3 < (l_2.length : Int)) = True := eq_true h_3
      obtain ⟨x_5, h_6, h⟩ := bindS h
      have e_7 : (List.map eLTSpan l_2)[(a_3).toNat]? = some [.vec false (List.map eTSpan x_5)] := atI_map eLTSpan h_6
      have e_8 : ((0 : Int) ≤ a_3) = True := eq_true (atI_some h_6).1
      have e_9 : ((a_3 : Int) < (l_2.length : Int)) = True := eq_true (atI_lt h_6)
      obtain ⟨y_10, h_11, h⟩ := bindS h
      simp only [e_2, e_4, e_7, e_8, e_9, go_sem, reduceIte, reduceCtorEq, Nat.reduceEqDiff, Nat.reduceLT, Nat.reduceLeDiff, Nat.reduceAdd, Nat.reduceSub, Nat.reduceMul, Int.reduceToNat, Int.reduceLE, Int.reduceLT, Int.reduceAdd, Int.reduceSub, Int.reduceMul, Int.reduceEq, Int.reduceNeg]
      refine ACalls.use0 (cover_Index_w N _ _ _ _ h_11) rfl rfl ?_
      refine CallK_go (Nat.zero_le _) ?_
      simp only [e_2, e_4, e_7, e_8, e_9, go_sem, reduceIte, reduceCtorEq, Nat.reduceEqDiff, Nat.reduceLT, Nat.reduceLeDiff, Nat.reduceAdd, Nat.reduceSub, Nat.reduceMul, Int.reduceToNat, Int.reduceLE, Int.reduceLT, Int.reduceAdd, Int.reduceSub, Int.reduceMul, Int.reduceEq, Int.reduceNeg]
      have g_0 := Option.some.inj h
      subst g_0
      rw [← hQ]
      exact ⟨rfl, _, rfl, _, _, (RefV.out (by first | rfl | simp only [go_sem, reduceIte, Nat.reduceEqDiff, Nat.reduceAdd, e_2, e_4])), rfl, rfl⟩
    · rw [if_neg h_3] at h
      have e_4 : (a_3 < (l_2.length : Int)) = False := eq_false h_3
      simp only [e_2, e_4, go_sem, reduceIte, reduceCtorEq, Nat.reduceEqDiff, Nat.reduceLT, Nat.reduceLeDiff, Nat.reduceAdd, Nat.reduceSub, Nat.reduceMul, Int.reduceToNat, Int.reduceLE, Int.reduceLT, Int.reduceAdd, Int.reduceSub, Int.reduceMul, Int.reduceEq, Int.reduceNeg]
      have g_0 := Option.some.inj h
      subst g_0
      rw [← hQ]
      exact ⟨rfl, _, rfl, _, _, (RefV.out rfl), rfl, rfl⟩
  · rw [if_neg h_1] at h
    have e_2 : (0 ≤ a_3) = False := eq_false h_1
    simp only [e_2, go_sem, reduceIte, reduceCtorEq, Nat.reduceEqDiff, Nat.reduceLT, Nat.reduceLeDiff, Nat.reduceAdd, Nat.reduceSub, Nat.reduceMul, Int.reduceToNat, Int.reduceLE, Int.reduceLT, Int.reduceAdd, Int.reduceSub, Int.reduceMul, Int.reduceEq, Int.reduceNeg]
    have g_0 := Option.some.inj h
    subst g_0
    rw [← hQ]
    exact ⟨rfl, _, rfl, _, _, (RefV.out rfl), rfl, rfl⟩
theorem ref10_Index_L1_w (N : Nat) (l_0 : List TSpan) (a_1 : Int) (c_0 : Bool) {R : AExit → ATm → List AObj → Prop} : ∀ (n : Nat) (i_1 : Int) (i_2 : Int) (i_3 : Int) (o : Int), ref10_Index_L1 N l_0 a_1 n i_1 i_2 i_3 = some o → (match o with | z_1 => R (.exit 0) ⟨54, [(6, .int .i64 z_1)], []⟩ []) →
    ALp Go.Proofs.Try.prog 0 B27_1 ⟨54, [(0, .vec c_0 (List.map eTSpan l_0)), (1, .int .i64 a_1), (5, .int .i64 i_1), (6, .int .i64 i_2), (7, .int .i64 i_3)], []⟩ [] R := by
  intro n
  induction n with
  | zero =>
    intro i_1 i_2 i_3 o h _
    have h0 : none = some o := h
    cases h0
  | succ n ih =>
    intro i_1 i_2 i_3 o h hp
    rw [ref10_Index_L1] at h
    refine ALp.round ?_
    generalize hQ : RoundQ _ _ _ _ = QQ
    simp only [B27_1, A27, go_sem, reduceIte, reduceCtorEq, Nat.reduceEqDiff, Nat.reduceLT, Nat.reduceLeDiff, Nat.reduceAdd, Nat.reduceSub, Nat.reduceMul, Int.reduceToNat, Int.reduceLE, Int.reduceLT, Int.reduceAdd, Int.reduceSub, Int.reduceMul, Int.reduceEq, Int.reduceNeg]
    by_cases h_4 : i_3 < (l_0.length : Int)
    · rw [if_pos h_4] at h
      have e_5 : (i_3 < (l_0.length : Int)) = True := eq_true h_4
      obtain ⟨x_6, h_7, h⟩ := bindS h
      have e_8 : (List.map eTSpan l_0)[(i_3).toNat]? = some [.int .i64 x_6.From, .int .i64 x_6.To] := atI_map eTSpan h_7
      have e_9 : ((0 : Int) ≤ i_3) = True := eq_true (atI_some h_7).1
      have e_10 : ((i_3 : Int) < (l_0.length : Int)) = True := eq_true (atI_lt h_7)
      simp only [e_5, e_8, e_9, e_10, go_sem, reduceIte, reduceCtorEq, Nat.reduceEqDiff, Nat.reduceLT, Nat.reduceLeDiff, Nat.reduceAdd, Nat.reduceSub, Nat.reduceMul, Int.reduceToNat, Int.reduceLE, Int.reduceLT, Int.reduceAdd, Int.reduceSub, Int.reduceMul, Int.reduceEq, Int.reduceNeg]
      by_cases h_11 : x_6.From ≤ a_1
      · rw [if_pos h_11] at h
        have e_12 : (x_6.From ≤ a_1) = True := eq_true h_11
        simp only [e_5, e_8, e_9, e_10, e_12, go_sem, reduceIte, reduceCtorEq, Nat.reduceEqDiff, Nat.reduceLT, Nat.reduceLeDiff, Nat.reduceAdd, Nat.reduceSub, Nat.reduceMul, Int.reduceToNat, Int.reduceLE, Int.reduceLT, Int.reduceAdd, Int.reduceSub, Int.reduceMul, Int.reduceEq, Int.reduceNeg]
        by_cases h_13 : a_1 ≤ x_6.To
        · rw [if_pos h_13] at h
          have e_14 : (a_1 ≤ x_6.To) = True := eq_true h_13
          simp only [e_5, e_8, e_9, e_10, e_12, e_14, go_sem, reduceIte, reduceCtorEq, Nat.reduceEqDiff, Nat.reduceLT, Nat.reduceLeDiff, Nat.reduceAdd, Nat.reduceSub, Nat.reduceMul, Int.reduceToNat, Int.reduceLE, Int.reduceLT, Int.reduceAdd, Int.reduceSub, Int.reduceMul, Int.reduceEq, Int.reduceNeg]
          rw [← hQ]
          exact ⟨_, _, (Ref.out [0, 1, 5, 6, 7] rfl), (Nat.zero_le _), ih _ _ _ _ h hp⟩
        · rw [if_neg h_13] at h
          have e_14 : (a_1 ≤ x_6.To) = False := eq_false h_13
          simp only [e_5, e_8, e_9, e_10, e_12, e_14, go_sem, reduceIte, reduceCtorEq, Nat.reduceEqDiff, Nat.reduceLT, Nat.reduceLeDiff, Nat.reduceAdd, Nat.reduceSub, Nat.reduceMul, Int.reduceToNat, Int.reduceLE, Int.reduceLT, Int.reduceAdd, Int.reduceSub, Int.reduceMul, Int.reduceEq, Int.reduceNeg]
          rw [← hQ]
          exact ⟨_, _, (Ref.out [0, 1, 5, 6, 7] rfl), (Nat.zero_le _), ih _ _ _ _ h hp⟩
      · rw [if_neg h_11] at h
        have e_12 : (x_6.From ≤ a_1) = False := eq_false h_11
        simp only [e_5, e_8, e_9, e_10, e_12, go_sem, reduceIte, reduceCtorEq, Nat.reduceEqDiff, Nat.reduceLT, Nat.reduceLeDiff, Nat.reduceAdd, Nat.reduceSub, Nat.reduceMul, Int.reduceToNat, Int.reduceLE, Int.reduceLT, Int.reduceAdd, Int.reduceSub, Int.reduceMul, Int.reduceEq, Int.reduceNeg]
        rw [← hQ]
        exact ⟨_, _, (Ref.out [0, 1, 5, 6, 7] rfl), (Nat.zero_le _), ih _ _ _ _ h hp⟩
    · rw [if_neg h_4] at h
      have e_5 : (i_3 < (l_0.length : Int)) = False := eq_false h_4
      simp only [e_5, go_sem, reduceIte, reduceCtorEq, Nat.reduceEqDiff, Nat.reduceLT, Nat.reduceLeDiff, Nat.reduceAdd, Nat.reduceSub, Nat.reduceMul, Int.reduceToNat, Int.reduceLE, Int.reduceLT, Int.reduceAdd, Int.reduceSub, Int.reduceMul, Int.reduceEq, Int.reduceNeg]
      have g := Option.some.inj h
      subst g
      rw [← hQ]
      exact ⟨_, _, (Ref.out [6] rfl), hp⟩
theorem ref10_Index_w (N : Nat) (l_0 : List TSpan) (a_1 : Int) (c_0 : Bool) (z_1 : Int) (h : ref10_Index N l_0 a_1 = some z_1) :
    ACalls Go.Proofs.Try.prog 27 [.vec c_0 (List.map eTSpan l_0), .int .i64 a_1] [] (fun e H => H = [] ∧ e = .ret (.int .i64 z_1)) := by
  unfold ref10_Index at h
  refine ACalls.goN Go.Proofs.Try.func27 n27 a27 Go.Proofs.Try.ntmps27 r27 (by simp) 0 rfl ?_
  generalize hQ : bodyA _ _ _ = QQ
  simp only [A27, go_sem, reduceIte, reduceCtorEq, Nat.reduceEqDiff, Nat.reduceLT, Nat.reduceLeDiff, Nat.reduceAdd, Nat.reduceSub, Nat.reduceMul, Int.reduceToNat, Int.reduceLE, Int.reduceLT, Int.reduceAdd, Int.reduceSub, Int.reduceMul, Int.reduceEq, Int.reduceNeg]
  obtain ⟨y_1002, h_1001, h⟩ := bindS h
  refine ALp.ref (Ref.out [0, 1, 5, 6, 7] rfl) (Nat.zero_le _) (ref10_Index_L1_w N _ _ c_0 N _ _ _ y_1002 h_1001 ?_)
  refine LoopK_go rfl (Nat.zero_le _) ?_
  simp only [go_sem, reduceIte, reduceCtorEq, Nat.reduceEqDiff, Nat.reduceLT, Nat.reduceLeDiff, Nat.reduceAdd, Nat.reduceSub, Nat.reduceMul, Int.reduceToNat, Int.reduceLE, Int.reduceLT, Int.reduceAdd, Int.reduceSub, Int.reduceMul, Int.reduceEq, Int.reduceNeg]
  have g_0 := Option.some.inj h
  subst g_0
  rw [← hQ]
  exact ⟨rfl, _, rfl, _, _, (RefV.out rfl), rfl, rfl⟩
theorem ref15_Mark_w (N : Nat) (l_0 : List TClass) (l_1 : List TClass) (l_2 : List (List TSpan)) (a_3 : Int) (a_4 : Int) (c_0 : Bool) (c_1 : Bool) (c_2 : Bool) (z_1 : Bool) (h : ref15_Mark N l_0 l_1 l_2 a_3 a_4 = some z_1) :
    ACalls Go.Proofs.Try.prog 50 [.agg [.vec c_0 (List.map eTClass l_0), .vec c_1 (List.map eTClass l_1), .vec c_2 (List.map eLTSpan l_2)], .int .i64 a_3, .int .i64 a_4] [] (fun e H => H = [] ∧ e = .ret (.bool z_1)) := by
  unfold ref15_Mark at h
  refine ACalls.goN Go.Proofs.Try.func50 n50 a50 Go.Proofs.Try.ntmps50 r50 (by simp) 0 rfl ?_
  generalize hQ : bodyA _ _ _ = QQ
  simp only [A50, go_sem, reduceIte, reduceCtorEq, Nat.reduceEqDiff, Nat.reduceLT, Nat.reduceLeDiff, Nat.reduceAdd, Nat.reduceSub, Nat.reduceMul, Int.reduceToNat, Int.reduceLE, Int.reduceLT, Int.reduceAdd, Int.reduceSub, Int.reduceMul, Int.reduceEq, Int.reduceNeg]
  by_cases h_1 : a_3 < 0
  · rw [if_pos h_1] at h
    have e_2 : (a_3 < 0) = True := eq_true h_1
    simp only [e_2, go_sem, reduceIte, reduceCtorEq, Nat.reduceEqDiff, Nat.reduceLT, Nat.reduceLeDiff, Nat.reduceAdd, Nat.reduceSub, Nat.reduceMul, Int.reduceToNat, Int.reduceLE, Int.reduceLT, Int.reduceAdd, Int.reduceSub, Int.reduceMul, Int.reduceEq, Int.reduceNeg]
    have g_0 := Option.some.inj h
    subst g_0
    rw [← hQ]
    exact ⟨rfl, _, rfl, _, _, (RefV.out rfl), rfl, rfl⟩
  · rw [if_neg h_1] at h
    have e_2 : (a_3 < 0) = False := eq_false h_1
    simp only [e_2, go_sem, reduceIte, reduceCtorEq, Nat.reduceEqDiff, Nat.reduceLT, Nat.reduceLeDiff, Nat.reduceAdd, Nat.reduceSub, Nat.reduceMul, Int.reduceToNat, Int.reduceLE, Int.reduceLT, Int.reduceAdd, Int.reduceSub, Int.reduceMul, Int.reduceEq, Int.reduceNeg]
    by_cases h_3 : (l_2.length : Int) ≤ a_3
    · rw [if_pos h_3] at h
      have e_4 : ((l_2.length : Int) ≤ a_3) = True := eq_true h_3
      simp only [e_2, e_4, go_sem, reduceIte, reduceCtorEq, Nat.reduceEqDiff, Nat.reduceLT, Nat.reduceLeDiff, Nat.reduceAdd, Nat.reduceSub, Nat.reduceMul, Int.reduceToNat, Int.reduceLE, Int.reduceLT, Int.reduceAdd, Int.reduceSub, Int.reduceMul, Int.reduceEq, Int.reduceNeg]
      have g_0 := Option.some.inj h
      subst g_0
      rw [← hQ]
      exact ⟨rfl, _, rfl, _, _, (RefV.out rfl), rfl, rfl⟩
    · rw [if_neg h_3] at h
      have e_4 : ((l_2.length : Int) ≤ a_3) = False := eq_false h_3
      obtain ⟨x_5, h_6, h⟩ := bindS h
      have e_7 : (List.map eLTSpan l_2)[(a_3).toNat]? = some [.vec false (List.map eTSpan x_5)] := atI_map eLTSpan h_6
      have e_8 : ((0 : Int) ≤ a_3) = True := eq_true (atI_some h_6).1
      have e_9 : ((a_3 : Int) < (l_2.length : Int)) = True := eq_true (atI_lt h_6)
      obtain ⟨y_10, h_11, h⟩ := bindS h
      simp only [e_2, e_4, e_7, e_8, e_9, go_sem, reduceIte, reduceCtorEq, Nat.reduceEqDiff, Nat.reduceLT, Nat.reduceLeDiff, Nat.reduceAdd, Nat.reduceSub, Nat.reduceMul, Int.reduceToNat, Int.reduceLE, Int.reduceLT, Int.reduceAdd, Int.reduceSub, Int.reduceMul, Int.reduceEq, Int.reduceNeg]
      refine ACalls.use0 (ref10_Index_w N _ _ _ _ h_11) rfl rfl ?_
      refine CallK_go (Nat.zero_le _) ?_
      simp only [e_2, e_4, e_7, e_8, e_9, go_sem, reduceIte, reduceCtorEq, Nat.reduceEqDiff, Nat.reduceLT, Nat.reduceLeDiff, Nat.reduceAdd, Nat.reduceSub, Nat.reduceMul, Int.reduceToNat, Int.reduceLE, Int.reduceLT, Int.reduceAdd, Int.reduceSub, Int.reduceMul, Int.reduceEq, Int.reduceNeg]
      have g_0 := Option.some.inj h
      subst g_0
      rw [← hQ]
      exact ⟨rfl, _, rfl, _, _, (RefV.out (by first | rfl | simp only [go_sem, reduceIte, Nat.reduceEqDiff, Nat.reduceAdd, e_2, e_4])), rfl, rfl⟩
theorem law15_GdefFinds_w (N : Nat) (l_0 : List TGroup) (l_1 : List TClass) (l_2 : List TClass) (l_3 : List (List TSpan)) (a_4 : Int) (a_5 : Int) (a_6 : Int) (c_0 : Bool) (c_1 : Bool) (c_2 : Bool) (c_3 : Bool) (z_1 : Bool) (h : law15_GdefFinds N l_0 l_1 l_2 l_3 a_4 a_5 a_6 = some z_1) :
    ACalls Go.Proofs.Try.prog 14 [.vec c_0 (List.map eTGroup l_0), .agg [.vec c_1 (List.map eTClass l_1), .vec c_2 (List.map eTClass l_2), .vec c_3 (List.map eLTSpan l_3)], .int .i32 a_4, .int .i64 a_5, .int .i64 a_6] [] (fun e H => H = [] ∧ e = .ret (.bool z_1)) := by
  unfold law15_GdefFinds at h
  refine ACalls.goN Go.Proofs.Try.func14 n14 a14 Go.Proofs.Try.ntmps14 r14 (by simp) 0 rfl ?_
  generalize hQ : bodyA _ _ _ = QQ
  simp only [A14, go_sem, reduceIte, reduceCtorEq, Nat.reduceEqDiff, Nat.reduceLT, Nat.reduceLeDiff, Nat.reduceAdd, Nat.reduceSub, Nat.reduceMul, Int.reduceToNat, Int.reduceLE, Int.reduceLT, Int.reduceAdd, Int.reduceSub, Int.reduceMul, Int.reduceEq, Int.reduceNeg]
  refine ACalls.use0 alive15 rfl rfl ?_
  refine CallK_go (Nat.zero_le _) ?_
  simp only [go_sem, reduceIte, reduceCtorEq, Nat.reduceEqDiff, Nat.reduceLT, Nat.reduceLeDiff, Nat.reduceAdd, Nat.reduceSub, Nat.reduceMul, Int.reduceToNat, Int.reduceLE, Int.reduceLT, Int.reduceAdd, Int.reduceSub, Int.reduceMul, Int.reduceEq, Int.reduceNeg]
  by_cases h_1 : 100 < (l_0.length : Int)
  · rw [if_pos h_1] at h
    have e_2 : (100 < (l_0.length : Int)) = True := eq_true h_1
    simp only [e_2, go_sem, reduceIte, reduceCtorEq, Nat.reduceEqDiff, Nat.reduceLT, Nat.reduceLeDiff, Nat.reduceAdd, Nat.reduceSub, Nat.reduceMul, Int.reduceToNat, Int.reduceLE, Int.reduceLT, Int.reduceAdd, Int.reduceSub, Int.reduceMul, Int.reduceEq, Int.reduceNeg]
    have g_0 := Option.some.inj h
    subst g_0
    rw [← hQ]
    exact ⟨rfl, _, rfl, _, _, (RefV.out rfl), rfl, rfl⟩
  · rw [if_neg h_1] at h
    have e_2 : (100 < (l_0.length : Int)) = False := eq_false h_1
    obtain ⟨y_3, h_4, h⟩ := bindS h
    simp only [e_2, go_sem, reduceIte, reduceCtorEq, Nat.reduceEqDiff, Nat.reduceLT, Nat.reduceLeDiff, Nat.reduceAdd, Nat.reduceSub, Nat.reduceMul, Int.reduceToNat, Int.reduceLE, Int.reduceLT, Int.reduceAdd, Int.reduceSub, Int.reduceMul, Int.reduceEq, Int.reduceNeg]
    refine ACalls.use0 (ref10_RightClasses_w N _ _ _ h_4) rfl rfl ?_
    refine CallK_go (Nat.zero_le _) ?_
    simp only [e_2, go_sem, reduceIte, reduceCtorEq, Nat.reduceEqDiff, Nat.reduceLT, Nat.reduceLeDiff, Nat.reduceAdd, Nat.reduceSub, Nat.reduceMul, Int.reduceToNat, Int.reduceLE, Int.reduceLT, Int.reduceAdd, Int.reduceSub, Int.reduceMul, Int.reduceEq, Int.reduceNeg]
    by_cases h_5 : y_3 = true
    · rw [if_pos h_5] at h
      have e_6 : y_3 = true := h_5
      simp only [e_2, e_6, go_sem, reduceIte, reduceCtorEq, Nat.reduceEqDiff, Nat.reduceLT, Nat.reduceLeDiff, Nat.reduceAdd, Nat.reduceSub, Nat.reduceMul, Int.reduceToNat, Int.reduceLE, Int.reduceLT, Int.reduceAdd, Int.reduceSub, Int.reduceMul, Int.reduceEq, Int.reduceNeg]
      by_cases h_7 : 70 < (l_3.length : Int)
      · rw [if_pos h_7] at h
        have e_8 : (70 < (l_3.length : Int)) = True := eq_true h_7
        simp only [e_2, e_6, e_8, go_sem, reduceIte, reduceCtorEq, Nat.reduceEqDiff, Nat.reduceLT, Nat.reduceLeDiff, Nat.reduceAdd, Nat.reduceSub, Nat.reduceMul, Int.reduceToNat, Int.reduceLE, Int.reduceLT, Int.reduceAdd, Int.reduceSub, Int.reduceMul, Int.reduceEq, Int.reduceNeg]
        have g_0 := Option.some.inj h
        subst g_0
        rw [← hQ]
        exact ⟨rfl, _, rfl, _, _, (RefV.out rfl), rfl, rfl⟩
      · rw [if_neg h_7] at h
        have e_8 : (70 < (l_3.length : Int)) = False := eq_false h_7
        simp only [e_2, e_6, e_8, go_sem, reduceIte, reduceCtorEq, Nat.reduceEqDiff, Nat.reduceLT, Nat.reduceLeDiff, Nat.reduceAdd, Nat.reduceSub, Nat.reduceMul, Int.reduceToNat, Int.reduceLE, Int.reduceLT, Int.reduceAdd, Int.reduceSub, Int.reduceMul, Int.reduceEq, Int.reduceNeg]
        obtain ⟨o_1010, h_1009, h⟩ := bindS h
        refine ALp.ref (Ref.std [0, 2, 3, 4, 6, 11] [0] (by decide) low0 rfl rfl) (Nat.zero_le _) (law15_GdefFinds_L1_w N _ _ _ _ _ _ _ c_0 c_1 c_2 c_3 N _ o_1010 h_1009 ?_)
        rcases o_1010 with _ | _
        · try dsimp only at h
          refine LoopK_go rfl (Nat.zero_le _) ?_
          simp only [e_2, e_6, e_8, go_sem, reduceIte, reduceCtorEq, Nat.reduceEqDiff, Nat.reduceLT, Nat.reduceLeDiff, Nat.reduceAdd, Nat.reduceSub, Nat.reduceMul, Int.reduceToNat, Int.reduceLE, Int.reduceLT, Int.reduceAdd, Int.reduceSub, Int.reduceMul, Int.reduceEq, Int.reduceNeg]
          obtain ⟨o_2012, h_2011, h⟩ := bindS h
          refine ALp.ref (Ref.std [0, 2, 3, 4, 6, 12] [0] (by decide) low0 rfl rfl) (Nat.zero_le _) (law15_GdefFinds_L2_w N _ _ _ _ _ _ _ c_0 c_1 c_2 c_3 N _ o_2012 h_2011 ?_)
          rcases o_2012 with _ | _
          · try dsimp only at h
            refine LoopK_go rfl (Nat.zero_le _) ?_
            obtain ⟨y_2013, h_2014, h⟩ := bindS h
            simp only [e_2, e_6, e_8, go_sem, reduceIte, reduceCtorEq, Nat.reduceEqDiff, Nat.reduceLT, Nat.reduceLeDiff, Nat.reduceAdd, Nat.reduceSub, Nat.reduceMul, Int.reduceToNat, Int.reduceLE, Int.reduceLT, Int.reduceAdd, Int.reduceSub, Int.reduceMul, Int.reduceEq, Int.reduceNeg]
            refine ACalls.use0 (gdef_Glyph_w N _ _ _ _ h_2014) rfl rfl ?_
            obtain ⟨y_2015, h_2016, h⟩ := bindS h
            simp only [e_2, e_6, e_8, go_sem, reduceIte, reduceCtorEq, Nat.reduceEqDiff, Nat.reduceLT, Nat.reduceLeDiff, Nat.reduceAdd, Nat.reduceSub, Nat.reduceMul, Int.reduceToNat, Int.reduceLE, Int.reduceLT, Int.reduceAdd, Int.reduceSub, Int.reduceMul, Int.reduceEq, Int.reduceNeg]
            refine ACalls.use0 (ref15_Glyph_w N _ _ _ _ h_2016) rfl rfl ?_
            simp only [e_2, e_6, e_8, go_sem, reduceIte, reduceCtorEq, Nat.reduceEqDiff, Nat.reduceLT, Nat.reduceLeDiff, Nat.reduceAdd, Nat.reduceSub, Nat.reduceMul, Int.reduceToNat, Int.reduceLE, Int.reduceLT, Int.reduceAdd, Int.reduceSub, Int.reduceMul, Int.reduceEq, Int.reduceNeg]
            by_cases h_2017 : y_2013 = y_2015
            · rw [if_pos h_2017] at h
              have e_2018 : (y_2013 = y_2015) = True := eq_true h_2017
              obtain ⟨y_2019, h_2020, h⟩ := bindS h
              simp only [e_2, e_6, e_8, e_2018, go_sem, reduceIte, reduceCtorEq, Nat.reduceEqDiff, Nat.reduceLT, Nat.reduceLeDiff, Nat.reduceAdd, Nat.reduceSub, Nat.reduceMul, Int.reduceToNat, Int.reduceLE, Int.reduceLT, Int.reduceAdd, Int.reduceSub, Int.reduceMul, Int.reduceEq, Int.reduceNeg]
              refine ACalls.use0 (gdef_Class_w N _ _ _ _ _ _ _ _ h_2020) rfl rfl ?_
              obtain ⟨y_2021, h_2022, h⟩ := bindS h
              simp only [e_2, e_6, e_8, e_2018, go_sem, reduceIte, reduceCtorEq, Nat.reduceEqDiff, Nat.reduceLT, Nat.reduceLeDiff, Nat.reduceAdd, Nat.reduceSub, Nat.reduceMul, Int.reduceToNat, Int.reduceLE, Int.reduceLT, Int.reduceAdd, Int.reduceSub, Int.reduceMul, Int.reduceEq, Int.reduceNeg]
              refine ACalls.use0 (ref10_Of_w N _ _ _ _ h_2022) rfl rfl ?_
              simp only [e_2, e_6, e_8, e_2018, go_sem, reduceIte, reduceCtorEq, Nat.reduceEqDiff, Nat.reduceLT, Nat.reduceLeDiff, Nat.reduceAdd, Nat.reduceSub, Nat.reduceMul, Int.reduceToNat, Int.reduceLE, Int.reduceLT, Int.reduceAdd, Int.reduceSub, Int.reduceMul, Int.reduceEq, Int.reduceNeg]
              by_cases h_2023 : y_2019 = y_2021
              · rw [if_pos h_2023] at h
                have e_2024 : (y_2019 = y_2021) = True := eq_true h_2023
                obtain ⟨y_2025, h_2026, h⟩ := bindS h
                simp only [e_2, e_6, e_8, e_2018, e_2024, go_sem, reduceIte, reduceCtorEq, Nat.reduceEqDiff, Nat.reduceLT, Nat.reduceLeDiff, Nat.reduceAdd, Nat.reduceSub, Nat.reduceMul, Int.reduceToNat, Int.reduceLE, Int.reduceLT, Int.reduceAdd, Int.reduceSub, Int.reduceMul, Int.reduceEq, Int.reduceNeg]
                refine ACalls.use0 (gdef_Mark_w N _ _ _ _ _ _ _ _ _ h_2026) rfl rfl ?_
                obtain ⟨y_2027, h_2028, h⟩ := bindS h
                simp only [e_2, e_6, e_8, e_2018, e_2024, go_sem, reduceIte, reduceCtorEq, Nat.reduceEqDiff, Nat.reduceLT, Nat.reduceLeDiff, Nat.reduceAdd, Nat.reduceSub, Nat.reduceMul, Int.reduceToNat, Int.reduceLE, Int.reduceLT, Int.reduceAdd, Int.reduceSub, Int.reduceMul, Int.reduceEq, Int.reduceNeg]
                refine ACalls.use0 (ref15_Mark_w N _ _ _ _ _ _ _ _ _ h_2028) rfl rfl ?_
                simp only [e_2, e_6, e_8, e_2018, e_2024, go_sem, reduceIte, reduceCtorEq, Nat.reduceEqDiff, Nat.reduceLT, Nat.reduceLeDiff, Nat.reduceAdd, Nat.reduceSub, Nat.reduceMul, Int.reduceToNat, Int.reduceLE, Int.reduceLT, Int.reduceAdd, Int.reduceSub, Int.reduceMul, Int.reduceEq, Int.reduceNeg]
                have g_0 := Option.some.inj h
                subst g_0
                rw [← hQ]
                exact ⟨rfl, _, rfl, _, _, (RefV.out (by first | rfl | simp only [go_sem, reduceIte, Nat.reduceEqDiff, Nat.reduceAdd, e_2, e_6, e_8, e_2018, e_2024])), rfl, rfl⟩
              · rw [if_neg h_2023] at h
                have e_2024 : (y_2019 = y_2021) = False := eq_false h_2023
                simp only [e_2, e_6, e_8, e_2018, e_2024, go_sem, reduceIte, reduceCtorEq, Nat.reduceEqDiff, Nat.reduceLT, Nat.reduceLeDiff, Nat.reduceAdd, Nat.reduceSub, Nat.reduceMul, Int.reduceToNat, Int.reduceLE, Int.reduceLT, Int.reduceAdd, Int.reduceSub, Int.reduceMul, Int.reduceEq, Int.reduceNeg]
                have g_0 := Option.some.inj h
                subst g_0
                rw [← hQ]
                exact ⟨rfl, _, rfl, _, _, (RefV.out rfl), rfl, rfl⟩
            · rw [if_neg h_2017] at h
              have e_2018 : (y_2013 = y_2015) = False := eq_false h_2017
              simp only [e_2, e_6, e_8, e_2018, go_sem, reduceIte, reduceCtorEq, Nat.reduceEqDiff, Nat.reduceLT, Nat.reduceLeDiff, Nat.reduceAdd, Nat.reduceSub, Nat.reduceMul, Int.reduceToNat, Int.reduceLE, Int.reduceLT, Int.reduceAdd, Int.reduceSub, Int.reduceMul, Int.reduceEq, Int.reduceNeg]
              have g_0 := Option.some.inj h
              subst g_0
              rw [← hQ]
              exact ⟨rfl, _, rfl, _, _, (RefV.out rfl), rfl, rfl⟩
          · try dsimp only at h
            refine LoopK_ret ?_
            have g_0 := Option.some.inj h
            subst g_0
            rw [← hQ]
            exact ⟨rfl, _, rfl, _, _, (RefV.out rfl), rfl, rfl⟩
        · try dsimp only at h
          refine LoopK_ret ?_
          have g_0 := Option.some.inj h
          subst g_0
          rw [← hQ]
          exact ⟨rfl, _, rfl, _, _, (RefV.out rfl), rfl, rfl⟩
    · rw [if_neg h_5] at h
      have e_6 : y_3 = false := bfalse h_5
      simp only [e_2, e_6, go_sem, reduceIte, reduceCtorEq, Nat.reduceEqDiff, Nat.reduceLT, Nat.reduceLeDiff, Nat.reduceAdd, Nat.reduceSub, Nat.reduceMul, Int.reduceToNat, Int.reduceLE, Int.reduceLT, Int.reduceAdd, Int.reduceSub, Int.reduceMul, Int.reduceEq, Int.reduceNeg]
      have g_0 := Option.some.inj h
      subst g_0
      rw [← hQ]
      exact ⟨rfl, _, rfl, _, _, (RefV.out rfl), rfl, rfl⟩
end Go.Proofs.Ytakplhfiohjcmaa.AI
