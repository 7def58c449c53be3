/- Walks: printed by a program (pw.py); each shows that a function answers what is told plainly. -/
import Derived.Test.YtfacmhngbaboiaagsP
import Derived.Test.YtfacmhngbaboiaagsA
set_option linter.unusedVariables false
set_option linter.unusedSimpArgs false
set_option maxRecDepth 100000
set_option maxHeartbeats 1000000
namespace Go.Proofs.Ytfacmhngbaboiaa.AI
open Go.Proofs (Try.prog)
def eTSpan (x : TSpan) : List AV := [.int .i64 x.From, .int .i64 x.To]
theorem subs_eTSpan (S : Sub) (l : List TSpan) : (List.map eTSpan l).map (subs S) = List.map eTSpan l := subs_map S l eTSpan (fun _ => rfl)
def eI64 (x : Int) : List AV := [.int .i64 x]
theorem subs_eI64 (S : Sub) (l : List Int) : (List.map eI64 l).map (subs S) = List.map eI64 l := subs_map S l eI64 (fun _ => rfl)
def eLI64 (x : List Int) : List AV := [.vec false (List.map eI64 x)]
theorem subs_eLI64 (S : Sub) (l : List (List Int)) : (List.map eLI64 l).map (subs S) = List.map eLI64 l := subs_map S l eLI64 (fun _ => rfl)
def eTLig (x : TLig) : List AV := [.vec false (List.map eI64 x.Parts), .int .i64 x.To]
theorem subs_eTLig (S : Sub) (l : List TLig) : (List.map eTLig l).map (subs S) = List.map eTLig l := subs_map S l eTLig (fun _ => rfl)
def eLTLig (x : List TLig) : List AV := [.vec false (List.map eTLig x)]
theorem subs_eLTLig (S : Sub) (l : List (List TLig)) : (List.map eLTLig l).map (subs S) = List.map eLTLig l := subs_map S l eLTLig (fun _ => rfl)
def eTSet (x : TSet) : List AV := [.vec false (List.map eTSpan x.Spans), .bool x.Not]
theorem subs_eTSet (S : Sub) (l : List TSet) : (List.map eTSet l).map (subs S) = List.map eTSet l := subs_map S l eTSet (fun _ => rfl)
def eTAct (x : TAct) : List AV := [.int .i64 x.At, .int .i64 x.Lookup]
theorem subs_eTAct (S : Sub) (l : List TAct) : (List.map eTAct l).map (subs S) = List.map eTAct l := subs_map S l eTAct (fun _ => rfl)
def eTCtx (x : TCtx) : List AV := [.vec false (List.map eTSet x.Back), .vec false (List.map eTSet x.In), .vec false (List.map eTSet x.Ahead), .vec false (List.map eTAct x.Acts)]
theorem subs_eTCtx (S : Sub) (l : List TCtx) : (List.map eTCtx l).map (subs S) = List.map eTCtx l := subs_map S l eTCtx (fun _ => rfl)
def eTValue (x : TValue) : List AV := [.int .i64 x.X, .int .i64 x.Y, .int .i64 x.Wide, .int .i64 x.High]
theorem subs_eTValue (S : Sub) (l : List TValue) : (List.map eTValue l).map (subs S) = List.map eTValue l := subs_map S l eTValue (fun _ => rfl)
def eTTwo (x : TTwo) : List AV := [.int .i64 x.Second, .int .i64 x.A.X, .int .i64 x.A.Y, .int .i64 x.A.Wide, .int .i64 x.A.High, .int .i64 x.B.X, .int .i64 x.B.Y, .int .i64 x.B.Wide, .int .i64 x.B.High]
theorem subs_eTTwo (S : Sub) (l : List TTwo) : (List.map eTTwo l).map (subs S) = List.map eTTwo l := subs_map S l eTTwo (fun _ => rfl)
def eLTTwo (x : List TTwo) : List AV := [.vec false (List.map eTTwo x)]
theorem subs_eLTTwo (S : Sub) (l : List (List TTwo)) : (List.map eLTTwo l).map (subs S) = List.map eLTTwo l := subs_map S l eLTTwo (fun _ => rfl)
def eTClass (x : TClass) : List AV := [.int .i64 x.From, .int .i64 x.To, .int .i64 x.Class]
theorem subs_eTClass (S : Sub) (l : List TClass) : (List.map eTClass l).map (subs S) = List.map eTClass l := subs_map S l eTClass (fun _ => rfl)
def eTArr2_TAnchor (x : TArr2_TAnchor) : List AV := [.bool x.e0.Is, .int .i64 x.e0.X, .int .i64 x.e0.Y, .bool x.e1.Is, .int .i64 x.e1.X, .int .i64 x.e1.Y]
theorem subs_eTArr2_TAnchor (S : Sub) (l : List TArr2_TAnchor) : (List.map eTArr2_TAnchor l).map (subs S) = List.map eTArr2_TAnchor l := subs_map S l eTArr2_TAnchor (fun _ => rfl)
def eTMark (x : TMark) : List AV := [.int .i64 x.Class, .bool x.At.Is, .int .i64 x.At.X, .int .i64 x.At.Y]
theorem subs_eTMark (S : Sub) (l : List TMark) : (List.map eTMark l).map (subs S) = List.map eTMark l := subs_map S l eTMark (fun _ => rfl)
def eTAnchor (x : TAnchor) : List AV := [.bool x.Is, .int .i64 x.X, .int .i64 x.Y]
theorem subs_eTAnchor (S : Sub) (l : List TAnchor) : (List.map eTAnchor l).map (subs S) = List.map eTAnchor l := subs_map S l eTAnchor (fun _ => rfl)
def eLTAnchor (x : List TAnchor) : List AV := [.vec false (List.map eTAnchor x)]
theorem subs_eLTAnchor (S : Sub) (l : List (List TAnchor)) : (List.map eLTAnchor l).map (subs S) = List.map eLTAnchor l := subs_map S l eLTAnchor (fun _ => rfl)
def eLLTAnchor (x : List (List TAnchor)) : List AV := [.vec false (List.map eLTAnchor x)]
theorem subs_eLLTAnchor (S : Sub) (l : List (List (List TAnchor))) : (List.map eLLTAnchor l).map (subs S) = List.map eLLTAnchor l := subs_map S l eLLTAnchor (fun _ => rfl)
def eLTSet (x : List TSet) : List AV := [.vec false (List.map eTSet x)]
theorem subs_eLTSet (S : Sub) (l : List (List TSet)) : (List.map eLTSet l).map (subs S) = List.map eLTSet l := subs_map S l eLTSet (fun _ => rfl)
def eTSub (x : TSub) : List AV := [.int .i64 x.Kind, .vec false (List.map eTSpan x.Cover), .bool x.ByDelta, .int .i64 x.Delta, .vec false (List.map eLI64 x.To), .vec false (List.map eLTLig x.Ligs), .vec false (List.map eTCtx x.Ctxs), .vec false (List.map eTValue x.Vals), .vec false (List.map eLTTwo x.Pairs), .vec false (List.map eTClass x.First), .vec false (List.map eTClass x.Second), .vec false (List.map eLTTwo x.Grid), .vec false (List.map eTArr2_TAnchor x.Curs), .vec false (List.map eTMark x.Marks), .vec false (List.map eTSpan x.Base), .vec false (List.map eLLTAnchor x.Bases)]
theorem subs_eTSub (S : Sub) (l : List TSub) : (List.map eTSub l).map (subs S) = List.map eTSub l := subs_map S l eTSub (fun _ => rfl)
attribute [local go_sem] subs_eTSpan subs_eI64 subs_eLI64 subs_eTLig subs_eLTLig subs_eTSet subs_eTAct subs_eTCtx subs_eTValue subs_eTTwo subs_eLTTwo subs_eTClass subs_eTArr2_TAnchor subs_eTMark subs_eTAnchor subs_eLTAnchor subs_eLLTAnchor subs_eLTSet subs_eTSub
def A39r : ACode := match A39 with | .seq _ r => r | _ => .skip
def R39 : Nat × Nat × Nat × ACode × Nat := (39, 5, 2, A39r, 17)
theorem rc39 : RcvOk Go.Proofs.Try.prog R39 := ⟨Go.Proofs.Try.f39, Go.Proofs.Try.func39, n39, by kernel_rfl, Go.Proofs.Try.ntmps39, by kernel_rfl, by decide, by decide⟩
def A94r : ACode := match A94 with | .seq _ r => r | _ => .skip
def R94 : Nat × Nat × Nat × ACode × Nat := (94, 5, 2, A94r, 16)
theorem rc94 : RcvOk Go.Proofs.Try.prog R94 := ⟨Go.Proofs.Try.f94, Go.Proofs.Try.func94, n94, by kernel_rfl, Go.Proofs.Try.ntmps94, by kernel_rfl, by decide, by decide⟩
def tab_alive13 : List (Nat × ACode × Nat × List RV) := [E15, E18, E19, E21, E38, E39, E40, E41, E46, E47, E64, E65, E66, E67, E68, E69, E70, E71, E72, E79, E84, E85, E86, E87, E88, E89, E90, E91, E92, E93, E94, E95, E96, E97, E98, E99, E100, E101, E103, E104, E105, E106, E107, E108, E110, E111, E112, E113, E114, E115, E116, E117, E118, E119, E120, E121, E122, E123, E124, E125, E126, E127, E128, E130, E131]
theorem tab_alive13_ok : AllOk Go.Proofs.Try.prog tab_alive13 := ⟨e15, e18, e19, e21, e38, e39, e40, e41, e46, e47, e64, e65, e66, e67, e68, e69, e70, e71, e72, e79, e84, e85, e86, e87, e88, e89, e90, e91, e92, e93, e94, e95, e96, e97, e98, e99, e100, e101, e103, e104, e105, e106, e107, e108, e110, e111, e112, e113, e114, e115, e116, e117, e118, e119, e120, e121, e122, e123, e124, e125, e126, e127, e128, e130, e131, trivial⟩
theorem alive13 : ACalls Go.Proofs.Try.prog 18 [] [] fun e H => H = [] ∧ e = .ret (.bool true) := ACalls.toldR (m := 300) (n := 20) (r := [R39, R94]) tab_alive13_ok ⟨rc39, rc94, trivial⟩ (by decide +kernel)
def B7_1 : ACode := match A7 with | (.seq _ (.seq _ (.seq _ (.seq (.seq _ (.block _ (.loop b))) _)))) => b | _ => .skip
def B19_1 : ACode := match A19 with | (.seq _ (.seq _ (.seq (.seq _ (.block _ (.loop b))) _))) => b | _ => .skip
def B19_2 : ACode := match B19_1 with | (.seq _ (.seq _ (.seq (.block _ (.seq _ (.seq _ (.block _ (.loop b))))) _))) => b | _ => .skip
def B19_3 : ACode := match A19 with | (.seq _ (.seq _ (.seq _ (.seq (.seq _ (.block _ (.loop b))) _)))) => b | _ => .skip
def B19_4 : ACode := match B19_3 with | (.seq _ (.seq _ (.seq (.block _ (.seq _ (.seq _ (.seq _ (.block _ (.loop b)))))) _))) => b | _ => .skip
def B15_1 : ACode := match A15 with | (.seq _ (.seq _ (.seq _ (.seq (.seq _ (.block _ (.loop b))) _)))) => b | _ => .skip
def B15_2 : ACode := match A15 with | (.seq _ (.seq _ (.seq _ (.seq _ (.seq (.seq _ (.block _ (.loop b))) _))))) => b | _ => .skip
def B15_3 : ACode := match B15_2 with | (.seq _ (.seq _ (.seq (.block _ (.seq _ (.seq _ (.seq _ (.block _ (.loop b)))))) _))) => b | _ => .skip
def B15_4 : ACode := match A15 with | (.seq _ (.seq _ (.seq _ (.seq _ (.seq _ (.seq (.seq _ (.block _ (.loop b))) _)))))) => b | _ => .skip
def B15_5 : ACode := match B15_4 with | (.seq _ (.seq _ (.seq (.block _ (.seq _ (.seq (.seq _ (.block _ (.loop b))) _))) _))) => b | _ => .skip
def B15_6 : ACode := match B15_5 with | (.seq _ (.seq _ (.seq (.block _ (.seq _ (.seq _ (.block _ (.loop b))))) _))) => b | _ => .skip
def B20_1 : ACode := match A20 with | (.seq _ (.seq _ (.seq (.seq _ (.block _ (.loop b))) _))) => b | _ => .skip
def B20_2 : ACode := match A20 with | (.seq _ (.seq _ (.seq _ (.seq (.seq _ (.block _ (.loop b))) _)))) => b | _ => .skip
def B20_3 : ACode := match A20 with | (.seq _ (.seq _ (.seq _ (.seq _ (.seq (.seq _ (.block _ (.loop b))) _))))) => b | _ => .skip
def B20_4 : ACode := match B20_3 with | (.seq _ (.seq (.block _ (.seq _ (.seq _ (.block _ (.loop b))))) _)) => b | _ => .skip
def B16_1 : ACode := match A16 with | (.seq _ (.seq _ (.seq (.seq _ (.block _ (.loop b))) _))) => b | _ => .skip
def B16_2 : ACode := match A16 with | (.seq _ (.seq _ (.seq _ (.seq (.seq _ (.block _ (.loop b))) _)))) => b | _ => .skip
def B16_3 : ACode := match B16_2 with | (.seq _ (.seq (.block _ (.seq _ (.seq _ (.block _ (.loop b))))) _)) => b | _ => .skip
def B16_4 : ACode := match A16 with | (.seq _ (.seq _ (.seq _ (.seq _ (.seq (.seq _ (.block _ (.loop b))) _))))) => b | _ => .skip
def B16_5 : ACode := match B16_4 with | (.seq _ (.seq (.block _ (.seq _ (.seq _ (.block _ (.loop b))))) _)) => b | _ => .skip
def B16_6 : ACode := match B16_5 with | (.seq _ (.seq (.block _ (.seq _ (.seq _ (.seq _ (.seq _ (.block _ (.loop b))))))) _)) => b | _ => .skip
theorem law13_GposThings_L1_w (N : Nat) (a_0 : Int) (l_1 : List TSpan) (b_2 : Bool) (a_3 : Int) (l_4 : List (List Int)) (l_5 : List (List TLig)) (l_6 : List TCtx) (l_7 : List TValue) (l_8 : List (List TTwo)) (l_9 : List TClass) (l_10 : List TClass) (l_11 : List (List TTwo)) (l_12 : List TArr2_TAnchor) (l_13 : List TMark) (l_14 : List TSpan) (l_15 : List (List (List TAnchor))) (c_0 : Bool) (c_1 : Bool) (c_2 : Bool) (c_3 : Bool) (c_4 : Bool) (c_5 : Bool) (c_6 : Bool) (c_7 : Bool) (c_8 : Bool) (c_9 : Bool) (c_10 : Bool) (c_11 : Bool) (c_12 : Bool) {R : AExit → ATm → List AObj → Prop} : ∀ (n : Nat) (i_9 : Int) (o : (Unit) ⊕ (Unit)), law13_GposThings_L1 N a_0 l_1 b_2 a_3 l_4 l_5 l_6 l_7 l_8 l_9 l_10 l_11 l_12 l_13 l_14 l_15 n i_9 = some o → (match o with | .inl _ => R (.exit 0) ⟨68, [(1, .ptr 0 0 0)], []⟩ [.box [.int .i64 a_0, .vec c_0 (List.map eTSpan l_1), .bool b_2, .int .i64 a_3, .vec c_1 (List.map eLI64 l_4), .vec c_2 (List.map eLTLig l_5), .vec c_3 (List.map eTCtx l_6), .vec c_4 (List.map eTValue l_7), .vec c_5 (List.map eLTTwo l_8), .vec c_6 (List.map eTClass l_9), .vec c_7 (List.map eTClass l_10), .vec c_8 (List.map eLTTwo l_11), .vec c_9 (List.map eTArr2_TAnchor l_12), .vec c_10 (List.map eTMark l_13), .vec c_11 (List.map eTSpan l_14), .vec c_12 (List.map eLLTAnchor l_15)] 35] | .inr (_) => R .ret ⟨68, [(2, .bool true)], []⟩ []) →
    ALp Go.Proofs.Try.prog 0 B7_1 ⟨68, [(1, .ptr 0 0 0), (3, .int .i64 i_9)], []⟩ [.box [.int .i64 a_0, .vec c_0 (List.map eTSpan l_1), .bool b_2, .int .i64 a_3, .vec c_1 (List.map eLI64 l_4), .vec c_2 (List.map eLTLig l_5), .vec c_3 (List.map eTCtx l_6), .vec c_4 (List.map eTValue l_7), .vec c_5 (List.map eLTTwo l_8), .vec c_6 (List.map eTClass l_9), .vec c_7 (List.map eTClass l_10), .vec c_8 (List.map eLTTwo l_11), .vec c_9 (List.map eTArr2_TAnchor l_12), .vec c_10 (List.map eTMark l_13), .vec c_11 (List.map eTSpan l_14), .vec c_12 (List.map eLLTAnchor l_15)] 35] R := by
  intro n
  induction n with
  | zero =>
    intro i_9 o h _
    have h0 : none = some o := h
    cases h0
  | succ n ih =>
    intro i_9 o h hp
    rw [law13_GposThings_L1] at h
    refine ALp.round ?_
    generalize hQ : RoundQ _ _ _ _ = QQ
    simp only [B7_1, A7, go_sem, reduceIte, reduceCtorEq, Nat.reduceEqDiff, Nat.reduceLT, Nat.reduceLeDiff, Nat.reduceAdd, Nat.reduceSub, Nat.reduceMul, Int.reduceToNat, Int.reduceLE, Int.reduceLT, Int.reduceAdd, Int.reduceSub, Int.reduceMul, Int.reduceEq, Int.reduceNeg]
    by_cases h_10 : i_9 < (l_6.length : Int)
    · rw [if_pos h_10] at h
      have e_11 : (i_9 < (l_6.length : Int)) = True := eq_true h_10
      obtain ⟨x_12, h_13, h⟩ := bindS h
      have e_14 : (List.map eTCtx l_6)[(i_9).toNat]? = some [.vec false (List.map eTSet x_12.Back), .vec false (List.map eTSet x_12.In), .vec false (List.map eTSet x_12.Ahead), .vec false (List.map eTAct x_12.Acts)] := atI_map eTCtx h_13
      have e_15 : ((0 : Int) ≤ i_9) = True := eq_true (atI_some h_13).1
      have e_16 : ((i_9 : Int) < (l_6.length : Int)) = True := eq_true (atI_lt h_13)
      simp only [e_11, e_14, e_15, e_16, go_sem, reduceIte, reduceCtorEq, Nat.reduceEqDiff, Nat.reduceLT, Nat.reduceLeDiff, Nat.reduceAdd, Nat.reduceSub, Nat.reduceMul, Int.reduceToNat, Int.reduceLE, Int.reduceLT, Int.reduceAdd, Int.reduceSub, Int.reduceMul, Int.reduceEq, Int.reduceNeg]
      by_cases h_17 : 100 < (x_12.Back.length : Int)
      · rw [if_pos h_17] at h
        have e_18 : (100 < (x_12.Back.length : Int)) = True := eq_true h_17
        simp only [e_11, e_14, e_15, e_16, e_18, go_sem, reduceIte, reduceCtorEq, Nat.reduceEqDiff, Nat.reduceLT, Nat.reduceLeDiff, Nat.reduceAdd, Nat.reduceSub, Nat.reduceMul, Int.reduceToNat, Int.reduceLE, Int.reduceLT, Int.reduceAdd, Int.reduceSub, Int.reduceMul, Int.reduceEq, Int.reduceNeg]
        have g := Option.some.inj h
        subst g
        rw [← hQ]
        exact ⟨_, _, (Ref.out [2] rfl), hp⟩
      · rw [if_neg h_17] at h
        have e_18 : (100 < (x_12.Back.length : Int)) = False := eq_false h_17
        simp only [e_11, e_14, e_15, e_16, e_18, go_sem, reduceIte, reduceCtorEq, Nat.reduceEqDiff, Nat.reduceLT, Nat.reduceLeDiff, Nat.reduceAdd, Nat.reduceSub, Nat.reduceMul, Int.reduceToNat, Int.reduceLE, Int.reduceLT, Int.reduceAdd, Int.reduceSub, Int.reduceMul, Int.reduceEq, Int.reduceNeg]
        by_cases h_19 : 100 < (x_12.In.length : Int)
        · rw [if_pos h_19] at h
          have e_20 : (100 < (x_12.In.length : Int)) = True := eq_true h_19
          simp only [e_11, e_14, e_15, e_16, e_18, e_20, go_sem, reduceIte, reduceCtorEq, Nat.reduceEqDiff, Nat.reduceLT, Nat.reduceLeDiff, Nat.reduceAdd, Nat.reduceSub, Nat.reduceMul, Int.reduceToNat, Int.reduceLE, Int.reduceLT, Int.reduceAdd, Int.reduceSub, Int.reduceMul, Int.reduceEq, Int.reduceNeg]
          have g := Option.some.inj h
          subst g
          rw [← hQ]
          exact ⟨_, _, (Ref.out [2] rfl), hp⟩
        · rw [if_neg h_19] at h
          have e_20 : (100 < (x_12.In.length : Int)) = False := eq_false h_19
          simp only [e_11, e_14, e_15, e_16, e_18, e_20, go_sem, reduceIte, reduceCtorEq, Nat.reduceEqDiff, Nat.reduceLT, Nat.reduceLeDiff, Nat.reduceAdd, Nat.reduceSub, Nat.reduceMul, Int.reduceToNat, Int.reduceLE, Int.reduceLT, Int.reduceAdd, Int.reduceSub, Int.reduceMul, Int.reduceEq, Int.reduceNeg]
          by_cases h_21 : 100 < (x_12.Ahead.length : Int)
          · rw [if_pos h_21] at h
            have e_22 : (100 < (x_12.Ahead.length : Int)) = True := eq_true h_21
            simp only [e_11, e_14, e_15, e_16, e_18, e_20, e_22, go_sem, reduceIte, reduceCtorEq, Nat.reduceEqDiff, Nat.reduceLT, Nat.reduceLeDiff, Nat.reduceAdd, Nat.reduceSub, Nat.reduceMul, Int.reduceToNat, Int.reduceLE, Int.reduceLT, Int.reduceAdd, Int.reduceSub, Int.reduceMul, Int.reduceEq, Int.reduceNeg]
            have g := Option.some.inj h
            subst g
            rw [← hQ]
            exact ⟨_, _, (Ref.out [2] rfl), hp⟩
          · rw [if_neg h_21] at h
            have e_22 : (100 < (x_12.Ahead.length : Int)) = False := eq_false h_21
            simp only [e_11, e_14, e_15, e_16, e_18, e_20, e_22, go_sem, reduceIte, reduceCtorEq, Nat.reduceEqDiff, Nat.reduceLT, Nat.reduceLeDiff, Nat.reduceAdd, Nat.reduceSub, Nat.reduceMul, Int.reduceToNat, Int.reduceLE, Int.reduceLT, Int.reduceAdd, Int.reduceSub, Int.reduceMul, Int.reduceEq, Int.reduceNeg]
            rw [← hQ]
            exact ⟨_, _, (Ref.std [1, 3] [0] (by decide) low0 rfl (by first | rfl | simp only [go_sem, reduceIte, Nat.reduceEqDiff, Nat.reduceAdd, e_11, e_18, e_20, e_22])), (Nat.zero_le _), ih _ _ h hp⟩
    · rw [if_neg h_10] at h
      have e_11 : (i_9 < (l_6.length : Int)) = False := eq_false h_10
      simp only [e_11, go_sem, reduceIte, reduceCtorEq, Nat.reduceEqDiff, Nat.reduceLT, Nat.reduceLeDiff, Nat.reduceAdd, Nat.reduceSub, Nat.reduceMul, Int.reduceToNat, Int.reduceLE, Int.reduceLT, Int.reduceAdd, Int.reduceSub, Int.reduceMul, Int.reduceEq, Int.reduceNeg]
      have g := Option.some.inj h
      subst g
      rw [← hQ]
      exact ⟨_, _, (Ref.std [1] [0] (by decide) low0 rfl (by first | rfl | simp only [go_sem, reduceIte, Nat.reduceEqDiff, Nat.reduceAdd, e_11])), hp⟩
theorem gsub_Things_1_w (N : Nat) (a_0 : Int) (a_1 : Int) (h : gsub_Things_1 N a_0 a_1 = some ()) :
    ACalls Go.Proofs.Try.prog 38 [.int .i64 a_0, .ptr 0 0 0] [.box [.int .i64 a_1] 3] (fun e H => H = [.box [.int .i64 (min (IntKind.i64.wrap (a_1 + a_0)) 20001)] 3] ∧ e = .ret (.tup [])) := by
  unfold gsub_Things_1 at h
  refine ACalls.goN Go.Proofs.Try.func38 n38 a38 Go.Proofs.Try.ntmps38 r38 (by simp) 1 rfl ?_
  generalize hQ : bodyA _ _ _ = QQ
  simp only [A38, go_sem, reduceIte, reduceCtorEq, Nat.reduceEqDiff, Nat.reduceLT, Nat.reduceLeDiff, Nat.reduceAdd, Nat.reduceSub, Nat.reduceMul, Int.reduceToNat, Int.reduceLE, Int.reduceLT, Int.reduceAdd, Int.reduceSub, Int.reduceMul, Int.reduceEq, Int.reduceNeg]
  rw [← hQ]
  exact ⟨rfl, _, rfl, _, _, (RefV.std [0] (by decide) (by decide) rfl (by first | rfl | simp only [go_sem, reduceIte, Nat.reduceEqDiff, Nat.reduceAdd])), rfl, rfl⟩
theorem gsub_Things_L1_w (N : Nat) (l_4 : List (List Int)) (a_0 : Int) (l_1 : List TSpan) (b_2 : Bool) (a_3 : Int) (l_5 : List (List TLig)) (l_6 : List TCtx) (l_7 : List TValue) (l_8 : List (List TTwo)) (l_9 : List TClass) (l_10 : List TClass) (l_11 : List (List TTwo)) (l_12 : List TArr2_TAnchor) (l_13 : List TMark) (l_14 : List TSpan) (l_15 : List (List (List TAnchor))) (c_1 : Bool) (c_0 : Bool) (c_2 : Bool) (c_3 : Bool) (c_4 : Bool) (c_5 : Bool) (c_6 : Bool) (c_7 : Bool) (c_8 : Bool) (c_9 : Bool) (c_10 : Bool) (c_11 : Bool) (c_12 : Bool) {R : AExit → ATm → List AObj → Prop} : ∀ (n : Nat) (i_1 : Int) (i_2 : Int) (o : Int), gsub_Things_L1 N l_4 a_0 l_1 b_2 a_3 l_5 l_6 l_7 l_8 l_9 l_10 l_11 l_12 l_13 l_14 l_15 n i_1 i_2 = some o → (match o with | z_1 => R (.exit 0) ⟨94, [(1, .ptr 0 0 0), (3, .ptr 1 0 0), (4, .fn (.func 38) [] [.ptr 1 0 0])], []⟩ [.box [.int .i64 a_0, .vec c_0 (List.map eTSpan l_1), .bool b_2, .int .i64 a_3, .vec c_1 (List.map eLI64 l_4), .vec c_2 (List.map eLTLig l_5), .vec c_3 (List.map eTCtx l_6), .vec c_4 (List.map eTValue l_7), .vec c_5 (List.map eLTTwo l_8), .vec c_6 (List.map eTClass l_9), .vec c_7 (List.map eTClass l_10), .vec c_8 (List.map eLTTwo l_11), .vec c_9 (List.map eTArr2_TAnchor l_12), .vec c_10 (List.map eTMark l_13), .vec c_11 (List.map eTSpan l_14), .vec c_12 (List.map eLLTAnchor l_15)] 35, .box [.int .i64 z_1] 3]) →
    ALp Go.Proofs.Try.prog 0 B15_1 ⟨94, [(1, .ptr 0 0 0), (3, .ptr 1 0 0), (4, .fn (.func 38) [] [.ptr 1 0 0]), (19, .vec c_1 (List.map eLI64 l_4)), (20, .int .i64 (l_4.length : Int)), (21, .int .i64 i_1)], []⟩ [.box [.int .i64 a_0, .vec c_0 (List.map eTSpan l_1), .bool b_2, .int .i64 a_3, .vec c_1 (List.map eLI64 l_4), .vec c_2 (List.map eLTLig l_5), .vec c_3 (List.map eTCtx l_6), .vec c_4 (List.map eTValue l_7), .vec c_5 (List.map eLTTwo l_8), .vec c_6 (List.map eTClass l_9), .vec c_7 (List.map eTClass l_10), .vec c_8 (List.map eLTTwo l_11), .vec c_9 (List.map eTArr2_TAnchor l_12), .vec c_10 (List.map eTMark l_13), .vec c_11 (List.map eTSpan l_14), .vec c_12 (List.map eLLTAnchor l_15)] 35, .box [.int .i64 i_2] 3] R := by
  intro n
  induction n with
  | zero =>
    intro i_1 i_2 o h _
    have h0 : none = some o := h
    cases h0
  | succ n ih =>
    intro i_1 i_2 o h hp
    rw [gsub_Things_L1] at h
    refine ALp.round ?_
    generalize hQ : RoundQ _ _ _ _ = QQ
    simp only [B15_1, A15, go_sem, reduceIte, reduceCtorEq, Nat.reduceEqDiff, Nat.reduceLT, Nat.reduceLeDiff, Nat.reduceAdd, Nat.reduceSub, Nat.reduceMul, Int.reduceToNat, Int.reduceLE, Int.reduceLT, Int.reduceAdd, Int.reduceSub, Int.reduceMul, Int.reduceEq, Int.reduceNeg]
    by_cases h_3 : i_1 < (l_4.length : Int)
    · rw [if_pos h_3] at h
      have e_4 : (i_1 < (l_4.length : Int)) = True := eq_true h_3
      obtain ⟨x_5, h_6, h⟩ := bindS h
      have e_7 : (List.map eLI64 l_4)[(i_1).toNat]? = some [.vec false (List.map eI64 x_5)] := atI_map eLI64 h_6
      have e_8 : ((0 : Int) ≤ i_1) = True := eq_true (atI_some h_6).1
      have e_9 : ((i_1 : Int) < (l_4.length : Int)) = True := eq_true (atI_lt h_6)
      obtain ⟨_, h_10, h⟩ := bindS h
      simp only [e_4, e_7, e_8, e_9, go_sem, reduceIte, reduceCtorEq, Nat.reduceEqDiff, Nat.reduceLT, Nat.reduceLeDiff, Nat.reduceAdd, Nat.reduceSub, Nat.reduceMul, Int.reduceToNat, Int.reduceLE, Int.reduceLT, Int.reduceAdd, Int.reduceSub, Int.reduceMul, Int.reduceEq, Int.reduceNeg]
      refine ACalls.use (gsub_Things_1_w N _ _ h_10) [1] (by decide) ⟨(by first | rfl | simp only [go_sem, reduceIte, Nat.reduceEqDiff, Nat.reduceAdd, e_4]), trivial⟩ rfl (v' := .tup []) (by first | rfl | simp only [go_sem, reduceIte, Nat.reduceEqDiff, Nat.reduceAdd, e_4]) (H' := [.box [.int .i64 a_0, .vec c_0 (List.map eTSpan l_1), .bool b_2, .int .i64 a_3, .vec c_1 (List.map eLI64 l_4), .vec c_2 (List.map eLTLig l_5), .vec c_3 (List.map eTCtx l_6), .vec c_4 (List.map eTValue l_7), .vec c_5 (List.map eLTTwo l_8), .vec c_6 (List.map eTClass l_9), .vec c_7 (List.map eTClass l_10), .vec c_8 (List.map eLTTwo l_11), .vec c_9 (List.map eTArr2_TAnchor l_12), .vec c_10 (List.map eTMark l_13), .vec c_11 (List.map eTSpan l_14), .vec c_12 (List.map eLLTAnchor l_15)] 35, .box [.int .i64 (min (IntKind.i64.wrap (i_2 + (IntKind.i64.wrap ((x_5.length : Int) + 1)))) 20001)] 3]) (by first | rfl | simp only [go_sem, reduceIte, Nat.reduceEqDiff, Nat.reduceAdd, e_4]) ?_
      refine CallK_go (Nat.zero_le _) ?_
      simp only [e_4, e_7, e_8, e_9, go_sem, reduceIte, reduceCtorEq, Nat.reduceEqDiff, Nat.reduceLT, Nat.reduceLeDiff, Nat.reduceAdd, Nat.reduceSub, Nat.reduceMul, Int.reduceToNat, Int.reduceLE, Int.reduceLT, Int.reduceAdd, Int.reduceSub, Int.reduceMul, Int.reduceEq, Int.reduceNeg]
      rw [← hQ]
      exact ⟨_, _, (Ref.std [1, 3, 4, 19, 20, 21] [0, 1] (by decide) low0 rfl (by first | rfl | simp only [go_sem, reduceIte, Nat.reduceEqDiff, Nat.reduceAdd, e_4])), (Nat.zero_le _), ih _ _ _ h hp⟩
    · rw [if_neg h_3] at h
      have e_4 : (i_1 < (l_4.length : Int)) = False := eq_false h_3
      simp only [e_4, go_sem, reduceIte, reduceCtorEq, Nat.reduceEqDiff, Nat.reduceLT, Nat.reduceLeDiff, Nat.reduceAdd, Nat.reduceSub, Nat.reduceMul, Int.reduceToNat, Int.reduceLE, Int.reduceLT, Int.reduceAdd, Int.reduceSub, Int.reduceMul, Int.reduceEq, Int.reduceNeg]
      have g := Option.some.inj h
      subst g
      rw [← hQ]
      exact ⟨_, _, (Ref.std [1, 3, 4] [0, 1] (by decide) low0 rfl (by first | rfl | simp only [go_sem, reduceIte, Nat.reduceEqDiff, Nat.reduceAdd, e_4])), hp⟩
theorem gsub_Things_L3_w (N : Nat) (l_5 : List (List TLig)) (i_1003 : Int) (x_1007 : List TLig) (a_0 : Int) (l_1 : List TSpan) (b_2 : Bool) (a_3 : Int) (l_4 : List (List Int)) (l_6 : List TCtx) (l_7 : List TValue) (l_8 : List (List TTwo)) (l_9 : List TClass) (l_10 : List TClass) (l_11 : List (List TTwo)) (l_12 : List TArr2_TAnchor) (l_13 : List TMark) (l_14 : List TSpan) (l_15 : List (List (List TAnchor))) (c_2 : Bool) (c_0 : Bool) (c_1 : Bool) (c_3 : Bool) (c_4 : Bool) (c_5 : Bool) (c_6 : Bool) (c_7 : Bool) (c_8 : Bool) (c_9 : Bool) (c_10 : Bool) (c_11 : Bool) (c_12 : Bool) {R : AExit → ATm → List AObj → Prop} : ∀ (n : Nat) (i_1013 : Int) (i_1014 : Int) (o : Int), gsub_Things_L3 N l_5 i_1003 x_1007 a_0 l_1 b_2 a_3 l_4 l_6 l_7 l_8 l_9 l_10 l_11 l_12 l_13 l_14 l_15 n i_1013 i_1014 = some o → (match o with | z_1 => R (.exit 4) ⟨94, [(1, .ptr 0 0 0), (3, .ptr 1 0 0), (4, .fn (.func 38) [] [.ptr 1 0 0]), (32, .vec c_2 (List.map eLTLig l_5)), (33, .int .i64 (l_5.length : Int)), (34, .int .i64 i_1003)], []⟩ [.box [.int .i64 a_0, .vec c_0 (List.map eTSpan l_1), .bool b_2, .int .i64 a_3, .vec c_1 (List.map eLI64 l_4), .vec c_2 (List.map eLTLig l_5), .vec c_3 (List.map eTCtx l_6), .vec c_4 (List.map eTValue l_7), .vec c_5 (List.map eLTTwo l_8), .vec c_6 (List.map eTClass l_9), .vec c_7 (List.map eTClass l_10), .vec c_8 (List.map eLTTwo l_11), .vec c_9 (List.map eTArr2_TAnchor l_12), .vec c_10 (List.map eTMark l_13), .vec c_11 (List.map eTSpan l_14), .vec c_12 (List.map eLLTAnchor l_15)] 35, .box [.int .i64 z_1] 3]) →
    ALp Go.Proofs.Try.prog 0 B15_3 ⟨94, [(1, .ptr 0 0 0), (3, .ptr 1 0 0), (4, .fn (.func 38) [] [.ptr 1 0 0]), (32, .vec c_2 (List.map eLTLig l_5)), (33, .int .i64 (l_5.length : Int)), (34, .int .i64 i_1003), (40, .vec false (List.map eTLig x_1007)), (41, .int .i64 (x_1007.length : Int)), (42, .int .i64 i_1013)], []⟩ [.box [.int .i64 a_0, .vec c_0 (List.map eTSpan l_1), .bool b_2, .int .i64 a_3, .vec c_1 (List.map eLI64 l_4), .vec c_2 (List.map eLTLig l_5), .vec c_3 (List.map eTCtx l_6), .vec c_4 (List.map eTValue l_7), .vec c_5 (List.map eLTTwo l_8), .vec c_6 (List.map eTClass l_9), .vec c_7 (List.map eTClass l_10), .vec c_8 (List.map eLTTwo l_11), .vec c_9 (List.map eTArr2_TAnchor l_12), .vec c_10 (List.map eTMark l_13), .vec c_11 (List.map eTSpan l_14), .vec c_12 (List.map eLLTAnchor l_15)] 35, .box [.int .i64 i_1014] 3] R := by
  intro n
  induction n with
  | zero =>
    intro i_1013 i_1014 o h _
    have h0 : none = some o := h
    cases h0
  | succ n ih =>
    intro i_1013 i_1014 o h hp
    rw [gsub_Things_L3] at h
    refine ALp.round ?_
    generalize hQ : RoundQ _ _ _ _ = QQ
    simp only [B15_3, B15_2, A15, go_sem, reduceIte, reduceCtorEq, Nat.reduceEqDiff, Nat.reduceLT, Nat.reduceLeDiff, Nat.reduceAdd, Nat.reduceSub, Nat.reduceMul, Int.reduceToNat, Int.reduceLE, Int.reduceLT, Int.reduceAdd, Int.reduceSub, Int.reduceMul, Int.reduceEq, Int.reduceNeg]
    by_cases h_1015 : i_1013 < (x_1007.length : Int)
    · rw [if_pos h_1015] at h
      have e_1016 : (i_1013 < (x_1007.length : Int)) = True := eq_true h_1015
      obtain ⟨x_1017, h_1018, h⟩ := bindS h
      have e_1019 : (List.map eTLig x_1007)[(i_1013).toNat]? = some [.vec false (List.map eI64 x_1017.Parts), .int .i64 x_1017.To] := atI_map eTLig h_1018
      have e_1020 : ((0 : Int) ≤ i_1013) = True := eq_true (atI_some h_1018).1
      have e_1021 : ((i_1013 : Int) < (x_1007.length : Int)) = True := eq_true (atI_lt h_1018)
      obtain ⟨_, h_1022, h⟩ := bindS h
      simp only [e_1016, e_1019, e_1020, e_1021, go_sem, reduceIte, reduceCtorEq, Nat.reduceEqDiff, Nat.reduceLT, Nat.reduceLeDiff, Nat.reduceAdd, Nat.reduceSub, Nat.reduceMul, Int.reduceToNat, Int.reduceLE, Int.reduceLT, Int.reduceAdd, Int.reduceSub, Int.reduceMul, Int.reduceEq, Int.reduceNeg]
      refine ACalls.use (gsub_Things_1_w N _ _ h_1022) [1] (by decide) ⟨(by first | rfl | simp only [go_sem, reduceIte, Nat.reduceEqDiff, Nat.reduceAdd, e_1016]), trivial⟩ rfl (v' := .tup []) (by first | rfl | simp only [go_sem, reduceIte, Nat.reduceEqDiff, Nat.reduceAdd, e_1016]) (H' := [.box [.int .i64 a_0, .vec c_0 (List.map eTSpan l_1), .bool b_2, .int .i64 a_3, .vec c_1 (List.map eLI64 l_4), .vec c_2 (List.map eLTLig l_5), .vec c_3 (List.map eTCtx l_6), .vec c_4 (List.map eTValue l_7), .vec c_5 (List.map eLTTwo l_8), .vec c_6 (List.map eTClass l_9), .vec c_7 (List.map eTClass l_10), .vec c_8 (List.map eLTTwo l_11), .vec c_9 (List.map eTArr2_TAnchor l_12), .vec c_10 (List.map eTMark l_13), .vec c_11 (List.map eTSpan l_14), .vec c_12 (List.map eLLTAnchor l_15)] 35, .box [.int .i64 (min (IntKind.i64.wrap (i_1014 + (IntKind.i64.wrap ((x_1017.Parts.length : Int) + 1)))) 20001)] 3, .box [.vec false (List.map eI64 x_1017.Parts), .int .i64 x_1017.To] 77]) (by first | rfl | simp only [go_sem, reduceIte, Nat.reduceEqDiff, Nat.reduceAdd, e_1016]) ?_
      refine CallK_go (Nat.zero_le _) ?_
      simp only [e_1016, e_1019, e_1020, e_1021, go_sem, reduceIte, reduceCtorEq, Nat.reduceEqDiff, Nat.reduceLT, Nat.reduceLeDiff, Nat.reduceAdd, Nat.reduceSub, Nat.reduceMul, Int.reduceToNat, Int.reduceLE, Int.reduceLT, Int.reduceAdd, Int.reduceSub, Int.reduceMul, Int.reduceEq, Int.reduceNeg]
      rw [← hQ]
      exact ⟨_, _, (Ref.std [1, 3, 4, 32, 33, 34, 40, 41, 42] [0, 1] (by decide) low0 rfl (by first | rfl | simp only [go_sem, reduceIte, Nat.reduceEqDiff, Nat.reduceAdd, e_1016])), (Nat.zero_le _), ih _ _ _ h hp⟩
    · rw [if_neg h_1015] at h
      have e_1016 : (i_1013 < (x_1007.length : Int)) = False := eq_false h_1015
      simp only [e_1016, go_sem, reduceIte, reduceCtorEq, Nat.reduceEqDiff, Nat.reduceLT, Nat.reduceLeDiff, Nat.reduceAdd, Nat.reduceSub, Nat.reduceMul, Int.reduceToNat, Int.reduceLE, Int.reduceLT, Int.reduceAdd, Int.reduceSub, Int.reduceMul, Int.reduceEq, Int.reduceNeg]
      have g := Option.some.inj h
      subst g
      rw [← hQ]
      exact ⟨_, _, (Ref.std [1, 3, 4, 32, 33, 34] [0, 1] (by decide) low0 rfl (by first | rfl | simp only [go_sem, reduceIte, Nat.reduceEqDiff, Nat.reduceAdd, e_1016])), hp⟩
theorem gsub_Things_L4_w (N : Nat) (l_5 : List (List TLig)) (a_0 : Int) (l_1 : List TSpan) (b_2 : Bool) (a_3 : Int) (l_4 : List (List Int)) (l_6 : List TCtx) (l_7 : List TValue) (l_8 : List (List TTwo)) (l_9 : List TClass) (l_10 : List TClass) (l_11 : List (List TTwo)) (l_12 : List TArr2_TAnchor) (l_13 : List TMark) (l_14 : List TSpan) (l_15 : List (List (List TAnchor))) (c_2 : Bool) (c_0 : Bool) (c_1 : Bool) (c_3 : Bool) (c_4 : Bool) (c_5 : Bool) (c_6 : Bool) (c_7 : Bool) (c_8 : Bool) (c_9 : Bool) (c_10 : Bool) (c_11 : Bool) (c_12 : Bool) {R : AExit → ATm → List AObj → Prop} : ∀ (n : Nat) (i_1003 : Int) (i_1004 : Int) (o : Int), gsub_Things_L4 N l_5 a_0 l_1 b_2 a_3 l_4 l_6 l_7 l_8 l_9 l_10 l_11 l_12 l_13 l_14 l_15 n i_1003 i_1004 = some o → (match o with | z_1 => R (.exit 2) ⟨94, [(1, .ptr 0 0 0), (3, .ptr 1 0 0), (4, .fn (.func 38) [] [.ptr 1 0 0])], []⟩ [.box [.int .i64 a_0, .vec c_0 (List.map eTSpan l_1), .bool b_2, .int .i64 a_3, .vec c_1 (List.map eLI64 l_4), .vec c_2 (List.map eLTLig l_5), .vec c_3 (List.map eTCtx l_6), .vec c_4 (List.map eTValue l_7), .vec c_5 (List.map eLTTwo l_8), .vec c_6 (List.map eTClass l_9), .vec c_7 (List.map eTClass l_10), .vec c_8 (List.map eLTTwo l_11), .vec c_9 (List.map eTArr2_TAnchor l_12), .vec c_10 (List.map eTMark l_13), .vec c_11 (List.map eTSpan l_14), .vec c_12 (List.map eLLTAnchor l_15)] 35, .box [.int .i64 z_1] 3]) →
    ALp Go.Proofs.Try.prog 0 B15_2 ⟨94, [(1, .ptr 0 0 0), (3, .ptr 1 0 0), (4, .fn (.func 38) [] [.ptr 1 0 0]), (32, .vec c_2 (List.map eLTLig l_5)), (33, .int .i64 (l_5.length : Int)), (34, .int .i64 i_1003)], []⟩ [.box [.int .i64 a_0, .vec c_0 (List.map eTSpan l_1), .bool b_2, .int .i64 a_3, .vec c_1 (List.map eLI64 l_4), .vec c_2 (List.map eLTLig l_5), .vec c_3 (List.map eTCtx l_6), .vec c_4 (List.map eTValue l_7), .vec c_5 (List.map eLTTwo l_8), .vec c_6 (List.map eTClass l_9), .vec c_7 (List.map eTClass l_10), .vec c_8 (List.map eLTTwo l_11), .vec c_9 (List.map eTArr2_TAnchor l_12), .vec c_10 (List.map eTMark l_13), .vec c_11 (List.map eTSpan l_14), .vec c_12 (List.map eLLTAnchor l_15)] 35, .box [.int .i64 i_1004] 3] R := by
  intro n
  induction n with
  | zero =>
    intro i_1003 i_1004 o h _
    have h0 : none = some o := h
    cases h0
  | succ n ih =>
    intro i_1003 i_1004 o h hp
    rw [gsub_Things_L4] at h
    refine ALp.round ?_
    generalize hQ : RoundQ _ _ _ _ = QQ
    simp only [B15_2, A15, go_sem, reduceIte, reduceCtorEq, Nat.reduceEqDiff, Nat.reduceLT, Nat.reduceLeDiff, Nat.reduceAdd, Nat.reduceSub, Nat.reduceMul, Int.reduceToNat, Int.reduceLE, Int.reduceLT, Int.reduceAdd, Int.reduceSub, Int.reduceMul, Int.reduceEq, Int.reduceNeg]
    by_cases h_1005 : i_1003 < (l_5.length : Int)
    · rw [if_pos h_1005] at h
      have e_1006 : (i_1003 < (l_5.length : Int)) = True := eq_true h_1005
      obtain ⟨x_1007, h_1008, h⟩ := bindS h
      have e_1009 : (List.map eLTLig l_5)[(i_1003).toNat]? = some [.vec false (List.map eTLig x_1007)] := atI_map eLTLig h_1008
      have e_1010 : ((0 : Int) ≤ i_1003) = True := eq_true (atI_some h_1008).1
      have e_1011 : ((i_1003 : Int) < (l_5.length : Int)) = True := eq_true (atI_lt h_1008)
      obtain ⟨_, h_1012, h⟩ := bindS h
      simp only [e_1006, e_1009, e_1010, e_1011, go_sem, reduceIte, reduceCtorEq, Nat.reduceEqDiff, Nat.reduceLT, Nat.reduceLeDiff, Nat.reduceAdd, Nat.reduceSub, Nat.reduceMul, Int.reduceToNat, Int.reduceLE, Int.reduceLT, Int.reduceAdd, Int.reduceSub, Int.reduceMul, Int.reduceEq, Int.reduceNeg]
      refine ACalls.use (gsub_Things_1_w N _ _ h_1012) [1] (by decide) ⟨(by first | rfl | simp only [go_sem, reduceIte, Nat.reduceEqDiff, Nat.reduceAdd, e_1006]), trivial⟩ rfl (v' := .tup []) (by first | rfl | simp only [go_sem, reduceIte, Nat.reduceEqDiff, Nat.reduceAdd, e_1006]) (H' := [.box [.int .i64 a_0, .vec c_0 (List.map eTSpan l_1), .bool b_2, .int .i64 a_3, .vec c_1 (List.map eLI64 l_4), .vec c_2 (List.map eLTLig l_5), .vec c_3 (List.map eTCtx l_6), .vec c_4 (List.map eTValue l_7), .vec c_5 (List.map eLTTwo l_8), .vec c_6 (List.map eTClass l_9), .vec c_7 (List.map eTClass l_10), .vec c_8 (List.map eLTTwo l_11), .vec c_9 (List.map eTArr2_TAnchor l_12), .vec c_10 (List.map eTMark l_13), .vec c_11 (List.map eTSpan l_14), .vec c_12 (List.map eLLTAnchor l_15)] 35, .box [.int .i64 (min (IntKind.i64.wrap (i_1004 + 1)) 20001)] 3]) (by first | rfl | simp only [go_sem, reduceIte, Nat.reduceEqDiff, Nat.reduceAdd, e_1006]) ?_
      refine CallK_go (Nat.zero_le _) ?_
      simp only [e_1006, e_1009, e_1010, e_1011, go_sem, reduceIte, reduceCtorEq, Nat.reduceEqDiff, Nat.reduceLT, Nat.reduceLeDiff, Nat.reduceAdd, Nat.reduceSub, Nat.reduceMul, Int.reduceToNat, Int.reduceLE, Int.reduceLT, Int.reduceAdd, Int.reduceSub, Int.reduceMul, Int.reduceEq, Int.reduceNeg]
      obtain ⟨y_2014, h_2013, h⟩ := bindS h
      refine ALp.ref (Ref.std [1, 3, 4, 32, 33, 34, 40, 41, 42] [0, 1] (by decide) low0 rfl (by first | rfl | simp only [go_sem, reduceIte, Nat.reduceEqDiff, Nat.reduceAdd, e_1006])) (Nat.zero_le _) (gsub_Things_L3_w N _ _ _ _ _ _ _ _ _ _ _ _ _ _ _ _ _ _ c_2 c_0 c_1 c_3 c_4 c_5 c_6 c_7 c_8 c_9 c_10 c_11 c_12 N _ _ y_2014 h_2013 ?_)
      refine LoopK_go rfl (Nat.zero_le _) ?_
      simp only [e_1006, e_1009, e_1010, e_1011, go_sem, reduceIte, reduceCtorEq, Nat.reduceEqDiff, Nat.reduceLT, Nat.reduceLeDiff, Nat.reduceAdd, Nat.reduceSub, Nat.reduceMul, Int.reduceToNat, Int.reduceLE, Int.reduceLT, Int.reduceAdd, Int.reduceSub, Int.reduceMul, Int.reduceEq, Int.reduceNeg]
      rw [← hQ]
      exact ⟨_, _, (Ref.std [1, 3, 4, 32, 33, 34] [0, 1] (by decide) low0 rfl (by first | rfl | simp only [go_sem, reduceIte, Nat.reduceEqDiff, Nat.reduceAdd, e_1006])), (Nat.zero_le _), ih _ _ _ h hp⟩
    · rw [if_neg h_1005] at h
      have e_1006 : (i_1003 < (l_5.length : Int)) = False := eq_false h_1005
      simp only [e_1006, go_sem, reduceIte, reduceCtorEq, Nat.reduceEqDiff, Nat.reduceLT, Nat.reduceLeDiff, Nat.reduceAdd, Nat.reduceSub, Nat.reduceMul, Int.reduceToNat, Int.reduceLE, Int.reduceLT, Int.reduceAdd, Int.reduceSub, Int.reduceMul, Int.reduceEq, Int.reduceNeg]
      have g := Option.some.inj h
      subst g
      rw [← hQ]
      exact ⟨_, _, (Ref.std [1, 3, 4] [0, 1] (by decide) low0 rfl (by first | rfl | simp only [go_sem, reduceIte, Nat.reduceEqDiff, Nat.reduceAdd, e_1006])), hp⟩
theorem gsub_Things_L9_w (N : Nat) (l_6 : List TCtx) (i_2005 : Int) (x_2009 : TCtx) (i_2014 : Int) (x_2018 : List TSet) (c_3 : Bool) {R : AExit → ATm → List AObj → Prop} : ∀ (n : Nat) (i_2022 : Int) (i_2023 : Int) (o : Int), gsub_Things_L9 N l_6 i_2005 x_2009 i_2014 x_2018 n i_2022 i_2023 = some o → (match o with | z_1 => R (.exit 10) ⟨94, [(3, .ptr 0 0 0), (4, .fn (.func 38) [] [.ptr 0 0 0]), (12, .ptr 1 0 0), (55, .vec c_3 (List.map eTCtx l_6)), (56, .int .i64 (l_6.length : Int)), (57, .int .i64 i_2005), (67, .vec true [[.vec false (List.map eTSet x_2009.Back)], [.vec false (List.map eTSet x_2009.In)], [.vec false (List.map eTSet x_2009.Ahead)]]), (68, .int .i64 3), (69, .int .i64 i_2014)], []⟩ [.box [.int .i64 z_1] 3, .box [.vec false (List.map eTSet x_2009.Back), .vec false (List.map eTSet x_2009.In), .vec false (List.map eTSet x_2009.Ahead), .vec false (List.map eTAct x_2009.Acts)] 45]) →
    ALp Go.Proofs.Try.prog 0 B15_6 ⟨94, [(3, .ptr 0 0 0), (4, .fn (.func 38) [] [.ptr 0 0 0]), (12, .ptr 1 0 0), (55, .vec c_3 (List.map eTCtx l_6)), (56, .int .i64 (l_6.length : Int)), (57, .int .i64 i_2005), (67, .vec true [[.vec false (List.map eTSet x_2009.Back)], [.vec false (List.map eTSet x_2009.In)], [.vec false (List.map eTSet x_2009.Ahead)]]), (68, .int .i64 3), (69, .int .i64 i_2014), (73, .vec false (List.map eTSet x_2018)), (74, .int .i64 (x_2018.length : Int)), (75, .int .i64 i_2022)], []⟩ [.box [.int .i64 i_2023] 3, .box [.vec false (List.map eTSet x_2009.Back), .vec false (List.map eTSet x_2009.In), .vec false (List.map eTSet x_2009.Ahead), .vec false (List.map eTAct x_2009.Acts)] 45] R := by
  intro n
  induction n with
  | zero =>
    intro i_2022 i_2023 o h _
    have h0 : none = some o := h
    cases h0
  | succ n ih =>
    intro i_2022 i_2023 o h hp
    rw [gsub_Things_L9] at h
    refine ALp.round ?_
    generalize hQ : RoundQ _ _ _ _ = QQ
    simp only [B15_6, B15_5, B15_4, A15, go_sem, reduceIte, reduceCtorEq, Nat.reduceEqDiff, Nat.reduceLT, Nat.reduceLeDiff, Nat.reduceAdd, Nat.reduceSub, Nat.reduceMul, Int.reduceToNat, Int.reduceLE, Int.reduceLT, Int.reduceAdd, Int.reduceSub, Int.reduceMul, Int.reduceEq, Int.reduceNeg]
    by_cases h_2024 : i_2022 < (x_2018.length : Int)
    · rw [if_pos h_2024] at h
      have e_2025 : (i_2022 < (x_2018.length : Int)) = True := eq_true h_2024
      obtain ⟨x_2026, h_2027, h⟩ := bindS h
      have e_2028 : (List.map eTSet x_2018)[(i_2022).toNat]? = some [.vec false (List.map eTSpan x_2026.Spans), .bool x_2026.Not] := atI_map eTSet h_2027
      have e_2029 : ((0 : Int) ≤ i_2022) = True := eq_true (atI_some h_2027).1
      have e_2030 : ((i_2022 : Int) < (x_2018.length : Int)) = True := eq_true (atI_lt h_2027)
      obtain ⟨_, h_2031, h⟩ := bindS h
      simp only [e_2025, e_2028, e_2029, e_2030, go_sem, reduceIte, reduceCtorEq, Nat.reduceEqDiff, Nat.reduceLT, Nat.reduceLeDiff, Nat.reduceAdd, Nat.reduceSub, Nat.reduceMul, Int.reduceToNat, Int.reduceLE, Int.reduceLT, Int.reduceAdd, Int.reduceSub, Int.reduceMul, Int.reduceEq, Int.reduceNeg]
      refine ACalls.use (gsub_Things_1_w N _ _ h_2031) [0] (by decide) ⟨(by first | rfl | simp only [go_sem, reduceIte, Nat.reduceEqDiff, Nat.reduceAdd, e_2025]), trivial⟩ rfl (v' := .tup []) (by first | rfl | simp only [go_sem, reduceIte, Nat.reduceEqDiff, Nat.reduceAdd, e_2025]) (H' := [.box [.int .i64 (min (IntKind.i64.wrap (i_2023 + (IntKind.i64.wrap ((x_2026.Spans.length : Int) + 1)))) 20001)] 3, .box [.vec false (List.map eTSet x_2009.Back), .vec false (List.map eTSet x_2009.In), .vec false (List.map eTSet x_2009.Ahead), .vec false (List.map eTAct x_2009.Acts)] 45, .box [.vec false (List.map eTSpan x_2026.Spans), .bool x_2026.Not] 85]) (by first | rfl | simp only [go_sem, reduceIte, Nat.reduceEqDiff, Nat.reduceAdd, e_2025]) ?_
      refine CallK_go (Nat.zero_le _) ?_
      simp only [e_2025, e_2028, e_2029, e_2030, go_sem, reduceIte, reduceCtorEq, Nat.reduceEqDiff, Nat.reduceLT, Nat.reduceLeDiff, Nat.reduceAdd, Nat.reduceSub, Nat.reduceMul, Int.reduceToNat, Int.reduceLE, Int.reduceLT, Int.reduceAdd, Int.reduceSub, Int.reduceMul, Int.reduceEq, Int.reduceNeg]
      rw [← hQ]
      exact ⟨_, _, (Ref.std [3, 4, 12, 55, 56, 57, 67, 68, 69, 73, 74, 75] [0, 1] (by decide) low0 rfl rfl), (Nat.zero_le _), ih _ _ _ h hp⟩
    · rw [if_neg h_2024] at h
      have e_2025 : (i_2022 < (x_2018.length : Int)) = False := eq_false h_2024
      simp only [e_2025, go_sem, reduceIte, reduceCtorEq, Nat.reduceEqDiff, Nat.reduceLT, Nat.reduceLeDiff, Nat.reduceAdd, Nat.reduceSub, Nat.reduceMul, Int.reduceToNat, Int.reduceLE, Int.reduceLT, Int.reduceAdd, Int.reduceSub, Int.reduceMul, Int.reduceEq, Int.reduceNeg]
      have g := Option.some.inj h
      subst g
      rw [← hQ]
      exact ⟨_, _, (Ref.std [3, 4, 12, 55, 56, 57, 67, 68, 69] [0, 1] (by decide) low0 rfl rfl), hp⟩
theorem gsub_Things_L10_w (N : Nat) (l_6 : List TCtx) (i_2005 : Int) (x_2009 : TCtx) (c_3 : Bool) {R : AExit → ATm → List AObj → Prop} : ∀ (n : Nat) (i_2014 : Int) (i_2015 : Int) (o : Int), gsub_Things_L10 N l_6 i_2005 x_2009 n i_2014 i_2015 = some o → (match o with | z_1 => R (.exit 8) ⟨94, [(3, .ptr 0 0 0), (4, .fn (.func 38) [] [.ptr 0 0 0]), (12, .ptr 1 0 0), (55, .vec c_3 (List.map eTCtx l_6)), (56, .int .i64 (l_6.length : Int)), (57, .int .i64 i_2005)], []⟩ [.box [.int .i64 z_1] 3, .box [.vec false (List.map eTSet x_2009.Back), .vec false (List.map eTSet x_2009.In), .vec false (List.map eTSet x_2009.Ahead), .vec false (List.map eTAct x_2009.Acts)] 45]) →
    ALp Go.Proofs.Try.prog 0 B15_5 ⟨94, [(3, .ptr 0 0 0), (4, .fn (.func 38) [] [.ptr 0 0 0]), (12, .ptr 1 0 0), (55, .vec c_3 (List.map eTCtx l_6)), (56, .int .i64 (l_6.length : Int)), (57, .int .i64 i_2005), (67, .vec true [[.vec false (List.map eTSet x_2009.Back)], [.vec false (List.map eTSet x_2009.In)], [.vec false (List.map eTSet x_2009.Ahead)]]), (68, .int .i64 3), (69, .int .i64 i_2014)], []⟩ [.box [.int .i64 i_2015] 3, .box [.vec false (List.map eTSet x_2009.Back), .vec false (List.map eTSet x_2009.In), .vec false (List.map eTSet x_2009.Ahead), .vec false (List.map eTAct x_2009.Acts)] 45] R := by
  intro n
  induction n with
  | zero =>
    intro i_2014 i_2015 o h _
    have h0 : none = some o := h
    cases h0
  | succ n ih =>
    intro i_2014 i_2015 o h hp
    rw [gsub_Things_L10] at h
    refine ALp.round ?_
    generalize hQ : RoundQ _ _ _ _ = QQ
    simp only [B15_5, B15_4, A15, go_sem, reduceIte, reduceCtorEq, Nat.reduceEqDiff, Nat.reduceLT, Nat.reduceLeDiff, Nat.reduceAdd, Nat.reduceSub, Nat.reduceMul, Int.reduceToNat, Int.reduceLE, Int.reduceLT, Int.reduceAdd, Int.reduceSub, Int.reduceMul, Int.reduceEq, Int.reduceNeg]
    by_cases h_2016 : i_2014 < 3
    · rw [if_pos h_2016] at h
      have e_2017 : (i_2014 < 3) = True := eq_true h_2016
      obtain ⟨x_2018, h_2019, h⟩ := bindS h
      have e_2020 : ([[.vec false (List.map eTSet x_2009.Back)], [.vec false (List.map eTSet x_2009.In)], [.vec false (List.map eTSet x_2009.Ahead)]] : List (List AV))[(i_2014).toNat]? = some [.vec false (List.map eTSet x_2018)] := atI_map eLTSet h_2019
      have e_2021 : ((0 : Int) ≤ i_2014) = True := eq_true (atI_some h_2019).1
      simp only [e_2017, e_2020, e_2021, go_sem, reduceIte, reduceCtorEq, Nat.reduceEqDiff, Nat.reduceLT, Nat.reduceLeDiff, Nat.reduceAdd, Nat.reduceSub, Nat.reduceMul, Int.reduceToNat, Int.reduceLE, Int.reduceLT, Int.reduceAdd, Int.reduceSub, Int.reduceMul, Int.reduceEq, Int.reduceNeg]
      obtain ⟨y_3023, h_3022, h⟩ := bindS h
      refine ALp.ref (Ref.std [3, 4, 12, 55, 56, 57, 67, 68, 69, 73, 74, 75] [0, 1] (by decide) low0 rfl rfl) (Nat.zero_le _) (gsub_Things_L9_w N _ _ _ _ _ c_3 N _ _ y_3023 h_3022 ?_)
      refine LoopK_go rfl (Nat.zero_le _) ?_
      simp only [e_2017, e_2020, e_2021, go_sem, reduceIte, reduceCtorEq, Nat.reduceEqDiff, Nat.reduceLT, Nat.reduceLeDiff, Nat.reduceAdd, Nat.reduceSub, Nat.reduceMul, Int.reduceToNat, Int.reduceLE, Int.reduceLT, Int.reduceAdd, Int.reduceSub, Int.reduceMul, Int.reduceEq, Int.reduceNeg]
      rw [← hQ]
      exact ⟨_, _, (Ref.std [3, 4, 12, 55, 56, 57, 67, 68, 69] [0, 1] (by decide) low0 rfl rfl), (Nat.zero_le _), ih _ _ _ h hp⟩
    · rw [if_neg h_2016] at h
      have e_2017 : (i_2014 < 3) = False := eq_false h_2016
      simp only [e_2017, go_sem, reduceIte, reduceCtorEq, Nat.reduceEqDiff, Nat.reduceLT, Nat.reduceLeDiff, Nat.reduceAdd, Nat.reduceSub, Nat.reduceMul, Int.reduceToNat, Int.reduceLE, Int.reduceLT, Int.reduceAdd, Int.reduceSub, Int.reduceMul, Int.reduceEq, Int.reduceNeg]
      have g := Option.some.inj h
      subst g
      rw [← hQ]
      exact ⟨_, _, (Ref.std [3, 4, 12, 55, 56, 57] [0, 1] (by decide) low0 rfl rfl), hp⟩
theorem gsub_Things_L11_w (N : Nat) (l_6 : List TCtx) (c_3 : Bool) {R : AExit → ATm → List AObj → Prop} : ∀ (n : Nat) (i_2005 : Int) (i_2006 : Int) (o : Int), gsub_Things_L11 N l_6 n i_2005 i_2006 = some o → (match o with | z_1 => R (.exit 6) ⟨94, [(3, .ptr 0 0 0)], []⟩ [.box [.int .i64 z_1] 3]) →
    ALp Go.Proofs.Try.prog 0 B15_4 ⟨94, [(3, .ptr 0 0 0), (4, .fn (.func 38) [] [.ptr 0 0 0]), (55, .vec c_3 (List.map eTCtx l_6)), (56, .int .i64 (l_6.length : Int)), (57, .int .i64 i_2005)], []⟩ [.box [.int .i64 i_2006] 3] R := by
  intro n
  induction n with
  | zero =>
    intro i_2005 i_2006 o h _
    have h0 : none = some o := h
    cases h0
  | succ n ih =>
    intro i_2005 i_2006 o h hp
    rw [gsub_Things_L11] at h
    refine ALp.round ?_
    generalize hQ : RoundQ _ _ _ _ = QQ
    simp only [B15_4, A15, go_sem, reduceIte, reduceCtorEq, Nat.reduceEqDiff, Nat.reduceLT, Nat.reduceLeDiff, Nat.reduceAdd, Nat.reduceSub, Nat.reduceMul, Int.reduceToNat, Int.reduceLE, Int.reduceLT, Int.reduceAdd, Int.reduceSub, Int.reduceMul, Int.reduceEq, Int.reduceNeg]
    by_cases h_2007 : i_2005 < (l_6.length : Int)
    · rw [if_pos h_2007] at h
      have e_2008 : (i_2005 < (l_6.length : Int)) = True := eq_true h_2007
      obtain ⟨x_2009, h_2010, h⟩ := bindS h
      have e_2011 : (List.map eTCtx l_6)[(i_2005).toNat]? = some [.vec false (List.map eTSet x_2009.Back), .vec false (List.map eTSet x_2009.In), .vec false (List.map eTSet x_2009.Ahead), .vec false (List.map eTAct x_2009.Acts)] := atI_map eTCtx h_2010
      have e_2012 : ((0 : Int) ≤ i_2005) = True := eq_true (atI_some h_2010).1
      have e_2013 : ((i_2005 : Int) < (l_6.length : Int)) = True := eq_true (atI_lt h_2010)
      simp only [e_2008, e_2011, e_2012, e_2013, go_sem, reduceIte, reduceCtorEq, Nat.reduceEqDiff, Nat.reduceLT, Nat.reduceLeDiff, Nat.reduceAdd, Nat.reduceSub, Nat.reduceMul, Int.reduceToNat, Int.reduceLE, Int.reduceLT, Int.reduceAdd, Int.reduceSub, Int.reduceMul, Int.reduceEq, Int.reduceNeg]
      obtain ⟨y_3015, h_3014, h⟩ := bindS h
      refine ALp.ref (Ref.std [3, 4, 12, 55, 56, 57, 67, 68, 69] [0, 1] (by decide) low0 rfl rfl) (Nat.zero_le _) (gsub_Things_L10_w N _ _ _ c_3 N _ _ y_3015 h_3014 ?_)
      refine LoopK_go rfl (Nat.zero_le _) ?_
      obtain ⟨_, h_3016, h⟩ := bindS h
      simp only [e_2008, e_2011, e_2012, e_2013, go_sem, reduceIte, reduceCtorEq, Nat.reduceEqDiff, Nat.reduceLT, Nat.reduceLeDiff, Nat.reduceAdd, Nat.reduceSub, Nat.reduceMul, Int.reduceToNat, Int.reduceLE, Int.reduceLT, Int.reduceAdd, Int.reduceSub, Int.reduceMul, Int.reduceEq, Int.reduceNeg]
      refine ACalls.use (gsub_Things_1_w N _ _ h_3016) [0] (by decide) ⟨rfl, trivial⟩ rfl (v' := .tup []) rfl (H' := [.box [.int .i64 (min (IntKind.i64.wrap (y_3015 + (x_2009.Acts.length : Int))) 20001)] 3, .box [.vec false (List.map eTSet x_2009.Back), .vec false (List.map eTSet x_2009.In), .vec false (List.map eTSet x_2009.Ahead), .vec false (List.map eTAct x_2009.Acts)] 45]) rfl ?_
      refine CallK_go (Nat.zero_le _) ?_
      simp only [e_2008, e_2011, e_2012, e_2013, go_sem, reduceIte, reduceCtorEq, Nat.reduceEqDiff, Nat.reduceLT, Nat.reduceLeDiff, Nat.reduceAdd, Nat.reduceSub, Nat.reduceMul, Int.reduceToNat, Int.reduceLE, Int.reduceLT, Int.reduceAdd, Int.reduceSub, Int.reduceMul, Int.reduceEq, Int.reduceNeg]
      rw [← hQ]
      exact ⟨_, _, (Ref.std [3, 4, 55, 56, 57] [0] (by decide) low0 rfl rfl), (Nat.zero_le _), ih _ _ _ h hp⟩
    · rw [if_neg h_2007] at h
      have e_2008 : (i_2005 < (l_6.length : Int)) = False := eq_false h_2007
      simp only [e_2008, go_sem, reduceIte, reduceCtorEq, Nat.reduceEqDiff, Nat.reduceLT, Nat.reduceLeDiff, Nat.reduceAdd, Nat.reduceSub, Nat.reduceMul, Int.reduceToNat, Int.reduceLE, Int.reduceLT, Int.reduceAdd, Int.reduceSub, Int.reduceMul, Int.reduceEq, Int.reduceNeg]
      have g := Option.some.inj h
      subst g
      rw [← hQ]
      exact ⟨_, _, (Ref.std [3] [0] (by decide) low0 rfl rfl), hp⟩
theorem gsub_Things_w (N : Nat) (a_0 : Int) (l_1 : List TSpan) (b_2 : Bool) (a_3 : Int) (l_4 : List (List Int)) (l_5 : List (List TLig)) (l_6 : List TCtx) (l_7 : List TValue) (l_8 : List (List TTwo)) (l_9 : List TClass) (l_10 : List TClass) (l_11 : List (List TTwo)) (l_12 : List TArr2_TAnchor) (l_13 : List TMark) (l_14 : List TSpan) (l_15 : List (List (List TAnchor))) (c_0 : Bool) (c_1 : Bool) (c_2 : Bool) (c_3 : Bool) (c_4 : Bool) (c_5 : Bool) (c_6 : Bool) (c_7 : Bool) (c_8 : Bool) (c_9 : Bool) (c_10 : Bool) (c_11 : Bool) (c_12 : Bool) (z_1 : Int) (h : gsub_Things N a_0 l_1 b_2 a_3 l_4 l_5 l_6 l_7 l_8 l_9 l_10 l_11 l_12 l_13 l_14 l_15 = some z_1) :
    ACalls Go.Proofs.Try.prog 15 [.agg [.int .i64 a_0, .vec c_0 (List.map eTSpan l_1), .bool b_2, .int .i64 a_3, .vec c_1 (List.map eLI64 l_4), .vec c_2 (List.map eLTLig l_5), .vec c_3 (List.map eTCtx l_6), .vec c_4 (List.map eTValue l_7), .vec c_5 (List.map eLTTwo l_8), .vec c_6 (List.map eTClass l_9), .vec c_7 (List.map eTClass l_10), .vec c_8 (List.map eLTTwo l_11), .vec c_9 (List.map eTArr2_TAnchor l_12), .vec c_10 (List.map eTMark l_13), .vec c_11 (List.map eTSpan l_14), .vec c_12 (List.map eLLTAnchor l_15)]] [] (fun e H => H = [] ∧ e = .ret (.int .i64 z_1)) := by
  unfold gsub_Things at h
  refine ACalls.goN Go.Proofs.Try.func15 n15 a15 Go.Proofs.Try.ntmps15 r15 (by simp) 0 rfl ?_
  generalize hQ : bodyA _ _ _ = QQ
  simp only [A15, go_sem, reduceIte, reduceCtorEq, Nat.reduceEqDiff, Nat.reduceLT, Nat.reduceLeDiff, Nat.reduceAdd, Nat.reduceSub, Nat.reduceMul, Int.reduceToNat, Int.reduceLE, Int.reduceLT, Int.reduceAdd, Int.reduceSub, Int.reduceMul, Int.reduceEq, Int.reduceNeg]
  obtain ⟨y_1002, h_1001, h⟩ := bindS h
  refine ALp.ref (Ref.std [1, 3, 4, 19, 20, 21] [0, 1] (by decide) low0 rfl rfl) (Nat.zero_le _) (gsub_Things_L1_w N _ _ _ _ _ _ _ _ _ _ _ _ _ _ _ _ c_1 c_0 c_2 c_3 c_4 c_5 c_6 c_7 c_8 c_9 c_10 c_11 c_12 N _ _ y_1002 h_1001 ?_)
  refine LoopK_go rfl (Nat.zero_le _) ?_
  simp only [go_sem, reduceIte, reduceCtorEq, Nat.reduceEqDiff, Nat.reduceLT, Nat.reduceLeDiff, Nat.reduceAdd, Nat.reduceSub, Nat.reduceMul, Int.reduceToNat, Int.reduceLE, Int.reduceLT, Int.reduceAdd, Int.reduceSub, Int.reduceMul, Int.reduceEq, Int.reduceNeg]
  obtain ⟨y_2004, h_2003, h⟩ := bindS h
  refine ALp.ref (Ref.std [1, 3, 4, 32, 33, 34] [0, 1] (by decide) low0 rfl rfl) (Nat.zero_le _) (gsub_Things_L4_w N _ _ _ _ _ _ _ _ _ _ _ _ _ _ _ _ c_2 c_0 c_1 c_3 c_4 c_5 c_6 c_7 c_8 c_9 c_10 c_11 c_12 N _ _ y_2004 h_2003 ?_)
  refine LoopK_go rfl (Nat.zero_le _) ?_
  simp only [go_sem, reduceIte, reduceCtorEq, Nat.reduceEqDiff, Nat.reduceLT, Nat.reduceLeDiff, Nat.reduceAdd, Nat.reduceSub, Nat.reduceMul, Int.reduceToNat, Int.reduceLE, Int.reduceLT, Int.reduceAdd, Int.reduceSub, Int.reduceMul, Int.reduceEq, Int.reduceNeg]
  obtain ⟨y_3006, h_3005, h⟩ := bindS h
  refine ALp.ref (Ref.std [3, 4, 55, 56, 57] [1] (by decide) low0 rfl rfl) (Nat.zero_le _) (gsub_Things_L11_w N _ c_3 N _ _ y_3006 h_3005 ?_)
  refine LoopK_go rfl (Nat.zero_le _) ?_
  simp only [go_sem, reduceIte, reduceCtorEq, Nat.reduceEqDiff, Nat.reduceLT, Nat.reduceLeDiff, Nat.reduceAdd, Nat.reduceSub, Nat.reduceMul, Int.reduceToNat, Int.reduceLE, Int.reduceLT, Int.reduceAdd, Int.reduceSub, Int.reduceMul, Int.reduceEq, Int.reduceNeg]
  have g_0 := Option.some.inj h
  subst g_0
  rw [← hQ]
  exact ⟨rfl, _, rfl, _, _, (RefV.out rfl), rfl, rfl⟩
theorem gpos_Things_L2_w (N : Nat) (l_8 : List (List TTwo)) (l_11 : List (List TTwo)) (i_4 : Int) (a_0 : Int) (l_1 : List TSpan) (b_2 : Bool) (a_3 : Int) (l_4 : List (List Int)) (l_5 : List (List TLig)) (l_6 : List TCtx) (l_7 : List TValue) (l_9 : List TClass) (l_10 : List TClass) (l_12 : List TArr2_TAnchor) (l_13 : List TMark) (l_14 : List TSpan) (l_15 : List (List (List TAnchor))) (c_5 : Bool) (c_0 : Bool) (c_1 : Bool) (c_2 : Bool) (c_3 : Bool) (c_4 : Bool) (c_6 : Bool) (c_7 : Bool) (c_8 : Bool) (c_9 : Bool) (c_10 : Bool) (c_11 : Bool) (c_12 : Bool) {R : AExit → ATm → List AObj → Prop} : ∀ (n : Nat) (i_11 : Int) (i_12 : Int) (o : Int), gpos_Things_L2 N l_8 l_11 i_4 a_0 l_1 b_2 a_3 l_4 l_5 l_6 l_7 l_9 l_10 l_12 l_13 l_14 l_15 n i_11 i_12 = some o → (match o with | z_1 => R (.exit 2) ⟨87, [(1, .ptr 0 0 0), (3, .int .i64 z_1), (44, .vec true [[.vec c_5 (List.map eLTTwo l_8)], [.vec c_8 (List.map eLTTwo l_11)]]), (45, .int .i64 2), (46, .int .i64 i_4)], []⟩ [.box [.int .i64 a_0, .vec c_0 (List.map eTSpan l_1), .bool b_2, .int .i64 a_3, .vec c_1 (List.map eLI64 l_4), .vec c_2 (List.map eLTLig l_5), .vec c_3 (List.map eTCtx l_6), .vec c_4 (List.map eTValue l_7), .vec c_5 (List.map eLTTwo l_8), .vec c_6 (List.map eTClass l_9), .vec c_7 (List.map eTClass l_10), .vec c_8 (List.map eLTTwo l_11), .vec c_9 (List.map eTArr2_TAnchor l_12), .vec c_10 (List.map eTMark l_13), .vec c_11 (List.map eTSpan l_14), .vec c_12 (List.map eLLTAnchor l_15)] 35]) →
    ALp Go.Proofs.Try.prog 0 B19_2 ⟨87, [(1, .ptr 0 0 0), (3, .int .i64 i_11), (44, .vec true [[.vec c_5 (List.map eLTTwo l_8)], [.vec c_8 (List.map eLTTwo l_11)]]), (45, .int .i64 2), (46, .int .i64 i_4), (50, .vec c_5 (List.map eLTTwo l_8)), (51, .int .i64 (l_8.length : Int)), (52, .int .i64 i_12)], []⟩ [.box [.int .i64 a_0, .vec c_0 (List.map eTSpan l_1), .bool b_2, .int .i64 a_3, .vec c_1 (List.map eLI64 l_4), .vec c_2 (List.map eLTLig l_5), .vec c_3 (List.map eTCtx l_6), .vec c_4 (List.map eTValue l_7), .vec c_5 (List.map eLTTwo l_8), .vec c_6 (List.map eTClass l_9), .vec c_7 (List.map eTClass l_10), .vec c_8 (List.map eLTTwo l_11), .vec c_9 (List.map eTArr2_TAnchor l_12), .vec c_10 (List.map eTMark l_13), .vec c_11 (List.map eTSpan l_14), .vec c_12 (List.map eLLTAnchor l_15)] 35] R := by
  intro n
  induction n with
  | zero =>
    intro i_11 i_12 o h _
    have h0 : none = some o := h
    cases h0
  | succ n ih =>
    intro i_11 i_12 o h hp
    rw [gpos_Things_L2] at h
    refine ALp.round ?_
    generalize hQ : RoundQ _ _ _ _ = QQ
    simp only [B19_2, B19_1, A19, go_sem, reduceIte, reduceCtorEq, Nat.reduceEqDiff, Nat.reduceLT, Nat.reduceLeDiff, Nat.reduceAdd, Nat.reduceSub, Nat.reduceMul, Int.reduceToNat, Int.reduceLE, Int.reduceLT, Int.reduceAdd, Int.reduceSub, Int.reduceMul, Int.reduceEq, Int.reduceNeg]
    by_cases h_13 : i_12 < (l_8.length : Int)
    · rw [if_pos h_13] at h
      have e_14 : (i_12 < (l_8.length : Int)) = True := eq_true h_13
      obtain ⟨x_15, h_16, h⟩ := bindS h
      have e_17 : (List.map eLTTwo l_8)[(i_12).toNat]? = some [.vec false (List.map eTTwo x_15)] := atI_map eLTTwo h_16
      have e_18 : ((0 : Int) ≤ i_12) = True := eq_true (atI_some h_16).1
      have e_19 : ((i_12 : Int) < (l_8.length : Int)) = True := eq_true (atI_lt h_16)
      simp only [e_14, e_17, e_18, e_19, go_sem, reduceIte, reduceCtorEq, Nat.reduceEqDiff, Nat.reduceLT, Nat.reduceLeDiff, Nat.reduceAdd, Nat.reduceSub, Nat.reduceMul, Int.reduceToNat, Int.reduceLE, Int.reduceLT, Int.reduceAdd, Int.reduceSub, Int.reduceMul, Int.reduceEq, Int.reduceNeg]
      rw [← hQ]
      exact ⟨_, _, (Ref.std [1, 3, 44, 45, 46, 50, 51, 52] [0] (by decide) low0 rfl (by first | rfl | simp only [go_sem, reduceIte, Nat.reduceEqDiff, Nat.reduceAdd, e_14])), (Nat.zero_le _), ih _ _ _ h hp⟩
    · rw [if_neg h_13] at h
      have e_14 : (i_12 < (l_8.length : Int)) = False := eq_false h_13
      simp only [e_14, go_sem, reduceIte, reduceCtorEq, Nat.reduceEqDiff, Nat.reduceLT, Nat.reduceLeDiff, Nat.reduceAdd, Nat.reduceSub, Nat.reduceMul, Int.reduceToNat, Int.reduceLE, Int.reduceLT, Int.reduceAdd, Int.reduceSub, Int.reduceMul, Int.reduceEq, Int.reduceNeg]
      have g := Option.some.inj h
      subst g
      rw [← hQ]
      exact ⟨_, _, (Ref.std [1, 3, 44, 45, 46] [0] (by decide) low0 rfl (by first | rfl | simp only [go_sem, reduceIte, Nat.reduceEqDiff, Nat.reduceAdd, e_14])), hp⟩
theorem gpos_Things_L3_w (N : Nat) (l_8 : List (List TTwo)) (l_11 : List (List TTwo)) (i_4 : Int) (a_0 : Int) (l_1 : List TSpan) (b_2 : Bool) (a_3 : Int) (l_4 : List (List Int)) (l_5 : List (List TLig)) (l_6 : List TCtx) (l_7 : List TValue) (l_9 : List TClass) (l_10 : List TClass) (l_12 : List TArr2_TAnchor) (l_13 : List TMark) (l_14 : List TSpan) (l_15 : List (List (List TAnchor))) (c_8 : Bool) (c_0 : Bool) (c_1 : Bool) (c_2 : Bool) (c_3 : Bool) (c_4 : Bool) (c_5 : Bool) (c_6 : Bool) (c_7 : Bool) (c_9 : Bool) (c_10 : Bool) (c_11 : Bool) (c_12 : Bool) {R : AExit → ATm → List AObj → Prop} : ∀ (n : Nat) (i_1017 : Int) (i_1018 : Int) (o : Int), gpos_Things_L3 N l_8 l_11 i_4 a_0 l_1 b_2 a_3 l_4 l_5 l_6 l_7 l_9 l_10 l_12 l_13 l_14 l_15 n i_1017 i_1018 = some o → (match o with | z_1 => R (.exit 2) ⟨87, [(1, .ptr 0 0 0), (3, .int .i64 z_1), (44, .vec true [[.vec c_5 (List.map eLTTwo l_8)], [.vec c_8 (List.map eLTTwo l_11)]]), (45, .int .i64 2), (46, .int .i64 i_4)], []⟩ [.box [.int .i64 a_0, .vec c_0 (List.map eTSpan l_1), .bool b_2, .int .i64 a_3, .vec c_1 (List.map eLI64 l_4), .vec c_2 (List.map eLTLig l_5), .vec c_3 (List.map eTCtx l_6), .vec c_4 (List.map eTValue l_7), .vec c_5 (List.map eLTTwo l_8), .vec c_6 (List.map eTClass l_9), .vec c_7 (List.map eTClass l_10), .vec c_8 (List.map eLTTwo l_11), .vec c_9 (List.map eTArr2_TAnchor l_12), .vec c_10 (List.map eTMark l_13), .vec c_11 (List.map eTSpan l_14), .vec c_12 (List.map eLLTAnchor l_15)] 35]) →
    ALp Go.Proofs.Try.prog 0 B19_2 ⟨87, [(1, .ptr 0 0 0), (3, .int .i64 i_1017), (44, .vec true [[.vec c_5 (List.map eLTTwo l_8)], [.vec c_8 (List.map eLTTwo l_11)]]), (45, .int .i64 2), (46, .int .i64 i_4), (50, .vec c_8 (List.map eLTTwo l_11)), (51, .int .i64 (l_11.length : Int)), (52, .int .i64 i_1018)], []⟩ [.box [.int .i64 a_0, .vec c_0 (List.map eTSpan l_1), .bool b_2, .int .i64 a_3, .vec c_1 (List.map eLI64 l_4), .vec c_2 (List.map eLTLig l_5), .vec c_3 (List.map eTCtx l_6), .vec c_4 (List.map eTValue l_7), .vec c_5 (List.map eLTTwo l_8), .vec c_6 (List.map eTClass l_9), .vec c_7 (List.map eTClass l_10), .vec c_8 (List.map eLTTwo l_11), .vec c_9 (List.map eTArr2_TAnchor l_12), .vec c_10 (List.map eTMark l_13), .vec c_11 (List.map eTSpan l_14), .vec c_12 (List.map eLLTAnchor l_15)] 35] R := by
  intro n
  induction n with
  | zero =>
    intro i_1017 i_1018 o h _
    have h0 : none = some o := h
    cases h0
  | succ n ih =>
    intro i_1017 i_1018 o h hp
    rw [gpos_Things_L3] at h
    refine ALp.round ?_
    generalize hQ : RoundQ _ _ _ _ = QQ
    simp only [B19_2, B19_1, A19, go_sem, reduceIte, reduceCtorEq, Nat.reduceEqDiff, Nat.reduceLT, Nat.reduceLeDiff, Nat.reduceAdd, Nat.reduceSub, Nat.reduceMul, Int.reduceToNat, Int.reduceLE, Int.reduceLT, Int.reduceAdd, Int.reduceSub, Int.reduceMul, Int.reduceEq, Int.reduceNeg]
    by_cases h_1019 : i_1018 < (l_11.length : Int)
    · rw [if_pos h_1019] at h
      have e_1020 : (i_1018 < (l_11.length : Int)) = True := eq_true h_1019
      obtain ⟨x_1021, h_1022, h⟩ := bindS h
      have e_1023 : (List.map eLTTwo l_11)[(i_1018).toNat]? = some [.vec false (List.map eTTwo x_1021)] := atI_map eLTTwo h_1022
      have e_1024 : ((0 : Int) ≤ i_1018) = True := eq_true (atI_some h_1022).1
      have e_1025 : ((i_1018 : Int) < (l_11.length : Int)) = True := eq_true (atI_lt h_1022)
      simp only [e_1020, e_1023, e_1024, e_1025, go_sem, reduceIte, reduceCtorEq, Nat.reduceEqDiff, Nat.reduceLT, Nat.reduceLeDiff, Nat.reduceAdd, Nat.reduceSub, Nat.reduceMul, Int.reduceToNat, Int.reduceLE, Int.reduceLT, Int.reduceAdd, Int.reduceSub, Int.reduceMul, Int.reduceEq, Int.reduceNeg]
      rw [← hQ]
      exact ⟨_, _, (Ref.std [1, 3, 44, 45, 46, 50, 51, 52] [0] (by decide) low0 rfl (by first | rfl | simp only [go_sem, reduceIte, Nat.reduceEqDiff, Nat.reduceAdd, e_1020])), (Nat.zero_le _), ih _ _ _ h hp⟩
    · rw [if_neg h_1019] at h
      have e_1020 : (i_1018 < (l_11.length : Int)) = False := eq_false h_1019
      simp only [e_1020, go_sem, reduceIte, reduceCtorEq, Nat.reduceEqDiff, Nat.reduceLT, Nat.reduceLeDiff, Nat.reduceAdd, Nat.reduceSub, Nat.reduceMul, Int.reduceToNat, Int.reduceLE, Int.reduceLT, Int.reduceAdd, Int.reduceSub, Int.reduceMul, Int.reduceEq, Int.reduceNeg]
      have g := Option.some.inj h
      subst g
      rw [← hQ]
      exact ⟨_, _, (Ref.std [1, 3, 44, 45, 46] [0] (by decide) low0 rfl (by first | rfl | simp only [go_sem, reduceIte, Nat.reduceEqDiff, Nat.reduceAdd, e_1020])), hp⟩
theorem gpos_Things_L4_w (N : Nat) (l_8 : List (List TTwo)) (l_11 : List (List TTwo)) (a_0 : Int) (l_1 : List TSpan) (b_2 : Bool) (a_3 : Int) (l_4 : List (List Int)) (l_5 : List (List TLig)) (l_6 : List TCtx) (l_7 : List TValue) (l_9 : List TClass) (l_10 : List TClass) (l_12 : List TArr2_TAnchor) (l_13 : List TMark) (l_14 : List TSpan) (l_15 : List (List (List TAnchor))) (c_0 : Bool) (c_1 : Bool) (c_2 : Bool) (c_3 : Bool) (c_4 : Bool) (c_5 : Bool) (c_6 : Bool) (c_7 : Bool) (c_8 : Bool) (c_9 : Bool) (c_10 : Bool) (c_11 : Bool) (c_12 : Bool) {R : AExit → ATm → List AObj → Prop} : ∀ (n : Nat) (i_3 : Int) (i_4 : Int) (o : Int), gpos_Things_L4 N l_8 l_11 a_0 l_1 b_2 a_3 l_4 l_5 l_6 l_7 l_9 l_10 l_12 l_13 l_14 l_15 n i_3 i_4 = some o → (match o with | z_1 => R (.exit 0) ⟨87, [(1, .ptr 0 0 0), (3, .int .i64 z_1)], []⟩ [.box [.int .i64 a_0, .vec c_0 (List.map eTSpan l_1), .bool b_2, .int .i64 a_3, .vec c_1 (List.map eLI64 l_4), .vec c_2 (List.map eLTLig l_5), .vec c_3 (List.map eTCtx l_6), .vec c_4 (List.map eTValue l_7), .vec c_5 (List.map eLTTwo l_8), .vec c_6 (List.map eTClass l_9), .vec c_7 (List.map eTClass l_10), .vec c_8 (List.map eLTTwo l_11), .vec c_9 (List.map eTArr2_TAnchor l_12), .vec c_10 (List.map eTMark l_13), .vec c_11 (List.map eTSpan l_14), .vec c_12 (List.map eLLTAnchor l_15)] 35]) →
    ALp Go.Proofs.Try.prog 0 B19_1 ⟨87, [(1, .ptr 0 0 0), (3, .int .i64 i_3), (44, .vec true [[.vec c_5 (List.map eLTTwo l_8)], [.vec c_8 (List.map eLTTwo l_11)]]), (45, .int .i64 2), (46, .int .i64 i_4)], []⟩ [.box [.int .i64 a_0, .vec c_0 (List.map eTSpan l_1), .bool b_2, .int .i64 a_3, .vec c_1 (List.map eLI64 l_4), .vec c_2 (List.map eLTLig l_5), .vec c_3 (List.map eTCtx l_6), .vec c_4 (List.map eTValue l_7), .vec c_5 (List.map eLTTwo l_8), .vec c_6 (List.map eTClass l_9), .vec c_7 (List.map eTClass l_10), .vec c_8 (List.map eLTTwo l_11), .vec c_9 (List.map eTArr2_TAnchor l_12), .vec c_10 (List.map eTMark l_13), .vec c_11 (List.map eTSpan l_14), .vec c_12 (List.map eLLTAnchor l_15)] 35] R := by
  intro n
  induction n with
  | zero =>
    intro i_3 i_4 o h _
    have h0 : none = some o := h
    cases h0
  | succ n ih =>
    intro i_3 i_4 o h hp
    rw [gpos_Things_L4] at h
    refine ALp.round ?_
    generalize hQ : RoundQ _ _ _ _ = QQ
    simp only [B19_1, A19, go_sem, reduceIte, reduceCtorEq, Nat.reduceEqDiff, Nat.reduceLT, Nat.reduceLeDiff, Nat.reduceAdd, Nat.reduceSub, Nat.reduceMul, Int.reduceToNat, Int.reduceLE, Int.reduceLT, Int.reduceAdd, Int.reduceSub, Int.reduceMul, Int.reduceEq, Int.reduceNeg]
    by_cases h_5 : i_4 < 2
    · rw [if_pos h_5] at h
      have e_6 : (i_4 < 2) = True := eq_true h_5
      simp only [e_6, go_sem, reduceIte, reduceCtorEq, Nat.reduceEqDiff, Nat.reduceLT, Nat.reduceLeDiff, Nat.reduceAdd, Nat.reduceSub, Nat.reduceMul, Int.reduceToNat, Int.reduceLE, Int.reduceLT, Int.reduceAdd, Int.reduceSub, Int.reduceMul, Int.reduceEq, Int.reduceNeg]
      by_cases h_7 : i_4 = 0
      · rw [if_pos h_7] at h
        have e_8 : (i_4 = 0) = True := eq_true h_7
        have e_9 : ([[.vec c_5 (List.map eLTTwo l_8)], [.vec c_8 (List.map eLTTwo l_11)]] : List (List AV))[(i_4).toNat]? = some [.vec c_5 (List.map eLTTwo l_8)] := by rw [of_eq_true e_8]; rfl
        have e_10 : ((0 : Int) ≤ i_4) = True := eq_true (by have := of_eq_true e_8; omega)
        try simp only [e_6, e_8, e_9, e_10, go_sem, reduceIte, reduceCtorEq, Nat.reduceEqDiff, Nat.reduceLT, Nat.reduceLeDiff, Nat.reduceAdd, Nat.reduceSub, Nat.reduceMul, Int.reduceToNat, Int.reduceLE, Int.reduceLT, Int.reduceAdd, Int.reduceSub, Int.reduceMul, Int.reduceEq, Int.reduceNeg]
        obtain ⟨y_1012, h_1011, h⟩ := bindS h
        refine ALp.ref (Ref.std [1, 3, 44, 45, 46, 50, 51, 52] [0] (by decide) low0 rfl (by first | rfl | simp only [go_sem, reduceIte, Nat.reduceEqDiff, Nat.reduceAdd, e_6, e_8])) (Nat.zero_le _) (gpos_Things_L2_w N _ _ _ _ _ _ _ _ _ _ _ _ _ _ _ _ _ c_5 c_0 c_1 c_2 c_3 c_4 c_6 c_7 c_8 c_9 c_10 c_11 c_12 N _ _ y_1012 h_1011 ?_)
        refine LoopK_go rfl (Nat.zero_le _) ?_
        simp only [e_6, e_8, e_9, e_10, go_sem, reduceIte, reduceCtorEq, Nat.reduceEqDiff, Nat.reduceLT, Nat.reduceLeDiff, Nat.reduceAdd, Nat.reduceSub, Nat.reduceMul, Int.reduceToNat, Int.reduceLE, Int.reduceLT, Int.reduceAdd, Int.reduceSub, Int.reduceMul, Int.reduceEq, Int.reduceNeg]
        rw [← hQ]
        exact ⟨_, _, (Ref.std [1, 3, 44, 45, 46] [0] (by decide) low0 rfl (by first | rfl | simp only [go_sem, reduceIte, Nat.reduceEqDiff, Nat.reduceAdd, e_6, e_8])), (Nat.zero_le _), ih _ _ _ h hp⟩
      · rw [if_neg h_7] at h
        have e_8 : (i_4 = 0) = False := eq_false h_7
        try simp only [e_6, e_8, go_sem, reduceIte, reduceCtorEq, Nat.reduceEqDiff, Nat.reduceLT, Nat.reduceLeDiff, Nat.reduceAdd, Nat.reduceSub, Nat.reduceMul, Int.reduceToNat, Int.reduceLE, Int.reduceLT, Int.reduceAdd, Int.reduceSub, Int.reduceMul, Int.reduceEq, Int.reduceNeg]
        by_cases h_1013 : i_4 = 1
        · rw [if_pos h_1013] at h
          have e_1014 : (i_4 = 1) = True := eq_true h_1013
          have e_1015 : ([[.vec c_5 (List.map eLTTwo l_8)], [.vec c_8 (List.map eLTTwo l_11)]] : List (List AV))[(i_4).toNat]? = some [.vec c_8 (List.map eLTTwo l_11)] := by rw [of_eq_true e_1014]; rfl
          have e_1016 : ((0 : Int) ≤ i_4) = True := eq_true (by have := of_eq_true e_1014; omega)
          try simp only [e_6, e_8, e_1014, e_1015, e_1016, go_sem, reduceIte, reduceCtorEq, Nat.reduceEqDiff, Nat.reduceLT, Nat.reduceLeDiff, Nat.reduceAdd, Nat.reduceSub, Nat.reduceMul, Int.reduceToNat, Int.reduceLE, Int.reduceLT, Int.reduceAdd, Int.reduceSub, Int.reduceMul, Int.reduceEq, Int.reduceNeg]
          obtain ⟨y_2018, h_2017, h⟩ := bindS h
          refine ALp.ref (Ref.std [1, 3, 44, 45, 46, 50, 51, 52] [0] (by decide) low0 rfl (by first | rfl | simp only [go_sem, reduceIte, Nat.reduceEqDiff, Nat.reduceAdd, e_6, e_8, e_1014])) (Nat.zero_le _) (gpos_Things_L3_w N _ _ _ _ _ _ _ _ _ _ _ _ _ _ _ _ _ c_8 c_0 c_1 c_2 c_3 c_4 c_5 c_6 c_7 c_9 c_10 c_11 c_12 N _ _ y_2018 h_2017 ?_)
          refine LoopK_go rfl (Nat.zero_le _) ?_
          simp only [e_6, e_8, e_1014, e_1015, e_1016, go_sem, reduceIte, reduceCtorEq, Nat.reduceEqDiff, Nat.reduceLT, Nat.reduceLeDiff, Nat.reduceAdd, Nat.reduceSub, Nat.reduceMul, Int.reduceToNat, Int.reduceLE, Int.reduceLT, Int.reduceAdd, Int.reduceSub, Int.reduceMul, Int.reduceEq, Int.reduceNeg]
          rw [← hQ]
          exact ⟨_, _, (Ref.std [1, 3, 44, 45, 46] [0] (by decide) low0 rfl (by first | rfl | simp only [go_sem, reduceIte, Nat.reduceEqDiff, Nat.reduceAdd, e_6, e_8, e_1014])), (Nat.zero_le _), ih _ _ _ h hp⟩
        · rw [if_neg h_1013] at h
          have e_1014 : (i_4 = 1) = False := eq_false h_1013
          have h0 : none = some _ := h
          cases h0
    · rw [if_neg h_5] at h
      have e_6 : (i_4 < 2) = False := eq_false h_5
      simp only [e_6, go_sem, reduceIte, reduceCtorEq, Nat.reduceEqDiff, Nat.reduceLT, Nat.reduceLeDiff, Nat.reduceAdd, Nat.reduceSub, Nat.reduceMul, Int.reduceToNat, Int.reduceLE, Int.reduceLT, Int.reduceAdd, Int.reduceSub, Int.reduceMul, Int.reduceEq, Int.reduceNeg]
      have g := Option.some.inj h
      subst g
      rw [← hQ]
      exact ⟨_, _, (Ref.std [1, 3] [0] (by decide) low0 rfl (by first | rfl | simp only [go_sem, reduceIte, Nat.reduceEqDiff, Nat.reduceAdd, e_6])), hp⟩
theorem gpos_Things_L6_w (N : Nat) (l_15 : List (List (List TAnchor))) (i_1006 : Int) (x_1009 : List (List TAnchor)) (c_12 : Bool) {R : AExit → ATm → List AObj → Prop} : ∀ (n : Nat) (i_1014 : Int) (i_1015 : Int) (o : Int), gpos_Things_L6 N l_15 i_1006 x_1009 n i_1014 i_1015 = some o → (match o with | z_1 => R (.exit 6) ⟨87, [(3, .int .i64 z_1), (64, .vec c_12 (List.map eLLTAnchor l_15)), (65, .int .i64 (l_15.length : Int)), (66, .int .i64 i_1006)], []⟩ []) →
    ALp Go.Proofs.Try.prog 0 B19_4 ⟨87, [(3, .int .i64 i_1014), (64, .vec c_12 (List.map eLLTAnchor l_15)), (65, .int .i64 (l_15.length : Int)), (66, .int .i64 i_1006), (72, .vec false (List.map eLTAnchor x_1009)), (73, .int .i64 (x_1009.length : Int)), (74, .int .i64 i_1015)], []⟩ [] R := by
  intro n
  induction n with
  | zero =>
    intro i_1014 i_1015 o h _
    have h0 : none = some o := h
    cases h0
  | succ n ih =>
    intro i_1014 i_1015 o h hp
    rw [gpos_Things_L6] at h
    refine ALp.round ?_
    generalize hQ : RoundQ _ _ _ _ = QQ
    simp only [B19_4, B19_3, A19, go_sem, reduceIte, reduceCtorEq, Nat.reduceEqDiff, Nat.reduceLT, Nat.reduceLeDiff, Nat.reduceAdd, Nat.reduceSub, Nat.reduceMul, Int.reduceToNat, Int.reduceLE, Int.reduceLT, Int.reduceAdd, Int.reduceSub, Int.reduceMul, Int.reduceEq, Int.reduceNeg]
    by_cases h_1016 : i_1015 < (x_1009.length : Int)
    · rw [if_pos h_1016] at h
      have e_1017 : (i_1015 < (x_1009.length : Int)) = True := eq_true h_1016
      obtain ⟨x_1018, h_1019, h⟩ := bindS h
      have e_1020 : (List.map eLTAnchor x_1009)[(i_1015).toNat]? = some [.vec false (List.map eTAnchor x_1018)] := atI_map eLTAnchor h_1019
      have e_1021 : ((0 : Int) ≤ i_1015) = True := eq_true (atI_some h_1019).1
      have e_1022 : ((i_1015 : Int) < (x_1009.length : Int)) = True := eq_true (atI_lt h_1019)
      simp only [e_1017, e_1020, e_1021, e_1022, go_sem, reduceIte, reduceCtorEq, Nat.reduceEqDiff, Nat.reduceLT, Nat.reduceLeDiff, Nat.reduceAdd, Nat.reduceSub, Nat.reduceMul, Int.reduceToNat, Int.reduceLE, Int.reduceLT, Int.reduceAdd, Int.reduceSub, Int.reduceMul, Int.reduceEq, Int.reduceNeg]
      rw [← hQ]
      exact ⟨_, _, (Ref.out [3, 64, 65, 66, 72, 73, 74] rfl), (Nat.zero_le _), ih _ _ _ h hp⟩
    · rw [if_neg h_1016] at h
      have e_1017 : (i_1015 < (x_1009.length : Int)) = False := eq_false h_1016
      simp only [e_1017, go_sem, reduceIte, reduceCtorEq, Nat.reduceEqDiff, Nat.reduceLT, Nat.reduceLeDiff, Nat.reduceAdd, Nat.reduceSub, Nat.reduceMul, Int.reduceToNat, Int.reduceLE, Int.reduceLT, Int.reduceAdd, Int.reduceSub, Int.reduceMul, Int.reduceEq, Int.reduceNeg]
      have g := Option.some.inj h
      subst g
      rw [← hQ]
      exact ⟨_, _, (Ref.out [3, 64, 65, 66] rfl), hp⟩
theorem gpos_Things_L7_w (N : Nat) (l_15 : List (List (List TAnchor))) (c_12 : Bool) {R : AExit → ATm → List AObj → Prop} : ∀ (n : Nat) (i_1005 : Int) (i_1006 : Int) (o : Int), gpos_Things_L7 N l_15 n i_1005 i_1006 = some o → (match o with | z_1 => R (.exit 4) ⟨87, [(3, .int .i64 z_1)], []⟩ []) →
    ALp Go.Proofs.Try.prog 0 B19_3 ⟨87, [(3, .int .i64 i_1005), (64, .vec c_12 (List.map eLLTAnchor l_15)), (65, .int .i64 (l_15.length : Int)), (66, .int .i64 i_1006)], []⟩ [] R := by
  intro n
  induction n with
  | zero =>
    intro i_1005 i_1006 o h _
    have h0 : none = some o := h
    cases h0
  | succ n ih =>
    intro i_1005 i_1006 o h hp
    rw [gpos_Things_L7] at h
    refine ALp.round ?_
    generalize hQ : RoundQ _ _ _ _ = QQ
    simp only [B19_3, A19, go_sem, reduceIte, reduceCtorEq, Nat.reduceEqDiff, Nat.reduceLT, Nat.reduceLeDiff, Nat.reduceAdd, Nat.reduceSub, Nat.reduceMul, Int.reduceToNat, Int.reduceLE, Int.reduceLT, Int.reduceAdd, Int.reduceSub, Int.reduceMul, Int.reduceEq, Int.reduceNeg]
    by_cases h_1007 : i_1006 < (l_15.length : Int)
    · rw [if_pos h_1007] at h
      have e_1008 : (i_1006 < (l_15.length : Int)) = True := eq_true h_1007
      obtain ⟨x_1009, h_1010, h⟩ := bindS h
      have e_1011 : (List.map eLLTAnchor l_15)[(i_1006).toNat]? = some [.vec false (List.map eLTAnchor x_1009)] := atI_map eLLTAnchor h_1010
      have e_1012 : ((0 : Int) ≤ i_1006) = True := eq_true (atI_some h_1010).1
      have e_1013 : ((i_1006 : Int) < (l_15.length : Int)) = True := eq_true (atI_lt h_1010)
      simp only [e_1008, e_1011, e_1012, e_1013, go_sem, reduceIte, reduceCtorEq, Nat.reduceEqDiff, Nat.reduceLT, Nat.reduceLeDiff, Nat.reduceAdd, Nat.reduceSub, Nat.reduceMul, Int.reduceToNat, Int.reduceLE, Int.reduceLT, Int.reduceAdd, Int.reduceSub, Int.reduceMul, Int.reduceEq, Int.reduceNeg]
      obtain ⟨y_2015, h_2014, h⟩ := bindS h
      refine ALp.ref (Ref.out [3, 64, 65, 66, 72, 73, 74] rfl) (Nat.zero_le _) (gpos_Things_L6_w N _ _ _ c_12 N _ _ y_2015 h_2014 ?_)
      refine LoopK_go rfl (Nat.zero_le _) ?_
      simp only [e_1008, e_1011, e_1012, e_1013, go_sem, reduceIte, reduceCtorEq, Nat.reduceEqDiff, Nat.reduceLT, Nat.reduceLeDiff, Nat.reduceAdd, Nat.reduceSub, Nat.reduceMul, Int.reduceToNat, Int.reduceLE, Int.reduceLT, Int.reduceAdd, Int.reduceSub, Int.reduceMul, Int.reduceEq, Int.reduceNeg]
      rw [← hQ]
      exact ⟨_, _, (Ref.out [3, 64, 65, 66] rfl), (Nat.zero_le _), ih _ _ _ h hp⟩
    · rw [if_neg h_1007] at h
      have e_1008 : (i_1006 < (l_15.length : Int)) = False := eq_false h_1007
      simp only [e_1008, go_sem, reduceIte, reduceCtorEq, Nat.reduceEqDiff, Nat.reduceLT, Nat.reduceLeDiff, Nat.reduceAdd, Nat.reduceSub, Nat.reduceMul, Int.reduceToNat, Int.reduceLE, Int.reduceLT, Int.reduceAdd, Int.reduceSub, Int.reduceMul, Int.reduceEq, Int.reduceNeg]
      have g := Option.some.inj h
      subst g
      rw [← hQ]
      exact ⟨_, _, (Ref.out [3] rfl), hp⟩
theorem gpos_Things_w (N : Nat) (a_0 : Int) (l_1 : List TSpan) (b_2 : Bool) (a_3 : Int) (l_4 : List (List Int)) (l_5 : List (List TLig)) (l_6 : List TCtx) (l_7 : List TValue) (l_8 : List (List TTwo)) (l_9 : List TClass) (l_10 : List TClass) (l_11 : List (List TTwo)) (l_12 : List TArr2_TAnchor) (l_13 : List TMark) (l_14 : List TSpan) (l_15 : List (List (List TAnchor))) (c_0 : Bool) (c_1 : Bool) (c_2 : Bool) (c_3 : Bool) (c_4 : Bool) (c_5 : Bool) (c_6 : Bool) (c_7 : Bool) (c_8 : Bool) (c_9 : Bool) (c_10 : Bool) (c_11 : Bool) (c_12 : Bool) (z_1 : Int) (h : gpos_Things N a_0 l_1 b_2 a_3 l_4 l_5 l_6 l_7 l_8 l_9 l_10 l_11 l_12 l_13 l_14 l_15 = some z_1) :
    ACalls Go.Proofs.Try.prog 19 [.agg [.int .i64 a_0, .vec c_0 (List.map eTSpan l_1), .bool b_2, .int .i64 a_3, .vec c_1 (List.map eLI64 l_4), .vec c_2 (List.map eLTLig l_5), .vec c_3 (List.map eTCtx l_6), .vec c_4 (List.map eTValue l_7), .vec c_5 (List.map eLTTwo l_8), .vec c_6 (List.map eTClass l_9), .vec c_7 (List.map eTClass l_10), .vec c_8 (List.map eLTTwo l_11), .vec c_9 (List.map eTArr2_TAnchor l_12), .vec c_10 (List.map eTMark l_13), .vec c_11 (List.map eTSpan l_14), .vec c_12 (List.map eLLTAnchor l_15)]] [] (fun e H => H = [] ∧ e = .ret (.int .i64 z_1)) := by
  unfold gpos_Things at h
  refine ACalls.goN Go.Proofs.Try.func19 n19 a19 Go.Proofs.Try.ntmps19 r19 (by simp) 0 rfl ?_
  generalize hQ : bodyA _ _ _ = QQ
  obtain ⟨y_1, h_2, h⟩ := bindS h
  simp only [A19, go_sem, reduceIte, reduceCtorEq, Nat.reduceEqDiff, Nat.reduceLT, Nat.reduceLeDiff, Nat.reduceAdd, Nat.reduceSub, Nat.reduceMul, Int.reduceToNat, Int.reduceLE, Int.reduceLT, Int.reduceAdd, Int.reduceSub, Int.reduceMul, Int.reduceEq, Int.reduceNeg]
  refine ACalls.use0 (gsub_Things_w N _ _ _ _ _ _ _ _ _ _ _ _ _ _ _ _ _ _ _ _ _ _ _ _ _ _ _ _ _ _ h_2) rfl rfl ?_
  simp only [go_sem, reduceIte, reduceCtorEq, Nat.reduceEqDiff, Nat.reduceLT, Nat.reduceLeDiff, Nat.reduceAdd, Nat.reduceSub, Nat.reduceMul, Int.reduceToNat, Int.reduceLE, Int.reduceLT, Int.reduceAdd, Int.reduceSub, Int.reduceMul, Int.reduceEq, Int.reduceNeg]
  obtain ⟨y_1004, h_1003, h⟩ := bindS h
  refine ALp.ref (Ref.std [1, 3, 44, 45, 46] [0] (by decide) low0 rfl rfl) (Nat.zero_le _) (gpos_Things_L4_w N _ _ _ _ _ _ _ _ _ _ _ _ _ _ _ _ c_0 c_1 c_2 c_3 c_4 c_5 c_6 c_7 c_8 c_9 c_10 c_11 c_12 N _ _ y_1004 h_1003 ?_)
  refine LoopK_go rfl (Nat.zero_le _) ?_
  simp only [go_sem, reduceIte, reduceCtorEq, Nat.reduceEqDiff, Nat.reduceLT, Nat.reduceLeDiff, Nat.reduceAdd, Nat.reduceSub, Nat.reduceMul, Int.reduceToNat, Int.reduceLE, Int.reduceLT, Int.reduceAdd, Int.reduceSub, Int.reduceMul, Int.reduceEq, Int.reduceNeg]
  obtain ⟨y_2006, h_2005, h⟩ := bindS h
  refine ALp.ref (Ref.out [3, 64, 65, 66] rfl) (Nat.zero_le _) (gpos_Things_L7_w N _ c_12 N _ _ y_2006 h_2005 ?_)
  refine LoopK_go rfl (Nat.zero_le _) ?_
  simp only [go_sem, reduceIte, reduceCtorEq, Nat.reduceEqDiff, Nat.reduceLT, Nat.reduceLeDiff, Nat.reduceAdd, Nat.reduceSub, Nat.reduceMul, Int.reduceToNat, Int.reduceLE, Int.reduceLT, Int.reduceAdd, Int.reduceSub, Int.reduceMul, Int.reduceEq, Int.reduceNeg]
  have g_0 := Option.some.inj h
  subst g_0
  rw [← hQ]
  exact ⟨rfl, _, rfl, _, _, (RefV.out rfl), rfl, rfl⟩
theorem ref12_Things_L1_w (N : Nat) (a_0 : Int) (l_1 : List TSpan) (b_2 : Bool) (a_3 : Int) (l_4 : List (List Int)) (l_5 : List (List TLig)) (l_6 : List TCtx) (l_7 : List TValue) (l_8 : List (List TTwo)) (l_9 : List TClass) (l_10 : List TClass) (l_11 : List (List TTwo)) (l_12 : List TArr2_TAnchor) (l_13 : List TMark) (l_14 : List TSpan) (l_15 : List (List (List TAnchor))) (c_0 : Bool) (c_1 : Bool) (c_2 : Bool) (c_3 : Bool) (c_4 : Bool) (c_5 : Bool) (c_6 : Bool) (c_7 : Bool) (c_8 : Bool) (c_9 : Bool) (c_10 : Bool) (c_11 : Bool) (c_12 : Bool) {R : AExit → ATm → List AObj → Prop} : ∀ (n : Nat) (i_1 : Int) (i_2 : Int) (o : Int), ref12_Things_L1 N a_0 l_1 b_2 a_3 l_4 l_5 l_6 l_7 l_8 l_9 l_10 l_11 l_12 l_13 l_14 l_15 n i_1 i_2 = some o → (match o with | z_1 => R (.exit 0) ⟨119, [(1, .ptr 0 0 0), (3, .int .i64 z_1)], []⟩ [.box [.int .i64 a_0, .vec c_0 (List.map eTSpan l_1), .bool b_2, .int .i64 a_3, .vec c_1 (List.map eLI64 l_4), .vec c_2 (List.map eLTLig l_5), .vec c_3 (List.map eTCtx l_6), .vec c_4 (List.map eTValue l_7), .vec c_5 (List.map eLTTwo l_8), .vec c_6 (List.map eTClass l_9), .vec c_7 (List.map eTClass l_10), .vec c_8 (List.map eLTTwo l_11), .vec c_9 (List.map eTArr2_TAnchor l_12), .vec c_10 (List.map eTMark l_13), .vec c_11 (List.map eTSpan l_14), .vec c_12 (List.map eLLTAnchor l_15)] 35]) →
    ALp Go.Proofs.Try.prog 0 B16_1 ⟨119, [(1, .ptr 0 0 0), (3, .int .i64 i_1), (4, .int .i64 i_2)], []⟩ [.box [.int .i64 a_0, .vec c_0 (List.map eTSpan l_1), .bool b_2, .int .i64 a_3, .vec c_1 (List.map eLI64 l_4), .vec c_2 (List.map eLTLig l_5), .vec c_3 (List.map eTCtx l_6), .vec c_4 (List.map eTValue l_7), .vec c_5 (List.map eLTTwo l_8), .vec c_6 (List.map eTClass l_9), .vec c_7 (List.map eTClass l_10), .vec c_8 (List.map eLTTwo l_11), .vec c_9 (List.map eTArr2_TAnchor l_12), .vec c_10 (List.map eTMark l_13), .vec c_11 (List.map eTSpan l_14), .vec c_12 (List.map eLLTAnchor l_15)] 35] R := by
  intro n
  induction n with
  | zero =>
    intro i_1 i_2 o h _
    have h0 : none = some o := h
    cases h0
  | succ n ih =>
    intro i_1 i_2 o h hp
    rw [ref12_Things_L1] at h
    refine ALp.round ?_
    generalize hQ : RoundQ _ _ _ _ = QQ
    simp only [B16_1, A16, go_sem, reduceIte, reduceCtorEq, Nat.reduceEqDiff, Nat.reduceLT, Nat.reduceLeDiff, Nat.reduceAdd, Nat.reduceSub, Nat.reduceMul, Int.reduceToNat, Int.reduceLE, Int.reduceLT, Int.reduceAdd, Int.reduceSub, Int.reduceMul, Int.reduceEq, Int.reduceNeg]
    by_cases h_3 : i_2 < (l_4.length : Int)
    · rw [if_pos h_3] at h
      have e_4 : (i_2 < (l_4.length : Int)) = True := eq_true h_3
      obtain ⟨x_5, h_6, h⟩ := bindS h
      have e_7 : (List.map eLI64 l_4)[(i_2).toNat]? = some [.vec false (List.map eI64 x_5)] := atI_map eLI64 h_6
      have e_8 : ((0 : Int) ≤ i_2) = True := eq_true (atI_some h_6).1
      have e_9 : ((i_2 : Int) < (l_4.length : Int)) = True := eq_true (atI_lt h_6)
      simp only [e_4, e_7, e_8, e_9, go_sem, reduceIte, reduceCtorEq, Nat.reduceEqDiff, Nat.reduceLT, Nat.reduceLeDiff, Nat.reduceAdd, Nat.reduceSub, Nat.reduceMul, Int.reduceToNat, Int.reduceLE, Int.reduceLT, Int.reduceAdd, Int.reduceSub, Int.reduceMul, Int.reduceEq, Int.reduceNeg]
      rw [← hQ]
      exact ⟨_, _, (Ref.std [1, 3, 4] [0] (by decide) low0 rfl (by first | rfl | simp only [go_sem, reduceIte, Nat.reduceEqDiff, Nat.reduceAdd, e_4])), (Nat.zero_le _), ih _ _ _ h hp⟩
    · rw [if_neg h_3] at h
      have e_4 : (i_2 < (l_4.length : Int)) = False := eq_false h_3
      simp only [e_4, go_sem, reduceIte, reduceCtorEq, Nat.reduceEqDiff, Nat.reduceLT, Nat.reduceLeDiff, Nat.reduceAdd, Nat.reduceSub, Nat.reduceMul, Int.reduceToNat, Int.reduceLE, Int.reduceLT, Int.reduceAdd, Int.reduceSub, Int.reduceMul, Int.reduceEq, Int.reduceNeg]
      have g := Option.some.inj h
      subst g
      rw [← hQ]
      exact ⟨_, _, (Ref.std [1, 3] [0] (by decide) low0 rfl (by first | rfl | simp only [go_sem, reduceIte, Nat.reduceEqDiff, Nat.reduceAdd, e_4])), hp⟩
theorem ref12_Things_L3_w (N : Nat) (i_1004 : Int) (a_0 : Int) (l_1 : List TSpan) (b_2 : Bool) (a_3 : Int) (l_4 : List (List Int)) (l_5 : List (List TLig)) (l_6 : List TCtx) (l_7 : List TValue) (l_8 : List (List TTwo)) (l_9 : List TClass) (l_10 : List TClass) (l_11 : List (List TTwo)) (l_12 : List TArr2_TAnchor) (l_13 : List TMark) (l_14 : List TSpan) (l_15 : List (List (List TAnchor))) (c_0 : Bool) (c_1 : Bool) (c_2 : Bool) (c_3 : Bool) (c_4 : Bool) (c_5 : Bool) (c_6 : Bool) (c_7 : Bool) (c_8 : Bool) (c_9 : Bool) (c_10 : Bool) (c_11 : Bool) (c_12 : Bool) {R : AExit → ATm → List AObj → Prop} : ∀ (n : Nat) (i_1007 : Int) (i_1008 : Int) (o : Int), ref12_Things_L3 N i_1004 a_0 l_1 b_2 a_3 l_4 l_5 l_6 l_7 l_8 l_9 l_10 l_11 l_12 l_13 l_14 l_15 n i_1007 i_1008 = some o → (match o with | z_1 => R (.exit 4) ⟨119, [(1, .ptr 0 0 0), (3, .int .i64 z_1), (5, .int .i64 i_1004)], []⟩ [.box [.int .i64 a_0, .vec c_0 (List.map eTSpan l_1), .bool b_2, .int .i64 a_3, .vec c_1 (List.map eLI64 l_4), .vec c_2 (List.map eLTLig l_5), .vec c_3 (List.map eTCtx l_6), .vec c_4 (List.map eTValue l_7), .vec c_5 (List.map eLTTwo l_8), .vec c_6 (List.map eTClass l_9), .vec c_7 (List.map eTClass l_10), .vec c_8 (List.map eLTTwo l_11), .vec c_9 (List.map eTArr2_TAnchor l_12), .vec c_10 (List.map eTMark l_13), .vec c_11 (List.map eTSpan l_14), .vec c_12 (List.map eLLTAnchor l_15)] 35]) →
    ALp Go.Proofs.Try.prog 0 B16_3 ⟨119, [(1, .ptr 0 0 0), (3, .int .i64 i_1007), (5, .int .i64 i_1004), (6, .int .i64 i_1008)], []⟩ [.box [.int .i64 a_0, .vec c_0 (List.map eTSpan l_1), .bool b_2, .int .i64 a_3, .vec c_1 (List.map eLI64 l_4), .vec c_2 (List.map eLTLig l_5), .vec c_3 (List.map eTCtx l_6), .vec c_4 (List.map eTValue l_7), .vec c_5 (List.map eLTTwo l_8), .vec c_6 (List.map eTClass l_9), .vec c_7 (List.map eTClass l_10), .vec c_8 (List.map eLTTwo l_11), .vec c_9 (List.map eTArr2_TAnchor l_12), .vec c_10 (List.map eTMark l_13), .vec c_11 (List.map eTSpan l_14), .vec c_12 (List.map eLLTAnchor l_15)] 35] R := by
  intro n
  induction n with
  | zero =>
    intro i_1007 i_1008 o h _
    have h0 : none = some o := h
    cases h0
  | succ n ih =>
    intro i_1007 i_1008 o h hp
    rw [ref12_Things_L3] at h
    refine ALp.round ?_
    generalize hQ : RoundQ _ _ _ _ = QQ
    obtain ⟨x_1009, h_1010, h⟩ := bindS h
    have e_1011 : (List.map eLTLig l_5)[(i_1004).toNat]? = some [.vec false (List.map eTLig x_1009)] := atI_map eLTLig h_1010
    have e_1012 : ((0 : Int) ≤ i_1004) = True := eq_true (atI_some h_1010).1
    have e_1013 : ((i_1004 : Int) < (l_5.length : Int)) = True := eq_true (atI_lt h_1010)
    simp only [B16_3, B16_2, A16, e_1011, e_1012, e_1013, go_sem, reduceIte, reduceCtorEq, Nat.reduceEqDiff, Nat.reduceLT, Nat.reduceLeDiff, Nat.reduceAdd, Nat.reduceSub, Nat.reduceMul, Int.reduceToNat, Int.reduceLE, Int.reduceLT, Int.reduceAdd, Int.reduceSub, Int.reduceMul, Int.reduceEq, Int.reduceNeg]
    by_cases h_1014 : i_1008 < (x_1009.length : Int)
    · rw [if_pos h_1014] at h
      have e_1015 : (i_1008 < (x_1009.length : Int)) = True := eq_true h_1014
      obtain ⟨x_1016, h_1017, h⟩ := bindS h
      have e_1018 : (List.map eTLig x_1009)[(i_1008).toNat]? = some [.vec false (List.map eI64 x_1016.Parts), .int .i64 x_1016.To] := atI_map eTLig h_1017
      have e_1019 : ((0 : Int) ≤ i_1008) = True := eq_true (atI_some h_1017).1
      have e_1020 : ((i_1008 : Int) < (x_1009.length : Int)) = True := eq_true (atI_lt h_1017)
      simp only [e_1011, e_1012, e_1013, e_1015, e_1018, e_1019, e_1020, go_sem, reduceIte, reduceCtorEq, Nat.reduceEqDiff, Nat.reduceLT, Nat.reduceLeDiff, Nat.reduceAdd, Nat.reduceSub, Nat.reduceMul, Int.reduceToNat, Int.reduceLE, Int.reduceLT, Int.reduceAdd, Int.reduceSub, Int.reduceMul, Int.reduceEq, Int.reduceNeg]
      rw [← hQ]
      exact ⟨_, _, (Ref.std [1, 3, 5, 6] [0] (by decide) low0 rfl (by first | rfl | simp only [go_sem, reduceIte, Nat.reduceEqDiff, Nat.reduceAdd, e_1015])), (Nat.zero_le _), ih _ _ _ h hp⟩
    · rw [if_neg h_1014] at h
      have e_1015 : (i_1008 < (x_1009.length : Int)) = False := eq_false h_1014
      simp only [e_1011, e_1012, e_1013, e_1015, go_sem, reduceIte, reduceCtorEq, Nat.reduceEqDiff, Nat.reduceLT, Nat.reduceLeDiff, Nat.reduceAdd, Nat.reduceSub, Nat.reduceMul, Int.reduceToNat, Int.reduceLE, Int.reduceLT, Int.reduceAdd, Int.reduceSub, Int.reduceMul, Int.reduceEq, Int.reduceNeg]
      have g := Option.some.inj h
      subst g
      rw [← hQ]
      exact ⟨_, _, (Ref.std [1, 3, 5] [0] (by decide) low0 rfl (by first | rfl | simp only [go_sem, reduceIte, Nat.reduceEqDiff, Nat.reduceAdd, e_1015])), hp⟩
theorem ref12_Things_L4_w (N : Nat) (a_0 : Int) (l_1 : List TSpan) (b_2 : Bool) (a_3 : Int) (l_4 : List (List Int)) (l_5 : List (List TLig)) (l_6 : List TCtx) (l_7 : List TValue) (l_8 : List (List TTwo)) (l_9 : List TClass) (l_10 : List TClass) (l_11 : List (List TTwo)) (l_12 : List TArr2_TAnchor) (l_13 : List TMark) (l_14 : List TSpan) (l_15 : List (List (List TAnchor))) (c_0 : Bool) (c_1 : Bool) (c_2 : Bool) (c_3 : Bool) (c_4 : Bool) (c_5 : Bool) (c_6 : Bool) (c_7 : Bool) (c_8 : Bool) (c_9 : Bool) (c_10 : Bool) (c_11 : Bool) (c_12 : Bool) {R : AExit → ATm → List AObj → Prop} : ∀ (n : Nat) (i_1003 : Int) (i_1004 : Int) (o : Int), ref12_Things_L4 N a_0 l_1 b_2 a_3 l_4 l_5 l_6 l_7 l_8 l_9 l_10 l_11 l_12 l_13 l_14 l_15 n i_1003 i_1004 = some o → (match o with | z_1 => R (.exit 2) ⟨119, [(1, .ptr 0 0 0), (3, .int .i64 z_1)], []⟩ [.box [.int .i64 a_0, .vec c_0 (List.map eTSpan l_1), .bool b_2, .int .i64 a_3, .vec c_1 (List.map eLI64 l_4), .vec c_2 (List.map eLTLig l_5), .vec c_3 (List.map eTCtx l_6), .vec c_4 (List.map eTValue l_7), .vec c_5 (List.map eLTTwo l_8), .vec c_6 (List.map eTClass l_9), .vec c_7 (List.map eTClass l_10), .vec c_8 (List.map eLTTwo l_11), .vec c_9 (List.map eTArr2_TAnchor l_12), .vec c_10 (List.map eTMark l_13), .vec c_11 (List.map eTSpan l_14), .vec c_12 (List.map eLLTAnchor l_15)] 35]) →
    ALp Go.Proofs.Try.prog 0 B16_2 ⟨119, [(1, .ptr 0 0 0), (3, .int .i64 i_1003), (5, .int .i64 i_1004)], []⟩ [.box [.int .i64 a_0, .vec c_0 (List.map eTSpan l_1), .bool b_2, .int .i64 a_3, .vec c_1 (List.map eLI64 l_4), .vec c_2 (List.map eLTLig l_5), .vec c_3 (List.map eTCtx l_6), .vec c_4 (List.map eTValue l_7), .vec c_5 (List.map eLTTwo l_8), .vec c_6 (List.map eTClass l_9), .vec c_7 (List.map eTClass l_10), .vec c_8 (List.map eLTTwo l_11), .vec c_9 (List.map eTArr2_TAnchor l_12), .vec c_10 (List.map eTMark l_13), .vec c_11 (List.map eTSpan l_14), .vec c_12 (List.map eLLTAnchor l_15)] 35] R := by
  intro n
  induction n with
  | zero =>
    intro i_1003 i_1004 o h _
    have h0 : none = some o := h
    cases h0
  | succ n ih =>
    intro i_1003 i_1004 o h hp
    rw [ref12_Things_L4] at h
    refine ALp.round ?_
    generalize hQ : RoundQ _ _ _ _ = QQ
    simp only [B16_2, A16, go_sem, reduceIte, reduceCtorEq, Nat.reduceEqDiff, Nat.reduceLT, Nat.reduceLeDiff, Nat.reduceAdd, Nat.reduceSub, Nat.reduceMul, Int.reduceToNat, Int.reduceLE, Int.reduceLT, Int.reduceAdd, Int.reduceSub, Int.reduceMul, Int.reduceEq, Int.reduceNeg]
    by_cases h_1005 : i_1004 < (l_5.length : Int)
    · rw [if_pos h_1005] at h
      have e_1006 : (i_1004 < (l_5.length : Int)) = True := eq_true h_1005
      simp only [e_1006, go_sem, reduceIte, reduceCtorEq, Nat.reduceEqDiff, Nat.reduceLT, Nat.reduceLeDiff, Nat.reduceAdd, Nat.reduceSub, Nat.reduceMul, Int.reduceToNat, Int.reduceLE, Int.reduceLT, Int.reduceAdd, Int.reduceSub, Int.reduceMul, Int.reduceEq, Int.reduceNeg]
      obtain ⟨y_2008, h_2007, h⟩ := bindS h
      refine ALp.ref (Ref.std [1, 3, 5, 6] [0] (by decide) low0 rfl (by first | rfl | simp only [go_sem, reduceIte, Nat.reduceEqDiff, Nat.reduceAdd, e_1006])) (Nat.zero_le _) (ref12_Things_L3_w N _ _ _ _ _ _ _ _ _ _ _ _ _ _ _ _ _ c_0 c_1 c_2 c_3 c_4 c_5 c_6 c_7 c_8 c_9 c_10 c_11 c_12 N _ _ y_2008 h_2007 ?_)
      refine LoopK_go rfl (Nat.zero_le _) ?_
      simp only [e_1006, go_sem, reduceIte, reduceCtorEq, Nat.reduceEqDiff, Nat.reduceLT, Nat.reduceLeDiff, Nat.reduceAdd, Nat.reduceSub, Nat.reduceMul, Int.reduceToNat, Int.reduceLE, Int.reduceLT, Int.reduceAdd, Int.reduceSub, Int.reduceMul, Int.reduceEq, Int.reduceNeg]
      rw [← hQ]
      exact ⟨_, _, (Ref.std [1, 3, 5] [0] (by decide) low0 rfl (by first | rfl | simp only [go_sem, reduceIte, Nat.reduceEqDiff, Nat.reduceAdd, e_1006])), (Nat.zero_le _), ih _ _ _ h hp⟩
    · rw [if_neg h_1005] at h
      have e_1006 : (i_1004 < (l_5.length : Int)) = False := eq_false h_1005
      simp only [e_1006, go_sem, reduceIte, reduceCtorEq, Nat.reduceEqDiff, Nat.reduceLT, Nat.reduceLeDiff, Nat.reduceAdd, Nat.reduceSub, Nat.reduceMul, Int.reduceToNat, Int.reduceLE, Int.reduceLT, Int.reduceAdd, Int.reduceSub, Int.reduceMul, Int.reduceEq, Int.reduceNeg]
      have g := Option.some.inj h
      subst g
      rw [← hQ]
      exact ⟨_, _, (Ref.std [1, 3] [0] (by decide) low0 rfl (by first | rfl | simp only [go_sem, reduceIte, Nat.reduceEqDiff, Nat.reduceAdd, e_1006])), hp⟩
theorem ref12_Things_L11_w (N : Nat) (i_2006 : Int) (i_2015 : Int) (x_2018 : TCtx) (a_0 : Int) (l_1 : List TSpan) (b_2 : Bool) (a_3 : Int) (l_4 : List (List Int)) (l_5 : List (List TLig)) (l_6 : List TCtx) (l_7 : List TValue) (l_8 : List (List TTwo)) (l_9 : List TClass) (l_10 : List TClass) (l_11 : List (List TTwo)) (l_12 : List TArr2_TAnchor) (l_13 : List TMark) (l_14 : List TSpan) (l_15 : List (List (List TAnchor))) (c_0 : Bool) (c_1 : Bool) (c_2 : Bool) (c_3 : Bool) (c_4 : Bool) (c_5 : Bool) (c_6 : Bool) (c_7 : Bool) (c_8 : Bool) (c_9 : Bool) (c_10 : Bool) (c_11 : Bool) (c_12 : Bool) {R : AExit → ATm → List AObj → Prop} : ∀ (n : Nat) (i_2027 : Int) (i_2028 : Int) (o : Int), ref12_Things_L11 N i_2006 i_2015 x_2018 a_0 l_1 b_2 a_3 l_4 l_5 l_6 l_7 l_8 l_9 l_10 l_11 l_12 l_13 l_14 l_15 n i_2027 i_2028 = some o → (match o with | z_1 => R (.exit 10) ⟨119, [(1, .ptr 0 0 0), (3, .int .i64 z_1), (7, .int .i64 i_2006), (8, .int .i64 i_2015)], []⟩ [.box [.int .i64 a_0, .vec c_0 (List.map eTSpan l_1), .bool b_2, .int .i64 a_3, .vec c_1 (List.map eLI64 l_4), .vec c_2 (List.map eLTLig l_5), .vec c_3 (List.map eTCtx l_6), .vec c_4 (List.map eTValue l_7), .vec c_5 (List.map eLTTwo l_8), .vec c_6 (List.map eTClass l_9), .vec c_7 (List.map eTClass l_10), .vec c_8 (List.map eLTTwo l_11), .vec c_9 (List.map eTArr2_TAnchor l_12), .vec c_10 (List.map eTMark l_13), .vec c_11 (List.map eTSpan l_14), .vec c_12 (List.map eLLTAnchor l_15)] 35]) →
    ALp Go.Proofs.Try.prog 0 B16_6 ⟨119, [(1, .ptr 0 0 0), (3, .int .i64 i_2027), (7, .int .i64 i_2006), (8, .int .i64 i_2015), (9, .vec false (List.map eTSet x_2018.Ahead)), (10, .int .i64 i_2028)], []⟩ [.box [.int .i64 a_0, .vec c_0 (List.map eTSpan l_1), .bool b_2, .int .i64 a_3, .vec c_1 (List.map eLI64 l_4), .vec c_2 (List.map eLTLig l_5), .vec c_3 (List.map eTCtx l_6), .vec c_4 (List.map eTValue l_7), .vec c_5 (List.map eLTTwo l_8), .vec c_6 (List.map eTClass l_9), .vec c_7 (List.map eTClass l_10), .vec c_8 (List.map eLTTwo l_11), .vec c_9 (List.map eTArr2_TAnchor l_12), .vec c_10 (List.map eTMark l_13), .vec c_11 (List.map eTSpan l_14), .vec c_12 (List.map eLLTAnchor l_15)] 35] R := by
  intro n
  induction n with
  | zero =>
    intro i_2027 i_2028 o h _
    have h0 : none = some o := h
    cases h0
  | succ n ih =>
    intro i_2027 i_2028 o h hp
    rw [ref12_Things_L11] at h
    refine ALp.round ?_
    generalize hQ : RoundQ _ _ _ _ = QQ
    simp only [B16_6, B16_5, B16_4, A16, go_sem, reduceIte, reduceCtorEq, Nat.reduceEqDiff, Nat.reduceLT, Nat.reduceLeDiff, Nat.reduceAdd, Nat.reduceSub, Nat.reduceMul, Int.reduceToNat, Int.reduceLE, Int.reduceLT, Int.reduceAdd, Int.reduceSub, Int.reduceMul, Int.reduceEq, Int.reduceNeg]
    by_cases h_2029 : i_2028 < (x_2018.Ahead.length : Int)
    · rw [if_pos h_2029] at h
      have e_2030 : (i_2028 < (x_2018.Ahead.length : Int)) = True := eq_true h_2029
      obtain ⟨x_2031, h_2032, h⟩ := bindS h
      have e_2033 : (List.map eTSet x_2018.Ahead)[(i_2028).toNat]? = some [.vec false (List.map eTSpan x_2031.Spans), .bool x_2031.Not] := atI_map eTSet h_2032
      have e_2034 : ((0 : Int) ≤ i_2028) = True := eq_true (atI_some h_2032).1
      have e_2035 : ((i_2028 : Int) < (x_2018.Ahead.length : Int)) = True := eq_true (atI_lt h_2032)
      simp only [e_2030, e_2033, e_2034, e_2035, go_sem, reduceIte, reduceCtorEq, Nat.reduceEqDiff, Nat.reduceLT, Nat.reduceLeDiff, Nat.reduceAdd, Nat.reduceSub, Nat.reduceMul, Int.reduceToNat, Int.reduceLE, Int.reduceLT, Int.reduceAdd, Int.reduceSub, Int.reduceMul, Int.reduceEq, Int.reduceNeg]
      rw [← hQ]
      exact ⟨_, _, (Ref.std [1, 3, 7, 8, 9, 10] [0] (by decide) low0 rfl (by first | rfl | simp only [go_sem, reduceIte, Nat.reduceEqDiff, Nat.reduceAdd, e_2030])), (Nat.zero_le _), ih _ _ _ h hp⟩
    · rw [if_neg h_2029] at h
      have e_2030 : (i_2028 < (x_2018.Ahead.length : Int)) = False := eq_false h_2029
      simp only [e_2030, go_sem, reduceIte, reduceCtorEq, Nat.reduceEqDiff, Nat.reduceLT, Nat.reduceLeDiff, Nat.reduceAdd, Nat.reduceSub, Nat.reduceMul, Int.reduceToNat, Int.reduceLE, Int.reduceLT, Int.reduceAdd, Int.reduceSub, Int.reduceMul, Int.reduceEq, Int.reduceNeg]
      have g := Option.some.inj h
      subst g
      rw [← hQ]
      exact ⟨_, _, (Ref.std [1, 3, 7, 8] [0] (by decide) low0 rfl (by first | rfl | simp only [go_sem, reduceIte, Nat.reduceEqDiff, Nat.reduceAdd, e_2030])), hp⟩
theorem ref12_Things_L12_w (N : Nat) (i_2006 : Int) (i_2015 : Int) (x_2018 : TCtx) (a_0 : Int) (l_1 : List TSpan) (b_2 : Bool) (a_3 : Int) (l_4 : List (List Int)) (l_5 : List (List TLig)) (l_6 : List TCtx) (l_7 : List TValue) (l_8 : List (List TTwo)) (l_9 : List TClass) (l_10 : List TClass) (l_11 : List (List TTwo)) (l_12 : List TArr2_TAnchor) (l_13 : List TMark) (l_14 : List TSpan) (l_15 : List (List (List TAnchor))) (c_0 : Bool) (c_1 : Bool) (c_2 : Bool) (c_3 : Bool) (c_4 : Bool) (c_5 : Bool) (c_6 : Bool) (c_7 : Bool) (c_8 : Bool) (c_9 : Bool) (c_10 : Bool) (c_11 : Bool) (c_12 : Bool) {R : AExit → ATm → List AObj → Prop} : ∀ (n : Nat) (i_3029 : Int) (i_3030 : Int) (o : Int), ref12_Things_L12 N i_2006 i_2015 x_2018 a_0 l_1 b_2 a_3 l_4 l_5 l_6 l_7 l_8 l_9 l_10 l_11 l_12 l_13 l_14 l_15 n i_3029 i_3030 = some o → (match o with | z_1 => R (.exit 10) ⟨119, [(1, .ptr 0 0 0), (3, .int .i64 z_1), (7, .int .i64 i_2006), (8, .int .i64 i_2015)], []⟩ [.box [.int .i64 a_0, .vec c_0 (List.map eTSpan l_1), .bool b_2, .int .i64 a_3, .vec c_1 (List.map eLI64 l_4), .vec c_2 (List.map eLTLig l_5), .vec c_3 (List.map eTCtx l_6), .vec c_4 (List.map eTValue l_7), .vec c_5 (List.map eLTTwo l_8), .vec c_6 (List.map eTClass l_9), .vec c_7 (List.map eTClass l_10), .vec c_8 (List.map eLTTwo l_11), .vec c_9 (List.map eTArr2_TAnchor l_12), .vec c_10 (List.map eTMark l_13), .vec c_11 (List.map eTSpan l_14), .vec c_12 (List.map eLLTAnchor l_15)] 35]) →
    ALp Go.Proofs.Try.prog 0 B16_6 ⟨119, [(1, .ptr 0 0 0), (3, .int .i64 i_3029), (7, .int .i64 i_2006), (8, .int .i64 i_2015), (9, .vec false (List.map eTSet x_2018.In)), (10, .int .i64 i_3030)], []⟩ [.box [.int .i64 a_0, .vec c_0 (List.map eTSpan l_1), .bool b_2, .int .i64 a_3, .vec c_1 (List.map eLI64 l_4), .vec c_2 (List.map eLTLig l_5), .vec c_3 (List.map eTCtx l_6), .vec c_4 (List.map eTValue l_7), .vec c_5 (List.map eLTTwo l_8), .vec c_6 (List.map eTClass l_9), .vec c_7 (List.map eTClass l_10), .vec c_8 (List.map eLTTwo l_11), .vec c_9 (List.map eTArr2_TAnchor l_12), .vec c_10 (List.map eTMark l_13), .vec c_11 (List.map eTSpan l_14), .vec c_12 (List.map eLLTAnchor l_15)] 35] R := by
  intro n
  induction n with
  | zero =>
    intro i_3029 i_3030 o h _
    have h0 : none = some o := h
    cases h0
  | succ n ih =>
    intro i_3029 i_3030 o h hp
    rw [ref12_Things_L12] at h
    refine ALp.round ?_
    generalize hQ : RoundQ _ _ _ _ = QQ
    simp only [B16_6, B16_5, B16_4, A16, go_sem, reduceIte, reduceCtorEq, Nat.reduceEqDiff, Nat.reduceLT, Nat.reduceLeDiff, Nat.reduceAdd, Nat.reduceSub, Nat.reduceMul, Int.reduceToNat, Int.reduceLE, Int.reduceLT, Int.reduceAdd, Int.reduceSub, Int.reduceMul, Int.reduceEq, Int.reduceNeg]
    by_cases h_3031 : i_3030 < (x_2018.In.length : Int)
    · rw [if_pos h_3031] at h
      have e_3032 : (i_3030 < (x_2018.In.length : Int)) = True := eq_true h_3031
      obtain ⟨x_3033, h_3034, h⟩ := bindS h
      have e_3035 : (List.map eTSet x_2018.In)[(i_3030).toNat]? = some [.vec false (List.map eTSpan x_3033.Spans), .bool x_3033.Not] := atI_map eTSet h_3034
      have e_3036 : ((0 : Int) ≤ i_3030) = True := eq_true (atI_some h_3034).1
      have e_3037 : ((i_3030 : Int) < (x_2018.In.length : Int)) = True := eq_true (atI_lt h_3034)
      simp only [e_3032, e_3035, e_3036, e_3037, go_sem, reduceIte, reduceCtorEq, Nat.reduceEqDiff, Nat.reduceLT, Nat.reduceLeDiff, Nat.reduceAdd, Nat.reduceSub, Nat.reduceMul, Int.reduceToNat, Int.reduceLE, Int.reduceLT, Int.reduceAdd, Int.reduceSub, Int.reduceMul, Int.reduceEq, Int.reduceNeg]
      rw [← hQ]
      exact ⟨_, _, (Ref.std [1, 3, 7, 8, 9, 10] [0] (by decide) low0 rfl (by first | rfl | simp only [go_sem, reduceIte, Nat.reduceEqDiff, Nat.reduceAdd, e_3032])), (Nat.zero_le _), ih _ _ _ h hp⟩
    · rw [if_neg h_3031] at h
      have e_3032 : (i_3030 < (x_2018.In.length : Int)) = False := eq_false h_3031
      simp only [e_3032, go_sem, reduceIte, reduceCtorEq, Nat.reduceEqDiff, Nat.reduceLT, Nat.reduceLeDiff, Nat.reduceAdd, Nat.reduceSub, Nat.reduceMul, Int.reduceToNat, Int.reduceLE, Int.reduceLT, Int.reduceAdd, Int.reduceSub, Int.reduceMul, Int.reduceEq, Int.reduceNeg]
      have g := Option.some.inj h
      subst g
      rw [← hQ]
      exact ⟨_, _, (Ref.std [1, 3, 7, 8] [0] (by decide) low0 rfl (by first | rfl | simp only [go_sem, reduceIte, Nat.reduceEqDiff, Nat.reduceAdd, e_3032])), hp⟩
theorem ref12_Things_L13_w (N : Nat) (i_2006 : Int) (i_2015 : Int) (x_2018 : TCtx) (a_0 : Int) (l_1 : List TSpan) (b_2 : Bool) (a_3 : Int) (l_4 : List (List Int)) (l_5 : List (List TLig)) (l_6 : List TCtx) (l_7 : List TValue) (l_8 : List (List TTwo)) (l_9 : List TClass) (l_10 : List TClass) (l_11 : List (List TTwo)) (l_12 : List TArr2_TAnchor) (l_13 : List TMark) (l_14 : List TSpan) (l_15 : List (List (List TAnchor))) (c_0 : Bool) (c_1 : Bool) (c_2 : Bool) (c_3 : Bool) (c_4 : Bool) (c_5 : Bool) (c_6 : Bool) (c_7 : Bool) (c_8 : Bool) (c_9 : Bool) (c_10 : Bool) (c_11 : Bool) (c_12 : Bool) {R : AExit → ATm → List AObj → Prop} : ∀ (n : Nat) (i_5035 : Int) (i_5036 : Int) (o : Int), ref12_Things_L13 N i_2006 i_2015 x_2018 a_0 l_1 b_2 a_3 l_4 l_5 l_6 l_7 l_8 l_9 l_10 l_11 l_12 l_13 l_14 l_15 n i_5035 i_5036 = some o → (match o with | z_1 => R (.exit 10) ⟨119, [(1, .ptr 0 0 0), (3, .int .i64 z_1), (7, .int .i64 i_2006), (8, .int .i64 i_2015)], []⟩ [.box [.int .i64 a_0, .vec c_0 (List.map eTSpan l_1), .bool b_2, .int .i64 a_3, .vec c_1 (List.map eLI64 l_4), .vec c_2 (List.map eLTLig l_5), .vec c_3 (List.map eTCtx l_6), .vec c_4 (List.map eTValue l_7), .vec c_5 (List.map eLTTwo l_8), .vec c_6 (List.map eTClass l_9), .vec c_7 (List.map eTClass l_10), .vec c_8 (List.map eLTTwo l_11), .vec c_9 (List.map eTArr2_TAnchor l_12), .vec c_10 (List.map eTMark l_13), .vec c_11 (List.map eTSpan l_14), .vec c_12 (List.map eLLTAnchor l_15)] 35]) →
    ALp Go.Proofs.Try.prog 0 B16_6 ⟨119, [(1, .ptr 0 0 0), (3, .int .i64 i_5035), (7, .int .i64 i_2006), (8, .int .i64 i_2015), (9, .vec false (List.map eTSet x_2018.Back)), (10, .int .i64 i_5036)], []⟩ [.box [.int .i64 a_0, .vec c_0 (List.map eTSpan l_1), .bool b_2, .int .i64 a_3, .vec c_1 (List.map eLI64 l_4), .vec c_2 (List.map eLTLig l_5), .vec c_3 (List.map eTCtx l_6), .vec c_4 (List.map eTValue l_7), .vec c_5 (List.map eLTTwo l_8), .vec c_6 (List.map eTClass l_9), .vec c_7 (List.map eTClass l_10), .vec c_8 (List.map eLTTwo l_11), .vec c_9 (List.map eTArr2_TAnchor l_12), .vec c_10 (List.map eTMark l_13), .vec c_11 (List.map eTSpan l_14), .vec c_12 (List.map eLLTAnchor l_15)] 35] R := by
  intro n
  induction n with
  | zero =>
    intro i_5035 i_5036 o h _
    have h0 : none = some o := h
    cases h0
  | succ n ih =>
    intro i_5035 i_5036 o h hp
    rw [ref12_Things_L13] at h
    refine ALp.round ?_
    generalize hQ : RoundQ _ _ _ _ = QQ
    simp only [B16_6, B16_5, B16_4, A16, go_sem, reduceIte, reduceCtorEq, Nat.reduceEqDiff, Nat.reduceLT, Nat.reduceLeDiff, Nat.reduceAdd, Nat.reduceSub, Nat.reduceMul, Int.reduceToNat, Int.reduceLE, Int.reduceLT, Int.reduceAdd, Int.reduceSub, Int.reduceMul, Int.reduceEq, Int.reduceNeg]
    by_cases h_5037 : i_5036 < (x_2018.Back.length : Int)
    · rw [if_pos h_5037] at h
      have e_5038 : (i_5036 < (x_2018.Back.length : Int)) = True := eq_true h_5037
      obtain ⟨x_5039, h_5040, h⟩ := bindS h
      have e_5041 : (List.map eTSet x_2018.Back)[(i_5036).toNat]? = some [.vec false (List.map eTSpan x_5039.Spans), .bool x_5039.Not] := atI_map eTSet h_5040
      have e_5042 : ((0 : Int) ≤ i_5036) = True := eq_true (atI_some h_5040).1
      have e_5043 : ((i_5036 : Int) < (x_2018.Back.length : Int)) = True := eq_true (atI_lt h_5040)
      simp only [e_5038, e_5041, e_5042, e_5043, go_sem, reduceIte, reduceCtorEq, Nat.reduceEqDiff, Nat.reduceLT, Nat.reduceLeDiff, Nat.reduceAdd, Nat.reduceSub, Nat.reduceMul, Int.reduceToNat, Int.reduceLE, Int.reduceLT, Int.reduceAdd, Int.reduceSub, Int.reduceMul, Int.reduceEq, Int.reduceNeg]
      rw [← hQ]
      exact ⟨_, _, (Ref.std [1, 3, 7, 8, 9, 10] [0] (by decide) low0 rfl (by first | rfl | simp only [go_sem, reduceIte, Nat.reduceEqDiff, Nat.reduceAdd, e_5038])), (Nat.zero_le _), ih _ _ _ h hp⟩
    · rw [if_neg h_5037] at h
      have e_5038 : (i_5036 < (x_2018.Back.length : Int)) = False := eq_false h_5037
      simp only [e_5038, go_sem, reduceIte, reduceCtorEq, Nat.reduceEqDiff, Nat.reduceLT, Nat.reduceLeDiff, Nat.reduceAdd, Nat.reduceSub, Nat.reduceMul, Int.reduceToNat, Int.reduceLE, Int.reduceLT, Int.reduceAdd, Int.reduceSub, Int.reduceMul, Int.reduceEq, Int.reduceNeg]
      have g := Option.some.inj h
      subst g
      rw [← hQ]
      exact ⟨_, _, (Ref.std [1, 3, 7, 8] [0] (by decide) low0 rfl (by first | rfl | simp only [go_sem, reduceIte, Nat.reduceEqDiff, Nat.reduceAdd, e_5038])), hp⟩
theorem ref12_Things_L14_w (N : Nat) (i_2006 : Int) (a_0 : Int) (l_1 : List TSpan) (b_2 : Bool) (a_3 : Int) (l_4 : List (List Int)) (l_5 : List (List TLig)) (l_6 : List TCtx) (l_7 : List TValue) (l_8 : List (List TTwo)) (l_9 : List TClass) (l_10 : List TClass) (l_11 : List (List TTwo)) (l_12 : List TArr2_TAnchor) (l_13 : List TMark) (l_14 : List TSpan) (l_15 : List (List (List TAnchor))) (c_0 : Bool) (c_1 : Bool) (c_2 : Bool) (c_3 : Bool) (c_4 : Bool) (c_5 : Bool) (c_6 : Bool) (c_7 : Bool) (c_8 : Bool) (c_9 : Bool) (c_10 : Bool) (c_11 : Bool) (c_12 : Bool) {R : AExit → ATm → List AObj → Prop} : ∀ (n : Nat) (i_2014 : Int) (i_2015 : Int) (o : Int), ref12_Things_L14 N i_2006 a_0 l_1 b_2 a_3 l_4 l_5 l_6 l_7 l_8 l_9 l_10 l_11 l_12 l_13 l_14 l_15 n i_2014 i_2015 = some o → (match o with | z_1 => R (.exit 8) ⟨119, [(1, .ptr 0 0 0), (3, .int .i64 z_1), (7, .int .i64 i_2006)], []⟩ [.box [.int .i64 a_0, .vec c_0 (List.map eTSpan l_1), .bool b_2, .int .i64 a_3, .vec c_1 (List.map eLI64 l_4), .vec c_2 (List.map eLTLig l_5), .vec c_3 (List.map eTCtx l_6), .vec c_4 (List.map eTValue l_7), .vec c_5 (List.map eLTTwo l_8), .vec c_6 (List.map eTClass l_9), .vec c_7 (List.map eTClass l_10), .vec c_8 (List.map eLTTwo l_11), .vec c_9 (List.map eTArr2_TAnchor l_12), .vec c_10 (List.map eTMark l_13), .vec c_11 (List.map eTSpan l_14), .vec c_12 (List.map eLLTAnchor l_15)] 35]) →
    ALp Go.Proofs.Try.prog 0 B16_5 ⟨119, [(1, .ptr 0 0 0), (3, .int .i64 i_2014), (7, .int .i64 i_2006), (8, .int .i64 i_2015)], []⟩ [.box [.int .i64 a_0, .vec c_0 (List.map eTSpan l_1), .bool b_2, .int .i64 a_3, .vec c_1 (List.map eLI64 l_4), .vec c_2 (List.map eLTLig l_5), .vec c_3 (List.map eTCtx l_6), .vec c_4 (List.map eTValue l_7), .vec c_5 (List.map eLTTwo l_8), .vec c_6 (List.map eTClass l_9), .vec c_7 (List.map eTClass l_10), .vec c_8 (List.map eLTTwo l_11), .vec c_9 (List.map eTArr2_TAnchor l_12), .vec c_10 (List.map eTMark l_13), .vec c_11 (List.map eTSpan l_14), .vec c_12 (List.map eLLTAnchor l_15)] 35] R := by
  intro n
  induction n with
  | zero =>
    intro i_2014 i_2015 o h _
    have h0 : none = some o := h
    cases h0
  | succ n ih =>
    intro i_2014 i_2015 o h hp
    rw [ref12_Things_L14] at h
    refine ALp.round ?_
    generalize hQ : RoundQ _ _ _ _ = QQ
    simp only [B16_5, B16_4, A16, go_sem, reduceIte, reduceCtorEq, Nat.reduceEqDiff, Nat.reduceLT, Nat.reduceLeDiff, Nat.reduceAdd, Nat.reduceSub, Nat.reduceMul, Int.reduceToNat, Int.reduceLE, Int.reduceLT, Int.reduceAdd, Int.reduceSub, Int.reduceMul, Int.reduceEq, Int.reduceNeg]
    by_cases h_2016 : i_2015 < 3
    · rw [if_pos h_2016] at h
      have e_2017 : (i_2015 < 3) = True := eq_true h_2016
      obtain ⟨x_2018, h_2019, h⟩ := bindS h
      have e_2020 : (List.map eTCtx l_6)[(i_2006).toNat]? = some [.vec false (List.map eTSet x_2018.Back), .vec false (List.map eTSet x_2018.In), .vec false (List.map eTSet x_2018.Ahead), .vec false (List.map eTAct x_2018.Acts)] := atI_map eTCtx h_2019
      have e_2021 : ((0 : Int) ≤ i_2006) = True := eq_true (atI_some h_2019).1
      have e_2022 : ((i_2006 : Int) < (l_6.length : Int)) = True := eq_true (atI_lt h_2019)
      simp only [e_2017, e_2020, e_2021, e_2022, go_sem, reduceIte, reduceCtorEq, Nat.reduceEqDiff, Nat.reduceLT, Nat.reduceLeDiff, Nat.reduceAdd, Nat.reduceSub, Nat.reduceMul, Int.reduceToNat, Int.reduceLE, Int.reduceLT, Int.reduceAdd, Int.reduceSub, Int.reduceMul, Int.reduceEq, Int.reduceNeg]
      by_cases h_2023 : i_2015 = 1
      · rw [if_pos h_2023] at h
        have e_2024 : (i_2015 = 1) = True := eq_true h_2023
        simp only [e_2017, e_2020, e_2021, e_2022, e_2024, go_sem, reduceIte, reduceCtorEq, Nat.reduceEqDiff, Nat.reduceLT, Nat.reduceLeDiff, Nat.reduceAdd, Nat.reduceSub, Nat.reduceMul, Int.reduceToNat, Int.reduceLE, Int.reduceLT, Int.reduceAdd, Int.reduceSub, Int.reduceMul, Int.reduceEq, Int.reduceNeg]
        by_cases h_2025 : i_2015 = 2
        · rw [if_pos h_2025] at h
          have e_2026 : (i_2015 = 2) = True := eq_true h_2025
          simp only [e_2017, e_2020, e_2021, e_2022, e_2024, e_2026, go_sem, reduceIte, reduceCtorEq, Nat.reduceEqDiff, Nat.reduceLT, Nat.reduceLeDiff, Nat.reduceAdd, Nat.reduceSub, Nat.reduceMul, Int.reduceToNat, Int.reduceLE, Int.reduceLT, Int.reduceAdd, Int.reduceSub, Int.reduceMul, Int.reduceEq, Int.reduceNeg]
          obtain ⟨y_3028, h_3027, h⟩ := bindS h
          refine ALp.ref (Ref.std [1, 3, 7, 8, 9, 10] [0] (by decide) low0 rfl (by first | rfl | simp only [go_sem, reduceIte, Nat.reduceEqDiff, Nat.reduceAdd, e_2017, e_2024, e_2026])) (Nat.zero_le _) (ref12_Things_L11_w N _ _ _ _ _ _ _ _ _ _ _ _ _ _ _ _ _ _ _ c_0 c_1 c_2 c_3 c_4 c_5 c_6 c_7 c_8 c_9 c_10 c_11 c_12 N _ _ y_3028 h_3027 ?_)
          refine LoopK_go rfl (Nat.zero_le _) ?_
          simp only [e_2017, e_2020, e_2021, e_2022, e_2024, e_2026, go_sem, reduceIte, reduceCtorEq, Nat.reduceEqDiff, Nat.reduceLT, Nat.reduceLeDiff, Nat.reduceAdd, Nat.reduceSub, Nat.reduceMul, Int.reduceToNat, Int.reduceLE, Int.reduceLT, Int.reduceAdd, Int.reduceSub, Int.reduceMul, Int.reduceEq, Int.reduceNeg]
          rw [← hQ]
          exact ⟨_, _, (Ref.std [1, 3, 7, 8] [0] (by decide) low0 rfl (by first | rfl | simp only [go_sem, reduceIte, Nat.reduceEqDiff, Nat.reduceAdd, e_2017, e_2024, e_2026])), (Nat.zero_le _), ih _ _ _ h hp⟩
        · rw [if_neg h_2025] at h
          have e_2026 : (i_2015 = 2) = False := eq_false h_2025
          simp only [e_2017, e_2020, e_2021, e_2022, e_2024, e_2026, go_sem, reduceIte, reduceCtorEq, Nat.reduceEqDiff, Nat.reduceLT, Nat.reduceLeDiff, Nat.reduceAdd, Nat.reduceSub, Nat.reduceMul, Int.reduceToNat, Int.reduceLE, Int.reduceLT, Int.reduceAdd, Int.reduceSub, Int.reduceMul, Int.reduceEq, Int.reduceNeg]
          obtain ⟨y_4030, h_4029, h⟩ := bindS h
          refine ALp.ref (Ref.std [1, 3, 7, 8, 9, 10] [0] (by decide) low0 rfl (by first | rfl | simp only [go_sem, reduceIte, Nat.reduceEqDiff, Nat.reduceAdd, e_2017, e_2024, e_2026])) (Nat.zero_le _) (ref12_Things_L12_w N _ _ _ _ _ _ _ _ _ _ _ _ _ _ _ _ _ _ _ c_0 c_1 c_2 c_3 c_4 c_5 c_6 c_7 c_8 c_9 c_10 c_11 c_12 N _ _ y_4030 h_4029 ?_)
          refine LoopK_go rfl (Nat.zero_le _) ?_
          simp only [e_2017, e_2020, e_2021, e_2022, e_2024, e_2026, go_sem, reduceIte, reduceCtorEq, Nat.reduceEqDiff, Nat.reduceLT, Nat.reduceLeDiff, Nat.reduceAdd, Nat.reduceSub, Nat.reduceMul, Int.reduceToNat, Int.reduceLE, Int.reduceLT, Int.reduceAdd, Int.reduceSub, Int.reduceMul, Int.reduceEq, Int.reduceNeg]
          rw [← hQ]
          exact ⟨_, _, (Ref.std [1, 3, 7, 8] [0] (by decide) low0 rfl (by first | rfl | simp only [go_sem, reduceIte, Nat.reduceEqDiff, Nat.reduceAdd, e_2017, e_2024, e_2026])), (Nat.zero_le _), ih _ _ _ h hp⟩
      · rw [if_neg h_2023] at h
        have e_2024 : (i_2015 = 1) = False := eq_false h_2023
        simp only [e_2017, e_2020, e_2021, e_2022, e_2024, go_sem, reduceIte, reduceCtorEq, Nat.reduceEqDiff, Nat.reduceLT, Nat.reduceLeDiff, Nat.reduceAdd, Nat.reduceSub, Nat.reduceMul, Int.reduceToNat, Int.reduceLE, Int.reduceLT, Int.reduceAdd, Int.reduceSub, Int.reduceMul, Int.reduceEq, Int.reduceNeg]
        by_cases h_4031 : i_2015 = 2
        · rw [if_pos h_4031] at h
          have e_4032 : (i_2015 = 2) = True := eq_true h_4031
          simp only [e_2017, e_2020, e_2021, e_2022, e_2024, e_4032, go_sem, reduceIte, reduceCtorEq, Nat.reduceEqDiff, Nat.reduceLT, Nat.reduceLeDiff, Nat.reduceAdd, Nat.reduceSub, Nat.reduceMul, Int.reduceToNat, Int.reduceLE, Int.reduceLT, Int.reduceAdd, Int.reduceSub, Int.reduceMul, Int.reduceEq, Int.reduceNeg]
          obtain ⟨y_5034, h_5033, h⟩ := bindS h
          refine ALp.ref (Ref.std [1, 3, 7, 8, 9, 10] [0] (by decide) low0 rfl (by first | rfl | simp only [go_sem, reduceIte, Nat.reduceEqDiff, Nat.reduceAdd, e_2017, e_2024, e_4032])) (Nat.zero_le _) (ref12_Things_L11_w N _ _ _ _ _ _ _ _ _ _ _ _ _ _ _ _ _ _ _ c_0 c_1 c_2 c_3 c_4 c_5 c_6 c_7 c_8 c_9 c_10 c_11 c_12 N _ _ y_5034 h_5033 ?_)
          refine LoopK_go rfl (Nat.zero_le _) ?_
          simp only [e_2017, e_2020, e_2021, e_2022, e_2024, e_4032, go_sem, reduceIte, reduceCtorEq, Nat.reduceEqDiff, Nat.reduceLT, Nat.reduceLeDiff, Nat.reduceAdd, Nat.reduceSub, Nat.reduceMul, Int.reduceToNat, Int.reduceLE, Int.reduceLT, Int.reduceAdd, Int.reduceSub, Int.reduceMul, Int.reduceEq, Int.reduceNeg]
          rw [← hQ]
          exact ⟨_, _, (Ref.std [1, 3, 7, 8] [0] (by decide) low0 rfl (by first | rfl | simp only [go_sem, reduceIte, Nat.reduceEqDiff, Nat.reduceAdd, e_2017, e_2024, e_4032])), (Nat.zero_le _), ih _ _ _ h hp⟩
        · rw [if_neg h_4031] at h
          have e_4032 : (i_2015 = 2) = False := eq_false h_4031
          simp only [e_2017, e_2020, e_2021, e_2022, e_2024, e_4032, go_sem, reduceIte, reduceCtorEq, Nat.reduceEqDiff, Nat.reduceLT, Nat.reduceLeDiff, Nat.reduceAdd, Nat.reduceSub, Nat.reduceMul, Int.reduceToNat, Int.reduceLE, Int.reduceLT, Int.reduceAdd, Int.reduceSub, Int.reduceMul, Int.reduceEq, Int.reduceNeg]
          obtain ⟨y_6036, h_6035, h⟩ := bindS h
          refine ALp.ref (Ref.std [1, 3, 7, 8, 9, 10] [0] (by decide) low0 rfl (by first | rfl | simp only [go_sem, reduceIte, Nat.reduceEqDiff, Nat.reduceAdd, e_2017, e_2024, e_4032])) (Nat.zero_le _) (ref12_Things_L13_w N _ _ _ _ _ _ _ _ _ _ _ _ _ _ _ _ _ _ _ c_0 c_1 c_2 c_3 c_4 c_5 c_6 c_7 c_8 c_9 c_10 c_11 c_12 N _ _ y_6036 h_6035 ?_)
          refine LoopK_go rfl (Nat.zero_le _) ?_
          simp only [e_2017, e_2020, e_2021, e_2022, e_2024, e_4032, go_sem, reduceIte, reduceCtorEq, Nat.reduceEqDiff, Nat.reduceLT, Nat.reduceLeDiff, Nat.reduceAdd, Nat.reduceSub, Nat.reduceMul, Int.reduceToNat, Int.reduceLE, Int.reduceLT, Int.reduceAdd, Int.reduceSub, Int.reduceMul, Int.reduceEq, Int.reduceNeg]
          rw [← hQ]
          exact ⟨_, _, (Ref.std [1, 3, 7, 8] [0] (by decide) low0 rfl (by first | rfl | simp only [go_sem, reduceIte, Nat.reduceEqDiff, Nat.reduceAdd, e_2017, e_2024, e_4032])), (Nat.zero_le _), ih _ _ _ h hp⟩
    · rw [if_neg h_2016] at h
      have e_2017 : (i_2015 < 3) = False := eq_false h_2016
      simp only [e_2017, go_sem, reduceIte, reduceCtorEq, Nat.reduceEqDiff, Nat.reduceLT, Nat.reduceLeDiff, Nat.reduceAdd, Nat.reduceSub, Nat.reduceMul, Int.reduceToNat, Int.reduceLE, Int.reduceLT, Int.reduceAdd, Int.reduceSub, Int.reduceMul, Int.reduceEq, Int.reduceNeg]
      have g := Option.some.inj h
      subst g
      rw [← hQ]
      exact ⟨_, _, (Ref.std [1, 3, 7] [0] (by decide) low0 rfl (by first | rfl | simp only [go_sem, reduceIte, Nat.reduceEqDiff, Nat.reduceAdd, e_2017])), hp⟩
theorem ref12_Things_L15_w (N : Nat) (a_0 : Int) (l_1 : List TSpan) (b_2 : Bool) (a_3 : Int) (l_4 : List (List Int)) (l_5 : List (List TLig)) (l_6 : List TCtx) (l_7 : List TValue) (l_8 : List (List TTwo)) (l_9 : List TClass) (l_10 : List TClass) (l_11 : List (List TTwo)) (l_12 : List TArr2_TAnchor) (l_13 : List TMark) (l_14 : List TSpan) (l_15 : List (List (List TAnchor))) (c_0 : Bool) (c_1 : Bool) (c_2 : Bool) (c_3 : Bool) (c_4 : Bool) (c_5 : Bool) (c_6 : Bool) (c_7 : Bool) (c_8 : Bool) (c_9 : Bool) (c_10 : Bool) (c_11 : Bool) (c_12 : Bool) {R : AExit → ATm → List AObj → Prop} : ∀ (n : Nat) (i_2005 : Int) (i_2006 : Int) (o : Int), ref12_Things_L15 N a_0 l_1 b_2 a_3 l_4 l_5 l_6 l_7 l_8 l_9 l_10 l_11 l_12 l_13 l_14 l_15 n i_2005 i_2006 = some o → (match o with | z_1 => R (.exit 6) ⟨119, [(3, .int .i64 z_1)], []⟩ []) →
    ALp Go.Proofs.Try.prog 0 B16_4 ⟨119, [(1, .ptr 0 0 0), (3, .int .i64 i_2005), (7, .int .i64 i_2006)], []⟩ [.box [.int .i64 a_0, .vec c_0 (List.map eTSpan l_1), .bool b_2, .int .i64 a_3, .vec c_1 (List.map eLI64 l_4), .vec c_2 (List.map eLTLig l_5), .vec c_3 (List.map eTCtx l_6), .vec c_4 (List.map eTValue l_7), .vec c_5 (List.map eLTTwo l_8), .vec c_6 (List.map eTClass l_9), .vec c_7 (List.map eTClass l_10), .vec c_8 (List.map eLTTwo l_11), .vec c_9 (List.map eTArr2_TAnchor l_12), .vec c_10 (List.map eTMark l_13), .vec c_11 (List.map eTSpan l_14), .vec c_12 (List.map eLLTAnchor l_15)] 35] R := by
  intro n
  induction n with
  | zero =>
    intro i_2005 i_2006 o h _
    have h0 : none = some o := h
    cases h0
  | succ n ih =>
    intro i_2005 i_2006 o h hp
    rw [ref12_Things_L15] at h
    refine ALp.round ?_
    generalize hQ : RoundQ _ _ _ _ = QQ
    simp only [B16_4, A16, go_sem, reduceIte, reduceCtorEq, Nat.reduceEqDiff, Nat.reduceLT, Nat.reduceLeDiff, Nat.reduceAdd, Nat.reduceSub, Nat.reduceMul, Int.reduceToNat, Int.reduceLE, Int.reduceLT, Int.reduceAdd, Int.reduceSub, Int.reduceMul, Int.reduceEq, Int.reduceNeg]
    by_cases h_2007 : i_2006 < (l_6.length : Int)
    · rw [if_pos h_2007] at h
      have e_2008 : (i_2006 < (l_6.length : Int)) = True := eq_true h_2007
      obtain ⟨x_2009, h_2010, h⟩ := bindS h
      have e_2011 : (List.map eTCtx l_6)[(i_2006).toNat]? = some [.vec false (List.map eTSet x_2009.Back), .vec false (List.map eTSet x_2009.In), .vec false (List.map eTSet x_2009.Ahead), .vec false (List.map eTAct x_2009.Acts)] := atI_map eTCtx h_2010
      have e_2012 : ((0 : Int) ≤ i_2006) = True := eq_true (atI_some h_2010).1
      have e_2013 : ((i_2006 : Int) < (l_6.length : Int)) = True := eq_true (atI_lt h_2010)
      simp only [e_2008, e_2011, e_2012, e_2013, go_sem, reduceIte, reduceCtorEq, Nat.reduceEqDiff, Nat.reduceLT, Nat.reduceLeDiff, Nat.reduceAdd, Nat.reduceSub, Nat.reduceMul, Int.reduceToNat, Int.reduceLE, Int.reduceLT, Int.reduceAdd, Int.reduceSub, Int.reduceMul, Int.reduceEq, Int.reduceNeg]
      obtain ⟨y_3015, h_3014, h⟩ := bindS h
      refine ALp.ref (Ref.std [1, 3, 7, 8] [0] (by decide) low0 rfl (by first | rfl | simp only [go_sem, reduceIte, Nat.reduceEqDiff, Nat.reduceAdd, e_2008])) (Nat.zero_le _) (ref12_Things_L14_w N _ _ _ _ _ _ _ _ _ _ _ _ _ _ _ _ _ c_0 c_1 c_2 c_3 c_4 c_5 c_6 c_7 c_8 c_9 c_10 c_11 c_12 N _ _ y_3015 h_3014 ?_)
      refine LoopK_go rfl (Nat.zero_le _) ?_
      simp only [e_2008, e_2011, e_2012, e_2013, go_sem, reduceIte, reduceCtorEq, Nat.reduceEqDiff, Nat.reduceLT, Nat.reduceLeDiff, Nat.reduceAdd, Nat.reduceSub, Nat.reduceMul, Int.reduceToNat, Int.reduceLE, Int.reduceLT, Int.reduceAdd, Int.reduceSub, Int.reduceMul, Int.reduceEq, Int.reduceNeg]
      rw [← hQ]
      exact ⟨_, _, (Ref.std [1, 3, 7] [0] (by decide) low0 rfl (by first | rfl | simp only [go_sem, reduceIte, Nat.reduceEqDiff, Nat.reduceAdd, e_2008])), (Nat.zero_le _), ih _ _ _ h hp⟩
    · rw [if_neg h_2007] at h
      have e_2008 : (i_2006 < (l_6.length : Int)) = False := eq_false h_2007
      simp only [e_2008, go_sem, reduceIte, reduceCtorEq, Nat.reduceEqDiff, Nat.reduceLT, Nat.reduceLeDiff, Nat.reduceAdd, Nat.reduceSub, Nat.reduceMul, Int.reduceToNat, Int.reduceLE, Int.reduceLT, Int.reduceAdd, Int.reduceSub, Int.reduceMul, Int.reduceEq, Int.reduceNeg]
      have g := Option.some.inj h
      subst g
      rw [← hQ]
      exact ⟨_, _, (Ref.out [3] rfl), hp⟩
theorem ref12_Things_w (N : Nat) (a_0 : Int) (l_1 : List TSpan) (b_2 : Bool) (a_3 : Int) (l_4 : List (List Int)) (l_5 : List (List TLig)) (l_6 : List TCtx) (l_7 : List TValue) (l_8 : List (List TTwo)) (l_9 : List TClass) (l_10 : List TClass) (l_11 : List (List TTwo)) (l_12 : List TArr2_TAnchor) (l_13 : List TMark) (l_14 : List TSpan) (l_15 : List (List (List TAnchor))) (c_0 : Bool) (c_1 : Bool) (c_2 : Bool) (c_3 : Bool) (c_4 : Bool) (c_5 : Bool) (c_6 : Bool) (c_7 : Bool) (c_8 : Bool) (c_9 : Bool) (c_10 : Bool) (c_11 : Bool) (c_12 : Bool) (z_1 : Int) (h : ref12_Things N a_0 l_1 b_2 a_3 l_4 l_5 l_6 l_7 l_8 l_9 l_10 l_11 l_12 l_13 l_14 l_15 = some z_1) :
    ACalls Go.Proofs.Try.prog 16 [.agg [.int .i64 a_0, .vec c_0 (List.map eTSpan l_1), .bool b_2, .int .i64 a_3, .vec c_1 (List.map eLI64 l_4), .vec c_2 (List.map eLTLig l_5), .vec c_3 (List.map eTCtx l_6), .vec c_4 (List.map eTValue l_7), .vec c_5 (List.map eLTTwo l_8), .vec c_6 (List.map eTClass l_9), .vec c_7 (List.map eTClass l_10), .vec c_8 (List.map eLTTwo l_11), .vec c_9 (List.map eTArr2_TAnchor l_12), .vec c_10 (List.map eTMark l_13), .vec c_11 (List.map eTSpan l_14), .vec c_12 (List.map eLLTAnchor l_15)]] [] (fun e H => H = [] ∧ e = .ret (.int .i64 z_1)) := by
  unfold ref12_Things at h
  refine ACalls.goN Go.Proofs.Try.func16 n16 a16 Go.Proofs.Try.ntmps16 r16 (by simp) 0 rfl ?_
  generalize hQ : bodyA _ _ _ = QQ
  simp only [A16, go_sem, reduceIte, reduceCtorEq, Nat.reduceEqDiff, Nat.reduceLT, Nat.reduceLeDiff, Nat.reduceAdd, Nat.reduceSub, Nat.reduceMul, Int.reduceToNat, Int.reduceLE, Int.reduceLT, Int.reduceAdd, Int.reduceSub, Int.reduceMul, Int.reduceEq, Int.reduceNeg]
  obtain ⟨y_1002, h_1001, h⟩ := bindS h
  refine ALp.ref (Ref.std [1, 3, 4] [0] (by decide) low0 rfl rfl) (Nat.zero_le _) (ref12_Things_L1_w N _ _ _ _ _ _ _ _ _ _ _ _ _ _ _ _ c_0 c_1 c_2 c_3 c_4 c_5 c_6 c_7 c_8 c_9 c_10 c_11 c_12 N _ _ y_1002 h_1001 ?_)
  refine LoopK_go rfl (Nat.zero_le _) ?_
  simp only [go_sem, reduceIte, reduceCtorEq, Nat.reduceEqDiff, Nat.reduceLT, Nat.reduceLeDiff, Nat.reduceAdd, Nat.reduceSub, Nat.reduceMul, Int.reduceToNat, Int.reduceLE, Int.reduceLT, Int.reduceAdd, Int.reduceSub, Int.reduceMul, Int.reduceEq, Int.reduceNeg]
  obtain ⟨y_2004, h_2003, h⟩ := bindS h
  refine ALp.ref (Ref.std [1, 3, 5] [0] (by decide) low0 rfl rfl) (Nat.zero_le _) (ref12_Things_L4_w N _ _ _ _ _ _ _ _ _ _ _ _ _ _ _ _ c_0 c_1 c_2 c_3 c_4 c_5 c_6 c_7 c_8 c_9 c_10 c_11 c_12 N _ _ y_2004 h_2003 ?_)
  refine LoopK_go rfl (Nat.zero_le _) ?_
  simp only [go_sem, reduceIte, reduceCtorEq, Nat.reduceEqDiff, Nat.reduceLT, Nat.reduceLeDiff, Nat.reduceAdd, Nat.reduceSub, Nat.reduceMul, Int.reduceToNat, Int.reduceLE, Int.reduceLT, Int.reduceAdd, Int.reduceSub, Int.reduceMul, Int.reduceEq, Int.reduceNeg]
  obtain ⟨y_3006, h_3005, h⟩ := bindS h
  refine ALp.ref (Ref.std [1, 3, 7] [0] (by decide) low0 rfl rfl) (Nat.zero_le _) (ref12_Things_L15_w N _ _ _ _ _ _ _ _ _ _ _ _ _ _ _ _ c_0 c_1 c_2 c_3 c_4 c_5 c_6 c_7 c_8 c_9 c_10 c_11 c_12 N _ _ y_3006 h_3005 ?_)
  refine LoopK_go rfl (Nat.zero_le _) ?_
  simp only [go_sem, reduceIte, reduceCtorEq, Nat.reduceEqDiff, Nat.reduceLT, Nat.reduceLeDiff, Nat.reduceAdd, Nat.reduceSub, Nat.reduceMul, Int.reduceToNat, Int.reduceLE, Int.reduceLT, Int.reduceAdd, Int.reduceSub, Int.reduceMul, Int.reduceEq, Int.reduceNeg]
  by_cases h_3007 : 20001 < y_3006
  · rw [if_pos h_3007] at h
    have e_3008 : (20001 < y_3006) = True := eq_true h_3007
    simp only [e_3008, go_sem, reduceIte, reduceCtorEq, Nat.reduceEqDiff, Nat.reduceLT, Nat.reduceLeDiff, Nat.reduceAdd, Nat.reduceSub, Nat.reduceMul, Int.reduceToNat, Int.reduceLE, Int.reduceLT, Int.reduceAdd, Int.reduceSub, Int.reduceMul, Int.reduceEq, Int.reduceNeg]
    have g_0 := Option.some.inj h
    subst g_0
    rw [← hQ]
    exact ⟨rfl, _, rfl, _, _, (RefV.out rfl), rfl, rfl⟩
  · rw [if_neg h_3007] at h
    have e_3008 : (20001 < y_3006) = False := eq_false h_3007
    simp only [e_3008, go_sem, reduceIte, reduceCtorEq, Nat.reduceEqDiff, Nat.reduceLT, Nat.reduceLeDiff, Nat.reduceAdd, Nat.reduceSub, Nat.reduceMul, Int.reduceToNat, Int.reduceLE, Int.reduceLT, Int.reduceAdd, Int.reduceSub, Int.reduceMul, Int.reduceEq, Int.reduceNeg]
    have g_0 := Option.some.inj h
    subst g_0
    rw [← hQ]
    exact ⟨rfl, _, rfl, _, _, (RefV.out rfl), rfl, rfl⟩
theorem ref13_Things_L1_w (N : Nat) (a_0 : Int) (l_1 : List TSpan) (b_2 : Bool) (a_3 : Int) (l_4 : List (List Int)) (l_5 : List (List TLig)) (l_6 : List TCtx) (l_7 : List TValue) (l_8 : List (List TTwo)) (l_9 : List TClass) (l_10 : List TClass) (l_11 : List (List TTwo)) (l_12 : List TArr2_TAnchor) (l_13 : List TMark) (l_14 : List TSpan) (l_15 : List (List (List TAnchor))) (c_0 : Bool) (c_1 : Bool) (c_2 : Bool) (c_3 : Bool) (c_4 : Bool) (c_5 : Bool) (c_6 : Bool) (c_7 : Bool) (c_8 : Bool) (c_9 : Bool) (c_10 : Bool) (c_11 : Bool) (c_12 : Bool) {R : AExit → ATm → List AObj → Prop} : ∀ (n : Nat) (i_3 : Int) (i_4 : Int) (o : Int), ref13_Things_L1 N a_0 l_1 b_2 a_3 l_4 l_5 l_6 l_7 l_8 l_9 l_10 l_11 l_12 l_13 l_14 l_15 n i_3 i_4 = some o → (match o with | z_1 => R (.exit 0) ⟨102, [(1, .ptr 0 0 0), (3, .int .i64 z_1)], []⟩ [.box [.int .i64 a_0, .vec c_0 (List.map eTSpan l_1), .bool b_2, .int .i64 a_3, .vec c_1 (List.map eLI64 l_4), .vec c_2 (List.map eLTLig l_5), .vec c_3 (List.map eTCtx l_6), .vec c_4 (List.map eTValue l_7), .vec c_5 (List.map eLTTwo l_8), .vec c_6 (List.map eTClass l_9), .vec c_7 (List.map eTClass l_10), .vec c_8 (List.map eLTTwo l_11), .vec c_9 (List.map eTArr2_TAnchor l_12), .vec c_10 (List.map eTMark l_13), .vec c_11 (List.map eTSpan l_14), .vec c_12 (List.map eLLTAnchor l_15)] 35]) →
    ALp Go.Proofs.Try.prog 0 B20_1 ⟨102, [(1, .ptr 0 0 0), (3, .int .i64 i_3), (4, .int .i64 i_4)], []⟩ [.box [.int .i64 a_0, .vec c_0 (List.map eTSpan l_1), .bool b_2, .int .i64 a_3, .vec c_1 (List.map eLI64 l_4), .vec c_2 (List.map eLTLig l_5), .vec c_3 (List.map eTCtx l_6), .vec c_4 (List.map eTValue l_7), .vec c_5 (List.map eLTTwo l_8), .vec c_6 (List.map eTClass l_9), .vec c_7 (List.map eTClass l_10), .vec c_8 (List.map eLTTwo l_11), .vec c_9 (List.map eTArr2_TAnchor l_12), .vec c_10 (List.map eTMark l_13), .vec c_11 (List.map eTSpan l_14), .vec c_12 (List.map eLLTAnchor l_15)] 35] R := by
  intro n
  induction n with
  | zero =>
    intro i_3 i_4 o h _
    have h0 : none = some o := h
    cases h0
  | succ n ih =>
    intro i_3 i_4 o h hp
    rw [ref13_Things_L1] at h
    refine ALp.round ?_
    generalize hQ : RoundQ _ _ _ _ = QQ
    simp only [B20_1, A20, go_sem, reduceIte, reduceCtorEq, Nat.reduceEqDiff, Nat.reduceLT, Nat.reduceLeDiff, Nat.reduceAdd, Nat.reduceSub, Nat.reduceMul, Int.reduceToNat, Int.reduceLE, Int.reduceLT, Int.reduceAdd, Int.reduceSub, Int.reduceMul, Int.reduceEq, Int.reduceNeg]
    by_cases h_5 : i_4 < (l_8.length : Int)
    · rw [if_pos h_5] at h
      have e_6 : (i_4 < (l_8.length : Int)) = True := eq_true h_5
      obtain ⟨x_7, h_8, h⟩ := bindS h
      have e_9 : (List.map eLTTwo l_8)[(i_4).toNat]? = some [.vec false (List.map eTTwo x_7)] := atI_map eLTTwo h_8
      have e_10 : ((0 : Int) ≤ i_4) = True := eq_true (atI_some h_8).1
      have e_11 : ((i_4 : Int) < (l_8.length : Int)) = True := eq_true (atI_lt h_8)
      simp only [e_6, e_9, e_10, e_11, go_sem, reduceIte, reduceCtorEq, Nat.reduceEqDiff, Nat.reduceLT, Nat.reduceLeDiff, Nat.reduceAdd, Nat.reduceSub, Nat.reduceMul, Int.reduceToNat, Int.reduceLE, Int.reduceLT, Int.reduceAdd, Int.reduceSub, Int.reduceMul, Int.reduceEq, Int.reduceNeg]
      rw [← hQ]
      exact ⟨_, _, (Ref.std [1, 3, 4] [0] (by decide) low0 rfl (by first | rfl | simp only [go_sem, reduceIte, Nat.reduceEqDiff, Nat.reduceAdd, e_6])), (Nat.zero_le _), ih _ _ _ h hp⟩
    · rw [if_neg h_5] at h
      have e_6 : (i_4 < (l_8.length : Int)) = False := eq_false h_5
      simp only [e_6, go_sem, reduceIte, reduceCtorEq, Nat.reduceEqDiff, Nat.reduceLT, Nat.reduceLeDiff, Nat.reduceAdd, Nat.reduceSub, Nat.reduceMul, Int.reduceToNat, Int.reduceLE, Int.reduceLT, Int.reduceAdd, Int.reduceSub, Int.reduceMul, Int.reduceEq, Int.reduceNeg]
      have g := Option.some.inj h
      subst g
      rw [← hQ]
      exact ⟨_, _, (Ref.std [1, 3] [0] (by decide) low0 rfl (by first | rfl | simp only [go_sem, reduceIte, Nat.reduceEqDiff, Nat.reduceAdd, e_6])), hp⟩
theorem ref13_Things_L2_w (N : Nat) (a_0 : Int) (l_1 : List TSpan) (b_2 : Bool) (a_3 : Int) (l_4 : List (List Int)) (l_5 : List (List TLig)) (l_6 : List TCtx) (l_7 : List TValue) (l_8 : List (List TTwo)) (l_9 : List TClass) (l_10 : List TClass) (l_11 : List (List TTwo)) (l_12 : List TArr2_TAnchor) (l_13 : List TMark) (l_14 : List TSpan) (l_15 : List (List (List TAnchor))) (c_0 : Bool) (c_1 : Bool) (c_2 : Bool) (c_3 : Bool) (c_4 : Bool) (c_5 : Bool) (c_6 : Bool) (c_7 : Bool) (c_8 : Bool) (c_9 : Bool) (c_10 : Bool) (c_11 : Bool) (c_12 : Bool) {R : AExit → ATm → List AObj → Prop} : ∀ (n : Nat) (i_1005 : Int) (i_1006 : Int) (o : Int), ref13_Things_L2 N a_0 l_1 b_2 a_3 l_4 l_5 l_6 l_7 l_8 l_9 l_10 l_11 l_12 l_13 l_14 l_15 n i_1005 i_1006 = some o → (match o with | z_1 => R (.exit 2) ⟨102, [(1, .ptr 0 0 0), (3, .int .i64 z_1)], []⟩ [.box [.int .i64 a_0, .vec c_0 (List.map eTSpan l_1), .bool b_2, .int .i64 a_3, .vec c_1 (List.map eLI64 l_4), .vec c_2 (List.map eLTLig l_5), .vec c_3 (List.map eTCtx l_6), .vec c_4 (List.map eTValue l_7), .vec c_5 (List.map eLTTwo l_8), .vec c_6 (List.map eTClass l_9), .vec c_7 (List.map eTClass l_10), .vec c_8 (List.map eLTTwo l_11), .vec c_9 (List.map eTArr2_TAnchor l_12), .vec c_10 (List.map eTMark l_13), .vec c_11 (List.map eTSpan l_14), .vec c_12 (List.map eLLTAnchor l_15)] 35]) →
    ALp Go.Proofs.Try.prog 0 B20_2 ⟨102, [(1, .ptr 0 0 0), (3, .int .i64 i_1005), (5, .int .i64 i_1006)], []⟩ [.box [.int .i64 a_0, .vec c_0 (List.map eTSpan l_1), .bool b_2, .int .i64 a_3, .vec c_1 (List.map eLI64 l_4), .vec c_2 (List.map eLTLig l_5), .vec c_3 (List.map eTCtx l_6), .vec c_4 (List.map eTValue l_7), .vec c_5 (List.map eLTTwo l_8), .vec c_6 (List.map eTClass l_9), .vec c_7 (List.map eTClass l_10), .vec c_8 (List.map eLTTwo l_11), .vec c_9 (List.map eTArr2_TAnchor l_12), .vec c_10 (List.map eTMark l_13), .vec c_11 (List.map eTSpan l_14), .vec c_12 (List.map eLLTAnchor l_15)] 35] R := by
  intro n
  induction n with
  | zero =>
    intro i_1005 i_1006 o h _
    have h0 : none = some o := h
    cases h0
  | succ n ih =>
    intro i_1005 i_1006 o h hp
    rw [ref13_Things_L2] at h
    refine ALp.round ?_
    generalize hQ : RoundQ _ _ _ _ = QQ
    simp only [B20_2, A20, go_sem, reduceIte, reduceCtorEq, Nat.reduceEqDiff, Nat.reduceLT, Nat.reduceLeDiff, Nat.reduceAdd, Nat.reduceSub, Nat.reduceMul, Int.reduceToNat, Int.reduceLE, Int.reduceLT, Int.reduceAdd, Int.reduceSub, Int.reduceMul, Int.reduceEq, Int.reduceNeg]
    by_cases h_1007 : i_1006 < (l_11.length : Int)
    · rw [if_pos h_1007] at h
      have e_1008 : (i_1006 < (l_11.length : Int)) = True := eq_true h_1007
      obtain ⟨x_1009, h_1010, h⟩ := bindS h
      have e_1011 : (List.map eLTTwo l_11)[(i_1006).toNat]? = some [.vec false (List.map eTTwo x_1009)] := atI_map eLTTwo h_1010
      have e_1012 : ((0 : Int) ≤ i_1006) = True := eq_true (atI_some h_1010).1
      have e_1013 : ((i_1006 : Int) < (l_11.length : Int)) = True := eq_true (atI_lt h_1010)
      simp only [e_1008, e_1011, e_1012, e_1013, go_sem, reduceIte, reduceCtorEq, Nat.reduceEqDiff, Nat.reduceLT, Nat.reduceLeDiff, Nat.reduceAdd, Nat.reduceSub, Nat.reduceMul, Int.reduceToNat, Int.reduceLE, Int.reduceLT, Int.reduceAdd, Int.reduceSub, Int.reduceMul, Int.reduceEq, Int.reduceNeg]
      rw [← hQ]
      exact ⟨_, _, (Ref.std [1, 3, 5] [0] (by decide) low0 rfl (by first | rfl | simp only [go_sem, reduceIte, Nat.reduceEqDiff, Nat.reduceAdd, e_1008])), (Nat.zero_le _), ih _ _ _ h hp⟩
    · rw [if_neg h_1007] at h
      have e_1008 : (i_1006 < (l_11.length : Int)) = False := eq_false h_1007
      simp only [e_1008, go_sem, reduceIte, reduceCtorEq, Nat.reduceEqDiff, Nat.reduceLT, Nat.reduceLeDiff, Nat.reduceAdd, Nat.reduceSub, Nat.reduceMul, Int.reduceToNat, Int.reduceLE, Int.reduceLT, Int.reduceAdd, Int.reduceSub, Int.reduceMul, Int.reduceEq, Int.reduceNeg]
      have g := Option.some.inj h
      subst g
      rw [← hQ]
      exact ⟨_, _, (Ref.std [1, 3] [0] (by decide) low0 rfl (by first | rfl | simp only [go_sem, reduceIte, Nat.reduceEqDiff, Nat.reduceAdd, e_1008])), hp⟩
theorem ref13_Things_L4_w (N : Nat) (i_2008 : Int) (a_0 : Int) (l_1 : List TSpan) (b_2 : Bool) (a_3 : Int) (l_4 : List (List Int)) (l_5 : List (List TLig)) (l_6 : List TCtx) (l_7 : List TValue) (l_8 : List (List TTwo)) (l_9 : List TClass) (l_10 : List TClass) (l_11 : List (List TTwo)) (l_12 : List TArr2_TAnchor) (l_13 : List TMark) (l_14 : List TSpan) (l_15 : List (List (List TAnchor))) (c_0 : Bool) (c_1 : Bool) (c_2 : Bool) (c_3 : Bool) (c_4 : Bool) (c_5 : Bool) (c_6 : Bool) (c_7 : Bool) (c_8 : Bool) (c_9 : Bool) (c_10 : Bool) (c_11 : Bool) (c_12 : Bool) {R : AExit → ATm → List AObj → Prop} : ∀ (n : Nat) (i_2011 : Int) (i_2012 : Int) (o : Int), ref13_Things_L4 N i_2008 a_0 l_1 b_2 a_3 l_4 l_5 l_6 l_7 l_8 l_9 l_10 l_11 l_12 l_13 l_14 l_15 n i_2011 i_2012 = some o → (match o with | z_1 => R (.exit 6) ⟨102, [(1, .ptr 0 0 0), (3, .int .i64 z_1), (6, .int .i64 i_2008)], []⟩ [.box [.int .i64 a_0, .vec c_0 (List.map eTSpan l_1), .bool b_2, .int .i64 a_3, .vec c_1 (List.map eLI64 l_4), .vec c_2 (List.map eLTLig l_5), .vec c_3 (List.map eTCtx l_6), .vec c_4 (List.map eTValue l_7), .vec c_5 (List.map eLTTwo l_8), .vec c_6 (List.map eTClass l_9), .vec c_7 (List.map eTClass l_10), .vec c_8 (List.map eLTTwo l_11), .vec c_9 (List.map eTArr2_TAnchor l_12), .vec c_10 (List.map eTMark l_13), .vec c_11 (List.map eTSpan l_14), .vec c_12 (List.map eLLTAnchor l_15)] 35]) →
    ALp Go.Proofs.Try.prog 0 B20_4 ⟨102, [(1, .ptr 0 0 0), (3, .int .i64 i_2011), (6, .int .i64 i_2008), (7, .int .i64 i_2012)], []⟩ [.box [.int .i64 a_0, .vec c_0 (List.map eTSpan l_1), .bool b_2, .int .i64 a_3, .vec c_1 (List.map eLI64 l_4), .vec c_2 (List.map eLTLig l_5), .vec c_3 (List.map eTCtx l_6), .vec c_4 (List.map eTValue l_7), .vec c_5 (List.map eLTTwo l_8), .vec c_6 (List.map eTClass l_9), .vec c_7 (List.map eTClass l_10), .vec c_8 (List.map eLTTwo l_11), .vec c_9 (List.map eTArr2_TAnchor l_12), .vec c_10 (List.map eTMark l_13), .vec c_11 (List.map eTSpan l_14), .vec c_12 (List.map eLLTAnchor l_15)] 35] R := by
  intro n
  induction n with
  | zero =>
    intro i_2011 i_2012 o h _
    have h0 : none = some o := h
    cases h0
  | succ n ih =>
    intro i_2011 i_2012 o h hp
    rw [ref13_Things_L4] at h
    refine ALp.round ?_
    generalize hQ : RoundQ _ _ _ _ = QQ
    obtain ⟨x_2013, h_2014, h⟩ := bindS h
    have e_2015 : (List.map eLLTAnchor l_15)[(i_2008).toNat]? = some [.vec false (List.map eLTAnchor x_2013)] := atI_map eLLTAnchor h_2014
    have e_2016 : ((0 : Int) ≤ i_2008) = True := eq_true (atI_some h_2014).1
    have e_2017 : ((i_2008 : Int) < (l_15.length : Int)) = True := eq_true (atI_lt h_2014)
    simp only [B20_4, B20_3, A20, e_2015, e_2016, e_2017, go_sem, reduceIte, reduceCtorEq, Nat.reduceEqDiff, Nat.reduceLT, Nat.reduceLeDiff, Nat.reduceAdd, Nat.reduceSub, Nat.reduceMul, Int.reduceToNat, Int.reduceLE, Int.reduceLT, Int.reduceAdd, Int.reduceSub, Int.reduceMul, Int.reduceEq, Int.reduceNeg]
    by_cases h_2018 : i_2012 < (x_2013.length : Int)
    · rw [if_pos h_2018] at h
      have e_2019 : (i_2012 < (x_2013.length : Int)) = True := eq_true h_2018
      obtain ⟨x_2020, h_2021, h⟩ := bindS h
      have e_2022 : (List.map eLTAnchor x_2013)[(i_2012).toNat]? = some [.vec false (List.map eTAnchor x_2020)] := atI_map eLTAnchor h_2021
      have e_2023 : ((0 : Int) ≤ i_2012) = True := eq_true (atI_some h_2021).1
      have e_2024 : ((i_2012 : Int) < (x_2013.length : Int)) = True := eq_true (atI_lt h_2021)
      simp only [e_2015, e_2016, e_2017, e_2019, e_2022, e_2023, e_2024, go_sem, reduceIte, reduceCtorEq, Nat.reduceEqDiff, Nat.reduceLT, Nat.reduceLeDiff, Nat.reduceAdd, Nat.reduceSub, Nat.reduceMul, Int.reduceToNat, Int.reduceLE, Int.reduceLT, Int.reduceAdd, Int.reduceSub, Int.reduceMul, Int.reduceEq, Int.reduceNeg]
      rw [← hQ]
      exact ⟨_, _, (Ref.std [1, 3, 6, 7] [0] (by decide) low0 rfl (by first | rfl | simp only [go_sem, reduceIte, Nat.reduceEqDiff, Nat.reduceAdd, e_2019])), (Nat.zero_le _), ih _ _ _ h hp⟩
    · rw [if_neg h_2018] at h
      have e_2019 : (i_2012 < (x_2013.length : Int)) = False := eq_false h_2018
      simp only [e_2015, e_2016, e_2017, e_2019, go_sem, reduceIte, reduceCtorEq, Nat.reduceEqDiff, Nat.reduceLT, Nat.reduceLeDiff, Nat.reduceAdd, Nat.reduceSub, Nat.reduceMul, Int.reduceToNat, Int.reduceLE, Int.reduceLT, Int.reduceAdd, Int.reduceSub, Int.reduceMul, Int.reduceEq, Int.reduceNeg]
      have g := Option.some.inj h
      subst g
      rw [← hQ]
      exact ⟨_, _, (Ref.std [1, 3, 6] [0] (by decide) low0 rfl (by first | rfl | simp only [go_sem, reduceIte, Nat.reduceEqDiff, Nat.reduceAdd, e_2019])), hp⟩
theorem ref13_Things_L5_w (N : Nat) (a_0 : Int) (l_1 : List TSpan) (b_2 : Bool) (a_3 : Int) (l_4 : List (List Int)) (l_5 : List (List TLig)) (l_6 : List TCtx) (l_7 : List TValue) (l_8 : List (List TTwo)) (l_9 : List TClass) (l_10 : List TClass) (l_11 : List (List TTwo)) (l_12 : List TArr2_TAnchor) (l_13 : List TMark) (l_14 : List TSpan) (l_15 : List (List (List TAnchor))) (c_0 : Bool) (c_1 : Bool) (c_2 : Bool) (c_3 : Bool) (c_4 : Bool) (c_5 : Bool) (c_6 : Bool) (c_7 : Bool) (c_8 : Bool) (c_9 : Bool) (c_10 : Bool) (c_11 : Bool) (c_12 : Bool) {R : AExit → ATm → List AObj → Prop} : ∀ (n : Nat) (i_2007 : Int) (i_2008 : Int) (o : Int), ref13_Things_L5 N a_0 l_1 b_2 a_3 l_4 l_5 l_6 l_7 l_8 l_9 l_10 l_11 l_12 l_13 l_14 l_15 n i_2007 i_2008 = some o → (match o with | z_1 => R (.exit 4) ⟨102, [(3, .int .i64 z_1)], []⟩ []) →
    ALp Go.Proofs.Try.prog 0 B20_3 ⟨102, [(1, .ptr 0 0 0), (3, .int .i64 i_2007), (6, .int .i64 i_2008)], []⟩ [.box [.int .i64 a_0, .vec c_0 (List.map eTSpan l_1), .bool b_2, .int .i64 a_3, .vec c_1 (List.map eLI64 l_4), .vec c_2 (List.map eLTLig l_5), .vec c_3 (List.map eTCtx l_6), .vec c_4 (List.map eTValue l_7), .vec c_5 (List.map eLTTwo l_8), .vec c_6 (List.map eTClass l_9), .vec c_7 (List.map eTClass l_10), .vec c_8 (List.map eLTTwo l_11), .vec c_9 (List.map eTArr2_TAnchor l_12), .vec c_10 (List.map eTMark l_13), .vec c_11 (List.map eTSpan l_14), .vec c_12 (List.map eLLTAnchor l_15)] 35] R := by
  intro n
  induction n with
  | zero =>
    intro i_2007 i_2008 o h _
    have h0 : none = some o := h
    cases h0
  | succ n ih =>
    intro i_2007 i_2008 o h hp
    rw [ref13_Things_L5] at h
    refine ALp.round ?_
    generalize hQ : RoundQ _ _ _ _ = QQ
    simp only [B20_3, A20, go_sem, reduceIte, reduceCtorEq, Nat.reduceEqDiff, Nat.reduceLT, Nat.reduceLeDiff, Nat.reduceAdd, Nat.reduceSub, Nat.reduceMul, Int.reduceToNat, Int.reduceLE, Int.reduceLT, Int.reduceAdd, Int.reduceSub, Int.reduceMul, Int.reduceEq, Int.reduceNeg]
    by_cases h_2009 : i_2008 < (l_15.length : Int)
    · rw [if_pos h_2009] at h
      have e_2010 : (i_2008 < (l_15.length : Int)) = True := eq_true h_2009
      simp only [e_2010, go_sem, reduceIte, reduceCtorEq, Nat.reduceEqDiff, Nat.reduceLT, Nat.reduceLeDiff, Nat.reduceAdd, Nat.reduceSub, Nat.reduceMul, Int.reduceToNat, Int.reduceLE, Int.reduceLT, Int.reduceAdd, Int.reduceSub, Int.reduceMul, Int.reduceEq, Int.reduceNeg]
      obtain ⟨y_3012, h_3011, h⟩ := bindS h
      refine ALp.ref (Ref.std [1, 3, 6, 7] [0] (by decide) low0 rfl (by first | rfl | simp only [go_sem, reduceIte, Nat.reduceEqDiff, Nat.reduceAdd, e_2010])) (Nat.zero_le _) (ref13_Things_L4_w N _ _ _ _ _ _ _ _ _ _ _ _ _ _ _ _ _ c_0 c_1 c_2 c_3 c_4 c_5 c_6 c_7 c_8 c_9 c_10 c_11 c_12 N _ _ y_3012 h_3011 ?_)
      refine LoopK_go rfl (Nat.zero_le _) ?_
      simp only [e_2010, go_sem, reduceIte, reduceCtorEq, Nat.reduceEqDiff, Nat.reduceLT, Nat.reduceLeDiff, Nat.reduceAdd, Nat.reduceSub, Nat.reduceMul, Int.reduceToNat, Int.reduceLE, Int.reduceLT, Int.reduceAdd, Int.reduceSub, Int.reduceMul, Int.reduceEq, Int.reduceNeg]
      rw [← hQ]
      exact ⟨_, _, (Ref.std [1, 3, 6] [0] (by decide) low0 rfl (by first | rfl | simp only [go_sem, reduceIte, Nat.reduceEqDiff, Nat.reduceAdd, e_2010])), (Nat.zero_le _), ih _ _ _ h hp⟩
    · rw [if_neg h_2009] at h
      have e_2010 : (i_2008 < (l_15.length : Int)) = False := eq_false h_2009
      simp only [e_2010, go_sem, reduceIte, reduceCtorEq, Nat.reduceEqDiff, Nat.reduceLT, Nat.reduceLeDiff, Nat.reduceAdd, Nat.reduceSub, Nat.reduceMul, Int.reduceToNat, Int.reduceLE, Int.reduceLT, Int.reduceAdd, Int.reduceSub, Int.reduceMul, Int.reduceEq, Int.reduceNeg]
      have g := Option.some.inj h
      subst g
      rw [← hQ]
      exact ⟨_, _, (Ref.out [3] rfl), hp⟩
theorem ref13_Things_w (N : Nat) (a_0 : Int) (l_1 : List TSpan) (b_2 : Bool) (a_3 : Int) (l_4 : List (List Int)) (l_5 : List (List TLig)) (l_6 : List TCtx) (l_7 : List TValue) (l_8 : List (List TTwo)) (l_9 : List TClass) (l_10 : List TClass) (l_11 : List (List TTwo)) (l_12 : List TArr2_TAnchor) (l_13 : List TMark) (l_14 : List TSpan) (l_15 : List (List (List TAnchor))) (c_0 : Bool) (c_1 : Bool) (c_2 : Bool) (c_3 : Bool) (c_4 : Bool) (c_5 : Bool) (c_6 : Bool) (c_7 : Bool) (c_8 : Bool) (c_9 : Bool) (c_10 : Bool) (c_11 : Bool) (c_12 : Bool) (z_1 : Int) (h : ref13_Things N a_0 l_1 b_2 a_3 l_4 l_5 l_6 l_7 l_8 l_9 l_10 l_11 l_12 l_13 l_14 l_15 = some z_1) :
    ACalls Go.Proofs.Try.prog 20 [.agg [.int .i64 a_0, .vec c_0 (List.map eTSpan l_1), .bool b_2, .int .i64 a_3, .vec c_1 (List.map eLI64 l_4), .vec c_2 (List.map eLTLig l_5), .vec c_3 (List.map eTCtx l_6), .vec c_4 (List.map eTValue l_7), .vec c_5 (List.map eLTTwo l_8), .vec c_6 (List.map eTClass l_9), .vec c_7 (List.map eTClass l_10), .vec c_8 (List.map eLTTwo l_11), .vec c_9 (List.map eTArr2_TAnchor l_12), .vec c_10 (List.map eTMark l_13), .vec c_11 (List.map eTSpan l_14), .vec c_12 (List.map eLLTAnchor l_15)]] [] (fun e H => H = [] ∧ e = .ret (.int .i64 z_1)) := by
  unfold ref13_Things at h
  refine ACalls.goN Go.Proofs.Try.func20 n20 a20 Go.Proofs.Try.ntmps20 r20 (by simp) 0 rfl ?_
  generalize hQ : bodyA _ _ _ = QQ
  obtain ⟨y_1, h_2, h⟩ := bindS h
  simp only [A20, go_sem, reduceIte, reduceCtorEq, Nat.reduceEqDiff, Nat.reduceLT, Nat.reduceLeDiff, Nat.reduceAdd, Nat.reduceSub, Nat.reduceMul, Int.reduceToNat, Int.reduceLE, Int.reduceLT, Int.reduceAdd, Int.reduceSub, Int.reduceMul, Int.reduceEq, Int.reduceNeg]
  refine ACalls.use0 (ref12_Things_w N _ _ _ _ _ _ _ _ _ _ _ _ _ _ _ _ _ _ _ _ _ _ _ _ _ _ _ _ _ _ h_2) rfl rfl ?_
  simp only [go_sem, reduceIte, reduceCtorEq, Nat.reduceEqDiff, Nat.reduceLT, Nat.reduceLeDiff, Nat.reduceAdd, Nat.reduceSub, Nat.reduceMul, Int.reduceToNat, Int.reduceLE, Int.reduceLT, Int.reduceAdd, Int.reduceSub, Int.reduceMul, Int.reduceEq, Int.reduceNeg]
  obtain ⟨y_1004, h_1003, h⟩ := bindS h
  refine ALp.ref (Ref.std [1, 3, 4] [0] (by decide) low0 rfl rfl) (Nat.zero_le _) (ref13_Things_L1_w N _ _ _ _ _ _ _ _ _ _ _ _ _ _ _ _ c_0 c_1 c_2 c_3 c_4 c_5 c_6 c_7 c_8 c_9 c_10 c_11 c_12 N _ _ y_1004 h_1003 ?_)
  refine LoopK_go rfl (Nat.zero_le _) ?_
  simp only [go_sem, reduceIte, reduceCtorEq, Nat.reduceEqDiff, Nat.reduceLT, Nat.reduceLeDiff, Nat.reduceAdd, Nat.reduceSub, Nat.reduceMul, Int.reduceToNat, Int.reduceLE, Int.reduceLT, Int.reduceAdd, Int.reduceSub, Int.reduceMul, Int.reduceEq, Int.reduceNeg]
  obtain ⟨y_2006, h_2005, h⟩ := bindS h
  refine ALp.ref (Ref.std [1, 3, 5] [0] (by decide) low0 rfl rfl) (Nat.zero_le _) (ref13_Things_L2_w N _ _ _ _ _ _ _ _ _ _ _ _ _ _ _ _ c_0 c_1 c_2 c_3 c_4 c_5 c_6 c_7 c_8 c_9 c_10 c_11 c_12 N _ _ y_2006 h_2005 ?_)
  refine LoopK_go rfl (Nat.zero_le _) ?_
  simp only [go_sem, reduceIte, reduceCtorEq, Nat.reduceEqDiff, Nat.reduceLT, Nat.reduceLeDiff, Nat.reduceAdd, Nat.reduceSub, Nat.reduceMul, Int.reduceToNat, Int.reduceLE, Int.reduceLT, Int.reduceAdd, Int.reduceSub, Int.reduceMul, Int.reduceEq, Int.reduceNeg]
  obtain ⟨y_3008, h_3007, h⟩ := bindS h
  refine ALp.ref (Ref.std [1, 3, 6] [0] (by decide) low0 rfl rfl) (Nat.zero_le _) (ref13_Things_L5_w N _ _ _ _ _ _ _ _ _ _ _ _ _ _ _ _ c_0 c_1 c_2 c_3 c_4 c_5 c_6 c_7 c_8 c_9 c_10 c_11 c_12 N _ _ y_3008 h_3007 ?_)
  refine LoopK_go rfl (Nat.zero_le _) ?_
  simp only [go_sem, reduceIte, reduceCtorEq, Nat.reduceEqDiff, Nat.reduceLT, Nat.reduceLeDiff, Nat.reduceAdd, Nat.reduceSub, Nat.reduceMul, Int.reduceToNat, Int.reduceLE, Int.reduceLT, Int.reduceAdd, Int.reduceSub, Int.reduceMul, Int.reduceEq, Int.reduceNeg]
  by_cases h_3009 : 20001 < y_3008
  · rw [if_pos h_3009] at h
    have e_3010 : (20001 < y_3008) = True := eq_true h_3009
    simp only [e_3010, go_sem, reduceIte, reduceCtorEq, Nat.reduceEqDiff, Nat.reduceLT, Nat.reduceLeDiff, Nat.reduceAdd, Nat.reduceSub, Nat.reduceMul, Int.reduceToNat, Int.reduceLE, Int.reduceLT, Int.reduceAdd, Int.reduceSub, Int.reduceMul, Int.reduceEq, Int.reduceNeg]
    have g_0 := Option.some.inj h
    subst g_0
    rw [← hQ]
    exact ⟨rfl, _, rfl, _, _, (RefV.out rfl), rfl, rfl⟩
  · rw [if_neg h_3009] at h
    have e_3010 : (20001 < y_3008) = False := eq_false h_3009
    simp only [e_3010, go_sem, reduceIte, reduceCtorEq, Nat.reduceEqDiff, Nat.reduceLT, Nat.reduceLeDiff, Nat.reduceAdd, Nat.reduceSub, Nat.reduceMul, Int.reduceToNat, Int.reduceLE, Int.reduceLT, Int.reduceAdd, Int.reduceSub, Int.reduceMul, Int.reduceEq, Int.reduceNeg]
    have g_0 := Option.some.inj h
    subst g_0
    rw [← hQ]
    exact ⟨rfl, _, rfl, _, _, (RefV.out rfl), rfl, rfl⟩
theorem law13_GposThings_w (N : Nat) (a_0 : Int) (l_1 : List TSpan) (b_2 : Bool) (a_3 : Int) (l_4 : List (List Int)) (l_5 : List (List TLig)) (l_6 : List TCtx) (l_7 : List TValue) (l_8 : List (List TTwo)) (l_9 : List TClass) (l_10 : List TClass) (l_11 : List (List TTwo)) (l_12 : List TArr2_TAnchor) (l_13 : List TMark) (l_14 : List TSpan) (l_15 : List (List (List TAnchor))) (c_0 : Bool) (c_1 : Bool) (c_2 : Bool) (c_3 : Bool) (c_4 : Bool) (c_5 : Bool) (c_6 : Bool) (c_7 : Bool) (c_8 : Bool) (c_9 : Bool) (c_10 : Bool) (c_11 : Bool) (c_12 : Bool) (z_1 : Bool) (h : law13_GposThings N a_0 l_1 b_2 a_3 l_4 l_5 l_6 l_7 l_8 l_9 l_10 l_11 l_12 l_13 l_14 l_15 = some z_1) :
    ACalls Go.Proofs.Try.prog 7 [.agg [.int .i64 a_0, .vec c_0 (List.map eTSpan l_1), .bool b_2, .int .i64 a_3, .vec c_1 (List.map eLI64 l_4), .vec c_2 (List.map eLTLig l_5), .vec c_3 (List.map eTCtx l_6), .vec c_4 (List.map eTValue l_7), .vec c_5 (List.map eLTTwo l_8), .vec c_6 (List.map eTClass l_9), .vec c_7 (List.map eTClass l_10), .vec c_8 (List.map eLTTwo l_11), .vec c_9 (List.map eTArr2_TAnchor l_12), .vec c_10 (List.map eTMark l_13), .vec c_11 (List.map eTSpan l_14), .vec c_12 (List.map eLLTAnchor l_15)]] [] (fun e H => H = [] ∧ e = .ret (.bool z_1)) := by
  unfold law13_GposThings at h
  refine ACalls.goN Go.Proofs.Try.func7 n7 a7 Go.Proofs.Try.ntmps7 r7 (by simp) 0 rfl ?_
  generalize hQ : bodyA _ _ _ = QQ
  simp only [A7, go_sem, reduceIte, reduceCtorEq, Nat.reduceEqDiff, Nat.reduceLT, Nat.reduceLeDiff, Nat.reduceAdd, Nat.reduceSub, Nat.reduceMul, Int.reduceToNat, Int.reduceLE, Int.reduceLT, Int.reduceAdd, Int.reduceSub, Int.reduceMul, Int.reduceEq, Int.reduceNeg]
  refine ACalls.use0 alive13 rfl rfl ?_
  refine CallK_go (Nat.zero_le _) ?_
  simp only [go_sem, reduceIte, reduceCtorEq, Nat.reduceEqDiff, Nat.reduceLT, Nat.reduceLeDiff, Nat.reduceAdd, Nat.reduceSub, Nat.reduceMul, Int.reduceToNat, Int.reduceLE, Int.reduceLT, Int.reduceAdd, Int.reduceSub, Int.reduceMul, Int.reduceEq, Int.reduceNeg]
  by_cases h_1 : 60 < (l_6.length : Int)
  · rw [if_pos h_1] at h
    have e_2 : (60 < (l_6.length : Int)) = True := eq_true h_1
    simp only [e_2, go_sem, reduceIte, reduceCtorEq, Nat.reduceEqDiff, Nat.reduceLT, Nat.reduceLeDiff, Nat.reduceAdd, Nat.reduceSub, Nat.reduceMul, Int.reduceToNat, Int.reduceLE, Int.reduceLT, Int.reduceAdd, Int.reduceSub, Int.reduceMul, Int.reduceEq, Int.reduceNeg]
    have g_0 := Option.some.inj h
    subst g_0
    rw [← hQ]
    exact ⟨rfl, _, rfl, _, _, (RefV.out rfl), rfl, rfl⟩
  · rw [if_neg h_1] at h
    have e_2 : (60 < (l_6.length : Int)) = False := eq_false h_1
    simp only [e_2, go_sem, reduceIte, reduceCtorEq, Nat.reduceEqDiff, Nat.reduceLT, Nat.reduceLeDiff, Nat.reduceAdd, Nat.reduceSub, Nat.reduceMul, Int.reduceToNat, Int.reduceLE, Int.reduceLT, Int.reduceAdd, Int.reduceSub, Int.reduceMul, Int.reduceEq, Int.reduceNeg]
    by_cases h_3 : 300 < (l_8.length : Int)
    · rw [if_pos h_3] at h
      have e_4 : (300 < (l_8.length : Int)) = True := eq_true h_3
      simp only [e_2, e_4, go_sem, reduceIte, reduceCtorEq, Nat.reduceEqDiff, Nat.reduceLT, Nat.reduceLeDiff, Nat.reduceAdd, Nat.reduceSub, Nat.reduceMul, Int.reduceToNat, Int.reduceLE, Int.reduceLT, Int.reduceAdd, Int.reduceSub, Int.reduceMul, Int.reduceEq, Int.reduceNeg]
      have g_0 := Option.some.inj h
      subst g_0
      rw [← hQ]
      exact ⟨rfl, _, rfl, _, _, (RefV.out rfl), rfl, rfl⟩
    · rw [if_neg h_3] at h
      have e_4 : (300 < (l_8.length : Int)) = False := eq_false h_3
      simp only [e_2, e_4, go_sem, reduceIte, reduceCtorEq, Nat.reduceEqDiff, Nat.reduceLT, Nat.reduceLeDiff, Nat.reduceAdd, Nat.reduceSub, Nat.reduceMul, Int.reduceToNat, Int.reduceLE, Int.reduceLT, Int.reduceAdd, Int.reduceSub, Int.reduceMul, Int.reduceEq, Int.reduceNeg]
      by_cases h_5 : 300 < (l_11.length : Int)
      · rw [if_pos h_5] at h
        have e_6 : (300 < (l_11.length : Int)) = True := eq_true h_5
        simp only [e_2, e_4, e_6, go_sem, reduceIte, reduceCtorEq, Nat.reduceEqDiff, Nat.reduceLT, Nat.reduceLeDiff, Nat.reduceAdd, Nat.reduceSub, Nat.reduceMul, Int.reduceToNat, Int.reduceLE, Int.reduceLT, Int.reduceAdd, Int.reduceSub, Int.reduceMul, Int.reduceEq, Int.reduceNeg]
        have g_0 := Option.some.inj h
        subst g_0
        rw [← hQ]
        exact ⟨rfl, _, rfl, _, _, (RefV.out rfl), rfl, rfl⟩
      · rw [if_neg h_5] at h
        have e_6 : (300 < (l_11.length : Int)) = False := eq_false h_5
        simp only [e_2, e_4, e_6, go_sem, reduceIte, reduceCtorEq, Nat.reduceEqDiff, Nat.reduceLT, Nat.reduceLeDiff, Nat.reduceAdd, Nat.reduceSub, Nat.reduceMul, Int.reduceToNat, Int.reduceLE, Int.reduceLT, Int.reduceAdd, Int.reduceSub, Int.reduceMul, Int.reduceEq, Int.reduceNeg]
        by_cases h_7 : 300 < (l_15.length : Int)
        · rw [if_pos h_7] at h
          have e_8 : (300 < (l_15.length : Int)) = True := eq_true h_7
          simp only [e_2, e_4, e_6, e_8, go_sem, reduceIte, reduceCtorEq, Nat.reduceEqDiff, Nat.reduceLT, Nat.reduceLeDiff, Nat.reduceAdd, Nat.reduceSub, Nat.reduceMul, Int.reduceToNat, Int.reduceLE, Int.reduceLT, Int.reduceAdd, Int.reduceSub, Int.reduceMul, Int.reduceEq, Int.reduceNeg]
          have g_0 := Option.some.inj h
          subst g_0
          rw [← hQ]
          exact ⟨rfl, _, rfl, _, _, (RefV.out rfl), rfl, rfl⟩
        · rw [if_neg h_7] at h
          have e_8 : (300 < (l_15.length : Int)) = False := eq_false h_7
          simp only [e_2, e_4, e_6, e_8, go_sem, reduceIte, reduceCtorEq, Nat.reduceEqDiff, Nat.reduceLT, Nat.reduceLeDiff, Nat.reduceAdd, Nat.reduceSub, Nat.reduceMul, Int.reduceToNat, Int.reduceLE, Int.reduceLT, Int.reduceAdd, Int.reduceSub, Int.reduceMul, Int.reduceEq, Int.reduceNeg]
          obtain ⟨o_1010, h_1009, h⟩ := bindS h
          refine ALp.ref (Ref.std [1, 3] [0] (by decide) low0 rfl (by first | rfl | simp only [go_sem, reduceIte, Nat.reduceEqDiff, Nat.reduceAdd, e_2, e_4, e_6, e_8])) (Nat.zero_le _) (law13_GposThings_L1_w N _ _ _ _ _ _ _ _ _ _ _ _ _ _ _ _ c_0 c_1 c_2 c_3 c_4 c_5 c_6 c_7 c_8 c_9 c_10 c_11 c_12 N _ o_1010 h_1009 ?_)
          rcases o_1010 with _ | _
          · try dsimp only at h
            refine LoopK_go rfl (Nat.zero_le _) ?_
            obtain ⟨y_1011, h_1012, h⟩ := bindS h
            simp only [e_2, e_4, e_6, e_8, go_sem, reduceIte, reduceCtorEq, Nat.reduceEqDiff, Nat.reduceLT, Nat.reduceLeDiff, Nat.reduceAdd, Nat.reduceSub, Nat.reduceMul, Int.reduceToNat, Int.reduceLE, Int.reduceLT, Int.reduceAdd, Int.reduceSub, Int.reduceMul, Int.reduceEq, Int.reduceNeg]
            refine ACalls.use0 (gpos_Things_w N _ _ _ _ _ _ _ _ _ _ _ _ _ _ _ _ _ _ _ _ _ _ _ _ _ _ _ _ _ _ h_1012) rfl rfl ?_
            obtain ⟨y_1013, h_1014, h⟩ := bindS h
            simp only [e_2, e_4, e_6, e_8, go_sem, reduceIte, reduceCtorEq, Nat.reduceEqDiff, Nat.reduceLT, Nat.reduceLeDiff, Nat.reduceAdd, Nat.reduceSub, Nat.reduceMul, Int.reduceToNat, Int.reduceLE, Int.reduceLT, Int.reduceAdd, Int.reduceSub, Int.reduceMul, Int.reduceEq, Int.reduceNeg]
            refine ACalls.use0 (ref13_Things_w N _ _ _ _ _ _ _ _ _ _ _ _ _ _ _ _ _ _ _ _ _ _ _ _ _ _ _ _ _ _ h_1014) rfl rfl ?_
            simp only [e_2, e_4, e_6, e_8, go_sem, reduceIte, reduceCtorEq, Nat.reduceEqDiff, Nat.reduceLT, Nat.reduceLeDiff, Nat.reduceAdd, Nat.reduceSub, Nat.reduceMul, Int.reduceToNat, Int.reduceLE, Int.reduceLT, Int.reduceAdd, Int.reduceSub, Int.reduceMul, Int.reduceEq, Int.reduceNeg]
            have g_0 := Option.some.inj h
            subst g_0
            rw [← hQ]
            exact ⟨rfl, _, rfl, _, _, (RefV.out (by first | rfl | simp only [go_sem, reduceIte, Nat.reduceEqDiff, Nat.reduceAdd, e_2, e_4, e_6, e_8])), rfl, rfl⟩
          · try dsimp only at h
            refine LoopK_ret ?_
            have g_0 := Option.some.inj h
            subst g_0
            rw [← hQ]
            exact ⟨rfl, _, rfl, _, _, (RefV.out rfl), rfl, rfl⟩
end Go.Proofs.Ytfacmhngbaboiaa.AI
