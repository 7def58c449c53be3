/- Part of a proof. -/
import Derived.Test.YtfacmhngbaboiaagsP
import Derived.Test.YtfacmhngbaboiaagsA
set_option linter.unusedVariables false
set_option linter.unusedSimpArgs false
set_option maxRecDepth 100000
set_option maxHeartbeats 1000000
namespace Go.Proofs.Ytfacmhngbaboiaa.AI
open Go.Proofs (Try.prog)
def eU8 (x : Int) : List AV := [.int .u8 x]
theorem subs_eU8 (S : Sub) (l : List Int) : (List.map eU8 l).map (subs S) = List.map eU8 l := subs_map S l eU8 (fun _ => rfl)
def eI64 (x : Int) : List AV := [.int .i64 x]
theorem subs_eI64 (S : Sub) (l : List Int) : (List.map eI64 l).map (subs S) = List.map eI64 l := subs_map S l eI64 (fun _ => rfl)
def eTSpan (x : TSpan) : List AV := [.int .i64 x.From, .int .i64 x.To]
theorem subs_eTSpan (S : Sub) (l : List TSpan) : (List.map eTSpan l).map (subs S) = List.map eTSpan l := subs_map S l eTSpan (fun _ => rfl)
def eTArr3_I64 (x : TArr3_I64) : List AV := [.int .i64 x.e0, .int .i64 x.e1, .int .i64 x.e2]
theorem subs_eTArr3_I64 (S : Sub) (l : List TArr3_I64) : (List.map eTArr3_I64 l).map (subs S) = List.map eTArr3_I64 l := subs_map S l eTArr3_I64 (fun _ => rfl)
def eTSet (x : TSet) : List AV := [.vec false (List.map eTSpan x.Spans), .bool x.Not]
theorem subs_eTSet (S : Sub) (l : List TSet) : (List.map eTSet l).map (subs S) = List.map eTSet l := subs_map S l eTSet (fun _ => rfl)
def eTAct (x : TAct) : List AV := [.int .i64 x.At, .int .i64 x.Lookup]
theorem subs_eTAct (S : Sub) (l : List TAct) : (List.map eTAct l).map (subs S) = List.map eTAct l := subs_map S l eTAct (fun _ => rfl)
def eTCtx (x : TCtx) : List AV := [.vec false (List.map eTSet x.Back), .vec false (List.map eTSet x.In), .vec false (List.map eTSet x.Ahead), .vec false (List.map eTAct x.Acts)]
theorem subs_eTCtx (S : Sub) (l : List TCtx) : (List.map eTCtx l).map (subs S) = List.map eTCtx l := subs_map S l eTCtx (fun _ => rfl)
def eTClass (x : TClass) : List AV := [.int .i64 x.From, .int .i64 x.To, .int .i64 x.Class]
theorem subs_eTClass (S : Sub) (l : List TClass) : (List.map eTClass l).map (subs S) = List.map eTClass l := subs_map S l eTClass (fun _ => rfl)
def eLI64 (x : List Int) : List AV := [.vec false (List.map eI64 x)]
theorem subs_eLI64 (S : Sub) (l : List (List Int)) : (List.map eLI64 l).map (subs S) = List.map eLI64 l := subs_map S l eLI64 (fun _ => rfl)
def eTLig (x : TLig) : List AV := [.vec false (List.map eI64 x.Parts), .int .i64 x.To]
theorem subs_eTLig (S : Sub) (l : List TLig) : (List.map eTLig l).map (subs S) = List.map eTLig l := subs_map S l eTLig (fun _ => rfl)
def eLTLig (x : List TLig) : List AV := [.vec false (List.map eTLig x)]
theorem subs_eLTLig (S : Sub) (l : List (List TLig)) : (List.map eLTLig l).map (subs S) = List.map eLTLig l := subs_map S l eLTLig (fun _ => rfl)
def eTValue (x : TValue) : List AV := [.int .i64 x.X, .int .i64 x.Y, .int .i64 x.Wide, .int .i64 x.High]
theorem subs_eTValue (S : Sub) (l : List TValue) : (List.map eTValue l).map (subs S) = List.map eTValue l := subs_map S l eTValue (fun _ => rfl)
def eTTwo (x : TTwo) : List AV := [.int .i64 x.Second, .int .i64 x.A.X, .int .i64 x.A.Y, .int .i64 x.A.Wide, .int .i64 x.A.High, .int .i64 x.B.X, .int .i64 x.B.Y, .int .i64 x.B.Wide, .int .i64 x.B.High]
theorem subs_eTTwo (S : Sub) (l : List TTwo) : (List.map eTTwo l).map (subs S) = List.map eTTwo l := subs_map S l eTTwo (fun _ => rfl)
def eLTTwo (x : List TTwo) : List AV := [.vec false (List.map eTTwo x)]
theorem subs_eLTTwo (S : Sub) (l : List (List TTwo)) : (List.map eLTTwo l).map (subs S) = List.map eLTTwo l := subs_map S l eLTTwo (fun _ => rfl)
def eTArr2_TAnchor (x : TArr2_TAnchor) : List AV := [.bool x.e0.Is, .int .i64 x.e0.X, .int .i64 x.e0.Y, .bool x.e1.Is, .int .i64 x.e1.X, .int .i64 x.e1.Y]
theorem subs_eTArr2_TAnchor (S : Sub) (l : List TArr2_TAnchor) : (List.map eTArr2_TAnchor l).map (subs S) = List.map eTArr2_TAnchor l := subs_map S l eTArr2_TAnchor (fun _ => rfl)
def eTMark (x : TMark) : List AV := [.int .i64 x.Class, .bool x.At.Is, .int .i64 x.At.X, .int .i64 x.At.Y]
theorem subs_eTMark (S : Sub) (l : List TMark) : (List.map eTMark l).map (subs S) = List.map eTMark l := subs_map S l eTMark (fun _ => rfl)
def eTAnchor (x : TAnchor) : List AV := [.bool x.Is, .int .i64 x.X, .int .i64 x.Y]
theorem subs_eTAnchor (S : Sub) (l : List TAnchor) : (List.map eTAnchor l).map (subs S) = List.map eTAnchor l := subs_map S l eTAnchor (fun _ => rfl)
def eLTAnchor (x : List TAnchor) : List AV := [.vec false (List.map eTAnchor x)]
theorem subs_eLTAnchor (S : Sub) (l : List (List TAnchor)) : (List.map eLTAnchor l).map (subs S) = List.map eLTAnchor l := subs_map S l eLTAnchor (fun _ => rfl)
def eLLTAnchor (x : List (List TAnchor)) : List AV := [.vec false (List.map eLTAnchor x)]
theorem subs_eLLTAnchor (S : Sub) (l : List (List (List TAnchor))) : (List.map eLLTAnchor l).map (subs S) = List.map eLLTAnchor l := subs_map S l eLLTAnchor (fun _ => rfl)
def eLTSet (x : List TSet) : List AV := [.vec false (List.map eTSet x)]
theorem subs_eLTSet (S : Sub) (l : List (List TSet)) : (List.map eLTSet l).map (subs S) = List.map eLTSet l := subs_map S l eLTSet (fun _ => rfl)
def eB (x : Bool) : List AV := [.bool x]
theorem subs_eB (S : Sub) (l : List Bool) : (List.map eB l).map (subs S) = List.map eB l := subs_map S l eB (fun _ => rfl)
theorem mk_eTSpan (v_From : Int) (v_To : Int) : eTSpan (TSpan.mk v_From v_To) = [.int .i64 v_From, .int .i64 v_To] := rfl
theorem mk_eTArr3_I64 (v_e0 : Int) (v_e1 : Int) (v_e2 : Int) : eTArr3_I64 (TArr3_I64.mk v_e0 v_e1 v_e2) = [.int .i64 v_e0, .int .i64 v_e1, .int .i64 v_e2] := rfl
theorem mk_eTSet (v_Spans : List TSpan) (v_Not : Bool) : eTSet (TSet.mk v_Spans v_Not) = [.vec false (List.map eTSpan v_Spans), .bool v_Not] := rfl
theorem mk_eTAct (v_At : Int) (v_Lookup : Int) : eTAct (TAct.mk v_At v_Lookup) = [.int .i64 v_At, .int .i64 v_Lookup] := rfl
theorem mk_eTCtx (v_Back : List TSet) (v_In : List TSet) (v_Ahead : List TSet) (v_Acts : List TAct) : eTCtx (TCtx.mk v_Back v_In v_Ahead v_Acts) = [.vec false (List.map eTSet v_Back), .vec false (List.map eTSet v_In), .vec false (List.map eTSet v_Ahead), .vec false (List.map eTAct v_Acts)] := rfl
theorem mk_eTClass (v_From : Int) (v_To : Int) (v_Class : Int) : eTClass (TClass.mk v_From v_To v_Class) = [.int .i64 v_From, .int .i64 v_To, .int .i64 v_Class] := rfl
theorem mk_eTLig (v_Parts : List Int) (v_To : Int) : eTLig (TLig.mk v_Parts v_To) = [.vec false (List.map eI64 v_Parts), .int .i64 v_To] := rfl
theorem mk_eTValue (v_X : Int) (v_Y : Int) (v_Wide : Int) (v_High : Int) : eTValue (TValue.mk v_X v_Y v_Wide v_High) = [.int .i64 v_X, .int .i64 v_Y, .int .i64 v_Wide, .int .i64 v_High] := rfl
theorem mk_eTTwo (v_Second : Int) (v_A : TValue) (v_B : TValue) : eTTwo (TTwo.mk v_Second v_A v_B) = [.int .i64 v_Second, .int .i64 v_A.X, .int .i64 v_A.Y, .int .i64 v_A.Wide, .int .i64 v_A.High, .int .i64 v_B.X, .int .i64 v_B.Y, .int .i64 v_B.Wide, .int .i64 v_B.High] := rfl
theorem mk_eTArr2_TAnchor (v_e0 : TAnchor) (v_e1 : TAnchor) : eTArr2_TAnchor (TArr2_TAnchor.mk v_e0 v_e1) = [.bool v_e0.Is, .int .i64 v_e0.X, .int .i64 v_e0.Y, .bool v_e1.Is, .int .i64 v_e1.X, .int .i64 v_e1.Y] := rfl
theorem mk_eTMark (v_Class : Int) (v_At : TAnchor) : eTMark (TMark.mk v_Class v_At) = [.int .i64 v_Class, .bool v_At.Is, .int .i64 v_At.X, .int .i64 v_At.Y] := rfl
theorem mk_eTAnchor (v_Is : Bool) (v_X : Int) (v_Y : Int) : eTAnchor (TAnchor.mk v_Is v_X v_Y) = [.bool v_Is, .int .i64 v_X, .int .i64 v_Y] := rfl
attribute [local go_sem] subs_eU8 subs_eI64 subs_eTSpan subs_eTArr3_I64 subs_eTSet subs_eTAct subs_eTCtx subs_eTClass subs_eLI64 subs_eTLig subs_eLTLig subs_eTValue subs_eTTwo subs_eLTTwo subs_eTArr2_TAnchor subs_eTMark subs_eTAnchor subs_eLTAnchor subs_eLLTAnchor subs_eLTSet subs_eB mk_eTSpan mk_eTArr3_I64 mk_eTSet mk_eTAct mk_eTCtx mk_eTClass mk_eTLig mk_eTValue mk_eTTwo mk_eTArr2_TAnchor mk_eTMark mk_eTAnchor
def A23r : ACode := match A23 with | .seq _ r => r | _ => .skip
def R23 : Nat × Nat × Nat × ACode × Nat := (23, 5, 2, A23r, 17)
theorem rc23 : RcvOk Go.Proofs.Try.prog R23 := ⟨Go.Proofs.Try.f23, Go.Proofs.Try.func23, n23, by kernel_rfl, Go.Proofs.Try.ntmps23, by kernel_rfl, by decide, by decide⟩
def A94r : ACode := match A94 with | .seq _ r => r | _ => .skip
def R94 : Nat × Nat × Nat × ACode × Nat := (94, 5, 2, A94r, 16)
theorem rc94 : RcvOk Go.Proofs.Try.prog R94 := ⟨Go.Proofs.Try.f94, Go.Proofs.Try.func94, n94, by kernel_rfl, Go.Proofs.Try.ntmps94, by kernel_rfl, by decide, by decide⟩
def tab_alive12 : List (Nat × ACode × Nat × List RV) := [E10, E11, E15, E23, E24, E38, E45, E46, E47, E48, E49, E50, E51, E52, E53, E54, E71, E72, E73, E74, E75, E76, E77, E78, E79, E80, E87, E94, E95, E96, E97, E98, E99, E100, E101, E105, E106, E107, E108, E109, E110, E111, E112, E113, E114, E115, E116, E117, E118, E119, E120, E121, E122, E123, E124, E125, E126, E127, E128, E129, E130, E131, E132]
theorem tab_alive12_ok : AllOk Go.Proofs.Try.prog tab_alive12 := ⟨e10, e11, e15, e23, e24, e38, e45, e46, e47, e48, e49, e50, e51, e52, e53, e54, e71, e72, e73, e74, e75, e76, e77, e78, e79, e80, e87, e94, e95, e96, e97, e98, e99, e100, e101, e105, e106, e107, e108, e109, e110, e111, e112, e113, e114, e115, e116, e117, e118, e119, e120, e121, e122, e123, e124, e125, e126, e127, e128, e129, e130, e131, e132, trivial⟩
theorem alive12 : ACalls Go.Proofs.Try.prog 10 [] [] fun e H => H = [] ∧ e = .ret (.bool true) := ACalls.toldR (m := 300) (n := 20) (r := [R23, R94]) tab_alive12_ok ⟨rc23, rc94, trivial⟩ (by decide +kernel)
theorem gsub_must_inl {N : Nat} {b : Bool} {u : Unit} (h : gsub_must N b = some (.inl u)) : b = true := by
  cases b with
  | true => rfl
  | false => cases h
def B5_1 : ACode := match A5 with | (.seq _ (.seq _ (.seq _ (.seq _ (.seq _ (.seq _ (.seq _ (.seq (.seq _ (.block _ (.loop b))) _)))))))) => b | _ => .skip
def B5_2 : ACode := match B5_1 with | (.seq _ (.seq (.block _ (.seq _ (.block _ (.loop b)))) _)) => b | _ => .skip
def B121_1 : ACode := match A121 with | (.seq _ (.seq _ (.seq (.seq _ (.block _ (.loop b))) _))) => b | _ => .skip
def B96_1 : ACode := match A96 with | (.seq _ (.seq _ (.seq _ (.seq _ (.seq _ (.seq (.seq _ (.block _ (.loop b))) _)))))) => b | _ => .skip
def B96_2 : ACode := match B96_1 with | (.seq _ (.seq _ (.seq (.block _ (.seq _ (.seq _ (.block _ (.loop b))))) _))) => b | _ => .skip
def B125_1 : ACode := match A125 with | (.seq _ (.seq _ (.seq (.seq _ (.block _ (.loop b))) _))) => b | _ => .skip
def B107_1 : ACode := match A107 with | (.seq _ (.seq _ (.seq (.seq _ (.block _ (.loop b))) _))) => b | _ => .skip
def B123_1 : ACode := match A123 with | (.seq _ (.seq _ (.seq _ (.seq _ (.seq _ (.seq _ (.seq (.seq _ (.block _ (.loop b))) _))))))) => b | _ => .skip
def B124_1 : ACode := match A124 with | (.seq _ (.seq _ (.seq _ (.seq _ (.seq _ (.seq (.seq _ (.block _ (.loop b))) _)))))) => b | _ => .skip
def B128_1 : ACode := match A128 with | (.seq _ (.seq _ (.seq _ (.seq _ (.seq _ (.seq _ (.seq (.seq _ (.block _ (.loop b))) _))))))) => b | _ => .skip
def B87_1 : ACode := match A87 with | (.seq _ (.seq _ (.seq (.seq _ (.block _ (.loop b))) _))) => b | _ => .skip
def B109_1 : ACode := match A109 with | (.seq _ (.seq _ (.seq (.seq _ (.block _ (.loop b))) _))) => b | _ => .skip
def B109_2 : ACode := match B109_1 with | (.seq _ (.seq _ (.seq (.block _ (.seq _ (.seq _ (.seq _ (.seq _ (.seq _ (.seq _ (.block _ (.loop b))))))))) _))) => b | _ => .skip
def B132_1 : ACode := match A132 with | (.seq _ (.seq _ (.seq (.seq _ (.block _ (.loop b))) _))) => b | _ => .skip
def B119_1 : ACode := match A119 with | (.seq _ (.seq _ (.seq (.seq _ (.block _ (.loop b))) _))) => b | _ => .skip
def B105_1 : ACode := match A105 with | (.seq _ (.scope (.seq _ (.seq _ (.seq _ (.seq (.seq _ (.block _ (.seq _ (.cond _ (.seq _ (.seq _ (.seq _ (.seq _ (.seq (.seq _ (.block _ (.loop b))) _))))) _)))) _)))))) => b | _ => .skip
def B105_2 : ACode := match A105 with | (.seq _ (.scope (.seq _ (.seq _ (.seq _ (.seq (.seq _ (.block _ (.seq _ (.cond _ _ (.seq _ (.cond _ (.seq _ (.seq (.seq _ (.block _ (.loop b))) _)) _)))))) _)))))) => b | _ => .skip
def B115_1 : ACode := match A115 with | (.seq _ (.seq _ (.seq (.seq _ (.block _ (.loop b))) _))) => b | _ => .skip
def B117_1 : ACode := match A117 with | (.seq _ (.seq _ (.seq _ (.seq (.seq _ (.block _ (.loop b))) _)))) => b | _ => .skip
def B117_2 : ACode := match B117_1 with | (.seq _ (.seq _ (.seq (.block _ (.seq _ (.seq _ (.seq (.seq _ (.block _ (.loop b))) _)))) _))) => b | _ => .skip
def B74_1 : ACode := match A74 with | (.seq _ (.seq _ (.seq (.seq _ (.block _ (.loop b))) _))) => b | _ => .skip
def B51_1 : ACode := match A51 with | (.seq _ (.seq _ (.seq (.seq _ (.block _ (.loop b))) _))) => b | _ => .skip
def B52_1 : ACode := match A52 with | (.seq _ (.seq _ (.seq _ (.seq (.seq _ (.block _ (.loop b))) _)))) => b | _ => .skip
def B52_2 : ACode := match B52_1 with | (.seq _ (.seq _ (.seq (.block _ (.seq _ (.seq _ (.seq _ (.seq _ (.seq _ (.seq _ (.seq (.seq _ (.block _ (.loop b))) _)))))))) _))) => b | _ => .skip
def B80_1 : ACode := match A80 with | (.seq _ (.seq _ (.seq (.seq _ (.block _ (.loop b))) _))) => b | _ => .skip
def B17_1 : ACode := match A17 with | (.seq _ (.seq _ (.seq (.seq _ (.block _ (.loop b))) _))) => b | _ => .skip
def B15_1 : ACode := match A15 with | (.seq _ (.seq _ (.seq _ (.seq (.seq _ (.block _ (.loop b))) _)))) => b | _ => .skip
def B15_2 : ACode := match A15 with | (.seq _ (.seq _ (.seq _ (.seq _ (.seq (.seq _ (.block _ (.loop b))) _))))) => b | _ => .skip
def B15_3 : ACode := match B15_2 with | (.seq _ (.seq _ (.seq (.block _ (.seq _ (.seq _ (.seq _ (.block _ (.loop b)))))) _))) => b | _ => .skip
def B15_4 : ACode := match A15 with | (.seq _ (.seq _ (.seq _ (.seq _ (.seq _ (.seq (.seq _ (.block _ (.loop b))) _)))))) => b | _ => .skip
def B15_5 : ACode := match B15_4 with | (.seq _ (.seq _ (.seq (.block _ (.seq _ (.seq (.seq _ (.block _ (.loop b))) _))) _))) => b | _ => .skip
def B15_6 : ACode := match B15_5 with | (.seq _ (.seq _ (.seq (.block _ (.seq _ (.seq _ (.block _ (.loop b))))) _))) => b | _ => .skip
theorem octet_Within_w (N : Nat) (l_0 : List Int) (a_1 : Int) (a_2 : Int) (c_0 : Bool) (z_1 : Bool) (h : octet_Within N l_0 a_1 a_2 = some z_1) :
  ACalls Try.prog 120 [.vec c_0 (List.map eU8 l_0), .int .i64 a_1, .int .i64 a_2] [] (fun e H => H = [] ∧ e = .ret (.bool z_1)) := by
 unfold octet_Within at h
 refine ACalls.goN Try.func120 n120 a120 Try.ntmps120 r120 (by simp) 0 rfl ?_
 generalize hQ : bodyA _ _ _ = QQ
 simp only [A120, go_sem, seval]
 by_cases h_1 : 0 ≤ a_1
 ·
  rw [if_pos h_1] at h
  have e_2 := eq_true h_1
  simp only [e_2, go_sem, seval]
  by_cases h_3 : 0 ≤ a_2
  ·
   rw [if_pos h_3] at h
   have e_4 := eq_true h_3
   simp only [e_2, e_4, go_sem, seval]
   by_cases h_5 : a_2 ≤ (l_0.length : Int)
   ·
    rw [if_pos h_5] at h
    have e_6 := eq_true h_5
    simp only [e_2, e_4, e_6, go_sem, seval]
    have g_0 := Option.some.inj h
    subst g_0
    rw [← hQ]
    exact ⟨rfl, _, rfl, _, _, (RefV.out (by first | rfl | simp only [go_sem, seval, e_2, e_4, e_6])), rfl, rfl⟩
   ·
    rw [if_neg h_5] at h
    have e_6 := eq_false h_5
    simp only [e_2, e_4, e_6, go_sem, seval]
    have g_0 := Option.some.inj h
    subst g_0
    rw [← hQ]
    exact ⟨rfl, _, rfl, _, _, (RefV.out rfl), rfl, rfl⟩
  ·
   rw [if_neg h_3] at h
   have e_4 := eq_false h_3
   simp only [e_2, e_4, go_sem, seval]
   have g_0 := Option.some.inj h
   subst g_0
   rw [← hQ]
   exact ⟨rfl, _, rfl, _, _, (RefV.out rfl), rfl, rfl⟩
 ·
  rw [if_neg h_1] at h
  have e_2 := eq_false h_1
  simp only [e_2, go_sem, seval]
  have g_0 := Option.some.inj h
  subst g_0
  rw [← hQ]
  exact ⟨rfl, _, rfl, _, _, (RefV.out rfl), rfl, rfl⟩
theorem octet_number_L1_w (N : Nat) (l_0 : List Int) (c_0 : Bool) {R : AExit → ATm → List AObj → Prop} : ∀ (n : Nat) (i_1 : Int) (i_2 : Int) (o : Int), octet_number_L1 N l_0 n i_1 i_2 = some o → (match o with | z_1 => R (.exit 0) ⟨19, [(3, .int .i64 z_1)], []⟩ []) →
  ALp Try.prog 0 B121_1 ⟨19, [(3, .int .i64 i_1), (6, .vec c_0 (List.map eU8 l_0)), (7, .int .i64 (l_0.length : Int)), (8, .int .i64 i_2)], []⟩ [] R := by
 intro n
 induction n with
 | zero =>
  intro i_1 i_2 o h _
  have h0 : none = some o := h
  cases h0
 | succ n ih =>
  intro i_1 i_2 o h hp
  rw [octet_number_L1] at h
  refine ALp.round ?_
  generalize hQ : RoundQ _ _ _ _ = QQ
  simp only [B121_1, A121, go_sem, seval]
  by_cases h_3 : i_2 < (l_0.length : Int)
  ·
   rw [if_pos h_3] at h
   have e_4 := eq_true h_3
   obtain ⟨x_5, h_6, h⟩ := bindS h
   have e_7 : (List.map eU8 l_0)[(i_2).toNat]? = some [.int .u8 x_5] := atI_map eU8 h_6
   have e_8 := eq_true (atI_some h_6).1
   have e_9 := eq_true (atI_lt h_6)
   have e_10 : (min 8 64 : Nat) = 8 := rfl
   simp only [e_4, e_7, e_8, e_9, e_10, go_sem, seval]
   rw [← hQ]
   exact ⟨_, _, (Ref.out [3, 6, 7, 8] rfl), (Nat.zero_le _), ih _ _ _ h hp⟩
  ·
   rw [if_neg h_3] at h
   have e_4 := eq_false h_3
   simp only [e_4, go_sem, seval]
   have g := Option.some.inj h
   subst g
   rw [← hQ]
   exact ⟨_, _, (Ref.out [3] rfl), hp⟩
theorem octet_number_w (N : Nat) (l_0 : List Int) (c_0 : Bool) (z_1 : Int) (h : octet_number N l_0 = some z_1) :
  ACalls Try.prog 121 [.vec c_0 (List.map eU8 l_0)] [] (fun e H => H = [] ∧ e = .ret (.int .i64 z_1)) := by
 unfold octet_number at h
 refine ACalls.goN Try.func121 n121 a121 Try.ntmps121 r121 (by simp) 0 rfl ?_
 generalize hQ : bodyA _ _ _ = QQ
 simp only [A121, go_sem, seval]
 obtain ⟨y_1002, h_1001, h⟩ := bindS h
 refine ALp.ref (Ref.out [3, 6, 7, 8] rfl) (Nat.zero_le _) (octet_number_L1_w N _ c_0 N _ _ y_1002 h_1001 ?_)
 refine LoopK_go rfl (Nat.zero_le _) ?_
 simp only [go_sem, seval]
 have g_0 := Option.some.inj h
 subst g_0
 rw [← hQ]
 exact ⟨rfl, _, rfl, _, _, (RefV.out rfl), rfl, rfl⟩
theorem octet_read_w (N : Nat) (l_0 : List Int) (a_1 : Int) (a_2 : Int) (c_0 : Bool) (z_1 : Int) (z_2 : Bool) (h : octet_read N l_0 a_1 a_2 = some (z_1, z_2)) :
  ACalls Try.prog 99 [.vec c_0 (List.map eU8 l_0), .int .i64 a_1, .int .i64 a_2] [] (fun e H => H = [] ∧ e = .ret (.tup [.int .i64 z_1, .bool z_2])) := by
 unfold octet_read at h
 refine ACalls.goN Try.func99 n99 a99 Try.ntmps99 r99 (by simp) 0 rfl ?_
 generalize hQ : bodyA _ _ _ = QQ
 obtain ⟨y_1, h_2, h⟩ := bindS h
 simp only [A99, go_sem, seval]
 refine ACalls.use0 (octet_Within_w N _ _ _ c_0 _ h_2) rfl rfl ?_
 refine ck0 ?_
 simp only [go_sem, seval]
 by_cases h_3 : y_1 = true
 ·
  rw [if_pos h_3] at h
  have e_4 : y_1 = true := h_3
  obtain ⟨h_5, h⟩ := guardS h
  have e_6 := eq_true h_5
  obtain ⟨h_7, h⟩ := guardS h
  have e_8 := eq_true h_7
  obtain ⟨h_9, h⟩ := guardS h
  have e_10 := eq_true h_9
  have e_11 : ((List.map eU8 l_0)).all (fun el => el.length == 1) = true := all_len _ eU8 1 (fun _ => rfl)
  have e_12 : List.take ((IntKind.i64.wrap (a_1 + a_2)).toNat - (a_1).toNat) (List.drop (a_1).toNat (List.map eU8 l_0)) = List.map eU8 (slI l_0 a_1 (IntKind.i64.wrap (a_1 + a_2))) := slI_map l_0 a_1 (IntKind.i64.wrap (a_1 + a_2)) eU8
  obtain ⟨y_13, h_14, h⟩ := bindS h
  simp only [e_4, e_6, e_8, e_10, e_11, e_12, go_sem, seval]
  refine ACalls.use0 (octet_number_w N _ _ _ h_14) rfl rfl ?_
  refine ck0 ?_
  simp only [e_4, e_6, e_8, e_10, e_11, e_12, go_sem, seval]
  obtain ⟨k_1, g_1⟩ := Prod.mk.inj (Option.some.inj h)
  subst k_1
  subst g_1
  rw [← hQ]
  exact ⟨rfl, _, rfl, _, _, (RefV.out rfl), rfl, rfl⟩
 ·
  rw [if_neg h_3] at h
  have e_4 : y_1 = false := bfalse h_3
  simp only [e_4, go_sem, seval]
  obtain ⟨k_1, g_1⟩ := Prod.mk.inj (Option.some.inj h)
  subst k_1
  subst g_1
  rw [← hQ]
  exact ⟨rfl, _, rfl, _, _, (RefV.out rfl), rfl, rfl⟩
theorem octet_U16_w (N : Nat) (l_0 : List Int) (a_1 : Int) (c_0 : Bool) (z_1 : Int) (z_2 : Bool) (h : octet_U16 N l_0 a_1 = some (z_1, z_2)) :
  ACalls Try.prog 72 [.vec c_0 (List.map eU8 l_0), .int .i64 a_1] [] (fun e H => H = [] ∧ e = .ret (.tup [.int .i64 z_1, .bool z_2])) := by
 unfold octet_U16 at h
 refine ACalls.goN Try.func72 n72 a72 Try.ntmps72 r72 (by simp) 0 rfl ?_
 generalize hQ : bodyA _ _ _ = QQ
 obtain ⟨⟨y_1, y_2⟩, h_3, h⟩ := bindS h
 try dsimp only at h
 simp only [A72, go_sem, seval]
 refine ACalls.use0 (octet_read_w N _ _ _ c_0 _ _ h_3) rfl rfl ?_
 refine ck0 ?_
 simp only [go_sem, seval]
 obtain ⟨k_1, g_1⟩ := Prod.mk.inj (Option.some.inj h)
 subst k_1
 subst g_1
 rw [← hQ]
 exact ⟨rfl, _, rfl, _, _, (RefV.out rfl), rfl, rfl⟩
theorem context_must_w (N : Nat) (b_0 : Bool) (o : (Unit) ⊕ Unit) (h : context_must N b_0 = some o) :
  ACalls Try.prog 106 [.bool b_0] [] (fun e H => match o with | .inl _ => H = [] ∧ e = .ret (.tup []) | .inr _ => H = [] ∧ e = .pan (.iface 148 (.agg []))) := by
 unfold context_must at h
 refine ACalls.goN Try.func106 n106 a106 Try.ntmps106 r106 (by simp) 0 rfl ?_
 generalize hQ : bodyA _ _ _ = QQ
 simp only [A106, go_sem, seval]
 by_cases h_1 : b_0 = true
 ·
  rw [if_pos h_1] at h
  have e_2 : b_0 = true := h_1
  simp only [e_2, go_sem, seval]
  have g_0 := Option.some.inj h
  subst g_0
  rw [← hQ]
  exact ⟨rfl, _, rfl, _, _, (RefV.out rfl), rfl, rfl⟩
 ·
  rw [if_neg h_1] at h
  have e_2 : b_0 = false := bfalse h_1
  simp only [e_2, go_sem, seval]
  have g_0 := Option.some.inj h
  subst g_0
  rw [← hQ]
  exact ⟨rfl, _, _, RefV.dead rfl, rfl, rfl⟩
theorem context_reader_number_w (N : Nat) (l_0 : List Int) (a_1 : Int) (c_0 : Bool) (o : (Int) ⊕ Unit) (h : context_reader_number N l_0 a_1 = some o) :
  ACalls Try.prog 95 [.ptr 0 0 0] [.box [.vec c_0 (List.map eU8 l_0), .int .i64 a_1] 152] (fun e H => match o with | .inl z_1 => H = [.box [.vec c_0 (List.map eU8 l_0), .int .i64 (IntKind.i64.wrap (a_1 + 2))] 152] ∧ e = .ret (.int .i64 z_1) | .inr _ => H = [.dead] ∧ e = .pan (.iface 148 (.agg []))) := by
 unfold context_reader_number at h
 refine ACalls.goN Try.func95 n95 a95 Try.ntmps95 r95 (by simp) 1 rfl ?_
 generalize hQ : bodyA _ _ _ = QQ
 obtain ⟨⟨y_1, y_2⟩, h_3, h⟩ := bindS h
 try dsimp only at h
 simp only [A95, go_sem, seval]
 refine ACalls.use0 (octet_U16_w N _ _ c_0 _ _ h_3) rfl rfl ?_
 obtain ⟨o_5, h_4, h⟩ := bindS h
 simp only [go_sem, seval]
 rcases o_5 with _ | _
 ·
  try dsimp only at h
  refine ACalls.use0 (context_must_w N _ _ h_4) rfl rfl ?_
  refine CallK_go (by simp) ?_
  simp only [go_sem, seval]
  have g_0 := Option.some.inj h
  subst g_0
  rw [← hQ]
  exact ⟨rfl, _, rfl, _, _, (RefV.std [0] (by decide) (by decide) rfl (by first | rfl | simp only [go_sem, seval])), rfl, rfl⟩
 ·
  try dsimp only at h
  refine ACalls.panA (context_must_w N _ _ h_4) [] (v' := .iface 148 (.agg [])) (H' := [.box [.vec c_0 (List.map eU8 l_0), .int .i64 a_1] 152]) ?_
  try simp only [CallK_pan, dCallK_pan, panK_ap]
  have g_0 := Option.some.inj h
  subst g_0
  rw [← hQ]
  exact ⟨rfl, _, _, RefV.dead rfl, rfl, rfl⟩
theorem octet_Row_1_w (N : Nat) (a_0 : Int) (l_1 : List Int) (a_2 : Int) (a_3 : Int) (c_0 : Bool) (z_1 : Int) (h : octet_Row_1 N a_0 l_1 a_2 a_3 = some z_1) :
  ACalls Try.prog 126 [.int .i64 a_0, .ptr 0 0 0, .ptr 1 0 0, .ptr 2 0 0] [.box [.vec c_0 (List.map eU8 l_1)] 22, .box [.int .i64 a_2] 3, .box [.int .i64 a_3] 3] (fun e H => H = [.box [.vec c_0 (List.map eU8 l_1)] 22, .box [.int .i64 a_2] 3, .box [.int .i64 a_3] 3] ∧ e = .ret (.int .i64 z_1)) := by
 unfold octet_Row_1 at h
 refine ACalls.goN Try.func126 n126 a126 Try.ntmps126 r126 (by simp) 3 rfl ?_
 generalize hQ : bodyA _ _ _ = QQ
 obtain ⟨h_1, h⟩ := guardS h
 have e_2 := eq_true h_1
 obtain ⟨h_3, h⟩ := guardS h
 have e_4 := eq_true h_3
 obtain ⟨h_5, h⟩ := guardS h
 have e_6 := eq_true h_5
 have e_7 : ((List.map eU8 l_1)).all (fun el => el.length == 1) = true := all_len _ eU8 1 (fun _ => rfl)
 have e_8 : List.take ((IntKind.i64.wrap (a_2 + (IntKind.i64.wrap ((IntKind.i64.wrap (a_0 + 1)) * a_3)))).toNat - (IntKind.i64.wrap (a_2 + (IntKind.i64.wrap (a_0 * a_3)))).toNat) (List.drop (IntKind.i64.wrap (a_2 + (IntKind.i64.wrap (a_0 * a_3)))).toNat (List.map eU8 l_1)) = List.map eU8 (slI l_1 (IntKind.i64.wrap (a_2 + (IntKind.i64.wrap (a_0 * a_3)))) (IntKind.i64.wrap (a_2 + (IntKind.i64.wrap ((IntKind.i64.wrap (a_0 + 1)) * a_3))))) := slI_map l_1 (IntKind.i64.wrap (a_2 + (IntKind.i64.wrap (a_0 * a_3)))) (IntKind.i64.wrap (a_2 + (IntKind.i64.wrap ((IntKind.i64.wrap (a_0 + 1)) * a_3)))) eU8
 obtain ⟨y_9, h_10, h⟩ := bindS h
 simp only [A126, e_2, e_4, e_6, e_7, e_8, go_sem, seval]
 refine ACalls.use0 (octet_number_w N _ _ _ h_10) rfl rfl ?_
 refine CallK_go (by simp) ?_
 simp only [e_2, e_4, e_6, e_7, e_8, go_sem, seval]
 have g_0 := Option.some.inj h
 subst g_0
 rw [← hQ]
 exact ⟨rfl, _, rfl, _, _, (RefV.std [0, 1, 2] (by decide) (by decide) rfl (by first | rfl | simp only [go_sem, seval])), rfl, rfl⟩
theorem octet_many_int_L1_w (N : Nat) (a_0 : Int) (l_1 : List Int) (a_2 : Int) (a_3 : Int) (c_0 : Bool) {R : AExit → ATm → List AObj → Prop} : ∀ (n : Nat) (i_1 : Int) (s_2 : List Int) (o : (List Int)), octet_many_int_L1 N a_0 l_1 a_2 a_3 n i_1 s_2 = some o → (match o with | z_1 => R (.exit 0) ⟨19, [(5, .row 3 0 z_1.length)], []⟩ [.box [.vec c_0 (List.map eU8 l_1)] 22, .box [.int .i64 a_2] 3, .box [.int .i64 a_3] 3, .mem 1 (List.map eI64 z_1) 3]) →
  ALp Try.prog 3 B125_1 ⟨19, [(1, .fn (.func 126) [] [.ptr 0 0 0, .ptr 1 0 0, .ptr 2 0 0]), (5, .row 3 0 s_2.length), (7, .int .i64 a_0), (8, .int .i64 i_1)], []⟩ [.box [.vec c_0 (List.map eU8 l_1)] 22, .box [.int .i64 a_2] 3, .box [.int .i64 a_3] 3, .mem 1 (List.map eI64 s_2) 3] R := by
 intro n
 induction n with
 | zero =>
  intro i_1 s_2 o h _
  have h0 : none = some o := h
  cases h0
 | succ n ih =>
  intro i_1 s_2 o h hp
  rw [octet_many_int_L1] at h
  refine ALp.round ?_
  generalize hQ : RoundQ _ _ _ _ = QQ
  simp only [B125_1, A125, go_sem, seval]
  by_cases h_3 : i_1 < a_0
  ·
   rw [if_pos h_3] at h
   have e_4 := eq_true h_3
   obtain ⟨y_5, h_6, h⟩ := bindS h
   simp only [e_4, go_sem, seval]
   refine ACalls.useA (octet_Row_1_w N _ _ _ _ c_0 _ h_6) [0, 1, 2] (v' := .int .i64 y_5) (H' := [.box [.vec c_0 (List.map eU8 l_1)] 22, .box [.int .i64 a_2] 3, .box [.int .i64 a_3] 3, .mem 1 (List.map eI64 s_2) 3]) (hH := by simp only [go_sem, seval, e_4]) (ho := ⟨(by first | rfl | simp only [go_sem, seval, e_4]), (by first | rfl | simp only [go_sem, seval, e_4]), (by first | rfl | simp only [go_sem, seval, e_4]), trivial⟩) ?_
   refine CallK_go (by simp) ?_
   have e_7 : List.take s_2.length (List.map eI64 s_2) = (List.map eI64 s_2) := List.take_of_length_le (by simp)
   have e_8 : (List.map eI64 s_2) ++ [[.int .i64 y_5]] = (List.map eI64 (s_2 ++ [y_5])) := app_map s_2 ([y_5]) eI64
   obtain ⟨h_9, h⟩ := guardS h
   have e_10 := eq_true h_9
   simp only [e_4, e_7, e_8, e_10, go_sem, seval]
   rw [← hQ]
   exact ⟨_, _, (Ref.std [1, 5, 7, 8] [0, 1, 2, 4] (by decide) (by decide) (by first | rfl | simp only [go_sem, seval]) (by first | rfl | simp only [go_sem, seval])), (by simp), ih _ _ _ h hp⟩
  ·
   rw [if_neg h_3] at h
   have e_4 := eq_false h_3
   simp only [e_4, go_sem, seval]
   have g := Option.some.inj h
   subst g
   rw [← hQ]
   exact ⟨_, _, (Ref.std [5] [0, 1, 2, 3] (by decide) (by decide) rfl (by first | rfl | simp only [go_sem, seval])), hp⟩
theorem octet_many_int_w (N : Nat) (a_0 : Int) (l_1 : List Int) (a_2 : Int) (a_3 : Int) (c_0 : Bool) (z_1 : List Int) (h : octet_many_int N a_0 l_1 a_2 a_3 = some z_1) :
  ACalls Try.prog 125 [.int .i64 a_0, .fn (.func 126) [] [.ptr 0 0 0, .ptr 1 0 0, .ptr 2 0 0]] [.box [.vec c_0 (List.map eU8 l_1)] 22, .box [.int .i64 a_2] 3, .box [.int .i64 a_3] 3] (fun e H => H = [.box [.vec c_0 (List.map eU8 l_1)] 22, .box [.int .i64 a_2] 3, .box [.int .i64 a_3] 3] ∧ e = .ret (.vec false (List.map eI64 z_1))) := by
 unfold octet_many_int at h
 refine ACalls.goN Try.func125 n125 a125 Try.ntmps125 r125 (by simp) 3 rfl ?_
 generalize hQ : bodyA _ _ _ = QQ
 simp only [A125, go_sem, seval]
 obtain ⟨y_1002, h_1001, h⟩ := bindS h
 refine ALp.ref (Ref.trans (Ref.thaw (by simp) 5 rfl (sz := 1) (by decide) 3) (Ref.std [1, 5, 7, 8] [0, 1, 2, 3] (by decide) (by decide) rfl (by first | rfl | simp only [go_sem, seval]))) (by simp) (octet_many_int_L1_w N _ _ _ _ c_0 N _ _ y_1002 h_1001 ?_)
 refine LoopK_go rfl (by simp) ?_
 simp only [go_sem, seval]
 have g_0 := Option.some.inj h
 subst g_0
 rw [← hQ]
 exact ⟨rfl, _, rfl, _, _, (RefV.trans (RefV.frz (by simp) (id := 3) rfl (pures_map y_1002 eI64 (fun _ => rfl))) (RefV.std [0, 1, 2] (by decide) (by decide) (by first | rfl | simp only [go_sem, seval]) (by first | rfl | simp only [go_sem, seval]))), rfl, rfl⟩
theorem octet_Row_w (N : Nat) (l_0 : List Int) (a_1 : Int) (a_2 : Int) (a_3 : Int) (c_0 : Bool) (z_1 : List Int) (z_2 : Bool) (h : octet_Row N l_0 a_1 a_2 a_3 = some (z_1, z_2)) :
  ACalls Try.prog 101 [.vec c_0 (List.map eU8 l_0), .int .i64 a_1, .int .i64 a_2, .int .i64 a_3] [] (fun e H => H = [] ∧ e = .ret (.tup [.vec false (List.map eI64 z_1), .bool z_2])) := by
 unfold octet_Row at h
 refine ACalls.goN Try.func101 n101 a101 Try.ntmps101 r101 (by simp) 0 rfl ?_
 generalize hQ : bodyA _ _ _ = QQ
 simp only [A101, go_sem, seval]
 by_cases h_1 : a_3 = 1
 ·
  rw [if_pos h_1] at h
  have e_2 := eq_true h_1
  simp only [e_2, go_sem, seval]
  by_cases h_3 : a_2 < 0
  ·
   rw [if_pos h_3] at h
   have e_4 := eq_true h_3
   simp only [e_2, e_4, go_sem, seval]
   obtain ⟨k_1, g_1⟩ := Prod.mk.inj (Option.some.inj h)
   subst k_1
   subst g_1
   rw [← hQ]
   exact ⟨rfl, _, rfl, _, _, outVB, rfl, rfl⟩
  ·
   rw [if_neg h_3] at h
   have e_4 := eq_false h_3
   simp only [e_2, e_4, go_sem, seval]
   by_cases h_5 : (l_0.length : Int) < a_2
   ·
    rw [if_pos h_5] at h
    have e_6 := eq_true h_5
    simp only [e_2, e_4, e_6, go_sem, seval]
    obtain ⟨k_1, g_1⟩ := Prod.mk.inj (Option.some.inj h)
    subst k_1
    subst g_1
    rw [← hQ]
    exact ⟨rfl, _, rfl, _, _, outVB, rfl, rfl⟩
   ·
    rw [if_neg h_5] at h
    have e_6 := eq_false h_5
    obtain ⟨y_7, h_8, h⟩ := bindS h
    simp only [e_2, e_4, e_6, go_sem, seval]
    refine ACalls.use0 (octet_Within_w N _ _ _ c_0 _ h_8) rfl rfl ?_
    refine ck0 ?_
    simp only [e_2, e_4, e_6, go_sem, seval]
    by_cases h_9 : y_7 = true
    ·
     rw [if_pos h_9] at h
     have e_10 : y_7 = true := h_9
     obtain ⟨y_11, h_12, h⟩ := bindS h
     simp only [e_2, e_4, e_6, e_10, go_sem, seval]
     refine ACalls.useA (octet_many_int_w N _ _ _ _ c_0 _ h_12) [0, 1, 2] (v' := .vec false (List.map eI64 y_11)) (H' := [.box [.vec c_0 (List.map eU8 l_0)] 22, .box [.int .i64 a_1] 3, .box [.int .i64 a_3] 3]) (hH := by simp only [go_sem, seval, e_2, e_4, e_6, e_10]) (ho := ⟨(by first | rfl | simp only [go_sem, seval, e_2, e_4, e_6, e_10]), (by first | rfl | simp only [go_sem, seval, e_2, e_4, e_6, e_10]), (by first | rfl | simp only [go_sem, seval, e_2, e_4, e_6, e_10]), trivial⟩) ?_
     refine ck0 ?_
     simp only [e_2, e_4, e_6, e_10, go_sem, seval]
     obtain ⟨k_1, g_1⟩ := Prod.mk.inj (Option.some.inj h)
     subst k_1
     subst g_1
     rw [← hQ]
     exact ⟨rfl, _, rfl, _, _, (RefV.out rfl), rfl, rfl⟩
    ·
     rw [if_neg h_9] at h
     have e_10 : y_7 = false := bfalse h_9
     simp only [e_2, e_4, e_6, e_10, go_sem, seval]
     obtain ⟨k_1, g_1⟩ := Prod.mk.inj (Option.some.inj h)
     subst k_1
     subst g_1
     rw [← hQ]
     exact ⟨rfl, _, rfl, _, _, outVB, rfl, rfl⟩
 ·
  rw [if_neg h_1] at h
  have e_2 := eq_false h_1
  simp only [e_2, go_sem, seval]
  by_cases h_13 : a_3 = 2
  ·
   rw [if_pos h_13] at h
   have e_14 := eq_true h_13
   simp only [e_2, e_14, go_sem, seval]
   by_cases h_15 : a_2 < 0
   ·
    rw [if_pos h_15] at h
    have e_16 := eq_true h_15
    simp only [e_2, e_14, e_16, go_sem, seval]
    obtain ⟨k_1, g_1⟩ := Prod.mk.inj (Option.some.inj h)
    subst k_1
    subst g_1
    rw [← hQ]
    exact ⟨rfl, _, rfl, _, _, outVB, rfl, rfl⟩
   ·
    rw [if_neg h_15] at h
    have e_16 := eq_false h_15
    simp only [e_2, e_14, e_16, go_sem, seval]
    by_cases h_17 : (l_0.length : Int) < a_2
    ·
     rw [if_pos h_17] at h
     have e_18 := eq_true h_17
     simp only [e_2, e_14, e_16, e_18, go_sem, seval]
     obtain ⟨k_1, g_1⟩ := Prod.mk.inj (Option.some.inj h)
     subst k_1
     subst g_1
     rw [← hQ]
     exact ⟨rfl, _, rfl, _, _, outVB, rfl, rfl⟩
    ·
     rw [if_neg h_17] at h
     have e_18 := eq_false h_17
     obtain ⟨y_19, h_20, h⟩ := bindS h
     simp only [e_2, e_14, e_16, e_18, go_sem, seval]
     refine ACalls.use0 (octet_Within_w N _ _ _ c_0 _ h_20) rfl rfl ?_
     refine ck0 ?_
     simp only [e_2, e_14, e_16, e_18, go_sem, seval]
     by_cases h_21 : y_19 = true
     ·
      rw [if_pos h_21] at h
      have e_22 : y_19 = true := h_21
      obtain ⟨y_23, h_24, h⟩ := bindS h
      simp only [e_2, e_14, e_16, e_18, e_22, go_sem, seval]
      refine ACalls.useA (octet_many_int_w N _ _ _ _ c_0 _ h_24) [0, 1, 2] (v' := .vec false (List.map eI64 y_23)) (H' := [.box [.vec c_0 (List.map eU8 l_0)] 22, .box [.int .i64 a_1] 3, .box [.int .i64 a_3] 3]) (hH := by simp only [go_sem, seval, e_2, e_14, e_16, e_18, e_22]) (ho := ⟨(by first | rfl | simp only [go_sem, seval, e_2, e_14, e_16, e_18, e_22]), (by first | rfl | simp only [go_sem, seval, e_2, e_14, e_16, e_18, e_22]), (by first | rfl | simp only [go_sem, seval, e_2, e_14, e_16, e_18, e_22]), trivial⟩) ?_
      refine ck0 ?_
      simp only [e_2, e_14, e_16, e_18, e_22, go_sem, seval]
      obtain ⟨k_1, g_1⟩ := Prod.mk.inj (Option.some.inj h)
      subst k_1
      subst g_1
      rw [← hQ]
      exact ⟨rfl, _, rfl, _, _, (RefV.out rfl), rfl, rfl⟩
     ·
      rw [if_neg h_21] at h
      have e_22 : y_19 = false := bfalse h_21
      simp only [e_2, e_14, e_16, e_18, e_22, go_sem, seval]
      obtain ⟨k_1, g_1⟩ := Prod.mk.inj (Option.some.inj h)
      subst k_1
      subst g_1
      rw [← hQ]
      exact ⟨rfl, _, rfl, _, _, outVB, rfl, rfl⟩
  ·
   rw [if_neg h_13] at h
   have e_14 := eq_false h_13
   simp only [e_2, e_14, go_sem, seval]
   by_cases h_25 : a_3 = 4
   ·
    rw [if_pos h_25] at h
    have e_26 := eq_true h_25
    simp only [e_2, e_14, e_26, go_sem, seval]
    by_cases h_27 : a_2 < 0
    ·
     rw [if_pos h_27] at h
     have e_28 := eq_true h_27
     simp only [e_2, e_14, e_26, e_28, go_sem, seval]
     obtain ⟨k_1, g_1⟩ := Prod.mk.inj (Option.some.inj h)
     subst k_1
     subst g_1
     rw [← hQ]
     exact ⟨rfl, _, rfl, _, _, outVB, rfl, rfl⟩
    ·
     rw [if_neg h_27] at h
     have e_28 := eq_false h_27
     simp only [e_2, e_14, e_26, e_28, go_sem, seval]
     by_cases h_29 : (l_0.length : Int) < a_2
     ·
      rw [if_pos h_29] at h
      have e_30 := eq_true h_29
      simp only [e_2, e_14, e_26, e_28, e_30, go_sem, seval]
      obtain ⟨k_1, g_1⟩ := Prod.mk.inj (Option.some.inj h)
      subst k_1
      subst g_1
      rw [← hQ]
      exact ⟨rfl, _, rfl, _, _, outVB, rfl, rfl⟩
     ·
      rw [if_neg h_29] at h
      have e_30 := eq_false h_29
      obtain ⟨y_31, h_32, h⟩ := bindS h
      simp only [e_2, e_14, e_26, e_28, e_30, go_sem, seval]
      refine ACalls.use0 (octet_Within_w N _ _ _ c_0 _ h_32) rfl rfl ?_
      refine ck0 ?_
      simp only [e_2, e_14, e_26, e_28, e_30, go_sem, seval]
      by_cases h_33 : y_31 = true
      ·
       rw [if_pos h_33] at h
       have e_34 : y_31 = true := h_33
       obtain ⟨y_35, h_36, h⟩ := bindS h
       simp only [e_2, e_14, e_26, e_28, e_30, e_34, go_sem, seval]
       refine ACalls.useA (octet_many_int_w N _ _ _ _ c_0 _ h_36) [0, 1, 2] (v' := .vec false (List.map eI64 y_35)) (H' := [.box [.vec c_0 (List.map eU8 l_0)] 22, .box [.int .i64 a_1] 3, .box [.int .i64 a_3] 3]) (hH := by simp only [go_sem, seval, e_2, e_14, e_26, e_28, e_30, e_34]) (ho := ⟨(by first | rfl | simp only [go_sem, seval, e_2, e_14, e_26, e_28, e_30, e_34]), (by first | rfl | simp only [go_sem, seval, e_2, e_14, e_26, e_28, e_30, e_34]), (by first | rfl | simp only [go_sem, seval, e_2, e_14, e_26, e_28, e_30, e_34]), trivial⟩) ?_
       refine ck0 ?_
       simp only [e_2, e_14, e_26, e_28, e_30, e_34, go_sem, seval]
       obtain ⟨k_1, g_1⟩ := Prod.mk.inj (Option.some.inj h)
       subst k_1
       subst g_1
       rw [← hQ]
       exact ⟨rfl, _, rfl, _, _, (RefV.out rfl), rfl, rfl⟩
      ·
       rw [if_neg h_33] at h
       have e_34 : y_31 = false := bfalse h_33
       simp only [e_2, e_14, e_26, e_28, e_30, e_34, go_sem, seval]
       obtain ⟨k_1, g_1⟩ := Prod.mk.inj (Option.some.inj h)
       subst k_1
       subst g_1
       rw [← hQ]
       exact ⟨rfl, _, rfl, _, _, outVB, rfl, rfl⟩
   ·
    rw [if_neg h_25] at h
    have e_26 := eq_false h_25
    simp only [e_2, e_14, e_26, go_sem, seval]
    obtain ⟨k_1, g_1⟩ := Prod.mk.inj (Option.some.inj h)
    subst k_1
    subst g_1
    rw [← hQ]
    exact ⟨rfl, _, rfl, _, _, outVB, rfl, rfl⟩
theorem context_reader_row_w (N : Nat) (l_0 : List Int) (a_1 : Int) (a_2 : Int) (c_0 : Bool) (o : ((List Int)) ⊕ Unit) (h : context_reader_row N l_0 a_1 a_2 = some o) :
  ACalls Try.prog 108 [.ptr 0 0 0, .int .i64 a_2] [.box [.vec c_0 (List.map eU8 l_0), .int .i64 a_1] 152] (fun e H => match o with | .inl z_1 => H = [.box [.vec c_0 (List.map eU8 l_0), .int .i64 (IntKind.i64.wrap (a_1 + (IntKind.i64.wrap (a_2 * 2))))] 152] ∧ e = .ret (.vec false (List.map eI64 z_1)) | .inr _ => H = [.dead] ∧ e = .pan (.iface 148 (.agg []))) := by
 unfold context_reader_row at h
 refine ACalls.goN Try.func108 n108 a108 Try.ntmps108 r108 (by simp) 1 rfl ?_
 generalize hQ : bodyA _ _ _ = QQ
 obtain ⟨⟨y_1, y_2⟩, h_3, h⟩ := bindS h
 try dsimp only at h
 simp only [A108, go_sem, seval]
 refine ACalls.use0 (octet_Row_w N _ _ _ _ c_0 _ _ h_3) rfl rfl ?_
 obtain ⟨o_5, h_4, h⟩ := bindS h
 simp only [go_sem, seval]
 rcases o_5 with _ | _
 ·
  try dsimp only at h
  refine ACalls.use0 (context_must_w N _ _ h_4) rfl rfl ?_
  refine CallK_go (by simp) ?_
  simp only [go_sem, seval]
  have g_0 := Option.some.inj h
  subst g_0
  rw [← hQ]
  exact ⟨rfl, _, rfl, _, _, (RefV.std [0] (by decide) (by decide) rfl (by first | rfl | simp only [go_sem, seval])), rfl, rfl⟩
 ·
  try dsimp only at h
  refine ACalls.panA (context_must_w N _ _ h_4) [] (v' := .iface 148 (.agg [])) (H' := [.box [.vec c_0 (List.map eU8 l_0), .int .i64 a_1] 152]) ?_
  try simp only [CallK_pan, dCallK_pan, panK_ap]
  have g_0 := Option.some.inj h
  subst g_0
  rw [← hQ]
  exact ⟨rfl, _, _, RefV.dead rfl, rfl, rfl⟩
theorem cover_format_w (N : Nat) (l_0 : List Int) (a_1 : Int) (c_0 : Bool) (z_1 : Int) (h : cover_format N l_0 a_1 = some z_1) :
  ACalls Try.prog 122 [.vec c_0 (List.map eU8 l_0), .int .i64 a_1] [] (fun e H => H = [] ∧ e = .ret (.int .i64 z_1)) := by
 unfold cover_format at h
 refine ACalls.goN Try.func122 n122 a122 Try.ntmps122 r122 (by simp) 0 rfl ?_
 generalize hQ : bodyA _ _ _ = QQ
 obtain ⟨⟨y_1, y_2⟩, h_3, h⟩ := bindS h
 try dsimp only at h
 simp only [A122, go_sem, seval]
 refine ACalls.use0 (octet_U16_w N _ _ c_0 _ _ h_3) rfl rfl ?_
 refine ck0 ?_
 simp only [go_sem, seval]
 by_cases h_4 : y_2 = true
 ·
  rw [if_pos h_4] at h
  have e_5 : y_2 = true := h_4
  simp only [e_5, go_sem, seval]
  have g_0 := Option.some.inj h
  subst g_0
  rw [← hQ]
  exact ⟨rfl, _, rfl, _, _, (RefV.out rfl), rfl, rfl⟩
 ·
  rw [if_neg h_4] at h
  have e_5 : y_2 = false := bfalse h_4
  simp only [e_5, go_sem, seval]
  have g_0 := Option.some.inj h
  subst g_0
  rw [← hQ]
  exact ⟨rfl, _, rfl, _, _, (RefV.out rfl), rfl, rfl⟩
theorem cover_joined_row_w (N : Nat) (l_0 : List TSpan) (a_1 : Int) (a_2 : Int) (z_1 : List TSpan) (h : cover_joined_row N l_0 a_1 a_2 = some z_1) :
  ACalls Try.prog 130 [.row 0 0 l_0.length, .agg [.int .i64 a_1, .int .i64 a_2]] [.mem 2 (List.map eTSpan l_0) 87] (fun e H => H = [.dead, .mem 2 (List.map eTSpan z_1) 87] ∧ e = .ret (.row 1 0 z_1.length)) := by
 unfold cover_joined_row at h
 refine ACalls.goN Try.func130 n130 a130 Try.ntmps130 r130 (by simp) 1 rfl ?_
 generalize hQ : bodyA _ _ _ = QQ
 simp only [A130, go_sem, seval]
 by_cases h_1 : 0 < (l_0.length : Int)
 ·
  rw [if_pos h_1] at h
  have e_2 := eq_true h_1
  obtain ⟨x_3, h_4, h⟩ := bindS h
  have e_5 : (List.map eTSpan l_0)[(IntKind.i64.wrap ((l_0.length : Int) - 1)).toNat]? = some [.int .i64 x_3.From, .int .i64 x_3.To] := atI_map eTSpan h_4
  have e_6 := eq_true (atI_some h_4).1
  have e_7 := eq_true (atI_lt h_4)
  simp only [e_2, e_5, e_6, e_7, go_sem, seval]
  by_cases h_8 : IntKind.i64.wrap (x_3.To + 1) = a_1
  ·
   rw [if_pos h_8] at h
   have e_9 := eq_true h_8
   have e_10 : (List.map eTSpan l_0).set (IntKind.i64.wrap ((l_0.length : Int) - 1)).toNat [.int .i64 x_3.From, .int .i64 a_2] = List.map eTSpan (List.set l_0 (IntKind.i64.wrap ((l_0.length : Int) - 1)).toNat (TSpan.mk x_3.From a_2)) := set_map l_0 eTSpan (IntKind.i64.wrap ((l_0.length : Int) - 1)).toNat (TSpan.mk x_3.From a_2)
   simp only [e_2, e_5, e_6, e_7, e_9, e_10, go_sem, seval]
   have g_0 := Option.some.inj h
   subst g_0
   rw [← hQ]
   exact ⟨rfl, _, rfl, _, _, (RefV.trans (RefV.move (by simp) (id := 0) rfl rfl) (RefV.std [0, 2] (by decide) (by decide) (by first | rfl | simp only [go_sem, seval, e_2, e_9]) (by first | rfl | simp only [go_sem, seval, e_2, e_9]))), rfl, rfl⟩
  ·
   rw [if_neg h_8] at h
   have e_9 := eq_false h_8
   have e_11 : List.take l_0.length (List.map eTSpan l_0) = (List.map eTSpan l_0) := List.take_of_length_le (by simp)
   have e_12 : (List.map eTSpan l_0) ++ [[.int .i64 a_1, .int .i64 a_2]] = (List.map eTSpan (l_0 ++ [TSpan.mk a_1 a_2])) := app_map l_0 ([TSpan.mk a_1 a_2]) eTSpan
   obtain ⟨h_13, h⟩ := guardS h
   have e_14 := eq_true h_13
   simp only [e_2, e_5, e_6, e_7, e_9, e_11, e_12, e_14, go_sem, seval]
   have g_0 := Option.some.inj h
   subst g_0
   rw [← hQ]
   exact ⟨rfl, _, rfl, _, _, (RefV.std [0, 2] (by decide) (by decide) (by first | rfl | simp only [go_sem, seval]) (by first | rfl | simp only [go_sem, seval, e_2, e_9])), rfl, rfl⟩
 ·
  rw [if_neg h_1] at h
  have e_2 := eq_false h_1
  have e_15 : List.take l_0.length (List.map eTSpan l_0) = (List.map eTSpan l_0) := List.take_of_length_le (by simp)
  have e_16 : (List.map eTSpan l_0) ++ [[.int .i64 a_1, .int .i64 a_2]] = (List.map eTSpan (l_0 ++ [TSpan.mk a_1 a_2])) := app_map l_0 ([TSpan.mk a_1 a_2]) eTSpan
  obtain ⟨h_17, h⟩ := guardS h
  have e_18 := eq_true h_17
  simp only [e_2, e_15, e_16, e_18, go_sem, seval]
  have g_0 := Option.some.inj h
  subst g_0
  rw [← hQ]
  exact ⟨rfl, _, rfl, _, _, (RefV.std [0, 2] (by decide) (by decide) (by first | rfl | simp only [go_sem, seval]) (by first | rfl | simp only [go_sem, seval, e_2])), rfl, rfl⟩
theorem cover_glyphs_L1_w (N : Nat) (y_4 : List Int) {R : AExit → ATm → List AObj → Prop} : ∀ (n : Nat) (i_11 : Int) (i_12 : Int) (s_13 : List TSpan) (o : ((List TSpan)) ⊕ (Unit)), cover_glyphs_L1 N y_4 n i_11 i_12 s_13 = some o → (match o with | .inl z_1 => R (.exit 0) ⟨52, [(10, .row 0 0 z_1.length)], []⟩ [.mem 2 (List.map eTSpan z_1) 87] | .inr (_) => R .ret ⟨52, [(4, nn), (5, .bool false)], []⟩ []) →
  ALp Try.prog 0 B123_1 ⟨52, [(10, .row 0 0 s_13.length), (11, .int .i64 i_11), (35, .vec false (List.map eI64 y_4)), (36, .int .i64 (y_4.length : Int)), (37, .int .i64 i_12)], []⟩ [.mem 2 (List.map eTSpan s_13) 87] R := by
 intro n
 induction n with
 | zero =>
  intro i_11 i_12 s_13 o h _
  have h0 : none = some o := h
  cases h0
 | succ n ih =>
  intro i_11 i_12 s_13 o h hp
  rw [cover_glyphs_L1] at h
  refine ALp.round ?_
  generalize hQ : RoundQ _ _ _ _ = QQ
  simp only [B123_1, A123, go_sem, seval]
  by_cases h_14 : i_12 < (y_4.length : Int)
  ·
   rw [if_pos h_14] at h
   have e_15 := eq_true h_14
   obtain ⟨x_16, h_17, h⟩ := bindS h
   have e_18 : (List.map eI64 y_4)[(i_12).toNat]? = some [.int .i64 x_16] := atI_map eI64 h_17
   have e_19 := eq_true (atI_some h_17).1
   have e_20 := eq_true (atI_lt h_17)
   simp only [e_15, e_18, e_19, e_20, go_sem, seval]
   by_cases h_21 : x_16 ≤ i_11
   ·
    rw [if_pos h_21] at h
    have e_22 := eq_true h_21
    simp only [e_15, e_18, e_19, e_20, e_22, go_sem, seval]
    have g := Option.some.inj h
    subst g
    rw [← hQ]
    exact ⟨_, _, (Ref.out [4, 5] rfl), hp⟩
   ·
    rw [if_neg h_21] at h
    have e_22 := eq_false h_21
    obtain ⟨y_23, h_24, h⟩ := bindS h
    simp only [e_15, e_18, e_19, e_20, e_22, go_sem, seval]
    refine ACalls.useA (cover_joined_row_w N _ _ _ _ h_24) [0] (v' := .row 1 0 y_23.length) (H' := [.dead, .mem 2 (List.map eTSpan y_23) 87]) (hH := by simp only [go_sem, seval, e_15, e_22]) (ho := ⟨(by first | rfl | simp only [go_sem, seval, e_15, e_22]), trivial⟩) ?_
    refine ck0 ?_
    simp only [e_15, e_18, e_19, e_20, e_22, go_sem, seval]
    rw [← hQ]
    exact ⟨_, _, (Ref.std [10, 11, 35, 36, 37] [1] (by decide) low0 rfl (by first | rfl | simp only [go_sem, seval])), (Nat.zero_le _), ih _ _ _ _ h hp⟩
  ·
   rw [if_neg h_14] at h
   have e_15 := eq_false h_14
   simp only [e_15, go_sem, seval]
   have g := Option.some.inj h
   subst g
   rw [← hQ]
   exact ⟨_, _, (Ref.std [10] [0] (by decide) low0 rfl (by first | rfl | simp only [go_sem, seval])), hp⟩
theorem cover_glyphs_w (N : Nat) (l_0 : List Int) (a_1 : Int) (c_0 : Bool) (z_1 : List TSpan) (z_2 : Bool) (h : cover_glyphs N l_0 a_1 = some (z_1, z_2)) :
  ACalls Try.prog 123 [.vec c_0 (List.map eU8 l_0), .int .i64 a_1] [] (fun e H => H = [] ∧ e = .ret (.tup [.vec false (List.map eTSpan z_1), .bool z_2])) := by
 unfold cover_glyphs at h
 refine ACalls.goN Try.func123 n123 a123 Try.ntmps123 r123 (by simp) 0 rfl ?_
 generalize hQ : bodyA _ _ _ = QQ
 obtain ⟨⟨y_1, y_2⟩, h_3, h⟩ := bindS h
 try dsimp only at h
 simp only [A123, go_sem, seval]
 refine ACalls.use0 (octet_U16_w N _ _ c_0 _ _ h_3) rfl rfl ?_
 refine ck0 ?_
 obtain ⟨⟨y_4, y_5⟩, h_6, h⟩ := bindS h
 try dsimp only at h
 simp only [go_sem, seval]
 refine ACalls.use0 (octet_Row_w N _ _ _ _ c_0 _ _ h_6) rfl rfl ?_
 refine ck0 ?_
 simp only [go_sem, seval]
 by_cases h_7 : y_2 = true
 ·
  rw [if_pos h_7] at h
  have e_8 : y_2 = true := h_7
  simp only [e_8, go_sem, seval]
  by_cases h_9 : y_5 = true
  ·
   rw [if_pos h_9] at h
   have e_10 : y_5 = true := h_9
   simp only [e_8, e_10, go_sem, seval]
   obtain ⟨o_1013, h_1011, h⟩ := bindS h
   refine ALp.ref (Ref.trans (Ref.thaw (Nat.zero_le _) 10 rfl (sz := 2) (by decide) 87) (Ref.std [10, 11, 35, 36, 37] [0] (by decide) low0 rfl (by first | rfl | simp only [go_sem, seval]))) (Nat.zero_le _) (cover_glyphs_L1_w N _ N _ _ _ o_1013 h_1011 ?_)
   rcases o_1013 with y_1012 | _
   ·
    try dsimp only at h
    refine LoopK_go rfl (Nat.zero_le _) ?_
    simp only [e_8, e_10, go_sem, seval]
    obtain ⟨k_1, g_1⟩ := Prod.mk.inj (Option.some.inj h)
    subst k_1
    subst g_1
    rw [← hQ]
    exact ⟨rfl, _, rfl, _, _, (RefV.trans (RefV.frz (Nat.zero_le _) (id := 0) rfl (pures_map y_1012 eTSpan (fun _ => rfl))) (RefV.out (by first | rfl | simp only [go_sem, seval, e_8, e_10]))), rfl, rfl⟩
   ·
    try dsimp only at h
    refine LoopK_ret ?_
    obtain ⟨k_1, g_1⟩ := Prod.mk.inj (Option.some.inj h)
    subst k_1
    subst g_1
    rw [← hQ]
    exact ⟨rfl, _, rfl, _, _, outVB, rfl, rfl⟩
  ·
   rw [if_neg h_9] at h
   have e_10 : y_5 = false := bfalse h_9
   simp only [e_8, e_10, go_sem, seval]
   obtain ⟨k_1, g_1⟩ := Prod.mk.inj (Option.some.inj h)
   subst k_1
   subst g_1
   rw [← hQ]
   exact ⟨rfl, _, rfl, _, _, outVB, rfl, rfl⟩
 ·
  rw [if_neg h_7] at h
  have e_8 : y_2 = false := bfalse h_7
  simp only [e_8, go_sem, seval]
  obtain ⟨k_1, g_1⟩ := Prod.mk.inj (Option.some.inj h)
  subst k_1
  subst g_1
  rw [← hQ]
  exact ⟨rfl, _, rfl, _, _, outVB, rfl, rfl⟩
theorem cover_triples_L1_w (N : Nat) (y_4 : List Int) {R : AExit → ATm → List AObj → Prop} : ∀ (n : Nat) (i_11 : Int) (i_12 : Int) (s_13 : List TArr3_I64) (o : ((List TArr3_I64)) ⊕ (Unit)), cover_triples_L1 N y_4 n i_11 i_12 s_13 = some o → (match o with | .inl z_1 => R (.exit 0) ⟨75, [(10, .row 0 0 z_1.length)], []⟩ [.mem 3 (List.map eTArr3_I64 z_1) 173] | .inr (_) => R .ret ⟨75, [(4, nn), (5, .bool false)], []⟩ []) →
  ALp Try.prog 0 B128_1 ⟨75, [(8, .vec false (List.map eI64 y_4)), (10, .row 0 0 s_13.length), (11, .int .i64 i_11), (12, .int .i64 i_12)], []⟩ [.mem 3 (List.map eTArr3_I64 s_13) 173] R := by
 intro n
 induction n with
 | zero =>
  intro i_11 i_12 s_13 o h _
  have h0 : none = some o := h
  cases h0
 | succ n ih =>
  intro i_11 i_12 s_13 o h hp
  rw [cover_triples_L1] at h
  refine ALp.round ?_
  generalize hQ : RoundQ _ _ _ _ = QQ
  simp only [B128_1, A128, go_sem, seval]
  by_cases h_14 : i_12 < (y_4.length : Int)
  ·
   rw [if_pos h_14] at h
   have e_15 := eq_true h_14
   obtain ⟨x_16, h_17, h⟩ := bindS h
   have e_18 : (List.map eI64 y_4)[(i_12).toNat]? = some [.int .i64 x_16] := atI_map eI64 h_17
   have e_19 := eq_true (atI_some h_17).1
   have e_20 := eq_true (atI_lt h_17)
   obtain ⟨x_21, h_22, h⟩ := bindS h
   have e_23 : (List.map eI64 y_4)[(IntKind.i64.wrap (i_12 + 1)).toNat]? = some [.int .i64 x_21] := atI_map eI64 h_22
   have e_24 := eq_true (atI_some h_22).1
   have e_25 := eq_true (atI_lt h_22)
   obtain ⟨x_26, h_27, h⟩ := bindS h
   have e_28 : (List.map eI64 y_4)[(IntKind.i64.wrap (i_12 + 2)).toNat]? = some [.int .i64 x_26] := atI_map eI64 h_27
   have e_29 := eq_true (atI_some h_27).1
   have e_30 := eq_true (atI_lt h_27)
   simp only [e_15, e_18, e_19, e_20, e_23, e_24, e_25, e_28, e_29, e_30, go_sem, seval]
   by_cases h_31 : x_16 ≤ i_11
   ·
    rw [if_pos h_31] at h
    have e_32 := eq_true h_31
    simp only [e_15, e_18, e_19, e_20, e_23, e_24, e_25, e_28, e_29, e_30, e_32, go_sem, seval]
    have g := Option.some.inj h
    subst g
    rw [← hQ]
    exact ⟨_, _, (Ref.out [4, 5] rfl), hp⟩
   ·
    rw [if_neg h_31] at h
    have e_32 := eq_false h_31
    simp only [e_15, e_18, e_19, e_20, e_23, e_24, e_25, e_28, e_29, e_30, e_32, go_sem, seval]
    by_cases h_33 : x_21 < x_16
    ·
     rw [if_pos h_33] at h
     have e_34 := eq_true h_33
     simp only [e_15, e_18, e_19, e_20, e_23, e_24, e_25, e_28, e_29, e_30, e_32, e_34, go_sem, seval]
     have g := Option.some.inj h
     subst g
     rw [← hQ]
     exact ⟨_, _, (Ref.out [4, 5] rfl), hp⟩
    ·
     rw [if_neg h_33] at h
     have e_34 := eq_false h_33
     have e_35 : List.take s_13.length (List.map eTArr3_I64 s_13) = (List.map eTArr3_I64 s_13) := List.take_of_length_le (by simp)
     have e_36 : (List.map eTArr3_I64 s_13) ++ [[.int .i64 x_16, .int .i64 x_21, .int .i64 x_26]] = (List.map eTArr3_I64 (s_13 ++ [TArr3_I64.mk x_16 x_21 x_26])) := app_map s_13 ([TArr3_I64.mk x_16 x_21 x_26]) eTArr3_I64
     obtain ⟨h_37, h⟩ := guardS h
     have e_38 := eq_true h_37
     simp only [e_15, e_18, e_19, e_20, e_23, e_24, e_25, e_28, e_29, e_30, e_32, e_34, e_35, e_36, e_38, go_sem, seval]
     rw [← hQ]
     exact ⟨_, _, (Ref.std [8, 10, 11, 12] [2] (by decide) low0 (by first | rfl | simp only [go_sem, seval]) (by first | rfl | simp only [go_sem, seval])), (Nat.zero_le _), ih _ _ _ _ h hp⟩
  ·
   rw [if_neg h_14] at h
   have e_15 := eq_false h_14
   simp only [e_15, go_sem, seval]
   have g := Option.some.inj h
   subst g
   rw [← hQ]
   exact ⟨_, _, (Ref.std [10] [0] (by decide) low0 rfl (by first | rfl | simp only [go_sem, seval])), hp⟩
theorem cover_triples_w (N : Nat) (l_0 : List Int) (a_1 : Int) (c_0 : Bool) (z_1 : List TArr3_I64) (z_2 : Bool) (h : cover_triples N l_0 a_1 = some (z_1, z_2)) :
  ACalls Try.prog 128 [.vec c_0 (List.map eU8 l_0), .int .i64 a_1] [] (fun e H => H = [] ∧ e = .ret (.tup [.vec false (List.map eTArr3_I64 z_1), .bool z_2])) := by
 unfold cover_triples at h
 refine ACalls.goN Try.func128 n128 a128 Try.ntmps128 r128 (by simp) 0 rfl ?_
 generalize hQ : bodyA _ _ _ = QQ
 obtain ⟨⟨y_1, y_2⟩, h_3, h⟩ := bindS h
 try dsimp only at h
 simp only [A128, go_sem, seval]
 refine ACalls.use0 (octet_U16_w N _ _ c_0 _ _ h_3) rfl rfl ?_
 refine ck0 ?_
 obtain ⟨⟨y_4, y_5⟩, h_6, h⟩ := bindS h
 try dsimp only at h
 simp only [go_sem, seval]
 refine ACalls.use0 (octet_Row_w N _ _ _ _ c_0 _ _ h_6) rfl rfl ?_
 refine ck0 ?_
 simp only [go_sem, seval]
 by_cases h_7 : y_2 = true
 ·
  rw [if_pos h_7] at h
  have e_8 : y_2 = true := h_7
  simp only [e_8, go_sem, seval]
  by_cases h_9 : y_5 = true
  ·
   rw [if_pos h_9] at h
   have e_10 : y_5 = true := h_9
   simp only [e_8, e_10, go_sem, seval]
   obtain ⟨o_1013, h_1011, h⟩ := bindS h
   refine ALp.ref (Ref.trans (Ref.thaw (Nat.zero_le _) 10 rfl (sz := 3) (by decide) 173) (Ref.std [8, 10, 11, 12] [0] (by decide) low0 rfl (by first | rfl | simp only [go_sem, seval]))) (Nat.zero_le _) (cover_triples_L1_w N _ N _ _ _ o_1013 h_1011 ?_)
   rcases o_1013 with y_1012 | _
   ·
    try dsimp only at h
    refine LoopK_go rfl (Nat.zero_le _) ?_
    simp only [e_8, e_10, go_sem, seval]
    obtain ⟨k_1, g_1⟩ := Prod.mk.inj (Option.some.inj h)
    subst k_1
    subst g_1
    rw [← hQ]
    exact ⟨rfl, _, rfl, _, _, (RefV.trans (RefV.frz (Nat.zero_le _) (id := 0) rfl (pures_map y_1012 eTArr3_I64 (fun _ => rfl))) (RefV.out (by first | rfl | simp only [go_sem, seval, e_8, e_10]))), rfl, rfl⟩
   ·
    try dsimp only at h
    refine LoopK_ret ?_
    obtain ⟨k_1, g_1⟩ := Prod.mk.inj (Option.some.inj h)
    subst k_1
    subst g_1
    rw [← hQ]
    exact ⟨rfl, _, rfl, _, _, outVB, rfl, rfl⟩
  ·
   rw [if_neg h_9] at h
   have e_10 : y_5 = false := bfalse h_9
   simp only [e_8, e_10, go_sem, seval]
   obtain ⟨k_1, g_1⟩ := Prod.mk.inj (Option.some.inj h)
   subst k_1
   subst g_1
   rw [← hQ]
   exact ⟨rfl, _, rfl, _, _, outVB, rfl, rfl⟩
 ·
  rw [if_neg h_7] at h
  have e_8 : y_2 = false := bfalse h_7
  simp only [e_8, go_sem, seval]
  obtain ⟨k_1, g_1⟩ := Prod.mk.inj (Option.some.inj h)
  subst k_1
  subst g_1
  rw [← hQ]
  exact ⟨rfl, _, rfl, _, _, outVB, rfl, rfl⟩
theorem cover_ranges_L1_w (N : Nat) (y_1 : List TArr3_I64) {R : AExit → ATm → List AObj → Prop} : ∀ (n : Nat) (i_6 : Int) (i_7 : Int) (s_8 : List TSpan) (o : ((List TSpan)) ⊕ (Unit)), cover_ranges_L1 N y_1 n i_6 i_7 s_8 = some o → (match o with | .inl z_1 => R (.exit 0) ⟨47, [(8, .row 0 0 z_1.length)], []⟩ [.mem 2 (List.map eTSpan z_1) 87] | .inr (_) => R .ret ⟨47, [(4, nn), (5, .bool false)], []⟩ []) →
  ALp Try.prog 0 B124_1 ⟨47, [(8, .row 0 0 s_8.length), (9, .int .i64 i_6), (20, .vec false (List.map eTArr3_I64 y_1)), (21, .int .i64 (y_1.length : Int)), (22, .int .i64 i_7)], []⟩ [.mem 2 (List.map eTSpan s_8) 87] R := by
 intro n
 induction n with
 | zero =>
  intro i_6 i_7 s_8 o h _
  have h0 : none = some o := h
  cases h0
 | succ n ih =>
  intro i_6 i_7 s_8 o h hp
  rw [cover_ranges_L1] at h
  refine ALp.round ?_
  generalize hQ : RoundQ _ _ _ _ = QQ
  simp only [B124_1, A124, go_sem, seval]
  by_cases h_9 : i_7 < (y_1.length : Int)
  ·
   rw [if_pos h_9] at h
   have e_10 := eq_true h_9
   obtain ⟨x_11, h_12, h⟩ := bindS h
   have e_13 : (List.map eTArr3_I64 y_1)[(i_7).toNat]? = some [.int .i64 x_11.e0, .int .i64 x_11.e1, .int .i64 x_11.e2] := atI_map eTArr3_I64 h_12
   have e_14 := eq_true (atI_some h_12).1
   have e_15 := eq_true (atI_lt h_12)
   simp only [e_10, e_13, e_14, e_15, go_sem, seval]
   by_cases h_16 : x_11.e2 = i_6
   ·
    rw [if_pos h_16] at h
    have e_17 := eq_true h_16
    obtain ⟨y_18, h_19, h⟩ := bindS h
    simp only [e_10, e_13, e_14, e_15, e_17, go_sem, seval]
    refine ACalls.useA (cover_joined_row_w N _ _ _ _ h_19) [0] (v' := .row 2 0 y_18.length) (H' := [.dead, .box [.int .i64 x_11.e0, .int .i64 x_11.e1, .int .i64 x_11.e2] 173, .mem 2 (List.map eTSpan y_18) 87]) (hH := by simp only [go_sem, seval, e_10, e_17]) (ho := ⟨(by first | rfl | simp only [go_sem, seval, e_10, e_17]), trivial⟩) ?_
    refine ck0 ?_
    simp only [e_10, e_13, e_14, e_15, e_17, go_sem, seval]
    rw [← hQ]
    exact ⟨_, _, (Ref.std [8, 9, 20, 21, 22] [2] (by decide) low0 rfl (by first | rfl | simp only [go_sem, seval])), (Nat.zero_le _), ih _ _ _ _ h hp⟩
   ·
    rw [if_neg h_16] at h
    have e_17 := eq_false h_16
    simp only [e_10, e_13, e_14, e_15, e_17, go_sem, seval]
    have g := Option.some.inj h
    subst g
    rw [← hQ]
    exact ⟨_, _, (Ref.out [4, 5] rfl), hp⟩
  ·
   rw [if_neg h_9] at h
   have e_10 := eq_false h_9
   simp only [e_10, go_sem, seval]
   have g := Option.some.inj h
   subst g
   rw [← hQ]
   exact ⟨_, _, (Ref.std [8] [0] (by decide) low0 rfl (by first | rfl | simp only [go_sem, seval])), hp⟩
theorem cover_ranges_w (N : Nat) (l_0 : List Int) (a_1 : Int) (c_0 : Bool) (z_1 : List TSpan) (z_2 : Bool) (h : cover_ranges N l_0 a_1 = some (z_1, z_2)) :
  ACalls Try.prog 124 [.vec c_0 (List.map eU8 l_0), .int .i64 a_1] [] (fun e H => H = [] ∧ e = .ret (.tup [.vec false (List.map eTSpan z_1), .bool z_2])) := by
 unfold cover_ranges at h
 refine ACalls.goN Try.func124 n124 a124 Try.ntmps124 r124 (by simp) 0 rfl ?_
 generalize hQ : bodyA _ _ _ = QQ
 obtain ⟨⟨y_1, y_2⟩, h_3, h⟩ := bindS h
 try dsimp only at h
 simp only [A124, go_sem, seval]
 refine ACalls.use0 (cover_triples_w N _ _ c_0 _ _ h_3) rfl rfl ?_
 refine ck0 ?_
 simp only [go_sem, seval]
 by_cases h_4 : y_2 = true
 ·
  rw [if_pos h_4] at h
  have e_5 : y_2 = true := h_4
  simp only [e_5, go_sem, seval]
  obtain ⟨o_1008, h_1006, h⟩ := bindS h
  refine ALp.ref (Ref.trans (Ref.thaw (Nat.zero_le _) 8 rfl (sz := 2) (by decide) 87) (Ref.std [8, 9, 20, 21, 22] [0] (by decide) low0 rfl (by first | rfl | simp only [go_sem, seval]))) (Nat.zero_le _) (cover_ranges_L1_w N _ N _ _ _ o_1008 h_1006 ?_)
  rcases o_1008 with y_1007 | _
  ·
   try dsimp only at h
   refine LoopK_go rfl (Nat.zero_le _) ?_
   simp only [e_5, go_sem, seval]
   obtain ⟨k_1, g_1⟩ := Prod.mk.inj (Option.some.inj h)
   subst k_1
   subst g_1
   rw [← hQ]
   exact ⟨rfl, _, rfl, _, _, (RefV.trans (RefV.frz (Nat.zero_le _) (id := 0) rfl (pures_map y_1007 eTSpan (fun _ => rfl))) (RefV.out (by first | rfl | simp only [go_sem, seval, e_5]))), rfl, rfl⟩
  ·
   try dsimp only at h
   refine LoopK_ret ?_
   obtain ⟨k_1, g_1⟩ := Prod.mk.inj (Option.some.inj h)
   subst k_1
   subst g_1
   rw [← hQ]
   exact ⟨rfl, _, rfl, _, _, outVB, rfl, rfl⟩
 ·
  rw [if_neg h_4] at h
  have e_5 : y_2 = false := bfalse h_4
  simp only [e_5, go_sem, seval]
  obtain ⟨k_1, g_1⟩ := Prod.mk.inj (Option.some.inj h)
  subst k_1
  subst g_1
  rw [← hQ]
  exact ⟨rfl, _, rfl, _, _, outVB, rfl, rfl⟩
theorem cover_Cover_w (N : Nat) (l_0 : List Int) (a_1 : Int) (c_0 : Bool) (z_1 : List TSpan) (z_2 : Bool) (h : cover_Cover N l_0 a_1 = some (z_1, z_2)) :
  ACalls Try.prog 100 [.vec c_0 (List.map eU8 l_0), .int .i64 a_1] [] (fun e H => H = [] ∧ e = .ret (.tup [.vec false (List.map eTSpan z_1), .bool z_2])) := by
 unfold cover_Cover at h
 refine ACalls.goN Try.func100 n100 a100 Try.ntmps100 r100 (by simp) 0 rfl ?_
 generalize hQ : bodyA _ _ _ = QQ
 obtain ⟨y_1, h_2, h⟩ := bindS h
 simp only [A100, go_sem, seval]
 refine ACalls.use0 (cover_format_w N _ _ c_0 _ h_2) rfl rfl ?_
 refine ck0 ?_
 simp only [go_sem, seval]
 by_cases h_3 : y_1 = 1
 ·
  rw [if_pos h_3] at h
  have e_4 := eq_true h_3
  obtain ⟨⟨y_5, y_6⟩, h_7, h⟩ := bindS h
  try dsimp only at h
  simp only [e_4, go_sem, seval]
  refine ACalls.use0 (cover_glyphs_w N _ _ c_0 _ _ h_7) rfl rfl ?_
  refine ck0 ?_
  simp only [e_4, go_sem, seval]
  obtain ⟨k_1, g_1⟩ := Prod.mk.inj (Option.some.inj h)
  subst k_1
  subst g_1
  rw [← hQ]
  exact ⟨rfl, _, rfl, _, _, (RefV.out (by first | rfl | simp only [go_sem, seval, e_4])), rfl, rfl⟩
 ·
  rw [if_neg h_3] at h
  have e_4 := eq_false h_3
  simp only [e_4, go_sem, seval]
  by_cases h_8 : y_1 = 2
  ·
   rw [if_pos h_8] at h
   have e_9 := eq_true h_8
   obtain ⟨⟨y_10, y_11⟩, h_12, h⟩ := bindS h
   try dsimp only at h
   simp only [e_4, e_9, go_sem, seval]
   refine ACalls.use0 (cover_ranges_w N _ _ c_0 _ _ h_12) rfl rfl ?_
   refine ck0 ?_
   simp only [e_4, e_9, go_sem, seval]
   obtain ⟨k_1, g_1⟩ := Prod.mk.inj (Option.some.inj h)
   subst k_1
   subst g_1
   rw [← hQ]
   exact ⟨rfl, _, rfl, _, _, (RefV.out (by first | rfl | simp only [go_sem, seval, e_4, e_9])), rfl, rfl⟩
  ·
   rw [if_neg h_8] at h
   have e_9 := eq_false h_8
   simp only [e_4, e_9, go_sem, seval]
   obtain ⟨k_1, g_1⟩ := Prod.mk.inj (Option.some.inj h)
   subst k_1
   subst g_1
   rw [← hQ]
   exact ⟨rfl, _, rfl, _, _, outVB, rfl, rfl⟩
theorem context_reader_covers_L1_w (N : Nat) (a_2 : Int) (l_3 : List Int) (l_0 : List Int) (a_1 : Int) (c_1 : Bool) (c_0 : Bool) {R : AExit → ATm → List AObj → Prop} : ∀ (n : Nat) (i_1 : Int) (s_2 : List TSet) (o : ((List TSet)) ⊕ (Unit)), context_reader_covers_L1 N a_2 l_3 l_0 a_1 n i_1 s_2 = some o → (match o with | .inl z_1 => R (.exit 0) ⟨38, [(7, .row 1 0 z_1.length)], []⟩ [.box [.vec c_0 (List.map eU8 l_0), .int .i64 a_1] 152, .mem 2 (List.map eTSet z_1) 85] | .inr (_) => ∀ (tb : ATm) (Hb : List AObj), tb.ds = [] → R (.pan (.iface 148 (.agg []))) tb Hb) →
  ALp Try.prog 1 B107_1 ⟨38, [(0, .ptr 0 0 0), (1, .int .i64 a_2), (7, .row 1 0 s_2.length), (12, .vec c_1 (List.map eI64 l_3)), (13, .int .i64 (l_3.length : Int)), (14, .int .i64 i_1)], []⟩ [.box [.vec c_0 (List.map eU8 l_0), .int .i64 a_1] 152, .mem 2 (List.map eTSet s_2) 85] R := by
 intro n
 induction n with
 | zero =>
  intro i_1 s_2 o h _
  have h0 : none = some o := h
  cases h0
 | succ n ih =>
  intro i_1 s_2 o h hp
  rw [context_reader_covers_L1] at h
  refine ALp.round ?_
  generalize hQ : RoundQ _ _ _ _ = QQ
  simp only [B107_1, A107, go_sem, seval]
  by_cases h_3 : i_1 < (l_3.length : Int)
  ·
   rw [if_pos h_3] at h
   have e_4 := eq_true h_3
   obtain ⟨x_5, h_6, h⟩ := bindS h
   have e_7 : (List.map eI64 l_3)[(i_1).toNat]? = some [.int .i64 x_5] := atI_map eI64 h_6
   have e_8 := eq_true (atI_some h_6).1
   have e_9 := eq_true (atI_lt h_6)
   obtain ⟨⟨y_10, y_11⟩, h_12, h⟩ := bindS h
   try dsimp only at h
   simp only [e_4, e_7, e_8, e_9, go_sem, seval]
   refine ACalls.use0 (cover_Cover_w N _ _ c_0 _ _ h_12) rfl rfl ?_
   refine CallK_go (by simp) ?_
   obtain ⟨o_14, h_13, h⟩ := bindS h
   simp only [e_4, e_7, e_8, e_9, go_sem, seval]
   rcases o_14 with _ | _
   ·
    try dsimp only at h
    refine ACalls.use0 (context_must_w N _ _ h_13) rfl rfl ?_
    refine CallK_go (by simp) ?_
    have e_16 : List.take s_2.length (List.map eTSet s_2) = (List.map eTSet s_2) := List.take_of_length_le (by simp)
    have e_17 : (List.map eTSet s_2) ++ [[.vec false (List.map eTSpan y_10), .bool false]] = (List.map eTSet (s_2 ++ [TSet.mk y_10 false])) := app_map s_2 ([TSet.mk y_10 false]) eTSet
    obtain ⟨h_18, h⟩ := guardS h
    have e_19 := eq_true h_18
    simp only [e_4, e_7, e_8, e_9, e_16, e_17, e_19, go_sem, seval]
    rw [← hQ]
    exact ⟨_, _, (Ref.std [0, 1, 7, 12, 13, 14] [0, 2] (by decide) (by decide) (by first | rfl | simp only [go_sem, seval]) (by first | rfl | simp only [go_sem, seval])), (by simp), ih _ _ _ h hp⟩
   ·
    try dsimp only at h
    refine ACalls.panA (context_must_w N _ _ h_13) [] (v' := .iface 148 (.agg [])) (H' := [.box [.vec c_0 (List.map eU8 l_0), .int .i64 a_1] 152, .mem 2 (List.map eTSet s_2) 85]) (hH := by simp only [go_sem, seval, e_4]) ?_
    try simp only [CallK_pan, dCallK_pan, panK_ap]
    have g := Option.some.inj h
    subst g
    rw [← hQ]
    exact hp _ _ rfl
  ·
   rw [if_neg h_3] at h
   have e_4 := eq_false h_3
   simp only [e_4, go_sem, seval]
   have g := Option.some.inj h
   subst g
   rw [← hQ]
   exact ⟨_, _, (Ref.std [7] [0, 1] (by decide) (by decide) rfl (by first | rfl | simp only [go_sem, seval])), hp⟩
theorem context_reader_covers_w (N : Nat) (l_0 : List Int) (a_1 : Int) (a_2 : Int) (l_3 : List Int) (c_0 : Bool) (c_1 : Bool) (o : ((List TSet)) ⊕ Unit) (h : context_reader_covers N l_0 a_1 a_2 l_3 = some o) :
  ACalls Try.prog 107 [.ptr 0 0 0, .int .i64 a_2, .vec c_1 (List.map eI64 l_3)] [.box [.vec c_0 (List.map eU8 l_0), .int .i64 a_1] 152] (fun e H => match o with | .inl z_1 => H = [.box [.vec c_0 (List.map eU8 l_0), .int .i64 a_1] 152] ∧ e = .ret (.vec false (List.map eTSet z_1)) | .inr _ => H = [.dead] ∧ e = .pan (.iface 148 (.agg []))) := by
 unfold context_reader_covers at h
 refine ACalls.goN Try.func107 n107 a107 Try.ntmps107 r107 (by simp) 1 rfl ?_
 generalize hQ : bodyA _ _ _ = QQ
 simp only [A107, go_sem, seval]
 obtain ⟨o_1003, h_1001, h⟩ := bindS h
 refine ALp.ref (Ref.trans (Ref.thaw (by simp) 7 rfl (sz := 2) (by decide) 85) (Ref.std [0, 1, 7, 12, 13, 14] [0, 1] (by decide) (by decide) rfl (by first | rfl | simp only [go_sem, seval]))) (by simp) (context_reader_covers_L1_w N _ _ _ _ c_1 c_0 N _ _ o_1003 h_1001 ?_)
 rcases o_1003 with y_1002 | _
 ·
  try dsimp only at h
  refine LoopK_go rfl (by simp) ?_
  simp only [go_sem, seval]
  have g_0 := Option.some.inj h
  subst g_0
  rw [← hQ]
  exact ⟨rfl, _, rfl, _, _, (RefV.trans (RefV.frz (by simp) (id := 1) rfl (pures_map y_1002 eTSet (fun _ => rfl))) (RefV.std [0] (by decide) (by decide) (by first | rfl | simp only [go_sem, seval]) (by first | rfl | simp only [go_sem, seval]))), rfl, rfl⟩
 ·
  try dsimp only at h
  intro _ _ h_1004
  refine LoopK_pan ?_
  have g_0 := Option.some.inj h
  subst g_0
  rw [← hQ]
  exact ⟨h_1004, _, _, RefV.dead rfl, rfl, rfl⟩
theorem cover_Count_L1_w (N : Nat) (l_0 : List TSpan) (c_0 : Bool) {R : AExit → ATm → List AObj → Prop} : ∀ (n : Nat) (i_1 : Int) (i_2 : Int) (o : Int), cover_Count_L1 N l_0 n i_1 i_2 = some o → (match o with | z_1 => R (.exit 0) ⟨22, [(3, .int .i64 z_1)], []⟩ []) →
  ALp Try.prog 0 B87_1 ⟨22, [(3, .int .i64 i_1), (6, .vec c_0 (List.map eTSpan l_0)), (7, .int .i64 (l_0.length : Int)), (8, .int .i64 i_2)], []⟩ [] R := by
 intro n
 induction n with
 | zero =>
  intro i_1 i_2 o h _
  have h0 : none = some o := h
  cases h0
 | succ n ih =>
  intro i_1 i_2 o h hp
  rw [cover_Count_L1] at h
  refine ALp.round ?_
  generalize hQ : RoundQ _ _ _ _ = QQ
  simp only [B87_1, A87, go_sem, seval]
  by_cases h_3 : i_2 < (l_0.length : Int)
  ·
   rw [if_pos h_3] at h
   have e_4 := eq_true h_3
   obtain ⟨x_5, h_6, h⟩ := bindS h
   have e_7 : (List.map eTSpan l_0)[(i_2).toNat]? = some [.int .i64 x_5.From, .int .i64 x_5.To] := atI_map eTSpan h_6
   have e_8 := eq_true (atI_some h_6).1
   have e_9 := eq_true (atI_lt h_6)
   simp only [e_4, e_7, e_8, e_9, go_sem, seval]
   rw [← hQ]
   exact ⟨_, _, (Ref.out [3, 6, 7, 8] rfl), (Nat.zero_le _), ih _ _ _ h hp⟩
  ·
   rw [if_neg h_3] at h
   have e_4 := eq_false h_3
   simp only [e_4, go_sem, seval]
   have g := Option.some.inj h
   subst g
   rw [← hQ]
   exact ⟨_, _, (Ref.out [3] rfl), hp⟩
theorem cover_Count_w (N : Nat) (l_0 : List TSpan) (c_0 : Bool) (z_1 : Int) (h : cover_Count N l_0 = some z_1) :
  ACalls Try.prog 87 [.vec c_0 (List.map eTSpan l_0)] [] (fun e H => H = [] ∧ e = .ret (.int .i64 z_1)) := by
 unfold cover_Count at h
 refine ACalls.goN Try.func87 n87 a87 Try.ntmps87 r87 (by simp) 0 rfl ?_
 generalize hQ : bodyA _ _ _ = QQ
 simp only [A87, go_sem, seval]
 obtain ⟨y_1002, h_1001, h⟩ := bindS h
 refine ALp.ref (Ref.out [3, 6, 7, 8] rfl) (Nat.zero_le _) (cover_Count_L1_w N _ c_0 N _ _ y_1002 h_1001 ?_)
 refine LoopK_go rfl (Nat.zero_le _) ?_
 simp only [go_sem, seval]
 have g_0 := Option.some.inj h
 subst g_0
 rw [← hQ]
 exact ⟨rfl, _, rfl, _, _, (RefV.out rfl), rfl, rfl⟩
theorem context_reader_single_L2_w (N : Nat) (a_2 : Int) (b_3 : Bool) (y_13 : Int) (x_9 : TSet) (i_22 : Int) (l_0 : List Int) (a_1 : Int) (x_26 : TSpan) (c_0 : Bool) {R : AExit → ATm → List AObj → Prop} : ∀ (n : Nat) (i_31 : Int) (s_32 : List Int) (o : (List Int)), context_reader_single_L2 N a_2 b_3 y_13 x_9 i_22 l_0 a_1 x_26 n i_31 s_32 = some o → (match o with | z_1 => R (.exit 2) ⟨62, [(0, .ptr 0 0 0), (1, .int .i64 a_2), (2, .bool b_3), (8, .int .i64 y_13), (9, .ptr 1 0 0), (28, .vec false (List.map eTSpan x_9.Spans)), (29, .int .i64 (x_9.Spans.length : Int)), (30, .int .i64 i_22)], []⟩ [.box [.vec c_0 (List.map eU8 l_0), .int .i64 (IntKind.i64.wrap ((IntKind.i64.wrap (a_1 + (IntKind.i64.wrap 2))) + 2))] 152, .box [.row 2 0 z_1.length] 48, .mem 1 (List.map eI64 z_1) 3]) →
  ALp Try.prog 1 B96_2 ⟨62, [(0, .ptr 0 0 0), (1, .int .i64 a_2), (2, .bool b_3), (8, .int .i64 y_13), (9, .ptr 1 0 0), (11, .ptr 3 0 0), (12, .int .i64 i_31), (28, .vec false (List.map eTSpan x_9.Spans)), (29, .int .i64 (x_9.Spans.length : Int)), (30, .int .i64 i_22)], []⟩ [.box [.vec c_0 (List.map eU8 l_0), .int .i64 (IntKind.i64.wrap ((IntKind.i64.wrap (a_1 + (IntKind.i64.wrap 2))) + 2))] 152, .box [.row 2 0 s_32.length] 48, .mem 1 (List.map eI64 s_32) 3, .box [.int .i64 x_26.From, .int .i64 x_26.To] 87] R := by
 intro n
 induction n with
 | zero =>
  intro i_31 s_32 o h _
  have h0 : none = some o := h
  cases h0
 | succ n ih =>
  intro i_31 s_32 o h hp
  rw [context_reader_single_L2] at h
  refine ALp.round ?_
  generalize hQ : RoundQ _ _ _ _ = QQ
  simp only [B96_2, B96_1, A96, go_sem, seval]
  by_cases h_33 : i_31 ≤ x_26.To
  ·
   rw [if_pos h_33] at h
   have e_34 := eq_true h_33
   simp only [e_34, go_sem, seval]
   by_cases h_35 : (s_32.length : Int) < y_13
   ·
    rw [if_pos h_35] at h
    have e_36 := eq_true h_35
    have e_37 : List.take s_32.length (List.map eI64 s_32) = (List.map eI64 s_32) := List.take_of_length_le (by simp)
    have e_38 : (List.map eI64 s_32) ++ [[.int .i64 i_31]] = (List.map eI64 (s_32 ++ [i_31])) := app_map s_32 ([i_31]) eI64
    obtain ⟨h_39, h⟩ := guardS h
    have e_40 := eq_true h_39
    simp only [e_34, e_36, e_37, e_38, e_40, go_sem, seval]
    rw [← hQ]
    exact ⟨_, _, (Ref.std [0, 1, 2, 8, 9, 11, 12, 28, 29, 30] [0, 1, 4, 3] (by decide) (by decide) (by first | rfl | simp only [go_sem, seval, e_34, e_36]) (by first | rfl | simp only [go_sem, seval])), (by simp), ih _ _ _ h hp⟩
   ·
    rw [if_neg h_35] at h
    have e_36 := eq_false h_35
    simp only [e_34, e_36, go_sem, seval]
    have g := Option.some.inj h
    subst g
    rw [← hQ]
    exact ⟨_, _, (Ref.std [0, 1, 2, 8, 9, 28, 29, 30] [0, 1, 2] (by decide) (by decide) (by first | rfl | simp only [go_sem, seval, e_34, e_36]) (by first | rfl | simp only [go_sem, seval])), hp⟩
  ·
   rw [if_neg h_33] at h
   have e_34 := eq_false h_33
   simp only [e_34, go_sem, seval]
   have g := Option.some.inj h
   subst g
   rw [← hQ]
   exact ⟨_, _, (Ref.std [0, 1, 2, 8, 9, 28, 29, 30] [0, 1, 2] (by decide) (by decide) (by first | rfl | simp only [go_sem, seval, e_34]) (by first | rfl | simp only [go_sem, seval])), hp⟩
theorem context_reader_single_L3_w (N : Nat) (a_2 : Int) (b_3 : Bool) (y_13 : Int) (x_9 : TSet) (l_0 : List Int) (a_1 : Int) (c_0 : Bool) {R : AExit → ATm → List AObj → Prop} : ∀ (n : Nat) (i_22 : Int) (s_23 : List Int) (o : (List Int)), context_reader_single_L3 N a_2 b_3 y_13 x_9 l_0 a_1 n i_22 s_23 = some o → (match o with | z_1 => R (.exit 0) ⟨62, [(0, .ptr 0 0 0), (1, .int .i64 a_2), (2, .bool b_3), (8, .int .i64 y_13), (9, .ptr 1 0 0)], []⟩ [.box [.vec c_0 (List.map eU8 l_0), .int .i64 (IntKind.i64.wrap ((IntKind.i64.wrap (a_1 + (IntKind.i64.wrap 2))) + 2))] 152, .box [.row 2 0 z_1.length] 48, .mem 1 (List.map eI64 z_1) 3]) →
  ALp Try.prog 1 B96_1 ⟨62, [(0, .ptr 0 0 0), (1, .int .i64 a_2), (2, .bool b_3), (8, .int .i64 y_13), (9, .ptr 1 0 0), (28, .vec false (List.map eTSpan x_9.Spans)), (29, .int .i64 (x_9.Spans.length : Int)), (30, .int .i64 i_22)], []⟩ [.box [.vec c_0 (List.map eU8 l_0), .int .i64 (IntKind.i64.wrap ((IntKind.i64.wrap (a_1 + (IntKind.i64.wrap 2))) + 2))] 152, .box [.row 2 0 s_23.length] 48, .mem 1 (List.map eI64 s_23) 3] R := by
 intro n
 induction n with
 | zero =>
  intro i_22 s_23 o h _
  have h0 : none = some o := h
  cases h0
 | succ n ih =>
  intro i_22 s_23 o h hp
  rw [context_reader_single_L3] at h
  refine ALp.round ?_
  generalize hQ : RoundQ _ _ _ _ = QQ
  simp only [B96_1, A96, go_sem, seval]
  by_cases h_24 : i_22 < (x_9.Spans.length : Int)
  ·
   rw [if_pos h_24] at h
   have e_25 := eq_true h_24
   obtain ⟨x_26, h_27, h⟩ := bindS h
   have e_28 : (List.map eTSpan x_9.Spans)[(i_22).toNat]? = some [.int .i64 x_26.From, .int .i64 x_26.To] := atI_map eTSpan h_27
   have e_29 := eq_true (atI_some h_27).1
   have e_30 := eq_true (atI_lt h_27)
   simp only [e_25, e_28, e_29, e_30, go_sem, seval]
   obtain ⟨y_1032, h_1031, h⟩ := bindS h
   refine ALp.ref (Ref.std [0, 1, 2, 8, 9, 11, 12, 28, 29, 30] [0, 1, 2, 3] (by decide) (by decide) (by first | rfl | simp only [go_sem, seval, e_25]) (by first | rfl | simp only [go_sem, seval])) (by simp) (context_reader_single_L2_w N _ _ _ _ _ _ _ _ c_0 N _ _ y_1032 h_1031 ?_)
   refine LoopK_go rfl (by simp) ?_
   simp only [e_25, e_28, e_29, e_30, go_sem, seval]
   rw [← hQ]
   exact ⟨_, _, (Ref.std [0, 1, 2, 8, 9, 28, 29, 30] [0, 1, 2] (by decide) (by decide) (by first | rfl | simp only [go_sem, seval, e_25]) (by first | rfl | simp only [go_sem, seval])), (by simp), ih _ _ _ h hp⟩
  ·
   rw [if_neg h_24] at h
   have e_25 := eq_false h_24
   simp only [e_25, go_sem, seval]
   have g := Option.some.inj h
   subst g
   rw [← hQ]
   exact ⟨_, _, (Ref.std [0, 1, 2, 8, 9] [0, 1, 2] (by decide) (by decide) (by first | rfl | simp only [go_sem, seval, e_25]) (by first | rfl | simp only [go_sem, seval])), hp⟩
theorem context_glyph_w (N : Nat) (a_0 : Int) (z_1 : List TSpan) (z_2 : Bool) (h : context_glyph N a_0 = some (z_1, z_2)) :
  ACalls Try.prog 111 [.int .i64 a_0] [] (fun e H => H = [] ∧ e = .ret (.agg [.vec false (List.map eTSpan z_1), .bool z_2])) := by
 unfold context_glyph at h
 refine ACalls.goN Try.func111 n111 a111 Try.ntmps111 r111 (by simp) 0 rfl ?_
 generalize hQ : bodyA _ _ _ = QQ
 simp only [A111, go_sem, seval]
 obtain ⟨k_1, g_1⟩ := Prod.mk.inj (Option.some.inj h)
 subst k_1
 subst g_1
 rw [← hQ]
 exact ⟨rfl, _, rfl, _, _, (RefV.trans (RefV.out (v' := .agg [.vec true [[.int .i64 a_0, .int .i64 a_0]], .bool false]) rfl) (RefV.weak (Wks.cons (Wk.agg (Wks.cons Wk.vec (Wks.cons (Wk.refl _) (Wks.nil)))) Wks.nil) (WkH.refl _))), rfl, rfl⟩
theorem context_reader_single_1_row_w (N : Nat) (a_0 : Int) (l_1 : List Int) (z_1 : List TSpan) (z_2 : Bool) (h : context_reader_single_1_row N a_0 l_1 = some (z_1, z_2)) :
  ACalls Try.prog 110 [.int .i64 a_0, .ptr 0 0 0] [.box [.row 1 0 l_1.length] 48, .mem 1 (List.map eI64 l_1) 3] (fun e H => H = [.box [.row 2 0 l_1.length] 48, .dead, .mem 1 (List.map eI64 l_1) 3] ∧ e = .ret (.agg [.vec false (List.map eTSpan z_1), .bool z_2])) := by
 unfold context_reader_single_1_row at h
 refine ACalls.goN Try.func110 n110 a110 Try.ntmps110 r110 (by simp) 2 rfl ?_
 generalize hQ : bodyA _ _ _ = QQ
 obtain ⟨x_1, h_2, h⟩ := bindS h
 have e_3 : (List.map eI64 l_1)[(a_0).toNat]? = some [.int .i64 x_1] := atI_map eI64 h_2
 have e_4 := eq_true (atI_some h_2).1
 have e_5 := eq_true (atI_lt h_2)
 obtain ⟨⟨y_6, y_7⟩, h_8, h⟩ := bindS h
 try dsimp only at h
 simp only [A110, e_3, e_4, e_5, go_sem, seval]
 refine ACalls.use0 (context_glyph_w N _ _ _ h_8) rfl rfl ?_
 refine CallK_go (by simp) ?_
 simp only [e_3, e_4, e_5, go_sem, seval]
 obtain ⟨k_1, g_1⟩ := Prod.mk.inj (Option.some.inj h)
 subst k_1
 subst g_1
 rw [← hQ]
 exact ⟨rfl, _, rfl, _, _, (RefV.trans (RefV.move (by simp) (id := 1) rfl rfl) (RefV.std [0, 1, 3] (by decide) (by decide) (by first | rfl | simp only [go_sem, seval]) (by first | rfl | simp only [go_sem, seval]))), rfl, rfl⟩
theorem context_reader_count_w (N : Nat) (l_0 : List Int) (a_1 : Int) (a_2 : Int) (a_3 : Int) (c_0 : Bool) (o : (Int) ⊕ Unit) (h : context_reader_count N l_0 a_1 a_2 a_3 = some o) :
  ACalls Try.prog 118 [.ptr 0 0 0, .int .i64 a_2, .int .i64 a_3] [.box [.vec c_0 (List.map eU8 l_0), .int .i64 a_1] 152] (fun e H => match o with | .inl z_1 => H = [.box [.vec c_0 (List.map eU8 l_0), .int .i64 (IntKind.i64.wrap (a_1 + 2))] 152] ∧ e = .ret (.int .i64 z_1) | .inr _ => H = [.dead] ∧ e = .pan (.iface 148 (.agg []))) := by
 unfold context_reader_count at h
 refine ACalls.goN Try.func118 n118 a118 Try.ntmps118 r118 (by simp) 1 rfl ?_
 generalize hQ : bodyA _ _ _ = QQ
 obtain ⟨o_3, h_2, h⟩ := bindS h
 simp only [A118, go_sem, seval]
 rcases o_3 with y_1 | _
 ·
  try dsimp only at h
  refine ACalls.useA (context_reader_number_w N _ _ c_0 _ h_2) [0] (v' := .int .i64 y_1) (H' := [.box [.vec c_0 (List.map eU8 l_0), .int .i64 (IntKind.i64.wrap (a_1 + 2))] 152]) ?_
  refine CallK_go (by simp) ?_
  simp only [go_sem, seval]
  by_cases h_5 : a_2 ≤ y_1
  ·
   rw [if_pos h_5] at h
   have e_6 := eq_true h_5
   obtain ⟨o_8, h_7, h⟩ := bindS h
   simp only [e_6, go_sem, seval]
   rcases o_8 with _ | _
   ·
    try dsimp only at h
    refine ACalls.use0 (context_must_w N _ _ h_7) rfl rfl ?_
    refine CallK_go (by simp) ?_
    simp only [e_6, go_sem, seval]
    have g_0 := Option.some.inj h
    subst g_0
    rw [← hQ]
    exact ⟨rfl, _, rfl, _, _, (RefV.std [0] (by decide) (by decide) rfl (by first | rfl | simp only [go_sem, seval, e_6])), rfl, rfl⟩
   ·
    try dsimp only at h
    refine ACalls.panA (context_must_w N _ _ h_7) [] (v' := .iface 148 (.agg [])) (H' := [.box [.vec c_0 (List.map eU8 l_0), .int .i64 (IntKind.i64.wrap (a_1 + 2))] 152]) (hH := by simp only [go_sem, seval, e_6]) ?_
    try simp only [CallK_pan, dCallK_pan, panK_ap]
    have g_0 := Option.some.inj h
    subst g_0
    rw [← hQ]
    exact ⟨rfl, _, _, RefV.dead rfl, rfl, rfl⟩
  ·
   rw [if_neg h_5] at h
   have e_6 := eq_false h_5
   obtain ⟨o_11, h_10, h⟩ := bindS h
   simp only [e_6, go_sem, seval]
   rcases o_11 with _ | _
   ·
    try dsimp only at h
    refine ACalls.use0 (context_must_w N _ _ h_10) rfl rfl ?_
    refine CallK_go (by simp) ?_
    simp only [e_6, go_sem, seval]
    have g_0 := Option.some.inj h
    subst g_0
    rw [← hQ]
    exact ⟨rfl, _, rfl, _, _, (RefV.std [0] (by decide) (by decide) rfl (by first | rfl | simp only [go_sem, seval, e_6])), rfl, rfl⟩
   ·
    try dsimp only at h
    refine ACalls.panA (context_must_w N _ _ h_10) [] (v' := .iface 148 (.agg [])) (H' := [.box [.vec c_0 (List.map eU8 l_0), .int .i64 (IntKind.i64.wrap (a_1 + 2))] 152]) (hH := by simp only [go_sem, seval, e_6]) ?_
    try simp only [CallK_pan, dCallK_pan, panK_ap]
    have g_0 := Option.some.inj h
    subst g_0
    rw [← hQ]
    exact ⟨rfl, _, _, RefV.dead rfl, rfl, rfl⟩
 ·
  try dsimp only at h
  refine ACalls.panA (context_reader_number_w N _ _ c_0 _ h_2) [0] (v' := .iface 148 (.agg [])) (H' := [.dead]) ?_
  try simp only [CallK_pan, dCallK_pan, panK_ap]
  have g_0 := Option.some.inj h
  subst g_0
  rw [← hQ]
  exact ⟨rfl, _, _, RefV.dead rfl, rfl, rfl⟩
theorem context_of_L1_w (N : Nat) (l_0 : List Int) (c_0 : Bool) {R : AExit → ATm → List AObj → Prop} : ∀ (n : Nat) (i_1 : Int) (s_2 : List TSet) (o : (List TSet)), context_of_L1 N l_0 n i_1 s_2 = some o → (match o with | z_1 => R (.exit 0) ⟨22, [(5, .row 0 0 z_1.length)], []⟩ [.mem 2 (List.map eTSet z_1) 85]) →
  ALp Try.prog 0 B132_1 ⟨22, [(1, .fn (.func 111) [] []), (5, .row 0 0 s_2.length), (8, .vec c_0 (List.map eI64 l_0)), (9, .int .i64 (l_0.length : Int)), (10, .int .i64 i_1)], []⟩ [.mem 2 (List.map eTSet s_2) 85] R := by
 intro n
 induction n with
 | zero =>
  intro i_1 s_2 o h _
  have h0 : none = some o := h
  cases h0
 | succ n ih =>
  intro i_1 s_2 o h hp
  rw [context_of_L1] at h
  refine ALp.round ?_
  generalize hQ : RoundQ _ _ _ _ = QQ
  simp only [B132_1, A132, go_sem, seval]
  by_cases h_3 : i_1 < (l_0.length : Int)
  ·
   rw [if_pos h_3] at h
   have e_4 := eq_true h_3
   obtain ⟨x_5, h_6, h⟩ := bindS h
   have e_7 : (List.map eI64 l_0)[(i_1).toNat]? = some [.int .i64 x_5] := atI_map eI64 h_6
   have e_8 := eq_true (atI_some h_6).1
   have e_9 := eq_true (atI_lt h_6)
   obtain ⟨⟨y_10, y_11⟩, h_12, h⟩ := bindS h
   try dsimp only at h
   simp only [e_4, e_7, e_8, e_9, go_sem, seval]
   refine ACalls.use0 (context_glyph_w N _ _ _ h_12) rfl rfl ?_
   refine ck0 ?_
   have e_13 : List.take s_2.length (List.map eTSet s_2) = (List.map eTSet s_2) := List.take_of_length_le (by simp)
   have e_14 : (List.map eTSet s_2) ++ [[.vec false (List.map eTSpan y_10), .bool y_11]] = (List.map eTSet (s_2 ++ [TSet.mk y_10 y_11])) := app_map s_2 ([TSet.mk y_10 y_11]) eTSet
   obtain ⟨h_15, h⟩ := guardS h
   have e_16 := eq_true h_15
   simp only [e_4, e_7, e_8, e_9, e_13, e_14, e_16, go_sem, seval]
   rw [← hQ]
   exact ⟨_, _, (Ref.std [1, 5, 8, 9, 10] [1] (by decide) low0 (by first | rfl | simp only [go_sem, seval]) (by first | rfl | simp only [go_sem, seval])), (Nat.zero_le _), ih _ _ _ h hp⟩
  ·
   rw [if_neg h_3] at h
   have e_4 := eq_false h_3
   simp only [e_4, go_sem, seval]
   have g := Option.some.inj h
   subst g
   rw [← hQ]
   exact ⟨_, _, (Ref.std [5] [0] (by decide) low0 rfl (by first | rfl | simp only [go_sem, seval])), hp⟩
theorem context_of_w (N : Nat) (l_0 : List Int) (c_0 : Bool) (z_1 : List TSet) (h : context_of N l_0 = some z_1) :
  ACalls Try.prog 132 [.vec c_0 (List.map eI64 l_0), .fn (.func 111) [] []] [] (fun e H => H = [] ∧ e = .ret (.vec false (List.map eTSet z_1))) := by
 unfold context_of at h
 refine ACalls.goN Try.func132 n132 a132 Try.ntmps132 r132 (by simp) 0 rfl ?_
 generalize hQ : bodyA _ _ _ = QQ
 simp only [A132, go_sem, seval]
 obtain ⟨y_1002, h_1001, h⟩ := bindS h
 refine ALp.ref (Ref.trans (Ref.thaw (Nat.zero_le _) 5 rfl (sz := 2) (by decide) 85) (Ref.std [1, 5, 8, 9, 10] [0] (by decide) low0 rfl (by first | rfl | simp only [go_sem, seval]))) (Nat.zero_le _) (context_of_L1_w N _ c_0 N _ _ y_1002 h_1001 ?_)
 refine LoopK_go rfl (Nat.zero_le _) ?_
 simp only [go_sem, seval]
 have g_0 := Option.some.inj h
 subst g_0
 rw [← hQ]
 exact ⟨rfl, _, rfl, _, _, (RefV.trans (RefV.frz (Nat.zero_le _) (id := 0) rfl (pures_map y_1002 eTSet (fun _ => rfl))) (RefV.out (by first | rfl | simp only [go_sem, seval]))), rfl, rfl⟩
theorem context_reader_acts_L1_w (N : Nat) (a_3 : Int) (a_2 : Int) (l_0 : List Int) (c_0 : Bool) {R : AExit → ATm → List AObj → Prop} : ∀ (n : Nat) (i_1 : Int) (i_2 : Int) (s_3 : List TAct) (o : (Int × (List TAct)) ⊕ (Unit)), context_reader_acts_L1 N a_3 a_2 l_0 n i_1 i_2 s_3 = some o → (match o with | .inl (z_1, z_2) => R (.exit 0) ⟨29, [(7, .row 1 0 z_2.length)], []⟩ [.box [.vec c_0 (List.map eU8 l_0), .int .i64 z_1] 152, .mem 2 (List.map eTAct z_2) 120] | .inr (_) => ∀ (tb : ATm) (Hb : List AObj), tb.ds = [] → R (.pan (.iface 148 (.agg []))) tb Hb) →
  ALp Try.prog 1 B119_1 ⟨29, [(0, .ptr 0 0 0), (2, .int .i64 a_3), (7, .row 1 0 s_3.length), (10, .int .i64 a_2), (11, .int .i64 i_1)], []⟩ [.box [.vec c_0 (List.map eU8 l_0), .int .i64 i_2] 152, .mem 2 (List.map eTAct s_3) 120] R := by
 intro n
 induction n with
 | zero =>
  intro i_1 i_2 s_3 o h _
  have h0 : none = some o := h
  cases h0
 | succ n ih =>
  intro i_1 i_2 s_3 o h hp
  rw [context_reader_acts_L1] at h
  refine ALp.round ?_
  generalize hQ : RoundQ _ _ _ _ = QQ
  simp only [B119_1, A119, go_sem, seval]
  by_cases h_4 : i_1 < a_2
  ·
   rw [if_pos h_4] at h
   have e_5 := eq_true h_4
   obtain ⟨o_8, h_7, h⟩ := bindS h
   simp only [e_5, go_sem, seval]
   rcases o_8 with y_6 | _
   ·
    try dsimp only at h
    refine ACalls.useA (context_reader_number_w N _ _ c_0 _ h_7) [0] (v' := .int .i64 y_6) (H' := [.box [.vec c_0 (List.map eU8 l_0), .int .i64 (IntKind.i64.wrap (i_2 + 2))] 152, .mem 2 (List.map eTAct s_3) 120]) (hH := by simp only [go_sem, seval, e_5]) (ho := ⟨(by first | rfl | simp only [go_sem, seval, e_5]), trivial⟩) ?_
    refine CallK_go (by simp) ?_
    obtain ⟨o_12, h_11, h⟩ := bindS h
    simp only [e_5, go_sem, seval]
    rcases o_12 with y_10 | _
    ·
     try dsimp only at h
     refine ACalls.useA (context_reader_number_w N _ _ c_0 _ h_11) [0] (v' := .int .i64 y_10) (H' := [.box [.vec c_0 (List.map eU8 l_0), .int .i64 (IntKind.i64.wrap ((IntKind.i64.wrap (i_2 + 2)) + 2))] 152, .mem 2 (List.map eTAct s_3) 120]) (hH := by simp only [go_sem, seval, e_5]) (ho := ⟨(by first | rfl | simp only [go_sem, seval, e_5]), trivial⟩) ?_
     refine CallK_go (by simp) ?_
     obtain ⟨o_15, h_14, h⟩ := bindS h
     simp only [e_5, go_sem, seval]
     rcases o_15 with _ | _
     ·
      try dsimp only at h
      refine ACalls.use0 (context_must_w N _ _ h_14) rfl rfl ?_
      refine CallK_go (by simp) ?_
      have e_17 : List.take s_3.length (List.map eTAct s_3) = (List.map eTAct s_3) := List.take_of_length_le (by simp)
      have e_18 : (List.map eTAct s_3) ++ [[.int .i64 y_6, .int .i64 y_10]] = (List.map eTAct (s_3 ++ [TAct.mk y_6 y_10])) := app_map s_3 ([TAct.mk y_6 y_10]) eTAct
      obtain ⟨h_19, h⟩ := guardS h
      have e_20 := eq_true h_19
      simp only [e_5, e_17, e_18, e_20, go_sem, seval]
      rw [← hQ]
      exact ⟨_, _, (Ref.std [0, 2, 7, 10, 11] [0, 2] (by decide) (by decide) (by first | rfl | simp only [go_sem, seval]) (by first | rfl | simp only [go_sem, seval])), (by simp), ih _ _ _ _ h hp⟩
     ·
      try dsimp only at h
      refine ACalls.panA (context_must_w N _ _ h_14) [] (v' := .iface 148 (.agg [])) (H' := [.box [.vec c_0 (List.map eU8 l_0), .int .i64 (IntKind.i64.wrap ((IntKind.i64.wrap (i_2 + 2)) + 2))] 152, .mem 2 (List.map eTAct s_3) 120]) (hH := by simp only [go_sem, seval, e_5]) ?_
      try simp only [CallK_pan, dCallK_pan, panK_ap]
      have g := Option.some.inj h
      subst g
      rw [← hQ]
      exact hp _ _ rfl
    ·
     try dsimp only at h
     refine ACalls.panA (context_reader_number_w N _ _ c_0 _ h_11) [0] (v' := .iface 148 (.agg [])) (H' := [.dead, .mem 2 (List.map eTAct s_3) 120]) (hH := by simp only [go_sem, seval, e_5]) (ho := ⟨(by first | rfl | simp only [go_sem, seval, e_5]), trivial⟩) ?_
     try simp only [CallK_pan, dCallK_pan, panK_ap]
     have g := Option.some.inj h
     subst g
     rw [← hQ]
     exact hp _ _ rfl
   ·
    try dsimp only at h
    refine ACalls.panA (context_reader_number_w N _ _ c_0 _ h_7) [0] (v' := .iface 148 (.agg [])) (H' := [.dead, .mem 2 (List.map eTAct s_3) 120]) (hH := by simp only [go_sem, seval, e_5]) (ho := ⟨(by first | rfl | simp only [go_sem, seval, e_5]), trivial⟩) ?_
    try simp only [CallK_pan, dCallK_pan, panK_ap]
    have g := Option.some.inj h
    subst g
    rw [← hQ]
    exact hp _ _ rfl
  ·
   rw [if_neg h_4] at h
   have e_5 := eq_false h_4
   simp only [e_5, go_sem, seval]
   have g := Option.some.inj h
   subst g
   rw [← hQ]
   exact ⟨_, _, (Ref.std [7] [0, 1] (by decide) (by decide) rfl (by first | rfl | simp only [go_sem, seval])), hp⟩
theorem context_reader_acts_w (N : Nat) (l_0 : List Int) (a_1 : Int) (a_2 : Int) (a_3 : Int) (c_0 : Bool) (o : ((List TAct) × Int) ⊕ Unit) (h : context_reader_acts N l_0 a_1 a_2 a_3 = some o) :
  ACalls Try.prog 119 [.ptr 0 0 0, .int .i64 a_2, .int .i64 a_3] [.box [.vec c_0 (List.map eU8 l_0), .int .i64 a_1] 152] (fun e H => match o with | .inl (z_1, z_2) => H = [.box [.vec c_0 (List.map eU8 l_0), .int .i64 z_2] 152] ∧ e = .ret (.vec false (List.map eTAct z_1)) | .inr _ => H = [.dead] ∧ e = .pan (.iface 148 (.agg []))) := by
 unfold context_reader_acts at h
 refine ACalls.goN Try.func119 n119 a119 Try.ntmps119 r119 (by simp) 1 rfl ?_
 generalize hQ : bodyA _ _ _ = QQ
 simp only [A119, go_sem, seval]
 obtain ⟨o_1004, h_1001, h⟩ := bindS h
 refine ALp.ref (Ref.trans (Ref.thaw (by simp) 7 rfl (sz := 2) (by decide) 120) (Ref.std [0, 2, 7, 10, 11] [0, 1] (by decide) (by decide) rfl (by first | rfl | simp only [go_sem, seval]))) (by simp) (context_reader_acts_L1_w N _ _ _ c_0 N _ _ _ o_1004 h_1001 ?_)
 rcases o_1004 with ⟨y_1002, y_1003⟩ | _
 ·
  try dsimp only at h
  refine LoopK_go rfl (by simp) ?_
  simp only [go_sem, seval]
  have g_0 := Option.some.inj h
  subst g_0
  rw [← hQ]
  exact ⟨rfl, _, rfl, _, _, (RefV.trans (RefV.frz (by simp) (id := 1) rfl (pures_map y_1003 eTAct (fun _ => rfl))) (RefV.std [0] (by decide) (by decide) (by first | rfl | simp only [go_sem, seval]) (by first | rfl | simp only [go_sem, seval]))), rfl, rfl⟩
 ·
  try dsimp only at h
  intro _ _ h_1005
  refine LoopK_pan ?_
  have g_0 := Option.some.inj h
  subst g_0
  rw [← hQ]
  exact ⟨h_1005, _, _, RefV.dead rfl, rfl, rfl⟩
theorem context_reader_rule_w (N : Nat) (l_0 : List Int) (a_1 : Int) (l_2 : List TSpan) (b_3 : Bool) (b_4 : Bool) (c_0 : Bool) (o : ((List TSet) × (List TSet) × (List TSet) × (List TAct) × Int) ⊕ Unit) (h : context_reader_rule N l_0 a_1 l_2 b_3 b_4 = some o) :
  ACalls Try.prog 129 [.ptr 0 0 0, .agg [.vec false (List.map eTSpan l_2), .bool b_3], .agg [.fn (.func 111) [] [], .fn (.func 111) [] [], .fn (.func 111) [] [], .bool b_4]] [.box [.vec c_0 (List.map eU8 l_0), .int .i64 a_1] 152] (fun e H => match o with | .inl (z_1, z_2, z_3, z_4, z_5) => H = [.box [.vec c_0 (List.map eU8 l_0), .int .i64 z_5] 152] ∧ e = .ret (.agg [.vec false (List.map eTSet z_1), .vec false (List.map eTSet z_2), .vec false (List.map eTSet z_3), .vec false (List.map eTAct z_4)]) | .inr _ => H = [.dead] ∧ e = .pan (.iface 148 (.agg []))) := by
 unfold context_reader_rule at h
 refine ACalls.goN Try.func129 n129 a129 Try.ntmps129 r129 (by simp) 1 rfl ?_
 generalize hQ : bodyA _ _ _ = QQ
 simp only [A129, go_sem, seval]
 by_cases h_1 : b_4 = true
 ·
  rw [if_pos h_1] at h
  have e_2 : b_4 = true := h_1
  obtain ⟨o_5, h_4, h⟩ := bindS h
  simp only [e_2, go_sem, seval]
  rcases o_5 with y_3 | _
  ·
   try dsimp only at h
   refine ACalls.useA (context_reader_count_w N _ _ _ _ c_0 _ h_4) [0] (v' := .int .i64 y_3) (H' := [.box [.vec c_0 (List.map eU8 l_0), .int .i64 (IntKind.i64.wrap (a_1 + 2))] 152, .box [.vec false (List.map eTSpan l_2), .bool b_3] 85, .box [.fn (.func 111) [] [], .fn (.func 111) [] [], .fn (.func 111) [] [], .bool b_4] 161, .box [nn, nn, nn, nn] 45, .box [nn, nn, nn, nn] 45]) (hH := by simp only [go_sem, seval, e_2]) (ho := ⟨(by first | rfl | simp only [go_sem, seval, e_2]), trivial⟩) ?_
   obtain ⟨o_9, h_8, h⟩ := bindS h
   simp only [e_2, go_sem, seval]
   rcases o_9 with y_7 | _
   ·
    try dsimp only at h
    refine ACalls.useA (context_reader_row_w N _ _ _ c_0 _ h_8) [0] (v' := .vec false (List.map eI64 y_7)) (H' := [.box [.vec c_0 (List.map eU8 l_0), .int .i64 (IntKind.i64.wrap ((IntKind.i64.wrap (a_1 + 2)) + (IntKind.i64.wrap (y_3 * 2))))] 152, .box [.vec false (List.map eTSpan l_2), .bool b_3] 85, .box [.fn (.func 111) [] [], .fn (.func 111) [] [], .fn (.func 111) [] [], .bool b_4] 161, .box [nn, nn, nn, nn] 45, .box [nn, nn, nn, nn] 45]) (hH := by simp only [go_sem, seval, e_2]) (ho := ⟨(by first | rfl | simp only [go_sem, seval, e_2]), trivial⟩) ?_
    obtain ⟨y_11, h_12, h⟩ := bindS h
    simp only [e_2, go_sem, seval]
    refine ACalls.use0 (context_of_w N _ false _ h_12) rfl rfl ?_
    obtain ⟨o_15, h_14, h⟩ := bindS h
    simp only [e_2, go_sem, seval]
    rcases o_15 with y_13 | _
    ·
     try dsimp only at h
     refine ACalls.useA (context_reader_count_w N _ _ _ _ c_0 _ h_14) [0] (v' := .int .i64 y_13) (H' := [.box [.vec c_0 (List.map eU8 l_0), .int .i64 (IntKind.i64.wrap ((IntKind.i64.wrap ((IntKind.i64.wrap (a_1 + 2)) + (IntKind.i64.wrap (y_3 * 2)))) + 2))] 152, .box [.vec false (List.map eTSpan l_2), .bool b_3] 85, .box [.fn (.func 111) [] [], .fn (.func 111) [] [], .fn (.func 111) [] [], .bool b_4] 161, .box [nn, nn, nn, nn] 45, .box [.vec false (List.map eTSet y_11), nn, nn, nn] 45]) (hH := by simp only [go_sem, seval, e_2]) (ho := ⟨(by first | rfl | simp only [go_sem, seval, e_2]), trivial⟩) ?_
     refine CallK_go (by simp) ?_
     obtain ⟨o_19, h_18, h⟩ := bindS h
     simp only [e_2, go_sem, seval]
     rcases o_19 with y_17 | _
     ·
      try dsimp only at h
      refine ACalls.useA (context_reader_row_w N _ _ _ c_0 _ h_18) [0] (v' := .vec false (List.map eI64 y_17)) (H' := [.box [.vec c_0 (List.map eU8 l_0), .int .i64 (IntKind.i64.wrap ((IntKind.i64.wrap ((IntKind.i64.wrap ((IntKind.i64.wrap (a_1 + 2)) + (IntKind.i64.wrap (y_3 * 2)))) + 2)) + (IntKind.i64.wrap ((IntKind.i64.wrap (y_13 - 1)) * 2))))] 152, .box [.vec false (List.map eTSpan l_2), .bool b_3] 85, .box [.fn (.func 111) [] [], .fn (.func 111) [] [], .fn (.func 111) [] [], .bool b_4] 161, .box [nn, nn, nn, nn] 45, .box [.vec false (List.map eTSet y_11), nn, nn, nn] 45]) (hH := by simp only [go_sem, seval, e_2]) (ho := ⟨(by first | rfl | simp only [go_sem, seval, e_2]), trivial⟩) ?_
      obtain ⟨y_21, h_22, h⟩ := bindS h
      simp only [e_2, go_sem, seval]
      refine ACalls.use0 (context_of_w N _ false _ h_22) rfl rfl ?_
      have e_23 : ((List.map eTSet y_21)).all (fun el => el.length == 2) = true := all_len _ eTSet 2 (fun _ => rfl)
      simp only [e_2, e_23, go_sem, seval]
      by_cases h_24 : y_21 = []
      ·
       rw [if_pos h_24] at h
       have e_25 : y_21 = [] := h_24
       obtain ⟨o_28, h_27, h⟩ := bindS h
       simp only [e_2, e_23, e_25, go_sem, seval]
       rcases o_28 with y_26 | _
       ·
        try dsimp only at h
        refine ACalls.useA (context_reader_count_w N _ _ _ _ c_0 _ h_27) [0] (v' := .int .i64 y_26) (H' := [.box [.vec c_0 (List.map eU8 l_0), .int .i64 (IntKind.i64.wrap ((IntKind.i64.wrap ((IntKind.i64.wrap ((IntKind.i64.wrap ((IntKind.i64.wrap (a_1 + 2)) + (IntKind.i64.wrap (y_3 * 2)))) + 2)) + (IntKind.i64.wrap ((IntKind.i64.wrap (y_13 - 1)) * 2)))) + 2))] 152, .box [.vec false (List.map eTSpan l_2), .bool b_3] 85, .box [.fn (.func 111) [] [], .fn (.func 111) [] [], .fn (.func 111) [] [], .bool b_4] 161, .box [nn, nn, nn, nn] 45, .box [.vec false (List.map eTSet y_11), .vec true [[.vec false (List.map eTSpan l_2), .bool b_3]], nn, nn] 45]) (hH := by simp only [go_sem, seval, e_2, e_25]) (ho := ⟨(by first | rfl | simp only [go_sem, seval, e_2, e_25]), trivial⟩) ?_
        obtain ⟨o_32, h_31, h⟩ := bindS h
        simp only [e_2, e_23, e_25, go_sem, seval]
        rcases o_32 with y_30 | _
        ·
         try dsimp only at h
         refine ACalls.useA (context_reader_row_w N _ _ _ c_0 _ h_31) [0] (v' := .vec false (List.map eI64 y_30)) (H' := [.box [.vec c_0 (List.map eU8 l_0), .int .i64 (IntKind.i64.wrap ((IntKind.i64.wrap ((IntKind.i64.wrap ((IntKind.i64.wrap ((IntKind.i64.wrap ((IntKind.i64.wrap (a_1 + 2)) + (IntKind.i64.wrap (y_3 * 2)))) + 2)) + (IntKind.i64.wrap ((IntKind.i64.wrap (y_13 - 1)) * 2)))) + 2)) + (IntKind.i64.wrap (y_26 * 2))))] 152, .box [.vec false (List.map eTSpan l_2), .bool b_3] 85, .box [.fn (.func 111) [] [], .fn (.func 111) [] [], .fn (.func 111) [] [], .bool b_4] 161, .box [nn, nn, nn, nn] 45, .box [.vec false (List.map eTSet y_11), .vec true [[.vec false (List.map eTSpan l_2), .bool b_3]], nn, nn] 45]) (hH := by simp only [go_sem, seval, e_2, e_25]) (ho := ⟨(by first | rfl | simp only [go_sem, seval, e_2, e_25]), trivial⟩) ?_
         obtain ⟨y_34, h_35, h⟩ := bindS h
         simp only [e_2, e_23, e_25, go_sem, seval]
         refine ACalls.use0 (context_of_w N _ false _ h_35) rfl rfl ?_
         obtain ⟨o_38, h_37, h⟩ := bindS h
         simp only [e_2, e_23, e_25, go_sem, seval]
         rcases o_38 with y_36 | _
         ·
          try dsimp only at h
          refine ACalls.useA (context_reader_count_w N _ _ _ _ c_0 _ h_37) [0] (v' := .int .i64 y_36) (H' := [.box [.vec c_0 (List.map eU8 l_0), .int .i64 (IntKind.i64.wrap ((IntKind.i64.wrap ((IntKind.i64.wrap ((IntKind.i64.wrap ((IntKind.i64.wrap ((IntKind.i64.wrap ((IntKind.i64.wrap (a_1 + 2)) + (IntKind.i64.wrap (y_3 * 2)))) + 2)) + (IntKind.i64.wrap ((IntKind.i64.wrap (y_13 - 1)) * 2)))) + 2)) + (IntKind.i64.wrap (y_26 * 2)))) + 2))] 152, .box [.vec false (List.map eTSpan l_2), .bool b_3] 85, .box [.fn (.func 111) [] [], .fn (.func 111) [] [], .fn (.func 111) [] [], .bool b_4] 161, .box [nn, nn, nn, nn] 45, .box [.vec false (List.map eTSet y_11), .vec true [[.vec false (List.map eTSpan l_2), .bool b_3]], .vec false (List.map eTSet y_34), nn] 45]) (hH := by simp only [go_sem, seval, e_2, e_25]) (ho := ⟨(by first | rfl | simp only [go_sem, seval, e_2, e_25]), trivial⟩) ?_
          refine CallK_go (by simp) ?_
          obtain ⟨o_43, h_42, h⟩ := bindS h
          simp only [e_2, e_23, e_25, go_sem, seval]
          rcases o_43 with ⟨y_40, y_41⟩ | _
          ·
           try dsimp only at h
           refine ACalls.useA (context_reader_acts_w N _ _ _ _ c_0 _ h_42) [0] (v' := .vec false (List.map eTAct y_40)) (H' := [.box [.vec c_0 (List.map eU8 l_0), .int .i64 y_41] 152, .box [.vec false (List.map eTSpan l_2), .bool b_3] 85, .box [.fn (.func 111) [] [], .fn (.func 111) [] [], .fn (.func 111) [] [], .bool b_4] 161, .box [nn, nn, nn, nn] 45, .box [.vec false (List.map eTSet y_11), .vec true [[.vec false (List.map eTSpan l_2), .bool b_3]], .vec false (List.map eTSet y_34), nn] 45]) (hH := by simp only [go_sem, seval, e_2, e_25]) (ho := ⟨(by first | rfl | simp only [go_sem, seval, e_2, e_25]), trivial⟩) ?_
           refine CallK_go (by simp) ?_
           simp only [e_2, e_23, e_25, go_sem, seval]
           have g_0 := Option.some.inj h
           subst g_0
           rw [← hQ]
           exact ⟨rfl, _, rfl, _, _, (RefV.trans (RefV.std (v' := .agg [.vec false (List.map eTSet y_11), .vec true [[.vec false (List.map eTSpan l_2), .bool b_3]], .vec false (List.map eTSet y_34), .vec false (List.map eTAct y_40)]) [0] (by decide) (by decide) rfl (by first | rfl | simp only [go_sem, seval, e_2, e_25])) (RefV.weak (Wks.cons (Wk.agg (Wks.cons (Wk.refl _) (Wks.cons Wk.vec (Wks.cons (Wk.refl _) (Wks.cons (Wk.refl _) (Wks.nil)))))) Wks.nil) (WkH.refl _))), rfl, rfl⟩
          ·
           try dsimp only at h
           refine ACalls.panA (context_reader_acts_w N _ _ _ _ c_0 _ h_42) [0] (v' := .iface 148 (.agg [])) (H' := [.dead, .box [.vec false (List.map eTSpan l_2), .bool b_3] 85, .box [.fn (.func 111) [] [], .fn (.func 111) [] [], .fn (.func 111) [] [], .bool b_4] 161, .box [nn, nn, nn, nn] 45, .box [.vec false (List.map eTSet y_11), .vec true [[.vec false (List.map eTSpan l_2), .bool b_3]], .vec false (List.map eTSet y_34), nn] 45]) (hH := by simp only [go_sem, seval, e_2, e_25]) (ho := ⟨(by first | rfl | simp only [go_sem, seval, e_2, e_25]), trivial⟩) ?_
           try simp only [CallK_pan, dCallK_pan, panK_ap]
           have g_0 := Option.some.inj h
           subst g_0
           rw [← hQ]
           exact ⟨rfl, _, _, RefV.dead rfl, rfl, rfl⟩
         ·
          try dsimp only at h
          refine ACalls.panA (context_reader_count_w N _ _ _ _ c_0 _ h_37) [0] (v' := .iface 148 (.agg [])) (H' := [.dead, .box [.vec false (List.map eTSpan l_2), .bool b_3] 85, .box [.fn (.func 111) [] [], .fn (.func 111) [] [], .fn (.func 111) [] [], .bool b_4] 161, .box [nn, nn, nn, nn] 45, .box [.vec false (List.map eTSet y_11), .vec true [[.vec false (List.map eTSpan l_2), .bool b_3]], .vec false (List.map eTSet y_34), nn] 45]) (hH := by simp only [go_sem, seval, e_2, e_25]) (ho := ⟨(by first | rfl | simp only [go_sem, seval, e_2, e_25]), trivial⟩) ?_
          try simp only [CallK_pan, dCallK_pan, panK_ap]
          have g_0 := Option.some.inj h
          subst g_0
          rw [← hQ]
          exact ⟨rfl, _, _, RefV.dead rfl, rfl, rfl⟩
        ·
         try dsimp only at h
         refine ACalls.panA (context_reader_row_w N _ _ _ c_0 _ h_31) [0] (v' := .iface 148 (.agg [])) (H' := [.dead, .box [.vec false (List.map eTSpan l_2), .bool b_3] 85, .box [.fn (.func 111) [] [], .fn (.func 111) [] [], .fn (.func 111) [] [], .bool b_4] 161, .box [nn, nn, nn, nn] 45, .box [.vec false (List.map eTSet y_11), .vec true [[.vec false (List.map eTSpan l_2), .bool b_3]], nn, nn] 45]) (hH := by simp only [go_sem, seval, e_2, e_25]) (ho := ⟨(by first | rfl | simp only [go_sem, seval, e_2, e_25]), trivial⟩) ?_
         try simp only [CallK_pan, dCallK_pan, panK_ap]
         have g_0 := Option.some.inj h
         subst g_0
         rw [← hQ]
         exact ⟨rfl, _, _, RefV.dead rfl, rfl, rfl⟩
       ·
        try dsimp only at h
        refine ACalls.panA (context_reader_count_w N _ _ _ _ c_0 _ h_27) [0] (v' := .iface 148 (.agg [])) (H' := [.dead, .box [.vec false (List.map eTSpan l_2), .bool b_3] 85, .box [.fn (.func 111) [] [], .fn (.func 111) [] [], .fn (.func 111) [] [], .bool b_4] 161, .box [nn, nn, nn, nn] 45, .box [.vec false (List.map eTSet y_11), .vec true [[.vec false (List.map eTSpan l_2), .bool b_3]], nn, nn] 45]) (hH := by simp only [go_sem, seval, e_2, e_25]) (ho := ⟨(by first | rfl | simp only [go_sem, seval, e_2, e_25]), trivial⟩) ?_
        try simp only [CallK_pan, dCallK_pan, panK_ap]
        have g_0 := Option.some.inj h
        subst g_0
        rw [← hQ]
        exact ⟨rfl, _, _, RefV.dead rfl, rfl, rfl⟩
      ·
       rw [if_neg h_24] at h
       have e_25 : (y_21.length = 0) = False ∧ (0 < y_21.length) = True := ⟨eq_false (fun q => h_24 (List.eq_nil_of_length_eq_zero q)), eq_true (Nat.pos_of_ne_zero (fun q => h_24 (List.eq_nil_of_length_eq_zero q)))⟩
       have e_45 : ((List.map eTSet y_21)).all (fun el => el.length == 2) = true := all_len _ eTSet 2 (fun _ => rfl)
       have e_46 : [[.vec false (List.map eTSpan l_2), .bool b_3]] ++ (List.map eTSet y_21) = (List.map eTSet ([TSet.mk l_2 b_3] ++ y_21)) := app_map ([TSet.mk l_2 b_3]) y_21 eTSet
       obtain ⟨h_47, h⟩ := guardS h
       have e_48 := eq_true h_47
       obtain ⟨o_51, h_50, h⟩ := bindS h
       simp only [e_2, e_23, e_25, e_45, e_46, e_48, go_sem, seval]
       rcases o_51 with y_49 | _
       ·
        try dsimp only at h
        refine ACalls.useA (context_reader_count_w N _ _ _ _ c_0 _ h_50) [0] (v' := .int .i64 y_49) (H' := [.box [.vec c_0 (List.map eU8 l_0), .int .i64 (IntKind.i64.wrap ((IntKind.i64.wrap ((IntKind.i64.wrap ((IntKind.i64.wrap ((IntKind.i64.wrap (a_1 + 2)) + (IntKind.i64.wrap (y_3 * 2)))) + 2)) + (IntKind.i64.wrap ((IntKind.i64.wrap (y_13 - 1)) * 2)))) + 2))] 152, .box [.vec false (List.map eTSpan l_2), .bool b_3] 85, .box [.fn (.func 111) [] [], .fn (.func 111) [] [], .fn (.func 111) [] [], .bool b_4] 161, .box [nn, nn, nn, nn] 45, .box [.vec false (List.map eTSet y_11), .row 5 0 (1 + y_21.length), nn, nn] 45, .mem 2 (List.map eTSet ([TSet.mk l_2 b_3] ++ y_21)) 85]) (hH := by simp only [go_sem, seval, e_2, e_25]) (ho := ⟨(by first | rfl | simp only [go_sem, seval, e_2, e_25]), trivial⟩) ?_
        obtain ⟨o_55, h_54, h⟩ := bindS h
        simp only [e_2, e_23, e_25, e_45, e_46, e_48, go_sem, seval]
        rcases o_55 with y_53 | _
        ·
         try dsimp only at h
         refine ACalls.useA (context_reader_row_w N _ _ _ c_0 _ h_54) [0] (v' := .vec false (List.map eI64 y_53)) (H' := [.box [.vec c_0 (List.map eU8 l_0), .int .i64 (IntKind.i64.wrap ((IntKind.i64.wrap ((IntKind.i64.wrap ((IntKind.i64.wrap ((IntKind.i64.wrap ((IntKind.i64.wrap (a_1 + 2)) + (IntKind.i64.wrap (y_3 * 2)))) + 2)) + (IntKind.i64.wrap ((IntKind.i64.wrap (y_13 - 1)) * 2)))) + 2)) + (IntKind.i64.wrap (y_49 * 2))))] 152, .box [.vec false (List.map eTSpan l_2), .bool b_3] 85, .box [.fn (.func 111) [] [], .fn (.func 111) [] [], .fn (.func 111) [] [], .bool b_4] 161, .box [nn, nn, nn, nn] 45, .box [.vec false (List.map eTSet y_11), .row 5 0 (1 + y_21.length), nn, nn] 45, .mem 2 (List.map eTSet ([TSet.mk l_2 b_3] ++ y_21)) 85]) (hH := by simp only [go_sem, seval, e_2, e_25]) (ho := ⟨(by first | rfl | simp only [go_sem, seval, e_2, e_25]), trivial⟩) ?_
         obtain ⟨y_57, h_58, h⟩ := bindS h
         simp only [e_2, e_23, e_25, e_45, e_46, e_48, go_sem, seval]
         refine ACalls.use0 (context_of_w N _ false _ h_58) rfl rfl ?_
         obtain ⟨o_61, h_60, h⟩ := bindS h
         simp only [e_2, e_23, e_25, e_45, e_46, e_48, go_sem, seval]
         rcases o_61 with y_59 | _
         ·
          try dsimp only at h
          refine ACalls.useA (context_reader_count_w N _ _ _ _ c_0 _ h_60) [0] (v' := .int .i64 y_59) (H' := [.box [.vec c_0 (List.map eU8 l_0), .int .i64 (IntKind.i64.wrap ((IntKind.i64.wrap ((IntKind.i64.wrap ((IntKind.i64.wrap ((IntKind.i64.wrap ((IntKind.i64.wrap ((IntKind.i64.wrap (a_1 + 2)) + (IntKind.i64.wrap (y_3 * 2)))) + 2)) + (IntKind.i64.wrap ((IntKind.i64.wrap (y_13 - 1)) * 2)))) + 2)) + (IntKind.i64.wrap (y_49 * 2)))) + 2))] 152, .box [.vec false (List.map eTSpan l_2), .bool b_3] 85, .box [.fn (.func 111) [] [], .fn (.func 111) [] [], .fn (.func 111) [] [], .bool b_4] 161, .box [nn, nn, nn, nn] 45, .box [.vec false (List.map eTSet y_11), .row 5 0 (1 + y_21.length), .vec false (List.map eTSet y_57), nn] 45, .mem 2 (List.map eTSet ([TSet.mk l_2 b_3] ++ y_21)) 85]) (hH := by simp only [go_sem, seval, e_2, e_25]) (ho := ⟨(by first | rfl | simp only [go_sem, seval, e_2, e_25]), trivial⟩) ?_
          refine CallK_go (by simp) ?_
          obtain ⟨o_66, h_65, h⟩ := bindS h
          simp only [e_2, e_23, e_25, e_45, e_46, e_48, go_sem, seval]
          rcases o_66 with ⟨y_63, y_64⟩ | _
          ·
           try dsimp only at h
           refine ACalls.useA (context_reader_acts_w N _ _ _ _ c_0 _ h_65) [0] (v' := .vec false (List.map eTAct y_63)) (H' := [.box [.vec c_0 (List.map eU8 l_0), .int .i64 y_64] 152, .box [.vec false (List.map eTSpan l_2), .bool b_3] 85, .box [.fn (.func 111) [] [], .fn (.func 111) [] [], .fn (.func 111) [] [], .bool b_4] 161, .box [nn, nn, nn, nn] 45, .box [.vec false (List.map eTSet y_11), .row 5 0 (1 + y_21.length), .vec false (List.map eTSet y_57), nn] 45, .mem 2 (List.map eTSet ([TSet.mk l_2 b_3] ++ y_21)) 85]) (hH := by simp only [go_sem, seval, e_2, e_25]) (ho := ⟨(by first | rfl | simp only [go_sem, seval, e_2, e_25]), trivial⟩) ?_
           refine CallK_go (by simp) ?_
           simp only [e_2, e_23, e_25, e_45, e_46, e_48, go_sem, seval]
           have g_0 := Option.some.inj h
           subst g_0
           rw [← hQ]
           exact ⟨rfl, _, rfl, _, _, (RefV.trans (RefV.frz (by simp) (id := 5) rfl (pures_map ([TSet.mk l_2 b_3] ++ y_21) eTSet (fun _ => rfl))) (RefV.std [0] (by decide) (by decide) (by first | rfl | simp only [go_sem, seval, e_2, e_25]) (by first | rfl | simp only [go_sem, seval, e_2, e_25]))), rfl, rfl⟩
          ·
           try dsimp only at h
           refine ACalls.panA (context_reader_acts_w N _ _ _ _ c_0 _ h_65) [0] (v' := .iface 148 (.agg [])) (H' := [.dead, .box [.vec false (List.map eTSpan l_2), .bool b_3] 85, .box [.fn (.func 111) [] [], .fn (.func 111) [] [], .fn (.func 111) [] [], .bool b_4] 161, .box [nn, nn, nn, nn] 45, .box [.vec false (List.map eTSet y_11), .row 5 0 (1 + y_21.length), .vec false (List.map eTSet y_57), nn] 45, .mem 2 (List.map eTSet ([TSet.mk l_2 b_3] ++ y_21)) 85]) (hH := by simp only [go_sem, seval, e_2, e_25]) (ho := ⟨(by first | rfl | simp only [go_sem, seval, e_2, e_25]), trivial⟩) ?_
           try simp only [CallK_pan, dCallK_pan, panK_ap]
           have g_0 := Option.some.inj h
           subst g_0
           rw [← hQ]
           exact ⟨rfl, _, _, RefV.dead rfl, rfl, rfl⟩
         ·
          try dsimp only at h
          refine ACalls.panA (context_reader_count_w N _ _ _ _ c_0 _ h_60) [0] (v' := .iface 148 (.agg [])) (H' := [.dead, .box [.vec false (List.map eTSpan l_2), .bool b_3] 85, .box [.fn (.func 111) [] [], .fn (.func 111) [] [], .fn (.func 111) [] [], .bool b_4] 161, .box [nn, nn, nn, nn] 45, .box [.vec false (List.map eTSet y_11), .row 5 0 (1 + y_21.length), .vec false (List.map eTSet y_57), nn] 45, .mem 2 (List.map eTSet ([TSet.mk l_2 b_3] ++ y_21)) 85]) (hH := by simp only [go_sem, seval, e_2, e_25]) (ho := ⟨(by first | rfl | simp only [go_sem, seval, e_2, e_25]), trivial⟩) ?_
          try simp only [CallK_pan, dCallK_pan, panK_ap]
          have g_0 := Option.some.inj h
          subst g_0
          rw [← hQ]
          exact ⟨rfl, _, _, RefV.dead rfl, rfl, rfl⟩
        ·
         try dsimp only at h
         refine ACalls.panA (context_reader_row_w N _ _ _ c_0 _ h_54) [0] (v' := .iface 148 (.agg [])) (H' := [.dead, .box [.vec false (List.map eTSpan l_2), .bool b_3] 85, .box [.fn (.func 111) [] [], .fn (.func 111) [] [], .fn (.func 111) [] [], .bool b_4] 161, .box [nn, nn, nn, nn] 45, .box [.vec false (List.map eTSet y_11), .row 5 0 (1 + y_21.length), nn, nn] 45, .mem 2 (List.map eTSet ([TSet.mk l_2 b_3] ++ y_21)) 85]) (hH := by simp only [go_sem, seval, e_2, e_25]) (ho := ⟨(by first | rfl | simp only [go_sem, seval, e_2, e_25]), trivial⟩) ?_
         try simp only [CallK_pan, dCallK_pan, panK_ap]
         have g_0 := Option.some.inj h
         subst g_0
         rw [← hQ]
         exact ⟨rfl, _, _, RefV.dead rfl, rfl, rfl⟩
       ·
        try dsimp only at h
        refine ACalls.panA (context_reader_count_w N _ _ _ _ c_0 _ h_50) [0] (v' := .iface 148 (.agg [])) (H' := [.dead, .box [.vec false (List.map eTSpan l_2), .bool b_3] 85, .box [.fn (.func 111) [] [], .fn (.func 111) [] [], .fn (.func 111) [] [], .bool b_4] 161, .box [nn, nn, nn, nn] 45, .box [.vec false (List.map eTSet y_11), .row 5 0 (1 + y_21.length), nn, nn] 45, .mem 2 (List.map eTSet ([TSet.mk l_2 b_3] ++ y_21)) 85]) (hH := by simp only [go_sem, seval, e_2, e_25]) (ho := ⟨(by first | rfl | simp only [go_sem, seval, e_2, e_25]), trivial⟩) ?_
        try simp only [CallK_pan, dCallK_pan, panK_ap]
        have g_0 := Option.some.inj h
        subst g_0
        rw [← hQ]
        exact ⟨rfl, _, _, RefV.dead rfl, rfl, rfl⟩
     ·
      try dsimp only at h
      refine ACalls.panA (context_reader_row_w N _ _ _ c_0 _ h_18) [0] (v' := .iface 148 (.agg [])) (H' := [.dead, .box [.vec false (List.map eTSpan l_2), .bool b_3] 85, .box [.fn (.func 111) [] [], .fn (.func 111) [] [], .fn (.func 111) [] [], .bool b_4] 161, .box [nn, nn, nn, nn] 45, .box [.vec false (List.map eTSet y_11), nn, nn, nn] 45]) (hH := by simp only [go_sem, seval, e_2]) (ho := ⟨(by first | rfl | simp only [go_sem, seval, e_2]), trivial⟩) ?_
      try simp only [CallK_pan, dCallK_pan, panK_ap]
      have g_0 := Option.some.inj h
      subst g_0
      rw [← hQ]
      exact ⟨rfl, _, _, RefV.dead rfl, rfl, rfl⟩
    ·
     try dsimp only at h
     refine ACalls.panA (context_reader_count_w N _ _ _ _ c_0 _ h_14) [0] (v' := .iface 148 (.agg [])) (H' := [.dead, .box [.vec false (List.map eTSpan l_2), .bool b_3] 85, .box [.fn (.func 111) [] [], .fn (.func 111) [] [], .fn (.func 111) [] [], .bool b_4] 161, .box [nn, nn, nn, nn] 45, .box [.vec false (List.map eTSet y_11), nn, nn, nn] 45]) (hH := by simp only [go_sem, seval, e_2]) (ho := ⟨(by first | rfl | simp only [go_sem, seval, e_2]), trivial⟩) ?_
     try simp only [CallK_pan, dCallK_pan, panK_ap]
     have g_0 := Option.some.inj h
     subst g_0
     rw [← hQ]
     exact ⟨rfl, _, _, RefV.dead rfl, rfl, rfl⟩
   ·
    try dsimp only at h
    refine ACalls.panA (context_reader_row_w N _ _ _ c_0 _ h_8) [0] (v' := .iface 148 (.agg [])) (H' := [.dead, .box [.vec false (List.map eTSpan l_2), .bool b_3] 85, .box [.fn (.func 111) [] [], .fn (.func 111) [] [], .fn (.func 111) [] [], .bool b_4] 161, .box [nn, nn, nn, nn] 45, .box [nn, nn, nn, nn] 45]) (hH := by simp only [go_sem, seval, e_2]) (ho := ⟨(by first | rfl | simp only [go_sem, seval, e_2]), trivial⟩) ?_
    try simp only [CallK_pan, dCallK_pan, panK_ap]
    have g_0 := Option.some.inj h
    subst g_0
    rw [← hQ]
    exact ⟨rfl, _, _, RefV.dead rfl, rfl, rfl⟩
  ·
   try dsimp only at h
   refine ACalls.panA (context_reader_count_w N _ _ _ _ c_0 _ h_4) [0] (v' := .iface 148 (.agg [])) (H' := [.dead, .box [.vec false (List.map eTSpan l_2), .bool b_3] 85, .box [.fn (.func 111) [] [], .fn (.func 111) [] [], .fn (.func 111) [] [], .bool b_4] 161, .box [nn, nn, nn, nn] 45, .box [nn, nn, nn, nn] 45]) (hH := by simp only [go_sem, seval, e_2]) (ho := ⟨(by first | rfl | simp only [go_sem, seval, e_2]), trivial⟩) ?_
   try simp only [CallK_pan, dCallK_pan, panK_ap]
   have g_0 := Option.some.inj h
   subst g_0
   rw [← hQ]
   exact ⟨rfl, _, _, RefV.dead rfl, rfl, rfl⟩
 ·
  rw [if_neg h_1] at h
  have e_2 : b_4 = false := bfalse h_1
  obtain ⟨o_70, h_69, h⟩ := bindS h
  simp only [e_2, go_sem, seval]
  rcases o_70 with y_68 | _
  ·
   try dsimp only at h
   refine ACalls.useA (context_reader_count_w N _ _ _ _ c_0 _ h_69) [0] (v' := .int .i64 y_68) (H' := [.box [.vec c_0 (List.map eU8 l_0), .int .i64 (IntKind.i64.wrap (a_1 + 2))] 152, .box [.vec false (List.map eTSpan l_2), .bool b_3] 85, .box [.fn (.func 111) [] [], .fn (.func 111) [] [], .fn (.func 111) [] [], .bool b_4] 161, .box [nn, nn, nn, nn] 45, .box [nn, nn, nn, nn] 45]) (hH := by simp only [go_sem, seval, e_2]) (ho := ⟨(by first | rfl | simp only [go_sem, seval, e_2]), trivial⟩) ?_
   refine CallK_go (by simp) ?_
   obtain ⟨o_74, h_73, h⟩ := bindS h
   simp only [e_2, go_sem, seval]
   rcases o_74 with y_72 | _
   ·
    try dsimp only at h
    refine ACalls.useA (context_reader_count_w N _ _ _ _ c_0 _ h_73) [0] (v' := .int .i64 y_72) (H' := [.box [.vec c_0 (List.map eU8 l_0), .int .i64 (IntKind.i64.wrap ((IntKind.i64.wrap (a_1 + 2)) + 2))] 152, .box [.vec false (List.map eTSpan l_2), .bool b_3] 85, .box [.fn (.func 111) [] [], .fn (.func 111) [] [], .fn (.func 111) [] [], .bool b_4] 161, .box [nn, nn, nn, nn] 45, .box [nn, nn, nn, nn] 45]) (hH := by simp only [go_sem, seval, e_2]) (ho := ⟨(by first | rfl | simp only [go_sem, seval, e_2]), trivial⟩) ?_
    refine CallK_go (by simp) ?_
    obtain ⟨o_78, h_77, h⟩ := bindS h
    simp only [e_2, go_sem, seval]
    rcases o_78 with y_76 | _
    ·
     try dsimp only at h
     refine ACalls.useA (context_reader_row_w N _ _ _ c_0 _ h_77) [0] (v' := .vec false (List.map eI64 y_76)) (H' := [.box [.vec c_0 (List.map eU8 l_0), .int .i64 (IntKind.i64.wrap ((IntKind.i64.wrap ((IntKind.i64.wrap (a_1 + 2)) + 2)) + (IntKind.i64.wrap ((IntKind.i64.wrap (y_68 - 1)) * 2))))] 152, .box [.vec false (List.map eTSpan l_2), .bool b_3] 85, .box [.fn (.func 111) [] [], .fn (.func 111) [] [], .fn (.func 111) [] [], .bool b_4] 161, .box [nn, nn, nn, nn] 45, .box [nn, nn, nn, nn] 45]) (hH := by simp only [go_sem, seval, e_2]) (ho := ⟨(by first | rfl | simp only [go_sem, seval, e_2]), trivial⟩) ?_
     obtain ⟨y_80, h_81, h⟩ := bindS h
     simp only [e_2, go_sem, seval]
     refine ACalls.use0 (context_of_w N _ false _ h_81) rfl rfl ?_
     have e_82 : ((List.map eTSet y_80)).all (fun el => el.length == 2) = true := all_len _ eTSet 2 (fun _ => rfl)
     simp only [e_2, e_82, go_sem, seval]
     by_cases h_83 : y_80 = []
     ·
      rw [if_pos h_83] at h
      have e_84 : y_80 = [] := h_83
      obtain ⟨o_88, h_87, h⟩ := bindS h
      simp only [e_2, e_82, e_84, go_sem, seval]
      rcases o_88 with ⟨y_85, y_86⟩ | _
      ·
       try dsimp only at h
       refine ACalls.useA (context_reader_acts_w N _ _ _ _ c_0 _ h_87) [0] (v' := .vec false (List.map eTAct y_85)) (H' := [.box [.vec c_0 (List.map eU8 l_0), .int .i64 y_86] 152, .box [.vec false (List.map eTSpan l_2), .bool b_3] 85, .box [.fn (.func 111) [] [], .fn (.func 111) [] [], .fn (.func 111) [] [], .bool b_4] 161, .box [nn, nn, nn, nn] 45, .box [nn, .vec true [[.vec false (List.map eTSpan l_2), .bool b_3]], nn, nn] 45]) (hH := by simp only [go_sem, seval, e_2, e_84]) (ho := ⟨(by first | rfl | simp only [go_sem, seval, e_2, e_84]), trivial⟩) ?_
       refine CallK_go (by simp) ?_
       simp only [e_2, e_82, e_84, go_sem, seval]
       have g_0 := Option.some.inj h
       subst g_0
       rw [← hQ]
       exact ⟨rfl, _, rfl, _, _, (RefV.trans (RefV.std (v' := .agg [nn, .vec true [[.vec false (List.map eTSpan l_2), .bool b_3]], nn, .vec false (List.map eTAct y_85)]) [0] (by decide) (by decide) rfl (by first | rfl | simp only [go_sem, seval, e_2, e_84])) (RefV.weak (Wks.cons (Wk.agg (Wks.cons Wk.vec (Wks.cons Wk.vec (Wks.cons Wk.vec (Wks.cons (Wk.refl _) (Wks.nil)))))) Wks.nil) (WkH.refl _))), rfl, rfl⟩
      ·
       try dsimp only at h
       refine ACalls.panA (context_reader_acts_w N _ _ _ _ c_0 _ h_87) [0] (v' := .iface 148 (.agg [])) (H' := [.dead, .box [.vec false (List.map eTSpan l_2), .bool b_3] 85, .box [.fn (.func 111) [] [], .fn (.func 111) [] [], .fn (.func 111) [] [], .bool b_4] 161, .box [nn, nn, nn, nn] 45, .box [nn, .vec true [[.vec false (List.map eTSpan l_2), .bool b_3]], nn, nn] 45]) (hH := by simp only [go_sem, seval, e_2, e_84]) (ho := ⟨(by first | rfl | simp only [go_sem, seval, e_2, e_84]), trivial⟩) ?_
       try simp only [CallK_pan, dCallK_pan, panK_ap]
       have g_0 := Option.some.inj h
       subst g_0
       rw [← hQ]
       exact ⟨rfl, _, _, RefV.dead rfl, rfl, rfl⟩
     ·
      rw [if_neg h_83] at h
      have e_84 : (y_80.length = 0) = False ∧ (0 < y_80.length) = True := ⟨eq_false (fun q => h_83 (List.eq_nil_of_length_eq_zero q)), eq_true (Nat.pos_of_ne_zero (fun q => h_83 (List.eq_nil_of_length_eq_zero q)))⟩
      have e_90 : ((List.map eTSet y_80)).all (fun el => el.length == 2) = true := all_len _ eTSet 2 (fun _ => rfl)
      have e_91 : [[.vec false (List.map eTSpan l_2), .bool b_3]] ++ (List.map eTSet y_80) = (List.map eTSet ([TSet.mk l_2 b_3] ++ y_80)) := app_map ([TSet.mk l_2 b_3]) y_80 eTSet
      obtain ⟨h_92, h⟩ := guardS h
      have e_93 := eq_true h_92
      obtain ⟨o_97, h_96, h⟩ := bindS h
      simp only [e_2, e_82, e_84, e_90, e_91, e_93, go_sem, seval]
      rcases o_97 with ⟨y_94, y_95⟩ | _
      ·
       try dsimp only at h
       refine ACalls.useA (context_reader_acts_w N _ _ _ _ c_0 _ h_96) [0] (v' := .vec false (List.map eTAct y_94)) (H' := [.box [.vec c_0 (List.map eU8 l_0), .int .i64 y_95] 152, .box [.vec false (List.map eTSpan l_2), .bool b_3] 85, .box [.fn (.func 111) [] [], .fn (.func 111) [] [], .fn (.func 111) [] [], .bool b_4] 161, .box [nn, nn, nn, nn] 45, .box [nn, .row 5 0 (1 + y_80.length), nn, nn] 45, .mem 2 (List.map eTSet ([TSet.mk l_2 b_3] ++ y_80)) 85]) (hH := by simp only [go_sem, seval, e_2, e_84]) (ho := ⟨(by first | rfl | simp only [go_sem, seval, e_2, e_84]), trivial⟩) ?_
       refine CallK_go (by simp) ?_
       simp only [e_2, e_82, e_84, e_90, e_91, e_93, go_sem, seval]
       have g_0 := Option.some.inj h
       subst g_0
       rw [← hQ]
       exact ⟨rfl, _, rfl, _, _, (RefV.trans (RefV.frz (by simp) (id := 5) rfl (pures_map ([TSet.mk l_2 b_3] ++ y_80) eTSet (fun _ => rfl))) (RefV.trans (RefV.std (v' := .agg [nn, .vec false (List.map eTSet ([TSet.mk l_2 b_3] ++ y_80)), nn, .vec false (List.map eTAct y_94)]) [0] (by decide) (by decide) (by first | rfl | simp only [go_sem, seval, e_2, e_84]) (by first | rfl | simp only [go_sem, seval, e_2, e_84])) (RefV.weak (Wks.cons (Wk.agg (Wks.cons Wk.vec (Wks.cons (Wk.refl _) (Wks.cons Wk.vec (Wks.cons (Wk.refl _) (Wks.nil)))))) Wks.nil) (WkH.refl _)))), rfl, rfl⟩
      ·
       try dsimp only at h
       refine ACalls.panA (context_reader_acts_w N _ _ _ _ c_0 _ h_96) [0] (v' := .iface 148 (.agg [])) (H' := [.dead, .box [.vec false (List.map eTSpan l_2), .bool b_3] 85, .box [.fn (.func 111) [] [], .fn (.func 111) [] [], .fn (.func 111) [] [], .bool b_4] 161, .box [nn, nn, nn, nn] 45, .box [nn, .row 5 0 (1 + y_80.length), nn, nn] 45, .mem 2 (List.map eTSet ([TSet.mk l_2 b_3] ++ y_80)) 85]) (hH := by simp only [go_sem, seval, e_2, e_84]) (ho := ⟨(by first | rfl | simp only [go_sem, seval, e_2, e_84]), trivial⟩) ?_
       try simp only [CallK_pan, dCallK_pan, panK_ap]
       have g_0 := Option.some.inj h
       subst g_0
       rw [← hQ]
       exact ⟨rfl, _, _, RefV.dead rfl, rfl, rfl⟩
    ·
     try dsimp only at h
     refine ACalls.panA (context_reader_row_w N _ _ _ c_0 _ h_77) [0] (v' := .iface 148 (.agg [])) (H' := [.dead, .box [.vec false (List.map eTSpan l_2), .bool b_3] 85, .box [.fn (.func 111) [] [], .fn (.func 111) [] [], .fn (.func 111) [] [], .bool b_4] 161, .box [nn, nn, nn, nn] 45, .box [nn, nn, nn, nn] 45]) (hH := by simp only [go_sem, seval, e_2]) (ho := ⟨(by first | rfl | simp only [go_sem, seval, e_2]), trivial⟩) ?_
     try simp only [CallK_pan, dCallK_pan, panK_ap]
     have g_0 := Option.some.inj h
     subst g_0
     rw [← hQ]
     exact ⟨rfl, _, _, RefV.dead rfl, rfl, rfl⟩
   ·
    try dsimp only at h
    refine ACalls.panA (context_reader_count_w N _ _ _ _ c_0 _ h_73) [0] (v' := .iface 148 (.agg [])) (H' := [.dead, .box [.vec false (List.map eTSpan l_2), .bool b_3] 85, .box [.fn (.func 111) [] [], .fn (.func 111) [] [], .fn (.func 111) [] [], .bool b_4] 161, .box [nn, nn, nn, nn] 45, .box [nn, nn, nn, nn] 45]) (hH := by simp only [go_sem, seval, e_2]) (ho := ⟨(by first | rfl | simp only [go_sem, seval, e_2]), trivial⟩) ?_
    try simp only [CallK_pan, dCallK_pan, panK_ap]
    have g_0 := Option.some.inj h
    subst g_0
    rw [← hQ]
    exact ⟨rfl, _, _, RefV.dead rfl, rfl, rfl⟩
  ·
   try dsimp only at h
   refine ACalls.panA (context_reader_count_w N _ _ _ _ c_0 _ h_69) [0] (v' := .iface 148 (.agg [])) (H' := [.dead, .box [.vec false (List.map eTSpan l_2), .bool b_3] 85, .box [.fn (.func 111) [] [], .fn (.func 111) [] [], .fn (.func 111) [] [], .bool b_4] 161, .box [nn, nn, nn, nn] 45, .box [nn, nn, nn, nn] 45]) (hH := by simp only [go_sem, seval, e_2]) (ho := ⟨(by first | rfl | simp only [go_sem, seval, e_2]), trivial⟩) ?_
   try simp only [CallK_pan, dCallK_pan, panK_ap]
   have g_0 := Option.some.inj h
   subst g_0
   rw [← hQ]
   exact ⟨rfl, _, _, RefV.dead rfl, rfl, rfl⟩
theorem context_reader_list_row_L2_w (N : Nat) (a_2 : Int) (i_1 : Int) (x_4 : Int) (l_3 : List Int) (y_18 : List Int) (l_0 : List Int) (a_1 : Int) (l_4 : List Int) (b_5 : Bool) (c_1 : Bool) (c_0 : Bool) {R : AExit → ATm → List AObj → Prop} : ∀ (n : Nat) (i_22 : Int) (s_23 : List TCtx) (o : ((List TCtx)) ⊕ (Unit)), context_reader_list_row_L2 N a_2 i_1 x_4 l_3 y_18 l_0 a_1 l_4 b_5 n i_22 s_23 = some o → (match o with | .inl z_1 => R (.exit 2) ⟨75, [(0, .ptr 0 0 0), (1, .int .i64 a_2), (3, .fn (.func 110) [] [.ptr 1 0 0]), (9, .ptr 4 0 0), (11, .row 5 0 z_1.length), (18, .vec c_1 (List.map eI64 l_3)), (19, .int .i64 (l_3.length : Int)), (20, .int .i64 i_1)], []⟩ [.box [.vec c_0 (List.map eU8 l_0), .int .i64 a_1] 152, .box [.row 3 0 l_4.length] 48, .dead, .mem 1 (List.map eI64 l_4) 3, .box [.fn (.func 111) [] [], .fn (.func 111) [] [], .fn (.func 111) [] [], .bool b_5] 161, .mem 4 (List.map eTCtx z_1) 45] | .inr (_) => ∀ (tb : ATm) (Hb : List AObj), tb.ds = [] → R (.pan (.iface 148 (.agg []))) tb Hb) →
  ALp Try.prog 3 B109_2 ⟨75, [(0, .ptr 0 0 0), (1, .int .i64 a_2), (3, .fn (.func 110) [] [.ptr 1 0 0]), (9, .ptr 4 0 0), (11, .row 5 0 s_23.length), (12, .int .i64 i_1), (13, .int .i64 x_4), (18, .vec c_1 (List.map eI64 l_3)), (19, .int .i64 (l_3.length : Int)), (20, .int .i64 i_1), (43, .vec false (List.map eI64 y_18)), (44, .int .i64 (y_18.length : Int)), (45, .int .i64 i_22)], []⟩ [.box [.vec c_0 (List.map eU8 l_0), .int .i64 a_1] 152, .box [.row 3 0 l_4.length] 48, .dead, .mem 1 (List.map eI64 l_4) 3, .box [.fn (.func 111) [] [], .fn (.func 111) [] [], .fn (.func 111) [] [], .bool b_5] 161, .mem 4 (List.map eTCtx s_23) 45] R := by
 intro n
 induction n with
 | zero =>
  intro i_22 s_23 o h _
  have h0 : none = some o := h
  cases h0
 | succ n ih =>
  intro i_22 s_23 o h hp
  rw [context_reader_list_row_L2] at h
  refine ALp.round ?_
  generalize hQ : RoundQ _ _ _ _ = QQ
  simp only [B109_2, B109_1, A109, go_sem, seval]
  by_cases h_24 : i_22 < (y_18.length : Int)
  ·
   rw [if_pos h_24] at h
   have e_25 := eq_true h_24
   obtain ⟨x_26, h_27, h⟩ := bindS h
   have e_28 : (List.map eI64 y_18)[(i_22).toNat]? = some [.int .i64 x_26] := atI_map eI64 h_27
   have e_29 := eq_true (atI_some h_27).1
   have e_30 := eq_true (atI_lt h_27)
   simp only [e_25, e_28, e_29, e_30, go_sem, seval]
   refine ⟨?_, ?_⟩
   ·
    obtain ⟨⟨y_31, y_32⟩, h_33, h⟩ := bindS h
    try dsimp only at h
    try simp only [e_25, e_28, e_29, e_30, go_sem, seval]
    refine ACalls.useA (context_reader_single_1_row_w N _ _ _ _ h_33) [1, 3] (v' := .agg [.vec false (List.map eTSpan y_31), .bool y_32]) (H' := [.box [.vec c_0 (List.map eU8 l_0), .int .i64 a_1] 152, .box [.row 7 0 l_4.length] 48, .dead, .dead, .box [.fn (.func 111) [] [], .fn (.func 111) [] [], .fn (.func 111) [] [], .bool b_5] 161, .mem 4 (List.map eTCtx s_23) 45, .box [.vec c_0 (List.map eU8 l_0), .int .i64 (IntKind.i64.wrap ((IntKind.i64.wrap (a_2 + x_4)) + x_26))] 152, .mem 1 (List.map eI64 l_4) 3]) (hH := by simp only [go_sem, seval, e_25]) (ho := ⟨(by first | rfl | simp only [go_sem, seval, e_25]), (by first | rfl | simp only [go_sem, seval, e_25]), trivial⟩) ?_
    obtain ⟨o_40, h_39, h⟩ := bindS h
    simp only [e_25, e_28, e_29, e_30, go_sem, seval]
    rcases o_40 with ⟨y_34, y_35, y_36, y_37, y_38⟩ | _
    ·
     try dsimp only at h
     refine ACalls.useA (context_reader_rule_w N _ _ _ _ _ c_0 _ h_39) [6] (v' := .agg [.vec false (List.map eTSet y_34), .vec false (List.map eTSet y_35), .vec false (List.map eTSet y_36), .vec false (List.map eTAct y_37)]) (H' := [.box [.vec c_0 (List.map eU8 l_0), .int .i64 a_1] 152, .box [.row 7 0 l_4.length] 48, .dead, .dead, .box [.fn (.func 111) [] [], .fn (.func 111) [] [], .fn (.func 111) [] [], .bool b_5] 161, .mem 4 (List.map eTCtx s_23) 45, .box [.vec c_0 (List.map eU8 l_0), .int .i64 y_38] 152, .mem 1 (List.map eI64 l_4) 3]) (hH := by simp only [go_sem, seval, e_25]) (ho := ⟨(by first | rfl | simp only [go_sem, seval, e_25]), trivial⟩) ?_
     have e_42 : List.take s_23.length (List.map eTCtx s_23) = (List.map eTCtx s_23) := List.take_of_length_le (by simp)
     have e_43 : (List.map eTCtx s_23) ++ [[.vec false (List.map eTSet y_34), .vec false (List.map eTSet y_35), .vec false (List.map eTSet y_36), .vec false (List.map eTAct y_37)]] = (List.map eTCtx (s_23 ++ [TCtx.mk y_34 y_35 y_36 y_37])) := app_map s_23 ([TCtx.mk y_34 y_35 y_36 y_37]) eTCtx
     obtain ⟨h_44, h⟩ := guardS h
     have e_45 := eq_true h_44
     obtain ⟨o_47, h_46, h⟩ := bindS h
     simp only [e_25, e_28, e_29, e_30, e_42, e_43, e_45, go_sem, seval]
     rcases o_47 with _ | _
     ·
      try dsimp only at h
      refine ACalls.use0 (context_must_w N _ _ h_46) rfl rfl ?_
      refine CallK_go (by simp) ?_
      simp only [e_25, e_28, e_29, e_30, e_42, e_43, e_45, go_sem, seval]
      rw [← hQ]
      exact ⟨_, _, (Ref.std [0, 1, 3, 9, 11, 12, 13, 18, 19, 20, 43, 44, 45] [0, 1, 2, 7, 4, 8] (by decide) (by decide) (by first | rfl | simp only [go_sem, seval]) (by first | rfl | simp only [go_sem, seval, e_25])), (by simp), ih _ _ _ h hp⟩
     ·
      try dsimp only at h
      refine ACalls.panA (context_must_w N _ _ h_46) [] (v' := .iface 148 (.agg [])) (H' := [.box [.vec c_0 (List.map eU8 l_0), .int .i64 a_1] 152, .box [.row 7 0 l_4.length] 48, .dead, .dead, .box [.fn (.func 111) [] [], .fn (.func 111) [] [], .fn (.func 111) [] [], .bool b_5] 161, .dead, .box [.vec c_0 (List.map eU8 l_0), .int .i64 y_38] 152, .mem 1 (List.map eI64 l_4) 3, .mem 4 (List.map eTCtx (s_23 ++ [TCtx.mk y_34 y_35 y_36 y_37])) 45]) (hH := by simp only [go_sem, seval, e_25]) ?_
      try simp only [CallK_pan, dCallK_pan, panK_ap]
      have g := Option.some.inj h
      subst g
      rw [← hQ]
      exact hp _ _ rfl
    ·
     try dsimp only at h
     refine ACalls.panA (context_reader_rule_w N _ _ _ _ _ c_0 _ h_39) [6] (v' := .iface 148 (.agg [])) (H' := [.box [.vec c_0 (List.map eU8 l_0), .int .i64 a_1] 152, .box [.row 7 0 l_4.length] 48, .dead, .dead, .box [.fn (.func 111) [] [], .fn (.func 111) [] [], .fn (.func 111) [] [], .bool b_5] 161, .mem 4 (List.map eTCtx s_23) 45, .dead, .mem 1 (List.map eI64 l_4) 3]) (hH := by simp only [go_sem, seval, e_25]) (ho := ⟨(by first | rfl | simp only [go_sem, seval, e_25]), trivial⟩) ?_
     try simp only [CallK_pan, dCallK_pan, panK_ap]
     have g := Option.some.inj h
     subst g
     rw [← hQ]
     exact hp _ _ rfl
   ·
    obtain ⟨⟨y_31, y_32⟩, h_33, h⟩ := bindS h
    try dsimp only at h
    try simp only [e_25, e_28, e_29, e_30, go_sem, seval]
    refine ACalls.useA (context_reader_single_1_row_w N _ _ _ _ h_33) [1, 3] (v' := .agg [.vec false (List.map eTSpan y_31), .bool y_32]) (H' := [.box [.vec c_0 (List.map eU8 l_0), .int .i64 a_1] 152, .box [.row 6 0 l_4.length] 48, .dead, .dead, .box [.fn (.func 111) [] [], .fn (.func 111) [] [], .fn (.func 111) [] [], .bool b_5] 161, .mem 4 (List.map eTCtx s_23) 45, .mem 1 (List.map eI64 l_4) 3]) (hH := by simp only [go_sem, seval, e_25]) (ho := ⟨(by first | rfl | simp only [go_sem, seval, e_25]), (by first | rfl | simp only [go_sem, seval, e_25]), trivial⟩) ?_
    obtain ⟨o_40, h_39, h⟩ := bindS h
    simp only [e_25, e_28, e_29, e_30, go_sem, seval]
    rcases o_40 with ⟨y_34, y_35, y_36, y_37, y_38⟩ | _
    ·
     try dsimp only at h
     refine ACalls.useA (context_reader_rule_w N _ _ _ _ _ c_0 _ h_39) [7] (v' := .agg [.vec false (List.map eTSet y_34), .vec false (List.map eTSet y_35), .vec false (List.map eTSet y_36), .vec false (List.map eTAct y_37)]) (H' := [.box [.vec c_0 (List.map eU8 l_0), .int .i64 a_1] 152, .box [.row 6 0 l_4.length] 48, .dead, .dead, .box [.fn (.func 111) [] [], .fn (.func 111) [] [], .fn (.func 111) [] [], .bool b_5] 161, .mem 4 (List.map eTCtx s_23) 45, .mem 1 (List.map eI64 l_4) 3, .box [.vec c_0 (List.map eU8 l_0), .int .i64 y_38] 152]) (hH := by simp only [go_sem, seval, e_25]) (ho := ⟨(by first | rfl | simp only [go_sem, seval, e_25]), trivial⟩) ?_
     have e_42 : List.take s_23.length (List.map eTCtx s_23) = (List.map eTCtx s_23) := List.take_of_length_le (by simp)
     have e_43 : (List.map eTCtx s_23) ++ [[.vec false (List.map eTSet y_34), .vec false (List.map eTSet y_35), .vec false (List.map eTSet y_36), .vec false (List.map eTAct y_37)]] = (List.map eTCtx (s_23 ++ [TCtx.mk y_34 y_35 y_36 y_37])) := app_map s_23 ([TCtx.mk y_34 y_35 y_36 y_37]) eTCtx
     obtain ⟨h_44, h⟩ := guardS h
     have e_45 := eq_true h_44
     obtain ⟨o_47, h_46, h⟩ := bindS h
     simp only [e_25, e_28, e_29, e_30, e_42, e_43, e_45, go_sem, seval]
     rcases o_47 with _ | _
     ·
      try dsimp only at h
      refine ACalls.use0 (context_must_w N _ _ h_46) rfl rfl ?_
      refine CallK_go (by simp) ?_
      simp only [e_25, e_28, e_29, e_30, e_42, e_43, e_45, go_sem, seval]
      rw [← hQ]
      exact ⟨_, _, (Ref.std [0, 1, 3, 9, 11, 12, 13, 18, 19, 20, 43, 44, 45] [0, 1, 2, 6, 4, 8] (by decide) (by decide) (by first | rfl | simp only [go_sem, seval]) (by first | rfl | simp only [go_sem, seval, e_25])), (by simp), ih _ _ _ h hp⟩
     ·
      try dsimp only at h
      refine ACalls.panA (context_must_w N _ _ h_46) [] (v' := .iface 148 (.agg [])) (H' := [.box [.vec c_0 (List.map eU8 l_0), .int .i64 a_1] 152, .box [.row 6 0 l_4.length] 48, .dead, .dead, .box [.fn (.func 111) [] [], .fn (.func 111) [] [], .fn (.func 111) [] [], .bool b_5] 161, .dead, .mem 1 (List.map eI64 l_4) 3, .box [.vec c_0 (List.map eU8 l_0), .int .i64 y_38] 152, .mem 4 (List.map eTCtx (s_23 ++ [TCtx.mk y_34 y_35 y_36 y_37])) 45]) (hH := by simp only [go_sem, seval, e_25]) ?_
      try simp only [CallK_pan, dCallK_pan, panK_ap]
      have g := Option.some.inj h
      subst g
      rw [← hQ]
      exact hp _ _ rfl
    ·
     try dsimp only at h
     refine ACalls.panA (context_reader_rule_w N _ _ _ _ _ c_0 _ h_39) [7] (v' := .iface 148 (.agg [])) (H' := [.box [.vec c_0 (List.map eU8 l_0), .int .i64 a_1] 152, .box [.row 6 0 l_4.length] 48, .dead, .dead, .box [.fn (.func 111) [] [], .fn (.func 111) [] [], .fn (.func 111) [] [], .bool b_5] 161, .mem 4 (List.map eTCtx s_23) 45, .mem 1 (List.map eI64 l_4) 3, .dead]) (hH := by simp only [go_sem, seval, e_25]) (ho := ⟨(by first | rfl | simp only [go_sem, seval, e_25]), trivial⟩) ?_
     try simp only [CallK_pan, dCallK_pan, panK_ap]
     have g := Option.some.inj h
     subst g
     rw [← hQ]
     exact hp _ _ rfl
  ·
   rw [if_neg h_24] at h
   have e_25 := eq_false h_24
   simp only [e_25, go_sem, seval]
   have g := Option.some.inj h
   subst g
   rw [← hQ]
   exact ⟨_, _, (Ref.std [0, 1, 3, 9, 11, 18, 19, 20] [0, 1, 2, 3, 4, 5] (by decide) (by decide) rfl (by first | rfl | simp only [go_sem, seval, e_25])), hp⟩
theorem context_reader_list_row_L3_w (N : Nat) (a_2 : Int) (l_3 : List Int) (l_0 : List Int) (a_1 : Int) (l_4 : List Int) (b_5 : Bool) (c_1 : Bool) (c_0 : Bool) {R : AExit → ATm → List AObj → Prop} : ∀ (n : Nat) (i_1 : Int) (s_2 : List TCtx) (o : ((List TCtx)) ⊕ (Unit)), context_reader_list_row_L3 N a_2 l_3 l_0 a_1 l_4 b_5 n i_1 s_2 = some o → (match o with | .inl z_1 => R (.exit 0) ⟨75, [(11, .row 4 0 z_1.length)], []⟩ [.box [.vec c_0 (List.map eU8 l_0), .int .i64 a_1] 152, .box [.row 3 0 l_4.length] 48, .dead, .mem 1 (List.map eI64 l_4) 3, .mem 4 (List.map eTCtx z_1) 45] | .inr (_) => ∀ (tb : ATm) (Hb : List AObj), tb.ds = [] → R (.pan (.iface 148 (.agg []))) tb Hb) →
  ALp Try.prog 3 B109_1 ⟨75, [(0, .ptr 0 0 0), (1, .int .i64 a_2), (3, .fn (.func 110) [] [.ptr 1 0 0]), (9, .ptr 4 0 0), (11, .row 5 0 s_2.length), (18, .vec c_1 (List.map eI64 l_3)), (19, .int .i64 (l_3.length : Int)), (20, .int .i64 i_1)], []⟩ [.box [.vec c_0 (List.map eU8 l_0), .int .i64 a_1] 152, .box [.row 3 0 l_4.length] 48, .dead, .mem 1 (List.map eI64 l_4) 3, .box [.fn (.func 111) [] [], .fn (.func 111) [] [], .fn (.func 111) [] [], .bool b_5] 161, .mem 4 (List.map eTCtx s_2) 45] R := by
 intro n
 induction n with
 | zero =>
  intro i_1 s_2 o h _
  have h0 : none = some o := h
  cases h0
 | succ n ih =>
  intro i_1 s_2 o h hp
  rw [context_reader_list_row_L3] at h
  refine ALp.round ?_
  generalize hQ : RoundQ _ _ _ _ = QQ
  simp only [B109_1, A109, go_sem, seval]
  by_cases h_3 : i_1 < (l_3.length : Int)
  ·
   rw [if_pos h_3] at h
   have e_4 := eq_true h_3
   obtain ⟨x_5, h_6, h⟩ := bindS h
   have e_7 : (List.map eI64 l_3)[(i_1).toNat]? = some [.int .i64 x_5] := atI_map eI64 h_6
   have e_8 := eq_true (atI_some h_6).1
   have e_9 := eq_true (atI_lt h_6)
   simp only [e_4, e_7, e_8, e_9, go_sem, seval]
   by_cases h_10 : x_5 = 0
   ·
    rw [if_pos h_10] at h
    have e_11 := eq_true h_10
    simp only [e_4, e_7, e_8, e_9, e_11, go_sem, seval]
    rw [← hQ]
    exact ⟨_, _, (Ref.std [0, 1, 3, 9, 11, 18, 19, 20] [0, 1, 2, 3, 4, 5] (by decide) (by decide) rfl (by first | rfl | simp only [go_sem, seval, e_4, e_11])), (by simp), ih _ _ _ h hp⟩
   ·
    rw [if_neg h_10] at h
    have e_11 := eq_false h_10
    obtain ⟨o_14, h_13, h⟩ := bindS h
    simp only [e_4, e_7, e_8, e_9, e_11, go_sem, seval]
    rcases o_14 with y_12 | _
    ·
     try dsimp only at h
     refine ACalls.useA (context_reader_number_w N _ _ c_0 _ h_13) [6] (v' := .int .i64 y_12) (H' := [.box [.vec c_0 (List.map eU8 l_0), .int .i64 a_1] 152, .box [.row 3 0 l_4.length] 48, .dead, .mem 1 (List.map eI64 l_4) 3, .box [.fn (.func 111) [] [], .fn (.func 111) [] [], .fn (.func 111) [] [], .bool b_5] 161, .mem 4 (List.map eTCtx s_2) 45, .box [.vec c_0 (List.map eU8 l_0), .int .i64 (IntKind.i64.wrap ((IntKind.i64.wrap (a_2 + x_5)) + 2))] 152]) (hH := by simp only [go_sem, seval, e_4, e_11]) (ho := ⟨(by first | rfl | simp only [go_sem, seval, e_4, e_11]), trivial⟩) ?_
     refine CallK_go (by simp) ?_
     obtain ⟨o_17, h_16, h⟩ := bindS h
     simp only [e_4, e_7, e_8, e_9, e_11, go_sem, seval]
     rcases o_17 with _ | _
     ·
      try dsimp only at h
      refine ACalls.use0 (context_must_w N _ _ h_16) rfl rfl ?_
      refine CallK_go (by simp) ?_
      obtain ⟨o_21, h_20, h⟩ := bindS h
      simp only [e_4, e_7, e_8, e_9, e_11, go_sem, seval]
      rcases o_21 with y_19 | _
      ·
       try dsimp only at h
       refine ACalls.useA (context_reader_row_w N _ _ _ c_0 _ h_20) [6] (v' := .vec false (List.map eI64 y_19)) (H' := [.box [.vec c_0 (List.map eU8 l_0), .int .i64 a_1] 152, .box [.row 3 0 l_4.length] 48, .dead, .mem 1 (List.map eI64 l_4) 3, .box [.fn (.func 111) [] [], .fn (.func 111) [] [], .fn (.func 111) [] [], .bool b_5] 161, .mem 4 (List.map eTCtx s_2) 45, .box [.vec c_0 (List.map eU8 l_0), .int .i64 (IntKind.i64.wrap ((IntKind.i64.wrap ((IntKind.i64.wrap (a_2 + x_5)) + 2)) + (IntKind.i64.wrap (y_12 * 2))))] 152]) (hH := by simp only [go_sem, seval, e_4, e_11]) (ho := ⟨(by first | rfl | simp only [go_sem, seval, e_4, e_11]), trivial⟩) ?_
       refine CallK_go (by simp) ?_
       simp only [e_4, e_7, e_8, e_9, e_11, go_sem, seval]
       obtain ⟨o_1025, h_1023, h⟩ := bindS h
       refine ALp.ref (Ref.std [0, 1, 3, 9, 11, 12, 13, 18, 19, 20, 43, 44, 45] [0, 1, 2, 3, 4, 5] (by decide) (by decide) rfl (by first | rfl | simp only [go_sem, seval, e_4, e_11])) (by simp) (context_reader_list_row_L2_w N _ _ _ _ _ _ _ _ _ c_1 c_0 N _ _ o_1025 h_1023 ?_)
       rcases o_1025 with y_1024 | _
       ·
        try dsimp only at h
        refine LoopK_go rfl (by simp) ?_
        simp only [e_4, e_7, e_8, e_9, e_11, go_sem, seval]
        rw [← hQ]
        exact ⟨_, _, (Ref.std [0, 1, 3, 9, 11, 18, 19, 20] [0, 1, 2, 3, 4, 5] (by decide) (by decide) rfl (by first | rfl | simp only [go_sem, seval, e_4, e_11])), (by simp), ih _ _ _ h hp⟩
       ·
        try dsimp only at h
        intro _ _ h_1026
        refine LoopK_pan ?_
        have g := Option.some.inj h
        subst g
        rw [← hQ]
        exact hp _ _ h_1026
      ·
       try dsimp only at h
       refine ACalls.panA (context_reader_row_w N _ _ _ c_0 _ h_20) [6] (v' := .iface 148 (.agg [])) (H' := [.box [.vec c_0 (List.map eU8 l_0), .int .i64 a_1] 152, .box [.row 3 0 l_4.length] 48, .dead, .mem 1 (List.map eI64 l_4) 3, .box [.fn (.func 111) [] [], .fn (.func 111) [] [], .fn (.func 111) [] [], .bool b_5] 161, .mem 4 (List.map eTCtx s_2) 45, .dead]) (hH := by simp only [go_sem, seval, e_4, e_11]) (ho := ⟨(by first | rfl | simp only [go_sem, seval, e_4, e_11]), trivial⟩) ?_
       try simp only [CallK_pan, dCallK_pan, panK_ap]
       have g := Option.some.inj h
       subst g
       rw [← hQ]
       exact hp _ _ rfl
     ·
      try dsimp only at h
      refine ACalls.panA (context_must_w N _ _ h_16) [] (v' := .iface 148 (.agg [])) (H' := [.box [.vec c_0 (List.map eU8 l_0), .int .i64 a_1] 152, .box [.row 3 0 l_4.length] 48, .dead, .mem 1 (List.map eI64 l_4) 3, .box [.fn (.func 111) [] [], .fn (.func 111) [] [], .fn (.func 111) [] [], .bool b_5] 161, .mem 4 (List.map eTCtx s_2) 45, .box [.vec c_0 (List.map eU8 l_0), .int .i64 (IntKind.i64.wrap ((IntKind.i64.wrap (a_2 + x_5)) + 2))] 152]) (hH := by simp only [go_sem, seval, e_4, e_11]) ?_
      try simp only [CallK_pan, dCallK_pan, panK_ap]
      have g := Option.some.inj h
      subst g
      rw [← hQ]
      exact hp _ _ rfl
    ·
     try dsimp only at h
     refine ACalls.panA (context_reader_number_w N _ _ c_0 _ h_13) [6] (v' := .iface 148 (.agg [])) (H' := [.box [.vec c_0 (List.map eU8 l_0), .int .i64 a_1] 152, .box [.row 3 0 l_4.length] 48, .dead, .mem 1 (List.map eI64 l_4) 3, .box [.fn (.func 111) [] [], .fn (.func 111) [] [], .fn (.func 111) [] [], .bool b_5] 161, .mem 4 (List.map eTCtx s_2) 45, .dead]) (hH := by simp only [go_sem, seval, e_4, e_11]) (ho := ⟨(by first | rfl | simp only [go_sem, seval, e_4, e_11]), trivial⟩) ?_
     try simp only [CallK_pan, dCallK_pan, panK_ap]
     have g := Option.some.inj h
     subst g
     rw [← hQ]
     exact hp _ _ rfl
  ·
   rw [if_neg h_3] at h
   have e_4 := eq_false h_3
   simp only [e_4, go_sem, seval]
   have g := Option.some.inj h
   subst g
   rw [← hQ]
   exact ⟨_, _, (Ref.std [11] [0, 1, 2, 3, 5] (by decide) (by decide) rfl (by first | rfl | simp only [go_sem, seval])), hp⟩
theorem context_reader_list_row_w (N : Nat) (l_0 : List Int) (a_1 : Int) (a_2 : Int) (l_3 : List Int) (l_4 : List Int) (b_5 : Bool) (c_0 : Bool) (c_1 : Bool) (o : ((List TCtx)) ⊕ Unit) (h : context_reader_list_row N l_0 a_1 a_2 l_3 l_4 b_5 = some o) :
  ACalls Try.prog 109 [.ptr 0 0 0, .int .i64 a_2, .vec c_1 (List.map eI64 l_3), .fn (.func 110) [] [.ptr 1 0 0], .agg [.fn (.func 111) [] [], .fn (.func 111) [] [], .fn (.func 111) [] [], .bool b_5]] [.box [.vec c_0 (List.map eU8 l_0), .int .i64 a_1] 152, .box [.row 2 0 l_4.length] 48, .mem 1 (List.map eI64 l_4) 3] (fun e H => match o with | .inl z_1 => H = [.box [.vec c_0 (List.map eU8 l_0), .int .i64 a_1] 152, .box [.row 3 0 l_4.length] 48, .dead, .mem 1 (List.map eI64 l_4) 3] ∧ e = .ret (.vec false (List.map eTCtx z_1)) | .inr _ => H = [.dead, .dead, .dead] ∧ e = .pan (.iface 148 (.agg []))) := by
 unfold context_reader_list_row at h
 refine ACalls.goN Try.func109 n109 a109 Try.ntmps109 r109 (by simp) 3 rfl ?_
 generalize hQ : bodyA _ _ _ = QQ
 simp only [A109, go_sem, seval]
 obtain ⟨o_1003, h_1001, h⟩ := bindS h
 refine ALp.ref (Ref.trans (Ref.thaw (by simp) 11 rfl (sz := 4) (by decide) 45) (Ref.trans (Ref.move (by simp) (id := 2) rfl rfl) (Ref.std [0, 1, 3, 9, 11, 18, 19, 20] [0, 1, 2, 5, 3, 4] (by decide) (by decide) rfl (by first | rfl | simp only [go_sem, seval])))) (by simp) (context_reader_list_row_L3_w N _ _ _ _ _ _ c_1 c_0 N _ _ o_1003 h_1001 ?_)
 rcases o_1003 with y_1002 | _
 ·
  try dsimp only at h
  refine LoopK_go rfl (by simp) ?_
  simp only [go_sem, seval]
  have g_0 := Option.some.inj h
  subst g_0
  rw [← hQ]
  exact ⟨rfl, _, rfl, _, _, (RefV.trans (RefV.frz (by simp) (id := 4) rfl (pures_map y_1002 eTCtx (fun _ => rfl))) (RefV.std [0, 1, 2, 3] (by decide) (by decide) (by first | rfl | simp only [go_sem, seval]) (by first | rfl | simp only [go_sem, seval]))), rfl, rfl⟩
 ·
  try dsimp only at h
  intro _ _ h_1004
  refine LoopK_pan ?_
  have g_0 := Option.some.inj h
  subst g_0
  rw [← hQ]
  exact ⟨h_1004, _, _, RefV.dead rfl, rfl, rfl⟩
theorem context_reader_single_w (N : Nat) (l_0 : List Int) (a_1 : Int) (a_2 : Int) (b_3 : Bool) (c_0 : Bool) (o : ((List TCtx) × Int) ⊕ Unit) (h : context_reader_single N l_0 a_1 a_2 b_3 = some o) :
  ACalls Try.prog 96 [.ptr 0 0 0, .int .i64 a_2, .bool b_3] [.box [.vec c_0 (List.map eU8 l_0), .int .i64 a_1] 152] (fun e H => match o with | .inl (z_1, z_2) => H = [.box [.vec c_0 (List.map eU8 l_0), .int .i64 z_2] 152] ∧ e = .ret (.vec false (List.map eTCtx z_1)) | .inr _ => H = [.dead] ∧ e = .pan (.iface 148 (.agg []))) := by
 unfold context_reader_single at h
 refine ACalls.goN Try.func96 n96 a96 Try.ntmps96 r96 (by simp) 1 rfl ?_
 generalize hQ : bodyA _ _ _ = QQ
 obtain ⟨o_3, h_2, h⟩ := bindS h
 simp only [A96, go_sem, seval]
 rcases o_3 with y_1 | _
 ·
  try dsimp only at h
  refine ACalls.useA (context_reader_row_w N _ _ _ c_0 _ h_2) [0] (v' := .vec false (List.map eI64 y_1)) (H' := [.box [.vec c_0 (List.map eU8 l_0), .int .i64 (IntKind.i64.wrap (a_1 + (IntKind.i64.wrap 2)))] 152]) ?_
  refine CallK_go (by simp) ?_
  obtain ⟨o_7, h_6, h⟩ := bindS h
  simp only [go_sem, seval]
  rcases o_7 with y_5 | _
  ·
   try dsimp only at h
   refine ACalls.useA (context_reader_covers_w N _ _ _ _ c_0 false _ h_6) [0] (v' := .vec false (List.map eTSet y_5)) (H' := [.box [.vec c_0 (List.map eU8 l_0), .int .i64 (IntKind.i64.wrap (a_1 + (IntKind.i64.wrap 2)))] 152]) ?_
   refine CallK_go (by simp) ?_
   obtain ⟨x_9, h_10, h⟩ := bindS h
   have e_11 : (List.map eTSet y_5)[0]? = some [.vec false (List.map eTSpan x_9.Spans), .bool x_9.Not] := atI_map eTSet h_10
   have e_12 := eq_true (atI_lt h_10)
   obtain ⟨o_15, h_14, h⟩ := bindS h
   simp only [e_11, e_12, go_sem, seval]
   rcases o_15 with y_13 | _
   ·
    try dsimp only at h
    refine ACalls.useA (context_reader_number_w N _ _ c_0 _ h_14) [0] (v' := .int .i64 y_13) (H' := [.box [.vec c_0 (List.map eU8 l_0), .int .i64 (IntKind.i64.wrap ((IntKind.i64.wrap (a_1 + (IntKind.i64.wrap 2))) + 2))] 152]) ?_
    refine CallK_go (by simp) ?_
    obtain ⟨y_17, h_18, h⟩ := bindS h
    simp only [e_11, e_12, go_sem, seval]
    refine ACalls.use0 (cover_Count_w N _ false _ h_18) rfl rfl ?_
    refine CallK_go (by simp) ?_
    obtain ⟨o_20, h_19, h⟩ := bindS h
    simp only [e_11, e_12, go_sem, seval]
    rcases o_20 with _ | _
    ·
     try dsimp only at h
     refine ACalls.use0 (context_must_w N _ _ h_19) rfl rfl ?_
     refine CallK_go (by simp) ?_
     simp only [e_11, e_12, go_sem, seval]
     obtain ⟨y_1023, h_1022, h⟩ := bindS h
     refine ALp.ref (Ref.trans (Ref.thawB (by simp) (id := 1) 0 rfl rfl (sz := 1) (by decide) 3) (Ref.std [0, 1, 2, 8, 9, 28, 29, 30] [0, 1, 2] (by decide) (by decide) rfl (by first | rfl | simp only [go_sem, seval]))) (by simp) (context_reader_single_L3_w N _ _ _ _ _ _ c_0 N _ _ y_1023 h_1022 ?_)
     refine LoopK_go rfl (by simp) ?_
     obtain ⟨o_1026, h_1025, h⟩ := bindS h
     simp only [e_11, e_12, go_sem, seval]
     rcases o_1026 with y_1024 | _
     ·
      try dsimp only at h
      refine ACalls.useA (context_reader_row_w N _ _ _ c_0 _ h_1025) [0] (v' := .vec false (List.map eI64 y_1024)) (H' := [.box [.vec c_0 (List.map eU8 l_0), .int .i64 (IntKind.i64.wrap ((IntKind.i64.wrap ((IntKind.i64.wrap (a_1 + (IntKind.i64.wrap 2))) + 2)) + (IntKind.i64.wrap (y_13 * 2))))] 152, .box [.row 2 0 y_1023.length] 48, .mem 1 (List.map eI64 y_1023) 3]) ?_
      refine CallK_go (by simp) ?_
      obtain ⟨o_1030, h_1029, h⟩ := bindS h
      simp only [e_11, e_12, go_sem, seval]
      rcases o_1030 with y_1028 | _
      ·
       try dsimp only at h
       refine ACalls.useA (context_reader_list_row_w N _ _ _ _ _ _ c_0 false _ h_1029) [0, 1, 2] (v' := .vec false (List.map eTCtx y_1028)) (H' := [.box [.vec c_0 (List.map eU8 l_0), .int .i64 (IntKind.i64.wrap ((IntKind.i64.wrap ((IntKind.i64.wrap (a_1 + (IntKind.i64.wrap 2))) + 2)) + (IntKind.i64.wrap (y_13 * 2))))] 152, .box [.row 3 0 y_1023.length] 48, .dead, .mem 1 (List.map eI64 y_1023) 3]) ?_
       refine CallK_go (by simp) ?_
       simp only [e_11, e_12, go_sem, seval]
       have g_0 := Option.some.inj h
       subst g_0
       rw [← hQ]
       exact ⟨rfl, _, rfl, _, _, (RefV.std [0] (by decide) (by decide) rfl (by first | rfl | simp only [go_sem, seval])), rfl, rfl⟩
      ·
       try dsimp only at h
       refine ACalls.panA (context_reader_list_row_w N _ _ _ _ _ _ c_0 false _ h_1029) [0, 1, 2] (v' := .iface 148 (.agg [])) (H' := [.dead, .dead, .dead]) ?_
       try simp only [CallK_pan, dCallK_pan, panK_ap]
       have g_0 := Option.some.inj h
       subst g_0
       rw [← hQ]
       exact ⟨rfl, _, _, RefV.dead rfl, rfl, rfl⟩
     ·
      try dsimp only at h
      refine ACalls.panA (context_reader_row_w N _ _ _ c_0 _ h_1025) [0] (v' := .iface 148 (.agg [])) (H' := [.dead, .box [.row 2 0 y_1023.length] 48, .mem 1 (List.map eI64 y_1023) 3]) ?_
      try simp only [CallK_pan, dCallK_pan, panK_ap]
      have g_0 := Option.some.inj h
      subst g_0
      rw [← hQ]
      exact ⟨rfl, _, _, RefV.dead rfl, rfl, rfl⟩
    ·
     try dsimp only at h
     refine ACalls.panA (context_must_w N _ _ h_19) [] (v' := .iface 148 (.agg [])) (H' := [.box [.vec c_0 (List.map eU8 l_0), .int .i64 (IntKind.i64.wrap ((IntKind.i64.wrap (a_1 + (IntKind.i64.wrap 2))) + 2))] 152]) ?_
     try simp only [CallK_pan, dCallK_pan, panK_ap]
     have g_0 := Option.some.inj h
     subst g_0
     rw [← hQ]
     exact ⟨rfl, _, _, RefV.dead rfl, rfl, rfl⟩
   ·
    try dsimp only at h
    refine ACalls.panA (context_reader_number_w N _ _ c_0 _ h_14) [0] (v' := .iface 148 (.agg [])) (H' := [.dead]) ?_
    try simp only [CallK_pan, dCallK_pan, panK_ap]
    have g_0 := Option.some.inj h
    subst g_0
    rw [← hQ]
    exact ⟨rfl, _, _, RefV.dead rfl, rfl, rfl⟩
  ·
   try dsimp only at h
   refine ACalls.panA (context_reader_covers_w N _ _ _ _ c_0 false _ h_6) [0] (v' := .iface 148 (.agg [])) (H' := [.dead]) ?_
   try simp only [CallK_pan, dCallK_pan, panK_ap]
   have g_0 := Option.some.inj h
   subst g_0
   rw [← hQ]
   exact ⟨rfl, _, _, RefV.dead rfl, rfl, rfl⟩
 ·
  try dsimp only at h
  refine ACalls.panA (context_reader_row_w N _ _ _ c_0 _ h_2) [0] (v' := .iface 148 (.agg [])) (H' := [.dead]) ?_
  try simp only [CallK_pan, dCallK_pan, panK_ap]
  have g_0 := Option.some.inj h
  subst g_0
  rw [← hQ]
  exact ⟨rfl, _, _, RefV.dead rfl, rfl, rfl⟩
theorem cover_classed_row_w (N : Nat) (l_0 : List TClass) (a_1 : Int) (a_2 : Int) (a_3 : Int) (z_1 : List TClass) (h : cover_classed_row N l_0 a_1 a_2 a_3 = some z_1) :
  ACalls Try.prog 127 [.row 0 0 l_0.length, .agg [.int .i64 a_1, .int .i64 a_2, .int .i64 a_3]] [.mem 3 (List.map eTClass l_0) 125] (fun e H => H = [.dead, .mem 3 (List.map eTClass z_1) 125] ∧ e = .ret (.row 1 0 z_1.length)) := by
 unfold cover_classed_row at h
 refine ACalls.goN Try.func127 n127 a127 Try.ntmps127 r127 (by simp) 1 rfl ?_
 generalize hQ : bodyA _ _ _ = QQ
 simp only [A127, go_sem, seval]
 by_cases h_1 : a_3 = 0
 ·
  rw [if_pos h_1] at h
  have e_2 := eq_true h_1
  simp only [e_2, go_sem, seval]
  have g_0 := Option.some.inj h
  subst g_0
  rw [← hQ]
  exact ⟨rfl, _, rfl, _, _, (RefV.trans (RefV.move (by simp) (id := 0) rfl rfl) (RefV.std [0, 2] (by decide) (by decide) (by first | rfl | simp only [go_sem, seval, e_2]) (by first | rfl | simp only [go_sem, seval, e_2]))), rfl, rfl⟩
 ·
  rw [if_neg h_1] at h
  have e_2 := eq_false h_1
  simp only [e_2, go_sem, seval]
  by_cases h_3 : 0 < (l_0.length : Int)
  ·
   rw [if_pos h_3] at h
   have e_4 := eq_true h_3
   obtain ⟨x_5, h_6, h⟩ := bindS h
   have e_7 : (List.map eTClass l_0)[(IntKind.i64.wrap ((l_0.length : Int) - 1)).toNat]? = some [.int .i64 x_5.From, .int .i64 x_5.To, .int .i64 x_5.Class] := atI_map eTClass h_6
   have e_8 := eq_true (atI_some h_6).1
   have e_9 := eq_true (atI_lt h_6)
   simp only [e_2, e_4, e_7, e_8, e_9, go_sem, seval]
   by_cases h_10 : IntKind.i64.wrap (x_5.To + 1) = a_1
   ·
    rw [if_pos h_10] at h
    have e_11 := eq_true h_10
    simp only [e_2, e_4, e_7, e_8, e_9, e_11, go_sem, seval]
    by_cases h_12 : x_5.Class = a_3
    ·
     rw [if_pos h_12] at h
     have e_13 := eq_true h_12
     have e_14 : (List.map eTClass l_0).set (IntKind.i64.wrap ((l_0.length : Int) - 1)).toNat [.int .i64 x_5.From, .int .i64 a_2, .int .i64 x_5.Class] = List.map eTClass (List.set l_0 (IntKind.i64.wrap ((l_0.length : Int) - 1)).toNat (TClass.mk x_5.From a_2 x_5.Class)) := set_map l_0 eTClass (IntKind.i64.wrap ((l_0.length : Int) - 1)).toNat (TClass.mk x_5.From a_2 x_5.Class)
     simp only [e_2, e_4, e_7, e_8, e_9, e_11, e_13, e_14, go_sem, seval]
     have g_0 := Option.some.inj h
     subst g_0
     rw [← hQ]
     exact ⟨rfl, _, rfl, _, _, (RefV.trans (RefV.move (by simp) (id := 0) rfl rfl) (RefV.std [0, 2] (by decide) (by decide) (by first | rfl | simp only [go_sem, seval, e_2, e_4, e_11, e_13]) (by first | rfl | simp only [go_sem, seval, e_2, e_4, e_11, e_13]))), rfl, rfl⟩
    ·
     rw [if_neg h_12] at h
     have e_13 := eq_false h_12
     have e_15 : List.take l_0.length (List.map eTClass l_0) = (List.map eTClass l_0) := List.take_of_length_le (by simp)
     have e_16 : (List.map eTClass l_0) ++ [[.int .i64 a_1, .int .i64 a_2, .int .i64 a_3]] = (List.map eTClass (l_0 ++ [TClass.mk a_1 a_2 a_3])) := app_map l_0 ([TClass.mk a_1 a_2 a_3]) eTClass
     obtain ⟨h_17, h⟩ := guardS h
     have e_18 := eq_true h_17
     simp only [e_2, e_4, e_7, e_8, e_9, e_11, e_13, e_15, e_16, e_18, go_sem, seval]
     have g_0 := Option.some.inj h
     subst g_0
     rw [← hQ]
     exact ⟨rfl, _, rfl, _, _, (RefV.std [0, 2] (by decide) (by decide) (by first | rfl | simp only [go_sem, seval]) (by first | rfl | simp only [go_sem, seval, e_2, e_4, e_11, e_13])), rfl, rfl⟩
   ·
    rw [if_neg h_10] at h
    have e_11 := eq_false h_10
    have e_19 : List.take l_0.length (List.map eTClass l_0) = (List.map eTClass l_0) := List.take_of_length_le (by simp)
    have e_20 : (List.map eTClass l_0) ++ [[.int .i64 a_1, .int .i64 a_2, .int .i64 a_3]] = (List.map eTClass (l_0 ++ [TClass.mk a_1 a_2 a_3])) := app_map l_0 ([TClass.mk a_1 a_2 a_3]) eTClass
    obtain ⟨h_21, h⟩ := guardS h
    have e_22 := eq_true h_21
    simp only [e_2, e_4, e_7, e_8, e_9, e_11, e_19, e_20, e_22, go_sem, seval]
    have g_0 := Option.some.inj h
    subst g_0
    rw [← hQ]
    exact ⟨rfl, _, rfl, _, _, (RefV.std [0, 2] (by decide) (by decide) (by first | rfl | simp only [go_sem, seval]) (by first | rfl | simp only [go_sem, seval, e_2, e_4, e_11])), rfl, rfl⟩
  ·
   rw [if_neg h_3] at h
   have e_4 := eq_false h_3
   have e_23 : List.take l_0.length (List.map eTClass l_0) = (List.map eTClass l_0) := List.take_of_length_le (by simp)
   have e_24 : (List.map eTClass l_0) ++ [[.int .i64 a_1, .int .i64 a_2, .int .i64 a_3]] = (List.map eTClass (l_0 ++ [TClass.mk a_1 a_2 a_3])) := app_map l_0 ([TClass.mk a_1 a_2 a_3]) eTClass
   obtain ⟨h_25, h⟩ := guardS h
   have e_26 := eq_true h_25
   simp only [e_2, e_4, e_23, e_24, e_26, go_sem, seval]
   have g_0 := Option.some.inj h
   subst g_0
   rw [← hQ]
   exact ⟨rfl, _, rfl, _, _, (RefV.std [0, 2] (by decide) (by decide) (by first | rfl | simp only [go_sem, seval]) (by first | rfl | simp only [go_sem, seval, e_2, e_4])), rfl, rfl⟩
theorem cover_Classes_L1_w (N : Nat) (y_5 : Int) (y_11 : List Int) {R : AExit → ATm → List AObj → Prop} : ∀ (n : Nat) (i_20 : Int) (s_21 : List TClass) (o : (List TClass)), cover_Classes_L1 N y_5 y_11 n i_20 s_21 = some o → (match o with | z_1 => R (.exit 1) ⟨105, [(6, .row 0 0 z_1.length)], []⟩ [.mem 3 (List.map eTClass z_1) 125]) →
  ALp Try.prog 0 B105_1 ⟨105, [(6, .row 0 0 s_21.length), (8, .int .i64 y_5), (60, .vec false (List.map eI64 y_11)), (61, .int .i64 (y_11.length : Int)), (62, .int .i64 i_20)], []⟩ [.mem 3 (List.map eTClass s_21) 125] R := by
 intro n
 induction n with
 | zero =>
  intro i_20 s_21 o h _
  have h0 : none = some o := h
  cases h0
 | succ n ih =>
  intro i_20 s_21 o h hp
  rw [cover_Classes_L1] at h
  refine ALp.round ?_
  generalize hQ : RoundQ _ _ _ _ = QQ
  simp only [B105_1, A105, go_sem, seval]
  by_cases h_22 : i_20 < (y_11.length : Int)
  ·
   rw [if_pos h_22] at h
   have e_23 := eq_true h_22
   obtain ⟨x_24, h_25, h⟩ := bindS h
   have e_26 : (List.map eI64 y_11)[(i_20).toNat]? = some [.int .i64 x_24] := atI_map eI64 h_25
   have e_27 := eq_true (atI_some h_25).1
   have e_28 := eq_true (atI_lt h_25)
   obtain ⟨y_29, h_30, h⟩ := bindS h
   simp only [e_23, e_26, e_27, e_28, go_sem, seval]
   refine ACalls.useA (cover_classed_row_w N _ _ _ _ _ h_30) [0] (v' := .row 1 0 y_29.length) (H' := [.dead, .mem 3 (List.map eTClass y_29) 125]) (hH := by simp only [go_sem, seval, e_23]) (ho := ⟨(by first | rfl | simp only [go_sem, seval, e_23]), trivial⟩) ?_
   refine ck0 ?_
   simp only [e_23, e_26, e_27, e_28, go_sem, seval]
   rw [← hQ]
   exact ⟨_, _, (Ref.std [6, 8, 60, 61, 62] [1] (by decide) low0 rfl (by first | rfl | simp only [go_sem, seval])), (Nat.zero_le _), ih _ _ _ h hp⟩
  ·
   rw [if_neg h_22] at h
   have e_23 := eq_false h_22
   simp only [e_23, go_sem, seval]
   have g := Option.some.inj h
   subst g
   rw [← hQ]
   exact ⟨_, _, (Ref.std [6] [0] (by decide) low0 rfl (by first | rfl | simp only [go_sem, seval])), hp⟩
theorem cover_Classes_L2_w (N : Nat) (y_1025 : Bool) (y_1024 : List TArr3_I64) {R : AExit → ATm → List AObj → Prop} : ∀ (n : Nat) (i_1027 : Int) (s_1028 : List TClass) (o : (List TClass)), cover_Classes_L2 N y_1025 y_1024 n i_1027 s_1028 = some o → (match o with | z_1 => R (.exit 3) ⟨105, [(6, .row 0 0 z_1.length), (17, .bool y_1025)], []⟩ [.mem 3 (List.map eTClass z_1) 125]) →
  ALp Try.prog 0 B105_2 ⟨105, [(6, .row 0 0 s_1028.length), (17, .bool y_1025), (86, .vec false (List.map eTArr3_I64 y_1024)), (87, .int .i64 (y_1024.length : Int)), (88, .int .i64 i_1027)], []⟩ [.mem 3 (List.map eTClass s_1028) 125] R := by
 intro n
 induction n with
 | zero =>
  intro i_1027 s_1028 o h _
  have h0 : none = some o := h
  cases h0
 | succ n ih =>
  intro i_1027 s_1028 o h hp
  rw [cover_Classes_L2] at h
  refine ALp.round ?_
  generalize hQ : RoundQ _ _ _ _ = QQ
  simp only [B105_2, A105, go_sem, seval]
  by_cases h_1029 : i_1027 < (y_1024.length : Int)
  ·
   rw [if_pos h_1029] at h
   have e_1030 := eq_true h_1029
   obtain ⟨x_1031, h_1032, h⟩ := bindS h
   have e_1033 : (List.map eTArr3_I64 y_1024)[(i_1027).toNat]? = some [.int .i64 x_1031.e0, .int .i64 x_1031.e1, .int .i64 x_1031.e2] := atI_map eTArr3_I64 h_1032
   have e_1034 := eq_true (atI_some h_1032).1
   have e_1035 := eq_true (atI_lt h_1032)
   obtain ⟨y_1036, h_1037, h⟩ := bindS h
   simp only [e_1030, e_1033, e_1034, e_1035, go_sem, seval]
   refine ACalls.useA (cover_classed_row_w N _ _ _ _ _ h_1037) [0] (v' := .row 2 0 y_1036.length) (H' := [.dead, .box [.int .i64 x_1031.e0, .int .i64 x_1031.e1, .int .i64 x_1031.e2] 173, .mem 3 (List.map eTClass y_1036) 125]) (hH := by simp only [go_sem, seval, e_1030]) (ho := ⟨(by first | rfl | simp only [go_sem, seval, e_1030]), trivial⟩) ?_
   refine ck0 ?_
   simp only [e_1030, e_1033, e_1034, e_1035, go_sem, seval]
   rw [← hQ]
   exact ⟨_, _, (Ref.std [6, 17, 86, 87, 88] [2] (by decide) low0 (by first | rfl | simp only [go_sem, seval, e_1030]) (by first | rfl | simp only [go_sem, seval])), (Nat.zero_le _), ih _ _ _ h hp⟩
  ·
   rw [if_neg h_1029] at h
   have e_1030 := eq_false h_1029
   simp only [e_1030, go_sem, seval]
   have g := Option.some.inj h
   subst g
   rw [← hQ]
   exact ⟨_, _, (Ref.std [6, 17] [0] (by decide) low0 (by first | rfl | simp only [go_sem, seval, e_1030]) (by first | rfl | simp only [go_sem, seval])), hp⟩
theorem cover_Classes_w (N : Nat) (l_0 : List Int) (a_1 : Int) (c_0 : Bool) (z_1 : List TClass) (z_2 : Bool) (h : cover_Classes N l_0 a_1 = some (z_1, z_2)) :
  ACalls Try.prog 105 [.vec c_0 (List.map eU8 l_0), .int .i64 a_1] [] (fun e H => H = [] ∧ e = .ret (.tup [.vec false (List.map eTClass z_1), .bool z_2])) := by
 unfold cover_Classes at h
 refine ACalls.goN Try.func105 n105 a105 Try.ntmps105 r105 (by simp) 0 rfl ?_
 generalize hQ : bodyA _ _ _ = QQ
 obtain ⟨y_1, h_2, h⟩ := bindS h
 simp only [A105, go_sem, seval]
 refine ACalls.use0 (cover_format_w N _ _ c_0 _ h_2) rfl rfl ?_
 refine ck0 ?_
 simp only [go_sem, seval]
 by_cases h_3 : y_1 = 1
 ·
  rw [if_pos h_3] at h
  have e_4 := eq_true h_3
  obtain ⟨⟨y_5, y_6⟩, h_7, h⟩ := bindS h
  try dsimp only at h
  simp only [e_4, go_sem, seval]
  refine ACalls.use0 (octet_U16_w N _ _ c_0 _ _ h_7) rfl rfl ?_
  refine ck0 ?_
  obtain ⟨⟨y_8, y_9⟩, h_10, h⟩ := bindS h
  try dsimp only at h
  simp only [e_4, go_sem, seval]
  refine ACalls.use0 (octet_U16_w N _ _ c_0 _ _ h_10) rfl rfl ?_
  refine ck0 ?_
  obtain ⟨⟨y_11, y_12⟩, h_13, h⟩ := bindS h
  try dsimp only at h
  simp only [e_4, go_sem, seval]
  refine ACalls.use0 (octet_Row_w N _ _ _ _ c_0 _ _ h_13) rfl rfl ?_
  refine ck0 ?_
  simp only [e_4, go_sem, seval]
  by_cases h_14 : y_9 = true
  ·
   rw [if_pos h_14] at h
   have e_15 : y_9 = true := h_14
   simp only [e_4, e_15, go_sem, seval]
   by_cases h_16 : y_12 = true
   ·
    rw [if_pos h_16] at h
    have e_17 : y_12 = true := h_16
    simp only [e_4, e_15, e_17, go_sem, seval]
    by_cases h_18 : 65536 < IntKind.i64.wrap (y_5 + y_8)
    ·
     rw [if_pos h_18] at h
     have e_19 := eq_true h_18
     simp only [e_4, e_15, e_17, e_19, go_sem, seval]
     obtain ⟨k_1, g_1⟩ := Prod.mk.inj (Option.some.inj h)
     subst k_1
     subst g_1
     rw [← hQ]
     exact ⟨rfl, _, rfl, _, _, outVB, rfl, rfl⟩
    ·
     rw [if_neg h_18] at h
     have e_19 := eq_false h_18
     simp only [e_4, e_15, e_17, e_19, go_sem, seval]
     obtain ⟨y_1021, h_1020, h⟩ := bindS h
     refine ALp.ref (Ref.trans (Ref.thaw (Nat.zero_le _) 6 rfl (sz := 3) (by decide) 125) (Ref.std [6, 8, 60, 61, 62] [0] (by decide) low0 rfl (by first | rfl | simp only [go_sem, seval]))) (Nat.zero_le _) (cover_Classes_L1_w N _ _ N _ _ y_1021 h_1020 ?_)
     refine LoopK_go rfl (Nat.zero_le _) ?_
     simp only [e_4, e_15, e_17, e_19, go_sem, seval]
     obtain ⟨k_1, g_1⟩ := Prod.mk.inj (Option.some.inj h)
     subst k_1
     subst g_1
     rw [← hQ]
     exact ⟨rfl, _, rfl, _, _, (RefV.trans (RefV.frz (Nat.zero_le _) (id := 0) rfl (pures_map y_1021 eTClass (fun _ => rfl))) (RefV.out (by first | rfl | simp only [go_sem, seval, e_4, e_15, e_17, e_19]))), rfl, rfl⟩
   ·
    rw [if_neg h_16] at h
    have e_17 : y_12 = false := bfalse h_16
    simp only [e_4, e_15, e_17, go_sem, seval]
    obtain ⟨k_1, g_1⟩ := Prod.mk.inj (Option.some.inj h)
    subst k_1
    subst g_1
    rw [← hQ]
    exact ⟨rfl, _, rfl, _, _, outVB, rfl, rfl⟩
  ·
   rw [if_neg h_14] at h
   have e_15 : y_9 = false := bfalse h_14
   simp only [e_4, e_15, go_sem, seval]
   obtain ⟨k_1, g_1⟩ := Prod.mk.inj (Option.some.inj h)
   subst k_1
   subst g_1
   rw [← hQ]
   exact ⟨rfl, _, rfl, _, _, outVB, rfl, rfl⟩
 ·
  rw [if_neg h_3] at h
  have e_4 := eq_false h_3
  simp only [e_4, go_sem, seval]
  by_cases h_1022 : y_1 = 2
  ·
   rw [if_pos h_1022] at h
   have e_1023 := eq_true h_1022
   obtain ⟨⟨y_1024, y_1025⟩, h_1026, h⟩ := bindS h
   try dsimp only at h
   simp only [e_4, e_1023, go_sem, seval]
   refine ACalls.use0 (cover_triples_w N _ _ c_0 _ _ h_1026) rfl rfl ?_
   refine ck0 ?_
   simp only [e_4, e_1023, go_sem, seval]
   obtain ⟨y_2028, h_2027, h⟩ := bindS h
   refine ALp.ref (Ref.trans (Ref.thaw (Nat.zero_le _) 6 rfl (sz := 3) (by decide) 125) (Ref.std [6, 17, 86, 87, 88] [0] (by decide) low0 (by first | rfl | simp only [go_sem, seval, e_4, e_1023]) (by first | rfl | simp only [go_sem, seval]))) (Nat.zero_le _) (cover_Classes_L2_w N _ _ N _ _ y_2028 h_2027 ?_)
   refine LoopK_go rfl (Nat.zero_le _) ?_
   simp only [e_4, e_1023, go_sem, seval]
   obtain ⟨k_1, g_1⟩ := Prod.mk.inj (Option.some.inj h)
   subst k_1
   subst g_1
   rw [← hQ]
   exact ⟨rfl, _, rfl, _, _, (RefV.trans (RefV.frz (Nat.zero_le _) (id := 0) rfl (pures_map y_2028 eTClass (fun _ => rfl))) (RefV.out (by first | rfl | simp only [go_sem, seval, e_4, e_1023]))), rfl, rfl⟩
  ·
   rw [if_neg h_1022] at h
   have e_1023 := eq_false h_1022
   simp only [e_4, e_1023, go_sem, seval]
   obtain ⟨k_1, g_1⟩ := Prod.mk.inj (Option.some.inj h)
   subst k_1
   subst g_1
   rw [← hQ]
   exact ⟨rfl, _, rfl, _, _, outVB, rfl, rfl⟩
theorem context_reader_classes_w (N : Nat) (l_0 : List Int) (a_1 : Int) (a_2 : Int) (a_3 : Int) (c_0 : Bool) (o : ((List TClass)) ⊕ Unit) (h : context_reader_classes N l_0 a_1 a_2 a_3 = some o) :
  ACalls Try.prog 112 [.ptr 0 0 0, .int .i64 a_2, .int .i64 a_3] [.box [.vec c_0 (List.map eU8 l_0), .int .i64 a_1] 152] (fun e H => match o with | .inl z_1 => H = [.box [.vec c_0 (List.map eU8 l_0), .int .i64 a_1] 152] ∧ e = .ret (.vec false (List.map eTClass z_1)) | .inr _ => H = [.dead] ∧ e = .pan (.iface 148 (.agg []))) := by
 unfold context_reader_classes at h
 refine ACalls.goN Try.func112 n112 a112 Try.ntmps112 r112 (by simp) 1 rfl ?_
 generalize hQ : bodyA _ _ _ = QQ
 simp only [A112, go_sem, seval]
 by_cases h_1 : a_3 = 0
 ·
  rw [if_pos h_1] at h
  have e_2 := eq_true h_1
  simp only [e_2, go_sem, seval]
  have g_0 := Option.some.inj h
  subst g_0
  rw [← hQ]
  exact ⟨rfl, _, rfl, _, _, (RefV.trans (RefV.std (v' := nn) [0] (by decide) (by decide) rfl (by first | rfl | simp only [go_sem, seval, e_2])) (RefV.weak (Wks.cons Wk.vec Wks.nil) (WkH.refl _))), rfl, rfl⟩
 ·
  rw [if_neg h_1] at h
  have e_2 := eq_false h_1
  obtain ⟨⟨y_3, y_4⟩, h_5, h⟩ := bindS h
  try dsimp only at h
  simp only [e_2, go_sem, seval]
  refine ACalls.use0 (cover_Classes_w N _ _ c_0 _ _ h_5) rfl rfl ?_
  refine CallK_go (by simp) ?_
  obtain ⟨o_7, h_6, h⟩ := bindS h
  simp only [e_2, go_sem, seval]
  rcases o_7 with _ | _
  ·
   try dsimp only at h
   refine ACalls.use0 (context_must_w N _ _ h_6) rfl rfl ?_
   refine CallK_go (by simp) ?_
   simp only [e_2, go_sem, seval]
   have g_0 := Option.some.inj h
   subst g_0
   rw [← hQ]
   exact ⟨rfl, _, rfl, _, _, (RefV.std [0] (by decide) (by decide) rfl (by first | rfl | simp only [go_sem, seval, e_2])), rfl, rfl⟩
  ·
   try dsimp only at h
   refine ACalls.panA (context_must_w N _ _ h_6) [] (v' := .iface 148 (.agg [])) (H' := [.box [.vec c_0 (List.map eU8 l_0), .int .i64 a_1] 152]) (hH := by simp only [go_sem, seval, e_2]) ?_
   try simp only [CallK_pan, dCallK_pan, panK_ap]
   have g_0 := Option.some.inj h
   subst g_0
   rw [← hQ]
   exact ⟨rfl, _, _, RefV.dead rfl, rfl, rfl⟩
theorem context_reader_classed_1_w (N : Nat) (l_0 : List TClass) (c_0 : Bool) (h : context_reader_classed_1 N l_0 = some ()) :
  ACalls Try.prog 113 [.vec c_0 (List.map eTClass l_0)] [] (fun e H => H = [.box [.vec c_0 (List.map eTClass l_0)] 30] ∧ e = .ret (.fn (.func 114) [] [.ptr 0 0 0])) := by
 unfold context_reader_classed_1 at h
 refine ACalls.goN Try.func113 n113 a113 Try.ntmps113 r113 (by simp) 0 rfl ?_
 generalize hQ : bodyA _ _ _ = QQ
 simp only [A113, go_sem, seval]
 rw [← hQ]
 exact ⟨rfl, _, rfl, _, _, (RefV.std [0] (by decide) low0 rfl (by first | rfl | simp only [go_sem, seval])), rfl, rfl⟩
theorem cover_With_L1_w (N : Nat) (a_1 : Int) (l_0 : List TClass) (c_0 : Bool) {R : AExit → ATm → List AObj → Prop} : ∀ (n : Nat) (i_1 : Int) (s_2 : List TSpan) (o : (List TSpan)), cover_With_L1 N a_1 l_0 n i_1 s_2 = some o → (match o with | z_1 => R (.exit 0) ⟨36, [(4, .ptr 0 0 0), (5, .ptr 1 0 0)], []⟩ [.box [nn, .bool false] 85, .box [.row 2 0 z_1.length, .bool (decide (a_1 = 0))] 85, .mem 2 (List.map eTSpan z_1) 87]) →
  ALp Try.prog 0 B115_1 ⟨36, [(1, .int .i64 a_1), (4, .ptr 0 0 0), (5, .ptr 1 0 0), (11, .vec c_0 (List.map eTClass l_0)), (12, .int .i64 (l_0.length : Int)), (13, .int .i64 i_1)], []⟩ [.box [nn, .bool false] 85, .box [.row 2 0 s_2.length, .bool (decide (a_1 = 0))] 85, .mem 2 (List.map eTSpan s_2) 87] R := by
 intro n
 induction n with
 | zero =>
  intro i_1 s_2 o h _
  have h0 : none = some o := h
  cases h0
 | succ n ih =>
  intro i_1 s_2 o h hp
  rw [cover_With_L1] at h
  refine ALp.round ?_
  generalize hQ : RoundQ _ _ _ _ = QQ
  simp only [B115_1, A115, go_sem, seval]
  by_cases h_3 : i_1 < (l_0.length : Int)
  ·
   rw [if_pos h_3] at h
   have e_4 := eq_true h_3
   obtain ⟨x_5, h_6, h⟩ := bindS h
   have e_7 : (List.map eTClass l_0)[(i_1).toNat]? = some [.int .i64 x_5.From, .int .i64 x_5.To, .int .i64 x_5.Class] := atI_map eTClass h_6
   have e_8 := eq_true (atI_some h_6).1
   have e_9 := eq_true (atI_lt h_6)
   simp only [e_4, e_7, e_8, e_9, go_sem, seval]
   by_cases h_10 : a_1 = 0
   ·
    rw [if_pos h_10] at h
    have e_11 := eq_true h_10
    obtain ⟨y_12, h_13, h⟩ := bindS h
    simp only [e_4, e_7, e_8, e_9, e_11, go_sem, seval]
    refine ACalls.useA (cover_joined_row_w N _ _ _ _ h_13) [2] (v' := .row 4 0 y_12.length) (H' := [.box [nn, .bool false] 85, .box [.row 2 0 s_2.length, .bool (decide (a_1 = 0))] 85, .dead, .box [.int .i64 x_5.From, .int .i64 x_5.To, .int .i64 x_5.Class] 125, .mem 2 (List.map eTSpan y_12) 87]) (hH := by simp only [go_sem, seval, e_4, e_11]) (ho := ⟨(by first | rfl | simp only [go_sem, seval, e_4, e_11]), trivial⟩) ?_
    refine ck0 ?_
    simp only [e_4, e_7, e_8, e_9, e_11, go_sem, seval]
    rw [← hQ]
    exact ⟨_, _, (Ref.std [1, 4, 5, 11, 12, 13] [0, 1, 4] (by decide) low0 rfl (by first | rfl | simp only [go_sem, seval, e_4, e_11])), (Nat.zero_le _), ih _ _ _ h hp⟩
   ·
    rw [if_neg h_10] at h
    have e_11 := eq_false h_10
    simp only [e_4, e_7, e_8, e_9, e_11, go_sem, seval]
    by_cases h_14 : x_5.Class = a_1
    ·
     rw [if_pos h_14] at h
     have e_15 := eq_true h_14
     obtain ⟨y_16, h_17, h⟩ := bindS h
     simp only [e_4, e_7, e_8, e_9, e_11, e_15, go_sem, seval]
     refine ACalls.useA (cover_joined_row_w N _ _ _ _ h_17) [2] (v' := .row 4 0 y_16.length) (H' := [.box [nn, .bool false] 85, .box [.row 2 0 s_2.length, .bool (decide (a_1 = 0))] 85, .dead, .box [.int .i64 x_5.From, .int .i64 x_5.To, .int .i64 x_5.Class] 125, .mem 2 (List.map eTSpan y_16) 87]) (hH := by simp only [go_sem, seval, e_4, e_11, e_15]) (ho := ⟨(by first | rfl | simp only [go_sem, seval, e_4, e_11, e_15]), trivial⟩) ?_
     refine ck0 ?_
     simp only [e_4, e_7, e_8, e_9, e_11, e_15, go_sem, seval]
     rw [← hQ]
     exact ⟨_, _, (Ref.std [1, 4, 5, 11, 12, 13] [0, 1, 4] (by decide) low0 rfl (by first | rfl | simp only [go_sem, seval, e_4, e_11, e_15])), (Nat.zero_le _), ih _ _ _ h hp⟩
    ·
     rw [if_neg h_14] at h
     have e_15 := eq_false h_14
     simp only [e_4, e_7, e_8, e_9, e_11, e_15, go_sem, seval]
     rw [← hQ]
     exact ⟨_, _, (Ref.std [1, 4, 5, 11, 12, 13] [0, 1, 2] (by decide) low0 rfl (by first | rfl | simp only [go_sem, seval, e_4, e_11, e_15])), (Nat.zero_le _), ih _ _ _ h hp⟩
  ·
   rw [if_neg h_3] at h
   have e_4 := eq_false h_3
   simp only [e_4, go_sem, seval]
   have g := Option.some.inj h
   subst g
   rw [← hQ]
   exact ⟨_, _, (Ref.std [4, 5] [0, 1, 2] (by decide) low0 rfl (by first | rfl | simp only [go_sem, seval, e_4])), hp⟩
theorem cover_With_w (N : Nat) (l_0 : List TClass) (a_1 : Int) (c_0 : Bool) (z_1 : List TSpan) (z_2 : Bool) (h : cover_With N l_0 a_1 = some (z_1, z_2)) :
  ACalls Try.prog 115 [.vec c_0 (List.map eTClass l_0), .int .i64 a_1] [] (fun e H => H = [] ∧ e = .ret (.agg [.vec false (List.map eTSpan z_1), .bool z_2])) := by
 unfold cover_With at h
 refine ACalls.goN Try.func115 n115 a115 Try.ntmps115 r115 (by simp) 0 rfl ?_
 generalize hQ : bodyA _ _ _ = QQ
 simp only [A115, go_sem, seval]
 obtain ⟨y_1002, h_1001, h⟩ := bindS h
 refine ALp.ref (Ref.trans (Ref.thawB (Nat.zero_le _) (id := 1) 0 rfl rfl (sz := 2) (by decide) 87) (Ref.std [1, 4, 5, 11, 12, 13] [0, 1, 2] (by decide) low0 rfl (by first | rfl | simp only [go_sem, seval]))) (Nat.zero_le _) (cover_With_L1_w N _ _ c_0 N _ _ y_1002 h_1001 ?_)
 refine LoopK_go rfl (Nat.zero_le _) ?_
 simp only [go_sem, seval]
 obtain ⟨k_1, g_1⟩ := Prod.mk.inj (Option.some.inj h)
 subst k_1
 subst g_1
 rw [← hQ]
 exact ⟨rfl, _, rfl, _, _, (RefV.trans (RefV.frz (Nat.zero_le _) (id := 2) rfl (pures_map y_1002 eTSpan (fun _ => rfl))) (RefV.out (by first | rfl | simp only [go_sem, seval]))), rfl, rfl⟩
theorem cover_Both_1_row_w (N : Nat) (a_0 : Int) (a_1 : Int) (l_2 : List TSpan) (z_1 : List TSpan) (h : cover_Both_1_row N a_0 a_1 l_2 = some z_1) :
  ACalls Try.prog 131 [.int .i64 a_0, .int .i64 a_1, .ptr 0 0 0] [.box [.row 1 0 l_2.length] 24, .mem 2 (List.map eTSpan l_2) 87] (fun e H => H = [.box [.row 2 0 z_1.length] 24, .dead, .mem 2 (List.map eTSpan z_1) 87] ∧ e = .ret (.tup [])) := by
 unfold cover_Both_1_row at h
 refine ACalls.goN Try.func131 n131 a131 Try.ntmps131 r131 (by simp) 2 rfl ?_
 generalize hQ : bodyA _ _ _ = QQ
 simp only [A131, go_sem, seval]
 by_cases h_1 : a_0 ≤ a_1
 ·
  rw [if_pos h_1] at h
  have e_2 := eq_true h_1
  obtain ⟨y_3, h_4, h⟩ := bindS h
  simp only [e_2, go_sem, seval]
  refine ACalls.useA (cover_joined_row_w N _ _ _ _ h_4) [1] (v' := .row 2 0 y_3.length) (H' := [.box [.row 1 0 l_2.length] 24, .dead, .mem 2 (List.map eTSpan y_3) 87]) (hH := by simp only [go_sem, seval, e_2]) (ho := ⟨(by first | rfl | simp only [go_sem, seval, e_2]), trivial⟩) ?_
  refine CallK_go (by simp) ?_
  simp only [e_2, go_sem, seval]
  have g_0 := Option.some.inj h
  subst g_0
  rw [← hQ]
  exact ⟨rfl, _, rfl, _, _, (RefV.std [0, 1, 2] (by decide) (by decide) rfl (by first | rfl | simp only [go_sem, seval, e_2])), rfl, rfl⟩
 ·
  rw [if_neg h_1] at h
  have e_2 := eq_false h_1
  simp only [e_2, go_sem, seval]
  have g_0 := Option.some.inj h
  subst g_0
  rw [← hQ]
  exact ⟨rfl, _, rfl, _, _, (RefV.trans (RefV.move (by simp) (id := 1) rfl rfl) (RefV.std [0, 1, 2] (by decide) (by decide) (by first | rfl | simp only [go_sem, seval, e_2]) (by first | rfl | simp only [go_sem, seval, e_2]))), rfl, rfl⟩
theorem cover_Both_L2_w (N : Nat) (l_0 : List TSpan) (i_1 : Int) (l_1 : List TSpan) (b_2 : Bool) (x_5 : TSpan) (c_0 : Bool) (c_1 : Bool) {R : AExit → ATm → List AObj → Prop} : ∀ (n : Nat) (i_10 : Int) (i_11 : Int) (s_12 : List TSpan) (o : Int × (List TSpan)), cover_Both_L2 N l_0 i_1 l_1 b_2 x_5 n i_10 i_11 s_12 = some o → (match o with | (z_1, z_2) => R (.exit 2) ⟨72, [(3, .ptr 0 0 0), (5, .ptr 1 0 0), (6, .fn (.func 131) [] [.ptr 1 0 0]), (8, .ptr 3 0 0), (9, .int .i64 z_1), (13, .vec c_0 (List.map eTSpan l_0)), (14, .int .i64 (l_0.length : Int)), (15, .int .i64 i_1)], []⟩ [.box [.vec c_1 (List.map eTSpan l_1), .bool b_2] 85, .box [.row 2 0 z_2.length] 24, .mem 2 (List.map eTSpan z_2) 87, .box [.int .i64 x_5.From, .int .i64 x_5.To] 87]) →
  ALp Try.prog 0 B117_2 ⟨72, [(3, .ptr 0 0 0), (5, .ptr 1 0 0), (6, .fn (.func 131) [] [.ptr 1 0 0]), (8, .ptr 3 0 0), (9, .int .i64 i_10), (13, .vec c_0 (List.map eTSpan l_0)), (14, .int .i64 (l_0.length : Int)), (15, .int .i64 i_1), (22, .vec c_1 (List.map eTSpan l_1)), (23, .int .i64 (l_1.length : Int)), (24, .int .i64 i_11)], []⟩ [.box [.vec c_1 (List.map eTSpan l_1), .bool b_2] 85, .box [.row 2 0 s_12.length] 24, .mem 2 (List.map eTSpan s_12) 87, .box [.int .i64 x_5.From, .int .i64 x_5.To] 87] R := by
 intro n
 induction n with
 | zero =>
  intro i_10 i_11 s_12 o h _
  have h0 : none = some o := h
  cases h0
 | succ n ih =>
  intro i_10 i_11 s_12 o h hp
  rw [cover_Both_L2] at h
  refine ALp.round ?_
  generalize hQ : RoundQ _ _ _ _ = QQ
  simp only [B117_2, B117_1, A117, go_sem, seval]
  by_cases h_13 : i_11 < (l_1.length : Int)
  ·
   rw [if_pos h_13] at h
   have e_14 := eq_true h_13
   obtain ⟨x_15, h_16, h⟩ := bindS h
   have e_17 : (List.map eTSpan l_1)[(i_11).toNat]? = some [.int .i64 x_15.From, .int .i64 x_15.To] := atI_map eTSpan h_16
   have e_18 := eq_true (atI_some h_16).1
   have e_19 := eq_true (atI_lt h_16)
   simp only [e_14, e_17, e_18, e_19, go_sem, seval]
   by_cases h_20 : x_15.To < x_5.From
   ·
    rw [if_pos h_20] at h
    have e_21 := eq_true h_20
    simp only [e_14, e_17, e_18, e_19, e_21, go_sem, seval]
    rw [← hQ]
    exact ⟨_, _, (Ref.std [3, 5, 6, 8, 9, 13, 14, 15, 22, 23, 24] [0, 1, 2, 3] (by decide) low0 rfl (by first | rfl | simp only [go_sem, seval, e_14, e_21])), (Nat.zero_le _), ih _ _ _ _ h hp⟩
   ·
    rw [if_neg h_20] at h
    have e_21 := eq_false h_20
    simp only [e_14, e_17, e_18, e_19, e_21, go_sem, seval]
    by_cases h_22 : x_5.To < x_15.From
    ·
     rw [if_pos h_22] at h
     have e_23 := eq_true h_22
     simp only [e_14, e_17, e_18, e_19, e_21, e_23, go_sem, seval]
     rw [← hQ]
     exact ⟨_, _, (Ref.std [3, 5, 6, 8, 9, 13, 14, 15, 22, 23, 24] [0, 1, 2, 3] (by decide) low0 rfl (by first | rfl | simp only [go_sem, seval, e_14, e_21, e_23])), (Nat.zero_le _), ih _ _ _ _ h hp⟩
    ·
     rw [if_neg h_22] at h
     have e_23 := eq_false h_22
     simp only [e_14, e_17, e_18, e_19, e_21, e_23, go_sem, seval]
     by_cases h_24 : b_2 = true
     ·
      rw [if_pos h_24] at h
      have e_25 : b_2 = true := h_24
      obtain ⟨y_26, h_27, h⟩ := bindS h
      simp only [e_14, e_17, e_18, e_19, e_21, e_23, e_25, go_sem, seval]
      refine ACalls.useA (cover_Both_1_row_w N _ _ _ _ h_27) [1, 2] (v' := .tup []) (H' := [.box [.vec c_1 (List.map eTSpan l_1), .bool b_2] 85, .box [.row 5 0 y_26.length] 24, .dead, .box [.int .i64 x_5.From, .int .i64 x_5.To] 87, .box [.int .i64 x_15.From, .int .i64 x_15.To] 87, .mem 2 (List.map eTSpan y_26) 87]) (hH := by simp only [go_sem, seval, e_14, e_21, e_23, e_25]) (ho := ⟨(by first | rfl | simp only [go_sem, seval, e_14, e_21, e_23, e_25]), (by first | rfl | simp only [go_sem, seval, e_14, e_21, e_23, e_25]), trivial⟩) ?_
      refine ck0 ?_
      simp only [e_14, e_17, e_18, e_19, e_21, e_23, e_25, go_sem, seval]
      rw [← hQ]
      exact ⟨_, _, (Ref.std [3, 5, 6, 8, 9, 13, 14, 15, 22, 23, 24] [0, 1, 5, 3] (by decide) low0 rfl (by first | rfl | simp only [go_sem, seval, e_14, e_21, e_23, e_25])), (Nat.zero_le _), ih _ _ _ _ h hp⟩
     ·
      rw [if_neg h_24] at h
      have e_25 : b_2 = false := bfalse h_24
      obtain ⟨y_28, h_29, h⟩ := bindS h
      simp only [e_14, e_17, e_18, e_19, e_21, e_23, e_25, go_sem, seval]
      refine ACalls.useA (cover_Both_1_row_w N _ _ _ _ h_29) [1, 2] (v' := .tup []) (H' := [.box [.vec c_1 (List.map eTSpan l_1), .bool b_2] 85, .box [.row 5 0 y_28.length] 24, .dead, .box [.int .i64 x_5.From, .int .i64 x_5.To] 87, .box [.int .i64 x_15.From, .int .i64 x_15.To] 87, .mem 2 (List.map eTSpan y_28) 87]) (hH := by simp only [go_sem, seval, e_14, e_21, e_23, e_25]) (ho := ⟨(by first | rfl | simp only [go_sem, seval, e_14, e_21, e_23, e_25]), (by first | rfl | simp only [go_sem, seval, e_14, e_21, e_23, e_25]), trivial⟩) ?_
      refine ck0 ?_
      simp only [e_14, e_17, e_18, e_19, e_21, e_23, e_25, go_sem, seval]
      rw [← hQ]
      exact ⟨_, _, (Ref.std [3, 5, 6, 8, 9, 13, 14, 15, 22, 23, 24] [0, 1, 5, 3] (by decide) low0 rfl (by first | rfl | simp only [go_sem, seval, e_14, e_21, e_23, e_25])), (Nat.zero_le _), ih _ _ _ _ h hp⟩
  ·
   rw [if_neg h_13] at h
   have e_14 := eq_false h_13
   simp only [e_14, go_sem, seval]
   have g := Option.some.inj h
   subst g
   rw [← hQ]
   exact ⟨_, _, (Ref.std [3, 5, 6, 8, 9, 13, 14, 15] [0, 1, 2, 3] (by decide) low0 rfl (by first | rfl | simp only [go_sem, seval, e_14])), hp⟩
theorem cover_Both_L3_w (N : Nat) (l_0 : List TSpan) (l_1 : List TSpan) (b_2 : Bool) (c_0 : Bool) (c_1 : Bool) {R : AExit → ATm → List AObj → Prop} : ∀ (n : Nat) (i_1 : Int) (s_2 : List TSpan) (o : (List TSpan)), cover_Both_L3 N l_0 l_1 b_2 n i_1 s_2 = some o → (match o with | z_1 => R (.exit 0) ⟨72, [(5, .ptr 0 0 0)], []⟩ [.box [.row 1 0 z_1.length] 24, .mem 2 (List.map eTSpan z_1) 87]) →
  ALp Try.prog 0 B117_1 ⟨72, [(3, .ptr 0 0 0), (5, .ptr 1 0 0), (6, .fn (.func 131) [] [.ptr 1 0 0]), (13, .vec c_0 (List.map eTSpan l_0)), (14, .int .i64 (l_0.length : Int)), (15, .int .i64 i_1)], []⟩ [.box [.vec c_1 (List.map eTSpan l_1), .bool b_2] 85, .box [.row 2 0 s_2.length] 24, .mem 2 (List.map eTSpan s_2) 87] R := by
 intro n
 induction n with
 | zero =>
  intro i_1 s_2 o h _
  have h0 : none = some o := h
  cases h0
 | succ n ih =>
  intro i_1 s_2 o h hp
  rw [cover_Both_L3] at h
  refine ALp.round ?_
  generalize hQ : RoundQ _ _ _ _ = QQ
  simp only [B117_1, A117, go_sem, seval]
  by_cases h_3 : i_1 < (l_0.length : Int)
  ·
   rw [if_pos h_3] at h
   have e_4 := eq_true h_3
   obtain ⟨x_5, h_6, h⟩ := bindS h
   have e_7 : (List.map eTSpan l_0)[(i_1).toNat]? = some [.int .i64 x_5.From, .int .i64 x_5.To] := atI_map eTSpan h_6
   have e_8 := eq_true (atI_some h_6).1
   have e_9 := eq_true (atI_lt h_6)
   simp only [e_4, e_7, e_8, e_9, go_sem, seval]
   obtain ⟨⟨y_1011, y_1012⟩, h_1010, h⟩ := bindS h
   try dsimp only at h
   refine ALp.ref (Ref.std [3, 5, 6, 8, 9, 13, 14, 15, 22, 23, 24] [0, 1, 2, 3] (by decide) low0 rfl (by first | rfl | simp only [go_sem, seval, e_4])) (Nat.zero_le _) (cover_Both_L2_w N _ _ _ _ _ c_0 c_1 N _ _ _ _ h_1010 ?_)
   refine LoopK_go rfl (Nat.zero_le _) ?_
   simp only [e_4, e_7, e_8, e_9, go_sem, seval]
   by_cases h_1013 : b_2 = true
   ·
    rw [if_pos h_1013] at h
    have e_1014 : b_2 = true := h_1013
    obtain ⟨y_1015, h_1016, h⟩ := bindS h
    simp only [e_4, e_7, e_8, e_9, e_1014, go_sem, seval]
    refine ACalls.useA (cover_Both_1_row_w N _ _ _ _ h_1016) [1, 2] (v' := .tup []) (H' := [.box [.vec c_1 (List.map eTSpan l_1), .bool b_2] 85, .box [.row 4 0 y_1015.length] 24, .dead, .box [.int .i64 x_5.From, .int .i64 x_5.To] 87, .mem 2 (List.map eTSpan y_1015) 87]) (hH := by simp only [go_sem, seval, e_4, e_1014]) (ho := ⟨(by first | rfl | simp only [go_sem, seval, e_4, e_1014]), (by first | rfl | simp only [go_sem, seval, e_4, e_1014]), trivial⟩) ?_
    refine ck0 ?_
    simp only [e_4, e_7, e_8, e_9, e_1014, go_sem, seval]
    rw [← hQ]
    exact ⟨_, _, (Ref.std [3, 5, 6, 13, 14, 15] [0, 1, 4] (by decide) low0 rfl (by first | rfl | simp only [go_sem, seval, e_4, e_1014])), (Nat.zero_le _), ih _ _ _ h hp⟩
   ·
    rw [if_neg h_1013] at h
    have e_1014 : b_2 = false := bfalse h_1013
    simp only [e_4, e_7, e_8, e_9, e_1014, go_sem, seval]
    rw [← hQ]
    exact ⟨_, _, (Ref.std [3, 5, 6, 13, 14, 15] [0, 1, 2] (by decide) low0 rfl (by first | rfl | simp only [go_sem, seval, e_4, e_1014])), (Nat.zero_le _), ih _ _ _ h hp⟩
  ·
   rw [if_neg h_3] at h
   have e_4 := eq_false h_3
   simp only [e_4, go_sem, seval]
   have g := Option.some.inj h
   subst g
   rw [← hQ]
   exact ⟨_, _, (Ref.std [5] [1, 2] (by decide) low0 rfl (by first | rfl | simp only [go_sem, seval])), hp⟩
theorem cover_Both_w (N : Nat) (l_0 : List TSpan) (l_1 : List TSpan) (b_2 : Bool) (c_0 : Bool) (c_1 : Bool) (z_1 : List TSpan) (h : cover_Both N l_0 l_1 b_2 = some z_1) :
  ACalls Try.prog 117 [.vec c_0 (List.map eTSpan l_0), .agg [.vec c_1 (List.map eTSpan l_1), .bool b_2]] [] (fun e H => H = [] ∧ e = .ret (.vec false (List.map eTSpan z_1))) := by
 unfold cover_Both at h
 refine ACalls.goN Try.func117 n117 a117 Try.ntmps117 r117 (by simp) 0 rfl ?_
 generalize hQ : bodyA _ _ _ = QQ
 simp only [A117, go_sem, seval]
 obtain ⟨y_1002, h_1001, h⟩ := bindS h
 refine ALp.ref (Ref.trans (Ref.thawB (Nat.zero_le _) (id := 1) 0 rfl rfl (sz := 2) (by decide) 87) (Ref.std [3, 5, 6, 13, 14, 15] [0, 1, 2] (by decide) low0 rfl (by first | rfl | simp only [go_sem, seval]))) (Nat.zero_le _) (cover_Both_L3_w N _ _ _ c_0 c_1 N _ _ y_1002 h_1001 ?_)
 refine LoopK_go rfl (Nat.zero_le _) ?_
 simp only [go_sem, seval]
 have g_0 := Option.some.inj h
 subst g_0
 rw [← hQ]
 exact ⟨rfl, _, rfl, _, _, (RefV.trans (RefV.frz (Nat.zero_le _) (id := 1) rfl (pures_map y_1002 eTSpan (fun _ => rfl))) (RefV.out (by first | rfl | simp only [go_sem, seval]))), rfl, rfl⟩
theorem context_reader_classed_2_w (N : Nat) (a_0 : Int) (l_1 : List TSpan) (l_2 : List TClass) (c_0 : Bool) (c_1 : Bool) (z_1 : List TSpan) (z_2 : Bool) (h : context_reader_classed_2 N a_0 l_1 l_2 = some (z_1, z_2)) :
  ACalls Try.prog 116 [.int .i64 a_0, .ptr 0 0 0, .ptr 1 0 0] [.box [.vec c_0 (List.map eTSpan l_1)] 24, .box [.vec c_1 (List.map eTClass l_2)] 30] (fun e H => H = [.box [.vec c_0 (List.map eTSpan l_1)] 24, .box [.vec c_1 (List.map eTClass l_2)] 30] ∧ e = .ret (.agg [.vec false (List.map eTSpan z_1), .bool z_2])) := by
 unfold context_reader_classed_2 at h
 refine ACalls.goN Try.func116 n116 a116 Try.ntmps116 r116 (by simp) 2 rfl ?_
 generalize hQ : bodyA _ _ _ = QQ
 obtain ⟨⟨y_1, y_2⟩, h_3, h⟩ := bindS h
 try dsimp only at h
 simp only [A116, go_sem, seval]
 refine ACalls.use0 (cover_With_w N _ _ c_1 _ _ h_3) rfl rfl ?_
 obtain ⟨y_4, h_5, h⟩ := bindS h
 simp only [go_sem, seval]
 refine ACalls.use0 (cover_Both_w N _ _ _ c_0 false _ h_5) rfl rfl ?_
 simp only [go_sem, seval]
 obtain ⟨k_1, g_1⟩ := Prod.mk.inj (Option.some.inj h)
 subst k_1
 subst g_1
 rw [← hQ]
 exact ⟨rfl, _, rfl, _, _, (RefV.std [0, 1] (by decide) (by decide) rfl (by first | rfl | simp only [go_sem, seval])), rfl, rfl⟩
theorem context_reader_classed_1_1_w (N : Nat) (a_0 : Int) (l_1 : List TClass) (c_0 : Bool) (z_1 : List TSpan) (z_2 : Bool) (h : context_reader_classed_1_1 N a_0 l_1 = some (z_1, z_2)) :
  ACalls Try.prog 114 [.int .i64 a_0, .ptr 0 0 0] [.box [.vec c_0 (List.map eTClass l_1)] 30] (fun e H => H = [.box [.vec c_0 (List.map eTClass l_1)] 30] ∧ e = .ret (.agg [.vec false (List.map eTSpan z_1), .bool z_2])) := by
 unfold context_reader_classed_1_1 at h
 refine ACalls.goN Try.func114 n114 a114 Try.ntmps114 r114 (by simp) 1 rfl ?_
 generalize hQ : bodyA _ _ _ = QQ
 obtain ⟨⟨y_1, y_2⟩, h_3, h⟩ := bindS h
 try dsimp only at h
 simp only [A114, go_sem, seval]
 refine ACalls.use0 (cover_With_w N _ _ c_0 _ _ h_3) rfl rfl ?_
 refine CallK_go (by simp) ?_
 simp only [go_sem, seval]
 obtain ⟨k_1, g_1⟩ := Prod.mk.inj (Option.some.inj h)
 subst k_1
 subst g_1
 rw [← hQ]
 exact ⟨rfl, _, rfl, _, _, (RefV.std [0] (by decide) (by decide) rfl (by first | rfl | simp only [go_sem, seval])), rfl, rfl⟩
theorem context_of_v2_L1_w (N : Nat) (l_0 : List Int) (l_1 : List TClass) (c_0 : Bool) (c_1 : Bool) {R : AExit → ATm → List AObj → Prop} : ∀ (n : Nat) (i_1 : Int) (s_2 : List TSet) (o : (List TSet)), context_of_v2_L1 N l_0 l_1 n i_1 s_2 = some o → (match o with | z_1 => R (.exit 0) ⟨22, [(5, .row 1 0 z_1.length)], []⟩ [.box [.vec c_1 (List.map eTClass l_1)] 30, .mem 2 (List.map eTSet z_1) 85]) →
  ALp Try.prog 1 B132_1 ⟨22, [(1, .fn (.func 114) [] [.ptr 0 0 0]), (5, .row 1 0 s_2.length), (8, .vec c_0 (List.map eI64 l_0)), (9, .int .i64 (l_0.length : Int)), (10, .int .i64 i_1)], []⟩ [.box [.vec c_1 (List.map eTClass l_1)] 30, .mem 2 (List.map eTSet s_2) 85] R := by
 intro n
 induction n with
 | zero =>
  intro i_1 s_2 o h _
  have h0 : none = some o := h
  cases h0
 | succ n ih =>
  intro i_1 s_2 o h hp
  rw [context_of_v2_L1] at h
  refine ALp.round ?_
  generalize hQ : RoundQ _ _ _ _ = QQ
  simp only [B132_1, A132, go_sem, seval]
  by_cases h_3 : i_1 < (l_0.length : Int)
  ·
   rw [if_pos h_3] at h
   have e_4 := eq_true h_3
   obtain ⟨x_5, h_6, h⟩ := bindS h
   have e_7 : (List.map eI64 l_0)[(i_1).toNat]? = some [.int .i64 x_5] := atI_map eI64 h_6
   have e_8 := eq_true (atI_some h_6).1
   have e_9 := eq_true (atI_lt h_6)
   obtain ⟨⟨y_10, y_11⟩, h_12, h⟩ := bindS h
   try dsimp only at h
   simp only [e_4, e_7, e_8, e_9, go_sem, seval]
   refine ACalls.useA (context_reader_classed_1_1_w N _ _ c_1 _ _ h_12) [0] (v' := .agg [.vec false (List.map eTSpan y_10), .bool y_11]) (H' := [.box [.vec c_1 (List.map eTClass l_1)] 30, .mem 2 (List.map eTSet s_2) 85]) (hH := by simp only [go_sem, seval, e_4]) (ho := ⟨(by first | rfl | simp only [go_sem, seval, e_4]), trivial⟩) ?_
   refine CallK_go (by simp) ?_
   have e_13 : List.take s_2.length (List.map eTSet s_2) = (List.map eTSet s_2) := List.take_of_length_le (by simp)
   have e_14 : (List.map eTSet s_2) ++ [[.vec false (List.map eTSpan y_10), .bool y_11]] = (List.map eTSet (s_2 ++ [TSet.mk y_10 y_11])) := app_map s_2 ([TSet.mk y_10 y_11]) eTSet
   obtain ⟨h_15, h⟩ := guardS h
   have e_16 := eq_true h_15
   simp only [e_4, e_7, e_8, e_9, e_13, e_14, e_16, go_sem, seval]
   rw [← hQ]
   exact ⟨_, _, (Ref.std [1, 5, 8, 9, 10] [0, 2] (by decide) (by decide) (by first | rfl | simp only [go_sem, seval]) (by first | rfl | simp only [go_sem, seval])), (by simp), ih _ _ _ h hp⟩
  ·
   rw [if_neg h_3] at h
   have e_4 := eq_false h_3
   simp only [e_4, go_sem, seval]
   have g := Option.some.inj h
   subst g
   rw [← hQ]
   exact ⟨_, _, (Ref.std [5] [0, 1] (by decide) (by decide) rfl (by first | rfl | simp only [go_sem, seval])), hp⟩
theorem context_of_v2_w (N : Nat) (l_0 : List Int) (l_1 : List TClass) (c_0 : Bool) (c_1 : Bool) (z_1 : List TSet) (h : context_of_v2 N l_0 l_1 = some z_1) :
  ACalls Try.prog 132 [.vec c_0 (List.map eI64 l_0), .fn (.func 114) [] [.ptr 0 0 0]] [.box [.vec c_1 (List.map eTClass l_1)] 30] (fun e H => H = [.box [.vec c_1 (List.map eTClass l_1)] 30] ∧ e = .ret (.vec false (List.map eTSet z_1))) := by
 unfold context_of_v2 at h
 refine ACalls.goN Try.func132 n132 a132 Try.ntmps132 r132 (by simp) 1 rfl ?_
 generalize hQ : bodyA _ _ _ = QQ
 simp only [A132, go_sem, seval]
 obtain ⟨y_1002, h_1001, h⟩ := bindS h
 refine ALp.ref (Ref.trans (Ref.thaw (by simp) 5 rfl (sz := 2) (by decide) 85) (Ref.std [1, 5, 8, 9, 10] [0, 1] (by decide) (by decide) rfl (by first | rfl | simp only [go_sem, seval]))) (by simp) (context_of_v2_L1_w N _ _ c_0 c_1 N _ _ y_1002 h_1001 ?_)
 refine LoopK_go rfl (by simp) ?_
 simp only [go_sem, seval]
 have g_0 := Option.some.inj h
 subst g_0
 rw [← hQ]
 exact ⟨rfl, _, rfl, _, _, (RefV.trans (RefV.frz (by simp) (id := 1) rfl (pures_map y_1002 eTSet (fun _ => rfl))) (RefV.std [0] (by decide) (by decide) (by first | rfl | simp only [go_sem, seval]) (by first | rfl | simp only [go_sem, seval]))), rfl, rfl⟩
end Go.Proofs.Ytfacmhngbaboiaa.AI
