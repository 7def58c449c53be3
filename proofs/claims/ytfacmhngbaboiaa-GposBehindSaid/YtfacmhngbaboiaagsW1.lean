/- Part of a proof. -/
import Derived.Test.YtfacmhngbaboiaagsP
import Derived.Test.YtfacmhngbaboiaagsA
set_option linter.unusedVariables false
set_option linter.unusedSimpArgs false
set_option maxRecDepth 100000
set_option maxHeartbeats 1000000
namespace Go.Proofs.Ytfacmhngbaboiaa.AI
open Go.Proofs (Try.prog)
def eU8 (x : Int) : List AV := [.int .u8 x]
theorem Xh5 (S : Sub) (l : List Int) : (List.map eU8 l).map (subs S) = List.map eU8 l := ZE S l eU8 (fun _ => rfl)
def eI64 (x : Int) : List AV := [.int .i64 x]
theorem Xf1 (S : Sub) (l : List Int) : (List.map eI64 l).map (subs S) = List.map eI64 l := ZE S l eI64 (fun _ => rfl)
def Xi (x : TSpan) : List AV := [.int .i64 x.From, .int .i64 x.To]
theorem Xdi (S : Sub) (l : List TSpan) : (List.map Xi l).map (subs S) = List.map Xi l := ZE S l Xi (fun _ => rfl)
def YX (x : XW) : List AV := [.int .i64 x.e0, .int .i64 x.e1, .int .i64 x.e2]
theorem Xaq (S : Sub) (l : List XW) : (List.map YX l).map (subs S) = List.map YX l := ZE S l YX (fun _ => rfl)
def eTSet (x : TSet) : List AV := [.vec false (List.map Xi x.Spans), .bool x.Not]
theorem Xeq (S : Sub) (l : List TSet) : (List.map eTSet l).map (subs S) = List.map eTSet l := ZE S l eTSet (fun _ => rfl)
def eTAct (x : TAct) : List AV := [.int .i64 x.At, .int .i64 x.Lookup]
theorem Xet (S : Sub) (l : List TAct) : (List.map eTAct l).map (subs S) = List.map eTAct l := ZE S l eTAct (fun _ => rfl)
def eTCtx (x : TCtx) : List AV := [.vec false (List.map eTSet x.Back), .vec false (List.map eTSet x.In), .vec false (List.map eTSet x.Ahead), .vec false (List.map eTAct x.Acts)]
theorem Xes (S : Sub) (l : List TCtx) : (List.map eTCtx l).map (subs S) = List.map eTCtx l := ZE S l eTCtx (fun _ => rfl)
def Xh (x : Xg) : List AV := [.int .i64 x.From, .int .i64 x.To, .int .i64 x.Class]
theorem Xcd (S : Sub) (l : List Xg) : (List.map Xh l).map (subs S) = List.map Xh l := ZE S l Xh (fun _ => rfl)
def eLI64 (x : List Int) : List AV := [.vec false (List.map eI64 x)]
theorem Xeu (S : Sub) (l : List (List Int)) : (List.map eLI64 l).map (subs S) = List.map eLI64 l := ZE S l eLI64 (fun _ => rfl)
def eTLig (x : TLig) : List AV := [.vec false (List.map eI64 x.Parts), .int .i64 x.To]
theorem Xer (S : Sub) (l : List TLig) : (List.map eTLig l).map (subs S) = List.map eTLig l := ZE S l eTLig (fun _ => rfl)
def YP (x : List TLig) : List AV := [.vec false (List.map eTLig x)]
theorem Xdm (S : Sub) (l : List (List TLig)) : (List.map YP l).map (subs S) = List.map YP l := ZE S l YP (fun _ => rfl)
def XU (x : Yg) : List AV := [.int .i64 x.X, .int .i64 x.Y, .int .i64 x.Wide, .int .i64 x.High]
theorem Xcc (S : Sub) (l : List Yg) : (List.map XU l).map (subs S) = List.map XU l := ZE S l XU (fun _ => rfl)
def eTTwo (x : TTwo) : List AV := [.int .i64 x.Second, .int .i64 x.A.X, .int .i64 x.A.Y, .int .i64 x.A.Wide, .int .i64 x.A.High, .int .i64 x.B.X, .int .i64 x.B.Y, .int .i64 x.B.Wide, .int .i64 x.B.High]
theorem Xep (S : Sub) (l : List TTwo) : (List.map eTTwo l).map (subs S) = List.map eTTwo l := ZE S l eTTwo (fun _ => rfl)
def XC (x : List TTwo) : List AV := [.vec false (List.map eTTwo x)]
theorem Xdk (S : Sub) (l : List (List TTwo)) : (List.map XC l).map (subs S) = List.map XC l := ZE S l XC (fun _ => rfl)
def Xm (x : Xp) : List AV := [.bool x.e0.Is, .int .i64 x.e0.X, .int .i64 x.e0.Y, .bool x.e1.Is, .int .i64 x.e1.X, .int .i64 x.e1.Y]
theorem Jr (S : Sub) (l : List Xp) : (List.map Xm l).map (subs S) = List.map Xm l := ZE S l Xm (fun _ => rfl)
def YD (x : TMark) : List AV := [.int .i64 x.Class, .bool x.At.Is, .int .i64 x.At.X, .int .i64 x.At.Y]
theorem Xdj (S : Sub) (l : List TMark) : (List.map YD l).map (subs S) = List.map YD l := ZE S l YD (fun _ => rfl)
def YR (x : Xw) : List AV := [.bool x.Is, .int .i64 x.X, .int .i64 x.Y]
theorem Xbq (S : Sub) (l : List Xw) : (List.map YR l).map (subs S) = List.map YR l := ZE S l YR (fun _ => rfl)
def XQ (x : List Xw) : List AV := [.vec false (List.map YR x)]
theorem Xa7 (S : Sub) (l : List (List Xw)) : (List.map XQ l).map (subs S) = List.map XQ l := ZE S l XQ (fun _ => rfl)
def Xl (x : List (List Xw)) : List AV := [.vec false (List.map XQ x)]
theorem Jz (S : Sub) (l : List (List (List Xw))) : (List.map Xl l).map (subs S) = List.map Xl l := ZE S l Xl (fun _ => rfl)
def eLTSet (x : List TSet) : List AV := [.vec false (List.map eTSet x)]
theorem Xdl (S : Sub) (l : List (List TSet)) : (List.map eLTSet l).map (subs S) = List.map eLTSet l := ZE S l eLTSet (fun _ => rfl)
def eB (x : Bool) : List AV := [.bool x]
theorem Xjm (S : Sub) (l : List Bool) : (List.map eB l).map (subs S) = List.map eB l := ZE S l eB (fun _ => rfl)
theorem Xgl (v_From : Int) (v_To : Int) : Xi (TSpan.mk v_From v_To) = [.int .i64 v_From, .int .i64 v_To] := rfl
theorem Xbv (v_e0 : Int) (v_e1 : Int) (v_e2 : Int) : YX (XW.mk v_e0 v_e1 v_e2) = [.int .i64 v_e0, .int .i64 v_e1, .int .i64 v_e2] := rfl
theorem Xic (v_Spans : List TSpan) (v_Not : Bool) : eTSet (TSet.mk v_Spans v_Not) = [.vec false (List.map Xi v_Spans), .bool v_Not] := rfl
theorem Xif (v_At : Int) (v_Lookup : Int) : eTAct (TAct.mk v_At v_Lookup) = [.int .i64 v_At, .int .i64 v_Lookup] := rfl
theorem Xie (v_Back : List TSet) (v_In : List TSet) (v_Ahead : List TSet) (v_Acts : List TAct) : eTCtx (TCtx.mk v_Back v_In v_Ahead v_Acts) = [.vec false (List.map eTSet v_Back), .vec false (List.map eTSet v_In), .vec false (List.map eTSet v_Ahead), .vec false (List.map eTAct v_Acts)] := rfl
theorem Xez (v_From : Int) (v_To : Int) (v_Class : Int) : Xh (Xg.mk v_From v_To v_Class) = [.int .i64 v_From, .int .i64 v_To, .int .i64 v_Class] := rfl
theorem Xid (v_Parts : List Int) (v_To : Int) : eTLig (TLig.mk v_Parts v_To) = [.vec false (List.map eI64 v_Parts), .int .i64 v_To] := rfl
theorem Xey (v_X : Int) (v_Y : Int) (v_Wide : Int) (v_High : Int) : XU (Yg.mk v_X v_Y v_Wide v_High) = [.int .i64 v_X, .int .i64 v_Y, .int .i64 v_Wide, .int .i64 v_High] := rfl
theorem Xib (v_Second : Int) (v_A : Yg) (v_B : Yg) : eTTwo (TTwo.mk v_Second v_A v_B) = [.int .i64 v_Second, .int .i64 v_A.X, .int .i64 v_A.Y, .int .i64 v_A.Wide, .int .i64 v_A.High, .int .i64 v_B.X, .int .i64 v_B.Y, .int .i64 v_B.Wide, .int .i64 v_B.High] := rfl
theorem JO (v_e0 : Xw) (v_e1 : Xw) : Xm (Xp.mk v_e0 v_e1) = [.bool v_e0.Is, .int .i64 v_e0.X, .int .i64 v_e0.Y, .bool v_e1.Is, .int .i64 v_e1.X, .int .i64 v_e1.Y] := rfl
theorem Xgm (v_Class : Int) (v_At : Xw) : YD (TMark.mk v_Class v_At) = [.int .i64 v_Class, .bool v_At.Is, .int .i64 v_At.X, .int .i64 v_At.Y] := rfl
theorem Xds (v_Is : Bool) (v_X : Int) (v_Y : Int) : YR (Xw.mk v_Is v_X v_Y) = [.bool v_Is, .int .i64 v_X, .int .i64 v_Y] := rfl
attribute [local go_sem] Xh5 Xf1 Xdi Xaq Xeq Xet Xes Xcd Xeu Xer Xdm Xcc Xep Xdk Jr Xdj Xbq Xa7 Jz Xdl Xjm Xgl Xbv Xic Xif Xie Xez Xid Xey Xib JO Xgm Xds
def A23r : ACode := match A23 with | .seq _ r => r | _ => .skip
def A39r : ACode := match A39 with | .seq _ r => r | _ => .skip
def R39 : Nat × Nat × Nat × ACode × Nat := (39, 5, 2, A39r, 17)
theorem rc39 : RcvOk Go.Proofs.Try.prog R39 := ⟨Go.Proofs.Try.f39, Go.Proofs.Try.func39, n39, by kernel_rfl, Go.Proofs.Try.ntmps39, by kernel_rfl, by decide, by decide⟩
def A94r : ACode := match A94 with | .seq _ r => r | _ => .skip
def R94 : Nat × Nat × Nat × ACode × Nat := (94, 5, 2, A94r, 16)
theorem rc94 : RcvOk Go.Proofs.Try.prog R94 := ⟨Go.Proofs.Try.f94, Go.Proofs.Try.func94, n94, by kernel_rfl, Go.Proofs.Try.ntmps94, by kernel_rfl, by decide, by decide⟩
def Xjl : List (Nat × ACode × Nat × List RV) := [E15, E18, E19, E21, E38, E39, E40, E41, E46, E47, E64, E65, E66, E67, E68, E69, E70, E71, E72, E79, E84, E85, E86, E87, E88, E89, E90, E91, E92, E93, E94, E95, E96, E97, E98, E99, E100, E101, E103, E104, E105, E106, E107, E108, E109, E110, E111, E112, E113, E114, E115, E116, E117, E118, E119, E120, E121, E122, E123, E124, E125, E126, E127, E128, E129, E130, E131, E132]
theorem Xhb : AllOk Go.Proofs.Try.prog Xjl := ⟨e15, e18, e19, e21, e38, e39, e40, e41, e46, e47, e64, e65, e66, e67, e68, e69, e70, e71, e72, e79, e84, e85, e86, e87, e88, e89, e90, e91, e92, e93, e94, e95, e96, e97, e98, e99, e100, e101, e103, e104, e105, e106, e107, e108, e109, e110, e111, e112, e113, e114, e115, e116, e117, e118, e119, e120, e121, e122, e123, e124, e125, e126, e127, e128, e129, e130, e131, e132, trivial⟩
theorem alive13 : Xa Go.Proofs.Try.prog 18 [] [] fun e H => H = [] ∧ e = .ret (.bool true) := Xa.toldR (m := 300) (n := 20) (r := [R39, R94]) Xhb ⟨rc39, rc94, trivial⟩ (by decide +kernel)
theorem Ja {N : Nat} {b : Bool} {u : Unit} (h : Yb N b = some (.inl u)) : b = true := by
  cases b with
  | true => rfl
  | false => cases h
def B121_1 : ACode := match A121 with | (.seq _ (.seq _ (.seq (.seq _ (.block _ (.loop b))) _))) => b | _ => .skip
def B96_1 : ACode := match A96 with | (.seq _ (.seq _ (.seq _ (.seq _ (.seq _ (.seq (.seq _ (.block _ (.loop b))) _)))))) => b | _ => .skip
def B96_2 : ACode := match B96_1 with | (.seq _ (.seq _ (.seq (.block _ (.seq _ (.seq _ (.block _ (.loop b))))) _))) => b | _ => .skip
def B125_1 : ACode := match A125 with | (.seq _ (.seq _ (.seq (.seq _ (.block _ (.loop b))) _))) => b | _ => .skip
def B107_1 : ACode := match A107 with | (.seq _ (.seq _ (.seq (.seq _ (.block _ (.loop b))) _))) => b | _ => .skip
def B123_1 : ACode := match A123 with | (.seq _ (.seq _ (.seq _ (.seq _ (.seq _ (.seq _ (.seq (.seq _ (.block _ (.loop b))) _))))))) => b | _ => .skip
def B124_1 : ACode := match A124 with | (.seq _ (.seq _ (.seq _ (.seq _ (.seq _ (.seq (.seq _ (.block _ (.loop b))) _)))))) => b | _ => .skip
def B128_1 : ACode := match A128 with | (.seq _ (.seq _ (.seq _ (.seq _ (.seq _ (.seq _ (.seq (.seq _ (.block _ (.loop b))) _))))))) => b | _ => .skip
def B87_1 : ACode := match A87 with | (.seq _ (.seq _ (.seq (.seq _ (.block _ (.loop b))) _))) => b | _ => .skip
def B109_1 : ACode := match A109 with | (.seq _ (.seq _ (.seq (.seq _ (.block _ (.loop b))) _))) => b | _ => .skip
def B109_2 : ACode := match B109_1 with | (.seq _ (.seq _ (.seq (.block _ (.seq _ (.seq _ (.seq _ (.seq _ (.seq _ (.seq _ (.block _ (.loop b))))))))) _))) => b | _ => .skip
def B132_1 : ACode := match A132 with | (.seq _ (.seq _ (.seq (.seq _ (.block _ (.loop b))) _))) => b | _ => .skip
def B119_1 : ACode := match A119 with | (.seq _ (.seq _ (.seq (.seq _ (.block _ (.loop b))) _))) => b | _ => .skip
def B105_1 : ACode := match A105 with | (.seq _ (.scope (.seq _ (.seq _ (.seq _ (.seq (.seq _ (.block _ (.seq _ (.cond _ (.seq _ (.seq _ (.seq _ (.seq _ (.seq (.seq _ (.block _ (.loop b))) _))))) _)))) _)))))) => b | _ => .skip
def B105_2 : ACode := match A105 with | (.seq _ (.scope (.seq _ (.seq _ (.seq _ (.seq (.seq _ (.block _ (.seq _ (.cond _ _ (.seq _ (.cond _ (.seq _ (.seq (.seq _ (.block _ (.loop b))) _)) _)))))) _)))))) => b | _ => .skip
def B115_1 : ACode := match A115 with | (.seq _ (.seq _ (.seq (.seq _ (.block _ (.loop b))) _))) => b | _ => .skip
def B117_1 : ACode := match A117 with | (.seq _ (.seq _ (.seq _ (.seq (.seq _ (.block _ (.loop b))) _)))) => b | _ => .skip
def B117_2 : ACode := match B117_1 with | (.seq _ (.seq _ (.seq (.block _ (.seq _ (.seq _ (.seq (.seq _ (.block _ (.loop b))) _)))) _))) => b | _ => .skip
def B66_1 : ACode := match A66 with | (.seq _ (.seq _ (.seq _ (.seq _ (.seq _ (.seq (.seq _ (.block _ (.loop b))) _)))))) => b | _ => .skip
def B103_1 : ACode := match A103 with | (.seq _ (.seq _ (.seq (.seq _ (.block _ (.loop b))) _))) => b | _ => .skip
def B67_1 : ACode := match A67 with | (.seq _ (.seq _ (.seq _ (.seq (.seq _ (.cond _ (.seq _ (.seq _ (.seq (.seq _ (.block _ (.loop b))) _))) _)) _)))) => b | _ => .skip
def B67_2 : ACode := match B67_1 with | (.seq _ (.seq _ (.seq (.block _ (.seq _ (.seq (.seq _ (.block _ (.loop b))) _))) _))) => b | _ => .skip
def B67_3 : ACode := match A67 with | (.seq _ (.seq _ (.seq _ (.seq _ (.seq (.seq _ (.block _ (.loop b))) _))))) => b | _ => .skip
def B67_4 : ACode := match B67_3 with | (.seq _ (.seq _ (.seq (.block _ (.seq _ (.seq _ (.seq _ (.seq (.seq _ (.block _ (.loop b))) _))))) _))) => b | _ => .skip
def B69_1 : ACode := match A69 with | (.seq _ (.seq _ (.seq (.seq _ (.block _ (.loop b))) _))) => b | _ => .skip
def B92_1 : ACode := match A92 with | (.seq _ (.seq _ (.seq (.seq _ (.block _ (.loop b))) _))) => b | _ => .skip
def B70_1 : ACode := match A70 with | (.seq _ (.seq _ (.seq _ (.seq _ (.seq (.seq _ (.block _ (.loop b))) _))))) => b | _ => .skip
def B70_2 : ACode := match A70 with | (.seq _ (.seq _ (.seq _ (.seq _ (.seq _ (.seq (.seq _ (.block _ (.loop b))) _)))))) => b | _ => .skip
def B70_3 : ACode := match B70_2 with | (.seq _ (.seq _ (.seq (.block _ (.seq _ (.seq _ (.seq _ (.seq (.seq _ (.block _ (.loop b))) _))))) _))) => b | _ => .skip
def B22_1 : ACode := match A22 with | (.seq _ (.seq _ (.seq (.seq _ (.block _ (.loop b))) _))) => b | _ => .skip
def B22_2 : ACode := match A22 with | (.seq _ (.seq _ (.seq _ (.seq (.seq _ (.block _ (.loop b))) _)))) => b | _ => .skip
def B22_3 : ACode := match A22 with | (.seq _ (.seq _ (.seq _ (.seq _ (.seq (.seq _ (.block _ (.loop b))) _))))) => b | _ => .skip
def B34_1 : ACode := match A34 with | (.seq _ (.seq _ (.seq (.seq _ (.block _ (.loop b))) _))) => b | _ => .skip
def B35_1 : ACode := match A35 with | (.seq _ (.seq _ (.seq (.seq _ (.block _ (.loop b))) _))) => b | _ => .skip
def B62_1 : ACode := match A62 with | (.seq _ (.seq _ (.seq (.seq _ (.block _ (.loop b))) _))) => b | _ => .skip
def B36_1 : ACode := match A36 with | (.seq _ (.seq _ (.seq (.seq _ (.block _ (.loop b))) _))) => b | _ => .skip
def B36_2 : ACode := match B36_1 with | (.seq _ (.seq (.block _ (.seq _ (.seq _ (.block _ (.loop b))))) _)) => b | _ => .skip
def B37_1 : ACode := match A37 with | (.seq _ (.seq _ (.seq (.seq _ (.block _ (.loop b))) _))) => b | _ => .skip
def B37_2 : ACode := match B37_1 with | (.seq _ (.seq (.block _ (.seq _ (.seq _ (.block _ (.loop b))))) _)) => b | _ => .skip
def B63_1 : ACode := match A63 with | (.seq _ (.seq _ (.seq (.seq _ (.block _ (.loop b))) _))) => b | _ => .skip
def B42_1 : ACode := match A42 with | (.seq _ (.seq _ (.seq (.seq _ (.block _ (.loop b))) _))) => b | _ => .skip
def B43_1 : ACode := match A43 with | (.seq _ (.seq _ (.seq (.seq _ (.block _ (.loop b))) _))) => b | _ => .skip
def B43_2 : ACode := match B43_1 with | (.seq _ (.seq (.block _ (.seq _ (.seq _ (.block _ (.loop b))))) _)) => b | _ => .skip
def B44_1 : ACode := match A44 with | (.seq _ (.seq _ (.seq (.seq _ (.block _ (.loop b))) _))) => b | _ => .skip
def B44_2 : ACode := match B44_1 with | (.seq _ (.seq (.block _ (.seq _ (.seq _ (.block _ (.loop b))))) _)) => b | _ => .skip
def B44_3 : ACode := match B44_2 with | (.seq _ (.seq (.block _ (.seq _ (.seq _ (.block _ (.loop b))))) _)) => b | _ => .skip
theorem Xv (N : Nat) (b_0 : Bool) (o : (Unit) ⊕ Unit) (h : Yb N b_0 = some o) :
  Xa Try.prog 40 [.bool b_0] [] (fun e H => match o with | .inl _ => H = [] ∧ e = .ret (.tup []) | .inr _ => H = [] ∧ e = .pan (.iface 91 (.agg []))) := by
 unfold Yb at h; refine Xa.goN Try.func40 n40 a40 Try.ntmps40 r40 (by simp) 0 rfl ?_; generalize hQ : bodyA _ _ _ = QQ; simp only [A40, go_sem, seval]; rcases iteB h with ⟨e_2, h⟩ | ⟨e_2, h⟩
 · simp only [e_2, go_sem, seval]; cases h; rw [← hQ]; exact ⟨rfl, _, rfl, _, _, (RefV.out rfl), rfl, rfl⟩
 · simp only [e_2, go_sem, seval]; cases h; rw [← hQ]; exact ⟨rfl, _, _, RefV.dead rfl, rfl, rfl⟩
theorem JR (N : Nat) (l_0 : List Int) (a_1 : Int) (a_2 : Int) (c_0 : Bool) (z_1 : Bool) (h : QB N l_0 a_1 a_2 = some z_1) :
  Xa Try.prog 120 [.vec c_0 (List.map eU8 l_0), .int .i64 a_1, .int .i64 a_2] [] (fun e H => H = [] ∧ e = .ret (.bool z_1)) := by
 unfold QB at h; refine Xa.goN Try.func120 n120 a120 Try.ntmps120 r120 (by simp) 0 rfl ?_; generalize hQ : bodyA _ _ _ = QQ; simp only [A120, go_sem, seval]; rcases iteS h with ⟨e_2, h⟩ | ⟨e_2, h⟩
 ·
  simp only [e_2, go_sem, seval]; rcases iteS h with ⟨e_4, h⟩ | ⟨e_4, h⟩
  ·
   simp only [e_2, e_4, go_sem, seval]; rcases iteS h with ⟨e_6, h⟩ | ⟨e_6, h⟩
   · simp only [e_2, e_4, e_6, go_sem, seval]; obtain rfl := si h; rw [← hQ]; exact ⟨rfl, _, rfl, _, _, (RefV.out (by first | rfl | simp only [go_sem, seval, e_2, e_4, e_6])), rfl, rfl⟩
   · simp only [e_2, e_4, e_6, go_sem, seval]; obtain rfl := si h; rw [← hQ]; exact ⟨rfl, _, rfl, _, _, (RefV.out rfl), rfl, rfl⟩
  · simp only [e_2, e_4, go_sem, seval]; obtain rfl := si h; rw [← hQ]; exact ⟨rfl, _, rfl, _, _, (RefV.out rfl), rfl, rfl⟩
 · simp only [e_2, go_sem, seval]; obtain rfl := si h; rw [← hQ]; exact ⟨rfl, _, rfl, _, _, (RefV.out rfl), rfl, rfl⟩
theorem Xew (N : Nat) (l_0 : List Int) (c_0 : Bool) {R : AExit → ATm → List AObj → Prop} : ∀ (n : Nat) (i_1 : Int) (i_2 : Int) (o : Int), Ye N l_0 n i_1 i_2 = some o → (match o with | z_1 => R (.exit 0) ⟨19, [(3, .int .i64 z_1)], []⟩ []) →
  ALp Try.prog 0 B121_1 ⟨19, [(3, .int .i64 i_1), (6, .vec c_0 (List.map eU8 l_0)), (7, .int .i64 (l_0.length : Int)), (8, .int .i64 i_2)], []⟩ [] R := by
 intro n
 induction n with
 | zero =>
  intro i_1 i_2 o h _; exact no0 h
 | succ n ih =>
  intro i_1 i_2 o h hp; rw [Ye] at h; refine ALp.round ?_; generalize hQ : YB _ _ _ _ = QQ; simp only [B121_1, A121, go_sem, seval]; rcases iteS h with ⟨e_4, h⟩ | ⟨e_4, h⟩
  · obtain ⟨x_5, h_6, h⟩ := bindS h; have e_7 : (List.map eU8 l_0)[(i_2).toNat]? = some [.int .u8 x_5] := XA eU8 h_6; have e_8 := eq_true (Xx h_6).1; have e_9 := eq_true (XP h_6); have e_10 : (min 8 64 : Nat) = 8 := rfl; simp only [e_4, e_7, e_8, e_9, e_10, go_sem, seval]; rw [← hQ]; exact ⟨_, _, (Ref.out [3, 6, 7, 8] rfl), (Nat.zero_le _), ih _ _ _ h hp⟩
  · simp only [e_4, go_sem, seval]; cases h; rw [← hQ]; exact ⟨_, _, (Ref.out [3] rfl), hp⟩
theorem Xda (N : Nat) (l_0 : List Int) (c_0 : Bool) (z_1 : Int) (h : QA N l_0 = some z_1) :
  Xa Try.prog 121 [.vec c_0 (List.map eU8 l_0)] [] (fun e H => H = [] ∧ e = .ret (.int .i64 z_1)) := by
 unfold QA at h; refine Xa.goN Try.func121 n121 a121 Try.ntmps121 r121 (by simp) 0 rfl ?_; generalize hQ : bodyA _ _ _ = QQ; simp only [A121, go_sem, seval]; obtain ⟨y_1002, h_1001, h⟩ := bindS h; refine ALp.ref (Ref.out [3, 6, 7, 8] rfl) (Nat.zero_le _) (Xew N _ c_0 N _ _ y_1002 h_1001 ?_); refine XJ rfl (Nat.zero_le _) ?_; simp only [go_sem, seval]; obtain rfl := si h; rw [← hQ]; exact ⟨rfl, _, rfl, _, _, (RefV.out rfl), rfl, rfl⟩
theorem Xff (N : Nat) (l_0 : List Int) (a_1 : Int) (a_2 : Int) (c_0 : Bool) (z_1 : Int) (z_2 : Bool) (h : Xao N l_0 a_1 a_2 = some (z_1, z_2)) :
  Xa Try.prog 99 [.vec c_0 (List.map eU8 l_0), .int .i64 a_1, .int .i64 a_2] [] (fun e H => H = [] ∧ e = .ret (.tup [.int .i64 z_1, .bool z_2])) := by
 unfold Xao at h; refine Xa.goN Try.func99 n99 a99 Try.ntmps99 r99 (by simp) 0 rfl ?_; generalize hQ : bodyA _ _ _ = QQ; obtain ⟨y_1, h_2, h⟩ := bindS h; simp only [A99, go_sem, seval]; refine Xa.go0 (JR N _ _ _ c_0 _ h_2) ?_; simp only [go_sem, seval]; rcases iteB h with ⟨e_4, h⟩ | ⟨e_4, h⟩
 · obtain ⟨e_6, h⟩ := guardE h; obtain ⟨e_8, h⟩ := guardE h; obtain ⟨e_10, h⟩ := guardE h; have e_11 := Xaa l_0 eU8 1 (fun _ => rfl); have e_12 : List.take ((IntKind.i64.wrap (a_1 + a_2)).toNat - (a_1).toNat) (List.drop (a_1).toNat (List.map eU8 l_0)) = List.map eU8 (slI l_0 a_1 (IntKind.i64.wrap (a_1 + a_2))) := slI_map l_0 a_1 (IntKind.i64.wrap (a_1 + a_2)) eU8; obtain ⟨y_13, h_14, h⟩ := bindS h; simp only [e_4, e_6, e_8, e_10, e_11, e_12, go_sem, seval]; refine Xa.go0 (Xda N _ _ _ h_14) ?_; simp only [e_4, e_6, e_8, e_10, e_11, e_12, go_sem, seval]; obtain ⟨rfl, rfl⟩ := pj (si h); rw [← hQ]; exact ⟨rfl, _, rfl, _, _, (RefV.out rfl), rfl, rfl⟩
 · simp only [e_4, go_sem, seval]; obtain ⟨rfl, rfl⟩ := pj (si h); rw [← hQ]; exact ⟨rfl, _, rfl, _, _, (RefV.out rfl), rfl, rfl⟩
theorem Jt (N : Nat) (l_0 : List Int) (a_1 : Int) (c_0 : Bool) (z_1 : Int) (z_2 : Bool) (h : QM N l_0 a_1 = some (z_1, z_2)) :
  Xa Try.prog 72 [.vec c_0 (List.map eU8 l_0), .int .i64 a_1] [] (fun e H => H = [] ∧ e = .ret (.tup [.int .i64 z_1, .bool z_2])) := by
 unfold QM at h; refine Xa.goN Try.func72 n72 a72 Try.ntmps72 r72 (by simp) 0 rfl ?_; generalize hQ : bodyA _ _ _ = QQ; obtain ⟨⟨y_1, y_2⟩, h_3, h⟩ := bindS h; (try dsimp only at h); simp only [A72, go_sem, seval]; refine Xa.go0 (Xff N _ _ _ c_0 _ _ h_3) ?_; simp only [go_sem, seval]; obtain ⟨rfl, rfl⟩ := pj (si h); rw [← hQ]; exact ⟨rfl, _, rfl, _, _, (RefV.out rfl), rfl, rfl⟩
theorem Xz (N : Nat) (b_0 : Bool) (o : (Unit) ⊕ Unit) (h : YH N b_0 = some o) :
  Xa Try.prog 106 [.bool b_0] [] (fun e H => match o with | .inl _ => H = [] ∧ e = .ret (.tup []) | .inr _ => H = [] ∧ e = .pan (.iface 148 (.agg []))) := by
 unfold YH at h; refine Xa.goN Try.func106 n106 a106 Try.ntmps106 r106 (by simp) 0 rfl ?_; generalize hQ : bodyA _ _ _ = QQ; simp only [A106, go_sem, seval]; rcases iteB h with ⟨e_2, h⟩ | ⟨e_2, h⟩
 · simp only [e_2, go_sem, seval]; cases h; rw [← hQ]; exact ⟨rfl, _, rfl, _, _, (RefV.out rfl), rfl, rfl⟩
 · simp only [e_2, go_sem, seval]; cases h; rw [← hQ]; exact ⟨rfl, _, _, RefV.dead rfl, rfl, rfl⟩
theorem Xk (N : Nat) (l_0 : List Int) (a_1 : Int) (c_0 : Bool) (o : (Int) ⊕ Unit) (h : Xy N l_0 a_1 = some o) :
  Xa Try.prog 95 [.ptr 0 0 0] [.box [.vec c_0 (List.map eU8 l_0), .int .i64 a_1] 152] (fun e H => match o with | .inl z_1 => H = [.box [.vec c_0 (List.map eU8 l_0), .int .i64 (IntKind.i64.wrap (a_1 + 2))] 152] ∧ e = .ret (.int .i64 z_1) | .inr _ => H = [.dead] ∧ e = .pan (.iface 148 (.agg []))) := by
 unfold Xy at h; refine Xa.goN Try.func95 n95 a95 Try.ntmps95 r95 (by simp) 1 rfl ?_; generalize hQ : bodyA _ _ _ = QQ; obtain ⟨⟨y_1, y_2⟩, h_3, h⟩ := bindS h; (try dsimp only at h); simp only [A95, go_sem, seval]; refine Xa.use0 (Jt N _ _ c_0 _ _ h_3) rfl rfl ?_; obtain ⟨o_5, h_4, h⟩ := bindS h; simp only [go_sem, seval]; rcases o_5 with _ | _
 · (try dsimp only at h); refine Xa.go0 (Xz N _ _ h_4) ?_; simp only [go_sem, seval]; cases h; rw [← hQ]; exact ⟨rfl, _, rfl, _, _, (RefV.std [0] (by decide) (by decide) rfl (by first | rfl | simp only [go_sem, seval])), rfl, rfl⟩
 · (try dsimp only at h); refine Xa.panA (Xz N _ _ h_4) [] ?_; (try simp only [Xc, Xb, Xe]); cases h; rw [← hQ]; exact ⟨rfl, _, _, RefV.dead rfl, rfl, rfl⟩
theorem Xia (N : Nat) (a_0 : Int) (l_1 : List Int) (a_2 : Int) (a_3 : Int) (c_0 : Bool) (z_1 : Int) (h : Xav N a_0 l_1 a_2 a_3 = some z_1) :
  Xa Try.prog 126 [.int .i64 a_0, .ptr 0 0 0, .ptr 1 0 0, .ptr 2 0 0] [.box [.vec c_0 (List.map eU8 l_1)] 22, .box [.int .i64 a_2] 3, .box [.int .i64 a_3] 3] (fun e H => H = [.box [.vec c_0 (List.map eU8 l_1)] 22, .box [.int .i64 a_2] 3, .box [.int .i64 a_3] 3] ∧ e = .ret (.int .i64 z_1)) := by
 unfold Xav at h; refine Xa.goN Try.func126 n126 a126 Try.ntmps126 r126 (by simp) 3 rfl ?_; generalize hQ : bodyA _ _ _ = QQ; obtain ⟨e_2, h⟩ := guardE h; obtain ⟨e_4, h⟩ := guardE h; obtain ⟨e_6, h⟩ := guardE h; have e_7 := Xaa l_1 eU8 1 (fun _ => rfl); have e_8 : List.take ((IntKind.i64.wrap (a_2 + (IntKind.i64.wrap ((IntKind.i64.wrap (a_0 + 1)) * a_3)))).toNat - (IntKind.i64.wrap (a_2 + (IntKind.i64.wrap (a_0 * a_3)))).toNat) (List.drop (IntKind.i64.wrap (a_2 + (IntKind.i64.wrap (a_0 * a_3)))).toNat (List.map eU8 l_1)) = List.map eU8 (slI l_1 (IntKind.i64.wrap (a_2 + (IntKind.i64.wrap (a_0 * a_3)))) (IntKind.i64.wrap (a_2 + (IntKind.i64.wrap ((IntKind.i64.wrap (a_0 + 1)) * a_3))))) := slI_map l_1 (IntKind.i64.wrap (a_2 + (IntKind.i64.wrap (a_0 * a_3)))) (IntKind.i64.wrap (a_2 + (IntKind.i64.wrap ((IntKind.i64.wrap (a_0 + 1)) * a_3)))) eU8; obtain ⟨y_9, h_10, h⟩ := bindS h; simp only [A126, e_2, e_4, e_6, e_7, e_8, go_sem, seval]; refine Xa.go0 (Xda N _ _ _ h_10) ?_; simp only [e_2, e_4, e_6, e_7, e_8, go_sem, seval]; obtain rfl := si h; rw [← hQ]; exact ⟨rfl, _, rfl, _, _, (RefV.std [0, 1, 2] (by decide) (by decide) rfl (by first | rfl | simp only [go_sem, seval])), rfl, rfl⟩
theorem Xdr (N : Nat) (a_0 : Int) (l_1 : List Int) (a_2 : Int) (a_3 : Int) (c_0 : Bool) {R : AExit → ATm → List AObj → Prop} : ∀ (n : Nat) (i_1 : Int) (s_2 : List Int) (o : (List Int)), Ze N a_0 l_1 a_2 a_3 n i_1 s_2 = some o → (match o with | z_1 => R (.exit 0) ⟨19, [(5, .row 3 0 z_1.length)], []⟩ [.box [.vec c_0 (List.map eU8 l_1)] 22, .box [.int .i64 a_2] 3, .box [.int .i64 a_3] 3, .mem 1 (List.map eI64 z_1) 3]) →
  ALp Try.prog 3 B125_1 ⟨19, [(1, .fn (.func 126) [] [.ptr 0 0 0, .ptr 1 0 0, .ptr 2 0 0]), (5, .row 3 0 s_2.length), (7, .int .i64 a_0), (8, .int .i64 i_1)], []⟩ [.box [.vec c_0 (List.map eU8 l_1)] 22, .box [.int .i64 a_2] 3, .box [.int .i64 a_3] 3, .mem 1 (List.map eI64 s_2) 3] R := by
 intro n
 induction n with
 | zero =>
  intro i_1 s_2 o h _; exact no0 h
 | succ n ih =>
  intro i_1 s_2 o h hp; rw [Ze] at h; refine ALp.round ?_; generalize hQ : YB _ _ _ _ = QQ; simp only [B125_1, A125, go_sem, seval]; rcases iteS h with ⟨e_4, h⟩ | ⟨e_4, h⟩
  · obtain ⟨y_5, h_6, h⟩ := bindS h; simp only [e_4, go_sem, seval]; refine Xa.goA (Xia N _ _ _ _ c_0 _ h_6) [0, 1, 2] (ho := ⟨(by first | rfl | simp only [go_sem, seval, e_4]), (by first | rfl | simp only [go_sem, seval, e_4]), (by first | rfl | simp only [go_sem, seval, e_4]), trivial⟩) ?_; have e_7 := tk eI64 s_2; have e_8 : (List.map eI64 s_2) ++ [[.int .i64 y_5]] = (List.map eI64 (s_2 ++ [y_5])) := YS s_2 ([y_5]) eI64; obtain ⟨e_10, h⟩ := guardE h; simp only [e_4, e_7, e_8, e_10, go_sem, seval]; rw [← hQ]; exact ⟨_, _, (Ref.std [1, 5, 7, 8] [0, 1, 2, 4] (by decide) (by decide) (by first | rfl | simp only [go_sem, seval]) (by first | rfl | simp only [go_sem, seval])), (by simp), ih _ _ _ h hp⟩
  · simp only [e_4, go_sem, seval]; cases h; rw [← hQ]; exact ⟨_, _, (Ref.std [5] [0, 1, 2, 3] (by decide) (by decide) rfl (by first | rfl | simp only [go_sem, seval])), hp⟩
theorem JZ (N : Nat) (a_0 : Int) (l_1 : List Int) (a_2 : Int) (a_3 : Int) (c_0 : Bool) (z_1 : List Int) (h : Qv N a_0 l_1 a_2 a_3 = some z_1) :
  Xa Try.prog 125 [.int .i64 a_0, .fn (.func 126) [] [.ptr 0 0 0, .ptr 1 0 0, .ptr 2 0 0]] [.box [.vec c_0 (List.map eU8 l_1)] 22, .box [.int .i64 a_2] 3, .box [.int .i64 a_3] 3] (fun e H => H = [.box [.vec c_0 (List.map eU8 l_1)] 22, .box [.int .i64 a_2] 3, .box [.int .i64 a_3] 3] ∧ e = .ret (.vec false (List.map eI64 z_1))) := by
 unfold Qv at h; refine Xa.goN Try.func125 n125 a125 Try.ntmps125 r125 (by simp) 3 rfl ?_; generalize hQ : bodyA _ _ _ = QQ; simp only [A125, go_sem, seval]; obtain ⟨y_1002, h_1001, h⟩ := bindS h; refine ALp.ref (Ref.trans (Ref.thaw (by simp) 5 rfl (sz := 1) (by decide) 3) (Ref.std [1, 5, 7, 8] [0, 1, 2, 3] (by decide) (by decide) rfl (by first | rfl | simp only [go_sem, seval]))) (by simp) (Xdr N _ _ _ _ c_0 N _ _ y_1002 h_1001 ?_); refine XJ rfl (by simp) ?_; simp only [go_sem, seval]; obtain rfl := si h; rw [← hQ]; exact ⟨rfl, _, rfl, _, _, (RefV.trans (RefV.frz (by simp) (id := 3) rfl (XX y_1002 eI64 (fun _ => rfl))) (RefV.std [0, 1, 2] (by decide) (by decide) (by first | rfl | simp only [go_sem, seval]) (by first | rfl | simp only [go_sem, seval]))), rfl, rfl⟩
theorem Xau (N : Nat) (l_0 : List Int) (a_1 : Int) (a_2 : Int) (a_3 : Int) (c_0 : Bool) (z_1 : List Int) (z_2 : Bool) (h : Jk N l_0 a_1 a_2 a_3 = some (z_1, z_2)) :
  Xa Try.prog 101 [.vec c_0 (List.map eU8 l_0), .int .i64 a_1, .int .i64 a_2, .int .i64 a_3] [] (fun e H => H = [] ∧ e = .ret (.tup [.vec false (List.map eI64 z_1), .bool z_2])) := by
 unfold Jk at h; refine Xa.goN Try.func101 n101 a101 Try.ntmps101 r101 (by simp) 0 rfl ?_; generalize hQ : bodyA _ _ _ = QQ; simp only [A101, go_sem, seval]; rcases iteS h with ⟨e_2, h⟩ | ⟨e_2, h⟩
 ·
  simp only [e_2, go_sem, seval]; rcases iteS h with ⟨e_4, h⟩ | ⟨e_4, h⟩
  · simp only [e_2, e_4, go_sem, seval]; obtain ⟨rfl, rfl⟩ := pj (si h); rw [← hQ]; exact ⟨rfl, _, rfl, _, _, outVB, rfl, rfl⟩
  ·
   simp only [e_2, e_4, go_sem, seval]; rcases iteS h with ⟨e_6, h⟩ | ⟨e_6, h⟩
   · simp only [e_2, e_4, e_6, go_sem, seval]; obtain ⟨rfl, rfl⟩ := pj (si h); rw [← hQ]; exact ⟨rfl, _, rfl, _, _, outVB, rfl, rfl⟩
   ·
    obtain ⟨y_7, h_8, h⟩ := bindS h; simp only [e_2, e_4, e_6, go_sem, seval]; refine Xa.go0 (JR N _ _ _ c_0 _ h_8) ?_; simp only [e_2, e_4, e_6, go_sem, seval]; rcases iteB h with ⟨e_10, h⟩ | ⟨e_10, h⟩
    · obtain ⟨y_11, h_12, h⟩ := bindS h; simp only [e_2, e_4, e_6, e_10, go_sem, seval]; refine Xa.goA (JZ N _ _ _ _ c_0 _ h_12) [0, 1, 2] (ho := ⟨(by first | rfl | simp only [go_sem, seval, e_2, e_4, e_6, e_10]), (by first | rfl | simp only [go_sem, seval, e_2, e_4, e_6, e_10]), (by first | rfl | simp only [go_sem, seval, e_2, e_4, e_6, e_10]), trivial⟩) ?_; simp only [e_2, e_4, e_6, e_10, go_sem, seval]; obtain ⟨rfl, rfl⟩ := pj (si h); rw [← hQ]; exact ⟨rfl, _, rfl, _, _, (RefV.out rfl), rfl, rfl⟩
    · simp only [e_2, e_4, e_6, e_10, go_sem, seval]; obtain ⟨rfl, rfl⟩ := pj (si h); rw [← hQ]; exact ⟨rfl, _, rfl, _, _, outVB, rfl, rfl⟩
 ·
  simp only [e_2, go_sem, seval]; rcases iteS h with ⟨e_14, h⟩ | ⟨e_14, h⟩
  ·
   simp only [e_2, e_14, go_sem, seval]; rcases iteS h with ⟨e_16, h⟩ | ⟨e_16, h⟩
   · simp only [e_2, e_14, e_16, go_sem, seval]; obtain ⟨rfl, rfl⟩ := pj (si h); rw [← hQ]; exact ⟨rfl, _, rfl, _, _, outVB, rfl, rfl⟩
   ·
    simp only [e_2, e_14, e_16, go_sem, seval]; rcases iteS h with ⟨e_18, h⟩ | ⟨e_18, h⟩
    · simp only [e_2, e_14, e_16, e_18, go_sem, seval]; obtain ⟨rfl, rfl⟩ := pj (si h); rw [← hQ]; exact ⟨rfl, _, rfl, _, _, outVB, rfl, rfl⟩
    ·
     obtain ⟨y_19, h_20, h⟩ := bindS h; simp only [e_2, e_14, e_16, e_18, go_sem, seval]; refine Xa.go0 (JR N _ _ _ c_0 _ h_20) ?_; simp only [e_2, e_14, e_16, e_18, go_sem, seval]; rcases iteB h with ⟨e_22, h⟩ | ⟨e_22, h⟩
     · obtain ⟨y_23, h_24, h⟩ := bindS h; simp only [e_2, e_14, e_16, e_18, e_22, go_sem, seval]; refine Xa.goA (JZ N _ _ _ _ c_0 _ h_24) [0, 1, 2] (ho := ⟨(by first | rfl | simp only [go_sem, seval, e_2, e_14, e_16, e_18, e_22]), (by first | rfl | simp only [go_sem, seval, e_2, e_14, e_16, e_18, e_22]), (by first | rfl | simp only [go_sem, seval, e_2, e_14, e_16, e_18, e_22]), trivial⟩) ?_; simp only [e_2, e_14, e_16, e_18, e_22, go_sem, seval]; obtain ⟨rfl, rfl⟩ := pj (si h); rw [← hQ]; exact ⟨rfl, _, rfl, _, _, (RefV.out rfl), rfl, rfl⟩
     · simp only [e_2, e_14, e_16, e_18, e_22, go_sem, seval]; obtain ⟨rfl, rfl⟩ := pj (si h); rw [← hQ]; exact ⟨rfl, _, rfl, _, _, outVB, rfl, rfl⟩
  ·
   simp only [e_2, e_14, go_sem, seval]; rcases iteS h with ⟨e_26, h⟩ | ⟨e_26, h⟩
   ·
    simp only [e_2, e_14, e_26, go_sem, seval]; rcases iteS h with ⟨e_28, h⟩ | ⟨e_28, h⟩
    · simp only [e_2, e_14, e_26, e_28, go_sem, seval]; obtain ⟨rfl, rfl⟩ := pj (si h); rw [← hQ]; exact ⟨rfl, _, rfl, _, _, outVB, rfl, rfl⟩
    ·
     simp only [e_2, e_14, e_26, e_28, go_sem, seval]; rcases iteS h with ⟨e_30, h⟩ | ⟨e_30, h⟩
     · simp only [e_2, e_14, e_26, e_28, e_30, go_sem, seval]; obtain ⟨rfl, rfl⟩ := pj (si h); rw [← hQ]; exact ⟨rfl, _, rfl, _, _, outVB, rfl, rfl⟩
     ·
      obtain ⟨y_31, h_32, h⟩ := bindS h; simp only [e_2, e_14, e_26, e_28, e_30, go_sem, seval]; refine Xa.go0 (JR N _ _ _ c_0 _ h_32) ?_; simp only [e_2, e_14, e_26, e_28, e_30, go_sem, seval]; rcases iteB h with ⟨e_34, h⟩ | ⟨e_34, h⟩
      · obtain ⟨y_35, h_36, h⟩ := bindS h; simp only [e_2, e_14, e_26, e_28, e_30, e_34, go_sem, seval]; refine Xa.goA (JZ N _ _ _ _ c_0 _ h_36) [0, 1, 2] (ho := ⟨(by first | rfl | simp only [go_sem, seval, e_2, e_14, e_26, e_28, e_30, e_34]), (by first | rfl | simp only [go_sem, seval, e_2, e_14, e_26, e_28, e_30, e_34]), (by first | rfl | simp only [go_sem, seval, e_2, e_14, e_26, e_28, e_30, e_34]), trivial⟩) ?_; simp only [e_2, e_14, e_26, e_28, e_30, e_34, go_sem, seval]; obtain ⟨rfl, rfl⟩ := pj (si h); rw [← hQ]; exact ⟨rfl, _, rfl, _, _, (RefV.out rfl), rfl, rfl⟩
      · simp only [e_2, e_14, e_26, e_28, e_30, e_34, go_sem, seval]; obtain ⟨rfl, rfl⟩ := pj (si h); rw [← hQ]; exact ⟨rfl, _, rfl, _, _, outVB, rfl, rfl⟩
   · simp only [e_2, e_14, e_26, go_sem, seval]; obtain ⟨rfl, rfl⟩ := pj (si h); rw [← hQ]; exact ⟨rfl, _, rfl, _, _, outVB, rfl, rfl⟩
theorem Xf (N : Nat) (l_0 : List Int) (a_1 : Int) (a_2 : Int) (c_0 : Bool) (o : ((List Int)) ⊕ Unit) (h : Xr N l_0 a_1 a_2 = some o) :
  Xa Try.prog 108 [.ptr 0 0 0, .int .i64 a_2] [.box [.vec c_0 (List.map eU8 l_0), .int .i64 a_1] 152] (fun e H => match o with | .inl z_1 => H = [.box [.vec c_0 (List.map eU8 l_0), .int .i64 (IntKind.i64.wrap (a_1 + (IntKind.i64.wrap (a_2 * 2))))] 152] ∧ e = .ret (.vec false (List.map eI64 z_1)) | .inr _ => H = [.dead] ∧ e = .pan (.iface 148 (.agg []))) := by
 unfold Xr at h; refine Xa.goN Try.func108 n108 a108 Try.ntmps108 r108 (by simp) 1 rfl ?_; generalize hQ : bodyA _ _ _ = QQ; obtain ⟨⟨y_1, y_2⟩, h_3, h⟩ := bindS h; (try dsimp only at h); simp only [A108, go_sem, seval]; refine Xa.use0 (Xau N _ _ _ _ c_0 _ _ h_3) rfl rfl ?_; obtain ⟨o_5, h_4, h⟩ := bindS h; simp only [go_sem, seval]; rcases o_5 with _ | _
 · (try dsimp only at h); refine Xa.go0 (Xz N _ _ h_4) ?_; simp only [go_sem, seval]; cases h; rw [← hQ]; exact ⟨rfl, _, rfl, _, _, (RefV.std [0] (by decide) (by decide) rfl (by first | rfl | simp only [go_sem, seval])), rfl, rfl⟩
 · (try dsimp only at h); refine Xa.panA (Xz N _ _ h_4) [] ?_; (try simp only [Xc, Xb, Xe]); cases h; rw [← hQ]; exact ⟨rfl, _, _, RefV.dead rfl, rfl, rfl⟩
theorem Xdd (N : Nat) (l_0 : List Int) (a_1 : Int) (c_0 : Bool) (z_1 : Int) (h : QC N l_0 a_1 = some z_1) :
  Xa Try.prog 122 [.vec c_0 (List.map eU8 l_0), .int .i64 a_1] [] (fun e H => H = [] ∧ e = .ret (.int .i64 z_1)) := by
 unfold QC at h; refine Xa.goN Try.func122 n122 a122 Try.ntmps122 r122 (by simp) 0 rfl ?_; generalize hQ : bodyA _ _ _ = QQ; obtain ⟨⟨y_1, y_2⟩, h_3, h⟩ := bindS h; (try dsimp only at h); simp only [A122, go_sem, seval]; refine Xa.go0 (Jt N _ _ c_0 _ _ h_3) ?_; simp only [go_sem, seval]; rcases iteB h with ⟨e_5, h⟩ | ⟨e_5, h⟩
 · simp only [e_5, go_sem, seval]; obtain rfl := si h; rw [← hQ]; exact ⟨rfl, _, rfl, _, _, (RefV.out rfl), rfl, rfl⟩
 · simp only [e_5, go_sem, seval]; obtain rfl := si h; rw [← hQ]; exact ⟨rfl, _, rfl, _, _, (RefV.out rfl), rfl, rfl⟩
theorem Qo (N : Nat) (l_0 : List TSpan) (a_1 : Int) (a_2 : Int) (z_1 : List TSpan) (h : Za N l_0 a_1 a_2 = some z_1) :
  Xa Try.prog 130 [.row 0 0 l_0.length, .agg [.int .i64 a_1, .int .i64 a_2]] [.mem 2 (List.map Xi l_0) 87] (fun e H => H = [.dead, .mem 2 (List.map Xi z_1) 87] ∧ e = .ret (.row 1 0 z_1.length)) := by
 unfold Za at h; refine Xa.goN Try.func130 n130 a130 Try.ntmps130 r130 (by simp) 1 rfl ?_; generalize hQ : bodyA _ _ _ = QQ; simp only [A130, go_sem, seval]; rcases iteS h with ⟨e_2, h⟩ | ⟨e_2, h⟩
 ·
  obtain ⟨x_3, h_4, h⟩ := bindS h; have e_5 : (List.map Xi l_0)[(IntKind.i64.wrap ((l_0.length : Int) - 1)).toNat]? = some [.int .i64 x_3.From, .int .i64 x_3.To] := XA Xi h_4; have e_6 := eq_true (Xx h_4).1; have e_7 := eq_true (XP h_4); simp only [e_2, e_5, e_6, e_7, go_sem, seval]; rcases iteS h with ⟨e_9, h⟩ | ⟨e_9, h⟩
  · have e_10 : (List.map Xi l_0).set (IntKind.i64.wrap ((l_0.length : Int) - 1)).toNat [.int .i64 x_3.From, .int .i64 a_2] = List.map Xi (List.set l_0 (IntKind.i64.wrap ((l_0.length : Int) - 1)).toNat (TSpan.mk x_3.From a_2)) := set_map l_0 Xi (IntKind.i64.wrap ((l_0.length : Int) - 1)).toNat (TSpan.mk x_3.From a_2); simp only [e_2, e_5, e_6, e_7, e_9, e_10, go_sem, seval]; obtain rfl := si h; rw [← hQ]; exact ⟨rfl, _, rfl, _, _, (RefV.trans (RefV.move (by simp) (id := 0) rfl rfl) (RefV.std [0, 2] (by decide) (by decide) (by first | rfl | simp only [go_sem, seval, e_2, e_9]) (by first | rfl | simp only [go_sem, seval, e_2, e_9]))), rfl, rfl⟩
  · have e_11 := tk Xi l_0; have e_12 : (List.map Xi l_0) ++ [[.int .i64 a_1, .int .i64 a_2]] = (List.map Xi (l_0 ++ [TSpan.mk a_1 a_2])) := YS l_0 ([TSpan.mk a_1 a_2]) Xi; obtain ⟨e_14, h⟩ := guardE h; simp only [e_2, e_5, e_6, e_7, e_9, e_11, e_12, e_14, go_sem, seval]; obtain rfl := si h; rw [← hQ]; exact ⟨rfl, _, rfl, _, _, (RefV.std [0, 2] (by decide) (by decide) (by first | rfl | simp only [go_sem, seval]) (by first | rfl | simp only [go_sem, seval, e_2, e_9])), rfl, rfl⟩
 · have e_15 := tk Xi l_0; have e_16 : (List.map Xi l_0) ++ [[.int .i64 a_1, .int .i64 a_2]] = (List.map Xi (l_0 ++ [TSpan.mk a_1 a_2])) := YS l_0 ([TSpan.mk a_1 a_2]) Xi; obtain ⟨e_18, h⟩ := guardE h; simp only [e_2, e_15, e_16, e_18, go_sem, seval]; obtain rfl := si h; rw [← hQ]; exact ⟨rfl, _, rfl, _, _, (RefV.std [0, 2] (by decide) (by decide) (by first | rfl | simp only [go_sem, seval]) (by first | rfl | simp only [go_sem, seval, e_2])), rfl, rfl⟩
theorem Xe3 (N : Nat) (y_4 : List Int) {R : AExit → ATm → List AObj → Prop} : ∀ (n : Nat) (i_11 : Int) (i_12 : Int) (s_13 : List TSpan) (o : ((List TSpan)) ⊕ (Unit)), Qa N y_4 n i_11 i_12 s_13 = some o → (match o with | .inl z_1 => R (.exit 0) ⟨52, [(10, .row 0 0 z_1.length)], []⟩ [.mem 2 (List.map Xi z_1) 87] | .inr (_) => R .ret ⟨52, [(4, nn), (5, .bool false)], []⟩ []) →
  ALp Try.prog 0 B123_1 ⟨52, [(10, .row 0 0 s_13.length), (11, .int .i64 i_11), (35, .vec false (List.map eI64 y_4)), (36, .int .i64 (y_4.length : Int)), (37, .int .i64 i_12)], []⟩ [.mem 2 (List.map Xi s_13) 87] R := by
 intro n
 induction n with
 | zero =>
  intro i_11 i_12 s_13 o h _; exact no0 h
 | succ n ih =>
  intro i_11 i_12 s_13 o h hp; rw [Qa] at h; refine ALp.round ?_; generalize hQ : YB _ _ _ _ = QQ; simp only [B123_1, A123, go_sem, seval]; rcases iteS h with ⟨e_15, h⟩ | ⟨e_15, h⟩
  ·
   obtain ⟨x_16, h_17, h⟩ := bindS h; have e_18 : (List.map eI64 y_4)[(i_12).toNat]? = some [.int .i64 x_16] := XA eI64 h_17; have e_19 := eq_true (Xx h_17).1; have e_20 := eq_true (XP h_17); simp only [e_15, e_18, e_19, e_20, go_sem, seval]; rcases iteS h with ⟨e_22, h⟩ | ⟨e_22, h⟩
   · simp only [e_15, e_18, e_19, e_20, e_22, go_sem, seval]; cases h; rw [← hQ]; exact ⟨_, _, (Ref.out [4, 5] rfl), hp⟩
   · obtain ⟨y_23, h_24, h⟩ := bindS h; simp only [e_15, e_18, e_19, e_20, e_22, go_sem, seval]; refine Xa.goA (Qo N _ _ _ _ h_24) [0] (ho := ⟨(by first | rfl | simp only [go_sem, seval, e_15, e_22]), trivial⟩) ?_; simp only [e_15, e_18, e_19, e_20, e_22, go_sem, seval]; rw [← hQ]; exact ⟨_, _, (Ref.std [10, 11, 35, 36, 37] [1] (by decide) low0 rfl (by first | rfl | simp only [go_sem, seval])), (Nat.zero_le _), ih _ _ _ _ h hp⟩
  · simp only [e_15, go_sem, seval]; cases h; rw [← hQ]; exact ⟨_, _, (Ref.std [10] [0] (by decide) low0 rfl (by first | rfl | simp only [go_sem, seval])), hp⟩
theorem Xhd (N : Nat) (l_0 : List Int) (a_1 : Int) (c_0 : Bool) (z_1 : List TSpan) (z_2 : Bool) (h : JV N l_0 a_1 = some (z_1, z_2)) :
  Xa Try.prog 123 [.vec c_0 (List.map eU8 l_0), .int .i64 a_1] [] (fun e H => H = [] ∧ e = .ret (.tup [.vec false (List.map Xi z_1), .bool z_2])) := by
 unfold JV at h; refine Xa.goN Try.func123 n123 a123 Try.ntmps123 r123 (by simp) 0 rfl ?_; generalize hQ : bodyA _ _ _ = QQ; obtain ⟨⟨y_1, y_2⟩, h_3, h⟩ := bindS h; (try dsimp only at h); simp only [A123, go_sem, seval]; refine Xa.go0 (Jt N _ _ c_0 _ _ h_3) ?_; obtain ⟨⟨y_4, y_5⟩, h_6, h⟩ := bindS h; (try dsimp only at h); simp only [go_sem, seval]; refine Xa.go0 (Xau N _ _ _ _ c_0 _ _ h_6) ?_; simp only [go_sem, seval]; rcases iteB h with ⟨e_8, h⟩ | ⟨e_8, h⟩
 ·
  simp only [e_8, go_sem, seval]; rcases iteB h with ⟨e_10, h⟩ | ⟨e_10, h⟩
  ·
   simp only [e_8, e_10, go_sem, seval]; obtain ⟨o_1013, h_1011, h⟩ := bindS h; refine ALp.ref (Ref.trans (Ref.thaw (Nat.zero_le _) 10 rfl (sz := 2) (by decide) 87) (Ref.std [10, 11, 35, 36, 37] [0] (by decide) low0 rfl (by first | rfl | simp only [go_sem, seval]))) (Nat.zero_le _) (Xe3 N _ N _ _ _ o_1013 h_1011 ?_); rcases o_1013 with y_1012 | _
   · (try dsimp only at h); refine XJ rfl (Nat.zero_le _) ?_; simp only [e_8, e_10, go_sem, seval]; obtain ⟨rfl, rfl⟩ := pj (si h); rw [← hQ]; exact ⟨rfl, _, rfl, _, _, (RefV.trans (RefV.frz (Nat.zero_le _) (id := 0) rfl (XX y_1012 Xi (fun _ => rfl))) (RefV.out (by first | rfl | simp only [go_sem, seval, e_8, e_10]))), rfl, rfl⟩
   · (try dsimp only at h); refine Zj ?_; obtain ⟨rfl, rfl⟩ := pj (si h); rw [← hQ]; exact ⟨rfl, _, rfl, _, _, outVB, rfl, rfl⟩
  · simp only [e_8, e_10, go_sem, seval]; obtain ⟨rfl, rfl⟩ := pj (si h); rw [← hQ]; exact ⟨rfl, _, rfl, _, _, outVB, rfl, rfl⟩
 · simp only [e_8, go_sem, seval]; obtain ⟨rfl, rfl⟩ := pj (si h); rw [← hQ]; exact ⟨rfl, _, rfl, _, _, outVB, rfl, rfl⟩
theorem Xee (N : Nat) (y_4 : List Int) {R : AExit → ATm → List AObj → Prop} : ∀ (n : Nat) (i_11 : Int) (i_12 : Int) (s_13 : List XW) (o : ((List XW)) ⊕ (Unit)), ZK N y_4 n i_11 i_12 s_13 = some o → (match o with | .inl z_1 => R (.exit 0) ⟨75, [(10, .row 0 0 z_1.length)], []⟩ [.mem 3 (List.map YX z_1) 173] | .inr (_) => R .ret ⟨75, [(4, nn), (5, .bool false)], []⟩ []) →
  ALp Try.prog 0 B128_1 ⟨75, [(8, .vec false (List.map eI64 y_4)), (10, .row 0 0 s_13.length), (11, .int .i64 i_11), (12, .int .i64 i_12)], []⟩ [.mem 3 (List.map YX s_13) 173] R := by
 intro n
 induction n with
 | zero =>
  intro i_11 i_12 s_13 o h _; exact no0 h
 | succ n ih =>
  intro i_11 i_12 s_13 o h hp; rw [ZK] at h; refine ALp.round ?_; generalize hQ : YB _ _ _ _ = QQ; simp only [B128_1, A128, go_sem, seval]; rcases iteS h with ⟨e_15, h⟩ | ⟨e_15, h⟩
  ·
   obtain ⟨x_16, h_17, h⟩ := bindS h; have e_18 : (List.map eI64 y_4)[(i_12).toNat]? = some [.int .i64 x_16] := XA eI64 h_17; have e_19 := eq_true (Xx h_17).1; have e_20 := eq_true (XP h_17); obtain ⟨x_21, h_22, h⟩ := bindS h; have e_23 : (List.map eI64 y_4)[(IntKind.i64.wrap (i_12 + 1)).toNat]? = some [.int .i64 x_21] := XA eI64 h_22; have e_24 := eq_true (Xx h_22).1; have e_25 := eq_true (XP h_22); obtain ⟨x_26, h_27, h⟩ := bindS h; have e_28 : (List.map eI64 y_4)[(IntKind.i64.wrap (i_12 + 2)).toNat]? = some [.int .i64 x_26] := XA eI64 h_27; have e_29 := eq_true (Xx h_27).1; have e_30 := eq_true (XP h_27); simp only [e_15, e_18, e_19, e_20, e_23, e_24, e_25, e_28, e_29, e_30, go_sem, seval]; rcases iteS h with ⟨e_32, h⟩ | ⟨e_32, h⟩
   · simp only [e_15, e_18, e_19, e_20, e_23, e_24, e_25, e_28, e_29, e_30, e_32, go_sem, seval]; cases h; rw [← hQ]; exact ⟨_, _, (Ref.out [4, 5] rfl), hp⟩
   ·
    simp only [e_15, e_18, e_19, e_20, e_23, e_24, e_25, e_28, e_29, e_30, e_32, go_sem, seval]; rcases iteS h with ⟨e_34, h⟩ | ⟨e_34, h⟩
    · simp only [e_15, e_18, e_19, e_20, e_23, e_24, e_25, e_28, e_29, e_30, e_32, e_34, go_sem, seval]; cases h; rw [← hQ]; exact ⟨_, _, (Ref.out [4, 5] rfl), hp⟩
    · have e_35 := tk YX s_13; have e_36 : (List.map YX s_13) ++ [[.int .i64 x_16, .int .i64 x_21, .int .i64 x_26]] = (List.map YX (s_13 ++ [XW.mk x_16 x_21 x_26])) := YS s_13 ([XW.mk x_16 x_21 x_26]) YX; obtain ⟨e_38, h⟩ := guardE h; simp only [e_15, e_18, e_19, e_20, e_23, e_24, e_25, e_28, e_29, e_30, e_32, e_34, e_35, e_36, e_38, go_sem, seval]; rw [← hQ]; exact ⟨_, _, (Ref.std [8, 10, 11, 12] [2] (by decide) low0 (by first | rfl | simp only [go_sem, seval]) (by first | rfl | simp only [go_sem, seval])), (Nat.zero_le _), ih _ _ _ _ h hp⟩
  · simp only [e_15, go_sem, seval]; cases h; rw [← hQ]; exact ⟨_, _, (Ref.std [10] [0] (by decide) low0 rfl (by first | rfl | simp only [go_sem, seval])), hp⟩
theorem Xcs (N : Nat) (l_0 : List Int) (a_1 : Int) (c_0 : Bool) (z_1 : List XW) (z_2 : Bool) (h : Jb N l_0 a_1 = some (z_1, z_2)) :
  Xa Try.prog 128 [.vec c_0 (List.map eU8 l_0), .int .i64 a_1] [] (fun e H => H = [] ∧ e = .ret (.tup [.vec false (List.map YX z_1), .bool z_2])) := by
 unfold Jb at h; refine Xa.goN Try.func128 n128 a128 Try.ntmps128 r128 (by simp) 0 rfl ?_; generalize hQ : bodyA _ _ _ = QQ; obtain ⟨⟨y_1, y_2⟩, h_3, h⟩ := bindS h; (try dsimp only at h); simp only [A128, go_sem, seval]; refine Xa.go0 (Jt N _ _ c_0 _ _ h_3) ?_; obtain ⟨⟨y_4, y_5⟩, h_6, h⟩ := bindS h; (try dsimp only at h); simp only [go_sem, seval]; refine Xa.go0 (Xau N _ _ _ _ c_0 _ _ h_6) ?_; simp only [go_sem, seval]; rcases iteB h with ⟨e_8, h⟩ | ⟨e_8, h⟩
 ·
  simp only [e_8, go_sem, seval]; rcases iteB h with ⟨e_10, h⟩ | ⟨e_10, h⟩
  ·
   simp only [e_8, e_10, go_sem, seval]; obtain ⟨o_1013, h_1011, h⟩ := bindS h; refine ALp.ref (Ref.trans (Ref.thaw (Nat.zero_le _) 10 rfl (sz := 3) (by decide) 173) (Ref.std [8, 10, 11, 12] [0] (by decide) low0 rfl (by first | rfl | simp only [go_sem, seval]))) (Nat.zero_le _) (Xee N _ N _ _ _ o_1013 h_1011 ?_); rcases o_1013 with y_1012 | _
   · (try dsimp only at h); refine XJ rfl (Nat.zero_le _) ?_; simp only [e_8, e_10, go_sem, seval]; obtain ⟨rfl, rfl⟩ := pj (si h); rw [← hQ]; exact ⟨rfl, _, rfl, _, _, (RefV.trans (RefV.frz (Nat.zero_le _) (id := 0) rfl (XX y_1012 YX (fun _ => rfl))) (RefV.out (by first | rfl | simp only [go_sem, seval, e_8, e_10]))), rfl, rfl⟩
   · (try dsimp only at h); refine Zj ?_; obtain ⟨rfl, rfl⟩ := pj (si h); rw [← hQ]; exact ⟨rfl, _, rfl, _, _, outVB, rfl, rfl⟩
  · simp only [e_8, e_10, go_sem, seval]; obtain ⟨rfl, rfl⟩ := pj (si h); rw [← hQ]; exact ⟨rfl, _, rfl, _, _, outVB, rfl, rfl⟩
 · simp only [e_8, go_sem, seval]; obtain ⟨rfl, rfl⟩ := pj (si h); rw [← hQ]; exact ⟨rfl, _, rfl, _, _, outVB, rfl, rfl⟩
theorem Xe2 (N : Nat) (y_1 : List XW) {R : AExit → ATm → List AObj → Prop} : ∀ (n : Nat) (i_6 : Int) (i_7 : Int) (s_8 : List TSpan) (o : ((List TSpan)) ⊕ (Unit)), ZZ N y_1 n i_6 i_7 s_8 = some o → (match o with | .inl z_1 => R (.exit 0) ⟨47, [(8, .row 0 0 z_1.length)], []⟩ [.mem 2 (List.map Xi z_1) 87] | .inr (_) => R .ret ⟨47, [(4, nn), (5, .bool false)], []⟩ []) →
  ALp Try.prog 0 B124_1 ⟨47, [(8, .row 0 0 s_8.length), (9, .int .i64 i_6), (20, .vec false (List.map YX y_1)), (21, .int .i64 (y_1.length : Int)), (22, .int .i64 i_7)], []⟩ [.mem 2 (List.map Xi s_8) 87] R := by
 intro n
 induction n with
 | zero =>
  intro i_6 i_7 s_8 o h _; exact no0 h
 | succ n ih =>
  intro i_6 i_7 s_8 o h hp; rw [ZZ] at h; refine ALp.round ?_; generalize hQ : YB _ _ _ _ = QQ; simp only [B124_1, A124, go_sem, seval]; rcases iteS h with ⟨e_10, h⟩ | ⟨e_10, h⟩
  ·
   obtain ⟨x_11, h_12, h⟩ := bindS h; have e_13 : (List.map YX y_1)[(i_7).toNat]? = some [.int .i64 x_11.e0, .int .i64 x_11.e1, .int .i64 x_11.e2] := XA YX h_12; have e_14 := eq_true (Xx h_12).1; have e_15 := eq_true (XP h_12); simp only [e_10, e_13, e_14, e_15, go_sem, seval]; rcases iteS h with ⟨e_17, h⟩ | ⟨e_17, h⟩
   · obtain ⟨y_18, h_19, h⟩ := bindS h; simp only [e_10, e_13, e_14, e_15, e_17, go_sem, seval]; refine Xa.goA (Qo N _ _ _ _ h_19) [0] (ho := ⟨(by first | rfl | simp only [go_sem, seval, e_10, e_17]), trivial⟩) ?_; simp only [e_10, e_13, e_14, e_15, e_17, go_sem, seval]; rw [← hQ]; exact ⟨_, _, (Ref.std [8, 9, 20, 21, 22] [2] (by decide) low0 rfl (by first | rfl | simp only [go_sem, seval])), (Nat.zero_le _), ih _ _ _ _ h hp⟩
   · simp only [e_10, e_13, e_14, e_15, e_17, go_sem, seval]; cases h; rw [← hQ]; exact ⟨_, _, (Ref.out [4, 5] rfl), hp⟩
  · simp only [e_10, go_sem, seval]; cases h; rw [← hQ]; exact ⟨_, _, (Ref.std [8] [0] (by decide) low0 rfl (by first | rfl | simp only [go_sem, seval])), hp⟩
theorem Xhc (N : Nat) (l_0 : List Int) (a_1 : Int) (c_0 : Bool) (z_1 : List TSpan) (z_2 : Bool) (h : Xa5 N l_0 a_1 = some (z_1, z_2)) :
  Xa Try.prog 124 [.vec c_0 (List.map eU8 l_0), .int .i64 a_1] [] (fun e H => H = [] ∧ e = .ret (.tup [.vec false (List.map Xi z_1), .bool z_2])) := by
 unfold Xa5 at h; refine Xa.goN Try.func124 n124 a124 Try.ntmps124 r124 (by simp) 0 rfl ?_; generalize hQ : bodyA _ _ _ = QQ; obtain ⟨⟨y_1, y_2⟩, h_3, h⟩ := bindS h; (try dsimp only at h); simp only [A124, go_sem, seval]; refine Xa.go0 (Xcs N _ _ c_0 _ _ h_3) ?_; simp only [go_sem, seval]; rcases iteB h with ⟨e_5, h⟩ | ⟨e_5, h⟩
 ·
  simp only [e_5, go_sem, seval]; obtain ⟨o_1008, h_1006, h⟩ := bindS h; refine ALp.ref (Ref.trans (Ref.thaw (Nat.zero_le _) 8 rfl (sz := 2) (by decide) 87) (Ref.std [8, 9, 20, 21, 22] [0] (by decide) low0 rfl (by first | rfl | simp only [go_sem, seval]))) (Nat.zero_le _) (Xe2 N _ N _ _ _ o_1008 h_1006 ?_); rcases o_1008 with y_1007 | _
  · (try dsimp only at h); refine XJ rfl (Nat.zero_le _) ?_; simp only [e_5, go_sem, seval]; obtain ⟨rfl, rfl⟩ := pj (si h); rw [← hQ]; exact ⟨rfl, _, rfl, _, _, (RefV.trans (RefV.frz (Nat.zero_le _) (id := 0) rfl (XX y_1007 Xi (fun _ => rfl))) (RefV.out (by first | rfl | simp only [go_sem, seval, e_5]))), rfl, rfl⟩
  · (try dsimp only at h); refine Zj ?_; obtain ⟨rfl, rfl⟩ := pj (si h); rw [← hQ]; exact ⟨rfl, _, rfl, _, _, outVB, rfl, rfl⟩
 · simp only [e_5, go_sem, seval]; obtain ⟨rfl, rfl⟩ := pj (si h); rw [← hQ]; exact ⟨rfl, _, rfl, _, _, outVB, rfl, rfl⟩
theorem Xef (N : Nat) (l_0 : List Int) (a_1 : Int) (c_0 : Bool) (z_1 : List TSpan) (z_2 : Bool) (h : QJ N l_0 a_1 = some (z_1, z_2)) :
  Xa Try.prog 100 [.vec c_0 (List.map eU8 l_0), .int .i64 a_1] [] (fun e H => H = [] ∧ e = .ret (.tup [.vec false (List.map Xi z_1), .bool z_2])) := by
 unfold QJ at h; refine Xa.goN Try.func100 n100 a100 Try.ntmps100 r100 (by simp) 0 rfl ?_; generalize hQ : bodyA _ _ _ = QQ; obtain ⟨y_1, h_2, h⟩ := bindS h; simp only [A100, go_sem, seval]; refine Xa.go0 (Xdd N _ _ c_0 _ h_2) ?_; simp only [go_sem, seval]; rcases iteS h with ⟨e_4, h⟩ | ⟨e_4, h⟩
 · obtain ⟨⟨y_5, y_6⟩, h_7, h⟩ := bindS h; (try dsimp only at h); simp only [e_4, go_sem, seval]; refine Xa.go0 (Xhd N _ _ c_0 _ _ h_7) ?_; simp only [e_4, go_sem, seval]; obtain ⟨rfl, rfl⟩ := pj (si h); rw [← hQ]; exact ⟨rfl, _, rfl, _, _, (RefV.out (by first | rfl | simp only [go_sem, seval, e_4])), rfl, rfl⟩
 ·
  simp only [e_4, go_sem, seval]; rcases iteS h with ⟨e_9, h⟩ | ⟨e_9, h⟩
  · obtain ⟨⟨y_10, y_11⟩, h_12, h⟩ := bindS h; (try dsimp only at h); simp only [e_4, e_9, go_sem, seval]; refine Xa.go0 (Xhc N _ _ c_0 _ _ h_12) ?_; simp only [e_4, e_9, go_sem, seval]; obtain ⟨rfl, rfl⟩ := pj (si h); rw [← hQ]; exact ⟨rfl, _, rfl, _, _, (RefV.out (by first | rfl | simp only [go_sem, seval, e_4, e_9])), rfl, rfl⟩
  · simp only [e_4, e_9, go_sem, seval]; obtain ⟨rfl, rfl⟩ := pj (si h); rw [← hQ]; exact ⟨rfl, _, rfl, _, _, outVB, rfl, rfl⟩
theorem Xa1 (N : Nat) (a_2 : Int) (l_3 : List Int) (l_0 : List Int) (a_1 : Int) (c_1 : Bool) (c_0 : Bool) {R : AExit → ATm → List AObj → Prop} : ∀ (n : Nat) (i_1 : Int) (s_2 : List TSet) (o : ((List TSet)) ⊕ (Unit)), Yj N a_2 l_3 l_0 a_1 n i_1 s_2 = some o → (match o with | .inl z_1 => R (.exit 0) ⟨38, [(7, .row 1 0 z_1.length)], []⟩ [.box [.vec c_0 (List.map eU8 l_0), .int .i64 a_1] 152, .mem 2 (List.map eTSet z_1) 85] | .inr (_) => ∀ (tb : ATm) (Hb : List AObj), tb.ds = [] → R (.pan (.iface 148 (.agg []))) tb Hb) →
  ALp Try.prog 1 B107_1 ⟨38, [(0, .ptr 0 0 0), (1, .int .i64 a_2), (7, .row 1 0 s_2.length), (12, .vec c_1 (List.map eI64 l_3)), (13, .int .i64 (l_3.length : Int)), (14, .int .i64 i_1)], []⟩ [.box [.vec c_0 (List.map eU8 l_0), .int .i64 a_1] 152, .mem 2 (List.map eTSet s_2) 85] R := by
 intro n
 induction n with
 | zero =>
  intro i_1 s_2 o h _; exact no0 h
 | succ n ih =>
  intro i_1 s_2 o h hp; rw [Yj] at h; refine ALp.round ?_; generalize hQ : YB _ _ _ _ = QQ; simp only [B107_1, A107, go_sem, seval]; rcases iteS h with ⟨e_4, h⟩ | ⟨e_4, h⟩
  ·
   obtain ⟨x_5, h_6, h⟩ := bindS h; have e_7 : (List.map eI64 l_3)[(i_1).toNat]? = some [.int .i64 x_5] := XA eI64 h_6; have e_8 := eq_true (Xx h_6).1; have e_9 := eq_true (XP h_6); obtain ⟨⟨y_10, y_11⟩, h_12, h⟩ := bindS h; (try dsimp only at h); simp only [e_4, e_7, e_8, e_9, go_sem, seval]; refine Xa.go0 (Xef N _ _ c_0 _ _ h_12) ?_; obtain ⟨o_14, h_13, h⟩ := bindS h; simp only [e_4, e_7, e_8, e_9, go_sem, seval]; rcases o_14 with _ | _
   · (try dsimp only at h); refine Xa.go0 (Xz N _ _ h_13) ?_; have e_16 := tk eTSet s_2; have e_17 : (List.map eTSet s_2) ++ [[.vec false (List.map Xi y_10), .bool false]] = (List.map eTSet (s_2 ++ [TSet.mk y_10 false])) := YS s_2 ([TSet.mk y_10 false]) eTSet; obtain ⟨e_19, h⟩ := guardE h; simp only [e_4, e_7, e_8, e_9, e_16, e_17, e_19, go_sem, seval]; rw [← hQ]; exact ⟨_, _, (Ref.std [0, 1, 7, 12, 13, 14] [0, 2] (by decide) (by decide) (by first | rfl | simp only [go_sem, seval]) (by first | rfl | simp only [go_sem, seval])), (by simp), ih _ _ _ h hp⟩
   · (try dsimp only at h); refine Xa.panA (Xz N _ _ h_13) [] ?_; (try simp only [Xc, Xb, Xe]); cases h; rw [← hQ]; exact hp _ _ rfl
  · simp only [e_4, go_sem, seval]; cases h; rw [← hQ]; exact ⟨_, _, (Ref.std [7] [0, 1] (by decide) (by decide) rfl (by first | rfl | simp only [go_sem, seval])), hp⟩
theorem XF (N : Nat) (l_0 : List Int) (a_1 : Int) (a_2 : Int) (l_3 : List Int) (c_0 : Bool) (c_1 : Bool) (o : ((List TSet)) ⊕ Unit) (h : Yc N l_0 a_1 a_2 l_3 = some o) :
  Xa Try.prog 107 [.ptr 0 0 0, .int .i64 a_2, .vec c_1 (List.map eI64 l_3)] [.box [.vec c_0 (List.map eU8 l_0), .int .i64 a_1] 152] (fun e H => match o with | .inl z_1 => H = [.box [.vec c_0 (List.map eU8 l_0), .int .i64 a_1] 152] ∧ e = .ret (.vec false (List.map eTSet z_1)) | .inr _ => H = [.dead] ∧ e = .pan (.iface 148 (.agg []))) := by
 unfold Yc at h; refine Xa.goN Try.func107 n107 a107 Try.ntmps107 r107 (by simp) 1 rfl ?_; generalize hQ : bodyA _ _ _ = QQ; simp only [A107, go_sem, seval]; obtain ⟨o_1003, h_1001, h⟩ := bindS h; refine ALp.ref (Ref.trans (Ref.thaw (by simp) 7 rfl (sz := 2) (by decide) 85) (Ref.std [0, 1, 7, 12, 13, 14] [0, 1] (by decide) (by decide) rfl (by first | rfl | simp only [go_sem, seval]))) (by simp) (Xa1 N _ _ _ _ c_1 c_0 N _ _ o_1003 h_1001 ?_); rcases o_1003 with y_1002 | _
 · (try dsimp only at h); refine XJ rfl (by simp) ?_; simp only [go_sem, seval]; cases h; rw [← hQ]; exact ⟨rfl, _, rfl, _, _, (RefV.trans (RefV.frz (by simp) (id := 1) rfl (XX y_1002 eTSet (fun _ => rfl))) (RefV.std [0] (by decide) (by decide) (by first | rfl | simp only [go_sem, seval]) (by first | rfl | simp only [go_sem, seval]))), rfl, rfl⟩
 · (try dsimp only at h); intro _ _ h_1004; refine Zo ?_; cases h; rw [← hQ]; exact ⟨h_1004, _, _, RefV.dead rfl, rfl, rfl⟩
theorem Xfr (N : Nat) (l_0 : List TSpan) (c_0 : Bool) {R : AExit → ATm → List AObj → Prop} : ∀ (n : Nat) (i_1 : Int) (i_2 : Int) (o : Int), ZV N l_0 n i_1 i_2 = some o → (match o with | z_1 => R (.exit 0) ⟨22, [(3, .int .i64 z_1)], []⟩ []) →
  ALp Try.prog 0 B87_1 ⟨22, [(3, .int .i64 i_1), (6, .vec c_0 (List.map Xi l_0)), (7, .int .i64 (l_0.length : Int)), (8, .int .i64 i_2)], []⟩ [] R := by
 intro n
 induction n with
 | zero =>
  intro i_1 i_2 o h _; exact no0 h
 | succ n ih =>
  intro i_1 i_2 o h hp; rw [ZV] at h; refine ALp.round ?_; generalize hQ : YB _ _ _ _ = QQ; simp only [B87_1, A87, go_sem, seval]; rcases iteS h with ⟨e_4, h⟩ | ⟨e_4, h⟩
  · obtain ⟨x_5, h_6, h⟩ := bindS h; have e_7 : (List.map Xi l_0)[(i_2).toNat]? = some [.int .i64 x_5.From, .int .i64 x_5.To] := XA Xi h_6; have e_8 := eq_true (Xx h_6).1; have e_9 := eq_true (XP h_6); simp only [e_4, e_7, e_8, e_9, go_sem, seval]; rw [← hQ]; exact ⟨_, _, (Ref.out [3, 6, 7, 8] rfl), (Nat.zero_le _), ih _ _ _ h hp⟩
  · simp only [e_4, go_sem, seval]; cases h; rw [← hQ]; exact ⟨_, _, (Ref.out [3] rfl), hp⟩
theorem Jc (N : Nat) (l_0 : List TSpan) (c_0 : Bool) (z_1 : Int) (h : Qw N l_0 = some z_1) :
  Xa Try.prog 87 [.vec c_0 (List.map Xi l_0)] [] (fun e H => H = [] ∧ e = .ret (.int .i64 z_1)) := by
 unfold Qw at h; refine Xa.goN Try.func87 n87 a87 Try.ntmps87 r87 (by simp) 0 rfl ?_; generalize hQ : bodyA _ _ _ = QQ; simp only [A87, go_sem, seval]; obtain ⟨y_1002, h_1001, h⟩ := bindS h; refine ALp.ref (Ref.out [3, 6, 7, 8] rfl) (Nat.zero_le _) (Xfr N _ c_0 N _ _ y_1002 h_1001 ?_); refine XJ rfl (Nat.zero_le _) ?_; simp only [go_sem, seval]; obtain rfl := si h; rw [← hQ]; exact ⟨rfl, _, rfl, _, _, (RefV.out rfl), rfl, rfl⟩
theorem Xa0 (N : Nat) (a_2 : Int) (b_3 : Bool) (y_13 : Int) (x_9 : TSet) (i_22 : Int) (l_0 : List Int) (a_1 : Int) (x_26 : TSpan) (c_0 : Bool) {R : AExit → ATm → List AObj → Prop} : ∀ (n : Nat) (i_31 : Int) (s_32 : List Int) (o : (List Int)), Yy N a_2 b_3 y_13 x_9 i_22 l_0 a_1 x_26 n i_31 s_32 = some o → (match o with | z_1 => R (.exit 2) ⟨62, [(0, .ptr 0 0 0), (1, .int .i64 a_2), (2, .bool b_3), (8, .int .i64 y_13), (9, .ptr 1 0 0), (28, .vec false (List.map Xi x_9.Spans)), (29, .int .i64 (x_9.Spans.length : Int)), (30, .int .i64 i_22)], []⟩ [.box [.vec c_0 (List.map eU8 l_0), .int .i64 (IntKind.i64.wrap ((IntKind.i64.wrap (a_1 + (IntKind.i64.wrap 2))) + 2))] 152, .box [.row 2 0 z_1.length] 48, .mem 1 (List.map eI64 z_1) 3]) →
  ALp Try.prog 1 B96_2 ⟨62, [(0, .ptr 0 0 0), (1, .int .i64 a_2), (2, .bool b_3), (8, .int .i64 y_13), (9, .ptr 1 0 0), (11, .ptr 3 0 0), (12, .int .i64 i_31), (28, .vec false (List.map Xi x_9.Spans)), (29, .int .i64 (x_9.Spans.length : Int)), (30, .int .i64 i_22)], []⟩ [.box [.vec c_0 (List.map eU8 l_0), .int .i64 (IntKind.i64.wrap ((IntKind.i64.wrap (a_1 + (IntKind.i64.wrap 2))) + 2))] 152, .box [.row 2 0 s_32.length] 48, .mem 1 (List.map eI64 s_32) 3, .box [.int .i64 x_26.From, .int .i64 x_26.To] 87] R := by
 intro n
 induction n with
 | zero =>
  intro i_31 s_32 o h _; exact no0 h
 | succ n ih =>
  intro i_31 s_32 o h hp; rw [Yy] at h; refine ALp.round ?_; generalize hQ : YB _ _ _ _ = QQ; simp only [B96_2, B96_1, A96, go_sem, seval]; rcases iteS h with ⟨e_34, h⟩ | ⟨e_34, h⟩
  ·
   simp only [e_34, go_sem, seval]; rcases iteS h with ⟨e_36, h⟩ | ⟨e_36, h⟩
   · have e_37 := tk eI64 s_32; have e_38 : (List.map eI64 s_32) ++ [[.int .i64 i_31]] = (List.map eI64 (s_32 ++ [i_31])) := YS s_32 ([i_31]) eI64; obtain ⟨e_40, h⟩ := guardE h; simp only [e_34, e_36, e_37, e_38, e_40, go_sem, seval]; rw [← hQ]; exact ⟨_, _, (Ref.std [0, 1, 2, 8, 9, 11, 12, 28, 29, 30] [0, 1, 4, 3] (by decide) (by decide) (by first | rfl | simp only [go_sem, seval, e_34, e_36]) (by first | rfl | simp only [go_sem, seval])), (by simp), ih _ _ _ h hp⟩
   · simp only [e_34, e_36, go_sem, seval]; cases h; rw [← hQ]; exact ⟨_, _, (Ref.std [0, 1, 2, 8, 9, 28, 29, 30] [0, 1, 2] (by decide) (by decide) (by first | rfl | simp only [go_sem, seval, e_34, e_36]) (by first | rfl | simp only [go_sem, seval])), hp⟩
  · simp only [e_34, go_sem, seval]; cases h; rw [← hQ]; exact ⟨_, _, (Ref.std [0, 1, 2, 8, 9, 28, 29, 30] [0, 1, 2] (by decide) (by decide) (by first | rfl | simp only [go_sem, seval, e_34]) (by first | rfl | simp only [go_sem, seval])), hp⟩
theorem Xaz (N : Nat) (a_2 : Int) (b_3 : Bool) (y_13 : Int) (x_9 : TSet) (l_0 : List Int) (a_1 : Int) (c_0 : Bool) {R : AExit → ATm → List AObj → Prop} : ∀ (n : Nat) (i_22 : Int) (s_23 : List Int) (o : (List Int)), Yi N a_2 b_3 y_13 x_9 l_0 a_1 n i_22 s_23 = some o → (match o with | z_1 => R (.exit 0) ⟨62, [(0, .ptr 0 0 0), (1, .int .i64 a_2), (2, .bool b_3), (8, .int .i64 y_13), (9, .ptr 1 0 0)], []⟩ [.box [.vec c_0 (List.map eU8 l_0), .int .i64 (IntKind.i64.wrap ((IntKind.i64.wrap (a_1 + (IntKind.i64.wrap 2))) + 2))] 152, .box [.row 2 0 z_1.length] 48, .mem 1 (List.map eI64 z_1) 3]) →
  ALp Try.prog 1 B96_1 ⟨62, [(0, .ptr 0 0 0), (1, .int .i64 a_2), (2, .bool b_3), (8, .int .i64 y_13), (9, .ptr 1 0 0), (28, .vec false (List.map Xi x_9.Spans)), (29, .int .i64 (x_9.Spans.length : Int)), (30, .int .i64 i_22)], []⟩ [.box [.vec c_0 (List.map eU8 l_0), .int .i64 (IntKind.i64.wrap ((IntKind.i64.wrap (a_1 + (IntKind.i64.wrap 2))) + 2))] 152, .box [.row 2 0 s_23.length] 48, .mem 1 (List.map eI64 s_23) 3] R := by
 intro n
 induction n with
 | zero =>
  intro i_22 s_23 o h _; exact no0 h
 | succ n ih =>
  intro i_22 s_23 o h hp; rw [Yi] at h; refine ALp.round ?_; generalize hQ : YB _ _ _ _ = QQ; simp only [B96_1, A96, go_sem, seval]; rcases iteS h with ⟨e_25, h⟩ | ⟨e_25, h⟩
  · obtain ⟨x_26, h_27, h⟩ := bindS h; have e_28 : (List.map Xi x_9.Spans)[(i_22).toNat]? = some [.int .i64 x_26.From, .int .i64 x_26.To] := XA Xi h_27; have e_29 := eq_true (Xx h_27).1; have e_30 := eq_true (XP h_27); simp only [e_25, e_28, e_29, e_30, go_sem, seval]; obtain ⟨y_1032, h_1031, h⟩ := bindS h; refine ALp.ref (Ref.std [0, 1, 2, 8, 9, 11, 12, 28, 29, 30] [0, 1, 2, 3] (by decide) (by decide) (by first | rfl | simp only [go_sem, seval, e_25]) (by first | rfl | simp only [go_sem, seval])) (by simp) (Xa0 N _ _ _ _ _ _ _ _ c_0 N _ _ y_1032 h_1031 ?_); refine XJ rfl (by simp) ?_; simp only [e_25, e_28, e_29, e_30, go_sem, seval]; rw [← hQ]; exact ⟨_, _, (Ref.std [0, 1, 2, 8, 9, 28, 29, 30] [0, 1, 2] (by decide) (by decide) (by first | rfl | simp only [go_sem, seval, e_25]) (by first | rfl | simp only [go_sem, seval])), (by simp), ih _ _ _ h hp⟩
  · simp only [e_25, go_sem, seval]; cases h; rw [← hQ]; exact ⟨_, _, (Ref.std [0, 1, 2, 8, 9] [0, 1, 2] (by decide) (by decide) (by first | rfl | simp only [go_sem, seval, e_25]) (by first | rfl | simp only [go_sem, seval])), hp⟩
theorem Xcw (N : Nat) (a_0 : Int) (z_1 : List TSpan) (z_2 : Bool) (h : JF N a_0 = some (z_1, z_2)) :
  Xa Try.prog 111 [.int .i64 a_0] [] (fun e H => H = [] ∧ e = .ret (.agg [.vec false (List.map Xi z_1), .bool z_2])) := by
 unfold JF at h; refine Xa.goN Try.func111 n111 a111 Try.ntmps111 r111 (by simp) 0 rfl ?_; generalize hQ : bodyA _ _ _ = QQ; simp only [A111, go_sem, seval]; obtain ⟨rfl, rfl⟩ := pj (si h); rw [← hQ]; exact ⟨rfl, _, rfl, _, _, (RefV.trans (RefV.out (v' := .agg [.vec true [[.int .i64 a_0, .int .i64 a_0]], .bool false]) rfl) (RefV.weak (Wks.cons (Wk.agg (Wks.cons Wk.vec (Wks.cons (Wk.refl _) (Wks.nil)))) Wks.nil) (WkH.refl _))), rfl, rfl⟩
theorem QN (N : Nat) (a_0 : Int) (l_1 : List Int) (z_1 : List TSpan) (z_2 : Bool) (h : YN N a_0 l_1 = some (z_1, z_2)) :
  Xa Try.prog 110 [.int .i64 a_0, .ptr 0 0 0] [.box [.row 1 0 l_1.length] 48, .mem 1 (List.map eI64 l_1) 3] (fun e H => H = [.box [.row 2 0 l_1.length] 48, .dead, .mem 1 (List.map eI64 l_1) 3] ∧ e = .ret (.agg [.vec false (List.map Xi z_1), .bool z_2])) := by
 unfold YN at h; refine Xa.goN Try.func110 n110 a110 Try.ntmps110 r110 (by simp) 2 rfl ?_; generalize hQ : bodyA _ _ _ = QQ; obtain ⟨x_1, h_2, h⟩ := bindS h; have e_3 : (List.map eI64 l_1)[(a_0).toNat]? = some [.int .i64 x_1] := XA eI64 h_2; have e_4 := eq_true (Xx h_2).1; have e_5 := eq_true (XP h_2); obtain ⟨⟨y_6, y_7⟩, h_8, h⟩ := bindS h; (try dsimp only at h); simp only [A110, e_3, e_4, e_5, go_sem, seval]; refine Xa.go0 (Xcw N _ _ _ h_8) ?_; simp only [e_3, e_4, e_5, go_sem, seval]; obtain ⟨rfl, rfl⟩ := pj (si h); rw [← hQ]; exact ⟨rfl, _, rfl, _, _, (RefV.trans (RefV.move (by simp) (id := 1) rfl rfl) (RefV.std [0, 1, 3] (by decide) (by decide) (by first | rfl | simp only [go_sem, seval]) (by first | rfl | simp only [go_sem, seval]))), rfl, rfl⟩
theorem Xd (N : Nat) (l_0 : List Int) (a_1 : Int) (a_2 : Int) (a_3 : Int) (c_0 : Bool) (o : (Int) ⊕ Unit) (h : Xo N l_0 a_1 a_2 a_3 = some o) :
  Xa Try.prog 118 [.ptr 0 0 0, .int .i64 a_2, .int .i64 a_3] [.box [.vec c_0 (List.map eU8 l_0), .int .i64 a_1] 152] (fun e H => match o with | .inl z_1 => H = [.box [.vec c_0 (List.map eU8 l_0), .int .i64 (IntKind.i64.wrap (a_1 + 2))] 152] ∧ e = .ret (.int .i64 z_1) | .inr _ => H = [.dead] ∧ e = .pan (.iface 148 (.agg []))) := by
 unfold Xo at h; refine Xa.goN Try.func118 n118 a118 Try.ntmps118 r118 (by simp) 1 rfl ?_; generalize hQ : bodyA _ _ _ = QQ; obtain ⟨o_3, h_2, h⟩ := bindS h; simp only [A118, go_sem, seval]; rcases o_3 with y_1 | _
 ·
  (try dsimp only at h); refine Xa.goA (Xk N _ _ c_0 _ h_2) [0] ?_; simp only [go_sem, seval]; rcases iteS h with ⟨e_6, h⟩ | ⟨e_6, h⟩
  ·
   obtain ⟨o_8, h_7, h⟩ := bindS h; simp only [e_6, go_sem, seval]; rcases o_8 with _ | _
   · (try dsimp only at h); refine Xa.go0 (Xz N _ _ h_7) ?_; simp only [e_6, go_sem, seval]; cases h; rw [← hQ]; exact ⟨rfl, _, rfl, _, _, (RefV.std [0] (by decide) (by decide) rfl (by first | rfl | simp only [go_sem, seval, e_6])), rfl, rfl⟩
   · (try dsimp only at h); refine Xa.panA (Xz N _ _ h_7) [] ?_; (try simp only [Xc, Xb, Xe]); cases h; rw [← hQ]; exact ⟨rfl, _, _, RefV.dead rfl, rfl, rfl⟩
  ·
   obtain ⟨o_11, h_10, h⟩ := bindS h; simp only [e_6, go_sem, seval]; rcases o_11 with _ | _
   · (try dsimp only at h); refine Xa.go0 (Xz N _ _ h_10) ?_; simp only [e_6, go_sem, seval]; cases h; rw [← hQ]; exact ⟨rfl, _, rfl, _, _, (RefV.std [0] (by decide) (by decide) rfl (by first | rfl | simp only [go_sem, seval, e_6])), rfl, rfl⟩
   · (try dsimp only at h); refine Xa.panA (Xz N _ _ h_10) [] ?_; (try simp only [Xc, Xb, Xe]); cases h; rw [← hQ]; exact ⟨rfl, _, _, RefV.dead rfl, rfl, rfl⟩
 · (try dsimp only at h); refine Xa.panA (Xk N _ _ c_0 _ h_2) [0] ?_; (try simp only [Xc, Xb, Xe]); cases h; rw [← hQ]; exact ⟨rfl, _, _, RefV.dead rfl, rfl, rfl⟩
theorem Xg2 (N : Nat) (l_0 : List Int) (c_0 : Bool) {R : AExit → ATm → List AObj → Prop} : ∀ (n : Nat) (i_1 : Int) (s_2 : List TSet) (o : (List TSet)), Qs N l_0 n i_1 s_2 = some o → (match o with | z_1 => R (.exit 0) ⟨22, [(5, .row 0 0 z_1.length)], []⟩ [.mem 2 (List.map eTSet z_1) 85]) →
  ALp Try.prog 0 B132_1 ⟨22, [(1, .fn (.func 111) [] []), (5, .row 0 0 s_2.length), (8, .vec c_0 (List.map eI64 l_0)), (9, .int .i64 (l_0.length : Int)), (10, .int .i64 i_1)], []⟩ [.mem 2 (List.map eTSet s_2) 85] R := by
 intro n
 induction n with
 | zero =>
  intro i_1 s_2 o h _; exact no0 h
 | succ n ih =>
  intro i_1 s_2 o h hp; rw [Qs] at h; refine ALp.round ?_; generalize hQ : YB _ _ _ _ = QQ; simp only [B132_1, A132, go_sem, seval]; rcases iteS h with ⟨e_4, h⟩ | ⟨e_4, h⟩
  · obtain ⟨x_5, h_6, h⟩ := bindS h; have e_7 : (List.map eI64 l_0)[(i_1).toNat]? = some [.int .i64 x_5] := XA eI64 h_6; have e_8 := eq_true (Xx h_6).1; have e_9 := eq_true (XP h_6); obtain ⟨⟨y_10, y_11⟩, h_12, h⟩ := bindS h; (try dsimp only at h); simp only [e_4, e_7, e_8, e_9, go_sem, seval]; refine Xa.go0 (Xcw N _ _ _ h_12) ?_; have e_13 := tk eTSet s_2; have e_14 : (List.map eTSet s_2) ++ [[.vec false (List.map Xi y_10), .bool y_11]] = (List.map eTSet (s_2 ++ [TSet.mk y_10 y_11])) := YS s_2 ([TSet.mk y_10 y_11]) eTSet; obtain ⟨e_16, h⟩ := guardE h; simp only [e_4, e_7, e_8, e_9, e_13, e_14, e_16, go_sem, seval]; rw [← hQ]; exact ⟨_, _, (Ref.std [1, 5, 8, 9, 10] [1] (by decide) low0 (by first | rfl | simp only [go_sem, seval]) (by first | rfl | simp only [go_sem, seval])), (Nat.zero_le _), ih _ _ _ h hp⟩
  · simp only [e_4, go_sem, seval]; cases h; rw [← hQ]; exact ⟨_, _, (Ref.std [5] [0] (by decide) low0 rfl (by first | rfl | simp only [go_sem, seval])), hp⟩
theorem JW (N : Nat) (l_0 : List Int) (c_0 : Bool) (z_1 : List TSet) (h : Je N l_0 = some z_1) :
  Xa Try.prog 132 [.vec c_0 (List.map eI64 l_0), .fn (.func 111) [] []] [] (fun e H => H = [] ∧ e = .ret (.vec false (List.map eTSet z_1))) := by
 unfold Je at h; refine Xa.goN Try.func132 n132 a132 Try.ntmps132 r132 (by simp) 0 rfl ?_; generalize hQ : bodyA _ _ _ = QQ; simp only [A132, go_sem, seval]; obtain ⟨y_1002, h_1001, h⟩ := bindS h; refine ALp.ref (Ref.trans (Ref.thaw (Nat.zero_le _) 5 rfl (sz := 2) (by decide) 85) (Ref.std [1, 5, 8, 9, 10] [0] (by decide) low0 rfl (by first | rfl | simp only [go_sem, seval]))) (Nat.zero_le _) (Xg2 N _ c_0 N _ _ y_1002 h_1001 ?_); refine XJ rfl (Nat.zero_le _) ?_; simp only [go_sem, seval]; obtain rfl := si h; rw [← hQ]; exact ⟨rfl, _, rfl, _, _, (RefV.trans (RefV.frz (Nat.zero_le _) (id := 0) rfl (XX y_1002 eTSet (fun _ => rfl))) (RefV.out (by first | rfl | simp only [go_sem, seval]))), rfl, rfl⟩
theorem Xbp (N : Nat) (a_3 : Int) (a_2 : Int) (l_0 : List Int) (c_0 : Bool) {R : AExit → ATm → List AObj → Prop} : ∀ (n : Nat) (i_1 : Int) (i_2 : Int) (s_3 : List TAct) (o : (Int × (List TAct)) ⊕ (Unit)), Yx N a_3 a_2 l_0 n i_1 i_2 s_3 = some o → (match o with | .inl (z_1, z_2) => R (.exit 0) ⟨29, [(7, .row 1 0 z_2.length)], []⟩ [.box [.vec c_0 (List.map eU8 l_0), .int .i64 z_1] 152, .mem 2 (List.map eTAct z_2) 120] | .inr (_) => ∀ (tb : ATm) (Hb : List AObj), tb.ds = [] → R (.pan (.iface 148 (.agg []))) tb Hb) →
  ALp Try.prog 1 B119_1 ⟨29, [(0, .ptr 0 0 0), (2, .int .i64 a_3), (7, .row 1 0 s_3.length), (10, .int .i64 a_2), (11, .int .i64 i_1)], []⟩ [.box [.vec c_0 (List.map eU8 l_0), .int .i64 i_2] 152, .mem 2 (List.map eTAct s_3) 120] R := by
 intro n
 induction n with
 | zero =>
  intro i_1 i_2 s_3 o h _; exact no0 h
 | succ n ih =>
  intro i_1 i_2 s_3 o h hp; rw [Yx] at h; refine ALp.round ?_; generalize hQ : YB _ _ _ _ = QQ; simp only [B119_1, A119, go_sem, seval]; rcases iteS h with ⟨e_5, h⟩ | ⟨e_5, h⟩
  ·
   obtain ⟨o_8, h_7, h⟩ := bindS h; simp only [e_5, go_sem, seval]; rcases o_8 with y_6 | _
   ·
    (try dsimp only at h); refine Xa.goA (Xk N _ _ c_0 _ h_7) [0] (ho := ⟨(by first | rfl | simp only [go_sem, seval, e_5]), trivial⟩) ?_; obtain ⟨o_12, h_11, h⟩ := bindS h; simp only [e_5, go_sem, seval]; rcases o_12 with y_10 | _
    ·
     (try dsimp only at h); refine Xa.goA (Xk N _ _ c_0 _ h_11) [0] (ho := ⟨(by first | rfl | simp only [go_sem, seval, e_5]), trivial⟩) ?_; obtain ⟨o_15, h_14, h⟩ := bindS h; simp only [e_5, go_sem, seval]; rcases o_15 with _ | _
     · (try dsimp only at h); refine Xa.go0 (Xz N _ _ h_14) ?_; have e_17 := tk eTAct s_3; have e_18 : (List.map eTAct s_3) ++ [[.int .i64 y_6, .int .i64 y_10]] = (List.map eTAct (s_3 ++ [TAct.mk y_6 y_10])) := YS s_3 ([TAct.mk y_6 y_10]) eTAct; obtain ⟨e_20, h⟩ := guardE h; simp only [e_5, e_17, e_18, e_20, go_sem, seval]; rw [← hQ]; exact ⟨_, _, (Ref.std [0, 2, 7, 10, 11] [0, 2] (by decide) (by decide) (by first | rfl | simp only [go_sem, seval]) (by first | rfl | simp only [go_sem, seval])), (by simp), ih _ _ _ _ h hp⟩
     · (try dsimp only at h); refine Xa.panA (Xz N _ _ h_14) [] ?_; (try simp only [Xc, Xb, Xe]); cases h; rw [← hQ]; exact hp _ _ rfl
    · (try dsimp only at h); refine Xa.panA (Xk N _ _ c_0 _ h_11) [0] (ho := ⟨(by first | rfl | simp only [go_sem, seval, e_5]), trivial⟩) ?_; (try simp only [Xc, Xb, Xe]); cases h; rw [← hQ]; exact hp _ _ rfl
   · (try dsimp only at h); refine Xa.panA (Xk N _ _ c_0 _ h_7) [0] (ho := ⟨(by first | rfl | simp only [go_sem, seval, e_5]), trivial⟩) ?_; (try simp only [Xc, Xb, Xe]); cases h; rw [← hQ]; exact hp _ _ rfl
  · simp only [e_5, go_sem, seval]; cases h; rw [← hQ]; exact ⟨_, _, (Ref.std [7] [0, 1] (by decide) (by decide) rfl (by first | rfl | simp only [go_sem, seval])), hp⟩
theorem Xu (N : Nat) (l_0 : List Int) (a_1 : Int) (a_2 : Int) (a_3 : Int) (c_0 : Bool) (o : ((List TAct) × Int) ⊕ Unit) (h : XI N l_0 a_1 a_2 a_3 = some o) :
  Xa Try.prog 119 [.ptr 0 0 0, .int .i64 a_2, .int .i64 a_3] [.box [.vec c_0 (List.map eU8 l_0), .int .i64 a_1] 152] (fun e H => match o with | .inl (z_1, z_2) => H = [.box [.vec c_0 (List.map eU8 l_0), .int .i64 z_2] 152] ∧ e = .ret (.vec false (List.map eTAct z_1)) | .inr _ => H = [.dead] ∧ e = .pan (.iface 148 (.agg []))) := by
 unfold XI at h; refine Xa.goN Try.func119 n119 a119 Try.ntmps119 r119 (by simp) 1 rfl ?_; generalize hQ : bodyA _ _ _ = QQ; simp only [A119, go_sem, seval]; obtain ⟨o_1004, h_1001, h⟩ := bindS h; refine ALp.ref (Ref.trans (Ref.thaw (by simp) 7 rfl (sz := 2) (by decide) 120) (Ref.std [0, 2, 7, 10, 11] [0, 1] (by decide) (by decide) rfl (by first | rfl | simp only [go_sem, seval]))) (by simp) (Xbp N _ _ _ c_0 N _ _ _ o_1004 h_1001 ?_); rcases o_1004 with ⟨y_1002, y_1003⟩ | _
 · (try dsimp only at h); refine XJ rfl (by simp) ?_; simp only [go_sem, seval]; cases h; rw [← hQ]; exact ⟨rfl, _, rfl, _, _, (RefV.trans (RefV.frz (by simp) (id := 1) rfl (XX y_1003 eTAct (fun _ => rfl))) (RefV.std [0] (by decide) (by decide) (by first | rfl | simp only [go_sem, seval]) (by first | rfl | simp only [go_sem, seval]))), rfl, rfl⟩
 · (try dsimp only at h); intro _ _ h_1005; refine Zo ?_; cases h; rw [← hQ]; exact ⟨h_1005, _, _, RefV.dead rfl, rfl, rfl⟩
theorem Qq (N : Nat) (l_0 : List Int) (a_1 : Int) (l_2 : List TSpan) (b_3 : Bool) (b_4 : Bool) (c_0 : Bool) (o : ((List TSet) × (List TSet) × (List TSet) × (List TAct) × Int) ⊕ Unit) (h : Qb N l_0 a_1 l_2 b_3 b_4 = some o) :
  Xa Try.prog 129 [.ptr 0 0 0, .agg [.vec false (List.map Xi l_2), .bool b_3], .agg [.fn (.func 111) [] [], .fn (.func 111) [] [], .fn (.func 111) [] [], .bool b_4]] [.box [.vec c_0 (List.map eU8 l_0), .int .i64 a_1] 152] (fun e H => match o with | .inl (z_1, z_2, z_3, z_4, z_5) => H = [.box [.vec c_0 (List.map eU8 l_0), .int .i64 z_5] 152] ∧ e = .ret (.agg [.vec false (List.map eTSet z_1), .vec false (List.map eTSet z_2), .vec false (List.map eTSet z_3), .vec false (List.map eTAct z_4)]) | .inr _ => H = [.dead] ∧ e = .pan (.iface 148 (.agg []))) := by
 unfold Qb at h; refine Xa.goN Try.func129 n129 a129 Try.ntmps129 r129 (by simp) 1 rfl ?_; generalize hQ : bodyA _ _ _ = QQ; simp only [A129, go_sem, seval]; rcases iteB h with ⟨e_2, h⟩ | ⟨e_2, h⟩
 ·
  obtain ⟨o_5, h_4, h⟩ := bindS h; simp only [e_2, go_sem, seval]; rcases o_5 with y_3 | _
  ·
   (try dsimp only at h); refine Xa.useA (Xd N _ _ _ _ c_0 _ h_4) [0] (ho := ⟨(by first | rfl | simp only [go_sem, seval, e_2]), trivial⟩) ?_; obtain ⟨o_9, h_8, h⟩ := bindS h; simp only [e_2, go_sem, seval]; rcases o_9 with y_7 | _
   ·
    (try dsimp only at h); refine Xa.useA (Xf N _ _ _ c_0 _ h_8) [0] (ho := ⟨(by first | rfl | simp only [go_sem, seval, e_2]), trivial⟩) ?_; obtain ⟨y_11, h_12, h⟩ := bindS h; simp only [e_2, go_sem, seval]; refine Xa.use0 (JW N _ false _ h_12) rfl rfl ?_; obtain ⟨o_15, h_14, h⟩ := bindS h; simp only [e_2, go_sem, seval]; rcases o_15 with y_13 | _
    ·
     (try dsimp only at h); refine Xa.goA (Xd N _ _ _ _ c_0 _ h_14) [0] (ho := ⟨(by first | rfl | simp only [go_sem, seval, e_2]), trivial⟩) ?_; obtain ⟨o_19, h_18, h⟩ := bindS h; simp only [e_2, go_sem, seval]; rcases o_19 with y_17 | _
     ·
      (try dsimp only at h); refine Xa.useA (Xf N _ _ _ c_0 _ h_18) [0] (ho := ⟨(by first | rfl | simp only [go_sem, seval, e_2]), trivial⟩) ?_; obtain ⟨y_21, h_22, h⟩ := bindS h; simp only [e_2, go_sem, seval]; refine Xa.use0 (JW N _ false _ h_22) rfl rfl ?_; have e_23 := Xaa y_21 eTSet 2 (fun _ => rfl); simp only [e_2, e_23, go_sem, seval]; by_cases h_24 : y_21 = []
      ·
       rw [if_pos h_24] at h; have e_25 : y_21 = [] := h_24; obtain ⟨o_28, h_27, h⟩ := bindS h; simp only [e_2, e_23, e_25, go_sem, seval]; rcases o_28 with y_26 | _
       ·
        (try dsimp only at h); refine Xa.useA (Xd N _ _ _ _ c_0 _ h_27) [0] (ho := ⟨(by first | rfl | simp only [go_sem, seval, e_2, e_25]), trivial⟩) ?_; obtain ⟨o_32, h_31, h⟩ := bindS h; simp only [e_2, e_23, e_25, go_sem, seval]; rcases o_32 with y_30 | _
        ·
         (try dsimp only at h); refine Xa.useA (Xf N _ _ _ c_0 _ h_31) [0] (ho := ⟨(by first | rfl | simp only [go_sem, seval, e_2, e_25]), trivial⟩) ?_; obtain ⟨y_34, h_35, h⟩ := bindS h; simp only [e_2, e_23, e_25, go_sem, seval]; refine Xa.use0 (JW N _ false _ h_35) rfl rfl ?_; obtain ⟨o_38, h_37, h⟩ := bindS h; simp only [e_2, e_23, e_25, go_sem, seval]; rcases o_38 with y_36 | _
         ·
          (try dsimp only at h); refine Xa.goA (Xd N _ _ _ _ c_0 _ h_37) [0] (ho := ⟨(by first | rfl | simp only [go_sem, seval, e_2, e_25]), trivial⟩) ?_; obtain ⟨o_43, h_42, h⟩ := bindS h; simp only [e_2, e_23, e_25, go_sem, seval]; rcases o_43 with ⟨y_40, y_41⟩ | _
          · (try dsimp only at h); refine Xa.goA (Xu N _ _ _ _ c_0 _ h_42) [0] (ho := ⟨(by first | rfl | simp only [go_sem, seval, e_2, e_25]), trivial⟩) ?_; simp only [e_2, e_23, e_25, go_sem, seval]; cases h; rw [← hQ]; exact ⟨rfl, _, rfl, _, _, (RefV.trans (RefV.std (v' := .agg [.vec false (List.map eTSet y_11), .vec true [[.vec false (List.map Xi l_2), .bool b_3]], .vec false (List.map eTSet y_34), .vec false (List.map eTAct y_40)]) [0] (by decide) (by decide) rfl (by first | rfl | simp only [go_sem, seval, e_2, e_25])) (RefV.weak (Wks.cons (Wk.agg (Wks.cons (Wk.refl _) (Wks.cons Wk.vec (Wks.cons (Wk.refl _) (Wks.cons (Wk.refl _) (Wks.nil)))))) Wks.nil) (WkH.refl _))), rfl, rfl⟩
          · (try dsimp only at h); refine Xa.panA (Xu N _ _ _ _ c_0 _ h_42) [0] (ho := ⟨(by first | rfl | simp only [go_sem, seval, e_2, e_25]), trivial⟩) ?_; (try simp only [Xc, Xb, Xe]); cases h; rw [← hQ]; exact ⟨rfl, _, _, RefV.dead rfl, rfl, rfl⟩
         · (try dsimp only at h); refine Xa.panA (Xd N _ _ _ _ c_0 _ h_37) [0] (ho := ⟨(by first | rfl | simp only [go_sem, seval, e_2, e_25]), trivial⟩) ?_; (try simp only [Xc, Xb, Xe]); cases h; rw [← hQ]; exact ⟨rfl, _, _, RefV.dead rfl, rfl, rfl⟩
        · (try dsimp only at h); refine Xa.panA (Xf N _ _ _ c_0 _ h_31) [0] (ho := ⟨(by first | rfl | simp only [go_sem, seval, e_2, e_25]), trivial⟩) ?_; (try simp only [Xc, Xb, Xe]); cases h; rw [← hQ]; exact ⟨rfl, _, _, RefV.dead rfl, rfl, rfl⟩
       · (try dsimp only at h); refine Xa.panA (Xd N _ _ _ _ c_0 _ h_27) [0] (ho := ⟨(by first | rfl | simp only [go_sem, seval, e_2, e_25]), trivial⟩) ?_; (try simp only [Xc, Xb, Xe]); cases h; rw [← hQ]; exact ⟨rfl, _, _, RefV.dead rfl, rfl, rfl⟩
      ·
       rw [if_neg h_24] at h; have e_25 : (y_21.length = 0) = False ∧ (0 < y_21.length) = True := ⟨eq_false (fun q => h_24 (List.eq_nil_of_length_eq_zero q)), eq_true (Nat.pos_of_ne_zero (fun q => h_24 (List.eq_nil_of_length_eq_zero q)))⟩; have e_45 := Xaa y_21 eTSet 2 (fun _ => rfl); have e_46 : [[.vec false (List.map Xi l_2), .bool b_3]] ++ (List.map eTSet y_21) = (List.map eTSet ([TSet.mk l_2 b_3] ++ y_21)) := YS ([TSet.mk l_2 b_3]) y_21 eTSet; obtain ⟨e_48, h⟩ := guardE h; obtain ⟨o_51, h_50, h⟩ := bindS h; simp only [e_2, e_23, e_25, e_45, e_46, e_48, go_sem, seval]; rcases o_51 with y_49 | _
       ·
        (try dsimp only at h); refine Xa.useA (Xd N _ _ _ _ c_0 _ h_50) [0] (ho := ⟨(by first | rfl | simp only [go_sem, seval, e_2, e_25]), trivial⟩) ?_; obtain ⟨o_55, h_54, h⟩ := bindS h; simp only [e_2, e_23, e_25, e_45, e_46, e_48, go_sem, seval]; rcases o_55 with y_53 | _
        ·
         (try dsimp only at h); refine Xa.useA (Xf N _ _ _ c_0 _ h_54) [0] (ho := ⟨(by first | rfl | simp only [go_sem, seval, e_2, e_25]), trivial⟩) ?_; obtain ⟨y_57, h_58, h⟩ := bindS h; simp only [e_2, e_23, e_25, e_45, e_46, e_48, go_sem, seval]; refine Xa.use0 (JW N _ false _ h_58) rfl rfl ?_; obtain ⟨o_61, h_60, h⟩ := bindS h; simp only [e_2, e_23, e_25, e_45, e_46, e_48, go_sem, seval]; rcases o_61 with y_59 | _
         ·
          (try dsimp only at h); refine Xa.goA (Xd N _ _ _ _ c_0 _ h_60) [0] (ho := ⟨(by first | rfl | simp only [go_sem, seval, e_2, e_25]), trivial⟩) ?_; obtain ⟨o_66, h_65, h⟩ := bindS h; simp only [e_2, e_23, e_25, e_45, e_46, e_48, go_sem, seval]; rcases o_66 with ⟨y_63, y_64⟩ | _
          · (try dsimp only at h); refine Xa.goA (Xu N _ _ _ _ c_0 _ h_65) [0] (ho := ⟨(by first | rfl | simp only [go_sem, seval, e_2, e_25]), trivial⟩) ?_; simp only [e_2, e_23, e_25, e_45, e_46, e_48, go_sem, seval]; cases h; rw [← hQ]; exact ⟨rfl, _, rfl, _, _, (RefV.trans (RefV.frz (by simp) (id := 5) rfl (XX ([TSet.mk l_2 b_3] ++ y_21) eTSet (fun _ => rfl))) (RefV.std [0] (by decide) (by decide) (by first | rfl | simp only [go_sem, seval, e_2, e_25]) (by first | rfl | simp only [go_sem, seval, e_2, e_25]))), rfl, rfl⟩
          · (try dsimp only at h); refine Xa.panA (Xu N _ _ _ _ c_0 _ h_65) [0] (ho := ⟨(by first | rfl | simp only [go_sem, seval, e_2, e_25]), trivial⟩) ?_; (try simp only [Xc, Xb, Xe]); cases h; rw [← hQ]; exact ⟨rfl, _, _, RefV.dead rfl, rfl, rfl⟩
         · (try dsimp only at h); refine Xa.panA (Xd N _ _ _ _ c_0 _ h_60) [0] (ho := ⟨(by first | rfl | simp only [go_sem, seval, e_2, e_25]), trivial⟩) ?_; (try simp only [Xc, Xb, Xe]); cases h; rw [← hQ]; exact ⟨rfl, _, _, RefV.dead rfl, rfl, rfl⟩
        · (try dsimp only at h); refine Xa.panA (Xf N _ _ _ c_0 _ h_54) [0] (ho := ⟨(by first | rfl | simp only [go_sem, seval, e_2, e_25]), trivial⟩) ?_; (try simp only [Xc, Xb, Xe]); cases h; rw [← hQ]; exact ⟨rfl, _, _, RefV.dead rfl, rfl, rfl⟩
       · (try dsimp only at h); refine Xa.panA (Xd N _ _ _ _ c_0 _ h_50) [0] (ho := ⟨(by first | rfl | simp only [go_sem, seval, e_2, e_25]), trivial⟩) ?_; (try simp only [Xc, Xb, Xe]); cases h; rw [← hQ]; exact ⟨rfl, _, _, RefV.dead rfl, rfl, rfl⟩
     · (try dsimp only at h); refine Xa.panA (Xf N _ _ _ c_0 _ h_18) [0] (ho := ⟨(by first | rfl | simp only [go_sem, seval, e_2]), trivial⟩) ?_; (try simp only [Xc, Xb, Xe]); cases h; rw [← hQ]; exact ⟨rfl, _, _, RefV.dead rfl, rfl, rfl⟩
    · (try dsimp only at h); refine Xa.panA (Xd N _ _ _ _ c_0 _ h_14) [0] (ho := ⟨(by first | rfl | simp only [go_sem, seval, e_2]), trivial⟩) ?_; (try simp only [Xc, Xb, Xe]); cases h; rw [← hQ]; exact ⟨rfl, _, _, RefV.dead rfl, rfl, rfl⟩
   · (try dsimp only at h); refine Xa.panA (Xf N _ _ _ c_0 _ h_8) [0] (ho := ⟨(by first | rfl | simp only [go_sem, seval, e_2]), trivial⟩) ?_; (try simp only [Xc, Xb, Xe]); cases h; rw [← hQ]; exact ⟨rfl, _, _, RefV.dead rfl, rfl, rfl⟩
  · (try dsimp only at h); refine Xa.panA (Xd N _ _ _ _ c_0 _ h_4) [0] (ho := ⟨(by first | rfl | simp only [go_sem, seval, e_2]), trivial⟩) ?_; (try simp only [Xc, Xb, Xe]); cases h; rw [← hQ]; exact ⟨rfl, _, _, RefV.dead rfl, rfl, rfl⟩
 ·
  obtain ⟨o_70, h_69, h⟩ := bindS h; simp only [e_2, go_sem, seval]; rcases o_70 with y_68 | _
  ·
   (try dsimp only at h); refine Xa.goA (Xd N _ _ _ _ c_0 _ h_69) [0] (ho := ⟨(by first | rfl | simp only [go_sem, seval, e_2]), trivial⟩) ?_; obtain ⟨o_74, h_73, h⟩ := bindS h; simp only [e_2, go_sem, seval]; rcases o_74 with y_72 | _
   ·
    (try dsimp only at h); refine Xa.goA (Xd N _ _ _ _ c_0 _ h_73) [0] (ho := ⟨(by first | rfl | simp only [go_sem, seval, e_2]), trivial⟩) ?_; obtain ⟨o_78, h_77, h⟩ := bindS h; simp only [e_2, go_sem, seval]; rcases o_78 with y_76 | _
    ·
     (try dsimp only at h); refine Xa.useA (Xf N _ _ _ c_0 _ h_77) [0] (ho := ⟨(by first | rfl | simp only [go_sem, seval, e_2]), trivial⟩) ?_; obtain ⟨y_80, h_81, h⟩ := bindS h; simp only [e_2, go_sem, seval]; refine Xa.use0 (JW N _ false _ h_81) rfl rfl ?_; have e_82 := Xaa y_80 eTSet 2 (fun _ => rfl); simp only [e_2, e_82, go_sem, seval]; by_cases h_83 : y_80 = []
     ·
      rw [if_pos h_83] at h; have e_84 : y_80 = [] := h_83; obtain ⟨o_88, h_87, h⟩ := bindS h; simp only [e_2, e_82, e_84, go_sem, seval]; rcases o_88 with ⟨y_85, y_86⟩ | _
      · (try dsimp only at h); refine Xa.goA (Xu N _ _ _ _ c_0 _ h_87) [0] (ho := ⟨(by first | rfl | simp only [go_sem, seval, e_2, e_84]), trivial⟩) ?_; simp only [e_2, e_82, e_84, go_sem, seval]; cases h; rw [← hQ]; exact ⟨rfl, _, rfl, _, _, (RefV.trans (RefV.std (v' := .agg [nn, .vec true [[.vec false (List.map Xi l_2), .bool b_3]], nn, .vec false (List.map eTAct y_85)]) [0] (by decide) (by decide) rfl (by first | rfl | simp only [go_sem, seval, e_2, e_84])) (RefV.weak (Wks.cons (Wk.agg (Wks.cons Wk.vec (Wks.cons Wk.vec (Wks.cons Wk.vec (Wks.cons (Wk.refl _) (Wks.nil)))))) Wks.nil) (WkH.refl _))), rfl, rfl⟩
      · (try dsimp only at h); refine Xa.panA (Xu N _ _ _ _ c_0 _ h_87) [0] (ho := ⟨(by first | rfl | simp only [go_sem, seval, e_2, e_84]), trivial⟩) ?_; (try simp only [Xc, Xb, Xe]); cases h; rw [← hQ]; exact ⟨rfl, _, _, RefV.dead rfl, rfl, rfl⟩
     ·
      rw [if_neg h_83] at h; have e_84 : (y_80.length = 0) = False ∧ (0 < y_80.length) = True := ⟨eq_false (fun q => h_83 (List.eq_nil_of_length_eq_zero q)), eq_true (Nat.pos_of_ne_zero (fun q => h_83 (List.eq_nil_of_length_eq_zero q)))⟩; have e_90 := Xaa y_80 eTSet 2 (fun _ => rfl); have e_91 : [[.vec false (List.map Xi l_2), .bool b_3]] ++ (List.map eTSet y_80) = (List.map eTSet ([TSet.mk l_2 b_3] ++ y_80)) := YS ([TSet.mk l_2 b_3]) y_80 eTSet; obtain ⟨e_93, h⟩ := guardE h; obtain ⟨o_97, h_96, h⟩ := bindS h; simp only [e_2, e_82, e_84, e_90, e_91, e_93, go_sem, seval]; rcases o_97 with ⟨y_94, y_95⟩ | _
      · (try dsimp only at h); refine Xa.goA (Xu N _ _ _ _ c_0 _ h_96) [0] (ho := ⟨(by first | rfl | simp only [go_sem, seval, e_2, e_84]), trivial⟩) ?_; simp only [e_2, e_82, e_84, e_90, e_91, e_93, go_sem, seval]; cases h; rw [← hQ]; exact ⟨rfl, _, rfl, _, _, (RefV.trans (RefV.frz (by simp) (id := 5) rfl (XX ([TSet.mk l_2 b_3] ++ y_80) eTSet (fun _ => rfl))) (RefV.trans (RefV.std (v' := .agg [nn, .vec false (List.map eTSet ([TSet.mk l_2 b_3] ++ y_80)), nn, .vec false (List.map eTAct y_94)]) [0] (by decide) (by decide) (by first | rfl | simp only [go_sem, seval, e_2, e_84]) (by first | rfl | simp only [go_sem, seval, e_2, e_84])) (RefV.weak (Wks.cons (Wk.agg (Wks.cons Wk.vec (Wks.cons (Wk.refl _) (Wks.cons Wk.vec (Wks.cons (Wk.refl _) (Wks.nil)))))) Wks.nil) (WkH.refl _)))), rfl, rfl⟩
      · (try dsimp only at h); refine Xa.panA (Xu N _ _ _ _ c_0 _ h_96) [0] (ho := ⟨(by first | rfl | simp only [go_sem, seval, e_2, e_84]), trivial⟩) ?_; (try simp only [Xc, Xb, Xe]); cases h; rw [← hQ]; exact ⟨rfl, _, _, RefV.dead rfl, rfl, rfl⟩
    · (try dsimp only at h); refine Xa.panA (Xf N _ _ _ c_0 _ h_77) [0] (ho := ⟨(by first | rfl | simp only [go_sem, seval, e_2]), trivial⟩) ?_; (try simp only [Xc, Xb, Xe]); cases h; rw [← hQ]; exact ⟨rfl, _, _, RefV.dead rfl, rfl, rfl⟩
   · (try dsimp only at h); refine Xa.panA (Xd N _ _ _ _ c_0 _ h_73) [0] (ho := ⟨(by first | rfl | simp only [go_sem, seval, e_2]), trivial⟩) ?_; (try simp only [Xc, Xb, Xe]); cases h; rw [← hQ]; exact ⟨rfl, _, _, RefV.dead rfl, rfl, rfl⟩
  · (try dsimp only at h); refine Xa.panA (Xd N _ _ _ _ c_0 _ h_69) [0] (ho := ⟨(by first | rfl | simp only [go_sem, seval, e_2]), trivial⟩) ?_; (try simp only [Xc, Xb, Xe]); cases h; rw [← hQ]; exact ⟨rfl, _, _, RefV.dead rfl, rfl, rfl⟩
theorem Xah (N : Nat) (a_2 : Int) (i_1 : Int) (x_4 : Int) (l_3 : List Int) (y_18 : List Int) (l_0 : List Int) (a_1 : Int) (l_4 : List Int) (b_5 : Bool) (c_1 : Bool) (c_0 : Bool) {R : AExit → ATm → List AObj → Prop} : ∀ (n : Nat) (i_22 : Int) (s_23 : List TCtx) (o : ((List TCtx)) ⊕ (Unit)), XV N a_2 i_1 x_4 l_3 y_18 l_0 a_1 l_4 b_5 n i_22 s_23 = some o → (match o with | .inl z_1 => R (.exit 2) ⟨75, [(0, .ptr 0 0 0), (1, .int .i64 a_2), (3, .fn (.func 110) [] [.ptr 1 0 0]), (9, .ptr 4 0 0), (11, .row 5 0 z_1.length), (18, .vec c_1 (List.map eI64 l_3)), (19, .int .i64 (l_3.length : Int)), (20, .int .i64 i_1)], []⟩ [.box [.vec c_0 (List.map eU8 l_0), .int .i64 a_1] 152, .box [.row 3 0 l_4.length] 48, .dead, .mem 1 (List.map eI64 l_4) 3, .box [.fn (.func 111) [] [], .fn (.func 111) [] [], .fn (.func 111) [] [], .bool b_5] 161, .mem 4 (List.map eTCtx z_1) 45] | .inr (_) => ∀ (tb : ATm) (Hb : List AObj), tb.ds = [] → R (.pan (.iface 148 (.agg []))) tb Hb) →
  ALp Try.prog 3 B109_2 ⟨75, [(0, .ptr 0 0 0), (1, .int .i64 a_2), (3, .fn (.func 110) [] [.ptr 1 0 0]), (9, .ptr 4 0 0), (11, .row 5 0 s_23.length), (12, .int .i64 i_1), (13, .int .i64 x_4), (18, .vec c_1 (List.map eI64 l_3)), (19, .int .i64 (l_3.length : Int)), (20, .int .i64 i_1), (43, .vec false (List.map eI64 y_18)), (44, .int .i64 (y_18.length : Int)), (45, .int .i64 i_22)], []⟩ [.box [.vec c_0 (List.map eU8 l_0), .int .i64 a_1] 152, .box [.row 3 0 l_4.length] 48, .dead, .mem 1 (List.map eI64 l_4) 3, .box [.fn (.func 111) [] [], .fn (.func 111) [] [], .fn (.func 111) [] [], .bool b_5] 161, .mem 4 (List.map eTCtx s_23) 45] R := by
 intro n
 induction n with
 | zero =>
  intro i_22 s_23 o h _; exact no0 h
 | succ n ih =>
  intro i_22 s_23 o h hp; rw [XV] at h; refine ALp.round ?_; generalize hQ : YB _ _ _ _ = QQ; simp only [B109_2, B109_1, A109, go_sem, seval]; rcases iteS h with ⟨e_25, h⟩ | ⟨e_25, h⟩
  ·
   obtain ⟨x_26, h_27, h⟩ := bindS h; have e_28 : (List.map eI64 y_18)[(i_22).toNat]? = some [.int .i64 x_26] := XA eI64 h_27; have e_29 := eq_true (Xx h_27).1; have e_30 := eq_true (XP h_27); simp only [e_25, e_28, e_29, e_30, go_sem, seval]; refine ⟨?_, ?_⟩
   ·
    obtain ⟨⟨y_31, y_32⟩, h_33, h⟩ := bindS h; (try dsimp only at h); (try simp only [e_25, e_28, e_29, e_30, go_sem, seval]); refine Xa.useA (QN N _ _ _ _ h_33) [1, 3] (ho := ⟨(by first | rfl | simp only [go_sem, seval, e_25]), (by first | rfl | simp only [go_sem, seval, e_25]), trivial⟩) ?_; obtain ⟨o_40, h_39, h⟩ := bindS h; simp only [e_25, e_28, e_29, e_30, go_sem, seval]; rcases o_40 with ⟨y_34, y_35, y_36, y_37, y_38⟩ | _
    ·
     (try dsimp only at h); refine Xa.useA (Qq N _ _ _ _ _ c_0 _ h_39) [6] (ho := ⟨(by first | rfl | simp only [go_sem, seval, e_25]), trivial⟩) ?_; have e_42 := tk eTCtx s_23; have e_43 : (List.map eTCtx s_23) ++ [[.vec false (List.map eTSet y_34), .vec false (List.map eTSet y_35), .vec false (List.map eTSet y_36), .vec false (List.map eTAct y_37)]] = (List.map eTCtx (s_23 ++ [TCtx.mk y_34 y_35 y_36 y_37])) := YS s_23 ([TCtx.mk y_34 y_35 y_36 y_37]) eTCtx; obtain ⟨h_44, h⟩ := Xgr h; have e_45 := eq_true h_44; obtain ⟨o_47, h_46, h⟩ := bindS h; simp only [e_25, e_28, e_29, e_30, e_42, e_43, e_45, go_sem, seval]; rcases o_47 with _ | _
     · (try dsimp only at h); refine Xa.go0 (Xz N _ _ h_46) ?_; simp only [e_25, e_28, e_29, e_30, e_42, e_43, e_45, go_sem, seval]; rw [← hQ]; exact ⟨_, _, (Ref.std [0, 1, 3, 9, 11, 12, 13, 18, 19, 20, 43, 44, 45] [0, 1, 2, 7, 4, 8] (by decide) (by decide) (by first | rfl | simp only [go_sem, seval]) (by first | rfl | simp only [go_sem, seval, e_25])), (by simp), ih _ _ _ h hp⟩
     · (try dsimp only at h); refine Xa.panA (Xz N _ _ h_46) [] ?_; (try simp only [Xc, Xb, Xe]); cases h; rw [← hQ]; exact hp _ _ rfl
    · (try dsimp only at h); refine Xa.panA (Qq N _ _ _ _ _ c_0 _ h_39) [6] (ho := ⟨(by first | rfl | simp only [go_sem, seval, e_25]), trivial⟩) ?_; (try simp only [Xc, Xb, Xe]); cases h; rw [← hQ]; exact hp _ _ rfl
   ·
    obtain ⟨⟨y_31, y_32⟩, h_33, h⟩ := bindS h; (try dsimp only at h); (try simp only [e_25, e_28, e_29, e_30, go_sem, seval]); refine Xa.useA (QN N _ _ _ _ h_33) [1, 3] (ho := ⟨(by first | rfl | simp only [go_sem, seval, e_25]), (by first | rfl | simp only [go_sem, seval, e_25]), trivial⟩) ?_; obtain ⟨o_40, h_39, h⟩ := bindS h; simp only [e_25, e_28, e_29, e_30, go_sem, seval]; rcases o_40 with ⟨y_34, y_35, y_36, y_37, y_38⟩ | _
    ·
     (try dsimp only at h); refine Xa.useA (Qq N _ _ _ _ _ c_0 _ h_39) [7] (ho := ⟨(by first | rfl | simp only [go_sem, seval, e_25]), trivial⟩) ?_; have e_42 := tk eTCtx s_23; have e_43 : (List.map eTCtx s_23) ++ [[.vec false (List.map eTSet y_34), .vec false (List.map eTSet y_35), .vec false (List.map eTSet y_36), .vec false (List.map eTAct y_37)]] = (List.map eTCtx (s_23 ++ [TCtx.mk y_34 y_35 y_36 y_37])) := YS s_23 ([TCtx.mk y_34 y_35 y_36 y_37]) eTCtx; obtain ⟨h_44, h⟩ := Xgr h; have e_45 := eq_true h_44; obtain ⟨o_47, h_46, h⟩ := bindS h; simp only [e_25, e_28, e_29, e_30, e_42, e_43, e_45, go_sem, seval]; rcases o_47 with _ | _
     · (try dsimp only at h); refine Xa.go0 (Xz N _ _ h_46) ?_; simp only [e_25, e_28, e_29, e_30, e_42, e_43, e_45, go_sem, seval]; rw [← hQ]; exact ⟨_, _, (Ref.std [0, 1, 3, 9, 11, 12, 13, 18, 19, 20, 43, 44, 45] [0, 1, 2, 6, 4, 8] (by decide) (by decide) (by first | rfl | simp only [go_sem, seval]) (by first | rfl | simp only [go_sem, seval, e_25])), (by simp), ih _ _ _ h hp⟩
     · (try dsimp only at h); refine Xa.panA (Xz N _ _ h_46) [] ?_; (try simp only [Xc, Xb, Xe]); cases h; rw [← hQ]; exact hp _ _ rfl
    · (try dsimp only at h); refine Xa.panA (Qq N _ _ _ _ _ c_0 _ h_39) [7] (ho := ⟨(by first | rfl | simp only [go_sem, seval, e_25]), trivial⟩) ?_; (try simp only [Xc, Xb, Xe]); cases h; rw [← hQ]; exact hp _ _ rfl
  · simp only [e_25, go_sem, seval]; cases h; rw [← hQ]; exact ⟨_, _, (Ref.std [0, 1, 3, 9, 11, 18, 19, 20] [0, 1, 2, 3, 4, 5] (by decide) (by decide) rfl (by first | rfl | simp only [go_sem, seval, e_25])), hp⟩
theorem Xag (N : Nat) (a_2 : Int) (l_3 : List Int) (l_0 : List Int) (a_1 : Int) (l_4 : List Int) (b_5 : Bool) (c_1 : Bool) (c_0 : Bool) {R : AExit → ATm → List AObj → Prop} : ∀ (n : Nat) (i_1 : Int) (s_2 : List TCtx) (o : ((List TCtx)) ⊕ (Unit)), XO N a_2 l_3 l_0 a_1 l_4 b_5 n i_1 s_2 = some o → (match o with | .inl z_1 => R (.exit 0) ⟨75, [(11, .row 4 0 z_1.length)], []⟩ [.box [.vec c_0 (List.map eU8 l_0), .int .i64 a_1] 152, .box [.row 3 0 l_4.length] 48, .dead, .mem 1 (List.map eI64 l_4) 3, .mem 4 (List.map eTCtx z_1) 45] | .inr (_) => ∀ (tb : ATm) (Hb : List AObj), tb.ds = [] → R (.pan (.iface 148 (.agg []))) tb Hb) →
  ALp Try.prog 3 B109_1 ⟨75, [(0, .ptr 0 0 0), (1, .int .i64 a_2), (3, .fn (.func 110) [] [.ptr 1 0 0]), (9, .ptr 4 0 0), (11, .row 5 0 s_2.length), (18, .vec c_1 (List.map eI64 l_3)), (19, .int .i64 (l_3.length : Int)), (20, .int .i64 i_1)], []⟩ [.box [.vec c_0 (List.map eU8 l_0), .int .i64 a_1] 152, .box [.row 3 0 l_4.length] 48, .dead, .mem 1 (List.map eI64 l_4) 3, .box [.fn (.func 111) [] [], .fn (.func 111) [] [], .fn (.func 111) [] [], .bool b_5] 161, .mem 4 (List.map eTCtx s_2) 45] R := by
 intro n
 induction n with
 | zero =>
  intro i_1 s_2 o h _; exact no0 h
 | succ n ih =>
  intro i_1 s_2 o h hp; rw [XO] at h; refine ALp.round ?_; generalize hQ : YB _ _ _ _ = QQ; simp only [B109_1, A109, go_sem, seval]; rcases iteS h with ⟨e_4, h⟩ | ⟨e_4, h⟩
  ·
   obtain ⟨x_5, h_6, h⟩ := bindS h; have e_7 : (List.map eI64 l_3)[(i_1).toNat]? = some [.int .i64 x_5] := XA eI64 h_6; have e_8 := eq_true (Xx h_6).1; have e_9 := eq_true (XP h_6); simp only [e_4, e_7, e_8, e_9, go_sem, seval]; rcases iteS h with ⟨e_11, h⟩ | ⟨e_11, h⟩
   · simp only [e_4, e_7, e_8, e_9, e_11, go_sem, seval]; rw [← hQ]; exact ⟨_, _, (Ref.std [0, 1, 3, 9, 11, 18, 19, 20] [0, 1, 2, 3, 4, 5] (by decide) (by decide) rfl (by first | rfl | simp only [go_sem, seval, e_4, e_11])), (by simp), ih _ _ _ h hp⟩
   ·
    obtain ⟨o_14, h_13, h⟩ := bindS h; simp only [e_4, e_7, e_8, e_9, e_11, go_sem, seval]; rcases o_14 with y_12 | _
    ·
     (try dsimp only at h); refine Xa.goA (Xk N _ _ c_0 _ h_13) [6] (ho := ⟨(by first | rfl | simp only [go_sem, seval, e_4, e_11]), trivial⟩) ?_; obtain ⟨o_17, h_16, h⟩ := bindS h; simp only [e_4, e_7, e_8, e_9, e_11, go_sem, seval]; rcases o_17 with _ | _
     ·
      (try dsimp only at h); refine Xa.go0 (Xz N _ _ h_16) ?_; obtain ⟨o_21, h_20, h⟩ := bindS h; simp only [e_4, e_7, e_8, e_9, e_11, go_sem, seval]; rcases o_21 with y_19 | _
      ·
       (try dsimp only at h); refine Xa.goA (Xf N _ _ _ c_0 _ h_20) [6] (ho := ⟨(by first | rfl | simp only [go_sem, seval, e_4, e_11]), trivial⟩) ?_; simp only [e_4, e_7, e_8, e_9, e_11, go_sem, seval]; obtain ⟨o_1025, h_1023, h⟩ := bindS h; refine ALp.ref (Ref.std [0, 1, 3, 9, 11, 12, 13, 18, 19, 20, 43, 44, 45] [0, 1, 2, 3, 4, 5] (by decide) (by decide) rfl (by first | rfl | simp only [go_sem, seval, e_4, e_11])) (by simp) (Xah N _ _ _ _ _ _ _ _ _ c_1 c_0 N _ _ o_1025 h_1023 ?_); rcases o_1025 with y_1024 | _
       · (try dsimp only at h); refine XJ rfl (by simp) ?_; simp only [e_4, e_7, e_8, e_9, e_11, go_sem, seval]; rw [← hQ]; exact ⟨_, _, (Ref.std [0, 1, 3, 9, 11, 18, 19, 20] [0, 1, 2, 3, 4, 5] (by decide) (by decide) rfl (by first | rfl | simp only [go_sem, seval, e_4, e_11])), (by simp), ih _ _ _ h hp⟩
       · (try dsimp only at h); intro _ _ h_1026; refine Zo ?_; cases h; rw [← hQ]; exact hp _ _ h_1026
      · (try dsimp only at h); refine Xa.panA (Xf N _ _ _ c_0 _ h_20) [6] (ho := ⟨(by first | rfl | simp only [go_sem, seval, e_4, e_11]), trivial⟩) ?_; (try simp only [Xc, Xb, Xe]); cases h; rw [← hQ]; exact hp _ _ rfl
     · (try dsimp only at h); refine Xa.panA (Xz N _ _ h_16) [] ?_; (try simp only [Xc, Xb, Xe]); cases h; rw [← hQ]; exact hp _ _ rfl
    · (try dsimp only at h); refine Xa.panA (Xk N _ _ c_0 _ h_13) [6] (ho := ⟨(by first | rfl | simp only [go_sem, seval, e_4, e_11]), trivial⟩) ?_; (try simp only [Xc, Xb, Xe]); cases h; rw [← hQ]; exact hp _ _ rfl
  · simp only [e_4, go_sem, seval]; cases h; rw [← hQ]; exact ⟨_, _, (Ref.std [11] [0, 1, 2, 3, 5] (by decide) (by decide) rfl (by first | rfl | simp only [go_sem, seval])), hp⟩
theorem Jl (N : Nat) (l_0 : List Int) (a_1 : Int) (a_2 : Int) (l_3 : List Int) (l_4 : List Int) (b_5 : Bool) (c_0 : Bool) (c_1 : Bool) (o : ((List TCtx)) ⊕ Unit) (h : Zn N l_0 a_1 a_2 l_3 l_4 b_5 = some o) :
  Xa Try.prog 109 [.ptr 0 0 0, .int .i64 a_2, .vec c_1 (List.map eI64 l_3), .fn (.func 110) [] [.ptr 1 0 0], .agg [.fn (.func 111) [] [], .fn (.func 111) [] [], .fn (.func 111) [] [], .bool b_5]] [.box [.vec c_0 (List.map eU8 l_0), .int .i64 a_1] 152, .box [.row 2 0 l_4.length] 48, .mem 1 (List.map eI64 l_4) 3] (fun e H => match o with | .inl z_1 => H = [.box [.vec c_0 (List.map eU8 l_0), .int .i64 a_1] 152, .box [.row 3 0 l_4.length] 48, .dead, .mem 1 (List.map eI64 l_4) 3] ∧ e = .ret (.vec false (List.map eTCtx z_1)) | .inr _ => H = [.dead, .dead, .dead] ∧ e = .pan (.iface 148 (.agg []))) := by
 unfold Zn at h; refine Xa.goN Try.func109 n109 a109 Try.ntmps109 r109 (by simp) 3 rfl ?_; generalize hQ : bodyA _ _ _ = QQ; simp only [A109, go_sem, seval]; obtain ⟨o_1003, h_1001, h⟩ := bindS h; refine ALp.ref (Ref.trans (Ref.thaw (by simp) 11 rfl (sz := 4) (by decide) 45) (Ref.trans (Ref.move (by simp) (id := 2) rfl rfl) (Ref.std [0, 1, 3, 9, 11, 18, 19, 20] [0, 1, 2, 5, 3, 4] (by decide) (by decide) rfl (by first | rfl | simp only [go_sem, seval])))) (by simp) (Xag N _ _ _ _ _ _ c_1 c_0 N _ _ o_1003 h_1001 ?_); rcases o_1003 with y_1002 | _
 · (try dsimp only at h); refine XJ rfl (by simp) ?_; simp only [go_sem, seval]; cases h; rw [← hQ]; exact ⟨rfl, _, rfl, _, _, (RefV.trans (RefV.frz (by simp) (id := 4) rfl (XX y_1002 eTCtx (fun _ => rfl))) (RefV.std [0, 1, 2, 3] (by decide) (by decide) (by first | rfl | simp only [go_sem, seval]) (by first | rfl | simp only [go_sem, seval]))), rfl, rfl⟩
 · (try dsimp only at h); intro _ _ h_1004; refine Zo ?_; cases h; rw [← hQ]; exact ⟨h_1004, _, _, RefV.dead rfl, rfl, rfl⟩
theorem JE (N : Nat) (l_0 : List Int) (a_1 : Int) (a_2 : Int) (b_3 : Bool) (c_0 : Bool) (o : ((List TCtx) × Int) ⊕ Unit) (h : ZI N l_0 a_1 a_2 b_3 = some o) :
  Xa Try.prog 96 [.ptr 0 0 0, .int .i64 a_2, .bool b_3] [.box [.vec c_0 (List.map eU8 l_0), .int .i64 a_1] 152] (fun e H => match o with | .inl (z_1, z_2) => H = [.box [.vec c_0 (List.map eU8 l_0), .int .i64 z_2] 152] ∧ e = .ret (.vec false (List.map eTCtx z_1)) | .inr _ => H = [.dead] ∧ e = .pan (.iface 148 (.agg []))) := by
 unfold ZI at h; refine Xa.goN Try.func96 n96 a96 Try.ntmps96 r96 (by simp) 1 rfl ?_; generalize hQ : bodyA _ _ _ = QQ; obtain ⟨o_3, h_2, h⟩ := bindS h; simp only [A96, go_sem, seval]; rcases o_3 with y_1 | _
 ·
  (try dsimp only at h); refine Xa.goA (Xf N _ _ _ c_0 _ h_2) [0] ?_; obtain ⟨o_7, h_6, h⟩ := bindS h; simp only [go_sem, seval]; rcases o_7 with y_5 | _
  ·
   (try dsimp only at h); refine Xa.goA (XF N _ _ _ _ c_0 false _ h_6) [0] ?_; obtain ⟨x_9, h_10, h⟩ := bindS h; have e_11 : (List.map eTSet y_5)[0]? = some [.vec false (List.map Xi x_9.Spans), .bool x_9.Not] := XA eTSet h_10; have e_12 := eq_true (XP h_10); obtain ⟨o_15, h_14, h⟩ := bindS h; simp only [e_11, e_12, go_sem, seval]; rcases o_15 with y_13 | _
   ·
    (try dsimp only at h); refine Xa.goA (Xk N _ _ c_0 _ h_14) [0] ?_; obtain ⟨y_17, h_18, h⟩ := bindS h; simp only [e_11, e_12, go_sem, seval]; refine Xa.go0 (Jc N _ false _ h_18) ?_; obtain ⟨o_20, h_19, h⟩ := bindS h; simp only [e_11, e_12, go_sem, seval]; rcases o_20 with _ | _
    ·
     (try dsimp only at h); refine Xa.go0 (Xz N _ _ h_19) ?_; simp only [e_11, e_12, go_sem, seval]; obtain ⟨y_1023, h_1022, h⟩ := bindS h; refine ALp.ref (Ref.trans (Ref.thawB (by simp) (id := 1) 0 rfl rfl (sz := 1) (by decide) 3) (Ref.std [0, 1, 2, 8, 9, 28, 29, 30] [0, 1, 2] (by decide) (by decide) rfl (by first | rfl | simp only [go_sem, seval]))) (by simp) (Xaz N _ _ _ _ _ _ c_0 N _ _ y_1023 h_1022 ?_); refine XJ rfl (by simp) ?_; obtain ⟨o_1026, h_1025, h⟩ := bindS h; simp only [e_11, e_12, go_sem, seval]; rcases o_1026 with y_1024 | _
     ·
      (try dsimp only at h); refine Xa.goA (Xf N _ _ _ c_0 _ h_1025) [0] ?_; obtain ⟨o_1030, h_1029, h⟩ := bindS h; simp only [e_11, e_12, go_sem, seval]; rcases o_1030 with y_1028 | _
      · (try dsimp only at h); refine Xa.goA (Jl N _ _ _ _ _ _ c_0 false _ h_1029) [0, 1, 2] ?_; simp only [e_11, e_12, go_sem, seval]; cases h; rw [← hQ]; exact ⟨rfl, _, rfl, _, _, (RefV.std [0] (by decide) (by decide) rfl (by first | rfl | simp only [go_sem, seval])), rfl, rfl⟩
      · (try dsimp only at h); refine Xa.panA (Jl N _ _ _ _ _ _ c_0 false _ h_1029) [0, 1, 2] ?_; (try simp only [Xc, Xb, Xe]); cases h; rw [← hQ]; exact ⟨rfl, _, _, RefV.dead rfl, rfl, rfl⟩
     · (try dsimp only at h); refine Xa.panA (Xf N _ _ _ c_0 _ h_1025) [0] ?_; (try simp only [Xc, Xb, Xe]); cases h; rw [← hQ]; exact ⟨rfl, _, _, RefV.dead rfl, rfl, rfl⟩
    · (try dsimp only at h); refine Xa.panA (Xz N _ _ h_19) [] ?_; (try simp only [Xc, Xb, Xe]); cases h; rw [← hQ]; exact ⟨rfl, _, _, RefV.dead rfl, rfl, rfl⟩
   · (try dsimp only at h); refine Xa.panA (Xk N _ _ c_0 _ h_14) [0] ?_; (try simp only [Xc, Xb, Xe]); cases h; rw [← hQ]; exact ⟨rfl, _, _, RefV.dead rfl, rfl, rfl⟩
  · (try dsimp only at h); refine Xa.panA (XF N _ _ _ _ c_0 false _ h_6) [0] ?_; (try simp only [Xc, Xb, Xe]); cases h; rw [← hQ]; exact ⟨rfl, _, _, RefV.dead rfl, rfl, rfl⟩
 · (try dsimp only at h); refine Xa.panA (Xf N _ _ _ c_0 _ h_2) [0] ?_; (try simp only [Xc, Xb, Xe]); cases h; rw [← hQ]; exact ⟨rfl, _, _, RefV.dead rfl, rfl, rfl⟩
theorem Xaw (N : Nat) (l_0 : List Xg) (a_1 : Int) (a_2 : Int) (a_3 : Int) (z_1 : List Xg) (h : ZY N l_0 a_1 a_2 a_3 = some z_1) :
  Xa Try.prog 127 [.row 0 0 l_0.length, .agg [.int .i64 a_1, .int .i64 a_2, .int .i64 a_3]] [.mem 3 (List.map Xh l_0) 125] (fun e H => H = [.dead, .mem 3 (List.map Xh z_1) 125] ∧ e = .ret (.row 1 0 z_1.length)) := by
 unfold ZY at h; refine Xa.goN Try.func127 n127 a127 Try.ntmps127 r127 (by simp) 1 rfl ?_; generalize hQ : bodyA _ _ _ = QQ; simp only [A127, go_sem, seval]; rcases iteS h with ⟨e_2, h⟩ | ⟨e_2, h⟩
 · simp only [e_2, go_sem, seval]; obtain rfl := si h; rw [← hQ]; exact ⟨rfl, _, rfl, _, _, (RefV.trans (RefV.move (by simp) (id := 0) rfl rfl) (RefV.std [0, 2] (by decide) (by decide) (by first | rfl | simp only [go_sem, seval, e_2]) (by first | rfl | simp only [go_sem, seval, e_2]))), rfl, rfl⟩
 ·
  simp only [e_2, go_sem, seval]; rcases iteS h with ⟨e_4, h⟩ | ⟨e_4, h⟩
  ·
   obtain ⟨x_5, h_6, h⟩ := bindS h; have e_7 : (List.map Xh l_0)[(IntKind.i64.wrap ((l_0.length : Int) - 1)).toNat]? = some [.int .i64 x_5.From, .int .i64 x_5.To, .int .i64 x_5.Class] := XA Xh h_6; have e_8 := eq_true (Xx h_6).1; have e_9 := eq_true (XP h_6); simp only [e_2, e_4, e_7, e_8, e_9, go_sem, seval]; rcases iteS h with ⟨e_11, h⟩ | ⟨e_11, h⟩
   ·
    simp only [e_2, e_4, e_7, e_8, e_9, e_11, go_sem, seval]; rcases iteS h with ⟨e_13, h⟩ | ⟨e_13, h⟩
    · have e_14 : (List.map Xh l_0).set (IntKind.i64.wrap ((l_0.length : Int) - 1)).toNat [.int .i64 x_5.From, .int .i64 a_2, .int .i64 x_5.Class] = List.map Xh (List.set l_0 (IntKind.i64.wrap ((l_0.length : Int) - 1)).toNat (Xg.mk x_5.From a_2 x_5.Class)) := set_map l_0 Xh (IntKind.i64.wrap ((l_0.length : Int) - 1)).toNat (Xg.mk x_5.From a_2 x_5.Class); simp only [e_2, e_4, e_7, e_8, e_9, e_11, e_13, e_14, go_sem, seval]; obtain rfl := si h; rw [← hQ]; exact ⟨rfl, _, rfl, _, _, (RefV.trans (RefV.move (by simp) (id := 0) rfl rfl) (RefV.std [0, 2] (by decide) (by decide) (by first | rfl | simp only [go_sem, seval, e_2, e_4, e_11, e_13]) (by first | rfl | simp only [go_sem, seval, e_2, e_4, e_11, e_13]))), rfl, rfl⟩
    · have e_15 := tk Xh l_0; have e_16 : (List.map Xh l_0) ++ [[.int .i64 a_1, .int .i64 a_2, .int .i64 a_3]] = (List.map Xh (l_0 ++ [Xg.mk a_1 a_2 a_3])) := YS l_0 ([Xg.mk a_1 a_2 a_3]) Xh; obtain ⟨e_18, h⟩ := guardE h; simp only [e_2, e_4, e_7, e_8, e_9, e_11, e_13, e_15, e_16, e_18, go_sem, seval]; obtain rfl := si h; rw [← hQ]; exact ⟨rfl, _, rfl, _, _, (RefV.std [0, 2] (by decide) (by decide) (by first | rfl | simp only [go_sem, seval]) (by first | rfl | simp only [go_sem, seval, e_2, e_4, e_11, e_13])), rfl, rfl⟩
   · have e_19 := tk Xh l_0; have e_20 : (List.map Xh l_0) ++ [[.int .i64 a_1, .int .i64 a_2, .int .i64 a_3]] = (List.map Xh (l_0 ++ [Xg.mk a_1 a_2 a_3])) := YS l_0 ([Xg.mk a_1 a_2 a_3]) Xh; obtain ⟨e_22, h⟩ := guardE h; simp only [e_2, e_4, e_7, e_8, e_9, e_11, e_19, e_20, e_22, go_sem, seval]; obtain rfl := si h; rw [← hQ]; exact ⟨rfl, _, rfl, _, _, (RefV.std [0, 2] (by decide) (by decide) (by first | rfl | simp only [go_sem, seval]) (by first | rfl | simp only [go_sem, seval, e_2, e_4, e_11])), rfl, rfl⟩
  · have e_23 := tk Xh l_0; have e_24 : (List.map Xh l_0) ++ [[.int .i64 a_1, .int .i64 a_2, .int .i64 a_3]] = (List.map Xh (l_0 ++ [Xg.mk a_1 a_2 a_3])) := YS l_0 ([Xg.mk a_1 a_2 a_3]) Xh; obtain ⟨e_26, h⟩ := guardE h; simp only [e_2, e_4, e_23, e_24, e_26, go_sem, seval]; obtain rfl := si h; rw [← hQ]; exact ⟨rfl, _, rfl, _, _, (RefV.std [0, 2] (by decide) (by decide) (by first | rfl | simp only [go_sem, seval]) (by first | rfl | simp only [go_sem, seval, e_2, e_4])), rfl, rfl⟩
theorem Xeh (N : Nat) (y_5 : Int) (y_11 : List Int) {R : AExit → ATm → List AObj → Prop} : ∀ (n : Nat) (i_20 : Int) (s_21 : List Xg) (o : (List Xg)), ZL N y_5 y_11 n i_20 s_21 = some o → (match o with | z_1 => R (.exit 1) ⟨105, [(6, .row 0 0 z_1.length)], []⟩ [.mem 3 (List.map Xh z_1) 125]) →
  ALp Try.prog 0 B105_1 ⟨105, [(6, .row 0 0 s_21.length), (8, .int .i64 y_5), (60, .vec false (List.map eI64 y_11)), (61, .int .i64 (y_11.length : Int)), (62, .int .i64 i_20)], []⟩ [.mem 3 (List.map Xh s_21) 125] R := by
 intro n
 induction n with
 | zero =>
  intro i_20 s_21 o h _; exact no0 h
 | succ n ih =>
  intro i_20 s_21 o h hp; rw [ZL] at h; refine ALp.round ?_; generalize hQ : YB _ _ _ _ = QQ; simp only [B105_1, A105, go_sem, seval]; rcases iteS h with ⟨e_23, h⟩ | ⟨e_23, h⟩
  · obtain ⟨x_24, h_25, h⟩ := bindS h; have e_26 : (List.map eI64 y_11)[(i_20).toNat]? = some [.int .i64 x_24] := XA eI64 h_25; have e_27 := eq_true (Xx h_25).1; have e_28 := eq_true (XP h_25); obtain ⟨y_29, h_30, h⟩ := bindS h; simp only [e_23, e_26, e_27, e_28, go_sem, seval]; refine Xa.goA (Xaw N _ _ _ _ _ h_30) [0] (ho := ⟨(by first | rfl | simp only [go_sem, seval, e_23]), trivial⟩) ?_; simp only [e_23, e_26, e_27, e_28, go_sem, seval]; rw [← hQ]; exact ⟨_, _, (Ref.std [6, 8, 60, 61, 62] [1] (by decide) low0 rfl (by first | rfl | simp only [go_sem, seval])), (Nat.zero_le _), ih _ _ _ h hp⟩
  · simp only [e_23, go_sem, seval]; cases h; rw [← hQ]; exact ⟨_, _, (Ref.std [6] [0] (by decide) low0 rfl (by first | rfl | simp only [go_sem, seval])), hp⟩
theorem Xeg (N : Nat) (y_1025 : Bool) (y_1024 : List XW) {R : AExit → ATm → List AObj → Prop} : ∀ (n : Nat) (i_1027 : Int) (s_1028 : List Xg) (o : (List Xg)), YE N y_1025 y_1024 n i_1027 s_1028 = some o → (match o with | z_1 => R (.exit 3) ⟨105, [(6, .row 0 0 z_1.length), (17, .bool y_1025)], []⟩ [.mem 3 (List.map Xh z_1) 125]) →
  ALp Try.prog 0 B105_2 ⟨105, [(6, .row 0 0 s_1028.length), (17, .bool y_1025), (86, .vec false (List.map YX y_1024)), (87, .int .i64 (y_1024.length : Int)), (88, .int .i64 i_1027)], []⟩ [.mem 3 (List.map Xh s_1028) 125] R := by
 intro n
 induction n with
 | zero =>
  intro i_1027 s_1028 o h _; exact no0 h
 | succ n ih =>
  intro i_1027 s_1028 o h hp; rw [YE] at h; refine ALp.round ?_; generalize hQ : YB _ _ _ _ = QQ; simp only [B105_2, A105, go_sem, seval]; rcases iteS h with ⟨e_1030, h⟩ | ⟨e_1030, h⟩
  · obtain ⟨x_1031, h_1032, h⟩ := bindS h; have e_1033 : (List.map YX y_1024)[(i_1027).toNat]? = some [.int .i64 x_1031.e0, .int .i64 x_1031.e1, .int .i64 x_1031.e2] := XA YX h_1032; have e_1034 := eq_true (Xx h_1032).1; have e_1035 := eq_true (XP h_1032); obtain ⟨y_1036, h_1037, h⟩ := bindS h; simp only [e_1030, e_1033, e_1034, e_1035, go_sem, seval]; refine Xa.goA (Xaw N _ _ _ _ _ h_1037) [0] (ho := ⟨(by first | rfl | simp only [go_sem, seval, e_1030]), trivial⟩) ?_; simp only [e_1030, e_1033, e_1034, e_1035, go_sem, seval]; rw [← hQ]; exact ⟨_, _, (Ref.std [6, 17, 86, 87, 88] [2] (by decide) low0 (by first | rfl | simp only [go_sem, seval, e_1030]) (by first | rfl | simp only [go_sem, seval])), (Nat.zero_le _), ih _ _ _ h hp⟩
  · simp only [e_1030, go_sem, seval]; cases h; rw [← hQ]; exact ⟨_, _, (Ref.std [6, 17] [0] (by decide) low0 (by first | rfl | simp only [go_sem, seval, e_1030]) (by first | rfl | simp only [go_sem, seval])), hp⟩
theorem Xct (N : Nat) (l_0 : List Int) (a_1 : Int) (c_0 : Bool) (z_1 : List Xg) (z_2 : Bool) (h : ZQ N l_0 a_1 = some (z_1, z_2)) :
  Xa Try.prog 105 [.vec c_0 (List.map eU8 l_0), .int .i64 a_1] [] (fun e H => H = [] ∧ e = .ret (.tup [.vec false (List.map Xh z_1), .bool z_2])) := by
 unfold ZQ at h; refine Xa.goN Try.func105 n105 a105 Try.ntmps105 r105 (by simp) 0 rfl ?_; generalize hQ : bodyA _ _ _ = QQ; obtain ⟨y_1, h_2, h⟩ := bindS h; simp only [A105, go_sem, seval]; refine Xa.go0 (Xdd N _ _ c_0 _ h_2) ?_; simp only [go_sem, seval]; rcases iteS h with ⟨e_4, h⟩ | ⟨e_4, h⟩
 ·
  obtain ⟨⟨y_5, y_6⟩, h_7, h⟩ := bindS h; (try dsimp only at h); simp only [e_4, go_sem, seval]; refine Xa.go0 (Jt N _ _ c_0 _ _ h_7) ?_; obtain ⟨⟨y_8, y_9⟩, h_10, h⟩ := bindS h; (try dsimp only at h); simp only [e_4, go_sem, seval]; refine Xa.go0 (Jt N _ _ c_0 _ _ h_10) ?_; obtain ⟨⟨y_11, y_12⟩, h_13, h⟩ := bindS h; (try dsimp only at h); simp only [e_4, go_sem, seval]; refine Xa.go0 (Xau N _ _ _ _ c_0 _ _ h_13) ?_; simp only [e_4, go_sem, seval]; rcases iteB h with ⟨e_15, h⟩ | ⟨e_15, h⟩
  ·
   simp only [e_4, e_15, go_sem, seval]; rcases iteB h with ⟨e_17, h⟩ | ⟨e_17, h⟩
   ·
    simp only [e_4, e_15, e_17, go_sem, seval]; rcases iteS h with ⟨e_19, h⟩ | ⟨e_19, h⟩
    · simp only [e_4, e_15, e_17, e_19, go_sem, seval]; obtain ⟨rfl, rfl⟩ := pj (si h); rw [← hQ]; exact ⟨rfl, _, rfl, _, _, outVB, rfl, rfl⟩
    · simp only [e_4, e_15, e_17, e_19, go_sem, seval]; obtain ⟨y_1021, h_1020, h⟩ := bindS h; refine ALp.ref (Ref.trans (Ref.thaw (Nat.zero_le _) 6 rfl (sz := 3) (by decide) 125) (Ref.std [6, 8, 60, 61, 62] [0] (by decide) low0 rfl (by first | rfl | simp only [go_sem, seval]))) (Nat.zero_le _) (Xeh N _ _ N _ _ y_1021 h_1020 ?_); refine XJ rfl (Nat.zero_le _) ?_; simp only [e_4, e_15, e_17, e_19, go_sem, seval]; obtain ⟨rfl, rfl⟩ := pj (si h); rw [← hQ]; exact ⟨rfl, _, rfl, _, _, (RefV.trans (RefV.frz (Nat.zero_le _) (id := 0) rfl (XX y_1021 Xh (fun _ => rfl))) (RefV.out (by first | rfl | simp only [go_sem, seval, e_4, e_15, e_17, e_19]))), rfl, rfl⟩
   · simp only [e_4, e_15, e_17, go_sem, seval]; obtain ⟨rfl, rfl⟩ := pj (si h); rw [← hQ]; exact ⟨rfl, _, rfl, _, _, outVB, rfl, rfl⟩
  · simp only [e_4, e_15, go_sem, seval]; obtain ⟨rfl, rfl⟩ := pj (si h); rw [← hQ]; exact ⟨rfl, _, rfl, _, _, outVB, rfl, rfl⟩
 ·
  simp only [e_4, go_sem, seval]; rcases iteS h with ⟨e_1023, h⟩ | ⟨e_1023, h⟩
  · obtain ⟨⟨y_1024, y_1025⟩, h_1026, h⟩ := bindS h; (try dsimp only at h); simp only [e_4, e_1023, go_sem, seval]; refine Xa.go0 (Xcs N _ _ c_0 _ _ h_1026) ?_; simp only [e_4, e_1023, go_sem, seval]; obtain ⟨y_2028, h_2027, h⟩ := bindS h; refine ALp.ref (Ref.trans (Ref.thaw (Nat.zero_le _) 6 rfl (sz := 3) (by decide) 125) (Ref.std [6, 17, 86, 87, 88] [0] (by decide) low0 (by first | rfl | simp only [go_sem, seval, e_4, e_1023]) (by first | rfl | simp only [go_sem, seval]))) (Nat.zero_le _) (Xeg N _ _ N _ _ y_2028 h_2027 ?_); refine XJ rfl (Nat.zero_le _) ?_; simp only [e_4, e_1023, go_sem, seval]; obtain ⟨rfl, rfl⟩ := pj (si h); rw [← hQ]; exact ⟨rfl, _, rfl, _, _, (RefV.trans (RefV.frz (Nat.zero_le _) (id := 0) rfl (XX y_2028 Xh (fun _ => rfl))) (RefV.out (by first | rfl | simp only [go_sem, seval, e_4, e_1023]))), rfl, rfl⟩
  · simp only [e_4, e_1023, go_sem, seval]; obtain ⟨rfl, rfl⟩ := pj (si h); rw [← hQ]; exact ⟨rfl, _, rfl, _, _, outVB, rfl, rfl⟩
theorem Yk (N : Nat) (l_0 : List Int) (a_1 : Int) (a_2 : Int) (a_3 : Int) (c_0 : Bool) (o : ((List Xg)) ⊕ Unit) (h : Yw N l_0 a_1 a_2 a_3 = some o) :
  Xa Try.prog 112 [.ptr 0 0 0, .int .i64 a_2, .int .i64 a_3] [.box [.vec c_0 (List.map eU8 l_0), .int .i64 a_1] 152] (fun e H => match o with | .inl z_1 => H = [.box [.vec c_0 (List.map eU8 l_0), .int .i64 a_1] 152] ∧ e = .ret (.vec false (List.map Xh z_1)) | .inr _ => H = [.dead] ∧ e = .pan (.iface 148 (.agg []))) := by
 unfold Yw at h; refine Xa.goN Try.func112 n112 a112 Try.ntmps112 r112 (by simp) 1 rfl ?_; generalize hQ : bodyA _ _ _ = QQ; simp only [A112, go_sem, seval]; rcases iteS h with ⟨e_2, h⟩ | ⟨e_2, h⟩
 · simp only [e_2, go_sem, seval]; cases h; rw [← hQ]; exact ⟨rfl, _, rfl, _, _, (RefV.trans (RefV.std (v' := nn) [0] (by decide) (by decide) rfl (by first | rfl | simp only [go_sem, seval, e_2])) (RefV.weak (Wks.cons Wk.vec Wks.nil) (WkH.refl _))), rfl, rfl⟩
 ·
  obtain ⟨⟨y_3, y_4⟩, h_5, h⟩ := bindS h; (try dsimp only at h); simp only [e_2, go_sem, seval]; refine Xa.go0 (Xct N _ _ c_0 _ _ h_5) ?_; obtain ⟨o_7, h_6, h⟩ := bindS h; simp only [e_2, go_sem, seval]; rcases o_7 with _ | _
  · (try dsimp only at h); refine Xa.go0 (Xz N _ _ h_6) ?_; simp only [e_2, go_sem, seval]; cases h; rw [← hQ]; exact ⟨rfl, _, rfl, _, _, (RefV.std [0] (by decide) (by decide) rfl (by first | rfl | simp only [go_sem, seval, e_2])), rfl, rfl⟩
  · (try dsimp only at h); refine Xa.panA (Xz N _ _ h_6) [] ?_; (try simp only [Xc, Xb, Xe]); cases h; rw [← hQ]; exact ⟨rfl, _, _, RefV.dead rfl, rfl, rfl⟩
theorem Yz (N : Nat) (l_0 : List Xg) (c_0 : Bool) (h : XM N l_0 = some ()) :
  Xa Try.prog 113 [.vec c_0 (List.map Xh l_0)] [] (fun e H => H = [.box [.vec c_0 (List.map Xh l_0)] 30] ∧ e = .ret (.fn (.func 114) [] [.ptr 0 0 0])) := by
 unfold XM at h; refine Xa.goN Try.func113 n113 a113 Try.ntmps113 r113 (by simp) 0 rfl ?_; generalize hQ : bodyA _ _ _ = QQ; simp only [A113, go_sem, seval]; rw [← hQ]; exact ⟨rfl, _, rfl, _, _, (RefV.std [0] (by decide) low0 rfl (by first | rfl | simp only [go_sem, seval])), rfl, rfl⟩
theorem Xgz (N : Nat) (a_1 : Int) (l_0 : List Xg) (c_0 : Bool) {R : AExit → ATm → List AObj → Prop} : ∀ (n : Nat) (i_1 : Int) (s_2 : List TSpan) (o : (List TSpan)), ZH N a_1 l_0 n i_1 s_2 = some o → (match o with | z_1 => R (.exit 0) ⟨36, [(4, .ptr 0 0 0), (5, .ptr 1 0 0)], []⟩ [.box [nn, .bool false] 85, .box [.row 2 0 z_1.length, .bool (decide (a_1 = 0))] 85, .mem 2 (List.map Xi z_1) 87]) →
  ALp Try.prog 0 B115_1 ⟨36, [(1, .int .i64 a_1), (4, .ptr 0 0 0), (5, .ptr 1 0 0), (11, .vec c_0 (List.map Xh l_0)), (12, .int .i64 (l_0.length : Int)), (13, .int .i64 i_1)], []⟩ [.box [nn, .bool false] 85, .box [.row 2 0 s_2.length, .bool (decide (a_1 = 0))] 85, .mem 2 (List.map Xi s_2) 87] R := by
 intro n
 induction n with
 | zero =>
  intro i_1 s_2 o h _; exact no0 h
 | succ n ih =>
  intro i_1 s_2 o h hp; rw [ZH] at h; refine ALp.round ?_; generalize hQ : YB _ _ _ _ = QQ; simp only [B115_1, A115, go_sem, seval]; rcases iteS h with ⟨e_4, h⟩ | ⟨e_4, h⟩
  ·
   obtain ⟨x_5, h_6, h⟩ := bindS h; have e_7 : (List.map Xh l_0)[(i_1).toNat]? = some [.int .i64 x_5.From, .int .i64 x_5.To, .int .i64 x_5.Class] := XA Xh h_6; have e_8 := eq_true (Xx h_6).1; have e_9 := eq_true (XP h_6); simp only [e_4, e_7, e_8, e_9, go_sem, seval]; rcases iteS h with ⟨e_11, h⟩ | ⟨e_11, h⟩
   · obtain ⟨y_12, h_13, h⟩ := bindS h; simp only [e_4, e_7, e_8, e_9, e_11, go_sem, seval]; refine Xa.goA (Qo N _ _ _ _ h_13) [2] (ho := ⟨(by first | rfl | simp only [go_sem, seval, e_4, e_11]), trivial⟩) ?_; simp only [e_4, e_7, e_8, e_9, e_11, go_sem, seval]; rw [← hQ]; exact ⟨_, _, (Ref.std [1, 4, 5, 11, 12, 13] [0, 1, 4] (by decide) low0 rfl (by first | rfl | simp only [go_sem, seval, e_4, e_11])), (Nat.zero_le _), ih _ _ _ h hp⟩
   ·
    simp only [e_4, e_7, e_8, e_9, e_11, go_sem, seval]; rcases iteS h with ⟨e_15, h⟩ | ⟨e_15, h⟩
    · obtain ⟨y_16, h_17, h⟩ := bindS h; simp only [e_4, e_7, e_8, e_9, e_11, e_15, go_sem, seval]; refine Xa.goA (Qo N _ _ _ _ h_17) [2] (ho := ⟨(by first | rfl | simp only [go_sem, seval, e_4, e_11, e_15]), trivial⟩) ?_; simp only [e_4, e_7, e_8, e_9, e_11, e_15, go_sem, seval]; rw [← hQ]; exact ⟨_, _, (Ref.std [1, 4, 5, 11, 12, 13] [0, 1, 4] (by decide) low0 rfl (by first | rfl | simp only [go_sem, seval, e_4, e_11, e_15])), (Nat.zero_le _), ih _ _ _ h hp⟩
    · simp only [e_4, e_7, e_8, e_9, e_11, e_15, go_sem, seval]; rw [← hQ]; exact ⟨_, _, (Ref.std [1, 4, 5, 11, 12, 13] [0, 1, 2] (by decide) low0 rfl (by first | rfl | simp only [go_sem, seval, e_4, e_11, e_15])), (Nat.zero_le _), ih _ _ _ h hp⟩
  · simp only [e_4, go_sem, seval]; cases h; rw [← hQ]; exact ⟨_, _, (Ref.std [4, 5] [0, 1, 2] (by decide) low0 rfl (by first | rfl | simp only [go_sem, seval, e_4])), hp⟩
theorem Xfk (N : Nat) (l_0 : List Xg) (a_1 : Int) (c_0 : Bool) (z_1 : List TSpan) (z_2 : Bool) (h : Xap N l_0 a_1 = some (z_1, z_2)) :
  Xa Try.prog 115 [.vec c_0 (List.map Xh l_0), .int .i64 a_1] [] (fun e H => H = [] ∧ e = .ret (.agg [.vec false (List.map Xi z_1), .bool z_2])) := by
 unfold Xap at h; refine Xa.goN Try.func115 n115 a115 Try.ntmps115 r115 (by simp) 0 rfl ?_; generalize hQ : bodyA _ _ _ = QQ; simp only [A115, go_sem, seval]; obtain ⟨y_1002, h_1001, h⟩ := bindS h; refine ALp.ref (Ref.trans (Ref.thawB (Nat.zero_le _) (id := 1) 0 rfl rfl (sz := 2) (by decide) 87) (Ref.std [1, 4, 5, 11, 12, 13] [0, 1, 2] (by decide) low0 rfl (by first | rfl | simp only [go_sem, seval]))) (Nat.zero_le _) (Xgz N _ _ c_0 N _ _ y_1002 h_1001 ?_); refine XJ rfl (Nat.zero_le _) ?_; simp only [go_sem, seval]; obtain ⟨rfl, rfl⟩ := pj (si h); rw [← hQ]; exact ⟨rfl, _, rfl, _, _, (RefV.trans (RefV.frz (Nat.zero_le _) (id := 2) rfl (XX y_1002 Xi (fun _ => rfl))) (RefV.out (by first | rfl | simp only [go_sem, seval]))), rfl, rfl⟩
theorem JD (N : Nat) (a_0 : Int) (a_1 : Int) (l_2 : List TSpan) (z_1 : List TSpan) (h : ZM N a_0 a_1 l_2 = some z_1) :
  Xa Try.prog 131 [.int .i64 a_0, .int .i64 a_1, .ptr 0 0 0] [.box [.row 1 0 l_2.length] 24, .mem 2 (List.map Xi l_2) 87] (fun e H => H = [.box [.row 2 0 z_1.length] 24, .dead, .mem 2 (List.map Xi z_1) 87] ∧ e = .ret (.tup [])) := by
 unfold ZM at h; refine Xa.goN Try.func131 n131 a131 Try.ntmps131 r131 (by simp) 2 rfl ?_; generalize hQ : bodyA _ _ _ = QQ; simp only [A131, go_sem, seval]; rcases iteS h with ⟨e_2, h⟩ | ⟨e_2, h⟩
 · obtain ⟨y_3, h_4, h⟩ := bindS h; simp only [e_2, go_sem, seval]; refine Xa.goA (Qo N _ _ _ _ h_4) [1] (ho := ⟨(by first | rfl | simp only [go_sem, seval, e_2]), trivial⟩) ?_; simp only [e_2, go_sem, seval]; obtain rfl := si h; rw [← hQ]; exact ⟨rfl, _, rfl, _, _, (RefV.std [0, 1, 2] (by decide) (by decide) rfl (by first | rfl | simp only [go_sem, seval, e_2])), rfl, rfl⟩
 · simp only [e_2, go_sem, seval]; obtain rfl := si h; rw [← hQ]; exact ⟨rfl, _, rfl, _, _, (RefV.trans (RefV.move (by simp) (id := 1) rfl rfl) (RefV.std [0, 1, 2] (by decide) (by decide) (by first | rfl | simp only [go_sem, seval, e_2]) (by first | rfl | simp only [go_sem, seval, e_2]))), rfl, rfl⟩
theorem Xg1 (N : Nat) (l_0 : List TSpan) (i_1 : Int) (l_1 : List TSpan) (b_2 : Bool) (x_5 : TSpan) (c_0 : Bool) (c_1 : Bool) {R : AExit → ATm → List AObj → Prop} : ∀ (n : Nat) (i_10 : Int) (i_11 : Int) (s_12 : List TSpan) (o : Int × (List TSpan)), Zm N l_0 i_1 l_1 b_2 x_5 n i_10 i_11 s_12 = some o → (match o with | (z_1, z_2) => R (.exit 2) ⟨72, [(3, .ptr 0 0 0), (5, .ptr 1 0 0), (6, .fn (.func 131) [] [.ptr 1 0 0]), (8, .ptr 3 0 0), (9, .int .i64 z_1), (13, .vec c_0 (List.map Xi l_0)), (14, .int .i64 (l_0.length : Int)), (15, .int .i64 i_1)], []⟩ [.box [.vec c_1 (List.map Xi l_1), .bool b_2] 85, .box [.row 2 0 z_2.length] 24, .mem 2 (List.map Xi z_2) 87, .box [.int .i64 x_5.From, .int .i64 x_5.To] 87]) →
  ALp Try.prog 0 B117_2 ⟨72, [(3, .ptr 0 0 0), (5, .ptr 1 0 0), (6, .fn (.func 131) [] [.ptr 1 0 0]), (8, .ptr 3 0 0), (9, .int .i64 i_10), (13, .vec c_0 (List.map Xi l_0)), (14, .int .i64 (l_0.length : Int)), (15, .int .i64 i_1), (22, .vec c_1 (List.map Xi l_1)), (23, .int .i64 (l_1.length : Int)), (24, .int .i64 i_11)], []⟩ [.box [.vec c_1 (List.map Xi l_1), .bool b_2] 85, .box [.row 2 0 s_12.length] 24, .mem 2 (List.map Xi s_12) 87, .box [.int .i64 x_5.From, .int .i64 x_5.To] 87] R := by
 intro n
 induction n with
 | zero =>
  intro i_10 i_11 s_12 o h _; exact no0 h
 | succ n ih =>
  intro i_10 i_11 s_12 o h hp; rw [Zm] at h; refine ALp.round ?_; generalize hQ : YB _ _ _ _ = QQ; simp only [B117_2, B117_1, A117, go_sem, seval]; rcases iteS h with ⟨e_14, h⟩ | ⟨e_14, h⟩
  ·
   obtain ⟨x_15, h_16, h⟩ := bindS h; have e_17 : (List.map Xi l_1)[(i_11).toNat]? = some [.int .i64 x_15.From, .int .i64 x_15.To] := XA Xi h_16; have e_18 := eq_true (Xx h_16).1; have e_19 := eq_true (XP h_16); simp only [e_14, e_17, e_18, e_19, go_sem, seval]; rcases iteS h with ⟨e_21, h⟩ | ⟨e_21, h⟩
   · simp only [e_14, e_17, e_18, e_19, e_21, go_sem, seval]; rw [← hQ]; exact ⟨_, _, (Ref.std [3, 5, 6, 8, 9, 13, 14, 15, 22, 23, 24] [0, 1, 2, 3] (by decide) low0 rfl (by first | rfl | simp only [go_sem, seval, e_14, e_21])), (Nat.zero_le _), ih _ _ _ _ h hp⟩
   ·
    simp only [e_14, e_17, e_18, e_19, e_21, go_sem, seval]; rcases iteS h with ⟨e_23, h⟩ | ⟨e_23, h⟩
    · simp only [e_14, e_17, e_18, e_19, e_21, e_23, go_sem, seval]; rw [← hQ]; exact ⟨_, _, (Ref.std [3, 5, 6, 8, 9, 13, 14, 15, 22, 23, 24] [0, 1, 2, 3] (by decide) low0 rfl (by first | rfl | simp only [go_sem, seval, e_14, e_21, e_23])), (Nat.zero_le _), ih _ _ _ _ h hp⟩
    ·
     simp only [e_14, e_17, e_18, e_19, e_21, e_23, go_sem, seval]; rcases iteB h with ⟨e_25, h⟩ | ⟨e_25, h⟩
     · obtain ⟨y_26, h_27, h⟩ := bindS h; simp only [e_14, e_17, e_18, e_19, e_21, e_23, e_25, go_sem, seval]; refine Xa.goA (JD N _ _ _ _ h_27) [1, 2] (ho := ⟨(by first | rfl | simp only [go_sem, seval, e_14, e_21, e_23, e_25]), (by first | rfl | simp only [go_sem, seval, e_14, e_21, e_23, e_25]), trivial⟩) ?_; simp only [e_14, e_17, e_18, e_19, e_21, e_23, e_25, go_sem, seval]; rw [← hQ]; exact ⟨_, _, (Ref.std [3, 5, 6, 8, 9, 13, 14, 15, 22, 23, 24] [0, 1, 5, 3] (by decide) low0 rfl (by first | rfl | simp only [go_sem, seval, e_14, e_21, e_23, e_25])), (Nat.zero_le _), ih _ _ _ _ h hp⟩
     · obtain ⟨y_28, h_29, h⟩ := bindS h; simp only [e_14, e_17, e_18, e_19, e_21, e_23, e_25, go_sem, seval]; refine Xa.goA (JD N _ _ _ _ h_29) [1, 2] (ho := ⟨(by first | rfl | simp only [go_sem, seval, e_14, e_21, e_23, e_25]), (by first | rfl | simp only [go_sem, seval, e_14, e_21, e_23, e_25]), trivial⟩) ?_; simp only [e_14, e_17, e_18, e_19, e_21, e_23, e_25, go_sem, seval]; rw [← hQ]; exact ⟨_, _, (Ref.std [3, 5, 6, 8, 9, 13, 14, 15, 22, 23, 24] [0, 1, 5, 3] (by decide) low0 rfl (by first | rfl | simp only [go_sem, seval, e_14, e_21, e_23, e_25])), (Nat.zero_le _), ih _ _ _ _ h hp⟩
  · simp only [e_14, go_sem, seval]; cases h; rw [← hQ]; exact ⟨_, _, (Ref.std [3, 5, 6, 8, 9, 13, 14, 15] [0, 1, 2, 3] (by decide) low0 rfl (by first | rfl | simp only [go_sem, seval, e_14])), hp⟩
theorem Xg0 (N : Nat) (l_0 : List TSpan) (l_1 : List TSpan) (b_2 : Bool) (c_0 : Bool) (c_1 : Bool) {R : AExit → ATm → List AObj → Prop} : ∀ (n : Nat) (i_1 : Int) (s_2 : List TSpan) (o : (List TSpan)), ZR N l_0 l_1 b_2 n i_1 s_2 = some o → (match o with | z_1 => R (.exit 0) ⟨72, [(5, .ptr 0 0 0)], []⟩ [.box [.row 1 0 z_1.length] 24, .mem 2 (List.map Xi z_1) 87]) →
  ALp Try.prog 0 B117_1 ⟨72, [(3, .ptr 0 0 0), (5, .ptr 1 0 0), (6, .fn (.func 131) [] [.ptr 1 0 0]), (13, .vec c_0 (List.map Xi l_0)), (14, .int .i64 (l_0.length : Int)), (15, .int .i64 i_1)], []⟩ [.box [.vec c_1 (List.map Xi l_1), .bool b_2] 85, .box [.row 2 0 s_2.length] 24, .mem 2 (List.map Xi s_2) 87] R := by
 intro n
 induction n with
 | zero =>
  intro i_1 s_2 o h _; exact no0 h
 | succ n ih =>
  intro i_1 s_2 o h hp; rw [ZR] at h; refine ALp.round ?_; generalize hQ : YB _ _ _ _ = QQ; simp only [B117_1, A117, go_sem, seval]; rcases iteS h with ⟨e_4, h⟩ | ⟨e_4, h⟩
  ·
   obtain ⟨x_5, h_6, h⟩ := bindS h; have e_7 : (List.map Xi l_0)[(i_1).toNat]? = some [.int .i64 x_5.From, .int .i64 x_5.To] := XA Xi h_6; have e_8 := eq_true (Xx h_6).1; have e_9 := eq_true (XP h_6); simp only [e_4, e_7, e_8, e_9, go_sem, seval]; obtain ⟨⟨y_1011, y_1012⟩, h_1010, h⟩ := bindS h; (try dsimp only at h); refine ALp.ref (Ref.std [3, 5, 6, 8, 9, 13, 14, 15, 22, 23, 24] [0, 1, 2, 3] (by decide) low0 rfl (by first | rfl | simp only [go_sem, seval, e_4])) (Nat.zero_le _) (Xg1 N _ _ _ _ _ c_0 c_1 N _ _ _ _ h_1010 ?_); refine XJ rfl (Nat.zero_le _) ?_; simp only [e_4, e_7, e_8, e_9, go_sem, seval]; rcases iteB h with ⟨e_1014, h⟩ | ⟨e_1014, h⟩
   · obtain ⟨y_1015, h_1016, h⟩ := bindS h; simp only [e_4, e_7, e_8, e_9, e_1014, go_sem, seval]; refine Xa.goA (JD N _ _ _ _ h_1016) [1, 2] (ho := ⟨(by first | rfl | simp only [go_sem, seval, e_4, e_1014]), (by first | rfl | simp only [go_sem, seval, e_4, e_1014]), trivial⟩) ?_; simp only [e_4, e_7, e_8, e_9, e_1014, go_sem, seval]; rw [← hQ]; exact ⟨_, _, (Ref.std [3, 5, 6, 13, 14, 15] [0, 1, 4] (by decide) low0 rfl (by first | rfl | simp only [go_sem, seval, e_4, e_1014])), (Nat.zero_le _), ih _ _ _ h hp⟩
   · simp only [e_4, e_7, e_8, e_9, e_1014, go_sem, seval]; rw [← hQ]; exact ⟨_, _, (Ref.std [3, 5, 6, 13, 14, 15] [0, 1, 2] (by decide) low0 rfl (by first | rfl | simp only [go_sem, seval, e_4, e_1014])), (Nat.zero_le _), ih _ _ _ h hp⟩
  · simp only [e_4, go_sem, seval]; cases h; rw [← hQ]; exact ⟨_, _, (Ref.std [5] [1, 2] (by decide) low0 rfl (by first | rfl | simp only [go_sem, seval])), hp⟩
theorem Xjd (N : Nat) (l_0 : List TSpan) (l_1 : List TSpan) (b_2 : Bool) (c_0 : Bool) (c_1 : Bool) (z_1 : List TSpan) (h : Xbm N l_0 l_1 b_2 = some z_1) :
  Xa Try.prog 117 [.vec c_0 (List.map Xi l_0), .agg [.vec c_1 (List.map Xi l_1), .bool b_2]] [] (fun e H => H = [] ∧ e = .ret (.vec false (List.map Xi z_1))) := by
 unfold Xbm at h; refine Xa.goN Try.func117 n117 a117 Try.ntmps117 r117 (by simp) 0 rfl ?_; generalize hQ : bodyA _ _ _ = QQ; simp only [A117, go_sem, seval]; obtain ⟨y_1002, h_1001, h⟩ := bindS h; refine ALp.ref (Ref.trans (Ref.thawB (Nat.zero_le _) (id := 1) 0 rfl rfl (sz := 2) (by decide) 87) (Ref.std [3, 5, 6, 13, 14, 15] [0, 1, 2] (by decide) low0 rfl (by first | rfl | simp only [go_sem, seval]))) (Nat.zero_le _) (Xg0 N _ _ _ c_0 c_1 N _ _ y_1002 h_1001 ?_); refine XJ rfl (Nat.zero_le _) ?_; simp only [go_sem, seval]; obtain rfl := si h; rw [← hQ]; exact ⟨rfl, _, rfl, _, _, (RefV.trans (RefV.frz (Nat.zero_le _) (id := 1) rfl (XX y_1002 Xi (fun _ => rfl))) (RefV.out (by first | rfl | simp only [go_sem, seval]))), rfl, rfl⟩
theorem Jf (N : Nat) (a_0 : Int) (l_1 : List TSpan) (l_2 : List Xg) (c_0 : Bool) (c_1 : Bool) (z_1 : List TSpan) (z_2 : Bool) (h : Zi N a_0 l_1 l_2 = some (z_1, z_2)) :
  Xa Try.prog 116 [.int .i64 a_0, .ptr 0 0 0, .ptr 1 0 0] [.box [.vec c_0 (List.map Xi l_1)] 24, .box [.vec c_1 (List.map Xh l_2)] 30] (fun e H => H = [.box [.vec c_0 (List.map Xi l_1)] 24, .box [.vec c_1 (List.map Xh l_2)] 30] ∧ e = .ret (.agg [.vec false (List.map Xi z_1), .bool z_2])) := by
 unfold Zi at h; refine Xa.goN Try.func116 n116 a116 Try.ntmps116 r116 (by simp) 2 rfl ?_; generalize hQ : bodyA _ _ _ = QQ; obtain ⟨⟨y_1, y_2⟩, h_3, h⟩ := bindS h; (try dsimp only at h); simp only [A116, go_sem, seval]; refine Xa.use0 (Xfk N _ _ c_1 _ _ h_3) rfl rfl ?_; obtain ⟨y_4, h_5, h⟩ := bindS h; simp only [go_sem, seval]; refine Xa.use0 (Xjd N _ _ _ c_0 false _ h_5) rfl rfl ?_; simp only [go_sem, seval]; obtain ⟨rfl, rfl⟩ := pj (si h); rw [← hQ]; exact ⟨rfl, _, rfl, _, _, (RefV.std [0, 1] (by decide) (by decide) rfl (by first | rfl | simp only [go_sem, seval])), rfl, rfl⟩
theorem Xai (N : Nat) (a_0 : Int) (l_1 : List Xg) (c_0 : Bool) (z_1 : List TSpan) (z_2 : Bool) (h : Zu N a_0 l_1 = some (z_1, z_2)) :
  Xa Try.prog 114 [.int .i64 a_0, .ptr 0 0 0] [.box [.vec c_0 (List.map Xh l_1)] 30] (fun e H => H = [.box [.vec c_0 (List.map Xh l_1)] 30] ∧ e = .ret (.agg [.vec false (List.map Xi z_1), .bool z_2])) := by
 unfold Zu at h; refine Xa.goN Try.func114 n114 a114 Try.ntmps114 r114 (by simp) 1 rfl ?_; generalize hQ : bodyA _ _ _ = QQ; obtain ⟨⟨y_1, y_2⟩, h_3, h⟩ := bindS h; (try dsimp only at h); simp only [A114, go_sem, seval]; refine Xa.go0 (Xfk N _ _ c_0 _ _ h_3) ?_; simp only [go_sem, seval]; obtain ⟨rfl, rfl⟩ := pj (si h); rw [← hQ]; exact ⟨rfl, _, rfl, _, _, (RefV.std [0] (by decide) (by decide) rfl (by first | rfl | simp only [go_sem, seval])), rfl, rfl⟩
theorem Xei (N : Nat) (l_0 : List Int) (l_1 : List Xg) (c_0 : Bool) (c_1 : Bool) {R : AExit → ATm → List AObj → Prop} : ∀ (n : Nat) (i_1 : Int) (s_2 : List TSet) (o : (List TSet)), Zq N l_0 l_1 n i_1 s_2 = some o → (match o with | z_1 => R (.exit 0) ⟨22, [(5, .row 1 0 z_1.length)], []⟩ [.box [.vec c_1 (List.map Xh l_1)] 30, .mem 2 (List.map eTSet z_1) 85]) →
  ALp Try.prog 1 B132_1 ⟨22, [(1, .fn (.func 114) [] [.ptr 0 0 0]), (5, .row 1 0 s_2.length), (8, .vec c_0 (List.map eI64 l_0)), (9, .int .i64 (l_0.length : Int)), (10, .int .i64 i_1)], []⟩ [.box [.vec c_1 (List.map Xh l_1)] 30, .mem 2 (List.map eTSet s_2) 85] R := by
 intro n
 induction n with
 | zero =>
  intro i_1 s_2 o h _; exact no0 h
 | succ n ih =>
  intro i_1 s_2 o h hp; rw [Zq] at h; refine ALp.round ?_; generalize hQ : YB _ _ _ _ = QQ; simp only [B132_1, A132, go_sem, seval]; rcases iteS h with ⟨e_4, h⟩ | ⟨e_4, h⟩
  · obtain ⟨x_5, h_6, h⟩ := bindS h; have e_7 : (List.map eI64 l_0)[(i_1).toNat]? = some [.int .i64 x_5] := XA eI64 h_6; have e_8 := eq_true (Xx h_6).1; have e_9 := eq_true (XP h_6); obtain ⟨⟨y_10, y_11⟩, h_12, h⟩ := bindS h; (try dsimp only at h); simp only [e_4, e_7, e_8, e_9, go_sem, seval]; refine Xa.goA (Xai N _ _ c_1 _ _ h_12) [0] (ho := ⟨(by first | rfl | simp only [go_sem, seval, e_4]), trivial⟩) ?_; have e_13 := tk eTSet s_2; have e_14 : (List.map eTSet s_2) ++ [[.vec false (List.map Xi y_10), .bool y_11]] = (List.map eTSet (s_2 ++ [TSet.mk y_10 y_11])) := YS s_2 ([TSet.mk y_10 y_11]) eTSet; obtain ⟨e_16, h⟩ := guardE h; simp only [e_4, e_7, e_8, e_9, e_13, e_14, e_16, go_sem, seval]; rw [← hQ]; exact ⟨_, _, (Ref.std [1, 5, 8, 9, 10] [0, 2] (by decide) (by decide) (by first | rfl | simp only [go_sem, seval]) (by first | rfl | simp only [go_sem, seval])), (by simp), ih _ _ _ h hp⟩
  · simp only [e_4, go_sem, seval]; cases h; rw [← hQ]; exact ⟨_, _, (Ref.std [5] [0, 1] (by decide) (by decide) rfl (by first | rfl | simp only [go_sem, seval])), hp⟩
theorem QX (N : Nat) (l_0 : List Int) (l_1 : List Xg) (c_0 : Bool) (c_1 : Bool) (z_1 : List TSet) (h : ZT N l_0 l_1 = some z_1) :
  Xa Try.prog 132 [.vec c_0 (List.map eI64 l_0), .fn (.func 114) [] [.ptr 0 0 0]] [.box [.vec c_1 (List.map Xh l_1)] 30] (fun e H => H = [.box [.vec c_1 (List.map Xh l_1)] 30] ∧ e = .ret (.vec false (List.map eTSet z_1))) := by
 unfold ZT at h; refine Xa.goN Try.func132 n132 a132 Try.ntmps132 r132 (by simp) 1 rfl ?_; generalize hQ : bodyA _ _ _ = QQ; simp only [A132, go_sem, seval]; obtain ⟨y_1002, h_1001, h⟩ := bindS h; refine ALp.ref (Ref.trans (Ref.thaw (by simp) 5 rfl (sz := 2) (by decide) 85) (Ref.std [1, 5, 8, 9, 10] [0, 1] (by decide) (by decide) rfl (by first | rfl | simp only [go_sem, seval]))) (by simp) (Xei N _ _ c_0 c_1 N _ _ y_1002 h_1001 ?_); refine XJ rfl (by simp) ?_; simp only [go_sem, seval]; obtain rfl := si h; rw [← hQ]; exact ⟨rfl, _, rfl, _, _, (RefV.trans (RefV.frz (by simp) (id := 1) rfl (XX y_1002 eTSet (fun _ => rfl))) (RefV.std [0] (by decide) (by decide) (by first | rfl | simp only [go_sem, seval]) (by first | rfl | simp only [go_sem, seval]))), rfl, rfl⟩
theorem ZJ (N : Nat) (l_0 : List Int) (a_1 : Int) (l_2 : List TSpan) (b_3 : Bool) (l_4 : List Xg) (l_5 : List Xg) (l_6 : List Xg) (b_7 : Bool) (c_0 : Bool) (c_1 : Bool) (c_2 : Bool) (c_3 : Bool) (o : ((List TSet) × (List TSet) × (List TSet) × (List TAct) × Int) ⊕ Unit) (h : Zv N l_0 a_1 l_2 b_3 l_4 l_5 l_6 b_7 = some o) :
  Xa Try.prog 129 [.ptr 0 0 0, .agg [.vec false (List.map Xi l_2), .bool b_3], .agg [.fn (.func 114) [] [.ptr 1 0 0], .fn (.func 114) [] [.ptr 2 0 0], .fn (.func 114) [] [.ptr 3 0 0], .bool b_7]] [.box [.vec c_0 (List.map eU8 l_0), .int .i64 a_1] 152, .box [.vec c_1 (List.map Xh l_4)] 30, .box [.vec c_2 (List.map Xh l_5)] 30, .box [.vec c_3 (List.map Xh l_6)] 30] (fun e H => match o with | .inl (z_1, z_2, z_3, z_4, z_5) => H = [.box [.vec c_0 (List.map eU8 l_0), .int .i64 z_5] 152, .box [.vec c_1 (List.map Xh l_4)] 30, .box [.vec c_2 (List.map Xh l_5)] 30, .box [.vec c_3 (List.map Xh l_6)] 30] ∧ e = .ret (.agg [.vec false (List.map eTSet z_1), .vec false (List.map eTSet z_2), .vec false (List.map eTSet z_3), .vec false (List.map eTAct z_4)]) | .inr _ => H = [.dead, .dead, .dead, .dead] ∧ e = .pan (.iface 148 (.agg []))) := by
 unfold Zv at h; refine Xa.goN Try.func129 n129 a129 Try.ntmps129 r129 (by simp) 4 rfl ?_; generalize hQ : bodyA _ _ _ = QQ; simp only [A129, go_sem, seval]; rcases iteB h with ⟨e_2, h⟩ | ⟨e_2, h⟩
 ·
  obtain ⟨o_5, h_4, h⟩ := bindS h; simp only [e_2, go_sem, seval]; rcases o_5 with y_3 | _
  ·
   (try dsimp only at h); refine Xa.useA (Xd N _ _ _ _ c_0 _ h_4) [0] (ho := ⟨(by first | rfl | simp only [go_sem, seval, e_2]), trivial⟩) ?_; obtain ⟨o_9, h_8, h⟩ := bindS h; simp only [e_2, go_sem, seval]; rcases o_9 with y_7 | _
   ·
    (try dsimp only at h); refine Xa.useA (Xf N _ _ _ c_0 _ h_8) [0] (ho := ⟨(by first | rfl | simp only [go_sem, seval, e_2]), trivial⟩) ?_; obtain ⟨y_11, h_12, h⟩ := bindS h; simp only [e_2, go_sem, seval]; refine Xa.useA (QX N _ _ false c_1 _ h_12) [1] (ho := ⟨(by first | rfl | simp only [go_sem, seval, e_2]), trivial⟩) ?_; obtain ⟨o_15, h_14, h⟩ := bindS h; simp only [e_2, go_sem, seval]; rcases o_15 with y_13 | _
    ·
     (try dsimp only at h); refine Xa.goA (Xd N _ _ _ _ c_0 _ h_14) [0] (ho := ⟨(by first | rfl | simp only [go_sem, seval, e_2]), trivial⟩) ?_; obtain ⟨o_19, h_18, h⟩ := bindS h; simp only [e_2, go_sem, seval]; rcases o_19 with y_17 | _
     ·
      (try dsimp only at h); refine Xa.useA (Xf N _ _ _ c_0 _ h_18) [0] (ho := ⟨(by first | rfl | simp only [go_sem, seval, e_2]), trivial⟩) ?_; obtain ⟨y_21, h_22, h⟩ := bindS h; simp only [e_2, go_sem, seval]; refine Xa.useA (QX N _ _ false c_2 _ h_22) [2] (ho := ⟨(by first | rfl | simp only [go_sem, seval, e_2]), trivial⟩) ?_; have e_23 := Xaa y_21 eTSet 2 (fun _ => rfl); simp only [e_2, e_23, go_sem, seval]; by_cases h_24 : y_21 = []
      ·
       rw [if_pos h_24] at h; have e_25 : y_21 = [] := h_24; obtain ⟨o_28, h_27, h⟩ := bindS h; simp only [e_2, e_23, e_25, go_sem, seval]; rcases o_28 with y_26 | _
       ·
        (try dsimp only at h); refine Xa.useA (Xd N _ _ _ _ c_0 _ h_27) [0] (ho := ⟨(by first | rfl | simp only [go_sem, seval, e_2, e_25]), trivial⟩) ?_; obtain ⟨o_32, h_31, h⟩ := bindS h; simp only [e_2, e_23, e_25, go_sem, seval]; rcases o_32 with y_30 | _
        ·
         (try dsimp only at h); refine Xa.useA (Xf N _ _ _ c_0 _ h_31) [0] (ho := ⟨(by first | rfl | simp only [go_sem, seval, e_2, e_25]), trivial⟩) ?_; obtain ⟨y_34, h_35, h⟩ := bindS h; simp only [e_2, e_23, e_25, go_sem, seval]; refine Xa.useA (QX N _ _ false c_3 _ h_35) [3] (ho := ⟨(by first | rfl | simp only [go_sem, seval, e_2, e_25]), trivial⟩) ?_; obtain ⟨o_38, h_37, h⟩ := bindS h; simp only [e_2, e_23, e_25, go_sem, seval]; rcases o_38 with y_36 | _
         ·
          (try dsimp only at h); refine Xa.goA (Xd N _ _ _ _ c_0 _ h_37) [0] (ho := ⟨(by first | rfl | simp only [go_sem, seval, e_2, e_25]), trivial⟩) ?_; obtain ⟨o_43, h_42, h⟩ := bindS h; simp only [e_2, e_23, e_25, go_sem, seval]; rcases o_43 with ⟨y_40, y_41⟩ | _
          · (try dsimp only at h); refine Xa.goA (Xu N _ _ _ _ c_0 _ h_42) [0] (ho := ⟨(by first | rfl | simp only [go_sem, seval, e_2, e_25]), trivial⟩) ?_; simp only [e_2, e_23, e_25, go_sem, seval]; cases h; rw [← hQ]; exact ⟨rfl, _, rfl, _, _, (RefV.trans (RefV.std (v' := .agg [.vec false (List.map eTSet y_11), .vec true [[.vec false (List.map Xi l_2), .bool b_3]], .vec false (List.map eTSet y_34), .vec false (List.map eTAct y_40)]) [0, 1, 2, 3] (by decide) (by decide) rfl (by first | rfl | simp only [go_sem, seval, e_2, e_25])) (RefV.weak (Wks.cons (Wk.agg (Wks.cons (Wk.refl _) (Wks.cons Wk.vec (Wks.cons (Wk.refl _) (Wks.cons (Wk.refl _) (Wks.nil)))))) Wks.nil) (WkH.refl _))), rfl, rfl⟩
          · (try dsimp only at h); refine Xa.panA (Xu N _ _ _ _ c_0 _ h_42) [0] (ho := ⟨(by first | rfl | simp only [go_sem, seval, e_2, e_25]), trivial⟩) ?_; (try simp only [Xc, Xb, Xe]); cases h; rw [← hQ]; exact ⟨rfl, _, _, RefV.dead rfl, rfl, rfl⟩
         · (try dsimp only at h); refine Xa.panA (Xd N _ _ _ _ c_0 _ h_37) [0] (ho := ⟨(by first | rfl | simp only [go_sem, seval, e_2, e_25]), trivial⟩) ?_; (try simp only [Xc, Xb, Xe]); cases h; rw [← hQ]; exact ⟨rfl, _, _, RefV.dead rfl, rfl, rfl⟩
        · (try dsimp only at h); refine Xa.panA (Xf N _ _ _ c_0 _ h_31) [0] (ho := ⟨(by first | rfl | simp only [go_sem, seval, e_2, e_25]), trivial⟩) ?_; (try simp only [Xc, Xb, Xe]); cases h; rw [← hQ]; exact ⟨rfl, _, _, RefV.dead rfl, rfl, rfl⟩
       · (try dsimp only at h); refine Xa.panA (Xd N _ _ _ _ c_0 _ h_27) [0] (ho := ⟨(by first | rfl | simp only [go_sem, seval, e_2, e_25]), trivial⟩) ?_; (try simp only [Xc, Xb, Xe]); cases h; rw [← hQ]; exact ⟨rfl, _, _, RefV.dead rfl, rfl, rfl⟩
      ·
       rw [if_neg h_24] at h; have e_25 : (y_21.length = 0) = False ∧ (0 < y_21.length) = True := ⟨eq_false (fun q => h_24 (List.eq_nil_of_length_eq_zero q)), eq_true (Nat.pos_of_ne_zero (fun q => h_24 (List.eq_nil_of_length_eq_zero q)))⟩; have e_45 := Xaa y_21 eTSet 2 (fun _ => rfl); have e_46 : [[.vec false (List.map Xi l_2), .bool b_3]] ++ (List.map eTSet y_21) = (List.map eTSet ([TSet.mk l_2 b_3] ++ y_21)) := YS ([TSet.mk l_2 b_3]) y_21 eTSet; obtain ⟨e_48, h⟩ := guardE h; obtain ⟨o_51, h_50, h⟩ := bindS h; simp only [e_2, e_23, e_25, e_45, e_46, e_48, go_sem, seval]; rcases o_51 with y_49 | _
       ·
        (try dsimp only at h); refine Xa.useA (Xd N _ _ _ _ c_0 _ h_50) [0] (ho := ⟨(by first | rfl | simp only [go_sem, seval, e_2, e_25]), trivial⟩) ?_; obtain ⟨o_55, h_54, h⟩ := bindS h; simp only [e_2, e_23, e_25, e_45, e_46, e_48, go_sem, seval]; rcases o_55 with y_53 | _
        ·
         (try dsimp only at h); refine Xa.useA (Xf N _ _ _ c_0 _ h_54) [0] (ho := ⟨(by first | rfl | simp only [go_sem, seval, e_2, e_25]), trivial⟩) ?_; obtain ⟨y_57, h_58, h⟩ := bindS h; simp only [e_2, e_23, e_25, e_45, e_46, e_48, go_sem, seval]; refine Xa.useA (QX N _ _ false c_3 _ h_58) [3] (ho := ⟨(by first | rfl | simp only [go_sem, seval, e_2, e_25]), trivial⟩) ?_; obtain ⟨o_61, h_60, h⟩ := bindS h; simp only [e_2, e_23, e_25, e_45, e_46, e_48, go_sem, seval]; rcases o_61 with y_59 | _
         ·
          (try dsimp only at h); refine Xa.goA (Xd N _ _ _ _ c_0 _ h_60) [0] (ho := ⟨(by first | rfl | simp only [go_sem, seval, e_2, e_25]), trivial⟩) ?_; obtain ⟨o_66, h_65, h⟩ := bindS h; simp only [e_2, e_23, e_25, e_45, e_46, e_48, go_sem, seval]; rcases o_66 with ⟨y_63, y_64⟩ | _
          · (try dsimp only at h); refine Xa.goA (Xu N _ _ _ _ c_0 _ h_65) [0] (ho := ⟨(by first | rfl | simp only [go_sem, seval, e_2, e_25]), trivial⟩) ?_; simp only [e_2, e_23, e_25, e_45, e_46, e_48, go_sem, seval]; cases h; rw [← hQ]; exact ⟨rfl, _, rfl, _, _, (RefV.trans (RefV.frz (by simp) (id := 8) rfl (XX ([TSet.mk l_2 b_3] ++ y_21) eTSet (fun _ => rfl))) (RefV.std [0, 1, 2, 3] (by decide) (by decide) (by first | rfl | simp only [go_sem, seval, e_2, e_25]) (by first | rfl | simp only [go_sem, seval, e_2, e_25]))), rfl, rfl⟩
          · (try dsimp only at h); refine Xa.panA (Xu N _ _ _ _ c_0 _ h_65) [0] (ho := ⟨(by first | rfl | simp only [go_sem, seval, e_2, e_25]), trivial⟩) ?_; (try simp only [Xc, Xb, Xe]); cases h; rw [← hQ]; exact ⟨rfl, _, _, RefV.dead rfl, rfl, rfl⟩
         · (try dsimp only at h); refine Xa.panA (Xd N _ _ _ _ c_0 _ h_60) [0] (ho := ⟨(by first | rfl | simp only [go_sem, seval, e_2, e_25]), trivial⟩) ?_; (try simp only [Xc, Xb, Xe]); cases h; rw [← hQ]; exact ⟨rfl, _, _, RefV.dead rfl, rfl, rfl⟩
        · (try dsimp only at h); refine Xa.panA (Xf N _ _ _ c_0 _ h_54) [0] (ho := ⟨(by first | rfl | simp only [go_sem, seval, e_2, e_25]), trivial⟩) ?_; (try simp only [Xc, Xb, Xe]); cases h; rw [← hQ]; exact ⟨rfl, _, _, RefV.dead rfl, rfl, rfl⟩
       · (try dsimp only at h); refine Xa.panA (Xd N _ _ _ _ c_0 _ h_50) [0] (ho := ⟨(by first | rfl | simp only [go_sem, seval, e_2, e_25]), trivial⟩) ?_; (try simp only [Xc, Xb, Xe]); cases h; rw [← hQ]; exact ⟨rfl, _, _, RefV.dead rfl, rfl, rfl⟩
     · (try dsimp only at h); refine Xa.panA (Xf N _ _ _ c_0 _ h_18) [0] (ho := ⟨(by first | rfl | simp only [go_sem, seval, e_2]), trivial⟩) ?_; (try simp only [Xc, Xb, Xe]); cases h; rw [← hQ]; exact ⟨rfl, _, _, RefV.dead rfl, rfl, rfl⟩
    · (try dsimp only at h); refine Xa.panA (Xd N _ _ _ _ c_0 _ h_14) [0] (ho := ⟨(by first | rfl | simp only [go_sem, seval, e_2]), trivial⟩) ?_; (try simp only [Xc, Xb, Xe]); cases h; rw [← hQ]; exact ⟨rfl, _, _, RefV.dead rfl, rfl, rfl⟩
   · (try dsimp only at h); refine Xa.panA (Xf N _ _ _ c_0 _ h_8) [0] (ho := ⟨(by first | rfl | simp only [go_sem, seval, e_2]), trivial⟩) ?_; (try simp only [Xc, Xb, Xe]); cases h; rw [← hQ]; exact ⟨rfl, _, _, RefV.dead rfl, rfl, rfl⟩
  · (try dsimp only at h); refine Xa.panA (Xd N _ _ _ _ c_0 _ h_4) [0] (ho := ⟨(by first | rfl | simp only [go_sem, seval, e_2]), trivial⟩) ?_; (try simp only [Xc, Xb, Xe]); cases h; rw [← hQ]; exact ⟨rfl, _, _, RefV.dead rfl, rfl, rfl⟩
 ·
  obtain ⟨o_70, h_69, h⟩ := bindS h; simp only [e_2, go_sem, seval]; rcases o_70 with y_68 | _
  ·
   (try dsimp only at h); refine Xa.goA (Xd N _ _ _ _ c_0 _ h_69) [0] (ho := ⟨(by first | rfl | simp only [go_sem, seval, e_2]), trivial⟩) ?_; obtain ⟨o_74, h_73, h⟩ := bindS h; simp only [e_2, go_sem, seval]; rcases o_74 with y_72 | _
   ·
    (try dsimp only at h); refine Xa.goA (Xd N _ _ _ _ c_0 _ h_73) [0] (ho := ⟨(by first | rfl | simp only [go_sem, seval, e_2]), trivial⟩) ?_; obtain ⟨o_78, h_77, h⟩ := bindS h; simp only [e_2, go_sem, seval]; rcases o_78 with y_76 | _
    ·
     (try dsimp only at h); refine Xa.useA (Xf N _ _ _ c_0 _ h_77) [0] (ho := ⟨(by first | rfl | simp only [go_sem, seval, e_2]), trivial⟩) ?_; obtain ⟨y_80, h_81, h⟩ := bindS h; simp only [e_2, go_sem, seval]; refine Xa.useA (QX N _ _ false c_2 _ h_81) [2] (ho := ⟨(by first | rfl | simp only [go_sem, seval, e_2]), trivial⟩) ?_; have e_82 := Xaa y_80 eTSet 2 (fun _ => rfl); simp only [e_2, e_82, go_sem, seval]; by_cases h_83 : y_80 = []
     ·
      rw [if_pos h_83] at h; have e_84 : y_80 = [] := h_83; obtain ⟨o_88, h_87, h⟩ := bindS h; simp only [e_2, e_82, e_84, go_sem, seval]; rcases o_88 with ⟨y_85, y_86⟩ | _
      · (try dsimp only at h); refine Xa.goA (Xu N _ _ _ _ c_0 _ h_87) [0] (ho := ⟨(by first | rfl | simp only [go_sem, seval, e_2, e_84]), trivial⟩) ?_; simp only [e_2, e_82, e_84, go_sem, seval]; cases h; rw [← hQ]; exact ⟨rfl, _, rfl, _, _, (RefV.trans (RefV.std (v' := .agg [nn, .vec true [[.vec false (List.map Xi l_2), .bool b_3]], nn, .vec false (List.map eTAct y_85)]) [0, 1, 2, 3] (by decide) (by decide) rfl (by first | rfl | simp only [go_sem, seval, e_2, e_84])) (RefV.weak (Wks.cons (Wk.agg (Wks.cons Wk.vec (Wks.cons Wk.vec (Wks.cons Wk.vec (Wks.cons (Wk.refl _) (Wks.nil)))))) Wks.nil) (WkH.refl _))), rfl, rfl⟩
      · (try dsimp only at h); refine Xa.panA (Xu N _ _ _ _ c_0 _ h_87) [0] (ho := ⟨(by first | rfl | simp only [go_sem, seval, e_2, e_84]), trivial⟩) ?_; (try simp only [Xc, Xb, Xe]); cases h; rw [← hQ]; exact ⟨rfl, _, _, RefV.dead rfl, rfl, rfl⟩
     ·
      rw [if_neg h_83] at h; have e_84 : (y_80.length = 0) = False ∧ (0 < y_80.length) = True := ⟨eq_false (fun q => h_83 (List.eq_nil_of_length_eq_zero q)), eq_true (Nat.pos_of_ne_zero (fun q => h_83 (List.eq_nil_of_length_eq_zero q)))⟩; have e_90 := Xaa y_80 eTSet 2 (fun _ => rfl); have e_91 : [[.vec false (List.map Xi l_2), .bool b_3]] ++ (List.map eTSet y_80) = (List.map eTSet ([TSet.mk l_2 b_3] ++ y_80)) := YS ([TSet.mk l_2 b_3]) y_80 eTSet; obtain ⟨e_93, h⟩ := guardE h; obtain ⟨o_97, h_96, h⟩ := bindS h; simp only [e_2, e_82, e_84, e_90, e_91, e_93, go_sem, seval]; rcases o_97 with ⟨y_94, y_95⟩ | _
      · (try dsimp only at h); refine Xa.goA (Xu N _ _ _ _ c_0 _ h_96) [0] (ho := ⟨(by first | rfl | simp only [go_sem, seval, e_2, e_84]), trivial⟩) ?_; simp only [e_2, e_82, e_84, e_90, e_91, e_93, go_sem, seval]; cases h; rw [← hQ]; exact ⟨rfl, _, rfl, _, _, (RefV.trans (RefV.frz (by simp) (id := 8) rfl (XX ([TSet.mk l_2 b_3] ++ y_80) eTSet (fun _ => rfl))) (RefV.trans (RefV.std (v' := .agg [nn, .vec false (List.map eTSet ([TSet.mk l_2 b_3] ++ y_80)), nn, .vec false (List.map eTAct y_94)]) [0, 1, 2, 3] (by decide) (by decide) (by first | rfl | simp only [go_sem, seval, e_2, e_84]) (by first | rfl | simp only [go_sem, seval, e_2, e_84])) (RefV.weak (Wks.cons (Wk.agg (Wks.cons Wk.vec (Wks.cons (Wk.refl _) (Wks.cons Wk.vec (Wks.cons (Wk.refl _) (Wks.nil)))))) Wks.nil) (WkH.refl _)))), rfl, rfl⟩
      · (try dsimp only at h); refine Xa.panA (Xu N _ _ _ _ c_0 _ h_96) [0] (ho := ⟨(by first | rfl | simp only [go_sem, seval, e_2, e_84]), trivial⟩) ?_; (try simp only [Xc, Xb, Xe]); cases h; rw [← hQ]; exact ⟨rfl, _, _, RefV.dead rfl, rfl, rfl⟩
    · (try dsimp only at h); refine Xa.panA (Xf N _ _ _ c_0 _ h_77) [0] (ho := ⟨(by first | rfl | simp only [go_sem, seval, e_2]), trivial⟩) ?_; (try simp only [Xc, Xb, Xe]); cases h; rw [← hQ]; exact ⟨rfl, _, _, RefV.dead rfl, rfl, rfl⟩
   · (try dsimp only at h); refine Xa.panA (Xd N _ _ _ _ c_0 _ h_73) [0] (ho := ⟨(by first | rfl | simp only [go_sem, seval, e_2]), trivial⟩) ?_; (try simp only [Xc, Xb, Xe]); cases h; rw [← hQ]; exact ⟨rfl, _, _, RefV.dead rfl, rfl, rfl⟩
  · (try dsimp only at h); refine Xa.panA (Xd N _ _ _ _ c_0 _ h_69) [0] (ho := ⟨(by first | rfl | simp only [go_sem, seval, e_2]), trivial⟩) ?_; (try simp only [Xc, Xb, Xe]); cases h; rw [← hQ]; exact ⟨rfl, _, _, RefV.dead rfl, rfl, rfl⟩
theorem Xbo (N : Nat) (a_2 : Int) (i_1 : Int) (x_4 : Int) (l_3 : List Int) (y_18 : List Int) (l_0 : List Int) (a_1 : Int) (l_4 : List TSpan) (l_5 : List Xg) (l_6 : List Xg) (l_7 : List Xg) (l_8 : List Xg) (b_9 : Bool) (c_1 : Bool) (c_0 : Bool) (c_2 : Bool) (c_3 : Bool) (c_4 : Bool) (c_5 : Bool) (c_6 : Bool) {R : AExit → ATm → List AObj → Prop} : ∀ (n : Nat) (i_22 : Int) (s_23 : List TCtx) (o : ((List TCtx)) ⊕ (Unit)), Yv N a_2 i_1 x_4 l_3 y_18 l_0 a_1 l_4 l_5 l_6 l_7 l_8 b_9 n i_22 s_23 = some o → (match o with | .inl z_1 => R (.exit 2) ⟨75, [(0, .ptr 0 0 0), (1, .int .i64 a_2), (3, .fn (.func 116) [] [.ptr 1 0 0, .ptr 2 0 0]), (9, .ptr 6 0 0), (11, .row 7 0 z_1.length), (18, .vec c_1 (List.map eI64 l_3)), (19, .int .i64 (l_3.length : Int)), (20, .int .i64 i_1)], []⟩ [.box [.vec c_0 (List.map eU8 l_0), .int .i64 a_1] 152, .box [.vec c_2 (List.map Xi l_4)] 24, .box [.vec c_3 (List.map Xh l_5)] 30, .box [.vec c_4 (List.map Xh l_6)] 30, .box [.vec c_5 (List.map Xh l_7)] 30, .box [.vec c_6 (List.map Xh l_8)] 30, .box [.fn (.func 114) [] [.ptr 3 0 0], .fn (.func 114) [] [.ptr 4 0 0], .fn (.func 114) [] [.ptr 5 0 0], .bool b_9] 161, .mem 4 (List.map eTCtx z_1) 45] | .inr (_) => ∀ (tb : ATm) (Hb : List AObj), tb.ds = [] → R (.pan (.iface 148 (.agg []))) tb Hb) →
  ALp Try.prog 6 B109_2 ⟨75, [(0, .ptr 0 0 0), (1, .int .i64 a_2), (3, .fn (.func 116) [] [.ptr 1 0 0, .ptr 2 0 0]), (9, .ptr 6 0 0), (11, .row 7 0 s_23.length), (12, .int .i64 i_1), (13, .int .i64 x_4), (18, .vec c_1 (List.map eI64 l_3)), (19, .int .i64 (l_3.length : Int)), (20, .int .i64 i_1), (43, .vec false (List.map eI64 y_18)), (44, .int .i64 (y_18.length : Int)), (45, .int .i64 i_22)], []⟩ [.box [.vec c_0 (List.map eU8 l_0), .int .i64 a_1] 152, .box [.vec c_2 (List.map Xi l_4)] 24, .box [.vec c_3 (List.map Xh l_5)] 30, .box [.vec c_4 (List.map Xh l_6)] 30, .box [.vec c_5 (List.map Xh l_7)] 30, .box [.vec c_6 (List.map Xh l_8)] 30, .box [.fn (.func 114) [] [.ptr 3 0 0], .fn (.func 114) [] [.ptr 4 0 0], .fn (.func 114) [] [.ptr 5 0 0], .bool b_9] 161, .mem 4 (List.map eTCtx s_23) 45] R := by
 intro n
 induction n with
 | zero =>
  intro i_22 s_23 o h _; exact no0 h
 | succ n ih =>
  intro i_22 s_23 o h hp; rw [Yv] at h; refine ALp.round ?_; generalize hQ : YB _ _ _ _ = QQ; simp only [B109_2, B109_1, A109, go_sem, seval]; rcases iteS h with ⟨e_25, h⟩ | ⟨e_25, h⟩
  ·
   obtain ⟨x_26, h_27, h⟩ := bindS h; have e_28 : (List.map eI64 y_18)[(i_22).toNat]? = some [.int .i64 x_26] := XA eI64 h_27; have e_29 := eq_true (Xx h_27).1; have e_30 := eq_true (XP h_27); simp only [e_25, e_28, e_29, e_30, go_sem, seval]; refine ⟨?_, ?_⟩
   ·
    obtain ⟨⟨y_31, y_32⟩, h_33, h⟩ := bindS h; (try dsimp only at h); (try simp only [e_25, e_28, e_29, e_30, go_sem, seval]); refine Xa.useA (Jf N _ _ _ c_2 c_3 _ _ h_33) [1, 2] (ho := ⟨(by first | rfl | simp only [go_sem, seval, e_25]), (by first | rfl | simp only [go_sem, seval, e_25]), trivial⟩) ?_; obtain ⟨o_40, h_39, h⟩ := bindS h; simp only [e_25, e_28, e_29, e_30, go_sem, seval]; rcases o_40 with ⟨y_34, y_35, y_36, y_37, y_38⟩ | _
    ·
     (try dsimp only at h); refine Xa.useA (ZJ N _ _ _ _ _ _ _ _ c_0 c_4 c_5 c_6 _ h_39) [8, 3, 4, 5] (ho := ⟨(by first | rfl | simp only [go_sem, seval, e_25]), (by first | rfl | simp only [go_sem, seval, e_25]), (by first | rfl | simp only [go_sem, seval, e_25]), (by first | rfl | simp only [go_sem, seval, e_25]), trivial⟩) ?_; have e_42 := tk eTCtx s_23; have e_43 : (List.map eTCtx s_23) ++ [[.vec false (List.map eTSet y_34), .vec false (List.map eTSet y_35), .vec false (List.map eTSet y_36), .vec false (List.map eTAct y_37)]] = (List.map eTCtx (s_23 ++ [TCtx.mk y_34 y_35 y_36 y_37])) := YS s_23 ([TCtx.mk y_34 y_35 y_36 y_37]) eTCtx; obtain ⟨h_44, h⟩ := Xgr h; have e_45 := eq_true h_44; obtain ⟨o_47, h_46, h⟩ := bindS h; simp only [e_25, e_28, e_29, e_30, e_42, e_43, e_45, go_sem, seval]; rcases o_47 with _ | _
     · (try dsimp only at h); refine Xa.go0 (Xz N _ _ h_46) ?_; simp only [e_25, e_28, e_29, e_30, e_42, e_43, e_45, go_sem, seval]; rw [← hQ]; exact ⟨_, _, (Ref.std [0, 1, 3, 9, 11, 12, 13, 18, 19, 20, 43, 44, 45] [0, 1, 2, 3, 4, 5, 6, 9] (by decide) (by decide) (by first | rfl | simp only [go_sem, seval]) (by first | rfl | simp only [go_sem, seval, e_25])), (by simp), ih _ _ _ h hp⟩
     · (try dsimp only at h); refine Xa.panA (Xz N _ _ h_46) [] ?_; (try simp only [Xc, Xb, Xe]); cases h; rw [← hQ]; exact hp _ _ rfl
    · (try dsimp only at h); refine Xa.panA (ZJ N _ _ _ _ _ _ _ _ c_0 c_4 c_5 c_6 _ h_39) [8, 3, 4, 5] (ho := ⟨(by first | rfl | simp only [go_sem, seval, e_25]), (by first | rfl | simp only [go_sem, seval, e_25]), (by first | rfl | simp only [go_sem, seval, e_25]), (by first | rfl | simp only [go_sem, seval, e_25]), trivial⟩) ?_; (try simp only [Xc, Xb, Xe]); cases h; rw [← hQ]; exact hp _ _ rfl
   ·
    obtain ⟨⟨y_31, y_32⟩, h_33, h⟩ := bindS h; (try dsimp only at h); (try simp only [e_25, e_28, e_29, e_30, go_sem, seval]); refine Xa.useA (Jf N _ _ _ c_2 c_3 _ _ h_33) [1, 2] (ho := ⟨(by first | rfl | simp only [go_sem, seval, e_25]), (by first | rfl | simp only [go_sem, seval, e_25]), trivial⟩) ?_; obtain ⟨o_40, h_39, h⟩ := bindS h; simp only [e_25, e_28, e_29, e_30, go_sem, seval]; rcases o_40 with ⟨y_34, y_35, y_36, y_37, y_38⟩ | _
    ·
     (try dsimp only at h); refine Xa.useA (ZJ N _ _ _ _ _ _ _ _ c_0 c_4 c_5 c_6 _ h_39) [8, 3, 4, 5] (ho := ⟨(by first | rfl | simp only [go_sem, seval, e_25]), (by first | rfl | simp only [go_sem, seval, e_25]), (by first | rfl | simp only [go_sem, seval, e_25]), (by first | rfl | simp only [go_sem, seval, e_25]), trivial⟩) ?_; have e_42 := tk eTCtx s_23; have e_43 : (List.map eTCtx s_23) ++ [[.vec false (List.map eTSet y_34), .vec false (List.map eTSet y_35), .vec false (List.map eTSet y_36), .vec false (List.map eTAct y_37)]] = (List.map eTCtx (s_23 ++ [TCtx.mk y_34 y_35 y_36 y_37])) := YS s_23 ([TCtx.mk y_34 y_35 y_36 y_37]) eTCtx; obtain ⟨h_44, h⟩ := Xgr h; have e_45 := eq_true h_44; obtain ⟨o_47, h_46, h⟩ := bindS h; simp only [e_25, e_28, e_29, e_30, e_42, e_43, e_45, go_sem, seval]; rcases o_47 with _ | _
     · (try dsimp only at h); refine Xa.go0 (Xz N _ _ h_46) ?_; simp only [e_25, e_28, e_29, e_30, e_42, e_43, e_45, go_sem, seval]; rw [← hQ]; exact ⟨_, _, (Ref.std [0, 1, 3, 9, 11, 12, 13, 18, 19, 20, 43, 44, 45] [0, 1, 2, 3, 4, 5, 6, 9] (by decide) (by decide) (by first | rfl | simp only [go_sem, seval]) (by first | rfl | simp only [go_sem, seval, e_25])), (by simp), ih _ _ _ h hp⟩
     · (try dsimp only at h); refine Xa.panA (Xz N _ _ h_46) [] ?_; (try simp only [Xc, Xb, Xe]); cases h; rw [← hQ]; exact hp _ _ rfl
    · (try dsimp only at h); refine Xa.panA (ZJ N _ _ _ _ _ _ _ _ c_0 c_4 c_5 c_6 _ h_39) [8, 3, 4, 5] (ho := ⟨(by first | rfl | simp only [go_sem, seval, e_25]), (by first | rfl | simp only [go_sem, seval, e_25]), (by first | rfl | simp only [go_sem, seval, e_25]), (by first | rfl | simp only [go_sem, seval, e_25]), trivial⟩) ?_; (try simp only [Xc, Xb, Xe]); cases h; rw [← hQ]; exact hp _ _ rfl
  · simp only [e_25, go_sem, seval]; cases h; rw [← hQ]; exact ⟨_, _, (Ref.std [0, 1, 3, 9, 11, 18, 19, 20] [0, 1, 2, 3, 4, 5, 6, 7] (by decide) (by decide) rfl (by first | rfl | simp only [go_sem, seval, e_25])), hp⟩
theorem Xbn (N : Nat) (a_2 : Int) (l_3 : List Int) (l_0 : List Int) (a_1 : Int) (l_4 : List TSpan) (l_5 : List Xg) (l_6 : List Xg) (l_7 : List Xg) (l_8 : List Xg) (b_9 : Bool) (c_1 : Bool) (c_0 : Bool) (c_2 : Bool) (c_3 : Bool) (c_4 : Bool) (c_5 : Bool) (c_6 : Bool) {R : AExit → ATm → List AObj → Prop} : ∀ (n : Nat) (i_1 : Int) (s_2 : List TCtx) (o : ((List TCtx)) ⊕ (Unit)), Yh N a_2 l_3 l_0 a_1 l_4 l_5 l_6 l_7 l_8 b_9 n i_1 s_2 = some o → (match o with | .inl z_1 => R (.exit 0) ⟨75, [(11, .row 6 0 z_1.length)], []⟩ [.box [.vec c_0 (List.map eU8 l_0), .int .i64 a_1] 152, .box [.vec c_2 (List.map Xi l_4)] 24, .box [.vec c_3 (List.map Xh l_5)] 30, .box [.vec c_4 (List.map Xh l_6)] 30, .box [.vec c_5 (List.map Xh l_7)] 30, .box [.vec c_6 (List.map Xh l_8)] 30, .mem 4 (List.map eTCtx z_1) 45] | .inr (_) => ∀ (tb : ATm) (Hb : List AObj), tb.ds = [] → R (.pan (.iface 148 (.agg []))) tb Hb) →
  ALp Try.prog 6 B109_1 ⟨75, [(0, .ptr 0 0 0), (1, .int .i64 a_2), (3, .fn (.func 116) [] [.ptr 1 0 0, .ptr 2 0 0]), (9, .ptr 6 0 0), (11, .row 7 0 s_2.length), (18, .vec c_1 (List.map eI64 l_3)), (19, .int .i64 (l_3.length : Int)), (20, .int .i64 i_1)], []⟩ [.box [.vec c_0 (List.map eU8 l_0), .int .i64 a_1] 152, .box [.vec c_2 (List.map Xi l_4)] 24, .box [.vec c_3 (List.map Xh l_5)] 30, .box [.vec c_4 (List.map Xh l_6)] 30, .box [.vec c_5 (List.map Xh l_7)] 30, .box [.vec c_6 (List.map Xh l_8)] 30, .box [.fn (.func 114) [] [.ptr 3 0 0], .fn (.func 114) [] [.ptr 4 0 0], .fn (.func 114) [] [.ptr 5 0 0], .bool b_9] 161, .mem 4 (List.map eTCtx s_2) 45] R := by
 intro n
 induction n with
 | zero =>
  intro i_1 s_2 o h _; exact no0 h
 | succ n ih =>
  intro i_1 s_2 o h hp; rw [Yh] at h; refine ALp.round ?_; generalize hQ : YB _ _ _ _ = QQ; simp only [B109_1, A109, go_sem, seval]; rcases iteS h with ⟨e_4, h⟩ | ⟨e_4, h⟩
  ·
   obtain ⟨x_5, h_6, h⟩ := bindS h; have e_7 : (List.map eI64 l_3)[(i_1).toNat]? = some [.int .i64 x_5] := XA eI64 h_6; have e_8 := eq_true (Xx h_6).1; have e_9 := eq_true (XP h_6); simp only [e_4, e_7, e_8, e_9, go_sem, seval]; rcases iteS h with ⟨e_11, h⟩ | ⟨e_11, h⟩
   · simp only [e_4, e_7, e_8, e_9, e_11, go_sem, seval]; rw [← hQ]; exact ⟨_, _, (Ref.std [0, 1, 3, 9, 11, 18, 19, 20] [0, 1, 2, 3, 4, 5, 6, 7] (by decide) (by decide) rfl (by first | rfl | simp only [go_sem, seval, e_4, e_11])), (by simp), ih _ _ _ h hp⟩
   ·
    obtain ⟨o_14, h_13, h⟩ := bindS h; simp only [e_4, e_7, e_8, e_9, e_11, go_sem, seval]; rcases o_14 with y_12 | _
    ·
     (try dsimp only at h); refine Xa.goA (Xk N _ _ c_0 _ h_13) [8] (ho := ⟨(by first | rfl | simp only [go_sem, seval, e_4, e_11]), trivial⟩) ?_; obtain ⟨o_17, h_16, h⟩ := bindS h; simp only [e_4, e_7, e_8, e_9, e_11, go_sem, seval]; rcases o_17 with _ | _
     ·
      (try dsimp only at h); refine Xa.go0 (Xz N _ _ h_16) ?_; obtain ⟨o_21, h_20, h⟩ := bindS h; simp only [e_4, e_7, e_8, e_9, e_11, go_sem, seval]; rcases o_21 with y_19 | _
      ·
       (try dsimp only at h); refine Xa.goA (Xf N _ _ _ c_0 _ h_20) [8] (ho := ⟨(by first | rfl | simp only [go_sem, seval, e_4, e_11]), trivial⟩) ?_; simp only [e_4, e_7, e_8, e_9, e_11, go_sem, seval]; obtain ⟨o_1025, h_1023, h⟩ := bindS h; refine ALp.ref (Ref.std [0, 1, 3, 9, 11, 12, 13, 18, 19, 20, 43, 44, 45] [0, 1, 2, 3, 4, 5, 6, 7] (by decide) (by decide) rfl (by first | rfl | simp only [go_sem, seval, e_4, e_11])) (by simp) (Xbo N _ _ _ _ _ _ _ _ _ _ _ _ _ c_1 c_0 c_2 c_3 c_4 c_5 c_6 N _ _ o_1025 h_1023 ?_); rcases o_1025 with y_1024 | _
       · (try dsimp only at h); refine XJ rfl (by simp) ?_; simp only [e_4, e_7, e_8, e_9, e_11, go_sem, seval]; rw [← hQ]; exact ⟨_, _, (Ref.std [0, 1, 3, 9, 11, 18, 19, 20] [0, 1, 2, 3, 4, 5, 6, 7] (by decide) (by decide) rfl (by first | rfl | simp only [go_sem, seval, e_4, e_11])), (by simp), ih _ _ _ h hp⟩
       · (try dsimp only at h); intro _ _ h_1026; refine Zo ?_; cases h; rw [← hQ]; exact hp _ _ h_1026
      · (try dsimp only at h); refine Xa.panA (Xf N _ _ _ c_0 _ h_20) [8] (ho := ⟨(by first | rfl | simp only [go_sem, seval, e_4, e_11]), trivial⟩) ?_; (try simp only [Xc, Xb, Xe]); cases h; rw [← hQ]; exact hp _ _ rfl
     · (try dsimp only at h); refine Xa.panA (Xz N _ _ h_16) [] ?_; (try simp only [Xc, Xb, Xe]); cases h; rw [← hQ]; exact hp _ _ rfl
    · (try dsimp only at h); refine Xa.panA (Xk N _ _ c_0 _ h_13) [8] (ho := ⟨(by first | rfl | simp only [go_sem, seval, e_4, e_11]), trivial⟩) ?_; (try simp only [Xc, Xb, Xe]); cases h; rw [← hQ]; exact hp _ _ rfl
  · simp only [e_4, go_sem, seval]; cases h; rw [← hQ]; exact ⟨_, _, (Ref.std [11] [0, 1, 2, 3, 4, 5, 7] (by decide) (by decide) rfl (by first | rfl | simp only [go_sem, seval])), hp⟩
theorem Qr (N : Nat) (l_0 : List Int) (a_1 : Int) (a_2 : Int) (l_3 : List Int) (l_4 : List TSpan) (l_5 : List Xg) (l_6 : List Xg) (l_7 : List Xg) (l_8 : List Xg) (b_9 : Bool) (c_0 : Bool) (c_1 : Bool) (c_2 : Bool) (c_3 : Bool) (c_4 : Bool) (c_5 : Bool) (c_6 : Bool) (o : ((List TCtx)) ⊕ Unit) (h : ZC N l_0 a_1 a_2 l_3 l_4 l_5 l_6 l_7 l_8 b_9 = some o) :
  Xa Try.prog 109 [.ptr 0 0 0, .int .i64 a_2, .vec c_1 (List.map eI64 l_3), .fn (.func 116) [] [.ptr 1 0 0, .ptr 2 0 0], .agg [.fn (.func 114) [] [.ptr 3 0 0], .fn (.func 114) [] [.ptr 4 0 0], .fn (.func 114) [] [.ptr 5 0 0], .bool b_9]] [.box [.vec c_0 (List.map eU8 l_0), .int .i64 a_1] 152, .box [.vec c_2 (List.map Xi l_4)] 24, .box [.vec c_3 (List.map Xh l_5)] 30, .box [.vec c_4 (List.map Xh l_6)] 30, .box [.vec c_5 (List.map Xh l_7)] 30, .box [.vec c_6 (List.map Xh l_8)] 30] (fun e H => match o with | .inl z_1 => H = [.box [.vec c_0 (List.map eU8 l_0), .int .i64 a_1] 152, .box [.vec c_2 (List.map Xi l_4)] 24, .box [.vec c_3 (List.map Xh l_5)] 30, .box [.vec c_4 (List.map Xh l_6)] 30, .box [.vec c_5 (List.map Xh l_7)] 30, .box [.vec c_6 (List.map Xh l_8)] 30] ∧ e = .ret (.vec false (List.map eTCtx z_1)) | .inr _ => H = [.dead, .dead, .dead, .dead, .dead, .dead] ∧ e = .pan (.iface 148 (.agg []))) := by
 unfold ZC at h; refine Xa.goN Try.func109 n109 a109 Try.ntmps109 r109 (by simp) 6 rfl ?_; generalize hQ : bodyA _ _ _ = QQ; simp only [A109, go_sem, seval]; obtain ⟨o_1003, h_1001, h⟩ := bindS h; refine ALp.ref (Ref.trans (Ref.thaw (by simp) 11 rfl (sz := 4) (by decide) 45) (Ref.std [0, 1, 3, 9, 11, 18, 19, 20] [0, 1, 2, 3, 4, 5, 6, 7] (by decide) (by decide) rfl (by first | rfl | simp only [go_sem, seval]))) (by simp) (Xbn N _ _ _ _ _ _ _ _ _ _ c_1 c_0 c_2 c_3 c_4 c_5 c_6 N _ _ o_1003 h_1001 ?_); rcases o_1003 with y_1002 | _
 · (try dsimp only at h); refine XJ rfl (by simp) ?_; simp only [go_sem, seval]; cases h; rw [← hQ]; exact ⟨rfl, _, rfl, _, _, (RefV.trans (RefV.frz (by simp) (id := 6) rfl (XX y_1002 eTCtx (fun _ => rfl))) (RefV.std [0, 1, 2, 3, 4, 5] (by decide) (by decide) (by first | rfl | simp only [go_sem, seval]) (by first | rfl | simp only [go_sem, seval]))), rfl, rfl⟩
 · (try dsimp only at h); intro _ _ h_1004; refine Zo ?_; cases h; rw [← hQ]; exact ⟨h_1004, _, _, RefV.dead rfl, rfl, rfl⟩
theorem Jw (N : Nat) (l_0 : List Int) (a_1 : Int) (a_2 : Int) (b_3 : Bool) (c_0 : Bool) (o : ((List TCtx) × Int) ⊕ Unit) (h : Zx N l_0 a_1 a_2 b_3 = some o) :
  Xa Try.prog 97 [.ptr 0 0 0, .int .i64 a_2, .bool b_3] [.box [.vec c_0 (List.map eU8 l_0), .int .i64 a_1] 152] (fun e H => match o with | .inl (z_1, z_2) => H = [.box [.vec c_0 (List.map eU8 l_0), .int .i64 z_2] 152] ∧ e = .ret (.vec false (List.map eTCtx z_1)) | .inr _ => H = [.dead] ∧ e = .pan (.iface 148 (.agg []))) := by
 unfold Zx at h; refine Xa.goN Try.func97 n97 a97 Try.ntmps97 r97 (by simp) 1 rfl ?_; generalize hQ : bodyA _ _ _ = QQ; obtain ⟨o_3, h_2, h⟩ := bindS h; simp only [A97, go_sem, seval]; rcases o_3 with y_1 | _
 ·
  (try dsimp only at h); refine Xa.goA (Xf N _ _ _ c_0 _ h_2) [0] ?_; obtain ⟨o_7, h_6, h⟩ := bindS h; simp only [go_sem, seval]; rcases o_7 with y_5 | _
  ·
   (try dsimp only at h); refine Xa.goA (XF N _ _ _ _ c_0 false _ h_6) [0] ?_; obtain ⟨x_9, h_10, h⟩ := bindS h; have e_11 : (List.map eTSet y_5)[0]? = some [.vec false (List.map Xi x_9.Spans), .bool x_9.Not] := XA eTSet h_10; have e_12 := eq_true (XP h_10); simp only [e_11, e_12, go_sem, seval]; rcases iteB h with ⟨e_14, h⟩ | ⟨e_14, h⟩
   ·
    obtain ⟨o_17, h_16, h⟩ := bindS h; simp only [e_11, e_12, e_14, go_sem, seval]; rcases o_17 with y_15 | _
    ·
     (try dsimp only at h); refine Xa.goA (Xk N _ _ c_0 _ h_16) [0] (ho := ⟨(by first | rfl | simp only [go_sem, seval, e_14]), trivial⟩) ?_; obtain ⟨o_21, h_20, h⟩ := bindS h; simp only [e_11, e_12, e_14, go_sem, seval]; rcases o_21 with y_19 | _
     ·
      (try dsimp only at h); refine Xa.goA (Yk N _ _ _ _ c_0 _ h_20) [0] (ho := ⟨(by first | rfl | simp only [go_sem, seval, e_14]), trivial⟩) ?_; obtain ⟨o_25, h_24, h⟩ := bindS h; simp only [e_11, e_12, e_14, go_sem, seval]; rcases o_25 with y_23 | _
      ·
       (try dsimp only at h); refine Xa.goA (Xk N _ _ c_0 _ h_24) [0] (ho := ⟨(by first | rfl | simp only [go_sem, seval, e_14]), trivial⟩) ?_; obtain ⟨o_29, h_28, h⟩ := bindS h; simp only [e_11, e_12, e_14, go_sem, seval]; rcases o_29 with y_27 | _
       ·
        (try dsimp only at h); refine Xa.goA (Yk N _ _ _ _ c_0 _ h_28) [0] (ho := ⟨(by first | rfl | simp only [go_sem, seval, e_14]), trivial⟩) ?_; obtain ⟨o_33, h_32, h⟩ := bindS h; simp only [e_11, e_12, e_14, go_sem, seval]; rcases o_33 with y_31 | _
        ·
         (try dsimp only at h); refine Xa.goA (Xk N _ _ c_0 _ h_32) [0] (ho := ⟨(by first | rfl | simp only [go_sem, seval, e_14]), trivial⟩) ?_; obtain ⟨o_37, h_36, h⟩ := bindS h; simp only [e_11, e_12, e_14, go_sem, seval]; rcases o_37 with y_35 | _
         ·
          (try dsimp only at h); refine Xa.goA (Yk N _ _ _ _ c_0 _ h_36) [0] (ho := ⟨(by first | rfl | simp only [go_sem, seval, e_14]), trivial⟩) ?_; obtain ⟨o_41, h_40, h⟩ := bindS h; simp only [e_11, e_12, e_14, go_sem, seval]; rcases o_41 with y_39 | _
          ·
           (try dsimp only at h); refine Xa.useA (Xk N _ _ c_0 _ h_40) [0] (ho := ⟨(by first | rfl | simp only [go_sem, seval, e_14]), trivial⟩) ?_; obtain ⟨o_45, h_44, h⟩ := bindS h; simp only [e_11, e_12, e_14, go_sem, seval]; rcases o_45 with y_43 | _
           ·
            (try dsimp only at h); refine Xa.useA (Xf N _ _ _ c_0 _ h_44) [0] (ho := ⟨(by first | rfl | simp only [go_sem, seval, e_14]), trivial⟩) ?_; obtain ⟨_, h_47, h⟩ := bindS h; simp only [e_11, e_12, e_14, go_sem, seval]; refine Xa.useA (Yz N _ false h_47) [] ?_; obtain ⟨_, h_48, h⟩ := bindS h; simp only [e_11, e_12, e_14, go_sem, seval]; refine Xa.useA (Yz N _ false h_48) [] ?_; obtain ⟨_, h_49, h⟩ := bindS h; simp only [e_11, e_12, e_14, go_sem, seval]; refine Xa.useA (Yz N _ false h_49) [] ?_; obtain ⟨o_52, h_51, h⟩ := bindS h; simp only [e_11, e_12, e_14, go_sem, seval]; rcases o_52 with y_50 | _
            · (try dsimp only at h); refine Xa.useA (Qr N _ _ _ _ _ _ _ _ _ _ c_0 false false false false false false _ h_51) [0, 1, 2, 3, 4, 5] (ho := ⟨(by first | rfl | simp only [go_sem, seval, e_14]), (by first | rfl | simp only [go_sem, seval, e_14]), (by first | rfl | simp only [go_sem, seval, e_14]), (by first | rfl | simp only [go_sem, seval, e_14]), (by first | rfl | simp only [go_sem, seval, e_14]), (by first | rfl | simp only [go_sem, seval, e_14]), trivial⟩) ?_; simp only [e_11, e_12, e_14, go_sem, seval]; cases h; rw [← hQ]; exact ⟨rfl, _, rfl, _, _, (RefV.std [0] (by decide) (by decide) rfl (by first | rfl | simp only [go_sem, seval, e_14])), rfl, rfl⟩
            · (try dsimp only at h); refine Xa.panA (Qr N _ _ _ _ _ _ _ _ _ _ c_0 false false false false false false _ h_51) [0, 1, 2, 3, 4, 5] (ho := ⟨(by first | rfl | simp only [go_sem, seval, e_14]), (by first | rfl | simp only [go_sem, seval, e_14]), (by first | rfl | simp only [go_sem, seval, e_14]), (by first | rfl | simp only [go_sem, seval, e_14]), (by first | rfl | simp only [go_sem, seval, e_14]), (by first | rfl | simp only [go_sem, seval, e_14]), trivial⟩) ?_; (try simp only [Xc, Xb, Xe]); cases h; rw [← hQ]; exact ⟨rfl, _, _, RefV.dead rfl, rfl, rfl⟩
           · (try dsimp only at h); refine Xa.panA (Xf N _ _ _ c_0 _ h_44) [0] (ho := ⟨(by first | rfl | simp only [go_sem, seval, e_14]), trivial⟩) ?_; (try simp only [Xc, Xb, Xe]); cases h; rw [← hQ]; exact ⟨rfl, _, _, RefV.dead rfl, rfl, rfl⟩
          · (try dsimp only at h); refine Xa.panA (Xk N _ _ c_0 _ h_40) [0] (ho := ⟨(by first | rfl | simp only [go_sem, seval, e_14]), trivial⟩) ?_; (try simp only [Xc, Xb, Xe]); cases h; rw [← hQ]; exact ⟨rfl, _, _, RefV.dead rfl, rfl, rfl⟩
         · (try dsimp only at h); refine Xa.panA (Yk N _ _ _ _ c_0 _ h_36) [0] (ho := ⟨(by first | rfl | simp only [go_sem, seval, e_14]), trivial⟩) ?_; (try simp only [Xc, Xb, Xe]); cases h; rw [← hQ]; exact ⟨rfl, _, _, RefV.dead rfl, rfl, rfl⟩
        · (try dsimp only at h); refine Xa.panA (Xk N _ _ c_0 _ h_32) [0] (ho := ⟨(by first | rfl | simp only [go_sem, seval, e_14]), trivial⟩) ?_; (try simp only [Xc, Xb, Xe]); cases h; rw [← hQ]; exact ⟨rfl, _, _, RefV.dead rfl, rfl, rfl⟩
       · (try dsimp only at h); refine Xa.panA (Yk N _ _ _ _ c_0 _ h_28) [0] (ho := ⟨(by first | rfl | simp only [go_sem, seval, e_14]), trivial⟩) ?_; (try simp only [Xc, Xb, Xe]); cases h; rw [← hQ]; exact ⟨rfl, _, _, RefV.dead rfl, rfl, rfl⟩
      · (try dsimp only at h); refine Xa.panA (Xk N _ _ c_0 _ h_24) [0] (ho := ⟨(by first | rfl | simp only [go_sem, seval, e_14]), trivial⟩) ?_; (try simp only [Xc, Xb, Xe]); cases h; rw [← hQ]; exact ⟨rfl, _, _, RefV.dead rfl, rfl, rfl⟩
     · (try dsimp only at h); refine Xa.panA (Yk N _ _ _ _ c_0 _ h_20) [0] (ho := ⟨(by first | rfl | simp only [go_sem, seval, e_14]), trivial⟩) ?_; (try simp only [Xc, Xb, Xe]); cases h; rw [← hQ]; exact ⟨rfl, _, _, RefV.dead rfl, rfl, rfl⟩
    · (try dsimp only at h); refine Xa.panA (Xk N _ _ c_0 _ h_16) [0] (ho := ⟨(by first | rfl | simp only [go_sem, seval, e_14]), trivial⟩) ?_; (try simp only [Xc, Xb, Xe]); cases h; rw [← hQ]; exact ⟨rfl, _, _, RefV.dead rfl, rfl, rfl⟩
   ·
    obtain ⟨o_56, h_55, h⟩ := bindS h; simp only [e_11, e_12, e_14, go_sem, seval]; rcases o_56 with y_54 | _
    ·
     (try dsimp only at h); refine Xa.goA (Xk N _ _ c_0 _ h_55) [0] (ho := ⟨(by first | rfl | simp only [go_sem, seval, e_14]), trivial⟩) ?_; obtain ⟨o_60, h_59, h⟩ := bindS h; simp only [e_11, e_12, e_14, go_sem, seval]; rcases o_60 with y_58 | _
     ·
      (try dsimp only at h); refine Xa.goA (Yk N _ _ _ _ c_0 _ h_59) [0] (ho := ⟨(by first | rfl | simp only [go_sem, seval, e_14]), trivial⟩) ?_; obtain ⟨o_64, h_63, h⟩ := bindS h; simp only [e_11, e_12, e_14, go_sem, seval]; rcases o_64 with y_62 | _
      ·
       (try dsimp only at h); refine Xa.useA (Xk N _ _ c_0 _ h_63) [0] (ho := ⟨(by first | rfl | simp only [go_sem, seval, e_14]), trivial⟩) ?_; obtain ⟨o_68, h_67, h⟩ := bindS h; simp only [e_11, e_12, e_14, go_sem, seval]; rcases o_68 with y_66 | _
       ·
        (try dsimp only at h); refine Xa.useA (Xf N _ _ _ c_0 _ h_67) [0] (ho := ⟨(by first | rfl | simp only [go_sem, seval, e_14]), trivial⟩) ?_; obtain ⟨_, h_70, h⟩ := bindS h; simp only [e_11, e_12, e_14, go_sem, seval]; refine Xa.useA (Yz N _ true h_70) [] ?_; obtain ⟨_, h_71, h⟩ := bindS h; simp only [e_11, e_12, e_14, go_sem, seval]; refine Xa.useA (Yz N _ false h_71) [] ?_; obtain ⟨_, h_72, h⟩ := bindS h; simp only [e_11, e_12, e_14, go_sem, seval]; refine Xa.useA (Yz N _ true h_72) [] ?_; obtain ⟨o_75, h_74, h⟩ := bindS h; simp only [e_11, e_12, e_14, go_sem, seval]; rcases o_75 with y_73 | _
        · (try dsimp only at h); refine Xa.useA (Qr N _ _ _ _ _ _ _ _ _ _ c_0 false false false true false true _ h_74) [0, 1, 2, 3, 4, 5] (ho := ⟨(by first | rfl | simp only [go_sem, seval, e_14]), (by first | rfl | simp only [go_sem, seval, e_14]), (by first | rfl | simp only [go_sem, seval, e_14]), (by first | rfl | simp only [go_sem, seval, e_14]), (by first | rfl | simp only [go_sem, seval, e_14]), (by first | rfl | simp only [go_sem, seval, e_14]), trivial⟩) ?_; simp only [e_11, e_12, e_14, go_sem, seval]; cases h; rw [← hQ]; exact ⟨rfl, _, rfl, _, _, (RefV.std [0] (by decide) (by decide) rfl (by first | rfl | simp only [go_sem, seval, e_14])), rfl, rfl⟩
        · (try dsimp only at h); refine Xa.panA (Qr N _ _ _ _ _ _ _ _ _ _ c_0 false false false true false true _ h_74) [0, 1, 2, 3, 4, 5] (ho := ⟨(by first | rfl | simp only [go_sem, seval, e_14]), (by first | rfl | simp only [go_sem, seval, e_14]), (by first | rfl | simp only [go_sem, seval, e_14]), (by first | rfl | simp only [go_sem, seval, e_14]), (by first | rfl | simp only [go_sem, seval, e_14]), (by first | rfl | simp only [go_sem, seval, e_14]), trivial⟩) ?_; (try simp only [Xc, Xb, Xe]); cases h; rw [← hQ]; exact ⟨rfl, _, _, RefV.dead rfl, rfl, rfl⟩
       · (try dsimp only at h); refine Xa.panA (Xf N _ _ _ c_0 _ h_67) [0] (ho := ⟨(by first | rfl | simp only [go_sem, seval, e_14]), trivial⟩) ?_; (try simp only [Xc, Xb, Xe]); cases h; rw [← hQ]; exact ⟨rfl, _, _, RefV.dead rfl, rfl, rfl⟩
      · (try dsimp only at h); refine Xa.panA (Xk N _ _ c_0 _ h_63) [0] (ho := ⟨(by first | rfl | simp only [go_sem, seval, e_14]), trivial⟩) ?_; (try simp only [Xc, Xb, Xe]); cases h; rw [← hQ]; exact ⟨rfl, _, _, RefV.dead rfl, rfl, rfl⟩
     · (try dsimp only at h); refine Xa.panA (Yk N _ _ _ _ c_0 _ h_59) [0] (ho := ⟨(by first | rfl | simp only [go_sem, seval, e_14]), trivial⟩) ?_; (try simp only [Xc, Xb, Xe]); cases h; rw [← hQ]; exact ⟨rfl, _, _, RefV.dead rfl, rfl, rfl⟩
    · (try dsimp only at h); refine Xa.panA (Xk N _ _ c_0 _ h_55) [0] (ho := ⟨(by first | rfl | simp only [go_sem, seval, e_14]), trivial⟩) ?_; (try simp only [Xc, Xb, Xe]); cases h; rw [← hQ]; exact ⟨rfl, _, _, RefV.dead rfl, rfl, rfl⟩
  · (try dsimp only at h); refine Xa.panA (XF N _ _ _ _ c_0 false _ h_6) [0] ?_; (try simp only [Xc, Xb, Xe]); cases h; rw [← hQ]; exact ⟨rfl, _, _, RefV.dead rfl, rfl, rfl⟩
 · (try dsimp only at h); refine Xa.panA (Xf N _ _ _ c_0 _ h_2) [0] ?_; (try simp only [Xc, Xb, Xe]); cases h; rw [← hQ]; exact ⟨rfl, _, _, RefV.dead rfl, rfl, rfl⟩
theorem Jv (N : Nat) (l_0 : List Int) (a_1 : Int) (a_2 : Int) (b_3 : Bool) (c_0 : Bool) (o : ((List TCtx) × Int) ⊕ Unit) (h : Zw N l_0 a_1 a_2 b_3 = some o) :
  Xa Try.prog 98 [.ptr 0 0 0, .int .i64 a_2, .bool b_3] [.box [.vec c_0 (List.map eU8 l_0), .int .i64 a_1] 152] (fun e H => match o with | .inl (z_1, z_2) => H = [.box [.vec c_0 (List.map eU8 l_0), .int .i64 z_2] 152] ∧ e = .ret (.vec false (List.map eTCtx z_1)) | .inr _ => H = [.dead] ∧ e = .pan (.iface 148 (.agg []))) := by
 unfold Zw at h; refine Xa.goN Try.func98 n98 a98 Try.ntmps98 r98 (by simp) 1 rfl ?_; generalize hQ : bodyA _ _ _ = QQ; simp only [A98, go_sem, seval]; rcases iteB h with ⟨e_2, h⟩ | ⟨e_2, h⟩
 ·
  obtain ⟨o_5, h_4, h⟩ := bindS h; simp only [e_2, go_sem, seval]; rcases o_5 with y_3 | _
  ·
   (try dsimp only at h); refine Xa.goA (Xd N _ _ _ _ c_0 _ h_4) [0] (ho := ⟨(by first | rfl | simp only [go_sem, seval, e_2]), trivial⟩) ?_; obtain ⟨o_9, h_8, h⟩ := bindS h; simp only [e_2, go_sem, seval]; rcases o_9 with y_7 | _
   ·
    (try dsimp only at h); refine Xa.goA (Xf N _ _ _ c_0 _ h_8) [0] (ho := ⟨(by first | rfl | simp only [go_sem, seval, e_2]), trivial⟩) ?_; obtain ⟨o_13, h_12, h⟩ := bindS h; simp only [e_2, go_sem, seval]; rcases o_13 with y_11 | _
    ·
     (try dsimp only at h); refine Xa.goA (XF N _ _ _ _ c_0 false _ h_12) [0] (ho := ⟨(by first | rfl | simp only [go_sem, seval, e_2]), trivial⟩) ?_; obtain ⟨o_17, h_16, h⟩ := bindS h; simp only [e_2, go_sem, seval]; rcases o_17 with y_15 | _
     ·
      (try dsimp only at h); refine Xa.goA (Xd N _ _ _ _ c_0 _ h_16) [0] (ho := ⟨(by first | rfl | simp only [go_sem, seval, e_2]), trivial⟩) ?_; obtain ⟨o_21, h_20, h⟩ := bindS h; simp only [e_2, go_sem, seval]; rcases o_21 with y_19 | _
      ·
       (try dsimp only at h); refine Xa.goA (Xf N _ _ _ c_0 _ h_20) [0] (ho := ⟨(by first | rfl | simp only [go_sem, seval, e_2]), trivial⟩) ?_; obtain ⟨o_25, h_24, h⟩ := bindS h; simp only [e_2, go_sem, seval]; rcases o_25 with y_23 | _
       ·
        (try dsimp only at h); refine Xa.goA (XF N _ _ _ _ c_0 false _ h_24) [0] (ho := ⟨(by first | rfl | simp only [go_sem, seval, e_2]), trivial⟩) ?_; obtain ⟨o_29, h_28, h⟩ := bindS h; simp only [e_2, go_sem, seval]; rcases o_29 with y_27 | _
        ·
         (try dsimp only at h); refine Xa.goA (Xd N _ _ _ _ c_0 _ h_28) [0] (ho := ⟨(by first | rfl | simp only [go_sem, seval, e_2]), trivial⟩) ?_; obtain ⟨o_33, h_32, h⟩ := bindS h; simp only [e_2, go_sem, seval]; rcases o_33 with y_31 | _
         ·
          (try dsimp only at h); refine Xa.goA (Xf N _ _ _ c_0 _ h_32) [0] (ho := ⟨(by first | rfl | simp only [go_sem, seval, e_2]), trivial⟩) ?_; obtain ⟨o_37, h_36, h⟩ := bindS h; simp only [e_2, go_sem, seval]; rcases o_37 with y_35 | _
          ·
           (try dsimp only at h); refine Xa.goA (XF N _ _ _ _ c_0 false _ h_36) [0] (ho := ⟨(by first | rfl | simp only [go_sem, seval, e_2]), trivial⟩) ?_; obtain ⟨o_41, h_40, h⟩ := bindS h; simp only [e_2, go_sem, seval]; rcases o_41 with y_39 | _
           ·
            (try dsimp only at h); refine Xa.useA (Xd N _ _ _ _ c_0 _ h_40) [0] (ho := ⟨(by first | rfl | simp only [go_sem, seval, e_2]), trivial⟩) ?_; obtain ⟨o_46, h_45, h⟩ := bindS h; simp only [e_2, go_sem, seval]; rcases o_46 with ⟨y_43, y_44⟩ | _
            · (try dsimp only at h); refine Xa.useA (Xu N _ _ _ _ c_0 _ h_45) [0] (ho := ⟨(by first | rfl | simp only [go_sem, seval, e_2]), trivial⟩) ?_; simp only [e_2, go_sem, seval]; cases h; rw [← hQ]; exact ⟨rfl, _, rfl, _, _, (RefV.trans (RefV.std (v' := .vec true [[.vec false (List.map eTSet y_11), .vec false (List.map eTSet y_23), .vec false (List.map eTSet y_35), .vec false (List.map eTAct y_43)]]) [0] (by decide) (by decide) rfl (by first | rfl | simp only [go_sem, seval, e_2])) (RefV.weak (Wks.cons Wk.vec Wks.nil) (WkH.refl _))), rfl, rfl⟩
            · (try dsimp only at h); refine Xa.panA (Xu N _ _ _ _ c_0 _ h_45) [0] (ho := ⟨(by first | rfl | simp only [go_sem, seval, e_2]), trivial⟩) ?_; (try simp only [Xc, Xb, Xe]); cases h; rw [← hQ]; exact ⟨rfl, _, _, RefV.dead rfl, rfl, rfl⟩
           · (try dsimp only at h); refine Xa.panA (Xd N _ _ _ _ c_0 _ h_40) [0] (ho := ⟨(by first | rfl | simp only [go_sem, seval, e_2]), trivial⟩) ?_; (try simp only [Xc, Xb, Xe]); cases h; rw [← hQ]; exact ⟨rfl, _, _, RefV.dead rfl, rfl, rfl⟩
          · (try dsimp only at h); refine Xa.panA (XF N _ _ _ _ c_0 false _ h_36) [0] (ho := ⟨(by first | rfl | simp only [go_sem, seval, e_2]), trivial⟩) ?_; (try simp only [Xc, Xb, Xe]); cases h; rw [← hQ]; exact ⟨rfl, _, _, RefV.dead rfl, rfl, rfl⟩
         · (try dsimp only at h); refine Xa.panA (Xf N _ _ _ c_0 _ h_32) [0] (ho := ⟨(by first | rfl | simp only [go_sem, seval, e_2]), trivial⟩) ?_; (try simp only [Xc, Xb, Xe]); cases h; rw [← hQ]; exact ⟨rfl, _, _, RefV.dead rfl, rfl, rfl⟩
        · (try dsimp only at h); refine Xa.panA (Xd N _ _ _ _ c_0 _ h_28) [0] (ho := ⟨(by first | rfl | simp only [go_sem, seval, e_2]), trivial⟩) ?_; (try simp only [Xc, Xb, Xe]); cases h; rw [← hQ]; exact ⟨rfl, _, _, RefV.dead rfl, rfl, rfl⟩
       · (try dsimp only at h); refine Xa.panA (XF N _ _ _ _ c_0 false _ h_24) [0] (ho := ⟨(by first | rfl | simp only [go_sem, seval, e_2]), trivial⟩) ?_; (try simp only [Xc, Xb, Xe]); cases h; rw [← hQ]; exact ⟨rfl, _, _, RefV.dead rfl, rfl, rfl⟩
      · (try dsimp only at h); refine Xa.panA (Xf N _ _ _ c_0 _ h_20) [0] (ho := ⟨(by first | rfl | simp only [go_sem, seval, e_2]), trivial⟩) ?_; (try simp only [Xc, Xb, Xe]); cases h; rw [← hQ]; exact ⟨rfl, _, _, RefV.dead rfl, rfl, rfl⟩
     · (try dsimp only at h); refine Xa.panA (Xd N _ _ _ _ c_0 _ h_16) [0] (ho := ⟨(by first | rfl | simp only [go_sem, seval, e_2]), trivial⟩) ?_; (try simp only [Xc, Xb, Xe]); cases h; rw [← hQ]; exact ⟨rfl, _, _, RefV.dead rfl, rfl, rfl⟩
    · (try dsimp only at h); refine Xa.panA (XF N _ _ _ _ c_0 false _ h_12) [0] (ho := ⟨(by first | rfl | simp only [go_sem, seval, e_2]), trivial⟩) ?_; (try simp only [Xc, Xb, Xe]); cases h; rw [← hQ]; exact ⟨rfl, _, _, RefV.dead rfl, rfl, rfl⟩
   · (try dsimp only at h); refine Xa.panA (Xf N _ _ _ c_0 _ h_8) [0] (ho := ⟨(by first | rfl | simp only [go_sem, seval, e_2]), trivial⟩) ?_; (try simp only [Xc, Xb, Xe]); cases h; rw [← hQ]; exact ⟨rfl, _, _, RefV.dead rfl, rfl, rfl⟩
  · (try dsimp only at h); refine Xa.panA (Xd N _ _ _ _ c_0 _ h_4) [0] (ho := ⟨(by first | rfl | simp only [go_sem, seval, e_2]), trivial⟩) ?_; (try simp only [Xc, Xb, Xe]); cases h; rw [← hQ]; exact ⟨rfl, _, _, RefV.dead rfl, rfl, rfl⟩
 ·
  obtain ⟨o_50, h_49, h⟩ := bindS h; simp only [e_2, go_sem, seval]; rcases o_50 with y_48 | _
  ·
   (try dsimp only at h); refine Xa.goA (Xd N _ _ _ _ c_0 _ h_49) [0] (ho := ⟨(by first | rfl | simp only [go_sem, seval, e_2]), trivial⟩) ?_; obtain ⟨o_54, h_53, h⟩ := bindS h; simp only [e_2, go_sem, seval]; rcases o_54 with y_52 | _
   ·
    (try dsimp only at h); refine Xa.goA (Xd N _ _ _ _ c_0 _ h_53) [0] (ho := ⟨(by first | rfl | simp only [go_sem, seval, e_2]), trivial⟩) ?_; obtain ⟨o_58, h_57, h⟩ := bindS h; simp only [e_2, go_sem, seval]; rcases o_58 with y_56 | _
    ·
     (try dsimp only at h); refine Xa.goA (Xf N _ _ _ c_0 _ h_57) [0] (ho := ⟨(by first | rfl | simp only [go_sem, seval, e_2]), trivial⟩) ?_; obtain ⟨o_62, h_61, h⟩ := bindS h; simp only [e_2, go_sem, seval]; rcases o_62 with y_60 | _
     ·
      (try dsimp only at h); refine Xa.goA (XF N _ _ _ _ c_0 false _ h_61) [0] (ho := ⟨(by first | rfl | simp only [go_sem, seval, e_2]), trivial⟩) ?_; obtain ⟨o_67, h_66, h⟩ := bindS h; simp only [e_2, go_sem, seval]; rcases o_67 with ⟨y_64, y_65⟩ | _
      · (try dsimp only at h); refine Xa.goA (Xu N _ _ _ _ c_0 _ h_66) [0] (ho := ⟨(by first | rfl | simp only [go_sem, seval, e_2]), trivial⟩) ?_; simp only [e_2, go_sem, seval]; cases h; rw [← hQ]; exact ⟨rfl, _, rfl, _, _, (RefV.trans (RefV.std (v' := .vec true [[nn, .vec false (List.map eTSet y_60), nn, .vec false (List.map eTAct y_64)]]) [0] (by decide) (by decide) rfl (by first | rfl | simp only [go_sem, seval, e_2])) (RefV.weak (Wks.cons (Wk.vecs (Wkss.cons (Wks.cons Wk.vec (Wks.cons (Wk.refl _) (Wks.cons Wk.vec (Wks.cons (Wk.refl _) (Wks.nil))))) (Wkss.nil))) Wks.nil) (WkH.refl _))), rfl, rfl⟩
      · (try dsimp only at h); refine Xa.panA (Xu N _ _ _ _ c_0 _ h_66) [0] (ho := ⟨(by first | rfl | simp only [go_sem, seval, e_2]), trivial⟩) ?_; (try simp only [Xc, Xb, Xe]); cases h; rw [← hQ]; exact ⟨rfl, _, _, RefV.dead rfl, rfl, rfl⟩
     · (try dsimp only at h); refine Xa.panA (XF N _ _ _ _ c_0 false _ h_61) [0] (ho := ⟨(by first | rfl | simp only [go_sem, seval, e_2]), trivial⟩) ?_; (try simp only [Xc, Xb, Xe]); cases h; rw [← hQ]; exact ⟨rfl, _, _, RefV.dead rfl, rfl, rfl⟩
    · (try dsimp only at h); refine Xa.panA (Xf N _ _ _ c_0 _ h_57) [0] (ho := ⟨(by first | rfl | simp only [go_sem, seval, e_2]), trivial⟩) ?_; (try simp only [Xc, Xb, Xe]); cases h; rw [← hQ]; exact ⟨rfl, _, _, RefV.dead rfl, rfl, rfl⟩
   · (try dsimp only at h); refine Xa.panA (Xd N _ _ _ _ c_0 _ h_53) [0] (ho := ⟨(by first | rfl | simp only [go_sem, seval, e_2]), trivial⟩) ?_; (try simp only [Xc, Xb, Xe]); cases h; rw [← hQ]; exact ⟨rfl, _, _, RefV.dead rfl, rfl, rfl⟩
  · (try dsimp only at h); refine Xa.panA (Xd N _ _ _ _ c_0 _ h_49) [0] (ho := ⟨(by first | rfl | simp only [go_sem, seval, e_2]), trivial⟩) ?_; (try simp only [Xc, Xb, Xe]); cases h; rw [← hQ]; exact ⟨rfl, _, _, RefV.dead rfl, rfl, rfl⟩
theorem Xcv (N : Nat) (l_0 : List Int) (a_1 : Int) (b_2 : Bool) (c_0 : Bool) (z_1 : List TCtx) (z_2 : Bool) (h : Jd N l_0 a_1 b_2 = some (z_1, z_2)) :
  Xa Try.prog 71 [.vec c_0 (List.map eU8 l_0), .int .i64 a_1, .bool b_2] [] (fun e H => H = [] ∧ e = .ret (.tup [.vec false (List.map eTCtx z_1), .bool z_2])) := by
 unfold Jd at h; refine Xa.goRN Try.func71 n71 a71 Try.ntmps71 r71 (by simp) 0 rfl ?_; generalize hQ : bodyR _ _ _ _ = QQ; obtain ⟨o_3, h_2, h⟩ := bindS h; simp only [A71, go_sem, seval]; rcases o_3 with y_1 | _
 ·
  (try dsimp only at h); refine Xa.goA (Xk N _ _ c_0 _ h_2) [2] ?_; simp only [go_sem, seval]; rcases iteS h with ⟨e_6, h⟩ | ⟨e_6, h⟩
  ·
   obtain ⟨o_10, h_9, h⟩ := bindS h; simp only [e_6, go_sem, seval]; rcases o_10 with ⟨y_7, y_8⟩ | _
   · (try dsimp only at h); refine Xa.goA (JE N _ _ _ _ c_0 _ h_9) [2] (ho := ⟨(by first | rfl | simp only [go_sem, seval, e_6]), trivial⟩) ?_; simp only [e_6, go_sem, seval]; rw [← hQ]; show clo _ _ _ _ _ _ _; refine clo.of_M (g := 94) (by simp) rfl rc94 (by decide) ?_; generalize hE : endR _ _ _ _ = EE; simp only [A94r, A94, go_sem, seval]; obtain ⟨rfl, rfl⟩ := pj (si h); rw [← hE]; exact ⟨rfl, _, rfl, _, _, (RefV.out rfl), rfl, rfl⟩
   · (try dsimp only at h); refine Xa.panA (JE N _ _ _ _ c_0 _ h_9) [2] (ho := ⟨(by first | rfl | simp only [go_sem, seval, e_6]), trivial⟩) ?_; (try simp only [Xc, Xb, Xe]); rw [← hQ]; show clo _ _ _ _ _ _ _; refine clo.of_M (g := 94) (by simp) rfl rc94 (by decide) ?_; generalize hE : endR _ _ _ _ = EE; simp only [A94r, A94, go_sem, seval]; obtain ⟨rfl, rfl⟩ := pj (si h); rw [← hE]; exact ⟨rfl, _, rfl, _, _, outVB, rfl, rfl⟩
  ·
   simp only [e_6, go_sem, seval]; rcases iteS h with ⟨e_13, h⟩ | ⟨e_13, h⟩
   ·
    obtain ⟨o_17, h_16, h⟩ := bindS h; simp only [e_6, e_13, go_sem, seval]; rcases o_17 with ⟨y_14, y_15⟩ | _
    · (try dsimp only at h); refine Xa.goA (Jw N _ _ _ _ c_0 _ h_16) [2] (ho := ⟨(by first | rfl | simp only [go_sem, seval, e_6, e_13]), trivial⟩) ?_; simp only [e_6, e_13, go_sem, seval]; rw [← hQ]; show clo _ _ _ _ _ _ _; refine clo.of_M (g := 94) (by simp) rfl rc94 (by decide) ?_; generalize hE : endR _ _ _ _ = EE; simp only [A94r, A94, go_sem, seval]; obtain ⟨rfl, rfl⟩ := pj (si h); rw [← hE]; exact ⟨rfl, _, rfl, _, _, (RefV.out rfl), rfl, rfl⟩
    · (try dsimp only at h); refine Xa.panA (Jw N _ _ _ _ c_0 _ h_16) [2] (ho := ⟨(by first | rfl | simp only [go_sem, seval, e_6, e_13]), trivial⟩) ?_; (try simp only [Xc, Xb, Xe]); rw [← hQ]; show clo _ _ _ _ _ _ _; refine clo.of_M (g := 94) (by simp) rfl rc94 (by decide) ?_; generalize hE : endR _ _ _ _ = EE; simp only [A94r, A94, go_sem, seval]; obtain ⟨rfl, rfl⟩ := pj (si h); rw [← hE]; exact ⟨rfl, _, rfl, _, _, outVB, rfl, rfl⟩
   ·
    simp only [e_6, e_13, go_sem, seval]; rcases iteS h with ⟨e_20, h⟩ | ⟨e_20, h⟩
    ·
     obtain ⟨o_24, h_23, h⟩ := bindS h; simp only [e_6, e_13, e_20, go_sem, seval]; rcases o_24 with ⟨y_21, y_22⟩ | _
     · (try dsimp only at h); refine Xa.goA (Jv N _ _ _ _ c_0 _ h_23) [2] (ho := ⟨(by first | rfl | simp only [go_sem, seval, e_6, e_13, e_20]), trivial⟩) ?_; simp only [e_6, e_13, e_20, go_sem, seval]; rw [← hQ]; show clo _ _ _ _ _ _ _; refine clo.of_M (g := 94) (by simp) rfl rc94 (by decide) ?_; generalize hE : endR _ _ _ _ = EE; simp only [A94r, A94, go_sem, seval]; obtain ⟨rfl, rfl⟩ := pj (si h); rw [← hE]; exact ⟨rfl, _, rfl, _, _, (RefV.out rfl), rfl, rfl⟩
     · (try dsimp only at h); refine Xa.panA (Jv N _ _ _ _ c_0 _ h_23) [2] (ho := ⟨(by first | rfl | simp only [go_sem, seval, e_6, e_13, e_20]), trivial⟩) ?_; (try simp only [Xc, Xb, Xe]); rw [← hQ]; show clo _ _ _ _ _ _ _; refine clo.of_M (g := 94) (by simp) rfl rc94 (by decide) ?_; generalize hE : endR _ _ _ _ = EE; simp only [A94r, A94, go_sem, seval]; obtain ⟨rfl, rfl⟩ := pj (si h); rw [← hE]; exact ⟨rfl, _, rfl, _, _, outVB, rfl, rfl⟩
    · simp only [e_6, e_13, e_20, go_sem, seval]; rw [← hQ]; show clo _ _ _ _ _ _ _; refine clo.of_M (g := 94) (by simp) rfl rc94 (by decide) ?_; generalize hE : endR _ _ _ _ = EE; simp only [A94r, A94, go_sem, seval]; obtain ⟨rfl, rfl⟩ := pj (si h); rw [← hE]; exact ⟨rfl, _, rfl, _, _, outVB, rfl, rfl⟩
 · (try dsimp only at h); refine Xa.panA (Xk N _ _ c_0 _ h_2) [2] ?_; (try simp only [Xc, Xb, Xe]); rw [← hQ]; show clo _ _ _ _ _ _ _; refine clo.of_M (g := 94) (by simp) rfl rc94 (by decide) ?_; generalize hE : endR _ _ _ _ = EE; simp only [A94r, A94, go_sem, seval]; obtain ⟨rfl, rfl⟩ := pj (si h); rw [← hE]; exact ⟨rfl, _, rfl, _, _, outVB, rfl, rfl⟩
theorem Xe4 (N : Nat) (l_0 : List Int) (a_1 : Int) (c_0 : Bool) (z_1 : List TCtx) (z_2 : Bool) (h : JG N l_0 a_1 = some (z_1, z_2)) :
  Xa Try.prog 46 [.vec c_0 (List.map eU8 l_0), .int .i64 a_1] [] (fun e H => H = [] ∧ e = .ret (.tup [.vec false (List.map eTCtx z_1), .bool z_2])) := by
 unfold JG at h; refine Xa.goN Try.func46 n46 a46 Try.ntmps46 r46 (by simp) 0 rfl ?_; generalize hQ : bodyA _ _ _ = QQ; obtain ⟨⟨y_1, y_2⟩, h_3, h⟩ := bindS h; (try dsimp only at h); simp only [A46, go_sem, seval]; refine Xa.go0 (Xcv N _ _ _ c_0 _ _ h_3) ?_; simp only [go_sem, seval]; obtain ⟨rfl, rfl⟩ := pj (si h); rw [← hQ]; exact ⟨rfl, _, rfl, _, _, (RefV.out rfl), rfl, rfl⟩
theorem Qc (N : Nat) (l_0 : List Int) (a_1 : Int) (a_2 : Int) (a_3 : Int) (c_0 : Bool) (o : (O3T) ⊕ Unit) (h : YU N l_0 a_1 a_2 a_3 = some o) :
  Xa Try.prog 64 [.ptr 0 0 0, .int .i64 a_3, .fn (.func 46) [] []] [.box [.vec c_0 (List.map eU8 l_0), .int .i64 a_1, .int .i64 a_2] 123] (fun e H => match o with | .inl (z_1, z_2, z_3, z_4, z_5, z_6, z_7, z_8, z_9, z_10, z_11, z_12, z_13, z_14, z_15, z_16) => H = [.box [.vec c_0 (List.map eU8 l_0), .int .i64 a_1, .int .i64 a_2] 123] ∧ e = .ret (.agg [.int .i64 z_1, .vec false (List.map Xi z_2), .bool z_3, .int .i64 z_4, .vec false (List.map eLI64 z_5), .vec false (List.map YP z_6), .vec false (List.map eTCtx z_7), .vec false (List.map XU z_8), .vec false (List.map XC z_9), .vec false (List.map Xh z_10), .vec false (List.map Xh z_11), .vec false (List.map XC z_12), .vec false (List.map Xm z_13), .vec false (List.map YD z_14), .vec false (List.map Xi z_15), .vec false (List.map Xl z_16)]) | .inr _ => H = [.dead] ∧ e = .pan (.iface 91 (.agg []))) := by
 unfold YU at h; refine Xa.goN Try.func64 n64 a64 Try.ntmps64 r64 (by simp) 1 rfl ?_; generalize hQ : bodyA _ _ _ = QQ; obtain ⟨⟨y_1, y_2⟩, h_3, h⟩ := bindS h; (try dsimp only at h); simp only [A64, go_sem, seval]; refine Xa.use0 (Xe4 N _ _ c_0 _ _ h_3) rfl rfl ?_; obtain ⟨o_5, h_4, h⟩ := bindS h; simp only [go_sem, seval]; rcases o_5 with _ | _
 · (try dsimp only at h); refine Xa.go0 (Xv N _ _ h_4) ?_; simp only [go_sem, seval]; cases h; rw [← hQ]; exact ⟨rfl, _, rfl, _, _, (RefV.trans (RefV.std (v' := .agg [.int .i64 (IntKind.i64.wrap (a_3 + 10)), nn, .bool false, .int .i64 0, nn, nn, .vec false (List.map eTCtx y_1), nn, nn, nn, nn, nn, nn, nn, nn, nn]) [0] (by decide) (by decide) rfl (by first | rfl | simp only [go_sem, seval])) (RefV.weak (Wks.cons (Wk.agg (Wks.cons (Wk.refl _) (Wks.cons Wk.vec (Wks.cons (Wk.refl _) (Wks.cons (Wk.refl _) (Wks.cons Wk.vec (Wks.cons Wk.vec (Wks.cons (Wk.refl _) (Wks.cons Wk.vec (Wks.cons Wk.vec (Wks.cons Wk.vec (Wks.cons Wk.vec (Wks.cons Wk.vec (Wks.cons Wk.vec (Wks.cons Wk.vec (Wks.cons Wk.vec (Wks.cons Wk.vec (Wks.nil)))))))))))))))))) Wks.nil) (WkH.refl _))), rfl, rfl⟩
 · (try dsimp only at h); refine Xa.panA (Xv N _ _ h_4) [] ?_; (try simp only [Xc, Xb, Xe]); cases h; rw [← hQ]; exact ⟨rfl, _, _, RefV.dead rfl, rfl, rfl⟩
theorem Xg3 (N : Nat) (l_0 : List Int) (a_1 : Int) (c_0 : Bool) (z_1 : List TCtx) (z_2 : Bool) (h : Xaj N l_0 a_1 = some (z_1, z_2)) :
  Xa Try.prog 47 [.vec c_0 (List.map eU8 l_0), .int .i64 a_1] [] (fun e H => H = [] ∧ e = .ret (.tup [.vec false (List.map eTCtx z_1), .bool z_2])) := by
 unfold Xaj at h; refine Xa.goN Try.func47 n47 a47 Try.ntmps47 r47 (by simp) 0 rfl ?_; generalize hQ : bodyA _ _ _ = QQ; obtain ⟨⟨y_1, y_2⟩, h_3, h⟩ := bindS h; (try dsimp only at h); simp only [A47, go_sem, seval]; refine Xa.go0 (Xcv N _ _ _ c_0 _ _ h_3) ?_; simp only [go_sem, seval]; obtain ⟨rfl, rfl⟩ := pj (si h); rw [← hQ]; exact ⟨rfl, _, rfl, _, _, (RefV.out rfl), rfl, rfl⟩
theorem ZG (N : Nat) (l_0 : List Int) (a_1 : Int) (a_2 : Int) (a_3 : Int) (c_0 : Bool) (o : (O3T) ⊕ Unit) (h : YA N l_0 a_1 a_2 a_3 = some o) :
  Xa Try.prog 64 [.ptr 0 0 0, .int .i64 a_3, .fn (.func 47) [] []] [.box [.vec c_0 (List.map eU8 l_0), .int .i64 a_1, .int .i64 a_2] 123] (fun e H => match o with | .inl (z_1, z_2, z_3, z_4, z_5, z_6, z_7, z_8, z_9, z_10, z_11, z_12, z_13, z_14, z_15, z_16) => H = [.box [.vec c_0 (List.map eU8 l_0), .int .i64 a_1, .int .i64 a_2] 123] ∧ e = .ret (.agg [.int .i64 z_1, .vec false (List.map Xi z_2), .bool z_3, .int .i64 z_4, .vec false (List.map eLI64 z_5), .vec false (List.map YP z_6), .vec false (List.map eTCtx z_7), .vec false (List.map XU z_8), .vec false (List.map XC z_9), .vec false (List.map Xh z_10), .vec false (List.map Xh z_11), .vec false (List.map XC z_12), .vec false (List.map Xm z_13), .vec false (List.map YD z_14), .vec false (List.map Xi z_15), .vec false (List.map Xl z_16)]) | .inr _ => H = [.dead] ∧ e = .pan (.iface 91 (.agg []))) := by
 unfold YA at h; refine Xa.goN Try.func64 n64 a64 Try.ntmps64 r64 (by simp) 1 rfl ?_; generalize hQ : bodyA _ _ _ = QQ; obtain ⟨⟨y_1, y_2⟩, h_3, h⟩ := bindS h; (try dsimp only at h); simp only [A64, go_sem, seval]; refine Xa.use0 (Xg3 N _ _ c_0 _ _ h_3) rfl rfl ?_; obtain ⟨o_5, h_4, h⟩ := bindS h; simp only [go_sem, seval]; rcases o_5 with _ | _
 · (try dsimp only at h); refine Xa.go0 (Xv N _ _ h_4) ?_; simp only [go_sem, seval]; cases h; rw [← hQ]; exact ⟨rfl, _, rfl, _, _, (RefV.trans (RefV.std (v' := .agg [.int .i64 (IntKind.i64.wrap (a_3 + 10)), nn, .bool false, .int .i64 0, nn, nn, .vec false (List.map eTCtx y_1), nn, nn, nn, nn, nn, nn, nn, nn, nn]) [0] (by decide) (by decide) rfl (by first | rfl | simp only [go_sem, seval])) (RefV.weak (Wks.cons (Wk.agg (Wks.cons (Wk.refl _) (Wks.cons Wk.vec (Wks.cons (Wk.refl _) (Wks.cons (Wk.refl _) (Wks.cons Wk.vec (Wks.cons Wk.vec (Wks.cons (Wk.refl _) (Wks.cons Wk.vec (Wks.cons Wk.vec (Wks.cons Wk.vec (Wks.cons Wk.vec (Wks.cons Wk.vec (Wks.cons Wk.vec (Wks.cons Wk.vec (Wks.cons Wk.vec (Wks.cons Wk.vec (Wks.nil)))))))))))))))))) Wks.nil) (WkH.refl _))), rfl, rfl⟩
 · (try dsimp only at h); refine Xa.panA (Xv N _ _ h_4) [] ?_; (try simp only [Xc, Xb, Xe]); cases h; rw [← hQ]; exact ⟨rfl, _, _, RefV.dead rfl, rfl, rfl⟩
theorem Xn (N : Nat) (l_0 : List Int) (a_1 : Int) (a_2 : Int) (c_0 : Bool) (o : (Int) ⊕ Unit) (h : XB N l_0 a_1 a_2 = some o) :
  Xa Try.prog 65 [.ptr 0 0 0] [.box [.vec c_0 (List.map eU8 l_0), .int .i64 a_1, .int .i64 a_2] 123] (fun e H => match o with | .inl z_1 => H = [.box [.vec c_0 (List.map eU8 l_0), .int .i64 a_1, .int .i64 (IntKind.i64.wrap (a_2 + 2))] 123] ∧ e = .ret (.int .i64 z_1) | .inr _ => H = [.dead] ∧ e = .pan (.iface 91 (.agg []))) := by
 unfold XB at h; refine Xa.goN Try.func65 n65 a65 Try.ntmps65 r65 (by simp) 1 rfl ?_; generalize hQ : bodyA _ _ _ = QQ; obtain ⟨⟨y_1, y_2⟩, h_3, h⟩ := bindS h; (try dsimp only at h); simp only [A65, go_sem, seval]; refine Xa.use0 (Jt N _ _ c_0 _ _ h_3) rfl rfl ?_; obtain ⟨o_5, h_4, h⟩ := bindS h; simp only [go_sem, seval]; rcases o_5 with _ | _
 · (try dsimp only at h); refine Xa.go0 (Xv N _ _ h_4) ?_; simp only [go_sem, seval]; cases h; rw [← hQ]; exact ⟨rfl, _, rfl, _, _, (RefV.std [0] (by decide) (by decide) rfl (by first | rfl | simp only [go_sem, seval])), rfl, rfl⟩
 · (try dsimp only at h); refine Xa.panA (Xv N _ _ h_4) [] ?_; (try simp only [Xc, Xb, Xe]); cases h; rw [← hQ]; exact ⟨rfl, _, _, RefV.dead rfl, rfl, rfl⟩
theorem Yo (N : Nat) (l_0 : List Int) (a_1 : Int) (a_2 : Int) (c_0 : Bool) (o : ((List TSpan)) ⊕ Unit) (h : YF N l_0 a_1 a_2 = some o) :
  Xa Try.prog 84 [.ptr 0 0 0] [.box [.vec c_0 (List.map eU8 l_0), .int .i64 a_1, .int .i64 a_2] 123] (fun e H => match o with | .inl z_1 => H = [.box [.vec c_0 (List.map eU8 l_0), .int .i64 a_1, .int .i64 (IntKind.i64.wrap (a_2 + 2))] 123] ∧ e = .ret (.vec false (List.map Xi z_1)) | .inr _ => H = [.dead] ∧ e = .pan (.iface 91 (.agg []))) := by
 unfold YF at h; refine Xa.goN Try.func84 n84 a84 Try.ntmps84 r84 (by simp) 1 rfl ?_; generalize hQ : bodyA _ _ _ = QQ; obtain ⟨o_3, h_2, h⟩ := bindS h; simp only [A84, go_sem, seval]; rcases o_3 with y_1 | _
 ·
  (try dsimp only at h); refine Xa.useA (Xn N _ _ _ c_0 _ h_2) [0] ?_; obtain ⟨⟨y_5, y_6⟩, h_7, h⟩ := bindS h; (try dsimp only at h); simp only [go_sem, seval]; refine Xa.use0 (Xef N _ _ c_0 _ _ h_7) rfl rfl ?_; obtain ⟨o_9, h_8, h⟩ := bindS h; simp only [go_sem, seval]; rcases o_9 with _ | _
  · (try dsimp only at h); refine Xa.go0 (Xv N _ _ h_8) ?_; simp only [go_sem, seval]; cases h; rw [← hQ]; exact ⟨rfl, _, rfl, _, _, (RefV.std [0] (by decide) (by decide) rfl (by first | rfl | simp only [go_sem, seval])), rfl, rfl⟩
  · (try dsimp only at h); refine Xa.panA (Xv N _ _ h_8) [] ?_; (try simp only [Xc, Xb, Xe]); cases h; rw [← hQ]; exact ⟨rfl, _, _, RefV.dead rfl, rfl, rfl⟩
 · (try dsimp only at h); refine Xa.panA (Xn N _ _ _ c_0 _ h_2) [0] ?_; (try simp only [Xc, Xb, Xe]); cases h; rw [← hQ]; exact ⟨rfl, _, _, RefV.dead rfl, rfl, rfl⟩
theorem XE (N : Nat) (l_0 : List Int) (a_1 : Int) (a_2 : Int) (a_3 : Int) (a_4 : Int) (c_0 : Bool) (o : (Int) ⊕ Unit) (h : Yd N l_0 a_1 a_2 a_3 a_4 = some o) :
  Xa Try.prog 89 [.ptr 0 0 0, .int .i64 a_3, .int .i64 a_4] [.box [.vec c_0 (List.map eU8 l_0), .int .i64 a_1, .int .i64 a_2] 123] (fun e H => match o with | .inl z_1 => H = [.box [.vec c_0 (List.map eU8 l_0), .int .i64 a_1, .int .i64 (IntKind.i64.wrap (a_2 + 2))] 123] ∧ e = .ret (.int .i64 z_1) | .inr _ => H = [.dead] ∧ e = .pan (.iface 91 (.agg []))) := by
 unfold Yd at h; refine Xa.goN Try.func89 n89 a89 Try.ntmps89 r89 (by simp) 1 rfl ?_; generalize hQ : bodyA _ _ _ = QQ; obtain ⟨o_3, h_2, h⟩ := bindS h; simp only [A89, go_sem, seval]; rcases o_3 with y_1 | _
 ·
  (try dsimp only at h); refine Xa.goA (Xn N _ _ _ c_0 _ h_2) [0] ?_; simp only [go_sem, seval]; rcases iteS h with ⟨e_6, h⟩ | ⟨e_6, h⟩
  ·
   obtain ⟨o_8, h_7, h⟩ := bindS h; simp only [e_6, go_sem, seval]; rcases o_8 with _ | _
   · (try dsimp only at h); refine Xa.go0 (Xv N _ _ h_7) ?_; have e_10 := eq_true (of_decide_eq_true (Ja h_7)); simp only [e_6, e_10, go_sem, seval]; cases h; rw [← hQ]; exact ⟨rfl, _, rfl, _, _, (RefV.std [0] (by decide) (by decide) rfl (by first | rfl | simp only [go_sem, seval, e_6, e_10])), rfl, rfl⟩
   · (try dsimp only at h); refine Xa.panA (Xv N _ _ h_7) [] ?_; (try simp only [Xc, Xb, Xe]); cases h; rw [← hQ]; exact ⟨rfl, _, _, RefV.dead rfl, rfl, rfl⟩
  ·
   obtain ⟨o_12, h_11, h⟩ := bindS h; simp only [e_6, go_sem, seval]; rcases o_12 with _ | _
   · (try dsimp only at h); refine Xa.go0 (Xv N _ _ h_11) ?_; exact no0 h
   · (try dsimp only at h); refine Xa.panA (Xv N _ _ h_11) [] ?_; (try simp only [Xc, Xb, Xe]); cases h; rw [← hQ]; exact ⟨rfl, _, _, RefV.dead rfl, rfl, rfl⟩
 · (try dsimp only at h); refine Xa.panA (Xn N _ _ _ c_0 _ h_2) [0] ?_; (try simp only [Xc, Xb, Xe]); cases h; rw [← hQ]; exact ⟨rfl, _, _, RefV.dead rfl, rfl, rfl⟩
theorem ZA (N : Nat) (l_0 : List Int) (a_1 : Int) (a_2 : Int) (c_0 : Bool) (o : (Int) ⊕ Unit) (h : Zf N l_0 a_1 a_2 = some o) :
  Xa Try.prog 85 [.ptr 0 0 0] [.box [.vec c_0 (List.map eU8 l_0), .int .i64 a_1, .int .i64 a_2] 123] (fun e H => match o with | .inl z_1 => H = [.box [.vec c_0 (List.map eU8 l_0), .int .i64 a_1, .int .i64 (IntKind.i64.wrap (a_2 + 2))] 123, .box [.int .i64 z_1] 3] ∧ e = .ret (.fn (.func 103) [] [.ptr 1 0 0]) | .inr _ => H = [.dead] ∧ e = .pan (.iface 91 (.agg []))) := by
 unfold Zf at h; refine Xa.goN Try.func85 n85 a85 Try.ntmps85 r85 (by simp) 1 rfl ?_; generalize hQ : bodyA _ _ _ = QQ; obtain ⟨o_3, h_2, h⟩ := bindS h; simp only [A85, go_sem, seval]; rcases o_3 with y_1 | _
 · (try dsimp only at h); refine Xa.goA (XE N _ _ _ _ _ c_0 _ h_2) [0] ?_; simp only [go_sem, seval]; cases h; rw [← hQ]; exact ⟨rfl, _, rfl, _, _, (RefV.std [0, 1] (by decide) (by decide) rfl (by first | rfl | simp only [go_sem, seval])), rfl, rfl⟩
 · (try dsimp only at h); refine Xa.panA (XE N _ _ _ _ _ c_0 _ h_2) [0] ?_; (try simp only [Xc, Xb, Xe]); cases h; rw [← hQ]; exact ⟨rfl, _, _, RefV.dead rfl, rfl, rfl⟩
theorem XY (N : Nat) (l_0 : List Int) (a_1 : Int) (a_2 : Int) (a_3 : Int) (c_0 : Bool) (o : (Int) ⊕ Unit) (h : Yu N l_0 a_1 a_2 a_3 = some o) :
  Xa Try.prog 86 [.ptr 0 0 0, .int .i64 a_3] [.box [.vec c_0 (List.map eU8 l_0), .int .i64 a_1, .int .i64 a_2] 123] (fun e H => match o with | .inl z_1 => H = [.box [.vec c_0 (List.map eU8 l_0), .int .i64 a_1, .int .i64 (IntKind.i64.wrap (a_2 + 2))] 123] ∧ e = .ret (.int .i64 z_1) | .inr _ => H = [.dead] ∧ e = .pan (.iface 91 (.agg []))) := by
 unfold Yu at h; refine Xa.goN Try.func86 n86 a86 Try.ntmps86 r86 (by simp) 1 rfl ?_; generalize hQ : bodyA _ _ _ = QQ; obtain ⟨o_3, h_2, h⟩ := bindS h; simp only [A86, go_sem, seval]; rcases o_3 with y_1 | _
 · (try dsimp only at h); refine Xa.goA (XE N _ _ _ _ _ c_0 _ h_2) [0] ?_; simp only [go_sem, seval]; cases h; rw [← hQ]; exact ⟨rfl, _, rfl, _, _, (RefV.std [0] (by decide) (by decide) rfl (by first | rfl | simp only [go_sem, seval])), rfl, rfl⟩
 · (try dsimp only at h); refine Xa.panA (XE N _ _ _ _ _ c_0 _ h_2) [0] ?_; (try simp only [Xc, Xb, Xe]); cases h; rw [← hQ]; exact ⟨rfl, _, _, RefV.dead rfl, rfl, rfl⟩
theorem Zp (N : Nat) (l_0 : List Int) (a_1 : Int) (a_2 : Int) (c_0 : Bool) (o : (Int) ⊕ Unit) (h : YV N l_0 a_1 a_2 = some o) :
  Xa Try.prog 104 [.ptr 0 0 0] [.box [.vec c_0 (List.map eU8 l_0), .int .i64 a_1, .int .i64 a_2] 123] (fun e H => match o with | .inl z_1 => H = [.box [.vec c_0 (List.map eU8 l_0), .int .i64 a_1, .int .i64 (IntKind.i64.wrap (a_2 + 2))] 123] ∧ e = .ret (.int .i64 z_1) | .inr _ => H = [.dead] ∧ e = .pan (.iface 91 (.agg []))) := by
 unfold YV at h; refine Xa.goN Try.func104 n104 a104 Try.ntmps104 r104 (by simp) 1 rfl ?_; generalize hQ : bodyA _ _ _ = QQ; obtain ⟨o_3, h_2, h⟩ := bindS h; simp only [A104, go_sem, seval]; rcases o_3 with y_1 | _
 · (try dsimp only at h); refine Xa.goA (Xn N _ _ _ c_0 _ h_2) [0] ?_; simp only [go_sem, seval]; cases h; rw [← hQ]; exact ⟨rfl, _, rfl, _, _, (RefV.std [0] (by decide) (by decide) rfl (by first | rfl | simp only [go_sem, seval])), rfl, rfl⟩
 · (try dsimp only at h); refine Xa.panA (Xn N _ _ _ c_0 _ h_2) [0] ?_; (try simp only [Xc, Xb, Xe]); cases h; rw [← hQ]; exact ⟨rfl, _, _, RefV.dead rfl, rfl, rfl⟩
theorem Xbh (N : Nat) (l_0 : List Int) (a_1 : Int) (a_3 : Int) (c_0 : Bool) {R : AExit → ATm → List AObj → Prop} : ∀ (n : Nat) (i_1 : Int) (i_2 : Int) (i_3 : Int) (i_4 : Int) (i_5 : Int) (i_6 : Int) (i_7 : Int) (i_8 : Int) (i_9 : Int) (i_10 : Int) (o : (Int × Int × Int × Int × Int × Int × Int × Int × Int) ⊕ (Unit)), Xq N l_0 a_1 a_3 n i_1 i_2 i_3 i_4 i_5 i_6 i_7 i_8 i_9 i_10 = some o → (match o with | .inl (z_1, z_2, z_3, z_4, z_5, z_6, z_7, z_8, z_9) => R (.exit 0) ⟨28, [(3, .ptr 2 0 0), (4, .ptr 3 0 0)], []⟩ [.box [.vec c_0 (List.map eU8 l_0), .int .i64 a_1, .int .i64 z_1] 123, .box [.int .i64 a_3] 3, .box [.int .i64 0, .int .i64 0, .int .i64 0, .int .i64 0] 89, .box [.int .i64 z_2, .int .i64 z_3, .int .i64 z_4, .int .i64 z_5, .int .i64 z_6, .int .i64 z_7, .int .i64 z_8, .int .i64 z_9] 156] | .inr (_) => ∀ (tb : ATm) (Hb : List AObj), tb.ds = [] → R (.pan (.iface 91 (.agg []))) tb Hb) →
  ALp Try.prog 2 B103_1 ⟨28, [(0, .ptr 0 0 0), (1, .ptr 1 0 0), (3, .ptr 2 0 0), (4, .ptr 3 0 0), (6, .int .i64 i_1)], []⟩ [.box [.vec c_0 (List.map eU8 l_0), .int .i64 a_1, .int .i64 i_2] 123, .box [.int .i64 a_3] 3, .box [.int .i64 0, .int .i64 0, .int .i64 0, .int .i64 0] 89, .box [.int .i64 i_3, .int .i64 i_4, .int .i64 i_5, .int .i64 i_6, .int .i64 i_7, .int .i64 i_8, .int .i64 i_9, .int .i64 i_10] 156] R := by
 intro n
 induction n with
 | zero =>
  intro i_1 i_2 i_3 i_4 i_5 i_6 i_7 i_8 i_9 i_10 o h _; exact no0 h
 | succ n ih =>
  intro i_1 i_2 i_3 i_4 i_5 i_6 i_7 i_8 i_9 i_10 o h hp; rw [Xq] at h; refine ALp.round ?_; generalize hQ : YB _ _ _ _ = QQ; simp only [B103_1, A103, go_sem, seval]; rcases iteS h with ⟨e_12, h⟩ | ⟨e_12, h⟩
  ·
   obtain ⟨e_14, h⟩ := guardE h; simp only [e_12, e_14, go_sem, seval]; rcases iteS h with ⟨e_16, h⟩ | ⟨e_16, h⟩
   ·
    obtain ⟨o_19, h_18, h⟩ := bindS h; simp only [e_12, e_14, e_16, go_sem, seval]; rcases o_19 with y_17 | _
    ·
     (try dsimp only at h); refine Xa.goA (Zp N _ _ _ c_0 _ h_18) [0] (ho := ⟨(by first | rfl | simp only [go_sem, seval, e_12, e_16]), trivial⟩) ?_; simp only [e_12, e_14, e_16, go_sem, seval]; rcases iteS h with ⟨e_22, h⟩ | ⟨e_22, h⟩
     ·
      have e_23 : ((0 : Int) ≤ i_1) = True := eq_true (by have := of_eq_true e_22; omega); have e_24 : ((i_1 : Int) < 8) = True := eq_true (by have := of_eq_true e_22; omega)
      have e_25 : (i_1).toNat = 0 := by have := of_eq_true e_22; omega
      (try simp only [e_12, e_14, e_16, e_22, e_23, e_24, e_25, go_sem, seval]); rw [← hQ]; exact ⟨_, _, (Ref.std [0, 1, 3, 4, 6] [0, 1, 2, 3] (by decide) (by decide) rfl (by rfl)), (by simp), ih _ _ _ _ _ _ _ _ _ _ _ h hp⟩
     ·
      (try simp only [e_12, e_14, e_16, e_22, go_sem, seval]); rcases iteS h with ⟨e_27, h⟩ | ⟨e_27, h⟩
      ·
       have e_28 : ((0 : Int) ≤ i_1) = True := eq_true (by have := of_eq_true e_27; omega); have e_29 : ((i_1 : Int) < 8) = True := eq_true (by have := of_eq_true e_27; omega)
       have e_30 : (i_1).toNat = 1 := by have := of_eq_true e_27; omega
       (try simp only [e_12, e_14, e_16, e_22, e_27, e_28, e_29, e_30, go_sem, seval]); rw [← hQ]; exact ⟨_, _, (Ref.std [0, 1, 3, 4, 6] [0, 1, 2, 3] (by decide) (by decide) rfl (by rfl)), (by simp), ih _ _ _ _ _ _ _ _ _ _ _ h hp⟩
      ·
       (try simp only [e_12, e_14, e_16, e_22, e_27, go_sem, seval]); rcases iteS h with ⟨e_32, h⟩ | ⟨e_32, h⟩
       ·
        have e_33 : ((0 : Int) ≤ i_1) = True := eq_true (by have := of_eq_true e_32; omega); have e_34 : ((i_1 : Int) < 8) = True := eq_true (by have := of_eq_true e_32; omega)
        have e_35 : (i_1).toNat = 2 := by have := of_eq_true e_32; omega
        (try simp only [e_12, e_14, e_16, e_22, e_27, e_32, e_33, e_34, e_35, go_sem, seval]); rw [← hQ]; exact ⟨_, _, (Ref.std [0, 1, 3, 4, 6] [0, 1, 2, 3] (by decide) (by decide) rfl (by rfl)), (by simp), ih _ _ _ _ _ _ _ _ _ _ _ h hp⟩
       ·
        (try simp only [e_12, e_14, e_16, e_22, e_27, e_32, go_sem, seval]); rcases iteS h with ⟨e_37, h⟩ | ⟨e_37, h⟩
        ·
         have e_38 : ((0 : Int) ≤ i_1) = True := eq_true (by have := of_eq_true e_37; omega); have e_39 : ((i_1 : Int) < 8) = True := eq_true (by have := of_eq_true e_37; omega)
         have e_40 : (i_1).toNat = 3 := by have := of_eq_true e_37; omega
         (try simp only [e_12, e_14, e_16, e_22, e_27, e_32, e_37, e_38, e_39, e_40, go_sem, seval]); rw [← hQ]; exact ⟨_, _, (Ref.std [0, 1, 3, 4, 6] [0, 1, 2, 3] (by decide) (by decide) rfl (by rfl)), (by simp), ih _ _ _ _ _ _ _ _ _ _ _ h hp⟩
        ·
         (try simp only [e_12, e_14, e_16, e_22, e_27, e_32, e_37, go_sem, seval]); rcases iteS h with ⟨e_42, h⟩ | ⟨e_42, h⟩
         ·
          have e_43 : ((0 : Int) ≤ i_1) = True := eq_true (by have := of_eq_true e_42; omega); have e_44 : ((i_1 : Int) < 8) = True := eq_true (by have := of_eq_true e_42; omega)
          have e_45 : (i_1).toNat = 4 := by have := of_eq_true e_42; omega
          (try simp only [e_12, e_14, e_16, e_22, e_27, e_32, e_37, e_42, e_43, e_44, e_45, go_sem, seval]); rw [← hQ]; exact ⟨_, _, (Ref.std [0, 1, 3, 4, 6] [0, 1, 2, 3] (by decide) (by decide) rfl (by rfl)), (by simp), ih _ _ _ _ _ _ _ _ _ _ _ h hp⟩
         ·
          (try simp only [e_12, e_14, e_16, e_22, e_27, e_32, e_37, e_42, go_sem, seval]); rcases iteS h with ⟨e_47, h⟩ | ⟨e_47, h⟩
          ·
           have e_48 : ((0 : Int) ≤ i_1) = True := eq_true (by have := of_eq_true e_47; omega); have e_49 : ((i_1 : Int) < 8) = True := eq_true (by have := of_eq_true e_47; omega)
           have e_50 : (i_1).toNat = 5 := by have := of_eq_true e_47; omega
           (try simp only [e_12, e_14, e_16, e_22, e_27, e_32, e_37, e_42, e_47, e_48, e_49, e_50, go_sem, seval]); rw [← hQ]; exact ⟨_, _, (Ref.std [0, 1, 3, 4, 6] [0, 1, 2, 3] (by decide) (by decide) rfl (by rfl)), (by simp), ih _ _ _ _ _ _ _ _ _ _ _ h hp⟩
          ·
           (try simp only [e_12, e_14, e_16, e_22, e_27, e_32, e_37, e_42, e_47, go_sem, seval]); rcases iteS h with ⟨e_52, h⟩ | ⟨e_52, h⟩
           ·
            have e_53 : ((0 : Int) ≤ i_1) = True := eq_true (by have := of_eq_true e_52; omega); have e_54 : ((i_1 : Int) < 8) = True := eq_true (by have := of_eq_true e_52; omega)
            have e_55 : (i_1).toNat = 6 := by have := of_eq_true e_52; omega
            (try simp only [e_12, e_14, e_16, e_22, e_27, e_32, e_37, e_42, e_47, e_52, e_53, e_54, e_55, go_sem, seval]); rw [← hQ]; exact ⟨_, _, (Ref.std [0, 1, 3, 4, 6] [0, 1, 2, 3] (by decide) (by decide) rfl (by rfl)), (by simp), ih _ _ _ _ _ _ _ _ _ _ _ h hp⟩
           ·
            (try simp only [e_12, e_14, e_16, e_22, e_27, e_32, e_37, e_42, e_47, e_52, go_sem, seval]); rcases iteS h with ⟨e_57, h⟩ | ⟨e_57, h⟩
            ·
             have e_58 : ((0 : Int) ≤ i_1) = True := eq_true (by have := of_eq_true e_57; omega); have e_59 : ((i_1 : Int) < 8) = True := eq_true (by have := of_eq_true e_57; omega)
             have e_60 : (i_1).toNat = 7 := by have := of_eq_true e_57; omega
             (try simp only [e_12, e_14, e_16, e_22, e_27, e_32, e_37, e_42, e_47, e_52, e_57, e_58, e_59, e_60, go_sem, seval]); rw [← hQ]; exact ⟨_, _, (Ref.std [0, 1, 3, 4, 6] [0, 1, 2, 3] (by decide) (by decide) rfl (by rfl)), (by simp), ih _ _ _ _ _ _ _ _ _ _ _ h hp⟩
            · exact no0 h
    · (try dsimp only at h); refine Xa.panA (Zp N _ _ _ c_0 _ h_18) [0] (ho := ⟨(by first | rfl | simp only [go_sem, seval, e_12, e_16]), trivial⟩) ?_; (try simp only [Xc, Xb, Xe]); cases h; rw [← hQ]; exact hp _ _ rfl
   · simp only [e_12, e_14, e_16, go_sem, seval]; rw [← hQ]; exact ⟨_, _, (Ref.std [0, 1, 3, 4, 6] [0, 1, 2, 3] (by decide) (by decide) rfl (by rfl)), (by simp), ih _ _ _ _ _ _ _ _ _ _ _ h hp⟩
  · simp only [e_12, go_sem, seval]; cases h; rw [← hQ]; exact ⟨_, _, (Ref.std [3, 4] [0, 1, 2, 3] (by decide) (by decide) rfl (by rfl)), hp⟩
theorem XL (N : Nat) (l_0 : List Int) (a_1 : Int) (a_2 : Int) (a_3 : Int) (c_0 : Bool) (o : (Int × Int × Int × Int × Int) ⊕ Unit) (h : Yf N l_0 a_1 a_2 a_3 = some o) :
  Xa Try.prog 103 [.ptr 0 0 0, .ptr 1 0 0] [.box [.vec c_0 (List.map eU8 l_0), .int .i64 a_1, .int .i64 a_2] 123, .box [.int .i64 a_3] 3] (fun e H => match o with | .inl (z_1, z_2, z_3, z_4, z_5) => H = [.box [.vec c_0 (List.map eU8 l_0), .int .i64 a_1, .int .i64 z_5] 123, .box [.int .i64 a_3] 3] ∧ e = .ret (.agg [.int .i64 z_1, .int .i64 z_2, .int .i64 z_3, .int .i64 z_4]) | .inr _ => H = [.dead, .dead] ∧ e = .pan (.iface 91 (.agg []))) := by
 unfold Yf at h; refine Xa.goN Try.func103 n103 a103 Try.ntmps103 r103 (by simp) 2 rfl ?_; generalize hQ : bodyA _ _ _ = QQ; simp only [A103, go_sem, seval]; obtain ⟨o_1011, h_1001, h⟩ := bindS h; refine ALp.ref (Ref.std [0, 1, 3, 4, 6] [0, 1, 2, 3] (by decide) (by decide) rfl (by rfl)) (by simp) (Xbh N _ _ _ c_0 N _ _ _ _ _ _ _ _ _ _ o_1011 h_1001 ?_); rcases o_1011 with ⟨y_1002, y_1003, y_1004, y_1005, y_1006, y_1007, y_1008, y_1009, y_1010⟩ | _
 · (try dsimp only at h); refine XJ rfl (by simp) ?_; simp only [go_sem, seval]; cases h; rw [← hQ]; exact ⟨rfl, _, rfl, _, _, (RefV.std [0, 1] (by decide) (by decide) rfl (by first | rfl | simp only [go_sem, seval])), rfl, rfl⟩
 · (try dsimp only at h); intro _ _ h_1012; refine Zo ?_; cases h; rw [← hQ]; exact ⟨h_1012, _, _, RefV.dead rfl, rfl, rfl⟩
end Go.Proofs.Ytfacmhngbaboiaa.AI
