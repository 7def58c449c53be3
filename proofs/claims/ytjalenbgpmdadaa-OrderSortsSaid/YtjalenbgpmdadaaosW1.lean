/- Part of a proof. -/
import Derived.Test.YtjalenbgpmdadaaosP
import Derived.Test.YtjalenbgpmdadaaosA
set_option linter.unusedVariables false
set_option linter.unusedSimpArgs false
set_option maxRecDepth 100000
set_option maxHeartbeats 1000000
namespace Go.Proofs.Ytjalenbgpmdadaa.AI
open Go.Proofs (Try.prog)
def eI64 (x : Int) : List AV := [.int .i64 x]
theorem subs_eI64 (S : Sub) (l : List Int) : (List.map eI64 l).map (subs S) = List.map eI64 l := subs_map S l eI64 (fun _ => rfl)
def eB (x : Bool) : List AV := [.bool x]
theorem subs_eB (S : Sub) (l : List Bool) : (List.map eB l).map (subs S) = List.map eB l := subs_map S l eB (fun _ => rfl)
def eS (x : ByteArray) : List AV := [.str x]
theorem subs_eS (S : Sub) (l : List ByteArray) : (List.map eS l).map (subs S) = List.map eS l := subs_map S l eS (fun _ => rfl)
def eTGlyph (x : TGlyph) : List AV := [.int .i64 x.Id, .int .i64 x.Cluster, .int .i64 x.Mask, .int .i64 x.Syl, .int .i32 x.Code, .int .i64 x.Cat, .int .i64 x.Pos, .int .i64 x.Key, .int .i64 x.Lig, .int .i64 x.Part, .int .i64 x.X, .int .i64 x.Y, .int .i64 x.Wide, .int .i64 x.High]
theorem subs_eTGlyph (S : Sub) (l : List TGlyph) : (List.map eTGlyph l).map (subs S) = List.map eTGlyph l := subs_map S l eTGlyph (fun _ => rfl)
def eTArr2_I64 (x : TArr2_I64) : List AV := [.int .i64 x.e0, .int .i64 x.e1]
theorem subs_eTArr2_I64 (S : Sub) (l : List TArr2_I64) : (List.map eTArr2_I64 l).map (subs S) = List.map eTArr2_I64 l := subs_map S l eTArr2_I64 (fun _ => rfl)
theorem mk_eTGlyph (v_Id : Int) (v_Cluster : Int) (v_Mask : Int) (v_Syl : Int) (v_Code : Int) (v_Cat : Int) (v_Pos : Int) (v_Key : Int) (v_Lig : Int) (v_Part : Int) (v_X : Int) (v_Y : Int) (v_Wide : Int) (v_High : Int) : eTGlyph (TGlyph.mk v_Id v_Cluster v_Mask v_Syl v_Code v_Cat v_Pos v_Key v_Lig v_Part v_X v_Y v_Wide v_High) = [.int .i64 v_Id, .int .i64 v_Cluster, .int .i64 v_Mask, .int .i64 v_Syl, .int .i32 v_Code, .int .i64 v_Cat, .int .i64 v_Pos, .int .i64 v_Key, .int .i64 v_Lig, .int .i64 v_Part, .int .i64 v_X, .int .i64 v_Y, .int .i64 v_Wide, .int .i64 v_High] := rfl
theorem mk_eTArr2_I64 (v_e0 : Int) (v_e1 : Int) : eTArr2_I64 (TArr2_I64.mk v_e0 v_e1) = [.int .i64 v_e0, .int .i64 v_e1] := rfl
theorem wr0 : IntKind.i64.wrap 0 = 0 := rfl
theorem wr1 : IntKind.i64.wrap 1 = 1 := rfl
attribute [local go_sem] subs_eI64 subs_eB subs_eS subs_eTGlyph subs_eTArr2_I64 mk_eTGlyph mk_eTArr2_I64 wr0 wr1
def B3_1 : ACode := match A3 with | (.seq _ (.seq _ (.seq _ (.seq _ (.seq _ (.seq _ (.seq _ (.seq _ (.seq _ (.seq (.seq _ (.block _ (.loop b))) _)))))))))) => b | _ => .skip
def B3_2 : ACode := match A3 with | (.seq _ (.seq _ (.seq _ (.seq _ (.seq _ (.seq _ (.seq _ (.seq _ (.seq _ (.seq _ (.seq _ (.seq _ (.seq (.seq _ (.block _ (.loop b))) _))))))))))))) => b | _ => .skip
def B6_1 : ACode := match A6 with | (.seq _ (.seq (.seq _ (.block _ (.seq _ (.cond _ _ (.seq _ (.cond _ (.seq _ (.seq _ (.block _ (.loop b)))) _)))))) _)) => b | _ => .skip
def B13_1 : ACode := match A13 with | (.seq _ (.seq _ (.seq (.seq _ (.block _ (.loop b))) _))) => b | _ => .skip
def B7_1 : ACode := match A7 with | (.seq _ (.scope (.seq _ (.seq _ (.seq _ (.seq (.seq _ (.block _ (.loop b))) _)))))) => b | _ => .skip
def B8_1 : ACode := match A8 with | (.seq _ (.seq _ (.seq _ (.seq (.block _ (.loop b)) _)))) => b | _ => .skip
def B8_2 : ACode := match A8 with | (.seq _ (.seq _ (.seq _ (.seq _ (.seq _ (.seq (.seq _ (.block _ (.loop b))) _)))))) => b | _ => .skip
def B10_1 : ACode := match A10 with | (.seq _ (.seq _ (.seq (.seq _ (.block _ (.loop b))) _))) => b | _ => .skip
def B11_1 : ACode := match A11 with | (.seq _ (.seq _ (.seq (.seq _ (.block _ (.loop b))) _))) => b | _ => .skip
def B5_1 : ACode := match A5 with | (.seq _ (.seq _ (.seq _ (.seq _ (.seq (.seq _ (.block _ (.loop b))) _))))) => b | _ => .skip
def B20_1 : ACode := match A20 with | (.seq _ (.seq _ (.seq _ (.seq (.seq _ (.block _ (.loop b))) _)))) => b | _ => .skip
def B9_1 : ACode := match A9 with | (.seq _ (.seq _ (.seq _ (.seq (.seq _ (.block _ (.loop b))) _)))) => b | _ => .skip
def B23_1 : ACode := match A23 with | (.seq _ (.seq _ (.seq (.block _ (.loop b)) _))) => b | _ => .skip
def B23_2 : ACode := match A23 with | (.seq _ (.seq _ (.seq _ (.seq _ (.block _ (.loop b)))))) => b | _ => .skip
def B23_3 : ACode := match B23_2 with | (.seq _ (.block _ (.seq _ (.seq (.block _ (.loop b)) _)))) => b | _ => .skip
def B26_1 : ACode := match A26 with | (.seq _ (.block _ (.loop b))) => b | _ => .skip
def B26_2 : ACode := match B26_1 with | (.seq _ (.seq (.block _ (.seq _ (.block _ (.loop b)))) _)) => b | _ => .skip
def B27_1 : ACode := match A27 with | (.seq (.seq _ (.cond _ (.seq _ (.seq _ (.seq (.block _ (.loop b)) _))) _)) _) => b | _ => .skip
def B27_2 : ACode := match A27 with | (.seq (.seq _ (.cond _ (.seq _ (.seq _ (.seq _ (.seq (.seq _ (.block _ (.loop b))) _)))) _)) _) => b | _ => .skip
def B27_3 : ACode := match A27 with | (.seq _ (.seq (.seq _ (.cond _ (.seq _ (.seq _ (.seq (.block _ (.loop b)) _))) _)) _)) => b | _ => .skip
def B27_4 : ACode := match A27 with | (.seq _ (.seq (.seq _ (.cond _ (.seq _ (.seq _ (.seq _ (.seq (.seq _ (.block _ (.loop b))) _)))) _)) _)) => b | _ => .skip
def B27_5 : ACode := match A27 with | (.seq _ (.seq _ (.seq _ (.seq _ (.seq _ (.seq _ (.seq _ (.seq (.block _ (.loop b)) _)))))))) => b | _ => .skip
def B28_1 : ACode := match A28 with | (.seq _ (.seq _ (.seq (.block _ (.loop b)) _))) => b | _ => .skip
def B29_1 : ACode := match A29 with | (.seq _ (.block _ (.loop b))) => b | _ => .skip
def B19_1 : ACode := match A19 with | (.seq _ (.seq _ (.seq _ (.seq _ (.seq (.seq _ (.block _ (.loop b))) _))))) => b | _ => .skip
def B19_2 : ACode := match A19 with | (.seq _ (.seq _ (.seq _ (.seq _ (.seq _ (.seq _ (.seq (.seq _ (.block _ (.loop b))) _))))))) => b | _ => .skip
def B24_1 : ACode := match A24 with | (.seq _ (.seq _ (.seq (.seq _ (.block _ (.loop b))) _))) => b | _ => .skip
def B24_2 : ACode := match A24 with | (.seq _ (.seq _ (.seq _ (.seq _ (.seq _ (.seq (.seq _ (.block _ (.loop b))) _)))))) => b | _ => .skip
def B25_1 : ACode := match A25 with | (.seq _ (.seq _ (.seq _ (.seq _ (.seq (.seq _ (.block _ (.loop b))) _))))) => b | _ => .skip
def B25_2 : ACode := match A25 with | (.seq _ (.seq _ (.seq _ (.seq _ (.seq _ (.seq _ (.seq (.block _ (.loop b)) _))))))) => b | _ => .skip
def B25_3 : ACode := match A25 with | (.seq _ (.seq _ (.seq _ (.seq _ (.seq _ (.seq _ (.seq _ (.seq (.block _ (.loop b)) _)))))))) => b | _ => .skip
def B25_4 : ACode := match A25 with | (.seq _ (.seq _ (.seq _ (.seq _ (.seq _ (.seq _ (.seq _ (.seq _ (.seq (.seq _ (.block _ (.loop b))) _))))))))) => b | _ => .skip
theorem order_begins_L1_w (N : Nat) (l_0 : List Int) (l_1 : List Int) (c_0 : Bool) (c_1 : Bool) {R : AExit → ATm → List AObj → Prop} : ∀ (n : Nat) (i_3 : Int) (o : (Unit) ⊕ (Unit)), order_begins_L1 N l_0 l_1 n i_3 = some o → (match o with | .inl _ => R (.exit 0) ⟨26, [], []⟩ [] | .inr (_) => R .ret ⟨26, [(4, .bool false)], []⟩ []) →
  ALp Try.prog 0 B13_1 ⟨26, [(0, .vec c_0 (List.map eI64 l_0)), (12, .vec c_1 (List.map eI64 l_1)), (13, .int .i64 (l_1.length : Int)), (14, .int .i64 i_3)], []⟩ [] R := by
 intro n
 induction n with
 | zero =>
  intro i_3 o h _; exact no0 h
 | succ n ih =>
  intro i_3 o h hp; rw [order_begins_L1] at h; refine ALp.round ?_; generalize hQ : RoundQ _ _ _ _ = QQ; simp only [B13_1, A13, go_sem, seval]; rcases iteS h with ⟨e_5, h⟩ | ⟨e_5, h⟩
  ·
   obtain ⟨x_6, h_7, h⟩ := bindS h; have e_8 : (List.map eI64 l_1)[(i_3).toNat]? = some [.int .i64 x_6] := atI_map eI64 h_7; have e_9 := eq_true (atI_some h_7).1; have e_10 := eq_true (atI_lt h_7); obtain ⟨x_11, h_12, h⟩ := bindS h; have e_13 : (List.map eI64 l_0)[(i_3).toNat]? = some [.int .i64 x_11] := atI_map eI64 h_12; have e_14 := eq_true (atI_some h_12).1; have e_15 := eq_true (atI_lt h_12); simp only [e_5, e_8, e_9, e_10, e_13, e_14, e_15, go_sem, seval]; rcases iteS h with ⟨e_17, h⟩ | ⟨e_17, h⟩
   · simp only [e_5, e_8, e_9, e_10, e_13, e_14, e_15, e_17, go_sem, seval]; rw [← hQ]; exact ⟨_, _, (Ref.out [0, 12, 13, 14] rfl), (Nat.zero_le _), ih _ _ h hp⟩
   · simp only [e_5, e_8, e_9, e_10, e_13, e_14, e_15, e_17, go_sem, seval]; cases h; rw [← hQ]; exact ⟨_, _, (Ref.out [4] rfl), hp⟩
  · simp only [e_5, go_sem, seval]; cases h; rw [← hQ]; exact ⟨_, _, (Ref.out [] rfl), hp⟩
theorem order_begins_w (N : Nat) (l_0 : List Int) (l_1 : List Int) (c_0 : Bool) (c_1 : Bool) (z_1 : Bool) (h : order_begins N l_0 l_1 = some z_1) :
  ACalls Try.prog 13 [.vec c_0 (List.map eI64 l_0), .vec c_1 (List.map eI64 l_1)] [] (fun e H => H = [] ∧ e = .ret (.bool z_1)) := by
 unfold order_begins at h; refine ACalls.goN Try.func13 n13 a13 Try.ntmps13 r13 (by simp) 0 rfl ?_; generalize hQ : bodyA _ _ _ = QQ; simp only [A13, go_sem, seval]; rcases iteS h with ⟨e_2, h⟩ | ⟨e_2, h⟩
 · simp only [e_2, go_sem, seval]; obtain rfl := si h; rw [← hQ]; exact ⟨rfl, _, rfl, _, _, (RefV.out rfl), rfl, rfl⟩
 ·
  simp only [e_2, go_sem, seval]; obtain ⟨o_1004, h_1003, h⟩ := bindS h; refine ALp.ref (Ref.out [0, 12, 13, 14] rfl) (Nat.zero_le _) (order_begins_L1_w N _ _ c_0 c_1 N _ o_1004 h_1003 ?_); rcases o_1004 with _ | _
  · (try dsimp only at h); refine LoopK_go rfl (Nat.zero_le _) ?_; simp only [e_2, go_sem, seval]; obtain rfl := si h; rw [← hQ]; exact ⟨rfl, _, rfl, _, _, (RefV.out rfl), rfl, rfl⟩
  · (try dsimp only at h); refine LoopK_ret ?_; obtain rfl := si h; rw [← hQ]; exact ⟨rfl, _, rfl, _, _, (RefV.out rfl), rfl, rfl⟩
theorem order_Elsewhere_L1_w (N : Nat) (l_4 : List Int) {R : AExit → ATm → List AObj → Prop} : ∀ (n : Nat) (i_19 : Int) (o : (Unit) ⊕ (Unit)), order_Elsewhere_L1 N l_4 n i_19 = some o → (match o with | .inl _ => R (.exit 1) ⟨45, [], []⟩ [] | .inr (_) => R .ret ⟨45, [(6, .int .i64 2)], []⟩ []) →
  ALp Try.prog 0 B6_1 ⟨45, [(28, .vec false (List.map eI64 (slI l_4 2 (l_4.length : Int)))), (29, .int .i64 (((slI l_4 2 (l_4.length : Int)).length : Nat) : Int)), (30, .int .i64 i_19)], []⟩ [] R := by
 intro n
 induction n with
 | zero =>
  intro i_19 o h _; exact no0 h
 | succ n ih =>
  intro i_19 o h hp; rw [order_Elsewhere_L1] at h; refine ALp.round ?_; generalize hQ : RoundQ _ _ _ _ = QQ; simp only [B6_1, A6, go_sem, seval]; rcases iteS h with ⟨e_21, h⟩ | ⟨e_21, h⟩
  ·
   obtain ⟨x_22, h_23, h⟩ := bindS h; have e_24 : (List.map eI64 (slI l_4 2 (l_4.length : Int)))[(i_19).toNat]? = some [.int .i64 x_22] := atI_map eI64 h_23; have e_25 := eq_true (atI_some h_23).1; have e_26 := eq_true (atI_lt h_23); simp only [e_21, e_24, e_25, e_26, go_sem, seval]; rcases iteS h with ⟨e_28, h⟩ | ⟨e_28, h⟩
   · simp only [e_21, e_24, e_25, e_26, e_28, go_sem, seval]; cases h; rw [← hQ]; exact ⟨_, _, (Ref.out [6] rfl), hp⟩
   ·
    simp only [e_21, e_24, e_25, e_26, e_28, go_sem, seval]; rcases iteS h with ⟨e_30, h⟩ | ⟨e_30, h⟩
    · simp only [e_21, e_24, e_25, e_26, e_28, e_30, go_sem, seval]; cases h; rw [← hQ]; exact ⟨_, _, (Ref.out [6] rfl), hp⟩
    ·
     simp only [e_21, e_24, e_25, e_26, e_28, e_30, go_sem, seval]; rcases iteS h with ⟨e_32, h⟩ | ⟨e_32, h⟩
     · simp only [e_21, e_24, e_25, e_26, e_28, e_30, e_32, go_sem, seval]; cases h; rw [← hQ]; exact ⟨_, _, (Ref.out [6] rfl), hp⟩
     · simp only [e_21, e_24, e_25, e_26, e_28, e_30, e_32, go_sem, seval]; rw [← hQ]; exact ⟨_, _, (Ref.out [28, 29, 30] rfl), (Nat.zero_le _), ih _ _ h hp⟩
  · simp only [e_21, go_sem, seval]; cases h; rw [← hQ]; exact ⟨_, _, (Ref.out [] rfl), hp⟩
theorem order_Elsewhere_w (N : Nat) (a_0 : Int) (w_1 : ByteArray) (b_2 : Bool) (a_3 : Int) (l_4 : List Int) (b_5 : Bool) (c_0 : Bool) (z_1 : Int) (h : order_Elsewhere N a_0 w_1 b_2 a_3 l_4 b_5 = some z_1) :
  ACalls Try.prog 6 [.agg [.int .i64 a_0, .str w_1, .bool b_2, .int .i64 a_3], .vec c_0 (List.map eI64 l_4), .bool b_5] [] (fun e H => H = [] ∧ e = .ret (.int .i64 z_1)) := by
 unfold order_Elsewhere at h; refine ACalls.goN Try.func6 n6 a6 Try.ntmps6 r6 (by simp) 0 rfl ?_; generalize hQ : bodyA _ _ _ = QQ; simp only [A6, go_sem, seval]; rcases iteS h with ⟨e_2, h⟩ | ⟨e_2, h⟩
 ·
  obtain ⟨y_3, h_4, h⟩ := bindS h; simp only [e_2, go_sem, seval]; refine ACalls.go0 (order_begins_w N _ _ c_0 true _ h_4) ?_; simp only [e_2, go_sem, seval]; rcases iteB h with ⟨e_6, h⟩ | ⟨e_6, h⟩
  · simp only [e_2, e_6, go_sem, seval]; obtain rfl := si h; rw [← hQ]; exact ⟨rfl, _, rfl, _, _, (RefV.out rfl), rfl, rfl⟩
  · simp only [e_2, e_6, go_sem, seval]; obtain rfl := si h; rw [← hQ]; exact ⟨rfl, _, rfl, _, _, (RefV.out rfl), rfl, rfl⟩
 ·
  simp only [e_2, go_sem, seval]; rcases iteS h with ⟨e_8, h⟩ | ⟨e_8, h⟩
  ·
   simp only [e_2, e_8, go_sem, seval]; rcases iteB h with ⟨e_10, h⟩ | ⟨e_10, h⟩
   ·
    obtain ⟨y_11, h_12, h⟩ := bindS h; simp only [e_2, e_8, e_10, go_sem, seval]; refine ACalls.go0 (order_begins_w N _ _ c_0 true _ h_12) ?_; simp only [e_2, e_8, e_10, go_sem, seval]; rcases iteB h with ⟨e_14, h⟩ | ⟨e_14, h⟩
    ·
     obtain ⟨e_16, h⟩ := guardE h; have e_17 := all_len l_4 eI64 1 (fun _ => rfl); have e_18 : List.take (l_4.length - 2) (List.drop 2 (List.map eI64 l_4)) = List.map eI64 (slI l_4 2 (l_4.length : Int)) := slI_map0 l_4 2 eI64; simp only [e_2, e_8, e_10, e_14, e_16, e_17, e_18, go_sem, seval]; obtain ⟨o_1020, h_1019, h⟩ := bindS h; refine ALp.ref (Ref.trans (Ref.out (l' := [(28, .vec _ (List.map eI64 (slI l_4 2 (l_4.length : Int)))), (29, .int .i64 (((slI l_4 2 (l_4.length : Int)).length : Nat) : Int)), (30, .int .i64 0)]) [28, 29, 30] rfl) (Ref.weak (WkT.cons Wk.vec (WkT.cons (Wk.refl _) (WkT.cons (Wk.refl _) (WkT.nil)))) (WkH.nil))) (Nat.zero_le _) (order_Elsewhere_L1_w N _ N _ o_1020 h_1019 ?_); rcases o_1020 with _ | _
     · (try dsimp only at h); refine LoopK_go rfl (Nat.zero_le _) ?_; simp only [e_2, e_8, e_10, e_14, e_16, e_17, e_18, go_sem, seval]; obtain rfl := si h; rw [← hQ]; exact ⟨rfl, _, rfl, _, _, (RefV.out rfl), rfl, rfl⟩
     · (try dsimp only at h); refine LoopK_ret ?_; obtain rfl := si h; rw [← hQ]; exact ⟨rfl, _, rfl, _, _, (RefV.out rfl), rfl, rfl⟩
    · simp only [e_2, e_8, e_10, e_14, go_sem, seval]; obtain rfl := si h; rw [← hQ]; exact ⟨rfl, _, rfl, _, _, (RefV.out rfl), rfl, rfl⟩
   · simp only [e_2, e_8, e_10, go_sem, seval]; obtain rfl := si h; rw [← hQ]; exact ⟨rfl, _, rfl, _, _, (RefV.out rfl), rfl, rfl⟩
  ·
   simp only [e_2, e_8, go_sem, seval]; rcases iteS h with ⟨e_1022, h⟩ | ⟨e_1022, h⟩
   ·
    simp only [e_2, e_8, e_1022, go_sem, seval]; rcases iteB h with ⟨e_1024, h⟩ | ⟨e_1024, h⟩
    ·
     obtain ⟨y_1025, h_1026, h⟩ := bindS h; simp only [e_2, e_8, e_1022, e_1024, go_sem, seval]; refine ACalls.go0 (order_begins_w N _ _ c_0 true _ h_1026) ?_; simp only [e_2, e_8, e_1022, e_1024, go_sem, seval]; rcases iteB h with ⟨e_1028, h⟩ | ⟨e_1028, h⟩
     ·
      obtain ⟨e_1030, h⟩ := guardE h; have e_1031 := all_len l_4 eI64 1 (fun _ => rfl); have e_1032 : List.take (l_4.length - 2) (List.drop 2 (List.map eI64 l_4)) = List.map eI64 (slI l_4 2 (l_4.length : Int)) := slI_map0 l_4 2 eI64; simp only [e_2, e_8, e_1022, e_1024, e_1028, e_1030, e_1031, e_1032, go_sem, seval]; obtain ⟨o_2034, h_2033, h⟩ := bindS h; refine ALp.ref (Ref.trans (Ref.out (l' := [(28, .vec _ (List.map eI64 (slI l_4 2 (l_4.length : Int)))), (29, .int .i64 (((slI l_4 2 (l_4.length : Int)).length : Nat) : Int)), (30, .int .i64 0)]) [28, 29, 30] rfl) (Ref.weak (WkT.cons Wk.vec (WkT.cons (Wk.refl _) (WkT.cons (Wk.refl _) (WkT.nil)))) (WkH.nil))) (Nat.zero_le _) (order_Elsewhere_L1_w N _ N _ o_2034 h_2033 ?_); rcases o_2034 with _ | _
      · (try dsimp only at h); refine LoopK_go rfl (Nat.zero_le _) ?_; simp only [e_2, e_8, e_1022, e_1024, e_1028, e_1030, e_1031, e_1032, go_sem, seval]; obtain rfl := si h; rw [← hQ]; exact ⟨rfl, _, rfl, _, _, (RefV.out rfl), rfl, rfl⟩
      · (try dsimp only at h); refine LoopK_ret ?_; obtain rfl := si h; rw [← hQ]; exact ⟨rfl, _, rfl, _, _, (RefV.out rfl), rfl, rfl⟩
     · simp only [e_2, e_8, e_1022, e_1024, e_1028, go_sem, seval]; obtain rfl := si h; rw [← hQ]; exact ⟨rfl, _, rfl, _, _, (RefV.out rfl), rfl, rfl⟩
    · simp only [e_2, e_8, e_1022, e_1024, go_sem, seval]; obtain rfl := si h; rw [← hQ]; exact ⟨rfl, _, rfl, _, _, (RefV.out rfl), rfl, rfl⟩
   · simp only [e_2, e_8, e_1022, go_sem, seval]; obtain rfl := si h; rw [← hQ]; exact ⟨rfl, _, rfl, _, _, (RefV.out rfl), rfl, rfl⟩
theorem order_bears_w (N : Nat) (a_0 : Int) (z_1 : Bool) (h : order_bears N a_0 = some z_1) :
  ACalls Try.prog 14 [.int .i64 a_0] [] (fun e H => H = [] ∧ e = .ret (.bool z_1)) := by
 unfold order_bears at h; refine ACalls.goN Try.func14 n14 a14 Try.ntmps14 r14 (by simp) 0 rfl ?_; generalize hQ : bodyA _ _ _ = QQ; simp only [A14, go_sem, seval]; rcases iteS h with ⟨e_2, h⟩ | ⟨e_2, h⟩
 · simp only [e_2, go_sem, seval]; obtain rfl := si h; rw [← hQ]; exact ⟨rfl, _, rfl, _, _, (RefV.out rfl), rfl, rfl⟩
 ·
  simp only [e_2, go_sem, seval]; rcases iteS h with ⟨e_4, h⟩ | ⟨e_4, h⟩
  · simp only [e_2, e_4, go_sem, seval]; obtain rfl := si h; rw [← hQ]; exact ⟨rfl, _, rfl, _, _, (RefV.out rfl), rfl, rfl⟩
  ·
   simp only [e_2, e_4, go_sem, seval]; rcases iteS h with ⟨e_6, h⟩ | ⟨e_6, h⟩
   · simp only [e_2, e_4, e_6, go_sem, seval]; obtain rfl := si h; rw [← hQ]; exact ⟨rfl, _, rfl, _, _, (RefV.out rfl), rfl, rfl⟩
   ·
    simp only [e_2, e_4, e_6, go_sem, seval]; rcases iteS h with ⟨e_8, h⟩ | ⟨e_8, h⟩
    · simp only [e_2, e_4, e_6, e_8, go_sem, seval]; obtain rfl := si h; rw [← hQ]; exact ⟨rfl, _, rfl, _, _, (RefV.out rfl), rfl, rfl⟩
    ·
     simp only [e_2, e_4, e_6, e_8, go_sem, seval]; rcases iteS h with ⟨e_10, h⟩ | ⟨e_10, h⟩
     · simp only [e_2, e_4, e_6, e_8, e_10, go_sem, seval]; obtain rfl := si h; rw [← hQ]; exact ⟨rfl, _, rfl, _, _, (RefV.out rfl), rfl, rfl⟩
     · simp only [e_2, e_4, e_6, e_8, e_10, go_sem, seval]; obtain rfl := si h; rw [← hQ]; exact ⟨rfl, _, rfl, _, _, (RefV.out rfl), rfl, rfl⟩
theorem order_Base_L1_w (N : Nat) (l_4 : List Int) (l_6 : List Bool) (a_0 : Int) (w_1 : ByteArray) (b_2 : Bool) (a_3 : Int) (c_0 : Bool) (c_1 : Bool) {R : AExit → ATm → List AObj → Prop} : ∀ (n : Nat) (i_5 : Int) (i_6 : Int) (o : Int), order_Base_L1 N l_4 l_6 a_0 w_1 b_2 a_3 n i_5 i_6 = some o → (match o with | z_1 => R (.exit 0) ⟨56, [(9, .int .i64 z_1)], []⟩ []) →
  ALp Try.prog 0 B7_1 ⟨56, [(1, .vec c_0 (List.map eI64 l_4)), (3, .vec c_1 (List.map eB l_6)), (4, .ptr 0 0 0), (9, .int .i64 i_5), (10, .int .i64 i_6)], []⟩ [.box [.int .i64 a_0, .str w_1, .bool b_2, .int .i64 a_3] 26] R := by
 intro n
 induction n with
 | zero =>
  intro i_5 i_6 o h _; exact no0 h
 | succ n ih =>
  intro i_5 i_6 o h hp; rw [order_Base_L1] at h; refine ALp.round ?_; generalize hQ : RoundQ _ _ _ _ = QQ; simp only [B7_1, A7, go_sem, seval]; rcases iteS h with ⟨e_8, h⟩ | ⟨e_8, h⟩
  ·
   obtain ⟨x_9, h_10, h⟩ := bindS h; have e_11 : (List.map eI64 l_4)[(i_6).toNat]? = some [.int .i64 x_9] := atI_map eI64 h_10; have e_12 := eq_true (atI_some h_10).1; have e_13 := eq_true (atI_lt h_10); obtain ⟨y_14, h_15, h⟩ := bindS h; simp only [e_8, e_11, e_12, e_13, go_sem, seval]; refine ACalls.go0 (order_bears_w N _ _ h_15) ?_; simp only [e_8, e_11, e_12, e_13, go_sem, seval]; rcases iteB h with ⟨e_17, h⟩ | ⟨e_17, h⟩
   ·
    simp only [e_8, e_11, e_12, e_13, e_17, go_sem, seval]; rcases iteS h with ⟨e_19, h⟩ | ⟨e_19, h⟩
    ·
     simp only [e_8, e_11, e_12, e_13, e_17, e_19, go_sem, seval]; rcases iteB h with ⟨e_21, h⟩ | ⟨e_21, h⟩
     ·
      simp only [e_8, e_11, e_12, e_13, e_17, e_19, e_21, go_sem, seval]; rcases iteS h with ⟨e_23, h⟩ | ⟨e_23, h⟩
      · simp only [e_8, e_11, e_12, e_13, e_17, e_19, e_21, e_23, go_sem, seval]; rw [← hQ]; exact ⟨_, _, (Ref.std [1, 3, 4, 9, 10] [0] (by decide) low0 rfl (by first | rfl | simp only [go_sem, seval, e_8, e_17, e_19, e_21, e_23])), (Nat.zero_le _), ih _ _ _ h hp⟩
      ·
       obtain ⟨x_24, h_25, h⟩ := bindS h; have e_26 : (List.map eB l_6)[(i_6).toNat]? = some [.bool x_24] := atI_map eB h_25; have e_27 := eq_true (atI_some h_25).1; have e_28 := eq_true (atI_lt h_25); simp only [e_8, e_11, e_12, e_13, e_17, e_19, e_21, e_23, e_26, e_27, e_28, go_sem, seval]; rcases iteB h with ⟨e_30, h⟩ | ⟨e_30, h⟩
       · simp only [e_8, e_11, e_12, e_13, e_17, e_19, e_21, e_23, e_26, e_27, e_28, e_30, go_sem, seval]; rw [← hQ]; exact ⟨_, _, (Ref.std [1, 3, 4, 9, 10] [0] (by decide) low0 rfl (by first | rfl | simp only [go_sem, seval, e_8, e_17, e_19, e_21, e_23, e_30])), (Nat.zero_le _), ih _ _ _ h hp⟩
       · simp only [e_8, e_11, e_12, e_13, e_17, e_19, e_21, e_23, e_26, e_27, e_28, e_30, go_sem, seval]; rw [← hQ]; exact ⟨_, _, (Ref.std [1, 3, 4, 9, 10] [0] (by decide) low0 rfl (by first | rfl | simp only [go_sem, seval, e_8, e_17, e_19, e_21, e_23, e_30])), (Nat.zero_le _), ih _ _ _ h hp⟩
     · simp only [e_8, e_11, e_12, e_13, e_17, e_19, e_21, go_sem, seval]; cases h; rw [← hQ]; exact ⟨_, _, (Ref.out [9] rfl), hp⟩
    ·
     simp only [e_8, e_11, e_12, e_13, e_17, e_19, go_sem, seval]; rcases iteB h with ⟨e_32, h⟩ | ⟨e_32, h⟩
     ·
      simp only [e_8, e_11, e_12, e_13, e_17, e_19, e_32, go_sem, seval]; rcases iteS h with ⟨e_34, h⟩ | ⟨e_34, h⟩
      · simp only [e_8, e_11, e_12, e_13, e_17, e_19, e_32, e_34, go_sem, seval]; rw [← hQ]; exact ⟨_, _, (Ref.std [1, 3, 4, 9, 10] [0] (by decide) low0 rfl (by first | rfl | simp only [go_sem, seval, e_8, e_17, e_19, e_32, e_34])), (Nat.zero_le _), ih _ _ _ h hp⟩
      ·
       obtain ⟨x_35, h_36, h⟩ := bindS h; have e_37 : (List.map eB l_6)[(i_6).toNat]? = some [.bool x_35] := atI_map eB h_36; have e_38 := eq_true (atI_some h_36).1; have e_39 := eq_true (atI_lt h_36); simp only [e_8, e_11, e_12, e_13, e_17, e_19, e_32, e_34, e_37, e_38, e_39, go_sem, seval]; rcases iteB h with ⟨e_41, h⟩ | ⟨e_41, h⟩
       · simp only [e_8, e_11, e_12, e_13, e_17, e_19, e_32, e_34, e_37, e_38, e_39, e_41, go_sem, seval]; rw [← hQ]; exact ⟨_, _, (Ref.std [1, 3, 4, 9, 10] [0] (by decide) low0 rfl (by first | rfl | simp only [go_sem, seval, e_8, e_17, e_19, e_32, e_34, e_41])), (Nat.zero_le _), ih _ _ _ h hp⟩
       · simp only [e_8, e_11, e_12, e_13, e_17, e_19, e_32, e_34, e_37, e_38, e_39, e_41, go_sem, seval]; rw [← hQ]; exact ⟨_, _, (Ref.std [1, 3, 4, 9, 10] [0] (by decide) low0 rfl (by first | rfl | simp only [go_sem, seval, e_8, e_17, e_19, e_32, e_34, e_41])), (Nat.zero_le _), ih _ _ _ h hp⟩
     · simp only [e_8, e_11, e_12, e_13, e_17, e_19, e_32, go_sem, seval]; rw [← hQ]; exact ⟨_, _, (Ref.std [1, 3, 4, 9, 10] [0] (by decide) low0 rfl (by first | rfl | simp only [go_sem, seval, e_8, e_17, e_19, e_32])), (Nat.zero_le _), ih _ _ _ h hp⟩
   · simp only [e_8, e_11, e_12, e_13, e_17, go_sem, seval]; rw [← hQ]; exact ⟨_, _, (Ref.std [1, 3, 4, 9, 10] [0] (by decide) low0 rfl (by first | rfl | simp only [go_sem, seval, e_8, e_17])), (Nat.zero_le _), ih _ _ _ h hp⟩
  · simp only [e_8, go_sem, seval]; cases h; rw [← hQ]; exact ⟨_, _, (Ref.out [9] rfl), hp⟩
theorem order_Base_w (N : Nat) (a_0 : Int) (w_1 : ByteArray) (b_2 : Bool) (a_3 : Int) (l_4 : List Int) (a_5 : Int) (l_6 : List Bool) (c_0 : Bool) (c_1 : Bool) (z_1 : Int) (h : order_Base N a_0 w_1 b_2 a_3 l_4 a_5 l_6 = some z_1) :
  ACalls Try.prog 7 [.agg [.int .i64 a_0, .str w_1, .bool b_2, .int .i64 a_3], .vec c_0 (List.map eI64 l_4), .int .i64 a_5, .vec c_1 (List.map eB l_6)] [] (fun e H => H = [] ∧ e = .ret (.int .i64 z_1)) := by
 unfold order_Base at h; refine ACalls.goN Try.func7 n7 a7 Try.ntmps7 r7 (by simp) 0 rfl ?_; generalize hQ : bodyA _ _ _ = QQ; simp only [A7, go_sem, seval]; rcases iteS h with ⟨e_2, h⟩ | ⟨e_2, h⟩
 · simp only [e_2, go_sem, seval]; obtain rfl := si h; rw [← hQ]; exact ⟨rfl, _, rfl, _, _, (RefV.out rfl), rfl, rfl⟩
 ·
  simp only [e_2, go_sem, seval]; rcases iteS h with ⟨e_4, h⟩ | ⟨e_4, h⟩
  · simp only [e_2, e_4, go_sem, seval]; obtain rfl := si h; rw [← hQ]; exact ⟨rfl, _, rfl, _, _, (RefV.out rfl), rfl, rfl⟩
  · simp only [e_2, e_4, go_sem, seval]; obtain ⟨y_1006, h_1005, h⟩ := bindS h; refine ALp.ref (Ref.std [1, 3, 4, 9, 10] [0] (by decide) low0 rfl (by first | rfl | simp only [go_sem, seval, e_2, e_4])) (Nat.zero_le _) (order_Base_L1_w N _ _ _ _ _ _ c_0 c_1 N _ _ y_1006 h_1005 ?_); refine LoopK_go rfl (Nat.zero_le _) ?_; simp only [e_2, e_4, go_sem, seval]; obtain rfl := si h; rw [← hQ]; exact ⟨rfl, _, rfl, _, _, (RefV.out rfl), rfl, rfl⟩
theorem order_Keys_L1_w (N : Nat) (l_4 : List Int) (l_5 : List Int) (a_0 : Int) (w_1 : ByteArray) (b_2 : Bool) (a_3 : Int) (a_6 : Int) (a_7 : Int) (c_0 : Bool) (c_1 : Bool) {R : AExit → ATm → List AObj → Prop} : ∀ (n : Nat) (o : Unit), order_Keys_L1 N l_4 l_5 a_0 w_1 b_2 a_3 a_6 a_7 n = some o → (match o with | _ => R (.exit 0) ⟨78, [(1, .vec c_0 (List.map eI64 l_4)), (2, .vec c_1 (List.map eI64 l_5)), (11, .ptr 0 0 0), (12, .bool true)], []⟩ [.box [.int .i64 a_0, .str w_1, .bool b_2, .int .i64 a_3, .vec c_0 (List.map eI64 l_4), .int .i64 a_6, .int .i64 a_7, .int .i64 (IntKind.i64.wrap (a_7 + 1))] 43]) →
  ALp Try.prog 0 B8_1 ⟨78, [(1, .vec c_0 (List.map eI64 l_4)), (2, .vec c_1 (List.map eI64 l_5)), (11, .ptr 0 0 0), (12, .bool true)], []⟩ [.box [.int .i64 a_0, .str w_1, .bool b_2, .int .i64 a_3, .vec c_0 (List.map eI64 l_4), .int .i64 a_6, .int .i64 a_7, .int .i64 (IntKind.i64.wrap (a_7 + 1))] 43] R := by
 intro n
 induction n with
 | zero =>
  intro o h _; exact no0 h
 | succ n ih =>
  intro o h hp; rw [order_Keys_L1] at h; refine ALp.round ?_; generalize hQ : RoundQ _ _ _ _ = QQ; simp only [B8_1, A8, go_sem, seval]; cases h; rw [← hQ]; exact ⟨_, _, (Ref.std [1, 2, 11, 12] [0] (by decide) low0 rfl rfl), hp⟩
theorem order_Keys_L2_w (N : Nat) (l_5 : List Int) (l_4 : List Int) (a_0 : Int) (w_1 : ByteArray) (b_2 : Bool) (a_3 : Int) (a_6 : Int) (a_7 : Int) (c_1 : Bool) (c_0 : Bool) {R : AExit → ATm → List AObj → Prop} : ∀ (n : Nat) (i_1004 : Int) (s_1005 : List Int) (o : (List Int)), order_Keys_L2 N l_5 l_4 a_0 w_1 b_2 a_3 a_6 a_7 n i_1004 s_1005 = some o → (match o with | z_1 => R (.exit 2) ⟨78, [(13, .row 0 0 z_1.length)], []⟩ [.mem 1 (List.map eI64 z_1) 3]) →
  ALp Try.prog 0 B8_2 ⟨78, [(2, .vec c_1 (List.map eI64 l_5)), (11, .ptr 0 0 0), (12, .bool true), (13, .row 1 0 s_1005.length), (54, .int .i64 (l_4.length : Int)), (55, .int .i64 i_1004)], []⟩ [.box [.int .i64 a_0, .str w_1, .bool b_2, .int .i64 a_3, .vec c_0 (List.map eI64 l_4), .int .i64 a_6, .int .i64 a_7, .int .i64 (IntKind.i64.wrap (a_7 + 1))] 43, .mem 1 (List.map eI64 s_1005) 3] R := by
 intro n
 induction n with
 | zero =>
  intro i_1004 s_1005 o h _; exact no0 h
 | succ n ih =>
  intro i_1004 s_1005 o h hp; rw [order_Keys_L2] at h; refine ALp.round ?_; generalize hQ : RoundQ _ _ _ _ = QQ; simp only [B8_2, A8, go_sem, seval]; rcases iteS h with ⟨e_1007, h⟩ | ⟨e_1007, h⟩
  ·
   simp only [e_1007, go_sem, seval]; rcases iteS h with ⟨e_1009, h⟩ | ⟨e_1009, h⟩
   · obtain ⟨x_1010, h_1011, h⟩ := bindS h; have e_1012 : (List.map eI64 l_5)[(i_1004).toNat]? = some [.int .i64 x_1010] := atI_map eI64 h_1011; have e_1013 := eq_true (atI_some h_1011).1; have e_1014 := eq_true (atI_lt h_1011); have e_1015 := tk eI64 s_1005; have e_1016 : (List.map eI64 s_1005) ++ [[.int .i64 3]] = (List.map eI64 (s_1005 ++ [3])) := app_map s_1005 ([3]) eI64; obtain ⟨e_1018, h⟩ := guardE h; simp only [e_1007, e_1009, e_1012, e_1013, e_1014, e_1015, e_1016, e_1018, go_sem, seval]; rw [← hQ]; exact ⟨_, _, (Ref.std [2, 11, 12, 13, 54, 55] [0, 2] (by decide) low0 (by first | rfl | simp only [go_sem, seval]) (by first | rfl | simp only [go_sem, seval, e_1007, e_1009])), (Nat.zero_le _), ih _ _ _ h hp⟩
   · have e_1019 := tk eI64 s_1005; have e_1020 : (List.map eI64 s_1005) ++ [[.int .i64 3]] = (List.map eI64 (s_1005 ++ [3])) := app_map s_1005 ([3]) eI64; obtain ⟨e_1022, h⟩ := guardE h; simp only [e_1007, e_1009, e_1019, e_1020, e_1022, go_sem, seval]; rw [← hQ]; exact ⟨_, _, (Ref.std [2, 11, 12, 13, 54, 55] [0, 2] (by decide) low0 (by first | rfl | simp only [go_sem, seval]) (by first | rfl | simp only [go_sem, seval, e_1007, e_1009])), (Nat.zero_le _), ih _ _ _ h hp⟩
  · simp only [e_1007, go_sem, seval]; cases h; rw [← hQ]; exact ⟨_, _, (Ref.std [13] [1] (by decide) low0 rfl (by first | rfl | simp only [go_sem, seval])), hp⟩
theorem order_Keys_L3_w (N : Nat) (l_4 : List Int) (l_5 : List Int) (a_7 : Int) (a_0 : Int) (w_1 : ByteArray) (b_2 : Bool) (a_3 : Int) (a_6 : Int) (c_0 : Bool) (c_1 : Bool) {R : AExit → ATm → List AObj → Prop} : ∀ (n : Nat) (i_2007 : Int) (o : Int), order_Keys_L3 N l_4 l_5 a_7 a_0 w_1 b_2 a_3 a_6 n i_2007 = some o → (match o with | z_1 => R (.exit 0) ⟨78, [(1, .vec c_0 (List.map eI64 l_4)), (2, .vec c_1 (List.map eI64 l_5)), (11, .ptr 0 0 0), (12, .bool (decide ((l_4.length : Int) ≤ a_7)))], []⟩ [.box [.int .i64 a_0, .str w_1, .bool b_2, .int .i64 a_3, .vec c_0 (List.map eI64 l_4), .int .i64 a_6, .int .i64 a_7, .int .i64 z_1] 43]) →
  ALp Try.prog 0 B8_1 ⟨78, [(1, .vec c_0 (List.map eI64 l_4)), (2, .vec c_1 (List.map eI64 l_5)), (11, .ptr 0 0 0), (12, .bool (decide ((l_4.length : Int) ≤ a_7)))], []⟩ [.box [.int .i64 a_0, .str w_1, .bool b_2, .int .i64 a_3, .vec c_0 (List.map eI64 l_4), .int .i64 a_6, .int .i64 a_7, .int .i64 i_2007] 43] R := by
 intro n
 induction n with
 | zero =>
  intro i_2007 o h _; exact no0 h
 | succ n ih =>
  intro i_2007 o h hp; rw [order_Keys_L3] at h; refine ALp.round ?_; generalize hQ : RoundQ _ _ _ _ = QQ; simp only [B8_1, A8, go_sem, seval]; rcases iteS h with ⟨e_2009, h⟩ | ⟨e_2009, h⟩
  · simp only [e_2009, go_sem, seval]; cases h; rw [← hQ]; exact ⟨_, _, (Ref.std [1, 2, 11, 12] [0] (by decide) low0 (by first | rfl | simp only [go_sem, seval, e_2009]) (by first | rfl | simp only [go_sem, seval, e_2009])), hp⟩
  ·
   simp only [e_2009, go_sem, seval]; rcases iteS h with ⟨e_2011, h⟩ | ⟨e_2011, h⟩
   ·
    obtain ⟨x_2012, h_2013, h⟩ := bindS h; have e_2014 : (List.map eI64 l_4)[(i_2007).toNat]? = some [.int .i64 x_2012] := atI_map eI64 h_2013; have e_2015 := eq_true (atI_some h_2013).1; have e_2016 := eq_true (atI_lt h_2013); simp only [e_2009, e_2011, e_2014, e_2015, e_2016, go_sem, seval]; rcases iteS h with ⟨e_2018, h⟩ | ⟨e_2018, h⟩
    · simp only [e_2009, e_2011, e_2014, e_2015, e_2016, e_2018, go_sem, seval]; rw [← hQ]; exact ⟨_, _, (Ref.std [1, 2, 11, 12] [0] (by decide) low0 (by first | rfl | simp only [go_sem, seval, e_2009, e_2011, e_2018]) (by first | rfl | simp only [go_sem, seval, e_2009, e_2011, e_2018])), (Nat.zero_le _), ih _ _ h hp⟩
    · simp only [e_2009, e_2011, e_2014, e_2015, e_2016, e_2018, go_sem, seval]; cases h; rw [← hQ]; exact ⟨_, _, (Ref.std [1, 2, 11, 12] [0] (by decide) low0 (by first | rfl | simp only [go_sem, seval, e_2009, e_2011, e_2018]) (by first | rfl | simp only [go_sem, seval, e_2009, e_2011, e_2018])), hp⟩
   · simp only [e_2009, e_2011, go_sem, seval]; cases h; rw [← hQ]; exact ⟨_, _, (Ref.std [1, 2, 11, 12] [0] (by decide) low0 (by first | rfl | simp only [go_sem, seval, e_2009, e_2011]) (by first | rfl | simp only [go_sem, seval, e_2009, e_2011])), hp⟩
theorem order_signKey_w (N : Nat) (a_0 : Int) (z_1 : Int) (h : order_signKey N a_0 = some z_1) :
  ACalls Try.prog 21 [.int .i64 a_0] [] (fun e H => H = [] ∧ e = .ret (.int .i64 z_1)) := by
 unfold order_signKey at h; refine ACalls.goN Try.func21 n21 a21 Try.ntmps21 r21 (by simp) 0 rfl ?_; generalize hQ : bodyA _ _ _ = QQ; simp only [A21, go_sem, seval]; rcases iteS h with ⟨e_2, h⟩ | ⟨e_2, h⟩
 · simp only [e_2, go_sem, seval]; obtain rfl := si h; rw [← hQ]; exact ⟨rfl, _, rfl, _, _, (RefV.out rfl), rfl, rfl⟩
 ·
  simp only [e_2, go_sem, seval]; rcases iteS h with ⟨e_4, h⟩ | ⟨e_4, h⟩
  · simp only [e_2, e_4, go_sem, seval]; obtain rfl := si h; rw [← hQ]; exact ⟨rfl, _, rfl, _, _, (RefV.out rfl), rfl, rfl⟩
  ·
   simp only [e_2, e_4, go_sem, seval]; rcases iteS h with ⟨e_6, h⟩ | ⟨e_6, h⟩
   · simp only [e_2, e_4, e_6, go_sem, seval]; obtain rfl := si h; rw [← hQ]; exact ⟨rfl, _, rfl, _, _, (RefV.out rfl), rfl, rfl⟩
   · simp only [e_2, e_4, e_6, go_sem, seval]; obtain rfl := si h; rw [← hQ]; exact ⟨rfl, _, rfl, _, _, (RefV.out rfl), rfl, rfl⟩
theorem order_subjoined_w (N : Nat) (l_0 : List Int) (a_1 : Int) (a_2 : Int) (c_0 : Bool) (z_1 : Bool) (h : order_subjoined N l_0 a_1 a_2 = some z_1) :
  ACalls Try.prog 22 [.vec c_0 (List.map eI64 l_0), .int .i64 a_1, .int .i64 a_2] [] (fun e H => H = [] ∧ e = .ret (.bool z_1)) := by
 unfold order_subjoined at h; refine ACalls.goN Try.func22 n22 a22 Try.ntmps22 r22 (by simp) 0 rfl ?_; generalize hQ : bodyA _ _ _ = QQ; obtain ⟨x_1, h_2, h⟩ := bindS h; have e_3 : (List.map eI64 l_0)[(a_1).toNat]? = some [.int .i64 x_1] := atI_map eI64 h_2; have e_4 := eq_true (atI_some h_2).1; have e_5 := eq_true (atI_lt h_2); simp only [A22, e_3, e_4, e_5, go_sem, seval]; rcases iteS h with ⟨e_7, h⟩ | ⟨e_7, h⟩
 ·
  simp only [e_3, e_4, e_5, e_7, go_sem, seval]; rcases iteS h with ⟨e_9, h⟩ | ⟨e_9, h⟩
  ·
   simp only [e_3, e_4, e_5, e_7, e_9, go_sem, seval]; rcases iteS h with ⟨e_11, h⟩ | ⟨e_11, h⟩
   · obtain ⟨x_12, h_13, h⟩ := bindS h; have e_14 : (List.map eI64 l_0)[(IntKind.i64.wrap (a_1 + 1)).toNat]? = some [.int .i64 x_12] := atI_map eI64 h_13; have e_15 := eq_true (atI_some h_13).1; have e_16 := eq_true (atI_lt h_13); simp only [e_3, e_4, e_5, e_7, e_9, e_11, e_14, e_15, e_16, go_sem, seval]; obtain rfl := si h; rw [← hQ]; exact ⟨rfl, _, rfl, _, _, (RefV.out (by first | rfl | simp only [go_sem, seval, e_7, e_9, e_11])), rfl, rfl⟩
   · simp only [e_3, e_4, e_5, e_7, e_9, e_11, go_sem, seval]; obtain rfl := si h; rw [← hQ]; exact ⟨rfl, _, rfl, _, _, (RefV.out rfl), rfl, rfl⟩
  · simp only [e_3, e_4, e_5, e_7, e_9, go_sem, seval]; obtain rfl := si h; rw [← hQ]; exact ⟨rfl, _, rfl, _, _, (RefV.out rfl), rfl, rfl⟩
 ·
  simp only [e_3, e_4, e_5, e_7, go_sem, seval]; rcases iteS h with ⟨e_18, h⟩ | ⟨e_18, h⟩
  ·
   simp only [e_3, e_4, e_5, e_7, e_18, go_sem, seval]; rcases iteS h with ⟨e_20, h⟩ | ⟨e_20, h⟩
   · obtain ⟨x_21, h_22, h⟩ := bindS h; have e_23 : (List.map eI64 l_0)[(IntKind.i64.wrap (a_1 - 1)).toNat]? = some [.int .i64 x_21] := atI_map eI64 h_22; have e_24 := eq_true (atI_some h_22).1; have e_25 := eq_true (atI_lt h_22); simp only [e_3, e_4, e_5, e_7, e_18, e_20, e_23, e_24, e_25, go_sem, seval]; obtain rfl := si h; rw [← hQ]; exact ⟨rfl, _, rfl, _, _, (RefV.out (by first | rfl | simp only [go_sem, seval, e_7, e_18, e_20])), rfl, rfl⟩
   · simp only [e_3, e_4, e_5, e_7, e_18, e_20, go_sem, seval]; obtain rfl := si h; rw [← hQ]; exact ⟨rfl, _, rfl, _, _, (RefV.out rfl), rfl, rfl⟩
  · simp only [e_3, e_4, e_5, e_7, e_18, go_sem, seval]; obtain rfl := si h; rw [← hQ]; exact ⟨rfl, _, rfl, _, _, (RefV.out rfl), rfl, rfl⟩
theorem order_syllable_key_w (N : Nat) (a_0 : Int) (w_1 : ByteArray) (b_2 : Bool) (a_3 : Int) (l_4 : List Int) (a_5 : Int) (a_6 : Int) (a_7 : Int) (a_8 : Int) (a_9 : Int) (c_0 : Bool) (z_1 : Int) (h : order_syllable_key N a_0 w_1 b_2 a_3 l_4 a_5 a_6 a_7 a_8 a_9 = some z_1) :
  ACalls Try.prog 15 [.agg [.int .i64 a_0, .str w_1, .bool b_2, .int .i64 a_3, .vec c_0 (List.map eI64 l_4), .int .i64 a_5, .int .i64 a_6, .int .i64 a_7], .int .i64 a_8, .int .i64 a_9] [] (fun e H => H = [] ∧ e = .ret (.int .i64 z_1)) := by
 unfold order_syllable_key at h; refine ACalls.goN Try.func15 n15 a15 Try.ntmps15 r15 (by simp) 0 rfl ?_; generalize hQ : bodyA _ _ _ = QQ; simp only [A15, go_sem, seval]; rcases iteS h with ⟨e_2, h⟩ | ⟨e_2, h⟩
 ·
  simp only [e_2, go_sem, seval]; rcases iteS h with ⟨e_4, h⟩ | ⟨e_4, h⟩
  · simp only [e_2, e_4, go_sem, seval]; obtain rfl := si h; rw [← hQ]; exact ⟨rfl, _, rfl, _, _, (RefV.out rfl), rfl, rfl⟩
  · simp only [e_2, e_4, go_sem, seval]; obtain rfl := si h; rw [← hQ]; exact ⟨rfl, _, rfl, _, _, (RefV.out rfl), rfl, rfl⟩
 ·
  obtain ⟨x_5, h_6, h⟩ := bindS h; have e_7 : (List.map eI64 l_4)[(a_8).toNat]? = some [.int .i64 x_5] := atI_map eI64 h_6; have e_8 := eq_true (atI_some h_6).1; have e_9 := eq_true (atI_lt h_6); simp only [e_2, e_7, e_8, e_9, go_sem, seval]; rcases iteS h with ⟨e_11, h⟩ | ⟨e_11, h⟩
  · obtain ⟨y_12, h_13, h⟩ := bindS h; simp only [e_2, e_7, e_8, e_9, e_11, go_sem, seval]; refine ACalls.go0 (order_signKey_w N _ _ h_13) ?_; simp only [e_2, e_7, e_8, e_9, e_11, go_sem, seval]; obtain rfl := si h; rw [← hQ]; exact ⟨rfl, _, rfl, _, _, (RefV.out rfl), rfl, rfl⟩
  ·
   simp only [e_2, e_7, e_8, e_9, e_11, go_sem, seval]; rcases iteS h with ⟨e_15, h⟩ | ⟨e_15, h⟩
   · simp only [e_2, e_7, e_8, e_9, e_11, e_15, go_sem, seval]; obtain rfl := si h; rw [← hQ]; exact ⟨rfl, _, rfl, _, _, (RefV.out rfl), rfl, rfl⟩
   ·
    simp only [e_2, e_7, e_8, e_9, e_11, e_15, go_sem, seval]; rcases iteS h with ⟨e_17, h⟩ | ⟨e_17, h⟩
    ·
     simp only [e_2, e_7, e_8, e_9, e_11, e_15, e_17, go_sem, seval]; rcases iteS h with ⟨e_19, h⟩ | ⟨e_19, h⟩
     · simp only [e_2, e_7, e_8, e_9, e_11, e_15, e_17, e_19, go_sem, seval]; obtain rfl := si h; rw [← hQ]; exact ⟨rfl, _, rfl, _, _, (RefV.out rfl), rfl, rfl⟩
     ·
      simp only [e_2, e_7, e_8, e_9, e_11, e_15, e_17, e_19, go_sem, seval]; rcases iteS h with ⟨e_21, h⟩ | ⟨e_21, h⟩
      · simp only [e_2, e_7, e_8, e_9, e_11, e_15, e_17, e_19, e_21, go_sem, seval]; obtain rfl := si h; rw [← hQ]; exact ⟨rfl, _, rfl, _, _, (RefV.out rfl), rfl, rfl⟩
      ·
       simp only [e_2, e_7, e_8, e_9, e_11, e_15, e_17, e_19, e_21, go_sem, seval]; rcases iteS h with ⟨e_23, h⟩ | ⟨e_23, h⟩
       · simp only [e_2, e_7, e_8, e_9, e_11, e_15, e_17, e_19, e_21, e_23, go_sem, seval]; obtain rfl := si h; rw [← hQ]; exact ⟨rfl, _, rfl, _, _, (RefV.out rfl), rfl, rfl⟩
       ·
        simp only [e_2, e_7, e_8, e_9, e_11, e_15, e_17, e_19, e_21, e_23, go_sem, seval]; rcases iteS h with ⟨e_25, h⟩ | ⟨e_25, h⟩
        · simp only [e_2, e_7, e_8, e_9, e_11, e_15, e_17, e_19, e_21, e_23, e_25, go_sem, seval]; obtain rfl := si h; rw [← hQ]; exact ⟨rfl, _, rfl, _, _, (RefV.out rfl), rfl, rfl⟩
        · simp only [e_2, e_7, e_8, e_9, e_11, e_15, e_17, e_19, e_21, e_23, e_25, go_sem, seval]; obtain rfl := si h; rw [← hQ]; exact ⟨rfl, _, rfl, _, _, (RefV.out rfl), rfl, rfl⟩
    ·
     simp only [e_2, e_7, e_8, e_9, e_11, e_15, e_17, go_sem, seval]; rcases iteS h with ⟨e_27, h⟩ | ⟨e_27, h⟩
     ·
      simp only [e_2, e_7, e_8, e_9, e_11, e_15, e_17, e_27, go_sem, seval]; rcases iteS h with ⟨e_29, h⟩ | ⟨e_29, h⟩
      · simp only [e_2, e_7, e_8, e_9, e_11, e_15, e_17, e_27, e_29, go_sem, seval]; obtain rfl := si h; rw [← hQ]; exact ⟨rfl, _, rfl, _, _, (RefV.out rfl), rfl, rfl⟩
      ·
       simp only [e_2, e_7, e_8, e_9, e_11, e_15, e_17, e_27, e_29, go_sem, seval]; rcases iteS h with ⟨e_31, h⟩ | ⟨e_31, h⟩
       · simp only [e_2, e_7, e_8, e_9, e_11, e_15, e_17, e_27, e_29, e_31, go_sem, seval]; obtain rfl := si h; rw [← hQ]; exact ⟨rfl, _, rfl, _, _, (RefV.out rfl), rfl, rfl⟩
       ·
        simp only [e_2, e_7, e_8, e_9, e_11, e_15, e_17, e_27, e_29, e_31, go_sem, seval]; rcases iteS h with ⟨e_33, h⟩ | ⟨e_33, h⟩
        · simp only [e_2, e_7, e_8, e_9, e_11, e_15, e_17, e_27, e_29, e_31, e_33, go_sem, seval]; obtain rfl := si h; rw [← hQ]; exact ⟨rfl, _, rfl, _, _, (RefV.out rfl), rfl, rfl⟩
        · simp only [e_2, e_7, e_8, e_9, e_11, e_15, e_17, e_27, e_29, e_31, e_33, go_sem, seval]; obtain rfl := si h; rw [← hQ]; exact ⟨rfl, _, rfl, _, _, (RefV.out rfl), rfl, rfl⟩
     ·
      simp only [e_2, e_7, e_8, e_9, e_11, e_15, e_17, e_27, go_sem, seval]; rcases iteS h with ⟨e_35, h⟩ | ⟨e_35, h⟩
      ·
       simp only [e_2, e_7, e_8, e_9, e_11, e_15, e_17, e_27, e_35, go_sem, seval]; rcases iteS h with ⟨e_37, h⟩ | ⟨e_37, h⟩
       · simp only [e_2, e_7, e_8, e_9, e_11, e_15, e_17, e_27, e_35, e_37, go_sem, seval]; obtain rfl := si h; rw [← hQ]; exact ⟨rfl, _, rfl, _, _, (RefV.out rfl), rfl, rfl⟩
       ·
        simp only [e_2, e_7, e_8, e_9, e_11, e_15, e_17, e_27, e_35, e_37, go_sem, seval]; rcases iteS h with ⟨e_39, h⟩ | ⟨e_39, h⟩
        · simp only [e_2, e_7, e_8, e_9, e_11, e_15, e_17, e_27, e_35, e_37, e_39, go_sem, seval]; obtain rfl := si h; rw [← hQ]; exact ⟨rfl, _, rfl, _, _, (RefV.out rfl), rfl, rfl⟩
        ·
         simp only [e_2, e_7, e_8, e_9, e_11, e_15, e_17, e_27, e_35, e_37, e_39, go_sem, seval]; rcases iteS h with ⟨e_41, h⟩ | ⟨e_41, h⟩
         · simp only [e_2, e_7, e_8, e_9, e_11, e_15, e_17, e_27, e_35, e_37, e_39, e_41, go_sem, seval]; obtain rfl := si h; rw [← hQ]; exact ⟨rfl, _, rfl, _, _, (RefV.out rfl), rfl, rfl⟩
         · simp only [e_2, e_7, e_8, e_9, e_11, e_15, e_17, e_27, e_35, e_37, e_39, e_41, go_sem, seval]; obtain rfl := si h; rw [← hQ]; exact ⟨rfl, _, rfl, _, _, (RefV.out rfl), rfl, rfl⟩
      ·
       simp only [e_2, e_7, e_8, e_9, e_11, e_15, e_17, e_27, e_35, go_sem, seval]; rcases iteS h with ⟨e_43, h⟩ | ⟨e_43, h⟩
       ·
        simp only [e_2, e_7, e_8, e_9, e_11, e_15, e_17, e_27, e_35, e_43, go_sem, seval]; rcases iteS h with ⟨e_45, h⟩ | ⟨e_45, h⟩
        ·
         obtain ⟨y_46, h_47, h⟩ := bindS h; simp only [e_2, e_7, e_8, e_9, e_11, e_15, e_17, e_27, e_35, e_43, e_45, go_sem, seval]; refine ACalls.go0 (order_subjoined_w N _ _ _ c_0 _ h_47) ?_; simp only [e_2, e_7, e_8, e_9, e_11, e_15, e_17, e_27, e_35, e_43, e_45, go_sem, seval]; rcases iteB h with ⟨e_49, h⟩ | ⟨e_49, h⟩
         · simp only [e_2, e_7, e_8, e_9, e_11, e_15, e_17, e_27, e_35, e_43, e_45, e_49, go_sem, seval]; obtain rfl := si h; rw [← hQ]; exact ⟨rfl, _, rfl, _, _, (RefV.out rfl), rfl, rfl⟩
         ·
          simp only [e_2, e_7, e_8, e_9, e_11, e_15, e_17, e_27, e_35, e_43, e_45, e_49, go_sem, seval]; rcases iteS h with ⟨e_51, h⟩ | ⟨e_51, h⟩
          · simp only [e_2, e_7, e_8, e_9, e_11, e_15, e_17, e_27, e_35, e_43, e_45, e_49, e_51, go_sem, seval]; obtain rfl := si h; rw [← hQ]; exact ⟨rfl, _, rfl, _, _, (RefV.out rfl), rfl, rfl⟩
          ·
           simp only [e_2, e_7, e_8, e_9, e_11, e_15, e_17, e_27, e_35, e_43, e_45, e_49, e_51, go_sem, seval]; rcases iteS h with ⟨e_53, h⟩ | ⟨e_53, h⟩
           · simp only [e_2, e_7, e_8, e_9, e_11, e_15, e_17, e_27, e_35, e_43, e_45, e_49, e_51, e_53, go_sem, seval]; obtain rfl := si h; rw [← hQ]; exact ⟨rfl, _, rfl, _, _, (RefV.out rfl), rfl, rfl⟩
           · simp only [e_2, e_7, e_8, e_9, e_11, e_15, e_17, e_27, e_35, e_43, e_45, e_49, e_51, e_53, go_sem, seval]; obtain rfl := si h; rw [← hQ]; exact ⟨rfl, _, rfl, _, _, (RefV.out rfl), rfl, rfl⟩
        ·
         simp only [e_2, e_7, e_8, e_9, e_11, e_15, e_17, e_27, e_35, e_43, e_45, go_sem, seval]; rcases iteS h with ⟨e_55, h⟩ | ⟨e_55, h⟩
         · simp only [e_2, e_7, e_8, e_9, e_11, e_15, e_17, e_27, e_35, e_43, e_45, e_55, go_sem, seval]; obtain rfl := si h; rw [← hQ]; exact ⟨rfl, _, rfl, _, _, (RefV.out rfl), rfl, rfl⟩
         ·
          simp only [e_2, e_7, e_8, e_9, e_11, e_15, e_17, e_27, e_35, e_43, e_45, e_55, go_sem, seval]; rcases iteS h with ⟨e_57, h⟩ | ⟨e_57, h⟩
          · simp only [e_2, e_7, e_8, e_9, e_11, e_15, e_17, e_27, e_35, e_43, e_45, e_55, e_57, go_sem, seval]; obtain rfl := si h; rw [← hQ]; exact ⟨rfl, _, rfl, _, _, (RefV.out rfl), rfl, rfl⟩
          · simp only [e_2, e_7, e_8, e_9, e_11, e_15, e_17, e_27, e_35, e_43, e_45, e_55, e_57, go_sem, seval]; obtain rfl := si h; rw [← hQ]; exact ⟨rfl, _, rfl, _, _, (RefV.out rfl), rfl, rfl⟩
       ·
        simp only [e_2, e_7, e_8, e_9, e_11, e_15, e_17, e_27, e_35, e_43, go_sem, seval]; rcases iteS h with ⟨e_59, h⟩ | ⟨e_59, h⟩
        ·
         simp only [e_2, e_7, e_8, e_9, e_11, e_15, e_17, e_27, e_35, e_43, e_59, go_sem, seval]; rcases iteS h with ⟨e_61, h⟩ | ⟨e_61, h⟩
         ·
          obtain ⟨y_62, h_63, h⟩ := bindS h; simp only [e_2, e_7, e_8, e_9, e_11, e_15, e_17, e_27, e_35, e_43, e_59, e_61, go_sem, seval]; refine ACalls.go0 (order_subjoined_w N _ _ _ c_0 _ h_63) ?_; simp only [e_2, e_7, e_8, e_9, e_11, e_15, e_17, e_27, e_35, e_43, e_59, e_61, go_sem, seval]; rcases iteB h with ⟨e_65, h⟩ | ⟨e_65, h⟩
          · simp only [e_2, e_7, e_8, e_9, e_11, e_15, e_17, e_27, e_35, e_43, e_59, e_61, e_65, go_sem, seval]; obtain rfl := si h; rw [← hQ]; exact ⟨rfl, _, rfl, _, _, (RefV.out rfl), rfl, rfl⟩
          ·
           simp only [e_2, e_7, e_8, e_9, e_11, e_15, e_17, e_27, e_35, e_43, e_59, e_61, e_65, go_sem, seval]; rcases iteS h with ⟨e_67, h⟩ | ⟨e_67, h⟩
           · simp only [e_2, e_7, e_8, e_9, e_11, e_15, e_17, e_27, e_35, e_43, e_59, e_61, e_65, e_67, go_sem, seval]; obtain rfl := si h; rw [← hQ]; exact ⟨rfl, _, rfl, _, _, (RefV.out rfl), rfl, rfl⟩
           ·
            simp only [e_2, e_7, e_8, e_9, e_11, e_15, e_17, e_27, e_35, e_43, e_59, e_61, e_65, e_67, go_sem, seval]; rcases iteS h with ⟨e_69, h⟩ | ⟨e_69, h⟩
            · simp only [e_2, e_7, e_8, e_9, e_11, e_15, e_17, e_27, e_35, e_43, e_59, e_61, e_65, e_67, e_69, go_sem, seval]; obtain rfl := si h; rw [← hQ]; exact ⟨rfl, _, rfl, _, _, (RefV.out rfl), rfl, rfl⟩
            · simp only [e_2, e_7, e_8, e_9, e_11, e_15, e_17, e_27, e_35, e_43, e_59, e_61, e_65, e_67, e_69, go_sem, seval]; obtain rfl := si h; rw [← hQ]; exact ⟨rfl, _, rfl, _, _, (RefV.out rfl), rfl, rfl⟩
         ·
          simp only [e_2, e_7, e_8, e_9, e_11, e_15, e_17, e_27, e_35, e_43, e_59, e_61, go_sem, seval]; rcases iteS h with ⟨e_71, h⟩ | ⟨e_71, h⟩
          · simp only [e_2, e_7, e_8, e_9, e_11, e_15, e_17, e_27, e_35, e_43, e_59, e_61, e_71, go_sem, seval]; obtain rfl := si h; rw [← hQ]; exact ⟨rfl, _, rfl, _, _, (RefV.out rfl), rfl, rfl⟩
          ·
           simp only [e_2, e_7, e_8, e_9, e_11, e_15, e_17, e_27, e_35, e_43, e_59, e_61, e_71, go_sem, seval]; rcases iteS h with ⟨e_73, h⟩ | ⟨e_73, h⟩
           · simp only [e_2, e_7, e_8, e_9, e_11, e_15, e_17, e_27, e_35, e_43, e_59, e_61, e_71, e_73, go_sem, seval]; obtain rfl := si h; rw [← hQ]; exact ⟨rfl, _, rfl, _, _, (RefV.out rfl), rfl, rfl⟩
           · simp only [e_2, e_7, e_8, e_9, e_11, e_15, e_17, e_27, e_35, e_43, e_59, e_61, e_71, e_73, go_sem, seval]; obtain rfl := si h; rw [← hQ]; exact ⟨rfl, _, rfl, _, _, (RefV.out rfl), rfl, rfl⟩
        ·
         simp only [e_2, e_7, e_8, e_9, e_11, e_15, e_17, e_27, e_35, e_43, e_59, go_sem, seval]; rcases iteS h with ⟨e_75, h⟩ | ⟨e_75, h⟩
         · simp only [e_2, e_7, e_8, e_9, e_11, e_15, e_17, e_27, e_35, e_43, e_59, e_75, go_sem, seval]; obtain rfl := si h; rw [← hQ]; exact ⟨rfl, _, rfl, _, _, (RefV.out rfl), rfl, rfl⟩
         ·
          simp only [e_2, e_7, e_8, e_9, e_11, e_15, e_17, e_27, e_35, e_43, e_59, e_75, go_sem, seval]; rcases iteS h with ⟨e_77, h⟩ | ⟨e_77, h⟩
          · simp only [e_2, e_7, e_8, e_9, e_11, e_15, e_17, e_27, e_35, e_43, e_59, e_75, e_77, go_sem, seval]; obtain rfl := si h; rw [← hQ]; exact ⟨rfl, _, rfl, _, _, (RefV.out rfl), rfl, rfl⟩
          · simp only [e_2, e_7, e_8, e_9, e_11, e_15, e_17, e_27, e_35, e_43, e_59, e_75, e_77, go_sem, seval]; obtain rfl := si h; rw [← hQ]; exact ⟨rfl, _, rfl, _, _, (RefV.out rfl), rfl, rfl⟩
theorem order_Keys_L4_w (N : Nat) (l_5 : List Int) (l_4 : List Int) (a_7 : Int) (a_0 : Int) (w_1 : ByteArray) (b_2 : Bool) (a_3 : Int) (a_6 : Int) (y_3008 : Int) (c_1 : Bool) (c_0 : Bool) {R : AExit → ATm → List AObj → Prop} : ∀ (n : Nat) (i_3009 : Int) (s_3010 : List Int) (o : (List Int)), order_Keys_L4 N l_5 l_4 a_7 a_0 w_1 b_2 a_3 a_6 y_3008 n i_3009 s_3010 = some o → (match o with | z_1 => R (.exit 2) ⟨78, [(13, .row 0 0 z_1.length)], []⟩ [.mem 1 (List.map eI64 z_1) 3]) →
  ALp Try.prog 0 B8_2 ⟨78, [(2, .vec c_1 (List.map eI64 l_5)), (11, .ptr 0 0 0), (12, .bool (decide ((l_4.length : Int) ≤ a_7))), (13, .row 1 0 s_3010.length), (54, .int .i64 (l_4.length : Int)), (55, .int .i64 i_3009)], []⟩ [.box [.int .i64 a_0, .str w_1, .bool b_2, .int .i64 a_3, .vec c_0 (List.map eI64 l_4), .int .i64 a_6, .int .i64 a_7, .int .i64 y_3008] 43, .mem 1 (List.map eI64 s_3010) 3] R := by
 intro n
 induction n with
 | zero =>
  intro i_3009 s_3010 o h _; exact no0 h
 | succ n ih =>
  intro i_3009 s_3010 o h hp; rw [order_Keys_L4] at h; refine ALp.round ?_; generalize hQ : RoundQ _ _ _ _ = QQ; simp only [B8_2, A8, go_sem, seval]; rcases iteS h with ⟨e_3012, h⟩ | ⟨e_3012, h⟩
  ·
   simp only [e_3012, go_sem, seval]; rcases iteS h with ⟨e_3014, h⟩ | ⟨e_3014, h⟩
   ·
    obtain ⟨x_3015, h_3016, h⟩ := bindS h; have e_3017 : (List.map eI64 l_5)[(i_3009).toNat]? = some [.int .i64 x_3015] := atI_map eI64 h_3016; have e_3018 := eq_true (atI_some h_3016).1; have e_3019 := eq_true (atI_lt h_3016); simp only [e_3012, e_3014, e_3017, e_3018, e_3019, go_sem, seval]; by_cases h_3020 : decide ((l_4.length : Int) ≤ a_7) = true
    · rw [if_pos h_3020] at h; have e_3021 : decide ((l_4.length : Int) ≤ a_7) = true := h_3020; have e_3022 := tk eI64 s_3010; have e_3023 : (List.map eI64 s_3010) ++ [[.int .i64 3]] = (List.map eI64 (s_3010 ++ [3])) := app_map s_3010 ([3]) eI64; obtain ⟨e_3025, h⟩ := guardE h; simp only [e_3012, e_3014, e_3017, e_3018, e_3019, e_3021, e_3022, e_3023, e_3025, go_sem, seval]; rw [← hQ]; exact ⟨_, _, (Ref.std [2, 11, 12, 13, 54, 55] [0, 2] (by decide) low0 (by first | rfl | simp only [go_sem, seval, e_3012, e_3014, e_3021]) (by first | rfl | simp only [go_sem, seval, e_3012, e_3014, e_3021])), (Nat.zero_le _), ih _ _ _ h hp⟩
    · rw [if_neg h_3020] at h; have e_3021 : decide ((l_4.length : Int) ≤ a_7) = false := bfalse h_3020; obtain ⟨y_3026, h_3027, h⟩ := bindS h; simp only [e_3012, e_3014, e_3017, e_3018, e_3019, e_3021, go_sem, seval]; refine ACalls.go0 (order_syllable_key_w N _ _ _ _ _ _ _ _ _ _ c_0 _ h_3027) ?_; have e_3028 := tk eI64 s_3010; have e_3029 : (List.map eI64 s_3010) ++ [[.int .i64 y_3026]] = (List.map eI64 (s_3010 ++ [y_3026])) := app_map s_3010 ([y_3026]) eI64; obtain ⟨e_3031, h⟩ := guardE h; simp only [e_3012, e_3014, e_3017, e_3018, e_3019, e_3021, e_3028, e_3029, e_3031, go_sem, seval]; rw [← hQ]; exact ⟨_, _, (Ref.std [2, 11, 12, 13, 54, 55] [0, 2] (by decide) low0 (by first | rfl | simp only [go_sem, seval, e_3012, e_3014, e_3021]) (by first | rfl | simp only [go_sem, seval, e_3012, e_3014, e_3021])), (Nat.zero_le _), ih _ _ _ h hp⟩
   ·
    simp only [e_3012, e_3014, go_sem, seval]; by_cases h_3032 : decide ((l_4.length : Int) ≤ a_7) = true
    · rw [if_pos h_3032] at h; have e_3033 : decide ((l_4.length : Int) ≤ a_7) = true := h_3032; have e_3034 := tk eI64 s_3010; have e_3035 : (List.map eI64 s_3010) ++ [[.int .i64 3]] = (List.map eI64 (s_3010 ++ [3])) := app_map s_3010 ([3]) eI64; obtain ⟨e_3037, h⟩ := guardE h; simp only [e_3012, e_3014, e_3033, e_3034, e_3035, e_3037, go_sem, seval]; rw [← hQ]; exact ⟨_, _, (Ref.std [2, 11, 12, 13, 54, 55] [0, 2] (by decide) low0 (by first | rfl | simp only [go_sem, seval, e_3012, e_3014, e_3033]) (by first | rfl | simp only [go_sem, seval, e_3012, e_3014, e_3033])), (Nat.zero_le _), ih _ _ _ h hp⟩
    · rw [if_neg h_3032] at h; have e_3033 : decide ((l_4.length : Int) ≤ a_7) = false := bfalse h_3032; obtain ⟨y_3038, h_3039, h⟩ := bindS h; simp only [e_3012, e_3014, e_3033, go_sem, seval]; refine ACalls.go0 (order_syllable_key_w N _ _ _ _ _ _ _ _ _ _ c_0 _ h_3039) ?_; have e_3040 := tk eI64 s_3010; have e_3041 : (List.map eI64 s_3010) ++ [[.int .i64 y_3038]] = (List.map eI64 (s_3010 ++ [y_3038])) := app_map s_3010 ([y_3038]) eI64; obtain ⟨e_3043, h⟩ := guardE h; simp only [e_3012, e_3014, e_3033, e_3040, e_3041, e_3043, go_sem, seval]; rw [← hQ]; exact ⟨_, _, (Ref.std [2, 11, 12, 13, 54, 55] [0, 2] (by decide) low0 (by first | rfl | simp only [go_sem, seval, e_3012, e_3014, e_3033]) (by first | rfl | simp only [go_sem, seval, e_3012, e_3014, e_3033])), (Nat.zero_le _), ih _ _ _ h hp⟩
  · simp only [e_3012, go_sem, seval]; cases h; rw [← hQ]; exact ⟨_, _, (Ref.std [13] [1] (by decide) low0 rfl (by first | rfl | simp only [go_sem, seval])), hp⟩
theorem order_Keys_w (N : Nat) (a_0 : Int) (w_1 : ByteArray) (b_2 : Bool) (a_3 : Int) (l_4 : List Int) (l_5 : List Int) (a_6 : Int) (a_7 : Int) (c_0 : Bool) (c_1 : Bool) (z_1 : List Int) (h : order_Keys N a_0 w_1 b_2 a_3 l_4 l_5 a_6 a_7 = some z_1) :
  ACalls Try.prog 8 [.agg [.int .i64 a_0, .str w_1, .bool b_2, .int .i64 a_3], .vec c_0 (List.map eI64 l_4), .vec c_1 (List.map eI64 l_5), .int .i64 a_6, .int .i64 a_7] [] (fun e H => H = [] ∧ e = .ret (.vec false (List.map eI64 z_1))) := by
 unfold order_Keys at h; refine ACalls.goN Try.func8 n8 a8 Try.ntmps8 r8 (by simp) 0 rfl ?_; generalize hQ : bodyA _ _ _ = QQ; simp only [A8, go_sem, seval]; rcases iteS h with ⟨e_2, h⟩ | ⟨e_2, h⟩
 · simp only [e_2, go_sem, seval]; obtain ⟨y_2006, h_1003, h⟩ := bindS h; refine ALp.ref (Ref.std [1, 2, 11, 12] [1] (by decide) low0 rfl (by first | rfl | simp only [go_sem, seval, e_2])) (Nat.zero_le _) (order_Keys_L1_w N _ _ _ _ _ _ _ _ c_0 c_1 N y_2006 h_1003 ?_); refine LoopK_go rfl (Nat.zero_le _) ?_; simp only [e_2, go_sem, seval]; obtain ⟨y_2005, h_2004, h⟩ := bindS h; refine ALp.ref (Ref.trans (Ref.thaw (Nat.zero_le _) 13 rfl (sz := 1) (by decide) 3) (Ref.std [2, 11, 12, 13, 54, 55] [0, 1] (by decide) low0 rfl (by first | rfl | simp only [go_sem, seval, e_2]))) (Nat.zero_le _) (order_Keys_L2_w N _ _ _ _ _ _ _ _ c_1 c_0 N _ _ y_2005 h_2004 ?_); refine LoopK_go rfl (Nat.zero_le _) ?_; simp only [e_2, go_sem, seval]; obtain rfl := si h; rw [← hQ]; exact ⟨rfl, _, rfl, _, _, (RefV.trans (RefV.frz (Nat.zero_le _) (id := 0) rfl (pures_map y_2005 eI64 (fun _ => rfl))) (RefV.out (by first | rfl | simp only [go_sem, seval, e_2]))), rfl, rfl⟩
 · simp only [e_2, go_sem, seval]; obtain ⟨y_3008, h_3007, h⟩ := bindS h; refine ALp.ref (Ref.std [1, 2, 11, 12] [1] (by decide) low0 (by first | rfl | simp only [go_sem, seval, e_2]) (by first | rfl | simp only [go_sem, seval, e_2])) (Nat.zero_le _) (order_Keys_L3_w N _ _ _ _ _ _ _ _ c_0 c_1 N _ y_3008 h_3007 ?_); refine LoopK_go rfl (Nat.zero_le _) ?_; simp only [e_2, go_sem, seval]; obtain ⟨y_4010, h_4009, h⟩ := bindS h; refine ALp.ref (Ref.trans (Ref.thaw (Nat.zero_le _) 13 rfl (sz := 1) (by decide) 3) (Ref.std [2, 11, 12, 13, 54, 55] [0, 1] (by decide) low0 (by first | rfl | simp only [go_sem, seval, e_2]) (by first | rfl | simp only [go_sem, seval, e_2]))) (Nat.zero_le _) (order_Keys_L4_w N _ _ _ _ _ _ _ _ _ c_1 c_0 N _ _ y_4010 h_4009 ?_); refine LoopK_go rfl (Nat.zero_le _) ?_; simp only [e_2, go_sem, seval]; obtain rfl := si h; rw [← hQ]; exact ⟨rfl, _, rfl, _, _, (RefV.trans (RefV.frz (Nat.zero_le _) (id := 0) rfl (pures_map y_4010 eI64 (fun _ => rfl))) (RefV.out (by first | rfl | simp only [go_sem, seval, e_2]))), rfl, rfl⟩
theorem ref01_Ints_L1_w (N : Nat) (l_0 : List Int) (l_1 : List Int) (c_0 : Bool) (c_1 : Bool) {R : AExit → ATm → List AObj → Prop} : ∀ (n : Nat) (i_3 : Int) (o : (Unit) ⊕ (Unit)), ref01_Ints_L1 N l_0 l_1 n i_3 = some o → (match o with | .inl _ => R (.exit 0) ⟨26, [], []⟩ [] | .inr (_) => R .ret ⟨26, [(4, .bool false)], []⟩ []) →
  ALp Try.prog 0 B10_1 ⟨26, [(0, .vec c_0 (List.map eI64 l_0)), (1, .vec c_1 (List.map eI64 l_1)), (5, .int .i64 i_3)], []⟩ [] R := by
 intro n
 induction n with
 | zero =>
  intro i_3 o h _; exact no0 h
 | succ n ih =>
  intro i_3 o h hp; rw [ref01_Ints_L1] at h; refine ALp.round ?_; generalize hQ : RoundQ _ _ _ _ = QQ; simp only [B10_1, A10, go_sem, seval]; rcases iteS h with ⟨e_5, h⟩ | ⟨e_5, h⟩
  ·
   obtain ⟨x_6, h_7, h⟩ := bindS h; have e_8 : (List.map eI64 l_0)[(i_3).toNat]? = some [.int .i64 x_6] := atI_map eI64 h_7; have e_9 := eq_true (atI_some h_7).1; have e_10 := eq_true (atI_lt h_7); obtain ⟨x_11, h_12, h⟩ := bindS h; have e_13 : (List.map eI64 l_1)[(i_3).toNat]? = some [.int .i64 x_11] := atI_map eI64 h_12; have e_14 := eq_true (atI_some h_12).1; have e_15 := eq_true (atI_lt h_12); simp only [e_5, e_8, e_9, e_10, e_13, e_14, e_15, go_sem, seval]; rcases iteS h with ⟨e_17, h⟩ | ⟨e_17, h⟩
   · simp only [e_5, e_8, e_9, e_10, e_13, e_14, e_15, e_17, go_sem, seval]; rw [← hQ]; exact ⟨_, _, (Ref.out [0, 1, 5] rfl), (Nat.zero_le _), ih _ _ h hp⟩
   · simp only [e_5, e_8, e_9, e_10, e_13, e_14, e_15, e_17, go_sem, seval]; cases h; rw [← hQ]; exact ⟨_, _, (Ref.out [4] rfl), hp⟩
  · simp only [e_5, go_sem, seval]; cases h; rw [← hQ]; exact ⟨_, _, (Ref.out [] rfl), hp⟩
theorem ref01_Ints_w (N : Nat) (l_0 : List Int) (l_1 : List Int) (c_0 : Bool) (c_1 : Bool) (z_1 : Bool) (h : ref01_Ints N l_0 l_1 = some z_1) :
  ACalls Try.prog 10 [.vec c_0 (List.map eI64 l_0), .vec c_1 (List.map eI64 l_1)] [] (fun e H => H = [] ∧ e = .ret (.bool z_1)) := by
 unfold ref01_Ints at h; refine ACalls.goN Try.func10 n10 a10 Try.ntmps10 r10 (by simp) 0 rfl ?_; generalize hQ : bodyA _ _ _ = QQ; simp only [A10, go_sem, seval]; rcases iteS h with ⟨e_2, h⟩ | ⟨e_2, h⟩
 ·
  simp only [e_2, go_sem, seval]; obtain ⟨o_1004, h_1003, h⟩ := bindS h; refine ALp.ref (Ref.out [0, 1, 5] rfl) (Nat.zero_le _) (ref01_Ints_L1_w N _ _ c_0 c_1 N _ o_1004 h_1003 ?_); rcases o_1004 with _ | _
  · (try dsimp only at h); refine LoopK_go rfl (Nat.zero_le _) ?_; simp only [e_2, go_sem, seval]; obtain rfl := si h; rw [← hQ]; exact ⟨rfl, _, rfl, _, _, (RefV.out rfl), rfl, rfl⟩
  · (try dsimp only at h); refine LoopK_ret ?_; obtain rfl := si h; rw [← hQ]; exact ⟨rfl, _, rfl, _, _, (RefV.out rfl), rfl, rfl⟩
 · simp only [e_2, go_sem, seval]; obtain rfl := si h; rw [← hQ]; exact ⟨rfl, _, rfl, _, _, (RefV.out rfl), rfl, rfl⟩
theorem order_Final_L1_w (N : Nat) (l_4 : List Int) (a_0 : Int) (w_1 : ByteArray) (b_2 : Bool) (a_3 : Int) (c_0 : Bool) {R : AExit → ATm → List AObj → Prop} : ∀ (n : Nat) (i_1 : Int) (s_2 : List Int) (o : (List Int)), order_Final_L1 N l_4 a_0 w_1 b_2 a_3 n i_1 s_2 = some o → (match o with | z_1 => R (.exit 0) ⟨24, [(5, .row 0 0 z_1.length)], []⟩ [.mem 1 (List.map eI64 z_1) 3]) →
  ALp Try.prog 0 B11_1 ⟨24, [(2, .ptr 0 0 0), (5, .row 1 0 s_2.length), (8, .vec c_0 (List.map eI64 l_4)), (9, .int .i64 (l_4.length : Int)), (10, .int .i64 i_1)], []⟩ [.box [.int .i64 a_0, .str w_1, .bool b_2, .int .i64 a_3] 26, .mem 1 (List.map eI64 s_2) 3] R := by
 intro n
 induction n with
 | zero =>
  intro i_1 s_2 o h _; exact no0 h
 | succ n ih =>
  intro i_1 s_2 o h hp; rw [order_Final_L1] at h; refine ALp.round ?_; generalize hQ : RoundQ _ _ _ _ = QQ; simp only [B11_1, A11, go_sem, seval]; rcases iteS h with ⟨e_4, h⟩ | ⟨e_4, h⟩
  ·
   obtain ⟨x_5, h_6, h⟩ := bindS h; have e_7 : (List.map eI64 l_4)[(i_1).toNat]? = some [.int .i64 x_5] := atI_map eI64 h_6; have e_8 := eq_true (atI_some h_6).1; have e_9 := eq_true (atI_lt h_6); simp only [e_4, e_7, e_8, e_9, go_sem, seval]; rcases iteS h with ⟨e_11, h⟩ | ⟨e_11, h⟩
   · have e_12 := tk eI64 s_2; have e_13 : (List.map eI64 s_2) ++ [[.int .i64 a_3]] = (List.map eI64 (s_2 ++ [a_3])) := app_map s_2 ([a_3]) eI64; obtain ⟨e_15, h⟩ := guardE h; simp only [e_4, e_7, e_8, e_9, e_11, e_12, e_13, e_15, go_sem, seval]; rw [← hQ]; exact ⟨_, _, (Ref.std [2, 5, 8, 9, 10] [0, 2] (by decide) low0 (by first | rfl | simp only [go_sem, seval]) (by first | rfl | simp only [go_sem, seval, e_4, e_11])), (Nat.zero_le _), ih _ _ _ h hp⟩
   · have e_16 := tk eI64 s_2; have e_17 : (List.map eI64 s_2) ++ [[.int .i64 x_5]] = (List.map eI64 (s_2 ++ [x_5])) := app_map s_2 ([x_5]) eI64; obtain ⟨e_19, h⟩ := guardE h; simp only [e_4, e_7, e_8, e_9, e_11, e_16, e_17, e_19, go_sem, seval]; rw [← hQ]; exact ⟨_, _, (Ref.std [2, 5, 8, 9, 10] [0, 2] (by decide) low0 (by first | rfl | simp only [go_sem, seval]) (by first | rfl | simp only [go_sem, seval, e_4, e_11])), (Nat.zero_le _), ih _ _ _ h hp⟩
  · simp only [e_4, go_sem, seval]; cases h; rw [← hQ]; exact ⟨_, _, (Ref.std [5] [1] (by decide) low0 rfl (by first | rfl | simp only [go_sem, seval])), hp⟩
theorem order_Final_w (N : Nat) (a_0 : Int) (w_1 : ByteArray) (b_2 : Bool) (a_3 : Int) (l_4 : List Int) (c_0 : Bool) (z_1 : List Int) (h : order_Final N a_0 w_1 b_2 a_3 l_4 = some z_1) :
  ACalls Try.prog 11 [.agg [.int .i64 a_0, .str w_1, .bool b_2, .int .i64 a_3], .vec c_0 (List.map eI64 l_4)] [] (fun e H => H = [] ∧ e = .ret (.vec false (List.map eI64 z_1))) := by
 unfold order_Final at h; refine ACalls.goN Try.func11 n11 a11 Try.ntmps11 r11 (by simp) 0 rfl ?_; generalize hQ : bodyA _ _ _ = QQ; simp only [A11, go_sem, seval]; obtain ⟨y_1002, h_1001, h⟩ := bindS h; refine ALp.ref (Ref.trans (Ref.thaw (Nat.zero_le _) 5 rfl (sz := 1) (by decide) 3) (Ref.std [2, 5, 8, 9, 10] [0, 1] (by decide) low0 rfl (by first | rfl | simp only [go_sem, seval]))) (Nat.zero_le _) (order_Final_L1_w N _ _ _ _ _ c_0 N _ _ y_1002 h_1001 ?_); refine LoopK_go rfl (Nat.zero_le _) ?_; simp only [go_sem, seval]; obtain rfl := si h; rw [← hQ]; exact ⟨rfl, _, rfl, _, _, (RefV.trans (RefV.frz (Nat.zero_le _) (id := 0) rfl (pures_map y_1002 eI64 (fun _ => rfl))) (RefV.out (by first | rfl | simp only [go_sem, seval]))), rfl, rfl⟩
theorem law26_alive_w (N : Nat) (z_1 : Bool) (h : law26_alive N = some z_1) :
  ACalls Try.prog 4 [] [] (fun e H => H = [] ∧ e = .ret (.bool z_1)) := by
 unfold law26_alive at h; refine ACalls.goN Try.func4 n4 a4 Try.ntmps4 r4 (by simp) 0 rfl ?_; generalize hQ : bodyA _ _ _ = QQ; obtain ⟨y_1, h_2, h⟩ := bindS h; simp only [A4, go_sem, seval]; refine ACalls.go0 (order_Elsewhere_w N _ _ _ _ _ _ true _ h_2) ?_; obtain ⟨y_3, h_4, h⟩ := bindS h; simp only [go_sem, seval]; refine ACalls.go0 (order_Base_w N _ _ _ _ _ _ _ true true _ h_4) ?_; obtain ⟨y_5, h_6, h⟩ := bindS h; simp only [go_sem, seval]; refine ACalls.go0 (order_Keys_w N _ _ _ _ _ _ _ _ true true _ h_6) ?_; simp only [go_sem, seval]; rcases iteS h with ⟨e_8, h⟩ | ⟨e_8, h⟩
 ·
  simp only [e_8, go_sem, seval]; rcases iteS h with ⟨e_10, h⟩ | ⟨e_10, h⟩
  ·
   obtain ⟨y_11, h_12, h⟩ := bindS h; simp only [e_8, e_10, go_sem, seval]; refine ACalls.go0 (ref01_Ints_w N _ _ false true _ h_12) ?_; simp only [e_8, e_10, go_sem, seval]; rcases iteB h with ⟨e_14, h⟩ | ⟨e_14, h⟩
   · obtain ⟨y_15, h_16, h⟩ := bindS h; simp only [e_8, e_10, e_14, go_sem, seval]; refine ACalls.go0 (order_Final_w N _ _ _ _ _ false _ h_16) ?_; obtain ⟨y_17, h_18, h⟩ := bindS h; simp only [e_8, e_10, e_14, go_sem, seval]; refine ACalls.go0 (ref01_Ints_w N _ _ false true _ h_18) ?_; simp only [e_8, e_10, e_14, go_sem, seval]; obtain rfl := si h; rw [← hQ]; exact ⟨rfl, _, rfl, _, _, (RefV.out (by first | rfl | simp only [go_sem, seval, e_8, e_10, e_14])), rfl, rfl⟩
   · simp only [e_8, e_10, e_14, go_sem, seval]; obtain rfl := si h; rw [← hQ]; exact ⟨rfl, _, rfl, _, _, (RefV.out rfl), rfl, rfl⟩
  · simp only [e_8, e_10, go_sem, seval]; obtain rfl := si h; rw [← hQ]; exact ⟨rfl, _, rfl, _, _, (RefV.out rfl), rfl, rfl⟩
 · simp only [e_8, go_sem, seval]; obtain rfl := si h; rw [← hQ]; exact ⟨rfl, _, rfl, _, _, (RefV.out rfl), rfl, rfl⟩
theorem ref05_Split_L1_w (N : Nat) (w_0 : ByteArray) (a_1 : Int) {R : AExit → ATm → List AObj → Prop} : ∀ (n : Nat) (i_1 : Int) (i_2 : Int) (s_3 : List ByteArray) (o : Int × (List ByteArray)), ref05_Split_L1 N w_0 a_1 n i_1 i_2 s_3 = some o → (match o with | (z_1, z_2) => R (.exit 0) ⟨34, [(0, .str w_0), (5, .row 0 0 z_2.length), (6, .int .i64 z_1)], []⟩ [.mem 1 (List.map eS z_2) 9]) →
  ALp Try.prog 0 B20_1 ⟨34, [(0, .str w_0), (1, .int .u8 a_1), (5, .row 0 0 s_3.length), (6, .int .i64 i_1), (7, .int .i64 i_2)], []⟩ [.mem 1 (List.map eS s_3) 9] R := by
 intro n
 induction n with
 | zero =>
  intro i_1 i_2 s_3 o h _; exact no0 h
 | succ n ih =>
  intro i_1 i_2 s_3 o h hp; rw [ref05_Split_L1] at h; refine ALp.round ?_; generalize hQ : RoundQ _ _ _ _ = QQ; simp only [B20_1, A20, go_sem, seval]; rcases iteS h with ⟨e_5, h⟩ | ⟨e_5, h⟩
  ·
   obtain ⟨e_7, h⟩ := guardE h; obtain ⟨x_8, h_9, h⟩ := bindS h; have e_10 : (w_0.data)[(i_2).toNat]? = some x_8 := h_9; simp only [e_5, e_7, e_10, go_sem, seval]; rcases iteS h with ⟨e_12, h⟩ | ⟨e_12, h⟩
   · obtain ⟨e_14, h⟩ := guardE h; obtain ⟨e_16, h⟩ := guardE h; obtain ⟨e_18, h⟩ := guardE h; have e_19 := tk eS s_3; have e_20 : (List.map eS s_3) ++ [[.str (w_0.extract (i_1).toNat (i_2).toNat)]] = (List.map eS (s_3 ++ [(w_0.extract (i_1).toNat (i_2).toNat)])) := app_map s_3 ([(w_0.extract (i_1).toNat (i_2).toNat)]) eS; obtain ⟨e_22, h⟩ := guardE h; simp only [e_5, e_7, e_10, e_12, e_14, e_16, e_18, e_19, e_20, e_22, go_sem, seval]; rw [← hQ]; exact ⟨_, _, (Ref.std [0, 1, 5, 6, 7] [1] (by decide) low0 (by first | rfl | simp only [go_sem, seval]) (by first | rfl | simp only [go_sem, seval])), (Nat.zero_le _), ih _ _ _ _ h hp⟩
   · simp only [e_5, e_7, e_10, e_12, go_sem, seval]; rw [← hQ]; exact ⟨_, _, (Ref.std [0, 1, 5, 6, 7] [0] (by decide) low0 rfl (by first | rfl | simp only [go_sem, seval])), (Nat.zero_le _), ih _ _ _ _ h hp⟩
  · simp only [e_5, go_sem, seval]; cases h; rw [← hQ]; exact ⟨_, _, (Ref.std [0, 5, 6] [0] (by decide) low0 rfl (by first | rfl | simp only [go_sem, seval])), hp⟩
theorem ref05_Split_w (N : Nat) (w_0 : ByteArray) (a_1 : Int) (z_1 : List ByteArray) (h : ref05_Split N w_0 a_1 = some z_1) :
  ACalls Try.prog 20 [.str w_0, .int .u8 a_1] [] (fun e H => H = [] ∧ e = .ret (.vec false (List.map eS z_1))) := by
 unfold ref05_Split at h; refine ACalls.goN Try.func20 n20 a20 Try.ntmps20 r20 (by simp) 0 rfl ?_; generalize hQ : bodyA _ _ _ = QQ; simp only [A20, go_sem, seval]; obtain ⟨⟨y_1002, y_1003⟩, h_1001, h⟩ := bindS h; (try dsimp only at h); refine ALp.ref (Ref.trans (Ref.thaw (Nat.zero_le _) 5 rfl (sz := 1) (by decide) 9) (Ref.std [0, 1, 5, 6, 7] [0] (by decide) low0 rfl (by first | rfl | simp only [go_sem, seval]))) (Nat.zero_le _) (ref05_Split_L1_w N _ _ N _ _ _ _ h_1001 ?_); refine LoopK_go rfl (Nat.zero_le _) ?_; obtain ⟨e_1005, h⟩ := guardE h; obtain ⟨e_1007, h⟩ := guardE h; have e_1008 := tk eS y_1003; have e_1009 : (List.map eS y_1003) ++ [[.str (w_0.extract (y_1002).toNat w_0.size)]] = (List.map eS (y_1003 ++ [(w_0.extract (y_1002).toNat w_0.size)])) := app_map y_1003 ([(w_0.extract (y_1002).toNat w_0.size)]) eS; obtain ⟨e_1011, h⟩ := guardE h; simp only [e_1005, e_1007, e_1008, e_1009, e_1011, go_sem, seval]; obtain rfl := si h; rw [← hQ]; exact ⟨rfl, _, rfl, _, _, (RefV.trans (RefV.frz (Nat.zero_le _) (id := 1) rfl (pures_map (y_1003 ++ [(w_0.extract (y_1002).toNat w_0.size)]) eS (fun _ => rfl))) (RefV.out (by first | rfl | simp only [go_sem, seval]))), rfl, rfl⟩
theorem ref25_Tags_w (N : Nat) (z_1 : List ByteArray) (h : ref25_Tags N = some z_1) :
  ACalls Try.prog 12 [] [] (fun e H => H = [] ∧ e = .ret (.vec false (List.map eS z_1))) := by
 unfold ref25_Tags at h; refine ACalls.goN Try.func12 n12 a12 Try.ntmps12 r12 (by simp) 0 rfl ?_; generalize hQ : bodyA _ _ _ = QQ; obtain ⟨y_1, h_2, h⟩ := bindS h; simp only [A12, go_sem, seval]; refine ACalls.go0 (ref05_Split_w N _ _ _ h_2) ?_; simp only [go_sem, seval]; obtain rfl := si h; rw [← hQ]; exact ⟨rfl, _, rfl, _, _, (RefV.out rfl), rfl, rfl⟩
theorem ref25_Of_L1_w (N : Nat) (w_0 : ByteArray) (y_1 : List ByteArray) {R : AExit → ATm → List AObj → Prop} : ∀ (n : Nat) (i_3 : Int) (i_4 : Int) (o : Int), ref25_Of_L1 N w_0 y_1 n i_3 i_4 = some o → (match o with | z_1 => R (.exit 0) ⟨59, [(2, .ptr 0 0 0), (3, .ptr 1 0 0), (5, .int .i64 z_1)], []⟩ [.box [.int .i64 0, .str (⟨#[]⟩), .bool false, .int .i64 0] 26, .box [.int .i64 0, .str w_0, .bool false, .int .i64 0] 26]) →
  ALp Try.prog 0 B5_1 ⟨59, [(0, .str w_0), (2, .ptr 0 0 0), (3, .ptr 1 0 0), (4, .vec false (List.map eS y_1)), (5, .int .i64 i_3), (6, .int .i64 i_4)], []⟩ [.box [.int .i64 0, .str (⟨#[]⟩), .bool false, .int .i64 0] 26, .box [.int .i64 0, .str w_0, .bool false, .int .i64 0] 26] R := by
 intro n
 induction n with
 | zero =>
  intro i_3 i_4 o h _; exact no0 h
 | succ n ih =>
  intro i_3 i_4 o h hp; rw [ref25_Of_L1] at h; refine ALp.round ?_; generalize hQ : RoundQ _ _ _ _ = QQ; simp only [B5_1, A5, go_sem, seval]; rcases iteS h with ⟨e_6, h⟩ | ⟨e_6, h⟩
  ·
   obtain ⟨x_7, h_8, h⟩ := bindS h; have e_9 : (List.map eS y_1)[(i_4).toNat]? = some [.str x_7] := atI_map eS h_8; have e_10 := eq_true (atI_some h_8).1; have e_11 := eq_true (atI_lt h_8); simp only [e_6, e_9, e_10, e_11, go_sem, seval]; by_cases h_12 : (ByteArray.toList x_7 == ByteArray.toList w_0) = true
   · rw [if_pos h_12] at h; have e_13 : (ByteArray.toList x_7 == ByteArray.toList w_0) = true := h_12; simp only [e_6, e_9, e_10, e_11, e_13, go_sem, seval]; rw [← hQ]; exact ⟨_, _, (Ref.std [0, 2, 3, 4, 5, 6] [0, 1] (by decide) low0 rfl rfl), (Nat.zero_le _), ih _ _ _ h hp⟩
   · rw [if_neg h_12] at h; have e_13 : (ByteArray.toList x_7 == ByteArray.toList w_0) = false := bfalse h_12; simp only [e_6, e_9, e_10, e_11, e_13, go_sem, seval]; rw [← hQ]; exact ⟨_, _, (Ref.std [0, 2, 3, 4, 5, 6] [0, 1] (by decide) low0 rfl rfl), (Nat.zero_le _), ih _ _ _ h hp⟩
  · simp only [e_6, go_sem, seval]; cases h; rw [← hQ]; exact ⟨_, _, (Ref.std [2, 3, 5] [0, 1] (by decide) low0 rfl rfl), hp⟩
theorem ref25_Of_w (N : Nat) (w_0 : ByteArray) (z_1 : Int) (z_2 : ByteArray) (z_3 : Bool) (z_4 : Int) (h : ref25_Of N w_0 = some (z_1, z_2, z_3, z_4)) :
  ACalls Try.prog 5 [.str w_0] [] (fun e H => H = [] ∧ e = .ret (.agg [.int .i64 z_1, .str z_2, .bool z_3, .int .i64 z_4])) := by
 unfold ref25_Of at h; refine ACalls.goN Try.func5 n5 a5 Try.ntmps5 r5 (by simp) 0 rfl ?_; generalize hQ : bodyA _ _ _ = QQ; obtain ⟨y_1, h_2, h⟩ := bindS h; simp only [A5, go_sem, seval]; refine ACalls.go0 (ref25_Tags_w N _ h_2) ?_; simp only [go_sem, seval]; obtain ⟨y_1004, h_1003, h⟩ := bindS h; refine ALp.ref (Ref.std [0, 2, 3, 4, 5, 6] [0, 1] (by decide) low0 rfl rfl) (Nat.zero_le _) (ref25_Of_L1_w N _ _ N _ _ y_1004 h_1003 ?_); refine LoopK_go rfl (Nat.zero_le _) ?_; simp only [go_sem, seval]; rcases iteS h with ⟨e_1006, h⟩ | ⟨e_1006, h⟩
 · simp only [e_1006, go_sem, seval]; obtain ⟨rfl, g⟩ := pj (si h); obtain ⟨rfl, g1⟩ := pj g; obtain ⟨rfl, rfl⟩ := pj g1; rw [← hQ]; exact ⟨rfl, _, rfl, _, _, (RefV.out rfl), rfl, rfl⟩
 ·
  simp only [e_1006, go_sem, seval]; rcases iteS h with ⟨e_1008, h⟩ | ⟨e_1008, h⟩
  · obtain ⟨x_1009, h_1010, h⟩ := bindS h; have e_1011 : ([[.int .i64 8], [.int .i64 5], [.int .i64 5], [.int .i64 8], [.int .i64 4], [.int .i64 9], [.int .i64 9], [.int .i64 9], [.int .i64 4]] : List (List AV))[(y_1004).toNat]? = some [.int .i64 x_1009] := atI_map eI64 h_1010; have e_1012 := eq_true (atI_some h_1010).1; simp only [e_1006, e_1008, e_1011, e_1012, go_sem, seval]; obtain ⟨rfl, g⟩ := pj (si h); obtain ⟨rfl, g1⟩ := pj g; obtain ⟨rfl, rfl⟩ := pj g1; rw [← hQ]; exact ⟨rfl, _, rfl, _, _, (RefV.out rfl), rfl, rfl⟩
  ·
   simp only [e_1006, e_1008, go_sem, seval]; rcases iteS h with ⟨e_1014, h⟩ | ⟨e_1014, h⟩
   · simp only [e_1006, e_1008, e_1014, go_sem, seval]; obtain ⟨rfl, g⟩ := pj (si h); obtain ⟨rfl, g1⟩ := pj g; obtain ⟨rfl, rfl⟩ := pj g1; rw [← hQ]; exact ⟨rfl, _, rfl, _, _, (RefV.out rfl), rfl, rfl⟩
   ·
    simp only [e_1006, e_1008, e_1014, go_sem, seval]; rcases iteS h with ⟨e_1016, h⟩ | ⟨e_1016, h⟩
    · simp only [e_1006, e_1008, e_1014, e_1016, go_sem, seval]; obtain ⟨rfl, g⟩ := pj (si h); obtain ⟨rfl, g1⟩ := pj g; obtain ⟨rfl, rfl⟩ := pj g1; rw [← hQ]; exact ⟨rfl, _, rfl, _, _, (RefV.out rfl), rfl, rfl⟩
    ·
     simp only [e_1006, e_1008, e_1014, e_1016, go_sem, seval]; rcases iteS h with ⟨e_1018, h⟩ | ⟨e_1018, h⟩
     · simp only [e_1006, e_1008, e_1014, e_1016, e_1018, go_sem, seval]; obtain ⟨rfl, g⟩ := pj (si h); obtain ⟨rfl, g1⟩ := pj g; obtain ⟨rfl, rfl⟩ := pj g1; rw [← hQ]; exact ⟨rfl, _, rfl, _, _, (RefV.out rfl), rfl, rfl⟩
     ·
      simp only [e_1006, e_1008, e_1014, e_1016, e_1018, go_sem, seval]; rcases iteS h with ⟨e_1020, h⟩ | ⟨e_1020, h⟩
      · simp only [e_1006, e_1008, e_1014, e_1016, e_1018, e_1020, go_sem, seval]; obtain ⟨rfl, g⟩ := pj (si h); obtain ⟨rfl, g1⟩ := pj g; obtain ⟨rfl, rfl⟩ := pj g1; rw [← hQ]; exact ⟨rfl, _, rfl, _, _, (RefV.out rfl), rfl, rfl⟩
      · simp only [e_1006, e_1008, e_1014, e_1016, e_1018, e_1020, go_sem, seval]; obtain ⟨rfl, g⟩ := pj (si h); obtain ⟨rfl, g1⟩ := pj g; obtain ⟨rfl, rfl⟩ := pj g1; rw [← hQ]; exact ⟨rfl, _, rfl, _, _, (RefV.out rfl), rfl, rfl⟩
theorem law26_OrderSorts_L1_w (N : Nat) (l_1 : List Int) (l_2 : List Int) (y_16 : Int) (y_18 : Int) (y_20 : List Int) (c_0 : Bool) (c_1 : Bool) {R : AExit → ATm → List AObj → Prop} : ∀ (n : Nat) (i_41 : Int) (s_42 : List TGlyph) (o : ((List TGlyph)) ⊕ (Unit)), law26_OrderSorts_L1 N l_1 l_2 y_16 y_18 y_20 n i_41 s_42 = some o → (match o with | .inl z_1 => R (.exit 0) ⟨188, [(12, .int .i64 y_16), (13, .int .i64 y_18), (14, .vec false (List.map eI64 y_20)), (15, .row 0 0 z_1.length)], []⟩ [.mem 14 (List.map eTGlyph z_1) 33] | .inr (_) => R .ret ⟨188, [(10, .bool false)], []⟩ []) →
  ALp Try.prog 0 B3_1 ⟨188, [(1, .vec c_0 (List.map eI64 l_1)), (2, .vec c_1 (List.map eI64 l_2)), (12, .int .i64 y_16), (13, .int .i64 y_18), (14, .vec false (List.map eI64 y_20)), (15, .row 0 0 s_42.length), (16, .int .i64 i_41)], []⟩ [.mem 14 (List.map eTGlyph s_42) 33] R := by
 intro n
 induction n with
 | zero =>
  intro i_41 s_42 o h _; exact no0 h
 | succ n ih =>
  intro i_41 s_42 o h hp; rw [law26_OrderSorts_L1] at h; refine ALp.round ?_; generalize hQ : RoundQ _ _ _ _ = QQ; simp only [B3_1, A3, go_sem, seval]; rcases iteS h with ⟨e_44, h⟩ | ⟨e_44, h⟩
  ·
   obtain ⟨x_45, h_46, h⟩ := bindS h; have e_47 : (List.map eI64 y_20)[(i_41).toNat]? = some [.int .i64 x_45] := atI_map eI64 h_46; have e_48 := eq_true (atI_some h_46).1; have e_49 := eq_true (atI_lt h_46); simp only [e_44, e_47, e_48, e_49, go_sem, seval]; rcases iteS h with ⟨e_51, h⟩ | ⟨e_51, h⟩
   · simp only [e_44, e_47, e_48, e_49, e_51, go_sem, seval]; cases h; rw [← hQ]; exact ⟨_, _, (Ref.out [10] rfl), hp⟩
   ·
    simp only [e_44, e_47, e_48, e_49, e_51, go_sem, seval]; rcases iteS h with ⟨e_53, h⟩ | ⟨e_53, h⟩
    · simp only [e_44, e_47, e_48, e_49, e_51, e_53, go_sem, seval]; cases h; rw [← hQ]; exact ⟨_, _, (Ref.out [10] rfl), hp⟩
    ·
     obtain ⟨x_54, h_55, h⟩ := bindS h; have e_56 : (List.map eI64 l_1)[(i_41).toNat]? = some [.int .i64 x_54] := atI_map eI64 h_55; have e_57 := eq_true (atI_some h_55).1; have e_58 := eq_true (atI_lt h_55); simp only [e_44, e_47, e_48, e_49, e_51, e_53, e_56, e_57, e_58, go_sem, seval]; rcases iteS h with ⟨e_60, h⟩ | ⟨e_60, h⟩
     · obtain ⟨x_61, h_62, h⟩ := bindS h; have e_63 : (List.map eI64 l_2)[(i_41).toNat]? = some [.int .i64 x_61] := atI_map eI64 h_62; have e_64 := eq_true (atI_some h_62).1; have e_65 := eq_true (atI_lt h_62); have e_66 := tk eTGlyph s_42; have e_67 : (List.map eTGlyph s_42) ++ [[.int .i64 i_41, .int .i64 i_41, .int .i64 0, .int .i64 0, .int .i32 0, .int .i64 x_54, .int .i64 x_61, .int .i64 0, .int .i64 0, .int .i64 0, .int .i64 0, .int .i64 0, .int .i64 0, .int .i64 0]] = (List.map eTGlyph (s_42 ++ [TGlyph.mk i_41 i_41 0 0 0 x_54 x_61 0 0 0 0 0 0 0])) := app_map s_42 ([TGlyph.mk i_41 i_41 0 0 0 x_54 x_61 0 0 0 0 0 0 0]) eTGlyph; obtain ⟨e_69, h⟩ := guardE h; simp only [e_44, e_47, e_48, e_49, e_51, e_53, e_56, e_57, e_58, e_60, e_63, e_64, e_65, e_66, e_67, e_69, go_sem, seval]; rw [← hQ]; exact ⟨_, _, (Ref.std [1, 2, 12, 13, 14, 15, 16] [2] (by decide) low0 (by first | rfl | simp only [go_sem, seval]) (by first | rfl | simp only [go_sem, seval])), (Nat.zero_le _), ih _ _ _ h hp⟩
     · have e_70 := tk eTGlyph s_42; have e_71 : (List.map eTGlyph s_42) ++ [[.int .i64 i_41, .int .i64 i_41, .int .i64 0, .int .i64 0, .int .i32 0, .int .i64 x_54, .int .i64 0, .int .i64 0, .int .i64 0, .int .i64 0, .int .i64 0, .int .i64 0, .int .i64 0, .int .i64 0]] = (List.map eTGlyph (s_42 ++ [TGlyph.mk i_41 i_41 0 0 0 x_54 0 0 0 0 0 0 0 0])) := app_map s_42 ([TGlyph.mk i_41 i_41 0 0 0 x_54 0 0 0 0 0 0 0 0]) eTGlyph; obtain ⟨e_73, h⟩ := guardE h; simp only [e_44, e_47, e_48, e_49, e_51, e_53, e_56, e_57, e_58, e_60, e_70, e_71, e_73, go_sem, seval]; rw [← hQ]; exact ⟨_, _, (Ref.std [1, 2, 12, 13, 14, 15, 16] [2] (by decide) low0 (by first | rfl | simp only [go_sem, seval]) (by first | rfl | simp only [go_sem, seval])), (Nat.zero_le _), ih _ _ _ h hp⟩
  · simp only [e_44, go_sem, seval]; cases h; rw [← hQ]; exact ⟨_, _, (Ref.std [12, 13, 14, 15] [0] (by decide) low0 rfl (by first | rfl | simp only [go_sem, seval])), hp⟩
theorem slices_Clone_apiGlyphapiGlyph_row_w (N : Nat) (l_0 : List TGlyph) (z_1 : List TGlyph) (h : slices_Clone_apiGlyphapiGlyph_row N l_0 = some z_1) :
  ACalls Try.prog 16 [.row 0 0 l_0.length] [.mem 14 (List.map eTGlyph l_0) 33] (fun e H => H = [.mem 14 (List.map eTGlyph l_0) 33, .mem 14 (List.map eTGlyph z_1) 33] ∧ e = .ret (.row 1 0 z_1.length)) := by
 unfold slices_Clone_apiGlyphapiGlyph_row at h; refine ACalls.goN Try.func16 n16 a16 Try.ntmps16 r16 (by simp) 1 rfl ?_; generalize hQ : bodyA _ _ _ = QQ; simp only [A16, go_sem, seval]; by_cases h_1 : l_0 = []
 ·
  rw [if_pos h_1] at h; have e_2 : l_0 = [] := h_1; simp only [e_2, go_sem, seval]; refine ⟨?_, ?_⟩
  · (try simp only [e_2, go_sem, seval]); obtain rfl := si h; rw [← hQ]; exact ⟨rfl, _, rfl, _, _, (RefV.trans (RefV.thaw0 (by simp) (sz := 14) (by decide) 33) (RefV.std [0, 1] (by decide) (by decide) rfl (by first | rfl | simp only [go_sem, seval, e_2]))), rfl, rfl⟩
  · (try simp only [e_2, go_sem, seval]); obtain rfl := si h; rw [← hQ]; exact ⟨rfl, _, rfl, _, _, (RefV.std [0, 1] (by decide) (by decide) rfl (by first | rfl | simp only [go_sem, seval, e_2])), rfl, rfl⟩
 · rw [if_neg h_1] at h; have e_2 : (l_0.length = 0) = False ∧ (0 < l_0.length) = True := ⟨eq_false (fun q => h_1 (List.eq_nil_of_length_eq_zero q)), eq_true (Nat.pos_of_ne_zero (fun q => h_1 (List.eq_nil_of_length_eq_zero q)))⟩; have e_3 := tk eTGlyph l_0; have e_4 := all_len l_0 eTGlyph 14 (fun _ => rfl); obtain ⟨e_6, h⟩ := guardE h; simp only [e_2, e_3, e_4, e_6, go_sem, seval]; obtain rfl := si h; rw [← hQ]; exact ⟨rfl, _, rfl, _, _, (RefV.std [0, 1] (by decide) (by decide) rfl (by first | rfl | simp only [go_sem, seval, e_2])), rfl, rfl⟩
theorem buffer_Sort_row_L1_w (N : Nat) (a_1 : Int) (l_3 : List Int) (l_0 : List TGlyph) (c_0 : Bool) {R : AExit → ATm → List AObj → Prop} : ∀ (n : Nat) (i_15 : Int) (s_16 : List Int) (o : (List Int)), buffer_Sort_row_L1 N a_1 l_3 l_0 n i_15 s_16 = some o → (match o with | z_1 => R (.exit 0) ⟨51, [(0, .row 0 0 l_0.length), (1, .int .i64 a_1), (7, .ptr 1 0 0), (9, .row 2 0 z_1.length)], []⟩ [.mem 14 (List.map eTGlyph l_0) 33, .box [.vec c_0 (List.map eI64 l_3)] 22, .mem 1 (List.map eI64 z_1) 3]) →
  ALp Try.prog 1 B9_1 ⟨51, [(0, .row 0 0 l_0.length), (1, .int .i64 a_1), (7, .ptr 1 0 0), (9, .row 2 0 s_16.length), (35, .int .i64 (l_3.length : Int)), (36, .int .i64 i_15)], []⟩ [.mem 14 (List.map eTGlyph l_0) 33, .box [.vec c_0 (List.map eI64 l_3)] 22, .mem 1 (List.map eI64 s_16) 3] R := by
 intro n
 induction n with
 | zero =>
  intro i_15 s_16 o h _; exact no0 h
 | succ n ih =>
  intro i_15 s_16 o h hp; rw [buffer_Sort_row_L1] at h; refine ALp.round ?_; generalize hQ : RoundQ _ _ _ _ = QQ; simp only [B9_1, A9, go_sem, seval]; rcases iteS h with ⟨e_18, h⟩ | ⟨e_18, h⟩
  · have e_19 := tk eI64 s_16; have e_20 : (List.map eI64 s_16) ++ [[.int .i64 i_15]] = (List.map eI64 (s_16 ++ [i_15])) := app_map s_16 ([i_15]) eI64; obtain ⟨e_22, h⟩ := guardE h; simp only [e_18, e_19, e_20, e_22, go_sem, seval]; rw [← hQ]; exact ⟨_, _, (Ref.std [0, 1, 7, 9, 35, 36] [0, 1, 3] (by decide) (by decide) (by first | rfl | simp only [go_sem, seval]) (by first | rfl | simp only [go_sem, seval])), (by simp), ih _ _ _ h hp⟩
  · simp only [e_18, go_sem, seval]; cases h; rw [← hQ]; exact ⟨_, _, (Ref.std [0, 1, 7, 9] [0, 1, 2] (by decide) (by decide) rfl (by first | rfl | simp only [go_sem, seval])), hp⟩
theorem buffer_Sort_1_w (N : Nat) (a_0 : Int) (a_1 : Int) (l_2 : List Int) (c_0 : Bool) (z_1 : Int) (h : buffer_Sort_1 N a_0 a_1 l_2 = some z_1) :
  ACalls Try.prog 18 [.int .i64 a_0, .int .i64 a_1, .ptr 0 0 0] [.box [.vec c_0 (List.map eI64 l_2)] 22] (fun e H => H = [.box [.vec c_0 (List.map eI64 l_2)] 22] ∧ e = .ret (.int .i64 z_1)) := by
 unfold buffer_Sort_1 at h; refine ACalls.goN Try.func18 n18 a18 Try.ntmps18 r18 (by simp) 1 rfl ?_; generalize hQ : bodyA _ _ _ = QQ; obtain ⟨x_1, h_2, h⟩ := bindS h; have e_3 : (List.map eI64 l_2)[(a_0).toNat]? = some [.int .i64 x_1] := atI_map eI64 h_2; have e_4 := eq_true (atI_some h_2).1; have e_5 := eq_true (atI_lt h_2); obtain ⟨x_6, h_7, h⟩ := bindS h; have e_8 : (List.map eI64 l_2)[(a_1).toNat]? = some [.int .i64 x_6] := atI_map eI64 h_7; have e_9 := eq_true (atI_some h_7).1; have e_10 := eq_true (atI_lt h_7); simp only [A18, e_3, e_4, e_5, e_8, e_9, e_10, go_sem, seval]; rcases iteS h with ⟨e_12, h⟩ | ⟨e_12, h⟩
 · simp only [e_3, e_4, e_5, e_8, e_9, e_10, e_12, go_sem, seval]; obtain rfl := si h; rw [← hQ]; exact ⟨rfl, _, rfl, _, _, (RefV.std [0] (by decide) (by decide) rfl (by first | rfl | simp only [go_sem, seval, e_12])), rfl, rfl⟩
 ·
  simp only [e_3, e_4, e_5, e_8, e_9, e_10, e_12, go_sem, seval]; rcases iteS h with ⟨e_14, h⟩ | ⟨e_14, h⟩
  · simp only [e_3, e_4, e_5, e_8, e_9, e_10, e_12, e_14, go_sem, seval]; obtain rfl := si h; rw [← hQ]; exact ⟨rfl, _, rfl, _, _, (RefV.std [0] (by decide) (by decide) rfl (by first | rfl | simp only [go_sem, seval, e_12, e_14])), rfl, rfl⟩
  · simp only [e_3, e_4, e_5, e_8, e_9, e_10, e_12, e_14, go_sem, seval]; obtain rfl := si h; rw [← hQ]; exact ⟨rfl, _, rfl, _, _, (RefV.std [0] (by decide) (by decide) rfl (by first | rfl | simp only [go_sem, seval, e_12, e_14])), rfl, rfl⟩
theorem slices_insertionSortCmpFunc_int_row_L2_w (N : Nat) (a_1 : Int) (a_2 : Int) (a_3 : Int) (a_4 : Int) (i_1 : Int) (l_5 : List Int) (c_0 : Bool) {R : AExit → ATm → List AObj → Prop} : ∀ (n : Nat) (i_5 : Int) (s_6 : List Int) (o : (List Int)), slices_insertionSortCmpFunc_int_row_L2 N a_1 a_2 a_3 a_4 i_1 l_5 n i_5 s_6 = some o → (match o with | z_1 => R (.exit 2) ⟨53, [(0, .row 0 (a_1).toNat ((a_2).toNat - (a_1).toNat)), (1, .int .i64 a_3), (2, .int .i64 a_4), (3, .fn (.func 18) [] [.ptr 1 0 0]), (8, .int .i64 i_1)], []⟩ [.mem 1 (List.map eI64 z_1) 3, .box [.vec c_0 (List.map eI64 l_5)] 22]) →
  ALp Try.prog 2 B26_2 ⟨53, [(0, .row 0 (a_1).toNat ((a_2).toNat - (a_1).toNat)), (1, .int .i64 a_3), (2, .int .i64 a_4), (3, .fn (.func 18) [] [.ptr 1 0 0]), (8, .int .i64 i_1), (9, .int .i64 i_5)], []⟩ [.mem 1 (List.map eI64 s_6) 3, .box [.vec c_0 (List.map eI64 l_5)] 22] R := by
 intro n
 induction n with
 | zero =>
  intro i_5 s_6 o h _; exact no0 h
 | succ n ih =>
  intro i_5 s_6 o h hp; rw [slices_insertionSortCmpFunc_int_row_L2] at h; refine ALp.round ?_; generalize hQ : RoundQ _ _ _ _ = QQ; simp only [B26_2, B26_1, A26, go_sem, seval]; rcases iteS h with ⟨e_8, h⟩ | ⟨e_8, h⟩
  ·
   obtain ⟨x_9, h_10, h⟩ := bindS h; have e_11 : (List.map eI64 s_6)[(a_1).toNat + (i_5).toNat]? = some [.int .i64 x_9] := slI_at_map eI64 h_10; have e_12 := eq_true (atI_some h_10).1; have e_13 : ((i_5 : Int) < ((((a_2).toNat - (a_1).toNat) : Nat) : Int)) = True := eq_true (by have := slI_lt h_10; simpa using this); obtain ⟨x_14, h_15, h⟩ := bindS h; have e_16 : (List.map eI64 s_6)[(a_1).toNat + (IntKind.i64.wrap (i_5 - 1)).toNat]? = some [.int .i64 x_14] := slI_at_map eI64 h_15; have e_17 := eq_true (atI_some h_15).1; have e_18 : ((IntKind.i64.wrap (i_5 - 1) : Int) < ((((a_2).toNat - (a_1).toNat) : Nat) : Int)) = True := eq_true (by have := slI_lt h_15; simpa using this); obtain ⟨y_19, h_20, h⟩ := bindS h; simp only [e_8, e_11, e_12, e_13, e_16, e_17, e_18, go_sem, seval]; refine ACalls.useA (buffer_Sort_1_w N _ _ _ c_0 _ h_20) [1] (ho := ⟨(by first | rfl | simp only [go_sem, seval, e_8]), trivial⟩) ?_; simp only [e_8, e_11, e_12, e_13, e_16, e_17, e_18, go_sem, seval]; rcases iteS h with ⟨e_22, h⟩ | ⟨e_22, h⟩
   · have e_23 : (List.map eI64 s_6).set ((a_1).toNat + (i_5).toNat) [.int .i64 x_14] = List.map eI64 (List.set s_6 ((a_1).toNat + (i_5).toNat) x_14) := set_map s_6 eI64 ((a_1).toNat + (i_5).toNat) x_14; obtain ⟨x_24, h_25, h⟩ := bindS h; have e_26 : (List.map eI64 (List.set s_6 ((a_1).toNat + (i_5).toNat) x_14))[(a_1).toNat + (IntKind.i64.wrap (i_5 - 1)).toNat]? = some [.int .i64 x_24] := slI_at_map eI64 h_25; have e_27 := eq_true (atI_some h_25).1; have e_28 : ((IntKind.i64.wrap (i_5 - 1) : Int) < ((((a_2).toNat - (a_1).toNat) : Nat) : Int)) = True := eq_true (by have := slI_lt h_25; simpa using this); have e_29 : (List.map eI64 (List.set s_6 ((a_1).toNat + (i_5).toNat) x_14)).set ((a_1).toNat + (IntKind.i64.wrap (i_5 - 1)).toNat) [.int .i64 x_9] = List.map eI64 (List.set (List.set s_6 ((a_1).toNat + (i_5).toNat) x_14) ((a_1).toNat + (IntKind.i64.wrap (i_5 - 1)).toNat) x_9) := set_map (List.set s_6 ((a_1).toNat + (i_5).toNat) x_14) eI64 ((a_1).toNat + (IntKind.i64.wrap (i_5 - 1)).toNat) x_9; simp only [e_8, e_11, e_12, e_13, e_16, e_17, e_18, e_22, e_23, e_26, e_27, e_28, e_29, go_sem, seval]; rw [← hQ]; exact ⟨_, _, (Ref.std [0, 1, 2, 3, 8, 9] [0, 1] (by decide) (by decide) (by first | rfl | simp only [go_sem, seval]) (by first | rfl | simp only [go_sem, seval])), (by simp), ih _ _ _ h hp⟩
   · simp only [e_8, e_11, e_12, e_13, e_16, e_17, e_18, e_22, go_sem, seval]; cases h; rw [← hQ]; exact ⟨_, _, (Ref.std [0, 1, 2, 3, 8] [0, 1] (by decide) (by decide) (by first | rfl | simp only [go_sem, seval]) (by first | rfl | simp only [go_sem, seval])), hp⟩
  · simp only [e_8, go_sem, seval]; cases h; rw [← hQ]; exact ⟨_, _, (Ref.std [0, 1, 2, 3, 8] [0, 1] (by decide) (by decide) (by first | rfl | simp only [go_sem, seval]) (by first | rfl | simp only [go_sem, seval])), hp⟩
theorem slices_insertionSortCmpFunc_int_row_L3_w (N : Nat) (a_1 : Int) (a_2 : Int) (a_3 : Int) (a_4 : Int) (l_5 : List Int) (c_0 : Bool) {R : AExit → ATm → List AObj → Prop} : ∀ (n : Nat) (i_1 : Int) (s_2 : List Int) (o : (List Int)), slices_insertionSortCmpFunc_int_row_L3 N a_1 a_2 a_3 a_4 l_5 n i_1 s_2 = some o → (match o with | z_1 => R (.exit 0) ⟨53, [], []⟩ [.mem 1 (List.map eI64 z_1) 3, .box [.vec c_0 (List.map eI64 l_5)] 22]) →
  ALp Try.prog 2 B26_1 ⟨53, [(0, .row 0 (a_1).toNat ((a_2).toNat - (a_1).toNat)), (1, .int .i64 a_3), (2, .int .i64 a_4), (3, .fn (.func 18) [] [.ptr 1 0 0]), (8, .int .i64 i_1)], []⟩ [.mem 1 (List.map eI64 s_2) 3, .box [.vec c_0 (List.map eI64 l_5)] 22] R := by
 intro n
 induction n with
 | zero =>
  intro i_1 s_2 o h _; exact no0 h
 | succ n ih =>
  intro i_1 s_2 o h hp; rw [slices_insertionSortCmpFunc_int_row_L3] at h; refine ALp.round ?_; generalize hQ : RoundQ _ _ _ _ = QQ; simp only [B26_1, A26, go_sem, seval]; rcases iteS h with ⟨e_4, h⟩ | ⟨e_4, h⟩
  · simp only [e_4, go_sem, seval]; obtain ⟨y_1006, h_1005, h⟩ := bindS h; refine ALp.ref (Ref.std [0, 1, 2, 3, 8, 9] [0, 1] (by decide) (by decide) (by first | rfl | simp only [go_sem, seval]) (by first | rfl | simp only [go_sem, seval])) (by simp) (slices_insertionSortCmpFunc_int_row_L2_w N _ _ _ _ _ _ c_0 N _ _ y_1006 h_1005 ?_); refine LoopK_go rfl (by simp) ?_; simp only [e_4, go_sem, seval]; rw [← hQ]; exact ⟨_, _, (Ref.std [0, 1, 2, 3, 8] [0, 1] (by decide) (by decide) (by first | rfl | simp only [go_sem, seval]) (by first | rfl | simp only [go_sem, seval])), (by simp), ih _ _ _ h hp⟩
  · simp only [e_4, go_sem, seval]; cases h; rw [← hQ]; exact ⟨_, _, (Ref.std [] [0, 1] (by decide) (by decide) rfl (by first | rfl | simp only [go_sem, seval])), hp⟩
theorem slices_insertionSortCmpFunc_int_row_w (N : Nat) (l_0 : List Int) (a_1 : Int) (a_2 : Int) (a_3 : Int) (a_4 : Int) (l_5 : List Int) (c_0 : Bool) (z_1 : List Int) (h : slices_insertionSortCmpFunc_int_row N l_0 a_1 a_2 a_3 a_4 l_5 = some z_1) :
  ACalls Try.prog 26 [.row 0 (a_1).toNat ((a_2).toNat - (a_1).toNat), .int .i64 a_3, .int .i64 a_4, .fn (.func 18) [] [.ptr 1 0 0]] [.mem 1 (List.map eI64 l_0) 3, .box [.vec c_0 (List.map eI64 l_5)] 22] (fun e H => H = [.mem 1 (List.map eI64 z_1) 3, .box [.vec c_0 (List.map eI64 l_5)] 22] ∧ e = .ret (.tup [])) := by
 unfold slices_insertionSortCmpFunc_int_row at h; refine ACalls.goN Try.func26 n26 a26 Try.ntmps26 r26 (by simp) 2 rfl ?_; generalize hQ : bodyA _ _ _ = QQ; simp only [A26, go_sem, seval]; obtain ⟨y_1002, h_1001, h⟩ := bindS h; refine ALp.ref (Ref.std [0, 1, 2, 3, 8] [0, 1] (by decide) (by decide) (by first | rfl | simp only [go_sem, seval]) (by first | rfl | simp only [go_sem, seval])) (by simp) (slices_insertionSortCmpFunc_int_row_L3_w N _ _ _ _ _ c_0 N _ _ y_1002 h_1001 ?_); refine LoopK_go rfl (by simp) ?_; simp only [go_sem, seval]; obtain rfl := si h; rw [← hQ]; exact ⟨rfl, _, rfl, _, _, (RefV.std [0, 1] (by decide) (by decide) rfl (by first | rfl | simp only [go_sem, seval])), rfl, rfl⟩
theorem slices_stableCmpFunc_int_row_L1_w (N : Nat) (a_1 : Int) (a_2 : Int) (a_3 : Int) (l_4 : List Int) (c_0 : Bool) {R : AExit → ATm → List AObj → Prop} : ∀ (n : Nat) (i_1 : Int) (i_2 : Int) (s_3 : List Int) (o : Int × (List Int)), slices_stableCmpFunc_int_row_L1 N a_1 a_2 a_3 l_4 n i_1 i_2 s_3 = some o → (match o with | (z_1, z_2) => R (.exit 0) ⟨63, [(0, .row 0 (a_1).toNat ((a_2).toNat - (a_1).toNat)), (1, .int .i64 a_3), (2, .fn (.func 18) [] [.ptr 1 0 0]), (6, .int .i64 20), (7, .int .i64 z_1)], []⟩ [.mem 1 (List.map eI64 z_2) 3, .box [.vec c_0 (List.map eI64 l_4)] 22]) →
  ALp Try.prog 2 B23_1 ⟨63, [(0, .row 0 (a_1).toNat ((a_2).toNat - (a_1).toNat)), (1, .int .i64 a_3), (2, .fn (.func 18) [] [.ptr 1 0 0]), (6, .int .i64 20), (7, .int .i64 i_1), (8, .int .i64 i_2)], []⟩ [.mem 1 (List.map eI64 s_3) 3, .box [.vec c_0 (List.map eI64 l_4)] 22] R := by
 intro n
 induction n with
 | zero =>
  intro i_1 i_2 s_3 o h _; exact no0 h
 | succ n ih =>
  intro i_1 i_2 s_3 o h hp; rw [slices_stableCmpFunc_int_row_L1] at h; refine ALp.round ?_; generalize hQ : RoundQ _ _ _ _ = QQ; simp only [B23_1, A23, go_sem, seval]; rcases iteS h with ⟨e_5, h⟩ | ⟨e_5, h⟩
  · obtain ⟨y_6, h_7, h⟩ := bindS h; simp only [e_5, go_sem, seval]; refine ACalls.goA (slices_insertionSortCmpFunc_int_row_w N _ _ _ _ _ _ c_0 _ h_7) [0, 1] (ho := ⟨(by first | rfl | simp only [go_sem, seval, e_5]), (by first | rfl | simp only [go_sem, seval, e_5]), trivial⟩) ?_; simp only [e_5, go_sem, seval]; rw [← hQ]; exact ⟨_, _, (Ref.std [0, 1, 2, 6, 7, 8] [0, 1] (by decide) (by decide) (by first | rfl | simp only [go_sem, seval]) (by first | rfl | simp only [go_sem, seval])), (by simp), ih _ _ _ _ h hp⟩
  · simp only [e_5, go_sem, seval]; cases h; rw [← hQ]; exact ⟨_, _, (Ref.std [0, 1, 2, 6, 7] [0, 1] (by decide) (by decide) (by first | rfl | simp only [go_sem, seval]) (by first | rfl | simp only [go_sem, seval])), hp⟩
theorem slices_swapRangeCmpFunc_int_row_L1_w (N : Nat) (a_1 : Int) (a_2 : Int) (a_3 : Int) (a_4 : Int) (a_5 : Int) (l_6 : List Int) (c_0 : Bool) {R : AExit → ATm → List AObj → Prop} : ∀ (n : Nat) (i_1 : Int) (s_2 : List Int) (o : (List Int)), slices_swapRangeCmpFunc_int_row_L1 N a_1 a_2 a_3 a_4 a_5 l_6 n i_1 s_2 = some o → (match o with | z_1 => R (.exit 0) ⟨38, [], []⟩ [.mem 1 (List.map eI64 z_1) 3, .box [.vec c_0 (List.map eI64 l_6)] 22]) →
  ALp Try.prog 2 B29_1 ⟨38, [(0, .row 0 (a_1).toNat ((a_2).toNat - (a_1).toNat)), (1, .int .i64 a_3), (2, .int .i64 a_4), (3, .int .i64 a_5), (10, .int .i64 i_1)], []⟩ [.mem 1 (List.map eI64 s_2) 3, .box [.vec c_0 (List.map eI64 l_6)] 22] R := by
 intro n
 induction n with
 | zero =>
  intro i_1 s_2 o h _; exact no0 h
 | succ n ih =>
  intro i_1 s_2 o h hp; rw [slices_swapRangeCmpFunc_int_row_L1] at h; refine ALp.round ?_; generalize hQ : RoundQ _ _ _ _ = QQ; simp only [B29_1, A29, go_sem, seval]; rcases iteS h with ⟨e_4, h⟩ | ⟨e_4, h⟩
  · obtain ⟨x_5, h_6, h⟩ := bindS h; have e_7 : (List.map eI64 s_2)[(a_1).toNat + (IntKind.i64.wrap (a_4 + i_1)).toNat]? = some [.int .i64 x_5] := slI_at_map eI64 h_6; have e_8 := eq_true (atI_some h_6).1; have e_9 : ((IntKind.i64.wrap (a_4 + i_1) : Int) < ((((a_2).toNat - (a_1).toNat) : Nat) : Int)) = True := eq_true (by have := slI_lt h_6; simpa using this); obtain ⟨x_10, h_11, h⟩ := bindS h; have e_12 : (List.map eI64 s_2)[(a_1).toNat + (IntKind.i64.wrap (a_3 + i_1)).toNat]? = some [.int .i64 x_10] := slI_at_map eI64 h_11; have e_13 := eq_true (atI_some h_11).1; have e_14 : ((IntKind.i64.wrap (a_3 + i_1) : Int) < ((((a_2).toNat - (a_1).toNat) : Nat) : Int)) = True := eq_true (by have := slI_lt h_11; simpa using this); have e_15 : (List.map eI64 s_2).set ((a_1).toNat + (IntKind.i64.wrap (a_3 + i_1)).toNat) [.int .i64 x_5] = List.map eI64 (List.set s_2 ((a_1).toNat + (IntKind.i64.wrap (a_3 + i_1)).toNat) x_5) := set_map s_2 eI64 ((a_1).toNat + (IntKind.i64.wrap (a_3 + i_1)).toNat) x_5; obtain ⟨x_16, h_17, h⟩ := bindS h; have e_18 : (List.map eI64 (List.set s_2 ((a_1).toNat + (IntKind.i64.wrap (a_3 + i_1)).toNat) x_5))[(a_1).toNat + (IntKind.i64.wrap (a_4 + i_1)).toNat]? = some [.int .i64 x_16] := slI_at_map eI64 h_17; have e_19 := eq_true (atI_some h_17).1; have e_20 : ((IntKind.i64.wrap (a_4 + i_1) : Int) < ((((a_2).toNat - (a_1).toNat) : Nat) : Int)) = True := eq_true (by have := slI_lt h_17; simpa using this); have e_21 : (List.map eI64 (List.set s_2 ((a_1).toNat + (IntKind.i64.wrap (a_3 + i_1)).toNat) x_5)).set ((a_1).toNat + (IntKind.i64.wrap (a_4 + i_1)).toNat) [.int .i64 x_10] = List.map eI64 (List.set (List.set s_2 ((a_1).toNat + (IntKind.i64.wrap (a_3 + i_1)).toNat) x_5) ((a_1).toNat + (IntKind.i64.wrap (a_4 + i_1)).toNat) x_10) := set_map (List.set s_2 ((a_1).toNat + (IntKind.i64.wrap (a_3 + i_1)).toNat) x_5) eI64 ((a_1).toNat + (IntKind.i64.wrap (a_4 + i_1)).toNat) x_10; simp only [e_4, e_7, e_8, e_9, e_12, e_13, e_14, e_15, e_18, e_19, e_20, e_21, go_sem, seval]; rw [← hQ]; exact ⟨_, _, (Ref.std [0, 1, 2, 3, 10] [0, 1] (by decide) (by decide) (by first | rfl | simp only [go_sem, seval]) (by first | rfl | simp only [go_sem, seval])), (by simp), ih _ _ _ h hp⟩
  · simp only [e_4, go_sem, seval]; cases h; rw [← hQ]; exact ⟨_, _, (Ref.std [] [0, 1] (by decide) (by decide) rfl (by first | rfl | simp only [go_sem, seval])), hp⟩
theorem slices_swapRangeCmpFunc_int_row_w (N : Nat) (l_0 : List Int) (a_1 : Int) (a_2 : Int) (a_3 : Int) (a_4 : Int) (a_5 : Int) (l_6 : List Int) (c_0 : Bool) (z_1 : List Int) (h : slices_swapRangeCmpFunc_int_row N l_0 a_1 a_2 a_3 a_4 a_5 l_6 = some z_1) :
  ACalls Try.prog 29 [.row 0 (a_1).toNat ((a_2).toNat - (a_1).toNat), .int .i64 a_3, .int .i64 a_4, .int .i64 a_5, .fn (.func 18) [] [.ptr 1 0 0]] [.mem 1 (List.map eI64 l_0) 3, .box [.vec c_0 (List.map eI64 l_6)] 22] (fun e H => H = [.mem 1 (List.map eI64 z_1) 3, .box [.vec c_0 (List.map eI64 l_6)] 22] ∧ e = .ret (.tup [])) := by
 unfold slices_swapRangeCmpFunc_int_row at h; refine ACalls.goN Try.func29 n29 a29 Try.ntmps29 r29 (by simp) 2 rfl ?_; generalize hQ : bodyA _ _ _ = QQ; simp only [A29, go_sem, seval]; obtain ⟨y_1002, h_1001, h⟩ := bindS h; refine ALp.ref (Ref.std [0, 1, 2, 3, 10] [0, 1] (by decide) (by decide) (by first | rfl | simp only [go_sem, seval]) (by first | rfl | simp only [go_sem, seval])) (by simp) (slices_swapRangeCmpFunc_int_row_L1_w N _ _ _ _ _ _ c_0 N _ _ y_1002 h_1001 ?_); refine LoopK_go rfl (by simp) ?_; simp only [go_sem, seval]; obtain rfl := si h; rw [← hQ]; exact ⟨rfl, _, rfl, _, _, (RefV.std [0, 1] (by decide) (by decide) rfl (by first | rfl | simp only [go_sem, seval])), rfl, rfl⟩
theorem slices_rotateCmpFunc_int_row_L1_w (N : Nat) (a_1 : Int) (a_2 : Int) (a_4 : Int) (l_6 : List Int) (c_0 : Bool) {R : AExit → ATm → List AObj → Prop} : ∀ (n : Nat) (i_1 : Int) (i_2 : Int) (s_3 : List Int) (o : Int × (List Int)), slices_rotateCmpFunc_int_row_L1 N a_1 a_2 a_4 l_6 n i_1 i_2 s_3 = some o → (match o with | (z_1, z_2) => R (.exit 0) ⟨58, [(0, .row 0 (a_1).toNat ((a_2).toNat - (a_1).toNat)), (2, .int .i64 a_4), (4, .fn (.func 18) [] [.ptr 1 0 0]), (10, .int .i64 z_1)], []⟩ [.mem 1 (List.map eI64 z_2) 3, .box [.vec c_0 (List.map eI64 l_6)] 22]) →
  ALp Try.prog 2 B28_1 ⟨58, [(0, .row 0 (a_1).toNat ((a_2).toNat - (a_1).toNat)), (2, .int .i64 a_4), (4, .fn (.func 18) [] [.ptr 1 0 0]), (10, .int .i64 i_1), (11, .int .i64 i_2)], []⟩ [.mem 1 (List.map eI64 s_3) 3, .box [.vec c_0 (List.map eI64 l_6)] 22] R := by
 intro n
 induction n with
 | zero =>
  intro i_1 i_2 s_3 o h _; exact no0 h
 | succ n ih =>
  intro i_1 i_2 s_3 o h hp; rw [slices_rotateCmpFunc_int_row_L1] at h; refine ALp.round ?_; generalize hQ : RoundQ _ _ _ _ = QQ; simp only [B28_1, A28, go_sem, seval]; rcases iteS h with ⟨e_5, h⟩ | ⟨e_5, h⟩
  · simp only [e_5, go_sem, seval]; cases h; rw [← hQ]; exact ⟨_, _, (Ref.std [0, 2, 4, 10] [0, 1] (by decide) (by decide) (by first | rfl | simp only [go_sem, seval]) (by first | rfl | simp only [go_sem, seval])), hp⟩
  ·
   simp only [e_5, go_sem, seval]; rcases iteS h with ⟨e_7, h⟩ | ⟨e_7, h⟩
   · obtain ⟨y_8, h_9, h⟩ := bindS h; simp only [e_5, e_7, go_sem, seval]; refine ACalls.goA (slices_swapRangeCmpFunc_int_row_w N _ _ _ _ _ _ _ c_0 _ h_9) [0, 1] (ho := ⟨(by first | rfl | simp only [go_sem, seval, e_5, e_7]), (by first | rfl | simp only [go_sem, seval, e_5, e_7]), trivial⟩) ?_; simp only [e_5, e_7, go_sem, seval]; rw [← hQ]; exact ⟨_, _, (Ref.std [0, 2, 4, 10, 11] [0, 1] (by decide) (by decide) (by first | rfl | simp only [go_sem, seval]) (by first | rfl | simp only [go_sem, seval])), (by simp), ih _ _ _ _ h hp⟩
   · obtain ⟨y_10, h_11, h⟩ := bindS h; simp only [e_5, e_7, go_sem, seval]; refine ACalls.goA (slices_swapRangeCmpFunc_int_row_w N _ _ _ _ _ _ _ c_0 _ h_11) [0, 1] (ho := ⟨(by first | rfl | simp only [go_sem, seval, e_5, e_7]), (by first | rfl | simp only [go_sem, seval, e_5, e_7]), trivial⟩) ?_; simp only [e_5, e_7, go_sem, seval]; rw [← hQ]; exact ⟨_, _, (Ref.std [0, 2, 4, 10, 11] [0, 1] (by decide) (by decide) (by first | rfl | simp only [go_sem, seval]) (by first | rfl | simp only [go_sem, seval])), (by simp), ih _ _ _ _ h hp⟩
theorem slices_rotateCmpFunc_int_row_w (N : Nat) (l_0 : List Int) (a_1 : Int) (a_2 : Int) (a_3 : Int) (a_4 : Int) (a_5 : Int) (l_6 : List Int) (c_0 : Bool) (z_1 : List Int) (h : slices_rotateCmpFunc_int_row N l_0 a_1 a_2 a_3 a_4 a_5 l_6 = some z_1) :
  ACalls Try.prog 28 [.row 0 (a_1).toNat ((a_2).toNat - (a_1).toNat), .int .i64 a_3, .int .i64 a_4, .int .i64 a_5, .fn (.func 18) [] [.ptr 1 0 0]] [.mem 1 (List.map eI64 l_0) 3, .box [.vec c_0 (List.map eI64 l_6)] 22] (fun e H => H = [.mem 1 (List.map eI64 z_1) 3, .box [.vec c_0 (List.map eI64 l_6)] 22] ∧ e = .ret (.tup [])) := by
 unfold slices_rotateCmpFunc_int_row at h; refine ACalls.goN Try.func28 n28 a28 Try.ntmps28 r28 (by simp) 2 rfl ?_; generalize hQ : bodyA _ _ _ = QQ; simp only [A28, go_sem, seval]; obtain ⟨⟨y_1002, y_1003⟩, h_1001, h⟩ := bindS h; (try dsimp only at h); refine ALp.ref (Ref.std [0, 2, 4, 10, 11] [0, 1] (by decide) (by decide) (by first | rfl | simp only [go_sem, seval]) (by first | rfl | simp only [go_sem, seval])) (by simp) (slices_rotateCmpFunc_int_row_L1_w N _ _ _ _ c_0 N _ _ _ _ h_1001 ?_); refine LoopK_go rfl (by simp) ?_; obtain ⟨y_1004, h_1005, h⟩ := bindS h; simp only [go_sem, seval]; refine ACalls.goA (slices_swapRangeCmpFunc_int_row_w N _ _ _ _ _ _ _ c_0 _ h_1005) [0, 1] ?_; simp only [go_sem, seval]; obtain rfl := si h; rw [← hQ]; exact ⟨rfl, _, rfl, _, _, (RefV.std [0, 1] (by decide) (by decide) rfl (by first | rfl | simp only [go_sem, seval])), rfl, rfl⟩
theorem slices_symMergeCmpFunc_int_row_L1_w (N : Nat) (a_1 : Int) (a_2 : Int) (a_3 : Int) (l_0 : List Int) (l_6 : List Int) (c_0 : Bool) {R : AExit → ATm → List AObj → Prop} : ∀ (n : Nat) (i_3 : Int) (i_4 : Int) (o : Int), slices_symMergeCmpFunc_int_row_L1 N a_1 a_2 a_3 l_0 l_6 n i_3 i_4 = some o → (match o with | z_1 => R (.exit 0) ⟨220, [(0, .row 0 (a_1).toNat ((a_2).toNat - (a_1).toNat)), (1, .int .i64 a_3), (10, .int .i64 z_1)], []⟩ [.mem 1 (List.map eI64 l_0) 3, .box [.vec c_0 (List.map eI64 l_6)] 22]) →
  ALp Try.prog 2 B27_1 ⟨220, [(0, .row 0 (a_1).toNat ((a_2).toNat - (a_1).toNat)), (1, .int .i64 a_3), (4, .fn (.func 18) [] [.ptr 1 0 0]), (10, .int .i64 i_3), (11, .int .i64 i_4)], []⟩ [.mem 1 (List.map eI64 l_0) 3, .box [.vec c_0 (List.map eI64 l_6)] 22] R := by
 intro n
 induction n with
 | zero =>
  intro i_3 i_4 o h _; exact no0 h
 | succ n ih =>
  intro i_3 i_4 o h hp; rw [slices_symMergeCmpFunc_int_row_L1] at h; refine ALp.round ?_; generalize hQ : RoundQ _ _ _ _ = QQ; simp only [B27_1, A27, go_sem, seval]; rcases iteS h with ⟨e_6, h⟩ | ⟨e_6, h⟩
  ·
   have e_7 : (min 1 64 : Nat) = 1 := rfl; obtain ⟨x_8, h_9, h⟩ := bindS h; have e_10 : (List.map eI64 l_0)[(a_1).toNat + (IntKind.i64.wrap ((IntKind.u64.wrap (IntKind.i64.wrap (i_3 + i_4))).fdiv 2)).toNat]? = some [.int .i64 x_8] := slI_at_map eI64 h_9; have e_11 := eq_true (atI_some h_9).1; have e_12 : ((IntKind.i64.wrap ((IntKind.u64.wrap (IntKind.i64.wrap (i_3 + i_4))).fdiv 2) : Int) < ((((a_2).toNat - (a_1).toNat) : Nat) : Int)) = True := eq_true (by have := slI_lt h_9; simpa using this); obtain ⟨x_13, h_14, h⟩ := bindS h; have e_15 : (List.map eI64 l_0)[(a_1).toNat + (a_3).toNat]? = some [.int .i64 x_13] := slI_at_map eI64 h_14; have e_16 := eq_true (atI_some h_14).1; have e_17 : ((a_3 : Int) < ((((a_2).toNat - (a_1).toNat) : Nat) : Int)) = True := eq_true (by have := slI_lt h_14; simpa using this); obtain ⟨y_18, h_19, h⟩ := bindS h; simp only [e_6, e_7, e_10, e_11, e_12, e_15, e_16, e_17, go_sem, seval]; refine ACalls.useA (buffer_Sort_1_w N _ _ _ c_0 _ h_19) [1] (ho := ⟨(by first | rfl | simp only [go_sem, seval, e_6]), trivial⟩) ?_; simp only [e_6, e_7, e_10, e_11, e_12, e_15, e_16, e_17, go_sem, seval]; rcases iteS h with ⟨e_21, h⟩ | ⟨e_21, h⟩
   · simp only [e_6, e_7, e_10, e_11, e_12, e_15, e_16, e_17, e_21, go_sem, seval]; rw [← hQ]; exact ⟨_, _, (Ref.std [0, 1, 4, 10, 11] [0, 1] (by decide) (by decide) (by first | rfl | simp only [go_sem, seval]) (by first | rfl | simp only [go_sem, seval])), (by simp), ih _ _ _ h hp⟩
   · simp only [e_6, e_7, e_10, e_11, e_12, e_15, e_16, e_17, e_21, go_sem, seval]; rw [← hQ]; exact ⟨_, _, (Ref.std [0, 1, 4, 10, 11] [0, 1] (by decide) (by decide) (by first | rfl | simp only [go_sem, seval]) (by first | rfl | simp only [go_sem, seval])), (by simp), ih _ _ _ h hp⟩
  · simp only [e_6, go_sem, seval]; cases h; rw [← hQ]; exact ⟨_, _, (Ref.std [0, 1, 10] [0, 1] (by decide) (by decide) (by first | rfl | simp only [go_sem, seval]) (by first | rfl | simp only [go_sem, seval])), hp⟩
theorem slices_symMergeCmpFunc_int_row_L2_w (N : Nat) (a_1 : Int) (a_2 : Int) (y_1004 : Int) (l_6 : List Int) (c_0 : Bool) {R : AExit → ATm → List AObj → Prop} : ∀ (n : Nat) (i_1005 : Int) (s_1006 : List Int) (o : (List Int)), slices_symMergeCmpFunc_int_row_L2 N a_1 a_2 y_1004 l_6 n i_1005 s_1006 = some o → (match o with | z_1 => R (.exit 2) ⟨220, [], []⟩ [.mem 1 (List.map eI64 z_1) 3, .box [.vec c_0 (List.map eI64 l_6)] 22]) →
  ALp Try.prog 2 B27_2 ⟨220, [(0, .row 0 (a_1).toNat ((a_2).toNat - (a_1).toNat)), (10, .int .i64 y_1004), (13, .int .i64 i_1005)], []⟩ [.mem 1 (List.map eI64 s_1006) 3, .box [.vec c_0 (List.map eI64 l_6)] 22] R := by
 intro n
 induction n with
 | zero =>
  intro i_1005 s_1006 o h _; exact no0 h
 | succ n ih =>
  intro i_1005 s_1006 o h hp; rw [slices_symMergeCmpFunc_int_row_L2] at h; refine ALp.round ?_; generalize hQ : RoundQ _ _ _ _ = QQ; simp only [B27_2, A27, go_sem, seval]; rcases iteS h with ⟨e_1008, h⟩ | ⟨e_1008, h⟩
  · obtain ⟨x_1009, h_1010, h⟩ := bindS h; have e_1011 : (List.map eI64 s_1006)[(a_1).toNat + (IntKind.i64.wrap (i_1005 + 1)).toNat]? = some [.int .i64 x_1009] := slI_at_map eI64 h_1010; have e_1012 := eq_true (atI_some h_1010).1; have e_1013 : ((IntKind.i64.wrap (i_1005 + 1) : Int) < ((((a_2).toNat - (a_1).toNat) : Nat) : Int)) = True := eq_true (by have := slI_lt h_1010; simpa using this); obtain ⟨x_1014, h_1015, h⟩ := bindS h; have e_1016 : (List.map eI64 s_1006)[(a_1).toNat + (i_1005).toNat]? = some [.int .i64 x_1014] := slI_at_map eI64 h_1015; have e_1017 := eq_true (atI_some h_1015).1; have e_1018 : ((i_1005 : Int) < ((((a_2).toNat - (a_1).toNat) : Nat) : Int)) = True := eq_true (by have := slI_lt h_1015; simpa using this); have e_1019 : (List.map eI64 s_1006).set ((a_1).toNat + (i_1005).toNat) [.int .i64 x_1009] = List.map eI64 (List.set s_1006 ((a_1).toNat + (i_1005).toNat) x_1009) := set_map s_1006 eI64 ((a_1).toNat + (i_1005).toNat) x_1009; obtain ⟨x_1020, h_1021, h⟩ := bindS h; have e_1022 : (List.map eI64 (List.set s_1006 ((a_1).toNat + (i_1005).toNat) x_1009))[(a_1).toNat + (IntKind.i64.wrap (i_1005 + 1)).toNat]? = some [.int .i64 x_1020] := slI_at_map eI64 h_1021; have e_1023 := eq_true (atI_some h_1021).1; have e_1024 : ((IntKind.i64.wrap (i_1005 + 1) : Int) < ((((a_2).toNat - (a_1).toNat) : Nat) : Int)) = True := eq_true (by have := slI_lt h_1021; simpa using this); have e_1025 : (List.map eI64 (List.set s_1006 ((a_1).toNat + (i_1005).toNat) x_1009)).set ((a_1).toNat + (IntKind.i64.wrap (i_1005 + 1)).toNat) [.int .i64 x_1014] = List.map eI64 (List.set (List.set s_1006 ((a_1).toNat + (i_1005).toNat) x_1009) ((a_1).toNat + (IntKind.i64.wrap (i_1005 + 1)).toNat) x_1014) := set_map (List.set s_1006 ((a_1).toNat + (i_1005).toNat) x_1009) eI64 ((a_1).toNat + (IntKind.i64.wrap (i_1005 + 1)).toNat) x_1014; simp only [e_1008, e_1011, e_1012, e_1013, e_1016, e_1017, e_1018, e_1019, e_1022, e_1023, e_1024, e_1025, go_sem, seval]; rw [← hQ]; exact ⟨_, _, (Ref.std [0, 10, 13] [0, 1] (by decide) (by decide) (by first | rfl | simp only [go_sem, seval]) (by first | rfl | simp only [go_sem, seval])), (by simp), ih _ _ _ h hp⟩
  · simp only [e_1008, go_sem, seval]; cases h; rw [← hQ]; exact ⟨_, _, (Ref.std [] [0, 1] (by decide) (by decide) rfl (by first | rfl | simp only [go_sem, seval])), hp⟩
theorem slices_symMergeCmpFunc_int_row_L3_w (N : Nat) (a_1 : Int) (a_2 : Int) (a_4 : Int) (l_0 : List Int) (l_6 : List Int) (c_0 : Bool) {R : AExit → ATm → List AObj → Prop} : ∀ (n : Nat) (i_2009 : Int) (i_2010 : Int) (o : Int), slices_symMergeCmpFunc_int_row_L3 N a_1 a_2 a_4 l_0 l_6 n i_2009 i_2010 = some o → (match o with | z_1 => R (.exit 4) ⟨220, [(0, .row 0 (a_1).toNat ((a_2).toNat - (a_1).toNat)), (2, .int .i64 a_4), (14, .int .i64 z_1)], []⟩ [.mem 1 (List.map eI64 l_0) 3, .box [.vec c_0 (List.map eI64 l_6)] 22]) →
  ALp Try.prog 2 B27_3 ⟨220, [(0, .row 0 (a_1).toNat ((a_2).toNat - (a_1).toNat)), (2, .int .i64 a_4), (4, .fn (.func 18) [] [.ptr 1 0 0]), (14, .int .i64 i_2009), (15, .int .i64 i_2010)], []⟩ [.mem 1 (List.map eI64 l_0) 3, .box [.vec c_0 (List.map eI64 l_6)] 22] R := by
 intro n
 induction n with
 | zero =>
  intro i_2009 i_2010 o h _; exact no0 h
 | succ n ih =>
  intro i_2009 i_2010 o h hp; rw [slices_symMergeCmpFunc_int_row_L3] at h; refine ALp.round ?_; generalize hQ : RoundQ _ _ _ _ = QQ; simp only [B27_3, A27, go_sem, seval]; rcases iteS h with ⟨e_2012, h⟩ | ⟨e_2012, h⟩
  ·
   have e_2013 : (min 1 64 : Nat) = 1 := rfl; obtain ⟨x_2014, h_2015, h⟩ := bindS h; have e_2016 : (List.map eI64 l_0)[(a_1).toNat + (a_4).toNat]? = some [.int .i64 x_2014] := slI_at_map eI64 h_2015; have e_2017 := eq_true (atI_some h_2015).1; have e_2018 : ((a_4 : Int) < ((((a_2).toNat - (a_1).toNat) : Nat) : Int)) = True := eq_true (by have := slI_lt h_2015; simpa using this); obtain ⟨x_2019, h_2020, h⟩ := bindS h; have e_2021 : (List.map eI64 l_0)[(a_1).toNat + (IntKind.i64.wrap ((IntKind.u64.wrap (IntKind.i64.wrap (i_2009 + i_2010))).fdiv 2)).toNat]? = some [.int .i64 x_2019] := slI_at_map eI64 h_2020; have e_2022 := eq_true (atI_some h_2020).1; have e_2023 : ((IntKind.i64.wrap ((IntKind.u64.wrap (IntKind.i64.wrap (i_2009 + i_2010))).fdiv 2) : Int) < ((((a_2).toNat - (a_1).toNat) : Nat) : Int)) = True := eq_true (by have := slI_lt h_2020; simpa using this); obtain ⟨y_2024, h_2025, h⟩ := bindS h; simp only [e_2012, e_2013, e_2016, e_2017, e_2018, e_2021, e_2022, e_2023, go_sem, seval]; refine ACalls.useA (buffer_Sort_1_w N _ _ _ c_0 _ h_2025) [1] (ho := ⟨(by first | rfl | simp only [go_sem, seval, e_2012]), trivial⟩) ?_; simp only [e_2012, e_2013, e_2016, e_2017, e_2018, e_2021, e_2022, e_2023, go_sem, seval]; rcases iteS h with ⟨e_2027, h⟩ | ⟨e_2027, h⟩
   · simp only [e_2012, e_2013, e_2016, e_2017, e_2018, e_2021, e_2022, e_2023, e_2027, go_sem, seval]; rw [← hQ]; exact ⟨_, _, (Ref.std [0, 2, 4, 14, 15] [0, 1] (by decide) (by decide) (by first | rfl | simp only [go_sem, seval]) (by first | rfl | simp only [go_sem, seval])), (by simp), ih _ _ _ h hp⟩
   · simp only [e_2012, e_2013, e_2016, e_2017, e_2018, e_2021, e_2022, e_2023, e_2027, go_sem, seval]; rw [← hQ]; exact ⟨_, _, (Ref.std [0, 2, 4, 14, 15] [0, 1] (by decide) (by decide) (by first | rfl | simp only [go_sem, seval]) (by first | rfl | simp only [go_sem, seval])), (by simp), ih _ _ _ h hp⟩
  · simp only [e_2012, go_sem, seval]; cases h; rw [← hQ]; exact ⟨_, _, (Ref.std [0, 2, 14] [0, 1] (by decide) (by decide) (by first | rfl | simp only [go_sem, seval]) (by first | rfl | simp only [go_sem, seval])), hp⟩
theorem slices_symMergeCmpFunc_int_row_L4_w (N : Nat) (a_1 : Int) (a_2 : Int) (y_3010 : Int) (l_6 : List Int) (c_0 : Bool) {R : AExit → ATm → List AObj → Prop} : ∀ (n : Nat) (i_3011 : Int) (s_3012 : List Int) (o : (List Int)), slices_symMergeCmpFunc_int_row_L4 N a_1 a_2 y_3010 l_6 n i_3011 s_3012 = some o → (match o with | z_1 => R (.exit 6) ⟨220, [], []⟩ [.mem 1 (List.map eI64 z_1) 3, .box [.vec c_0 (List.map eI64 l_6)] 22]) →
  ALp Try.prog 2 B27_4 ⟨220, [(0, .row 0 (a_1).toNat ((a_2).toNat - (a_1).toNat)), (14, .int .i64 y_3010), (17, .int .i64 i_3011)], []⟩ [.mem 1 (List.map eI64 s_3012) 3, .box [.vec c_0 (List.map eI64 l_6)] 22] R := by
 intro n
 induction n with
 | zero =>
  intro i_3011 s_3012 o h _; exact no0 h
 | succ n ih =>
  intro i_3011 s_3012 o h hp; rw [slices_symMergeCmpFunc_int_row_L4] at h; refine ALp.round ?_; generalize hQ : RoundQ _ _ _ _ = QQ; simp only [B27_4, A27, go_sem, seval]; rcases iteS h with ⟨e_3014, h⟩ | ⟨e_3014, h⟩
  · obtain ⟨x_3015, h_3016, h⟩ := bindS h; have e_3017 : (List.map eI64 s_3012)[(a_1).toNat + (IntKind.i64.wrap (i_3011 - 1)).toNat]? = some [.int .i64 x_3015] := slI_at_map eI64 h_3016; have e_3018 := eq_true (atI_some h_3016).1; have e_3019 : ((IntKind.i64.wrap (i_3011 - 1) : Int) < ((((a_2).toNat - (a_1).toNat) : Nat) : Int)) = True := eq_true (by have := slI_lt h_3016; simpa using this); obtain ⟨x_3020, h_3021, h⟩ := bindS h; have e_3022 : (List.map eI64 s_3012)[(a_1).toNat + (i_3011).toNat]? = some [.int .i64 x_3020] := slI_at_map eI64 h_3021; have e_3023 := eq_true (atI_some h_3021).1; have e_3024 : ((i_3011 : Int) < ((((a_2).toNat - (a_1).toNat) : Nat) : Int)) = True := eq_true (by have := slI_lt h_3021; simpa using this); have e_3025 : (List.map eI64 s_3012).set ((a_1).toNat + (i_3011).toNat) [.int .i64 x_3015] = List.map eI64 (List.set s_3012 ((a_1).toNat + (i_3011).toNat) x_3015) := set_map s_3012 eI64 ((a_1).toNat + (i_3011).toNat) x_3015; obtain ⟨x_3026, h_3027, h⟩ := bindS h; have e_3028 : (List.map eI64 (List.set s_3012 ((a_1).toNat + (i_3011).toNat) x_3015))[(a_1).toNat + (IntKind.i64.wrap (i_3011 - 1)).toNat]? = some [.int .i64 x_3026] := slI_at_map eI64 h_3027; have e_3029 := eq_true (atI_some h_3027).1; have e_3030 : ((IntKind.i64.wrap (i_3011 - 1) : Int) < ((((a_2).toNat - (a_1).toNat) : Nat) : Int)) = True := eq_true (by have := slI_lt h_3027; simpa using this); have e_3031 : (List.map eI64 (List.set s_3012 ((a_1).toNat + (i_3011).toNat) x_3015)).set ((a_1).toNat + (IntKind.i64.wrap (i_3011 - 1)).toNat) [.int .i64 x_3020] = List.map eI64 (List.set (List.set s_3012 ((a_1).toNat + (i_3011).toNat) x_3015) ((a_1).toNat + (IntKind.i64.wrap (i_3011 - 1)).toNat) x_3020) := set_map (List.set s_3012 ((a_1).toNat + (i_3011).toNat) x_3015) eI64 ((a_1).toNat + (IntKind.i64.wrap (i_3011 - 1)).toNat) x_3020; simp only [e_3014, e_3017, e_3018, e_3019, e_3022, e_3023, e_3024, e_3025, e_3028, e_3029, e_3030, e_3031, go_sem, seval]; rw [← hQ]; exact ⟨_, _, (Ref.std [0, 14, 17] [0, 1] (by decide) (by decide) (by first | rfl | simp only [go_sem, seval]) (by first | rfl | simp only [go_sem, seval])), (by simp), ih _ _ _ h hp⟩
  · simp only [e_3014, go_sem, seval]; cases h; rw [← hQ]; exact ⟨_, _, (Ref.std [] [0, 1] (by decide) (by decide) rfl (by first | rfl | simp only [go_sem, seval])), hp⟩
theorem slices_symMergeCmpFunc_int_row_L5_w (N : Nat) (a_1 : Int) (a_2 : Int) (a_3 : Int) (a_4 : Int) (a_5 : Int) (l_0 : List Int) (l_6 : List Int) (c_0 : Bool) {R : AExit → ATm → List AObj → Prop} : ∀ (n : Nat) (i_4016 : Int) (i_4017 : Int) (o : Int), slices_symMergeCmpFunc_int_row_L5 N a_1 a_2 a_3 a_4 a_5 l_0 l_6 n i_4016 i_4017 = some o → (match o with | z_1 => R (.exit 8) ⟨220, [(0, .row 0 (a_1).toNat ((a_2).toNat - (a_1).toNat)), (1, .int .i64 a_3), (2, .int .i64 a_4), (3, .int .i64 a_5), (4, .fn (.func 18) [] [.ptr 1 0 0]), (18, .int .i64 (IntKind.i64.wrap ((IntKind.u64.wrap (IntKind.i64.wrap (a_3 + a_5))).fdiv 2))), (19, .int .i64 (IntKind.i64.wrap ((IntKind.i64.wrap ((IntKind.u64.wrap (IntKind.i64.wrap (a_3 + a_5))).fdiv 2)) + a_4))), (20, .int .i64 z_1)], []⟩ [.mem 1 (List.map eI64 l_0) 3, .box [.vec c_0 (List.map eI64 l_6)] 22]) →
  ALp Try.prog 2 B27_5 ⟨220, [(0, .row 0 (a_1).toNat ((a_2).toNat - (a_1).toNat)), (1, .int .i64 a_3), (2, .int .i64 a_4), (3, .int .i64 a_5), (4, .fn (.func 18) [] [.ptr 1 0 0]), (18, .int .i64 (IntKind.i64.wrap ((IntKind.u64.wrap (IntKind.i64.wrap (a_3 + a_5))).fdiv 2))), (19, .int .i64 (IntKind.i64.wrap ((IntKind.i64.wrap ((IntKind.u64.wrap (IntKind.i64.wrap (a_3 + a_5))).fdiv 2)) + a_4))), (20, .int .i64 i_4016), (21, .int .i64 i_4017), (22, .int .i64 (IntKind.i64.wrap ((IntKind.i64.wrap ((IntKind.i64.wrap ((IntKind.u64.wrap (IntKind.i64.wrap (a_3 + a_5))).fdiv 2)) + a_4)) - 1)))], []⟩ [.mem 1 (List.map eI64 l_0) 3, .box [.vec c_0 (List.map eI64 l_6)] 22] R := by
 intro n
 induction n with
 | zero =>
  intro i_4016 i_4017 o h _; exact no0 h
 | succ n ih =>
  intro i_4016 i_4017 o h hp; rw [slices_symMergeCmpFunc_int_row_L5] at h; refine ALp.round ?_; generalize hQ : RoundQ _ _ _ _ = QQ; simp only [B27_5, A27, go_sem, seval]; rcases iteS h with ⟨e_4019, h⟩ | ⟨e_4019, h⟩
  ·
   have e_4020 : (min 1 64 : Nat) = 1 := rfl; obtain ⟨x_4021, h_4022, h⟩ := bindS h; have e_4023 : (List.map eI64 l_0)[(a_1).toNat + (IntKind.i64.wrap ((IntKind.i64.wrap ((IntKind.i64.wrap ((IntKind.i64.wrap ((IntKind.u64.wrap (IntKind.i64.wrap (a_3 + a_5))).fdiv 2)) + a_4)) - 1)) - (IntKind.i64.wrap ((IntKind.u64.wrap (IntKind.i64.wrap (i_4016 + i_4017))).fdiv 2)))).toNat]? = some [.int .i64 x_4021] := slI_at_map eI64 h_4022; have e_4024 := eq_true (atI_some h_4022).1; have e_4025 : ((IntKind.i64.wrap ((IntKind.i64.wrap ((IntKind.i64.wrap ((IntKind.i64.wrap ((IntKind.u64.wrap (IntKind.i64.wrap (a_3 + a_5))).fdiv 2)) + a_4)) - 1)) - (IntKind.i64.wrap ((IntKind.u64.wrap (IntKind.i64.wrap (i_4016 + i_4017))).fdiv 2))) : Int) < ((((a_2).toNat - (a_1).toNat) : Nat) : Int)) = True := eq_true (by have := slI_lt h_4022; simpa using this); obtain ⟨x_4026, h_4027, h⟩ := bindS h; have e_4028 : (List.map eI64 l_0)[(a_1).toNat + (IntKind.i64.wrap ((IntKind.u64.wrap (IntKind.i64.wrap (i_4016 + i_4017))).fdiv 2)).toNat]? = some [.int .i64 x_4026] := slI_at_map eI64 h_4027; have e_4029 := eq_true (atI_some h_4027).1; have e_4030 : ((IntKind.i64.wrap ((IntKind.u64.wrap (IntKind.i64.wrap (i_4016 + i_4017))).fdiv 2) : Int) < ((((a_2).toNat - (a_1).toNat) : Nat) : Int)) = True := eq_true (by have := slI_lt h_4027; simpa using this); obtain ⟨y_4031, h_4032, h⟩ := bindS h; simp only [e_4019, e_4020, e_4023, e_4024, e_4025, e_4028, e_4029, e_4030, go_sem, seval]; refine ACalls.useA (buffer_Sort_1_w N _ _ _ c_0 _ h_4032) [1] (ho := ⟨(by first | rfl | simp only [go_sem, seval, e_4019]), trivial⟩) ?_; simp only [e_4019, e_4020, e_4023, e_4024, e_4025, e_4028, e_4029, e_4030, go_sem, seval]; rcases iteS h with ⟨e_4034, h⟩ | ⟨e_4034, h⟩
   · simp only [e_4019, e_4020, e_4023, e_4024, e_4025, e_4028, e_4029, e_4030, e_4034, go_sem, seval]; rw [← hQ]; exact ⟨_, _, (Ref.std [0, 1, 2, 3, 4, 18, 19, 20, 21, 22] [0, 1] (by decide) (by decide) (by first | rfl | simp only [go_sem, seval]) (by first | rfl | simp only [go_sem, seval])), (by simp), ih _ _ _ h hp⟩
   · simp only [e_4019, e_4020, e_4023, e_4024, e_4025, e_4028, e_4029, e_4030, e_4034, go_sem, seval]; rw [← hQ]; exact ⟨_, _, (Ref.std [0, 1, 2, 3, 4, 18, 19, 20, 21, 22] [0, 1] (by decide) (by decide) (by first | rfl | simp only [go_sem, seval]) (by first | rfl | simp only [go_sem, seval])), (by simp), ih _ _ _ h hp⟩
  · simp only [e_4019, go_sem, seval]; cases h; rw [← hQ]; exact ⟨_, _, (Ref.std [0, 1, 2, 3, 4, 18, 19, 20] [0, 1] (by decide) (by decide) (by first | rfl | simp only [go_sem, seval]) (by first | rfl | simp only [go_sem, seval])), hp⟩
theorem slices_symMergeCmpFunc_int_row_w (N : Nat) : ∀ (n : Nat) (l_0 : List Int) (a_1 : Int) (a_2 : Int) (a_3 : Int) (a_4 : Int) (a_5 : Int) (l_6 : List Int) (c_0 : Bool) (z_1 : List Int) (h : slices_symMergeCmpFunc_int_row N n l_0 a_1 a_2 a_3 a_4 a_5 l_6 = some z_1),
  ACalls Try.prog 27 [.row 0 (a_1).toNat ((a_2).toNat - (a_1).toNat), .int .i64 a_3, .int .i64 a_4, .int .i64 a_5, .fn (.func 18) [] [.ptr 1 0 0]] [.mem 1 (List.map eI64 l_0) 3, .box [.vec c_0 (List.map eI64 l_6)] 22] (fun e H => H = [.mem 1 (List.map eI64 z_1) 3, .box [.vec c_0 (List.map eI64 l_6)] 22] ∧ e = .ret (.tup [])) := by
 intro n
 induction n with
 | zero =>
  intro l_0 a_1 a_2 a_3 a_4 a_5 l_6 c_0 z_1 h; exact no0 h
 | succ n ih =>
  intro l_0 a_1 a_2 a_3 a_4 a_5 l_6 c_0 z_1 h; rw [slices_symMergeCmpFunc_int_row] at h; refine ACalls.goN Try.func27 n27 a27 Try.ntmps27 r27 (by simp) 2 rfl ?_; generalize hQ : bodyA _ _ _ = QQ; simp only [A27, go_sem, seval]; rcases iteS h with ⟨e_2, h⟩ | ⟨e_2, h⟩
  · simp only [e_2, go_sem, seval]; obtain ⟨y_1004, h_1003, h⟩ := bindS h; refine ALp.ref (Ref.std [0, 1, 4, 10, 11] [0, 1] (by decide) (by decide) (by first | rfl | simp only [go_sem, seval]) (by first | rfl | simp only [go_sem, seval])) (by simp) (slices_symMergeCmpFunc_int_row_L1_w N _ _ _ _ _ c_0 N _ _ y_1004 h_1003 ?_); refine LoopK_go rfl (by simp) ?_; simp only [e_2, go_sem, seval]; obtain ⟨y_2006, h_2005, h⟩ := bindS h; refine ALp.ref (Ref.std [0, 10, 13] [0, 1] (by decide) (by decide) (by first | rfl | simp only [go_sem, seval]) (by first | rfl | simp only [go_sem, seval])) (by simp) (slices_symMergeCmpFunc_int_row_L2_w N _ _ _ _ c_0 N _ _ y_2006 h_2005 ?_); refine LoopK_go rfl (by simp) ?_; simp only [e_2, go_sem, seval]; obtain rfl := si h; rw [← hQ]; exact ⟨rfl, _, rfl, _, _, (RefV.std [0, 1] (by decide) (by decide) rfl (by first | rfl | simp only [go_sem, seval, e_2])), rfl, rfl⟩
  ·
   simp only [e_2, go_sem, seval]; rcases iteS h with ⟨e_2008, h⟩ | ⟨e_2008, h⟩
   · simp only [e_2, e_2008, go_sem, seval]; obtain ⟨y_3010, h_3009, h⟩ := bindS h; refine ALp.ref (Ref.std [0, 2, 4, 14, 15] [0, 1] (by decide) (by decide) (by first | rfl | simp only [go_sem, seval]) (by first | rfl | simp only [go_sem, seval])) (by simp) (slices_symMergeCmpFunc_int_row_L3_w N _ _ _ _ _ c_0 N _ _ y_3010 h_3009 ?_); refine LoopK_go rfl (by simp) ?_; simp only [e_2, e_2008, go_sem, seval]; obtain ⟨y_4012, h_4011, h⟩ := bindS h; refine ALp.ref (Ref.std [0, 14, 17] [0, 1] (by decide) (by decide) (by first | rfl | simp only [go_sem, seval]) (by first | rfl | simp only [go_sem, seval])) (by simp) (slices_symMergeCmpFunc_int_row_L4_w N _ _ _ _ c_0 N _ _ y_4012 h_4011 ?_); refine LoopK_go rfl (by simp) ?_; simp only [e_2, e_2008, go_sem, seval]; obtain rfl := si h; rw [← hQ]; exact ⟨rfl, _, rfl, _, _, (RefV.std [0, 1] (by decide) (by decide) rfl (by first | rfl | simp only [go_sem, seval, e_2, e_2008])), rfl, rfl⟩
   ·
    have e_4013 : (min 1 64 : Nat) = 1 := rfl; simp only [e_2, e_2008, e_4013, go_sem, seval]; rcases iteS h with ⟨e_4015, h⟩ | ⟨e_4015, h⟩
    ·
     simp only [e_2, e_2008, e_4013, e_4015, go_sem, seval]; obtain ⟨y_5017, h_5016, h⟩ := bindS h; refine ALp.ref (Ref.std [0, 1, 2, 3, 4, 18, 19, 20, 21, 22] [0, 1] (by decide) (by decide) (by first | rfl | simp only [go_sem, seval]) (by first | rfl | simp only [go_sem, seval])) (by simp) (slices_symMergeCmpFunc_int_row_L5_w N _ _ _ _ _ _ _ c_0 N _ _ y_5017 h_5016 ?_); refine LoopK_go rfl (by simp) ?_; simp only [e_2, e_2008, e_4013, e_4015, go_sem, seval]; rcases iteS h with ⟨e_5019, h⟩ | ⟨e_5019, h⟩
     ·
      simp only [e_2, e_2008, e_4013, e_4015, e_5019, go_sem, seval]; rcases iteS h with ⟨e_5021, h⟩ | ⟨e_5021, h⟩
      ·
       obtain ⟨y_5022, h_5023, h⟩ := bindS h; simp only [e_2, e_2008, e_4013, e_4015, e_5019, e_5021, go_sem, seval]; refine ACalls.goA (slices_rotateCmpFunc_int_row_w N _ _ _ _ _ _ _ c_0 _ h_5023) [0, 1] (ho := ⟨(by first | rfl | simp only [go_sem, seval, e_2, e_2008, e_4015, e_5019, e_5021]), (by first | rfl | simp only [go_sem, seval, e_2, e_2008, e_4015, e_5019, e_5021]), trivial⟩) ?_; simp only [e_2, e_2008, e_4013, e_4015, e_5019, e_5021, go_sem, seval]; rcases iteS h with ⟨e_5025, h⟩ | ⟨e_5025, h⟩
       ·
        simp only [e_2, e_2008, e_4013, e_4015, e_5019, e_5021, e_5025, go_sem, seval]; rcases iteS h with ⟨e_5027, h⟩ | ⟨e_5027, h⟩
        ·
         obtain ⟨y_5028, h_5029, h⟩ := bindS h; simp only [e_2, e_2008, e_4013, e_4015, e_5019, e_5021, e_5025, e_5027, go_sem, seval]; refine ACalls.goA (ih _ _ _ _ _ _ _ c_0 _ h_5029) [0, 1] (ho := ⟨(by first | rfl | simp only [go_sem, seval, e_2, e_2008, e_4015, e_5019, e_5021, e_5025, e_5027]), (by first | rfl | simp only [go_sem, seval, e_2, e_2008, e_4015, e_5019, e_5021, e_5025, e_5027]), trivial⟩) ?_; simp only [e_2, e_2008, e_4013, e_4015, e_5019, e_5021, e_5025, e_5027, go_sem, seval]; rcases iteS h with ⟨e_5031, h⟩ | ⟨e_5031, h⟩
         ·
          simp only [e_2, e_2008, e_4013, e_4015, e_5019, e_5021, e_5025, e_5027, e_5031, go_sem, seval]; rcases iteS h with ⟨e_5033, h⟩ | ⟨e_5033, h⟩
          · obtain ⟨y_5034, h_5035, h⟩ := bindS h; simp only [e_2, e_2008, e_4013, e_4015, e_5019, e_5021, e_5025, e_5027, e_5031, e_5033, go_sem, seval]; refine ACalls.goA (ih _ _ _ _ _ _ _ c_0 _ h_5035) [0, 1] (ho := ⟨(by first | rfl | simp only [go_sem, seval, e_2, e_2008, e_4015, e_5019, e_5021, e_5025, e_5027, e_5031, e_5033]), (by first | rfl | simp only [go_sem, seval, e_2, e_2008, e_4015, e_5019, e_5021, e_5025, e_5027, e_5031, e_5033]), trivial⟩) ?_; simp only [e_2, e_2008, e_4013, e_4015, e_5019, e_5021, e_5025, e_5027, e_5031, e_5033, go_sem, seval]; obtain rfl := si h; rw [← hQ]; exact ⟨rfl, _, rfl, _, _, (RefV.std [0, 1] (by decide) (by decide) rfl (by first | rfl | simp only [go_sem, seval, e_2, e_2008, e_4015, e_5019, e_5021, e_5025, e_5027, e_5031, e_5033])), rfl, rfl⟩
          · simp only [e_2, e_2008, e_4013, e_4015, e_5019, e_5021, e_5025, e_5027, e_5031, e_5033, go_sem, seval]; obtain rfl := si h; rw [← hQ]; exact ⟨rfl, _, rfl, _, _, (RefV.std [0, 1] (by decide) (by decide) rfl (by first | rfl | simp only [go_sem, seval, e_2, e_2008, e_4015, e_5019, e_5021, e_5025, e_5027, e_5031, e_5033])), rfl, rfl⟩
         · simp only [e_2, e_2008, e_4013, e_4015, e_5019, e_5021, e_5025, e_5027, e_5031, go_sem, seval]; obtain rfl := si h; rw [← hQ]; exact ⟨rfl, _, rfl, _, _, (RefV.std [0, 1] (by decide) (by decide) rfl (by first | rfl | simp only [go_sem, seval, e_2, e_2008, e_4015, e_5019, e_5021, e_5025, e_5027, e_5031])), rfl, rfl⟩
        ·
         simp only [e_2, e_2008, e_4013, e_4015, e_5019, e_5021, e_5025, e_5027, go_sem, seval]; rcases iteS h with ⟨e_5037, h⟩ | ⟨e_5037, h⟩
         ·
          simp only [e_2, e_2008, e_4013, e_4015, e_5019, e_5021, e_5025, e_5027, e_5037, go_sem, seval]; rcases iteS h with ⟨e_5039, h⟩ | ⟨e_5039, h⟩
          · obtain ⟨y_5040, h_5041, h⟩ := bindS h; simp only [e_2, e_2008, e_4013, e_4015, e_5019, e_5021, e_5025, e_5027, e_5037, e_5039, go_sem, seval]; refine ACalls.goA (ih _ _ _ _ _ _ _ c_0 _ h_5041) [0, 1] (ho := ⟨(by first | rfl | simp only [go_sem, seval, e_2, e_2008, e_4015, e_5019, e_5021, e_5025, e_5027, e_5037, e_5039]), (by first | rfl | simp only [go_sem, seval, e_2, e_2008, e_4015, e_5019, e_5021, e_5025, e_5027, e_5037, e_5039]), trivial⟩) ?_; simp only [e_2, e_2008, e_4013, e_4015, e_5019, e_5021, e_5025, e_5027, e_5037, e_5039, go_sem, seval]; obtain rfl := si h; rw [← hQ]; exact ⟨rfl, _, rfl, _, _, (RefV.std [0, 1] (by decide) (by decide) rfl (by first | rfl | simp only [go_sem, seval, e_2, e_2008, e_4015, e_5019, e_5021, e_5025, e_5027, e_5037, e_5039])), rfl, rfl⟩
          · simp only [e_2, e_2008, e_4013, e_4015, e_5019, e_5021, e_5025, e_5027, e_5037, e_5039, go_sem, seval]; obtain rfl := si h; rw [← hQ]; exact ⟨rfl, _, rfl, _, _, (RefV.std [0, 1] (by decide) (by decide) rfl (by first | rfl | simp only [go_sem, seval, e_2, e_2008, e_4015, e_5019, e_5021, e_5025, e_5027, e_5037, e_5039])), rfl, rfl⟩
         · simp only [e_2, e_2008, e_4013, e_4015, e_5019, e_5021, e_5025, e_5027, e_5037, go_sem, seval]; obtain rfl := si h; rw [← hQ]; exact ⟨rfl, _, rfl, _, _, (RefV.std [0, 1] (by decide) (by decide) rfl (by first | rfl | simp only [go_sem, seval, e_2, e_2008, e_4015, e_5019, e_5021, e_5025, e_5027, e_5037])), rfl, rfl⟩
       ·
        simp only [e_2, e_2008, e_4013, e_4015, e_5019, e_5021, e_5025, go_sem, seval]; rcases iteS h with ⟨e_5043, h⟩ | ⟨e_5043, h⟩
        ·
         simp only [e_2, e_2008, e_4013, e_4015, e_5019, e_5021, e_5025, e_5043, go_sem, seval]; rcases iteS h with ⟨e_5045, h⟩ | ⟨e_5045, h⟩
         · obtain ⟨y_5046, h_5047, h⟩ := bindS h; simp only [e_2, e_2008, e_4013, e_4015, e_5019, e_5021, e_5025, e_5043, e_5045, go_sem, seval]; refine ACalls.goA (ih _ _ _ _ _ _ _ c_0 _ h_5047) [0, 1] (ho := ⟨(by first | rfl | simp only [go_sem, seval, e_2, e_2008, e_4015, e_5019, e_5021, e_5025, e_5043, e_5045]), (by first | rfl | simp only [go_sem, seval, e_2, e_2008, e_4015, e_5019, e_5021, e_5025, e_5043, e_5045]), trivial⟩) ?_; simp only [e_2, e_2008, e_4013, e_4015, e_5019, e_5021, e_5025, e_5043, e_5045, go_sem, seval]; obtain rfl := si h; rw [← hQ]; exact ⟨rfl, _, rfl, _, _, (RefV.std [0, 1] (by decide) (by decide) rfl (by first | rfl | simp only [go_sem, seval, e_2, e_2008, e_4015, e_5019, e_5021, e_5025, e_5043, e_5045])), rfl, rfl⟩
         · simp only [e_2, e_2008, e_4013, e_4015, e_5019, e_5021, e_5025, e_5043, e_5045, go_sem, seval]; obtain rfl := si h; rw [← hQ]; exact ⟨rfl, _, rfl, _, _, (RefV.std [0, 1] (by decide) (by decide) rfl (by first | rfl | simp only [go_sem, seval, e_2, e_2008, e_4015, e_5019, e_5021, e_5025, e_5043, e_5045])), rfl, rfl⟩
        · simp only [e_2, e_2008, e_4013, e_4015, e_5019, e_5021, e_5025, e_5043, go_sem, seval]; obtain rfl := si h; rw [← hQ]; exact ⟨rfl, _, rfl, _, _, (RefV.std [0, 1] (by decide) (by decide) rfl (by first | rfl | simp only [go_sem, seval, e_2, e_2008, e_4015, e_5019, e_5021, e_5025, e_5043])), rfl, rfl⟩
      ·
       simp only [e_2, e_2008, e_4013, e_4015, e_5019, e_5021, go_sem, seval]; rcases iteS h with ⟨e_5049, h⟩ | ⟨e_5049, h⟩
       ·
        simp only [e_2, e_2008, e_4013, e_4015, e_5019, e_5021, e_5049, go_sem, seval]; rcases iteS h with ⟨e_5051, h⟩ | ⟨e_5051, h⟩
        ·
         obtain ⟨y_5052, h_5053, h⟩ := bindS h; simp only [e_2, e_2008, e_4013, e_4015, e_5019, e_5021, e_5049, e_5051, go_sem, seval]; refine ACalls.goA (ih _ _ _ _ _ _ _ c_0 _ h_5053) [0, 1] (ho := ⟨(by first | rfl | simp only [go_sem, seval, e_2, e_2008, e_4015, e_5019, e_5021, e_5049, e_5051]), (by first | rfl | simp only [go_sem, seval, e_2, e_2008, e_4015, e_5019, e_5021, e_5049, e_5051]), trivial⟩) ?_; simp only [e_2, e_2008, e_4013, e_4015, e_5019, e_5021, e_5049, e_5051, go_sem, seval]; rcases iteS h with ⟨e_5055, h⟩ | ⟨e_5055, h⟩
         ·
          simp only [e_2, e_2008, e_4013, e_4015, e_5019, e_5021, e_5049, e_5051, e_5055, go_sem, seval]; rcases iteS h with ⟨e_5057, h⟩ | ⟨e_5057, h⟩
          · obtain ⟨y_5058, h_5059, h⟩ := bindS h; simp only [e_2, e_2008, e_4013, e_4015, e_5019, e_5021, e_5049, e_5051, e_5055, e_5057, go_sem, seval]; refine ACalls.goA (ih _ _ _ _ _ _ _ c_0 _ h_5059) [0, 1] (ho := ⟨(by first | rfl | simp only [go_sem, seval, e_2, e_2008, e_4015, e_5019, e_5021, e_5049, e_5051, e_5055, e_5057]), (by first | rfl | simp only [go_sem, seval, e_2, e_2008, e_4015, e_5019, e_5021, e_5049, e_5051, e_5055, e_5057]), trivial⟩) ?_; simp only [e_2, e_2008, e_4013, e_4015, e_5019, e_5021, e_5049, e_5051, e_5055, e_5057, go_sem, seval]; obtain rfl := si h; rw [← hQ]; exact ⟨rfl, _, rfl, _, _, (RefV.std [0, 1] (by decide) (by decide) rfl (by first | rfl | simp only [go_sem, seval, e_2, e_2008, e_4015, e_5019, e_5021, e_5049, e_5051, e_5055, e_5057])), rfl, rfl⟩
          · simp only [e_2, e_2008, e_4013, e_4015, e_5019, e_5021, e_5049, e_5051, e_5055, e_5057, go_sem, seval]; obtain rfl := si h; rw [← hQ]; exact ⟨rfl, _, rfl, _, _, (RefV.std [0, 1] (by decide) (by decide) rfl (by first | rfl | simp only [go_sem, seval, e_2, e_2008, e_4015, e_5019, e_5021, e_5049, e_5051, e_5055, e_5057])), rfl, rfl⟩
         · simp only [e_2, e_2008, e_4013, e_4015, e_5019, e_5021, e_5049, e_5051, e_5055, go_sem, seval]; obtain rfl := si h; rw [← hQ]; exact ⟨rfl, _, rfl, _, _, (RefV.std [0, 1] (by decide) (by decide) rfl (by first | rfl | simp only [go_sem, seval, e_2, e_2008, e_4015, e_5019, e_5021, e_5049, e_5051, e_5055])), rfl, rfl⟩
        ·
         simp only [e_2, e_2008, e_4013, e_4015, e_5019, e_5021, e_5049, e_5051, go_sem, seval]; rcases iteS h with ⟨e_5061, h⟩ | ⟨e_5061, h⟩
         ·
          simp only [e_2, e_2008, e_4013, e_4015, e_5019, e_5021, e_5049, e_5051, e_5061, go_sem, seval]; rcases iteS h with ⟨e_5063, h⟩ | ⟨e_5063, h⟩
          · obtain ⟨y_5064, h_5065, h⟩ := bindS h; simp only [e_2, e_2008, e_4013, e_4015, e_5019, e_5021, e_5049, e_5051, e_5061, e_5063, go_sem, seval]; refine ACalls.goA (ih _ _ _ _ _ _ _ c_0 _ h_5065) [0, 1] (ho := ⟨(by first | rfl | simp only [go_sem, seval, e_2, e_2008, e_4015, e_5019, e_5021, e_5049, e_5051, e_5061, e_5063]), (by first | rfl | simp only [go_sem, seval, e_2, e_2008, e_4015, e_5019, e_5021, e_5049, e_5051, e_5061, e_5063]), trivial⟩) ?_; simp only [e_2, e_2008, e_4013, e_4015, e_5019, e_5021, e_5049, e_5051, e_5061, e_5063, go_sem, seval]; obtain rfl := si h; rw [← hQ]; exact ⟨rfl, _, rfl, _, _, (RefV.std [0, 1] (by decide) (by decide) rfl (by first | rfl | simp only [go_sem, seval, e_2, e_2008, e_4015, e_5019, e_5021, e_5049, e_5051, e_5061, e_5063])), rfl, rfl⟩
          · simp only [e_2, e_2008, e_4013, e_4015, e_5019, e_5021, e_5049, e_5051, e_5061, e_5063, go_sem, seval]; obtain rfl := si h; rw [← hQ]; exact ⟨rfl, _, rfl, _, _, (RefV.std [0, 1] (by decide) (by decide) rfl (by first | rfl | simp only [go_sem, seval, e_2, e_2008, e_4015, e_5019, e_5021, e_5049, e_5051, e_5061, e_5063])), rfl, rfl⟩
         · simp only [e_2, e_2008, e_4013, e_4015, e_5019, e_5021, e_5049, e_5051, e_5061, go_sem, seval]; obtain rfl := si h; rw [← hQ]; exact ⟨rfl, _, rfl, _, _, (RefV.std [0, 1] (by decide) (by decide) rfl (by first | rfl | simp only [go_sem, seval, e_2, e_2008, e_4015, e_5019, e_5021, e_5049, e_5051, e_5061])), rfl, rfl⟩
       ·
        simp only [e_2, e_2008, e_4013, e_4015, e_5019, e_5021, e_5049, go_sem, seval]; rcases iteS h with ⟨e_5067, h⟩ | ⟨e_5067, h⟩
        ·
         simp only [e_2, e_2008, e_4013, e_4015, e_5019, e_5021, e_5049, e_5067, go_sem, seval]; rcases iteS h with ⟨e_5069, h⟩ | ⟨e_5069, h⟩
         · obtain ⟨y_5070, h_5071, h⟩ := bindS h; simp only [e_2, e_2008, e_4013, e_4015, e_5019, e_5021, e_5049, e_5067, e_5069, go_sem, seval]; refine ACalls.goA (ih _ _ _ _ _ _ _ c_0 _ h_5071) [0, 1] (ho := ⟨(by first | rfl | simp only [go_sem, seval, e_2, e_2008, e_4015, e_5019, e_5021, e_5049, e_5067, e_5069]), (by first | rfl | simp only [go_sem, seval, e_2, e_2008, e_4015, e_5019, e_5021, e_5049, e_5067, e_5069]), trivial⟩) ?_; simp only [e_2, e_2008, e_4013, e_4015, e_5019, e_5021, e_5049, e_5067, e_5069, go_sem, seval]; obtain rfl := si h; rw [← hQ]; exact ⟨rfl, _, rfl, _, _, (RefV.std [0, 1] (by decide) (by decide) rfl (by first | rfl | simp only [go_sem, seval, e_2, e_2008, e_4015, e_5019, e_5021, e_5049, e_5067, e_5069])), rfl, rfl⟩
         · simp only [e_2, e_2008, e_4013, e_4015, e_5019, e_5021, e_5049, e_5067, e_5069, go_sem, seval]; obtain rfl := si h; rw [← hQ]; exact ⟨rfl, _, rfl, _, _, (RefV.std [0, 1] (by decide) (by decide) rfl (by first | rfl | simp only [go_sem, seval, e_2, e_2008, e_4015, e_5019, e_5021, e_5049, e_5067, e_5069])), rfl, rfl⟩
        · simp only [e_2, e_2008, e_4013, e_4015, e_5019, e_5021, e_5049, e_5067, go_sem, seval]; obtain rfl := si h; rw [← hQ]; exact ⟨rfl, _, rfl, _, _, (RefV.std [0, 1] (by decide) (by decide) rfl (by first | rfl | simp only [go_sem, seval, e_2, e_2008, e_4015, e_5019, e_5021, e_5049, e_5067])), rfl, rfl⟩
     ·
      simp only [e_2, e_2008, e_4013, e_4015, e_5019, go_sem, seval]; rcases iteS h with ⟨e_5073, h⟩ | ⟨e_5073, h⟩
      ·
       simp only [e_2, e_2008, e_4013, e_4015, e_5019, e_5073, go_sem, seval]; rcases iteS h with ⟨e_5075, h⟩ | ⟨e_5075, h⟩
       ·
        obtain ⟨y_5076, h_5077, h⟩ := bindS h; simp only [e_2, e_2008, e_4013, e_4015, e_5019, e_5073, e_5075, go_sem, seval]; refine ACalls.goA (ih _ _ _ _ _ _ _ c_0 _ h_5077) [0, 1] (ho := ⟨(by first | rfl | simp only [go_sem, seval, e_2, e_2008, e_4015, e_5019, e_5073, e_5075]), (by first | rfl | simp only [go_sem, seval, e_2, e_2008, e_4015, e_5019, e_5073, e_5075]), trivial⟩) ?_; simp only [e_2, e_2008, e_4013, e_4015, e_5019, e_5073, e_5075, go_sem, seval]; rcases iteS h with ⟨e_5079, h⟩ | ⟨e_5079, h⟩
        ·
         simp only [e_2, e_2008, e_4013, e_4015, e_5019, e_5073, e_5075, e_5079, go_sem, seval]; rcases iteS h with ⟨e_5081, h⟩ | ⟨e_5081, h⟩
         · obtain ⟨y_5082, h_5083, h⟩ := bindS h; simp only [e_2, e_2008, e_4013, e_4015, e_5019, e_5073, e_5075, e_5079, e_5081, go_sem, seval]; refine ACalls.goA (ih _ _ _ _ _ _ _ c_0 _ h_5083) [0, 1] (ho := ⟨(by first | rfl | simp only [go_sem, seval, e_2, e_2008, e_4015, e_5019, e_5073, e_5075, e_5079, e_5081]), (by first | rfl | simp only [go_sem, seval, e_2, e_2008, e_4015, e_5019, e_5073, e_5075, e_5079, e_5081]), trivial⟩) ?_; simp only [e_2, e_2008, e_4013, e_4015, e_5019, e_5073, e_5075, e_5079, e_5081, go_sem, seval]; obtain rfl := si h; rw [← hQ]; exact ⟨rfl, _, rfl, _, _, (RefV.std [0, 1] (by decide) (by decide) rfl (by first | rfl | simp only [go_sem, seval, e_2, e_2008, e_4015, e_5019, e_5073, e_5075, e_5079, e_5081])), rfl, rfl⟩
         · simp only [e_2, e_2008, e_4013, e_4015, e_5019, e_5073, e_5075, e_5079, e_5081, go_sem, seval]; obtain rfl := si h; rw [← hQ]; exact ⟨rfl, _, rfl, _, _, (RefV.std [0, 1] (by decide) (by decide) rfl (by first | rfl | simp only [go_sem, seval, e_2, e_2008, e_4015, e_5019, e_5073, e_5075, e_5079, e_5081])), rfl, rfl⟩
        · simp only [e_2, e_2008, e_4013, e_4015, e_5019, e_5073, e_5075, e_5079, go_sem, seval]; obtain rfl := si h; rw [← hQ]; exact ⟨rfl, _, rfl, _, _, (RefV.std [0, 1] (by decide) (by decide) rfl (by first | rfl | simp only [go_sem, seval, e_2, e_2008, e_4015, e_5019, e_5073, e_5075, e_5079])), rfl, rfl⟩
       ·
        simp only [e_2, e_2008, e_4013, e_4015, e_5019, e_5073, e_5075, go_sem, seval]; rcases iteS h with ⟨e_5085, h⟩ | ⟨e_5085, h⟩
        ·
         simp only [e_2, e_2008, e_4013, e_4015, e_5019, e_5073, e_5075, e_5085, go_sem, seval]; rcases iteS h with ⟨e_5087, h⟩ | ⟨e_5087, h⟩
         · obtain ⟨y_5088, h_5089, h⟩ := bindS h; simp only [e_2, e_2008, e_4013, e_4015, e_5019, e_5073, e_5075, e_5085, e_5087, go_sem, seval]; refine ACalls.goA (ih _ _ _ _ _ _ _ c_0 _ h_5089) [0, 1] (ho := ⟨(by first | rfl | simp only [go_sem, seval, e_2, e_2008, e_4015, e_5019, e_5073, e_5075, e_5085, e_5087]), (by first | rfl | simp only [go_sem, seval, e_2, e_2008, e_4015, e_5019, e_5073, e_5075, e_5085, e_5087]), trivial⟩) ?_; simp only [e_2, e_2008, e_4013, e_4015, e_5019, e_5073, e_5075, e_5085, e_5087, go_sem, seval]; obtain rfl := si h; rw [← hQ]; exact ⟨rfl, _, rfl, _, _, (RefV.std [0, 1] (by decide) (by decide) rfl (by first | rfl | simp only [go_sem, seval, e_2, e_2008, e_4015, e_5019, e_5073, e_5075, e_5085, e_5087])), rfl, rfl⟩
         · simp only [e_2, e_2008, e_4013, e_4015, e_5019, e_5073, e_5075, e_5085, e_5087, go_sem, seval]; obtain rfl := si h; rw [← hQ]; exact ⟨rfl, _, rfl, _, _, (RefV.std [0, 1] (by decide) (by decide) rfl (by first | rfl | simp only [go_sem, seval, e_2, e_2008, e_4015, e_5019, e_5073, e_5075, e_5085, e_5087])), rfl, rfl⟩
        · simp only [e_2, e_2008, e_4013, e_4015, e_5019, e_5073, e_5075, e_5085, go_sem, seval]; obtain rfl := si h; rw [← hQ]; exact ⟨rfl, _, rfl, _, _, (RefV.std [0, 1] (by decide) (by decide) rfl (by first | rfl | simp only [go_sem, seval, e_2, e_2008, e_4015, e_5019, e_5073, e_5075, e_5085])), rfl, rfl⟩
      ·
       simp only [e_2, e_2008, e_4013, e_4015, e_5019, e_5073, go_sem, seval]; rcases iteS h with ⟨e_5091, h⟩ | ⟨e_5091, h⟩
       ·
        simp only [e_2, e_2008, e_4013, e_4015, e_5019, e_5073, e_5091, go_sem, seval]; rcases iteS h with ⟨e_5093, h⟩ | ⟨e_5093, h⟩
        · obtain ⟨y_5094, h_5095, h⟩ := bindS h; simp only [e_2, e_2008, e_4013, e_4015, e_5019, e_5073, e_5091, e_5093, go_sem, seval]; refine ACalls.goA (ih _ _ _ _ _ _ _ c_0 _ h_5095) [0, 1] (ho := ⟨(by first | rfl | simp only [go_sem, seval, e_2, e_2008, e_4015, e_5019, e_5073, e_5091, e_5093]), (by first | rfl | simp only [go_sem, seval, e_2, e_2008, e_4015, e_5019, e_5073, e_5091, e_5093]), trivial⟩) ?_; simp only [e_2, e_2008, e_4013, e_4015, e_5019, e_5073, e_5091, e_5093, go_sem, seval]; obtain rfl := si h; rw [← hQ]; exact ⟨rfl, _, rfl, _, _, (RefV.std [0, 1] (by decide) (by decide) rfl (by first | rfl | simp only [go_sem, seval, e_2, e_2008, e_4015, e_5019, e_5073, e_5091, e_5093])), rfl, rfl⟩
        · simp only [e_2, e_2008, e_4013, e_4015, e_5019, e_5073, e_5091, e_5093, go_sem, seval]; obtain rfl := si h; rw [← hQ]; exact ⟨rfl, _, rfl, _, _, (RefV.std [0, 1] (by decide) (by decide) rfl (by first | rfl | simp only [go_sem, seval, e_2, e_2008, e_4015, e_5019, e_5073, e_5091, e_5093])), rfl, rfl⟩
       · simp only [e_2, e_2008, e_4013, e_4015, e_5019, e_5073, e_5091, go_sem, seval]; obtain rfl := si h; rw [← hQ]; exact ⟨rfl, _, rfl, _, _, (RefV.std [0, 1] (by decide) (by decide) rfl (by first | rfl | simp only [go_sem, seval, e_2, e_2008, e_4015, e_5019, e_5073, e_5091])), rfl, rfl⟩
    ·
     simp only [e_2, e_2008, e_4013, e_4015, go_sem, seval]; obtain ⟨y_6097, h_6096, h⟩ := bindS h; refine ALp.ref (Ref.std [0, 1, 2, 3, 4, 18, 19, 20, 21, 22] [0, 1] (by decide) (by decide) (by first | rfl | simp only [go_sem, seval]) (by first | rfl | simp only [go_sem, seval])) (by simp) (slices_symMergeCmpFunc_int_row_L5_w N _ _ _ _ _ _ _ c_0 N _ _ y_6097 h_6096 ?_); refine LoopK_go rfl (by simp) ?_; simp only [e_2, e_2008, e_4013, e_4015, go_sem, seval]; rcases iteS h with ⟨e_6099, h⟩ | ⟨e_6099, h⟩
     ·
      simp only [e_2, e_2008, e_4013, e_4015, e_6099, go_sem, seval]; rcases iteS h with ⟨e_6101, h⟩ | ⟨e_6101, h⟩
      ·
       obtain ⟨y_6102, h_6103, h⟩ := bindS h; simp only [e_2, e_2008, e_4013, e_4015, e_6099, e_6101, go_sem, seval]; refine ACalls.goA (slices_rotateCmpFunc_int_row_w N _ _ _ _ _ _ _ c_0 _ h_6103) [0, 1] (ho := ⟨(by first | rfl | simp only [go_sem, seval, e_2, e_2008, e_4015, e_6099, e_6101]), (by first | rfl | simp only [go_sem, seval, e_2, e_2008, e_4015, e_6099, e_6101]), trivial⟩) ?_; simp only [e_2, e_2008, e_4013, e_4015, e_6099, e_6101, go_sem, seval]; rcases iteS h with ⟨e_6105, h⟩ | ⟨e_6105, h⟩
       ·
        simp only [e_2, e_2008, e_4013, e_4015, e_6099, e_6101, e_6105, go_sem, seval]; rcases iteS h with ⟨e_6107, h⟩ | ⟨e_6107, h⟩
        ·
         obtain ⟨y_6108, h_6109, h⟩ := bindS h; simp only [e_2, e_2008, e_4013, e_4015, e_6099, e_6101, e_6105, e_6107, go_sem, seval]; refine ACalls.goA (ih _ _ _ _ _ _ _ c_0 _ h_6109) [0, 1] (ho := ⟨(by first | rfl | simp only [go_sem, seval, e_2, e_2008, e_4015, e_6099, e_6101, e_6105, e_6107]), (by first | rfl | simp only [go_sem, seval, e_2, e_2008, e_4015, e_6099, e_6101, e_6105, e_6107]), trivial⟩) ?_; simp only [e_2, e_2008, e_4013, e_4015, e_6099, e_6101, e_6105, e_6107, go_sem, seval]; rcases iteS h with ⟨e_6111, h⟩ | ⟨e_6111, h⟩
         ·
          simp only [e_2, e_2008, e_4013, e_4015, e_6099, e_6101, e_6105, e_6107, e_6111, go_sem, seval]; rcases iteS h with ⟨e_6113, h⟩ | ⟨e_6113, h⟩
          · obtain ⟨y_6114, h_6115, h⟩ := bindS h; simp only [e_2, e_2008, e_4013, e_4015, e_6099, e_6101, e_6105, e_6107, e_6111, e_6113, go_sem, seval]; refine ACalls.goA (ih _ _ _ _ _ _ _ c_0 _ h_6115) [0, 1] (ho := ⟨(by first | rfl | simp only [go_sem, seval, e_2, e_2008, e_4015, e_6099, e_6101, e_6105, e_6107, e_6111, e_6113]), (by first | rfl | simp only [go_sem, seval, e_2, e_2008, e_4015, e_6099, e_6101, e_6105, e_6107, e_6111, e_6113]), trivial⟩) ?_; simp only [e_2, e_2008, e_4013, e_4015, e_6099, e_6101, e_6105, e_6107, e_6111, e_6113, go_sem, seval]; obtain rfl := si h; rw [← hQ]; exact ⟨rfl, _, rfl, _, _, (RefV.std [0, 1] (by decide) (by decide) rfl (by first | rfl | simp only [go_sem, seval, e_2, e_2008, e_4015, e_6099, e_6101, e_6105, e_6107, e_6111, e_6113])), rfl, rfl⟩
          · simp only [e_2, e_2008, e_4013, e_4015, e_6099, e_6101, e_6105, e_6107, e_6111, e_6113, go_sem, seval]; obtain rfl := si h; rw [← hQ]; exact ⟨rfl, _, rfl, _, _, (RefV.std [0, 1] (by decide) (by decide) rfl (by first | rfl | simp only [go_sem, seval, e_2, e_2008, e_4015, e_6099, e_6101, e_6105, e_6107, e_6111, e_6113])), rfl, rfl⟩
         · simp only [e_2, e_2008, e_4013, e_4015, e_6099, e_6101, e_6105, e_6107, e_6111, go_sem, seval]; obtain rfl := si h; rw [← hQ]; exact ⟨rfl, _, rfl, _, _, (RefV.std [0, 1] (by decide) (by decide) rfl (by first | rfl | simp only [go_sem, seval, e_2, e_2008, e_4015, e_6099, e_6101, e_6105, e_6107, e_6111])), rfl, rfl⟩
        ·
         simp only [e_2, e_2008, e_4013, e_4015, e_6099, e_6101, e_6105, e_6107, go_sem, seval]; rcases iteS h with ⟨e_6117, h⟩ | ⟨e_6117, h⟩
         ·
          simp only [e_2, e_2008, e_4013, e_4015, e_6099, e_6101, e_6105, e_6107, e_6117, go_sem, seval]; rcases iteS h with ⟨e_6119, h⟩ | ⟨e_6119, h⟩
          · obtain ⟨y_6120, h_6121, h⟩ := bindS h; simp only [e_2, e_2008, e_4013, e_4015, e_6099, e_6101, e_6105, e_6107, e_6117, e_6119, go_sem, seval]; refine ACalls.goA (ih _ _ _ _ _ _ _ c_0 _ h_6121) [0, 1] (ho := ⟨(by first | rfl | simp only [go_sem, seval, e_2, e_2008, e_4015, e_6099, e_6101, e_6105, e_6107, e_6117, e_6119]), (by first | rfl | simp only [go_sem, seval, e_2, e_2008, e_4015, e_6099, e_6101, e_6105, e_6107, e_6117, e_6119]), trivial⟩) ?_; simp only [e_2, e_2008, e_4013, e_4015, e_6099, e_6101, e_6105, e_6107, e_6117, e_6119, go_sem, seval]; obtain rfl := si h; rw [← hQ]; exact ⟨rfl, _, rfl, _, _, (RefV.std [0, 1] (by decide) (by decide) rfl (by first | rfl | simp only [go_sem, seval, e_2, e_2008, e_4015, e_6099, e_6101, e_6105, e_6107, e_6117, e_6119])), rfl, rfl⟩
          · simp only [e_2, e_2008, e_4013, e_4015, e_6099, e_6101, e_6105, e_6107, e_6117, e_6119, go_sem, seval]; obtain rfl := si h; rw [← hQ]; exact ⟨rfl, _, rfl, _, _, (RefV.std [0, 1] (by decide) (by decide) rfl (by first | rfl | simp only [go_sem, seval, e_2, e_2008, e_4015, e_6099, e_6101, e_6105, e_6107, e_6117, e_6119])), rfl, rfl⟩
         · simp only [e_2, e_2008, e_4013, e_4015, e_6099, e_6101, e_6105, e_6107, e_6117, go_sem, seval]; obtain rfl := si h; rw [← hQ]; exact ⟨rfl, _, rfl, _, _, (RefV.std [0, 1] (by decide) (by decide) rfl (by first | rfl | simp only [go_sem, seval, e_2, e_2008, e_4015, e_6099, e_6101, e_6105, e_6107, e_6117])), rfl, rfl⟩
       ·
        simp only [e_2, e_2008, e_4013, e_4015, e_6099, e_6101, e_6105, go_sem, seval]; rcases iteS h with ⟨e_6123, h⟩ | ⟨e_6123, h⟩
        ·
         simp only [e_2, e_2008, e_4013, e_4015, e_6099, e_6101, e_6105, e_6123, go_sem, seval]; rcases iteS h with ⟨e_6125, h⟩ | ⟨e_6125, h⟩
         · obtain ⟨y_6126, h_6127, h⟩ := bindS h; simp only [e_2, e_2008, e_4013, e_4015, e_6099, e_6101, e_6105, e_6123, e_6125, go_sem, seval]; refine ACalls.goA (ih _ _ _ _ _ _ _ c_0 _ h_6127) [0, 1] (ho := ⟨(by first | rfl | simp only [go_sem, seval, e_2, e_2008, e_4015, e_6099, e_6101, e_6105, e_6123, e_6125]), (by first | rfl | simp only [go_sem, seval, e_2, e_2008, e_4015, e_6099, e_6101, e_6105, e_6123, e_6125]), trivial⟩) ?_; simp only [e_2, e_2008, e_4013, e_4015, e_6099, e_6101, e_6105, e_6123, e_6125, go_sem, seval]; obtain rfl := si h; rw [← hQ]; exact ⟨rfl, _, rfl, _, _, (RefV.std [0, 1] (by decide) (by decide) rfl (by first | rfl | simp only [go_sem, seval, e_2, e_2008, e_4015, e_6099, e_6101, e_6105, e_6123, e_6125])), rfl, rfl⟩
         · simp only [e_2, e_2008, e_4013, e_4015, e_6099, e_6101, e_6105, e_6123, e_6125, go_sem, seval]; obtain rfl := si h; rw [← hQ]; exact ⟨rfl, _, rfl, _, _, (RefV.std [0, 1] (by decide) (by decide) rfl (by first | rfl | simp only [go_sem, seval, e_2, e_2008, e_4015, e_6099, e_6101, e_6105, e_6123, e_6125])), rfl, rfl⟩
        · simp only [e_2, e_2008, e_4013, e_4015, e_6099, e_6101, e_6105, e_6123, go_sem, seval]; obtain rfl := si h; rw [← hQ]; exact ⟨rfl, _, rfl, _, _, (RefV.std [0, 1] (by decide) (by decide) rfl (by first | rfl | simp only [go_sem, seval, e_2, e_2008, e_4015, e_6099, e_6101, e_6105, e_6123])), rfl, rfl⟩
      ·
       simp only [e_2, e_2008, e_4013, e_4015, e_6099, e_6101, go_sem, seval]; rcases iteS h with ⟨e_6129, h⟩ | ⟨e_6129, h⟩
       ·
        simp only [e_2, e_2008, e_4013, e_4015, e_6099, e_6101, e_6129, go_sem, seval]; rcases iteS h with ⟨e_6131, h⟩ | ⟨e_6131, h⟩
        ·
         obtain ⟨y_6132, h_6133, h⟩ := bindS h; simp only [e_2, e_2008, e_4013, e_4015, e_6099, e_6101, e_6129, e_6131, go_sem, seval]; refine ACalls.goA (ih _ _ _ _ _ _ _ c_0 _ h_6133) [0, 1] (ho := ⟨(by first | rfl | simp only [go_sem, seval, e_2, e_2008, e_4015, e_6099, e_6101, e_6129, e_6131]), (by first | rfl | simp only [go_sem, seval, e_2, e_2008, e_4015, e_6099, e_6101, e_6129, e_6131]), trivial⟩) ?_; simp only [e_2, e_2008, e_4013, e_4015, e_6099, e_6101, e_6129, e_6131, go_sem, seval]; rcases iteS h with ⟨e_6135, h⟩ | ⟨e_6135, h⟩
         ·
          simp only [e_2, e_2008, e_4013, e_4015, e_6099, e_6101, e_6129, e_6131, e_6135, go_sem, seval]; rcases iteS h with ⟨e_6137, h⟩ | ⟨e_6137, h⟩
          · obtain ⟨y_6138, h_6139, h⟩ := bindS h; simp only [e_2, e_2008, e_4013, e_4015, e_6099, e_6101, e_6129, e_6131, e_6135, e_6137, go_sem, seval]; refine ACalls.goA (ih _ _ _ _ _ _ _ c_0 _ h_6139) [0, 1] (ho := ⟨(by first | rfl | simp only [go_sem, seval, e_2, e_2008, e_4015, e_6099, e_6101, e_6129, e_6131, e_6135, e_6137]), (by first | rfl | simp only [go_sem, seval, e_2, e_2008, e_4015, e_6099, e_6101, e_6129, e_6131, e_6135, e_6137]), trivial⟩) ?_; simp only [e_2, e_2008, e_4013, e_4015, e_6099, e_6101, e_6129, e_6131, e_6135, e_6137, go_sem, seval]; obtain rfl := si h; rw [← hQ]; exact ⟨rfl, _, rfl, _, _, (RefV.std [0, 1] (by decide) (by decide) rfl (by first | rfl | simp only [go_sem, seval, e_2, e_2008, e_4015, e_6099, e_6101, e_6129, e_6131, e_6135, e_6137])), rfl, rfl⟩
          · simp only [e_2, e_2008, e_4013, e_4015, e_6099, e_6101, e_6129, e_6131, e_6135, e_6137, go_sem, seval]; obtain rfl := si h; rw [← hQ]; exact ⟨rfl, _, rfl, _, _, (RefV.std [0, 1] (by decide) (by decide) rfl (by first | rfl | simp only [go_sem, seval, e_2, e_2008, e_4015, e_6099, e_6101, e_6129, e_6131, e_6135, e_6137])), rfl, rfl⟩
         · simp only [e_2, e_2008, e_4013, e_4015, e_6099, e_6101, e_6129, e_6131, e_6135, go_sem, seval]; obtain rfl := si h; rw [← hQ]; exact ⟨rfl, _, rfl, _, _, (RefV.std [0, 1] (by decide) (by decide) rfl (by first | rfl | simp only [go_sem, seval, e_2, e_2008, e_4015, e_6099, e_6101, e_6129, e_6131, e_6135])), rfl, rfl⟩
        ·
         simp only [e_2, e_2008, e_4013, e_4015, e_6099, e_6101, e_6129, e_6131, go_sem, seval]; rcases iteS h with ⟨e_6141, h⟩ | ⟨e_6141, h⟩
         ·
          simp only [e_2, e_2008, e_4013, e_4015, e_6099, e_6101, e_6129, e_6131, e_6141, go_sem, seval]; rcases iteS h with ⟨e_6143, h⟩ | ⟨e_6143, h⟩
          · obtain ⟨y_6144, h_6145, h⟩ := bindS h; simp only [e_2, e_2008, e_4013, e_4015, e_6099, e_6101, e_6129, e_6131, e_6141, e_6143, go_sem, seval]; refine ACalls.goA (ih _ _ _ _ _ _ _ c_0 _ h_6145) [0, 1] (ho := ⟨(by first | rfl | simp only [go_sem, seval, e_2, e_2008, e_4015, e_6099, e_6101, e_6129, e_6131, e_6141, e_6143]), (by first | rfl | simp only [go_sem, seval, e_2, e_2008, e_4015, e_6099, e_6101, e_6129, e_6131, e_6141, e_6143]), trivial⟩) ?_; simp only [e_2, e_2008, e_4013, e_4015, e_6099, e_6101, e_6129, e_6131, e_6141, e_6143, go_sem, seval]; obtain rfl := si h; rw [← hQ]; exact ⟨rfl, _, rfl, _, _, (RefV.std [0, 1] (by decide) (by decide) rfl (by first | rfl | simp only [go_sem, seval, e_2, e_2008, e_4015, e_6099, e_6101, e_6129, e_6131, e_6141, e_6143])), rfl, rfl⟩
          · simp only [e_2, e_2008, e_4013, e_4015, e_6099, e_6101, e_6129, e_6131, e_6141, e_6143, go_sem, seval]; obtain rfl := si h; rw [← hQ]; exact ⟨rfl, _, rfl, _, _, (RefV.std [0, 1] (by decide) (by decide) rfl (by first | rfl | simp only [go_sem, seval, e_2, e_2008, e_4015, e_6099, e_6101, e_6129, e_6131, e_6141, e_6143])), rfl, rfl⟩
         · simp only [e_2, e_2008, e_4013, e_4015, e_6099, e_6101, e_6129, e_6131, e_6141, go_sem, seval]; obtain rfl := si h; rw [← hQ]; exact ⟨rfl, _, rfl, _, _, (RefV.std [0, 1] (by decide) (by decide) rfl (by first | rfl | simp only [go_sem, seval, e_2, e_2008, e_4015, e_6099, e_6101, e_6129, e_6131, e_6141])), rfl, rfl⟩
       ·
        simp only [e_2, e_2008, e_4013, e_4015, e_6099, e_6101, e_6129, go_sem, seval]; rcases iteS h with ⟨e_6147, h⟩ | ⟨e_6147, h⟩
        ·
         simp only [e_2, e_2008, e_4013, e_4015, e_6099, e_6101, e_6129, e_6147, go_sem, seval]; rcases iteS h with ⟨e_6149, h⟩ | ⟨e_6149, h⟩
         · obtain ⟨y_6150, h_6151, h⟩ := bindS h; simp only [e_2, e_2008, e_4013, e_4015, e_6099, e_6101, e_6129, e_6147, e_6149, go_sem, seval]; refine ACalls.goA (ih _ _ _ _ _ _ _ c_0 _ h_6151) [0, 1] (ho := ⟨(by first | rfl | simp only [go_sem, seval, e_2, e_2008, e_4015, e_6099, e_6101, e_6129, e_6147, e_6149]), (by first | rfl | simp only [go_sem, seval, e_2, e_2008, e_4015, e_6099, e_6101, e_6129, e_6147, e_6149]), trivial⟩) ?_; simp only [e_2, e_2008, e_4013, e_4015, e_6099, e_6101, e_6129, e_6147, e_6149, go_sem, seval]; obtain rfl := si h; rw [← hQ]; exact ⟨rfl, _, rfl, _, _, (RefV.std [0, 1] (by decide) (by decide) rfl (by first | rfl | simp only [go_sem, seval, e_2, e_2008, e_4015, e_6099, e_6101, e_6129, e_6147, e_6149])), rfl, rfl⟩
         · simp only [e_2, e_2008, e_4013, e_4015, e_6099, e_6101, e_6129, e_6147, e_6149, go_sem, seval]; obtain rfl := si h; rw [← hQ]; exact ⟨rfl, _, rfl, _, _, (RefV.std [0, 1] (by decide) (by decide) rfl (by first | rfl | simp only [go_sem, seval, e_2, e_2008, e_4015, e_6099, e_6101, e_6129, e_6147, e_6149])), rfl, rfl⟩
        · simp only [e_2, e_2008, e_4013, e_4015, e_6099, e_6101, e_6129, e_6147, go_sem, seval]; obtain rfl := si h; rw [← hQ]; exact ⟨rfl, _, rfl, _, _, (RefV.std [0, 1] (by decide) (by decide) rfl (by first | rfl | simp only [go_sem, seval, e_2, e_2008, e_4015, e_6099, e_6101, e_6129, e_6147])), rfl, rfl⟩
     ·
      simp only [e_2, e_2008, e_4013, e_4015, e_6099, go_sem, seval]; rcases iteS h with ⟨e_6153, h⟩ | ⟨e_6153, h⟩
      ·
       simp only [e_2, e_2008, e_4013, e_4015, e_6099, e_6153, go_sem, seval]; rcases iteS h with ⟨e_6155, h⟩ | ⟨e_6155, h⟩
       ·
        obtain ⟨y_6156, h_6157, h⟩ := bindS h; simp only [e_2, e_2008, e_4013, e_4015, e_6099, e_6153, e_6155, go_sem, seval]; refine ACalls.goA (ih _ _ _ _ _ _ _ c_0 _ h_6157) [0, 1] (ho := ⟨(by first | rfl | simp only [go_sem, seval, e_2, e_2008, e_4015, e_6099, e_6153, e_6155]), (by first | rfl | simp only [go_sem, seval, e_2, e_2008, e_4015, e_6099, e_6153, e_6155]), trivial⟩) ?_; simp only [e_2, e_2008, e_4013, e_4015, e_6099, e_6153, e_6155, go_sem, seval]; rcases iteS h with ⟨e_6159, h⟩ | ⟨e_6159, h⟩
        ·
         simp only [e_2, e_2008, e_4013, e_4015, e_6099, e_6153, e_6155, e_6159, go_sem, seval]; rcases iteS h with ⟨e_6161, h⟩ | ⟨e_6161, h⟩
         · obtain ⟨y_6162, h_6163, h⟩ := bindS h; simp only [e_2, e_2008, e_4013, e_4015, e_6099, e_6153, e_6155, e_6159, e_6161, go_sem, seval]; refine ACalls.goA (ih _ _ _ _ _ _ _ c_0 _ h_6163) [0, 1] (ho := ⟨(by first | rfl | simp only [go_sem, seval, e_2, e_2008, e_4015, e_6099, e_6153, e_6155, e_6159, e_6161]), (by first | rfl | simp only [go_sem, seval, e_2, e_2008, e_4015, e_6099, e_6153, e_6155, e_6159, e_6161]), trivial⟩) ?_; simp only [e_2, e_2008, e_4013, e_4015, e_6099, e_6153, e_6155, e_6159, e_6161, go_sem, seval]; obtain rfl := si h; rw [← hQ]; exact ⟨rfl, _, rfl, _, _, (RefV.std [0, 1] (by decide) (by decide) rfl (by first | rfl | simp only [go_sem, seval, e_2, e_2008, e_4015, e_6099, e_6153, e_6155, e_6159, e_6161])), rfl, rfl⟩
         · simp only [e_2, e_2008, e_4013, e_4015, e_6099, e_6153, e_6155, e_6159, e_6161, go_sem, seval]; obtain rfl := si h; rw [← hQ]; exact ⟨rfl, _, rfl, _, _, (RefV.std [0, 1] (by decide) (by decide) rfl (by first | rfl | simp only [go_sem, seval, e_2, e_2008, e_4015, e_6099, e_6153, e_6155, e_6159, e_6161])), rfl, rfl⟩
        · simp only [e_2, e_2008, e_4013, e_4015, e_6099, e_6153, e_6155, e_6159, go_sem, seval]; obtain rfl := si h; rw [← hQ]; exact ⟨rfl, _, rfl, _, _, (RefV.std [0, 1] (by decide) (by decide) rfl (by first | rfl | simp only [go_sem, seval, e_2, e_2008, e_4015, e_6099, e_6153, e_6155, e_6159])), rfl, rfl⟩
       ·
        simp only [e_2, e_2008, e_4013, e_4015, e_6099, e_6153, e_6155, go_sem, seval]; rcases iteS h with ⟨e_6165, h⟩ | ⟨e_6165, h⟩
        ·
         simp only [e_2, e_2008, e_4013, e_4015, e_6099, e_6153, e_6155, e_6165, go_sem, seval]; rcases iteS h with ⟨e_6167, h⟩ | ⟨e_6167, h⟩
         · obtain ⟨y_6168, h_6169, h⟩ := bindS h; simp only [e_2, e_2008, e_4013, e_4015, e_6099, e_6153, e_6155, e_6165, e_6167, go_sem, seval]; refine ACalls.goA (ih _ _ _ _ _ _ _ c_0 _ h_6169) [0, 1] (ho := ⟨(by first | rfl | simp only [go_sem, seval, e_2, e_2008, e_4015, e_6099, e_6153, e_6155, e_6165, e_6167]), (by first | rfl | simp only [go_sem, seval, e_2, e_2008, e_4015, e_6099, e_6153, e_6155, e_6165, e_6167]), trivial⟩) ?_; simp only [e_2, e_2008, e_4013, e_4015, e_6099, e_6153, e_6155, e_6165, e_6167, go_sem, seval]; obtain rfl := si h; rw [← hQ]; exact ⟨rfl, _, rfl, _, _, (RefV.std [0, 1] (by decide) (by decide) rfl (by first | rfl | simp only [go_sem, seval, e_2, e_2008, e_4015, e_6099, e_6153, e_6155, e_6165, e_6167])), rfl, rfl⟩
         · simp only [e_2, e_2008, e_4013, e_4015, e_6099, e_6153, e_6155, e_6165, e_6167, go_sem, seval]; obtain rfl := si h; rw [← hQ]; exact ⟨rfl, _, rfl, _, _, (RefV.std [0, 1] (by decide) (by decide) rfl (by first | rfl | simp only [go_sem, seval, e_2, e_2008, e_4015, e_6099, e_6153, e_6155, e_6165, e_6167])), rfl, rfl⟩
        · simp only [e_2, e_2008, e_4013, e_4015, e_6099, e_6153, e_6155, e_6165, go_sem, seval]; obtain rfl := si h; rw [← hQ]; exact ⟨rfl, _, rfl, _, _, (RefV.std [0, 1] (by decide) (by decide) rfl (by first | rfl | simp only [go_sem, seval, e_2, e_2008, e_4015, e_6099, e_6153, e_6155, e_6165])), rfl, rfl⟩
      ·
       simp only [e_2, e_2008, e_4013, e_4015, e_6099, e_6153, go_sem, seval]; rcases iteS h with ⟨e_6171, h⟩ | ⟨e_6171, h⟩
       ·
        simp only [e_2, e_2008, e_4013, e_4015, e_6099, e_6153, e_6171, go_sem, seval]; rcases iteS h with ⟨e_6173, h⟩ | ⟨e_6173, h⟩
        · obtain ⟨y_6174, h_6175, h⟩ := bindS h; simp only [e_2, e_2008, e_4013, e_4015, e_6099, e_6153, e_6171, e_6173, go_sem, seval]; refine ACalls.goA (ih _ _ _ _ _ _ _ c_0 _ h_6175) [0, 1] (ho := ⟨(by first | rfl | simp only [go_sem, seval, e_2, e_2008, e_4015, e_6099, e_6153, e_6171, e_6173]), (by first | rfl | simp only [go_sem, seval, e_2, e_2008, e_4015, e_6099, e_6153, e_6171, e_6173]), trivial⟩) ?_; simp only [e_2, e_2008, e_4013, e_4015, e_6099, e_6153, e_6171, e_6173, go_sem, seval]; obtain rfl := si h; rw [← hQ]; exact ⟨rfl, _, rfl, _, _, (RefV.std [0, 1] (by decide) (by decide) rfl (by first | rfl | simp only [go_sem, seval, e_2, e_2008, e_4015, e_6099, e_6153, e_6171, e_6173])), rfl, rfl⟩
        · simp only [e_2, e_2008, e_4013, e_4015, e_6099, e_6153, e_6171, e_6173, go_sem, seval]; obtain rfl := si h; rw [← hQ]; exact ⟨rfl, _, rfl, _, _, (RefV.std [0, 1] (by decide) (by decide) rfl (by first | rfl | simp only [go_sem, seval, e_2, e_2008, e_4015, e_6099, e_6153, e_6171, e_6173])), rfl, rfl⟩
       · simp only [e_2, e_2008, e_4013, e_4015, e_6099, e_6153, e_6171, go_sem, seval]; obtain rfl := si h; rw [← hQ]; exact ⟨rfl, _, rfl, _, _, (RefV.std [0, 1] (by decide) (by decide) rfl (by first | rfl | simp only [go_sem, seval, e_2, e_2008, e_4015, e_6099, e_6153, e_6171])), rfl, rfl⟩
theorem slices_stableCmpFunc_int_row_L3_w (N : Nat) (a_1 : Int) (a_2 : Int) (a_3 : Int) (i_1006 : Int) (l_4 : List Int) (c_0 : Bool) {R : AExit → ATm → List AObj → Prop} : ∀ (n : Nat) (i_1010 : Int) (i_1011 : Int) (s_1012 : List Int) (o : Int × (List Int)), slices_stableCmpFunc_int_row_L3 N a_1 a_2 a_3 i_1006 l_4 n i_1010 i_1011 s_1012 = some o → (match o with | (z_1, z_2) => R (.exit 4) ⟨63, [(0, .row 0 (a_1).toNat ((a_2).toNat - (a_1).toNat)), (1, .int .i64 a_3), (2, .fn (.func 18) [] [.ptr 1 0 0]), (6, .int .i64 i_1006), (7, .int .i64 z_1)], []⟩ [.mem 1 (List.map eI64 z_2) 3, .box [.vec c_0 (List.map eI64 l_4)] 22]) →
  ALp Try.prog 2 B23_3 ⟨63, [(0, .row 0 (a_1).toNat ((a_2).toNat - (a_1).toNat)), (1, .int .i64 a_3), (2, .fn (.func 18) [] [.ptr 1 0 0]), (6, .int .i64 i_1006), (7, .int .i64 i_1010), (8, .int .i64 i_1011)], []⟩ [.mem 1 (List.map eI64 s_1012) 3, .box [.vec c_0 (List.map eI64 l_4)] 22] R := by
 intro n
 induction n with
 | zero =>
  intro i_1010 i_1011 s_1012 o h _; exact no0 h
 | succ n ih =>
  intro i_1010 i_1011 s_1012 o h hp; rw [slices_stableCmpFunc_int_row_L3] at h; refine ALp.round ?_; generalize hQ : RoundQ _ _ _ _ = QQ; simp only [B23_3, B23_2, A23, go_sem, seval]; rcases iteS h with ⟨e_1014, h⟩ | ⟨e_1014, h⟩
  · obtain ⟨y_1015, h_1016, h⟩ := bindS h; simp only [e_1014, go_sem, seval]; refine ACalls.goA (slices_symMergeCmpFunc_int_row_w N N _ _ _ _ _ _ _ c_0 _ h_1016) [0, 1] (ho := ⟨(by first | rfl | simp only [go_sem, seval, e_1014]), (by first | rfl | simp only [go_sem, seval, e_1014]), trivial⟩) ?_; simp only [e_1014, go_sem, seval]; rw [← hQ]; exact ⟨_, _, (Ref.std [0, 1, 2, 6, 7, 8] [0, 1] (by decide) (by decide) (by first | rfl | simp only [go_sem, seval]) (by first | rfl | simp only [go_sem, seval])), (by simp), ih _ _ _ _ h hp⟩
  · simp only [e_1014, go_sem, seval]; cases h; rw [← hQ]; exact ⟨_, _, (Ref.std [0, 1, 2, 6, 7] [0, 1] (by decide) (by decide) (by first | rfl | simp only [go_sem, seval]) (by first | rfl | simp only [go_sem, seval])), hp⟩
theorem slices_stableCmpFunc_int_row_L4_w (N : Nat) (a_1 : Int) (a_2 : Int) (a_3 : Int) (l_4 : List Int) (c_0 : Bool) {R : AExit → ATm → List AObj → Prop} : ∀ (n : Nat) (i_1006 : Int) (s_1007 : List Int) (o : (List Int)), slices_stableCmpFunc_int_row_L4 N a_1 a_2 a_3 l_4 n i_1006 s_1007 = some o → (match o with | z_1 => R (.exit 2) ⟨63, [], []⟩ [.mem 1 (List.map eI64 z_1) 3, .box [.vec c_0 (List.map eI64 l_4)] 22]) →
  ALp Try.prog 2 B23_2 ⟨63, [(0, .row 0 (a_1).toNat ((a_2).toNat - (a_1).toNat)), (1, .int .i64 a_3), (2, .fn (.func 18) [] [.ptr 1 0 0]), (6, .int .i64 i_1006)], []⟩ [.mem 1 (List.map eI64 s_1007) 3, .box [.vec c_0 (List.map eI64 l_4)] 22] R := by
 intro n
 induction n with
 | zero =>
  intro i_1006 s_1007 o h _; exact no0 h
 | succ n ih =>
  intro i_1006 s_1007 o h hp; rw [slices_stableCmpFunc_int_row_L4] at h; refine ALp.round ?_; generalize hQ : RoundQ _ _ _ _ = QQ; simp only [B23_2, A23, go_sem, seval]; rcases iteS h with ⟨e_1009, h⟩ | ⟨e_1009, h⟩
  ·
   simp only [e_1009, go_sem, seval]; obtain ⟨⟨y_2011, y_2012⟩, h_2010, h⟩ := bindS h; (try dsimp only at h); refine ALp.ref (Ref.std [0, 1, 2, 6, 7, 8] [0, 1] (by decide) (by decide) (by first | rfl | simp only [go_sem, seval]) (by first | rfl | simp only [go_sem, seval])) (by simp) (slices_stableCmpFunc_int_row_L3_w N _ _ _ _ _ c_0 N _ _ _ _ h_2010 ?_); refine LoopK_go rfl (by simp) ?_; simp only [e_1009, go_sem, seval]; rcases iteS h with ⟨e_2014, h⟩ | ⟨e_2014, h⟩
   · obtain ⟨y_2015, h_2016, h⟩ := bindS h; simp only [e_1009, e_2014, go_sem, seval]; refine ACalls.goA (slices_symMergeCmpFunc_int_row_w N N _ _ _ _ _ _ _ c_0 _ h_2016) [0, 1] (ho := ⟨(by first | rfl | simp only [go_sem, seval, e_1009, e_2014]), (by first | rfl | simp only [go_sem, seval, e_1009, e_2014]), trivial⟩) ?_; simp only [e_1009, e_2014, go_sem, seval]; rw [← hQ]; exact ⟨_, _, (Ref.std [0, 1, 2, 6] [0, 1] (by decide) (by decide) (by first | rfl | simp only [go_sem, seval]) (by first | rfl | simp only [go_sem, seval])), (by simp), ih _ _ _ h hp⟩
   · simp only [e_1009, e_2014, go_sem, seval]; rw [← hQ]; exact ⟨_, _, (Ref.std [0, 1, 2, 6] [0, 1] (by decide) (by decide) (by first | rfl | simp only [go_sem, seval]) (by first | rfl | simp only [go_sem, seval])), (by simp), ih _ _ _ h hp⟩
  · simp only [e_1009, go_sem, seval]; cases h; rw [← hQ]; exact ⟨_, _, (Ref.std [] [0, 1] (by decide) (by decide) rfl (by first | rfl | simp only [go_sem, seval])), hp⟩
theorem slices_stableCmpFunc_int_row_w (N : Nat) (l_0 : List Int) (a_1 : Int) (a_2 : Int) (a_3 : Int) (l_4 : List Int) (c_0 : Bool) (z_1 : List Int) (h : slices_stableCmpFunc_int_row N l_0 a_1 a_2 a_3 l_4 = some z_1) :
  ACalls Try.prog 23 [.row 0 (a_1).toNat ((a_2).toNat - (a_1).toNat), .int .i64 a_3, .fn (.func 18) [] [.ptr 1 0 0]] [.mem 1 (List.map eI64 l_0) 3, .box [.vec c_0 (List.map eI64 l_4)] 22] (fun e H => H = [.mem 1 (List.map eI64 z_1) 3, .box [.vec c_0 (List.map eI64 l_4)] 22] ∧ e = .ret (.tup [])) := by
 unfold slices_stableCmpFunc_int_row at h; refine ACalls.goN Try.func23 n23 a23 Try.ntmps23 r23 (by simp) 2 rfl ?_; generalize hQ : bodyA _ _ _ = QQ; simp only [A23, go_sem, seval]; obtain ⟨⟨y_1002, y_1003⟩, h_1001, h⟩ := bindS h; (try dsimp only at h); refine ALp.ref (Ref.std [0, 1, 2, 6, 7, 8] [0, 1] (by decide) (by decide) (by first | rfl | simp only [go_sem, seval]) (by first | rfl | simp only [go_sem, seval])) (by simp) (slices_stableCmpFunc_int_row_L1_w N _ _ _ _ c_0 N _ _ _ _ h_1001 ?_); refine LoopK_go rfl (by simp) ?_; obtain ⟨y_1004, h_1005, h⟩ := bindS h; simp only [go_sem, seval]; refine ACalls.goA (slices_insertionSortCmpFunc_int_row_w N _ _ _ _ _ _ c_0 _ h_1005) [0, 1] ?_; simp only [go_sem, seval]; obtain ⟨y_2007, h_2006, h⟩ := bindS h; refine ALp.ref (Ref.std [0, 1, 2, 6] [0, 1] (by decide) (by decide) (by first | rfl | simp only [go_sem, seval]) (by first | rfl | simp only [go_sem, seval])) (by simp) (slices_stableCmpFunc_int_row_L4_w N _ _ _ _ c_0 N _ _ y_2007 h_2006 ?_); refine LoopK_go rfl (by simp) ?_; simp only [go_sem, seval]; obtain rfl := si h; rw [← hQ]; exact ⟨rfl, _, rfl, _, _, (RefV.std [0, 1] (by decide) (by decide) rfl (by first | rfl | simp only [go_sem, seval])), rfl, rfl⟩
theorem slices_SortStableFunc_intint_row_w (N : Nat) (l_0 : List Int) (a_1 : Int) (a_2 : Int) (l_3 : List Int) (c_0 : Bool) (z_1 : List Int) (h : slices_SortStableFunc_intint_row N l_0 a_1 a_2 l_3 = some z_1) :
  ACalls Try.prog 17 [.row 0 (a_1).toNat ((a_2).toNat - (a_1).toNat), .fn (.func 18) [] [.ptr 1 0 0]] [.mem 1 (List.map eI64 l_0) 3, .box [.vec c_0 (List.map eI64 l_3)] 22] (fun e H => H = [.mem 1 (List.map eI64 z_1) 3, .box [.vec c_0 (List.map eI64 l_3)] 22] ∧ e = .ret (.tup [])) := by
 unfold slices_SortStableFunc_intint_row at h; refine ACalls.goN Try.func17 n17 a17 Try.ntmps17 r17 (by simp) 2 rfl ?_; generalize hQ : bodyA _ _ _ = QQ; obtain ⟨y_1, h_2, h⟩ := bindS h; simp only [A17, go_sem, seval]; refine ACalls.goA (slices_stableCmpFunc_int_row_w N _ _ _ _ _ c_0 _ h_2) [0, 1] ?_; simp only [go_sem, seval]; obtain rfl := si h; rw [← hQ]; exact ⟨rfl, _, rfl, _, _, (RefV.std [0, 1] (by decide) (by decide) rfl (by first | rfl | simp only [go_sem, seval])), rfl, rfl⟩
theorem buffer_Blocks_row_L1_w (N : Nat) (l_0 : List Int) {R : AExit → ATm → List AObj → Prop} : ∀ (n : Nat) (i_6 : Int) (s_7 : List Bool) (o : (Unit) ⊕ (Unit)), buffer_Blocks_row_L1 N l_0 n i_6 s_7 = some o → (match o with | .inl _ => R (.exit 0) ⟨62, [(0, .row 0 0 l_0.length)], []⟩ [.mem 1 (List.map eI64 l_0) 3] | .inr (_) => R .ret ⟨62, [(2, nn)], []⟩ [.mem 1 (List.map eI64 l_0) 3]) →
  ALp Try.prog 1 B24_1 ⟨62, [(0, .row 0 0 l_0.length), (3, .row 1 0 s_7.length), (14, .row 0 0 l_0.length), (15, .int .i64 (l_0.length : Int)), (16, .int .i64 i_6)], []⟩ [.mem 1 (List.map eI64 l_0) 3, .mem 1 (List.map eB s_7) 4] R := by
 intro n
 induction n with
 | zero =>
  intro i_6 s_7 o h _; exact no0 h
 | succ n ih =>
  intro i_6 s_7 o h hp; rw [buffer_Blocks_row_L1] at h; refine ALp.round ?_; generalize hQ : RoundQ _ _ _ _ = QQ; simp only [B24_1, A24, go_sem, seval]; rcases iteS h with ⟨e_9, h⟩ | ⟨e_9, h⟩
  ·
   obtain ⟨x_10, h_11, h⟩ := bindS h; have e_12 : (List.map eI64 l_0)[(i_6).toNat]? = some [.int .i64 x_10] := atI_map eI64 h_11; have e_13 := eq_true (atI_some h_11).1; have e_14 := eq_true (atI_lt h_11); simp only [e_9, e_12, e_13, e_14, go_sem, seval]; rcases iteS h with ⟨e_16, h⟩ | ⟨e_16, h⟩
   · simp only [e_9, e_12, e_13, e_14, e_16, go_sem, seval]; cases h; rw [← hQ]; exact ⟨_, _, (Ref.std [2] [0] (by decide) (by decide) rfl (by first | rfl | simp only [go_sem, seval])), hp⟩
   ·
    simp only [e_9, e_12, e_13, e_14, e_16, go_sem, seval]; rcases iteS h with ⟨e_18, h⟩ | ⟨e_18, h⟩
    · simp only [e_9, e_12, e_13, e_14, e_16, e_18, go_sem, seval]; cases h; rw [← hQ]; exact ⟨_, _, (Ref.std [2] [0] (by decide) (by decide) rfl (by first | rfl | simp only [go_sem, seval])), hp⟩
    ·
     obtain ⟨x_19, h_20, h⟩ := bindS h; have e_21 : (List.map eB s_7)[(x_10).toNat]? = some [.bool x_19] := atI_map eB h_20; have e_22 := eq_true (atI_some h_20).1; have e_23 := eq_true (atI_lt h_20); simp only [e_9, e_12, e_13, e_14, e_16, e_18, e_21, e_22, e_23, go_sem, seval]; rcases iteB h with ⟨e_25, h⟩ | ⟨e_25, h⟩
     · simp only [e_9, e_12, e_13, e_14, e_16, e_18, e_21, e_22, e_23, e_25, go_sem, seval]; cases h; rw [← hQ]; exact ⟨_, _, (Ref.std [2] [0] (by decide) (by decide) rfl (by first | rfl | simp only [go_sem, seval])), hp⟩
     · have e_26 : (List.map eB s_7).set (x_10).toNat [.bool true] = List.map eB (List.set s_7 (x_10).toNat true) := set_map s_7 eB (x_10).toNat true; simp only [e_9, e_12, e_13, e_14, e_16, e_18, e_21, e_22, e_23, e_25, e_26, go_sem, seval]; rw [← hQ]; exact ⟨_, _, (Ref.std [0, 3, 14, 15, 16] [0, 1] (by decide) (by decide) (by first | rfl | simp only [go_sem, seval]) (by first | rfl | simp only [go_sem, seval])), (by simp), ih _ _ _ h hp⟩
  · simp only [e_9, go_sem, seval]; cases h; rw [← hQ]; exact ⟨_, _, (Ref.std [0] [0] (by decide) (by decide) rfl (by first | rfl | simp only [go_sem, seval])), hp⟩
theorem buffer_Blocks_row_L2_w (N : Nat) (l_0 : List Int) {R : AExit → ATm → List AObj → Prop} : ∀ (n : Nat) (i_1008 : Int) (i_1009 : Int) (i_1010 : Int) (s_1011 : List TArr2_I64) (o : (List TArr2_I64)), buffer_Blocks_row_L2 N l_0 n i_1008 i_1009 i_1010 s_1011 = some o → (match o with | z_1 => R (.exit 2) ⟨62, [(6, .row 1 0 z_1.length)], []⟩ [.mem 1 (List.map eI64 l_0) 3, .mem 2 (List.map eTArr2_I64 z_1) 54]) →
  ALp Try.prog 1 B24_2 ⟨62, [(6, .row 1 0 s_1011.length), (7, .int .i64 i_1008), (8, .int .i64 i_1009), (38, .row 0 0 l_0.length), (39, .int .i64 (l_0.length : Int)), (40, .int .i64 i_1010)], []⟩ [.mem 1 (List.map eI64 l_0) 3, .mem 2 (List.map eTArr2_I64 s_1011) 54] R := by
 intro n
 induction n with
 | zero =>
  intro i_1008 i_1009 i_1010 s_1011 o h _; exact no0 h
 | succ n ih =>
  intro i_1008 i_1009 i_1010 s_1011 o h hp; rw [buffer_Blocks_row_L2] at h; refine ALp.round ?_; generalize hQ : RoundQ _ _ _ _ = QQ; simp only [B24_2, A24, go_sem, seval]; rcases iteS h with ⟨e_1013, h⟩ | ⟨e_1013, h⟩
  ·
   obtain ⟨x_1014, h_1015, h⟩ := bindS h; have e_1016 : (List.map eI64 l_0)[(i_1010).toNat]? = some [.int .i64 x_1014] := atI_map eI64 h_1015; have e_1017 := eq_true (atI_some h_1015).1; have e_1018 := eq_true (atI_lt h_1015); simp only [e_1013, e_1016, e_1017, e_1018, go_sem, seval]; rcases iteS h with ⟨e_1020, h⟩ | ⟨e_1020, h⟩
   · have e_1021 := tk eTArr2_I64 s_1011; have e_1022 : (List.map eTArr2_I64 s_1011) ++ [[.int .i64 i_1008, .int .i64 (IntKind.i64.wrap (i_1010 + 1))]] = (List.map eTArr2_I64 (s_1011 ++ [TArr2_I64.mk i_1008 (IntKind.i64.wrap (i_1010 + 1))])) := app_map s_1011 ([TArr2_I64.mk i_1008 (IntKind.i64.wrap (i_1010 + 1))]) eTArr2_I64; obtain ⟨e_1024, h⟩ := guardE h; simp only [e_1013, e_1016, e_1017, e_1018, e_1020, e_1021, e_1022, e_1024, go_sem, seval]; rw [← hQ]; exact ⟨_, _, (Ref.std [6, 7, 8, 38, 39, 40] [0, 2] (by decide) (by decide) (by first | rfl | simp only [go_sem, seval]) (by first | rfl | simp only [go_sem, seval])), (by simp), ih _ _ _ _ _ h hp⟩
   · simp only [e_1013, e_1016, e_1017, e_1018, e_1020, go_sem, seval]; rw [← hQ]; exact ⟨_, _, (Ref.std [6, 7, 8, 38, 39, 40] [0, 1] (by decide) (by decide) rfl (by first | rfl | simp only [go_sem, seval])), (by simp), ih _ _ _ _ _ h hp⟩
  · simp only [e_1013, go_sem, seval]; cases h; rw [← hQ]; exact ⟨_, _, (Ref.std [6] [0, 1] (by decide) (by decide) rfl (by first | rfl | simp only [go_sem, seval])), hp⟩
theorem buffer_Blocks_row_w (N : Nat) (l_0 : List Int) (z_1 : List TArr2_I64) (h : buffer_Blocks_row N l_0 = some z_1) :
  ACalls Try.prog 24 [.row 0 0 l_0.length] [.mem 1 (List.map eI64 l_0) 3] (fun e H => H = [.mem 1 (List.map eI64 l_0) 3] ∧ e = .ret (.vec false (List.map eTArr2_I64 z_1))) := by
 unfold buffer_Blocks_row at h; refine ACalls.goN Try.func24 n24 a24 Try.ntmps24 r24 (by simp) 1 rfl ?_; generalize hQ : bodyA _ _ _ = QQ; obtain ⟨e_2, h⟩ := guardE h; obtain ⟨e_4, h⟩ := guardE h; have e_5 : List.replicate l_0.length [.bool false] = List.map eB (List.replicate l_0.length false) := rep_map _ eB false; simp only [A24, e_2, e_4, e_5, go_sem, seval, -List.reduceReplicate]; obtain ⟨o_1007, h_1006, h⟩ := bindS h; refine ALp.ref (Ref.std [0, 3, 14, 15, 16] [0, 1] (by decide) (by decide) (by simp only [go_sem, seval, -List.reduceReplicate]) (by simp only [go_sem, seval, -List.reduceReplicate])) (by simp) (buffer_Blocks_row_L1_w N _ N _ _ o_1007 h_1006 ?_); rcases o_1007 with _ | _
 · (try dsimp only at h); refine LoopK_go rfl (by simp) ?_; simp only [e_2, e_4, e_5, go_sem, seval, -List.reduceReplicate]; obtain ⟨y_2009, h_2008, h⟩ := bindS h; refine ALp.ref (Ref.trans (Ref.thaw (by simp) 6 rfl (sz := 2) (by decide) 54) (Ref.std [6, 7, 8, 38, 39, 40] [0, 1] (by decide) (by decide) rfl (by first | rfl | simp only [go_sem, seval, -List.reduceReplicate]))) (by simp) (buffer_Blocks_row_L2_w N _ N _ _ _ _ y_2009 h_2008 ?_); refine LoopK_go rfl (by simp) ?_; simp only [e_2, e_4, e_5, go_sem, seval, -List.reduceReplicate]; obtain rfl := si h; rw [← hQ]; exact ⟨rfl, _, rfl, _, _, (RefV.trans (RefV.frz (by simp) (id := 1) rfl (pures_map y_2009 eTArr2_I64 (fun _ => rfl))) (RefV.std [0] (by decide) (by decide) (by first | rfl | simp only [go_sem, seval, -List.reduceReplicate]) (by first | rfl | simp only [go_sem, seval, -List.reduceReplicate]))), rfl, rfl⟩
 · (try dsimp only at h); refine LoopK_ret ?_; obtain rfl := si h; rw [← hQ]; exact ⟨rfl, _, rfl, _, _, (RefV.trans (RefV.std (v' := nn) [0] (by decide) (by decide) rfl (by first | rfl | simp only [go_sem, seval, -List.reduceReplicate])) (RefV.weak (Wks.cons Wk.vec Wks.nil) (WkH.refl _))), rfl, rfl⟩
theorem buffer_Merge_row_L1_w (N : Nat) (a_1 : Int) (a_2 : Int) (l_0 : List TGlyph) (y_1 : List TGlyph) {R : AExit → ATm → List AObj → Prop} : ∀ (n : Nat) (i_20 : Int) (i_21 : Int) (o : Int), buffer_Merge_row_L1 N a_1 a_2 l_0 y_1 n i_20 i_21 = some o → (match o with | z_1 => R (.exit 0) ⟨101, [(0, .row 0 0 l_0.length), (1, .int .i64 a_1), (2, .int .i64 a_2), (7, .row 1 0 y_1.length), (8, .int .i64 z_1)], []⟩ [.mem 14 (List.map eTGlyph l_0) 33, .mem 14 (List.map eTGlyph y_1) 33]) →
  ALp Try.prog 1 B25_1 ⟨101, [(0, .row 0 0 l_0.length), (1, .int .i64 a_1), (2, .int .i64 a_2), (7, .row 1 0 y_1.length), (8, .int .i64 i_20), (38, .row 0 (a_1).toNat ((a_2).toNat - (a_1).toNat)), (39, .int .i64 ((((a_2).toNat - (a_1).toNat) : Nat) : Int)), (40, .int .i64 i_21)], []⟩ [.mem 14 (List.map eTGlyph l_0) 33, .mem 14 (List.map eTGlyph y_1) 33] R := by
 intro n
 induction n with
 | zero =>
  intro i_20 i_21 o h _; exact no0 h
 | succ n ih =>
  intro i_20 i_21 o h hp; rw [buffer_Merge_row_L1] at h; refine ALp.round ?_; generalize hQ : RoundQ _ _ _ _ = QQ; simp only [B25_1, A25, go_sem, seval]; rcases iteS h with ⟨e_23, h⟩ | ⟨e_23, h⟩
  · obtain ⟨x_24, h_25, h⟩ := bindS h; have e_26 : (List.map eTGlyph l_0)[(a_1).toNat + (i_21).toNat]? = some [.int .i64 x_24.Id, .int .i64 x_24.Cluster, .int .i64 x_24.Mask, .int .i64 x_24.Syl, .int .i32 x_24.Code, .int .i64 x_24.Cat, .int .i64 x_24.Pos, .int .i64 x_24.Key, .int .i64 x_24.Lig, .int .i64 x_24.Part, .int .i64 x_24.X, .int .i64 x_24.Y, .int .i64 x_24.Wide, .int .i64 x_24.High] := slI_at_map eTGlyph h_25; have e_27 := eq_true (atI_some h_25).1; have e_28 : ((i_21 : Int) < ((((a_2).toNat - (a_1).toNat) : Nat) : Int)) = True := eq_true (by have := slI_lt h_25; simpa using this); simp only [e_23, e_26, e_27, e_28, go_sem, seval]; rw [← hQ]; exact ⟨_, _, (Ref.std [0, 1, 2, 7, 8, 38, 39, 40] [0, 1] (by decide) (by decide) (by first | rfl | simp only [go_sem, seval]) (by first | rfl | simp only [go_sem, seval])), (by simp), ih _ _ _ h hp⟩
  · simp only [e_23, go_sem, seval]; cases h; rw [← hQ]; exact ⟨_, _, (Ref.std [0, 1, 2, 7, 8] [0, 1] (by decide) (by decide) rfl (by first | rfl | simp only [go_sem, seval])), hp⟩
theorem buffer_Merge_row_L2_w (N : Nat) (a_1 : Int) (a_2 : Int) (y_1021 : Int) (l_0 : List TGlyph) (y_1 : List TGlyph) {R : AExit → ATm → List AObj → Prop} : ∀ (n : Nat) (i_1022 : Int) (o : Int), buffer_Merge_row_L2 N a_1 a_2 y_1021 l_0 y_1 n i_1022 = some o → (match o with | z_1 => R (.exit 2) ⟨101, [(0, .row 0 0 l_0.length), (2, .int .i64 a_2), (7, .row 1 0 y_1.length), (8, .int .i64 y_1021), (11, .int .i64 z_1), (12, .int .i64 a_2)], []⟩ [.mem 14 (List.map eTGlyph l_0) 33, .mem 14 (List.map eTGlyph y_1) 33]) →
  ALp Try.prog 1 B25_2 ⟨101, [(0, .row 0 0 l_0.length), (1, .int .i64 a_1), (2, .int .i64 a_2), (7, .row 1 0 y_1.length), (8, .int .i64 y_1021), (11, .int .i64 i_1022), (12, .int .i64 a_2)], []⟩ [.mem 14 (List.map eTGlyph l_0) 33, .mem 14 (List.map eTGlyph y_1) 33] R := by
 intro n
 induction n with
 | zero =>
  intro i_1022 o h _; exact no0 h
 | succ n ih =>
  intro i_1022 o h hp; rw [buffer_Merge_row_L2] at h; refine ALp.round ?_; generalize hQ : RoundQ _ _ _ _ = QQ; simp only [B25_2, A25, go_sem, seval]; rcases iteS h with ⟨e_1024, h⟩ | ⟨e_1024, h⟩
  ·
   obtain ⟨x_1025, h_1026, h⟩ := bindS h; have e_1027 : (List.map eTGlyph l_0)[(IntKind.i64.wrap (i_1022 - 1)).toNat]? = some [.int .i64 x_1025.Id, .int .i64 x_1025.Cluster, .int .i64 x_1025.Mask, .int .i64 x_1025.Syl, .int .i32 x_1025.Code, .int .i64 x_1025.Cat, .int .i64 x_1025.Pos, .int .i64 x_1025.Key, .int .i64 x_1025.Lig, .int .i64 x_1025.Part, .int .i64 x_1025.X, .int .i64 x_1025.Y, .int .i64 x_1025.Wide, .int .i64 x_1025.High] := atI_map eTGlyph h_1026; have e_1028 := eq_true (atI_some h_1026).1; have e_1029 := eq_true (atI_lt h_1026); obtain ⟨x_1030, h_1031, h⟩ := bindS h; have e_1032 : (List.map eTGlyph l_0)[(a_1).toNat]? = some [.int .i64 x_1030.Id, .int .i64 x_1030.Cluster, .int .i64 x_1030.Mask, .int .i64 x_1030.Syl, .int .i32 x_1030.Code, .int .i64 x_1030.Cat, .int .i64 x_1030.Pos, .int .i64 x_1030.Key, .int .i64 x_1030.Lig, .int .i64 x_1030.Part, .int .i64 x_1030.X, .int .i64 x_1030.Y, .int .i64 x_1030.Wide, .int .i64 x_1030.High] := atI_map eTGlyph h_1031; have e_1033 := eq_true (atI_some h_1031).1; have e_1034 := eq_true (atI_lt h_1031); simp only [e_1024, e_1027, e_1028, e_1029, e_1032, e_1033, e_1034, go_sem, seval]; rcases iteS h with ⟨e_1036, h⟩ | ⟨e_1036, h⟩
   · simp only [e_1024, e_1027, e_1028, e_1029, e_1032, e_1033, e_1034, e_1036, go_sem, seval]; rw [← hQ]; exact ⟨_, _, (Ref.std [0, 1, 2, 7, 8, 11, 12] [0, 1] (by decide) (by decide) rfl (by first | rfl | simp only [go_sem, seval])), (by simp), ih _ _ h hp⟩
   · simp only [e_1024, e_1027, e_1028, e_1029, e_1032, e_1033, e_1034, e_1036, go_sem, seval]; cases h; rw [← hQ]; exact ⟨_, _, (Ref.std [0, 2, 7, 8, 11, 12] [0, 1] (by decide) (by decide) rfl (by first | rfl | simp only [go_sem, seval])), hp⟩
  · simp only [e_1024, go_sem, seval]; cases h; rw [← hQ]; exact ⟨_, _, (Ref.std [0, 2, 7, 8, 11, 12] [0, 1] (by decide) (by decide) rfl (by first | rfl | simp only [go_sem, seval])), hp⟩
theorem buffer_Merge_row_L3_w (N : Nat) (a_2 : Int) (y_1021 : Int) (y_2023 : Int) (l_0 : List TGlyph) (y_1 : List TGlyph) {R : AExit → ATm → List AObj → Prop} : ∀ (n : Nat) (i_2024 : Int) (o : Int), buffer_Merge_row_L3 N a_2 y_1021 y_2023 l_0 y_1 n i_2024 = some o → (match o with | z_1 => R (.exit 4) ⟨101, [(7, .row 1 0 y_1.length), (8, .int .i64 y_1021), (11, .int .i64 y_2023), (12, .int .i64 z_1)], []⟩ [.mem 14 (List.map eTGlyph l_0) 33, .mem 14 (List.map eTGlyph y_1) 33]) →
  ALp Try.prog 1 B25_3 ⟨101, [(0, .row 0 0 l_0.length), (2, .int .i64 a_2), (7, .row 1 0 y_1.length), (8, .int .i64 y_1021), (11, .int .i64 y_2023), (12, .int .i64 i_2024)], []⟩ [.mem 14 (List.map eTGlyph l_0) 33, .mem 14 (List.map eTGlyph y_1) 33] R := by
 intro n
 induction n with
 | zero =>
  intro i_2024 o h _; exact no0 h
 | succ n ih =>
  intro i_2024 o h hp; rw [buffer_Merge_row_L3] at h; refine ALp.round ?_; generalize hQ : RoundQ _ _ _ _ = QQ; simp only [B25_3, A25, go_sem, seval]; rcases iteS h with ⟨e_2026, h⟩ | ⟨e_2026, h⟩
  ·
   obtain ⟨x_2027, h_2028, h⟩ := bindS h; have e_2029 : (List.map eTGlyph l_0)[(i_2024).toNat]? = some [.int .i64 x_2027.Id, .int .i64 x_2027.Cluster, .int .i64 x_2027.Mask, .int .i64 x_2027.Syl, .int .i32 x_2027.Code, .int .i64 x_2027.Cat, .int .i64 x_2027.Pos, .int .i64 x_2027.Key, .int .i64 x_2027.Lig, .int .i64 x_2027.Part, .int .i64 x_2027.X, .int .i64 x_2027.Y, .int .i64 x_2027.Wide, .int .i64 x_2027.High] := atI_map eTGlyph h_2028; have e_2030 := eq_true (atI_some h_2028).1; have e_2031 := eq_true (atI_lt h_2028); obtain ⟨x_2032, h_2033, h⟩ := bindS h; have e_2034 : (List.map eTGlyph l_0)[(IntKind.i64.wrap (a_2 - 1)).toNat]? = some [.int .i64 x_2032.Id, .int .i64 x_2032.Cluster, .int .i64 x_2032.Mask, .int .i64 x_2032.Syl, .int .i32 x_2032.Code, .int .i64 x_2032.Cat, .int .i64 x_2032.Pos, .int .i64 x_2032.Key, .int .i64 x_2032.Lig, .int .i64 x_2032.Part, .int .i64 x_2032.X, .int .i64 x_2032.Y, .int .i64 x_2032.Wide, .int .i64 x_2032.High] := atI_map eTGlyph h_2033; have e_2035 := eq_true (atI_some h_2033).1; have e_2036 := eq_true (atI_lt h_2033); simp only [e_2026, e_2029, e_2030, e_2031, e_2034, e_2035, e_2036, go_sem, seval]; rcases iteS h with ⟨e_2038, h⟩ | ⟨e_2038, h⟩
   · simp only [e_2026, e_2029, e_2030, e_2031, e_2034, e_2035, e_2036, e_2038, go_sem, seval]; rw [← hQ]; exact ⟨_, _, (Ref.std [0, 2, 7, 8, 11, 12] [0, 1] (by decide) (by decide) rfl (by first | rfl | simp only [go_sem, seval])), (by simp), ih _ _ h hp⟩
   · simp only [e_2026, e_2029, e_2030, e_2031, e_2034, e_2035, e_2036, e_2038, go_sem, seval]; cases h; rw [← hQ]; exact ⟨_, _, (Ref.std [7, 8, 11, 12] [0, 1] (by decide) (by decide) rfl (by first | rfl | simp only [go_sem, seval])), hp⟩
  · simp only [e_2026, go_sem, seval]; cases h; rw [← hQ]; exact ⟨_, _, (Ref.std [7, 8, 11, 12] [0, 1] (by decide) (by decide) rfl (by first | rfl | simp only [go_sem, seval])), hp⟩
theorem buffer_Merge_row_L4_w (N : Nat) (y_1021 : Int) (y_3025 : Int) (l_0 : List TGlyph) {R : AExit → ATm → List AObj → Prop} : ∀ (n : Nat) (i_3026 : Int) (s_3027 : List TGlyph) (o : (List TGlyph)), buffer_Merge_row_L4 N y_1021 y_3025 l_0 n i_3026 s_3027 = some o → (match o with | z_1 => R (.exit 6) ⟨101, [(7, .row 1 0 z_1.length)], []⟩ [.mem 14 (List.map eTGlyph l_0) 33, .mem 14 (List.map eTGlyph z_1) 33]) →
  ALp Try.prog 1 B25_4 ⟨101, [(7, .row 1 0 s_3027.length), (8, .int .i64 y_1021), (12, .int .i64 y_3025), (13, .int .i64 i_3026)], []⟩ [.mem 14 (List.map eTGlyph l_0) 33, .mem 14 (List.map eTGlyph s_3027) 33] R := by
 intro n
 induction n with
 | zero =>
  intro i_3026 s_3027 o h _; exact no0 h
 | succ n ih =>
  intro i_3026 s_3027 o h hp; rw [buffer_Merge_row_L4] at h; refine ALp.round ?_; generalize hQ : RoundQ _ _ _ _ = QQ; simp only [B25_4, A25, go_sem, seval]; rcases iteS h with ⟨e_3029, h⟩ | ⟨e_3029, h⟩
  · obtain ⟨x_3030, h_3031, h⟩ := bindS h; have e_3032 : (List.map eTGlyph s_3027)[(i_3026).toNat]? = some [.int .i64 x_3030.Id, .int .i64 x_3030.Cluster, .int .i64 x_3030.Mask, .int .i64 x_3030.Syl, .int .i32 x_3030.Code, .int .i64 x_3030.Cat, .int .i64 x_3030.Pos, .int .i64 x_3030.Key, .int .i64 x_3030.Lig, .int .i64 x_3030.Part, .int .i64 x_3030.X, .int .i64 x_3030.Y, .int .i64 x_3030.Wide, .int .i64 x_3030.High] := atI_map eTGlyph h_3031; have e_3033 := eq_true (atI_some h_3031).1; have e_3034 := eq_true (atI_lt h_3031); have e_3035 : (List.map eTGlyph s_3027).set (i_3026).toNat [.int .i64 x_3030.Id, .int .i64 y_1021, .int .i64 x_3030.Mask, .int .i64 x_3030.Syl, .int .i32 x_3030.Code, .int .i64 x_3030.Cat, .int .i64 x_3030.Pos, .int .i64 x_3030.Key, .int .i64 x_3030.Lig, .int .i64 x_3030.Part, .int .i64 x_3030.X, .int .i64 x_3030.Y, .int .i64 x_3030.Wide, .int .i64 x_3030.High] = List.map eTGlyph (List.set s_3027 (i_3026).toNat (TGlyph.mk x_3030.Id y_1021 x_3030.Mask x_3030.Syl x_3030.Code x_3030.Cat x_3030.Pos x_3030.Key x_3030.Lig x_3030.Part x_3030.X x_3030.Y x_3030.Wide x_3030.High)) := set_map s_3027 eTGlyph (i_3026).toNat (TGlyph.mk x_3030.Id y_1021 x_3030.Mask x_3030.Syl x_3030.Code x_3030.Cat x_3030.Pos x_3030.Key x_3030.Lig x_3030.Part x_3030.X x_3030.Y x_3030.Wide x_3030.High); simp only [e_3029, e_3032, e_3033, e_3034, e_3035, go_sem, seval]; rw [← hQ]; exact ⟨_, _, (Ref.std [7, 8, 12, 13] [0, 1] (by decide) (by decide) (by first | rfl | simp only [go_sem, seval]) (by first | rfl | simp only [go_sem, seval])), (by simp), ih _ _ _ h hp⟩
  · simp only [e_3029, go_sem, seval]; cases h; rw [← hQ]; exact ⟨_, _, (Ref.std [7] [0, 1] (by decide) (by decide) rfl (by first | rfl | simp only [go_sem, seval])), hp⟩
theorem buffer_Merge_row_w (N : Nat) (l_0 : List TGlyph) (a_1 : Int) (a_2 : Int) (z_1 : List TGlyph) (h : buffer_Merge_row N l_0 a_1 a_2 = some z_1) :
  ACalls Try.prog 25 [.row 0 0 l_0.length, .int .i64 a_1, .int .i64 a_2] [.mem 14 (List.map eTGlyph l_0) 33] (fun e H => H = [.mem 14 (List.map eTGlyph l_0) 33, .mem 14 (List.map eTGlyph z_1) 33] ∧ e = .ret (.row 1 0 z_1.length)) := by
 unfold buffer_Merge_row at h; refine ACalls.goN Try.func25 n25 a25 Try.ntmps25 r25 (by simp) 1 rfl ?_; generalize hQ : bodyA _ _ _ = QQ; obtain ⟨y_1, h_2, h⟩ := bindS h; simp only [A25, go_sem, seval]; refine ACalls.goA (slices_Clone_apiGlyphapiGlyph_row_w N _ _ h_2) [0] ?_; simp only [go_sem, seval]; rcases iteS h with ⟨e_4, h⟩ | ⟨e_4, h⟩
 · simp only [e_4, go_sem, seval]; obtain rfl := si h; rw [← hQ]; exact ⟨rfl, _, rfl, _, _, (RefV.std [0, 1] (by decide) (by decide) rfl (by first | rfl | simp only [go_sem, seval, e_4])), rfl, rfl⟩
 ·
  simp only [e_4, go_sem, seval]; rcases iteS h with ⟨e_6, h⟩ | ⟨e_6, h⟩
  · simp only [e_4, e_6, go_sem, seval]; obtain rfl := si h; rw [← hQ]; exact ⟨rfl, _, rfl, _, _, (RefV.std [0, 1] (by decide) (by decide) rfl (by first | rfl | simp only [go_sem, seval, e_4, e_6])), rfl, rfl⟩
  ·
   simp only [e_4, e_6, go_sem, seval]; rcases iteS h with ⟨e_8, h⟩ | ⟨e_8, h⟩
   · simp only [e_4, e_6, e_8, go_sem, seval]; obtain rfl := si h; rw [← hQ]; exact ⟨rfl, _, rfl, _, _, (RefV.std [0, 1] (by decide) (by decide) rfl (by first | rfl | simp only [go_sem, seval, e_4, e_6, e_8])), rfl, rfl⟩
   · obtain ⟨x_9, h_10, h⟩ := bindS h; have e_11 : (List.map eTGlyph l_0)[(a_1).toNat]? = some [.int .i64 x_9.Id, .int .i64 x_9.Cluster, .int .i64 x_9.Mask, .int .i64 x_9.Syl, .int .i32 x_9.Code, .int .i64 x_9.Cat, .int .i64 x_9.Pos, .int .i64 x_9.Key, .int .i64 x_9.Lig, .int .i64 x_9.Part, .int .i64 x_9.X, .int .i64 x_9.Y, .int .i64 x_9.Wide, .int .i64 x_9.High] := atI_map eTGlyph h_10; have e_12 := eq_true (atI_some h_10).1; have e_13 := eq_true (atI_lt h_10); obtain ⟨e_15, h⟩ := guardE h; obtain ⟨e_17, h⟩ := guardE h; obtain ⟨e_19, h⟩ := guardE h; simp only [e_4, e_6, e_8, e_11, e_12, e_13, e_15, e_17, e_19, go_sem, seval]; obtain ⟨y_1021, h_1020, h⟩ := bindS h; refine ALp.ref (Ref.std [0, 1, 2, 7, 8, 38, 39, 40] [0, 1] (by decide) (by decide) (by first | rfl | simp only [go_sem, seval]) (by first | rfl | simp only [go_sem, seval])) (by simp) (buffer_Merge_row_L1_w N _ _ _ _ N _ _ y_1021 h_1020 ?_); refine LoopK_go rfl (by simp) ?_; simp only [e_4, e_6, e_8, e_11, e_12, e_13, e_15, e_17, e_19, go_sem, seval]; obtain ⟨y_2023, h_2022, h⟩ := bindS h; refine ALp.ref (Ref.std [0, 1, 2, 7, 8, 11, 12] [0, 1] (by decide) (by decide) rfl (by first | rfl | simp only [go_sem, seval])) (by simp) (buffer_Merge_row_L2_w N _ _ _ _ _ N _ y_2023 h_2022 ?_); refine LoopK_go rfl (by simp) ?_; simp only [e_4, e_6, e_8, e_11, e_12, e_13, e_15, e_17, e_19, go_sem, seval]; obtain ⟨y_3025, h_3024, h⟩ := bindS h; refine ALp.ref (Ref.std [0, 2, 7, 8, 11, 12] [0, 1] (by decide) (by decide) rfl (by first | rfl | simp only [go_sem, seval])) (by simp) (buffer_Merge_row_L3_w N _ _ _ _ _ N _ y_3025 h_3024 ?_); refine LoopK_go rfl (by simp) ?_; simp only [e_4, e_6, e_8, e_11, e_12, e_13, e_15, e_17, e_19, go_sem, seval]; obtain ⟨y_4027, h_4026, h⟩ := bindS h; refine ALp.ref (Ref.std [7, 8, 12, 13] [0, 1] (by decide) (by decide) rfl (by first | rfl | simp only [go_sem, seval])) (by simp) (buffer_Merge_row_L4_w N _ _ _ N _ _ y_4027 h_4026 ?_); refine LoopK_go rfl (by simp) ?_; simp only [e_4, e_6, e_8, e_11, e_12, e_13, e_15, e_17, e_19, go_sem, seval]; obtain rfl := si h; rw [← hQ]; exact ⟨rfl, _, rfl, _, _, (RefV.std [0, 1] (by decide) (by decide) rfl (by first | rfl | simp only [go_sem, seval, e_4, e_6, e_8])), rfl, rfl⟩
theorem buffer_Order_row_L1_w (N : Nat) (a_1 : Int) (y_1 : List TArr2_I64) (l_0 : List TGlyph) (l_2 : List Int) {R : AExit → ATm → List AObj → Prop} : ∀ (n : Nat) (i_13 : Int) (s_14 : List TGlyph) (o : (List TGlyph)), buffer_Order_row_L1 N a_1 y_1 l_0 l_2 n i_13 s_14 = some o → (match o with | z_1 => R (.exit 0) ⟨87, [(1, .int .i64 a_1), (2, .row 1 0 l_2.length), (8, .row 2 0 z_1.length)], []⟩ [.mem 14 (List.map eTGlyph l_0) 33, .mem 1 (List.map eI64 l_2) 3, .mem 14 (List.map eTGlyph z_1) 33]) →
  ALp Try.prog 2 B19_1 ⟨87, [(1, .int .i64 a_1), (2, .row 1 0 l_2.length), (8, .row 2 0 s_14.length), (42, .vec false (List.map eTArr2_I64 y_1)), (43, .int .i64 (y_1.length : Int)), (44, .int .i64 i_13)], []⟩ [.mem 14 (List.map eTGlyph l_0) 33, .mem 1 (List.map eI64 l_2) 3, .mem 14 (List.map eTGlyph s_14) 33] R := by
 intro n
 induction n with
 | zero =>
  intro i_13 s_14 o h _; exact no0 h
 | succ n ih =>
  intro i_13 s_14 o h hp; rw [buffer_Order_row_L1] at h; refine ALp.round ?_; generalize hQ : RoundQ _ _ _ _ = QQ; simp only [B19_1, A19, go_sem, seval]; rcases iteS h with ⟨e_16, h⟩ | ⟨e_16, h⟩
  ·
   obtain ⟨x_17, h_18, h⟩ := bindS h; have e_19 : (List.map eTArr2_I64 y_1)[(i_13).toNat]? = some [.int .i64 x_17.e0, .int .i64 x_17.e1] := atI_map eTArr2_I64 h_18; have e_20 := eq_true (atI_some h_18).1; have e_21 := eq_true (atI_lt h_18); simp only [e_16, e_19, e_20, e_21, go_sem, seval]; rcases iteS h with ⟨e_23, h⟩ | ⟨e_23, h⟩
   · obtain ⟨y_24, h_25, h⟩ := bindS h; simp only [e_16, e_19, e_20, e_21, e_23, go_sem, seval]; refine ACalls.goA (buffer_Merge_row_w N _ _ _ _ h_25) [2] (ho := ⟨(by first | rfl | simp only [go_sem, seval, e_16, e_23]), trivial⟩) ?_; simp only [e_16, e_19, e_20, e_21, e_23, go_sem, seval]; rw [← hQ]; exact ⟨_, _, (Ref.std [1, 2, 8, 42, 43, 44] [0, 1, 4] (by decide) (by decide) rfl (by first | rfl | simp only [go_sem, seval])), (by simp), ih _ _ _ h hp⟩
   · simp only [e_16, e_19, e_20, e_21, e_23, go_sem, seval]; rw [← hQ]; exact ⟨_, _, (Ref.std [1, 2, 8, 42, 43, 44] [0, 1, 2] (by decide) (by decide) rfl (by first | rfl | simp only [go_sem, seval])), (by simp), ih _ _ _ h hp⟩
  · simp only [e_16, go_sem, seval]; cases h; rw [← hQ]; exact ⟨_, _, (Ref.std [1, 2, 8] [0, 1, 2] (by decide) (by decide) rfl (by first | rfl | simp only [go_sem, seval])), hp⟩
theorem buffer_Order_row_L2_w (N : Nat) (a_1 : Int) (l_2 : List Int) (l_0 : List TGlyph) (y_1015 : List TGlyph) {R : AExit → ATm → List AObj → Prop} : ∀ (n : Nat) (i_1017 : Int) (s_1018 : List TGlyph) (o : (List TGlyph)), buffer_Order_row_L2 N a_1 l_2 l_0 y_1015 n i_1017 s_1018 = some o → (match o with | z_1 => R (.exit 2) ⟨87, [(8, .row 2 0 z_1.length)], []⟩ [.mem 14 (List.map eTGlyph l_0) 33, .mem 1 (List.map eI64 l_2) 3, .mem 14 (List.map eTGlyph z_1) 33]) →
  ALp Try.prog 2 B19_2 ⟨87, [(1, .int .i64 a_1), (8, .row 2 0 s_1018.length), (11, .row 3 0 y_1015.length), (67, .row 1 0 l_2.length), (68, .int .i64 (l_2.length : Int)), (69, .int .i64 i_1017)], []⟩ [.mem 14 (List.map eTGlyph l_0) 33, .mem 1 (List.map eI64 l_2) 3, .mem 14 (List.map eTGlyph s_1018) 33, .mem 14 (List.map eTGlyph y_1015) 33] R := by
 intro n
 induction n with
 | zero =>
  intro i_1017 s_1018 o h _; exact no0 h
 | succ n ih =>
  intro i_1017 s_1018 o h hp; rw [buffer_Order_row_L2] at h; refine ALp.round ?_; generalize hQ : RoundQ _ _ _ _ = QQ; simp only [B19_2, A19, go_sem, seval]; rcases iteS h with ⟨e_1020, h⟩ | ⟨e_1020, h⟩
  · obtain ⟨x_1021, h_1022, h⟩ := bindS h; have e_1023 : (List.map eI64 l_2)[(i_1017).toNat]? = some [.int .i64 x_1021] := atI_map eI64 h_1022; have e_1024 := eq_true (atI_some h_1022).1; have e_1025 := eq_true (atI_lt h_1022); obtain ⟨x_1026, h_1027, h⟩ := bindS h; have e_1028 : (List.map eTGlyph y_1015)[(IntKind.i64.wrap (a_1 + x_1021)).toNat]? = some [.int .i64 x_1026.Id, .int .i64 x_1026.Cluster, .int .i64 x_1026.Mask, .int .i64 x_1026.Syl, .int .i32 x_1026.Code, .int .i64 x_1026.Cat, .int .i64 x_1026.Pos, .int .i64 x_1026.Key, .int .i64 x_1026.Lig, .int .i64 x_1026.Part, .int .i64 x_1026.X, .int .i64 x_1026.Y, .int .i64 x_1026.Wide, .int .i64 x_1026.High] := atI_map eTGlyph h_1027; have e_1029 := eq_true (atI_some h_1027).1; have e_1030 := eq_true (atI_lt h_1027); obtain ⟨x_1031, h_1032, h⟩ := bindS h; have e_1033 : (List.map eTGlyph s_1018)[(IntKind.i64.wrap (a_1 + i_1017)).toNat]? = some [.int .i64 x_1031.Id, .int .i64 x_1031.Cluster, .int .i64 x_1031.Mask, .int .i64 x_1031.Syl, .int .i32 x_1031.Code, .int .i64 x_1031.Cat, .int .i64 x_1031.Pos, .int .i64 x_1031.Key, .int .i64 x_1031.Lig, .int .i64 x_1031.Part, .int .i64 x_1031.X, .int .i64 x_1031.Y, .int .i64 x_1031.Wide, .int .i64 x_1031.High] := atI_map eTGlyph h_1032; have e_1034 := eq_true (atI_some h_1032).1; have e_1035 := eq_true (atI_lt h_1032); have e_1036 : (List.map eTGlyph s_1018).set (IntKind.i64.wrap (a_1 + i_1017)).toNat [.int .i64 x_1026.Id, .int .i64 x_1026.Cluster, .int .i64 x_1026.Mask, .int .i64 x_1026.Syl, .int .i32 x_1026.Code, .int .i64 x_1026.Cat, .int .i64 x_1026.Pos, .int .i64 x_1026.Key, .int .i64 x_1026.Lig, .int .i64 x_1026.Part, .int .i64 x_1026.X, .int .i64 x_1026.Y, .int .i64 x_1026.Wide, .int .i64 x_1026.High] = List.map eTGlyph (List.set s_1018 (IntKind.i64.wrap (a_1 + i_1017)).toNat x_1026) := set_map s_1018 eTGlyph (IntKind.i64.wrap (a_1 + i_1017)).toNat x_1026; simp only [e_1020, e_1023, e_1024, e_1025, e_1028, e_1029, e_1030, e_1033, e_1034, e_1035, e_1036, go_sem, seval]; rw [← hQ]; exact ⟨_, _, (Ref.std [1, 8, 11, 67, 68, 69] [0, 1, 2, 3] (by decide) (by decide) (by first | rfl | simp only [go_sem, seval]) (by first | rfl | simp only [go_sem, seval])), (by simp), ih _ _ _ h hp⟩
  · simp only [e_1020, go_sem, seval]; cases h; rw [← hQ]; exact ⟨_, _, (Ref.std [8] [0, 1, 2] (by decide) (by decide) rfl (by first | rfl | simp only [go_sem, seval])), hp⟩
theorem buffer_Order_row_w (N : Nat) (l_0 : List TGlyph) (a_1 : Int) (l_2 : List Int) (z_1 : List TGlyph) (h : buffer_Order_row N l_0 a_1 l_2 = some z_1) :
  ACalls Try.prog 19 [.row 0 0 l_0.length, .int .i64 a_1, .row 1 0 l_2.length] [.mem 14 (List.map eTGlyph l_0) 33, .mem 1 (List.map eI64 l_2) 3] (fun e H => H = [.mem 14 (List.map eTGlyph l_0) 33, .mem 1 (List.map eI64 l_2) 3] ∧ e = .ret (.vec false (List.map eTGlyph z_1))) := by
 unfold buffer_Order_row at h; refine ACalls.goN Try.func19 n19 a19 Try.ntmps19 r19 (by simp) 2 rfl ?_; generalize hQ : bodyA _ _ _ = QQ; obtain ⟨y_1, h_2, h⟩ := bindS h; simp only [A19, go_sem, seval]; refine ACalls.goA (buffer_Blocks_row_w N _ _ h_2) [1] ?_; obtain ⟨y_3, h_4, h⟩ := bindS h; simp only [go_sem, seval]; refine ACalls.goA (slices_Clone_apiGlyphapiGlyph_row_w N _ _ h_4) [0] ?_; simp only [go_sem, seval]; rcases iteS h with ⟨e_6, h⟩ | ⟨e_6, h⟩
 · simp only [e_6, go_sem, seval]; obtain rfl := si h; rw [← hQ]; exact ⟨rfl, _, rfl, _, _, (RefV.trans (RefV.frz (by simp) (id := 2) rfl (pures_map y_3 eTGlyph (fun _ => rfl))) (RefV.std [0, 1] (by decide) (by decide) (by first | rfl | simp only [go_sem, seval, e_6]) (by first | rfl | simp only [go_sem, seval, e_6]))), rfl, rfl⟩
 ·
  simp only [e_6, go_sem, seval]; rcases iteS h with ⟨e_8, h⟩ | ⟨e_8, h⟩
  · simp only [e_6, e_8, go_sem, seval]; obtain rfl := si h; rw [← hQ]; exact ⟨rfl, _, rfl, _, _, (RefV.trans (RefV.frz (by simp) (id := 2) rfl (pures_map y_3 eTGlyph (fun _ => rfl))) (RefV.std [0, 1] (by decide) (by decide) (by first | rfl | simp only [go_sem, seval, e_6, e_8]) (by first | rfl | simp only [go_sem, seval, e_6, e_8]))), rfl, rfl⟩
  ·
   simp only [e_6, e_8, go_sem, seval]; rcases iteS h with ⟨e_10, h⟩ | ⟨e_10, h⟩
   · simp only [e_6, e_8, e_10, go_sem, seval]; obtain rfl := si h; rw [← hQ]; exact ⟨rfl, _, rfl, _, _, (RefV.trans (RefV.frz (by simp) (id := 2) rfl (pures_map y_3 eTGlyph (fun _ => rfl))) (RefV.std [0, 1] (by decide) (by decide) (by first | rfl | simp only [go_sem, seval, e_6, e_8, e_10]) (by first | rfl | simp only [go_sem, seval, e_6, e_8, e_10]))), rfl, rfl⟩
   ·
    simp only [e_6, e_8, e_10, go_sem, seval]; rcases iteS h with ⟨e_12, h⟩ | ⟨e_12, h⟩
    · simp only [e_6, e_8, e_10, e_12, go_sem, seval]; obtain rfl := si h; rw [← hQ]; exact ⟨rfl, _, rfl, _, _, (RefV.trans (RefV.frz (by simp) (id := 2) rfl (pures_map y_3 eTGlyph (fun _ => rfl))) (RefV.std [0, 1] (by decide) (by decide) (by first | rfl | simp only [go_sem, seval, e_6, e_8, e_10, e_12]) (by first | rfl | simp only [go_sem, seval, e_6, e_8, e_10, e_12]))), rfl, rfl⟩
    · simp only [e_6, e_8, e_10, e_12, go_sem, seval]; obtain ⟨y_1014, h_1013, h⟩ := bindS h; refine ALp.ref (Ref.std [1, 2, 8, 42, 43, 44] [0, 1, 2] (by decide) (by decide) rfl (by first | rfl | simp only [go_sem, seval])) (by simp) (buffer_Order_row_L1_w N _ _ _ _ N _ _ y_1014 h_1013 ?_); refine LoopK_go rfl (by simp) ?_; obtain ⟨y_1015, h_1016, h⟩ := bindS h; simp only [e_6, e_8, e_10, e_12, go_sem, seval]; refine ACalls.goA (slices_Clone_apiGlyphapiGlyph_row_w N _ _ h_1016) [2] ?_; simp only [e_6, e_8, e_10, e_12, go_sem, seval]; obtain ⟨y_2018, h_2017, h⟩ := bindS h; refine ALp.ref (Ref.std [1, 8, 11, 67, 68, 69] [0, 1, 2, 3] (by decide) (by decide) rfl (by first | rfl | simp only [go_sem, seval])) (by simp) (buffer_Order_row_L2_w N _ _ _ _ N _ _ y_2018 h_2017 ?_); refine LoopK_go rfl (by simp) ?_; simp only [e_6, e_8, e_10, e_12, go_sem, seval]; obtain rfl := si h; rw [← hQ]; exact ⟨rfl, _, rfl, _, _, (RefV.trans (RefV.frz (by simp) (id := 2) rfl (pures_map y_2018 eTGlyph (fun _ => rfl))) (RefV.std [0, 1] (by decide) (by decide) (by first | rfl | simp only [go_sem, seval, e_6, e_8, e_10, e_12]) (by first | rfl | simp only [go_sem, seval, e_6, e_8, e_10, e_12]))), rfl, rfl⟩
theorem buffer_Sort_row_w (N : Nat) (l_0 : List TGlyph) (a_1 : Int) (a_2 : Int) (l_3 : List Int) (c_0 : Bool) (z_1 : List TGlyph) (h : buffer_Sort_row N l_0 a_1 a_2 l_3 = some z_1) :
  ACalls Try.prog 9 [.row 0 0 l_0.length, .int .i64 a_1, .int .i64 a_2, .vec c_0 (List.map eI64 l_3)] [.mem 14 (List.map eTGlyph l_0) 33] (fun e H => H = [.mem 14 (List.map eTGlyph l_0) 33] ∧ e = .ret (.vec false (List.map eTGlyph z_1))) := by
 unfold buffer_Sort_row at h; refine ACalls.goN Try.func9 n9 a9 Try.ntmps9 r9 (by simp) 1 rfl ?_; generalize hQ : bodyA _ _ _ = QQ; simp only [A9, go_sem, seval]; rcases iteS h with ⟨e_2, h⟩ | ⟨e_2, h⟩
 · obtain ⟨y_3, h_4, h⟩ := bindS h; simp only [e_2, go_sem, seval]; refine ACalls.goA (slices_Clone_apiGlyphapiGlyph_row_w N _ _ h_4) [0] (ho := ⟨(by first | rfl | simp only [go_sem, seval, e_2]), trivial⟩) ?_; simp only [e_2, go_sem, seval]; obtain rfl := si h; rw [← hQ]; exact ⟨rfl, _, rfl, _, _, (RefV.trans (RefV.frz (by simp) (id := 2) rfl (pures_map y_3 eTGlyph (fun _ => rfl))) (RefV.std [0] (by decide) (by decide) (by first | rfl | simp only [go_sem, seval, e_2]) (by first | rfl | simp only [go_sem, seval, e_2]))), rfl, rfl⟩
 ·
  simp only [e_2, go_sem, seval]; rcases iteS h with ⟨e_6, h⟩ | ⟨e_6, h⟩
  · obtain ⟨y_7, h_8, h⟩ := bindS h; simp only [e_2, e_6, go_sem, seval]; refine ACalls.goA (slices_Clone_apiGlyphapiGlyph_row_w N _ _ h_8) [0] (ho := ⟨(by first | rfl | simp only [go_sem, seval, e_2, e_6]), trivial⟩) ?_; simp only [e_2, e_6, go_sem, seval]; obtain rfl := si h; rw [← hQ]; exact ⟨rfl, _, rfl, _, _, (RefV.trans (RefV.frz (by simp) (id := 2) rfl (pures_map y_7 eTGlyph (fun _ => rfl))) (RefV.std [0] (by decide) (by decide) (by first | rfl | simp only [go_sem, seval, e_2, e_6]) (by first | rfl | simp only [go_sem, seval, e_2, e_6]))), rfl, rfl⟩
  ·
   simp only [e_2, e_6, go_sem, seval]; rcases iteS h with ⟨e_10, h⟩ | ⟨e_10, h⟩
   · obtain ⟨y_11, h_12, h⟩ := bindS h; simp only [e_2, e_6, e_10, go_sem, seval]; refine ACalls.goA (slices_Clone_apiGlyphapiGlyph_row_w N _ _ h_12) [0] (ho := ⟨(by first | rfl | simp only [go_sem, seval, e_2, e_6, e_10]), trivial⟩) ?_; simp only [e_2, e_6, e_10, go_sem, seval]; obtain rfl := si h; rw [← hQ]; exact ⟨rfl, _, rfl, _, _, (RefV.trans (RefV.frz (by simp) (id := 2) rfl (pures_map y_11 eTGlyph (fun _ => rfl))) (RefV.std [0] (by decide) (by decide) (by first | rfl | simp only [go_sem, seval, e_2, e_6, e_10]) (by first | rfl | simp only [go_sem, seval, e_2, e_6, e_10]))), rfl, rfl⟩
   ·
    simp only [e_2, e_6, e_10, go_sem, seval]; rcases iteS h with ⟨e_14, h⟩ | ⟨e_14, h⟩
    · simp only [e_2, e_6, e_10, e_14, go_sem, seval]; obtain ⟨y_1016, h_1015, h⟩ := bindS h; refine ALp.ref (Ref.trans (Ref.thaw (by simp) 9 rfl (sz := 1) (by decide) 3) (Ref.std [0, 1, 7, 9, 35, 36] [0, 1, 2] (by decide) (by decide) rfl (by first | rfl | simp only [go_sem, seval]))) (by simp) (buffer_Sort_row_L1_w N _ _ _ c_0 N _ _ y_1016 h_1015 ?_); refine LoopK_go rfl (by simp) ?_; obtain ⟨y_1017, h_1018, h⟩ := bindS h; simp only [e_2, e_6, e_10, e_14, go_sem, seval]; refine ACalls.goA (slices_SortStableFunc_intint_row_w N _ _ _ _ c_0 _ h_1018) [2, 1] ?_; obtain ⟨h_1019, h⟩ := guardS h; obtain ⟨y_1020, h_1021, h⟩ := bindS h; simp only [e_2, e_6, e_10, e_14, go_sem, seval]; refine ACalls.use (buffer_Order_row_w N _ _ _ _ h_1021) [0, 2] (by decide) ⟨(by first | rfl | simp only [go_sem, seval, h_1019]), (by first | rfl | simp only [go_sem, seval, h_1019]), trivial⟩ (by first | rfl | simp only [go_sem, seval, h_1019]) (v' := .vec false (List.map eTGlyph y_1020)) (by first | rfl | simp only [go_sem, seval, h_1019]) (H' := [.mem 14 (List.map eTGlyph l_0) 33, .box [.vec c_0 (List.map eI64 l_3)] 22, .mem 1 (List.map eI64 y_1017) 3]) (by first | rfl | simp only [go_sem, seval, h_1019]) ?_; refine CallK_go (by simp) ?_; simp only [e_2, e_6, e_10, e_14, go_sem, seval]; obtain rfl := si h; rw [← hQ]; exact ⟨rfl, _, rfl, _, _, (RefV.std [0] (by decide) (by decide) (by first | rfl | simp only [go_sem, seval, h_1019]) (by first | rfl | simp only [go_sem, seval, e_2, e_6, e_10, e_14])), rfl, rfl⟩
    · obtain ⟨y_1022, h_1023, h⟩ := bindS h; simp only [e_2, e_6, e_10, e_14, go_sem, seval]; refine ACalls.goA (slices_Clone_apiGlyphapiGlyph_row_w N _ _ h_1023) [0] (ho := ⟨(by first | rfl | simp only [go_sem, seval, e_2, e_6, e_10, e_14]), trivial⟩) ?_; simp only [e_2, e_6, e_10, e_14, go_sem, seval]; obtain rfl := si h; rw [← hQ]; exact ⟨rfl, _, rfl, _, _, (RefV.trans (RefV.frz (by simp) (id := 2) rfl (pures_map y_1022 eTGlyph (fun _ => rfl))) (RefV.std [0] (by decide) (by decide) (by first | rfl | simp only [go_sem, seval, e_2, e_6, e_10, e_14]) (by first | rfl | simp only [go_sem, seval, e_2, e_6, e_10, e_14]))), rfl, rfl⟩
theorem law26_OrderSorts_L2_w (N : Nat) (y_16 : Int) (y_18 : Int) (y_1044 : List TGlyph) {R : AExit → ATm → List AObj → Prop} : ∀ (n : Nat) (q_1046 : Bool) (i_1047 : Int) (o : (Unit) ⊕ (Unit)), law26_OrderSorts_L2 N y_16 y_18 y_1044 n q_1046 i_1047 = some o → (match o with | .inl _ => R (.exit 2) ⟨188, [], []⟩ [] | .inr (_) => R .ret ⟨188, [(10, .bool false)], []⟩ []) →
  ALp Try.prog 0 B3_2 ⟨188, [(12, .int .i64 y_16), (13, .int .i64 y_18), (18, .vec false (List.map eTGlyph y_1044)), (19, .bool q_1046), (20, .int .i64 i_1047)], []⟩ [] R := by
 intro n
 induction n with
 | zero =>
  intro q_1046 i_1047 o h _; exact no0 h
 | succ n ih =>
  intro q_1046 i_1047 o h hp; rw [law26_OrderSorts_L2] at h; refine ALp.round ?_; generalize hQ : RoundQ _ _ _ _ = QQ; simp only [B3_2, A3, go_sem, seval]; rcases iteS h with ⟨e_1049, h⟩ | ⟨e_1049, h⟩
  ·
   simp only [e_1049, go_sem, seval]; rcases iteS h with ⟨e_1051, h⟩ | ⟨e_1051, h⟩
   ·
    obtain ⟨x_1052, h_1053, h⟩ := bindS h; have e_1054 : (List.map eTGlyph y_1044)[(i_1047).toNat]? = some [.int .i64 x_1052.Id, .int .i64 x_1052.Cluster, .int .i64 x_1052.Mask, .int .i64 x_1052.Syl, .int .i32 x_1052.Code, .int .i64 x_1052.Cat, .int .i64 x_1052.Pos, .int .i64 x_1052.Key, .int .i64 x_1052.Lig, .int .i64 x_1052.Part, .int .i64 x_1052.X, .int .i64 x_1052.Y, .int .i64 x_1052.Wide, .int .i64 x_1052.High] := atI_map eTGlyph h_1053; have e_1055 := eq_true (atI_some h_1053).1; have e_1056 := eq_true (atI_lt h_1053); simp only [e_1049, e_1051, e_1054, e_1055, e_1056, go_sem, seval]; rcases iteS h with ⟨e_1058, h⟩ | ⟨e_1058, h⟩
    ·
     simp only [e_1049, e_1051, e_1054, e_1055, e_1056, e_1058, go_sem, seval]; rcases iteS h with ⟨e_1060, h⟩ | ⟨e_1060, h⟩
     ·
      simp only [e_1049, e_1051, e_1054, e_1055, e_1056, e_1058, e_1060, go_sem, seval]; rcases iteS h with ⟨e_1062, h⟩ | ⟨e_1062, h⟩
      ·
       simp only [e_1049, e_1051, e_1054, e_1055, e_1056, e_1058, e_1060, e_1062, go_sem, seval]; rcases iteS h with ⟨e_1064, h⟩ | ⟨e_1064, h⟩
       · simp only [e_1049, e_1051, e_1054, e_1055, e_1056, e_1058, e_1060, e_1062, e_1064, go_sem, seval]; cases h; rw [← hQ]; exact ⟨_, _, (Ref.out [10] rfl), hp⟩
       ·
        simp only [e_1049, e_1051, e_1054, e_1055, e_1056, e_1058, e_1060, e_1062, e_1064, go_sem, seval]; rcases iteS h with ⟨e_1066, h⟩ | ⟨e_1066, h⟩
        · simp only [e_1049, e_1051, e_1054, e_1055, e_1056, e_1058, e_1060, e_1062, e_1064, e_1066, go_sem, seval]; rw [← hQ]; exact ⟨_, _, (Ref.out [12, 13, 18, 19, 20] rfl), (Nat.zero_le _), ih _ _ _ h hp⟩
        · simp only [e_1049, e_1051, e_1054, e_1055, e_1056, e_1058, e_1060, e_1062, e_1064, e_1066, go_sem, seval]; rw [← hQ]; exact ⟨_, _, (Ref.out [12, 13, 18, 19, 20] rfl), (Nat.zero_le _), ih _ _ _ h hp⟩
      ·
       simp only [e_1049, e_1051, e_1054, e_1055, e_1056, e_1058, e_1060, e_1062, go_sem, seval]; rcases iteS h with ⟨e_1068, h⟩ | ⟨e_1068, h⟩
       · simp only [e_1049, e_1051, e_1054, e_1055, e_1056, e_1058, e_1060, e_1062, e_1068, go_sem, seval]; rw [← hQ]; exact ⟨_, _, (Ref.out [12, 13, 18, 19, 20] rfl), (Nat.zero_le _), ih _ _ _ h hp⟩
       · simp only [e_1049, e_1051, e_1054, e_1055, e_1056, e_1058, e_1060, e_1062, e_1068, go_sem, seval]; rw [← hQ]; exact ⟨_, _, (Ref.out [12, 13, 18, 19, 20] rfl), (Nat.zero_le _), ih _ _ _ h hp⟩
     ·
      simp only [e_1049, e_1051, e_1054, e_1055, e_1056, e_1058, e_1060, go_sem, seval]; rcases iteS h with ⟨e_1070, h⟩ | ⟨e_1070, h⟩
      · simp only [e_1049, e_1051, e_1054, e_1055, e_1056, e_1058, e_1060, e_1070, go_sem, seval]; rw [← hQ]; exact ⟨_, _, (Ref.out [12, 13, 18, 19, 20] rfl), (Nat.zero_le _), ih _ _ _ h hp⟩
      · simp only [e_1049, e_1051, e_1054, e_1055, e_1056, e_1058, e_1060, e_1070, go_sem, seval]; rw [← hQ]; exact ⟨_, _, (Ref.out [12, 13, 18, 19, 20] rfl), (Nat.zero_le _), ih _ _ _ h hp⟩
    ·
     simp only [e_1049, e_1051, e_1054, e_1055, e_1056, e_1058, go_sem, seval]; rcases iteS h with ⟨e_1072, h⟩ | ⟨e_1072, h⟩
     ·
      simp only [e_1049, e_1051, e_1054, e_1055, e_1056, e_1058, e_1072, go_sem, seval]; rcases iteS h with ⟨e_1074, h⟩ | ⟨e_1074, h⟩
      ·
       simp only [e_1049, e_1051, e_1054, e_1055, e_1056, e_1058, e_1072, e_1074, go_sem, seval]; rcases iteS h with ⟨e_1076, h⟩ | ⟨e_1076, h⟩
       ·
        simp only [e_1049, e_1051, e_1054, e_1055, e_1056, e_1058, e_1072, e_1074, e_1076, go_sem, seval]; rcases iteB h with ⟨e_1078, h⟩ | ⟨e_1078, h⟩
        · simp only [e_1049, e_1051, e_1054, e_1055, e_1056, e_1058, e_1072, e_1074, e_1076, e_1078, go_sem, seval]; cases h; rw [← hQ]; exact ⟨_, _, (Ref.out [10] rfl), hp⟩
        ·
         simp only [e_1049, e_1051, e_1054, e_1055, e_1056, e_1058, e_1072, e_1074, e_1076, e_1078, go_sem, seval]; rcases iteS h with ⟨e_1080, h⟩ | ⟨e_1080, h⟩
         · simp only [e_1049, e_1051, e_1054, e_1055, e_1056, e_1058, e_1072, e_1074, e_1076, e_1078, e_1080, go_sem, seval]; cases h; rw [← hQ]; exact ⟨_, _, (Ref.out [10] rfl), hp⟩
         · simp only [e_1049, e_1051, e_1054, e_1055, e_1056, e_1058, e_1072, e_1074, e_1076, e_1078, e_1080, go_sem, seval]; rw [← hQ]; exact ⟨_, _, (Ref.out [12, 13, 18, 19, 20] (by first | rfl | simp only [go_sem, seval, e_1049, e_1051, e_1058, e_1072, e_1074, e_1076, e_1078, e_1080])), (Nat.zero_le _), ih _ _ _ h hp⟩
       ·
        simp only [e_1049, e_1051, e_1054, e_1055, e_1056, e_1058, e_1072, e_1074, e_1076, go_sem, seval]; rcases iteS h with ⟨e_1082, h⟩ | ⟨e_1082, h⟩
        ·
         simp only [e_1049, e_1051, e_1054, e_1055, e_1056, e_1058, e_1072, e_1074, e_1076, e_1082, go_sem, seval]; rcases iteB h with ⟨e_1084, h⟩ | ⟨e_1084, h⟩
         · simp only [e_1049, e_1051, e_1054, e_1055, e_1056, e_1058, e_1072, e_1074, e_1076, e_1082, e_1084, go_sem, seval]; rw [← hQ]; exact ⟨_, _, (Ref.out [12, 13, 18, 19, 20] (by first | rfl | simp only [go_sem, seval, e_1049, e_1051, e_1058, e_1072, e_1074, e_1076, e_1082, e_1084])), (Nat.zero_le _), ih _ _ _ h hp⟩
         · simp only [e_1049, e_1051, e_1054, e_1055, e_1056, e_1058, e_1072, e_1074, e_1076, e_1082, e_1084, go_sem, seval]; cases h; rw [← hQ]; exact ⟨_, _, (Ref.out [10] rfl), hp⟩
        · simp only [e_1049, e_1051, e_1054, e_1055, e_1056, e_1058, e_1072, e_1074, e_1076, e_1082, go_sem, seval]; rw [← hQ]; exact ⟨_, _, (Ref.out [12, 13, 18, 19, 20] (by first | rfl | simp only [go_sem, seval, e_1049, e_1051, e_1058, e_1072, e_1074, e_1076, e_1082])), (Nat.zero_le _), ih _ _ _ h hp⟩
      ·
       simp only [e_1049, e_1051, e_1054, e_1055, e_1056, e_1058, e_1072, e_1074, go_sem, seval]; rcases iteS h with ⟨e_1086, h⟩ | ⟨e_1086, h⟩
       ·
        simp only [e_1049, e_1051, e_1054, e_1055, e_1056, e_1058, e_1072, e_1074, e_1086, go_sem, seval]; rcases iteB h with ⟨e_1088, h⟩ | ⟨e_1088, h⟩
        · simp only [e_1049, e_1051, e_1054, e_1055, e_1056, e_1058, e_1072, e_1074, e_1086, e_1088, go_sem, seval]; rw [← hQ]; exact ⟨_, _, (Ref.out [12, 13, 18, 19, 20] (by first | rfl | simp only [go_sem, seval, e_1049, e_1051, e_1058, e_1072, e_1074, e_1086, e_1088])), (Nat.zero_le _), ih _ _ _ h hp⟩
        · simp only [e_1049, e_1051, e_1054, e_1055, e_1056, e_1058, e_1072, e_1074, e_1086, e_1088, go_sem, seval]; cases h; rw [← hQ]; exact ⟨_, _, (Ref.out [10] rfl), hp⟩
       · simp only [e_1049, e_1051, e_1054, e_1055, e_1056, e_1058, e_1072, e_1074, e_1086, go_sem, seval]; rw [← hQ]; exact ⟨_, _, (Ref.out [12, 13, 18, 19, 20] (by first | rfl | simp only [go_sem, seval, e_1049, e_1051, e_1058, e_1072, e_1074, e_1086])), (Nat.zero_le _), ih _ _ _ h hp⟩
     ·
      simp only [e_1049, e_1051, e_1054, e_1055, e_1056, e_1058, e_1072, go_sem, seval]; rcases iteS h with ⟨e_1090, h⟩ | ⟨e_1090, h⟩
      ·
       simp only [e_1049, e_1051, e_1054, e_1055, e_1056, e_1058, e_1072, e_1090, go_sem, seval]; rcases iteB h with ⟨e_1092, h⟩ | ⟨e_1092, h⟩
       · simp only [e_1049, e_1051, e_1054, e_1055, e_1056, e_1058, e_1072, e_1090, e_1092, go_sem, seval]; rw [← hQ]; exact ⟨_, _, (Ref.out [12, 13, 18, 19, 20] (by first | rfl | simp only [go_sem, seval, e_1049, e_1051, e_1058, e_1072, e_1090, e_1092])), (Nat.zero_le _), ih _ _ _ h hp⟩
       · simp only [e_1049, e_1051, e_1054, e_1055, e_1056, e_1058, e_1072, e_1090, e_1092, go_sem, seval]; cases h; rw [← hQ]; exact ⟨_, _, (Ref.out [10] rfl), hp⟩
      · simp only [e_1049, e_1051, e_1054, e_1055, e_1056, e_1058, e_1072, e_1090, go_sem, seval]; rw [← hQ]; exact ⟨_, _, (Ref.out [12, 13, 18, 19, 20] (by first | rfl | simp only [go_sem, seval, e_1049, e_1051, e_1058, e_1072, e_1090])), (Nat.zero_le _), ih _ _ _ h hp⟩
   · simp only [e_1049, e_1051, go_sem, seval]; cases h; rw [← hQ]; exact ⟨_, _, (Ref.out [] rfl), hp⟩
  · simp only [e_1049, go_sem, seval]; cases h; rw [← hQ]; exact ⟨_, _, (Ref.out [] rfl), hp⟩
theorem law26_OrderSorts_w (N : Nat) (w_0 : ByteArray) (l_1 : List Int) (l_2 : List Int) (b_3 : Bool) (l_4 : List Bool) (c_0 : Bool) (c_1 : Bool) (c_2 : Bool) (z_1 : Bool) (h : law26_OrderSorts N w_0 l_1 l_2 b_3 l_4 = some z_1) :
  ACalls Try.prog 3 [.str w_0, .vec c_0 (List.map eI64 l_1), .vec c_1 (List.map eI64 l_2), .bool b_3, .vec c_2 (List.map eB l_4)] [] (fun e H => H = [] ∧ e = .ret (.bool z_1)) := by
 unfold law26_OrderSorts at h; refine ACalls.goN Try.func3 n3 a3 Try.ntmps3 r3 (by simp) 0 rfl ?_; generalize hQ : bodyA _ _ _ = QQ; obtain ⟨y_1, h_2, h⟩ := bindS h; simp only [A3, go_sem, seval]; refine ACalls.go0 (law26_alive_w N _ h_2) ?_; simp only [go_sem, seval]; rcases iteB h with ⟨e_4, h⟩ | ⟨e_4, h⟩
 ·
  simp only [e_4, go_sem, seval]; rcases iteS h with ⟨e_6, h⟩ | ⟨e_6, h⟩
  · simp only [e_4, e_6, go_sem, seval]; obtain rfl := si h; rw [← hQ]; exact ⟨rfl, _, rfl, _, _, (RefV.out rfl), rfl, rfl⟩
  ·
   simp only [e_4, e_6, go_sem, seval]; rcases iteS h with ⟨e_8, h⟩ | ⟨e_8, h⟩
   · simp only [e_4, e_6, e_8, go_sem, seval]; obtain rfl := si h; rw [← hQ]; exact ⟨rfl, _, rfl, _, _, (RefV.out rfl), rfl, rfl⟩
   ·
    simp only [e_4, e_6, e_8, go_sem, seval]; rcases iteS h with ⟨e_10, h⟩ | ⟨e_10, h⟩
    · simp only [e_4, e_6, e_8, e_10, go_sem, seval]; obtain rfl := si h; rw [← hQ]; exact ⟨rfl, _, rfl, _, _, (RefV.out rfl), rfl, rfl⟩
    ·
     obtain ⟨⟨y_11, y_12, y_13, y_14⟩, h_15, h⟩ := bindS h; (try dsimp only at h); simp only [e_4, e_6, e_8, e_10, go_sem, seval]; refine ACalls.go0 (ref25_Of_w N _ _ _ _ _ h_15) ?_; obtain ⟨y_16, h_17, h⟩ := bindS h; simp only [e_4, e_6, e_8, e_10, go_sem, seval]; refine ACalls.go0 (order_Elsewhere_w N _ _ _ _ _ _ c_0 _ h_17) ?_; obtain ⟨y_18, h_19, h⟩ := bindS h; simp only [e_4, e_6, e_8, e_10, go_sem, seval]; refine ACalls.go0 (order_Base_w N _ _ _ _ _ _ _ c_0 c_2 _ h_19) ?_; obtain ⟨y_20, h_21, h⟩ := bindS h; simp only [e_4, e_6, e_8, e_10, go_sem, seval]; refine ACalls.go0 (order_Keys_w N _ _ _ _ _ _ _ _ c_0 c_1 _ h_21) ?_; simp only [e_4, e_6, e_8, e_10, go_sem, seval]; rcases iteS h with ⟨e_23, h⟩ | ⟨e_23, h⟩
     · simp only [e_4, e_6, e_8, e_10, e_23, go_sem, seval]; obtain rfl := si h; rw [← hQ]; exact ⟨rfl, _, rfl, _, _, (RefV.out rfl), rfl, rfl⟩
     ·
      simp only [e_4, e_6, e_8, e_10, e_23, go_sem, seval]; rcases iteS h with ⟨e_25, h⟩ | ⟨e_25, h⟩
      · simp only [e_4, e_6, e_8, e_10, e_23, e_25, go_sem, seval]; obtain rfl := si h; rw [← hQ]; exact ⟨rfl, _, rfl, _, _, (RefV.out rfl), rfl, rfl⟩
      ·
       simp only [e_4, e_6, e_8, e_10, e_23, e_25, go_sem, seval]; rcases iteS h with ⟨e_27, h⟩ | ⟨e_27, h⟩
       · simp only [e_4, e_6, e_8, e_10, e_23, e_25, e_27, go_sem, seval]; obtain rfl := si h; rw [← hQ]; exact ⟨rfl, _, rfl, _, _, (RefV.out rfl), rfl, rfl⟩
       ·
        simp only [e_4, e_6, e_8, e_10, e_23, e_25, e_27, go_sem, seval]; rcases iteS h with ⟨e_29, h⟩ | ⟨e_29, h⟩
        ·
         simp only [e_4, e_6, e_8, e_10, e_23, e_25, e_27, e_29, go_sem, seval]; rcases iteS h with ⟨e_31, h⟩ | ⟨e_31, h⟩
         ·
          simp only [e_4, e_6, e_8, e_10, e_23, e_25, e_27, e_29, e_31, go_sem, seval]; rcases iteS h with ⟨e_33, h⟩ | ⟨e_33, h⟩
          · simp only [e_4, e_6, e_8, e_10, e_23, e_25, e_27, e_29, e_31, e_33, go_sem, seval]; obtain rfl := si h; rw [← hQ]; exact ⟨rfl, _, rfl, _, _, (RefV.out rfl), rfl, rfl⟩
          ·
           obtain ⟨x_34, h_35, h⟩ := bindS h; have e_36 : (List.map eI64 y_20)[(y_18).toNat]? = some [.int .i64 x_34] := atI_map eI64 h_35; have e_37 := eq_true (atI_some h_35).1; have e_38 := eq_true (atI_lt h_35); simp only [e_4, e_6, e_8, e_10, e_23, e_25, e_27, e_29, e_31, e_33, e_36, e_37, e_38, go_sem, seval]; rcases iteS h with ⟨e_40, h⟩ | ⟨e_40, h⟩
           ·
            simp only [e_4, e_6, e_8, e_10, e_23, e_25, e_27, e_29, e_31, e_33, e_36, e_37, e_38, e_40, go_sem, seval]; obtain ⟨o_1043, h_1041, h⟩ := bindS h; refine ALp.ref (Ref.trans (Ref.thaw (Nat.zero_le _) 15 rfl (sz := 14) (by decide) 33) (Ref.std [1, 2, 12, 13, 14, 15, 16] [1] (by decide) low0 rfl (by first | rfl | simp only [go_sem, seval]))) (Nat.zero_le _) (law26_OrderSorts_L1_w N _ _ _ _ _ c_0 c_1 N _ _ o_1043 h_1041 ?_); rcases o_1043 with y_1042 | _
            ·
             (try dsimp only at h); refine LoopK_go rfl (Nat.zero_le _) ?_; obtain ⟨y_1044, h_1045, h⟩ := bindS h; simp only [e_4, e_6, e_8, e_10, e_23, e_25, e_27, e_29, e_31, e_33, e_36, e_37, e_38, e_40, go_sem, seval]; refine ACalls.goA (buffer_Sort_row_w N _ _ _ _ false _ h_1045) [0] ?_; simp only [e_4, e_6, e_8, e_10, e_23, e_25, e_27, e_29, e_31, e_33, e_36, e_37, e_38, e_40, go_sem, seval]; obtain ⟨o_2047, h_2046, h⟩ := bindS h; refine ALp.ref (Ref.out [12, 13, 18, 19, 20] rfl) (Nat.zero_le _) (law26_OrderSorts_L2_w N _ _ _ N _ _ o_2047 h_2046 ?_); rcases o_2047 with _ | _
             · (try dsimp only at h); refine LoopK_go rfl (Nat.zero_le _) ?_; simp only [e_4, e_6, e_8, e_10, e_23, e_25, e_27, e_29, e_31, e_33, e_36, e_37, e_38, e_40, go_sem, seval]; obtain rfl := si h; rw [← hQ]; exact ⟨rfl, _, rfl, _, _, (RefV.out rfl), rfl, rfl⟩
             · (try dsimp only at h); refine LoopK_ret ?_; obtain rfl := si h; rw [← hQ]; exact ⟨rfl, _, rfl, _, _, (RefV.out rfl), rfl, rfl⟩
            · (try dsimp only at h); refine LoopK_ret ?_; obtain rfl := si h; rw [← hQ]; exact ⟨rfl, _, rfl, _, _, (RefV.out rfl), rfl, rfl⟩
           · simp only [e_4, e_6, e_8, e_10, e_23, e_25, e_27, e_29, e_31, e_33, e_36, e_37, e_38, e_40, go_sem, seval]; obtain rfl := si h; rw [← hQ]; exact ⟨rfl, _, rfl, _, _, (RefV.out rfl), rfl, rfl⟩
         ·
          simp only [e_4, e_6, e_8, e_10, e_23, e_25, e_27, e_29, e_31, go_sem, seval]; obtain ⟨o_3050, h_3048, h⟩ := bindS h; refine ALp.ref (Ref.trans (Ref.thaw (Nat.zero_le _) 15 rfl (sz := 14) (by decide) 33) (Ref.std [1, 2, 12, 13, 14, 15, 16] [1] (by decide) low0 rfl (by first | rfl | simp only [go_sem, seval]))) (Nat.zero_le _) (law26_OrderSorts_L1_w N _ _ _ _ _ c_0 c_1 N _ _ o_3050 h_3048 ?_); rcases o_3050 with y_3049 | _
          ·
           (try dsimp only at h); refine LoopK_go rfl (Nat.zero_le _) ?_; obtain ⟨y_3051, h_3052, h⟩ := bindS h; simp only [e_4, e_6, e_8, e_10, e_23, e_25, e_27, e_29, e_31, go_sem, seval]; refine ACalls.goA (buffer_Sort_row_w N _ _ _ _ false _ h_3052) [0] ?_; simp only [e_4, e_6, e_8, e_10, e_23, e_25, e_27, e_29, e_31, go_sem, seval]; obtain ⟨o_4054, h_4053, h⟩ := bindS h; refine ALp.ref (Ref.out [12, 13, 18, 19, 20] rfl) (Nat.zero_le _) (law26_OrderSorts_L2_w N _ _ _ N _ _ o_4054 h_4053 ?_); rcases o_4054 with _ | _
           · (try dsimp only at h); refine LoopK_go rfl (Nat.zero_le _) ?_; simp only [e_4, e_6, e_8, e_10, e_23, e_25, e_27, e_29, e_31, go_sem, seval]; obtain rfl := si h; rw [← hQ]; exact ⟨rfl, _, rfl, _, _, (RefV.out rfl), rfl, rfl⟩
           · (try dsimp only at h); refine LoopK_ret ?_; obtain rfl := si h; rw [← hQ]; exact ⟨rfl, _, rfl, _, _, (RefV.out rfl), rfl, rfl⟩
          · (try dsimp only at h); refine LoopK_ret ?_; obtain rfl := si h; rw [← hQ]; exact ⟨rfl, _, rfl, _, _, (RefV.out rfl), rfl, rfl⟩
        · simp only [e_4, e_6, e_8, e_10, e_23, e_25, e_27, e_29, go_sem, seval]; obtain rfl := si h; rw [← hQ]; exact ⟨rfl, _, rfl, _, _, (RefV.out rfl), rfl, rfl⟩
 · simp only [e_4, go_sem, seval]; obtain rfl := si h; rw [← hQ]; exact ⟨rfl, _, rfl, _, _, (RefV.out rfl), rfl, rfl⟩
end Go.Proofs.Ytjalenbgpmdadaa.AI
