/- Part of a proof. -/
import Derived.Test.YtnbnajjoinahiaatriP
import Derived.Test.YtnbnajjoinahiaatriA
import Derived.Test.YtnbnajjoinahiaaSync
set_option linter.unusedVariables false
set_option linter.unusedSimpArgs false
set_option maxRecDepth 100000
set_option maxHeartbeats 1000000
namespace Go.Proofs.Ytnbnajjoinahiaa.AI
open Go.Proofs (Try.prog)
def eTRange (x : TRange) : List AV := [.int .i32 x.From, .int .i32 x.To, .int .i64 x.Val]
def eI64 (x : Int) : List AV := [.int .i64 x]
def eA128U8 (x : Vector Int 128) : List AV := (arrI .u8 x)
def eB (x : Bool) : List AV := [.bool x]
def eA128I64 (x : Vector Int 128) : List AV := (arrI .i64 x)
theorem subs_eTRange (S : Sub) (l : List TRange) : (List.map eTRange l).map (subs S) = List.map eTRange l := subs_map S l eTRange (fun _ => by first | rfl | simp only [eA128U8, eA128I64, go_sem])
theorem subs_eI64 (S : Sub) (l : List Int) : (List.map eI64 l).map (subs S) = List.map eI64 l := subs_map S l eI64 (fun _ => by first | rfl | simp only [eA128U8, eA128I64, go_sem])
theorem subs_eA128U8 (S : Sub) (l : List (Vector Int 128)) : (List.map eA128U8 l).map (subs S) = List.map eA128U8 l := subs_map S l eA128U8 (fun _ => by first | rfl | simp only [eA128U8, eA128I64, go_sem])
theorem subs_eB (S : Sub) (l : List Bool) : (List.map eB l).map (subs S) = List.map eB l := subs_map S l eB (fun _ => by first | rfl | simp only [eA128U8, eA128I64, go_sem])
theorem subs_eA128I64 (S : Sub) (l : List (Vector Int 128)) : (List.map eA128I64 l).map (subs S) = List.map eA128I64 l := subs_map S l eA128I64 (fun _ => by first | rfl | simp only [eA128U8, eA128I64, go_sem])
theorem mk_eTRange (v_From : Int) (v_To : Int) (v_Val : Int) : eTRange (TRange.mk v_From v_To v_Val) = [.int .i32 v_From, .int .i32 v_To, .int .i64 v_Val] := rfl
attribute [local go_sem] subs_eTRange subs_eI64 subs_eA128U8 subs_eB subs_eA128I64 mk_eTRange
def B35_1 : ACode := match A35 with | (.seq _ (.seq _ (.seq _ (.seq (.seq _ (.block _ (.loop b))) _)))) => b | _ => .skip
def B50_1 : ACode := match A50 with | (.seq _ (.seq _ (.seq (.seq _ (.block _ (.loop b))) _))) => b | _ => .skip
def B62_1 : ACode := match A62 with | (.seq _ (.seq _ (.seq _ (.seq (.seq _ (.block _ (.loop b))) _)))) => b | _ => .skip
def B62_2 : ACode := match B62_1 with | (.seq _ (.seq _ (.seq (.block _ (.seq _ (.seq _ (.seq (.seq _ (.block _ (.loop b))) _)))) _))) => b | _ => .skip
def B28_1 : ACode := match A28 with | (.seq _ (.seq _ (.seq (.seq _ (.block _ (.loop b))) _))) => b | _ => .skip
def B34_1 : ACode := match A34 with | (.seq _ (.seq _ (.seq _ (.seq _ (.seq _ (.seq (.seq _ (.block _ (.loop b))) _)))))) => b | _ => .skip
def B34_2 : ACode := match B34_1 with | (.seq _ (.seq (.block _ (.seq _ (.seq _ (.seq _ (.seq _ (.seq (.seq _ (.block _ (.loop b))) _)))))) _)) => b | _ => .skip
def B34_3 : ACode := match B34_1 with | (.seq _ (.seq (.block _ (.seq _ (.seq _ (.seq _ (.seq _ (.seq _ (.seq _ (.seq _ (.seq (.seq _ (.block _ (.loop b))) _))))))))) _)) => b | _ => .skip
def B34_4 : ACode := match A34 with | (.seq _ (.seq _ (.seq _ (.seq _ (.seq _ (.seq _ (.seq _ (.seq (.seq _ (.block _ (.loop b))) _)))))))) => b | _ => .skip
def B55_1 : ACode := match A55 with | (.seq _ (.seq _ (.seq (.seq _ (.block _ (.loop b))) _))) => b | _ => .skip
def B55_2 : ACode := match B55_1 with | (.seq _ (.seq (.block _ (.seq _ (.block _ (.loop b)))) _)) => b | _ => .skip
def B55_3 : ACode := match A55 with | (.seq _ (.seq _ (.seq _ (.seq _ (.seq _ (.seq (.seq _ (.block _ (.loop b))) _)))))) => b | _ => .skip
def B54_1 : ACode := match A54 with | (.seq _ (.seq (.seq _ (.block _ (.loop b))) _)) => b | _ => .skip
theorem span_Right_L1_w (N : Nat) (a_1 : Int) (l_0 : List TRange) (c_0 : Bool) {R : AExit → ATm → List AObj → Prop} : ∀ (n : Nat) (i_3 : Int) (i_4 : Int) (o : (Unit) ⊕ (Unit)), span_Right_L1 N a_1 l_0 n i_3 i_4 = some o → (match o with | .inl _ => R (.exit 0) ⟨47, [], []⟩ [] | .inr (_) => R .ret ⟨47, [(4, .bool false)], []⟩ []) →
  ALp Try.prog 0 B35_1 ⟨47, [(1, .int .i64 a_1), (5, .int .i32 i_3), (11, .vec c_0 (List.map eTRange l_0)), (12, .int .i64 (l_0.length : Int)), (13, .int .i64 i_4)], []⟩ [] R := by
 intro n
 induction n with
 | zero =>
  intro i_3 i_4 o h _; exact no0 h
 | succ n ih =>
  intro i_3 i_4 o h hp; rw [span_Right_L1] at h; refine ALp.round ?_; generalize hQ : RoundQ _ _ _ _ = QQ; simp only [B35_1, A35, go_sem, seval]; rcases iteS h with ⟨e_6, h⟩ | ⟨e_6, h⟩
  ·
   obtain ⟨x_7, h_8, h⟩ := bindS h; have e_9 : (List.map eTRange l_0)[(i_4).toNat]? = some [.int .i32 x_7.From, .int .i32 x_7.To, .int .i64 x_7.Val] := atI_map eTRange h_8; have e_10 := eq_true (atI_some h_8).1; have e_11 := eq_true (atI_lt h_8); simp only [e_6, e_9, e_10, e_11, go_sem, seval]; rcases iteS h with ⟨e_13, h⟩ | ⟨e_13, h⟩
   · simp only [e_6, e_9, e_10, e_11, e_13, go_sem, seval]; cases h; rw [← hQ]; exact ⟨_, _, (Ref.out [4] rfl), hp⟩
   ·
    simp only [e_6, e_9, e_10, e_11, e_13, go_sem, seval]; rcases iteS h with ⟨e_15, h⟩ | ⟨e_15, h⟩
    · simp only [e_6, e_9, e_10, e_11, e_13, e_15, go_sem, seval]; cases h; rw [← hQ]; exact ⟨_, _, (Ref.out [4] rfl), hp⟩
    ·
     simp only [e_6, e_9, e_10, e_11, e_13, e_15, go_sem, seval]; rcases iteS h with ⟨e_17, h⟩ | ⟨e_17, h⟩
     · simp only [e_6, e_9, e_10, e_11, e_13, e_15, e_17, go_sem, seval]; cases h; rw [← hQ]; exact ⟨_, _, (Ref.out [4] rfl), hp⟩
     ·
      simp only [e_6, e_9, e_10, e_11, e_13, e_15, e_17, go_sem, seval]; rcases iteS h with ⟨e_19, h⟩ | ⟨e_19, h⟩
      · simp only [e_6, e_9, e_10, e_11, e_13, e_15, e_17, e_19, go_sem, seval]; cases h; rw [← hQ]; exact ⟨_, _, (Ref.out [4] rfl), hp⟩
      ·
       simp only [e_6, e_9, e_10, e_11, e_13, e_15, e_17, e_19, go_sem, seval]; rcases iteS h with ⟨e_21, h⟩ | ⟨e_21, h⟩
       · simp only [e_6, e_9, e_10, e_11, e_13, e_15, e_17, e_19, e_21, go_sem, seval]; cases h; rw [← hQ]; exact ⟨_, _, (Ref.out [4] rfl), hp⟩
       · simp only [e_6, e_9, e_10, e_11, e_13, e_15, e_17, e_19, e_21, go_sem, seval]; rw [← hQ]; exact ⟨_, _, (Ref.out [1, 5, 11, 12, 13] rfl), (Nat.zero_le _), ih _ _ _ h hp⟩
  · simp only [e_6, go_sem, seval]; cases h; rw [← hQ]; exact ⟨_, _, (Ref.out [] rfl), hp⟩
theorem span_Right_w (N : Nat) (l_0 : List TRange) (a_1 : Int) (c_0 : Bool) (z_1 : Bool) (h : span_Right N l_0 a_1 = some z_1) :
  ACalls Try.prog 35 [.vec c_0 (List.map eTRange l_0), .int .i64 a_1] [] (fun e H => H = [] ∧ e = .ret (.bool z_1)) := by
 unfold span_Right at h; refine ACalls.goN Try.func35 n35 a35 Try.ntmps35 r35 (by simp) 0 rfl ?_; generalize hQ : bodyA _ _ _ = QQ; simp only [A35, go_sem, seval]; rcases iteS h with ⟨e_2, h⟩ | ⟨e_2, h⟩
 · simp only [e_2, go_sem, seval]; obtain rfl := si h; rw [← hQ]; exact ⟨rfl, _, rfl, _, _, (RefV.out rfl), rfl, rfl⟩
 ·
  simp only [e_2, go_sem, seval]; obtain ⟨o_1004, h_1003, h⟩ := bindS h; refine ALp.ref (Ref.out [1, 5, 11, 12, 13] rfl) (Nat.zero_le _) (span_Right_L1_w N _ _ c_0 N _ _ o_1004 h_1003 ?_); rcases o_1004 with _ | _
  · (try dsimp only at h); refine LoopK_go rfl (Nat.zero_le _) ?_; simp only [e_2, go_sem, seval]; obtain rfl := si h; rw [← hQ]; exact ⟨rfl, _, rfl, _, _, (RefV.out rfl), rfl, rfl⟩
  · (try dsimp only at h); refine LoopK_ret ?_; obtain rfl := si h; rw [← hQ]; exact ⟨rfl, _, rfl, _, _, (RefV.out rfl), rfl, rfl⟩
theorem slices_Clone_apiRangeapiRange_w (N : Nat) (l_0 : List TRange) (c_0 : Bool) (z_1 : List TRange) (h : slices_Clone_apiRangeapiRange N l_0 = some z_1) :
  ACalls Try.prog 47 [.vec c_0 (List.map eTRange l_0)] [] (fun e H => H = [] ∧ e = .ret (.vec false (List.map eTRange z_1))) := by
 unfold slices_Clone_apiRangeapiRange at h; refine ACalls.goN Try.func47 n47 a47 Try.ntmps47 r47 (by simp) 0 rfl ?_; generalize hQ : bodyA _ _ _ = QQ; simp only [A47, go_sem, seval]; by_cases h_1 : l_0 = []
 ·
  rw [if_pos h_1] at h; have e_2 : l_0 = [] := h_1; simp only [e_2, go_sem, seval]; refine ⟨?_, ?_⟩
  · (try simp only [e_2, go_sem, seval]); obtain rfl := si h; rw [← hQ]; exact ⟨rfl, _, rfl, _, _, (RefV.trans (RefV.out (v' := nn) rfl) (RefV.weak (Wks.cons Wk.vec Wks.nil) (WkH.refl _))), rfl, rfl⟩
  · (try simp only [e_2, go_sem, seval]); obtain rfl := si h; rw [← hQ]; exact ⟨rfl, _, rfl, _, _, (RefV.trans (RefV.frz (Nat.zero_le _) (id := 0) rfl (pures_map ([]) eTRange (fun _ => by first | rfl | simp only [eA128U8, eA128I64, go_sem]))) (RefV.out (by first | rfl | simp only [go_sem, seval, e_2]))), rfl, rfl⟩
 · rw [if_neg h_1] at h; have e_2 : (l_0.length = 0) = False ∧ (0 < l_0.length) = True := ⟨eq_false (fun q => h_1 (List.eq_nil_of_length_eq_zero q)), eq_true (Nat.pos_of_ne_zero (fun q => h_1 (List.eq_nil_of_length_eq_zero q)))⟩; have e_3 : ((List.map eTRange l_0)).all (fun el => el.length == 3) = true := all_len _ eTRange 3 (fun _ => by first | rfl | simp only [eA128U8, eA128I64, go_sem]); obtain ⟨e_5, h⟩ := guardE h; simp only [e_2, e_3, e_5, go_sem, seval]; obtain rfl := si h; rw [← hQ]; exact ⟨rfl, _, rfl, _, _, (RefV.trans (RefV.frz (Nat.zero_le _) (id := 0) rfl (pures_map l_0 eTRange (fun _ => by first | rfl | simp only [eA128U8, eA128I64, go_sem]))) (RefV.out (by first | rfl | simp only [go_sem, seval, e_2]))), rfl, rfl⟩
theorem trie_New_w (N : Nat) (l_0 : List TRange) (c_0 : Bool) (o : ((List TRange)) ⊕ Unit) (h : trie_New N l_0 = some o) :
  ACalls Try.prog 27 [.vec c_0 (List.map eTRange l_0)] [] (fun e H => match o with | .inl z_1 => H = [.box [.vec false (List.map eTRange z_1), .int .u32 0, .int .i32 0, .int .u32 0, .int .u32 0, .int .i64 0, .row 1 0 0, .row 2 0 0] 81, .mem 1 [] 3, .mem 128 [] 85] ∧ e = .ret (.ptr 0 0 0) | .inr _ => H = [] ∧ e = .ret (.nilp)) := by
 unfold trie_New at h; refine ACalls.goN Try.func27 n27 a27 Try.ntmps27 r27 (by simp) 0 rfl ?_; generalize hQ : bodyA _ _ _ = QQ; obtain ⟨y_1, h_2, h⟩ := bindS h; simp only [A27, go_sem, seval]; refine ACalls.go0 (span_Right_w N _ _ c_0 _ h_2) ?_; simp only [go_sem, seval]; rcases iteB h with ⟨e_4, h⟩ | ⟨e_4, h⟩
 · obtain ⟨y_5, h_6, h⟩ := bindS h; simp only [e_4, go_sem, seval]; refine ACalls.go0 (slices_Clone_apiRangeapiRange_w N _ c_0 _ h_6) ?_; simp only [e_4, go_sem, seval]; cases h; rw [← hQ]; exact ⟨rfl, _, rfl, _, _, (RefV.trans (RefV.thawB (Nat.zero_le _) (id := 0) 6 rfl rfl (sz := 1) (by decide) 3) (RefV.trans (RefV.thawB (Nat.zero_le _) (id := 0) 7 rfl rfl (sz := 128) (by decide) 85) (RefV.std [0, 1, 2] (by decide) low0 rfl (by first | rfl | simp only [go_sem, seval, e_4])))), rfl, rfl⟩
 · simp only [e_4, go_sem, seval]; cases h; rw [← hQ]; exact ⟨rfl, _, rfl, _, _, (RefV.out rfl), rfl, rfl⟩
theorem span_Valid_w (N : Nat) (a_0 : Int) (z_1 : Bool) (h : span_Valid N a_0 = some z_1) :
  ACalls Try.prog 38 [.int .i32 a_0] [] (fun e H => H = [] ∧ e = .ret (.bool z_1)) := by
 unfold span_Valid at h; refine ACalls.goN Try.func38 n38 a38 Try.ntmps38 r38 (by simp) 0 rfl ?_; generalize hQ : bodyA _ _ _ = QQ; simp only [A38, go_sem, seval]; rcases iteS h with ⟨e_2, h⟩ | ⟨e_2, h⟩
 ·
  simp only [e_2, go_sem, seval]; rcases iteS h with ⟨e_4, h⟩ | ⟨e_4, h⟩
  ·
   simp only [e_2, e_4, go_sem, seval]; rcases iteS h with ⟨e_6, h⟩ | ⟨e_6, h⟩
   · simp only [e_2, e_4, e_6, go_sem, seval]; obtain rfl := si h; rw [← hQ]; exact ⟨rfl, _, rfl, _, _, (RefV.out rfl), rfl, rfl⟩
   · simp only [e_2, e_4, e_6, go_sem, seval]; obtain rfl := si h; rw [← hQ]; exact ⟨rfl, _, rfl, _, _, (RefV.out (by first | rfl | simp only [go_sem, seval, e_2, e_4, e_6])), rfl, rfl⟩
  · simp only [e_2, e_4, go_sem, seval]; obtain rfl := si h; rw [← hQ]; exact ⟨rfl, _, rfl, _, _, (RefV.out rfl), rfl, rfl⟩
 · simp only [e_2, go_sem, seval]; obtain rfl := si h; rw [← hQ]; exact ⟨rfl, _, rfl, _, _, (RefV.out rfl), rfl, rfl⟩
theorem trie_lay_L2_w (N : Nat) (i_1 : Int) (a_1 : Int) (l_2 : List TRange) (i_2 : Int) (x_6 : TRange) (c_0 : Bool) {R : AExit → ATm → List AObj → Prop} : ∀ (n : Nat) (i_13 : Int) (v_14 : Vector Int 128) (o : (Vector Int 128)), trie_lay_L2 N i_1 a_1 l_2 i_2 x_6 n i_13 v_14 = some o → (match o with | z_1 => R (.exit 2) ⟨60, [(0, .ptr 0 0 0), (7, .int .i64 i_1), (8, .int .i32 (IntKind.i32.wrap (IntKind.i64.wrap (a_1 * 128)))), (10, .ptr 1 0 0), (15, .vec c_0 (List.map eTRange l_2)), (16, .int .i64 (l_2.length : Int)), (17, .int .i64 i_2)], []⟩ [.box (arrI .u8 z_1) 85, .box [.int .i32 x_6.From, .int .i32 x_6.To, .int .i64 x_6.Val] 48]) →
  ALp Try.prog 1 B62_2 ⟨60, [(0, .ptr 0 0 0), (7, .int .i64 i_1), (8, .int .i32 (IntKind.i32.wrap (IntKind.i64.wrap (a_1 * 128)))), (10, .ptr 1 0 0), (11, .int .i32 i_13), (15, .vec c_0 (List.map eTRange l_2)), (16, .int .i64 (l_2.length : Int)), (17, .int .i64 i_2)], []⟩ [.box (arrI .u8 v_14) 85, .box [.int .i32 x_6.From, .int .i32 x_6.To, .int .i64 x_6.Val] 48] R := by
 intro n
 induction n with
 | zero =>
  intro i_13 v_14 o h _; exact no0 h
 | succ n ih =>
  intro i_13 v_14 o h hp; rw [trie_lay_L2] at h; refine ALp.round ?_; generalize hQ : RoundQ _ _ _ _ = QQ; simp only [B62_2, B62_1, A62, go_sem, seval]; rcases iteS h with ⟨e_16, h⟩ | ⟨e_16, h⟩
  ·
   obtain ⟨y_17, h_18, h⟩ := bindS h; simp only [e_16, go_sem, seval]; refine ACalls.go0 (span_Valid_w N _ _ h_18) ?_; simp only [e_16, go_sem, seval]; rcases iteB h with ⟨e_20, h⟩ | ⟨e_20, h⟩
   · obtain ⟨x_21, h_22, h⟩ := bindS h; have e_23 : List.take 1 (List.drop (IntKind.i32.wrap (i_13 - (IntKind.i32.wrap (IntKind.i64.wrap (a_1 * 128))))).toNat (arrI .u8 v_14)) = [.int .u8 x_21] := arr_one h_22; have e_24 : ((0 : Int) ≤ IntKind.i32.wrap (i_13 - (IntKind.i32.wrap (IntKind.i64.wrap (a_1 * 128))))) = True := arr_ge h_22; have e_25 : ((IntKind.i32.wrap (i_13 - (IntKind.i32.wrap (IntKind.i64.wrap (a_1 * 128)))) : Int) < 128) = True := arr_lt h_22; have e_26 : ((IntKind.i32.wrap (i_13 - (IntKind.i32.wrap (IntKind.i64.wrap (a_1 * 128))))).toNat + 1 ≤ 128) = True := arr_le h_22; simp only [e_16, e_20, e_23, e_24, e_25, e_26, go_sem, seval]; rw [← hQ]; exact ⟨_, _, (Ref.std [0, 7, 8, 10, 11, 15, 16, 17] [0, 1] (by decide) (by decide) (by rfl) (by first | rfl | simp only [go_sem, seval])), (by simp), ih _ _ _ h hp⟩
   · simp only [e_16, e_20, go_sem, seval]; rw [← hQ]; exact ⟨_, _, (Ref.std [0, 7, 8, 10, 11, 15, 16, 17] [0, 1] (by decide) (by decide) (by rfl) (by first | rfl | simp only [go_sem, seval])), (by simp), ih _ _ _ h hp⟩
  · simp only [e_16, go_sem, seval]; cases h; rw [← hQ]; exact ⟨_, _, (Ref.std [0, 7, 8, 10, 15, 16, 17] [0, 1] (by decide) (by decide) (by rfl) (by first | rfl | simp only [go_sem, seval])), hp⟩
theorem trie_lay_L3_w (N : Nat) (a_1 : Int) (l_2 : List TRange) (c_0 : Bool) {R : AExit → ATm → List AObj → Prop} : ∀ (n : Nat) (i_1 : Int) (i_2 : Int) (v_3 : Vector Int 128) (o : Int × (Vector Int 128)), trie_lay_L3 N a_1 l_2 n i_1 i_2 v_3 = some o → (match o with | (z_1, z_2) => R (.exit 0) ⟨60, [(7, .int .i64 z_1)], []⟩ [.box (arrI .u8 z_2) 85]) →
  ALp Try.prog 1 B62_1 ⟨60, [(0, .ptr 0 0 0), (7, .int .i64 i_1), (8, .int .i32 (IntKind.i32.wrap (IntKind.i64.wrap (a_1 * 128)))), (15, .vec c_0 (List.map eTRange l_2)), (16, .int .i64 (l_2.length : Int)), (17, .int .i64 i_2)], []⟩ [.box (arrI .u8 v_3) 85] R := by
 intro n
 induction n with
 | zero =>
  intro i_1 i_2 v_3 o h _; exact no0 h
 | succ n ih =>
  intro i_1 i_2 v_3 o h hp; rw [trie_lay_L3] at h; refine ALp.round ?_; generalize hQ : RoundQ _ _ _ _ = QQ; simp only [B62_1, A62, go_sem, seval]; rcases iteS h with ⟨e_5, h⟩ | ⟨e_5, h⟩
  ·
   obtain ⟨x_6, h_7, h⟩ := bindS h; have e_8 : (List.map eTRange l_2)[(i_2).toNat]? = some [.int .i32 x_6.From, .int .i32 x_6.To, .int .i64 x_6.Val] := atI_map eTRange h_7; have e_9 := eq_true (atI_some h_7).1; have e_10 := eq_true (atI_lt h_7); simp only [e_5, e_8, e_9, e_10, go_sem, seval]; rcases iteS h with ⟨e_12, h⟩ | ⟨e_12, h⟩
   · simp only [e_5, e_8, e_9, e_10, e_12, go_sem, seval]; cases h; rw [← hQ]; exact ⟨_, _, (Ref.std [7] [0] (by decide) (by decide) (by rfl) (by first | rfl | simp only [go_sem, seval])), hp⟩
   ·
    simp only [e_5, e_8, e_9, e_10, e_12, go_sem, seval]; obtain ⟨y_1014, h_1013, h⟩ := bindS h; refine ALp.ref (Ref.std [0, 7, 8, 10, 11, 15, 16, 17] [0, 1] (by decide) (by decide) (by rfl) (by first | rfl | simp only [go_sem, seval])) (by simp) (trie_lay_L2_w N _ _ _ _ _ c_0 N _ _ y_1014 h_1013 ?_); refine LoopK_go rfl (by simp) ?_; simp only [e_5, e_8, e_9, e_10, e_12, go_sem, seval]; rcases iteS h with ⟨e_1016, h⟩ | ⟨e_1016, h⟩
    · simp only [e_5, e_8, e_9, e_10, e_12, e_1016, go_sem, seval]; rw [← hQ]; exact ⟨_, _, (Ref.std [0, 7, 8, 15, 16, 17] [0] (by decide) (by decide) (by rfl) (by first | rfl | simp only [go_sem, seval])), (by simp), ih _ _ _ _ h hp⟩
    · simp only [e_5, e_8, e_9, e_10, e_12, e_1016, go_sem, seval]; rw [← hQ]; exact ⟨_, _, (Ref.std [0, 7, 8, 15, 16, 17] [0] (by decide) (by decide) (by rfl) (by first | rfl | simp only [go_sem, seval])), (by simp), ih _ _ _ _ h hp⟩
  · simp only [e_5, go_sem, seval]; cases h; rw [← hQ]; exact ⟨_, _, (Ref.std [7] [0] (by decide) (by decide) (by rfl) (by first | rfl | simp only [go_sem, seval])), hp⟩
theorem trie_lay_w (N : Nat) (v_0 : Vector Int 128) (a_1 : Int) (l_2 : List TRange) (c_0 : Bool) (z_1 : Int) (z_2 : Vector Int 128) (h : trie_lay N v_0 a_1 l_2 = some (z_1, z_2)) :
  ACalls Try.prog 62 [.ptr 0 0 0, .int .i64 a_1, .vec c_0 (List.map eTRange l_2)] [.box (arrI .u8 v_0) 85] (fun e H => H = [.box (arrI .u8 z_2) 85] ∧ e = .ret (.int .i64 z_1)) := by
 unfold trie_lay at h; refine ACalls.goN Try.func62 n62 a62 Try.ntmps62 r62 (by simp) 1 rfl ?_; generalize hQ : bodyA _ _ _ = QQ; simp only [A62, go_sem, seval]; obtain ⟨⟨y_1002, y_1003⟩, h_1001, h⟩ := bindS h; (try dsimp only at h); refine ALp.ref (Ref.std [0, 7, 8, 15, 16, 17] [0] (by decide) (by decide) (by rfl) (by first | rfl | simp only [go_sem, seval])) (by simp) (trie_lay_L3_w N _ _ c_0 N _ _ _ _ h_1001 ?_); refine LoopK_go rfl (by simp) ?_; simp only [go_sem, seval]; obtain ⟨rfl, rfl⟩ := pj (si h); rw [← hQ]; exact ⟨rfl, _, rfl, _, _, (RefV.std [0] (by decide) (by decide) rfl (by first | rfl | simp only [go_sem, seval])), rfl, rfl⟩
theorem trie_Trie_build_row_L1_w (N : Nat) (l_0 : List TRange) (a_1 : Int) (a_2 : Int) (a_3 : Int) (a_4 : Int) (c_0 : Bool) {R : AExit → ATm → List AObj → Prop} : ∀ (n : Nat) (s_1 : List TRange) (i_2 : Int) (s_3 : List Int) (s_4 : List (Vector Int 128)) (m_5 : List (Vector Int 128 × Int)) (o : (List Int) × (List (Vector Int 128))), trie_Trie_build_row_L1 N l_0 a_1 a_2 a_3 a_4 n s_1 i_2 s_3 s_4 m_5 = some o → (match o with | (z_1, z_2) => R (.exit 0) ⟨62, [(0, .ptr 0 0 0)], []⟩ [.box [.vec c_0 (List.map eTRange l_0), .int .u32 a_1, .int .i32 1, .int .u32 a_2, .int .u32 a_3, .int .i64 a_4, .row 3 0 z_1.length, .row 4 0 z_2.length] 81, .dead, .dead, .mem 1 (List.map eI64 z_1) 3, .mem 128 (List.map eA128U8 z_2) 85]) →
  ALp Try.prog 3 B50_1 ⟨62, [(0, .ptr 0 0 0), (2, .map 5), (3, .vec false (List.map eTRange s_1)), (13, .int .i64 i_2)], []⟩ [.box [.vec c_0 (List.map eTRange l_0), .int .u32 a_1, .int .i32 1, .int .u32 a_2, .int .u32 a_3, .int .i64 a_4, .row 3 0 s_3.length, .row 4 0 s_4.length] 81, .dead, .dead, .mem 1 (List.map eI64 s_3) 3, .mem 128 (List.map eA128U8 s_4) 85, .map (List.map (mpA .u8 .i64) m_5) 0] R := by
 intro n
 induction n with
 | zero =>
  intro s_1 i_2 s_3 s_4 m_5 o h _; exact no0 h
 | succ n ih =>
  intro s_1 i_2 s_3 s_4 m_5 o h hp; rw [trie_Trie_build_row_L1] at h; refine ALp.round ?_; generalize hQ : RoundQ _ _ _ _ = QQ; simp only [B50_1, A50, go_sem, seval]; rcases iteS h with ⟨e_7, h⟩ | ⟨e_7, h⟩
  ·
   obtain ⟨⟨y_8, y_9⟩, h_10, h⟩ := bindS h; (try dsimp only at h); simp only [e_7, go_sem, seval]; refine ACalls.goA (trie_lay_w N _ _ _ false _ _ h_10) [6] (ho := ⟨(by first | rfl | simp only [go_sem, seval, e_7]), trivial⟩) ?_; obtain ⟨e_12, h⟩ := guardE h; obtain ⟨e_14, h⟩ := guardE h; have e_15 : ((List.map eTRange s_1)).all (fun el => el.length == 3) = true := all_len _ eTRange 3 (fun _ => by first | rfl | simp only [eA128U8, eA128I64, go_sem]); have e_16 : List.take (s_1.length - (y_8).toNat) (List.drop (y_8).toNat (List.map eTRange s_1)) = List.map eTRange (slI s_1 y_8 (s_1.length : Int)) := slI_map0 s_1 y_8 eTRange; have e_17 : mlk0 true 128 true (.int .i64 0) (.agg (arrI .u8 y_9)) (List.map (mpA .u8 .i64) m_5) = some (.tup [.int .i64 (mget m_5 y_9), .bool (mhas m_5 y_9)]) := mlk_A m_5 y_9; simp only [e_7, e_12, e_14, e_15, e_16, e_17, go_sem, seval]; by_cases h_18 : (mhas m_5 y_9) = true
   · rw [if_pos h_18] at h; have e_19 : (mhas m_5 y_9) = true := h_18; have e_20 := tk eI64 s_3; have e_21 : (List.map eI64 s_3) ++ [[.int .i64 (mget m_5 y_9)]] = (List.map eI64 (s_3 ++ [(mget m_5 y_9)])) := app_map s_3 ([(mget m_5 y_9)]) eI64; obtain ⟨e_23, h⟩ := guardE h; simp only [e_7, e_12, e_14, e_15, e_16, e_17, e_19, e_20, e_21, e_23, go_sem, seval]; rw [← hQ]; exact ⟨_, _, (Ref.trans (Ref.std (l' := [(0, .ptr 0 0 0), (2, .map 5), (3, .vec _ (List.map eTRange (slI s_1 y_8 (s_1.length : Int)))), (13, .int .i64 (IntKind.i64.wrap (i_2 + 1)))]) (H' := [.box [.vec c_0 (List.map eTRange l_0), .int .u32 a_1, .int .i32 1, .int .u32 a_2, .int .u32 a_3, .int .i64 a_4, .row 3 0 (s_3.length + 1), .row 4 0 s_4.length] 81, .dead, .dead, .mem 1 (List.map eI64 (s_3 ++ [(mget m_5 y_9)])) 3, .mem 128 (List.map eA128U8 s_4) 85, .map (List.map (mpA .u8 .i64) m_5) 0]) [0, 2, 3, 13] [0, 1, 2, 7, 4, 5] (by decide) (by decide) (by rfl) (by first | rfl | simp only [go_sem, seval])) (Ref.weak (WkT.cons (Wk.refl _) (WkT.cons (Wk.refl _) (WkT.cons Wk.vec (WkT.cons (Wk.refl _) (WkT.nil))))) (WkH.cons (WkO.bx (Wks.cons (Wk.refl _) (Wks.cons (Wk.refl _) (Wks.cons (Wk.refl _) (Wks.cons (Wk.refl _) (Wks.cons (Wk.refl _) (Wks.cons (Wk.refl _) (Wks.cons (Wk.refl _) (Wks.cons (Wk.refl _) (Wks.nil)))))))))) (WkH.cons (WkO.refl _) (WkH.cons (WkO.refl _) (WkH.cons (WkO.refl _) (WkH.cons (WkO.refl _) (WkH.cons (WkO.refl _) (WkH.nil))))))))), (by simp), (by simpa only [List.length_append, List.length_cons, List.length_nil, Nat.zero_add] using ih _ _ _ _ _ _ h hp)⟩
   · rw [if_neg h_18] at h; have e_19 : (mhas m_5 y_9) = false := bfalse h_18; have e_24 : mup0 true 128 (.agg (arrI .u8 y_9)) (.int .i64 (s_4.length : Int)) (List.map (mpA .u8 .i64) m_5) = some (List.map (mpA .u8 .i64) (mput m_5 y_9 (s_4.length : Int))) := mup_A m_5 y_9 (s_4.length : Int); have e_25 := tk eA128U8 s_4; have e_26 : (List.map eA128U8 s_4) ++ [(arrI .u8 y_9)] = (List.map eA128U8 (s_4 ++ [y_9])) := app_map s_4 ([y_9]) eA128U8; obtain ⟨e_28, h⟩ := guardE h; have e_29 := tk eI64 s_3; have e_30 : (List.map eI64 s_3) ++ [[.int .i64 (s_4.length : Int)]] = (List.map eI64 (s_3 ++ [(s_4.length : Int)])) := app_map s_3 ([(s_4.length : Int)]) eI64; obtain ⟨e_32, h⟩ := guardE h; simp only [e_7, e_12, e_14, e_15, e_16, e_17, e_19, e_24, e_25, e_26, e_28, e_29, e_30, e_32, go_sem, seval]; rw [← hQ]; exact ⟨_, _, (Ref.trans (Ref.std (l' := [(0, .ptr 0 0 0), (2, .map 5), (3, .vec _ (List.map eTRange (slI s_1 y_8 (s_1.length : Int)))), (13, .int .i64 (IntKind.i64.wrap (i_2 + 1)))]) (H' := [.box [.vec c_0 (List.map eTRange l_0), .int .u32 a_1, .int .i32 1, .int .u32 a_2, .int .u32 a_3, .int .i64 a_4, .row 3 0 (s_3.length + 1), .row 4 0 (s_4.length + 1)] 81, .dead, .dead, .mem 1 (List.map eI64 (s_3 ++ [(s_4.length : Int)])) 3, .mem 128 (List.map eA128U8 (s_4 ++ [y_9])) 85, .map (List.map (mpA .u8 .i64) (mput m_5 y_9 (s_4.length : Int))) 0]) [0, 2, 3, 13] [0, 1, 2, 8, 7, 5] (by decide) (by decide) (by rfl) (by first | rfl | simp only [go_sem, seval])) (Ref.weak (WkT.cons (Wk.refl _) (WkT.cons (Wk.refl _) (WkT.cons Wk.vec (WkT.cons (Wk.refl _) (WkT.nil))))) (WkH.cons (WkO.bx (Wks.cons (Wk.refl _) (Wks.cons (Wk.refl _) (Wks.cons (Wk.refl _) (Wks.cons (Wk.refl _) (Wks.cons (Wk.refl _) (Wks.cons (Wk.refl _) (Wks.cons (Wk.refl _) (Wks.cons (Wk.refl _) (Wks.nil)))))))))) (WkH.cons (WkO.refl _) (WkH.cons (WkO.refl _) (WkH.cons (WkO.refl _) (WkH.cons (WkO.refl _) (WkH.cons (WkO.refl _) (WkH.nil))))))))), (by simp), (by simpa only [List.length_append, List.length_cons, List.length_nil, Nat.zero_add] using ih _ _ _ _ _ _ h hp)⟩
  · simp only [e_7, go_sem, seval]; cases h; rw [← hQ]; exact ⟨_, _, (Ref.std [0] [0, 1, 2, 3, 4] (by decide) (by decide) rfl (by first | rfl | simp only [go_sem, seval])), hp⟩
theorem trie_Trie_build_row_w (N : Nat) (l_0 : List TRange) (a_1 : Int) (a_2 : Int) (a_3 : Int) (a_4 : Int) (l_5 : List Int) (l_6 : List (Vector Int 128)) (c_0 : Bool) (z_1 : List Int) (z_2 : List (Vector Int 128)) (h : trie_Trie_build_row N l_0 a_1 a_2 a_3 a_4 l_5 l_6 = some (z_1, z_2)) :
  ACalls Try.prog 50 [.ptr 0 0 0] [.box [.vec c_0 (List.map eTRange l_0), .int .u32 a_1, .int .i32 1, .int .u32 a_2, .int .u32 a_3, .int .i64 a_4, .row 1 0 l_5.length, .row 2 0 l_6.length] 81, .mem 1 (List.map eI64 l_5) 3, .mem 128 (List.map eA128U8 l_6) 85] (fun e H => H = [.box [.vec c_0 (List.map eTRange l_0), .int .u32 a_1, .int .i32 1, .int .u32 a_2, .int .u32 1, .int .i64 a_4, .row 3 0 z_1.length, .row 4 0 z_2.length] 81, .dead, .dead, .mem 1 (List.map eI64 z_1) 3, .mem 128 (List.map eA128U8 z_2) 85] ∧ e = .ret (.tup [])) := by
 unfold trie_Trie_build_row at h; refine ACalls.goN Try.func50 n50 a50 Try.ntmps50 r50 (by simp) 3 rfl ?_; generalize hQ : bodyA _ _ _ = QQ; simp only [A50, go_sem, seval]; obtain ⟨⟨y_1002, y_1003⟩, h_1001, h⟩ := bindS h; (try dsimp only at h); refine ALp.ref (Ref.trans (Ref.move (by simp) (id := 1) rfl rfl) (Ref.trans (Ref.move (by simp) (id := 2) rfl rfl) (Ref.trans (Ref.std (l' := [(0, .ptr 0 0 0), (2, .map 5), (3, .vec c_0 (List.map eTRange l_0)), (13, .int .i64 0)]) (H' := [.box [.vec c_0 (List.map eTRange l_0), .int .u32 a_1, .int .i32 1, .int .u32 a_2, .int .u32 a_3, .int .i64 a_4, .row 3 0 l_5.length, .row 4 0 l_6.length] 81, .dead, .dead, .mem 1 (List.map eI64 l_5) 3, .mem 128 (List.map eA128U8 l_6) 85, .map [] 0]) [0, 2, 3, 13] [0, 1, 2, 4, 5, 3] (by decide) (by decide) rfl (by first | rfl | simp only [go_sem, seval])) (Ref.weak (WkT.cons (Wk.refl _) (WkT.cons (Wk.refl _) (WkT.cons Wk.vec (WkT.cons (Wk.refl _) (WkT.nil))))) (WkH.cons (WkO.bx (Wks.cons (Wk.refl _) (Wks.cons (Wk.refl _) (Wks.cons (Wk.refl _) (Wks.cons (Wk.refl _) (Wks.cons (Wk.refl _) (Wks.cons (Wk.refl _) (Wks.cons (Wk.refl _) (Wks.cons (Wk.refl _) (Wks.nil)))))))))) (WkH.cons (WkO.refl _) (WkH.cons (WkO.refl _) (WkH.cons (WkO.refl _) (WkH.cons (WkO.refl _) (WkH.cons (WkO.refl _) (WkH.nil))))))))))) (by simp) (trie_Trie_build_row_L1_w N _ _ _ _ _ c_0 N _ _ _ _ _ _ h_1001 ?_); refine LoopK_go rfl (by simp) ?_; simp only [go_sem, seval]; refine A_bstore rfl rfl ?_; refine CallK_go (by simp) ?_; simp only [go_sem, seval]; obtain ⟨rfl, rfl⟩ := pj (si h); rw [← hQ]; exact ⟨rfl, _, rfl, _, _, (RefV.std [0, 1, 2, 3, 4] (by decide) (by decide) rfl (by first | rfl | simp only [go_sem, seval])), rfl, rfl⟩
theorem trie_Trie_Get_row_w (N : Nat) (l_0 : List TRange) (a_1 : Int) (a_2 : Int) (a_3 : Int) (a_4 : Int) (l_5 : List Int) (l_6 : List (Vector Int 128)) (a_7 : Int) (c_0 : Bool) (z_1 : Int) (z_2 : Int) (z_3 : Int) (z_4 : Int) (z_5 : List Int) (z_6 : List (Vector Int 128)) (h : trie_Trie_Get_row N l_0 a_1 a_2 a_3 a_4 l_5 l_6 a_7 = some (z_1, z_2, z_3, z_4, z_5, z_6)) :
  ACalls Try.prog 29 [.ptr 0 0 0, .int .i32 a_7] [.box [.vec c_0 (List.map eTRange l_0), .int .u32 a_1, .int .i32 0, .int .u32 a_2, .int .u32 a_3, .int .i64 a_4, .row 1 0 l_5.length, .row 2 0 l_6.length] 81, .mem 1 (List.map eI64 l_5) 3, .mem 128 (List.map eA128U8 l_6) 85] (fun e H => H = [.box [.vec c_0 (List.map eTRange l_0), .int .u32 z_2, .int .i32 0, .int .u32 a_2, .int .u32 z_3, .int .i64 z_4, .row 3 0 z_5.length, .row 4 0 z_6.length] 81, .dead, .dead, .mem 1 (List.map eI64 z_5) 3, .mem 128 (List.map eA128U8 z_6) 85] ∧ e = .ret (.int .i64 z_1)) := by
 unfold trie_Trie_Get_row at h; refine ACalls.goN Try.func29 n29 a29 Try.ntmps29 r29 (by simp) 3 rfl ?_; generalize hQ : bodyA _ _ _ = QQ; simp only [A29, go_sem, seval]; refine A_iadd rfl rfl ?_; refine CallK_go (by simp) ?_; simp only [go_sem, seval]; rcases iteS h with ⟨e_2, h⟩ | ⟨e_2, h⟩
 ·
  obtain ⟨⟨y_3, y_4⟩, h_5, h⟩ := bindS h; (try dsimp only at h); (try simp only [e_2, go_sem, seval]); refine A_first rfl (congrArg (fun x => some (AV.int .u32 x)) (of_eq_true e_2)) rfl ?_; refine ACalls.use (trie_Trie_build_row_w N _ _ _ _ _ _ _ c_0 _ _ h_5) [0, 1, 2] (by decide) ⟨(by first | rfl | simp only [go_sem, seval]), (by first | rfl | simp only [go_sem, seval]), (by first | rfl | simp only [go_sem, seval]), trivial⟩ (by first | rfl | simp only [go_sem, seval]) (v' := .tup []) (by first | rfl | simp only [go_sem, seval]) (H' := [.box [.vec c_0 (List.map eTRange l_0), .int .u32 a_1, .int .i32 1, .int .u32 a_2, .int .u32 1, .int .i64 (IntKind.i64.wrap (a_4 + 1)), .row 3 0 y_3.length, .row 4 0 y_4.length] 81, .dead, .dead, .mem 1 (List.map eI64 y_3) 3, .mem 128 (List.map eA128U8 y_4) 85]) (by first | rfl | simp only [go_sem, seval]) ?_; refine ⟨rfl, _, rfl, (congrArg (fun x => some (AV.int .u32 x)) (of_eq_true e_2)), rfl, ?_⟩; refine CallK_go (by simp) ?_; simp only [e_2, go_sem, seval]; rcases iteS h with ⟨e_7, h⟩ | ⟨e_7, h⟩
  · simp only [e_2, e_7, go_sem, seval]; obtain ⟨rfl, g⟩ := pj (si h); obtain ⟨rfl, g1⟩ := pj g; obtain ⟨rfl, g2⟩ := pj g1; obtain ⟨rfl, g3⟩ := pj g2; obtain ⟨rfl, rfl⟩ := pj g3; rw [← hQ]; exact ⟨rfl, _, rfl, _, _, (RefV.std [0, 1, 2, 3, 4] (by decide) (by decide) rfl (by first | rfl | simp only [go_sem, seval, e_2, e_7])), rfl, rfl⟩
  ·
   simp only [e_2, e_7, go_sem, seval]; rcases iteS h with ⟨e_9, h⟩ | ⟨e_9, h⟩
   · simp only [e_2, e_7, e_9, go_sem, seval]; obtain ⟨rfl, g⟩ := pj (si h); obtain ⟨rfl, g1⟩ := pj g; obtain ⟨rfl, g2⟩ := pj g1; obtain ⟨rfl, g3⟩ := pj g2; obtain ⟨rfl, rfl⟩ := pj g3; rw [← hQ]; exact ⟨rfl, _, rfl, _, _, (RefV.std [0, 1, 2, 3, 4] (by decide) (by decide) rfl (by first | rfl | simp only [go_sem, seval, e_2, e_7, e_9])), rfl, rfl⟩
   · obtain ⟨x_10, h_11, h⟩ := bindS h; have e_12 : (List.map eI64 y_3)[(IntKind.i32.wrap (a_7.tdiv 128)).toNat]? = some [.int .i64 x_10] := atI_map eI64 h_11; have e_13 := eq_true (atI_some h_11).1; have e_14 := eq_true (atI_lt h_11); obtain ⟨x_15, h_16, h⟩ := bindS h; have e_17 : (List.map eA128U8 y_4)[(x_10).toNat]? = some (arrI .u8 x_15) := atI_map eA128U8 h_16; have e_18 := eq_true (atI_some h_16).1; have e_19 := eq_true (atI_lt h_16); obtain ⟨x_20, h_21, h⟩ := bindS h; have e_22 : List.take 1 (List.drop (a_7.tmod 128).toNat (arrI .u8 x_15)) = [.int .u8 x_20] := arr_one h_21; have e_23 : ((0 : Int) ≤ a_7.tmod 128) = True := arr_ge h_21; have e_24 : ((a_7.tmod 128 : Int) < 128) = True := arr_lt h_21; have e_25 : ((a_7.tmod 128).toNat + 1 ≤ 128) = True := arr_le h_21; simp only [e_2, e_7, e_9, e_12, e_13, e_14, e_17, e_18, e_19, e_22, e_23, e_24, e_25, go_sem, seval]; obtain ⟨rfl, g⟩ := pj (si h); obtain ⟨rfl, g1⟩ := pj g; obtain ⟨rfl, g2⟩ := pj g1; obtain ⟨rfl, g3⟩ := pj g2; obtain ⟨rfl, rfl⟩ := pj g3; rw [← hQ]; exact ⟨rfl, _, rfl, _, _, (RefV.std [0, 1, 2, 3, 4] (by decide) (by decide) rfl (by first | rfl | simp only [go_sem, seval, e_2, e_7, e_9])), rfl, rfl⟩
 ·
  (try simp only [e_2, go_sem, seval]); refine A_done rfl rfl (of_eq_false e_2) ?_; refine CallK_go (by simp) ?_; simp only [e_2, go_sem, seval]; rcases iteS h with ⟨e_27, h⟩ | ⟨e_27, h⟩
  · simp only [e_2, e_27, go_sem, seval]; obtain ⟨rfl, g⟩ := pj (si h); obtain ⟨rfl, g1⟩ := pj g; obtain ⟨rfl, g2⟩ := pj g1; obtain ⟨rfl, g3⟩ := pj g2; obtain ⟨rfl, rfl⟩ := pj g3; rw [← hQ]; exact ⟨rfl, _, rfl, _, _, (RefV.trans (RefV.move (by simp) (id := 1) rfl rfl) (RefV.trans (RefV.move (by simp) (id := 2) rfl rfl) (RefV.std [0, 1, 2, 3, 4] (by decide) (by decide) (by first | rfl | simp only [go_sem, seval, e_2, e_27]) (by first | rfl | simp only [go_sem, seval, e_2, e_27])))), rfl, rfl⟩
  ·
   simp only [e_2, e_27, go_sem, seval]; rcases iteS h with ⟨e_29, h⟩ | ⟨e_29, h⟩
   · simp only [e_2, e_27, e_29, go_sem, seval]; obtain ⟨rfl, g⟩ := pj (si h); obtain ⟨rfl, g1⟩ := pj g; obtain ⟨rfl, g2⟩ := pj g1; obtain ⟨rfl, g3⟩ := pj g2; obtain ⟨rfl, rfl⟩ := pj g3; rw [← hQ]; exact ⟨rfl, _, rfl, _, _, (RefV.trans (RefV.move (by simp) (id := 1) rfl rfl) (RefV.trans (RefV.move (by simp) (id := 2) rfl rfl) (RefV.std [0, 1, 2, 3, 4] (by decide) (by decide) (by first | rfl | simp only [go_sem, seval, e_2, e_27, e_29]) (by first | rfl | simp only [go_sem, seval, e_2, e_27, e_29])))), rfl, rfl⟩
   · obtain ⟨x_30, h_31, h⟩ := bindS h; have e_32 : (List.map eI64 l_5)[(IntKind.i32.wrap (a_7.tdiv 128)).toNat]? = some [.int .i64 x_30] := atI_map eI64 h_31; have e_33 := eq_true (atI_some h_31).1; have e_34 := eq_true (atI_lt h_31); obtain ⟨x_35, h_36, h⟩ := bindS h; have e_37 : (List.map eA128U8 l_6)[(x_30).toNat]? = some (arrI .u8 x_35) := atI_map eA128U8 h_36; have e_38 := eq_true (atI_some h_36).1; have e_39 := eq_true (atI_lt h_36); obtain ⟨x_40, h_41, h⟩ := bindS h; have e_42 : List.take 1 (List.drop (a_7.tmod 128).toNat (arrI .u8 x_35)) = [.int .u8 x_40] := arr_one h_41; have e_43 : ((0 : Int) ≤ a_7.tmod 128) = True := arr_ge h_41; have e_44 : ((a_7.tmod 128 : Int) < 128) = True := arr_lt h_41; have e_45 : ((a_7.tmod 128).toNat + 1 ≤ 128) = True := arr_le h_41; simp only [e_2, e_27, e_29, e_32, e_33, e_34, e_37, e_38, e_39, e_42, e_43, e_44, e_45, go_sem, seval]; obtain ⟨rfl, g⟩ := pj (si h); obtain ⟨rfl, g1⟩ := pj g; obtain ⟨rfl, g2⟩ := pj g1; obtain ⟨rfl, g3⟩ := pj g2; obtain ⟨rfl, rfl⟩ := pj g3; rw [← hQ]; exact ⟨rfl, _, rfl, _, _, (RefV.trans (RefV.move (by simp) (id := 1) rfl rfl) (RefV.trans (RefV.move (by simp) (id := 2) rfl rfl) (RefV.std [0, 1, 2, 3, 4] (by decide) (by decide) (by first | rfl | simp only [go_sem, seval, e_2, e_27, e_29]) (by first | rfl | simp only [go_sem, seval, e_2, e_27, e_29])))), rfl, rfl⟩
theorem trie_Trie_Asked_row_w (N : Nat) (l_0 : List TRange) (a_1 : Int) (a_2 : Int) (a_3 : Int) (a_4 : Int) (l_5 : List Int) (l_6 : List (Vector Int 128)) (c_0 : Bool) (z_1 : Int) (h : trie_Trie_Asked_row N l_0 a_1 a_2 a_3 a_4 l_5 l_6 = some z_1) :
  ACalls Try.prog 31 [.ptr 0 0 0] [.box [.vec c_0 (List.map eTRange l_0), .int .u32 a_1, .int .i32 0, .int .u32 a_2, .int .u32 a_3, .int .i64 a_4, .row 1 0 l_5.length, .row 2 0 l_6.length] 81, .mem 1 (List.map eI64 l_5) 3, .mem 128 (List.map eA128U8 l_6) 85] (fun e H => H = [.box [.vec c_0 (List.map eTRange l_0), .int .u32 a_1, .int .i32 0, .int .u32 a_2, .int .u32 a_3, .int .i64 a_4, .row 3 0 l_5.length, .row 4 0 l_6.length] 81, .dead, .dead, .mem 1 (List.map eI64 l_5) 3, .mem 128 (List.map eA128U8 l_6) 85] ∧ e = .ret (.int .i64 z_1)) := by
 unfold trie_Trie_Asked_row at h; refine ACalls.goN Try.func31 n31 a31 Try.ntmps31 r31 (by simp) 3 rfl ?_; generalize hQ : bodyA _ _ _ = QQ; simp only [A31, go_sem, seval]; refine A_iload rfl rfl ?_; refine CallK_go (by simp) ?_; simp only [go_sem, seval]; obtain rfl := si h; rw [← hQ]; exact ⟨rfl, _, rfl, _, _, (RefV.trans (RefV.move (by simp) (id := 1) rfl rfl) (RefV.trans (RefV.move (by simp) (id := 2) rfl rfl) (RefV.std [0, 1, 2, 3, 4] (by decide) (by decide) (by first | rfl | simp only [go_sem, seval]) (by first | rfl | simp only [go_sem, seval])))), rfl, rfl⟩
theorem trie_Trie_Blocks_row_w (N : Nat) (l_0 : List TRange) (a_1 : Int) (a_2 : Int) (a_3 : Int) (a_4 : Int) (l_5 : List Int) (l_6 : List (Vector Int 128)) (c_0 : Bool) (z_1 : Int) (z_2 : Int) (z_3 : Int) (z_4 : List Int) (z_5 : List (Vector Int 128)) (h : trie_Trie_Blocks_row N l_0 a_1 a_2 a_3 a_4 l_5 l_6 = some (z_1, z_2, z_3, z_4, z_5)) :
  ACalls Try.prog 30 [.ptr 0 0 0] [.box [.vec c_0 (List.map eTRange l_0), .int .u32 a_1, .int .i32 0, .int .u32 a_2, .int .u32 a_3, .int .i64 a_4, .row 1 0 l_5.length, .row 2 0 l_6.length] 81, .mem 1 (List.map eI64 l_5) 3, .mem 128 (List.map eA128U8 l_6) 85] (fun e H => H = [.box [.vec c_0 (List.map eTRange l_0), .int .u32 z_2, .int .i32 0, .int .u32 a_2, .int .u32 z_3, .int .i64 a_4, .row 3 0 z_4.length, .row 4 0 z_5.length] 81, .dead, .dead, .mem 1 (List.map eI64 z_4) 3, .mem 128 (List.map eA128U8 z_5) 85] ∧ e = .ret (.int .i64 z_1)) := by
 unfold trie_Trie_Blocks_row at h; refine ACalls.goN Try.func30 n30 a30 Try.ntmps30 r30 (by simp) 3 rfl ?_; generalize hQ : bodyA _ _ _ = QQ; simp only [A30, go_sem, seval]; rcases iteS h with ⟨e_2, h⟩ | ⟨e_2, h⟩
 · obtain ⟨⟨y_3, y_4⟩, h_5, h⟩ := bindS h; (try dsimp only at h); (try simp only [e_2, go_sem, seval]); refine A_first rfl (congrArg (fun x => some (AV.int .u32 x)) (of_eq_true e_2)) rfl ?_; refine ACalls.use (trie_Trie_build_row_w N _ _ _ _ _ _ _ c_0 _ _ h_5) [0, 1, 2] (by decide) ⟨(by first | rfl | simp only [go_sem, seval]), (by first | rfl | simp only [go_sem, seval]), (by first | rfl | simp only [go_sem, seval]), trivial⟩ (by first | rfl | simp only [go_sem, seval]) (v' := .tup []) (by first | rfl | simp only [go_sem, seval]) (H' := [.box [.vec c_0 (List.map eTRange l_0), .int .u32 a_1, .int .i32 1, .int .u32 a_2, .int .u32 1, .int .i64 a_4, .row 3 0 y_3.length, .row 4 0 y_4.length] 81, .dead, .dead, .mem 1 (List.map eI64 y_3) 3, .mem 128 (List.map eA128U8 y_4) 85]) (by first | rfl | simp only [go_sem, seval]) ?_; refine ⟨rfl, _, rfl, (congrArg (fun x => some (AV.int .u32 x)) (of_eq_true e_2)), rfl, ?_⟩; refine CallK_go (by simp) ?_; simp only [e_2, go_sem, seval]; obtain ⟨rfl, g⟩ := pj (si h); obtain ⟨rfl, g1⟩ := pj g; obtain ⟨rfl, g2⟩ := pj g1; obtain ⟨rfl, rfl⟩ := pj g2; rw [← hQ]; exact ⟨rfl, _, rfl, _, _, (RefV.std [0, 1, 2, 3, 4] (by decide) (by decide) rfl (by first | rfl | simp only [go_sem, seval, e_2])), rfl, rfl⟩
 · (try simp only [e_2, go_sem, seval]); refine A_done rfl rfl (of_eq_false e_2) ?_; refine CallK_go (by simp) ?_; simp only [e_2, go_sem, seval]; obtain ⟨rfl, g⟩ := pj (si h); obtain ⟨rfl, g1⟩ := pj g; obtain ⟨rfl, g2⟩ := pj g1; obtain ⟨rfl, rfl⟩ := pj g2; rw [← hQ]; exact ⟨rfl, _, rfl, _, _, (RefV.trans (RefV.move (by simp) (id := 1) rfl rfl) (RefV.trans (RefV.move (by simp) (id := 2) rfl rfl) (RefV.std [0, 1, 2, 3, 4] (by decide) (by decide) (by first | rfl | simp only [go_sem, seval, e_2]) (by first | rfl | simp only [go_sem, seval, e_2])))), rfl, rfl⟩
theorem trie_Trie_Built_row_w (N : Nat) (l_0 : List TRange) (a_1 : Int) (a_2 : Int) (a_3 : Int) (a_4 : Int) (l_5 : List Int) (l_6 : List (Vector Int 128)) (c_0 : Bool) (z_1 : Bool) (h : trie_Trie_Built_row N l_0 a_1 a_2 a_3 a_4 l_5 l_6 = some z_1) :
  ACalls Try.prog 32 [.ptr 0 0 0] [.box [.vec c_0 (List.map eTRange l_0), .int .u32 a_1, .int .i32 0, .int .u32 a_2, .int .u32 a_3, .int .i64 a_4, .row 1 0 l_5.length, .row 2 0 l_6.length] 81, .mem 1 (List.map eI64 l_5) 3, .mem 128 (List.map eA128U8 l_6) 85] (fun e H => H = [.box [.vec c_0 (List.map eTRange l_0), .int .u32 a_1, .int .i32 0, .int .u32 a_2, .int .u32 a_3, .int .i64 a_4, .row 3 0 l_5.length, .row 4 0 l_6.length] 81, .dead, .dead, .mem 1 (List.map eI64 l_5) 3, .mem 128 (List.map eA128U8 l_6) 85] ∧ e = .ret (.bool z_1)) := by
 unfold trie_Trie_Built_row at h; refine ACalls.goN Try.func32 n32 a32 Try.ntmps32 r32 (by simp) 3 rfl ?_; generalize hQ : bodyA _ _ _ = QQ; simp only [A32, go_sem, seval]; refine A_bload rfl rfl ?_; refine CallK_go (by simp) ?_; simp only [go_sem, seval]; obtain rfl := si h; rw [← hQ]; exact ⟨rfl, _, rfl, _, _, (RefV.trans (RefV.move (by simp) (id := 1) rfl rfl) (RefV.trans (RefV.move (by simp) (id := 2) rfl rfl) (RefV.std [0, 1, 2, 3, 4] (by decide) (by decide) (by first | rfl | simp only [go_sem, seval]) (by first | rfl | simp only [go_sem, seval])))), rfl, rfl⟩
theorem trie_Trie_Get_w (N : Nat) (a_0 : Int) (z_1 : Int) (h : trie_Trie_Get N a_0 = some z_1) :
  ACalls Try.prog 29 [.nilp, .int .i32 a_0] [] (fun e H => H = [] ∧ e = .ret (.int .i64 z_1)) := by
 unfold trie_Trie_Get at h; refine ACalls.goN Try.func29 n29 a29 Try.ntmps29 r29 (by simp) 0 rfl ?_; generalize hQ : bodyA _ _ _ = QQ; simp only [A29, go_sem, seval]; obtain rfl := si h; rw [← hQ]; exact ⟨rfl, _, rfl, _, _, (RefV.out rfl), rfl, rfl⟩
theorem trie_Trie_Asked_w (N : Nat) (z_1 : Int) (h : trie_Trie_Asked N = some z_1) :
  ACalls Try.prog 31 [.nilp] [] (fun e H => H = [] ∧ e = .ret (.int .i64 z_1)) := by
 unfold trie_Trie_Asked at h; refine ACalls.goN Try.func31 n31 a31 Try.ntmps31 r31 (by simp) 0 rfl ?_; generalize hQ : bodyA _ _ _ = QQ; simp only [A31, go_sem, seval]; obtain rfl := si h; rw [← hQ]; exact ⟨rfl, _, rfl, _, _, (RefV.out rfl), rfl, rfl⟩
theorem trie_Trie_Blocks_w (N : Nat) (z_1 : Int) (h : trie_Trie_Blocks N = some z_1) :
  ACalls Try.prog 30 [.nilp] [] (fun e H => H = [] ∧ e = .ret (.int .i64 z_1)) := by
 unfold trie_Trie_Blocks at h; refine ACalls.goN Try.func30 n30 a30 Try.ntmps30 r30 (by simp) 0 rfl ?_; generalize hQ : bodyA _ _ _ = QQ; simp only [A30, go_sem, seval]; obtain rfl := si h; rw [← hQ]; exact ⟨rfl, _, rfl, _, _, (RefV.out rfl), rfl, rfl⟩
theorem trie_Trie_Built_w (N : Nat) (z_1 : Bool) (h : trie_Trie_Built N = some z_1) :
  ACalls Try.prog 32 [.nilp] [] (fun e H => H = [] ∧ e = .ret (.bool z_1)) := by
 unfold trie_Trie_Built at h; refine ACalls.goN Try.func32 n32 a32 Try.ntmps32 r32 (by simp) 0 rfl ?_; generalize hQ : bodyA _ _ _ = QQ; simp only [A32, go_sem, seval]; obtain rfl := si h; rw [← hQ]; exact ⟨rfl, _, rfl, _, _, (RefV.out rfl), rfl, rfl⟩
theorem law03_alive_w (N : Nat) (z_1 : Bool) (h : law03_alive N = some z_1) :
  ACalls Try.prog 26 [] [] (fun e H => H = [] ∧ e = .ret (.bool z_1)) := by
 unfold law03_alive at h; refine ACalls.goN Try.func26 n26 a26 Try.ntmps26 r26 (by simp) 0 rfl ?_; generalize hQ : bodyA _ _ _ = QQ; obtain ⟨o_3, h_2, h⟩ := bindS h; simp only [A26, go_sem, seval]; rcases o_3 with y_1 | _
 ·
  (try dsimp only at h); refine ACalls.useA (trie_New_w N _ true _ h_2) [] (v' := .ptr 0 0 0) (H' := [.box [.vec false (List.map eTRange y_1), .int .u32 0, .int .i32 0, .int .u32 0, .int .u32 0, .int .i64 0, .row 1 0 0, .row 2 0 0] 81, .mem 1 [] 3, .mem 128 [] 85]) ?_; refine ck0 ?_; obtain ⟨⟨y_4, y_5, y_6, y_7, y_8, y_9⟩, h_10, h⟩ := bindS h; (try dsimp only at h); simp only [go_sem, seval]; refine ACalls.goA (trie_Trie_Get_row_w N _ _ _ _ _ _ _ _ false _ _ _ _ _ _ h_10) [0, 1, 2] ?_; simp only [go_sem, seval]; rcases iteS h with ⟨e_12, h⟩ | ⟨e_12, h⟩
  ·
   obtain ⟨⟨y_13, y_14, y_15, y_16, y_17, y_18⟩, h_19, h⟩ := bindS h; (try dsimp only at h); simp only [e_12, go_sem, seval]; refine ACalls.goA (trie_Trie_Get_row_w N _ _ _ _ _ _ _ _ false _ _ _ _ _ _ h_19) [0, 3, 4] (ho := ⟨(by first | rfl | simp only [go_sem, seval, e_12]), (by first | rfl | simp only [go_sem, seval, e_12]), (by first | rfl | simp only [go_sem, seval, e_12]), trivial⟩) ?_; simp only [e_12, go_sem, seval]; rcases iteS h with ⟨e_21, h⟩ | ⟨e_21, h⟩
   ·
    obtain ⟨y_22, h_23, h⟩ := bindS h; simp only [e_12, e_21, go_sem, seval]; refine ACalls.goA (trie_Trie_Asked_row_w N _ _ _ _ _ _ _ false _ h_23) [0, 5, 6] (ho := ⟨(by first | rfl | simp only [go_sem, seval, e_12, e_21]), (by first | rfl | simp only [go_sem, seval, e_12, e_21]), (by first | rfl | simp only [go_sem, seval, e_12, e_21]), trivial⟩) ?_; simp only [e_12, e_21, go_sem, seval]; rcases iteS h with ⟨e_25, h⟩ | ⟨e_25, h⟩
    ·
     obtain ⟨⟨y_26, y_27, y_28, y_29, y_30⟩, h_31, h⟩ := bindS h; (try dsimp only at h); simp only [e_12, e_21, e_25, go_sem, seval]; refine ACalls.goA (trie_Trie_Blocks_row_w N _ _ _ _ _ _ _ false _ _ _ _ _ h_31) [0, 7, 8] (ho := ⟨(by first | rfl | simp only [go_sem, seval, e_12, e_21, e_25]), (by first | rfl | simp only [go_sem, seval, e_12, e_21, e_25]), (by first | rfl | simp only [go_sem, seval, e_12, e_21, e_25]), trivial⟩) ?_; simp only [e_12, e_21, e_25, go_sem, seval]; rcases iteS h with ⟨e_33, h⟩ | ⟨e_33, h⟩
     ·
      obtain ⟨y_34, h_35, h⟩ := bindS h; simp only [e_12, e_21, e_25, e_33, go_sem, seval]; refine ACalls.goA (trie_Trie_Built_row_w N _ _ _ _ _ _ _ false _ h_35) [0, 9, 10] (ho := ⟨(by first | rfl | simp only [go_sem, seval, e_12, e_21, e_25, e_33]), (by first | rfl | simp only [go_sem, seval, e_12, e_21, e_25, e_33]), (by first | rfl | simp only [go_sem, seval, e_12, e_21, e_25, e_33]), trivial⟩) ?_; simp only [e_12, e_21, e_25, e_33, go_sem, seval]; rcases iteB h with ⟨e_37, h⟩ | ⟨e_37, h⟩
      ·
       obtain ⟨o_40, h_39, h⟩ := bindS h; simp only [e_12, e_21, e_25, e_33, e_37, go_sem, seval]; rcases o_40 with y_38 | _
       · (try dsimp only at h); refine ACalls.useA (trie_New_w N _ true _ h_39) [] (v' := .ptr 13 0 0) (H' := [.box [.vec false (List.map eTRange y_1), .int .u32 y_27, .int .i32 0, .int .u32 0, .int .u32 y_28, .int .i64 y_16, .row 11 0 y_29.length, .row 12 0 y_30.length] 81, .dead, .dead, .dead, .dead, .dead, .dead, .dead, .dead, .dead, .dead, .mem 1 (List.map eI64 y_29) 3, .mem 128 (List.map eA128U8 y_30) 85, .box [.vec false (List.map eTRange y_38), .int .u32 0, .int .i32 0, .int .u32 0, .int .u32 0, .int .i64 0, .row 14 0 0, .row 15 0 0] 81, .mem 1 [] 3, .mem 128 [] 85]) ?_; refine ck0 ?_; simp only [e_12, e_21, e_25, e_33, e_37, go_sem, seval]; obtain rfl := si h; rw [← hQ]; exact ⟨rfl, _, rfl, _, _, (RefV.out rfl), rfl, rfl⟩
       · (try dsimp only at h); refine ACalls.go0 (trie_New_w N _ true _ h_39) ?_; (try simp only [e_12, e_21, e_25, e_33, e_37, go_sem, seval]); obtain rfl := si h; rw [← hQ]; exact ⟨rfl, _, rfl, _, _, (RefV.out rfl), rfl, rfl⟩
      · simp only [e_12, e_21, e_25, e_33, e_37, go_sem, seval]; obtain rfl := si h; rw [← hQ]; exact ⟨rfl, _, rfl, _, _, (RefV.out rfl), rfl, rfl⟩
     · simp only [e_12, e_21, e_25, e_33, go_sem, seval]; obtain rfl := si h; rw [← hQ]; exact ⟨rfl, _, rfl, _, _, (RefV.out rfl), rfl, rfl⟩
    · simp only [e_12, e_21, e_25, go_sem, seval]; obtain rfl := si h; rw [← hQ]; exact ⟨rfl, _, rfl, _, _, (RefV.out rfl), rfl, rfl⟩
   · simp only [e_12, e_21, go_sem, seval]; obtain rfl := si h; rw [← hQ]; exact ⟨rfl, _, rfl, _, _, (RefV.out rfl), rfl, rfl⟩
  · simp only [e_12, go_sem, seval]; obtain rfl := si h; rw [← hQ]; exact ⟨rfl, _, rfl, _, _, (RefV.out rfl), rfl, rfl⟩
 ·
  (try dsimp only at h); refine ACalls.go0 (trie_New_w N _ true _ h_2) ?_; obtain ⟨y_41, h_42, h⟩ := bindS h; (try simp only [go_sem, seval]); refine ACalls.go0 (trie_Trie_Get_w N _ _ h_42) ?_; simp only [go_sem, seval]; rcases iteS h with ⟨e_44, h⟩ | ⟨e_44, h⟩
  ·
   obtain ⟨y_45, h_46, h⟩ := bindS h; simp only [e_44, go_sem, seval]; refine ACalls.go0 (trie_Trie_Get_w N _ _ h_46) ?_; simp only [e_44, go_sem, seval]; rcases iteS h with ⟨e_48, h⟩ | ⟨e_48, h⟩
   ·
    obtain ⟨y_49, h_50, h⟩ := bindS h; simp only [e_44, e_48, go_sem, seval]; refine ACalls.go0 (trie_Trie_Asked_w N _ h_50) ?_; simp only [e_44, e_48, go_sem, seval]; rcases iteS h with ⟨e_52, h⟩ | ⟨e_52, h⟩
    ·
     obtain ⟨y_53, h_54, h⟩ := bindS h; simp only [e_44, e_48, e_52, go_sem, seval]; refine ACalls.go0 (trie_Trie_Blocks_w N _ h_54) ?_; simp only [e_44, e_48, e_52, go_sem, seval]; rcases iteS h with ⟨e_56, h⟩ | ⟨e_56, h⟩
     ·
      obtain ⟨y_57, h_58, h⟩ := bindS h; simp only [e_44, e_48, e_52, e_56, go_sem, seval]; refine ACalls.go0 (trie_Trie_Built_w N _ h_58) ?_; simp only [e_44, e_48, e_52, e_56, go_sem, seval]; rcases iteB h with ⟨e_60, h⟩ | ⟨e_60, h⟩
      ·
       obtain ⟨o_63, h_62, h⟩ := bindS h; simp only [e_44, e_48, e_52, e_56, e_60, go_sem, seval]; rcases o_63 with y_61 | _
       · (try dsimp only at h); refine ACalls.useA (trie_New_w N _ true _ h_62) [] (v' := .ptr 0 0 0) (H' := [.box [.vec false (List.map eTRange y_61), .int .u32 0, .int .i32 0, .int .u32 0, .int .u32 0, .int .i64 0, .row 1 0 0, .row 2 0 0] 81, .mem 1 [] 3, .mem 128 [] 85]) ?_; refine ck0 ?_; simp only [e_44, e_48, e_52, e_56, e_60, go_sem, seval]; obtain rfl := si h; rw [← hQ]; exact ⟨rfl, _, rfl, _, _, (RefV.out rfl), rfl, rfl⟩
       · (try dsimp only at h); refine ACalls.go0 (trie_New_w N _ true _ h_62) ?_; (try simp only [e_44, e_48, e_52, e_56, e_60, go_sem, seval]); obtain rfl := si h; rw [← hQ]; exact ⟨rfl, _, rfl, _, _, (RefV.out rfl), rfl, rfl⟩
      · simp only [e_44, e_48, e_52, e_56, e_60, go_sem, seval]; obtain rfl := si h; rw [← hQ]; exact ⟨rfl, _, rfl, _, _, (RefV.out rfl), rfl, rfl⟩
     · simp only [e_44, e_48, e_52, e_56, go_sem, seval]; obtain rfl := si h; rw [← hQ]; exact ⟨rfl, _, rfl, _, _, (RefV.out rfl), rfl, rfl⟩
    · simp only [e_44, e_48, e_52, go_sem, seval]; obtain rfl := si h; rw [← hQ]; exact ⟨rfl, _, rfl, _, _, (RefV.out rfl), rfl, rfl⟩
   · simp only [e_44, e_48, go_sem, seval]; obtain rfl := si h; rw [← hQ]; exact ⟨rfl, _, rfl, _, _, (RefV.out rfl), rfl, rfl⟩
  · simp only [e_44, go_sem, seval]; obtain rfl := si h; rw [← hQ]; exact ⟨rfl, _, rfl, _, _, (RefV.out rfl), rfl, rfl⟩
theorem ref02_Right_L1_w (N : Nat) (l_0 : List TRange) (a_1 : Int) (c_0 : Bool) {R : AExit → ATm → List AObj → Prop} : ∀ (n : Nat) (i_3 : Int) (o : (Unit) ⊕ (Unit)), ref02_Right_L1 N l_0 a_1 n i_3 = some o → (match o with | .inl _ => R (.exit 0) ⟨77, [], []⟩ [] | .inr (_) => R .ret ⟨77, [(4, .bool false)], []⟩ []) →
  ALp Try.prog 0 B28_1 ⟨77, [(0, .vec c_0 (List.map eTRange l_0)), (1, .int .i64 a_1), (5, .int .i64 i_3)], []⟩ [] R := by
 intro n
 induction n with
 | zero =>
  intro i_3 o h _; exact no0 h
 | succ n ih =>
  intro i_3 o h hp; rw [ref02_Right_L1] at h; refine ALp.round ?_; generalize hQ : RoundQ _ _ _ _ = QQ; simp only [B28_1, A28, go_sem, seval]; rcases iteS h with ⟨e_5, h⟩ | ⟨e_5, h⟩
  ·
   obtain ⟨x_6, h_7, h⟩ := bindS h; have e_8 : (List.map eTRange l_0)[(i_3).toNat]? = some [.int .i32 x_6.From, .int .i32 x_6.To, .int .i64 x_6.Val] := atI_map eTRange h_7; have e_9 := eq_true (atI_some h_7).1; have e_10 := eq_true (atI_lt h_7); simp only [e_5, e_8, e_9, e_10, go_sem, seval]; rcases iteS h with ⟨e_12, h⟩ | ⟨e_12, h⟩
   · simp only [e_5, e_8, e_9, e_10, e_12, go_sem, seval]; cases h; rw [← hQ]; exact ⟨_, _, (Ref.out [4] rfl), hp⟩
   ·
    simp only [e_5, e_8, e_9, e_10, e_12, go_sem, seval]; rcases iteS h with ⟨e_14, h⟩ | ⟨e_14, h⟩
    · simp only [e_5, e_8, e_9, e_10, e_12, e_14, go_sem, seval]; cases h; rw [← hQ]; exact ⟨_, _, (Ref.out [4] rfl), hp⟩
    ·
     simp only [e_5, e_8, e_9, e_10, e_12, e_14, go_sem, seval]; rcases iteS h with ⟨e_16, h⟩ | ⟨e_16, h⟩
     · simp only [e_5, e_8, e_9, e_10, e_12, e_14, e_16, go_sem, seval]; cases h; rw [← hQ]; exact ⟨_, _, (Ref.out [4] rfl), hp⟩
     ·
      simp only [e_5, e_8, e_9, e_10, e_12, e_14, e_16, go_sem, seval]; rcases iteS h with ⟨e_18, h⟩ | ⟨e_18, h⟩
      · simp only [e_5, e_8, e_9, e_10, e_12, e_14, e_16, e_18, go_sem, seval]; cases h; rw [← hQ]; exact ⟨_, _, (Ref.out [4] rfl), hp⟩
      ·
       simp only [e_5, e_8, e_9, e_10, e_12, e_14, e_16, e_18, go_sem, seval]; rcases iteS h with ⟨e_20, h⟩ | ⟨e_20, h⟩
       · simp only [e_5, e_8, e_9, e_10, e_12, e_14, e_16, e_18, e_20, go_sem, seval]; cases h; rw [← hQ]; exact ⟨_, _, (Ref.out [4] rfl), hp⟩
       ·
        simp only [e_5, e_8, e_9, e_10, e_12, e_14, e_16, e_18, e_20, go_sem, seval]; rcases iteS h with ⟨e_22, h⟩ | ⟨e_22, h⟩
        ·
         obtain ⟨x_23, h_24, h⟩ := bindS h; have e_25 : (List.map eTRange l_0)[(IntKind.i64.wrap (i_3 - 1)).toNat]? = some [.int .i32 x_23.From, .int .i32 x_23.To, .int .i64 x_23.Val] := atI_map eTRange h_24; have e_26 := eq_true (atI_some h_24).1; have e_27 := eq_true (atI_lt h_24); simp only [e_5, e_8, e_9, e_10, e_12, e_14, e_16, e_18, e_20, e_22, e_25, e_26, e_27, go_sem, seval]; rcases iteS h with ⟨e_29, h⟩ | ⟨e_29, h⟩
         · simp only [e_5, e_8, e_9, e_10, e_12, e_14, e_16, e_18, e_20, e_22, e_25, e_26, e_27, e_29, go_sem, seval]; cases h; rw [← hQ]; exact ⟨_, _, (Ref.out [4] rfl), hp⟩
         · simp only [e_5, e_8, e_9, e_10, e_12, e_14, e_16, e_18, e_20, e_22, e_25, e_26, e_27, e_29, go_sem, seval]; rw [← hQ]; exact ⟨_, _, (Ref.out [0, 1, 5] rfl), (Nat.zero_le _), ih _ _ h hp⟩
        · simp only [e_5, e_8, e_9, e_10, e_12, e_14, e_16, e_18, e_20, e_22, go_sem, seval]; rw [← hQ]; exact ⟨_, _, (Ref.out [0, 1, 5] rfl), (Nat.zero_le _), ih _ _ h hp⟩
  · simp only [e_5, go_sem, seval]; cases h; rw [← hQ]; exact ⟨_, _, (Ref.out [] rfl), hp⟩
theorem ref02_Right_w (N : Nat) (l_0 : List TRange) (a_1 : Int) (c_0 : Bool) (z_1 : Bool) (h : ref02_Right N l_0 a_1 = some z_1) :
  ACalls Try.prog 28 [.vec c_0 (List.map eTRange l_0), .int .i64 a_1] [] (fun e H => H = [] ∧ e = .ret (.bool z_1)) := by
 unfold ref02_Right at h; refine ACalls.goN Try.func28 n28 a28 Try.ntmps28 r28 (by simp) 0 rfl ?_; generalize hQ : bodyA _ _ _ = QQ; simp only [A28, go_sem, seval]; rcases iteS h with ⟨e_2, h⟩ | ⟨e_2, h⟩
 · simp only [e_2, go_sem, seval]; obtain rfl := si h; rw [← hQ]; exact ⟨rfl, _, rfl, _, _, (RefV.out rfl), rfl, rfl⟩
 ·
  simp only [e_2, go_sem, seval]; obtain ⟨o_1004, h_1003, h⟩ := bindS h; refine ALp.ref (Ref.out [0, 1, 5] rfl) (Nat.zero_le _) (ref02_Right_L1_w N _ _ c_0 N _ o_1004 h_1003 ?_); rcases o_1004 with _ | _
  · (try dsimp only at h); refine LoopK_go rfl (Nat.zero_le _) ?_; simp only [e_2, go_sem, seval]; obtain rfl := si h; rw [← hQ]; exact ⟨rfl, _, rfl, _, _, (RefV.out rfl), rfl, rfl⟩
  · (try dsimp only at h); refine LoopK_ret ?_; obtain rfl := si h; rw [← hQ]; exact ⟨rfl, _, rfl, _, _, (RefV.out rfl), rfl, rfl⟩
theorem ref03_Edges_L2_w (N : Nat) (l_0 : List TRange) (i_2 : Int) (c_0 : Bool) {R : AExit → ATm → List AObj → Prop} : ∀ (n : Nat) (i_11 : Int) (s_12 : List Bool) (o : (List Bool)), ref03_Edges_L2 N l_0 i_2 n i_11 s_12 = some o → (match o with | z_1 => R (.exit 2) ⟨71, [(0, .vec c_0 (List.map eTRange l_0)), (3, .row 0 0 z_1.length), (4, .int .i64 i_2)], []⟩ [.mem 1 (List.map eB z_1) 4]) →
  ALp Try.prog 0 B55_2 ⟨71, [(0, .vec c_0 (List.map eTRange l_0)), (3, .row 0 0 s_12.length), (4, .int .i64 i_2), (5, .int .i64 i_11)], []⟩ [.mem 1 (List.map eB s_12) 4] R := by
 intro n
 induction n with
 | zero =>
  intro i_11 s_12 o h _; exact no0 h
 | succ n ih =>
  intro i_11 s_12 o h hp; rw [ref03_Edges_L2] at h; refine ALp.round ?_; generalize hQ : RoundQ _ _ _ _ = QQ; obtain ⟨x_13, h_14, h⟩ := bindS h; have e_15 : (List.map eTRange l_0)[(i_2).toNat]? = some [.int .i32 x_13.From, .int .i32 x_13.To, .int .i64 x_13.Val] := atI_map eTRange h_14; have e_16 := eq_true (atI_some h_14).1; have e_17 := eq_true (atI_lt h_14); simp only [B55_2, B55_1, A55, e_15, e_16, e_17, go_sem, seval]; rcases iteS h with ⟨e_19, h⟩ | ⟨e_19, h⟩
  ·
   simp only [e_15, e_16, e_17, e_19, go_sem, seval]; rcases iteS h with ⟨e_21, h⟩ | ⟨e_21, h⟩
   · obtain ⟨x_22, h_23, h⟩ := bindS h; have e_24 : (List.map eB s_12)[(i_11).toNat]? = some [.bool x_22] := atI_map eB h_23; have e_25 := eq_true (atI_some h_23).1; have e_26 := eq_true (atI_lt h_23); have e_27 : (List.map eB s_12).set (i_11).toNat [.bool true] = List.map eB (List.set s_12 (i_11).toNat true) := set_map s_12 eB (i_11).toNat true; simp only [e_15, e_16, e_17, e_19, e_21, e_24, e_25, e_26, e_27, go_sem, seval]; rw [← hQ]; exact ⟨_, _, (Ref.std [0, 3, 4, 5] [0] (by decide) low0 (by first | rfl | simp only [go_sem, seval]) (by first | rfl | simp only [go_sem, seval])), (Nat.zero_le _), ih _ _ _ h hp⟩
   ·
    simp only [e_15, e_16, e_17, e_19, e_21, go_sem, seval]; rcases iteS h with ⟨e_29, h⟩ | ⟨e_29, h⟩
    · obtain ⟨x_30, h_31, h⟩ := bindS h; have e_32 : (List.map eB s_12)[(i_11).toNat]? = some [.bool x_30] := atI_map eB h_31; have e_33 := eq_true (atI_some h_31).1; have e_34 := eq_true (atI_lt h_31); have e_35 : (List.map eB s_12).set (i_11).toNat [.bool true] = List.map eB (List.set s_12 (i_11).toNat true) := set_map s_12 eB (i_11).toNat true; simp only [e_15, e_16, e_17, e_19, e_21, e_29, e_32, e_33, e_34, e_35, go_sem, seval]; rw [← hQ]; exact ⟨_, _, (Ref.std [0, 3, 4, 5] [0] (by decide) low0 (by first | rfl | simp only [go_sem, seval]) (by first | rfl | simp only [go_sem, seval])), (Nat.zero_le _), ih _ _ _ h hp⟩
    · simp only [e_15, e_16, e_17, e_19, e_21, e_29, go_sem, seval]; rw [← hQ]; exact ⟨_, _, (Ref.std [0, 3, 4, 5] [0] (by decide) low0 rfl (by first | rfl | simp only [go_sem, seval])), (Nat.zero_le _), ih _ _ _ h hp⟩
  · simp only [e_15, e_16, e_17, e_19, go_sem, seval]; cases h; rw [← hQ]; exact ⟨_, _, (Ref.std [0, 3, 4] [0] (by decide) low0 rfl (by first | rfl | simp only [go_sem, seval])), hp⟩
theorem ref03_Edges_L3_w (N : Nat) (l_0 : List TRange) (c_0 : Bool) {R : AExit → ATm → List AObj → Prop} : ∀ (n : Nat) (i_2 : Int) (s_3 : List Bool) (o : (List Bool)), ref03_Edges_L3 N l_0 n i_2 s_3 = some o → (match o with | z_1 => R (.exit 0) ⟨71, [(3, .row 0 0 z_1.length)], []⟩ [.mem 1 (List.map eB z_1) 4]) →
  ALp Try.prog 0 B55_1 ⟨71, [(0, .vec c_0 (List.map eTRange l_0)), (3, .row 0 0 s_3.length), (4, .int .i64 i_2)], []⟩ [.mem 1 (List.map eB s_3) 4] R := by
 intro n
 induction n with
 | zero =>
  intro i_2 s_3 o h _; exact no0 h
 | succ n ih =>
  intro i_2 s_3 o h hp; rw [ref03_Edges_L3] at h; refine ALp.round ?_; generalize hQ : RoundQ _ _ _ _ = QQ; simp only [B55_1, A55, go_sem, seval]; rcases iteS h with ⟨e_5, h⟩ | ⟨e_5, h⟩
  · obtain ⟨x_6, h_7, h⟩ := bindS h; have e_8 : (List.map eTRange l_0)[(i_2).toNat]? = some [.int .i32 x_6.From, .int .i32 x_6.To, .int .i64 x_6.Val] := atI_map eTRange h_7; have e_9 := eq_true (atI_some h_7).1; have e_10 := eq_true (atI_lt h_7); simp only [e_5, e_8, e_9, e_10, go_sem, seval]; obtain ⟨y_1012, h_1011, h⟩ := bindS h; refine ALp.ref (Ref.std [0, 3, 4, 5] [0] (by decide) low0 rfl (by first | rfl | simp only [go_sem, seval])) (Nat.zero_le _) (ref03_Edges_L2_w N _ _ c_0 N _ _ y_1012 h_1011 ?_); refine LoopK_go rfl (Nat.zero_le _) ?_; simp only [e_5, e_8, e_9, e_10, go_sem, seval]; rw [← hQ]; exact ⟨_, _, (Ref.std [0, 3, 4] [0] (by decide) low0 rfl (by first | rfl | simp only [go_sem, seval])), (Nat.zero_le _), ih _ _ _ h hp⟩
  · simp only [e_5, go_sem, seval]; cases h; rw [← hQ]; exact ⟨_, _, (Ref.std [3] [0] (by decide) low0 rfl (by first | rfl | simp only [go_sem, seval])), hp⟩
theorem ref03_Edges_L4_w (N : Nat) (y_1003 : List Bool) {R : AExit → ATm → List AObj → Prop} : ∀ (n : Nat) (i_1009 : Int) (s_1010 : List Int) (o : (List Int)), ref03_Edges_L4 N y_1003 n i_1009 s_1010 = some o → (match o with | z_1 => R (.exit 4) ⟨71, [(6, .row 0 0 z_1.length)], []⟩ [.mem 1 (List.map eI64 z_1) 3]) →
  ALp Try.prog 0 B55_3 ⟨71, [(3, .row 0 0 y_1003.length), (6, .row 1 0 s_1010.length), (7, .int .i64 i_1009)], []⟩ [.mem 1 (List.map eB (List.set y_1003 432 true)) 4, .mem 1 (List.map eI64 s_1010) 3] R := by
 intro n
 induction n with
 | zero =>
  intro i_1009 s_1010 o h _; exact no0 h
 | succ n ih =>
  intro i_1009 s_1010 o h hp; rw [ref03_Edges_L4] at h; refine ALp.round ?_; generalize hQ : RoundQ _ _ _ _ = QQ; simp only [B55_3, A55, go_sem, seval]; rcases iteS h with ⟨e_1012, h⟩ | ⟨e_1012, h⟩
  ·
   obtain ⟨x_1013, h_1014, h⟩ := bindS h; have e_1015 : (List.map eB (List.set y_1003 432 true))[(i_1009).toNat]? = some [.bool x_1013] := atI_map eB h_1014; have e_1016 := eq_true (atI_some h_1014).1; have e_1017 : ((i_1009 : Int) < ((y_1003.length : Nat) : Int)) = True := eq_true (by have := atI_lt h_1014; simpa using this); simp only [e_1012, e_1015, e_1016, e_1017, go_sem, seval]; rcases iteB h with ⟨e_1019, h⟩ | ⟨e_1019, h⟩
   · have e_1020 := tk eI64 s_1010; have e_1021 : (List.map eI64 s_1010) ++ [[.int .i64 i_1009]] = (List.map eI64 (s_1010 ++ [i_1009])) := app_map s_1010 ([i_1009]) eI64; obtain ⟨e_1023, h⟩ := guardE h; simp only [e_1012, e_1015, e_1016, e_1017, e_1019, e_1020, e_1021, e_1023, go_sem, seval]; rw [← hQ]; exact ⟨_, _, (Ref.std [3, 6, 7] [0, 2] (by decide) low0 (by first | rfl | simp only [go_sem, seval]) (by first | rfl | simp only [go_sem, seval])), (Nat.zero_le _), ih _ _ _ h hp⟩
   · simp only [e_1012, e_1015, e_1016, e_1017, e_1019, go_sem, seval]; rw [← hQ]; exact ⟨_, _, (Ref.std [3, 6, 7] [0, 1] (by decide) low0 (by first | rfl | simp only [go_sem, seval]) (by first | rfl | simp only [go_sem, seval])), (Nat.zero_le _), ih _ _ _ h hp⟩
  · simp only [e_1012, go_sem, seval]; cases h; rw [← hQ]; exact ⟨_, _, (Ref.std [6] [1] (by decide) low0 rfl (by first | rfl | simp only [go_sem, seval])), hp⟩
theorem ref03_Edges_w (N : Nat) (l_0 : List TRange) (c_0 : Bool) (z_1 : List Int) (h : ref03_Edges N l_0 = some z_1) :
  ACalls Try.prog 55 [.vec c_0 (List.map eTRange l_0)] [] (fun e H => H = [] ∧ e = .ret (.vec false (List.map eI64 z_1))) := by
 unfold ref03_Edges at h; refine ACalls.goN Try.func55 n55 a55 Try.ntmps55 r55 (by simp) 0 rfl ?_; generalize hQ : bodyA _ _ _ = QQ; have e_1 : List.replicate 8704 [.bool false] = List.map eB (List.replicate 8704 false) := rep_map _ eB false; simp only [A55, e_1, go_sem, seval, -List.reduceReplicate]; obtain ⟨y_1003, h_1002, h⟩ := bindS h; refine ALp.ref (Ref.std [0, 3, 4] [0] (by decide) low0 (by simp only [go_sem, seval, -List.reduceReplicate]) (by simp only [go_sem, seval, -List.reduceReplicate])) (Nat.zero_le _) (ref03_Edges_L3_w N _ c_0 N _ _ y_1003 h_1002 ?_); refine LoopK_go rfl (Nat.zero_le _) ?_; obtain ⟨x_1004, h_1005, h⟩ := bindS h; have e_1006 : (List.map eB y_1003)[432]? = some [.bool x_1004] := atI_map eB h_1005; have e_1007 := eq_true (atI_lt h_1005); have e_1008 : (List.map eB y_1003).set 432 [.bool true] = List.map eB (List.set y_1003 432 true) := set_map y_1003 eB 432 true; simp only [e_1, e_1006, e_1007, e_1008, go_sem, seval, -List.reduceReplicate]; obtain ⟨y_2010, h_2009, h⟩ := bindS h; refine ALp.ref (Ref.trans (Ref.thaw (Nat.zero_le _) 6 rfl (sz := 1) (by decide) 3) (Ref.std [3, 6, 7] [0, 1] (by decide) low0 (by first | rfl | simp only [go_sem, seval, -List.reduceReplicate]) (by first | rfl | simp only [go_sem, seval, -List.reduceReplicate]))) (Nat.zero_le _) (ref03_Edges_L4_w N _ N _ _ y_2010 h_2009 ?_); refine LoopK_go rfl (Nat.zero_le _) ?_; simp only [e_1, e_1006, e_1007, e_1008, go_sem, seval, -List.reduceReplicate]; obtain rfl := si h; rw [← hQ]; exact ⟨rfl, _, rfl, _, _, (RefV.trans (RefV.frz (Nat.zero_le _) (id := 0) rfl (pures_map y_2010 eI64 (fun _ => by first | rfl | simp only [eA128U8, eA128I64, go_sem]))) (RefV.out (by first | rfl | simp only [go_sem, seval, -List.reduceReplicate]))), rfl, rfl⟩
theorem ref02_Valid_w (N : Nat) (a_0 : Int) (z_1 : Bool) (h : ref02_Valid N a_0 = some z_1) :
  ACalls Try.prog 53 [.int .i32 a_0] [] (fun e H => H = [] ∧ e = .ret (.bool z_1)) := by
 unfold ref02_Valid at h; refine ACalls.goN Try.func53 n53 a53 Try.ntmps53 r53 (by simp) 0 rfl ?_; generalize hQ : bodyA _ _ _ = QQ; simp only [A53, go_sem, seval]; rcases iteS h with ⟨e_2, h⟩ | ⟨e_2, h⟩
 ·
  simp only [e_2, go_sem, seval]; rcases iteS h with ⟨e_4, h⟩ | ⟨e_4, h⟩
  · simp only [e_2, e_4, go_sem, seval]; obtain rfl := si h; rw [← hQ]; exact ⟨rfl, _, rfl, _, _, (RefV.out rfl), rfl, rfl⟩
  ·
   simp only [e_2, e_4, go_sem, seval]; rcases iteS h with ⟨e_6, h⟩ | ⟨e_6, h⟩
   · simp only [e_2, e_4, e_6, go_sem, seval]; obtain rfl := si h; rw [← hQ]; exact ⟨rfl, _, rfl, _, _, (RefV.out (by first | rfl | simp only [go_sem, seval, e_2, e_4, e_6])), rfl, rfl⟩
   · simp only [e_2, e_4, e_6, go_sem, seval]; obtain rfl := si h; rw [← hQ]; exact ⟨rfl, _, rfl, _, _, (RefV.out rfl), rfl, rfl⟩
 ·
  simp only [e_2, go_sem, seval]; rcases iteS h with ⟨e_8, h⟩ | ⟨e_8, h⟩
  · simp only [e_2, e_8, go_sem, seval]; obtain rfl := si h; rw [← hQ]; exact ⟨rfl, _, rfl, _, _, (RefV.out (by first | rfl | simp only [go_sem, seval, e_2, e_8])), rfl, rfl⟩
  · simp only [e_2, e_8, go_sem, seval]; obtain rfl := si h; rw [← hQ]; exact ⟨rfl, _, rfl, _, _, (RefV.out rfl), rfl, rfl⟩
theorem ref02_Find_L1_w (N : Nat) (l_0 : List TRange) (a_1 : Int) (c_0 : Bool) {R : AExit → ATm → List AObj → Prop} : ∀ (n : Nat) (i_1 : Int) (o : (Unit) ⊕ (Int)), ref02_Find_L1 N l_0 a_1 n i_1 = some o → (match o with | .inl _ => R (.exit 0) ⟨34, [], []⟩ [] | .inr (z_1) => R .ret ⟨34, [(4, .int .i64 z_1), (5, .bool true)], []⟩ []) →
  ALp Try.prog 0 B54_1 ⟨34, [(0, .vec c_0 (List.map eTRange l_0)), (1, .int .i32 a_1), (6, .int .i64 i_1)], []⟩ [] R := by
 intro n
 induction n with
 | zero =>
  intro i_1 o h _; exact no0 h
 | succ n ih =>
  intro i_1 o h hp; rw [ref02_Find_L1] at h; refine ALp.round ?_; generalize hQ : RoundQ _ _ _ _ = QQ; simp only [B54_1, A54, go_sem, seval]; rcases iteS h with ⟨e_3, h⟩ | ⟨e_3, h⟩
  ·
   obtain ⟨x_4, h_5, h⟩ := bindS h; have e_6 : (List.map eTRange l_0)[(i_1).toNat]? = some [.int .i32 x_4.From, .int .i32 x_4.To, .int .i64 x_4.Val] := atI_map eTRange h_5; have e_7 := eq_true (atI_some h_5).1; have e_8 := eq_true (atI_lt h_5); simp only [e_3, e_6, e_7, e_8, go_sem, seval]; rcases iteS h with ⟨e_10, h⟩ | ⟨e_10, h⟩
   ·
    simp only [e_3, e_6, e_7, e_8, e_10, go_sem, seval]; rcases iteS h with ⟨e_12, h⟩ | ⟨e_12, h⟩
    · simp only [e_3, e_6, e_7, e_8, e_10, e_12, go_sem, seval]; cases h; rw [← hQ]; exact ⟨_, _, (Ref.out [4, 5] rfl), hp⟩
    · simp only [e_3, e_6, e_7, e_8, e_10, e_12, go_sem, seval]; rw [← hQ]; exact ⟨_, _, (Ref.out [0, 1, 6] rfl), (Nat.zero_le _), ih _ _ h hp⟩
   · simp only [e_3, e_6, e_7, e_8, e_10, go_sem, seval]; rw [← hQ]; exact ⟨_, _, (Ref.out [0, 1, 6] rfl), (Nat.zero_le _), ih _ _ h hp⟩
  · simp only [e_3, go_sem, seval]; cases h; rw [← hQ]; exact ⟨_, _, (Ref.out [] rfl), hp⟩
theorem ref02_Find_w (N : Nat) (l_0 : List TRange) (a_1 : Int) (c_0 : Bool) (z_1 : Int) (z_2 : Bool) (h : ref02_Find N l_0 a_1 = some (z_1, z_2)) :
  ACalls Try.prog 54 [.vec c_0 (List.map eTRange l_0), .int .i32 a_1] [] (fun e H => H = [] ∧ e = .ret (.tup [.int .i64 z_1, .bool z_2])) := by
 unfold ref02_Find at h; refine ACalls.goN Try.func54 n54 a54 Try.ntmps54 r54 (by simp) 0 rfl ?_; generalize hQ : bodyA _ _ _ = QQ; simp only [A54, go_sem, seval]; obtain ⟨o_1003, h_1001, h⟩ := bindS h; refine ALp.ref (Ref.out [0, 1, 6] rfl) (Nat.zero_le _) (ref02_Find_L1_w N _ _ c_0 N _ o_1003 h_1001 ?_); rcases o_1003 with _ | y_1002
 · (try dsimp only at h); refine LoopK_go rfl (Nat.zero_le _) ?_; simp only [go_sem, seval]; obtain ⟨rfl, rfl⟩ := pj (si h); rw [← hQ]; exact ⟨rfl, _, rfl, _, _, (RefV.out rfl), rfl, rfl⟩
 · (try dsimp only at h); refine LoopK_ret ?_; obtain ⟨rfl, rfl⟩ := pj (si h); rw [← hQ]; exact ⟨rfl, _, rfl, _, _, (RefV.out rfl), rfl, rfl⟩
theorem ref03_Get_w (N : Nat) (l_0 : List TRange) (a_1 : Int) (c_0 : Bool) (z_1 : Int) (h : ref03_Get N l_0 a_1 = some z_1) :
  ACalls Try.prog 33 [.vec c_0 (List.map eTRange l_0), .int .i32 a_1] [] (fun e H => H = [] ∧ e = .ret (.int .i64 z_1)) := by
 unfold ref03_Get at h; refine ACalls.goN Try.func33 n33 a33 Try.ntmps33 r33 (by simp) 0 rfl ?_; generalize hQ : bodyA _ _ _ = QQ; obtain ⟨y_1, h_2, h⟩ := bindS h; simp only [A33, go_sem, seval]; refine ACalls.go0 (ref02_Valid_w N _ _ h_2) ?_; simp only [go_sem, seval]; rcases iteB h with ⟨e_4, h⟩ | ⟨e_4, h⟩
 · obtain ⟨⟨y_5, y_6⟩, h_7, h⟩ := bindS h; (try dsimp only at h); simp only [e_4, go_sem, seval]; refine ACalls.go0 (ref02_Find_w N _ _ c_0 _ _ h_7) ?_; simp only [e_4, go_sem, seval]; obtain rfl := si h; rw [← hQ]; exact ⟨rfl, _, rfl, _, _, (RefV.out rfl), rfl, rfl⟩
 · simp only [e_4, go_sem, seval]; obtain rfl := si h; rw [← hQ]; exact ⟨rfl, _, rfl, _, _, (RefV.out rfl), rfl, rfl⟩
theorem ref03_Blocks_L5_w (N : Nat) (l_0 : List TRange) (y_1 : List Int) (i_4 : Int) (i_5 : Int) (s_6 : List Bool) (s_7 : List (Vector Int 128)) (c_0 : Bool) {R : AExit → ATm → List AObj → Prop} : ∀ (n : Nat) (q_27 : Bool) (i_28 : Int) (v_29 : Vector Int 128) (o : Bool × (Vector Int 128)), ref03_Blocks_L5 N l_0 y_1 i_4 i_5 s_6 s_7 n q_27 i_28 v_29 = some o → (match o with | (z_1, z_2) => R (.exit 2) ⟨104, [(0, .vec c_0 (List.map eTRange l_0)), (3, .vec false (List.map eI64 y_1)), (4, .int .i64 (IntKind.i64.wrap (i_4 + 1))), (5, .row 0 0 s_6.length), (6, .row 1 0 s_7.length), (7, .int .i64 i_5), (8, .ptr 2 0 0), (9, .bool z_1)], []⟩ [.mem 1 (List.map eB s_6) 4, .mem 128 (List.map eA128I64 s_7) 89, .box (arrI .i64 z_2) 89]) →
  ALp Try.prog 0 B34_2 ⟨104, [(0, .vec c_0 (List.map eTRange l_0)), (3, .vec false (List.map eI64 y_1)), (4, .int .i64 (IntKind.i64.wrap (i_4 + 1))), (5, .row 0 0 s_6.length), (6, .row 1 0 s_7.length), (7, .int .i64 i_5), (8, .ptr 2 0 0), (9, .bool q_27), (10, .int .i64 i_28)], []⟩ [.mem 1 (List.map eB s_6) 4, .mem 128 (List.map eA128I64 s_7) 89, .box (arrI .i64 v_29) 89] R := by
 intro n
 induction n with
 | zero =>
  intro q_27 i_28 v_29 o h _; exact no0 h
 | succ n ih =>
  intro q_27 i_28 v_29 o h hp; rw [ref03_Blocks_L5] at h; refine ALp.round ?_; generalize hQ : RoundQ _ _ _ _ = QQ; simp only [B34_2, B34_1, A34, go_sem, seval]; rcases iteS h with ⟨e_31, h⟩ | ⟨e_31, h⟩
  ·
   obtain ⟨y_32, h_33, h⟩ := bindS h; simp only [e_31, go_sem, seval]; refine ACalls.go0 (ref03_Get_w N _ _ c_0 _ h_33) ?_; obtain ⟨x_34, h_35, h⟩ := bindS h; have e_36 : List.take 1 (List.drop (i_28).toNat (arrI .i64 v_29)) = [.int .i64 x_34] := arr_one h_35; have e_37 : ((0 : Int) ≤ i_28) = True := arr_ge h_35; have e_38 : ((i_28 : Int) < 128) = True := arr_lt h_35; have e_39 : ((i_28).toNat + 1 ≤ 128) = True := arr_le h_35; simp only [e_31, e_36, e_37, e_38, e_39, go_sem, seval]; rcases iteB h with ⟨e_41, h⟩ | ⟨e_41, h⟩
   · obtain ⟨x_42, h_43, h⟩ := bindS h; have e_44 : List.take 1 (List.drop (i_28).toNat (arrI .i64 (Vector.setIfInBounds v_29 (i_28).toNat y_32))) = [.int .i64 x_42] := arr_one h_43; have e_45 : ((0 : Int) ≤ i_28) = True := arr_ge h_43; have e_46 : ((i_28 : Int) < 128) = True := arr_lt h_43; have e_47 : ((i_28).toNat + 1 ≤ 128) = True := arr_le h_43; obtain ⟨x_48, h_49, h⟩ := bindS h; have e_50 : List.take 1 (arrI .i64 (Vector.setIfInBounds v_29 (i_28).toNat y_32)) = [.int .i64 x_48] := arr_one (k := .i64) (i := 0) h_49; simp only [e_31, e_36, e_37, e_38, e_39, e_41, e_44, e_45, e_46, e_47, e_50, go_sem, seval]; rw [← hQ]; exact ⟨_, _, (Ref.std [0, 3, 4, 5, 6, 7, 8, 9, 10] [0, 1, 2] (by decide) low0 (by first | rfl | simp only [go_sem, seval, e_31, e_41]) (by first | rfl | simp only [go_sem, seval])), (Nat.zero_le _), ih _ _ _ _ h hp⟩
   · simp only [e_31, e_36, e_37, e_38, e_39, e_41, go_sem, seval]; rw [← hQ]; exact ⟨_, _, (Ref.std [0, 3, 4, 5, 6, 7, 8, 9, 10] [0, 1, 2] (by decide) low0 (by rfl) (by first | rfl | simp only [go_sem, seval])), (Nat.zero_le _), ih _ _ _ _ h hp⟩
  · simp only [e_31, go_sem, seval]; cases h; rw [← hQ]; exact ⟨_, _, (Ref.std [0, 3, 4, 5, 6, 7, 8, 9] [0, 1, 2] (by decide) low0 (by first | rfl | simp only [go_sem, seval, e_31]) (by first | rfl | simp only [go_sem, seval])), hp⟩
theorem ref03_Blocks_L6_w (N : Nat) (l_0 : List TRange) (y_1 : List Int) (i_4 : Int) (i_5 : Int) (s_6 : List Bool) (s_7 : List (Vector Int 128)) (y_1029 : Vector Int 128) (c_0 : Bool) {R : AExit → ATm → List AObj → Prop} : ∀ (n : Nat) (q_1041 : Bool) (i_1042 : Int) (o : Bool), ref03_Blocks_L6 N l_0 y_1 i_4 i_5 s_6 s_7 y_1029 n q_1041 i_1042 = some o → (match o with | z_1 => R (.exit 4) ⟨104, [(0, .vec c_0 (List.map eTRange l_0)), (3, .vec false (List.map eI64 y_1)), (4, .int .i64 (IntKind.i64.wrap (i_4 + 1))), (5, .row 0 0 s_6.length), (6, .row 1 0 s_7.length), (7, .int .i64 i_5), (8, .ptr 2 0 0), (11, .bool z_1)], []⟩ [.mem 1 (List.map eB s_6) 4, .mem 128 (List.map eA128I64 s_7) 89, .box (arrI .i64 y_1029) 89]) →
  ALp Try.prog 0 B34_3 ⟨104, [(0, .vec c_0 (List.map eTRange l_0)), (3, .vec false (List.map eI64 y_1)), (4, .int .i64 (IntKind.i64.wrap (i_4 + 1))), (5, .row 0 0 s_6.length), (6, .row 1 0 s_7.length), (7, .int .i64 i_5), (8, .ptr 2 0 0), (11, .bool q_1041), (12, .int .i64 i_1042)], []⟩ [.mem 1 (List.map eB s_6) 4, .mem 128 (List.map eA128I64 s_7) 89, .box (arrI .i64 y_1029) 89] R := by
 intro n
 induction n with
 | zero =>
  intro q_1041 i_1042 o h _; exact no0 h
 | succ n ih =>
  intro q_1041 i_1042 o h hp; rw [ref03_Blocks_L6] at h; refine ALp.round ?_; generalize hQ : RoundQ _ _ _ _ = QQ; simp only [B34_3, B34_1, A34, go_sem, seval]; rcases iteS h with ⟨e_1044, h⟩ | ⟨e_1044, h⟩
  ·
   simp only [e_1044, go_sem, seval]; rcases iteB h with ⟨e_1046, h⟩ | ⟨e_1046, h⟩
   · simp only [e_1044, e_1046, go_sem, seval]; rw [← hQ]; exact ⟨_, _, (Ref.std [0, 3, 4, 5, 6, 7, 8, 11, 12] [0, 1, 2] (by decide) low0 (by rfl) (by first | rfl | simp only [go_sem, seval])), (Nat.zero_le _), ih _ _ _ h hp⟩
   · obtain ⟨x_1047, h_1048, h⟩ := bindS h; have e_1049 : (List.map eA128I64 s_7)[(i_1042).toNat]? = some (arrI .i64 x_1047) := atI_map eA128I64 h_1048; have e_1050 := eq_true (atI_some h_1048).1; have e_1051 := eq_true (atI_lt h_1048); simp only [e_1044, e_1046, e_1049, e_1050, e_1051, go_sem, seval]; rw [← hQ]; exact ⟨_, _, (Ref.std [0, 3, 4, 5, 6, 7, 8, 11, 12] [0, 1, 2] (by decide) low0 (by first | rfl | simp only [go_sem, seval, e_1044, e_1046]) (by first | rfl | simp only [go_sem, seval])), (Nat.zero_le _), ih _ _ _ h hp⟩
  · simp only [e_1044, go_sem, seval]; cases h; rw [← hQ]; exact ⟨_, _, (Ref.std [0, 3, 4, 5, 6, 7, 8, 11] [0, 1, 2] (by decide) low0 (by first | rfl | simp only [go_sem, seval, e_1044]) (by first | rfl | simp only [go_sem, seval])), hp⟩
theorem ref03_Blocks_L7_w (N : Nat) (l_0 : List TRange) (y_1 : List Int) (c_0 : Bool) {R : AExit → ATm → List AObj → Prop} : ∀ (n : Nat) (i_4 : Int) (i_5 : Int) (s_6 : List Bool) (s_7 : List (Vector Int 128)) (o : (List Bool) × (List (Vector Int 128))), ref03_Blocks_L7 N l_0 y_1 n i_4 i_5 s_6 s_7 = some o → (match o with | (z_1, z_2) => R (.exit 0) ⟨104, [(5, .row 0 0 z_1.length), (6, .row 1 0 z_2.length)], []⟩ [.mem 1 (List.map eB z_1) 4, .mem 128 (List.map eA128I64 z_2) 89]) →
  ALp Try.prog 0 B34_1 ⟨104, [(0, .vec c_0 (List.map eTRange l_0)), (3, .vec false (List.map eI64 y_1)), (4, .int .i64 i_4), (5, .row 0 0 s_6.length), (6, .row 1 0 s_7.length), (7, .int .i64 i_5)], []⟩ [.mem 1 (List.map eB s_6) 4, .mem 128 (List.map eA128I64 s_7) 89] R := by
 intro n
 induction n with
 | zero =>
  intro i_4 i_5 s_6 s_7 o h _; exact no0 h
 | succ n ih =>
  intro i_4 i_5 s_6 s_7 o h hp; rw [ref03_Blocks_L7] at h; refine ALp.round ?_; generalize hQ : RoundQ _ _ _ _ = QQ; simp only [B34_1, A34, go_sem, seval]; rcases iteS h with ⟨e_9, h⟩ | ⟨e_9, h⟩
  ·
   simp only [e_9, go_sem, seval]; rcases iteS h with ⟨e_11, h⟩ | ⟨e_11, h⟩
   · obtain ⟨y_12, h_13, h⟩ := bindS h; simp only [e_9, e_11, go_sem, seval]; refine ACalls.go0 (ref03_Get_w N _ _ c_0 _ h_13) ?_; obtain ⟨x_14, h_15, h⟩ := bindS h; have e_16 : (List.map eB s_6)[(y_12).toNat]? = some [.bool x_14] := atI_map eB h_15; have e_17 := eq_true (atI_some h_15).1; have e_18 := eq_true (atI_lt h_15); have e_19 : (List.map eB s_6).set (y_12).toNat [.bool true] = List.map eB (List.set s_6 (y_12).toNat true) := set_map s_6 eB (y_12).toNat true; simp only [e_9, e_11, e_16, e_17, e_18, e_19, go_sem, seval]; rw [← hQ]; exact ⟨_, _, (Ref.std [0, 3, 4, 5, 6, 7] [0, 1] (by decide) low0 (by first | rfl | simp only [go_sem, seval]) (by first | rfl | simp only [go_sem, seval])), (Nat.zero_le _), ih _ _ _ _ _ h hp⟩
   ·
    obtain ⟨x_20, h_21, h⟩ := bindS h; have e_22 : (List.map eI64 y_1)[(i_4).toNat]? = some [.int .i64 x_20] := atI_map eI64 h_21; have e_23 := eq_true (atI_some h_21).1; have e_24 := eq_true (atI_lt h_21); simp only [e_9, e_11, e_22, e_23, e_24, go_sem, seval]; rcases iteS h with ⟨e_26, h⟩ | ⟨e_26, h⟩
    ·
     simp only [e_9, e_11, e_22, e_23, e_24, e_26, go_sem, seval]; obtain ⟨⟨y_1028, y_1029⟩, h_1027, h⟩ := bindS h; (try dsimp only at h); refine ALp.ref (Ref.std [0, 3, 4, 5, 6, 7, 8, 9, 10] [0, 1, 2] (by decide) low0 (by rfl) (by first | rfl | simp only [go_sem, seval])) (Nat.zero_le _) (ref03_Blocks_L5_w N _ _ _ _ _ _ c_0 N _ _ _ _ h_1027 ?_); refine LoopK_go rfl (Nat.zero_le _) ?_; simp only [e_9, e_11, e_22, e_23, e_24, e_26, go_sem, seval]; rcases iteB h with ⟨e_1031, h⟩ | ⟨e_1031, h⟩
     · obtain ⟨x_1032, h_1033, h⟩ := bindS h; have e_1034 : List.take 1 (arrI .i64 y_1029) = [.int .i64 x_1032] := arr_one (k := .i64) (i := 0) h_1033; obtain ⟨x_1035, h_1036, h⟩ := bindS h; have e_1037 : (List.map eB s_6)[(x_1032).toNat]? = some [.bool x_1035] := atI_map eB h_1036; have e_1038 := eq_true (atI_some h_1036).1; have e_1039 := eq_true (atI_lt h_1036); have e_1040 : (List.map eB s_6).set (x_1032).toNat [.bool true] = List.map eB (List.set s_6 (x_1032).toNat true) := set_map s_6 eB (x_1032).toNat true; simp only [e_9, e_11, e_22, e_23, e_24, e_26, e_1031, e_1034, e_1037, e_1038, e_1039, e_1040, go_sem, seval]; rw [← hQ]; exact ⟨_, _, (Ref.std [0, 3, 4, 5, 6, 7] [0, 1] (by decide) low0 (by first | rfl | simp only [go_sem, seval]) (by first | rfl | simp only [go_sem, seval])), (Nat.zero_le _), ih _ _ _ _ _ h hp⟩
     ·
      simp only [e_9, e_11, e_22, e_23, e_24, e_26, e_1031, go_sem, seval]; obtain ⟨y_2042, h_2041, h⟩ := bindS h; refine ALp.ref (Ref.std [0, 3, 4, 5, 6, 7, 8, 11, 12] [0, 1, 2] (by decide) low0 (by rfl) (by first | rfl | simp only [go_sem, seval])) (Nat.zero_le _) (ref03_Blocks_L6_w N _ _ _ _ _ _ _ c_0 N _ _ y_2042 h_2041 ?_); refine LoopK_go rfl (Nat.zero_le _) ?_; simp only [e_9, e_11, e_22, e_23, e_24, e_26, e_1031, go_sem, seval]; rcases iteB h with ⟨e_2044, h⟩ | ⟨e_2044, h⟩
      · simp only [e_9, e_11, e_22, e_23, e_24, e_26, e_1031, e_2044, go_sem, seval]; rw [← hQ]; exact ⟨_, _, (Ref.std [0, 3, 4, 5, 6, 7] [0, 1] (by decide) low0 (by rfl) (by first | rfl | simp only [go_sem, seval])), (Nat.zero_le _), ih _ _ _ _ _ h hp⟩
      · have e_2045 := tk eA128I64 s_7; have e_2046 : (List.map eA128I64 s_7) ++ [(arrI .i64 y_1029)] = (List.map eA128I64 (s_7 ++ [y_1029])) := app_map s_7 ([y_1029]) eA128I64; obtain ⟨e_2048, h⟩ := guardE h; simp only [e_9, e_11, e_22, e_23, e_24, e_26, e_1031, e_2044, e_2045, e_2046, e_2048, go_sem, seval]; rw [← hQ]; exact ⟨_, _, (Ref.std [0, 3, 4, 5, 6, 7] [0, 3] (by decide) low0 (by first | rfl | simp only [go_sem, seval]) (by first | rfl | simp only [go_sem, seval])), (Nat.zero_le _), ih _ _ _ _ _ h hp⟩
    · obtain ⟨y_2049, h_2050, h⟩ := bindS h; simp only [e_9, e_11, e_22, e_23, e_24, e_26, go_sem, seval]; refine ACalls.go0 (ref03_Get_w N _ _ c_0 _ h_2050) ?_; obtain ⟨x_2051, h_2052, h⟩ := bindS h; have e_2053 : (List.map eB s_6)[(y_2049).toNat]? = some [.bool x_2051] := atI_map eB h_2052; have e_2054 := eq_true (atI_some h_2052).1; have e_2055 := eq_true (atI_lt h_2052); have e_2056 : (List.map eB s_6).set (y_2049).toNat [.bool true] = List.map eB (List.set s_6 (y_2049).toNat true) := set_map s_6 eB (y_2049).toNat true; simp only [e_9, e_11, e_22, e_23, e_24, e_26, e_2053, e_2054, e_2055, e_2056, go_sem, seval]; rw [← hQ]; exact ⟨_, _, (Ref.std [0, 3, 4, 5, 6, 7] [0, 1] (by decide) low0 (by first | rfl | simp only [go_sem, seval]) (by first | rfl | simp only [go_sem, seval])), (Nat.zero_le _), ih _ _ _ _ _ h hp⟩
  · simp only [e_9, go_sem, seval]; cases h; rw [← hQ]; exact ⟨_, _, (Ref.std [5, 6] [0, 1] (by decide) low0 rfl (by first | rfl | simp only [go_sem, seval])), hp⟩
theorem ref03_Blocks_L8_w (N : Nat) (y_1005 : List Bool) {R : AExit → ATm → List AObj → Prop} : ∀ (n : Nat) (i_1007 : Int) (i_1008 : Int) (o : Int), ref03_Blocks_L8 N y_1005 n i_1007 i_1008 = some o → (match o with | z_1 => R (.exit 6) ⟨104, [(13, .int .i64 z_1)], []⟩ []) →
  ALp Try.prog 0 B34_4 ⟨104, [(5, .row 0 0 y_1005.length), (13, .int .i64 i_1007), (14, .int .i64 i_1008)], []⟩ [.mem 1 (List.map eB y_1005) 4] R := by
 intro n
 induction n with
 | zero =>
  intro i_1007 i_1008 o h _; exact no0 h
 | succ n ih =>
  intro i_1007 i_1008 o h hp; rw [ref03_Blocks_L8] at h; refine ALp.round ?_; generalize hQ : RoundQ _ _ _ _ = QQ; simp only [B34_4, A34, go_sem, seval]; rcases iteS h with ⟨e_1010, h⟩ | ⟨e_1010, h⟩
  ·
   obtain ⟨x_1011, h_1012, h⟩ := bindS h; have e_1013 : (List.map eB y_1005)[(i_1008).toNat]? = some [.bool x_1011] := atI_map eB h_1012; have e_1014 := eq_true (atI_some h_1012).1; have e_1015 := eq_true (atI_lt h_1012); simp only [e_1010, e_1013, e_1014, e_1015, go_sem, seval]; rcases iteB h with ⟨e_1017, h⟩ | ⟨e_1017, h⟩
   · simp only [e_1010, e_1013, e_1014, e_1015, e_1017, go_sem, seval]; rw [← hQ]; exact ⟨_, _, (Ref.std [5, 13, 14] [0] (by decide) low0 rfl (by first | rfl | simp only [go_sem, seval])), (Nat.zero_le _), ih _ _ _ h hp⟩
   · simp only [e_1010, e_1013, e_1014, e_1015, e_1017, go_sem, seval]; rw [← hQ]; exact ⟨_, _, (Ref.std [5, 13, 14] [0] (by decide) low0 rfl (by first | rfl | simp only [go_sem, seval])), (Nat.zero_le _), ih _ _ _ h hp⟩
  · simp only [e_1010, go_sem, seval]; cases h; rw [← hQ]; exact ⟨_, _, (Ref.out [13] rfl), hp⟩
theorem ref03_Blocks_w (N : Nat) (l_0 : List TRange) (c_0 : Bool) (z_1 : Int) (h : ref03_Blocks N l_0 = some z_1) :
  ACalls Try.prog 34 [.vec c_0 (List.map eTRange l_0)] [] (fun e H => H = [] ∧ e = .ret (.int .i64 z_1)) := by
 unfold ref03_Blocks at h; refine ACalls.goN Try.func34 n34 a34 Try.ntmps34 r34 (by simp) 0 rfl ?_; generalize hQ : bodyA _ _ _ = QQ; obtain ⟨y_1, h_2, h⟩ := bindS h; simp only [A34, go_sem, seval, -List.reduceReplicate]; refine ACalls.go0 (ref03_Edges_w N _ c_0 _ h_2) ?_; have e_3 : List.replicate 256 [.bool false] = List.map eB (List.replicate 256 false) := rep_map _ eB false; simp only [e_3, go_sem, seval, -List.reduceReplicate]; obtain ⟨⟨y_1005, y_1006⟩, h_1004, h⟩ := bindS h; (try dsimp only at h); refine ALp.ref (Ref.trans (Ref.thaw (Nat.zero_le _) 6 rfl (sz := 128) (by decide) 89) (Ref.std [0, 3, 4, 5, 6, 7] [0, 1] (by decide) low0 (by simp only [go_sem, seval, -List.reduceReplicate]) (by simp only [go_sem, seval, -List.reduceReplicate]))) (Nat.zero_le _) (ref03_Blocks_L7_w N _ _ c_0 N _ _ _ _ _ h_1004 ?_); refine LoopK_go rfl (Nat.zero_le _) ?_; simp only [e_3, go_sem, seval, -List.reduceReplicate]; obtain ⟨y_2008, h_2007, h⟩ := bindS h; refine ALp.ref (Ref.std [5, 13, 14] [0] (by decide) low0 rfl (by first | rfl | simp only [go_sem, seval, -List.reduceReplicate])) (Nat.zero_le _) (ref03_Blocks_L8_w N _ N _ _ y_2008 h_2007 ?_); refine LoopK_go rfl (Nat.zero_le _) ?_; simp only [e_3, go_sem, seval, -List.reduceReplicate]; obtain rfl := si h; rw [← hQ]; exact ⟨rfl, _, rfl, _, _, (RefV.out rfl), rfl, rfl⟩
theorem law03_TrieBlocks_w (N : Nat) (l_0 : List TRange) (c_0 : Bool) (z_1 : Bool) (h : law03_TrieBlocks N l_0 = some z_1) :
  ACalls Try.prog 9 [.vec c_0 (List.map eTRange l_0)] [] (fun e H => H = [] ∧ e = .ret (.bool z_1)) := by
 unfold law03_TrieBlocks at h; refine ACalls.goN Try.func9 n9 a9 Try.ntmps9 r9 (by simp) 0 rfl ?_; generalize hQ : bodyA _ _ _ = QQ; obtain ⟨y_1, h_2, h⟩ := bindS h; simp only [A9, go_sem, seval]; refine ACalls.go0 (law03_alive_w N _ h_2) ?_; simp only [go_sem, seval]; rcases iteB h with ⟨e_4, h⟩ | ⟨e_4, h⟩
 ·
  simp only [e_4, go_sem, seval]; rcases iteS h with ⟨e_6, h⟩ | ⟨e_6, h⟩
  · simp only [e_4, e_6, go_sem, seval]; obtain rfl := si h; rw [← hQ]; exact ⟨rfl, _, rfl, _, _, (RefV.out rfl), rfl, rfl⟩
  ·
   obtain ⟨y_7, h_8, h⟩ := bindS h; simp only [e_4, e_6, go_sem, seval]; refine ACalls.go0 (ref02_Right_w N _ _ c_0 _ h_8) ?_; simp only [e_4, e_6, go_sem, seval]; rcases iteB h with ⟨e_10, h⟩ | ⟨e_10, h⟩
   ·
    obtain ⟨o_13, h_12, h⟩ := bindS h; simp only [e_4, e_6, e_10, go_sem, seval]; rcases o_13 with y_11 | _
    ·
     (try dsimp only at h); refine ACalls.useA (trie_New_w N _ c_0 _ h_12) [] (v' := .ptr 0 0 0) (H' := [.box [.vec false (List.map eTRange y_11), .int .u32 0, .int .i32 0, .int .u32 0, .int .u32 0, .int .i64 0, .row 1 0 0, .row 2 0 0] 81, .mem 1 [] 3, .mem 128 [] 85]) ?_; refine ck0 ?_; obtain ⟨⟨y_14, y_15, y_16, y_17, y_18⟩, h_19, h⟩ := bindS h; (try dsimp only at h); simp only [e_4, e_6, e_10, go_sem, seval]; refine ACalls.goA (trie_Trie_Blocks_row_w N _ _ _ _ _ _ _ false _ _ _ _ _ h_19) [0, 1, 2] (ho := ⟨(by first | rfl | simp only [go_sem, seval, e_4, e_6, e_10]), (by first | rfl | simp only [go_sem, seval, e_4, e_6, e_10]), (by first | rfl | simp only [go_sem, seval, e_4, e_6, e_10]), trivial⟩) ?_; obtain ⟨y_20, h_21, h⟩ := bindS h; simp only [e_4, e_6, e_10, go_sem, seval]; refine ACalls.go0 (ref03_Blocks_w N _ c_0 _ h_21) ?_; simp only [e_4, e_6, e_10, go_sem, seval]; rcases iteS h with ⟨e_23, h⟩ | ⟨e_23, h⟩
     ·
      obtain ⟨y_24, h_25, h⟩ := bindS h; simp only [e_4, e_6, e_10, e_23, go_sem, seval]; refine ACalls.goA (trie_Trie_Built_row_w N _ _ _ _ _ _ _ false _ h_25) [0, 3, 4] (ho := ⟨(by first | rfl | simp only [go_sem, seval, e_4, e_6, e_10, e_23]), (by first | rfl | simp only [go_sem, seval, e_4, e_6, e_10, e_23]), (by first | rfl | simp only [go_sem, seval, e_4, e_6, e_10, e_23]), trivial⟩) ?_; simp only [e_4, e_6, e_10, e_23, go_sem, seval]; rcases iteB h with ⟨e_27, h⟩ | ⟨e_27, h⟩
      · obtain ⟨y_28, h_29, h⟩ := bindS h; simp only [e_4, e_6, e_10, e_23, e_27, go_sem, seval]; refine ACalls.goA (trie_Trie_Asked_row_w N _ _ _ _ _ _ _ false _ h_29) [0, 5, 6] (ho := ⟨(by first | rfl | simp only [go_sem, seval, e_4, e_6, e_10, e_23, e_27]), (by first | rfl | simp only [go_sem, seval, e_4, e_6, e_10, e_23, e_27]), (by first | rfl | simp only [go_sem, seval, e_4, e_6, e_10, e_23, e_27]), trivial⟩) ?_; simp only [e_4, e_6, e_10, e_23, e_27, go_sem, seval]; obtain rfl := si h; rw [← hQ]; exact ⟨rfl, _, rfl, _, _, (RefV.out (by first | rfl | simp only [go_sem, seval, e_4, e_6, e_10, e_23, e_27])), rfl, rfl⟩
      · simp only [e_4, e_6, e_10, e_23, e_27, go_sem, seval]; obtain rfl := si h; rw [← hQ]; exact ⟨rfl, _, rfl, _, _, (RefV.out rfl), rfl, rfl⟩
     · simp only [e_4, e_6, e_10, e_23, go_sem, seval]; obtain rfl := si h; rw [← hQ]; exact ⟨rfl, _, rfl, _, _, (RefV.out rfl), rfl, rfl⟩
    ·
     (try dsimp only at h); refine ACalls.go0 (trie_New_w N _ c_0 _ h_12) ?_; obtain ⟨y_30, h_31, h⟩ := bindS h; (try simp only [e_4, e_6, e_10, go_sem, seval]); refine ACalls.go0 (trie_Trie_Blocks_w N _ h_31) ?_; obtain ⟨y_32, h_33, h⟩ := bindS h; simp only [e_4, e_6, e_10, go_sem, seval]; refine ACalls.go0 (ref03_Blocks_w N _ c_0 _ h_33) ?_; simp only [e_4, e_6, e_10, go_sem, seval]; rcases iteS h with ⟨e_35, h⟩ | ⟨e_35, h⟩
     ·
      obtain ⟨y_36, h_37, h⟩ := bindS h; simp only [e_4, e_6, e_10, e_35, go_sem, seval]; refine ACalls.go0 (trie_Trie_Built_w N _ h_37) ?_; simp only [e_4, e_6, e_10, e_35, go_sem, seval]; rcases iteB h with ⟨e_39, h⟩ | ⟨e_39, h⟩
      · obtain ⟨y_40, h_41, h⟩ := bindS h; simp only [e_4, e_6, e_10, e_35, e_39, go_sem, seval]; refine ACalls.go0 (trie_Trie_Asked_w N _ h_41) ?_; simp only [e_4, e_6, e_10, e_35, e_39, go_sem, seval]; obtain rfl := si h; rw [← hQ]; exact ⟨rfl, _, rfl, _, _, (RefV.out (by first | rfl | simp only [go_sem, seval, e_4, e_6, e_10, e_35, e_39])), rfl, rfl⟩
      · simp only [e_4, e_6, e_10, e_35, e_39, go_sem, seval]; obtain rfl := si h; rw [← hQ]; exact ⟨rfl, _, rfl, _, _, (RefV.out rfl), rfl, rfl⟩
     · simp only [e_4, e_6, e_10, e_35, go_sem, seval]; obtain rfl := si h; rw [← hQ]; exact ⟨rfl, _, rfl, _, _, (RefV.out rfl), rfl, rfl⟩
   · simp only [e_4, e_6, e_10, go_sem, seval]; obtain rfl := si h; rw [← hQ]; exact ⟨rfl, _, rfl, _, _, (RefV.out rfl), rfl, rfl⟩
 · simp only [e_4, go_sem, seval]; obtain rfl := si h; rw [← hQ]; exact ⟨rfl, _, rfl, _, _, (RefV.out rfl), rfl, rfl⟩
end Go.Proofs.Ytnbnajjoinahiaa.AI
