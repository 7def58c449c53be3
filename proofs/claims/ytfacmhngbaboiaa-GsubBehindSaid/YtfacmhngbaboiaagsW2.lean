/- Walks, further ones. -/
import Derived.Test.YtfacmhngbaboiaagsW1
set_option linter.unusedVariables false
set_option linter.unusedSimpArgs false
set_option maxRecDepth 100000
set_option maxHeartbeats 1000000
namespace Go.Proofs.Ytfacmhngbaboiaa.AI
open Go.Proofs (Try.prog)
attribute [local go_sem] subs_eU8 subs_eI64 subs_eTSpan subs_eTArr3_I64 subs_eTSet subs_eTAct subs_eTCtx subs_eTClass subs_eLI64 subs_eTLig subs_eLTLig subs_eTValue subs_eTTwo subs_eLTTwo subs_eTArr2_TAnchor subs_eTMark subs_eTAnchor subs_eLTAnchor subs_eLLTAnchor subs_eB mk_eTSpan mk_eTArr3_I64 mk_eTSet mk_eTAct mk_eTCtx mk_eTClass mk_eTLig mk_eTValue mk_eTTwo mk_eTArr2_TAnchor mk_eTMark mk_eTAnchor
theorem gsub_reader_several_w (N : Nat) (l_0 : List Int) (a_1 : Int) (a_2 : Int) (a_3 : Int) (a_4 : Int) (c_0 : Bool) (o : (O2T) ⊕ Unit) (h : gsub_reader_several N l_0 a_1 a_2 a_3 a_4 = some o) :
  ACalls Try.prog 51 [.ptr 0 0 0, .int .i64 a_3, .int .i64 a_4] [.box [.vec c_0 (List.map eU8 l_0), .int .i64 a_1, .int .i64 a_2] 100] (fun e H => match o with | .inl (z_1, z_2, z_3, z_4, z_5, z_6, z_7, z_8, z_9, z_10, z_11, z_12, z_13, z_14, z_15, z_16, z_17) => H = [.box [.vec c_0 (List.map eU8 l_0), .int .i64 a_1, .int .i64 z_17] 100] ∧ e = .ret (.agg [.int .i64 z_1, .vec false (List.map eTSpan z_2), .bool z_3, .int .i64 z_4, .vec false (List.map eLI64 z_5), .vec false (List.map eLTLig z_6), .vec false (List.map eTCtx z_7), .vec false (List.map eTValue z_8), .vec false (List.map eLTTwo z_9), .vec false (List.map eTClass z_10), .vec false (List.map eTClass z_11), .vec false (List.map eLTTwo z_12), .vec false (List.map eTArr2_TAnchor z_13), .vec false (List.map eTMark z_14), .vec false (List.map eTSpan z_15), .vec false (List.map eLLTAnchor z_16)]) | .inr _ => H = [.dead] ∧ e = .pan (.iface 58 (.agg []))) := by
 unfold gsub_reader_several at h; refine ACalls.goN Try.func51 n51 a51 Try.ntmps51 r51 (by simp) 1 rfl ?_; generalize hQ : bodyA _ _ _ = QQ; obtain ⟨o_3, h_2, h⟩ := bindS h; simp only [A51, go_sem, seval]; rcases o_3 with y_1 | _
 ·
  (try dsimp only at h); refine ACalls.goA (gsub_reader_number_w N _ _ _ c_0 _ h_2) [0] ?_; obtain ⟨o_7, h_6, h⟩ := bindS h; simp only [go_sem, seval]; rcases o_7 with y_5 | _
  ·
   (try dsimp only at h); refine ACalls.goA (gsub_reader_spans_w N _ _ _ _ c_0 _ h_6) [0] ?_; obtain ⟨o_12, h_11, h⟩ := bindS h; simp only [go_sem, seval]; rcases o_12 with ⟨y_9, y_10⟩ | _
   ·
    (try dsimp only at h); refine ACalls.goA (gsub_reader_each_w N _ _ _ _ c_0 false _ h_11) [0] ?_; simp only [go_sem, seval]; obtain ⟨o_1016, h_1014, h⟩ := bindS h; refine ALp.ref (Ref.trans (Ref.thawB (by simp) (id := 2) 4 rfl rfl (sz := 1) (by decide) 48) (Ref.std [0, 2, 6, 7, 19, 20, 21] [0, 1, 2, 3] (by decide) (by decide) rfl (by first | rfl | simp only [go_sem, seval]))) (by simp) (gsub_reader_several_L1_w N _ _ _ _ _ _ _ c_0 N _ _ o_1016 h_1014 ?_); rcases o_1016 with y_1015 | _
    · (try dsimp only at h); refine LoopK_go rfl (by simp) ?_; simp only [go_sem, seval]; cases h; rw [← hQ]; exact ⟨rfl, _, rfl, _, _, (RefV.trans (RefV.frz (by simp) (id := 3) rfl (pures_map y_1015 eLI64 (fun _ => rfl))) (RefV.trans (RefV.std (v' := .agg [.int .i64 a_3, .vec false (List.map eTSpan y_5), .bool false, .int .i64 0, .vec false (List.map eLI64 y_1015), nn, nn, nn, nn, nn, nn, nn, nn, nn, nn, nn]) [0] (by decide) (by decide) (by first | rfl | simp only [go_sem, seval]) (by first | rfl | simp only [go_sem, seval])) (RefV.weak (Wks.cons (Wk.agg (Wks.cons (Wk.refl _) (Wks.cons (Wk.refl _) (Wks.cons (Wk.refl _) (Wks.cons (Wk.refl _) (Wks.cons (Wk.refl _) (Wks.cons Wk.vec (Wks.cons Wk.vec (Wks.cons Wk.vec (Wks.cons Wk.vec (Wks.cons Wk.vec (Wks.cons Wk.vec (Wks.cons Wk.vec (Wks.cons Wk.vec (Wks.cons Wk.vec (Wks.cons Wk.vec (Wks.cons Wk.vec (Wks.nil)))))))))))))))))) Wks.nil) (WkH.refl _)))), rfl, rfl⟩
    · (try dsimp only at h); intro _ _ h_1017; refine LoopK_pan ?_; cases h; rw [← hQ]; exact ⟨h_1017, _, _, RefV.dead rfl, rfl, rfl⟩
   · (try dsimp only at h); refine ACalls.panA (gsub_reader_each_w N _ _ _ _ c_0 false _ h_11) [0] ?_; (try simp only [CallK_pan, dCallK_pan, panK_ap]); cases h; rw [← hQ]; exact ⟨rfl, _, _, RefV.dead rfl, rfl, rfl⟩
  · (try dsimp only at h); refine ACalls.panA (gsub_reader_spans_w N _ _ _ _ c_0 _ h_6) [0] ?_; (try simp only [CallK_pan, dCallK_pan, panK_ap]); cases h; rw [← hQ]; exact ⟨rfl, _, _, RefV.dead rfl, rfl, rfl⟩
 · (try dsimp only at h); refine ACalls.panA (gsub_reader_number_w N _ _ _ c_0 _ h_2) [0] ?_; (try simp only [CallK_pan, dCallK_pan, panK_ap]); cases h; rw [← hQ]; exact ⟨rfl, _, _, RefV.dead rfl, rfl, rfl⟩
theorem gsub_reader_ligatures_L3_w (N : Nat) (i_14 : Int) (y_25 : Int) (y_9 : List Int) (i_15 : Int) (y_33 : List Int) (l_0 : List Int) (a_1 : Int) (y_10 : Int) (y_5 : List TSpan) (s_16 : List (List TLig)) (x_19 : Int) (c_0 : Bool) {R : AExit → ATm → List AObj → Prop} : ∀ (n : Nat) (i_37 : Int) (i_38 : Int) (s_39 : List TLig) (o : ((List TLig)) ⊕ (Unit)), gsub_reader_ligatures_L3 N i_14 y_25 y_9 i_15 y_33 l_0 a_1 y_10 y_5 s_16 x_19 n i_37 i_38 s_39 = some o → (match o with | .inl z_1 => R (.exit 2) ⟨68, [(0, .ptr 0 0 0), (2, .ptr 1 0 0), (3, .ptr 2 0 0), (4, .int .i64 (IntKind.i64.wrap (i_14 + y_25))), (8, .row 4 0 z_1.length), (22, .vec false (List.map eI64 y_9)), (23, .int .i64 (y_9.length : Int)), (24, .int .i64 i_15)], []⟩ [.box [.vec c_0 (List.map eU8 l_0), .int .i64 a_1, .int .i64 y_10] 100, .box [.int .i64 0, nn, .bool false, .int .i64 0, nn, nn, nn, nn, nn, nn, nn, nn, nn, nn, nn, nn] 35, .box [.int .i64 4, .vec false (List.map eTSpan y_5), .bool false, .int .i64 0, nn, .row 3 0 s_16.length, nn, nn, nn, nn, nn, nn, nn, nn, nn, nn] 35, .mem 1 (List.map eLTLig s_16) 41, .mem 2 (List.map eTLig z_1) 77] | .inr (_) => ∀ (tb : ATm) (Hb : List AObj), tb.ds = [] → R (.pan (.iface 58 (.agg []))) tb Hb) →
  ALp Try.prog 1 B52_2 ⟨68, [(0, .ptr 0 0 0), (2, .ptr 1 0 0), (3, .ptr 2 0 0), (4, .int .i64 (IntKind.i64.wrap (i_14 + y_25))), (7, .ptr 4 0 0), (8, .row 5 0 s_39.length), (22, .vec false (List.map eI64 y_9)), (23, .int .i64 (y_9.length : Int)), (24, .int .i64 i_15), (41, .vec false (List.map eI64 y_33)), (42, .int .i64 (y_33.length : Int)), (43, .int .i64 i_37)], []⟩ [.box [.vec c_0 (List.map eU8 l_0), .int .i64 a_1, .int .i64 y_10] 100, .box [.int .i64 0, nn, .bool false, .int .i64 0, nn, nn, nn, nn, nn, nn, nn, nn, nn, nn, nn, nn] 35, .box [.int .i64 4, .vec false (List.map eTSpan y_5), .bool false, .int .i64 0, nn, .row 3 0 s_16.length, nn, nn, nn, nn, nn, nn, nn, nn, nn, nn] 35, .mem 1 (List.map eLTLig s_16) 41, .box [.vec c_0 (List.map eU8 l_0), .int .i64 (IntKind.i64.wrap (a_1 + x_19)), .int .i64 i_38] 100, .mem 2 (List.map eTLig s_39) 77] R := by
 intro n
 induction n with
 | zero =>
  intro i_37 i_38 s_39 o h _; exact no0 h
 | succ n ih =>
  intro i_37 i_38 s_39 o h hp; rw [gsub_reader_ligatures_L3] at h; refine ALp.round ?_; generalize hQ : RoundQ _ _ _ _ = QQ; simp only [B52_2, B52_1, A52, go_sem, seval]; rcases iteS h with ⟨e_41, h⟩ | ⟨e_41, h⟩
  ·
   obtain ⟨x_42, h_43, h⟩ := bindS h; have e_44 : (List.map eI64 y_33)[(i_37).toNat]? = some [.int .i64 x_42] := atI_map eI64 h_43; have e_45 := eq_true (atI_some h_43).1; have e_46 := eq_true (atI_lt h_43); obtain ⟨_, h_47, h⟩ := bindS h; simp only [e_41, e_44, e_45, e_46, go_sem, seval]; refine ACalls.goA (gsub_reader_part_w N _ _ _ _ c_0 h_47) [4] (ho := ⟨(by first | rfl | simp only [go_sem, seval, e_41]), trivial⟩) ?_; obtain ⟨o_50, h_49, h⟩ := bindS h; simp only [e_41, e_44, e_45, e_46, go_sem, seval]; rcases o_50 with y_48 | _
   ·
    (try dsimp only at h); refine ACalls.goA (gsub_reader_number_w N _ _ _ c_0 _ h_49) [6] (ho := ⟨(by first | rfl | simp only [go_sem, seval, e_41]), trivial⟩) ?_; obtain ⟨o_55, h_54, h⟩ := bindS h; simp only [e_41, e_44, e_45, e_46, go_sem, seval]; rcases o_55 with ⟨y_52, y_53⟩ | _
    · (try dsimp only at h); refine ACalls.goA (gsub_reader_list_w N _ _ _ _ _ c_0 _ h_54) [6] (ho := ⟨(by first | rfl | simp only [go_sem, seval, e_41]), trivial⟩) ?_; have e_57 := tk eTLig s_39; have e_58 : (List.map eTLig s_39) ++ [[.vec false (List.map eI64 y_52), .int .i64 y_48]] = (List.map eTLig (s_39 ++ [TLig.mk y_52 y_48])) := app_map s_39 ([TLig.mk y_52 y_48]) eTLig; obtain ⟨e_60, h⟩ := guardE h; simp only [e_41, e_44, e_45, e_46, e_57, e_58, e_60, go_sem, seval]; rw [← hQ]; exact ⟨_, _, (Ref.std [0, 2, 3, 4, 7, 8, 22, 23, 24, 41, 42, 43] [0, 1, 2, 3, 4, 7] (by decide) (by decide) (by first | rfl | simp only [go_sem, seval]) (by first | rfl | simp only [go_sem, seval])), (by simp), ih _ _ _ _ h hp⟩
    · (try dsimp only at h); refine ACalls.panA (gsub_reader_list_w N _ _ _ _ _ c_0 _ h_54) [6] (ho := ⟨(by first | rfl | simp only [go_sem, seval, e_41]), trivial⟩) ?_; (try simp only [CallK_pan, dCallK_pan, panK_ap]); cases h; rw [← hQ]; exact hp _ _ rfl
   · (try dsimp only at h); refine ACalls.panA (gsub_reader_number_w N _ _ _ c_0 _ h_49) [6] (ho := ⟨(by first | rfl | simp only [go_sem, seval, e_41]), trivial⟩) ?_; (try simp only [CallK_pan, dCallK_pan, panK_ap]); cases h; rw [← hQ]; exact hp _ _ rfl
  · simp only [e_41, go_sem, seval]; cases h; rw [← hQ]; exact ⟨_, _, (Ref.std [0, 2, 3, 4, 8, 22, 23, 24] [0, 1, 2, 3, 5] (by decide) (by decide) rfl (by first | rfl | simp only [go_sem, seval])), hp⟩
theorem gsub_reader_ligatures_L4_w (N : Nat) (y_9 : List Int) (l_0 : List Int) (a_1 : Int) (y_10 : Int) (y_5 : List TSpan) (c_0 : Bool) {R : AExit → ATm → List AObj → Prop} : ∀ (n : Nat) (i_14 : Int) (i_15 : Int) (s_16 : List (List TLig)) (o : ((List (List TLig))) ⊕ (Unit)), gsub_reader_ligatures_L4 N y_9 l_0 a_1 y_10 y_5 n i_14 i_15 s_16 = some o → (match o with | .inl z_1 => R (.exit 0) ⟨68, [(2, .ptr 1 0 0), (3, .ptr 2 0 0)], []⟩ [.box [.vec c_0 (List.map eU8 l_0), .int .i64 a_1, .int .i64 y_10] 100, .box [.int .i64 0, nn, .bool false, .int .i64 0, nn, nn, nn, nn, nn, nn, nn, nn, nn, nn, nn, nn] 35, .box [.int .i64 4, .vec false (List.map eTSpan y_5), .bool false, .int .i64 0, nn, .row 3 0 z_1.length, nn, nn, nn, nn, nn, nn, nn, nn, nn, nn] 35, .mem 1 (List.map eLTLig z_1) 41] | .inr (_) => ∀ (tb : ATm) (Hb : List AObj), tb.ds = [] → R (.pan (.iface 58 (.agg []))) tb Hb) →
  ALp Try.prog 1 B52_1 ⟨68, [(0, .ptr 0 0 0), (2, .ptr 1 0 0), (3, .ptr 2 0 0), (4, .int .i64 i_14), (22, .vec false (List.map eI64 y_9)), (23, .int .i64 (y_9.length : Int)), (24, .int .i64 i_15)], []⟩ [.box [.vec c_0 (List.map eU8 l_0), .int .i64 a_1, .int .i64 y_10] 100, .box [.int .i64 0, nn, .bool false, .int .i64 0, nn, nn, nn, nn, nn, nn, nn, nn, nn, nn, nn, nn] 35, .box [.int .i64 4, .vec false (List.map eTSpan y_5), .bool false, .int .i64 0, nn, .row 3 0 s_16.length, nn, nn, nn, nn, nn, nn, nn, nn, nn, nn] 35, .mem 1 (List.map eLTLig s_16) 41] R := by
 intro n
 induction n with
 | zero =>
  intro i_14 i_15 s_16 o h _; exact no0 h
 | succ n ih =>
  intro i_14 i_15 s_16 o h hp; rw [gsub_reader_ligatures_L4] at h; refine ALp.round ?_; generalize hQ : RoundQ _ _ _ _ = QQ; simp only [B52_1, A52, go_sem, seval]; rcases iteS h with ⟨e_18, h⟩ | ⟨e_18, h⟩
  ·
   obtain ⟨x_19, h_20, h⟩ := bindS h; have e_21 : (List.map eI64 y_9)[(i_15).toNat]? = some [.int .i64 x_19] := atI_map eI64 h_20; have e_22 := eq_true (atI_some h_20).1; have e_23 := eq_true (atI_lt h_20); obtain ⟨_, h_24, h⟩ := bindS h; simp only [e_18, e_21, e_22, e_23, go_sem, seval]; refine ACalls.goA (gsub_reader_part_w N _ _ _ _ c_0 h_24) [0] (ho := ⟨(by first | rfl | simp only [go_sem, seval, e_18]), trivial⟩) ?_; obtain ⟨o_27, h_26, h⟩ := bindS h; simp only [e_18, e_21, e_22, e_23, go_sem, seval]; rcases o_27 with y_25 | _
   ·
    (try dsimp only at h); refine ACalls.goA (gsub_reader_number_w N _ _ _ c_0 _ h_26) [4] (ho := ⟨(by first | rfl | simp only [go_sem, seval, e_18]), trivial⟩) ?_; obtain ⟨o_30, h_29, h⟩ := bindS h; simp only [e_18, e_21, e_22, e_23, go_sem, seval]; rcases o_30 with _ | _
    ·
     (try dsimp only at h); refine ACalls.go0 (gsub_must_w N _ _ h_29) ?_; have e_32 := eq_true (of_decide_eq_true (gsub_must_inl h_29)); obtain ⟨o_35, h_34, h⟩ := bindS h; simp only [e_18, e_21, e_22, e_23, e_32, go_sem, seval]; rcases o_35 with y_33 | _
     ·
      (try dsimp only at h); refine ACalls.goA (gsub_reader_row_w N _ _ _ _ c_0 _ h_34) [4] (ho := ⟨(by first | rfl | simp only [go_sem, seval, e_18, e_32]), trivial⟩) ?_; simp only [e_18, e_21, e_22, e_23, e_32, go_sem, seval]; obtain ⟨o_1039, h_1037, h⟩ := bindS h; refine ALp.ref (Ref.trans (Ref.thaw (by simp) 8 rfl (sz := 2) (by decide) 77) (Ref.std [0, 2, 3, 4, 7, 8, 22, 23, 24, 41, 42, 43] [0, 1, 2, 3, 4, 5] (by decide) (by decide) rfl (by first | rfl | simp only [go_sem, seval]))) (by simp) (gsub_reader_ligatures_L3_w N _ _ _ _ _ _ _ _ _ _ _ c_0 N _ _ _ o_1039 h_1037 ?_); rcases o_1039 with y_1038 | _
      · (try dsimp only at h); refine LoopK_ref rfl (ta1 := ⟨68, [(0, .ptr 0 0 0), (2, .ptr 1 0 0), (3, .ptr 2 0 0), (4, .int .i64 (IntKind.i64.wrap (i_14 + y_25))), (8, .vec false (List.map eTLig y_1038)), (22, .vec false (List.map eI64 y_9)), (23, .int .i64 (y_9.length : Int)), (24, .int .i64 i_15)], []⟩) (H1 := [.box [.vec c_0 (List.map eU8 l_0), .int .i64 a_1, .int .i64 y_10] 100, .box [.int .i64 0, nn, .bool false, .int .i64 0, nn, nn, nn, nn, nn, nn, nn, nn, nn, nn, nn, nn] 35, .box [.int .i64 4, .vec false (List.map eTSpan y_5), .bool false, .int .i64 0, nn, .row 3 0 s_16.length, nn, nn, nn, nn, nn, nn, nn, nn, nn, nn] 35, .mem 1 (List.map eLTLig s_16) 41]) (Ref.trans (Ref.frz (by simp) (id := 4) rfl (pures_map y_1038 eTLig (fun _ => rfl))) (Ref.std [0, 2, 3, 4, 8, 22, 23, 24] [0, 1, 2, 3] (by decide) (by decide) (by first | rfl | simp only [go_sem, seval]) (by first | rfl | simp only [go_sem, seval]))) (by simp) ?_; have e_1040 := tk eLTLig s_16; have e_1041 : (List.map eLTLig s_16) ++ [[.vec false (List.map eTLig y_1038)]] = (List.map eLTLig (s_16 ++ [y_1038])) := app_map s_16 ([y_1038]) eLTLig; obtain ⟨e_1043, h⟩ := guardE h; simp only [e_18, e_21, e_22, e_23, e_32, e_1040, e_1041, e_1043, go_sem, seval]; rw [← hQ]; exact ⟨_, _, (Ref.std [0, 2, 3, 4, 22, 23, 24] [0, 1, 2, 4] (by decide) (by decide) rfl (by first | rfl | simp only [go_sem, seval])), (by simp), ih _ _ _ _ h hp⟩
      · (try dsimp only at h); intro _ _ h_1044; refine LoopK_pan ?_; cases h; rw [← hQ]; exact hp _ _ h_1044
     · (try dsimp only at h); refine ACalls.panA (gsub_reader_row_w N _ _ _ _ c_0 _ h_34) [4] (ho := ⟨(by first | rfl | simp only [go_sem, seval, e_18, e_32]), trivial⟩) ?_; (try simp only [CallK_pan, dCallK_pan, panK_ap]); cases h; rw [← hQ]; exact hp _ _ rfl
    · (try dsimp only at h); refine ACalls.panA (gsub_must_w N _ _ h_29) [] ?_; (try simp only [CallK_pan, dCallK_pan, panK_ap]); cases h; rw [← hQ]; exact hp _ _ rfl
   · (try dsimp only at h); refine ACalls.panA (gsub_reader_number_w N _ _ _ c_0 _ h_26) [4] (ho := ⟨(by first | rfl | simp only [go_sem, seval, e_18]), trivial⟩) ?_; (try simp only [CallK_pan, dCallK_pan, panK_ap]); cases h; rw [← hQ]; exact hp _ _ rfl
  · simp only [e_18, go_sem, seval]; cases h; rw [← hQ]; exact ⟨_, _, (Ref.std [2, 3] [0, 1, 2, 3] (by decide) (by decide) rfl (by first | rfl | simp only [go_sem, seval])), hp⟩
theorem gsub_reader_ligatures_w (N : Nat) (l_0 : List Int) (a_1 : Int) (a_2 : Int) (c_0 : Bool) (o : (O2T) ⊕ Unit) (h : gsub_reader_ligatures N l_0 a_1 a_2 = some o) :
  ACalls Try.prog 52 [.ptr 0 0 0] [.box [.vec c_0 (List.map eU8 l_0), .int .i64 a_1, .int .i64 a_2] 100] (fun e H => match o with | .inl (z_1, z_2, z_3, z_4, z_5, z_6, z_7, z_8, z_9, z_10, z_11, z_12, z_13, z_14, z_15, z_16, z_17) => H = [.box [.vec c_0 (List.map eU8 l_0), .int .i64 a_1, .int .i64 z_17] 100] ∧ e = .ret (.agg [.int .i64 z_1, .vec false (List.map eTSpan z_2), .bool z_3, .int .i64 z_4, .vec false (List.map eLI64 z_5), .vec false (List.map eLTLig z_6), .vec false (List.map eTCtx z_7), .vec false (List.map eTValue z_8), .vec false (List.map eLTTwo z_9), .vec false (List.map eTClass z_10), .vec false (List.map eTClass z_11), .vec false (List.map eLTTwo z_12), .vec false (List.map eTArr2_TAnchor z_13), .vec false (List.map eTMark z_14), .vec false (List.map eTSpan z_15), .vec false (List.map eLLTAnchor z_16)]) | .inr _ => H = [.dead] ∧ e = .pan (.iface 58 (.agg []))) := by
 unfold gsub_reader_ligatures at h; refine ACalls.goN Try.func52 n52 a52 Try.ntmps52 r52 (by simp) 1 rfl ?_; generalize hQ : bodyA _ _ _ = QQ; obtain ⟨o_3, h_2, h⟩ := bindS h; simp only [A52, go_sem, seval]; rcases o_3 with y_1 | _
 ·
  (try dsimp only at h); refine ACalls.goA (gsub_reader_number_w N _ _ _ c_0 _ h_2) [0] ?_; obtain ⟨o_7, h_6, h⟩ := bindS h; simp only [go_sem, seval]; rcases o_7 with y_5 | _
  ·
   (try dsimp only at h); refine ACalls.goA (gsub_reader_spans_w N _ _ _ _ c_0 _ h_6) [0] ?_; obtain ⟨o_12, h_11, h⟩ := bindS h; simp only [go_sem, seval]; rcases o_12 with ⟨y_9, y_10⟩ | _
   ·
    (try dsimp only at h); refine ACalls.goA (gsub_reader_each_w N _ _ _ _ c_0 false _ h_11) [0] ?_; simp only [go_sem, seval]; obtain ⟨o_1016, h_1014, h⟩ := bindS h; refine ALp.ref (Ref.trans (Ref.thawB (by simp) (id := 2) 5 rfl rfl (sz := 1) (by decide) 41) (Ref.std [0, 2, 3, 4, 22, 23, 24] [0, 1, 2, 3] (by decide) (by decide) rfl (by first | rfl | simp only [go_sem, seval]))) (by simp) (gsub_reader_ligatures_L4_w N _ _ _ _ _ c_0 N _ _ _ o_1016 h_1014 ?_); rcases o_1016 with y_1015 | _
    · (try dsimp only at h); refine LoopK_go rfl (by simp) ?_; simp only [go_sem, seval]; cases h; rw [← hQ]; exact ⟨rfl, _, rfl, _, _, (RefV.trans (RefV.frz (by simp) (id := 3) rfl (pures_map y_1015 eLTLig (fun _ => rfl))) (RefV.trans (RefV.std (v' := .agg [.int .i64 4, .vec false (List.map eTSpan y_5), .bool false, .int .i64 0, nn, .vec false (List.map eLTLig y_1015), nn, nn, nn, nn, nn, nn, nn, nn, nn, nn]) [0] (by decide) (by decide) (by first | rfl | simp only [go_sem, seval]) (by first | rfl | simp only [go_sem, seval])) (RefV.weak (Wks.cons (Wk.agg (Wks.cons (Wk.refl _) (Wks.cons (Wk.refl _) (Wks.cons (Wk.refl _) (Wks.cons (Wk.refl _) (Wks.cons Wk.vec (Wks.cons (Wk.refl _) (Wks.cons Wk.vec (Wks.cons Wk.vec (Wks.cons Wk.vec (Wks.cons Wk.vec (Wks.cons Wk.vec (Wks.cons Wk.vec (Wks.cons Wk.vec (Wks.cons Wk.vec (Wks.cons Wk.vec (Wks.cons Wk.vec (Wks.nil)))))))))))))))))) Wks.nil) (WkH.refl _)))), rfl, rfl⟩
    · (try dsimp only at h); intro _ _ h_1017; refine LoopK_pan ?_; cases h; rw [← hQ]; exact ⟨h_1017, _, _, RefV.dead rfl, rfl, rfl⟩
   · (try dsimp only at h); refine ACalls.panA (gsub_reader_each_w N _ _ _ _ c_0 false _ h_11) [0] ?_; (try simp only [CallK_pan, dCallK_pan, panK_ap]); cases h; rw [← hQ]; exact ⟨rfl, _, _, RefV.dead rfl, rfl, rfl⟩
  · (try dsimp only at h); refine ACalls.panA (gsub_reader_spans_w N _ _ _ _ c_0 _ h_6) [0] ?_; (try simp only [CallK_pan, dCallK_pan, panK_ap]); cases h; rw [← hQ]; exact ⟨rfl, _, _, RefV.dead rfl, rfl, rfl⟩
 · (try dsimp only at h); refine ACalls.panA (gsub_reader_number_w N _ _ _ c_0 _ h_2) [0] ?_; (try simp only [CallK_pan, dCallK_pan, panK_ap]); cases h; rw [← hQ]; exact ⟨rfl, _, _, RefV.dead rfl, rfl, rfl⟩
theorem octet_U32_w (N : Nat) (l_0 : List Int) (a_1 : Int) (c_0 : Bool) (z_1 : Int) (z_2 : Bool) (h : octet_U32 N l_0 a_1 = some (z_1, z_2)) :
  ACalls Try.prog 79 [.vec c_0 (List.map eU8 l_0), .int .i64 a_1] [] (fun e H => H = [] ∧ e = .ret (.tup [.int .i64 z_1, .bool z_2])) := by
 unfold octet_U32 at h; refine ACalls.goN Try.func79 n79 a79 Try.ntmps79 r79 (by simp) 0 rfl ?_; generalize hQ : bodyA _ _ _ = QQ; obtain ⟨⟨y_1, y_2⟩, h_3, h⟩ := bindS h; (try dsimp only at h); simp only [A79, go_sem, seval]; refine ACalls.go0 (octet_read_w N _ _ _ c_0 _ _ h_3) ?_; simp only [go_sem, seval]; obtain ⟨rfl, rfl⟩ := pj (si h); rw [← hQ]; exact ⟨rfl, _, rfl, _, _, (RefV.out rfl), rfl, rfl⟩
theorem gsub_reader_sets_L1_w (N : Nat) (y_1 : List Int) (l_0 : List Int) (a_1 : Int) (y_2 : Int) (c_0 : Bool) {R : AExit → ATm → List AObj → Prop} : ∀ (n : Nat) (i_6 : Int) (s_7 : List TSet) (o : ((List TSet)) ⊕ (Unit)), gsub_reader_sets_L1 N y_1 l_0 a_1 y_2 n i_6 s_7 = some o → (match o with | .inl z_1 => R (.exit 0) ⟨22, [(3, .row 1 0 z_1.length)], []⟩ [.box [.vec c_0 (List.map eU8 l_0), .int .i64 a_1, .int .i64 y_2] 100, .mem 2 (List.map eTSet z_1) 85] | .inr (_) => ∀ (tb : ATm) (Hb : List AObj), tb.ds = [] → R (.pan (.iface 58 (.agg []))) tb Hb) →
  ALp Try.prog 1 B80_1 ⟨22, [(0, .ptr 0 0 0), (3, .row 1 0 s_7.length), (7, .vec false (List.map eI64 y_1)), (8, .int .i64 (y_1.length : Int)), (9, .int .i64 i_6)], []⟩ [.box [.vec c_0 (List.map eU8 l_0), .int .i64 a_1, .int .i64 y_2] 100, .mem 2 (List.map eTSet s_7) 85] R := by
 intro n
 induction n with
 | zero =>
  intro i_6 s_7 o h _; exact no0 h
 | succ n ih =>
  intro i_6 s_7 o h hp; rw [gsub_reader_sets_L1] at h; refine ALp.round ?_; generalize hQ : RoundQ _ _ _ _ = QQ; simp only [B80_1, A80, go_sem, seval]; rcases iteS h with ⟨e_9, h⟩ | ⟨e_9, h⟩
  ·
   obtain ⟨x_10, h_11, h⟩ := bindS h; have e_12 : (List.map eI64 y_1)[(i_6).toNat]? = some [.int .i64 x_10] := atI_map eI64 h_11; have e_13 := eq_true (atI_some h_11).1; have e_14 := eq_true (atI_lt h_11); obtain ⟨o_17, h_16, h⟩ := bindS h; simp only [e_9, e_12, e_13, e_14, go_sem, seval]; rcases o_17 with y_15 | _
   · (try dsimp only at h); refine ACalls.goA (gsub_reader_spans_w N _ _ _ _ c_0 _ h_16) [0] (ho := ⟨(by first | rfl | simp only [go_sem, seval, e_9]), trivial⟩) ?_; have e_19 := tk eTSet s_7; have e_20 : (List.map eTSet s_7) ++ [[.vec false (List.map eTSpan y_15), .bool false]] = (List.map eTSet (s_7 ++ [TSet.mk y_15 false])) := app_map s_7 ([TSet.mk y_15 false]) eTSet; obtain ⟨e_22, h⟩ := guardE h; simp only [e_9, e_12, e_13, e_14, e_19, e_20, e_22, go_sem, seval]; rw [← hQ]; exact ⟨_, _, (Ref.std [0, 3, 7, 8, 9] [0, 2] (by decide) (by decide) (by first | rfl | simp only [go_sem, seval]) (by first | rfl | simp only [go_sem, seval])), (by simp), ih _ _ _ h hp⟩
   · (try dsimp only at h); refine ACalls.panA (gsub_reader_spans_w N _ _ _ _ c_0 _ h_16) [0] (ho := ⟨(by first | rfl | simp only [go_sem, seval, e_9]), trivial⟩) ?_; (try simp only [CallK_pan, dCallK_pan, panK_ap]); cases h; rw [← hQ]; exact hp _ _ rfl
  · simp only [e_9, go_sem, seval]; cases h; rw [← hQ]; exact ⟨_, _, (Ref.std [3] [0, 1] (by decide) (by decide) rfl (by first | rfl | simp only [go_sem, seval])), hp⟩
theorem gsub_reader_sets_w (N : Nat) (l_0 : List Int) (a_1 : Int) (a_2 : Int) (c_0 : Bool) (o : ((List TSet) × Int) ⊕ Unit) (h : gsub_reader_sets N l_0 a_1 a_2 = some o) :
  ACalls Try.prog 80 [.ptr 0 0 0] [.box [.vec c_0 (List.map eU8 l_0), .int .i64 a_1, .int .i64 a_2] 100] (fun e H => match o with | .inl (z_1, z_2) => H = [.box [.vec c_0 (List.map eU8 l_0), .int .i64 a_1, .int .i64 z_2] 100] ∧ e = .ret (.vec false (List.map eTSet z_1)) | .inr _ => H = [.dead] ∧ e = .pan (.iface 58 (.agg []))) := by
 unfold gsub_reader_sets at h; refine ACalls.goN Try.func80 n80 a80 Try.ntmps80 r80 (by simp) 1 rfl ?_; generalize hQ : bodyA _ _ _ = QQ; obtain ⟨o_4, h_3, h⟩ := bindS h; simp only [A80, go_sem, seval]; rcases o_4 with ⟨y_1, y_2⟩ | _
 ·
  (try dsimp only at h); refine ACalls.goA (gsub_reader_list_w N _ _ _ _ _ c_0 _ h_3) [0] ?_; simp only [go_sem, seval]; obtain ⟨o_1008, h_1006, h⟩ := bindS h; refine ALp.ref (Ref.trans (Ref.thaw (by simp) 3 rfl (sz := 2) (by decide) 85) (Ref.std [0, 3, 7, 8, 9] [0, 1] (by decide) (by decide) rfl (by first | rfl | simp only [go_sem, seval]))) (by simp) (gsub_reader_sets_L1_w N _ _ _ _ c_0 N _ _ o_1008 h_1006 ?_); rcases o_1008 with y_1007 | _
  · (try dsimp only at h); refine LoopK_go rfl (by simp) ?_; simp only [go_sem, seval]; cases h; rw [← hQ]; exact ⟨rfl, _, rfl, _, _, (RefV.trans (RefV.frz (by simp) (id := 1) rfl (pures_map y_1007 eTSet (fun _ => rfl))) (RefV.std [0] (by decide) (by decide) (by first | rfl | simp only [go_sem, seval]) (by first | rfl | simp only [go_sem, seval]))), rfl, rfl⟩
  · (try dsimp only at h); intro _ _ h_1009; refine LoopK_pan ?_; cases h; rw [← hQ]; exact ⟨h_1009, _, _, RefV.dead rfl, rfl, rfl⟩
 · (try dsimp only at h); refine ACalls.panA (gsub_reader_list_w N _ _ _ _ _ c_0 _ h_3) [0] ?_; (try simp only [CallK_pan, dCallK_pan, panK_ap]); cases h; rw [← hQ]; exact ⟨rfl, _, _, RefV.dead rfl, rfl, rfl⟩
theorem gsub_reader_reverse_w (N : Nat) (l_0 : List Int) (a_1 : Int) (a_2 : Int) (c_0 : Bool) (o : (O2T) ⊕ Unit) (h : gsub_reader_reverse N l_0 a_1 a_2 = some o) :
  ACalls Try.prog 54 [.ptr 0 0 0] [.box [.vec c_0 (List.map eU8 l_0), .int .i64 a_1, .int .i64 a_2] 100] (fun e H => match o with | .inl (z_1, z_2, z_3, z_4, z_5, z_6, z_7, z_8, z_9, z_10, z_11, z_12, z_13, z_14, z_15, z_16, z_17) => H = [.box [.vec c_0 (List.map eU8 l_0), .int .i64 a_1, .int .i64 z_17] 100] ∧ e = .ret (.agg [.int .i64 z_1, .vec false (List.map eTSpan z_2), .bool z_3, .int .i64 z_4, .vec false (List.map eLI64 z_5), .vec false (List.map eLTLig z_6), .vec false (List.map eTCtx z_7), .vec false (List.map eTValue z_8), .vec false (List.map eLTTwo z_9), .vec false (List.map eTClass z_10), .vec false (List.map eTClass z_11), .vec false (List.map eLTTwo z_12), .vec false (List.map eTArr2_TAnchor z_13), .vec false (List.map eTMark z_14), .vec false (List.map eTSpan z_15), .vec false (List.map eLLTAnchor z_16)]) | .inr _ => H = [.dead] ∧ e = .pan (.iface 58 (.agg []))) := by
 unfold gsub_reader_reverse at h; refine ACalls.goN Try.func54 n54 a54 Try.ntmps54 r54 (by simp) 1 rfl ?_; generalize hQ : bodyA _ _ _ = QQ; obtain ⟨o_3, h_2, h⟩ := bindS h; simp only [A54, go_sem, seval]; rcases o_3 with y_1 | _
 ·
  (try dsimp only at h); refine ACalls.goA (gsub_reader_number_w N _ _ _ c_0 _ h_2) [0] ?_; obtain ⟨o_7, h_6, h⟩ := bindS h; simp only [go_sem, seval]; rcases o_7 with y_5 | _
  ·
   (try dsimp only at h); refine ACalls.goA (gsub_reader_spans_w N _ _ _ _ c_0 _ h_6) [0] ?_; obtain ⟨o_12, h_11, h⟩ := bindS h; simp only [go_sem, seval]; rcases o_12 with ⟨y_9, y_10⟩ | _
   ·
    (try dsimp only at h); refine ACalls.goA (gsub_reader_sets_w N _ _ _ c_0 _ h_11) [0] ?_; obtain ⟨o_17, h_16, h⟩ := bindS h; simp only [go_sem, seval]; rcases o_17 with ⟨y_14, y_15⟩ | _
    ·
     (try dsimp only at h); refine ACalls.goA (gsub_reader_sets_w N _ _ _ c_0 _ h_16) [0] ?_; obtain ⟨o_22, h_21, h⟩ := bindS h; simp only [go_sem, seval]; rcases o_22 with ⟨y_19, y_20⟩ | _
     · (try dsimp only at h); refine ACalls.goA (gsub_reader_each_w N _ _ _ _ c_0 false _ h_21) [0] ?_; obtain ⟨y_24, h_25, h⟩ := bindS h; simp only [go_sem, seval]; refine ACalls.go0 (gsub_ones_w N _ false _ h_25) ?_; simp only [go_sem, seval]; cases h; rw [← hQ]; exact ⟨rfl, _, rfl, _, _, (RefV.trans (RefV.std (v' := .agg [.int .i64 8, .vec false (List.map eTSpan y_5), .bool false, .int .i64 0, .vec false (List.map eLI64 y_24), nn, .vec true [[.vec false (List.map eTSet y_9), nn, .vec false (List.map eTSet y_14), nn]], nn, nn, nn, nn, nn, nn, nn, nn, nn]) [0] (by decide) (by decide) rfl (by first | rfl | simp only [go_sem, seval])) (RefV.weak (Wks.cons (Wk.agg (Wks.cons (Wk.refl _) (Wks.cons (Wk.refl _) (Wks.cons (Wk.refl _) (Wks.cons (Wk.refl _) (Wks.cons (Wk.refl _) (Wks.cons Wk.vec (Wks.cons (Wk.vecs (Wkss.cons (Wks.cons (Wk.refl _) (Wks.cons Wk.vec (Wks.cons (Wk.refl _) (Wks.cons Wk.vec (Wks.nil))))) (Wkss.nil))) (Wks.cons Wk.vec (Wks.cons Wk.vec (Wks.cons Wk.vec (Wks.cons Wk.vec (Wks.cons Wk.vec (Wks.cons Wk.vec (Wks.cons Wk.vec (Wks.cons Wk.vec (Wks.cons Wk.vec (Wks.nil)))))))))))))))))) Wks.nil) (WkH.refl _))), rfl, rfl⟩
     · (try dsimp only at h); refine ACalls.panA (gsub_reader_each_w N _ _ _ _ c_0 false _ h_21) [0] ?_; (try simp only [CallK_pan, dCallK_pan, panK_ap]); cases h; rw [← hQ]; exact ⟨rfl, _, _, RefV.dead rfl, rfl, rfl⟩
    · (try dsimp only at h); refine ACalls.panA (gsub_reader_sets_w N _ _ _ c_0 _ h_16) [0] ?_; (try simp only [CallK_pan, dCallK_pan, panK_ap]); cases h; rw [← hQ]; exact ⟨rfl, _, _, RefV.dead rfl, rfl, rfl⟩
   · (try dsimp only at h); refine ACalls.panA (gsub_reader_sets_w N _ _ _ c_0 _ h_11) [0] ?_; (try simp only [CallK_pan, dCallK_pan, panK_ap]); cases h; rw [← hQ]; exact ⟨rfl, _, _, RefV.dead rfl, rfl, rfl⟩
  · (try dsimp only at h); refine ACalls.panA (gsub_reader_spans_w N _ _ _ _ c_0 _ h_6) [0] ?_; (try simp only [CallK_pan, dCallK_pan, panK_ap]); cases h; rw [← hQ]; exact ⟨rfl, _, _, RefV.dead rfl, rfl, rfl⟩
 · (try dsimp only at h); refine ACalls.panA (gsub_reader_number_w N _ _ _ c_0 _ h_2) [0] ?_; (try simp only [CallK_pan, dCallK_pan, panK_ap]); cases h; rw [← hQ]; exact ⟨rfl, _, _, RefV.dead rfl, rfl, rfl⟩
theorem gsub_read_v2_w (N : Nat) (l_0 : List Int) (a_1 : Int) (a_2 : Int) (c_0 : Bool) (o : (O3T) ⊕ Unit) (h : gsub_read_v2 N l_0 a_1 a_2 = some o) :
  ACalls Try.prog 24 [.vec c_0 (List.map eU8 l_0), .int .i64 a_1, .int .i64 a_2] [] (fun e H => match o with | .inl (z_1, z_2, z_3, z_4, z_5, z_6, z_7, z_8, z_9, z_10, z_11, z_12, z_13, z_14, z_15, z_16) => H = [] ∧ e = .ret (.agg [.int .i64 z_1, .vec false (List.map eTSpan z_2), .bool z_3, .int .i64 z_4, .vec false (List.map eLI64 z_5), .vec false (List.map eLTLig z_6), .vec false (List.map eTCtx z_7), .vec false (List.map eTValue z_8), .vec false (List.map eLTTwo z_9), .vec false (List.map eTClass z_10), .vec false (List.map eTClass z_11), .vec false (List.map eLTTwo z_12), .vec false (List.map eTArr2_TAnchor z_13), .vec false (List.map eTMark z_14), .vec false (List.map eTSpan z_15), .vec false (List.map eLLTAnchor z_16)]) | .inr _ => H = [] ∧ e = .pan (.iface 58 (.agg []))) := by
 unfold gsub_read_v2 at h; refine ACalls.goN Try.func24 n24 a24 Try.ntmps24 r24 (by simp) 0 rfl ?_; generalize hQ : bodyA _ _ _ = QQ; simp only [A24, go_sem, seval]; rcases iteS h with ⟨e_2, h⟩ | ⟨e_2, h⟩
 ·
  obtain ⟨o_20, h_19, h⟩ := bindS h; simp only [e_2, go_sem, seval]; rcases o_20 with ⟨y_3, y_4, y_5, y_6, y_7, y_8, y_9, y_10, y_11, y_12, y_13, y_14, y_15, y_16, y_17, y_18⟩ | _
  · (try dsimp only at h); refine ACalls.goA (gsub_reader_contexts_w N _ _ _ _ c_0 _ h_19) [1] (ho := ⟨(by first | rfl | simp only [go_sem, seval, e_2]), trivial⟩) ?_; simp only [e_2, go_sem, seval]; cases h; rw [← hQ]; exact ⟨rfl, _, rfl, _, _, (RefV.out (by first | rfl | simp only [go_sem, seval, e_2])), rfl, rfl⟩
  · (try dsimp only at h); refine ACalls.panA (gsub_reader_contexts_w N _ _ _ _ c_0 _ h_19) [1] (ho := ⟨(by first | rfl | simp only [go_sem, seval, e_2]), trivial⟩) ?_; (try simp only [CallK_pan, dCallK_pan, panK_ap]); cases h; rw [← hQ]; exact ⟨rfl, _, _, RefV.dead rfl, rfl, rfl⟩
 ·
  simp only [e_2, go_sem, seval]; rcases iteS h with ⟨e_23, h⟩ | ⟨e_23, h⟩
  ·
   obtain ⟨o_41, h_40, h⟩ := bindS h; simp only [e_2, e_23, go_sem, seval]; rcases o_41 with ⟨y_24, y_25, y_26, y_27, y_28, y_29, y_30, y_31, y_32, y_33, y_34, y_35, y_36, y_37, y_38, y_39⟩ | _
   · (try dsimp only at h); refine ACalls.goA (gsub_reader_contexts_v2_w N _ _ _ _ c_0 _ h_40) [1] (ho := ⟨(by first | rfl | simp only [go_sem, seval, e_2, e_23]), trivial⟩) ?_; simp only [e_2, e_23, go_sem, seval]; cases h; rw [← hQ]; exact ⟨rfl, _, rfl, _, _, (RefV.out (by first | rfl | simp only [go_sem, seval, e_2, e_23])), rfl, rfl⟩
   · (try dsimp only at h); refine ACalls.panA (gsub_reader_contexts_v2_w N _ _ _ _ c_0 _ h_40) [1] (ho := ⟨(by first | rfl | simp only [go_sem, seval, e_2, e_23]), trivial⟩) ?_; (try simp only [CallK_pan, dCallK_pan, panK_ap]); cases h; rw [← hQ]; exact ⟨rfl, _, _, RefV.dead rfl, rfl, rfl⟩
  ·
   simp only [e_2, e_23, go_sem, seval]; rcases iteS h with ⟨e_44, h⟩ | ⟨e_44, h⟩
   ·
    obtain ⟨o_46, h_45, h⟩ := bindS h; simp only [e_2, e_23, e_44, go_sem, seval]; rcases o_46 with _ | _
    ·
     (try dsimp only at h); refine ACalls.go0 (gsub_must_w N _ _ h_45) ?_; have e_48 := eq_true (of_decide_eq_true (gsub_must_inl h_45)); obtain ⟨o_51, h_50, h⟩ := bindS h; simp only [e_2, e_23, e_44, e_48, go_sem, seval]; rcases o_51 with y_49 | _
     ·
      (try dsimp only at h); refine ACalls.goA (gsub_reader_number_w N _ _ _ c_0 _ h_50) [1] (ho := ⟨(by first | rfl | simp only [go_sem, seval, e_2, e_23, e_44, e_48]), trivial⟩) ?_; simp only [e_2, e_23, e_44, e_48, go_sem, seval]; rcases iteS h with ⟨e_54, h⟩ | ⟨e_54, h⟩
      ·
       obtain ⟨o_56, h_55, h⟩ := bindS h; simp only [e_2, e_23, e_44, e_48, e_54, go_sem, seval]; rcases o_56 with _ | _
       ·
        (try dsimp only at h); refine ACalls.go0 (gsub_must_w N _ _ h_55) ?_; simp only [e_2, e_23, e_44, e_48, e_54, go_sem, seval]; rcases iteS h with ⟨e_59, h⟩ | ⟨e_59, h⟩
        ·
         obtain ⟨o_78, h_77, h⟩ := bindS h; simp only [e_2, e_23, e_44, e_48, e_54, e_59, go_sem, seval]; rcases o_78 with ⟨y_60, y_61, y_62, y_63, y_64, y_65, y_66, y_67, y_68, y_69, y_70, y_71, y_72, y_73, y_74, y_75, y_76⟩ | _
         · (try dsimp only at h); refine ACalls.goA (gsub_reader_single_w N _ _ _ _ c_0 _ h_77) [1] (ho := ⟨(by first | rfl | simp only [go_sem, seval, e_2, e_23, e_44, e_48, e_54, e_59]), trivial⟩) ?_; simp only [e_2, e_23, e_44, e_48, e_54, e_59, go_sem, seval]; cases h; rw [← hQ]; exact ⟨rfl, _, rfl, _, _, (RefV.out (by first | rfl | simp only [go_sem, seval, e_2, e_23, e_44, e_48, e_54, e_59])), rfl, rfl⟩
         · (try dsimp only at h); refine ACalls.panA (gsub_reader_single_w N _ _ _ _ c_0 _ h_77) [1] (ho := ⟨(by first | rfl | simp only [go_sem, seval, e_2, e_23, e_44, e_48, e_54, e_59]), trivial⟩) ?_; (try simp only [CallK_pan, dCallK_pan, panK_ap]); cases h; rw [← hQ]; exact ⟨rfl, _, _, RefV.dead rfl, rfl, rfl⟩
        ·
         simp only [e_2, e_23, e_44, e_48, e_54, e_59, go_sem, seval]; rcases iteS h with ⟨e_81, h⟩ | ⟨e_81, h⟩
         ·
          obtain ⟨o_100, h_99, h⟩ := bindS h; simp only [e_2, e_23, e_44, e_48, e_54, e_59, e_81, go_sem, seval]; rcases o_100 with ⟨y_82, y_83, y_84, y_85, y_86, y_87, y_88, y_89, y_90, y_91, y_92, y_93, y_94, y_95, y_96, y_97, y_98⟩ | _
          · (try dsimp only at h); refine ACalls.goA (gsub_reader_several_w N _ _ _ _ _ c_0 _ h_99) [1] (ho := ⟨(by first | rfl | simp only [go_sem, seval, e_2, e_23, e_44, e_48, e_54, e_59, e_81]), trivial⟩) ?_; simp only [e_2, e_23, e_44, e_48, e_54, e_59, e_81, go_sem, seval]; cases h; rw [← hQ]; exact ⟨rfl, _, rfl, _, _, (RefV.out (by first | rfl | simp only [go_sem, seval, e_2, e_23, e_44, e_48, e_54, e_59, e_81])), rfl, rfl⟩
          · (try dsimp only at h); refine ACalls.panA (gsub_reader_several_w N _ _ _ _ _ c_0 _ h_99) [1] (ho := ⟨(by first | rfl | simp only [go_sem, seval, e_2, e_23, e_44, e_48, e_54, e_59, e_81]), trivial⟩) ?_; (try simp only [CallK_pan, dCallK_pan, panK_ap]); cases h; rw [← hQ]; exact ⟨rfl, _, _, RefV.dead rfl, rfl, rfl⟩
         ·
          simp only [e_2, e_23, e_44, e_48, e_54, e_59, e_81, go_sem, seval]; rcases iteS h with ⟨e_103, h⟩ | ⟨e_103, h⟩
          ·
           obtain ⟨o_122, h_121, h⟩ := bindS h; simp only [e_2, e_23, e_44, e_48, e_54, e_59, e_81, e_103, go_sem, seval]; rcases o_122 with ⟨y_104, y_105, y_106, y_107, y_108, y_109, y_110, y_111, y_112, y_113, y_114, y_115, y_116, y_117, y_118, y_119, y_120⟩ | _
           · (try dsimp only at h); refine ACalls.goA (gsub_reader_several_w N _ _ _ _ _ c_0 _ h_121) [1] (ho := ⟨(by first | rfl | simp only [go_sem, seval, e_2, e_23, e_44, e_48, e_54, e_59, e_81, e_103]), trivial⟩) ?_; simp only [e_2, e_23, e_44, e_48, e_54, e_59, e_81, e_103, go_sem, seval]; cases h; rw [← hQ]; exact ⟨rfl, _, rfl, _, _, (RefV.out (by first | rfl | simp only [go_sem, seval, e_2, e_23, e_44, e_48, e_54, e_59, e_81, e_103])), rfl, rfl⟩
           · (try dsimp only at h); refine ACalls.panA (gsub_reader_several_w N _ _ _ _ _ c_0 _ h_121) [1] (ho := ⟨(by first | rfl | simp only [go_sem, seval, e_2, e_23, e_44, e_48, e_54, e_59, e_81, e_103]), trivial⟩) ?_; (try simp only [CallK_pan, dCallK_pan, panK_ap]); cases h; rw [← hQ]; exact ⟨rfl, _, _, RefV.dead rfl, rfl, rfl⟩
          ·
           simp only [e_2, e_23, e_44, e_48, e_54, e_59, e_81, e_103, go_sem, seval]; rcases iteS h with ⟨e_125, h⟩ | ⟨e_125, h⟩
           ·
            obtain ⟨o_144, h_143, h⟩ := bindS h; simp only [e_2, e_23, e_44, e_48, e_54, e_59, e_81, e_103, e_125, go_sem, seval]; rcases o_144 with ⟨y_126, y_127, y_128, y_129, y_130, y_131, y_132, y_133, y_134, y_135, y_136, y_137, y_138, y_139, y_140, y_141, y_142⟩ | _
            · (try dsimp only at h); refine ACalls.goA (gsub_reader_ligatures_w N _ _ _ c_0 _ h_143) [1] (ho := ⟨(by first | rfl | simp only [go_sem, seval, e_2, e_23, e_44, e_48, e_54, e_59, e_81, e_103, e_125]), trivial⟩) ?_; simp only [e_2, e_23, e_44, e_48, e_54, e_59, e_81, e_103, e_125, go_sem, seval]; cases h; rw [← hQ]; exact ⟨rfl, _, rfl, _, _, (RefV.out (by first | rfl | simp only [go_sem, seval, e_2, e_23, e_44, e_48, e_54, e_59, e_81, e_103, e_125])), rfl, rfl⟩
            · (try dsimp only at h); refine ACalls.panA (gsub_reader_ligatures_w N _ _ _ c_0 _ h_143) [1] (ho := ⟨(by first | rfl | simp only [go_sem, seval, e_2, e_23, e_44, e_48, e_54, e_59, e_81, e_103, e_125]), trivial⟩) ?_; (try simp only [CallK_pan, dCallK_pan, panK_ap]); cases h; rw [← hQ]; exact ⟨rfl, _, _, RefV.dead rfl, rfl, rfl⟩
           ·
            simp only [e_2, e_23, e_44, e_48, e_54, e_59, e_81, e_103, e_125, go_sem, seval]; rcases iteS h with ⟨e_147, h⟩ | ⟨e_147, h⟩
            · exact no0 h
            ·
             obtain ⟨o_166, h_165, h⟩ := bindS h; simp only [e_2, e_23, e_44, e_48, e_54, e_59, e_81, e_103, e_125, e_147, go_sem, seval]; rcases o_166 with ⟨y_148, y_149, y_150, y_151, y_152, y_153, y_154, y_155, y_156, y_157, y_158, y_159, y_160, y_161, y_162, y_163, y_164⟩ | _
             · (try dsimp only at h); refine ACalls.goA (gsub_reader_reverse_w N _ _ _ c_0 _ h_165) [1] (ho := ⟨(by first | rfl | simp only [go_sem, seval, e_2, e_23, e_44, e_48, e_54, e_59, e_81, e_103, e_125, e_147]), trivial⟩) ?_; simp only [e_2, e_23, e_44, e_48, e_54, e_59, e_81, e_103, e_125, e_147, go_sem, seval]; cases h; rw [← hQ]; exact ⟨rfl, _, rfl, _, _, (RefV.out (by first | rfl | simp only [go_sem, seval, e_2, e_23, e_44, e_48, e_54, e_59, e_81, e_103, e_125, e_147])), rfl, rfl⟩
             · (try dsimp only at h); refine ACalls.panA (gsub_reader_reverse_w N _ _ _ c_0 _ h_165) [1] (ho := ⟨(by first | rfl | simp only [go_sem, seval, e_2, e_23, e_44, e_48, e_54, e_59, e_81, e_103, e_125, e_147]), trivial⟩) ?_; (try simp only [CallK_pan, dCallK_pan, panK_ap]); cases h; rw [← hQ]; exact ⟨rfl, _, _, RefV.dead rfl, rfl, rfl⟩
       · (try dsimp only at h); refine ACalls.panA (gsub_must_w N _ _ h_55) [] ?_; (try simp only [CallK_pan, dCallK_pan, panK_ap]); cases h; rw [← hQ]; exact ⟨rfl, _, _, RefV.dead rfl, rfl, rfl⟩
      ·
       obtain ⟨o_169, h_168, h⟩ := bindS h; simp only [e_2, e_23, e_44, e_48, e_54, go_sem, seval]; rcases o_169 with _ | _
       ·
        (try dsimp only at h); refine ACalls.go0 (gsub_must_w N _ _ h_168) ?_; have e_171 := eq_true (of_decide_eq_true (gsub_must_inl h_168)); obtain ⟨o_190, h_189, h⟩ := bindS h; simp only [e_2, e_23, e_44, e_48, e_54, e_171, go_sem, seval]; rcases o_190 with ⟨y_172, y_173, y_174, y_175, y_176, y_177, y_178, y_179, y_180, y_181, y_182, y_183, y_184, y_185, y_186, y_187, y_188⟩ | _
        · (try dsimp only at h); refine ACalls.goA (gsub_reader_single_w N _ _ _ _ c_0 _ h_189) [1] (ho := ⟨(by first | rfl | simp only [go_sem, seval, e_2, e_23, e_44, e_48, e_54, e_171]), trivial⟩) ?_; simp only [e_2, e_23, e_44, e_48, e_54, e_171, go_sem, seval]; cases h; rw [← hQ]; exact ⟨rfl, _, rfl, _, _, (RefV.out (by first | rfl | simp only [go_sem, seval, e_2, e_23, e_44, e_48, e_54, e_171])), rfl, rfl⟩
        · (try dsimp only at h); refine ACalls.panA (gsub_reader_single_w N _ _ _ _ c_0 _ h_189) [1] (ho := ⟨(by first | rfl | simp only [go_sem, seval, e_2, e_23, e_44, e_48, e_54, e_171]), trivial⟩) ?_; (try simp only [CallK_pan, dCallK_pan, panK_ap]); cases h; rw [← hQ]; exact ⟨rfl, _, _, RefV.dead rfl, rfl, rfl⟩
       · (try dsimp only at h); refine ACalls.panA (gsub_must_w N _ _ h_168) [] ?_; (try simp only [CallK_pan, dCallK_pan, panK_ap]); cases h; rw [← hQ]; exact ⟨rfl, _, _, RefV.dead rfl, rfl, rfl⟩
     · (try dsimp only at h); refine ACalls.panA (gsub_reader_number_w N _ _ _ c_0 _ h_50) [1] (ho := ⟨(by first | rfl | simp only [go_sem, seval, e_2, e_23, e_44, e_48]), trivial⟩) ?_; (try simp only [CallK_pan, dCallK_pan, panK_ap]); cases h; rw [← hQ]; exact ⟨rfl, _, _, RefV.dead rfl, rfl, rfl⟩
    · (try dsimp only at h); refine ACalls.panA (gsub_must_w N _ _ h_45) [] ?_; (try simp only [CallK_pan, dCallK_pan, panK_ap]); cases h; rw [← hQ]; exact ⟨rfl, _, _, RefV.dead rfl, rfl, rfl⟩
   ·
    obtain ⟨o_193, h_192, h⟩ := bindS h; simp only [e_2, e_23, e_44, go_sem, seval]; rcases o_193 with _ | _
    · (try dsimp only at h); refine ACalls.go0 (gsub_must_w N _ _ h_192) ?_; exact no0 h
    · (try dsimp only at h); refine ACalls.panA (gsub_must_w N _ _ h_192) [] ?_; (try simp only [CallK_pan, dCallK_pan, panK_ap]); cases h; rw [← hQ]; exact ⟨rfl, _, _, RefV.dead rfl, rfl, rfl⟩
theorem gsub_reader_elsewhere_w (N : Nat) (l_0 : List Int) (a_1 : Int) (a_2 : Int) (c_0 : Bool) (o : (O3T) ⊕ Unit) (h : gsub_reader_elsewhere N l_0 a_1 a_2 = some o) :
  ACalls Try.prog 53 [.ptr 0 0 0] [.box [.vec c_0 (List.map eU8 l_0), .int .i64 a_1, .int .i64 a_2] 100] (fun e H => match o with | .inl (z_1, z_2, z_3, z_4, z_5, z_6, z_7, z_8, z_9, z_10, z_11, z_12, z_13, z_14, z_15, z_16) => H = [.box [.vec c_0 (List.map eU8 l_0), .int .i64 a_1, .int .i64 (IntKind.i64.wrap (a_2 + 2))] 100] ∧ e = .ret (.agg [.int .i64 z_1, .vec false (List.map eTSpan z_2), .bool z_3, .int .i64 z_4, .vec false (List.map eLI64 z_5), .vec false (List.map eLTLig z_6), .vec false (List.map eTCtx z_7), .vec false (List.map eTValue z_8), .vec false (List.map eLTTwo z_9), .vec false (List.map eTClass z_10), .vec false (List.map eTClass z_11), .vec false (List.map eLTTwo z_12), .vec false (List.map eTArr2_TAnchor z_13), .vec false (List.map eTMark z_14), .vec false (List.map eTSpan z_15), .vec false (List.map eLLTAnchor z_16)]) | .inr _ => H = [.dead] ∧ e = .pan (.iface 58 (.agg []))) := by
 unfold gsub_reader_elsewhere at h; refine ACalls.goN Try.func53 n53 a53 Try.ntmps53 r53 (by simp) 1 rfl ?_; generalize hQ : bodyA _ _ _ = QQ; obtain ⟨o_3, h_2, h⟩ := bindS h; simp only [A53, go_sem, seval]; rcases o_3 with y_1 | _
 ·
  (try dsimp only at h); refine ACalls.goA (gsub_reader_number_w N _ _ _ c_0 _ h_2) [0] ?_; obtain ⟨⟨y_5, y_6⟩, h_7, h⟩ := bindS h; (try dsimp only at h); simp only [go_sem, seval]; refine ACalls.use0 (octet_U32_w N _ _ c_0 _ _ h_7) rfl rfl ?_; simp only [go_sem, seval]; rcases iteB h with ⟨e_9, h⟩ | ⟨e_9, h⟩
  ·
   simp only [e_9, go_sem, seval]; rcases iteS h with ⟨e_11, h⟩ | ⟨e_11, h⟩
   ·
    obtain ⟨o_13, h_12, h⟩ := bindS h; simp only [e_9, e_11, go_sem, seval]; rcases o_13 with _ | _
    · (try dsimp only at h); refine ACalls.go0 (gsub_must_w N _ _ h_12) ?_; exact no0 h
    · (try dsimp only at h); refine ACalls.panA (gsub_must_w N _ _ h_12) [] ?_; (try simp only [CallK_pan, dCallK_pan, panK_ap]); cases h; rw [← hQ]; exact ⟨rfl, _, _, RefV.dead rfl, rfl, rfl⟩
   ·
    obtain ⟨o_16, h_15, h⟩ := bindS h; simp only [e_9, e_11, go_sem, seval]; rcases o_16 with _ | _
    ·
     (try dsimp only at h); refine ACalls.go0 (gsub_must_w N _ _ h_15) ?_; have e_18 := eq_true (of_decide_eq_true (gsub_must_inl h_15)); obtain ⟨o_36, h_35, h⟩ := bindS h; simp only [e_9, e_11, e_18, go_sem, seval]; rcases o_36 with ⟨y_19, y_20, y_21, y_22, y_23, y_24, y_25, y_26, y_27, y_28, y_29, y_30, y_31, y_32, y_33, y_34⟩ | _
     · (try dsimp only at h); refine ACalls.use0 (gsub_read_v2_w N _ _ _ c_0 _ h_35) rfl rfl ?_; simp only [e_9, e_11, e_18, go_sem, seval]; cases h; rw [← hQ]; exact ⟨rfl, _, rfl, _, _, (RefV.std [0] (by decide) (by decide) (by first | rfl | simp only [go_sem, seval, e_9, e_11, e_18]) (by first | rfl | simp only [go_sem, seval, e_9, e_11, e_18])), rfl, rfl⟩
     · (try dsimp only at h); refine ACalls.panA (gsub_read_v2_w N _ _ _ c_0 _ h_35) [] ?_; (try simp only [CallK_pan, dCallK_pan, panK_ap]); cases h; rw [← hQ]; exact ⟨rfl, _, _, RefV.dead rfl, rfl, rfl⟩
    · (try dsimp only at h); refine ACalls.panA (gsub_must_w N _ _ h_15) [] ?_; (try simp only [CallK_pan, dCallK_pan, panK_ap]); cases h; rw [← hQ]; exact ⟨rfl, _, _, RefV.dead rfl, rfl, rfl⟩
  ·
   obtain ⟨o_39, h_38, h⟩ := bindS h; simp only [e_9, go_sem, seval]; rcases o_39 with _ | _
   · (try dsimp only at h); refine ACalls.go0 (gsub_must_w N _ _ h_38) ?_; exact no0 h
   · (try dsimp only at h); refine ACalls.panA (gsub_must_w N _ _ h_38) [] ?_; (try simp only [CallK_pan, dCallK_pan, panK_ap]); cases h; rw [← hQ]; exact ⟨rfl, _, _, RefV.dead rfl, rfl, rfl⟩
 · (try dsimp only at h); refine ACalls.panA (gsub_reader_number_w N _ _ _ c_0 _ h_2) [0] ?_; (try simp only [CallK_pan, dCallK_pan, panK_ap]); cases h; rw [← hQ]; exact ⟨rfl, _, _, RefV.dead rfl, rfl, rfl⟩
theorem gsub_read_w (N : Nat) (l_0 : List Int) (a_1 : Int) (a_2 : Int) (c_0 : Bool) (o : (O3T) ⊕ Unit) (h : gsub_read N l_0 a_1 a_2 = some o) :
  ACalls Try.prog 24 [.vec c_0 (List.map eU8 l_0), .int .i64 a_1, .int .i64 a_2] [] (fun e H => match o with | .inl (z_1, z_2, z_3, z_4, z_5, z_6, z_7, z_8, z_9, z_10, z_11, z_12, z_13, z_14, z_15, z_16) => H = [] ∧ e = .ret (.agg [.int .i64 z_1, .vec false (List.map eTSpan z_2), .bool z_3, .int .i64 z_4, .vec false (List.map eLI64 z_5), .vec false (List.map eLTLig z_6), .vec false (List.map eTCtx z_7), .vec false (List.map eTValue z_8), .vec false (List.map eLTTwo z_9), .vec false (List.map eTClass z_10), .vec false (List.map eTClass z_11), .vec false (List.map eLTTwo z_12), .vec false (List.map eTArr2_TAnchor z_13), .vec false (List.map eTMark z_14), .vec false (List.map eTSpan z_15), .vec false (List.map eLLTAnchor z_16)]) | .inr _ => H = [] ∧ e = .pan (.iface 58 (.agg []))) := by
 unfold gsub_read at h; refine ACalls.goN Try.func24 n24 a24 Try.ntmps24 r24 (by simp) 0 rfl ?_; generalize hQ : bodyA _ _ _ = QQ; simp only [A24, go_sem, seval]; rcases iteS h with ⟨e_2, h⟩ | ⟨e_2, h⟩
 ·
  obtain ⟨o_20, h_19, h⟩ := bindS h; simp only [e_2, go_sem, seval]; rcases o_20 with ⟨y_3, y_4, y_5, y_6, y_7, y_8, y_9, y_10, y_11, y_12, y_13, y_14, y_15, y_16, y_17, y_18⟩ | _
  · (try dsimp only at h); refine ACalls.goA (gsub_reader_contexts_w N _ _ _ _ c_0 _ h_19) [1] (ho := ⟨(by first | rfl | simp only [go_sem, seval, e_2]), trivial⟩) ?_; simp only [e_2, go_sem, seval]; cases h; rw [← hQ]; exact ⟨rfl, _, rfl, _, _, (RefV.out (by first | rfl | simp only [go_sem, seval, e_2])), rfl, rfl⟩
  · (try dsimp only at h); refine ACalls.panA (gsub_reader_contexts_w N _ _ _ _ c_0 _ h_19) [1] (ho := ⟨(by first | rfl | simp only [go_sem, seval, e_2]), trivial⟩) ?_; (try simp only [CallK_pan, dCallK_pan, panK_ap]); cases h; rw [← hQ]; exact ⟨rfl, _, _, RefV.dead rfl, rfl, rfl⟩
 ·
  simp only [e_2, go_sem, seval]; rcases iteS h with ⟨e_23, h⟩ | ⟨e_23, h⟩
  ·
   obtain ⟨o_41, h_40, h⟩ := bindS h; simp only [e_2, e_23, go_sem, seval]; rcases o_41 with ⟨y_24, y_25, y_26, y_27, y_28, y_29, y_30, y_31, y_32, y_33, y_34, y_35, y_36, y_37, y_38, y_39⟩ | _
   · (try dsimp only at h); refine ACalls.goA (gsub_reader_contexts_v2_w N _ _ _ _ c_0 _ h_40) [1] (ho := ⟨(by first | rfl | simp only [go_sem, seval, e_2, e_23]), trivial⟩) ?_; simp only [e_2, e_23, go_sem, seval]; cases h; rw [← hQ]; exact ⟨rfl, _, rfl, _, _, (RefV.out (by first | rfl | simp only [go_sem, seval, e_2, e_23])), rfl, rfl⟩
   · (try dsimp only at h); refine ACalls.panA (gsub_reader_contexts_v2_w N _ _ _ _ c_0 _ h_40) [1] (ho := ⟨(by first | rfl | simp only [go_sem, seval, e_2, e_23]), trivial⟩) ?_; (try simp only [CallK_pan, dCallK_pan, panK_ap]); cases h; rw [← hQ]; exact ⟨rfl, _, _, RefV.dead rfl, rfl, rfl⟩
  ·
   simp only [e_2, e_23, go_sem, seval]; rcases iteS h with ⟨e_44, h⟩ | ⟨e_44, h⟩
   ·
    obtain ⟨o_46, h_45, h⟩ := bindS h; simp only [e_2, e_23, e_44, go_sem, seval]; rcases o_46 with _ | _
    ·
     (try dsimp only at h); refine ACalls.go0 (gsub_must_w N _ _ h_45) ?_; have e_48 := eq_true (of_decide_eq_true (gsub_must_inl h_45)); obtain ⟨o_51, h_50, h⟩ := bindS h; simp only [e_2, e_23, e_44, e_48, go_sem, seval]; rcases o_51 with y_49 | _
     ·
      (try dsimp only at h); refine ACalls.goA (gsub_reader_number_w N _ _ _ c_0 _ h_50) [1] (ho := ⟨(by first | rfl | simp only [go_sem, seval, e_2, e_23, e_44, e_48]), trivial⟩) ?_; simp only [e_2, e_23, e_44, e_48, go_sem, seval]; rcases iteS h with ⟨e_54, h⟩ | ⟨e_54, h⟩
      ·
       obtain ⟨o_56, h_55, h⟩ := bindS h; simp only [e_2, e_23, e_44, e_48, e_54, go_sem, seval]; rcases o_56 with _ | _
       ·
        (try dsimp only at h); refine ACalls.go0 (gsub_must_w N _ _ h_55) ?_; simp only [e_2, e_23, e_44, e_48, e_54, go_sem, seval]; rcases iteS h with ⟨e_59, h⟩ | ⟨e_59, h⟩
        ·
         obtain ⟨o_78, h_77, h⟩ := bindS h; simp only [e_2, e_23, e_44, e_48, e_54, e_59, go_sem, seval]; rcases o_78 with ⟨y_60, y_61, y_62, y_63, y_64, y_65, y_66, y_67, y_68, y_69, y_70, y_71, y_72, y_73, y_74, y_75, y_76⟩ | _
         · (try dsimp only at h); refine ACalls.goA (gsub_reader_single_w N _ _ _ _ c_0 _ h_77) [1] (ho := ⟨(by first | rfl | simp only [go_sem, seval, e_2, e_23, e_44, e_48, e_54, e_59]), trivial⟩) ?_; simp only [e_2, e_23, e_44, e_48, e_54, e_59, go_sem, seval]; cases h; rw [← hQ]; exact ⟨rfl, _, rfl, _, _, (RefV.out (by first | rfl | simp only [go_sem, seval, e_2, e_23, e_44, e_48, e_54, e_59])), rfl, rfl⟩
         · (try dsimp only at h); refine ACalls.panA (gsub_reader_single_w N _ _ _ _ c_0 _ h_77) [1] (ho := ⟨(by first | rfl | simp only [go_sem, seval, e_2, e_23, e_44, e_48, e_54, e_59]), trivial⟩) ?_; (try simp only [CallK_pan, dCallK_pan, panK_ap]); cases h; rw [← hQ]; exact ⟨rfl, _, _, RefV.dead rfl, rfl, rfl⟩
        ·
         simp only [e_2, e_23, e_44, e_48, e_54, e_59, go_sem, seval]; rcases iteS h with ⟨e_81, h⟩ | ⟨e_81, h⟩
         ·
          obtain ⟨o_100, h_99, h⟩ := bindS h; simp only [e_2, e_23, e_44, e_48, e_54, e_59, e_81, go_sem, seval]; rcases o_100 with ⟨y_82, y_83, y_84, y_85, y_86, y_87, y_88, y_89, y_90, y_91, y_92, y_93, y_94, y_95, y_96, y_97, y_98⟩ | _
          · (try dsimp only at h); refine ACalls.goA (gsub_reader_several_w N _ _ _ _ _ c_0 _ h_99) [1] (ho := ⟨(by first | rfl | simp only [go_sem, seval, e_2, e_23, e_44, e_48, e_54, e_59, e_81]), trivial⟩) ?_; simp only [e_2, e_23, e_44, e_48, e_54, e_59, e_81, go_sem, seval]; cases h; rw [← hQ]; exact ⟨rfl, _, rfl, _, _, (RefV.out (by first | rfl | simp only [go_sem, seval, e_2, e_23, e_44, e_48, e_54, e_59, e_81])), rfl, rfl⟩
          · (try dsimp only at h); refine ACalls.panA (gsub_reader_several_w N _ _ _ _ _ c_0 _ h_99) [1] (ho := ⟨(by first | rfl | simp only [go_sem, seval, e_2, e_23, e_44, e_48, e_54, e_59, e_81]), trivial⟩) ?_; (try simp only [CallK_pan, dCallK_pan, panK_ap]); cases h; rw [← hQ]; exact ⟨rfl, _, _, RefV.dead rfl, rfl, rfl⟩
         ·
          simp only [e_2, e_23, e_44, e_48, e_54, e_59, e_81, go_sem, seval]; rcases iteS h with ⟨e_103, h⟩ | ⟨e_103, h⟩
          ·
           obtain ⟨o_122, h_121, h⟩ := bindS h; simp only [e_2, e_23, e_44, e_48, e_54, e_59, e_81, e_103, go_sem, seval]; rcases o_122 with ⟨y_104, y_105, y_106, y_107, y_108, y_109, y_110, y_111, y_112, y_113, y_114, y_115, y_116, y_117, y_118, y_119, y_120⟩ | _
           · (try dsimp only at h); refine ACalls.goA (gsub_reader_several_w N _ _ _ _ _ c_0 _ h_121) [1] (ho := ⟨(by first | rfl | simp only [go_sem, seval, e_2, e_23, e_44, e_48, e_54, e_59, e_81, e_103]), trivial⟩) ?_; simp only [e_2, e_23, e_44, e_48, e_54, e_59, e_81, e_103, go_sem, seval]; cases h; rw [← hQ]; exact ⟨rfl, _, rfl, _, _, (RefV.out (by first | rfl | simp only [go_sem, seval, e_2, e_23, e_44, e_48, e_54, e_59, e_81, e_103])), rfl, rfl⟩
           · (try dsimp only at h); refine ACalls.panA (gsub_reader_several_w N _ _ _ _ _ c_0 _ h_121) [1] (ho := ⟨(by first | rfl | simp only [go_sem, seval, e_2, e_23, e_44, e_48, e_54, e_59, e_81, e_103]), trivial⟩) ?_; (try simp only [CallK_pan, dCallK_pan, panK_ap]); cases h; rw [← hQ]; exact ⟨rfl, _, _, RefV.dead rfl, rfl, rfl⟩
          ·
           simp only [e_2, e_23, e_44, e_48, e_54, e_59, e_81, e_103, go_sem, seval]; rcases iteS h with ⟨e_125, h⟩ | ⟨e_125, h⟩
           ·
            obtain ⟨o_144, h_143, h⟩ := bindS h; simp only [e_2, e_23, e_44, e_48, e_54, e_59, e_81, e_103, e_125, go_sem, seval]; rcases o_144 with ⟨y_126, y_127, y_128, y_129, y_130, y_131, y_132, y_133, y_134, y_135, y_136, y_137, y_138, y_139, y_140, y_141, y_142⟩ | _
            · (try dsimp only at h); refine ACalls.goA (gsub_reader_ligatures_w N _ _ _ c_0 _ h_143) [1] (ho := ⟨(by first | rfl | simp only [go_sem, seval, e_2, e_23, e_44, e_48, e_54, e_59, e_81, e_103, e_125]), trivial⟩) ?_; simp only [e_2, e_23, e_44, e_48, e_54, e_59, e_81, e_103, e_125, go_sem, seval]; cases h; rw [← hQ]; exact ⟨rfl, _, rfl, _, _, (RefV.out (by first | rfl | simp only [go_sem, seval, e_2, e_23, e_44, e_48, e_54, e_59, e_81, e_103, e_125])), rfl, rfl⟩
            · (try dsimp only at h); refine ACalls.panA (gsub_reader_ligatures_w N _ _ _ c_0 _ h_143) [1] (ho := ⟨(by first | rfl | simp only [go_sem, seval, e_2, e_23, e_44, e_48, e_54, e_59, e_81, e_103, e_125]), trivial⟩) ?_; (try simp only [CallK_pan, dCallK_pan, panK_ap]); cases h; rw [← hQ]; exact ⟨rfl, _, _, RefV.dead rfl, rfl, rfl⟩
           ·
            simp only [e_2, e_23, e_44, e_48, e_54, e_59, e_81, e_103, e_125, go_sem, seval]; rcases iteS h with ⟨e_147, h⟩ | ⟨e_147, h⟩
            ·
             obtain ⟨o_165, h_164, h⟩ := bindS h; simp only [e_2, e_23, e_44, e_48, e_54, e_59, e_81, e_103, e_125, e_147, go_sem, seval]; rcases o_165 with ⟨y_148, y_149, y_150, y_151, y_152, y_153, y_154, y_155, y_156, y_157, y_158, y_159, y_160, y_161, y_162, y_163⟩ | _
             · (try dsimp only at h); refine ACalls.goA (gsub_reader_elsewhere_w N _ _ _ c_0 _ h_164) [1] (ho := ⟨(by first | rfl | simp only [go_sem, seval, e_2, e_23, e_44, e_48, e_54, e_59, e_81, e_103, e_125, e_147]), trivial⟩) ?_; simp only [e_2, e_23, e_44, e_48, e_54, e_59, e_81, e_103, e_125, e_147, go_sem, seval]; cases h; rw [← hQ]; exact ⟨rfl, _, rfl, _, _, (RefV.out (by first | rfl | simp only [go_sem, seval, e_2, e_23, e_44, e_48, e_54, e_59, e_81, e_103, e_125, e_147])), rfl, rfl⟩
             · (try dsimp only at h); refine ACalls.panA (gsub_reader_elsewhere_w N _ _ _ c_0 _ h_164) [1] (ho := ⟨(by first | rfl | simp only [go_sem, seval, e_2, e_23, e_44, e_48, e_54, e_59, e_81, e_103, e_125, e_147]), trivial⟩) ?_; (try simp only [CallK_pan, dCallK_pan, panK_ap]); cases h; rw [← hQ]; exact ⟨rfl, _, _, RefV.dead rfl, rfl, rfl⟩
            ·
             obtain ⟨o_185, h_184, h⟩ := bindS h; simp only [e_2, e_23, e_44, e_48, e_54, e_59, e_81, e_103, e_125, e_147, go_sem, seval]; rcases o_185 with ⟨y_167, y_168, y_169, y_170, y_171, y_172, y_173, y_174, y_175, y_176, y_177, y_178, y_179, y_180, y_181, y_182, y_183⟩ | _
             · (try dsimp only at h); refine ACalls.goA (gsub_reader_reverse_w N _ _ _ c_0 _ h_184) [1] (ho := ⟨(by first | rfl | simp only [go_sem, seval, e_2, e_23, e_44, e_48, e_54, e_59, e_81, e_103, e_125, e_147]), trivial⟩) ?_; simp only [e_2, e_23, e_44, e_48, e_54, e_59, e_81, e_103, e_125, e_147, go_sem, seval]; cases h; rw [← hQ]; exact ⟨rfl, _, rfl, _, _, (RefV.out (by first | rfl | simp only [go_sem, seval, e_2, e_23, e_44, e_48, e_54, e_59, e_81, e_103, e_125, e_147])), rfl, rfl⟩
             · (try dsimp only at h); refine ACalls.panA (gsub_reader_reverse_w N _ _ _ c_0 _ h_184) [1] (ho := ⟨(by first | rfl | simp only [go_sem, seval, e_2, e_23, e_44, e_48, e_54, e_59, e_81, e_103, e_125, e_147]), trivial⟩) ?_; (try simp only [CallK_pan, dCallK_pan, panK_ap]); cases h; rw [← hQ]; exact ⟨rfl, _, _, RefV.dead rfl, rfl, rfl⟩
       · (try dsimp only at h); refine ACalls.panA (gsub_must_w N _ _ h_55) [] ?_; (try simp only [CallK_pan, dCallK_pan, panK_ap]); cases h; rw [← hQ]; exact ⟨rfl, _, _, RefV.dead rfl, rfl, rfl⟩
      ·
       obtain ⟨o_188, h_187, h⟩ := bindS h; simp only [e_2, e_23, e_44, e_48, e_54, go_sem, seval]; rcases o_188 with _ | _
       ·
        (try dsimp only at h); refine ACalls.go0 (gsub_must_w N _ _ h_187) ?_; have e_190 := eq_true (of_decide_eq_true (gsub_must_inl h_187)); obtain ⟨o_209, h_208, h⟩ := bindS h; simp only [e_2, e_23, e_44, e_48, e_54, e_190, go_sem, seval]; rcases o_209 with ⟨y_191, y_192, y_193, y_194, y_195, y_196, y_197, y_198, y_199, y_200, y_201, y_202, y_203, y_204, y_205, y_206, y_207⟩ | _
        · (try dsimp only at h); refine ACalls.goA (gsub_reader_single_w N _ _ _ _ c_0 _ h_208) [1] (ho := ⟨(by first | rfl | simp only [go_sem, seval, e_2, e_23, e_44, e_48, e_54, e_190]), trivial⟩) ?_; simp only [e_2, e_23, e_44, e_48, e_54, e_190, go_sem, seval]; cases h; rw [← hQ]; exact ⟨rfl, _, rfl, _, _, (RefV.out (by first | rfl | simp only [go_sem, seval, e_2, e_23, e_44, e_48, e_54, e_190])), rfl, rfl⟩
        · (try dsimp only at h); refine ACalls.panA (gsub_reader_single_w N _ _ _ _ c_0 _ h_208) [1] (ho := ⟨(by first | rfl | simp only [go_sem, seval, e_2, e_23, e_44, e_48, e_54, e_190]), trivial⟩) ?_; (try simp only [CallK_pan, dCallK_pan, panK_ap]); cases h; rw [← hQ]; exact ⟨rfl, _, _, RefV.dead rfl, rfl, rfl⟩
       · (try dsimp only at h); refine ACalls.panA (gsub_must_w N _ _ h_187) [] ?_; (try simp only [CallK_pan, dCallK_pan, panK_ap]); cases h; rw [← hQ]; exact ⟨rfl, _, _, RefV.dead rfl, rfl, rfl⟩
     · (try dsimp only at h); refine ACalls.panA (gsub_reader_number_w N _ _ _ c_0 _ h_50) [1] (ho := ⟨(by first | rfl | simp only [go_sem, seval, e_2, e_23, e_44, e_48]), trivial⟩) ?_; (try simp only [CallK_pan, dCallK_pan, panK_ap]); cases h; rw [← hQ]; exact ⟨rfl, _, _, RefV.dead rfl, rfl, rfl⟩
    · (try dsimp only at h); refine ACalls.panA (gsub_must_w N _ _ h_45) [] ?_; (try simp only [CallK_pan, dCallK_pan, panK_ap]); cases h; rw [← hQ]; exact ⟨rfl, _, _, RefV.dead rfl, rfl, rfl⟩
   ·
    obtain ⟨o_212, h_211, h⟩ := bindS h; simp only [e_2, e_23, e_44, go_sem, seval]; rcases o_212 with _ | _
    · (try dsimp only at h); refine ACalls.go0 (gsub_must_w N _ _ h_211) ?_; exact no0 h
    · (try dsimp only at h); refine ACalls.panA (gsub_must_w N _ _ h_211) [] ?_; (try simp only [CallK_pan, dCallK_pan, panK_ap]); cases h; rw [← hQ]; exact ⟨rfl, _, _, RefV.dead rfl, rfl, rfl⟩
theorem gsub_Read_w (N : Nat) (l_0 : List Int) (a_1 : Int) (a_2 : Int) (c_0 : Bool) (z_1 : Int) (z_2 : List TSpan) (z_3 : Bool) (z_4 : Int) (z_5 : List (List Int)) (z_6 : List (List TLig)) (z_7 : List TCtx) (z_8 : List TValue) (z_9 : List (List TTwo)) (z_10 : List TClass) (z_11 : List TClass) (z_12 : List (List TTwo)) (z_13 : List TArr2_TAnchor) (z_14 : List TMark) (z_15 : List TSpan) (z_16 : List (List (List TAnchor))) (z_17 : Bool) (h : gsub_Read N l_0 a_1 a_2 = some (z_1, z_2, z_3, z_4, z_5, z_6, z_7, z_8, z_9, z_10, z_11, z_12, z_13, z_14, z_15, z_16, z_17)) :
  ACalls Try.prog 11 [.vec c_0 (List.map eU8 l_0), .int .i64 a_1, .int .i64 a_2] [] (fun e H => H = [] ∧ e = .ret (.tup [.agg [.int .i64 z_1, .vec false (List.map eTSpan z_2), .bool z_3, .int .i64 z_4, .vec false (List.map eLI64 z_5), .vec false (List.map eLTLig z_6), .vec false (List.map eTCtx z_7), .vec false (List.map eTValue z_8), .vec false (List.map eLTTwo z_9), .vec false (List.map eTClass z_10), .vec false (List.map eTClass z_11), .vec false (List.map eLTTwo z_12), .vec false (List.map eTArr2_TAnchor z_13), .vec false (List.map eTMark z_14), .vec false (List.map eTSpan z_15), .vec false (List.map eLLTAnchor z_16)], .bool z_17])) := by
 unfold gsub_Read at h; refine ACalls.goRN Try.func11 n11 a11 Try.ntmps11 r11 (by simp) 0 rfl ?_; generalize hQ : bodyR _ _ _ _ = QQ; obtain ⟨o_18, h_17, h⟩ := bindS h; simp only [A11, go_sem, seval]; rcases o_18 with ⟨y_1, y_2, y_3, y_4, y_5, y_6, y_7, y_8, y_9, y_10, y_11, y_12, y_13, y_14, y_15, y_16⟩ | _
 · (try dsimp only at h); refine ACalls.go0 (gsub_read_w N _ _ _ c_0 _ h_17) ?_; simp only [go_sem, seval]; rw [← hQ]; show clo _ _ _ _ _ _ _; refine clo.of_M (g := 23) (by simp) rfl rc23 (by decide) ?_; generalize hE : endR _ _ _ _ = EE; simp only [A23r, A23, go_sem, seval]; obtain ⟨rfl, g⟩ := pj (si h); obtain ⟨rfl, g1⟩ := pj g; obtain ⟨rfl, g2⟩ := pj g1; obtain ⟨rfl, g3⟩ := pj g2; obtain ⟨rfl, g4⟩ := pj g3; obtain ⟨rfl, g5⟩ := pj g4; obtain ⟨rfl, g6⟩ := pj g5; obtain ⟨rfl, g7⟩ := pj g6; obtain ⟨rfl, g8⟩ := pj g7; obtain ⟨rfl, g9⟩ := pj g8; obtain ⟨rfl, g10⟩ := pj g9; obtain ⟨rfl, g11⟩ := pj g10; obtain ⟨rfl, g12⟩ := pj g11; obtain ⟨rfl, g13⟩ := pj g12; obtain ⟨rfl, g14⟩ := pj g13; obtain ⟨rfl, rfl⟩ := pj g14; rw [← hE]; exact ⟨rfl, _, rfl, _, _, (RefV.out rfl), rfl, rfl⟩
 · (try dsimp only at h); refine ACalls.panA (gsub_read_w N _ _ _ c_0 _ h_17) [] ?_; (try simp only [CallK_pan, dCallK_pan, panK_ap]); rw [← hQ]; show clo _ _ _ _ _ _ _; refine clo.of_M (g := 23) (by simp) rfl rc23 (by decide) ?_; generalize hE : endR _ _ _ _ = EE; simp only [A23r, A23, go_sem, seval]; obtain ⟨rfl, g⟩ := pj (si h); obtain ⟨rfl, g1⟩ := pj g; obtain ⟨rfl, g2⟩ := pj g1; obtain ⟨rfl, g3⟩ := pj g2; obtain ⟨rfl, g4⟩ := pj g3; obtain ⟨rfl, g5⟩ := pj g4; obtain ⟨rfl, g6⟩ := pj g5; obtain ⟨rfl, g7⟩ := pj g6; obtain ⟨rfl, g8⟩ := pj g7; obtain ⟨rfl, g9⟩ := pj g8; obtain ⟨rfl, g10⟩ := pj g9; obtain ⟨rfl, g11⟩ := pj g10; obtain ⟨rfl, g12⟩ := pj g11; obtain ⟨rfl, g13⟩ := pj g12; obtain ⟨rfl, g14⟩ := pj g13; obtain ⟨rfl, rfl⟩ := pj g14; rw [← hE]; exact ⟨rfl, _, rfl, _, _, (RefV.trans (RefV.out (v' := .tup [.agg [.int .i64 0, nn, .bool false, .int .i64 0, nn, nn, nn, nn, nn, nn, nn, nn, nn, nn, nn, nn], .bool false]) rfl) (RefV.weak (Wks.cons (Wk.tup (Wks.cons (Wk.agg (Wks.cons (Wk.refl _) (Wks.cons Wk.vec (Wks.cons (Wk.refl _) (Wks.cons (Wk.refl _) (Wks.cons Wk.vec (Wks.cons Wk.vec (Wks.cons Wk.vec (Wks.cons Wk.vec (Wks.cons Wk.vec (Wks.cons Wk.vec (Wks.cons Wk.vec (Wks.cons Wk.vec (Wks.cons Wk.vec (Wks.cons Wk.vec (Wks.cons Wk.vec (Wks.cons Wk.vec (Wks.nil)))))))))))))))))) (Wks.cons (Wk.refl _) (Wks.nil)))) Wks.nil) (WkH.refl _))), rfl, rfl⟩
theorem ref10_Same_L1_w (N : Nat) (l_0 : List TSpan) (l_1 : List TSpan) (c_0 : Bool) (c_1 : Bool) {R : AExit → ATm → List AObj → Prop} : ∀ (n : Nat) (i_3 : Int) (o : (Unit) ⊕ (Unit)), ref10_Same_L1 N l_0 l_1 n i_3 = some o → (match o with | .inl _ => R (.exit 0) ⟨26, [], []⟩ [] | .inr (_) => R .ret ⟨26, [(4, .bool false)], []⟩ []) →
  ALp Try.prog 0 B34_1 ⟨26, [(0, .vec c_0 (List.map eTSpan l_0)), (1, .vec c_1 (List.map eTSpan l_1)), (5, .int .i64 i_3)], []⟩ [] R := by
 intro n
 induction n with
 | zero =>
  intro i_3 o h _; exact no0 h
 | succ n ih =>
  intro i_3 o h hp; rw [ref10_Same_L1] at h; refine ALp.round ?_; generalize hQ : RoundQ _ _ _ _ = QQ; simp only [B34_1, A34, go_sem, seval]; rcases iteS h with ⟨e_5, h⟩ | ⟨e_5, h⟩
  ·
   obtain ⟨x_6, h_7, h⟩ := bindS h; have e_8 : (List.map eTSpan l_0)[(i_3).toNat]? = some [.int .i64 x_6.From, .int .i64 x_6.To] := atI_map eTSpan h_7; have e_9 := eq_true (atI_some h_7).1; have e_10 := eq_true (atI_lt h_7); obtain ⟨x_11, h_12, h⟩ := bindS h; have e_13 : (List.map eTSpan l_1)[(i_3).toNat]? = some [.int .i64 x_11.From, .int .i64 x_11.To] := atI_map eTSpan h_12; have e_14 := eq_true (atI_some h_12).1; have e_15 := eq_true (atI_lt h_12); simp only [e_5, e_8, e_9, e_10, e_13, e_14, e_15, go_sem, seval]; rcases iteS h with ⟨e_17, h⟩ | ⟨e_17, h⟩
   ·
    simp only [e_5, e_8, e_9, e_10, e_13, e_14, e_15, e_17, go_sem, seval]; rcases iteS h with ⟨e_19, h⟩ | ⟨e_19, h⟩
    · simp only [e_5, e_8, e_9, e_10, e_13, e_14, e_15, e_17, e_19, go_sem, seval]; rw [← hQ]; exact ⟨_, _, (Ref.out [0, 1, 5] rfl), (Nat.zero_le _), ih _ _ h hp⟩
    · simp only [e_5, e_8, e_9, e_10, e_13, e_14, e_15, e_17, e_19, go_sem, seval]; cases h; rw [← hQ]; exact ⟨_, _, (Ref.out [4] rfl), hp⟩
   · simp only [e_5, e_8, e_9, e_10, e_13, e_14, e_15, e_17, go_sem, seval]; cases h; rw [← hQ]; exact ⟨_, _, (Ref.out [4] rfl), hp⟩
  · simp only [e_5, go_sem, seval]; cases h; rw [← hQ]; exact ⟨_, _, (Ref.out [] rfl), hp⟩
theorem ref10_Same_w (N : Nat) (l_0 : List TSpan) (l_1 : List TSpan) (c_0 : Bool) (c_1 : Bool) (z_1 : Bool) (h : ref10_Same N l_0 l_1 = some z_1) :
  ACalls Try.prog 34 [.vec c_0 (List.map eTSpan l_0), .vec c_1 (List.map eTSpan l_1)] [] (fun e H => H = [] ∧ e = .ret (.bool z_1)) := by
 unfold ref10_Same at h; refine ACalls.goN Try.func34 n34 a34 Try.ntmps34 r34 (by simp) 0 rfl ?_; generalize hQ : bodyA _ _ _ = QQ; simp only [A34, go_sem, seval]; rcases iteS h with ⟨e_2, h⟩ | ⟨e_2, h⟩
 ·
  simp only [e_2, go_sem, seval]; obtain ⟨o_1004, h_1003, h⟩ := bindS h; refine ALp.ref (Ref.out [0, 1, 5] rfl) (Nat.zero_le _) (ref10_Same_L1_w N _ _ c_0 c_1 N _ o_1004 h_1003 ?_); rcases o_1004 with _ | _
  · (try dsimp only at h); refine LoopK_go rfl (Nat.zero_le _) ?_; simp only [e_2, go_sem, seval]; obtain rfl := si h; rw [← hQ]; exact ⟨rfl, _, rfl, _, _, (RefV.out rfl), rfl, rfl⟩
  · (try dsimp only at h); refine LoopK_ret ?_; obtain rfl := si h; rw [← hQ]; exact ⟨rfl, _, rfl, _, _, (RefV.out rfl), rfl, rfl⟩
 · simp only [e_2, go_sem, seval]; obtain rfl := si h; rw [← hQ]; exact ⟨rfl, _, rfl, _, _, (RefV.out rfl), rfl, rfl⟩
theorem ref01_Ints_L1_w (N : Nat) (l_0 : List Int) (l_1 : List Int) (c_0 : Bool) (c_1 : Bool) {R : AExit → ATm → List AObj → Prop} : ∀ (n : Nat) (i_3 : Int) (o : (Unit) ⊕ (Unit)), ref01_Ints_L1 N l_0 l_1 n i_3 = some o → (match o with | .inl _ => R (.exit 0) ⟨26, [], []⟩ [] | .inr (_) => R .ret ⟨26, [(4, .bool false)], []⟩ []) →
  ALp Try.prog 0 B62_1 ⟨26, [(0, .vec c_0 (List.map eI64 l_0)), (1, .vec c_1 (List.map eI64 l_1)), (5, .int .i64 i_3)], []⟩ [] R := by
 intro n
 induction n with
 | zero =>
  intro i_3 o h _; exact no0 h
 | succ n ih =>
  intro i_3 o h hp; rw [ref01_Ints_L1] at h; refine ALp.round ?_; generalize hQ : RoundQ _ _ _ _ = QQ; simp only [B62_1, A62, go_sem, seval]; rcases iteS h with ⟨e_5, h⟩ | ⟨e_5, h⟩
  ·
   obtain ⟨x_6, h_7, h⟩ := bindS h; have e_8 : (List.map eI64 l_0)[(i_3).toNat]? = some [.int .i64 x_6] := atI_map eI64 h_7; have e_9 := eq_true (atI_some h_7).1; have e_10 := eq_true (atI_lt h_7); obtain ⟨x_11, h_12, h⟩ := bindS h; have e_13 : (List.map eI64 l_1)[(i_3).toNat]? = some [.int .i64 x_11] := atI_map eI64 h_12; have e_14 := eq_true (atI_some h_12).1; have e_15 := eq_true (atI_lt h_12); simp only [e_5, e_8, e_9, e_10, e_13, e_14, e_15, go_sem, seval]; rcases iteS h with ⟨e_17, h⟩ | ⟨e_17, h⟩
   · simp only [e_5, e_8, e_9, e_10, e_13, e_14, e_15, e_17, go_sem, seval]; rw [← hQ]; exact ⟨_, _, (Ref.out [0, 1, 5] rfl), (Nat.zero_le _), ih _ _ h hp⟩
   · simp only [e_5, e_8, e_9, e_10, e_13, e_14, e_15, e_17, go_sem, seval]; cases h; rw [← hQ]; exact ⟨_, _, (Ref.out [4] rfl), hp⟩
  · simp only [e_5, go_sem, seval]; cases h; rw [← hQ]; exact ⟨_, _, (Ref.out [] rfl), hp⟩
theorem ref01_Ints_w (N : Nat) (l_0 : List Int) (l_1 : List Int) (c_0 : Bool) (c_1 : Bool) (z_1 : Bool) (h : ref01_Ints N l_0 l_1 = some z_1) :
  ACalls Try.prog 62 [.vec c_0 (List.map eI64 l_0), .vec c_1 (List.map eI64 l_1)] [] (fun e H => H = [] ∧ e = .ret (.bool z_1)) := by
 unfold ref01_Ints at h; refine ACalls.goN Try.func62 n62 a62 Try.ntmps62 r62 (by simp) 0 rfl ?_; generalize hQ : bodyA _ _ _ = QQ; simp only [A62, go_sem, seval]; rcases iteS h with ⟨e_2, h⟩ | ⟨e_2, h⟩
 ·
  simp only [e_2, go_sem, seval]; obtain ⟨o_1004, h_1003, h⟩ := bindS h; refine ALp.ref (Ref.out [0, 1, 5] rfl) (Nat.zero_le _) (ref01_Ints_L1_w N _ _ c_0 c_1 N _ o_1004 h_1003 ?_); rcases o_1004 with _ | _
  · (try dsimp only at h); refine LoopK_go rfl (Nat.zero_le _) ?_; simp only [e_2, go_sem, seval]; obtain rfl := si h; rw [← hQ]; exact ⟨rfl, _, rfl, _, _, (RefV.out rfl), rfl, rfl⟩
  · (try dsimp only at h); refine LoopK_ret ?_; obtain rfl := si h; rw [← hQ]; exact ⟨rfl, _, rfl, _, _, (RefV.out rfl), rfl, rfl⟩
 · simp only [e_2, go_sem, seval]; obtain rfl := si h; rw [← hQ]; exact ⟨rfl, _, rfl, _, _, (RefV.out rfl), rfl, rfl⟩
theorem ref12_Lists_L1_w (N : Nat) (l_0 : List (List Int)) (l_1 : List (List Int)) (c_0 : Bool) (c_1 : Bool) {R : AExit → ATm → List AObj → Prop} : ∀ (n : Nat) (i_3 : Int) (o : (Unit) ⊕ (Unit)), ref12_Lists_L1 N l_0 l_1 n i_3 = some o → (match o with | .inl _ => R (.exit 0) ⟨27, [], []⟩ [] | .inr (_) => R .ret ⟨27, [(4, .bool false)], []⟩ []) →
  ALp Try.prog 0 B35_1 ⟨27, [(0, .vec c_0 (List.map eLI64 l_0)), (1, .vec c_1 (List.map eLI64 l_1)), (5, .int .i64 i_3)], []⟩ [] R := by
 intro n
 induction n with
 | zero =>
  intro i_3 o h _; exact no0 h
 | succ n ih =>
  intro i_3 o h hp; rw [ref12_Lists_L1] at h; refine ALp.round ?_; generalize hQ : RoundQ _ _ _ _ = QQ; simp only [B35_1, A35, go_sem, seval]; rcases iteS h with ⟨e_5, h⟩ | ⟨e_5, h⟩
  ·
   obtain ⟨x_6, h_7, h⟩ := bindS h; have e_8 : (List.map eLI64 l_0)[(i_3).toNat]? = some [.vec false (List.map eI64 x_6)] := atI_map eLI64 h_7; have e_9 := eq_true (atI_some h_7).1; have e_10 := eq_true (atI_lt h_7); obtain ⟨x_11, h_12, h⟩ := bindS h; have e_13 : (List.map eLI64 l_1)[(i_3).toNat]? = some [.vec false (List.map eI64 x_11)] := atI_map eLI64 h_12; have e_14 := eq_true (atI_some h_12).1; have e_15 := eq_true (atI_lt h_12); obtain ⟨y_16, h_17, h⟩ := bindS h; simp only [e_5, e_8, e_9, e_10, e_13, e_14, e_15, go_sem, seval]; refine ACalls.use0 (ref01_Ints_w N _ _ false false _ h_17) rfl rfl ?_; simp only [e_5, e_8, e_9, e_10, e_13, e_14, e_15, go_sem, seval]; rcases iteB h with ⟨e_19, h⟩ | ⟨e_19, h⟩
   · simp only [e_5, e_8, e_9, e_10, e_13, e_14, e_15, e_19, go_sem, seval]; rw [← hQ]; exact ⟨_, _, (Ref.out [0, 1, 5] rfl), (Nat.zero_le _), ih _ _ h hp⟩
   · simp only [e_5, e_8, e_9, e_10, e_13, e_14, e_15, e_19, go_sem, seval]; cases h; rw [← hQ]; exact ⟨_, _, (Ref.out [4] rfl), hp⟩
  · simp only [e_5, go_sem, seval]; cases h; rw [← hQ]; exact ⟨_, _, (Ref.out [] rfl), hp⟩
theorem ref12_Lists_w (N : Nat) (l_0 : List (List Int)) (l_1 : List (List Int)) (c_0 : Bool) (c_1 : Bool) (z_1 : Bool) (h : ref12_Lists N l_0 l_1 = some z_1) :
  ACalls Try.prog 35 [.vec c_0 (List.map eLI64 l_0), .vec c_1 (List.map eLI64 l_1)] [] (fun e H => H = [] ∧ e = .ret (.bool z_1)) := by
 unfold ref12_Lists at h; refine ACalls.goN Try.func35 n35 a35 Try.ntmps35 r35 (by simp) 0 rfl ?_; generalize hQ : bodyA _ _ _ = QQ; simp only [A35, go_sem, seval]; rcases iteS h with ⟨e_2, h⟩ | ⟨e_2, h⟩
 ·
  simp only [e_2, go_sem, seval]; obtain ⟨o_1004, h_1003, h⟩ := bindS h; refine ALp.ref (Ref.out [0, 1, 5] rfl) (Nat.zero_le _) (ref12_Lists_L1_w N _ _ c_0 c_1 N _ o_1004 h_1003 ?_); rcases o_1004 with _ | _
  · (try dsimp only at h); refine LoopK_go rfl (Nat.zero_le _) ?_; simp only [e_2, go_sem, seval]; obtain rfl := si h; rw [← hQ]; exact ⟨rfl, _, rfl, _, _, (RefV.out rfl), rfl, rfl⟩
  · (try dsimp only at h); refine LoopK_ret ?_; obtain rfl := si h; rw [← hQ]; exact ⟨rfl, _, rfl, _, _, (RefV.out rfl), rfl, rfl⟩
 · simp only [e_2, go_sem, seval]; obtain rfl := si h; rw [← hQ]; exact ⟨rfl, _, rfl, _, _, (RefV.out rfl), rfl, rfl⟩
theorem ref12_Ligs_L2_w (N : Nat) (l_0 : List (List TLig)) (l_1 : List (List TLig)) (i_3 : Int) (c_0 : Bool) (c_1 : Bool) {R : AExit → ATm → List AObj → Prop} : ∀ (n : Nat) (i_18 : Int) (o : (Unit) ⊕ (Unit)), ref12_Ligs_L2 N l_0 l_1 i_3 n i_18 = some o → (match o with | .inl _ => R (.exit 2) ⟨75, [(0, .vec c_0 (List.map eLTLig l_0)), (1, .vec c_1 (List.map eLTLig l_1)), (5, .int .i64 i_3)], []⟩ [] | .inr (_) => R .ret ⟨75, [(4, .bool false)], []⟩ []) →
  ALp Try.prog 0 B36_2 ⟨75, [(0, .vec c_0 (List.map eLTLig l_0)), (1, .vec c_1 (List.map eLTLig l_1)), (5, .int .i64 i_3), (6, .int .i64 i_18)], []⟩ [] R := by
 intro n
 induction n with
 | zero =>
  intro i_18 o h _; exact no0 h
 | succ n ih =>
  intro i_18 o h hp; rw [ref12_Ligs_L2] at h; refine ALp.round ?_; generalize hQ : RoundQ _ _ _ _ = QQ; obtain ⟨x_19, h_20, h⟩ := bindS h; have e_21 : (List.map eLTLig l_0)[(i_3).toNat]? = some [.vec false (List.map eTLig x_19)] := atI_map eLTLig h_20; have e_22 := eq_true (atI_some h_20).1; have e_23 := eq_true (atI_lt h_20); simp only [B36_2, B36_1, A36, e_21, e_22, e_23, go_sem, seval]; rcases iteS h with ⟨e_25, h⟩ | ⟨e_25, h⟩
  ·
   obtain ⟨x_26, h_27, h⟩ := bindS h; have e_28 : (List.map eTLig x_19)[(i_18).toNat]? = some [.vec false (List.map eI64 x_26.Parts), .int .i64 x_26.To] := atI_map eTLig h_27; have e_29 := eq_true (atI_some h_27).1; have e_30 := eq_true (atI_lt h_27); obtain ⟨x_31, h_32, h⟩ := bindS h; have e_33 : (List.map eLTLig l_1)[(i_3).toNat]? = some [.vec false (List.map eTLig x_31)] := atI_map eLTLig h_32; have e_34 := eq_true (atI_some h_32).1; have e_35 := eq_true (atI_lt h_32); obtain ⟨x_36, h_37, h⟩ := bindS h; have e_38 : (List.map eTLig x_31)[(i_18).toNat]? = some [.vec false (List.map eI64 x_36.Parts), .int .i64 x_36.To] := atI_map eTLig h_37; have e_39 := eq_true (atI_some h_37).1; have e_40 := eq_true (atI_lt h_37); simp only [e_21, e_22, e_23, e_25, e_28, e_29, e_30, e_33, e_34, e_35, e_38, e_39, e_40, go_sem, seval]; rcases iteS h with ⟨e_42, h⟩ | ⟨e_42, h⟩
   ·
    obtain ⟨y_43, h_44, h⟩ := bindS h; simp only [e_21, e_22, e_23, e_25, e_28, e_29, e_30, e_33, e_34, e_35, e_38, e_39, e_40, e_42, go_sem, seval]; refine ACalls.use0 (ref01_Ints_w N _ _ false false _ h_44) rfl rfl ?_; simp only [e_21, e_22, e_23, e_25, e_28, e_29, e_30, e_33, e_34, e_35, e_38, e_39, e_40, e_42, go_sem, seval]; rcases iteB h with ⟨e_46, h⟩ | ⟨e_46, h⟩
    · simp only [e_21, e_22, e_23, e_25, e_28, e_29, e_30, e_33, e_34, e_35, e_38, e_39, e_40, e_42, e_46, go_sem, seval]; rw [← hQ]; exact ⟨_, _, (Ref.out [0, 1, 5, 6] rfl), (Nat.zero_le _), ih _ _ h hp⟩
    · simp only [e_21, e_22, e_23, e_25, e_28, e_29, e_30, e_33, e_34, e_35, e_38, e_39, e_40, e_42, e_46, go_sem, seval]; cases h; rw [← hQ]; exact ⟨_, _, (Ref.out [4] rfl), hp⟩
   · simp only [e_21, e_22, e_23, e_25, e_28, e_29, e_30, e_33, e_34, e_35, e_38, e_39, e_40, e_42, go_sem, seval]; cases h; rw [← hQ]; exact ⟨_, _, (Ref.out [4] rfl), hp⟩
  · simp only [e_21, e_22, e_23, e_25, go_sem, seval]; cases h; rw [← hQ]; exact ⟨_, _, (Ref.out [0, 1, 5] rfl), hp⟩
theorem ref12_Ligs_L3_w (N : Nat) (l_0 : List (List TLig)) (l_1 : List (List TLig)) (c_0 : Bool) (c_1 : Bool) {R : AExit → ATm → List AObj → Prop} : ∀ (n : Nat) (i_3 : Int) (o : (Unit) ⊕ (Unit)), ref12_Ligs_L3 N l_0 l_1 n i_3 = some o → (match o with | .inl _ => R (.exit 0) ⟨75, [], []⟩ [] | .inr (_) => R .ret ⟨75, [(4, .bool false)], []⟩ []) →
  ALp Try.prog 0 B36_1 ⟨75, [(0, .vec c_0 (List.map eLTLig l_0)), (1, .vec c_1 (List.map eLTLig l_1)), (5, .int .i64 i_3)], []⟩ [] R := by
 intro n
 induction n with
 | zero =>
  intro i_3 o h _; exact no0 h
 | succ n ih =>
  intro i_3 o h hp; rw [ref12_Ligs_L3] at h; refine ALp.round ?_; generalize hQ : RoundQ _ _ _ _ = QQ; simp only [B36_1, A36, go_sem, seval]; rcases iteS h with ⟨e_5, h⟩ | ⟨e_5, h⟩
  ·
   obtain ⟨x_6, h_7, h⟩ := bindS h; have e_8 : (List.map eLTLig l_0)[(i_3).toNat]? = some [.vec false (List.map eTLig x_6)] := atI_map eLTLig h_7; have e_9 := eq_true (atI_some h_7).1; have e_10 := eq_true (atI_lt h_7); obtain ⟨x_11, h_12, h⟩ := bindS h; have e_13 : (List.map eLTLig l_1)[(i_3).toNat]? = some [.vec false (List.map eTLig x_11)] := atI_map eLTLig h_12; have e_14 := eq_true (atI_some h_12).1; have e_15 := eq_true (atI_lt h_12); simp only [e_5, e_8, e_9, e_10, e_13, e_14, e_15, go_sem, seval]; rcases iteS h with ⟨e_17, h⟩ | ⟨e_17, h⟩
   ·
    simp only [e_5, e_8, e_9, e_10, e_13, e_14, e_15, e_17, go_sem, seval]; obtain ⟨o_1019, h_1018, h⟩ := bindS h; refine ALp.ref (Ref.out [0, 1, 5, 6] rfl) (Nat.zero_le _) (ref12_Ligs_L2_w N _ _ _ c_0 c_1 N _ o_1019 h_1018 ?_); rcases o_1019 with _ | _
    · (try dsimp only at h); refine LoopK_go rfl (Nat.zero_le _) ?_; simp only [e_5, e_8, e_9, e_10, e_13, e_14, e_15, e_17, go_sem, seval]; rw [← hQ]; exact ⟨_, _, (Ref.out [0, 1, 5] rfl), (Nat.zero_le _), ih _ _ h hp⟩
    · (try dsimp only at h); refine LoopK_ret ?_; cases h; rw [← hQ]; exact ⟨_, _, (Ref.out [4] rfl), hp⟩
   · simp only [e_5, e_8, e_9, e_10, e_13, e_14, e_15, e_17, go_sem, seval]; cases h; rw [← hQ]; exact ⟨_, _, (Ref.out [4] rfl), hp⟩
  · simp only [e_5, go_sem, seval]; cases h; rw [← hQ]; exact ⟨_, _, (Ref.out [] rfl), hp⟩
theorem ref12_Ligs_w (N : Nat) (l_0 : List (List TLig)) (l_1 : List (List TLig)) (c_0 : Bool) (c_1 : Bool) (z_1 : Bool) (h : ref12_Ligs N l_0 l_1 = some z_1) :
  ACalls Try.prog 36 [.vec c_0 (List.map eLTLig l_0), .vec c_1 (List.map eLTLig l_1)] [] (fun e H => H = [] ∧ e = .ret (.bool z_1)) := by
 unfold ref12_Ligs at h; refine ACalls.goN Try.func36 n36 a36 Try.ntmps36 r36 (by simp) 0 rfl ?_; generalize hQ : bodyA _ _ _ = QQ; simp only [A36, go_sem, seval]; rcases iteS h with ⟨e_2, h⟩ | ⟨e_2, h⟩
 ·
  simp only [e_2, go_sem, seval]; obtain ⟨o_1004, h_1003, h⟩ := bindS h; refine ALp.ref (Ref.out [0, 1, 5] rfl) (Nat.zero_le _) (ref12_Ligs_L3_w N _ _ c_0 c_1 N _ o_1004 h_1003 ?_); rcases o_1004 with _ | _
  · (try dsimp only at h); refine LoopK_go rfl (Nat.zero_le _) ?_; simp only [e_2, go_sem, seval]; obtain rfl := si h; rw [← hQ]; exact ⟨rfl, _, rfl, _, _, (RefV.out rfl), rfl, rfl⟩
  · (try dsimp only at h); refine LoopK_ret ?_; obtain rfl := si h; rw [← hQ]; exact ⟨rfl, _, rfl, _, _, (RefV.out rfl), rfl, rfl⟩
 · simp only [e_2, go_sem, seval]; obtain rfl := si h; rw [← hQ]; exact ⟨rfl, _, rfl, _, _, (RefV.out rfl), rfl, rfl⟩
theorem ref11_SameSets_L1_w (N : Nat) (l_0 : List TSet) (l_1 : List TSet) (c_0 : Bool) (c_1 : Bool) {R : AExit → ATm → List AObj → Prop} : ∀ (n : Nat) (i_3 : Int) (o : (Unit) ⊕ (Unit)), ref11_SameSets_L1 N l_0 l_1 n i_3 = some o → (match o with | .inl _ => R (.exit 0) ⟨42, [], []⟩ [] | .inr (_) => R .ret ⟨42, [(4, .bool false)], []⟩ []) →
  ALp Try.prog 0 B63_1 ⟨42, [(0, .vec c_0 (List.map eTSet l_0)), (1, .vec c_1 (List.map eTSet l_1)), (5, .int .i64 i_3)], []⟩ [] R := by
 intro n
 induction n with
 | zero =>
  intro i_3 o h _; exact no0 h
 | succ n ih =>
  intro i_3 o h hp; rw [ref11_SameSets_L1] at h; refine ALp.round ?_; generalize hQ : RoundQ _ _ _ _ = QQ; simp only [B63_1, A63, go_sem, seval]; rcases iteS h with ⟨e_5, h⟩ | ⟨e_5, h⟩
  ·
   obtain ⟨x_6, h_7, h⟩ := bindS h; have e_8 : (List.map eTSet l_0)[(i_3).toNat]? = some [.vec false (List.map eTSpan x_6.Spans), .bool x_6.Not] := atI_map eTSet h_7; have e_9 := eq_true (atI_some h_7).1; have e_10 := eq_true (atI_lt h_7); obtain ⟨x_11, h_12, h⟩ := bindS h; have e_13 : (List.map eTSet l_1)[(i_3).toNat]? = some [.vec false (List.map eTSpan x_11.Spans), .bool x_11.Not] := atI_map eTSet h_12; have e_14 := eq_true (atI_some h_12).1; have e_15 := eq_true (atI_lt h_12); simp only [e_5, e_8, e_9, e_10, e_13, e_14, e_15, go_sem, seval]; by_cases h_16 : x_6.Not = true
   ·
    rw [if_pos h_16] at h; have e_17 : x_6.Not = true := h_16; simp only [e_5, e_8, e_9, e_10, e_13, e_14, e_15, e_17, go_sem, seval]; by_cases h_18 : x_11.Not = true
    ·
     rw [if_pos h_18] at h; have e_19 : x_11.Not = true := h_18; obtain ⟨y_20, h_21, h⟩ := bindS h; simp only [e_5, e_8, e_9, e_10, e_13, e_14, e_15, e_17, e_19, go_sem, seval]; refine ACalls.use0 (ref10_Same_w N _ _ false false _ h_21) rfl rfl ?_; simp only [e_5, e_8, e_9, e_10, e_13, e_14, e_15, e_17, e_19, go_sem, seval]; rcases iteB h with ⟨e_23, h⟩ | ⟨e_23, h⟩
     · simp only [e_5, e_8, e_9, e_10, e_13, e_14, e_15, e_17, e_19, e_23, go_sem, seval]; rw [← hQ]; exact ⟨_, _, (Ref.out [0, 1, 5] rfl), (Nat.zero_le _), ih _ _ h hp⟩
     · simp only [e_5, e_8, e_9, e_10, e_13, e_14, e_15, e_17, e_19, e_23, go_sem, seval]; cases h; rw [← hQ]; exact ⟨_, _, (Ref.out [4] rfl), hp⟩
    · rw [if_neg h_18] at h; have e_19 : x_11.Not = false := bfalse h_18; simp only [e_5, e_8, e_9, e_10, e_13, e_14, e_15, e_17, e_19, go_sem, seval]; cases h; rw [← hQ]; exact ⟨_, _, (Ref.out [4] rfl), hp⟩
   ·
    rw [if_neg h_16] at h; have e_17 : x_6.Not = false := bfalse h_16; simp only [e_5, e_8, e_9, e_10, e_13, e_14, e_15, e_17, go_sem, seval]; by_cases h_24 : x_11.Not = true
    · rw [if_pos h_24] at h; have e_25 : x_11.Not = true := h_24; simp only [e_5, e_8, e_9, e_10, e_13, e_14, e_15, e_17, e_25, go_sem, seval]; cases h; rw [← hQ]; exact ⟨_, _, (Ref.out [4] rfl), hp⟩
    ·
     rw [if_neg h_24] at h; have e_25 : x_11.Not = false := bfalse h_24; obtain ⟨y_26, h_27, h⟩ := bindS h; simp only [e_5, e_8, e_9, e_10, e_13, e_14, e_15, e_17, e_25, go_sem, seval]; refine ACalls.use0 (ref10_Same_w N _ _ false false _ h_27) rfl rfl ?_; simp only [e_5, e_8, e_9, e_10, e_13, e_14, e_15, e_17, e_25, go_sem, seval]; rcases iteB h with ⟨e_29, h⟩ | ⟨e_29, h⟩
     · simp only [e_5, e_8, e_9, e_10, e_13, e_14, e_15, e_17, e_25, e_29, go_sem, seval]; rw [← hQ]; exact ⟨_, _, (Ref.out [0, 1, 5] rfl), (Nat.zero_le _), ih _ _ h hp⟩
     · simp only [e_5, e_8, e_9, e_10, e_13, e_14, e_15, e_17, e_25, e_29, go_sem, seval]; cases h; rw [← hQ]; exact ⟨_, _, (Ref.out [4] rfl), hp⟩
  · simp only [e_5, go_sem, seval]; cases h; rw [← hQ]; exact ⟨_, _, (Ref.out [] rfl), hp⟩
theorem ref11_SameSets_w (N : Nat) (l_0 : List TSet) (l_1 : List TSet) (c_0 : Bool) (c_1 : Bool) (z_1 : Bool) (h : ref11_SameSets N l_0 l_1 = some z_1) :
  ACalls Try.prog 63 [.vec c_0 (List.map eTSet l_0), .vec c_1 (List.map eTSet l_1)] [] (fun e H => H = [] ∧ e = .ret (.bool z_1)) := by
 unfold ref11_SameSets at h; refine ACalls.goN Try.func63 n63 a63 Try.ntmps63 r63 (by simp) 0 rfl ?_; generalize hQ : bodyA _ _ _ = QQ; simp only [A63, go_sem, seval]; rcases iteS h with ⟨e_2, h⟩ | ⟨e_2, h⟩
 ·
  simp only [e_2, go_sem, seval]; obtain ⟨o_1004, h_1003, h⟩ := bindS h; refine ALp.ref (Ref.out [0, 1, 5] rfl) (Nat.zero_le _) (ref11_SameSets_L1_w N _ _ c_0 c_1 N _ o_1004 h_1003 ?_); rcases o_1004 with _ | _
  · (try dsimp only at h); refine LoopK_go rfl (Nat.zero_le _) ?_; simp only [e_2, go_sem, seval]; obtain rfl := si h; rw [← hQ]; exact ⟨rfl, _, rfl, _, _, (RefV.out rfl), rfl, rfl⟩
  · (try dsimp only at h); refine LoopK_ret ?_; obtain rfl := si h; rw [← hQ]; exact ⟨rfl, _, rfl, _, _, (RefV.out rfl), rfl, rfl⟩
 · simp only [e_2, go_sem, seval]; obtain rfl := si h; rw [← hQ]; exact ⟨rfl, _, rfl, _, _, (RefV.out rfl), rfl, rfl⟩
theorem ref11_Same_L2_w (N : Nat) (l_0 : List TCtx) (l_1 : List TCtx) (i_3 : Int) (c_0 : Bool) (c_1 : Bool) {R : AExit → ATm → List AObj → Prop} : ∀ (n : Nat) (i_30 : Int) (o : (Unit) ⊕ (Unit)), ref11_Same_L2 N l_0 l_1 i_3 n i_30 = some o → (match o with | .inl _ => R (.exit 2) ⟨100, [(0, .vec c_0 (List.map eTCtx l_0)), (1, .vec c_1 (List.map eTCtx l_1)), (5, .int .i64 i_3)], []⟩ [] | .inr (_) => R .ret ⟨100, [(4, .bool false)], []⟩ []) →
  ALp Try.prog 0 B37_2 ⟨100, [(0, .vec c_0 (List.map eTCtx l_0)), (1, .vec c_1 (List.map eTCtx l_1)), (5, .int .i64 i_3), (6, .int .i64 i_30)], []⟩ [] R := by
 intro n
 induction n with
 | zero =>
  intro i_30 o h _; exact no0 h
 | succ n ih =>
  intro i_30 o h hp; rw [ref11_Same_L2] at h; refine ALp.round ?_; generalize hQ : RoundQ _ _ _ _ = QQ; obtain ⟨x_31, h_32, h⟩ := bindS h; have e_33 : (List.map eTCtx l_0)[(i_3).toNat]? = some [.vec false (List.map eTSet x_31.Back), .vec false (List.map eTSet x_31.In), .vec false (List.map eTSet x_31.Ahead), .vec false (List.map eTAct x_31.Acts)] := atI_map eTCtx h_32; have e_34 := eq_true (atI_some h_32).1; have e_35 := eq_true (atI_lt h_32); simp only [B37_2, B37_1, A37, e_33, e_34, e_35, go_sem, seval]; rcases iteS h with ⟨e_37, h⟩ | ⟨e_37, h⟩
  ·
   obtain ⟨x_38, h_39, h⟩ := bindS h; have e_40 : (List.map eTAct x_31.Acts)[(i_30).toNat]? = some [.int .i64 x_38.At, .int .i64 x_38.Lookup] := atI_map eTAct h_39; have e_41 := eq_true (atI_some h_39).1; have e_42 := eq_true (atI_lt h_39); obtain ⟨x_43, h_44, h⟩ := bindS h; have e_45 : (List.map eTCtx l_1)[(i_3).toNat]? = some [.vec false (List.map eTSet x_43.Back), .vec false (List.map eTSet x_43.In), .vec false (List.map eTSet x_43.Ahead), .vec false (List.map eTAct x_43.Acts)] := atI_map eTCtx h_44; have e_46 := eq_true (atI_some h_44).1; have e_47 := eq_true (atI_lt h_44); obtain ⟨x_48, h_49, h⟩ := bindS h; have e_50 : (List.map eTAct x_43.Acts)[(i_30).toNat]? = some [.int .i64 x_48.At, .int .i64 x_48.Lookup] := atI_map eTAct h_49; have e_51 := eq_true (atI_some h_49).1; have e_52 := eq_true (atI_lt h_49); simp only [e_33, e_34, e_35, e_37, e_40, e_41, e_42, e_45, e_46, e_47, e_50, e_51, e_52, go_sem, seval]; rcases iteS h with ⟨e_54, h⟩ | ⟨e_54, h⟩
   ·
    simp only [e_33, e_34, e_35, e_37, e_40, e_41, e_42, e_45, e_46, e_47, e_50, e_51, e_52, e_54, go_sem, seval]; rcases iteS h with ⟨e_56, h⟩ | ⟨e_56, h⟩
    · simp only [e_33, e_34, e_35, e_37, e_40, e_41, e_42, e_45, e_46, e_47, e_50, e_51, e_52, e_54, e_56, go_sem, seval]; rw [← hQ]; exact ⟨_, _, (Ref.out [0, 1, 5, 6] rfl), (Nat.zero_le _), ih _ _ h hp⟩
    · simp only [e_33, e_34, e_35, e_37, e_40, e_41, e_42, e_45, e_46, e_47, e_50, e_51, e_52, e_54, e_56, go_sem, seval]; cases h; rw [← hQ]; exact ⟨_, _, (Ref.out [4] rfl), hp⟩
   · simp only [e_33, e_34, e_35, e_37, e_40, e_41, e_42, e_45, e_46, e_47, e_50, e_51, e_52, e_54, go_sem, seval]; cases h; rw [← hQ]; exact ⟨_, _, (Ref.out [4] rfl), hp⟩
  · simp only [e_33, e_34, e_35, e_37, go_sem, seval]; cases h; rw [← hQ]; exact ⟨_, _, (Ref.out [0, 1, 5] rfl), hp⟩
theorem ref11_Same_L3_w (N : Nat) (l_0 : List TCtx) (l_1 : List TCtx) (c_0 : Bool) (c_1 : Bool) {R : AExit → ATm → List AObj → Prop} : ∀ (n : Nat) (i_3 : Int) (o : (Unit) ⊕ (Unit)), ref11_Same_L3 N l_0 l_1 n i_3 = some o → (match o with | .inl _ => R (.exit 0) ⟨100, [], []⟩ [] | .inr (_) => R .ret ⟨100, [(4, .bool false)], []⟩ []) →
  ALp Try.prog 0 B37_1 ⟨100, [(0, .vec c_0 (List.map eTCtx l_0)), (1, .vec c_1 (List.map eTCtx l_1)), (5, .int .i64 i_3)], []⟩ [] R := by
 intro n
 induction n with
 | zero =>
  intro i_3 o h _; exact no0 h
 | succ n ih =>
  intro i_3 o h hp; rw [ref11_Same_L3] at h; refine ALp.round ?_; generalize hQ : RoundQ _ _ _ _ = QQ; simp only [B37_1, A37, go_sem, seval]; rcases iteS h with ⟨e_5, h⟩ | ⟨e_5, h⟩
  ·
   obtain ⟨x_6, h_7, h⟩ := bindS h; have e_8 : (List.map eTCtx l_0)[(i_3).toNat]? = some [.vec false (List.map eTSet x_6.Back), .vec false (List.map eTSet x_6.In), .vec false (List.map eTSet x_6.Ahead), .vec false (List.map eTAct x_6.Acts)] := atI_map eTCtx h_7; have e_9 := eq_true (atI_some h_7).1; have e_10 := eq_true (atI_lt h_7); obtain ⟨x_11, h_12, h⟩ := bindS h; have e_13 : (List.map eTCtx l_1)[(i_3).toNat]? = some [.vec false (List.map eTSet x_11.Back), .vec false (List.map eTSet x_11.In), .vec false (List.map eTSet x_11.Ahead), .vec false (List.map eTAct x_11.Acts)] := atI_map eTCtx h_12; have e_14 := eq_true (atI_some h_12).1; have e_15 := eq_true (atI_lt h_12); obtain ⟨y_16, h_17, h⟩ := bindS h; simp only [e_5, e_8, e_9, e_10, e_13, e_14, e_15, go_sem, seval]; refine ACalls.use0 (ref11_SameSets_w N _ _ false false _ h_17) rfl rfl ?_; simp only [e_5, e_8, e_9, e_10, e_13, e_14, e_15, go_sem, seval]; rcases iteB h with ⟨e_19, h⟩ | ⟨e_19, h⟩
   ·
    obtain ⟨y_20, h_21, h⟩ := bindS h; simp only [e_5, e_8, e_9, e_10, e_13, e_14, e_15, e_19, go_sem, seval]; refine ACalls.use0 (ref11_SameSets_w N _ _ false false _ h_21) rfl rfl ?_; simp only [e_5, e_8, e_9, e_10, e_13, e_14, e_15, e_19, go_sem, seval]; rcases iteB h with ⟨e_23, h⟩ | ⟨e_23, h⟩
    ·
     obtain ⟨y_24, h_25, h⟩ := bindS h; simp only [e_5, e_8, e_9, e_10, e_13, e_14, e_15, e_19, e_23, go_sem, seval]; refine ACalls.use0 (ref11_SameSets_w N _ _ false false _ h_25) rfl rfl ?_; simp only [e_5, e_8, e_9, e_10, e_13, e_14, e_15, e_19, e_23, go_sem, seval]; rcases iteB h with ⟨e_27, h⟩ | ⟨e_27, h⟩
     ·
      simp only [e_5, e_8, e_9, e_10, e_13, e_14, e_15, e_19, e_23, e_27, go_sem, seval]; rcases iteS h with ⟨e_29, h⟩ | ⟨e_29, h⟩
      ·
       simp only [e_5, e_8, e_9, e_10, e_13, e_14, e_15, e_19, e_23, e_27, e_29, go_sem, seval]; obtain ⟨o_1031, h_1030, h⟩ := bindS h; refine ALp.ref (Ref.out [0, 1, 5, 6] rfl) (Nat.zero_le _) (ref11_Same_L2_w N _ _ _ c_0 c_1 N _ o_1031 h_1030 ?_); rcases o_1031 with _ | _
       · (try dsimp only at h); refine LoopK_go rfl (Nat.zero_le _) ?_; simp only [e_5, e_8, e_9, e_10, e_13, e_14, e_15, e_19, e_23, e_27, e_29, go_sem, seval]; rw [← hQ]; exact ⟨_, _, (Ref.out [0, 1, 5] rfl), (Nat.zero_le _), ih _ _ h hp⟩
       · (try dsimp only at h); refine LoopK_ret ?_; cases h; rw [← hQ]; exact ⟨_, _, (Ref.out [4] rfl), hp⟩
      · simp only [e_5, e_8, e_9, e_10, e_13, e_14, e_15, e_19, e_23, e_27, e_29, go_sem, seval]; cases h; rw [← hQ]; exact ⟨_, _, (Ref.out [4] rfl), hp⟩
     · simp only [e_5, e_8, e_9, e_10, e_13, e_14, e_15, e_19, e_23, e_27, go_sem, seval]; cases h; rw [← hQ]; exact ⟨_, _, (Ref.out [4] rfl), hp⟩
    · simp only [e_5, e_8, e_9, e_10, e_13, e_14, e_15, e_19, e_23, go_sem, seval]; cases h; rw [← hQ]; exact ⟨_, _, (Ref.out [4] rfl), hp⟩
   · simp only [e_5, e_8, e_9, e_10, e_13, e_14, e_15, e_19, go_sem, seval]; cases h; rw [← hQ]; exact ⟨_, _, (Ref.out [4] rfl), hp⟩
  · simp only [e_5, go_sem, seval]; cases h; rw [← hQ]; exact ⟨_, _, (Ref.out [] rfl), hp⟩
theorem ref11_Same_w (N : Nat) (l_0 : List TCtx) (l_1 : List TCtx) (c_0 : Bool) (c_1 : Bool) (z_1 : Bool) (h : ref11_Same N l_0 l_1 = some z_1) :
  ACalls Try.prog 37 [.vec c_0 (List.map eTCtx l_0), .vec c_1 (List.map eTCtx l_1)] [] (fun e H => H = [] ∧ e = .ret (.bool z_1)) := by
 unfold ref11_Same at h; refine ACalls.goN Try.func37 n37 a37 Try.ntmps37 r37 (by simp) 0 rfl ?_; generalize hQ : bodyA _ _ _ = QQ; simp only [A37, go_sem, seval]; rcases iteS h with ⟨e_2, h⟩ | ⟨e_2, h⟩
 ·
  simp only [e_2, go_sem, seval]; obtain ⟨o_1004, h_1003, h⟩ := bindS h; refine ALp.ref (Ref.out [0, 1, 5] rfl) (Nat.zero_le _) (ref11_Same_L3_w N _ _ c_0 c_1 N _ o_1004 h_1003 ?_); rcases o_1004 with _ | _
  · (try dsimp only at h); refine LoopK_go rfl (Nat.zero_le _) ?_; simp only [e_2, go_sem, seval]; obtain rfl := si h; rw [← hQ]; exact ⟨rfl, _, rfl, _, _, (RefV.out rfl), rfl, rfl⟩
  · (try dsimp only at h); refine LoopK_ret ?_; obtain rfl := si h; rw [← hQ]; exact ⟨rfl, _, rfl, _, _, (RefV.out rfl), rfl, rfl⟩
 · simp only [e_2, go_sem, seval]; obtain rfl := si h; rw [← hQ]; exact ⟨rfl, _, rfl, _, _, (RefV.out rfl), rfl, rfl⟩
theorem ref12_Same_w (N : Nat) (a_0 : Int) (l_1 : List TSpan) (b_2 : Bool) (a_3 : Int) (l_4 : List (List Int)) (l_5 : List (List TLig)) (l_6 : List TCtx) (l_7 : List TValue) (l_8 : List (List TTwo)) (l_9 : List TClass) (l_10 : List TClass) (l_11 : List (List TTwo)) (l_12 : List TArr2_TAnchor) (l_13 : List TMark) (l_14 : List TSpan) (l_15 : List (List (List TAnchor))) (a_16 : Int) (l_17 : List TSpan) (b_18 : Bool) (a_19 : Int) (l_20 : List (List Int)) (l_21 : List (List TLig)) (l_22 : List TCtx) (l_23 : List TValue) (l_24 : List (List TTwo)) (l_25 : List TClass) (l_26 : List TClass) (l_27 : List (List TTwo)) (l_28 : List TArr2_TAnchor) (l_29 : List TMark) (l_30 : List TSpan) (l_31 : List (List (List TAnchor))) (c_0 : Bool) (c_1 : Bool) (c_2 : Bool) (c_3 : Bool) (c_4 : Bool) (c_5 : Bool) (c_6 : Bool) (c_7 : Bool) (c_8 : Bool) (c_9 : Bool) (c_10 : Bool) (c_11 : Bool) (c_12 : Bool) (c_13 : Bool) (c_14 : Bool) (c_15 : Bool) (c_16 : Bool) (c_17 : Bool) (c_18 : Bool) (c_19 : Bool) (c_20 : Bool) (c_21 : Bool) (c_22 : Bool) (c_23 : Bool) (c_24 : Bool) (c_25 : Bool) (z_1 : Bool) (h : ref12_Same N a_0 l_1 b_2 a_3 l_4 l_5 l_6 l_7 l_8 l_9 l_10 l_11 l_12 l_13 l_14 l_15 a_16 l_17 b_18 a_19 l_20 l_21 l_22 l_23 l_24 l_25 l_26 l_27 l_28 l_29 l_30 l_31 = some z_1) :
  ACalls Try.prog 13 [.agg [.int .i64 a_0, .vec c_0 (List.map eTSpan l_1), .bool b_2, .int .i64 a_3, .vec c_1 (List.map eLI64 l_4), .vec c_2 (List.map eLTLig l_5), .vec c_3 (List.map eTCtx l_6), .vec c_4 (List.map eTValue l_7), .vec c_5 (List.map eLTTwo l_8), .vec c_6 (List.map eTClass l_9), .vec c_7 (List.map eTClass l_10), .vec c_8 (List.map eLTTwo l_11), .vec c_9 (List.map eTArr2_TAnchor l_12), .vec c_10 (List.map eTMark l_13), .vec c_11 (List.map eTSpan l_14), .vec c_12 (List.map eLLTAnchor l_15)], .agg [.int .i64 a_16, .vec c_13 (List.map eTSpan l_17), .bool b_18, .int .i64 a_19, .vec c_14 (List.map eLI64 l_20), .vec c_15 (List.map eLTLig l_21), .vec c_16 (List.map eTCtx l_22), .vec c_17 (List.map eTValue l_23), .vec c_18 (List.map eLTTwo l_24), .vec c_19 (List.map eTClass l_25), .vec c_20 (List.map eTClass l_26), .vec c_21 (List.map eLTTwo l_27), .vec c_22 (List.map eTArr2_TAnchor l_28), .vec c_23 (List.map eTMark l_29), .vec c_24 (List.map eTSpan l_30), .vec c_25 (List.map eLLTAnchor l_31)]] [] (fun e H => H = [] ∧ e = .ret (.bool z_1)) := by
 unfold ref12_Same at h; refine ACalls.goN Try.func13 n13 a13 Try.ntmps13 r13 (by simp) 0 rfl ?_; generalize hQ : bodyA _ _ _ = QQ; simp only [A13, go_sem, seval]; rcases iteS h with ⟨e_2, h⟩ | ⟨e_2, h⟩
 ·
  obtain ⟨y_3, h_4, h⟩ := bindS h; simp only [e_2, go_sem, seval]; refine ACalls.go0 (ref10_Same_w N _ _ c_0 c_13 _ h_4) ?_; simp only [e_2, go_sem, seval]; rcases iteB h with ⟨e_6, h⟩ | ⟨e_6, h⟩
  ·
   simp only [e_2, e_6, go_sem, seval]; rcases iteB h with ⟨e_8, h⟩ | ⟨e_8, h⟩
   ·
    simp only [e_2, e_6, e_8, go_sem, seval]; rcases iteB h with ⟨e_10, h⟩ | ⟨e_10, h⟩
    ·
     simp only [e_2, e_6, e_8, e_10, go_sem, seval]; rcases iteS h with ⟨e_12, h⟩ | ⟨e_12, h⟩
     ·
      obtain ⟨y_13, h_14, h⟩ := bindS h; simp only [e_2, e_6, e_8, e_10, e_12, go_sem, seval]; refine ACalls.go0 (ref12_Lists_w N _ _ c_1 c_14 _ h_14) ?_; simp only [e_2, e_6, e_8, e_10, e_12, go_sem, seval]; rcases iteB h with ⟨e_16, h⟩ | ⟨e_16, h⟩
      ·
       obtain ⟨y_17, h_18, h⟩ := bindS h; simp only [e_2, e_6, e_8, e_10, e_12, e_16, go_sem, seval]; refine ACalls.go0 (ref12_Ligs_w N _ _ c_2 c_15 _ h_18) ?_; simp only [e_2, e_6, e_8, e_10, e_12, e_16, go_sem, seval]; rcases iteB h with ⟨e_20, h⟩ | ⟨e_20, h⟩
       · obtain ⟨y_21, h_22, h⟩ := bindS h; simp only [e_2, e_6, e_8, e_10, e_12, e_16, e_20, go_sem, seval]; refine ACalls.go0 (ref11_Same_w N _ _ c_3 c_16 _ h_22) ?_; simp only [e_2, e_6, e_8, e_10, e_12, e_16, e_20, go_sem, seval]; obtain rfl := si h; rw [← hQ]; exact ⟨rfl, _, rfl, _, _, (RefV.out (by first | rfl | simp only [go_sem, seval, e_2, e_6, e_8, e_10, e_12, e_16, e_20])), rfl, rfl⟩
       · simp only [e_2, e_6, e_8, e_10, e_12, e_16, e_20, go_sem, seval]; obtain rfl := si h; rw [← hQ]; exact ⟨rfl, _, rfl, _, _, (RefV.out rfl), rfl, rfl⟩
      · simp only [e_2, e_6, e_8, e_10, e_12, e_16, go_sem, seval]; obtain rfl := si h; rw [← hQ]; exact ⟨rfl, _, rfl, _, _, (RefV.out rfl), rfl, rfl⟩
     · simp only [e_2, e_6, e_8, e_10, e_12, go_sem, seval]; obtain rfl := si h; rw [← hQ]; exact ⟨rfl, _, rfl, _, _, (RefV.out rfl), rfl, rfl⟩
    · simp only [e_2, e_6, e_8, e_10, go_sem, seval]; obtain rfl := si h; rw [← hQ]; exact ⟨rfl, _, rfl, _, _, (RefV.out rfl), rfl, rfl⟩
   ·
    simp only [e_2, e_6, e_8, go_sem, seval]; rcases iteB h with ⟨e_24, h⟩ | ⟨e_24, h⟩
    · simp only [e_2, e_6, e_8, e_24, go_sem, seval]; obtain rfl := si h; rw [← hQ]; exact ⟨rfl, _, rfl, _, _, (RefV.out rfl), rfl, rfl⟩
    ·
     simp only [e_2, e_6, e_8, e_24, go_sem, seval]; rcases iteS h with ⟨e_26, h⟩ | ⟨e_26, h⟩
     ·
      obtain ⟨y_27, h_28, h⟩ := bindS h; simp only [e_2, e_6, e_8, e_24, e_26, go_sem, seval]; refine ACalls.go0 (ref12_Lists_w N _ _ c_1 c_14 _ h_28) ?_; simp only [e_2, e_6, e_8, e_24, e_26, go_sem, seval]; rcases iteB h with ⟨e_30, h⟩ | ⟨e_30, h⟩
      ·
       obtain ⟨y_31, h_32, h⟩ := bindS h; simp only [e_2, e_6, e_8, e_24, e_26, e_30, go_sem, seval]; refine ACalls.go0 (ref12_Ligs_w N _ _ c_2 c_15 _ h_32) ?_; simp only [e_2, e_6, e_8, e_24, e_26, e_30, go_sem, seval]; rcases iteB h with ⟨e_34, h⟩ | ⟨e_34, h⟩
       · obtain ⟨y_35, h_36, h⟩ := bindS h; simp only [e_2, e_6, e_8, e_24, e_26, e_30, e_34, go_sem, seval]; refine ACalls.go0 (ref11_Same_w N _ _ c_3 c_16 _ h_36) ?_; simp only [e_2, e_6, e_8, e_24, e_26, e_30, e_34, go_sem, seval]; obtain rfl := si h; rw [← hQ]; exact ⟨rfl, _, rfl, _, _, (RefV.out (by first | rfl | simp only [go_sem, seval, e_2, e_6, e_8, e_24, e_26, e_30, e_34])), rfl, rfl⟩
       · simp only [e_2, e_6, e_8, e_24, e_26, e_30, e_34, go_sem, seval]; obtain rfl := si h; rw [← hQ]; exact ⟨rfl, _, rfl, _, _, (RefV.out rfl), rfl, rfl⟩
      · simp only [e_2, e_6, e_8, e_24, e_26, e_30, go_sem, seval]; obtain rfl := si h; rw [← hQ]; exact ⟨rfl, _, rfl, _, _, (RefV.out rfl), rfl, rfl⟩
     · simp only [e_2, e_6, e_8, e_24, e_26, go_sem, seval]; obtain rfl := si h; rw [← hQ]; exact ⟨rfl, _, rfl, _, _, (RefV.out rfl), rfl, rfl⟩
  · simp only [e_2, e_6, go_sem, seval]; obtain rfl := si h; rw [← hQ]; exact ⟨rfl, _, rfl, _, _, (RefV.out rfl), rfl, rfl⟩
 · simp only [e_2, go_sem, seval]; obtain rfl := si h; rw [← hQ]; exact ⟨rfl, _, rfl, _, _, (RefV.out rfl), rfl, rfl⟩
theorem law12_GsubBehind_w (N : Nat) (l_0 : List Int) (l_1 : List Int) (a_2 : Int) (c_0 : Bool) (c_1 : Bool) (z_1 : Bool) (h : law12_GsubBehind N l_0 l_1 a_2 = some z_1) :
  ACalls Try.prog 6 [.vec c_0 (List.map eU8 l_0), .vec c_1 (List.map eU8 l_1), .int .i64 a_2] [] (fun e H => H = [] ∧ e = .ret (.bool z_1)) := by
 unfold law12_GsubBehind at h; refine ACalls.goN Try.func6 n6 a6 Try.ntmps6 r6 (by simp) 0 rfl ?_; generalize hQ : bodyA _ _ _ = QQ; simp only [A6, go_sem, seval]; refine ACalls.go0 alive12 ?_; simp only [go_sem, seval]; rcases iteS h with ⟨e_2, h⟩ | ⟨e_2, h⟩
 · simp only [e_2, go_sem, seval]; obtain rfl := si h; rw [← hQ]; exact ⟨rfl, _, rfl, _, _, (RefV.out rfl), rfl, rfl⟩
 ·
  simp only [e_2, go_sem, seval]; rcases iteS h with ⟨e_4, h⟩ | ⟨e_4, h⟩
  · simp only [e_2, e_4, go_sem, seval]; obtain rfl := si h; rw [← hQ]; exact ⟨rfl, _, rfl, _, _, (RefV.out rfl), rfl, rfl⟩
  ·
   have e_5 := all_len l_0 eU8 1 (fun _ => rfl); obtain ⟨e_7, h⟩ := guardE h; have e_8 := tk eU8 l_0; have e_9 := all_len l_1 eU8 1 (fun _ => rfl); have e_10 : (List.map eU8 l_0) ++ (List.map eU8 l_1) = (List.map eU8 (l_0 ++ l_1)) := app_map l_0 l_1 eU8; obtain ⟨e_12, h⟩ := guardE h; obtain ⟨⟨y_13, y_14, y_15, y_16, y_17, y_18, y_19, y_20, y_21, y_22, y_23, y_24, y_25, y_26, y_27, y_28, y_29⟩, h_30, h⟩ := bindS h; (try dsimp only at h); simp only [e_2, e_4, e_5, e_7, e_8, e_9, e_10, e_12, go_sem, seval]; refine ACalls.use0 (gsub_Read_w N _ _ _ c_0 _ _ _ _ _ _ _ _ _ _ _ _ _ _ _ _ _ h_30) rfl rfl ?_; refine CallK_ref (ta1 := ⟨50, [(2, .int .i64 a_2), (7, .vec false (List.map eU8 (l_0 ++ l_1))), (31, .tup [.agg [.int .i64 y_13, .vec false (List.map eTSpan y_14), .bool y_15, .int .i64 y_16, .vec false (List.map eLI64 y_17), .vec false (List.map eLTLig y_18), .vec false (List.map eTCtx y_19), .vec false (List.map eTValue y_20), .vec false (List.map eLTTwo y_21), .vec false (List.map eTClass y_22), .vec false (List.map eTClass y_23), .vec false (List.map eLTTwo y_24), .vec false (List.map eTArr2_TAnchor y_25), .vec false (List.map eTMark y_26), .vec false (List.map eTSpan y_27), .vec false (List.map eLLTAnchor y_28)], .bool y_29])], []⟩) (H1 := []) (Ref.trans (Ref.frz (Nat.zero_le _) (id := 1) rfl (pures_map (l_0 ++ l_1) eU8 (fun _ => rfl))) (Ref.out [2, 7, 31] (by first | rfl | simp only [go_sem, seval, e_2, e_4]))) (Nat.zero_le _) ?_; obtain ⟨⟨y_31, y_32, y_33, y_34, y_35, y_36, y_37, y_38, y_39, y_40, y_41, y_42, y_43, y_44, y_45, y_46, y_47⟩, h_48, h⟩ := bindS h; (try dsimp only at h); simp only [e_2, e_4, e_5, e_7, e_8, e_9, e_10, e_12, go_sem, seval]; refine ACalls.go0 (gsub_Read_w N _ _ _ false _ _ _ _ _ _ _ _ _ _ _ _ _ _ _ _ _ h_48) ?_; simp only [e_2, e_4, e_5, e_7, e_8, e_9, e_10, e_12, go_sem, seval]; rcases iteB h with ⟨e_50, h⟩ | ⟨e_50, h⟩
   ·
    simp only [e_2, e_4, e_5, e_7, e_8, e_9, e_10, e_12, e_50, go_sem, seval]; rcases iteB h with ⟨e_52, h⟩ | ⟨e_52, h⟩
    · obtain ⟨y_53, h_54, h⟩ := bindS h; simp only [e_2, e_4, e_5, e_7, e_8, e_9, e_10, e_12, e_50, e_52, go_sem, seval]; refine ACalls.go0 (ref12_Same_w N _ _ _ _ _ _ _ _ _ _ _ _ _ _ _ _ _ _ _ _ _ _ _ _ _ _ _ _ _ _ _ _ false false false false false false false false false false false false false false false false false false false false false false false false false false _ h_54) ?_; simp only [e_2, e_4, e_5, e_7, e_8, e_9, e_10, e_12, e_50, e_52, go_sem, seval]; obtain rfl := si h; rw [← hQ]; exact ⟨rfl, _, rfl, _, _, (RefV.out (by first | rfl | simp only [go_sem, seval, e_2, e_4, e_50, e_52])), rfl, rfl⟩
    · simp only [e_2, e_4, e_5, e_7, e_8, e_9, e_10, e_12, e_50, e_52, go_sem, seval]; obtain rfl := si h; rw [← hQ]; exact ⟨rfl, _, rfl, _, _, (RefV.out rfl), rfl, rfl⟩
   · simp only [e_2, e_4, e_5, e_7, e_8, e_9, e_10, e_12, e_50, go_sem, seval]; obtain rfl := si h; rw [← hQ]; exact ⟨rfl, _, rfl, _, _, (RefV.out rfl), rfl, rfl⟩
end Go.Proofs.Ytfacmhngbaboiaa.AI
