/- Walks, further ones. -/
import Derived.Test.YtfacmhngbaboiaagsW2
set_option linter.unusedVariables false
set_option linter.unusedSimpArgs false
set_option maxRecDepth 100000
set_option maxHeartbeats 1000000
namespace Go.Proofs.Ytfacmhngbaboiaa.AI
open Go.Proofs (Try.prog)
attribute [local go_sem] subs_eU8 subs_eI64 subs_eTSpan subs_eTArr3_I64 subs_eTSet subs_eTAct subs_eTCtx subs_eTClass subs_eLI64 subs_eTLig subs_eLTLig subs_eTValue subs_eTTwo subs_eLTTwo subs_eTArr2_TAnchor subs_eTMark subs_eTAnchor subs_eLTAnchor subs_eLLTAnchor subs_eLTSet subs_eB mk_eTSpan mk_eTArr3_I64 mk_eTSet mk_eTAct mk_eTCtx mk_eTClass mk_eTLig mk_eTValue mk_eTTwo mk_eTArr2_TAnchor mk_eTMark mk_eTAnchor
theorem gsub_reader_elsewhere_w (N : Nat) (l_0 : List Int) (a_1 : Int) (a_2 : Int) (c_0 : Bool) (o : (O3T) ⊕ Unit) (h : gsub_reader_elsewhere N l_0 a_1 a_2 = some o) :
  ACalls Try.prog 53 [.ptr 0 0 0] [.box [.vec c_0 (List.map eU8 l_0), .int .i64 a_1, .int .i64 a_2] 100] (fun e H => match o with | .inl (z_1, z_2, z_3, z_4, z_5, z_6, z_7, z_8, z_9, z_10, z_11, z_12, z_13, z_14, z_15, z_16) => H = [.box [.vec c_0 (List.map eU8 l_0), .int .i64 a_1, .int .i64 (IntKind.i64.wrap (a_2 + 2))] 100] ∧ e = .ret (.agg [.int .i64 z_1, .vec false (List.map eTSpan z_2), .bool z_3, .int .i64 z_4, .vec false (List.map eLI64 z_5), .vec false (List.map eLTLig z_6), .vec false (List.map eTCtx z_7), .vec false (List.map eTValue z_8), .vec false (List.map eLTTwo z_9), .vec false (List.map eTClass z_10), .vec false (List.map eTClass z_11), .vec false (List.map eLTTwo z_12), .vec false (List.map eTArr2_TAnchor z_13), .vec false (List.map eTMark z_14), .vec false (List.map eTSpan z_15), .vec false (List.map eLLTAnchor z_16)]) | .inr _ => H = [.dead] ∧ e = .pan (.iface 58 (.agg []))) := by
 unfold gsub_reader_elsewhere at h
 refine ACalls.goN Try.func53 n53 a53 Try.ntmps53 r53 (by simp) 1 rfl ?_
 generalize hQ : bodyA _ _ _ = QQ
 obtain ⟨o_3, h_2, h⟩ := bindS h
 simp only [A53, go_sem, seval]
 rcases o_3 with y_1 | _
 ·
  try dsimp only at h
  refine ACalls.useA (gsub_reader_number_w N _ _ _ c_0 _ h_2) [0] (v' := .int .i64 y_1) (H' := [.box [.vec c_0 (List.map eU8 l_0), .int .i64 a_1, .int .i64 (IntKind.i64.wrap (a_2 + 2))] 100, .box [.int .i64 0, nn, .bool false, .int .i64 0, nn, nn, nn, nn, nn, nn, nn, nn, nn, nn, nn, nn] 35]) ?_
  refine CallK_go (by simp) ?_
  obtain ⟨⟨y_5, y_6⟩, h_7, h⟩ := bindS h
  try dsimp only at h
  simp only [go_sem, seval]
  refine ACalls.use0 (octet_U32_w N _ _ c_0 _ _ h_7) rfl rfl ?_
  simp only [go_sem, seval]
  by_cases h_8 : y_6 = true
  ·
   rw [if_pos h_8] at h
   have e_9 : y_6 = true := h_8
   simp only [e_9, go_sem, seval]
   by_cases h_10 : y_1 = 7
   ·
    rw [if_pos h_10] at h
    have e_11 := eq_true h_10
    obtain ⟨o_13, h_12, h⟩ := bindS h
    simp only [e_9, e_11, go_sem, seval]
    rcases o_13 with _ | _
    ·
     try dsimp only at h
     refine ACalls.use0 (gsub_must_w N _ _ h_12) rfl rfl ?_
     refine CallK_go (by simp) ?_
     have h0 : none = some _ := h
     cases h0
    ·
     try dsimp only at h
     refine ACalls.panA (gsub_must_w N _ _ h_12) [] (v' := .iface 58 (.agg [])) (H' := [.box [.vec c_0 (List.map eU8 l_0), .int .i64 a_1, .int .i64 (IntKind.i64.wrap (a_2 + 2))] 100, .box [.int .i64 0, nn, .bool false, .int .i64 0, nn, nn, nn, nn, nn, nn, nn, nn, nn, nn, nn, nn] 35]) (hH := by simp only [go_sem, seval, e_9, e_11]) ?_
     try simp only [CallK_pan, dCallK_pan, panK_ap]
     have g_0 := Option.some.inj h
     subst g_0
     rw [← hQ]
     exact ⟨rfl, _, _, RefV.dead rfl, rfl, rfl⟩
   ·
    rw [if_neg h_10] at h
    have e_11 := eq_false h_10
    obtain ⟨o_16, h_15, h⟩ := bindS h
    simp only [e_9, e_11, go_sem, seval]
    rcases o_16 with _ | _
    ·
     try dsimp only at h
     refine ACalls.use0 (gsub_must_w N _ _ h_15) rfl rfl ?_
     refine CallK_go (by simp) ?_
     have e_18 := eq_true (of_decide_eq_true (gsub_must_inl h_15))
     obtain ⟨o_36, h_35, h⟩ := bindS h
     simp only [e_9, e_11, e_18, go_sem, seval]
     rcases o_36 with ⟨y_19, y_20, y_21, y_22, y_23, y_24, y_25, y_26, y_27, y_28, y_29, y_30, y_31, y_32, y_33, y_34⟩ | _
     ·
      try dsimp only at h
      refine ACalls.use0 (gsub_read_v2_w N _ _ _ c_0 _ h_35) rfl rfl ?_
      simp only [e_9, e_11, e_18, go_sem, seval]
      have g_0 := Option.some.inj h
      subst g_0
      rw [← hQ]
      exact ⟨rfl, _, rfl, _, _, (RefV.std [0] (by decide) (by decide) (by first | rfl | simp only [go_sem, seval, e_9, e_11, e_18]) (by first | rfl | simp only [go_sem, seval, e_9, e_11, e_18])), rfl, rfl⟩
     ·
      try dsimp only at h
      refine ACalls.panA (gsub_read_v2_w N _ _ _ c_0 _ h_35) [] (v' := .iface 58 (.agg [])) (H' := [.box [.vec c_0 (List.map eU8 l_0), .int .i64 a_1, .int .i64 (IntKind.i64.wrap (a_2 + 2))] 100, .box [.int .i64 0, nn, .bool false, .int .i64 0, nn, nn, nn, nn, nn, nn, nn, nn, nn, nn, nn, nn] 35]) (hH := by simp only [go_sem, seval, e_9, e_11, e_18]) ?_
      try simp only [CallK_pan, dCallK_pan, panK_ap]
      have g_0 := Option.some.inj h
      subst g_0
      rw [← hQ]
      exact ⟨rfl, _, _, RefV.dead rfl, rfl, rfl⟩
    ·
     try dsimp only at h
     refine ACalls.panA (gsub_must_w N _ _ h_15) [] (v' := .iface 58 (.agg [])) (H' := [.box [.vec c_0 (List.map eU8 l_0), .int .i64 a_1, .int .i64 (IntKind.i64.wrap (a_2 + 2))] 100, .box [.int .i64 0, nn, .bool false, .int .i64 0, nn, nn, nn, nn, nn, nn, nn, nn, nn, nn, nn, nn] 35]) (hH := by simp only [go_sem, seval, e_9, e_11]) ?_
     try simp only [CallK_pan, dCallK_pan, panK_ap]
     have g_0 := Option.some.inj h
     subst g_0
     rw [← hQ]
     exact ⟨rfl, _, _, RefV.dead rfl, rfl, rfl⟩
  ·
   rw [if_neg h_8] at h
   have e_9 : y_6 = false := bfalse h_8
   obtain ⟨o_39, h_38, h⟩ := bindS h
   simp only [e_9, go_sem, seval]
   rcases o_39 with _ | _
   ·
    try dsimp only at h
    refine ACalls.use0 (gsub_must_w N _ _ h_38) rfl rfl ?_
    refine CallK_go (by simp) ?_
    have h0 : none = some _ := h
    cases h0
   ·
    try dsimp only at h
    refine ACalls.panA (gsub_must_w N _ _ h_38) [] (v' := .iface 58 (.agg [])) (H' := [.box [.vec c_0 (List.map eU8 l_0), .int .i64 a_1, .int .i64 (IntKind.i64.wrap (a_2 + 2))] 100, .box [.int .i64 0, nn, .bool false, .int .i64 0, nn, nn, nn, nn, nn, nn, nn, nn, nn, nn, nn, nn] 35]) (hH := by simp only [go_sem, seval, e_9]) ?_
    try simp only [CallK_pan, dCallK_pan, panK_ap]
    have g_0 := Option.some.inj h
    subst g_0
    rw [← hQ]
    exact ⟨rfl, _, _, RefV.dead rfl, rfl, rfl⟩
 ·
  try dsimp only at h
  refine ACalls.panA (gsub_reader_number_w N _ _ _ c_0 _ h_2) [0] (v' := .iface 58 (.agg [])) (H' := [.dead, .box [.int .i64 0, nn, .bool false, .int .i64 0, nn, nn, nn, nn, nn, nn, nn, nn, nn, nn, nn, nn] 35]) ?_
  try simp only [CallK_pan, dCallK_pan, panK_ap]
  have g_0 := Option.some.inj h
  subst g_0
  rw [← hQ]
  exact ⟨rfl, _, _, RefV.dead rfl, rfl, rfl⟩
theorem gsub_read_w (N : Nat) (l_0 : List Int) (a_1 : Int) (a_2 : Int) (c_0 : Bool) (o : (O3T) ⊕ Unit) (h : gsub_read N l_0 a_1 a_2 = some o) :
  ACalls Try.prog 24 [.vec c_0 (List.map eU8 l_0), .int .i64 a_1, .int .i64 a_2] [] (fun e H => match o with | .inl (z_1, z_2, z_3, z_4, z_5, z_6, z_7, z_8, z_9, z_10, z_11, z_12, z_13, z_14, z_15, z_16) => H = [] ∧ e = .ret (.agg [.int .i64 z_1, .vec false (List.map eTSpan z_2), .bool z_3, .int .i64 z_4, .vec false (List.map eLI64 z_5), .vec false (List.map eLTLig z_6), .vec false (List.map eTCtx z_7), .vec false (List.map eTValue z_8), .vec false (List.map eLTTwo z_9), .vec false (List.map eTClass z_10), .vec false (List.map eTClass z_11), .vec false (List.map eLTTwo z_12), .vec false (List.map eTArr2_TAnchor z_13), .vec false (List.map eTMark z_14), .vec false (List.map eTSpan z_15), .vec false (List.map eLLTAnchor z_16)]) | .inr _ => H = [] ∧ e = .pan (.iface 58 (.agg []))) := by
 unfold gsub_read at h
 refine ACalls.goN Try.func24 n24 a24 Try.ntmps24 r24 (by simp) 0 rfl ?_
 generalize hQ : bodyA _ _ _ = QQ
 simp only [A24, go_sem, seval]
 by_cases h_1 : a_2 = 5
 ·
  rw [if_pos h_1] at h
  have e_2 := eq_true h_1
  obtain ⟨o_20, h_19, h⟩ := bindS h
  simp only [e_2, go_sem, seval]
  rcases o_20 with ⟨y_3, y_4, y_5, y_6, y_7, y_8, y_9, y_10, y_11, y_12, y_13, y_14, y_15, y_16, y_17, y_18⟩ | _
  ·
   try dsimp only at h
   refine ACalls.useA (gsub_reader_contexts_w N _ _ _ _ c_0 _ h_19) [1] (v' := .agg [.int .i64 y_3, .vec false (List.map eTSpan y_4), .bool y_5, .int .i64 y_6, .vec false (List.map eLI64 y_7), .vec false (List.map eLTLig y_8), .vec false (List.map eTCtx y_9), .vec false (List.map eTValue y_10), .vec false (List.map eLTTwo y_11), .vec false (List.map eTClass y_12), .vec false (List.map eTClass y_13), .vec false (List.map eLTTwo y_14), .vec false (List.map eTArr2_TAnchor y_15), .vec false (List.map eTMark y_16), .vec false (List.map eTSpan y_17), .vec false (List.map eLLTAnchor y_18)]) (H' := [.box [.int .i64 0, nn, .bool false, .int .i64 0, nn, nn, nn, nn, nn, nn, nn, nn, nn, nn, nn, nn] 35, .box [.vec c_0 (List.map eU8 l_0), .int .i64 a_1, .int .i64 a_1] 100]) (hH := by simp only [go_sem, seval, e_2]) (ho := ⟨(by first | rfl | simp only [go_sem, seval, e_2]), trivial⟩) ?_
   refine ck0 ?_
   simp only [e_2, go_sem, seval]
   have g_0 := Option.some.inj h
   subst g_0
   rw [← hQ]
   exact ⟨rfl, _, rfl, _, _, (RefV.out (by first | rfl | simp only [go_sem, seval, e_2])), rfl, rfl⟩
  ·
   try dsimp only at h
   refine ACalls.panA (gsub_reader_contexts_w N _ _ _ _ c_0 _ h_19) [1] (v' := .iface 58 (.agg [])) (H' := [.box [.int .i64 0, nn, .bool false, .int .i64 0, nn, nn, nn, nn, nn, nn, nn, nn, nn, nn, nn, nn] 35, .dead]) (hH := by simp only [go_sem, seval, e_2]) (ho := ⟨(by first | rfl | simp only [go_sem, seval, e_2]), trivial⟩) ?_
   try simp only [CallK_pan, dCallK_pan, panK_ap]
   have g_0 := Option.some.inj h
   subst g_0
   rw [← hQ]
   exact ⟨rfl, _, _, RefV.dead rfl, rfl, rfl⟩
 ·
  rw [if_neg h_1] at h
  have e_2 := eq_false h_1
  simp only [e_2, go_sem, seval]
  by_cases h_22 : a_2 = 6
  ·
   rw [if_pos h_22] at h
   have e_23 := eq_true h_22
   obtain ⟨o_41, h_40, h⟩ := bindS h
   simp only [e_2, e_23, go_sem, seval]
   rcases o_41 with ⟨y_24, y_25, y_26, y_27, y_28, y_29, y_30, y_31, y_32, y_33, y_34, y_35, y_36, y_37, y_38, y_39⟩ | _
   ·
    try dsimp only at h
    refine ACalls.useA (gsub_reader_contexts_v2_w N _ _ _ _ c_0 _ h_40) [1] (v' := .agg [.int .i64 y_24, .vec false (List.map eTSpan y_25), .bool y_26, .int .i64 y_27, .vec false (List.map eLI64 y_28), .vec false (List.map eLTLig y_29), .vec false (List.map eTCtx y_30), .vec false (List.map eTValue y_31), .vec false (List.map eLTTwo y_32), .vec false (List.map eTClass y_33), .vec false (List.map eTClass y_34), .vec false (List.map eLTTwo y_35), .vec false (List.map eTArr2_TAnchor y_36), .vec false (List.map eTMark y_37), .vec false (List.map eTSpan y_38), .vec false (List.map eLLTAnchor y_39)]) (H' := [.box [.int .i64 0, nn, .bool false, .int .i64 0, nn, nn, nn, nn, nn, nn, nn, nn, nn, nn, nn, nn] 35, .box [.vec c_0 (List.map eU8 l_0), .int .i64 a_1, .int .i64 a_1] 100]) (hH := by simp only [go_sem, seval, e_2, e_23]) (ho := ⟨(by first | rfl | simp only [go_sem, seval, e_2, e_23]), trivial⟩) ?_
    refine ck0 ?_
    simp only [e_2, e_23, go_sem, seval]
    have g_0 := Option.some.inj h
    subst g_0
    rw [← hQ]
    exact ⟨rfl, _, rfl, _, _, (RefV.out (by first | rfl | simp only [go_sem, seval, e_2, e_23])), rfl, rfl⟩
   ·
    try dsimp only at h
    refine ACalls.panA (gsub_reader_contexts_v2_w N _ _ _ _ c_0 _ h_40) [1] (v' := .iface 58 (.agg [])) (H' := [.box [.int .i64 0, nn, .bool false, .int .i64 0, nn, nn, nn, nn, nn, nn, nn, nn, nn, nn, nn, nn] 35, .dead]) (hH := by simp only [go_sem, seval, e_2, e_23]) (ho := ⟨(by first | rfl | simp only [go_sem, seval, e_2, e_23]), trivial⟩) ?_
    try simp only [CallK_pan, dCallK_pan, panK_ap]
    have g_0 := Option.some.inj h
    subst g_0
    rw [← hQ]
    exact ⟨rfl, _, _, RefV.dead rfl, rfl, rfl⟩
  ·
   rw [if_neg h_22] at h
   have e_23 := eq_false h_22
   simp only [e_2, e_23, go_sem, seval]
   by_cases h_43 : 1 ≤ a_2
   ·
    rw [if_pos h_43] at h
    have e_44 := eq_true h_43
    obtain ⟨o_46, h_45, h⟩ := bindS h
    simp only [e_2, e_23, e_44, go_sem, seval]
    rcases o_46 with _ | _
    ·
     try dsimp only at h
     refine ACalls.use0 (gsub_must_w N _ _ h_45) rfl rfl ?_
     refine ck0 ?_
     have e_48 := eq_true (of_decide_eq_true (gsub_must_inl h_45))
     obtain ⟨o_51, h_50, h⟩ := bindS h
     simp only [e_2, e_23, e_44, e_48, go_sem, seval]
     rcases o_51 with y_49 | _
     ·
      try dsimp only at h
      refine ACalls.useA (gsub_reader_number_w N _ _ _ c_0 _ h_50) [1] (v' := .int .i64 y_49) (H' := [.box [.int .i64 0, nn, .bool false, .int .i64 0, nn, nn, nn, nn, nn, nn, nn, nn, nn, nn, nn, nn] 35, .box [.vec c_0 (List.map eU8 l_0), .int .i64 a_1, .int .i64 (IntKind.i64.wrap (a_1 + 2))] 100]) (hH := by simp only [go_sem, seval, e_2, e_23, e_44, e_48]) (ho := ⟨(by first | rfl | simp only [go_sem, seval, e_2, e_23, e_44, e_48]), trivial⟩) ?_
      refine ck0 ?_
      simp only [e_2, e_23, e_44, e_48, go_sem, seval]
      by_cases h_53 : y_49 = 1
      ·
       rw [if_pos h_53] at h
       have e_54 := eq_true h_53
       obtain ⟨o_56, h_55, h⟩ := bindS h
       simp only [e_2, e_23, e_44, e_48, e_54, go_sem, seval]
       rcases o_56 with _ | _
       ·
        try dsimp only at h
        refine ACalls.use0 (gsub_must_w N _ _ h_55) rfl rfl ?_
        refine ck0 ?_
        simp only [e_2, e_23, e_44, e_48, e_54, go_sem, seval]
        by_cases h_58 : a_2 = 1
        ·
         rw [if_pos h_58] at h
         have e_59 := eq_true h_58
         obtain ⟨o_78, h_77, h⟩ := bindS h
         simp only [e_2, e_23, e_44, e_48, e_54, e_59, go_sem, seval]
         rcases o_78 with ⟨y_60, y_61, y_62, y_63, y_64, y_65, y_66, y_67, y_68, y_69, y_70, y_71, y_72, y_73, y_74, y_75, y_76⟩ | _
         ·
          try dsimp only at h
          refine ACalls.useA (gsub_reader_single_w N _ _ _ _ c_0 _ h_77) [1] (v' := .agg [.int .i64 y_60, .vec false (List.map eTSpan y_61), .bool y_62, .int .i64 y_63, .vec false (List.map eLI64 y_64), .vec false (List.map eLTLig y_65), .vec false (List.map eTCtx y_66), .vec false (List.map eTValue y_67), .vec false (List.map eLTTwo y_68), .vec false (List.map eTClass y_69), .vec false (List.map eTClass y_70), .vec false (List.map eLTTwo y_71), .vec false (List.map eTArr2_TAnchor y_72), .vec false (List.map eTMark y_73), .vec false (List.map eTSpan y_74), .vec false (List.map eLLTAnchor y_75)]) (H' := [.box [.int .i64 0, nn, .bool false, .int .i64 0, nn, nn, nn, nn, nn, nn, nn, nn, nn, nn, nn, nn] 35, .box [.vec c_0 (List.map eU8 l_0), .int .i64 a_1, .int .i64 y_76] 100]) (hH := by simp only [go_sem, seval, e_2, e_23, e_44, e_48, e_54, e_59]) (ho := ⟨(by first | rfl | simp only [go_sem, seval, e_2, e_23, e_44, e_48, e_54, e_59]), trivial⟩) ?_
          refine ck0 ?_
          simp only [e_2, e_23, e_44, e_48, e_54, e_59, go_sem, seval]
          have g_0 := Option.some.inj h
          subst g_0
          rw [← hQ]
          exact ⟨rfl, _, rfl, _, _, (RefV.out (by first | rfl | simp only [go_sem, seval, e_2, e_23, e_44, e_48, e_54, e_59])), rfl, rfl⟩
         ·
          try dsimp only at h
          refine ACalls.panA (gsub_reader_single_w N _ _ _ _ c_0 _ h_77) [1] (v' := .iface 58 (.agg [])) (H' := [.box [.int .i64 0, nn, .bool false, .int .i64 0, nn, nn, nn, nn, nn, nn, nn, nn, nn, nn, nn, nn] 35, .dead]) (hH := by simp only [go_sem, seval, e_2, e_23, e_44, e_48, e_54, e_59]) (ho := ⟨(by first | rfl | simp only [go_sem, seval, e_2, e_23, e_44, e_48, e_54, e_59]), trivial⟩) ?_
          try simp only [CallK_pan, dCallK_pan, panK_ap]
          have g_0 := Option.some.inj h
          subst g_0
          rw [← hQ]
          exact ⟨rfl, _, _, RefV.dead rfl, rfl, rfl⟩
        ·
         rw [if_neg h_58] at h
         have e_59 := eq_false h_58
         simp only [e_2, e_23, e_44, e_48, e_54, e_59, go_sem, seval]
         by_cases h_80 : a_2 = 2
         ·
          rw [if_pos h_80] at h
          have e_81 := eq_true h_80
          obtain ⟨o_100, h_99, h⟩ := bindS h
          simp only [e_2, e_23, e_44, e_48, e_54, e_59, e_81, go_sem, seval]
          rcases o_100 with ⟨y_82, y_83, y_84, y_85, y_86, y_87, y_88, y_89, y_90, y_91, y_92, y_93, y_94, y_95, y_96, y_97, y_98⟩ | _
          ·
           try dsimp only at h
           refine ACalls.useA (gsub_reader_several_w N _ _ _ _ _ c_0 _ h_99) [1] (v' := .agg [.int .i64 y_82, .vec false (List.map eTSpan y_83), .bool y_84, .int .i64 y_85, .vec false (List.map eLI64 y_86), .vec false (List.map eLTLig y_87), .vec false (List.map eTCtx y_88), .vec false (List.map eTValue y_89), .vec false (List.map eLTTwo y_90), .vec false (List.map eTClass y_91), .vec false (List.map eTClass y_92), .vec false (List.map eLTTwo y_93), .vec false (List.map eTArr2_TAnchor y_94), .vec false (List.map eTMark y_95), .vec false (List.map eTSpan y_96), .vec false (List.map eLLTAnchor y_97)]) (H' := [.box [.int .i64 0, nn, .bool false, .int .i64 0, nn, nn, nn, nn, nn, nn, nn, nn, nn, nn, nn, nn] 35, .box [.vec c_0 (List.map eU8 l_0), .int .i64 a_1, .int .i64 y_98] 100]) (hH := by simp only [go_sem, seval, e_2, e_23, e_44, e_48, e_54, e_59, e_81]) (ho := ⟨(by first | rfl | simp only [go_sem, seval, e_2, e_23, e_44, e_48, e_54, e_59, e_81]), trivial⟩) ?_
           refine ck0 ?_
           simp only [e_2, e_23, e_44, e_48, e_54, e_59, e_81, go_sem, seval]
           have g_0 := Option.some.inj h
           subst g_0
           rw [← hQ]
           exact ⟨rfl, _, rfl, _, _, (RefV.out (by first | rfl | simp only [go_sem, seval, e_2, e_23, e_44, e_48, e_54, e_59, e_81])), rfl, rfl⟩
          ·
           try dsimp only at h
           refine ACalls.panA (gsub_reader_several_w N _ _ _ _ _ c_0 _ h_99) [1] (v' := .iface 58 (.agg [])) (H' := [.box [.int .i64 0, nn, .bool false, .int .i64 0, nn, nn, nn, nn, nn, nn, nn, nn, nn, nn, nn, nn] 35, .dead]) (hH := by simp only [go_sem, seval, e_2, e_23, e_44, e_48, e_54, e_59, e_81]) (ho := ⟨(by first | rfl | simp only [go_sem, seval, e_2, e_23, e_44, e_48, e_54, e_59, e_81]), trivial⟩) ?_
           try simp only [CallK_pan, dCallK_pan, panK_ap]
           have g_0 := Option.some.inj h
           subst g_0
           rw [← hQ]
           exact ⟨rfl, _, _, RefV.dead rfl, rfl, rfl⟩
         ·
          rw [if_neg h_80] at h
          have e_81 := eq_false h_80
          simp only [e_2, e_23, e_44, e_48, e_54, e_59, e_81, go_sem, seval]
          by_cases h_102 : a_2 = 3
          ·
           rw [if_pos h_102] at h
           have e_103 := eq_true h_102
           obtain ⟨o_122, h_121, h⟩ := bindS h
           simp only [e_2, e_23, e_44, e_48, e_54, e_59, e_81, e_103, go_sem, seval]
           rcases o_122 with ⟨y_104, y_105, y_106, y_107, y_108, y_109, y_110, y_111, y_112, y_113, y_114, y_115, y_116, y_117, y_118, y_119, y_120⟩ | _
           ·
            try dsimp only at h
            refine ACalls.useA (gsub_reader_several_w N _ _ _ _ _ c_0 _ h_121) [1] (v' := .agg [.int .i64 y_104, .vec false (List.map eTSpan y_105), .bool y_106, .int .i64 y_107, .vec false (List.map eLI64 y_108), .vec false (List.map eLTLig y_109), .vec false (List.map eTCtx y_110), .vec false (List.map eTValue y_111), .vec false (List.map eLTTwo y_112), .vec false (List.map eTClass y_113), .vec false (List.map eTClass y_114), .vec false (List.map eLTTwo y_115), .vec false (List.map eTArr2_TAnchor y_116), .vec false (List.map eTMark y_117), .vec false (List.map eTSpan y_118), .vec false (List.map eLLTAnchor y_119)]) (H' := [.box [.int .i64 0, nn, .bool false, .int .i64 0, nn, nn, nn, nn, nn, nn, nn, nn, nn, nn, nn, nn] 35, .box [.vec c_0 (List.map eU8 l_0), .int .i64 a_1, .int .i64 y_120] 100]) (hH := by simp only [go_sem, seval, e_2, e_23, e_44, e_48, e_54, e_59, e_81, e_103]) (ho := ⟨(by first | rfl | simp only [go_sem, seval, e_2, e_23, e_44, e_48, e_54, e_59, e_81, e_103]), trivial⟩) ?_
            refine ck0 ?_
            simp only [e_2, e_23, e_44, e_48, e_54, e_59, e_81, e_103, go_sem, seval]
            have g_0 := Option.some.inj h
            subst g_0
            rw [← hQ]
            exact ⟨rfl, _, rfl, _, _, (RefV.out (by first | rfl | simp only [go_sem, seval, e_2, e_23, e_44, e_48, e_54, e_59, e_81, e_103])), rfl, rfl⟩
           ·
            try dsimp only at h
            refine ACalls.panA (gsub_reader_several_w N _ _ _ _ _ c_0 _ h_121) [1] (v' := .iface 58 (.agg [])) (H' := [.box [.int .i64 0, nn, .bool false, .int .i64 0, nn, nn, nn, nn, nn, nn, nn, nn, nn, nn, nn, nn] 35, .dead]) (hH := by simp only [go_sem, seval, e_2, e_23, e_44, e_48, e_54, e_59, e_81, e_103]) (ho := ⟨(by first | rfl | simp only [go_sem, seval, e_2, e_23, e_44, e_48, e_54, e_59, e_81, e_103]), trivial⟩) ?_
            try simp only [CallK_pan, dCallK_pan, panK_ap]
            have g_0 := Option.some.inj h
            subst g_0
            rw [← hQ]
            exact ⟨rfl, _, _, RefV.dead rfl, rfl, rfl⟩
          ·
           rw [if_neg h_102] at h
           have e_103 := eq_false h_102
           simp only [e_2, e_23, e_44, e_48, e_54, e_59, e_81, e_103, go_sem, seval]
           by_cases h_124 : a_2 = 4
           ·
            rw [if_pos h_124] at h
            have e_125 := eq_true h_124
            obtain ⟨o_144, h_143, h⟩ := bindS h
            simp only [e_2, e_23, e_44, e_48, e_54, e_59, e_81, e_103, e_125, go_sem, seval]
            rcases o_144 with ⟨y_126, y_127, y_128, y_129, y_130, y_131, y_132, y_133, y_134, y_135, y_136, y_137, y_138, y_139, y_140, y_141, y_142⟩ | _
            ·
             try dsimp only at h
             refine ACalls.useA (gsub_reader_ligatures_w N _ _ _ c_0 _ h_143) [1] (v' := .agg [.int .i64 y_126, .vec false (List.map eTSpan y_127), .bool y_128, .int .i64 y_129, .vec false (List.map eLI64 y_130), .vec false (List.map eLTLig y_131), .vec false (List.map eTCtx y_132), .vec false (List.map eTValue y_133), .vec false (List.map eLTTwo y_134), .vec false (List.map eTClass y_135), .vec false (List.map eTClass y_136), .vec false (List.map eLTTwo y_137), .vec false (List.map eTArr2_TAnchor y_138), .vec false (List.map eTMark y_139), .vec false (List.map eTSpan y_140), .vec false (List.map eLLTAnchor y_141)]) (H' := [.box [.int .i64 0, nn, .bool false, .int .i64 0, nn, nn, nn, nn, nn, nn, nn, nn, nn, nn, nn, nn] 35, .box [.vec c_0 (List.map eU8 l_0), .int .i64 a_1, .int .i64 y_142] 100]) (hH := by simp only [go_sem, seval, e_2, e_23, e_44, e_48, e_54, e_59, e_81, e_103, e_125]) (ho := ⟨(by first | rfl | simp only [go_sem, seval, e_2, e_23, e_44, e_48, e_54, e_59, e_81, e_103, e_125]), trivial⟩) ?_
             refine ck0 ?_
             simp only [e_2, e_23, e_44, e_48, e_54, e_59, e_81, e_103, e_125, go_sem, seval]
             have g_0 := Option.some.inj h
             subst g_0
             rw [← hQ]
             exact ⟨rfl, _, rfl, _, _, (RefV.out (by first | rfl | simp only [go_sem, seval, e_2, e_23, e_44, e_48, e_54, e_59, e_81, e_103, e_125])), rfl, rfl⟩
            ·
             try dsimp only at h
             refine ACalls.panA (gsub_reader_ligatures_w N _ _ _ c_0 _ h_143) [1] (v' := .iface 58 (.agg [])) (H' := [.box [.int .i64 0, nn, .bool false, .int .i64 0, nn, nn, nn, nn, nn, nn, nn, nn, nn, nn, nn, nn] 35, .dead]) (hH := by simp only [go_sem, seval, e_2, e_23, e_44, e_48, e_54, e_59, e_81, e_103, e_125]) (ho := ⟨(by first | rfl | simp only [go_sem, seval, e_2, e_23, e_44, e_48, e_54, e_59, e_81, e_103, e_125]), trivial⟩) ?_
             try simp only [CallK_pan, dCallK_pan, panK_ap]
             have g_0 := Option.some.inj h
             subst g_0
             rw [← hQ]
             exact ⟨rfl, _, _, RefV.dead rfl, rfl, rfl⟩
           ·
            rw [if_neg h_124] at h
            have e_125 := eq_false h_124
            simp only [e_2, e_23, e_44, e_48, e_54, e_59, e_81, e_103, e_125, go_sem, seval]
            by_cases h_146 : a_2 = 7
            ·
             rw [if_pos h_146] at h
             have e_147 := eq_true h_146
             obtain ⟨o_165, h_164, h⟩ := bindS h
             simp only [e_2, e_23, e_44, e_48, e_54, e_59, e_81, e_103, e_125, e_147, go_sem, seval]
             rcases o_165 with ⟨y_148, y_149, y_150, y_151, y_152, y_153, y_154, y_155, y_156, y_157, y_158, y_159, y_160, y_161, y_162, y_163⟩ | _
             ·
              try dsimp only at h
              refine ACalls.useA (gsub_reader_elsewhere_w N _ _ _ c_0 _ h_164) [1] (v' := .agg [.int .i64 y_148, .vec false (List.map eTSpan y_149), .bool y_150, .int .i64 y_151, .vec false (List.map eLI64 y_152), .vec false (List.map eLTLig y_153), .vec false (List.map eTCtx y_154), .vec false (List.map eTValue y_155), .vec false (List.map eLTTwo y_156), .vec false (List.map eTClass y_157), .vec false (List.map eTClass y_158), .vec false (List.map eLTTwo y_159), .vec false (List.map eTArr2_TAnchor y_160), .vec false (List.map eTMark y_161), .vec false (List.map eTSpan y_162), .vec false (List.map eLLTAnchor y_163)]) (H' := [.box [.int .i64 0, nn, .bool false, .int .i64 0, nn, nn, nn, nn, nn, nn, nn, nn, nn, nn, nn, nn] 35, .box [.vec c_0 (List.map eU8 l_0), .int .i64 a_1, .int .i64 (IntKind.i64.wrap ((IntKind.i64.wrap (a_1 + 2)) + 2))] 100]) (hH := by simp only [go_sem, seval, e_2, e_23, e_44, e_48, e_54, e_59, e_81, e_103, e_125, e_147]) (ho := ⟨(by first | rfl | simp only [go_sem, seval, e_2, e_23, e_44, e_48, e_54, e_59, e_81, e_103, e_125, e_147]), trivial⟩) ?_
              refine ck0 ?_
              simp only [e_2, e_23, e_44, e_48, e_54, e_59, e_81, e_103, e_125, e_147, go_sem, seval]
              have g_0 := Option.some.inj h
              subst g_0
              rw [← hQ]
              exact ⟨rfl, _, rfl, _, _, (RefV.out (by first | rfl | simp only [go_sem, seval, e_2, e_23, e_44, e_48, e_54, e_59, e_81, e_103, e_125, e_147])), rfl, rfl⟩
             ·
              try dsimp only at h
              refine ACalls.panA (gsub_reader_elsewhere_w N _ _ _ c_0 _ h_164) [1] (v' := .iface 58 (.agg [])) (H' := [.box [.int .i64 0, nn, .bool false, .int .i64 0, nn, nn, nn, nn, nn, nn, nn, nn, nn, nn, nn, nn] 35, .dead]) (hH := by simp only [go_sem, seval, e_2, e_23, e_44, e_48, e_54, e_59, e_81, e_103, e_125, e_147]) (ho := ⟨(by first | rfl | simp only [go_sem, seval, e_2, e_23, e_44, e_48, e_54, e_59, e_81, e_103, e_125, e_147]), trivial⟩) ?_
              try simp only [CallK_pan, dCallK_pan, panK_ap]
              have g_0 := Option.some.inj h
              subst g_0
              rw [← hQ]
              exact ⟨rfl, _, _, RefV.dead rfl, rfl, rfl⟩
            ·
             rw [if_neg h_146] at h
             have e_147 := eq_false h_146
             obtain ⟨o_185, h_184, h⟩ := bindS h
             simp only [e_2, e_23, e_44, e_48, e_54, e_59, e_81, e_103, e_125, e_147, go_sem, seval]
             rcases o_185 with ⟨y_167, y_168, y_169, y_170, y_171, y_172, y_173, y_174, y_175, y_176, y_177, y_178, y_179, y_180, y_181, y_182, y_183⟩ | _
             ·
              try dsimp only at h
              refine ACalls.useA (gsub_reader_reverse_w N _ _ _ c_0 _ h_184) [1] (v' := .agg [.int .i64 y_167, .vec false (List.map eTSpan y_168), .bool y_169, .int .i64 y_170, .vec false (List.map eLI64 y_171), .vec false (List.map eLTLig y_172), .vec false (List.map eTCtx y_173), .vec false (List.map eTValue y_174), .vec false (List.map eLTTwo y_175), .vec false (List.map eTClass y_176), .vec false (List.map eTClass y_177), .vec false (List.map eLTTwo y_178), .vec false (List.map eTArr2_TAnchor y_179), .vec false (List.map eTMark y_180), .vec false (List.map eTSpan y_181), .vec false (List.map eLLTAnchor y_182)]) (H' := [.box [.int .i64 0, nn, .bool false, .int .i64 0, nn, nn, nn, nn, nn, nn, nn, nn, nn, nn, nn, nn] 35, .box [.vec c_0 (List.map eU8 l_0), .int .i64 a_1, .int .i64 y_183] 100]) (hH := by simp only [go_sem, seval, e_2, e_23, e_44, e_48, e_54, e_59, e_81, e_103, e_125, e_147]) (ho := ⟨(by first | rfl | simp only [go_sem, seval, e_2, e_23, e_44, e_48, e_54, e_59, e_81, e_103, e_125, e_147]), trivial⟩) ?_
              refine ck0 ?_
              simp only [e_2, e_23, e_44, e_48, e_54, e_59, e_81, e_103, e_125, e_147, go_sem, seval]
              have g_0 := Option.some.inj h
              subst g_0
              rw [← hQ]
              exact ⟨rfl, _, rfl, _, _, (RefV.out (by first | rfl | simp only [go_sem, seval, e_2, e_23, e_44, e_48, e_54, e_59, e_81, e_103, e_125, e_147])), rfl, rfl⟩
             ·
              try dsimp only at h
              refine ACalls.panA (gsub_reader_reverse_w N _ _ _ c_0 _ h_184) [1] (v' := .iface 58 (.agg [])) (H' := [.box [.int .i64 0, nn, .bool false, .int .i64 0, nn, nn, nn, nn, nn, nn, nn, nn, nn, nn, nn, nn] 35, .dead]) (hH := by simp only [go_sem, seval, e_2, e_23, e_44, e_48, e_54, e_59, e_81, e_103, e_125, e_147]) (ho := ⟨(by first | rfl | simp only [go_sem, seval, e_2, e_23, e_44, e_48, e_54, e_59, e_81, e_103, e_125, e_147]), trivial⟩) ?_
              try simp only [CallK_pan, dCallK_pan, panK_ap]
              have g_0 := Option.some.inj h
              subst g_0
              rw [← hQ]
              exact ⟨rfl, _, _, RefV.dead rfl, rfl, rfl⟩
       ·
        try dsimp only at h
        refine ACalls.panA (gsub_must_w N _ _ h_55) [] (v' := .iface 58 (.agg [])) (H' := [.box [.int .i64 0, nn, .bool false, .int .i64 0, nn, nn, nn, nn, nn, nn, nn, nn, nn, nn, nn, nn] 35, .box [.vec c_0 (List.map eU8 l_0), .int .i64 a_1, .int .i64 (IntKind.i64.wrap (a_1 + 2))] 100]) (hH := by simp only [go_sem, seval, e_2, e_23, e_44, e_48, e_54]) ?_
        try simp only [CallK_pan, dCallK_pan, panK_ap]
        have g_0 := Option.some.inj h
        subst g_0
        rw [← hQ]
        exact ⟨rfl, _, _, RefV.dead rfl, rfl, rfl⟩
      ·
       rw [if_neg h_53] at h
       have e_54 := eq_false h_53
       obtain ⟨o_188, h_187, h⟩ := bindS h
       simp only [e_2, e_23, e_44, e_48, e_54, go_sem, seval]
       rcases o_188 with _ | _
       ·
        try dsimp only at h
        refine ACalls.use0 (gsub_must_w N _ _ h_187) rfl rfl ?_
        refine ck0 ?_
        have e_190 := eq_true (of_decide_eq_true (gsub_must_inl h_187))
        obtain ⟨o_209, h_208, h⟩ := bindS h
        simp only [e_2, e_23, e_44, e_48, e_54, e_190, go_sem, seval]
        rcases o_209 with ⟨y_191, y_192, y_193, y_194, y_195, y_196, y_197, y_198, y_199, y_200, y_201, y_202, y_203, y_204, y_205, y_206, y_207⟩ | _
        ·
         try dsimp only at h
         refine ACalls.useA (gsub_reader_single_w N _ _ _ _ c_0 _ h_208) [1] (v' := .agg [.int .i64 y_191, .vec false (List.map eTSpan y_192), .bool y_193, .int .i64 y_194, .vec false (List.map eLI64 y_195), .vec false (List.map eLTLig y_196), .vec false (List.map eTCtx y_197), .vec false (List.map eTValue y_198), .vec false (List.map eLTTwo y_199), .vec false (List.map eTClass y_200), .vec false (List.map eTClass y_201), .vec false (List.map eLTTwo y_202), .vec false (List.map eTArr2_TAnchor y_203), .vec false (List.map eTMark y_204), .vec false (List.map eTSpan y_205), .vec false (List.map eLLTAnchor y_206)]) (H' := [.box [.int .i64 0, nn, .bool false, .int .i64 0, nn, nn, nn, nn, nn, nn, nn, nn, nn, nn, nn, nn] 35, .box [.vec c_0 (List.map eU8 l_0), .int .i64 a_1, .int .i64 y_207] 100]) (hH := by simp only [go_sem, seval, e_2, e_23, e_44, e_48, e_54, e_190]) (ho := ⟨(by first | rfl | simp only [go_sem, seval, e_2, e_23, e_44, e_48, e_54, e_190]), trivial⟩) ?_
         refine ck0 ?_
         simp only [e_2, e_23, e_44, e_48, e_54, e_190, go_sem, seval]
         have g_0 := Option.some.inj h
         subst g_0
         rw [← hQ]
         exact ⟨rfl, _, rfl, _, _, (RefV.out (by first | rfl | simp only [go_sem, seval, e_2, e_23, e_44, e_48, e_54, e_190])), rfl, rfl⟩
        ·
         try dsimp only at h
         refine ACalls.panA (gsub_reader_single_w N _ _ _ _ c_0 _ h_208) [1] (v' := .iface 58 (.agg [])) (H' := [.box [.int .i64 0, nn, .bool false, .int .i64 0, nn, nn, nn, nn, nn, nn, nn, nn, nn, nn, nn, nn] 35, .dead]) (hH := by simp only [go_sem, seval, e_2, e_23, e_44, e_48, e_54, e_190]) (ho := ⟨(by first | rfl | simp only [go_sem, seval, e_2, e_23, e_44, e_48, e_54, e_190]), trivial⟩) ?_
         try simp only [CallK_pan, dCallK_pan, panK_ap]
         have g_0 := Option.some.inj h
         subst g_0
         rw [← hQ]
         exact ⟨rfl, _, _, RefV.dead rfl, rfl, rfl⟩
       ·
        try dsimp only at h
        refine ACalls.panA (gsub_must_w N _ _ h_187) [] (v' := .iface 58 (.agg [])) (H' := [.box [.int .i64 0, nn, .bool false, .int .i64 0, nn, nn, nn, nn, nn, nn, nn, nn, nn, nn, nn, nn] 35, .box [.vec c_0 (List.map eU8 l_0), .int .i64 a_1, .int .i64 (IntKind.i64.wrap (a_1 + 2))] 100]) (hH := by simp only [go_sem, seval, e_2, e_23, e_44, e_48, e_54]) ?_
        try simp only [CallK_pan, dCallK_pan, panK_ap]
        have g_0 := Option.some.inj h
        subst g_0
        rw [← hQ]
        exact ⟨rfl, _, _, RefV.dead rfl, rfl, rfl⟩
     ·
      try dsimp only at h
      refine ACalls.panA (gsub_reader_number_w N _ _ _ c_0 _ h_50) [1] (v' := .iface 58 (.agg [])) (H' := [.box [.int .i64 0, nn, .bool false, .int .i64 0, nn, nn, nn, nn, nn, nn, nn, nn, nn, nn, nn, nn] 35, .dead]) (hH := by simp only [go_sem, seval, e_2, e_23, e_44, e_48]) (ho := ⟨(by first | rfl | simp only [go_sem, seval, e_2, e_23, e_44, e_48]), trivial⟩) ?_
      try simp only [CallK_pan, dCallK_pan, panK_ap]
      have g_0 := Option.some.inj h
      subst g_0
      rw [← hQ]
      exact ⟨rfl, _, _, RefV.dead rfl, rfl, rfl⟩
    ·
     try dsimp only at h
     refine ACalls.panA (gsub_must_w N _ _ h_45) [] (v' := .iface 58 (.agg [])) (H' := [.box [.int .i64 0, nn, .bool false, .int .i64 0, nn, nn, nn, nn, nn, nn, nn, nn, nn, nn, nn, nn] 35, .box [.vec c_0 (List.map eU8 l_0), .int .i64 a_1, .int .i64 a_1] 100]) (hH := by simp only [go_sem, seval, e_2, e_23, e_44]) ?_
     try simp only [CallK_pan, dCallK_pan, panK_ap]
     have g_0 := Option.some.inj h
     subst g_0
     rw [← hQ]
     exact ⟨rfl, _, _, RefV.dead rfl, rfl, rfl⟩
   ·
    rw [if_neg h_43] at h
    have e_44 := eq_false h_43
    obtain ⟨o_212, h_211, h⟩ := bindS h
    simp only [e_2, e_23, e_44, go_sem, seval]
    rcases o_212 with _ | _
    ·
     try dsimp only at h
     refine ACalls.use0 (gsub_must_w N _ _ h_211) rfl rfl ?_
     refine ck0 ?_
     have h0 : none = some _ := h
     cases h0
    ·
     try dsimp only at h
     refine ACalls.panA (gsub_must_w N _ _ h_211) [] (v' := .iface 58 (.agg [])) (H' := [.box [.int .i64 0, nn, .bool false, .int .i64 0, nn, nn, nn, nn, nn, nn, nn, nn, nn, nn, nn, nn] 35, .box [.vec c_0 (List.map eU8 l_0), .int .i64 a_1, .int .i64 a_1] 100]) (hH := by simp only [go_sem, seval, e_2, e_23, e_44]) ?_
     try simp only [CallK_pan, dCallK_pan, panK_ap]
     have g_0 := Option.some.inj h
     subst g_0
     rw [← hQ]
     exact ⟨rfl, _, _, RefV.dead rfl, rfl, rfl⟩
theorem gsub_Read_w (N : Nat) (l_0 : List Int) (a_1 : Int) (a_2 : Int) (c_0 : Bool) (z_1 : Int) (z_2 : List TSpan) (z_3 : Bool) (z_4 : Int) (z_5 : List (List Int)) (z_6 : List (List TLig)) (z_7 : List TCtx) (z_8 : List TValue) (z_9 : List (List TTwo)) (z_10 : List TClass) (z_11 : List TClass) (z_12 : List (List TTwo)) (z_13 : List TArr2_TAnchor) (z_14 : List TMark) (z_15 : List TSpan) (z_16 : List (List (List TAnchor))) (z_17 : Bool) (h : gsub_Read N l_0 a_1 a_2 = some (z_1, z_2, z_3, z_4, z_5, z_6, z_7, z_8, z_9, z_10, z_11, z_12, z_13, z_14, z_15, z_16, z_17)) :
  ACalls Try.prog 11 [.vec c_0 (List.map eU8 l_0), .int .i64 a_1, .int .i64 a_2] [] (fun e H => H = [] ∧ e = .ret (.tup [.agg [.int .i64 z_1, .vec false (List.map eTSpan z_2), .bool z_3, .int .i64 z_4, .vec false (List.map eLI64 z_5), .vec false (List.map eLTLig z_6), .vec false (List.map eTCtx z_7), .vec false (List.map eTValue z_8), .vec false (List.map eLTTwo z_9), .vec false (List.map eTClass z_10), .vec false (List.map eTClass z_11), .vec false (List.map eLTTwo z_12), .vec false (List.map eTArr2_TAnchor z_13), .vec false (List.map eTMark z_14), .vec false (List.map eTSpan z_15), .vec false (List.map eLLTAnchor z_16)], .bool z_17])) := by
 unfold gsub_Read at h
 refine ACalls.goRN Try.func11 n11 a11 Try.ntmps11 r11 (by simp) 0 rfl ?_
 generalize hQ : bodyR _ _ _ _ = QQ
 obtain ⟨o_18, h_17, h⟩ := bindS h
 simp only [A11, go_sem, seval]
 rcases o_18 with ⟨y_1, y_2, y_3, y_4, y_5, y_6, y_7, y_8, y_9, y_10, y_11, y_12, y_13, y_14, y_15, y_16⟩ | _
 ·
  try dsimp only at h
  refine ACalls.use0 (gsub_read_w N _ _ _ c_0 _ h_17) rfl rfl ?_
  refine ck0 ?_
  simp only [go_sem, seval]
  rw [← hQ]
  show clo _ _ _ _ _ _ _
  refine clo.of_M (g := 23) (by simp) rfl rc23 (by decide) ?_
  generalize hE : endR _ _ _ _ = EE
  simp only [A23r, A23, go_sem, seval]
  obtain ⟨k_1, g_1⟩ := Prod.mk.inj (Option.some.inj h)
  subst k_1
  obtain ⟨k_2, g_2⟩ := Prod.mk.inj g_1
  subst k_2
  obtain ⟨k_3, g_3⟩ := Prod.mk.inj g_2
  subst k_3
  obtain ⟨k_4, g_4⟩ := Prod.mk.inj g_3
  subst k_4
  obtain ⟨k_5, g_5⟩ := Prod.mk.inj g_4
  subst k_5
  obtain ⟨k_6, g_6⟩ := Prod.mk.inj g_5
  subst k_6
  obtain ⟨k_7, g_7⟩ := Prod.mk.inj g_6
  subst k_7
  obtain ⟨k_8, g_8⟩ := Prod.mk.inj g_7
  subst k_8
  obtain ⟨k_9, g_9⟩ := Prod.mk.inj g_8
  subst k_9
  obtain ⟨k_10, g_10⟩ := Prod.mk.inj g_9
  subst k_10
  obtain ⟨k_11, g_11⟩ := Prod.mk.inj g_10
  subst k_11
  obtain ⟨k_12, g_12⟩ := Prod.mk.inj g_11
  subst k_12
  obtain ⟨k_13, g_13⟩ := Prod.mk.inj g_12
  subst k_13
  obtain ⟨k_14, g_14⟩ := Prod.mk.inj g_13
  subst k_14
  obtain ⟨k_15, g_15⟩ := Prod.mk.inj g_14
  subst k_15
  obtain ⟨k_16, g_16⟩ := Prod.mk.inj g_15
  subst k_16
  subst g_16
  rw [← hE]
  exact ⟨rfl, _, rfl, _, _, (RefV.out rfl), rfl, rfl⟩
 ·
  try dsimp only at h
  refine ACalls.panA (gsub_read_w N _ _ _ c_0 _ h_17) [] (v' := .iface 58 (.agg [])) (H' := [.box [.int .i64 0, nn, .bool false, .int .i64 0, nn, nn, nn, nn, nn, nn, nn, nn, nn, nn, nn, nn] 35, .box [.bool false] 4]) ?_
  try simp only [CallK_pan, dCallK_pan, panK_ap]
  rw [← hQ]
  show clo _ _ _ _ _ _ _
  refine clo.of_M (g := 23) (by simp) rfl rc23 (by decide) ?_
  generalize hE : endR _ _ _ _ = EE
  simp only [A23r, A23, go_sem, seval]
  obtain ⟨k_1, g_1⟩ := Prod.mk.inj (Option.some.inj h)
  subst k_1
  obtain ⟨k_2, g_2⟩ := Prod.mk.inj g_1
  subst k_2
  obtain ⟨k_3, g_3⟩ := Prod.mk.inj g_2
  subst k_3
  obtain ⟨k_4, g_4⟩ := Prod.mk.inj g_3
  subst k_4
  obtain ⟨k_5, g_5⟩ := Prod.mk.inj g_4
  subst k_5
  obtain ⟨k_6, g_6⟩ := Prod.mk.inj g_5
  subst k_6
  obtain ⟨k_7, g_7⟩ := Prod.mk.inj g_6
  subst k_7
  obtain ⟨k_8, g_8⟩ := Prod.mk.inj g_7
  subst k_8
  obtain ⟨k_9, g_9⟩ := Prod.mk.inj g_8
  subst k_9
  obtain ⟨k_10, g_10⟩ := Prod.mk.inj g_9
  subst k_10
  obtain ⟨k_11, g_11⟩ := Prod.mk.inj g_10
  subst k_11
  obtain ⟨k_12, g_12⟩ := Prod.mk.inj g_11
  subst k_12
  obtain ⟨k_13, g_13⟩ := Prod.mk.inj g_12
  subst k_13
  obtain ⟨k_14, g_14⟩ := Prod.mk.inj g_13
  subst k_14
  obtain ⟨k_15, g_15⟩ := Prod.mk.inj g_14
  subst k_15
  obtain ⟨k_16, g_16⟩ := Prod.mk.inj g_15
  subst k_16
  subst g_16
  rw [← hE]
  exact ⟨rfl, _, rfl, _, _, (RefV.trans (RefV.out (v' := .tup [.agg [.int .i64 0, nn, .bool false, .int .i64 0, nn, nn, nn, nn, nn, nn, nn, nn, nn, nn, nn, nn], .bool false]) rfl) (RefV.weak (Wks.cons (Wk.tup (Wks.cons (Wk.agg (Wks.cons (Wk.refl _) (Wks.cons Wk.vec (Wks.cons (Wk.refl _) (Wks.cons (Wk.refl _) (Wks.cons Wk.vec (Wks.cons Wk.vec (Wks.cons Wk.vec (Wks.cons Wk.vec (Wks.cons Wk.vec (Wks.cons Wk.vec (Wks.cons Wk.vec (Wks.cons Wk.vec (Wks.cons Wk.vec (Wks.cons Wk.vec (Wks.cons Wk.vec (Wks.cons Wk.vec (Wks.nil)))))))))))))))))) (Wks.cons (Wk.refl _) (Wks.nil)))) Wks.nil) (WkH.refl _))), rfl, rfl⟩
theorem ref12_Count_L1_w (N : Nat) (l_0 : List TSpan) (c_0 : Bool) {R : AExit → ATm → List AObj → Prop} : ∀ (n : Nat) (i_1 : Int) (i_2 : Int) (o : Int), ref12_Count_L1 N l_0 n i_1 i_2 = some o → (match o with | z_1 => R (.exit 0) ⟨26, [(3, .int .i64 z_1)], []⟩ []) →
  ALp Try.prog 0 B17_1 ⟨26, [(0, .vec c_0 (List.map eTSpan l_0)), (3, .int .i64 i_1), (4, .int .i64 i_2)], []⟩ [] R := by
 intro n
 induction n with
 | zero =>
  intro i_1 i_2 o h _
  have h0 : none = some o := h
  cases h0
 | succ n ih =>
  intro i_1 i_2 o h hp
  rw [ref12_Count_L1] at h
  refine ALp.round ?_
  generalize hQ : RoundQ _ _ _ _ = QQ
  simp only [B17_1, A17, go_sem, seval]
  by_cases h_3 : i_2 < (l_0.length : Int)
  ·
   rw [if_pos h_3] at h
   have e_4 := eq_true h_3
   obtain ⟨x_5, h_6, h⟩ := bindS h
   have e_7 : (List.map eTSpan l_0)[(i_2).toNat]? = some [.int .i64 x_5.From, .int .i64 x_5.To] := atI_map eTSpan h_6
   have e_8 := eq_true (atI_some h_6).1
   have e_9 := eq_true (atI_lt h_6)
   simp only [e_4, e_7, e_8, e_9, go_sem, seval]
   rw [← hQ]
   exact ⟨_, _, (Ref.out [0, 3, 4] rfl), (Nat.zero_le _), ih _ _ _ h hp⟩
  ·
   rw [if_neg h_3] at h
   have e_4 := eq_false h_3
   simp only [e_4, go_sem, seval]
   have g := Option.some.inj h
   subst g
   rw [← hQ]
   exact ⟨_, _, (Ref.out [3] rfl), hp⟩
theorem ref12_Count_w (N : Nat) (l_0 : List TSpan) (c_0 : Bool) (z_1 : Int) (h : ref12_Count N l_0 = some z_1) :
  ACalls Try.prog 17 [.vec c_0 (List.map eTSpan l_0)] [] (fun e H => H = [] ∧ e = .ret (.int .i64 z_1)) := by
 unfold ref12_Count at h
 refine ACalls.goN Try.func17 n17 a17 Try.ntmps17 r17 (by simp) 0 rfl ?_
 generalize hQ : bodyA _ _ _ = QQ
 simp only [A17, go_sem, seval]
 obtain ⟨y_1002, h_1001, h⟩ := bindS h
 refine ALp.ref (Ref.out [0, 3, 4] rfl) (Nat.zero_le _) (ref12_Count_L1_w N _ c_0 N _ _ y_1002 h_1001 ?_)
 refine LoopK_go rfl (Nat.zero_le _) ?_
 simp only [go_sem, seval]
 have g_0 := Option.some.inj h
 subst g_0
 rw [← hQ]
 exact ⟨rfl, _, rfl, _, _, (RefV.out rfl), rfl, rfl⟩
theorem law12_GsubMay_L2_w (N : Nat) (i_35 : Int) (y_7 : Int) (y_8 : List TSpan) (y_9 : Bool) (y_10 : Int) (y_11 : List (List Int)) (y_12 : List (List TLig)) (y_13 : List TCtx) (y_14 : List TValue) (y_15 : List (List TTwo)) (y_16 : List TClass) (y_17 : List TClass) (y_18 : List (List TTwo)) (y_19 : List TArr2_TAnchor) (y_20 : List TMark) (y_21 : List TSpan) (y_22 : List (List (List TAnchor))) {R : AExit → ATm → List AObj → Prop} : ∀ (n : Nat) (i_38 : Int) (o : (Unit) ⊕ (Unit)), law12_GsubMay_L2 N i_35 y_7 y_8 y_9 y_10 y_11 y_12 y_13 y_14 y_15 y_16 y_17 y_18 y_19 y_20 y_21 y_22 n i_38 = some o → (match o with | .inl _ => R (.exit 3) ⟨151, [(7, .ptr 0 0 0), (10, .int .i64 i_35)], []⟩ [.box [.int .i64 y_7, .vec false (List.map eTSpan y_8), .bool y_9, .int .i64 y_10, .vec false (List.map eLI64 y_11), .vec false (List.map eLTLig y_12), .vec false (List.map eTCtx y_13), .vec false (List.map eTValue y_14), .vec false (List.map eLTTwo y_15), .vec false (List.map eTClass y_16), .vec false (List.map eTClass y_17), .vec false (List.map eLTTwo y_18), .vec false (List.map eTArr2_TAnchor y_19), .vec false (List.map eTMark y_20), .vec false (List.map eTSpan y_21), .vec false (List.map eLLTAnchor y_22)] 35] | .inr (_) => R .ret ⟨151, [(6, .bool false)], []⟩ []) →
  ALp Try.prog 0 B5_2 ⟨151, [(7, .ptr 0 0 0), (10, .int .i64 i_35), (11, .int .i64 i_38)], []⟩ [.box [.int .i64 y_7, .vec false (List.map eTSpan y_8), .bool y_9, .int .i64 y_10, .vec false (List.map eLI64 y_11), .vec false (List.map eLTLig y_12), .vec false (List.map eTCtx y_13), .vec false (List.map eTValue y_14), .vec false (List.map eLTTwo y_15), .vec false (List.map eTClass y_16), .vec false (List.map eTClass y_17), .vec false (List.map eLTTwo y_18), .vec false (List.map eTArr2_TAnchor y_19), .vec false (List.map eTMark y_20), .vec false (List.map eTSpan y_21), .vec false (List.map eLLTAnchor y_22)] 35] R := by
 intro n
 induction n with
 | zero =>
  intro i_38 o h _
  have h0 : none = some o := h
  cases h0
 | succ n ih =>
  intro i_38 o h hp
  rw [law12_GsubMay_L2] at h
  refine ALp.round ?_
  generalize hQ : RoundQ _ _ _ _ = QQ
  obtain ⟨x_39, h_40, h⟩ := bindS h
  have e_41 : (List.map eLI64 y_11)[(i_35).toNat]? = some [.vec false (List.map eI64 x_39)] := atI_map eLI64 h_40
  have e_42 := eq_true (atI_some h_40).1
  have e_43 := eq_true (atI_lt h_40)
  simp only [B5_2, B5_1, A5, e_41, e_42, e_43, go_sem, seval]
  by_cases h_44 : i_38 < (x_39.length : Int)
  ·
   rw [if_pos h_44] at h
   have e_45 := eq_true h_44
   obtain ⟨x_46, h_47, h⟩ := bindS h
   have e_48 : (List.map eI64 x_39)[(i_38).toNat]? = some [.int .i64 x_46] := atI_map eI64 h_47
   have e_49 := eq_true (atI_some h_47).1
   have e_50 := eq_true (atI_lt h_47)
   simp only [e_41, e_42, e_43, e_45, e_48, e_49, e_50, go_sem, seval]
   by_cases h_51 : x_46 < 0
   ·
    rw [if_pos h_51] at h
    have e_52 := eq_true h_51
    simp only [e_41, e_42, e_43, e_45, e_48, e_49, e_50, e_52, go_sem, seval]
    have g := Option.some.inj h
    subst g
    rw [← hQ]
    exact ⟨_, _, (Ref.out [6] rfl), hp⟩
   ·
    rw [if_neg h_51] at h
    have e_52 := eq_false h_51
    simp only [e_41, e_42, e_43, e_45, e_48, e_49, e_50, e_52, go_sem, seval]
    by_cases h_53 : 65535 < x_46
    ·
     rw [if_pos h_53] at h
     have e_54 := eq_true h_53
     simp only [e_41, e_42, e_43, e_45, e_48, e_49, e_50, e_52, e_54, go_sem, seval]
     have g := Option.some.inj h
     subst g
     rw [← hQ]
     exact ⟨_, _, (Ref.out [6] rfl), hp⟩
    ·
     rw [if_neg h_53] at h
     have e_54 := eq_false h_53
     simp only [e_41, e_42, e_43, e_45, e_48, e_49, e_50, e_52, e_54, go_sem, seval]
     rw [← hQ]
     exact ⟨_, _, (Ref.std [7, 10, 11] [0] (by decide) low0 rfl (by first | rfl | simp only [go_sem, seval, e_45, e_52, e_54])), (Nat.zero_le _), ih _ _ h hp⟩
  ·
   rw [if_neg h_44] at h
   have e_45 := eq_false h_44
   simp only [e_41, e_42, e_43, e_45, go_sem, seval]
   have g := Option.some.inj h
   subst g
   rw [← hQ]
   exact ⟨_, _, (Ref.std [7, 10] [0] (by decide) low0 rfl (by first | rfl | simp only [go_sem, seval, e_45])), hp⟩
theorem law12_GsubMay_L3_w (N : Nat) (y_7 : Int) (y_8 : List TSpan) (y_9 : Bool) (y_10 : Int) (y_11 : List (List Int)) (y_12 : List (List TLig)) (y_13 : List TCtx) (y_14 : List TValue) (y_15 : List (List TTwo)) (y_16 : List TClass) (y_17 : List TClass) (y_18 : List (List TTwo)) (y_19 : List TArr2_TAnchor) (y_20 : List TMark) (y_21 : List TSpan) (y_22 : List (List (List TAnchor))) {R : AExit → ATm → List AObj → Prop} : ∀ (n : Nat) (i_35 : Int) (o : (Unit) ⊕ (Unit)), law12_GsubMay_L3 N y_7 y_8 y_9 y_10 y_11 y_12 y_13 y_14 y_15 y_16 y_17 y_18 y_19 y_20 y_21 y_22 n i_35 = some o → (match o with | .inl _ => R (.exit 1) ⟨151, [(7, .ptr 0 0 0)], []⟩ [.box [.int .i64 y_7, .vec false (List.map eTSpan y_8), .bool y_9, .int .i64 y_10, .vec false (List.map eLI64 y_11), .vec false (List.map eLTLig y_12), .vec false (List.map eTCtx y_13), .vec false (List.map eTValue y_14), .vec false (List.map eLTTwo y_15), .vec false (List.map eTClass y_16), .vec false (List.map eTClass y_17), .vec false (List.map eLTTwo y_18), .vec false (List.map eTArr2_TAnchor y_19), .vec false (List.map eTMark y_20), .vec false (List.map eTSpan y_21), .vec false (List.map eLLTAnchor y_22)] 35] | .inr (_) => R .ret ⟨151, [(6, .bool false)], []⟩ []) →
  ALp Try.prog 0 B5_1 ⟨151, [(7, .ptr 0 0 0), (10, .int .i64 i_35)], []⟩ [.box [.int .i64 y_7, .vec false (List.map eTSpan y_8), .bool y_9, .int .i64 y_10, .vec false (List.map eLI64 y_11), .vec false (List.map eLTLig y_12), .vec false (List.map eTCtx y_13), .vec false (List.map eTValue y_14), .vec false (List.map eLTTwo y_15), .vec false (List.map eTClass y_16), .vec false (List.map eTClass y_17), .vec false (List.map eLTTwo y_18), .vec false (List.map eTArr2_TAnchor y_19), .vec false (List.map eTMark y_20), .vec false (List.map eTSpan y_21), .vec false (List.map eLLTAnchor y_22)] 35] R := by
 intro n
 induction n with
 | zero =>
  intro i_35 o h _
  have h0 : none = some o := h
  cases h0
 | succ n ih =>
  intro i_35 o h hp
  rw [law12_GsubMay_L3] at h
  refine ALp.round ?_
  generalize hQ : RoundQ _ _ _ _ = QQ
  simp only [B5_1, A5, go_sem, seval]
  by_cases h_36 : i_35 < (y_11.length : Int)
  ·
   rw [if_pos h_36] at h
   have e_37 := eq_true h_36
   simp only [e_37, go_sem, seval]
   obtain ⟨o_1039, h_1038, h⟩ := bindS h
   refine ALp.ref (Ref.std [7, 10, 11] [0] (by decide) low0 rfl (by first | rfl | simp only [go_sem, seval, e_37])) (Nat.zero_le _) (law12_GsubMay_L2_w N _ _ _ _ _ _ _ _ _ _ _ _ _ _ _ _ _ N _ o_1039 h_1038 ?_)
   rcases o_1039 with _ | _
   ·
    try dsimp only at h
    refine LoopK_go rfl (Nat.zero_le _) ?_
    simp only [e_37, go_sem, seval]
    rw [← hQ]
    exact ⟨_, _, (Ref.std [7, 10] [0] (by decide) low0 rfl (by first | rfl | simp only [go_sem, seval, e_37])), (Nat.zero_le _), ih _ _ h hp⟩
   ·
    try dsimp only at h
    refine LoopK_ret ?_
    have g := Option.some.inj h
    subst g
    rw [← hQ]
    exact ⟨_, _, (Ref.out [6] rfl), hp⟩
  ·
   rw [if_neg h_36] at h
   have e_37 := eq_false h_36
   simp only [e_37, go_sem, seval]
   have g := Option.some.inj h
   subst g
   rw [← hQ]
   exact ⟨_, _, (Ref.std [7] [0] (by decide) low0 rfl (by first | rfl | simp only [go_sem, seval, e_37])), hp⟩
theorem gsub_Things_1_w (N : Nat) (a_0 : Int) (a_1 : Int) (h : gsub_Things_1 N a_0 a_1 = some ()) :
  ACalls Try.prog 38 [.int .i64 a_0, .ptr 0 0 0] [.box [.int .i64 a_1] 3] (fun e H => H = [.box [.int .i64 (min (IntKind.i64.wrap (a_1 + a_0)) 20001)] 3] ∧ e = .ret (.tup [])) := by
 unfold gsub_Things_1 at h
 refine ACalls.goN Try.func38 n38 a38 Try.ntmps38 r38 (by simp) 1 rfl ?_
 generalize hQ : bodyA _ _ _ = QQ
 simp only [A38, go_sem, seval]
 rw [← hQ]
 exact ⟨rfl, _, rfl, _, _, (RefV.std [0] (by decide) (by decide) rfl (by first | rfl | simp only [go_sem, seval])), rfl, rfl⟩
theorem gsub_Things_L1_w (N : Nat) (l_4 : List (List Int)) (a_0 : Int) (l_1 : List TSpan) (b_2 : Bool) (a_3 : Int) (l_5 : List (List TLig)) (l_6 : List TCtx) (l_7 : List TValue) (l_8 : List (List TTwo)) (l_9 : List TClass) (l_10 : List TClass) (l_11 : List (List TTwo)) (l_12 : List TArr2_TAnchor) (l_13 : List TMark) (l_14 : List TSpan) (l_15 : List (List (List TAnchor))) (c_1 : Bool) (c_0 : Bool) (c_2 : Bool) (c_3 : Bool) (c_4 : Bool) (c_5 : Bool) (c_6 : Bool) (c_7 : Bool) (c_8 : Bool) (c_9 : Bool) (c_10 : Bool) (c_11 : Bool) (c_12 : Bool) {R : AExit → ATm → List AObj → Prop} : ∀ (n : Nat) (i_1 : Int) (i_2 : Int) (o : Int), gsub_Things_L1 N l_4 a_0 l_1 b_2 a_3 l_5 l_6 l_7 l_8 l_9 l_10 l_11 l_12 l_13 l_14 l_15 n i_1 i_2 = some o → (match o with | z_1 => R (.exit 0) ⟨94, [(1, .ptr 0 0 0), (3, .ptr 1 0 0), (4, .fn (.func 38) [] [.ptr 1 0 0])], []⟩ [.box [.int .i64 a_0, .vec c_0 (List.map eTSpan l_1), .bool b_2, .int .i64 a_3, .vec c_1 (List.map eLI64 l_4), .vec c_2 (List.map eLTLig l_5), .vec c_3 (List.map eTCtx l_6), .vec c_4 (List.map eTValue l_7), .vec c_5 (List.map eLTTwo l_8), .vec c_6 (List.map eTClass l_9), .vec c_7 (List.map eTClass l_10), .vec c_8 (List.map eLTTwo l_11), .vec c_9 (List.map eTArr2_TAnchor l_12), .vec c_10 (List.map eTMark l_13), .vec c_11 (List.map eTSpan l_14), .vec c_12 (List.map eLLTAnchor l_15)] 35, .box [.int .i64 z_1] 3]) →
  ALp Try.prog 0 B15_1 ⟨94, [(1, .ptr 0 0 0), (3, .ptr 1 0 0), (4, .fn (.func 38) [] [.ptr 1 0 0]), (19, .vec c_1 (List.map eLI64 l_4)), (20, .int .i64 (l_4.length : Int)), (21, .int .i64 i_1)], []⟩ [.box [.int .i64 a_0, .vec c_0 (List.map eTSpan l_1), .bool b_2, .int .i64 a_3, .vec c_1 (List.map eLI64 l_4), .vec c_2 (List.map eLTLig l_5), .vec c_3 (List.map eTCtx l_6), .vec c_4 (List.map eTValue l_7), .vec c_5 (List.map eLTTwo l_8), .vec c_6 (List.map eTClass l_9), .vec c_7 (List.map eTClass l_10), .vec c_8 (List.map eLTTwo l_11), .vec c_9 (List.map eTArr2_TAnchor l_12), .vec c_10 (List.map eTMark l_13), .vec c_11 (List.map eTSpan l_14), .vec c_12 (List.map eLLTAnchor l_15)] 35, .box [.int .i64 i_2] 3] R := by
 intro n
 induction n with
 | zero =>
  intro i_1 i_2 o h _
  have h0 : none = some o := h
  cases h0
 | succ n ih =>
  intro i_1 i_2 o h hp
  rw [gsub_Things_L1] at h
  refine ALp.round ?_
  generalize hQ : RoundQ _ _ _ _ = QQ
  simp only [B15_1, A15, go_sem, seval]
  by_cases h_3 : i_1 < (l_4.length : Int)
  ·
   rw [if_pos h_3] at h
   have e_4 := eq_true h_3
   obtain ⟨x_5, h_6, h⟩ := bindS h
   have e_7 : (List.map eLI64 l_4)[(i_1).toNat]? = some [.vec false (List.map eI64 x_5)] := atI_map eLI64 h_6
   have e_8 := eq_true (atI_some h_6).1
   have e_9 := eq_true (atI_lt h_6)
   obtain ⟨_, h_10, h⟩ := bindS h
   simp only [e_4, e_7, e_8, e_9, go_sem, seval]
   refine ACalls.useA (gsub_Things_1_w N _ _ h_10) [1] (v' := .tup []) (H' := [.box [.int .i64 a_0, .vec c_0 (List.map eTSpan l_1), .bool b_2, .int .i64 a_3, .vec c_1 (List.map eLI64 l_4), .vec c_2 (List.map eLTLig l_5), .vec c_3 (List.map eTCtx l_6), .vec c_4 (List.map eTValue l_7), .vec c_5 (List.map eLTTwo l_8), .vec c_6 (List.map eTClass l_9), .vec c_7 (List.map eTClass l_10), .vec c_8 (List.map eLTTwo l_11), .vec c_9 (List.map eTArr2_TAnchor l_12), .vec c_10 (List.map eTMark l_13), .vec c_11 (List.map eTSpan l_14), .vec c_12 (List.map eLLTAnchor l_15)] 35, .box [.int .i64 (min (IntKind.i64.wrap (i_2 + (IntKind.i64.wrap ((x_5.length : Int) + 1)))) 20001)] 3]) (hH := by simp only [go_sem, seval, e_4]) (ho := ⟨(by first | rfl | simp only [go_sem, seval, e_4]), trivial⟩) ?_
   refine ck0 ?_
   simp only [e_4, e_7, e_8, e_9, go_sem, seval]
   rw [← hQ]
   exact ⟨_, _, (Ref.std [1, 3, 4, 19, 20, 21] [0, 1] (by decide) low0 rfl (by first | rfl | simp only [go_sem, seval, e_4])), (Nat.zero_le _), ih _ _ _ h hp⟩
  ·
   rw [if_neg h_3] at h
   have e_4 := eq_false h_3
   simp only [e_4, go_sem, seval]
   have g := Option.some.inj h
   subst g
   rw [← hQ]
   exact ⟨_, _, (Ref.std [1, 3, 4] [0, 1] (by decide) low0 rfl (by first | rfl | simp only [go_sem, seval, e_4])), hp⟩
theorem gsub_Things_L3_w (N : Nat) (l_5 : List (List TLig)) (i_1003 : Int) (x_1007 : List TLig) (a_0 : Int) (l_1 : List TSpan) (b_2 : Bool) (a_3 : Int) (l_4 : List (List Int)) (l_6 : List TCtx) (l_7 : List TValue) (l_8 : List (List TTwo)) (l_9 : List TClass) (l_10 : List TClass) (l_11 : List (List TTwo)) (l_12 : List TArr2_TAnchor) (l_13 : List TMark) (l_14 : List TSpan) (l_15 : List (List (List TAnchor))) (c_2 : Bool) (c_0 : Bool) (c_1 : Bool) (c_3 : Bool) (c_4 : Bool) (c_5 : Bool) (c_6 : Bool) (c_7 : Bool) (c_8 : Bool) (c_9 : Bool) (c_10 : Bool) (c_11 : Bool) (c_12 : Bool) {R : AExit → ATm → List AObj → Prop} : ∀ (n : Nat) (i_1013 : Int) (i_1014 : Int) (o : Int), gsub_Things_L3 N l_5 i_1003 x_1007 a_0 l_1 b_2 a_3 l_4 l_6 l_7 l_8 l_9 l_10 l_11 l_12 l_13 l_14 l_15 n i_1013 i_1014 = some o → (match o with | z_1 => R (.exit 4) ⟨94, [(1, .ptr 0 0 0), (3, .ptr 1 0 0), (4, .fn (.func 38) [] [.ptr 1 0 0]), (32, .vec c_2 (List.map eLTLig l_5)), (33, .int .i64 (l_5.length : Int)), (34, .int .i64 i_1003)], []⟩ [.box [.int .i64 a_0, .vec c_0 (List.map eTSpan l_1), .bool b_2, .int .i64 a_3, .vec c_1 (List.map eLI64 l_4), .vec c_2 (List.map eLTLig l_5), .vec c_3 (List.map eTCtx l_6), .vec c_4 (List.map eTValue l_7), .vec c_5 (List.map eLTTwo l_8), .vec c_6 (List.map eTClass l_9), .vec c_7 (List.map eTClass l_10), .vec c_8 (List.map eLTTwo l_11), .vec c_9 (List.map eTArr2_TAnchor l_12), .vec c_10 (List.map eTMark l_13), .vec c_11 (List.map eTSpan l_14), .vec c_12 (List.map eLLTAnchor l_15)] 35, .box [.int .i64 z_1] 3]) →
  ALp Try.prog 0 B15_3 ⟨94, [(1, .ptr 0 0 0), (3, .ptr 1 0 0), (4, .fn (.func 38) [] [.ptr 1 0 0]), (32, .vec c_2 (List.map eLTLig l_5)), (33, .int .i64 (l_5.length : Int)), (34, .int .i64 i_1003), (40, .vec false (List.map eTLig x_1007)), (41, .int .i64 (x_1007.length : Int)), (42, .int .i64 i_1013)], []⟩ [.box [.int .i64 a_0, .vec c_0 (List.map eTSpan l_1), .bool b_2, .int .i64 a_3, .vec c_1 (List.map eLI64 l_4), .vec c_2 (List.map eLTLig l_5), .vec c_3 (List.map eTCtx l_6), .vec c_4 (List.map eTValue l_7), .vec c_5 (List.map eLTTwo l_8), .vec c_6 (List.map eTClass l_9), .vec c_7 (List.map eTClass l_10), .vec c_8 (List.map eLTTwo l_11), .vec c_9 (List.map eTArr2_TAnchor l_12), .vec c_10 (List.map eTMark l_13), .vec c_11 (List.map eTSpan l_14), .vec c_12 (List.map eLLTAnchor l_15)] 35, .box [.int .i64 i_1014] 3] R := by
 intro n
 induction n with
 | zero =>
  intro i_1013 i_1014 o h _
  have h0 : none = some o := h
  cases h0
 | succ n ih =>
  intro i_1013 i_1014 o h hp
  rw [gsub_Things_L3] at h
  refine ALp.round ?_
  generalize hQ : RoundQ _ _ _ _ = QQ
  simp only [B15_3, B15_2, A15, go_sem, seval]
  by_cases h_1015 : i_1013 < (x_1007.length : Int)
  ·
   rw [if_pos h_1015] at h
   have e_1016 := eq_true h_1015
   obtain ⟨x_1017, h_1018, h⟩ := bindS h
   have e_1019 : (List.map eTLig x_1007)[(i_1013).toNat]? = some [.vec false (List.map eI64 x_1017.Parts), .int .i64 x_1017.To] := atI_map eTLig h_1018
   have e_1020 := eq_true (atI_some h_1018).1
   have e_1021 := eq_true (atI_lt h_1018)
   obtain ⟨_, h_1022, h⟩ := bindS h
   simp only [e_1016, e_1019, e_1020, e_1021, go_sem, seval]
   refine ACalls.useA (gsub_Things_1_w N _ _ h_1022) [1] (v' := .tup []) (H' := [.box [.int .i64 a_0, .vec c_0 (List.map eTSpan l_1), .bool b_2, .int .i64 a_3, .vec c_1 (List.map eLI64 l_4), .vec c_2 (List.map eLTLig l_5), .vec c_3 (List.map eTCtx l_6), .vec c_4 (List.map eTValue l_7), .vec c_5 (List.map eLTTwo l_8), .vec c_6 (List.map eTClass l_9), .vec c_7 (List.map eTClass l_10), .vec c_8 (List.map eLTTwo l_11), .vec c_9 (List.map eTArr2_TAnchor l_12), .vec c_10 (List.map eTMark l_13), .vec c_11 (List.map eTSpan l_14), .vec c_12 (List.map eLLTAnchor l_15)] 35, .box [.int .i64 (min (IntKind.i64.wrap (i_1014 + (IntKind.i64.wrap ((x_1017.Parts.length : Int) + 1)))) 20001)] 3, .box [.vec false (List.map eI64 x_1017.Parts), .int .i64 x_1017.To] 77]) (hH := by simp only [go_sem, seval, e_1016]) (ho := ⟨(by first | rfl | simp only [go_sem, seval, e_1016]), trivial⟩) ?_
   refine ck0 ?_
   simp only [e_1016, e_1019, e_1020, e_1021, go_sem, seval]
   rw [← hQ]
   exact ⟨_, _, (Ref.std [1, 3, 4, 32, 33, 34, 40, 41, 42] [0, 1] (by decide) low0 rfl (by first | rfl | simp only [go_sem, seval, e_1016])), (Nat.zero_le _), ih _ _ _ h hp⟩
  ·
   rw [if_neg h_1015] at h
   have e_1016 := eq_false h_1015
   simp only [e_1016, go_sem, seval]
   have g := Option.some.inj h
   subst g
   rw [← hQ]
   exact ⟨_, _, (Ref.std [1, 3, 4, 32, 33, 34] [0, 1] (by decide) low0 rfl (by first | rfl | simp only [go_sem, seval, e_1016])), hp⟩
theorem gsub_Things_L4_w (N : Nat) (l_5 : List (List TLig)) (a_0 : Int) (l_1 : List TSpan) (b_2 : Bool) (a_3 : Int) (l_4 : List (List Int)) (l_6 : List TCtx) (l_7 : List TValue) (l_8 : List (List TTwo)) (l_9 : List TClass) (l_10 : List TClass) (l_11 : List (List TTwo)) (l_12 : List TArr2_TAnchor) (l_13 : List TMark) (l_14 : List TSpan) (l_15 : List (List (List TAnchor))) (c_2 : Bool) (c_0 : Bool) (c_1 : Bool) (c_3 : Bool) (c_4 : Bool) (c_5 : Bool) (c_6 : Bool) (c_7 : Bool) (c_8 : Bool) (c_9 : Bool) (c_10 : Bool) (c_11 : Bool) (c_12 : Bool) {R : AExit → ATm → List AObj → Prop} : ∀ (n : Nat) (i_1003 : Int) (i_1004 : Int) (o : Int), gsub_Things_L4 N l_5 a_0 l_1 b_2 a_3 l_4 l_6 l_7 l_8 l_9 l_10 l_11 l_12 l_13 l_14 l_15 n i_1003 i_1004 = some o → (match o with | z_1 => R (.exit 2) ⟨94, [(1, .ptr 0 0 0), (3, .ptr 1 0 0), (4, .fn (.func 38) [] [.ptr 1 0 0])], []⟩ [.box [.int .i64 a_0, .vec c_0 (List.map eTSpan l_1), .bool b_2, .int .i64 a_3, .vec c_1 (List.map eLI64 l_4), .vec c_2 (List.map eLTLig l_5), .vec c_3 (List.map eTCtx l_6), .vec c_4 (List.map eTValue l_7), .vec c_5 (List.map eLTTwo l_8), .vec c_6 (List.map eTClass l_9), .vec c_7 (List.map eTClass l_10), .vec c_8 (List.map eLTTwo l_11), .vec c_9 (List.map eTArr2_TAnchor l_12), .vec c_10 (List.map eTMark l_13), .vec c_11 (List.map eTSpan l_14), .vec c_12 (List.map eLLTAnchor l_15)] 35, .box [.int .i64 z_1] 3]) →
  ALp Try.prog 0 B15_2 ⟨94, [(1, .ptr 0 0 0), (3, .ptr 1 0 0), (4, .fn (.func 38) [] [.ptr 1 0 0]), (32, .vec c_2 (List.map eLTLig l_5)), (33, .int .i64 (l_5.length : Int)), (34, .int .i64 i_1003)], []⟩ [.box [.int .i64 a_0, .vec c_0 (List.map eTSpan l_1), .bool b_2, .int .i64 a_3, .vec c_1 (List.map eLI64 l_4), .vec c_2 (List.map eLTLig l_5), .vec c_3 (List.map eTCtx l_6), .vec c_4 (List.map eTValue l_7), .vec c_5 (List.map eLTTwo l_8), .vec c_6 (List.map eTClass l_9), .vec c_7 (List.map eTClass l_10), .vec c_8 (List.map eLTTwo l_11), .vec c_9 (List.map eTArr2_TAnchor l_12), .vec c_10 (List.map eTMark l_13), .vec c_11 (List.map eTSpan l_14), .vec c_12 (List.map eLLTAnchor l_15)] 35, .box [.int .i64 i_1004] 3] R := by
 intro n
 induction n with
 | zero =>
  intro i_1003 i_1004 o h _
  have h0 : none = some o := h
  cases h0
 | succ n ih =>
  intro i_1003 i_1004 o h hp
  rw [gsub_Things_L4] at h
  refine ALp.round ?_
  generalize hQ : RoundQ _ _ _ _ = QQ
  simp only [B15_2, A15, go_sem, seval]
  by_cases h_1005 : i_1003 < (l_5.length : Int)
  ·
   rw [if_pos h_1005] at h
   have e_1006 := eq_true h_1005
   obtain ⟨x_1007, h_1008, h⟩ := bindS h
   have e_1009 : (List.map eLTLig l_5)[(i_1003).toNat]? = some [.vec false (List.map eTLig x_1007)] := atI_map eLTLig h_1008
   have e_1010 := eq_true (atI_some h_1008).1
   have e_1011 := eq_true (atI_lt h_1008)
   obtain ⟨_, h_1012, h⟩ := bindS h
   simp only [e_1006, e_1009, e_1010, e_1011, go_sem, seval]
   refine ACalls.useA (gsub_Things_1_w N _ _ h_1012) [1] (v' := .tup []) (H' := [.box [.int .i64 a_0, .vec c_0 (List.map eTSpan l_1), .bool b_2, .int .i64 a_3, .vec c_1 (List.map eLI64 l_4), .vec c_2 (List.map eLTLig l_5), .vec c_3 (List.map eTCtx l_6), .vec c_4 (List.map eTValue l_7), .vec c_5 (List.map eLTTwo l_8), .vec c_6 (List.map eTClass l_9), .vec c_7 (List.map eTClass l_10), .vec c_8 (List.map eLTTwo l_11), .vec c_9 (List.map eTArr2_TAnchor l_12), .vec c_10 (List.map eTMark l_13), .vec c_11 (List.map eTSpan l_14), .vec c_12 (List.map eLLTAnchor l_15)] 35, .box [.int .i64 (min (IntKind.i64.wrap (i_1004 + 1)) 20001)] 3]) (hH := by simp only [go_sem, seval, e_1006]) (ho := ⟨(by first | rfl | simp only [go_sem, seval, e_1006]), trivial⟩) ?_
   refine ck0 ?_
   simp only [e_1006, e_1009, e_1010, e_1011, go_sem, seval]
   obtain ⟨y_2014, h_2013, h⟩ := bindS h
   refine ALp.ref (Ref.std [1, 3, 4, 32, 33, 34, 40, 41, 42] [0, 1] (by decide) low0 rfl (by first | rfl | simp only [go_sem, seval, e_1006])) (Nat.zero_le _) (gsub_Things_L3_w N _ _ _ _ _ _ _ _ _ _ _ _ _ _ _ _ _ _ c_2 c_0 c_1 c_3 c_4 c_5 c_6 c_7 c_8 c_9 c_10 c_11 c_12 N _ _ y_2014 h_2013 ?_)
   refine LoopK_go rfl (Nat.zero_le _) ?_
   simp only [e_1006, e_1009, e_1010, e_1011, go_sem, seval]
   rw [← hQ]
   exact ⟨_, _, (Ref.std [1, 3, 4, 32, 33, 34] [0, 1] (by decide) low0 rfl (by first | rfl | simp only [go_sem, seval, e_1006])), (Nat.zero_le _), ih _ _ _ h hp⟩
  ·
   rw [if_neg h_1005] at h
   have e_1006 := eq_false h_1005
   simp only [e_1006, go_sem, seval]
   have g := Option.some.inj h
   subst g
   rw [← hQ]
   exact ⟨_, _, (Ref.std [1, 3, 4] [0, 1] (by decide) low0 rfl (by first | rfl | simp only [go_sem, seval, e_1006])), hp⟩
theorem gsub_Things_L9_w (N : Nat) (l_6 : List TCtx) (i_2005 : Int) (x_2009 : TCtx) (i_2014 : Int) (x_2018 : List TSet) (c_3 : Bool) {R : AExit → ATm → List AObj → Prop} : ∀ (n : Nat) (i_2022 : Int) (i_2023 : Int) (o : Int), gsub_Things_L9 N l_6 i_2005 x_2009 i_2014 x_2018 n i_2022 i_2023 = some o → (match o with | z_1 => R (.exit 10) ⟨94, [(3, .ptr 0 0 0), (4, .fn (.func 38) [] [.ptr 0 0 0]), (12, .ptr 1 0 0), (55, .vec c_3 (List.map eTCtx l_6)), (56, .int .i64 (l_6.length : Int)), (57, .int .i64 i_2005), (67, .vec true [[.vec false (List.map eTSet x_2009.Back)], [.vec false (List.map eTSet x_2009.In)], [.vec false (List.map eTSet x_2009.Ahead)]]), (68, .int .i64 3), (69, .int .i64 i_2014)], []⟩ [.box [.int .i64 z_1] 3, .box [.vec false (List.map eTSet x_2009.Back), .vec false (List.map eTSet x_2009.In), .vec false (List.map eTSet x_2009.Ahead), .vec false (List.map eTAct x_2009.Acts)] 45]) →
  ALp Try.prog 0 B15_6 ⟨94, [(3, .ptr 0 0 0), (4, .fn (.func 38) [] [.ptr 0 0 0]), (12, .ptr 1 0 0), (55, .vec c_3 (List.map eTCtx l_6)), (56, .int .i64 (l_6.length : Int)), (57, .int .i64 i_2005), (67, .vec true [[.vec false (List.map eTSet x_2009.Back)], [.vec false (List.map eTSet x_2009.In)], [.vec false (List.map eTSet x_2009.Ahead)]]), (68, .int .i64 3), (69, .int .i64 i_2014), (73, .vec false (List.map eTSet x_2018)), (74, .int .i64 (x_2018.length : Int)), (75, .int .i64 i_2022)], []⟩ [.box [.int .i64 i_2023] 3, .box [.vec false (List.map eTSet x_2009.Back), .vec false (List.map eTSet x_2009.In), .vec false (List.map eTSet x_2009.Ahead), .vec false (List.map eTAct x_2009.Acts)] 45] R := by
 intro n
 induction n with
 | zero =>
  intro i_2022 i_2023 o h _
  have h0 : none = some o := h
  cases h0
 | succ n ih =>
  intro i_2022 i_2023 o h hp
  rw [gsub_Things_L9] at h
  refine ALp.round ?_
  generalize hQ : RoundQ _ _ _ _ = QQ
  simp only [B15_6, B15_5, B15_4, A15, go_sem, seval]
  by_cases h_2024 : i_2022 < (x_2018.length : Int)
  ·
   rw [if_pos h_2024] at h
   have e_2025 := eq_true h_2024
   obtain ⟨x_2026, h_2027, h⟩ := bindS h
   have e_2028 : (List.map eTSet x_2018)[(i_2022).toNat]? = some [.vec false (List.map eTSpan x_2026.Spans), .bool x_2026.Not] := atI_map eTSet h_2027
   have e_2029 := eq_true (atI_some h_2027).1
   have e_2030 := eq_true (atI_lt h_2027)
   obtain ⟨_, h_2031, h⟩ := bindS h
   simp only [e_2025, e_2028, e_2029, e_2030, go_sem, seval]
   refine ACalls.useA (gsub_Things_1_w N _ _ h_2031) [0] (v' := .tup []) (H' := [.box [.int .i64 (min (IntKind.i64.wrap (i_2023 + (IntKind.i64.wrap ((x_2026.Spans.length : Int) + 1)))) 20001)] 3, .box [.vec false (List.map eTSet x_2009.Back), .vec false (List.map eTSet x_2009.In), .vec false (List.map eTSet x_2009.Ahead), .vec false (List.map eTAct x_2009.Acts)] 45, .box [.vec false (List.map eTSpan x_2026.Spans), .bool x_2026.Not] 85]) (hH := by simp only [go_sem, seval, e_2025]) (ho := ⟨(by first | rfl | simp only [go_sem, seval, e_2025]), trivial⟩) ?_
   refine ck0 ?_
   simp only [e_2025, e_2028, e_2029, e_2030, go_sem, seval]
   rw [← hQ]
   exact ⟨_, _, (Ref.std [3, 4, 12, 55, 56, 57, 67, 68, 69, 73, 74, 75] [0, 1] (by decide) low0 rfl rfl), (Nat.zero_le _), ih _ _ _ h hp⟩
  ·
   rw [if_neg h_2024] at h
   have e_2025 := eq_false h_2024
   simp only [e_2025, go_sem, seval]
   have g := Option.some.inj h
   subst g
   rw [← hQ]
   exact ⟨_, _, (Ref.std [3, 4, 12, 55, 56, 57, 67, 68, 69] [0, 1] (by decide) low0 rfl rfl), hp⟩
theorem gsub_Things_L10_w (N : Nat) (l_6 : List TCtx) (i_2005 : Int) (x_2009 : TCtx) (c_3 : Bool) {R : AExit → ATm → List AObj → Prop} : ∀ (n : Nat) (i_2014 : Int) (i_2015 : Int) (o : Int), gsub_Things_L10 N l_6 i_2005 x_2009 n i_2014 i_2015 = some o → (match o with | z_1 => R (.exit 8) ⟨94, [(3, .ptr 0 0 0), (4, .fn (.func 38) [] [.ptr 0 0 0]), (12, .ptr 1 0 0), (55, .vec c_3 (List.map eTCtx l_6)), (56, .int .i64 (l_6.length : Int)), (57, .int .i64 i_2005)], []⟩ [.box [.int .i64 z_1] 3, .box [.vec false (List.map eTSet x_2009.Back), .vec false (List.map eTSet x_2009.In), .vec false (List.map eTSet x_2009.Ahead), .vec false (List.map eTAct x_2009.Acts)] 45]) →
  ALp Try.prog 0 B15_5 ⟨94, [(3, .ptr 0 0 0), (4, .fn (.func 38) [] [.ptr 0 0 0]), (12, .ptr 1 0 0), (55, .vec c_3 (List.map eTCtx l_6)), (56, .int .i64 (l_6.length : Int)), (57, .int .i64 i_2005), (67, .vec true [[.vec false (List.map eTSet x_2009.Back)], [.vec false (List.map eTSet x_2009.In)], [.vec false (List.map eTSet x_2009.Ahead)]]), (68, .int .i64 3), (69, .int .i64 i_2014)], []⟩ [.box [.int .i64 i_2015] 3, .box [.vec false (List.map eTSet x_2009.Back), .vec false (List.map eTSet x_2009.In), .vec false (List.map eTSet x_2009.Ahead), .vec false (List.map eTAct x_2009.Acts)] 45] R := by
 intro n
 induction n with
 | zero =>
  intro i_2014 i_2015 o h _
  have h0 : none = some o := h
  cases h0
 | succ n ih =>
  intro i_2014 i_2015 o h hp
  rw [gsub_Things_L10] at h
  refine ALp.round ?_
  generalize hQ : RoundQ _ _ _ _ = QQ
  simp only [B15_5, B15_4, A15, go_sem, seval]
  by_cases h_2016 : i_2014 < 3
  ·
   rw [if_pos h_2016] at h
   have e_2017 := eq_true h_2016
   obtain ⟨x_2018, h_2019, h⟩ := bindS h
   have e_2020 : ([[.vec false (List.map eTSet x_2009.Back)], [.vec false (List.map eTSet x_2009.In)], [.vec false (List.map eTSet x_2009.Ahead)]] : List (List AV))[(i_2014).toNat]? = some [.vec false (List.map eTSet x_2018)] := atI_map eLTSet h_2019
   have e_2021 := eq_true (atI_some h_2019).1
   simp only [e_2017, e_2020, e_2021, go_sem, seval]
   obtain ⟨y_3023, h_3022, h⟩ := bindS h
   refine ALp.ref (Ref.std [3, 4, 12, 55, 56, 57, 67, 68, 69, 73, 74, 75] [0, 1] (by decide) low0 rfl rfl) (Nat.zero_le _) (gsub_Things_L9_w N _ _ _ _ _ c_3 N _ _ y_3023 h_3022 ?_)
   refine LoopK_go rfl (Nat.zero_le _) ?_
   simp only [e_2017, e_2020, e_2021, go_sem, seval]
   rw [← hQ]
   exact ⟨_, _, (Ref.std [3, 4, 12, 55, 56, 57, 67, 68, 69] [0, 1] (by decide) low0 rfl rfl), (Nat.zero_le _), ih _ _ _ h hp⟩
  ·
   rw [if_neg h_2016] at h
   have e_2017 := eq_false h_2016
   simp only [e_2017, go_sem, seval]
   have g := Option.some.inj h
   subst g
   rw [← hQ]
   exact ⟨_, _, (Ref.std [3, 4, 12, 55, 56, 57] [0, 1] (by decide) low0 rfl rfl), hp⟩
theorem gsub_Things_L11_w (N : Nat) (l_6 : List TCtx) (c_3 : Bool) {R : AExit → ATm → List AObj → Prop} : ∀ (n : Nat) (i_2005 : Int) (i_2006 : Int) (o : Int), gsub_Things_L11 N l_6 n i_2005 i_2006 = some o → (match o with | z_1 => R (.exit 6) ⟨94, [(3, .ptr 0 0 0)], []⟩ [.box [.int .i64 z_1] 3]) →
  ALp Try.prog 0 B15_4 ⟨94, [(3, .ptr 0 0 0), (4, .fn (.func 38) [] [.ptr 0 0 0]), (55, .vec c_3 (List.map eTCtx l_6)), (56, .int .i64 (l_6.length : Int)), (57, .int .i64 i_2005)], []⟩ [.box [.int .i64 i_2006] 3] R := by
 intro n
 induction n with
 | zero =>
  intro i_2005 i_2006 o h _
  have h0 : none = some o := h
  cases h0
 | succ n ih =>
  intro i_2005 i_2006 o h hp
  rw [gsub_Things_L11] at h
  refine ALp.round ?_
  generalize hQ : RoundQ _ _ _ _ = QQ
  simp only [B15_4, A15, go_sem, seval]
  by_cases h_2007 : i_2005 < (l_6.length : Int)
  ·
   rw [if_pos h_2007] at h
   have e_2008 := eq_true h_2007
   obtain ⟨x_2009, h_2010, h⟩ := bindS h
   have e_2011 : (List.map eTCtx l_6)[(i_2005).toNat]? = some [.vec false (List.map eTSet x_2009.Back), .vec false (List.map eTSet x_2009.In), .vec false (List.map eTSet x_2009.Ahead), .vec false (List.map eTAct x_2009.Acts)] := atI_map eTCtx h_2010
   have e_2012 := eq_true (atI_some h_2010).1
   have e_2013 := eq_true (atI_lt h_2010)
   simp only [e_2008, e_2011, e_2012, e_2013, go_sem, seval]
   obtain ⟨y_3015, h_3014, h⟩ := bindS h
   refine ALp.ref (Ref.std [3, 4, 12, 55, 56, 57, 67, 68, 69] [0, 1] (by decide) low0 rfl rfl) (Nat.zero_le _) (gsub_Things_L10_w N _ _ _ c_3 N _ _ y_3015 h_3014 ?_)
   refine LoopK_go rfl (Nat.zero_le _) ?_
   obtain ⟨_, h_3016, h⟩ := bindS h
   simp only [e_2008, e_2011, e_2012, e_2013, go_sem, seval]
   refine ACalls.useA (gsub_Things_1_w N _ _ h_3016) [0] (v' := .tup []) (H' := [.box [.int .i64 (min (IntKind.i64.wrap (y_3015 + (x_2009.Acts.length : Int))) 20001)] 3, .box [.vec false (List.map eTSet x_2009.Back), .vec false (List.map eTSet x_2009.In), .vec false (List.map eTSet x_2009.Ahead), .vec false (List.map eTAct x_2009.Acts)] 45]) ?_
   refine ck0 ?_
   simp only [e_2008, e_2011, e_2012, e_2013, go_sem, seval]
   rw [← hQ]
   exact ⟨_, _, (Ref.std [3, 4, 55, 56, 57] [0] (by decide) low0 rfl rfl), (Nat.zero_le _), ih _ _ _ h hp⟩
  ·
   rw [if_neg h_2007] at h
   have e_2008 := eq_false h_2007
   simp only [e_2008, go_sem, seval]
   have g := Option.some.inj h
   subst g
   rw [← hQ]
   exact ⟨_, _, (Ref.std [3] [0] (by decide) low0 rfl rfl), hp⟩
theorem gsub_Things_w (N : Nat) (a_0 : Int) (l_1 : List TSpan) (b_2 : Bool) (a_3 : Int) (l_4 : List (List Int)) (l_5 : List (List TLig)) (l_6 : List TCtx) (l_7 : List TValue) (l_8 : List (List TTwo)) (l_9 : List TClass) (l_10 : List TClass) (l_11 : List (List TTwo)) (l_12 : List TArr2_TAnchor) (l_13 : List TMark) (l_14 : List TSpan) (l_15 : List (List (List TAnchor))) (c_0 : Bool) (c_1 : Bool) (c_2 : Bool) (c_3 : Bool) (c_4 : Bool) (c_5 : Bool) (c_6 : Bool) (c_7 : Bool) (c_8 : Bool) (c_9 : Bool) (c_10 : Bool) (c_11 : Bool) (c_12 : Bool) (z_1 : Int) (h : gsub_Things N a_0 l_1 b_2 a_3 l_4 l_5 l_6 l_7 l_8 l_9 l_10 l_11 l_12 l_13 l_14 l_15 = some z_1) :
  ACalls Try.prog 15 [.agg [.int .i64 a_0, .vec c_0 (List.map eTSpan l_1), .bool b_2, .int .i64 a_3, .vec c_1 (List.map eLI64 l_4), .vec c_2 (List.map eLTLig l_5), .vec c_3 (List.map eTCtx l_6), .vec c_4 (List.map eTValue l_7), .vec c_5 (List.map eLTTwo l_8), .vec c_6 (List.map eTClass l_9), .vec c_7 (List.map eTClass l_10), .vec c_8 (List.map eLTTwo l_11), .vec c_9 (List.map eTArr2_TAnchor l_12), .vec c_10 (List.map eTMark l_13), .vec c_11 (List.map eTSpan l_14), .vec c_12 (List.map eLLTAnchor l_15)]] [] (fun e H => H = [] ∧ e = .ret (.int .i64 z_1)) := by
 unfold gsub_Things at h
 refine ACalls.goN Try.func15 n15 a15 Try.ntmps15 r15 (by simp) 0 rfl ?_
 generalize hQ : bodyA _ _ _ = QQ
 simp only [A15, go_sem, seval]
 obtain ⟨y_1002, h_1001, h⟩ := bindS h
 refine ALp.ref (Ref.std [1, 3, 4, 19, 20, 21] [0, 1] (by decide) low0 rfl rfl) (Nat.zero_le _) (gsub_Things_L1_w N _ _ _ _ _ _ _ _ _ _ _ _ _ _ _ _ c_1 c_0 c_2 c_3 c_4 c_5 c_6 c_7 c_8 c_9 c_10 c_11 c_12 N _ _ y_1002 h_1001 ?_)
 refine LoopK_go rfl (Nat.zero_le _) ?_
 simp only [go_sem, seval]
 obtain ⟨y_2004, h_2003, h⟩ := bindS h
 refine ALp.ref (Ref.std [1, 3, 4, 32, 33, 34] [0, 1] (by decide) low0 rfl rfl) (Nat.zero_le _) (gsub_Things_L4_w N _ _ _ _ _ _ _ _ _ _ _ _ _ _ _ _ c_2 c_0 c_1 c_3 c_4 c_5 c_6 c_7 c_8 c_9 c_10 c_11 c_12 N _ _ y_2004 h_2003 ?_)
 refine LoopK_go rfl (Nat.zero_le _) ?_
 simp only [go_sem, seval]
 obtain ⟨y_3006, h_3005, h⟩ := bindS h
 refine ALp.ref (Ref.std [3, 4, 55, 56, 57] [1] (by decide) low0 rfl rfl) (Nat.zero_le _) (gsub_Things_L11_w N _ c_3 N _ _ y_3006 h_3005 ?_)
 refine LoopK_go rfl (Nat.zero_le _) ?_
 simp only [go_sem, seval]
 have g_0 := Option.some.inj h
 subst g_0
 rw [← hQ]
 exact ⟨rfl, _, rfl, _, _, (RefV.out rfl), rfl, rfl⟩
theorem law12_GsubMay_w (N : Nat) (l_0 : List Int) (a_1 : Int) (a_2 : Int) (c_0 : Bool) (z_1 : Bool) (h : law12_GsubMay N l_0 a_1 a_2 = some z_1) :
  ACalls Try.prog 5 [.vec c_0 (List.map eU8 l_0), .int .i64 a_1, .int .i64 a_2] [] (fun e H => H = [] ∧ e = .ret (.bool z_1)) := by
 unfold law12_GsubMay at h
 refine ACalls.goN Try.func5 n5 a5 Try.ntmps5 r5 (by simp) 0 rfl ?_
 generalize hQ : bodyA _ _ _ = QQ
 simp only [A5, go_sem, seval]
 refine ACalls.use0 alive12 rfl rfl ?_
 refine ck0 ?_
 simp only [go_sem, seval]
 by_cases h_1 : 800 < (l_0.length : Int)
 ·
  rw [if_pos h_1] at h
  have e_2 := eq_true h_1
  simp only [e_2, go_sem, seval]
  have g_0 := Option.some.inj h
  subst g_0
  rw [← hQ]
  exact ⟨rfl, _, rfl, _, _, (RefV.out rfl), rfl, rfl⟩
 ·
  rw [if_neg h_1] at h
  have e_2 := eq_false h_1
  simp only [e_2, go_sem, seval]
  by_cases h_3 : 800 < a_1
  ·
   rw [if_pos h_3] at h
   have e_4 := eq_true h_3
   simp only [e_2, e_4, go_sem, seval]
   have g_0 := Option.some.inj h
   subst g_0
   rw [← hQ]
   exact ⟨rfl, _, rfl, _, _, (RefV.out rfl), rfl, rfl⟩
  ·
   rw [if_neg h_3] at h
   have e_4 := eq_false h_3
   simp only [e_2, e_4, go_sem, seval]
   by_cases h_5 : a_1 < (-800)
   ·
    rw [if_pos h_5] at h
    have e_6 := eq_true h_5
    simp only [e_2, e_4, e_6, go_sem, seval]
    have g_0 := Option.some.inj h
    subst g_0
    rw [← hQ]
    exact ⟨rfl, _, rfl, _, _, (RefV.out rfl), rfl, rfl⟩
   ·
    rw [if_neg h_5] at h
    have e_6 := eq_false h_5
    obtain ⟨⟨y_7, y_8, y_9, y_10, y_11, y_12, y_13, y_14, y_15, y_16, y_17, y_18, y_19, y_20, y_21, y_22, y_23⟩, h_24, h⟩ := bindS h
    try dsimp only at h
    simp only [e_2, e_4, e_6, go_sem, seval]
    refine ACalls.use0 (gsub_Read_w N _ _ _ c_0 _ _ _ _ _ _ _ _ _ _ _ _ _ _ _ _ _ h_24) rfl rfl ?_
    refine ck0 ?_
    simp only [e_2, e_4, e_6, go_sem, seval]
    by_cases h_25 : y_23 = true
    ·
     rw [if_pos h_25] at h
     have e_26 : y_23 = true := h_25
     obtain ⟨y_27, h_28, h⟩ := bindS h
     simp only [e_2, e_4, e_6, e_26, go_sem, seval]
     refine ACalls.use0 (ref12_Count_w N _ false _ h_28) rfl rfl ?_
     refine ck0 ?_
     simp only [e_2, e_4, e_6, e_26, go_sem, seval]
     by_cases h_29 : y_7 = 1
     ·
      rw [if_pos h_29] at h
      have e_30 := eq_true h_29
      simp only [e_2, e_4, e_6, e_26, e_30, go_sem, seval]
      by_cases h_31 : y_9 = true
      ·
       rw [if_pos h_31] at h
       have e_32 : y_9 = true := h_31
       simp only [e_2, e_4, e_6, e_26, e_30, e_32, go_sem, seval]
       by_cases h_33 : 0 < (y_11.length : Int)
       ·
        rw [if_pos h_33] at h
        have e_34 := eq_true h_33
        simp only [e_2, e_4, e_6, e_26, e_30, e_32, e_34, go_sem, seval]
        have g_0 := Option.some.inj h
        subst g_0
        rw [← hQ]
        exact ⟨rfl, _, rfl, _, _, (RefV.out rfl), rfl, rfl⟩
       ·
        rw [if_neg h_33] at h
        have e_34 := eq_false h_33
        simp only [e_2, e_4, e_6, e_26, e_30, e_32, e_34, go_sem, seval]
        obtain ⟨o_1036, h_1035, h⟩ := bindS h
        refine ALp.ref (Ref.std [7, 10] [0] (by decide) low0 rfl (by first | rfl | simp only [go_sem, seval, e_2, e_4, e_6, e_26, e_30, e_32, e_34])) (Nat.zero_le _) (law12_GsubMay_L3_w N _ _ _ _ _ _ _ _ _ _ _ _ _ _ _ _ N _ o_1036 h_1035 ?_)
        rcases o_1036 with _ | _
        ·
         try dsimp only at h
         refine LoopK_go rfl (Nat.zero_le _) ?_
         obtain ⟨y_1037, h_1038, h⟩ := bindS h
         simp only [e_2, e_4, e_6, e_26, e_30, e_32, e_34, go_sem, seval]
         refine ACalls.use0 (gsub_Things_w N _ _ _ _ _ _ _ _ _ _ _ _ _ _ _ _ false false false false false false false false false false false false false _ h_1038) rfl rfl ?_
         refine ck0 ?_
         simp only [e_2, e_4, e_6, e_26, e_30, e_32, e_34, go_sem, seval]
         by_cases h_1039 : 1 ≤ y_1037
         ·
          rw [if_pos h_1039] at h
          have e_1040 := eq_true h_1039
          simp only [e_2, e_4, e_6, e_26, e_30, e_32, e_34, e_1040, go_sem, seval]
          by_cases h_1041 : 0 ≤ y_10
          ·
           rw [if_pos h_1041] at h
           have e_1042 := eq_true h_1041
           simp only [e_2, e_4, e_6, e_26, e_30, e_32, e_34, e_1040, e_1042, go_sem, seval]
           have g_0 := Option.some.inj h
           subst g_0
           rw [← hQ]
           exact ⟨rfl, _, rfl, _, _, (RefV.out (by first | rfl | simp only [go_sem, seval, e_2, e_4, e_6, e_26, e_30, e_32, e_34, e_1040, e_1042])), rfl, rfl⟩
          ·
           rw [if_neg h_1041] at h
           have e_1042 := eq_false h_1041
           simp only [e_2, e_4, e_6, e_26, e_30, e_32, e_34, e_1040, e_1042, go_sem, seval]
           have g_0 := Option.some.inj h
           subst g_0
           rw [← hQ]
           exact ⟨rfl, _, rfl, _, _, (RefV.out rfl), rfl, rfl⟩
         ·
          rw [if_neg h_1039] at h
          have e_1040 := eq_false h_1039
          simp only [e_2, e_4, e_6, e_26, e_30, e_32, e_34, e_1040, go_sem, seval]
          have g_0 := Option.some.inj h
          subst g_0
          rw [← hQ]
          exact ⟨rfl, _, rfl, _, _, (RefV.out rfl), rfl, rfl⟩
        ·
         try dsimp only at h
         refine LoopK_ret ?_
         have g_0 := Option.some.inj h
         subst g_0
         rw [← hQ]
         exact ⟨rfl, _, rfl, _, _, (RefV.out rfl), rfl, rfl⟩
      ·
       rw [if_neg h_31] at h
       have e_32 : y_9 = false := bfalse h_31
       simp only [e_2, e_4, e_6, e_26, e_30, e_32, go_sem, seval]
       by_cases h_1043 : (y_11.length : Int) = y_27
       ·
        rw [if_pos h_1043] at h
        have e_1044 := eq_true h_1043
        simp only [e_2, e_4, e_6, e_26, e_30, e_32, e_1044, go_sem, seval]
        obtain ⟨o_2046, h_2045, h⟩ := bindS h
        refine ALp.ref (Ref.std [7, 10] [0] (by decide) low0 rfl (by first | rfl | simp only [go_sem, seval, e_2, e_4, e_6, e_26, e_30, e_32, e_1044])) (Nat.zero_le _) (law12_GsubMay_L3_w N _ _ _ _ _ _ _ _ _ _ _ _ _ _ _ _ N _ o_2046 h_2045 ?_)
        rcases o_2046 with _ | _
        ·
         try dsimp only at h
         refine LoopK_go rfl (Nat.zero_le _) ?_
         obtain ⟨y_2047, h_2048, h⟩ := bindS h
         simp only [e_2, e_4, e_6, e_26, e_30, e_32, e_1044, go_sem, seval]
         refine ACalls.use0 (gsub_Things_w N _ _ _ _ _ _ _ _ _ _ _ _ _ _ _ _ false false false false false false false false false false false false false _ h_2048) rfl rfl ?_
         refine ck0 ?_
         simp only [e_2, e_4, e_6, e_26, e_30, e_32, e_1044, go_sem, seval]
         by_cases h_2049 : 1 ≤ y_2047
         ·
          rw [if_pos h_2049] at h
          have e_2050 := eq_true h_2049
          simp only [e_2, e_4, e_6, e_26, e_30, e_32, e_1044, e_2050, go_sem, seval]
          by_cases h_2051 : 0 ≤ y_10
          ·
           rw [if_pos h_2051] at h
           have e_2052 := eq_true h_2051
           simp only [e_2, e_4, e_6, e_26, e_30, e_32, e_1044, e_2050, e_2052, go_sem, seval]
           have g_0 := Option.some.inj h
           subst g_0
           rw [← hQ]
           exact ⟨rfl, _, rfl, _, _, (RefV.out (by first | rfl | simp only [go_sem, seval, e_2, e_4, e_6, e_26, e_30, e_32, e_1044, e_2050, e_2052])), rfl, rfl⟩
          ·
           rw [if_neg h_2051] at h
           have e_2052 := eq_false h_2051
           simp only [e_2, e_4, e_6, e_26, e_30, e_32, e_1044, e_2050, e_2052, go_sem, seval]
           have g_0 := Option.some.inj h
           subst g_0
           rw [← hQ]
           exact ⟨rfl, _, rfl, _, _, (RefV.out rfl), rfl, rfl⟩
         ·
          rw [if_neg h_2049] at h
          have e_2050 := eq_false h_2049
          simp only [e_2, e_4, e_6, e_26, e_30, e_32, e_1044, e_2050, go_sem, seval]
          have g_0 := Option.some.inj h
          subst g_0
          rw [← hQ]
          exact ⟨rfl, _, rfl, _, _, (RefV.out rfl), rfl, rfl⟩
        ·
         try dsimp only at h
         refine LoopK_ret ?_
         have g_0 := Option.some.inj h
         subst g_0
         rw [← hQ]
         exact ⟨rfl, _, rfl, _, _, (RefV.out rfl), rfl, rfl⟩
       ·
        rw [if_neg h_1043] at h
        have e_1044 := eq_false h_1043
        simp only [e_2, e_4, e_6, e_26, e_30, e_32, e_1044, go_sem, seval]
        have g_0 := Option.some.inj h
        subst g_0
        rw [← hQ]
        exact ⟨rfl, _, rfl, _, _, (RefV.out rfl), rfl, rfl⟩
     ·
      rw [if_neg h_29] at h
      have e_30 := eq_false h_29
      simp only [e_2, e_4, e_6, e_26, e_30, go_sem, seval]
      by_cases h_2053 : y_7 = 2
      ·
       rw [if_pos h_2053] at h
       have e_2054 := eq_true h_2053
       simp only [e_2, e_4, e_6, e_26, e_30, e_2054, go_sem, seval]
       by_cases h_2055 : (y_11.length : Int) = y_27
       ·
        rw [if_pos h_2055] at h
        have e_2056 := eq_true h_2055
        simp only [e_2, e_4, e_6, e_26, e_30, e_2054, e_2056, go_sem, seval]
        obtain ⟨o_3058, h_3057, h⟩ := bindS h
        refine ALp.ref (Ref.std [7, 10] [0] (by decide) low0 rfl (by first | rfl | simp only [go_sem, seval, e_2, e_4, e_6, e_26, e_30, e_2054, e_2056])) (Nat.zero_le _) (law12_GsubMay_L3_w N _ _ _ _ _ _ _ _ _ _ _ _ _ _ _ _ N _ o_3058 h_3057 ?_)
        rcases o_3058 with _ | _
        ·
         try dsimp only at h
         refine LoopK_go rfl (Nat.zero_le _) ?_
         obtain ⟨y_3059, h_3060, h⟩ := bindS h
         simp only [e_2, e_4, e_6, e_26, e_30, e_2054, e_2056, go_sem, seval]
         refine ACalls.use0 (gsub_Things_w N _ _ _ _ _ _ _ _ _ _ _ _ _ _ _ _ false false false false false false false false false false false false false _ h_3060) rfl rfl ?_
         refine ck0 ?_
         simp only [e_2, e_4, e_6, e_26, e_30, e_2054, e_2056, go_sem, seval]
         by_cases h_3061 : 1 ≤ y_3059
         ·
          rw [if_pos h_3061] at h
          have e_3062 := eq_true h_3061
          simp only [e_2, e_4, e_6, e_26, e_30, e_2054, e_2056, e_3062, go_sem, seval]
          by_cases h_3063 : 0 ≤ y_10
          ·
           rw [if_pos h_3063] at h
           have e_3064 := eq_true h_3063
           simp only [e_2, e_4, e_6, e_26, e_30, e_2054, e_2056, e_3062, e_3064, go_sem, seval]
           have g_0 := Option.some.inj h
           subst g_0
           rw [← hQ]
           exact ⟨rfl, _, rfl, _, _, (RefV.out (by first | rfl | simp only [go_sem, seval, e_2, e_4, e_6, e_26, e_30, e_2054, e_2056, e_3062, e_3064])), rfl, rfl⟩
          ·
           rw [if_neg h_3063] at h
           have e_3064 := eq_false h_3063
           simp only [e_2, e_4, e_6, e_26, e_30, e_2054, e_2056, e_3062, e_3064, go_sem, seval]
           have g_0 := Option.some.inj h
           subst g_0
           rw [← hQ]
           exact ⟨rfl, _, rfl, _, _, (RefV.out rfl), rfl, rfl⟩
         ·
          rw [if_neg h_3061] at h
          have e_3062 := eq_false h_3061
          simp only [e_2, e_4, e_6, e_26, e_30, e_2054, e_2056, e_3062, go_sem, seval]
          have g_0 := Option.some.inj h
          subst g_0
          rw [← hQ]
          exact ⟨rfl, _, rfl, _, _, (RefV.out rfl), rfl, rfl⟩
        ·
         try dsimp only at h
         refine LoopK_ret ?_
         have g_0 := Option.some.inj h
         subst g_0
         rw [← hQ]
         exact ⟨rfl, _, rfl, _, _, (RefV.out rfl), rfl, rfl⟩
       ·
        rw [if_neg h_2055] at h
        have e_2056 := eq_false h_2055
        simp only [e_2, e_4, e_6, e_26, e_30, e_2054, e_2056, go_sem, seval]
        have g_0 := Option.some.inj h
        subst g_0
        rw [← hQ]
        exact ⟨rfl, _, rfl, _, _, (RefV.out rfl), rfl, rfl⟩
      ·
       rw [if_neg h_2053] at h
       have e_2054 := eq_false h_2053
       simp only [e_2, e_4, e_6, e_26, e_30, e_2054, go_sem, seval]
       by_cases h_3065 : y_7 = 3
       ·
        rw [if_pos h_3065] at h
        have e_3066 := eq_true h_3065
        simp only [e_2, e_4, e_6, e_26, e_30, e_2054, e_3066, go_sem, seval]
        by_cases h_3067 : (y_11.length : Int) = y_27
        ·
         rw [if_pos h_3067] at h
         have e_3068 := eq_true h_3067
         simp only [e_2, e_4, e_6, e_26, e_30, e_2054, e_3066, e_3068, go_sem, seval]
         obtain ⟨o_4070, h_4069, h⟩ := bindS h
         refine ALp.ref (Ref.std [7, 10] [0] (by decide) low0 rfl (by first | rfl | simp only [go_sem, seval, e_2, e_4, e_6, e_26, e_30, e_2054, e_3066, e_3068])) (Nat.zero_le _) (law12_GsubMay_L3_w N _ _ _ _ _ _ _ _ _ _ _ _ _ _ _ _ N _ o_4070 h_4069 ?_)
         rcases o_4070 with _ | _
         ·
          try dsimp only at h
          refine LoopK_go rfl (Nat.zero_le _) ?_
          obtain ⟨y_4071, h_4072, h⟩ := bindS h
          simp only [e_2, e_4, e_6, e_26, e_30, e_2054, e_3066, e_3068, go_sem, seval]
          refine ACalls.use0 (gsub_Things_w N _ _ _ _ _ _ _ _ _ _ _ _ _ _ _ _ false false false false false false false false false false false false false _ h_4072) rfl rfl ?_
          refine ck0 ?_
          simp only [e_2, e_4, e_6, e_26, e_30, e_2054, e_3066, e_3068, go_sem, seval]
          by_cases h_4073 : 1 ≤ y_4071
          ·
           rw [if_pos h_4073] at h
           have e_4074 := eq_true h_4073
           simp only [e_2, e_4, e_6, e_26, e_30, e_2054, e_3066, e_3068, e_4074, go_sem, seval]
           by_cases h_4075 : 0 ≤ y_10
           ·
            rw [if_pos h_4075] at h
            have e_4076 := eq_true h_4075
            simp only [e_2, e_4, e_6, e_26, e_30, e_2054, e_3066, e_3068, e_4074, e_4076, go_sem, seval]
            have g_0 := Option.some.inj h
            subst g_0
            rw [← hQ]
            exact ⟨rfl, _, rfl, _, _, (RefV.out (by first | rfl | simp only [go_sem, seval, e_2, e_4, e_6, e_26, e_30, e_2054, e_3066, e_3068, e_4074, e_4076])), rfl, rfl⟩
           ·
            rw [if_neg h_4075] at h
            have e_4076 := eq_false h_4075
            simp only [e_2, e_4, e_6, e_26, e_30, e_2054, e_3066, e_3068, e_4074, e_4076, go_sem, seval]
            have g_0 := Option.some.inj h
            subst g_0
            rw [← hQ]
            exact ⟨rfl, _, rfl, _, _, (RefV.out rfl), rfl, rfl⟩
          ·
           rw [if_neg h_4073] at h
           have e_4074 := eq_false h_4073
           simp only [e_2, e_4, e_6, e_26, e_30, e_2054, e_3066, e_3068, e_4074, go_sem, seval]
           have g_0 := Option.some.inj h
           subst g_0
           rw [← hQ]
           exact ⟨rfl, _, rfl, _, _, (RefV.out rfl), rfl, rfl⟩
         ·
          try dsimp only at h
          refine LoopK_ret ?_
          have g_0 := Option.some.inj h
          subst g_0
          rw [← hQ]
          exact ⟨rfl, _, rfl, _, _, (RefV.out rfl), rfl, rfl⟩
        ·
         rw [if_neg h_3067] at h
         have e_3068 := eq_false h_3067
         simp only [e_2, e_4, e_6, e_26, e_30, e_2054, e_3066, e_3068, go_sem, seval]
         have g_0 := Option.some.inj h
         subst g_0
         rw [← hQ]
         exact ⟨rfl, _, rfl, _, _, (RefV.out rfl), rfl, rfl⟩
       ·
        rw [if_neg h_3065] at h
        have e_3066 := eq_false h_3065
        simp only [e_2, e_4, e_6, e_26, e_30, e_2054, e_3066, go_sem, seval]
        by_cases h_4077 : y_7 = 8
        ·
         rw [if_pos h_4077] at h
         have e_4078 := eq_true h_4077
         simp only [e_2, e_4, e_6, e_26, e_30, e_2054, e_3066, e_4078, go_sem, seval]
         by_cases h_4079 : (y_11.length : Int) = y_27
         ·
          rw [if_pos h_4079] at h
          have e_4080 := eq_true h_4079
          simp only [e_2, e_4, e_6, e_26, e_30, e_2054, e_3066, e_4078, e_4080, go_sem, seval]
          obtain ⟨o_5082, h_5081, h⟩ := bindS h
          refine ALp.ref (Ref.std [7, 10] [0] (by decide) low0 rfl (by first | rfl | simp only [go_sem, seval, e_2, e_4, e_6, e_26, e_30, e_2054, e_3066, e_4078, e_4080])) (Nat.zero_le _) (law12_GsubMay_L3_w N _ _ _ _ _ _ _ _ _ _ _ _ _ _ _ _ N _ o_5082 h_5081 ?_)
          rcases o_5082 with _ | _
          ·
           try dsimp only at h
           refine LoopK_go rfl (Nat.zero_le _) ?_
           obtain ⟨y_5083, h_5084, h⟩ := bindS h
           simp only [e_2, e_4, e_6, e_26, e_30, e_2054, e_3066, e_4078, e_4080, go_sem, seval]
           refine ACalls.use0 (gsub_Things_w N _ _ _ _ _ _ _ _ _ _ _ _ _ _ _ _ false false false false false false false false false false false false false _ h_5084) rfl rfl ?_
           refine ck0 ?_
           simp only [e_2, e_4, e_6, e_26, e_30, e_2054, e_3066, e_4078, e_4080, go_sem, seval]
           by_cases h_5085 : 1 ≤ y_5083
           ·
            rw [if_pos h_5085] at h
            have e_5086 := eq_true h_5085
            simp only [e_2, e_4, e_6, e_26, e_30, e_2054, e_3066, e_4078, e_4080, e_5086, go_sem, seval]
            by_cases h_5087 : 0 ≤ y_10
            ·
             rw [if_pos h_5087] at h
             have e_5088 := eq_true h_5087
             simp only [e_2, e_4, e_6, e_26, e_30, e_2054, e_3066, e_4078, e_4080, e_5086, e_5088, go_sem, seval]
             have g_0 := Option.some.inj h
             subst g_0
             rw [← hQ]
             exact ⟨rfl, _, rfl, _, _, (RefV.out (by first | rfl | simp only [go_sem, seval, e_2, e_4, e_6, e_26, e_30, e_2054, e_3066, e_4078, e_4080, e_5086, e_5088])), rfl, rfl⟩
            ·
             rw [if_neg h_5087] at h
             have e_5088 := eq_false h_5087
             simp only [e_2, e_4, e_6, e_26, e_30, e_2054, e_3066, e_4078, e_4080, e_5086, e_5088, go_sem, seval]
             have g_0 := Option.some.inj h
             subst g_0
             rw [← hQ]
             exact ⟨rfl, _, rfl, _, _, (RefV.out rfl), rfl, rfl⟩
           ·
            rw [if_neg h_5085] at h
            have e_5086 := eq_false h_5085
            simp only [e_2, e_4, e_6, e_26, e_30, e_2054, e_3066, e_4078, e_4080, e_5086, go_sem, seval]
            have g_0 := Option.some.inj h
            subst g_0
            rw [← hQ]
            exact ⟨rfl, _, rfl, _, _, (RefV.out rfl), rfl, rfl⟩
          ·
           try dsimp only at h
           refine LoopK_ret ?_
           have g_0 := Option.some.inj h
           subst g_0
           rw [← hQ]
           exact ⟨rfl, _, rfl, _, _, (RefV.out rfl), rfl, rfl⟩
         ·
          rw [if_neg h_4079] at h
          have e_4080 := eq_false h_4079
          simp only [e_2, e_4, e_6, e_26, e_30, e_2054, e_3066, e_4078, e_4080, go_sem, seval]
          have g_0 := Option.some.inj h
          subst g_0
          rw [← hQ]
          exact ⟨rfl, _, rfl, _, _, (RefV.out rfl), rfl, rfl⟩
        ·
         rw [if_neg h_4077] at h
         have e_4078 := eq_false h_4077
         simp only [e_2, e_4, e_6, e_26, e_30, e_2054, e_3066, e_4078, go_sem, seval]
         by_cases h_5089 : y_7 = 4
         ·
          rw [if_pos h_5089] at h
          have e_5090 := eq_true h_5089
          simp only [e_2, e_4, e_6, e_26, e_30, e_2054, e_3066, e_4078, e_5090, go_sem, seval]
          by_cases h_5091 : (y_12.length : Int) = y_27
          ·
           rw [if_pos h_5091] at h
           have e_5092 := eq_true h_5091
           simp only [e_2, e_4, e_6, e_26, e_30, e_2054, e_3066, e_4078, e_5090, e_5092, go_sem, seval]
           obtain ⟨o_6094, h_6093, h⟩ := bindS h
           refine ALp.ref (Ref.std [7, 10] [0] (by decide) low0 rfl (by first | rfl | simp only [go_sem, seval, e_2, e_4, e_6, e_26, e_30, e_2054, e_3066, e_4078, e_5090, e_5092])) (Nat.zero_le _) (law12_GsubMay_L3_w N _ _ _ _ _ _ _ _ _ _ _ _ _ _ _ _ N _ o_6094 h_6093 ?_)
           rcases o_6094 with _ | _
           ·
            try dsimp only at h
            refine LoopK_go rfl (Nat.zero_le _) ?_
            obtain ⟨y_6095, h_6096, h⟩ := bindS h
            simp only [e_2, e_4, e_6, e_26, e_30, e_2054, e_3066, e_4078, e_5090, e_5092, go_sem, seval]
            refine ACalls.use0 (gsub_Things_w N _ _ _ _ _ _ _ _ _ _ _ _ _ _ _ _ false false false false false false false false false false false false false _ h_6096) rfl rfl ?_
            refine ck0 ?_
            simp only [e_2, e_4, e_6, e_26, e_30, e_2054, e_3066, e_4078, e_5090, e_5092, go_sem, seval]
            by_cases h_6097 : 1 ≤ y_6095
            ·
             rw [if_pos h_6097] at h
             have e_6098 := eq_true h_6097
             simp only [e_2, e_4, e_6, e_26, e_30, e_2054, e_3066, e_4078, e_5090, e_5092, e_6098, go_sem, seval]
             by_cases h_6099 : 0 ≤ y_10
             ·
              rw [if_pos h_6099] at h
              have e_6100 := eq_true h_6099
              simp only [e_2, e_4, e_6, e_26, e_30, e_2054, e_3066, e_4078, e_5090, e_5092, e_6098, e_6100, go_sem, seval]
              have g_0 := Option.some.inj h
              subst g_0
              rw [← hQ]
              exact ⟨rfl, _, rfl, _, _, (RefV.out (by first | rfl | simp only [go_sem, seval, e_2, e_4, e_6, e_26, e_30, e_2054, e_3066, e_4078, e_5090, e_5092, e_6098, e_6100])), rfl, rfl⟩
             ·
              rw [if_neg h_6099] at h
              have e_6100 := eq_false h_6099
              simp only [e_2, e_4, e_6, e_26, e_30, e_2054, e_3066, e_4078, e_5090, e_5092, e_6098, e_6100, go_sem, seval]
              have g_0 := Option.some.inj h
              subst g_0
              rw [← hQ]
              exact ⟨rfl, _, rfl, _, _, (RefV.out rfl), rfl, rfl⟩
            ·
             rw [if_neg h_6097] at h
             have e_6098 := eq_false h_6097
             simp only [e_2, e_4, e_6, e_26, e_30, e_2054, e_3066, e_4078, e_5090, e_5092, e_6098, go_sem, seval]
             have g_0 := Option.some.inj h
             subst g_0
             rw [← hQ]
             exact ⟨rfl, _, rfl, _, _, (RefV.out rfl), rfl, rfl⟩
           ·
            try dsimp only at h
            refine LoopK_ret ?_
            have g_0 := Option.some.inj h
            subst g_0
            rw [← hQ]
            exact ⟨rfl, _, rfl, _, _, (RefV.out rfl), rfl, rfl⟩
          ·
           rw [if_neg h_5091] at h
           have e_5092 := eq_false h_5091
           simp only [e_2, e_4, e_6, e_26, e_30, e_2054, e_3066, e_4078, e_5090, e_5092, go_sem, seval]
           have g_0 := Option.some.inj h
           subst g_0
           rw [← hQ]
           exact ⟨rfl, _, rfl, _, _, (RefV.out rfl), rfl, rfl⟩
         ·
          rw [if_neg h_5089] at h
          have e_5090 := eq_false h_5089
          simp only [e_2, e_4, e_6, e_26, e_30, e_2054, e_3066, e_4078, e_5090, go_sem, seval]
          by_cases h_6101 : y_7 = 5
          ·
           rw [if_pos h_6101] at h
           have e_6102 := eq_true h_6101
           simp only [e_2, e_4, e_6, e_26, e_30, e_2054, e_3066, e_4078, e_5090, e_6102, go_sem, seval]
           obtain ⟨o_7104, h_7103, h⟩ := bindS h
           refine ALp.ref (Ref.std [7, 10] [0] (by decide) low0 rfl (by first | rfl | simp only [go_sem, seval, e_2, e_4, e_6, e_26, e_30, e_2054, e_3066, e_4078, e_5090, e_6102])) (Nat.zero_le _) (law12_GsubMay_L3_w N _ _ _ _ _ _ _ _ _ _ _ _ _ _ _ _ N _ o_7104 h_7103 ?_)
           rcases o_7104 with _ | _
           ·
            try dsimp only at h
            refine LoopK_go rfl (Nat.zero_le _) ?_
            obtain ⟨y_7105, h_7106, h⟩ := bindS h
            simp only [e_2, e_4, e_6, e_26, e_30, e_2054, e_3066, e_4078, e_5090, e_6102, go_sem, seval]
            refine ACalls.use0 (gsub_Things_w N _ _ _ _ _ _ _ _ _ _ _ _ _ _ _ _ false false false false false false false false false false false false false _ h_7106) rfl rfl ?_
            refine ck0 ?_
            simp only [e_2, e_4, e_6, e_26, e_30, e_2054, e_3066, e_4078, e_5090, e_6102, go_sem, seval]
            by_cases h_7107 : 1 ≤ y_7105
            ·
             rw [if_pos h_7107] at h
             have e_7108 := eq_true h_7107
             simp only [e_2, e_4, e_6, e_26, e_30, e_2054, e_3066, e_4078, e_5090, e_6102, e_7108, go_sem, seval]
             by_cases h_7109 : 0 ≤ y_10
             ·
              rw [if_pos h_7109] at h
              have e_7110 := eq_true h_7109
              simp only [e_2, e_4, e_6, e_26, e_30, e_2054, e_3066, e_4078, e_5090, e_6102, e_7108, e_7110, go_sem, seval]
              have g_0 := Option.some.inj h
              subst g_0
              rw [← hQ]
              exact ⟨rfl, _, rfl, _, _, (RefV.out (by first | rfl | simp only [go_sem, seval, e_2, e_4, e_6, e_26, e_30, e_2054, e_3066, e_4078, e_5090, e_6102, e_7108, e_7110])), rfl, rfl⟩
             ·
              rw [if_neg h_7109] at h
              have e_7110 := eq_false h_7109
              simp only [e_2, e_4, e_6, e_26, e_30, e_2054, e_3066, e_4078, e_5090, e_6102, e_7108, e_7110, go_sem, seval]
              have g_0 := Option.some.inj h
              subst g_0
              rw [← hQ]
              exact ⟨rfl, _, rfl, _, _, (RefV.out rfl), rfl, rfl⟩
            ·
             rw [if_neg h_7107] at h
             have e_7108 := eq_false h_7107
             simp only [e_2, e_4, e_6, e_26, e_30, e_2054, e_3066, e_4078, e_5090, e_6102, e_7108, go_sem, seval]
             have g_0 := Option.some.inj h
             subst g_0
             rw [← hQ]
             exact ⟨rfl, _, rfl, _, _, (RefV.out rfl), rfl, rfl⟩
           ·
            try dsimp only at h
            refine LoopK_ret ?_
            have g_0 := Option.some.inj h
            subst g_0
            rw [← hQ]
            exact ⟨rfl, _, rfl, _, _, (RefV.out rfl), rfl, rfl⟩
          ·
           rw [if_neg h_6101] at h
           have e_6102 := eq_false h_6101
           simp only [e_2, e_4, e_6, e_26, e_30, e_2054, e_3066, e_4078, e_5090, e_6102, go_sem, seval]
           by_cases h_7111 : y_7 = 6
           ·
            rw [if_pos h_7111] at h
            have e_7112 := eq_true h_7111
            simp only [e_2, e_4, e_6, e_26, e_30, e_2054, e_3066, e_4078, e_5090, e_6102, e_7112, go_sem, seval]
            obtain ⟨o_8114, h_8113, h⟩ := bindS h
            refine ALp.ref (Ref.std [7, 10] [0] (by decide) low0 rfl (by first | rfl | simp only [go_sem, seval, e_2, e_4, e_6, e_26, e_30, e_2054, e_3066, e_4078, e_5090, e_6102, e_7112])) (Nat.zero_le _) (law12_GsubMay_L3_w N _ _ _ _ _ _ _ _ _ _ _ _ _ _ _ _ N _ o_8114 h_8113 ?_)
            rcases o_8114 with _ | _
            ·
             try dsimp only at h
             refine LoopK_go rfl (Nat.zero_le _) ?_
             obtain ⟨y_8115, h_8116, h⟩ := bindS h
             simp only [e_2, e_4, e_6, e_26, e_30, e_2054, e_3066, e_4078, e_5090, e_6102, e_7112, go_sem, seval]
             refine ACalls.use0 (gsub_Things_w N _ _ _ _ _ _ _ _ _ _ _ _ _ _ _ _ false false false false false false false false false false false false false _ h_8116) rfl rfl ?_
             refine ck0 ?_
             simp only [e_2, e_4, e_6, e_26, e_30, e_2054, e_3066, e_4078, e_5090, e_6102, e_7112, go_sem, seval]
             by_cases h_8117 : 1 ≤ y_8115
             ·
              rw [if_pos h_8117] at h
              have e_8118 := eq_true h_8117
              simp only [e_2, e_4, e_6, e_26, e_30, e_2054, e_3066, e_4078, e_5090, e_6102, e_7112, e_8118, go_sem, seval]
              by_cases h_8119 : 0 ≤ y_10
              ·
               rw [if_pos h_8119] at h
               have e_8120 := eq_true h_8119
               simp only [e_2, e_4, e_6, e_26, e_30, e_2054, e_3066, e_4078, e_5090, e_6102, e_7112, e_8118, e_8120, go_sem, seval]
               have g_0 := Option.some.inj h
               subst g_0
               rw [← hQ]
               exact ⟨rfl, _, rfl, _, _, (RefV.out (by first | rfl | simp only [go_sem, seval, e_2, e_4, e_6, e_26, e_30, e_2054, e_3066, e_4078, e_5090, e_6102, e_7112, e_8118, e_8120])), rfl, rfl⟩
              ·
               rw [if_neg h_8119] at h
               have e_8120 := eq_false h_8119
               simp only [e_2, e_4, e_6, e_26, e_30, e_2054, e_3066, e_4078, e_5090, e_6102, e_7112, e_8118, e_8120, go_sem, seval]
               have g_0 := Option.some.inj h
               subst g_0
               rw [← hQ]
               exact ⟨rfl, _, rfl, _, _, (RefV.out rfl), rfl, rfl⟩
             ·
              rw [if_neg h_8117] at h
              have e_8118 := eq_false h_8117
              simp only [e_2, e_4, e_6, e_26, e_30, e_2054, e_3066, e_4078, e_5090, e_6102, e_7112, e_8118, go_sem, seval]
              have g_0 := Option.some.inj h
              subst g_0
              rw [← hQ]
              exact ⟨rfl, _, rfl, _, _, (RefV.out rfl), rfl, rfl⟩
            ·
             try dsimp only at h
             refine LoopK_ret ?_
             have g_0 := Option.some.inj h
             subst g_0
             rw [← hQ]
             exact ⟨rfl, _, rfl, _, _, (RefV.out rfl), rfl, rfl⟩
           ·
            rw [if_neg h_7111] at h
            have e_7112 := eq_false h_7111
            simp only [e_2, e_4, e_6, e_26, e_30, e_2054, e_3066, e_4078, e_5090, e_6102, e_7112, go_sem, seval]
            have g_0 := Option.some.inj h
            subst g_0
            rw [← hQ]
            exact ⟨rfl, _, rfl, _, _, (RefV.out rfl), rfl, rfl⟩
    ·
     rw [if_neg h_25] at h
     have e_26 : y_23 = false := bfalse h_25
     simp only [e_2, e_4, e_6, e_26, go_sem, seval]
     by_cases h_8121 : y_7 = 0
     ·
      rw [if_pos h_8121] at h
      have e_8122 := eq_true h_8121
      simp only [e_2, e_4, e_6, e_26, e_8122, go_sem, seval]
      have g_0 := Option.some.inj h
      subst g_0
      rw [← hQ]
      exact ⟨rfl, _, rfl, _, _, (RefV.out (by first | rfl | simp only [go_sem, seval, e_2, e_4, e_6, e_26, e_8122])), rfl, rfl⟩
     ·
      rw [if_neg h_8121] at h
      have e_8122 := eq_false h_8121
      simp only [e_2, e_4, e_6, e_26, e_8122, go_sem, seval]
      have g_0 := Option.some.inj h
      subst g_0
      rw [← hQ]
      exact ⟨rfl, _, rfl, _, _, (RefV.out rfl), rfl, rfl⟩
end Go.Proofs.Ytfacmhngbaboiaa.AI
