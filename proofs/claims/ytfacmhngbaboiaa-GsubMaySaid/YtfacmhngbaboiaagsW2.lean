/- Walks, further ones. -/
import Derived.Test.YtfacmhngbaboiaagsW1
set_option linter.unusedVariables false
set_option linter.unusedSimpArgs false
set_option maxRecDepth 100000
set_option maxHeartbeats 1000000
namespace Go.Proofs.Ytfacmhngbaboiaa.AI
open Go.Proofs (Try.prog)
attribute [local go_sem] subs_eU8 subs_eI64 subs_eTSpan subs_eTArr3_I64 subs_eTSet subs_eTAct subs_eTCtx subs_eTClass subs_eLI64 subs_eTLig subs_eLTLig subs_eTValue subs_eTTwo subs_eLTTwo subs_eTArr2_TAnchor subs_eTMark subs_eTAnchor subs_eLTAnchor subs_eLLTAnchor subs_eLTSet subs_eB mk_eTSpan mk_eTArr3_I64 mk_eTSet mk_eTAct mk_eTCtx mk_eTClass mk_eTLig mk_eTValue mk_eTTwo mk_eTArr2_TAnchor mk_eTMark mk_eTAnchor
theorem context_reader_rule_v2_w (N : Nat) (l_0 : List Int) (a_1 : Int) (l_2 : List TSpan) (b_3 : Bool) (l_4 : List TClass) (l_5 : List TClass) (l_6 : List TClass) (b_7 : Bool) (c_0 : Bool) (c_1 : Bool) (c_2 : Bool) (c_3 : Bool) (o : ((List TSet) × (List TSet) × (List TSet) × (List TAct) × Int) ⊕ Unit) (h : context_reader_rule_v2 N l_0 a_1 l_2 b_3 l_4 l_5 l_6 b_7 = some o) :
  ACalls Try.prog 129 [.ptr 0 0 0, .agg [.vec false (List.map eTSpan l_2), .bool b_3], .agg [.fn (.func 114) [] [.ptr 1 0 0], .fn (.func 114) [] [.ptr 2 0 0], .fn (.func 114) [] [.ptr 3 0 0], .bool b_7]] [.box [.vec c_0 (List.map eU8 l_0), .int .i64 a_1] 152, .box [.vec c_1 (List.map eTClass l_4)] 30, .box [.vec c_2 (List.map eTClass l_5)] 30, .box [.vec c_3 (List.map eTClass l_6)] 30] (fun e H => match o with | .inl (z_1, z_2, z_3, z_4, z_5) => H = [.box [.vec c_0 (List.map eU8 l_0), .int .i64 z_5] 152, .box [.vec c_1 (List.map eTClass l_4)] 30, .box [.vec c_2 (List.map eTClass l_5)] 30, .box [.vec c_3 (List.map eTClass l_6)] 30] ∧ e = .ret (.agg [.vec false (List.map eTSet z_1), .vec false (List.map eTSet z_2), .vec false (List.map eTSet z_3), .vec false (List.map eTAct z_4)]) | .inr _ => H = [.dead, .dead, .dead, .dead] ∧ e = .pan (.iface 148 (.agg []))) := by
 unfold context_reader_rule_v2 at h
 refine ACalls.goN Try.func129 n129 a129 Try.ntmps129 r129 (by simp) 4 rfl ?_
 generalize hQ : bodyA _ _ _ = QQ
 simp only [A129, go_sem, seval]
 by_cases h_1 : b_7 = true
 ·
  rw [if_pos h_1] at h
  have e_2 : b_7 = true := h_1
  obtain ⟨o_5, h_4, h⟩ := bindS h
  simp only [e_2, go_sem, seval]
  rcases o_5 with y_3 | _
  ·
   try dsimp only at h
   refine ACalls.useA (context_reader_count_w N _ _ _ _ c_0 _ h_4) [0] (v' := .int .i64 y_3) (H' := [.box [.vec c_0 (List.map eU8 l_0), .int .i64 (IntKind.i64.wrap (a_1 + 2))] 152, .box [.vec c_1 (List.map eTClass l_4)] 30, .box [.vec c_2 (List.map eTClass l_5)] 30, .box [.vec c_3 (List.map eTClass l_6)] 30, .box [.vec false (List.map eTSpan l_2), .bool b_3] 85, .box [.fn (.func 114) [] [.ptr 1 0 0], .fn (.func 114) [] [.ptr 2 0 0], .fn (.func 114) [] [.ptr 3 0 0], .bool b_7] 161, .box [nn, nn, nn, nn] 45, .box [nn, nn, nn, nn] 45]) (hH := by simp only [go_sem, seval, e_2]) (ho := ⟨(by first | rfl | simp only [go_sem, seval, e_2]), trivial⟩) ?_
   obtain ⟨o_9, h_8, h⟩ := bindS h
   simp only [e_2, go_sem, seval]
   rcases o_9 with y_7 | _
   ·
    try dsimp only at h
    refine ACalls.useA (context_reader_row_w N _ _ _ c_0 _ h_8) [0] (v' := .vec false (List.map eI64 y_7)) (H' := [.box [.vec c_0 (List.map eU8 l_0), .int .i64 (IntKind.i64.wrap ((IntKind.i64.wrap (a_1 + 2)) + (IntKind.i64.wrap (y_3 * 2))))] 152, .box [.vec c_1 (List.map eTClass l_4)] 30, .box [.vec c_2 (List.map eTClass l_5)] 30, .box [.vec c_3 (List.map eTClass l_6)] 30, .box [.vec false (List.map eTSpan l_2), .bool b_3] 85, .box [.fn (.func 114) [] [.ptr 1 0 0], .fn (.func 114) [] [.ptr 2 0 0], .fn (.func 114) [] [.ptr 3 0 0], .bool b_7] 161, .box [nn, nn, nn, nn] 45, .box [nn, nn, nn, nn] 45]) (hH := by simp only [go_sem, seval, e_2]) (ho := ⟨(by first | rfl | simp only [go_sem, seval, e_2]), trivial⟩) ?_
    obtain ⟨y_11, h_12, h⟩ := bindS h
    simp only [e_2, go_sem, seval]
    refine ACalls.useA (context_of_v2_w N _ _ false c_1 _ h_12) [1] (v' := .vec false (List.map eTSet y_11)) (H' := [.box [.vec c_0 (List.map eU8 l_0), .int .i64 (IntKind.i64.wrap ((IntKind.i64.wrap (a_1 + 2)) + (IntKind.i64.wrap (y_3 * 2))))] 152, .box [.vec c_1 (List.map eTClass l_4)] 30, .box [.vec c_2 (List.map eTClass l_5)] 30, .box [.vec c_3 (List.map eTClass l_6)] 30, .box [.vec false (List.map eTSpan l_2), .bool b_3] 85, .box [.fn (.func 114) [] [.ptr 1 0 0], .fn (.func 114) [] [.ptr 2 0 0], .fn (.func 114) [] [.ptr 3 0 0], .bool b_7] 161, .box [nn, nn, nn, nn] 45, .box [nn, nn, nn, nn] 45]) (hH := by simp only [go_sem, seval, e_2]) (ho := ⟨(by first | rfl | simp only [go_sem, seval, e_2]), trivial⟩) ?_
    obtain ⟨o_15, h_14, h⟩ := bindS h
    simp only [e_2, go_sem, seval]
    rcases o_15 with y_13 | _
    ·
     try dsimp only at h
     refine ACalls.useA (context_reader_count_w N _ _ _ _ c_0 _ h_14) [0] (v' := .int .i64 y_13) (H' := [.box [.vec c_0 (List.map eU8 l_0), .int .i64 (IntKind.i64.wrap ((IntKind.i64.wrap ((IntKind.i64.wrap (a_1 + 2)) + (IntKind.i64.wrap (y_3 * 2)))) + 2))] 152, .box [.vec c_1 (List.map eTClass l_4)] 30, .box [.vec c_2 (List.map eTClass l_5)] 30, .box [.vec c_3 (List.map eTClass l_6)] 30, .box [.vec false (List.map eTSpan l_2), .bool b_3] 85, .box [.fn (.func 114) [] [.ptr 1 0 0], .fn (.func 114) [] [.ptr 2 0 0], .fn (.func 114) [] [.ptr 3 0 0], .bool b_7] 161, .box [nn, nn, nn, nn] 45, .box [.vec false (List.map eTSet y_11), nn, nn, nn] 45]) (hH := by simp only [go_sem, seval, e_2]) (ho := ⟨(by first | rfl | simp only [go_sem, seval, e_2]), trivial⟩) ?_
     refine CallK_go (by simp) ?_
     obtain ⟨o_19, h_18, h⟩ := bindS h
     simp only [e_2, go_sem, seval]
     rcases o_19 with y_17 | _
     ·
      try dsimp only at h
      refine ACalls.useA (context_reader_row_w N _ _ _ c_0 _ h_18) [0] (v' := .vec false (List.map eI64 y_17)) (H' := [.box [.vec c_0 (List.map eU8 l_0), .int .i64 (IntKind.i64.wrap ((IntKind.i64.wrap ((IntKind.i64.wrap ((IntKind.i64.wrap (a_1 + 2)) + (IntKind.i64.wrap (y_3 * 2)))) + 2)) + (IntKind.i64.wrap ((IntKind.i64.wrap (y_13 - 1)) * 2))))] 152, .box [.vec c_1 (List.map eTClass l_4)] 30, .box [.vec c_2 (List.map eTClass l_5)] 30, .box [.vec c_3 (List.map eTClass l_6)] 30, .box [.vec false (List.map eTSpan l_2), .bool b_3] 85, .box [.fn (.func 114) [] [.ptr 1 0 0], .fn (.func 114) [] [.ptr 2 0 0], .fn (.func 114) [] [.ptr 3 0 0], .bool b_7] 161, .box [nn, nn, nn, nn] 45, .box [.vec false (List.map eTSet y_11), nn, nn, nn] 45]) (hH := by simp only [go_sem, seval, e_2]) (ho := ⟨(by first | rfl | simp only [go_sem, seval, e_2]), trivial⟩) ?_
      obtain ⟨y_21, h_22, h⟩ := bindS h
      simp only [e_2, go_sem, seval]
      refine ACalls.useA (context_of_v2_w N _ _ false c_2 _ h_22) [2] (v' := .vec false (List.map eTSet y_21)) (H' := [.box [.vec c_0 (List.map eU8 l_0), .int .i64 (IntKind.i64.wrap ((IntKind.i64.wrap ((IntKind.i64.wrap ((IntKind.i64.wrap (a_1 + 2)) + (IntKind.i64.wrap (y_3 * 2)))) + 2)) + (IntKind.i64.wrap ((IntKind.i64.wrap (y_13 - 1)) * 2))))] 152, .box [.vec c_1 (List.map eTClass l_4)] 30, .box [.vec c_2 (List.map eTClass l_5)] 30, .box [.vec c_3 (List.map eTClass l_6)] 30, .box [.vec false (List.map eTSpan l_2), .bool b_3] 85, .box [.fn (.func 114) [] [.ptr 1 0 0], .fn (.func 114) [] [.ptr 2 0 0], .fn (.func 114) [] [.ptr 3 0 0], .bool b_7] 161, .box [nn, nn, nn, nn] 45, .box [.vec false (List.map eTSet y_11), nn, nn, nn] 45]) (hH := by simp only [go_sem, seval, e_2]) (ho := ⟨(by first | rfl | simp only [go_sem, seval, e_2]), trivial⟩) ?_
      have e_23 : ((List.map eTSet y_21)).all (fun el => el.length == 2) = true := all_len _ eTSet 2 (fun _ => rfl)
      simp only [e_2, e_23, go_sem, seval]
      by_cases h_24 : y_21 = []
      ·
       rw [if_pos h_24] at h
       have e_25 : y_21 = [] := h_24
       obtain ⟨o_28, h_27, h⟩ := bindS h
       simp only [e_2, e_23, e_25, go_sem, seval]
       rcases o_28 with y_26 | _
       ·
        try dsimp only at h
        refine ACalls.useA (context_reader_count_w N _ _ _ _ c_0 _ h_27) [0] (v' := .int .i64 y_26) (H' := [.box [.vec c_0 (List.map eU8 l_0), .int .i64 (IntKind.i64.wrap ((IntKind.i64.wrap ((IntKind.i64.wrap ((IntKind.i64.wrap ((IntKind.i64.wrap (a_1 + 2)) + (IntKind.i64.wrap (y_3 * 2)))) + 2)) + (IntKind.i64.wrap ((IntKind.i64.wrap (y_13 - 1)) * 2)))) + 2))] 152, .box [.vec c_1 (List.map eTClass l_4)] 30, .box [.vec c_2 (List.map eTClass l_5)] 30, .box [.vec c_3 (List.map eTClass l_6)] 30, .box [.vec false (List.map eTSpan l_2), .bool b_3] 85, .box [.fn (.func 114) [] [.ptr 1 0 0], .fn (.func 114) [] [.ptr 2 0 0], .fn (.func 114) [] [.ptr 3 0 0], .bool b_7] 161, .box [nn, nn, nn, nn] 45, .box [.vec false (List.map eTSet y_11), .vec true [[.vec false (List.map eTSpan l_2), .bool b_3]], nn, nn] 45]) (hH := by simp only [go_sem, seval, e_2, e_25]) (ho := ⟨(by first | rfl | simp only [go_sem, seval, e_2, e_25]), trivial⟩) ?_
        obtain ⟨o_32, h_31, h⟩ := bindS h
        simp only [e_2, e_23, e_25, go_sem, seval]
        rcases o_32 with y_30 | _
        ·
         try dsimp only at h
         refine ACalls.useA (context_reader_row_w N _ _ _ c_0 _ h_31) [0] (v' := .vec false (List.map eI64 y_30)) (H' := [.box [.vec c_0 (List.map eU8 l_0), .int .i64 (IntKind.i64.wrap ((IntKind.i64.wrap ((IntKind.i64.wrap ((IntKind.i64.wrap ((IntKind.i64.wrap ((IntKind.i64.wrap (a_1 + 2)) + (IntKind.i64.wrap (y_3 * 2)))) + 2)) + (IntKind.i64.wrap ((IntKind.i64.wrap (y_13 - 1)) * 2)))) + 2)) + (IntKind.i64.wrap (y_26 * 2))))] 152, .box [.vec c_1 (List.map eTClass l_4)] 30, .box [.vec c_2 (List.map eTClass l_5)] 30, .box [.vec c_3 (List.map eTClass l_6)] 30, .box [.vec false (List.map eTSpan l_2), .bool b_3] 85, .box [.fn (.func 114) [] [.ptr 1 0 0], .fn (.func 114) [] [.ptr 2 0 0], .fn (.func 114) [] [.ptr 3 0 0], .bool b_7] 161, .box [nn, nn, nn, nn] 45, .box [.vec false (List.map eTSet y_11), .vec true [[.vec false (List.map eTSpan l_2), .bool b_3]], nn, nn] 45]) (hH := by simp only [go_sem, seval, e_2, e_25]) (ho := ⟨(by first | rfl | simp only [go_sem, seval, e_2, e_25]), trivial⟩) ?_
         obtain ⟨y_34, h_35, h⟩ := bindS h
         simp only [e_2, e_23, e_25, go_sem, seval]
         refine ACalls.useA (context_of_v2_w N _ _ false c_3 _ h_35) [3] (v' := .vec false (List.map eTSet y_34)) (H' := [.box [.vec c_0 (List.map eU8 l_0), .int .i64 (IntKind.i64.wrap ((IntKind.i64.wrap ((IntKind.i64.wrap ((IntKind.i64.wrap ((IntKind.i64.wrap ((IntKind.i64.wrap (a_1 + 2)) + (IntKind.i64.wrap (y_3 * 2)))) + 2)) + (IntKind.i64.wrap ((IntKind.i64.wrap (y_13 - 1)) * 2)))) + 2)) + (IntKind.i64.wrap (y_26 * 2))))] 152, .box [.vec c_1 (List.map eTClass l_4)] 30, .box [.vec c_2 (List.map eTClass l_5)] 30, .box [.vec c_3 (List.map eTClass l_6)] 30, .box [.vec false (List.map eTSpan l_2), .bool b_3] 85, .box [.fn (.func 114) [] [.ptr 1 0 0], .fn (.func 114) [] [.ptr 2 0 0], .fn (.func 114) [] [.ptr 3 0 0], .bool b_7] 161, .box [nn, nn, nn, nn] 45, .box [.vec false (List.map eTSet y_11), .vec true [[.vec false (List.map eTSpan l_2), .bool b_3]], nn, nn] 45]) (hH := by simp only [go_sem, seval, e_2, e_25]) (ho := ⟨(by first | rfl | simp only [go_sem, seval, e_2, e_25]), trivial⟩) ?_
         obtain ⟨o_38, h_37, h⟩ := bindS h
         simp only [e_2, e_23, e_25, go_sem, seval]
         rcases o_38 with y_36 | _
         ·
          try dsimp only at h
          refine ACalls.useA (context_reader_count_w N _ _ _ _ c_0 _ h_37) [0] (v' := .int .i64 y_36) (H' := [.box [.vec c_0 (List.map eU8 l_0), .int .i64 (IntKind.i64.wrap ((IntKind.i64.wrap ((IntKind.i64.wrap ((IntKind.i64.wrap ((IntKind.i64.wrap ((IntKind.i64.wrap ((IntKind.i64.wrap (a_1 + 2)) + (IntKind.i64.wrap (y_3 * 2)))) + 2)) + (IntKind.i64.wrap ((IntKind.i64.wrap (y_13 - 1)) * 2)))) + 2)) + (IntKind.i64.wrap (y_26 * 2)))) + 2))] 152, .box [.vec c_1 (List.map eTClass l_4)] 30, .box [.vec c_2 (List.map eTClass l_5)] 30, .box [.vec c_3 (List.map eTClass l_6)] 30, .box [.vec false (List.map eTSpan l_2), .bool b_3] 85, .box [.fn (.func 114) [] [.ptr 1 0 0], .fn (.func 114) [] [.ptr 2 0 0], .fn (.func 114) [] [.ptr 3 0 0], .bool b_7] 161, .box [nn, nn, nn, nn] 45, .box [.vec false (List.map eTSet y_11), .vec true [[.vec false (List.map eTSpan l_2), .bool b_3]], .vec false (List.map eTSet y_34), nn] 45]) (hH := by simp only [go_sem, seval, e_2, e_25]) (ho := ⟨(by first | rfl | simp only [go_sem, seval, e_2, e_25]), trivial⟩) ?_
          refine CallK_go (by simp) ?_
          obtain ⟨o_43, h_42, h⟩ := bindS h
          simp only [e_2, e_23, e_25, go_sem, seval]
          rcases o_43 with ⟨y_40, y_41⟩ | _
          ·
           try dsimp only at h
           refine ACalls.useA (context_reader_acts_w N _ _ _ _ c_0 _ h_42) [0] (v' := .vec false (List.map eTAct y_40)) (H' := [.box [.vec c_0 (List.map eU8 l_0), .int .i64 y_41] 152, .box [.vec c_1 (List.map eTClass l_4)] 30, .box [.vec c_2 (List.map eTClass l_5)] 30, .box [.vec c_3 (List.map eTClass l_6)] 30, .box [.vec false (List.map eTSpan l_2), .bool b_3] 85, .box [.fn (.func 114) [] [.ptr 1 0 0], .fn (.func 114) [] [.ptr 2 0 0], .fn (.func 114) [] [.ptr 3 0 0], .bool b_7] 161, .box [nn, nn, nn, nn] 45, .box [.vec false (List.map eTSet y_11), .vec true [[.vec false (List.map eTSpan l_2), .bool b_3]], .vec false (List.map eTSet y_34), nn] 45]) (hH := by simp only [go_sem, seval, e_2, e_25]) (ho := ⟨(by first | rfl | simp only [go_sem, seval, e_2, e_25]), trivial⟩) ?_
           refine CallK_go (by simp) ?_
           simp only [e_2, e_23, e_25, go_sem, seval]
           have g_0 := Option.some.inj h
           subst g_0
           rw [← hQ]
           exact ⟨rfl, _, rfl, _, _, (RefV.trans (RefV.std (v' := .agg [.vec false (List.map eTSet y_11), .vec true [[.vec false (List.map eTSpan l_2), .bool b_3]], .vec false (List.map eTSet y_34), .vec false (List.map eTAct y_40)]) [0, 1, 2, 3] (by decide) (by decide) rfl (by first | rfl | simp only [go_sem, seval, e_2, e_25])) (RefV.weak (Wks.cons (Wk.agg (Wks.cons (Wk.refl _) (Wks.cons Wk.vec (Wks.cons (Wk.refl _) (Wks.cons (Wk.refl _) (Wks.nil)))))) Wks.nil) (WkH.refl _))), rfl, rfl⟩
          ·
           try dsimp only at h
           refine ACalls.panA (context_reader_acts_w N _ _ _ _ c_0 _ h_42) [0] (v' := .iface 148 (.agg [])) (H' := [.dead, .box [.vec c_1 (List.map eTClass l_4)] 30, .box [.vec c_2 (List.map eTClass l_5)] 30, .box [.vec c_3 (List.map eTClass l_6)] 30, .box [.vec false (List.map eTSpan l_2), .bool b_3] 85, .box [.fn (.func 114) [] [.ptr 1 0 0], .fn (.func 114) [] [.ptr 2 0 0], .fn (.func 114) [] [.ptr 3 0 0], .bool b_7] 161, .box [nn, nn, nn, nn] 45, .box [.vec false (List.map eTSet y_11), .vec true [[.vec false (List.map eTSpan l_2), .bool b_3]], .vec false (List.map eTSet y_34), nn] 45]) (hH := by simp only [go_sem, seval, e_2, e_25]) (ho := ⟨(by first | rfl | simp only [go_sem, seval, e_2, e_25]), trivial⟩) ?_
           try simp only [CallK_pan, dCallK_pan, panK_ap]
           have g_0 := Option.some.inj h
           subst g_0
           rw [← hQ]
           exact ⟨rfl, _, _, RefV.dead rfl, rfl, rfl⟩
         ·
          try dsimp only at h
          refine ACalls.panA (context_reader_count_w N _ _ _ _ c_0 _ h_37) [0] (v' := .iface 148 (.agg [])) (H' := [.dead, .box [.vec c_1 (List.map eTClass l_4)] 30, .box [.vec c_2 (List.map eTClass l_5)] 30, .box [.vec c_3 (List.map eTClass l_6)] 30, .box [.vec false (List.map eTSpan l_2), .bool b_3] 85, .box [.fn (.func 114) [] [.ptr 1 0 0], .fn (.func 114) [] [.ptr 2 0 0], .fn (.func 114) [] [.ptr 3 0 0], .bool b_7] 161, .box [nn, nn, nn, nn] 45, .box [.vec false (List.map eTSet y_11), .vec true [[.vec false (List.map eTSpan l_2), .bool b_3]], .vec false (List.map eTSet y_34), nn] 45]) (hH := by simp only [go_sem, seval, e_2, e_25]) (ho := ⟨(by first | rfl | simp only [go_sem, seval, e_2, e_25]), trivial⟩) ?_
          try simp only [CallK_pan, dCallK_pan, panK_ap]
          have g_0 := Option.some.inj h
          subst g_0
          rw [← hQ]
          exact ⟨rfl, _, _, RefV.dead rfl, rfl, rfl⟩
        ·
         try dsimp only at h
         refine ACalls.panA (context_reader_row_w N _ _ _ c_0 _ h_31) [0] (v' := .iface 148 (.agg [])) (H' := [.dead, .box [.vec c_1 (List.map eTClass l_4)] 30, .box [.vec c_2 (List.map eTClass l_5)] 30, .box [.vec c_3 (List.map eTClass l_6)] 30, .box [.vec false (List.map eTSpan l_2), .bool b_3] 85, .box [.fn (.func 114) [] [.ptr 1 0 0], .fn (.func 114) [] [.ptr 2 0 0], .fn (.func 114) [] [.ptr 3 0 0], .bool b_7] 161, .box [nn, nn, nn, nn] 45, .box [.vec false (List.map eTSet y_11), .vec true [[.vec false (List.map eTSpan l_2), .bool b_3]], nn, nn] 45]) (hH := by simp only [go_sem, seval, e_2, e_25]) (ho := ⟨(by first | rfl | simp only [go_sem, seval, e_2, e_25]), trivial⟩) ?_
         try simp only [CallK_pan, dCallK_pan, panK_ap]
         have g_0 := Option.some.inj h
         subst g_0
         rw [← hQ]
         exact ⟨rfl, _, _, RefV.dead rfl, rfl, rfl⟩
       ·
        try dsimp only at h
        refine ACalls.panA (context_reader_count_w N _ _ _ _ c_0 _ h_27) [0] (v' := .iface 148 (.agg [])) (H' := [.dead, .box [.vec c_1 (List.map eTClass l_4)] 30, .box [.vec c_2 (List.map eTClass l_5)] 30, .box [.vec c_3 (List.map eTClass l_6)] 30, .box [.vec false (List.map eTSpan l_2), .bool b_3] 85, .box [.fn (.func 114) [] [.ptr 1 0 0], .fn (.func 114) [] [.ptr 2 0 0], .fn (.func 114) [] [.ptr 3 0 0], .bool b_7] 161, .box [nn, nn, nn, nn] 45, .box [.vec false (List.map eTSet y_11), .vec true [[.vec false (List.map eTSpan l_2), .bool b_3]], nn, nn] 45]) (hH := by simp only [go_sem, seval, e_2, e_25]) (ho := ⟨(by first | rfl | simp only [go_sem, seval, e_2, e_25]), trivial⟩) ?_
        try simp only [CallK_pan, dCallK_pan, panK_ap]
        have g_0 := Option.some.inj h
        subst g_0
        rw [← hQ]
        exact ⟨rfl, _, _, RefV.dead rfl, rfl, rfl⟩
      ·
       rw [if_neg h_24] at h
       have e_25 : (y_21.length = 0) = False ∧ (0 < y_21.length) = True := ⟨eq_false (fun q => h_24 (List.eq_nil_of_length_eq_zero q)), eq_true (Nat.pos_of_ne_zero (fun q => h_24 (List.eq_nil_of_length_eq_zero q)))⟩
       have e_45 : ((List.map eTSet y_21)).all (fun el => el.length == 2) = true := all_len _ eTSet 2 (fun _ => rfl)
       have e_46 : [[.vec false (List.map eTSpan l_2), .bool b_3]] ++ (List.map eTSet y_21) = (List.map eTSet ([TSet.mk l_2 b_3] ++ y_21)) := app_map ([TSet.mk l_2 b_3]) y_21 eTSet
       obtain ⟨h_47, h⟩ := guardS h
       have e_48 := eq_true h_47
       obtain ⟨o_51, h_50, h⟩ := bindS h
       simp only [e_2, e_23, e_25, e_45, e_46, e_48, go_sem, seval]
       rcases o_51 with y_49 | _
       ·
        try dsimp only at h
        refine ACalls.useA (context_reader_count_w N _ _ _ _ c_0 _ h_50) [0] (v' := .int .i64 y_49) (H' := [.box [.vec c_0 (List.map eU8 l_0), .int .i64 (IntKind.i64.wrap ((IntKind.i64.wrap ((IntKind.i64.wrap ((IntKind.i64.wrap ((IntKind.i64.wrap (a_1 + 2)) + (IntKind.i64.wrap (y_3 * 2)))) + 2)) + (IntKind.i64.wrap ((IntKind.i64.wrap (y_13 - 1)) * 2)))) + 2))] 152, .box [.vec c_1 (List.map eTClass l_4)] 30, .box [.vec c_2 (List.map eTClass l_5)] 30, .box [.vec c_3 (List.map eTClass l_6)] 30, .box [.vec false (List.map eTSpan l_2), .bool b_3] 85, .box [.fn (.func 114) [] [.ptr 1 0 0], .fn (.func 114) [] [.ptr 2 0 0], .fn (.func 114) [] [.ptr 3 0 0], .bool b_7] 161, .box [nn, nn, nn, nn] 45, .box [.vec false (List.map eTSet y_11), .row 8 0 (1 + y_21.length), nn, nn] 45, .mem 2 (List.map eTSet ([TSet.mk l_2 b_3] ++ y_21)) 85]) (hH := by simp only [go_sem, seval, e_2, e_25]) (ho := ⟨(by first | rfl | simp only [go_sem, seval, e_2, e_25]), trivial⟩) ?_
        obtain ⟨o_55, h_54, h⟩ := bindS h
        simp only [e_2, e_23, e_25, e_45, e_46, e_48, go_sem, seval]
        rcases o_55 with y_53 | _
        ·
         try dsimp only at h
         refine ACalls.useA (context_reader_row_w N _ _ _ c_0 _ h_54) [0] (v' := .vec false (List.map eI64 y_53)) (H' := [.box [.vec c_0 (List.map eU8 l_0), .int .i64 (IntKind.i64.wrap ((IntKind.i64.wrap ((IntKind.i64.wrap ((IntKind.i64.wrap ((IntKind.i64.wrap ((IntKind.i64.wrap (a_1 + 2)) + (IntKind.i64.wrap (y_3 * 2)))) + 2)) + (IntKind.i64.wrap ((IntKind.i64.wrap (y_13 - 1)) * 2)))) + 2)) + (IntKind.i64.wrap (y_49 * 2))))] 152, .box [.vec c_1 (List.map eTClass l_4)] 30, .box [.vec c_2 (List.map eTClass l_5)] 30, .box [.vec c_3 (List.map eTClass l_6)] 30, .box [.vec false (List.map eTSpan l_2), .bool b_3] 85, .box [.fn (.func 114) [] [.ptr 1 0 0], .fn (.func 114) [] [.ptr 2 0 0], .fn (.func 114) [] [.ptr 3 0 0], .bool b_7] 161, .box [nn, nn, nn, nn] 45, .box [.vec false (List.map eTSet y_11), .row 8 0 (1 + y_21.length), nn, nn] 45, .mem 2 (List.map eTSet ([TSet.mk l_2 b_3] ++ y_21)) 85]) (hH := by simp only [go_sem, seval, e_2, e_25]) (ho := ⟨(by first | rfl | simp only [go_sem, seval, e_2, e_25]), trivial⟩) ?_
         obtain ⟨y_57, h_58, h⟩ := bindS h
         simp only [e_2, e_23, e_25, e_45, e_46, e_48, go_sem, seval]
         refine ACalls.useA (context_of_v2_w N _ _ false c_3 _ h_58) [3] (v' := .vec false (List.map eTSet y_57)) (H' := [.box [.vec c_0 (List.map eU8 l_0), .int .i64 (IntKind.i64.wrap ((IntKind.i64.wrap ((IntKind.i64.wrap ((IntKind.i64.wrap ((IntKind.i64.wrap ((IntKind.i64.wrap (a_1 + 2)) + (IntKind.i64.wrap (y_3 * 2)))) + 2)) + (IntKind.i64.wrap ((IntKind.i64.wrap (y_13 - 1)) * 2)))) + 2)) + (IntKind.i64.wrap (y_49 * 2))))] 152, .box [.vec c_1 (List.map eTClass l_4)] 30, .box [.vec c_2 (List.map eTClass l_5)] 30, .box [.vec c_3 (List.map eTClass l_6)] 30, .box [.vec false (List.map eTSpan l_2), .bool b_3] 85, .box [.fn (.func 114) [] [.ptr 1 0 0], .fn (.func 114) [] [.ptr 2 0 0], .fn (.func 114) [] [.ptr 3 0 0], .bool b_7] 161, .box [nn, nn, nn, nn] 45, .box [.vec false (List.map eTSet y_11), .row 8 0 (1 + y_21.length), nn, nn] 45, .mem 2 (List.map eTSet ([TSet.mk l_2 b_3] ++ y_21)) 85]) (hH := by simp only [go_sem, seval, e_2, e_25]) (ho := ⟨(by first | rfl | simp only [go_sem, seval, e_2, e_25]), trivial⟩) ?_
         obtain ⟨o_61, h_60, h⟩ := bindS h
         simp only [e_2, e_23, e_25, e_45, e_46, e_48, go_sem, seval]
         rcases o_61 with y_59 | _
         ·
          try dsimp only at h
          refine ACalls.useA (context_reader_count_w N _ _ _ _ c_0 _ h_60) [0] (v' := .int .i64 y_59) (H' := [.box [.vec c_0 (List.map eU8 l_0), .int .i64 (IntKind.i64.wrap ((IntKind.i64.wrap ((IntKind.i64.wrap ((IntKind.i64.wrap ((IntKind.i64.wrap ((IntKind.i64.wrap ((IntKind.i64.wrap (a_1 + 2)) + (IntKind.i64.wrap (y_3 * 2)))) + 2)) + (IntKind.i64.wrap ((IntKind.i64.wrap (y_13 - 1)) * 2)))) + 2)) + (IntKind.i64.wrap (y_49 * 2)))) + 2))] 152, .box [.vec c_1 (List.map eTClass l_4)] 30, .box [.vec c_2 (List.map eTClass l_5)] 30, .box [.vec c_3 (List.map eTClass l_6)] 30, .box [.vec false (List.map eTSpan l_2), .bool b_3] 85, .box [.fn (.func 114) [] [.ptr 1 0 0], .fn (.func 114) [] [.ptr 2 0 0], .fn (.func 114) [] [.ptr 3 0 0], .bool b_7] 161, .box [nn, nn, nn, nn] 45, .box [.vec false (List.map eTSet y_11), .row 8 0 (1 + y_21.length), .vec false (List.map eTSet y_57), nn] 45, .mem 2 (List.map eTSet ([TSet.mk l_2 b_3] ++ y_21)) 85]) (hH := by simp only [go_sem, seval, e_2, e_25]) (ho := ⟨(by first | rfl | simp only [go_sem, seval, e_2, e_25]), trivial⟩) ?_
          refine CallK_go (by simp) ?_
          obtain ⟨o_66, h_65, h⟩ := bindS h
          simp only [e_2, e_23, e_25, e_45, e_46, e_48, go_sem, seval]
          rcases o_66 with ⟨y_63, y_64⟩ | _
          ·
           try dsimp only at h
           refine ACalls.useA (context_reader_acts_w N _ _ _ _ c_0 _ h_65) [0] (v' := .vec false (List.map eTAct y_63)) (H' := [.box [.vec c_0 (List.map eU8 l_0), .int .i64 y_64] 152, .box [.vec c_1 (List.map eTClass l_4)] 30, .box [.vec c_2 (List.map eTClass l_5)] 30, .box [.vec c_3 (List.map eTClass l_6)] 30, .box [.vec false (List.map eTSpan l_2), .bool b_3] 85, .box [.fn (.func 114) [] [.ptr 1 0 0], .fn (.func 114) [] [.ptr 2 0 0], .fn (.func 114) [] [.ptr 3 0 0], .bool b_7] 161, .box [nn, nn, nn, nn] 45, .box [.vec false (List.map eTSet y_11), .row 8 0 (1 + y_21.length), .vec false (List.map eTSet y_57), nn] 45, .mem 2 (List.map eTSet ([TSet.mk l_2 b_3] ++ y_21)) 85]) (hH := by simp only [go_sem, seval, e_2, e_25]) (ho := ⟨(by first | rfl | simp only [go_sem, seval, e_2, e_25]), trivial⟩) ?_
           refine CallK_go (by simp) ?_
           simp only [e_2, e_23, e_25, e_45, e_46, e_48, go_sem, seval]
           have g_0 := Option.some.inj h
           subst g_0
           rw [← hQ]
           exact ⟨rfl, _, rfl, _, _, (RefV.trans (RefV.frz (by simp) (id := 8) rfl (pures_map ([TSet.mk l_2 b_3] ++ y_21) eTSet (fun _ => rfl))) (RefV.std [0, 1, 2, 3] (by decide) (by decide) (by first | rfl | simp only [go_sem, seval, e_2, e_25]) (by first | rfl | simp only [go_sem, seval, e_2, e_25]))), rfl, rfl⟩
          ·
           try dsimp only at h
           refine ACalls.panA (context_reader_acts_w N _ _ _ _ c_0 _ h_65) [0] (v' := .iface 148 (.agg [])) (H' := [.dead, .box [.vec c_1 (List.map eTClass l_4)] 30, .box [.vec c_2 (List.map eTClass l_5)] 30, .box [.vec c_3 (List.map eTClass l_6)] 30, .box [.vec false (List.map eTSpan l_2), .bool b_3] 85, .box [.fn (.func 114) [] [.ptr 1 0 0], .fn (.func 114) [] [.ptr 2 0 0], .fn (.func 114) [] [.ptr 3 0 0], .bool b_7] 161, .box [nn, nn, nn, nn] 45, .box [.vec false (List.map eTSet y_11), .row 8 0 (1 + y_21.length), .vec false (List.map eTSet y_57), nn] 45, .mem 2 (List.map eTSet ([TSet.mk l_2 b_3] ++ y_21)) 85]) (hH := by simp only [go_sem, seval, e_2, e_25]) (ho := ⟨(by first | rfl | simp only [go_sem, seval, e_2, e_25]), trivial⟩) ?_
           try simp only [CallK_pan, dCallK_pan, panK_ap]
           have g_0 := Option.some.inj h
           subst g_0
           rw [← hQ]
           exact ⟨rfl, _, _, RefV.dead rfl, rfl, rfl⟩
         ·
          try dsimp only at h
          refine ACalls.panA (context_reader_count_w N _ _ _ _ c_0 _ h_60) [0] (v' := .iface 148 (.agg [])) (H' := [.dead, .box [.vec c_1 (List.map eTClass l_4)] 30, .box [.vec c_2 (List.map eTClass l_5)] 30, .box [.vec c_3 (List.map eTClass l_6)] 30, .box [.vec false (List.map eTSpan l_2), .bool b_3] 85, .box [.fn (.func 114) [] [.ptr 1 0 0], .fn (.func 114) [] [.ptr 2 0 0], .fn (.func 114) [] [.ptr 3 0 0], .bool b_7] 161, .box [nn, nn, nn, nn] 45, .box [.vec false (List.map eTSet y_11), .row 8 0 (1 + y_21.length), .vec false (List.map eTSet y_57), nn] 45, .mem 2 (List.map eTSet ([TSet.mk l_2 b_3] ++ y_21)) 85]) (hH := by simp only [go_sem, seval, e_2, e_25]) (ho := ⟨(by first | rfl | simp only [go_sem, seval, e_2, e_25]), trivial⟩) ?_
          try simp only [CallK_pan, dCallK_pan, panK_ap]
          have g_0 := Option.some.inj h
          subst g_0
          rw [← hQ]
          exact ⟨rfl, _, _, RefV.dead rfl, rfl, rfl⟩
        ·
         try dsimp only at h
         refine ACalls.panA (context_reader_row_w N _ _ _ c_0 _ h_54) [0] (v' := .iface 148 (.agg [])) (H' := [.dead, .box [.vec c_1 (List.map eTClass l_4)] 30, .box [.vec c_2 (List.map eTClass l_5)] 30, .box [.vec c_3 (List.map eTClass l_6)] 30, .box [.vec false (List.map eTSpan l_2), .bool b_3] 85, .box [.fn (.func 114) [] [.ptr 1 0 0], .fn (.func 114) [] [.ptr 2 0 0], .fn (.func 114) [] [.ptr 3 0 0], .bool b_7] 161, .box [nn, nn, nn, nn] 45, .box [.vec false (List.map eTSet y_11), .row 8 0 (1 + y_21.length), nn, nn] 45, .mem 2 (List.map eTSet ([TSet.mk l_2 b_3] ++ y_21)) 85]) (hH := by simp only [go_sem, seval, e_2, e_25]) (ho := ⟨(by first | rfl | simp only [go_sem, seval, e_2, e_25]), trivial⟩) ?_
         try simp only [CallK_pan, dCallK_pan, panK_ap]
         have g_0 := Option.some.inj h
         subst g_0
         rw [← hQ]
         exact ⟨rfl, _, _, RefV.dead rfl, rfl, rfl⟩
       ·
        try dsimp only at h
        refine ACalls.panA (context_reader_count_w N _ _ _ _ c_0 _ h_50) [0] (v' := .iface 148 (.agg [])) (H' := [.dead, .box [.vec c_1 (List.map eTClass l_4)] 30, .box [.vec c_2 (List.map eTClass l_5)] 30, .box [.vec c_3 (List.map eTClass l_6)] 30, .box [.vec false (List.map eTSpan l_2), .bool b_3] 85, .box [.fn (.func 114) [] [.ptr 1 0 0], .fn (.func 114) [] [.ptr 2 0 0], .fn (.func 114) [] [.ptr 3 0 0], .bool b_7] 161, .box [nn, nn, nn, nn] 45, .box [.vec false (List.map eTSet y_11), .row 8 0 (1 + y_21.length), nn, nn] 45, .mem 2 (List.map eTSet ([TSet.mk l_2 b_3] ++ y_21)) 85]) (hH := by simp only [go_sem, seval, e_2, e_25]) (ho := ⟨(by first | rfl | simp only [go_sem, seval, e_2, e_25]), trivial⟩) ?_
        try simp only [CallK_pan, dCallK_pan, panK_ap]
        have g_0 := Option.some.inj h
        subst g_0
        rw [← hQ]
        exact ⟨rfl, _, _, RefV.dead rfl, rfl, rfl⟩
     ·
      try dsimp only at h
      refine ACalls.panA (context_reader_row_w N _ _ _ c_0 _ h_18) [0] (v' := .iface 148 (.agg [])) (H' := [.dead, .box [.vec c_1 (List.map eTClass l_4)] 30, .box [.vec c_2 (List.map eTClass l_5)] 30, .box [.vec c_3 (List.map eTClass l_6)] 30, .box [.vec false (List.map eTSpan l_2), .bool b_3] 85, .box [.fn (.func 114) [] [.ptr 1 0 0], .fn (.func 114) [] [.ptr 2 0 0], .fn (.func 114) [] [.ptr 3 0 0], .bool b_7] 161, .box [nn, nn, nn, nn] 45, .box [.vec false (List.map eTSet y_11), nn, nn, nn] 45]) (hH := by simp only [go_sem, seval, e_2]) (ho := ⟨(by first | rfl | simp only [go_sem, seval, e_2]), trivial⟩) ?_
      try simp only [CallK_pan, dCallK_pan, panK_ap]
      have g_0 := Option.some.inj h
      subst g_0
      rw [← hQ]
      exact ⟨rfl, _, _, RefV.dead rfl, rfl, rfl⟩
    ·
     try dsimp only at h
     refine ACalls.panA (context_reader_count_w N _ _ _ _ c_0 _ h_14) [0] (v' := .iface 148 (.agg [])) (H' := [.dead, .box [.vec c_1 (List.map eTClass l_4)] 30, .box [.vec c_2 (List.map eTClass l_5)] 30, .box [.vec c_3 (List.map eTClass l_6)] 30, .box [.vec false (List.map eTSpan l_2), .bool b_3] 85, .box [.fn (.func 114) [] [.ptr 1 0 0], .fn (.func 114) [] [.ptr 2 0 0], .fn (.func 114) [] [.ptr 3 0 0], .bool b_7] 161, .box [nn, nn, nn, nn] 45, .box [.vec false (List.map eTSet y_11), nn, nn, nn] 45]) (hH := by simp only [go_sem, seval, e_2]) (ho := ⟨(by first | rfl | simp only [go_sem, seval, e_2]), trivial⟩) ?_
     try simp only [CallK_pan, dCallK_pan, panK_ap]
     have g_0 := Option.some.inj h
     subst g_0
     rw [← hQ]
     exact ⟨rfl, _, _, RefV.dead rfl, rfl, rfl⟩
   ·
    try dsimp only at h
    refine ACalls.panA (context_reader_row_w N _ _ _ c_0 _ h_8) [0] (v' := .iface 148 (.agg [])) (H' := [.dead, .box [.vec c_1 (List.map eTClass l_4)] 30, .box [.vec c_2 (List.map eTClass l_5)] 30, .box [.vec c_3 (List.map eTClass l_6)] 30, .box [.vec false (List.map eTSpan l_2), .bool b_3] 85, .box [.fn (.func 114) [] [.ptr 1 0 0], .fn (.func 114) [] [.ptr 2 0 0], .fn (.func 114) [] [.ptr 3 0 0], .bool b_7] 161, .box [nn, nn, nn, nn] 45, .box [nn, nn, nn, nn] 45]) (hH := by simp only [go_sem, seval, e_2]) (ho := ⟨(by first | rfl | simp only [go_sem, seval, e_2]), trivial⟩) ?_
    try simp only [CallK_pan, dCallK_pan, panK_ap]
    have g_0 := Option.some.inj h
    subst g_0
    rw [← hQ]
    exact ⟨rfl, _, _, RefV.dead rfl, rfl, rfl⟩
  ·
   try dsimp only at h
   refine ACalls.panA (context_reader_count_w N _ _ _ _ c_0 _ h_4) [0] (v' := .iface 148 (.agg [])) (H' := [.dead, .box [.vec c_1 (List.map eTClass l_4)] 30, .box [.vec c_2 (List.map eTClass l_5)] 30, .box [.vec c_3 (List.map eTClass l_6)] 30, .box [.vec false (List.map eTSpan l_2), .bool b_3] 85, .box [.fn (.func 114) [] [.ptr 1 0 0], .fn (.func 114) [] [.ptr 2 0 0], .fn (.func 114) [] [.ptr 3 0 0], .bool b_7] 161, .box [nn, nn, nn, nn] 45, .box [nn, nn, nn, nn] 45]) (hH := by simp only [go_sem, seval, e_2]) (ho := ⟨(by first | rfl | simp only [go_sem, seval, e_2]), trivial⟩) ?_
   try simp only [CallK_pan, dCallK_pan, panK_ap]
   have g_0 := Option.some.inj h
   subst g_0
   rw [← hQ]
   exact ⟨rfl, _, _, RefV.dead rfl, rfl, rfl⟩
 ·
  rw [if_neg h_1] at h
  have e_2 : b_7 = false := bfalse h_1
  obtain ⟨o_70, h_69, h⟩ := bindS h
  simp only [e_2, go_sem, seval]
  rcases o_70 with y_68 | _
  ·
   try dsimp only at h
   refine ACalls.useA (context_reader_count_w N _ _ _ _ c_0 _ h_69) [0] (v' := .int .i64 y_68) (H' := [.box [.vec c_0 (List.map eU8 l_0), .int .i64 (IntKind.i64.wrap (a_1 + 2))] 152, .box [.vec c_1 (List.map eTClass l_4)] 30, .box [.vec c_2 (List.map eTClass l_5)] 30, .box [.vec c_3 (List.map eTClass l_6)] 30, .box [.vec false (List.map eTSpan l_2), .bool b_3] 85, .box [.fn (.func 114) [] [.ptr 1 0 0], .fn (.func 114) [] [.ptr 2 0 0], .fn (.func 114) [] [.ptr 3 0 0], .bool b_7] 161, .box [nn, nn, nn, nn] 45, .box [nn, nn, nn, nn] 45]) (hH := by simp only [go_sem, seval, e_2]) (ho := ⟨(by first | rfl | simp only [go_sem, seval, e_2]), trivial⟩) ?_
   refine CallK_go (by simp) ?_
   obtain ⟨o_74, h_73, h⟩ := bindS h
   simp only [e_2, go_sem, seval]
   rcases o_74 with y_72 | _
   ·
    try dsimp only at h
    refine ACalls.useA (context_reader_count_w N _ _ _ _ c_0 _ h_73) [0] (v' := .int .i64 y_72) (H' := [.box [.vec c_0 (List.map eU8 l_0), .int .i64 (IntKind.i64.wrap ((IntKind.i64.wrap (a_1 + 2)) + 2))] 152, .box [.vec c_1 (List.map eTClass l_4)] 30, .box [.vec c_2 (List.map eTClass l_5)] 30, .box [.vec c_3 (List.map eTClass l_6)] 30, .box [.vec false (List.map eTSpan l_2), .bool b_3] 85, .box [.fn (.func 114) [] [.ptr 1 0 0], .fn (.func 114) [] [.ptr 2 0 0], .fn (.func 114) [] [.ptr 3 0 0], .bool b_7] 161, .box [nn, nn, nn, nn] 45, .box [nn, nn, nn, nn] 45]) (hH := by simp only [go_sem, seval, e_2]) (ho := ⟨(by first | rfl | simp only [go_sem, seval, e_2]), trivial⟩) ?_
    refine CallK_go (by simp) ?_
    obtain ⟨o_78, h_77, h⟩ := bindS h
    simp only [e_2, go_sem, seval]
    rcases o_78 with y_76 | _
    ·
     try dsimp only at h
     refine ACalls.useA (context_reader_row_w N _ _ _ c_0 _ h_77) [0] (v' := .vec false (List.map eI64 y_76)) (H' := [.box [.vec c_0 (List.map eU8 l_0), .int .i64 (IntKind.i64.wrap ((IntKind.i64.wrap ((IntKind.i64.wrap (a_1 + 2)) + 2)) + (IntKind.i64.wrap ((IntKind.i64.wrap (y_68 - 1)) * 2))))] 152, .box [.vec c_1 (List.map eTClass l_4)] 30, .box [.vec c_2 (List.map eTClass l_5)] 30, .box [.vec c_3 (List.map eTClass l_6)] 30, .box [.vec false (List.map eTSpan l_2), .bool b_3] 85, .box [.fn (.func 114) [] [.ptr 1 0 0], .fn (.func 114) [] [.ptr 2 0 0], .fn (.func 114) [] [.ptr 3 0 0], .bool b_7] 161, .box [nn, nn, nn, nn] 45, .box [nn, nn, nn, nn] 45]) (hH := by simp only [go_sem, seval, e_2]) (ho := ⟨(by first | rfl | simp only [go_sem, seval, e_2]), trivial⟩) ?_
     obtain ⟨y_80, h_81, h⟩ := bindS h
     simp only [e_2, go_sem, seval]
     refine ACalls.useA (context_of_v2_w N _ _ false c_2 _ h_81) [2] (v' := .vec false (List.map eTSet y_80)) (H' := [.box [.vec c_0 (List.map eU8 l_0), .int .i64 (IntKind.i64.wrap ((IntKind.i64.wrap ((IntKind.i64.wrap (a_1 + 2)) + 2)) + (IntKind.i64.wrap ((IntKind.i64.wrap (y_68 - 1)) * 2))))] 152, .box [.vec c_1 (List.map eTClass l_4)] 30, .box [.vec c_2 (List.map eTClass l_5)] 30, .box [.vec c_3 (List.map eTClass l_6)] 30, .box [.vec false (List.map eTSpan l_2), .bool b_3] 85, .box [.fn (.func 114) [] [.ptr 1 0 0], .fn (.func 114) [] [.ptr 2 0 0], .fn (.func 114) [] [.ptr 3 0 0], .bool b_7] 161, .box [nn, nn, nn, nn] 45, .box [nn, nn, nn, nn] 45]) (hH := by simp only [go_sem, seval, e_2]) (ho := ⟨(by first | rfl | simp only [go_sem, seval, e_2]), trivial⟩) ?_
     have e_82 : ((List.map eTSet y_80)).all (fun el => el.length == 2) = true := all_len _ eTSet 2 (fun _ => rfl)
     simp only [e_2, e_82, go_sem, seval]
     by_cases h_83 : y_80 = []
     ·
      rw [if_pos h_83] at h
      have e_84 : y_80 = [] := h_83
      obtain ⟨o_88, h_87, h⟩ := bindS h
      simp only [e_2, e_82, e_84, go_sem, seval]
      rcases o_88 with ⟨y_85, y_86⟩ | _
      ·
       try dsimp only at h
       refine ACalls.useA (context_reader_acts_w N _ _ _ _ c_0 _ h_87) [0] (v' := .vec false (List.map eTAct y_85)) (H' := [.box [.vec c_0 (List.map eU8 l_0), .int .i64 y_86] 152, .box [.vec c_1 (List.map eTClass l_4)] 30, .box [.vec c_2 (List.map eTClass l_5)] 30, .box [.vec c_3 (List.map eTClass l_6)] 30, .box [.vec false (List.map eTSpan l_2), .bool b_3] 85, .box [.fn (.func 114) [] [.ptr 1 0 0], .fn (.func 114) [] [.ptr 2 0 0], .fn (.func 114) [] [.ptr 3 0 0], .bool b_7] 161, .box [nn, nn, nn, nn] 45, .box [nn, .vec true [[.vec false (List.map eTSpan l_2), .bool b_3]], nn, nn] 45]) (hH := by simp only [go_sem, seval, e_2, e_84]) (ho := ⟨(by first | rfl | simp only [go_sem, seval, e_2, e_84]), trivial⟩) ?_
       refine CallK_go (by simp) ?_
       simp only [e_2, e_82, e_84, go_sem, seval]
       have g_0 := Option.some.inj h
       subst g_0
       rw [← hQ]
       exact ⟨rfl, _, rfl, _, _, (RefV.trans (RefV.std (v' := .agg [nn, .vec true [[.vec false (List.map eTSpan l_2), .bool b_3]], nn, .vec false (List.map eTAct y_85)]) [0, 1, 2, 3] (by decide) (by decide) rfl (by first | rfl | simp only [go_sem, seval, e_2, e_84])) (RefV.weak (Wks.cons (Wk.agg (Wks.cons Wk.vec (Wks.cons Wk.vec (Wks.cons Wk.vec (Wks.cons (Wk.refl _) (Wks.nil)))))) Wks.nil) (WkH.refl _))), rfl, rfl⟩
      ·
       try dsimp only at h
       refine ACalls.panA (context_reader_acts_w N _ _ _ _ c_0 _ h_87) [0] (v' := .iface 148 (.agg [])) (H' := [.dead, .box [.vec c_1 (List.map eTClass l_4)] 30, .box [.vec c_2 (List.map eTClass l_5)] 30, .box [.vec c_3 (List.map eTClass l_6)] 30, .box [.vec false (List.map eTSpan l_2), .bool b_3] 85, .box [.fn (.func 114) [] [.ptr 1 0 0], .fn (.func 114) [] [.ptr 2 0 0], .fn (.func 114) [] [.ptr 3 0 0], .bool b_7] 161, .box [nn, nn, nn, nn] 45, .box [nn, .vec true [[.vec false (List.map eTSpan l_2), .bool b_3]], nn, nn] 45]) (hH := by simp only [go_sem, seval, e_2, e_84]) (ho := ⟨(by first | rfl | simp only [go_sem, seval, e_2, e_84]), trivial⟩) ?_
       try simp only [CallK_pan, dCallK_pan, panK_ap]
       have g_0 := Option.some.inj h
       subst g_0
       rw [← hQ]
       exact ⟨rfl, _, _, RefV.dead rfl, rfl, rfl⟩
     ·
      rw [if_neg h_83] at h
      have e_84 : (y_80.length = 0) = False ∧ (0 < y_80.length) = True := ⟨eq_false (fun q => h_83 (List.eq_nil_of_length_eq_zero q)), eq_true (Nat.pos_of_ne_zero (fun q => h_83 (List.eq_nil_of_length_eq_zero q)))⟩
      have e_90 : ((List.map eTSet y_80)).all (fun el => el.length == 2) = true := all_len _ eTSet 2 (fun _ => rfl)
      have e_91 : [[.vec false (List.map eTSpan l_2), .bool b_3]] ++ (List.map eTSet y_80) = (List.map eTSet ([TSet.mk l_2 b_3] ++ y_80)) := app_map ([TSet.mk l_2 b_3]) y_80 eTSet
      obtain ⟨h_92, h⟩ := guardS h
      have e_93 := eq_true h_92
      obtain ⟨o_97, h_96, h⟩ := bindS h
      simp only [e_2, e_82, e_84, e_90, e_91, e_93, go_sem, seval]
      rcases o_97 with ⟨y_94, y_95⟩ | _
      ·
       try dsimp only at h
       refine ACalls.useA (context_reader_acts_w N _ _ _ _ c_0 _ h_96) [0] (v' := .vec false (List.map eTAct y_94)) (H' := [.box [.vec c_0 (List.map eU8 l_0), .int .i64 y_95] 152, .box [.vec c_1 (List.map eTClass l_4)] 30, .box [.vec c_2 (List.map eTClass l_5)] 30, .box [.vec c_3 (List.map eTClass l_6)] 30, .box [.vec false (List.map eTSpan l_2), .bool b_3] 85, .box [.fn (.func 114) [] [.ptr 1 0 0], .fn (.func 114) [] [.ptr 2 0 0], .fn (.func 114) [] [.ptr 3 0 0], .bool b_7] 161, .box [nn, nn, nn, nn] 45, .box [nn, .row 8 0 (1 + y_80.length), nn, nn] 45, .mem 2 (List.map eTSet ([TSet.mk l_2 b_3] ++ y_80)) 85]) (hH := by simp only [go_sem, seval, e_2, e_84]) (ho := ⟨(by first | rfl | simp only [go_sem, seval, e_2, e_84]), trivial⟩) ?_
       refine CallK_go (by simp) ?_
       simp only [e_2, e_82, e_84, e_90, e_91, e_93, go_sem, seval]
       have g_0 := Option.some.inj h
       subst g_0
       rw [← hQ]
       exact ⟨rfl, _, rfl, _, _, (RefV.trans (RefV.frz (by simp) (id := 8) rfl (pures_map ([TSet.mk l_2 b_3] ++ y_80) eTSet (fun _ => rfl))) (RefV.trans (RefV.std (v' := .agg [nn, .vec false (List.map eTSet ([TSet.mk l_2 b_3] ++ y_80)), nn, .vec false (List.map eTAct y_94)]) [0, 1, 2, 3] (by decide) (by decide) (by first | rfl | simp only [go_sem, seval, e_2, e_84]) (by first | rfl | simp only [go_sem, seval, e_2, e_84])) (RefV.weak (Wks.cons (Wk.agg (Wks.cons Wk.vec (Wks.cons (Wk.refl _) (Wks.cons Wk.vec (Wks.cons (Wk.refl _) (Wks.nil)))))) Wks.nil) (WkH.refl _)))), rfl, rfl⟩
      ·
       try dsimp only at h
       refine ACalls.panA (context_reader_acts_w N _ _ _ _ c_0 _ h_96) [0] (v' := .iface 148 (.agg [])) (H' := [.dead, .box [.vec c_1 (List.map eTClass l_4)] 30, .box [.vec c_2 (List.map eTClass l_5)] 30, .box [.vec c_3 (List.map eTClass l_6)] 30, .box [.vec false (List.map eTSpan l_2), .bool b_3] 85, .box [.fn (.func 114) [] [.ptr 1 0 0], .fn (.func 114) [] [.ptr 2 0 0], .fn (.func 114) [] [.ptr 3 0 0], .bool b_7] 161, .box [nn, nn, nn, nn] 45, .box [nn, .row 8 0 (1 + y_80.length), nn, nn] 45, .mem 2 (List.map eTSet ([TSet.mk l_2 b_3] ++ y_80)) 85]) (hH := by simp only [go_sem, seval, e_2, e_84]) (ho := ⟨(by first | rfl | simp only [go_sem, seval, e_2, e_84]), trivial⟩) ?_
       try simp only [CallK_pan, dCallK_pan, panK_ap]
       have g_0 := Option.some.inj h
       subst g_0
       rw [← hQ]
       exact ⟨rfl, _, _, RefV.dead rfl, rfl, rfl⟩
    ·
     try dsimp only at h
     refine ACalls.panA (context_reader_row_w N _ _ _ c_0 _ h_77) [0] (v' := .iface 148 (.agg [])) (H' := [.dead, .box [.vec c_1 (List.map eTClass l_4)] 30, .box [.vec c_2 (List.map eTClass l_5)] 30, .box [.vec c_3 (List.map eTClass l_6)] 30, .box [.vec false (List.map eTSpan l_2), .bool b_3] 85, .box [.fn (.func 114) [] [.ptr 1 0 0], .fn (.func 114) [] [.ptr 2 0 0], .fn (.func 114) [] [.ptr 3 0 0], .bool b_7] 161, .box [nn, nn, nn, nn] 45, .box [nn, nn, nn, nn] 45]) (hH := by simp only [go_sem, seval, e_2]) (ho := ⟨(by first | rfl | simp only [go_sem, seval, e_2]), trivial⟩) ?_
     try simp only [CallK_pan, dCallK_pan, panK_ap]
     have g_0 := Option.some.inj h
     subst g_0
     rw [← hQ]
     exact ⟨rfl, _, _, RefV.dead rfl, rfl, rfl⟩
   ·
    try dsimp only at h
    refine ACalls.panA (context_reader_count_w N _ _ _ _ c_0 _ h_73) [0] (v' := .iface 148 (.agg [])) (H' := [.dead, .box [.vec c_1 (List.map eTClass l_4)] 30, .box [.vec c_2 (List.map eTClass l_5)] 30, .box [.vec c_3 (List.map eTClass l_6)] 30, .box [.vec false (List.map eTSpan l_2), .bool b_3] 85, .box [.fn (.func 114) [] [.ptr 1 0 0], .fn (.func 114) [] [.ptr 2 0 0], .fn (.func 114) [] [.ptr 3 0 0], .bool b_7] 161, .box [nn, nn, nn, nn] 45, .box [nn, nn, nn, nn] 45]) (hH := by simp only [go_sem, seval, e_2]) (ho := ⟨(by first | rfl | simp only [go_sem, seval, e_2]), trivial⟩) ?_
    try simp only [CallK_pan, dCallK_pan, panK_ap]
    have g_0 := Option.some.inj h
    subst g_0
    rw [← hQ]
    exact ⟨rfl, _, _, RefV.dead rfl, rfl, rfl⟩
  ·
   try dsimp only at h
   refine ACalls.panA (context_reader_count_w N _ _ _ _ c_0 _ h_69) [0] (v' := .iface 148 (.agg [])) (H' := [.dead, .box [.vec c_1 (List.map eTClass l_4)] 30, .box [.vec c_2 (List.map eTClass l_5)] 30, .box [.vec c_3 (List.map eTClass l_6)] 30, .box [.vec false (List.map eTSpan l_2), .bool b_3] 85, .box [.fn (.func 114) [] [.ptr 1 0 0], .fn (.func 114) [] [.ptr 2 0 0], .fn (.func 114) [] [.ptr 3 0 0], .bool b_7] 161, .box [nn, nn, nn, nn] 45, .box [nn, nn, nn, nn] 45]) (hH := by simp only [go_sem, seval, e_2]) (ho := ⟨(by first | rfl | simp only [go_sem, seval, e_2]), trivial⟩) ?_
   try simp only [CallK_pan, dCallK_pan, panK_ap]
   have g_0 := Option.some.inj h
   subst g_0
   rw [← hQ]
   exact ⟨rfl, _, _, RefV.dead rfl, rfl, rfl⟩
theorem context_reader_list_L2_w (N : Nat) (a_2 : Int) (i_1 : Int) (x_4 : Int) (l_3 : List Int) (y_18 : List Int) (l_0 : List Int) (a_1 : Int) (l_4 : List TSpan) (l_5 : List TClass) (l_6 : List TClass) (l_7 : List TClass) (l_8 : List TClass) (b_9 : Bool) (c_1 : Bool) (c_0 : Bool) (c_2 : Bool) (c_3 : Bool) (c_4 : Bool) (c_5 : Bool) (c_6 : Bool) {R : AExit → ATm → List AObj → Prop} : ∀ (n : Nat) (i_22 : Int) (s_23 : List TCtx) (o : ((List TCtx)) ⊕ (Unit)), context_reader_list_L2 N a_2 i_1 x_4 l_3 y_18 l_0 a_1 l_4 l_5 l_6 l_7 l_8 b_9 n i_22 s_23 = some o → (match o with | .inl z_1 => R (.exit 2) ⟨75, [(0, .ptr 0 0 0), (1, .int .i64 a_2), (3, .fn (.func 116) [] [.ptr 1 0 0, .ptr 2 0 0]), (9, .ptr 6 0 0), (11, .row 7 0 z_1.length), (18, .vec c_1 (List.map eI64 l_3)), (19, .int .i64 (l_3.length : Int)), (20, .int .i64 i_1)], []⟩ [.box [.vec c_0 (List.map eU8 l_0), .int .i64 a_1] 152, .box [.vec c_2 (List.map eTSpan l_4)] 24, .box [.vec c_3 (List.map eTClass l_5)] 30, .box [.vec c_4 (List.map eTClass l_6)] 30, .box [.vec c_5 (List.map eTClass l_7)] 30, .box [.vec c_6 (List.map eTClass l_8)] 30, .box [.fn (.func 114) [] [.ptr 3 0 0], .fn (.func 114) [] [.ptr 4 0 0], .fn (.func 114) [] [.ptr 5 0 0], .bool b_9] 161, .mem 4 (List.map eTCtx z_1) 45] | .inr (_) => ∀ (tb : ATm) (Hb : List AObj), tb.ds = [] → R (.pan (.iface 148 (.agg []))) tb Hb) →
  ALp Try.prog 6 B109_2 ⟨75, [(0, .ptr 0 0 0), (1, .int .i64 a_2), (3, .fn (.func 116) [] [.ptr 1 0 0, .ptr 2 0 0]), (9, .ptr 6 0 0), (11, .row 7 0 s_23.length), (12, .int .i64 i_1), (13, .int .i64 x_4), (18, .vec c_1 (List.map eI64 l_3)), (19, .int .i64 (l_3.length : Int)), (20, .int .i64 i_1), (43, .vec false (List.map eI64 y_18)), (44, .int .i64 (y_18.length : Int)), (45, .int .i64 i_22)], []⟩ [.box [.vec c_0 (List.map eU8 l_0), .int .i64 a_1] 152, .box [.vec c_2 (List.map eTSpan l_4)] 24, .box [.vec c_3 (List.map eTClass l_5)] 30, .box [.vec c_4 (List.map eTClass l_6)] 30, .box [.vec c_5 (List.map eTClass l_7)] 30, .box [.vec c_6 (List.map eTClass l_8)] 30, .box [.fn (.func 114) [] [.ptr 3 0 0], .fn (.func 114) [] [.ptr 4 0 0], .fn (.func 114) [] [.ptr 5 0 0], .bool b_9] 161, .mem 4 (List.map eTCtx s_23) 45] R := by
 intro n
 induction n with
 | zero =>
  intro i_22 s_23 o h _
  have h0 : none = some o := h
  cases h0
 | succ n ih =>
  intro i_22 s_23 o h hp
  rw [context_reader_list_L2] at h
  refine ALp.round ?_
  generalize hQ : RoundQ _ _ _ _ = QQ
  simp only [B109_2, B109_1, A109, go_sem, seval]
  by_cases h_24 : i_22 < (y_18.length : Int)
  ·
   rw [if_pos h_24] at h
   have e_25 := eq_true h_24
   obtain ⟨x_26, h_27, h⟩ := bindS h
   have e_28 : (List.map eI64 y_18)[(i_22).toNat]? = some [.int .i64 x_26] := atI_map eI64 h_27
   have e_29 := eq_true (atI_some h_27).1
   have e_30 := eq_true (atI_lt h_27)
   simp only [e_25, e_28, e_29, e_30, go_sem, seval]
   refine ⟨?_, ?_⟩
   ·
    obtain ⟨⟨y_31, y_32⟩, h_33, h⟩ := bindS h
    try dsimp only at h
    try simp only [e_25, e_28, e_29, e_30, go_sem, seval]
    refine ACalls.useA (context_reader_classed_2_w N _ _ _ c_2 c_3 _ _ h_33) [1, 2] (v' := .agg [.vec false (List.map eTSpan y_31), .bool y_32]) (H' := [.box [.vec c_0 (List.map eU8 l_0), .int .i64 a_1] 152, .box [.vec c_2 (List.map eTSpan l_4)] 24, .box [.vec c_3 (List.map eTClass l_5)] 30, .box [.vec c_4 (List.map eTClass l_6)] 30, .box [.vec c_5 (List.map eTClass l_7)] 30, .box [.vec c_6 (List.map eTClass l_8)] 30, .box [.fn (.func 114) [] [.ptr 3 0 0], .fn (.func 114) [] [.ptr 4 0 0], .fn (.func 114) [] [.ptr 5 0 0], .bool b_9] 161, .mem 4 (List.map eTCtx s_23) 45, .box [.vec c_0 (List.map eU8 l_0), .int .i64 (IntKind.i64.wrap ((IntKind.i64.wrap (a_2 + x_4)) + x_26))] 152]) (hH := by simp only [go_sem, seval, e_25]) (ho := ⟨(by first | rfl | simp only [go_sem, seval, e_25]), (by first | rfl | simp only [go_sem, seval, e_25]), trivial⟩) ?_
    obtain ⟨o_40, h_39, h⟩ := bindS h
    simp only [e_25, e_28, e_29, e_30, go_sem, seval]
    rcases o_40 with ⟨y_34, y_35, y_36, y_37, y_38⟩ | _
    ·
     try dsimp only at h
     refine ACalls.useA (context_reader_rule_v2_w N _ _ _ _ _ _ _ _ c_0 c_4 c_5 c_6 _ h_39) [8, 3, 4, 5] (v' := .agg [.vec false (List.map eTSet y_34), .vec false (List.map eTSet y_35), .vec false (List.map eTSet y_36), .vec false (List.map eTAct y_37)]) (H' := [.box [.vec c_0 (List.map eU8 l_0), .int .i64 a_1] 152, .box [.vec c_2 (List.map eTSpan l_4)] 24, .box [.vec c_3 (List.map eTClass l_5)] 30, .box [.vec c_4 (List.map eTClass l_6)] 30, .box [.vec c_5 (List.map eTClass l_7)] 30, .box [.vec c_6 (List.map eTClass l_8)] 30, .box [.fn (.func 114) [] [.ptr 3 0 0], .fn (.func 114) [] [.ptr 4 0 0], .fn (.func 114) [] [.ptr 5 0 0], .bool b_9] 161, .mem 4 (List.map eTCtx s_23) 45, .box [.vec c_0 (List.map eU8 l_0), .int .i64 y_38] 152]) (hH := by simp only [go_sem, seval, e_25]) (ho := ⟨(by first | rfl | simp only [go_sem, seval, e_25]), (by first | rfl | simp only [go_sem, seval, e_25]), (by first | rfl | simp only [go_sem, seval, e_25]), (by first | rfl | simp only [go_sem, seval, e_25]), trivial⟩) ?_
     have e_42 : List.take s_23.length (List.map eTCtx s_23) = (List.map eTCtx s_23) := List.take_of_length_le (by simp)
     have e_43 : (List.map eTCtx s_23) ++ [[.vec false (List.map eTSet y_34), .vec false (List.map eTSet y_35), .vec false (List.map eTSet y_36), .vec false (List.map eTAct y_37)]] = (List.map eTCtx (s_23 ++ [TCtx.mk y_34 y_35 y_36 y_37])) := app_map s_23 ([TCtx.mk y_34 y_35 y_36 y_37]) eTCtx
     obtain ⟨h_44, h⟩ := guardS h
     have e_45 := eq_true h_44
     obtain ⟨o_47, h_46, h⟩ := bindS h
     simp only [e_25, e_28, e_29, e_30, e_42, e_43, e_45, go_sem, seval]
     rcases o_47 with _ | _
     ·
      try dsimp only at h
      refine ACalls.use0 (context_must_w N _ _ h_46) rfl rfl ?_
      refine CallK_go (by simp) ?_
      simp only [e_25, e_28, e_29, e_30, e_42, e_43, e_45, go_sem, seval]
      rw [← hQ]
      exact ⟨_, _, (Ref.std [0, 1, 3, 9, 11, 12, 13, 18, 19, 20, 43, 44, 45] [0, 1, 2, 3, 4, 5, 6, 9] (by decide) (by decide) (by first | rfl | simp only [go_sem, seval]) (by first | rfl | simp only [go_sem, seval, e_25])), (by simp), ih _ _ _ h hp⟩
     ·
      try dsimp only at h
      refine ACalls.panA (context_must_w N _ _ h_46) [] (v' := .iface 148 (.agg [])) (H' := [.box [.vec c_0 (List.map eU8 l_0), .int .i64 a_1] 152, .box [.vec c_2 (List.map eTSpan l_4)] 24, .box [.vec c_3 (List.map eTClass l_5)] 30, .box [.vec c_4 (List.map eTClass l_6)] 30, .box [.vec c_5 (List.map eTClass l_7)] 30, .box [.vec c_6 (List.map eTClass l_8)] 30, .box [.fn (.func 114) [] [.ptr 3 0 0], .fn (.func 114) [] [.ptr 4 0 0], .fn (.func 114) [] [.ptr 5 0 0], .bool b_9] 161, .dead, .box [.vec c_0 (List.map eU8 l_0), .int .i64 y_38] 152, .mem 4 (List.map eTCtx (s_23 ++ [TCtx.mk y_34 y_35 y_36 y_37])) 45]) (hH := by simp only [go_sem, seval, e_25]) ?_
      try simp only [CallK_pan, dCallK_pan, panK_ap]
      have g := Option.some.inj h
      subst g
      rw [← hQ]
      exact hp _ _ rfl
    ·
     try dsimp only at h
     refine ACalls.panA (context_reader_rule_v2_w N _ _ _ _ _ _ _ _ c_0 c_4 c_5 c_6 _ h_39) [8, 3, 4, 5] (v' := .iface 148 (.agg [])) (H' := [.box [.vec c_0 (List.map eU8 l_0), .int .i64 a_1] 152, .box [.vec c_2 (List.map eTSpan l_4)] 24, .box [.vec c_3 (List.map eTClass l_5)] 30, .dead, .dead, .dead, .box [.fn (.func 114) [] [.ptr 3 0 0], .fn (.func 114) [] [.ptr 4 0 0], .fn (.func 114) [] [.ptr 5 0 0], .bool b_9] 161, .mem 4 (List.map eTCtx s_23) 45, .dead]) (hH := by simp only [go_sem, seval, e_25]) (ho := ⟨(by first | rfl | simp only [go_sem, seval, e_25]), (by first | rfl | simp only [go_sem, seval, e_25]), (by first | rfl | simp only [go_sem, seval, e_25]), (by first | rfl | simp only [go_sem, seval, e_25]), trivial⟩) ?_
     try simp only [CallK_pan, dCallK_pan, panK_ap]
     have g := Option.some.inj h
     subst g
     rw [← hQ]
     exact hp _ _ rfl
   ·
    obtain ⟨⟨y_31, y_32⟩, h_33, h⟩ := bindS h
    try dsimp only at h
    try simp only [e_25, e_28, e_29, e_30, go_sem, seval]
    refine ACalls.useA (context_reader_classed_2_w N _ _ _ c_2 c_3 _ _ h_33) [1, 2] (v' := .agg [.vec false (List.map eTSpan y_31), .bool y_32]) (H' := [.box [.vec c_0 (List.map eU8 l_0), .int .i64 a_1] 152, .box [.vec c_2 (List.map eTSpan l_4)] 24, .box [.vec c_3 (List.map eTClass l_5)] 30, .box [.vec c_4 (List.map eTClass l_6)] 30, .box [.vec c_5 (List.map eTClass l_7)] 30, .box [.vec c_6 (List.map eTClass l_8)] 30, .box [.fn (.func 114) [] [.ptr 3 0 0], .fn (.func 114) [] [.ptr 4 0 0], .fn (.func 114) [] [.ptr 5 0 0], .bool b_9] 161, .mem 4 (List.map eTCtx s_23) 45]) (hH := by simp only [go_sem, seval, e_25]) (ho := ⟨(by first | rfl | simp only [go_sem, seval, e_25]), (by first | rfl | simp only [go_sem, seval, e_25]), trivial⟩) ?_
    obtain ⟨o_40, h_39, h⟩ := bindS h
    simp only [e_25, e_28, e_29, e_30, go_sem, seval]
    rcases o_40 with ⟨y_34, y_35, y_36, y_37, y_38⟩ | _
    ·
     try dsimp only at h
     refine ACalls.useA (context_reader_rule_v2_w N _ _ _ _ _ _ _ _ c_0 c_4 c_5 c_6 _ h_39) [8, 3, 4, 5] (v' := .agg [.vec false (List.map eTSet y_34), .vec false (List.map eTSet y_35), .vec false (List.map eTSet y_36), .vec false (List.map eTAct y_37)]) (H' := [.box [.vec c_0 (List.map eU8 l_0), .int .i64 a_1] 152, .box [.vec c_2 (List.map eTSpan l_4)] 24, .box [.vec c_3 (List.map eTClass l_5)] 30, .box [.vec c_4 (List.map eTClass l_6)] 30, .box [.vec c_5 (List.map eTClass l_7)] 30, .box [.vec c_6 (List.map eTClass l_8)] 30, .box [.fn (.func 114) [] [.ptr 3 0 0], .fn (.func 114) [] [.ptr 4 0 0], .fn (.func 114) [] [.ptr 5 0 0], .bool b_9] 161, .mem 4 (List.map eTCtx s_23) 45, .box [.vec c_0 (List.map eU8 l_0), .int .i64 y_38] 152]) (hH := by simp only [go_sem, seval, e_25]) (ho := ⟨(by first | rfl | simp only [go_sem, seval, e_25]), (by first | rfl | simp only [go_sem, seval, e_25]), (by first | rfl | simp only [go_sem, seval, e_25]), (by first | rfl | simp only [go_sem, seval, e_25]), trivial⟩) ?_
     have e_42 : List.take s_23.length (List.map eTCtx s_23) = (List.map eTCtx s_23) := List.take_of_length_le (by simp)
     have e_43 : (List.map eTCtx s_23) ++ [[.vec false (List.map eTSet y_34), .vec false (List.map eTSet y_35), .vec false (List.map eTSet y_36), .vec false (List.map eTAct y_37)]] = (List.map eTCtx (s_23 ++ [TCtx.mk y_34 y_35 y_36 y_37])) := app_map s_23 ([TCtx.mk y_34 y_35 y_36 y_37]) eTCtx
     obtain ⟨h_44, h⟩ := guardS h
     have e_45 := eq_true h_44
     obtain ⟨o_47, h_46, h⟩ := bindS h
     simp only [e_25, e_28, e_29, e_30, e_42, e_43, e_45, go_sem, seval]
     rcases o_47 with _ | _
     ·
      try dsimp only at h
      refine ACalls.use0 (context_must_w N _ _ h_46) rfl rfl ?_
      refine CallK_go (by simp) ?_
      simp only [e_25, e_28, e_29, e_30, e_42, e_43, e_45, go_sem, seval]
      rw [← hQ]
      exact ⟨_, _, (Ref.std [0, 1, 3, 9, 11, 12, 13, 18, 19, 20, 43, 44, 45] [0, 1, 2, 3, 4, 5, 6, 9] (by decide) (by decide) (by first | rfl | simp only [go_sem, seval]) (by first | rfl | simp only [go_sem, seval, e_25])), (by simp), ih _ _ _ h hp⟩
     ·
      try dsimp only at h
      refine ACalls.panA (context_must_w N _ _ h_46) [] (v' := .iface 148 (.agg [])) (H' := [.box [.vec c_0 (List.map eU8 l_0), .int .i64 a_1] 152, .box [.vec c_2 (List.map eTSpan l_4)] 24, .box [.vec c_3 (List.map eTClass l_5)] 30, .box [.vec c_4 (List.map eTClass l_6)] 30, .box [.vec c_5 (List.map eTClass l_7)] 30, .box [.vec c_6 (List.map eTClass l_8)] 30, .box [.fn (.func 114) [] [.ptr 3 0 0], .fn (.func 114) [] [.ptr 4 0 0], .fn (.func 114) [] [.ptr 5 0 0], .bool b_9] 161, .dead, .box [.vec c_0 (List.map eU8 l_0), .int .i64 y_38] 152, .mem 4 (List.map eTCtx (s_23 ++ [TCtx.mk y_34 y_35 y_36 y_37])) 45]) (hH := by simp only [go_sem, seval, e_25]) ?_
      try simp only [CallK_pan, dCallK_pan, panK_ap]
      have g := Option.some.inj h
      subst g
      rw [← hQ]
      exact hp _ _ rfl
    ·
     try dsimp only at h
     refine ACalls.panA (context_reader_rule_v2_w N _ _ _ _ _ _ _ _ c_0 c_4 c_5 c_6 _ h_39) [8, 3, 4, 5] (v' := .iface 148 (.agg [])) (H' := [.box [.vec c_0 (List.map eU8 l_0), .int .i64 a_1] 152, .box [.vec c_2 (List.map eTSpan l_4)] 24, .box [.vec c_3 (List.map eTClass l_5)] 30, .dead, .dead, .dead, .box [.fn (.func 114) [] [.ptr 3 0 0], .fn (.func 114) [] [.ptr 4 0 0], .fn (.func 114) [] [.ptr 5 0 0], .bool b_9] 161, .mem 4 (List.map eTCtx s_23) 45, .dead]) (hH := by simp only [go_sem, seval, e_25]) (ho := ⟨(by first | rfl | simp only [go_sem, seval, e_25]), (by first | rfl | simp only [go_sem, seval, e_25]), (by first | rfl | simp only [go_sem, seval, e_25]), (by first | rfl | simp only [go_sem, seval, e_25]), trivial⟩) ?_
     try simp only [CallK_pan, dCallK_pan, panK_ap]
     have g := Option.some.inj h
     subst g
     rw [← hQ]
     exact hp _ _ rfl
  ·
   rw [if_neg h_24] at h
   have e_25 := eq_false h_24
   simp only [e_25, go_sem, seval]
   have g := Option.some.inj h
   subst g
   rw [← hQ]
   exact ⟨_, _, (Ref.std [0, 1, 3, 9, 11, 18, 19, 20] [0, 1, 2, 3, 4, 5, 6, 7] (by decide) (by decide) rfl (by first | rfl | simp only [go_sem, seval, e_25])), hp⟩
theorem context_reader_list_L3_w (N : Nat) (a_2 : Int) (l_3 : List Int) (l_0 : List Int) (a_1 : Int) (l_4 : List TSpan) (l_5 : List TClass) (l_6 : List TClass) (l_7 : List TClass) (l_8 : List TClass) (b_9 : Bool) (c_1 : Bool) (c_0 : Bool) (c_2 : Bool) (c_3 : Bool) (c_4 : Bool) (c_5 : Bool) (c_6 : Bool) {R : AExit → ATm → List AObj → Prop} : ∀ (n : Nat) (i_1 : Int) (s_2 : List TCtx) (o : ((List TCtx)) ⊕ (Unit)), context_reader_list_L3 N a_2 l_3 l_0 a_1 l_4 l_5 l_6 l_7 l_8 b_9 n i_1 s_2 = some o → (match o with | .inl z_1 => R (.exit 0) ⟨75, [(11, .row 6 0 z_1.length)], []⟩ [.box [.vec c_0 (List.map eU8 l_0), .int .i64 a_1] 152, .box [.vec c_2 (List.map eTSpan l_4)] 24, .box [.vec c_3 (List.map eTClass l_5)] 30, .box [.vec c_4 (List.map eTClass l_6)] 30, .box [.vec c_5 (List.map eTClass l_7)] 30, .box [.vec c_6 (List.map eTClass l_8)] 30, .mem 4 (List.map eTCtx z_1) 45] | .inr (_) => ∀ (tb : ATm) (Hb : List AObj), tb.ds = [] → R (.pan (.iface 148 (.agg []))) tb Hb) →
  ALp Try.prog 6 B109_1 ⟨75, [(0, .ptr 0 0 0), (1, .int .i64 a_2), (3, .fn (.func 116) [] [.ptr 1 0 0, .ptr 2 0 0]), (9, .ptr 6 0 0), (11, .row 7 0 s_2.length), (18, .vec c_1 (List.map eI64 l_3)), (19, .int .i64 (l_3.length : Int)), (20, .int .i64 i_1)], []⟩ [.box [.vec c_0 (List.map eU8 l_0), .int .i64 a_1] 152, .box [.vec c_2 (List.map eTSpan l_4)] 24, .box [.vec c_3 (List.map eTClass l_5)] 30, .box [.vec c_4 (List.map eTClass l_6)] 30, .box [.vec c_5 (List.map eTClass l_7)] 30, .box [.vec c_6 (List.map eTClass l_8)] 30, .box [.fn (.func 114) [] [.ptr 3 0 0], .fn (.func 114) [] [.ptr 4 0 0], .fn (.func 114) [] [.ptr 5 0 0], .bool b_9] 161, .mem 4 (List.map eTCtx s_2) 45] R := by
 intro n
 induction n with
 | zero =>
  intro i_1 s_2 o h _
  have h0 : none = some o := h
  cases h0
 | succ n ih =>
  intro i_1 s_2 o h hp
  rw [context_reader_list_L3] at h
  refine ALp.round ?_
  generalize hQ : RoundQ _ _ _ _ = QQ
  simp only [B109_1, A109, go_sem, seval]
  by_cases h_3 : i_1 < (l_3.length : Int)
  ·
   rw [if_pos h_3] at h
   have e_4 := eq_true h_3
   obtain ⟨x_5, h_6, h⟩ := bindS h
   have e_7 : (List.map eI64 l_3)[(i_1).toNat]? = some [.int .i64 x_5] := atI_map eI64 h_6
   have e_8 := eq_true (atI_some h_6).1
   have e_9 := eq_true (atI_lt h_6)
   simp only [e_4, e_7, e_8, e_9, go_sem, seval]
   by_cases h_10 : x_5 = 0
   ·
    rw [if_pos h_10] at h
    have e_11 := eq_true h_10
    simp only [e_4, e_7, e_8, e_9, e_11, go_sem, seval]
    rw [← hQ]
    exact ⟨_, _, (Ref.std [0, 1, 3, 9, 11, 18, 19, 20] [0, 1, 2, 3, 4, 5, 6, 7] (by decide) (by decide) rfl (by first | rfl | simp only [go_sem, seval, e_4, e_11])), (by simp), ih _ _ _ h hp⟩
   ·
    rw [if_neg h_10] at h
    have e_11 := eq_false h_10
    obtain ⟨o_14, h_13, h⟩ := bindS h
    simp only [e_4, e_7, e_8, e_9, e_11, go_sem, seval]
    rcases o_14 with y_12 | _
    ·
     try dsimp only at h
     refine ACalls.useA (context_reader_number_w N _ _ c_0 _ h_13) [8] (v' := .int .i64 y_12) (H' := [.box [.vec c_0 (List.map eU8 l_0), .int .i64 a_1] 152, .box [.vec c_2 (List.map eTSpan l_4)] 24, .box [.vec c_3 (List.map eTClass l_5)] 30, .box [.vec c_4 (List.map eTClass l_6)] 30, .box [.vec c_5 (List.map eTClass l_7)] 30, .box [.vec c_6 (List.map eTClass l_8)] 30, .box [.fn (.func 114) [] [.ptr 3 0 0], .fn (.func 114) [] [.ptr 4 0 0], .fn (.func 114) [] [.ptr 5 0 0], .bool b_9] 161, .mem 4 (List.map eTCtx s_2) 45, .box [.vec c_0 (List.map eU8 l_0), .int .i64 (IntKind.i64.wrap ((IntKind.i64.wrap (a_2 + x_5)) + 2))] 152]) (hH := by simp only [go_sem, seval, e_4, e_11]) (ho := ⟨(by first | rfl | simp only [go_sem, seval, e_4, e_11]), trivial⟩) ?_
     refine CallK_go (by simp) ?_
     obtain ⟨o_17, h_16, h⟩ := bindS h
     simp only [e_4, e_7, e_8, e_9, e_11, go_sem, seval]
     rcases o_17 with _ | _
     ·
      try dsimp only at h
      refine ACalls.use0 (context_must_w N _ _ h_16) rfl rfl ?_
      refine CallK_go (by simp) ?_
      obtain ⟨o_21, h_20, h⟩ := bindS h
      simp only [e_4, e_7, e_8, e_9, e_11, go_sem, seval]
      rcases o_21 with y_19 | _
      ·
       try dsimp only at h
       refine ACalls.useA (context_reader_row_w N _ _ _ c_0 _ h_20) [8] (v' := .vec false (List.map eI64 y_19)) (H' := [.box [.vec c_0 (List.map eU8 l_0), .int .i64 a_1] 152, .box [.vec c_2 (List.map eTSpan l_4)] 24, .box [.vec c_3 (List.map eTClass l_5)] 30, .box [.vec c_4 (List.map eTClass l_6)] 30, .box [.vec c_5 (List.map eTClass l_7)] 30, .box [.vec c_6 (List.map eTClass l_8)] 30, .box [.fn (.func 114) [] [.ptr 3 0 0], .fn (.func 114) [] [.ptr 4 0 0], .fn (.func 114) [] [.ptr 5 0 0], .bool b_9] 161, .mem 4 (List.map eTCtx s_2) 45, .box [.vec c_0 (List.map eU8 l_0), .int .i64 (IntKind.i64.wrap ((IntKind.i64.wrap ((IntKind.i64.wrap (a_2 + x_5)) + 2)) + (IntKind.i64.wrap (y_12 * 2))))] 152]) (hH := by simp only [go_sem, seval, e_4, e_11]) (ho := ⟨(by first | rfl | simp only [go_sem, seval, e_4, e_11]), trivial⟩) ?_
       refine CallK_go (by simp) ?_
       simp only [e_4, e_7, e_8, e_9, e_11, go_sem, seval]
       obtain ⟨o_1025, h_1023, h⟩ := bindS h
       refine ALp.ref (Ref.std [0, 1, 3, 9, 11, 12, 13, 18, 19, 20, 43, 44, 45] [0, 1, 2, 3, 4, 5, 6, 7] (by decide) (by decide) rfl (by first | rfl | simp only [go_sem, seval, e_4, e_11])) (by simp) (context_reader_list_L2_w N _ _ _ _ _ _ _ _ _ _ _ _ _ c_1 c_0 c_2 c_3 c_4 c_5 c_6 N _ _ o_1025 h_1023 ?_)
       rcases o_1025 with y_1024 | _
       ·
        try dsimp only at h
        refine LoopK_go rfl (by simp) ?_
        simp only [e_4, e_7, e_8, e_9, e_11, go_sem, seval]
        rw [← hQ]
        exact ⟨_, _, (Ref.std [0, 1, 3, 9, 11, 18, 19, 20] [0, 1, 2, 3, 4, 5, 6, 7] (by decide) (by decide) rfl (by first | rfl | simp only [go_sem, seval, e_4, e_11])), (by simp), ih _ _ _ h hp⟩
       ·
        try dsimp only at h
        intro _ _ h_1026
        refine LoopK_pan ?_
        have g := Option.some.inj h
        subst g
        rw [← hQ]
        exact hp _ _ h_1026
      ·
       try dsimp only at h
       refine ACalls.panA (context_reader_row_w N _ _ _ c_0 _ h_20) [8] (v' := .iface 148 (.agg [])) (H' := [.box [.vec c_0 (List.map eU8 l_0), .int .i64 a_1] 152, .box [.vec c_2 (List.map eTSpan l_4)] 24, .box [.vec c_3 (List.map eTClass l_5)] 30, .box [.vec c_4 (List.map eTClass l_6)] 30, .box [.vec c_5 (List.map eTClass l_7)] 30, .box [.vec c_6 (List.map eTClass l_8)] 30, .box [.fn (.func 114) [] [.ptr 3 0 0], .fn (.func 114) [] [.ptr 4 0 0], .fn (.func 114) [] [.ptr 5 0 0], .bool b_9] 161, .mem 4 (List.map eTCtx s_2) 45, .dead]) (hH := by simp only [go_sem, seval, e_4, e_11]) (ho := ⟨(by first | rfl | simp only [go_sem, seval, e_4, e_11]), trivial⟩) ?_
       try simp only [CallK_pan, dCallK_pan, panK_ap]
       have g := Option.some.inj h
       subst g
       rw [← hQ]
       exact hp _ _ rfl
     ·
      try dsimp only at h
      refine ACalls.panA (context_must_w N _ _ h_16) [] (v' := .iface 148 (.agg [])) (H' := [.box [.vec c_0 (List.map eU8 l_0), .int .i64 a_1] 152, .box [.vec c_2 (List.map eTSpan l_4)] 24, .box [.vec c_3 (List.map eTClass l_5)] 30, .box [.vec c_4 (List.map eTClass l_6)] 30, .box [.vec c_5 (List.map eTClass l_7)] 30, .box [.vec c_6 (List.map eTClass l_8)] 30, .box [.fn (.func 114) [] [.ptr 3 0 0], .fn (.func 114) [] [.ptr 4 0 0], .fn (.func 114) [] [.ptr 5 0 0], .bool b_9] 161, .mem 4 (List.map eTCtx s_2) 45, .box [.vec c_0 (List.map eU8 l_0), .int .i64 (IntKind.i64.wrap ((IntKind.i64.wrap (a_2 + x_5)) + 2))] 152]) (hH := by simp only [go_sem, seval, e_4, e_11]) ?_
      try simp only [CallK_pan, dCallK_pan, panK_ap]
      have g := Option.some.inj h
      subst g
      rw [← hQ]
      exact hp _ _ rfl
    ·
     try dsimp only at h
     refine ACalls.panA (context_reader_number_w N _ _ c_0 _ h_13) [8] (v' := .iface 148 (.agg [])) (H' := [.box [.vec c_0 (List.map eU8 l_0), .int .i64 a_1] 152, .box [.vec c_2 (List.map eTSpan l_4)] 24, .box [.vec c_3 (List.map eTClass l_5)] 30, .box [.vec c_4 (List.map eTClass l_6)] 30, .box [.vec c_5 (List.map eTClass l_7)] 30, .box [.vec c_6 (List.map eTClass l_8)] 30, .box [.fn (.func 114) [] [.ptr 3 0 0], .fn (.func 114) [] [.ptr 4 0 0], .fn (.func 114) [] [.ptr 5 0 0], .bool b_9] 161, .mem 4 (List.map eTCtx s_2) 45, .dead]) (hH := by simp only [go_sem, seval, e_4, e_11]) (ho := ⟨(by first | rfl | simp only [go_sem, seval, e_4, e_11]), trivial⟩) ?_
     try simp only [CallK_pan, dCallK_pan, panK_ap]
     have g := Option.some.inj h
     subst g
     rw [← hQ]
     exact hp _ _ rfl
  ·
   rw [if_neg h_3] at h
   have e_4 := eq_false h_3
   simp only [e_4, go_sem, seval]
   have g := Option.some.inj h
   subst g
   rw [← hQ]
   exact ⟨_, _, (Ref.std [11] [0, 1, 2, 3, 4, 5, 7] (by decide) (by decide) rfl (by first | rfl | simp only [go_sem, seval])), hp⟩
theorem context_reader_list_w (N : Nat) (l_0 : List Int) (a_1 : Int) (a_2 : Int) (l_3 : List Int) (l_4 : List TSpan) (l_5 : List TClass) (l_6 : List TClass) (l_7 : List TClass) (l_8 : List TClass) (b_9 : Bool) (c_0 : Bool) (c_1 : Bool) (c_2 : Bool) (c_3 : Bool) (c_4 : Bool) (c_5 : Bool) (c_6 : Bool) (o : ((List TCtx)) ⊕ Unit) (h : context_reader_list N l_0 a_1 a_2 l_3 l_4 l_5 l_6 l_7 l_8 b_9 = some o) :
  ACalls Try.prog 109 [.ptr 0 0 0, .int .i64 a_2, .vec c_1 (List.map eI64 l_3), .fn (.func 116) [] [.ptr 1 0 0, .ptr 2 0 0], .agg [.fn (.func 114) [] [.ptr 3 0 0], .fn (.func 114) [] [.ptr 4 0 0], .fn (.func 114) [] [.ptr 5 0 0], .bool b_9]] [.box [.vec c_0 (List.map eU8 l_0), .int .i64 a_1] 152, .box [.vec c_2 (List.map eTSpan l_4)] 24, .box [.vec c_3 (List.map eTClass l_5)] 30, .box [.vec c_4 (List.map eTClass l_6)] 30, .box [.vec c_5 (List.map eTClass l_7)] 30, .box [.vec c_6 (List.map eTClass l_8)] 30] (fun e H => match o with | .inl z_1 => H = [.box [.vec c_0 (List.map eU8 l_0), .int .i64 a_1] 152, .box [.vec c_2 (List.map eTSpan l_4)] 24, .box [.vec c_3 (List.map eTClass l_5)] 30, .box [.vec c_4 (List.map eTClass l_6)] 30, .box [.vec c_5 (List.map eTClass l_7)] 30, .box [.vec c_6 (List.map eTClass l_8)] 30] ∧ e = .ret (.vec false (List.map eTCtx z_1)) | .inr _ => H = [.dead, .dead, .dead, .dead, .dead, .dead] ∧ e = .pan (.iface 148 (.agg []))) := by
 unfold context_reader_list at h
 refine ACalls.goN Try.func109 n109 a109 Try.ntmps109 r109 (by simp) 6 rfl ?_
 generalize hQ : bodyA _ _ _ = QQ
 simp only [A109, go_sem, seval]
 obtain ⟨o_1003, h_1001, h⟩ := bindS h
 refine ALp.ref (Ref.trans (Ref.thaw (by simp) 11 rfl (sz := 4) (by decide) 45) (Ref.std [0, 1, 3, 9, 11, 18, 19, 20] [0, 1, 2, 3, 4, 5, 6, 7] (by decide) (by decide) rfl (by first | rfl | simp only [go_sem, seval]))) (by simp) (context_reader_list_L3_w N _ _ _ _ _ _ _ _ _ _ c_1 c_0 c_2 c_3 c_4 c_5 c_6 N _ _ o_1003 h_1001 ?_)
 rcases o_1003 with y_1002 | _
 ·
  try dsimp only at h
  refine LoopK_go rfl (by simp) ?_
  simp only [go_sem, seval]
  have g_0 := Option.some.inj h
  subst g_0
  rw [← hQ]
  exact ⟨rfl, _, rfl, _, _, (RefV.trans (RefV.frz (by simp) (id := 6) rfl (pures_map y_1002 eTCtx (fun _ => rfl))) (RefV.std [0, 1, 2, 3, 4, 5] (by decide) (by decide) (by first | rfl | simp only [go_sem, seval]) (by first | rfl | simp only [go_sem, seval]))), rfl, rfl⟩
 ·
  try dsimp only at h
  intro _ _ h_1004
  refine LoopK_pan ?_
  have g_0 := Option.some.inj h
  subst g_0
  rw [← hQ]
  exact ⟨h_1004, _, _, RefV.dead rfl, rfl, rfl⟩
theorem context_reader_classed_w (N : Nat) (l_0 : List Int) (a_1 : Int) (a_2 : Int) (b_3 : Bool) (c_0 : Bool) (o : ((List TCtx) × Int) ⊕ Unit) (h : context_reader_classed N l_0 a_1 a_2 b_3 = some o) :
  ACalls Try.prog 97 [.ptr 0 0 0, .int .i64 a_2, .bool b_3] [.box [.vec c_0 (List.map eU8 l_0), .int .i64 a_1] 152] (fun e H => match o with | .inl (z_1, z_2) => H = [.box [.vec c_0 (List.map eU8 l_0), .int .i64 z_2] 152] ∧ e = .ret (.vec false (List.map eTCtx z_1)) | .inr _ => H = [.dead] ∧ e = .pan (.iface 148 (.agg []))) := by
 unfold context_reader_classed at h
 refine ACalls.goN Try.func97 n97 a97 Try.ntmps97 r97 (by simp) 1 rfl ?_
 generalize hQ : bodyA _ _ _ = QQ
 obtain ⟨o_3, h_2, h⟩ := bindS h
 simp only [A97, go_sem, seval]
 rcases o_3 with y_1 | _
 ·
  try dsimp only at h
  refine ACalls.useA (context_reader_row_w N _ _ _ c_0 _ h_2) [0] (v' := .vec false (List.map eI64 y_1)) (H' := [.box [.vec c_0 (List.map eU8 l_0), .int .i64 (IntKind.i64.wrap (a_1 + (IntKind.i64.wrap 2)))] 152]) ?_
  refine CallK_go (by simp) ?_
  obtain ⟨o_7, h_6, h⟩ := bindS h
  simp only [go_sem, seval]
  rcases o_7 with y_5 | _
  ·
   try dsimp only at h
   refine ACalls.useA (context_reader_covers_w N _ _ _ _ c_0 false _ h_6) [0] (v' := .vec false (List.map eTSet y_5)) (H' := [.box [.vec c_0 (List.map eU8 l_0), .int .i64 (IntKind.i64.wrap (a_1 + (IntKind.i64.wrap 2)))] 152]) ?_
   refine CallK_go (by simp) ?_
   obtain ⟨x_9, h_10, h⟩ := bindS h
   have e_11 : (List.map eTSet y_5)[0]? = some [.vec false (List.map eTSpan x_9.Spans), .bool x_9.Not] := atI_map eTSet h_10
   have e_12 := eq_true (atI_lt h_10)
   simp only [e_11, e_12, go_sem, seval]
   by_cases h_13 : b_3 = true
   ·
    rw [if_pos h_13] at h
    have e_14 : b_3 = true := h_13
    obtain ⟨o_17, h_16, h⟩ := bindS h
    simp only [e_11, e_12, e_14, go_sem, seval]
    rcases o_17 with y_15 | _
    ·
     try dsimp only at h
     refine ACalls.useA (context_reader_number_w N _ _ c_0 _ h_16) [0] (v' := .int .i64 y_15) (H' := [.box [.vec c_0 (List.map eU8 l_0), .int .i64 (IntKind.i64.wrap ((IntKind.i64.wrap (a_1 + (IntKind.i64.wrap 2))) + 2))] 152, .box [.vec false (List.map eTSpan x_9.Spans)] 24]) (hH := by simp only [go_sem, seval, e_14]) (ho := ⟨(by first | rfl | simp only [go_sem, seval, e_14]), trivial⟩) ?_
     refine CallK_go (by simp) ?_
     obtain ⟨o_21, h_20, h⟩ := bindS h
     simp only [e_11, e_12, e_14, go_sem, seval]
     rcases o_21 with y_19 | _
     ·
      try dsimp only at h
      refine ACalls.useA (context_reader_classes_w N _ _ _ _ c_0 _ h_20) [0] (v' := .vec false (List.map eTClass y_19)) (H' := [.box [.vec c_0 (List.map eU8 l_0), .int .i64 (IntKind.i64.wrap ((IntKind.i64.wrap (a_1 + (IntKind.i64.wrap 2))) + 2))] 152, .box [.vec false (List.map eTSpan x_9.Spans)] 24]) (hH := by simp only [go_sem, seval, e_14]) (ho := ⟨(by first | rfl | simp only [go_sem, seval, e_14]), trivial⟩) ?_
      refine CallK_go (by simp) ?_
      obtain ⟨o_25, h_24, h⟩ := bindS h
      simp only [e_11, e_12, e_14, go_sem, seval]
      rcases o_25 with y_23 | _
      ·
       try dsimp only at h
       refine ACalls.useA (context_reader_number_w N _ _ c_0 _ h_24) [0] (v' := .int .i64 y_23) (H' := [.box [.vec c_0 (List.map eU8 l_0), .int .i64 (IntKind.i64.wrap ((IntKind.i64.wrap ((IntKind.i64.wrap (a_1 + (IntKind.i64.wrap 2))) + 2)) + 2))] 152, .box [.vec false (List.map eTSpan x_9.Spans)] 24]) (hH := by simp only [go_sem, seval, e_14]) (ho := ⟨(by first | rfl | simp only [go_sem, seval, e_14]), trivial⟩) ?_
       refine CallK_go (by simp) ?_
       obtain ⟨o_29, h_28, h⟩ := bindS h
       simp only [e_11, e_12, e_14, go_sem, seval]
       rcases o_29 with y_27 | _
       ·
        try dsimp only at h
        refine ACalls.useA (context_reader_classes_w N _ _ _ _ c_0 _ h_28) [0] (v' := .vec false (List.map eTClass y_27)) (H' := [.box [.vec c_0 (List.map eU8 l_0), .int .i64 (IntKind.i64.wrap ((IntKind.i64.wrap ((IntKind.i64.wrap (a_1 + (IntKind.i64.wrap 2))) + 2)) + 2))] 152, .box [.vec false (List.map eTSpan x_9.Spans)] 24]) (hH := by simp only [go_sem, seval, e_14]) (ho := ⟨(by first | rfl | simp only [go_sem, seval, e_14]), trivial⟩) ?_
        refine CallK_go (by simp) ?_
        obtain ⟨o_33, h_32, h⟩ := bindS h
        simp only [e_11, e_12, e_14, go_sem, seval]
        rcases o_33 with y_31 | _
        ·
         try dsimp only at h
         refine ACalls.useA (context_reader_number_w N _ _ c_0 _ h_32) [0] (v' := .int .i64 y_31) (H' := [.box [.vec c_0 (List.map eU8 l_0), .int .i64 (IntKind.i64.wrap ((IntKind.i64.wrap ((IntKind.i64.wrap ((IntKind.i64.wrap (a_1 + (IntKind.i64.wrap 2))) + 2)) + 2)) + 2))] 152, .box [.vec false (List.map eTSpan x_9.Spans)] 24, .box [.vec false (List.map eTClass y_27)] 30]) (hH := by simp only [go_sem, seval, e_14]) (ho := ⟨(by first | rfl | simp only [go_sem, seval, e_14]), trivial⟩) ?_
         refine CallK_go (by simp) ?_
         obtain ⟨o_37, h_36, h⟩ := bindS h
         simp only [e_11, e_12, e_14, go_sem, seval]
         rcases o_37 with y_35 | _
         ·
          try dsimp only at h
          refine ACalls.useA (context_reader_classes_w N _ _ _ _ c_0 _ h_36) [0] (v' := .vec false (List.map eTClass y_35)) (H' := [.box [.vec c_0 (List.map eU8 l_0), .int .i64 (IntKind.i64.wrap ((IntKind.i64.wrap ((IntKind.i64.wrap ((IntKind.i64.wrap (a_1 + (IntKind.i64.wrap 2))) + 2)) + 2)) + 2))] 152, .box [.vec false (List.map eTSpan x_9.Spans)] 24, .box [.vec false (List.map eTClass y_27)] 30]) (hH := by simp only [go_sem, seval, e_14]) (ho := ⟨(by first | rfl | simp only [go_sem, seval, e_14]), trivial⟩) ?_
          refine CallK_go (by simp) ?_
          obtain ⟨o_41, h_40, h⟩ := bindS h
          simp only [e_11, e_12, e_14, go_sem, seval]
          rcases o_41 with y_39 | _
          ·
           try dsimp only at h
           refine ACalls.useA (context_reader_number_w N _ _ c_0 _ h_40) [0] (v' := .int .i64 y_39) (H' := [.box [.vec c_0 (List.map eU8 l_0), .int .i64 (IntKind.i64.wrap ((IntKind.i64.wrap ((IntKind.i64.wrap ((IntKind.i64.wrap ((IntKind.i64.wrap (a_1 + (IntKind.i64.wrap 2))) + 2)) + 2)) + 2)) + 2))] 152, .box [.vec false (List.map eTSpan x_9.Spans)] 24, .box [.vec false (List.map eTClass y_27)] 30]) (hH := by simp only [go_sem, seval, e_14]) (ho := ⟨(by first | rfl | simp only [go_sem, seval, e_14]), trivial⟩) ?_
           obtain ⟨o_45, h_44, h⟩ := bindS h
           simp only [e_11, e_12, e_14, go_sem, seval]
           rcases o_45 with y_43 | _
           ·
            try dsimp only at h
            refine ACalls.useA (context_reader_row_w N _ _ _ c_0 _ h_44) [0] (v' := .vec false (List.map eI64 y_43)) (H' := [.box [.vec c_0 (List.map eU8 l_0), .int .i64 (IntKind.i64.wrap ((IntKind.i64.wrap ((IntKind.i64.wrap ((IntKind.i64.wrap ((IntKind.i64.wrap ((IntKind.i64.wrap (a_1 + (IntKind.i64.wrap 2))) + 2)) + 2)) + 2)) + 2)) + (IntKind.i64.wrap (y_39 * 2))))] 152, .box [.vec false (List.map eTSpan x_9.Spans)] 24, .box [.vec false (List.map eTClass y_27)] 30]) (hH := by simp only [go_sem, seval, e_14]) (ho := ⟨(by first | rfl | simp only [go_sem, seval, e_14]), trivial⟩) ?_
            obtain ⟨_, h_47, h⟩ := bindS h
            simp only [e_11, e_12, e_14, go_sem, seval]
            refine ACalls.useA (context_reader_classed_1_w N _ false h_47) [] (v' := .fn (.func 114) [] [.ptr 3 0 0]) (H' := [.box [.vec c_0 (List.map eU8 l_0), .int .i64 (IntKind.i64.wrap ((IntKind.i64.wrap ((IntKind.i64.wrap ((IntKind.i64.wrap ((IntKind.i64.wrap ((IntKind.i64.wrap (a_1 + (IntKind.i64.wrap 2))) + 2)) + 2)) + 2)) + 2)) + (IntKind.i64.wrap (y_39 * 2))))] 152, .box [.vec false (List.map eTSpan x_9.Spans)] 24, .box [.vec false (List.map eTClass y_27)] 30, .box [.vec false (List.map eTClass y_19)] 30]) (hH := by simp only [go_sem, seval, e_14]) ?_
            obtain ⟨_, h_48, h⟩ := bindS h
            simp only [e_11, e_12, e_14, go_sem, seval]
            refine ACalls.useA (context_reader_classed_1_w N _ false h_48) [] (v' := .fn (.func 114) [] [.ptr 4 0 0]) (H' := [.box [.vec c_0 (List.map eU8 l_0), .int .i64 (IntKind.i64.wrap ((IntKind.i64.wrap ((IntKind.i64.wrap ((IntKind.i64.wrap ((IntKind.i64.wrap ((IntKind.i64.wrap (a_1 + (IntKind.i64.wrap 2))) + 2)) + 2)) + 2)) + 2)) + (IntKind.i64.wrap (y_39 * 2))))] 152, .box [.vec false (List.map eTSpan x_9.Spans)] 24, .box [.vec false (List.map eTClass y_27)] 30, .box [.vec false (List.map eTClass y_19)] 30, .box [.vec false (List.map eTClass y_27)] 30]) (hH := by simp only [go_sem, seval, e_14]) ?_
            obtain ⟨_, h_49, h⟩ := bindS h
            simp only [e_11, e_12, e_14, go_sem, seval]
            refine ACalls.useA (context_reader_classed_1_w N _ false h_49) [] (v' := .fn (.func 114) [] [.ptr 5 0 0]) (H' := [.box [.vec c_0 (List.map eU8 l_0), .int .i64 (IntKind.i64.wrap ((IntKind.i64.wrap ((IntKind.i64.wrap ((IntKind.i64.wrap ((IntKind.i64.wrap ((IntKind.i64.wrap (a_1 + (IntKind.i64.wrap 2))) + 2)) + 2)) + 2)) + 2)) + (IntKind.i64.wrap (y_39 * 2))))] 152, .box [.vec false (List.map eTSpan x_9.Spans)] 24, .box [.vec false (List.map eTClass y_27)] 30, .box [.vec false (List.map eTClass y_19)] 30, .box [.vec false (List.map eTClass y_27)] 30, .box [.vec false (List.map eTClass y_35)] 30]) (hH := by simp only [go_sem, seval, e_14]) ?_
            obtain ⟨o_52, h_51, h⟩ := bindS h
            simp only [e_11, e_12, e_14, go_sem, seval]
            rcases o_52 with y_50 | _
            ·
             try dsimp only at h
             refine ACalls.useA (context_reader_list_w N _ _ _ _ _ _ _ _ _ _ c_0 false false false false false false _ h_51) [0, 1, 2, 3, 4, 5] (v' := .vec false (List.map eTCtx y_50)) (H' := [.box [.vec c_0 (List.map eU8 l_0), .int .i64 (IntKind.i64.wrap ((IntKind.i64.wrap ((IntKind.i64.wrap ((IntKind.i64.wrap ((IntKind.i64.wrap ((IntKind.i64.wrap (a_1 + (IntKind.i64.wrap 2))) + 2)) + 2)) + 2)) + 2)) + (IntKind.i64.wrap (y_39 * 2))))] 152, .box [.vec false (List.map eTSpan x_9.Spans)] 24, .box [.vec false (List.map eTClass y_27)] 30, .box [.vec false (List.map eTClass y_19)] 30, .box [.vec false (List.map eTClass y_27)] 30, .box [.vec false (List.map eTClass y_35)] 30]) (hH := by simp only [go_sem, seval, e_14]) (ho := ⟨(by first | rfl | simp only [go_sem, seval, e_14]), (by first | rfl | simp only [go_sem, seval, e_14]), (by first | rfl | simp only [go_sem, seval, e_14]), (by first | rfl | simp only [go_sem, seval, e_14]), (by first | rfl | simp only [go_sem, seval, e_14]), (by first | rfl | simp only [go_sem, seval, e_14]), trivial⟩) ?_
             simp only [e_11, e_12, e_14, go_sem, seval]
             have g_0 := Option.some.inj h
             subst g_0
             rw [← hQ]
             exact ⟨rfl, _, rfl, _, _, (RefV.std [0] (by decide) (by decide) rfl (by first | rfl | simp only [go_sem, seval, e_14])), rfl, rfl⟩
            ·
             try dsimp only at h
             refine ACalls.panA (context_reader_list_w N _ _ _ _ _ _ _ _ _ _ c_0 false false false false false false _ h_51) [0, 1, 2, 3, 4, 5] (v' := .iface 148 (.agg [])) (H' := [.dead, .dead, .dead, .dead, .dead, .dead]) (hH := by simp only [go_sem, seval, e_14]) (ho := ⟨(by first | rfl | simp only [go_sem, seval, e_14]), (by first | rfl | simp only [go_sem, seval, e_14]), (by first | rfl | simp only [go_sem, seval, e_14]), (by first | rfl | simp only [go_sem, seval, e_14]), (by first | rfl | simp only [go_sem, seval, e_14]), (by first | rfl | simp only [go_sem, seval, e_14]), trivial⟩) ?_
             try simp only [CallK_pan, dCallK_pan, panK_ap]
             have g_0 := Option.some.inj h
             subst g_0
             rw [← hQ]
             exact ⟨rfl, _, _, RefV.dead rfl, rfl, rfl⟩
           ·
            try dsimp only at h
            refine ACalls.panA (context_reader_row_w N _ _ _ c_0 _ h_44) [0] (v' := .iface 148 (.agg [])) (H' := [.dead, .box [.vec false (List.map eTSpan x_9.Spans)] 24, .box [.vec false (List.map eTClass y_27)] 30]) (hH := by simp only [go_sem, seval, e_14]) (ho := ⟨(by first | rfl | simp only [go_sem, seval, e_14]), trivial⟩) ?_
            try simp only [CallK_pan, dCallK_pan, panK_ap]
            have g_0 := Option.some.inj h
            subst g_0
            rw [← hQ]
            exact ⟨rfl, _, _, RefV.dead rfl, rfl, rfl⟩
          ·
           try dsimp only at h
           refine ACalls.panA (context_reader_number_w N _ _ c_0 _ h_40) [0] (v' := .iface 148 (.agg [])) (H' := [.dead, .box [.vec false (List.map eTSpan x_9.Spans)] 24, .box [.vec false (List.map eTClass y_27)] 30]) (hH := by simp only [go_sem, seval, e_14]) (ho := ⟨(by first | rfl | simp only [go_sem, seval, e_14]), trivial⟩) ?_
           try simp only [CallK_pan, dCallK_pan, panK_ap]
           have g_0 := Option.some.inj h
           subst g_0
           rw [← hQ]
           exact ⟨rfl, _, _, RefV.dead rfl, rfl, rfl⟩
         ·
          try dsimp only at h
          refine ACalls.panA (context_reader_classes_w N _ _ _ _ c_0 _ h_36) [0] (v' := .iface 148 (.agg [])) (H' := [.dead, .box [.vec false (List.map eTSpan x_9.Spans)] 24, .box [.vec false (List.map eTClass y_27)] 30]) (hH := by simp only [go_sem, seval, e_14]) (ho := ⟨(by first | rfl | simp only [go_sem, seval, e_14]), trivial⟩) ?_
          try simp only [CallK_pan, dCallK_pan, panK_ap]
          have g_0 := Option.some.inj h
          subst g_0
          rw [← hQ]
          exact ⟨rfl, _, _, RefV.dead rfl, rfl, rfl⟩
        ·
         try dsimp only at h
         refine ACalls.panA (context_reader_number_w N _ _ c_0 _ h_32) [0] (v' := .iface 148 (.agg [])) (H' := [.dead, .box [.vec false (List.map eTSpan x_9.Spans)] 24, .box [.vec false (List.map eTClass y_27)] 30]) (hH := by simp only [go_sem, seval, e_14]) (ho := ⟨(by first | rfl | simp only [go_sem, seval, e_14]), trivial⟩) ?_
         try simp only [CallK_pan, dCallK_pan, panK_ap]
         have g_0 := Option.some.inj h
         subst g_0
         rw [← hQ]
         exact ⟨rfl, _, _, RefV.dead rfl, rfl, rfl⟩
       ·
        try dsimp only at h
        refine ACalls.panA (context_reader_classes_w N _ _ _ _ c_0 _ h_28) [0] (v' := .iface 148 (.agg [])) (H' := [.dead, .box [.vec false (List.map eTSpan x_9.Spans)] 24]) (hH := by simp only [go_sem, seval, e_14]) (ho := ⟨(by first | rfl | simp only [go_sem, seval, e_14]), trivial⟩) ?_
        try simp only [CallK_pan, dCallK_pan, panK_ap]
        have g_0 := Option.some.inj h
        subst g_0
        rw [← hQ]
        exact ⟨rfl, _, _, RefV.dead rfl, rfl, rfl⟩
      ·
       try dsimp only at h
       refine ACalls.panA (context_reader_number_w N _ _ c_0 _ h_24) [0] (v' := .iface 148 (.agg [])) (H' := [.dead, .box [.vec false (List.map eTSpan x_9.Spans)] 24]) (hH := by simp only [go_sem, seval, e_14]) (ho := ⟨(by first | rfl | simp only [go_sem, seval, e_14]), trivial⟩) ?_
       try simp only [CallK_pan, dCallK_pan, panK_ap]
       have g_0 := Option.some.inj h
       subst g_0
       rw [← hQ]
       exact ⟨rfl, _, _, RefV.dead rfl, rfl, rfl⟩
     ·
      try dsimp only at h
      refine ACalls.panA (context_reader_classes_w N _ _ _ _ c_0 _ h_20) [0] (v' := .iface 148 (.agg [])) (H' := [.dead, .box [.vec false (List.map eTSpan x_9.Spans)] 24]) (hH := by simp only [go_sem, seval, e_14]) (ho := ⟨(by first | rfl | simp only [go_sem, seval, e_14]), trivial⟩) ?_
      try simp only [CallK_pan, dCallK_pan, panK_ap]
      have g_0 := Option.some.inj h
      subst g_0
      rw [← hQ]
      exact ⟨rfl, _, _, RefV.dead rfl, rfl, rfl⟩
    ·
     try dsimp only at h
     refine ACalls.panA (context_reader_number_w N _ _ c_0 _ h_16) [0] (v' := .iface 148 (.agg [])) (H' := [.dead, .box [.vec false (List.map eTSpan x_9.Spans)] 24]) (hH := by simp only [go_sem, seval, e_14]) (ho := ⟨(by first | rfl | simp only [go_sem, seval, e_14]), trivial⟩) ?_
     try simp only [CallK_pan, dCallK_pan, panK_ap]
     have g_0 := Option.some.inj h
     subst g_0
     rw [← hQ]
     exact ⟨rfl, _, _, RefV.dead rfl, rfl, rfl⟩
   ·
    rw [if_neg h_13] at h
    have e_14 : b_3 = false := bfalse h_13
    obtain ⟨o_56, h_55, h⟩ := bindS h
    simp only [e_11, e_12, e_14, go_sem, seval]
    rcases o_56 with y_54 | _
    ·
     try dsimp only at h
     refine ACalls.useA (context_reader_number_w N _ _ c_0 _ h_55) [0] (v' := .int .i64 y_54) (H' := [.box [.vec c_0 (List.map eU8 l_0), .int .i64 (IntKind.i64.wrap ((IntKind.i64.wrap (a_1 + (IntKind.i64.wrap 2))) + 2))] 152, .box [.vec false (List.map eTSpan x_9.Spans)] 24]) (hH := by simp only [go_sem, seval, e_14]) (ho := ⟨(by first | rfl | simp only [go_sem, seval, e_14]), trivial⟩) ?_
     refine CallK_go (by simp) ?_
     obtain ⟨o_60, h_59, h⟩ := bindS h
     simp only [e_11, e_12, e_14, go_sem, seval]
     rcases o_60 with y_58 | _
     ·
      try dsimp only at h
      refine ACalls.useA (context_reader_classes_w N _ _ _ _ c_0 _ h_59) [0] (v' := .vec false (List.map eTClass y_58)) (H' := [.box [.vec c_0 (List.map eU8 l_0), .int .i64 (IntKind.i64.wrap ((IntKind.i64.wrap (a_1 + (IntKind.i64.wrap 2))) + 2))] 152, .box [.vec false (List.map eTSpan x_9.Spans)] 24]) (hH := by simp only [go_sem, seval, e_14]) (ho := ⟨(by first | rfl | simp only [go_sem, seval, e_14]), trivial⟩) ?_
      refine CallK_go (by simp) ?_
      obtain ⟨o_64, h_63, h⟩ := bindS h
      simp only [e_11, e_12, e_14, go_sem, seval]
      rcases o_64 with y_62 | _
      ·
       try dsimp only at h
       refine ACalls.useA (context_reader_number_w N _ _ c_0 _ h_63) [0] (v' := .int .i64 y_62) (H' := [.box [.vec c_0 (List.map eU8 l_0), .int .i64 (IntKind.i64.wrap ((IntKind.i64.wrap ((IntKind.i64.wrap (a_1 + (IntKind.i64.wrap 2))) + 2)) + 2))] 152, .box [.vec false (List.map eTSpan x_9.Spans)] 24, .box [.vec false (List.map eTClass y_58)] 30]) (hH := by simp only [go_sem, seval, e_14]) (ho := ⟨(by first | rfl | simp only [go_sem, seval, e_14]), trivial⟩) ?_
       obtain ⟨o_68, h_67, h⟩ := bindS h
       simp only [e_11, e_12, e_14, go_sem, seval]
       rcases o_68 with y_66 | _
       ·
        try dsimp only at h
        refine ACalls.useA (context_reader_row_w N _ _ _ c_0 _ h_67) [0] (v' := .vec false (List.map eI64 y_66)) (H' := [.box [.vec c_0 (List.map eU8 l_0), .int .i64 (IntKind.i64.wrap ((IntKind.i64.wrap ((IntKind.i64.wrap ((IntKind.i64.wrap (a_1 + (IntKind.i64.wrap 2))) + 2)) + 2)) + (IntKind.i64.wrap (y_62 * 2))))] 152, .box [.vec false (List.map eTSpan x_9.Spans)] 24, .box [.vec false (List.map eTClass y_58)] 30]) (hH := by simp only [go_sem, seval, e_14]) (ho := ⟨(by first | rfl | simp only [go_sem, seval, e_14]), trivial⟩) ?_
        obtain ⟨_, h_70, h⟩ := bindS h
        simp only [e_11, e_12, e_14, go_sem, seval]
        refine ACalls.useA (context_reader_classed_1_w N _ true h_70) [] (v' := .fn (.func 114) [] [.ptr 3 0 0]) (H' := [.box [.vec c_0 (List.map eU8 l_0), .int .i64 (IntKind.i64.wrap ((IntKind.i64.wrap ((IntKind.i64.wrap ((IntKind.i64.wrap (a_1 + (IntKind.i64.wrap 2))) + 2)) + 2)) + (IntKind.i64.wrap (y_62 * 2))))] 152, .box [.vec false (List.map eTSpan x_9.Spans)] 24, .box [.vec false (List.map eTClass y_58)] 30, .box [.vec true (List.map eTClass ([]))] 30]) (hH := by simp only [go_sem, seval, e_14]) ?_
        obtain ⟨_, h_71, h⟩ := bindS h
        simp only [e_11, e_12, e_14, go_sem, seval]
        refine ACalls.useA (context_reader_classed_1_w N _ false h_71) [] (v' := .fn (.func 114) [] [.ptr 4 0 0]) (H' := [.box [.vec c_0 (List.map eU8 l_0), .int .i64 (IntKind.i64.wrap ((IntKind.i64.wrap ((IntKind.i64.wrap ((IntKind.i64.wrap (a_1 + (IntKind.i64.wrap 2))) + 2)) + 2)) + (IntKind.i64.wrap (y_62 * 2))))] 152, .box [.vec false (List.map eTSpan x_9.Spans)] 24, .box [.vec false (List.map eTClass y_58)] 30, .box [.vec true (List.map eTClass ([]))] 30, .box [.vec false (List.map eTClass y_58)] 30]) (hH := by simp only [go_sem, seval, e_14]) ?_
        obtain ⟨_, h_72, h⟩ := bindS h
        simp only [e_11, e_12, e_14, go_sem, seval]
        refine ACalls.useA (context_reader_classed_1_w N _ true h_72) [] (v' := .fn (.func 114) [] [.ptr 5 0 0]) (H' := [.box [.vec c_0 (List.map eU8 l_0), .int .i64 (IntKind.i64.wrap ((IntKind.i64.wrap ((IntKind.i64.wrap ((IntKind.i64.wrap (a_1 + (IntKind.i64.wrap 2))) + 2)) + 2)) + (IntKind.i64.wrap (y_62 * 2))))] 152, .box [.vec false (List.map eTSpan x_9.Spans)] 24, .box [.vec false (List.map eTClass y_58)] 30, .box [.vec true (List.map eTClass ([]))] 30, .box [.vec false (List.map eTClass y_58)] 30, .box [.vec true (List.map eTClass ([]))] 30]) (hH := by simp only [go_sem, seval, e_14]) ?_
        obtain ⟨o_75, h_74, h⟩ := bindS h
        simp only [e_11, e_12, e_14, go_sem, seval]
        rcases o_75 with y_73 | _
        ·
         try dsimp only at h
         refine ACalls.useA (context_reader_list_w N _ _ _ _ _ _ _ _ _ _ c_0 false false false true false true _ h_74) [0, 1, 2, 3, 4, 5] (v' := .vec false (List.map eTCtx y_73)) (H' := [.box [.vec c_0 (List.map eU8 l_0), .int .i64 (IntKind.i64.wrap ((IntKind.i64.wrap ((IntKind.i64.wrap ((IntKind.i64.wrap (a_1 + (IntKind.i64.wrap 2))) + 2)) + 2)) + (IntKind.i64.wrap (y_62 * 2))))] 152, .box [.vec false (List.map eTSpan x_9.Spans)] 24, .box [.vec false (List.map eTClass y_58)] 30, .box [.vec true (List.map eTClass ([]))] 30, .box [.vec false (List.map eTClass y_58)] 30, .box [.vec true (List.map eTClass ([]))] 30]) (hH := by simp only [go_sem, seval, e_14]) (ho := ⟨(by first | rfl | simp only [go_sem, seval, e_14]), (by first | rfl | simp only [go_sem, seval, e_14]), (by first | rfl | simp only [go_sem, seval, e_14]), (by first | rfl | simp only [go_sem, seval, e_14]), (by first | rfl | simp only [go_sem, seval, e_14]), (by first | rfl | simp only [go_sem, seval, e_14]), trivial⟩) ?_
         simp only [e_11, e_12, e_14, go_sem, seval]
         have g_0 := Option.some.inj h
         subst g_0
         rw [← hQ]
         exact ⟨rfl, _, rfl, _, _, (RefV.std [0] (by decide) (by decide) rfl (by first | rfl | simp only [go_sem, seval, e_14])), rfl, rfl⟩
        ·
         try dsimp only at h
         refine ACalls.panA (context_reader_list_w N _ _ _ _ _ _ _ _ _ _ c_0 false false false true false true _ h_74) [0, 1, 2, 3, 4, 5] (v' := .iface 148 (.agg [])) (H' := [.dead, .dead, .dead, .dead, .dead, .dead]) (hH := by simp only [go_sem, seval, e_14]) (ho := ⟨(by first | rfl | simp only [go_sem, seval, e_14]), (by first | rfl | simp only [go_sem, seval, e_14]), (by first | rfl | simp only [go_sem, seval, e_14]), (by first | rfl | simp only [go_sem, seval, e_14]), (by first | rfl | simp only [go_sem, seval, e_14]), (by first | rfl | simp only [go_sem, seval, e_14]), trivial⟩) ?_
         try simp only [CallK_pan, dCallK_pan, panK_ap]
         have g_0 := Option.some.inj h
         subst g_0
         rw [← hQ]
         exact ⟨rfl, _, _, RefV.dead rfl, rfl, rfl⟩
       ·
        try dsimp only at h
        refine ACalls.panA (context_reader_row_w N _ _ _ c_0 _ h_67) [0] (v' := .iface 148 (.agg [])) (H' := [.dead, .box [.vec false (List.map eTSpan x_9.Spans)] 24, .box [.vec false (List.map eTClass y_58)] 30]) (hH := by simp only [go_sem, seval, e_14]) (ho := ⟨(by first | rfl | simp only [go_sem, seval, e_14]), trivial⟩) ?_
        try simp only [CallK_pan, dCallK_pan, panK_ap]
        have g_0 := Option.some.inj h
        subst g_0
        rw [← hQ]
        exact ⟨rfl, _, _, RefV.dead rfl, rfl, rfl⟩
      ·
       try dsimp only at h
       refine ACalls.panA (context_reader_number_w N _ _ c_0 _ h_63) [0] (v' := .iface 148 (.agg [])) (H' := [.dead, .box [.vec false (List.map eTSpan x_9.Spans)] 24, .box [.vec false (List.map eTClass y_58)] 30]) (hH := by simp only [go_sem, seval, e_14]) (ho := ⟨(by first | rfl | simp only [go_sem, seval, e_14]), trivial⟩) ?_
       try simp only [CallK_pan, dCallK_pan, panK_ap]
       have g_0 := Option.some.inj h
       subst g_0
       rw [← hQ]
       exact ⟨rfl, _, _, RefV.dead rfl, rfl, rfl⟩
     ·
      try dsimp only at h
      refine ACalls.panA (context_reader_classes_w N _ _ _ _ c_0 _ h_59) [0] (v' := .iface 148 (.agg [])) (H' := [.dead, .box [.vec false (List.map eTSpan x_9.Spans)] 24]) (hH := by simp only [go_sem, seval, e_14]) (ho := ⟨(by first | rfl | simp only [go_sem, seval, e_14]), trivial⟩) ?_
      try simp only [CallK_pan, dCallK_pan, panK_ap]
      have g_0 := Option.some.inj h
      subst g_0
      rw [← hQ]
      exact ⟨rfl, _, _, RefV.dead rfl, rfl, rfl⟩
    ·
     try dsimp only at h
     refine ACalls.panA (context_reader_number_w N _ _ c_0 _ h_55) [0] (v' := .iface 148 (.agg [])) (H' := [.dead, .box [.vec false (List.map eTSpan x_9.Spans)] 24]) (hH := by simp only [go_sem, seval, e_14]) (ho := ⟨(by first | rfl | simp only [go_sem, seval, e_14]), trivial⟩) ?_
     try simp only [CallK_pan, dCallK_pan, panK_ap]
     have g_0 := Option.some.inj h
     subst g_0
     rw [← hQ]
     exact ⟨rfl, _, _, RefV.dead rfl, rfl, rfl⟩
  ·
   try dsimp only at h
   refine ACalls.panA (context_reader_covers_w N _ _ _ _ c_0 false _ h_6) [0] (v' := .iface 148 (.agg [])) (H' := [.dead]) ?_
   try simp only [CallK_pan, dCallK_pan, panK_ap]
   have g_0 := Option.some.inj h
   subst g_0
   rw [← hQ]
   exact ⟨rfl, _, _, RefV.dead rfl, rfl, rfl⟩
 ·
  try dsimp only at h
  refine ACalls.panA (context_reader_row_w N _ _ _ c_0 _ h_2) [0] (v' := .iface 148 (.agg [])) (H' := [.dead]) ?_
  try simp only [CallK_pan, dCallK_pan, panK_ap]
  have g_0 := Option.some.inj h
  subst g_0
  rw [← hQ]
  exact ⟨rfl, _, _, RefV.dead rfl, rfl, rfl⟩
theorem context_reader_covered_w (N : Nat) (l_0 : List Int) (a_1 : Int) (a_2 : Int) (b_3 : Bool) (c_0 : Bool) (o : ((List TCtx) × Int) ⊕ Unit) (h : context_reader_covered N l_0 a_1 a_2 b_3 = some o) :
  ACalls Try.prog 98 [.ptr 0 0 0, .int .i64 a_2, .bool b_3] [.box [.vec c_0 (List.map eU8 l_0), .int .i64 a_1] 152] (fun e H => match o with | .inl (z_1, z_2) => H = [.box [.vec c_0 (List.map eU8 l_0), .int .i64 z_2] 152] ∧ e = .ret (.vec false (List.map eTCtx z_1)) | .inr _ => H = [.dead] ∧ e = .pan (.iface 148 (.agg []))) := by
 unfold context_reader_covered at h
 refine ACalls.goN Try.func98 n98 a98 Try.ntmps98 r98 (by simp) 1 rfl ?_
 generalize hQ : bodyA _ _ _ = QQ
 simp only [A98, go_sem, seval]
 by_cases h_1 : b_3 = true
 ·
  rw [if_pos h_1] at h
  have e_2 : b_3 = true := h_1
  obtain ⟨o_5, h_4, h⟩ := bindS h
  simp only [e_2, go_sem, seval]
  rcases o_5 with y_3 | _
  ·
   try dsimp only at h
   refine ACalls.useA (context_reader_count_w N _ _ _ _ c_0 _ h_4) [0] (v' := .int .i64 y_3) (H' := [.box [.vec c_0 (List.map eU8 l_0), .int .i64 (IntKind.i64.wrap (a_1 + 2))] 152, .box [nn, nn, nn, nn] 45]) (hH := by simp only [go_sem, seval, e_2]) (ho := ⟨(by first | rfl | simp only [go_sem, seval, e_2]), trivial⟩) ?_
   refine CallK_go (by simp) ?_
   obtain ⟨o_9, h_8, h⟩ := bindS h
   simp only [e_2, go_sem, seval]
   rcases o_9 with y_7 | _
   ·
    try dsimp only at h
    refine ACalls.useA (context_reader_row_w N _ _ _ c_0 _ h_8) [0] (v' := .vec false (List.map eI64 y_7)) (H' := [.box [.vec c_0 (List.map eU8 l_0), .int .i64 (IntKind.i64.wrap ((IntKind.i64.wrap (a_1 + 2)) + (IntKind.i64.wrap (y_3 * 2))))] 152, .box [nn, nn, nn, nn] 45]) (hH := by simp only [go_sem, seval, e_2]) (ho := ⟨(by first | rfl | simp only [go_sem, seval, e_2]), trivial⟩) ?_
    refine CallK_go (by simp) ?_
    obtain ⟨o_13, h_12, h⟩ := bindS h
    simp only [e_2, go_sem, seval]
    rcases o_13 with y_11 | _
    ·
     try dsimp only at h
     refine ACalls.useA (context_reader_covers_w N _ _ _ _ c_0 false _ h_12) [0] (v' := .vec false (List.map eTSet y_11)) (H' := [.box [.vec c_0 (List.map eU8 l_0), .int .i64 (IntKind.i64.wrap ((IntKind.i64.wrap (a_1 + 2)) + (IntKind.i64.wrap (y_3 * 2))))] 152, .box [nn, nn, nn, nn] 45]) (hH := by simp only [go_sem, seval, e_2]) (ho := ⟨(by first | rfl | simp only [go_sem, seval, e_2]), trivial⟩) ?_
     refine CallK_go (by simp) ?_
     obtain ⟨o_17, h_16, h⟩ := bindS h
     simp only [e_2, go_sem, seval]
     rcases o_17 with y_15 | _
     ·
      try dsimp only at h
      refine ACalls.useA (context_reader_count_w N _ _ _ _ c_0 _ h_16) [0] (v' := .int .i64 y_15) (H' := [.box [.vec c_0 (List.map eU8 l_0), .int .i64 (IntKind.i64.wrap ((IntKind.i64.wrap ((IntKind.i64.wrap (a_1 + 2)) + (IntKind.i64.wrap (y_3 * 2)))) + 2))] 152, .box [.vec false (List.map eTSet y_11), nn, nn, nn] 45]) (hH := by simp only [go_sem, seval, e_2]) (ho := ⟨(by first | rfl | simp only [go_sem, seval, e_2]), trivial⟩) ?_
      refine CallK_go (by simp) ?_
      obtain ⟨o_21, h_20, h⟩ := bindS h
      simp only [e_2, go_sem, seval]
      rcases o_21 with y_19 | _
      ·
       try dsimp only at h
       refine ACalls.useA (context_reader_row_w N _ _ _ c_0 _ h_20) [0] (v' := .vec false (List.map eI64 y_19)) (H' := [.box [.vec c_0 (List.map eU8 l_0), .int .i64 (IntKind.i64.wrap ((IntKind.i64.wrap ((IntKind.i64.wrap ((IntKind.i64.wrap (a_1 + 2)) + (IntKind.i64.wrap (y_3 * 2)))) + 2)) + (IntKind.i64.wrap (y_15 * 2))))] 152, .box [.vec false (List.map eTSet y_11), nn, nn, nn] 45]) (hH := by simp only [go_sem, seval, e_2]) (ho := ⟨(by first | rfl | simp only [go_sem, seval, e_2]), trivial⟩) ?_
       refine CallK_go (by simp) ?_
       obtain ⟨o_25, h_24, h⟩ := bindS h
       simp only [e_2, go_sem, seval]
       rcases o_25 with y_23 | _
       ·
        try dsimp only at h
        refine ACalls.useA (context_reader_covers_w N _ _ _ _ c_0 false _ h_24) [0] (v' := .vec false (List.map eTSet y_23)) (H' := [.box [.vec c_0 (List.map eU8 l_0), .int .i64 (IntKind.i64.wrap ((IntKind.i64.wrap ((IntKind.i64.wrap ((IntKind.i64.wrap (a_1 + 2)) + (IntKind.i64.wrap (y_3 * 2)))) + 2)) + (IntKind.i64.wrap (y_15 * 2))))] 152, .box [.vec false (List.map eTSet y_11), nn, nn, nn] 45]) (hH := by simp only [go_sem, seval, e_2]) (ho := ⟨(by first | rfl | simp only [go_sem, seval, e_2]), trivial⟩) ?_
        refine CallK_go (by simp) ?_
        obtain ⟨o_29, h_28, h⟩ := bindS h
        simp only [e_2, go_sem, seval]
        rcases o_29 with y_27 | _
        ·
         try dsimp only at h
         refine ACalls.useA (context_reader_count_w N _ _ _ _ c_0 _ h_28) [0] (v' := .int .i64 y_27) (H' := [.box [.vec c_0 (List.map eU8 l_0), .int .i64 (IntKind.i64.wrap ((IntKind.i64.wrap ((IntKind.i64.wrap ((IntKind.i64.wrap ((IntKind.i64.wrap (a_1 + 2)) + (IntKind.i64.wrap (y_3 * 2)))) + 2)) + (IntKind.i64.wrap (y_15 * 2)))) + 2))] 152, .box [.vec false (List.map eTSet y_11), .vec false (List.map eTSet y_23), nn, nn] 45]) (hH := by simp only [go_sem, seval, e_2]) (ho := ⟨(by first | rfl | simp only [go_sem, seval, e_2]), trivial⟩) ?_
         refine CallK_go (by simp) ?_
         obtain ⟨o_33, h_32, h⟩ := bindS h
         simp only [e_2, go_sem, seval]
         rcases o_33 with y_31 | _
         ·
          try dsimp only at h
          refine ACalls.useA (context_reader_row_w N _ _ _ c_0 _ h_32) [0] (v' := .vec false (List.map eI64 y_31)) (H' := [.box [.vec c_0 (List.map eU8 l_0), .int .i64 (IntKind.i64.wrap ((IntKind.i64.wrap ((IntKind.i64.wrap ((IntKind.i64.wrap ((IntKind.i64.wrap ((IntKind.i64.wrap (a_1 + 2)) + (IntKind.i64.wrap (y_3 * 2)))) + 2)) + (IntKind.i64.wrap (y_15 * 2)))) + 2)) + (IntKind.i64.wrap (y_27 * 2))))] 152, .box [.vec false (List.map eTSet y_11), .vec false (List.map eTSet y_23), nn, nn] 45]) (hH := by simp only [go_sem, seval, e_2]) (ho := ⟨(by first | rfl | simp only [go_sem, seval, e_2]), trivial⟩) ?_
          refine CallK_go (by simp) ?_
          obtain ⟨o_37, h_36, h⟩ := bindS h
          simp only [e_2, go_sem, seval]
          rcases o_37 with y_35 | _
          ·
           try dsimp only at h
           refine ACalls.useA (context_reader_covers_w N _ _ _ _ c_0 false _ h_36) [0] (v' := .vec false (List.map eTSet y_35)) (H' := [.box [.vec c_0 (List.map eU8 l_0), .int .i64 (IntKind.i64.wrap ((IntKind.i64.wrap ((IntKind.i64.wrap ((IntKind.i64.wrap ((IntKind.i64.wrap ((IntKind.i64.wrap (a_1 + 2)) + (IntKind.i64.wrap (y_3 * 2)))) + 2)) + (IntKind.i64.wrap (y_15 * 2)))) + 2)) + (IntKind.i64.wrap (y_27 * 2))))] 152, .box [.vec false (List.map eTSet y_11), .vec false (List.map eTSet y_23), nn, nn] 45]) (hH := by simp only [go_sem, seval, e_2]) (ho := ⟨(by first | rfl | simp only [go_sem, seval, e_2]), trivial⟩) ?_
           refine CallK_go (by simp) ?_
           obtain ⟨o_41, h_40, h⟩ := bindS h
           simp only [e_2, go_sem, seval]
           rcases o_41 with y_39 | _
           ·
            try dsimp only at h
            refine ACalls.useA (context_reader_count_w N _ _ _ _ c_0 _ h_40) [0] (v' := .int .i64 y_39) (H' := [.box [.vec c_0 (List.map eU8 l_0), .int .i64 (IntKind.i64.wrap ((IntKind.i64.wrap ((IntKind.i64.wrap ((IntKind.i64.wrap ((IntKind.i64.wrap ((IntKind.i64.wrap ((IntKind.i64.wrap (a_1 + 2)) + (IntKind.i64.wrap (y_3 * 2)))) + 2)) + (IntKind.i64.wrap (y_15 * 2)))) + 2)) + (IntKind.i64.wrap (y_27 * 2)))) + 2))] 152, .box [.vec false (List.map eTSet y_11), .vec false (List.map eTSet y_23), .vec false (List.map eTSet y_35), nn] 45]) (hH := by simp only [go_sem, seval, e_2]) (ho := ⟨(by first | rfl | simp only [go_sem, seval, e_2]), trivial⟩) ?_
            obtain ⟨o_46, h_45, h⟩ := bindS h
            simp only [e_2, go_sem, seval]
            rcases o_46 with ⟨y_43, y_44⟩ | _
            ·
             try dsimp only at h
             refine ACalls.useA (context_reader_acts_w N _ _ _ _ c_0 _ h_45) [0] (v' := .vec false (List.map eTAct y_43)) (H' := [.box [.vec c_0 (List.map eU8 l_0), .int .i64 y_44] 152, .box [.vec false (List.map eTSet y_11), .vec false (List.map eTSet y_23), .vec false (List.map eTSet y_35), nn] 45]) (hH := by simp only [go_sem, seval, e_2]) (ho := ⟨(by first | rfl | simp only [go_sem, seval, e_2]), trivial⟩) ?_
             simp only [e_2, go_sem, seval]
             have g_0 := Option.some.inj h
             subst g_0
             rw [← hQ]
             exact ⟨rfl, _, rfl, _, _, (RefV.trans (RefV.std (v' := .vec true [[.vec false (List.map eTSet y_11), .vec false (List.map eTSet y_23), .vec false (List.map eTSet y_35), .vec false (List.map eTAct y_43)]]) [0] (by decide) (by decide) rfl (by first | rfl | simp only [go_sem, seval, e_2])) (RefV.weak (Wks.cons Wk.vec Wks.nil) (WkH.refl _))), rfl, rfl⟩
            ·
             try dsimp only at h
             refine ACalls.panA (context_reader_acts_w N _ _ _ _ c_0 _ h_45) [0] (v' := .iface 148 (.agg [])) (H' := [.dead, .box [.vec false (List.map eTSet y_11), .vec false (List.map eTSet y_23), .vec false (List.map eTSet y_35), nn] 45]) (hH := by simp only [go_sem, seval, e_2]) (ho := ⟨(by first | rfl | simp only [go_sem, seval, e_2]), trivial⟩) ?_
             try simp only [CallK_pan, dCallK_pan, panK_ap]
             have g_0 := Option.some.inj h
             subst g_0
             rw [← hQ]
             exact ⟨rfl, _, _, RefV.dead rfl, rfl, rfl⟩
           ·
            try dsimp only at h
            refine ACalls.panA (context_reader_count_w N _ _ _ _ c_0 _ h_40) [0] (v' := .iface 148 (.agg [])) (H' := [.dead, .box [.vec false (List.map eTSet y_11), .vec false (List.map eTSet y_23), .vec false (List.map eTSet y_35), nn] 45]) (hH := by simp only [go_sem, seval, e_2]) (ho := ⟨(by first | rfl | simp only [go_sem, seval, e_2]), trivial⟩) ?_
            try simp only [CallK_pan, dCallK_pan, panK_ap]
            have g_0 := Option.some.inj h
            subst g_0
            rw [← hQ]
            exact ⟨rfl, _, _, RefV.dead rfl, rfl, rfl⟩
          ·
           try dsimp only at h
           refine ACalls.panA (context_reader_covers_w N _ _ _ _ c_0 false _ h_36) [0] (v' := .iface 148 (.agg [])) (H' := [.dead, .box [.vec false (List.map eTSet y_11), .vec false (List.map eTSet y_23), nn, nn] 45]) (hH := by simp only [go_sem, seval, e_2]) (ho := ⟨(by first | rfl | simp only [go_sem, seval, e_2]), trivial⟩) ?_
           try simp only [CallK_pan, dCallK_pan, panK_ap]
           have g_0 := Option.some.inj h
           subst g_0
           rw [← hQ]
           exact ⟨rfl, _, _, RefV.dead rfl, rfl, rfl⟩
         ·
          try dsimp only at h
          refine ACalls.panA (context_reader_row_w N _ _ _ c_0 _ h_32) [0] (v' := .iface 148 (.agg [])) (H' := [.dead, .box [.vec false (List.map eTSet y_11), .vec false (List.map eTSet y_23), nn, nn] 45]) (hH := by simp only [go_sem, seval, e_2]) (ho := ⟨(by first | rfl | simp only [go_sem, seval, e_2]), trivial⟩) ?_
          try simp only [CallK_pan, dCallK_pan, panK_ap]
          have g_0 := Option.some.inj h
          subst g_0
          rw [← hQ]
          exact ⟨rfl, _, _, RefV.dead rfl, rfl, rfl⟩
        ·
         try dsimp only at h
         refine ACalls.panA (context_reader_count_w N _ _ _ _ c_0 _ h_28) [0] (v' := .iface 148 (.agg [])) (H' := [.dead, .box [.vec false (List.map eTSet y_11), .vec false (List.map eTSet y_23), nn, nn] 45]) (hH := by simp only [go_sem, seval, e_2]) (ho := ⟨(by first | rfl | simp only [go_sem, seval, e_2]), trivial⟩) ?_
         try simp only [CallK_pan, dCallK_pan, panK_ap]
         have g_0 := Option.some.inj h
         subst g_0
         rw [← hQ]
         exact ⟨rfl, _, _, RefV.dead rfl, rfl, rfl⟩
       ·
        try dsimp only at h
        refine ACalls.panA (context_reader_covers_w N _ _ _ _ c_0 false _ h_24) [0] (v' := .iface 148 (.agg [])) (H' := [.dead, .box [.vec false (List.map eTSet y_11), nn, nn, nn] 45]) (hH := by simp only [go_sem, seval, e_2]) (ho := ⟨(by first | rfl | simp only [go_sem, seval, e_2]), trivial⟩) ?_
        try simp only [CallK_pan, dCallK_pan, panK_ap]
        have g_0 := Option.some.inj h
        subst g_0
        rw [← hQ]
        exact ⟨rfl, _, _, RefV.dead rfl, rfl, rfl⟩
      ·
       try dsimp only at h
       refine ACalls.panA (context_reader_row_w N _ _ _ c_0 _ h_20) [0] (v' := .iface 148 (.agg [])) (H' := [.dead, .box [.vec false (List.map eTSet y_11), nn, nn, nn] 45]) (hH := by simp only [go_sem, seval, e_2]) (ho := ⟨(by first | rfl | simp only [go_sem, seval, e_2]), trivial⟩) ?_
       try simp only [CallK_pan, dCallK_pan, panK_ap]
       have g_0 := Option.some.inj h
       subst g_0
       rw [← hQ]
       exact ⟨rfl, _, _, RefV.dead rfl, rfl, rfl⟩
     ·
      try dsimp only at h
      refine ACalls.panA (context_reader_count_w N _ _ _ _ c_0 _ h_16) [0] (v' := .iface 148 (.agg [])) (H' := [.dead, .box [.vec false (List.map eTSet y_11), nn, nn, nn] 45]) (hH := by simp only [go_sem, seval, e_2]) (ho := ⟨(by first | rfl | simp only [go_sem, seval, e_2]), trivial⟩) ?_
      try simp only [CallK_pan, dCallK_pan, panK_ap]
      have g_0 := Option.some.inj h
      subst g_0
      rw [← hQ]
      exact ⟨rfl, _, _, RefV.dead rfl, rfl, rfl⟩
    ·
     try dsimp only at h
     refine ACalls.panA (context_reader_covers_w N _ _ _ _ c_0 false _ h_12) [0] (v' := .iface 148 (.agg [])) (H' := [.dead, .box [nn, nn, nn, nn] 45]) (hH := by simp only [go_sem, seval, e_2]) (ho := ⟨(by first | rfl | simp only [go_sem, seval, e_2]), trivial⟩) ?_
     try simp only [CallK_pan, dCallK_pan, panK_ap]
     have g_0 := Option.some.inj h
     subst g_0
     rw [← hQ]
     exact ⟨rfl, _, _, RefV.dead rfl, rfl, rfl⟩
   ·
    try dsimp only at h
    refine ACalls.panA (context_reader_row_w N _ _ _ c_0 _ h_8) [0] (v' := .iface 148 (.agg [])) (H' := [.dead, .box [nn, nn, nn, nn] 45]) (hH := by simp only [go_sem, seval, e_2]) (ho := ⟨(by first | rfl | simp only [go_sem, seval, e_2]), trivial⟩) ?_
    try simp only [CallK_pan, dCallK_pan, panK_ap]
    have g_0 := Option.some.inj h
    subst g_0
    rw [← hQ]
    exact ⟨rfl, _, _, RefV.dead rfl, rfl, rfl⟩
  ·
   try dsimp only at h
   refine ACalls.panA (context_reader_count_w N _ _ _ _ c_0 _ h_4) [0] (v' := .iface 148 (.agg [])) (H' := [.dead, .box [nn, nn, nn, nn] 45]) (hH := by simp only [go_sem, seval, e_2]) (ho := ⟨(by first | rfl | simp only [go_sem, seval, e_2]), trivial⟩) ?_
   try simp only [CallK_pan, dCallK_pan, panK_ap]
   have g_0 := Option.some.inj h
   subst g_0
   rw [← hQ]
   exact ⟨rfl, _, _, RefV.dead rfl, rfl, rfl⟩
 ·
  rw [if_neg h_1] at h
  have e_2 : b_3 = false := bfalse h_1
  obtain ⟨o_50, h_49, h⟩ := bindS h
  simp only [e_2, go_sem, seval]
  rcases o_50 with y_48 | _
  ·
   try dsimp only at h
   refine ACalls.useA (context_reader_count_w N _ _ _ _ c_0 _ h_49) [0] (v' := .int .i64 y_48) (H' := [.box [.vec c_0 (List.map eU8 l_0), .int .i64 (IntKind.i64.wrap (a_1 + 2))] 152, .box [nn, nn, nn, nn] 45]) (hH := by simp only [go_sem, seval, e_2]) (ho := ⟨(by first | rfl | simp only [go_sem, seval, e_2]), trivial⟩) ?_
   refine CallK_go (by simp) ?_
   obtain ⟨o_54, h_53, h⟩ := bindS h
   simp only [e_2, go_sem, seval]
   rcases o_54 with y_52 | _
   ·
    try dsimp only at h
    refine ACalls.useA (context_reader_count_w N _ _ _ _ c_0 _ h_53) [0] (v' := .int .i64 y_52) (H' := [.box [.vec c_0 (List.map eU8 l_0), .int .i64 (IntKind.i64.wrap ((IntKind.i64.wrap (a_1 + 2)) + 2))] 152, .box [nn, nn, nn, nn] 45]) (hH := by simp only [go_sem, seval, e_2]) (ho := ⟨(by first | rfl | simp only [go_sem, seval, e_2]), trivial⟩) ?_
    refine CallK_go (by simp) ?_
    obtain ⟨o_58, h_57, h⟩ := bindS h
    simp only [e_2, go_sem, seval]
    rcases o_58 with y_56 | _
    ·
     try dsimp only at h
     refine ACalls.useA (context_reader_row_w N _ _ _ c_0 _ h_57) [0] (v' := .vec false (List.map eI64 y_56)) (H' := [.box [.vec c_0 (List.map eU8 l_0), .int .i64 (IntKind.i64.wrap ((IntKind.i64.wrap ((IntKind.i64.wrap (a_1 + 2)) + 2)) + (IntKind.i64.wrap (y_48 * 2))))] 152, .box [nn, nn, nn, nn] 45]) (hH := by simp only [go_sem, seval, e_2]) (ho := ⟨(by first | rfl | simp only [go_sem, seval, e_2]), trivial⟩) ?_
     refine CallK_go (by simp) ?_
     obtain ⟨o_62, h_61, h⟩ := bindS h
     simp only [e_2, go_sem, seval]
     rcases o_62 with y_60 | _
     ·
      try dsimp only at h
      refine ACalls.useA (context_reader_covers_w N _ _ _ _ c_0 false _ h_61) [0] (v' := .vec false (List.map eTSet y_60)) (H' := [.box [.vec c_0 (List.map eU8 l_0), .int .i64 (IntKind.i64.wrap ((IntKind.i64.wrap ((IntKind.i64.wrap (a_1 + 2)) + 2)) + (IntKind.i64.wrap (y_48 * 2))))] 152, .box [nn, nn, nn, nn] 45]) (hH := by simp only [go_sem, seval, e_2]) (ho := ⟨(by first | rfl | simp only [go_sem, seval, e_2]), trivial⟩) ?_
      refine CallK_go (by simp) ?_
      obtain ⟨o_67, h_66, h⟩ := bindS h
      simp only [e_2, go_sem, seval]
      rcases o_67 with ⟨y_64, y_65⟩ | _
      ·
       try dsimp only at h
       refine ACalls.useA (context_reader_acts_w N _ _ _ _ c_0 _ h_66) [0] (v' := .vec false (List.map eTAct y_64)) (H' := [.box [.vec c_0 (List.map eU8 l_0), .int .i64 y_65] 152, .box [nn, .vec false (List.map eTSet y_60), nn, nn] 45]) (hH := by simp only [go_sem, seval, e_2]) (ho := ⟨(by first | rfl | simp only [go_sem, seval, e_2]), trivial⟩) ?_
       refine CallK_go (by simp) ?_
       simp only [e_2, go_sem, seval]
       have g_0 := Option.some.inj h
       subst g_0
       rw [← hQ]
       exact ⟨rfl, _, rfl, _, _, (RefV.trans (RefV.std (v' := .vec true [[nn, .vec false (List.map eTSet y_60), nn, .vec false (List.map eTAct y_64)]]) [0] (by decide) (by decide) rfl (by first | rfl | simp only [go_sem, seval, e_2])) (RefV.weak (Wks.cons (Wk.vecs (Wkss.cons (Wks.cons Wk.vec (Wks.cons (Wk.refl _) (Wks.cons Wk.vec (Wks.cons (Wk.refl _) (Wks.nil))))) (Wkss.nil))) Wks.nil) (WkH.refl _))), rfl, rfl⟩
      ·
       try dsimp only at h
       refine ACalls.panA (context_reader_acts_w N _ _ _ _ c_0 _ h_66) [0] (v' := .iface 148 (.agg [])) (H' := [.dead, .box [nn, .vec false (List.map eTSet y_60), nn, nn] 45]) (hH := by simp only [go_sem, seval, e_2]) (ho := ⟨(by first | rfl | simp only [go_sem, seval, e_2]), trivial⟩) ?_
       try simp only [CallK_pan, dCallK_pan, panK_ap]
       have g_0 := Option.some.inj h
       subst g_0
       rw [← hQ]
       exact ⟨rfl, _, _, RefV.dead rfl, rfl, rfl⟩
     ·
      try dsimp only at h
      refine ACalls.panA (context_reader_covers_w N _ _ _ _ c_0 false _ h_61) [0] (v' := .iface 148 (.agg [])) (H' := [.dead, .box [nn, nn, nn, nn] 45]) (hH := by simp only [go_sem, seval, e_2]) (ho := ⟨(by first | rfl | simp only [go_sem, seval, e_2]), trivial⟩) ?_
      try simp only [CallK_pan, dCallK_pan, panK_ap]
      have g_0 := Option.some.inj h
      subst g_0
      rw [← hQ]
      exact ⟨rfl, _, _, RefV.dead rfl, rfl, rfl⟩
    ·
     try dsimp only at h
     refine ACalls.panA (context_reader_row_w N _ _ _ c_0 _ h_57) [0] (v' := .iface 148 (.agg [])) (H' := [.dead, .box [nn, nn, nn, nn] 45]) (hH := by simp only [go_sem, seval, e_2]) (ho := ⟨(by first | rfl | simp only [go_sem, seval, e_2]), trivial⟩) ?_
     try simp only [CallK_pan, dCallK_pan, panK_ap]
     have g_0 := Option.some.inj h
     subst g_0
     rw [← hQ]
     exact ⟨rfl, _, _, RefV.dead rfl, rfl, rfl⟩
   ·
    try dsimp only at h
    refine ACalls.panA (context_reader_count_w N _ _ _ _ c_0 _ h_53) [0] (v' := .iface 148 (.agg [])) (H' := [.dead, .box [nn, nn, nn, nn] 45]) (hH := by simp only [go_sem, seval, e_2]) (ho := ⟨(by first | rfl | simp only [go_sem, seval, e_2]), trivial⟩) ?_
    try simp only [CallK_pan, dCallK_pan, panK_ap]
    have g_0 := Option.some.inj h
    subst g_0
    rw [← hQ]
    exact ⟨rfl, _, _, RefV.dead rfl, rfl, rfl⟩
  ·
   try dsimp only at h
   refine ACalls.panA (context_reader_count_w N _ _ _ _ c_0 _ h_49) [0] (v' := .iface 148 (.agg [])) (H' := [.dead, .box [nn, nn, nn, nn] 45]) (hH := by simp only [go_sem, seval, e_2]) (ho := ⟨(by first | rfl | simp only [go_sem, seval, e_2]), trivial⟩) ?_
   try simp only [CallK_pan, dCallK_pan, panK_ap]
   have g_0 := Option.some.inj h
   subst g_0
   rw [← hQ]
   exact ⟨rfl, _, _, RefV.dead rfl, rfl, rfl⟩
theorem context_table_w (N : Nat) (l_0 : List Int) (a_1 : Int) (b_2 : Bool) (c_0 : Bool) (z_1 : List TCtx) (z_2 : Bool) (h : context_table N l_0 a_1 b_2 = some (z_1, z_2)) :
  ACalls Try.prog 71 [.vec c_0 (List.map eU8 l_0), .int .i64 a_1, .bool b_2] [] (fun e H => H = [] ∧ e = .ret (.tup [.vec false (List.map eTCtx z_1), .bool z_2])) := by
 unfold context_table at h
 refine ACalls.goRN Try.func71 n71 a71 Try.ntmps71 r71 (by simp) 0 rfl ?_
 generalize hQ : bodyR _ _ _ _ = QQ
 obtain ⟨o_3, h_2, h⟩ := bindS h
 simp only [A71, go_sem, seval]
 rcases o_3 with y_1 | _
 ·
  try dsimp only at h
  refine ACalls.useA (context_reader_number_w N _ _ c_0 _ h_2) [2] (v' := .int .i64 y_1) (H' := [.box [nn] 27, .box [.bool false] 4, .box [.vec c_0 (List.map eU8 l_0), .int .i64 (IntKind.i64.wrap (a_1 + 2))] 152]) ?_
  refine ck0 ?_
  simp only [go_sem, seval]
  by_cases h_5 : y_1 = 1
  ·
   rw [if_pos h_5] at h
   have e_6 := eq_true h_5
   obtain ⟨o_10, h_9, h⟩ := bindS h
   simp only [e_6, go_sem, seval]
   rcases o_10 with ⟨y_7, y_8⟩ | _
   ·
    try dsimp only at h
    refine ACalls.useA (context_reader_single_w N _ _ _ _ c_0 _ h_9) [2] (v' := .vec false (List.map eTCtx y_7)) (H' := [.box [nn] 27, .box [.bool false] 4, .box [.vec c_0 (List.map eU8 l_0), .int .i64 y_8] 152]) (hH := by simp only [go_sem, seval, e_6]) (ho := ⟨(by first | rfl | simp only [go_sem, seval, e_6]), trivial⟩) ?_
    refine ck0 ?_
    simp only [e_6, go_sem, seval]
    rw [← hQ]
    show clo _ _ _ _ _ _ _
    refine clo.of_M (g := 94) (by simp) rfl rc94 (by decide) ?_
    generalize hE : endR _ _ _ _ = EE
    simp only [A94r, A94, go_sem, seval]
    obtain ⟨k_1, g_1⟩ := Prod.mk.inj (Option.some.inj h)
    subst k_1
    subst g_1
    rw [← hE]
    exact ⟨rfl, _, rfl, _, _, (RefV.out rfl), rfl, rfl⟩
   ·
    try dsimp only at h
    refine ACalls.panA (context_reader_single_w N _ _ _ _ c_0 _ h_9) [2] (v' := .iface 148 (.agg [])) (H' := [.box [nn] 27, .box [.bool false] 4, .dead]) (hH := by simp only [go_sem, seval, e_6]) (ho := ⟨(by first | rfl | simp only [go_sem, seval, e_6]), trivial⟩) ?_
    try simp only [CallK_pan, dCallK_pan, panK_ap]
    rw [← hQ]
    show clo _ _ _ _ _ _ _
    refine clo.of_M (g := 94) (by simp) rfl rc94 (by decide) ?_
    generalize hE : endR _ _ _ _ = EE
    simp only [A94r, A94, go_sem, seval]
    obtain ⟨k_1, g_1⟩ := Prod.mk.inj (Option.some.inj h)
    subst k_1
    subst g_1
    rw [← hE]
    exact ⟨rfl, _, rfl, _, _, outVB, rfl, rfl⟩
  ·
   rw [if_neg h_5] at h
   have e_6 := eq_false h_5
   simp only [e_6, go_sem, seval]
   by_cases h_12 : y_1 = 2
   ·
    rw [if_pos h_12] at h
    have e_13 := eq_true h_12
    obtain ⟨o_17, h_16, h⟩ := bindS h
    simp only [e_6, e_13, go_sem, seval]
    rcases o_17 with ⟨y_14, y_15⟩ | _
    ·
     try dsimp only at h
     refine ACalls.useA (context_reader_classed_w N _ _ _ _ c_0 _ h_16) [2] (v' := .vec false (List.map eTCtx y_14)) (H' := [.box [nn] 27, .box [.bool false] 4, .box [.vec c_0 (List.map eU8 l_0), .int .i64 y_15] 152]) (hH := by simp only [go_sem, seval, e_6, e_13]) (ho := ⟨(by first | rfl | simp only [go_sem, seval, e_6, e_13]), trivial⟩) ?_
     refine ck0 ?_
     simp only [e_6, e_13, go_sem, seval]
     rw [← hQ]
     show clo _ _ _ _ _ _ _
     refine clo.of_M (g := 94) (by simp) rfl rc94 (by decide) ?_
     generalize hE : endR _ _ _ _ = EE
     simp only [A94r, A94, go_sem, seval]
     obtain ⟨k_1, g_1⟩ := Prod.mk.inj (Option.some.inj h)
     subst k_1
     subst g_1
     rw [← hE]
     exact ⟨rfl, _, rfl, _, _, (RefV.out rfl), rfl, rfl⟩
    ·
     try dsimp only at h
     refine ACalls.panA (context_reader_classed_w N _ _ _ _ c_0 _ h_16) [2] (v' := .iface 148 (.agg [])) (H' := [.box [nn] 27, .box [.bool false] 4, .dead]) (hH := by simp only [go_sem, seval, e_6, e_13]) (ho := ⟨(by first | rfl | simp only [go_sem, seval, e_6, e_13]), trivial⟩) ?_
     try simp only [CallK_pan, dCallK_pan, panK_ap]
     rw [← hQ]
     show clo _ _ _ _ _ _ _
     refine clo.of_M (g := 94) (by simp) rfl rc94 (by decide) ?_
     generalize hE : endR _ _ _ _ = EE
     simp only [A94r, A94, go_sem, seval]
     obtain ⟨k_1, g_1⟩ := Prod.mk.inj (Option.some.inj h)
     subst k_1
     subst g_1
     rw [← hE]
     exact ⟨rfl, _, rfl, _, _, outVB, rfl, rfl⟩
   ·
    rw [if_neg h_12] at h
    have e_13 := eq_false h_12
    simp only [e_6, e_13, go_sem, seval]
    by_cases h_19 : y_1 = 3
    ·
     rw [if_pos h_19] at h
     have e_20 := eq_true h_19
     obtain ⟨o_24, h_23, h⟩ := bindS h
     simp only [e_6, e_13, e_20, go_sem, seval]
     rcases o_24 with ⟨y_21, y_22⟩ | _
     ·
      try dsimp only at h
      refine ACalls.useA (context_reader_covered_w N _ _ _ _ c_0 _ h_23) [2] (v' := .vec false (List.map eTCtx y_21)) (H' := [.box [nn] 27, .box [.bool false] 4, .box [.vec c_0 (List.map eU8 l_0), .int .i64 y_22] 152]) (hH := by simp only [go_sem, seval, e_6, e_13, e_20]) (ho := ⟨(by first | rfl | simp only [go_sem, seval, e_6, e_13, e_20]), trivial⟩) ?_
      refine ck0 ?_
      simp only [e_6, e_13, e_20, go_sem, seval]
      rw [← hQ]
      show clo _ _ _ _ _ _ _
      refine clo.of_M (g := 94) (by simp) rfl rc94 (by decide) ?_
      generalize hE : endR _ _ _ _ = EE
      simp only [A94r, A94, go_sem, seval]
      obtain ⟨k_1, g_1⟩ := Prod.mk.inj (Option.some.inj h)
      subst k_1
      subst g_1
      rw [← hE]
      exact ⟨rfl, _, rfl, _, _, (RefV.out rfl), rfl, rfl⟩
     ·
      try dsimp only at h
      refine ACalls.panA (context_reader_covered_w N _ _ _ _ c_0 _ h_23) [2] (v' := .iface 148 (.agg [])) (H' := [.box [nn] 27, .box [.bool false] 4, .dead]) (hH := by simp only [go_sem, seval, e_6, e_13, e_20]) (ho := ⟨(by first | rfl | simp only [go_sem, seval, e_6, e_13, e_20]), trivial⟩) ?_
      try simp only [CallK_pan, dCallK_pan, panK_ap]
      rw [← hQ]
      show clo _ _ _ _ _ _ _
      refine clo.of_M (g := 94) (by simp) rfl rc94 (by decide) ?_
      generalize hE : endR _ _ _ _ = EE
      simp only [A94r, A94, go_sem, seval]
      obtain ⟨k_1, g_1⟩ := Prod.mk.inj (Option.some.inj h)
      subst k_1
      subst g_1
      rw [← hE]
      exact ⟨rfl, _, rfl, _, _, outVB, rfl, rfl⟩
    ·
     rw [if_neg h_19] at h
     have e_20 := eq_false h_19
     simp only [e_6, e_13, e_20, go_sem, seval]
     rw [← hQ]
     show clo _ _ _ _ _ _ _
     refine clo.of_M (g := 94) (by simp) rfl rc94 (by decide) ?_
     generalize hE : endR _ _ _ _ = EE
     simp only [A94r, A94, go_sem, seval]
     obtain ⟨k_1, g_1⟩ := Prod.mk.inj (Option.some.inj h)
     subst k_1
     subst g_1
     rw [← hE]
     exact ⟨rfl, _, rfl, _, _, outVB, rfl, rfl⟩
 ·
  try dsimp only at h
  refine ACalls.panA (context_reader_number_w N _ _ c_0 _ h_2) [2] (v' := .iface 148 (.agg [])) (H' := [.box [nn] 27, .box [.bool false] 4, .dead]) ?_
  try simp only [CallK_pan, dCallK_pan, panK_ap]
  rw [← hQ]
  show clo _ _ _ _ _ _ _
  refine clo.of_M (g := 94) (by simp) rfl rc94 (by decide) ?_
  generalize hE : endR _ _ _ _ = EE
  simp only [A94r, A94, go_sem, seval]
  obtain ⟨k_1, g_1⟩ := Prod.mk.inj (Option.some.inj h)
  subst k_1
  subst g_1
  rw [← hE]
  exact ⟨rfl, _, rfl, _, _, outVB, rfl, rfl⟩
theorem context_Context_w (N : Nat) (l_0 : List Int) (a_1 : Int) (c_0 : Bool) (z_1 : List TCtx) (z_2 : Bool) (h : context_Context N l_0 a_1 = some (z_1, z_2)) :
  ACalls Try.prog 46 [.vec c_0 (List.map eU8 l_0), .int .i64 a_1] [] (fun e H => H = [] ∧ e = .ret (.tup [.vec false (List.map eTCtx z_1), .bool z_2])) := by
 unfold context_Context at h
 refine ACalls.goN Try.func46 n46 a46 Try.ntmps46 r46 (by simp) 0 rfl ?_
 generalize hQ : bodyA _ _ _ = QQ
 obtain ⟨⟨y_1, y_2⟩, h_3, h⟩ := bindS h
 try dsimp only at h
 simp only [A46, go_sem, seval]
 refine ACalls.use0 (context_table_w N _ _ _ c_0 _ _ h_3) rfl rfl ?_
 refine ck0 ?_
 simp only [go_sem, seval]
 obtain ⟨k_1, g_1⟩ := Prod.mk.inj (Option.some.inj h)
 subst k_1
 subst g_1
 rw [← hQ]
 exact ⟨rfl, _, rfl, _, _, (RefV.out rfl), rfl, rfl⟩
theorem gsub_must_w (N : Nat) (b_0 : Bool) (o : (Unit) ⊕ Unit) (h : gsub_must N b_0 = some o) :
  ACalls Try.prog 48 [.bool b_0] [] (fun e H => match o with | .inl _ => H = [] ∧ e = .ret (.tup []) | .inr _ => H = [] ∧ e = .pan (.iface 58 (.agg []))) := by
 unfold gsub_must at h
 refine ACalls.goN Try.func48 n48 a48 Try.ntmps48 r48 (by simp) 0 rfl ?_
 generalize hQ : bodyA _ _ _ = QQ
 simp only [A48, go_sem, seval]
 by_cases h_1 : b_0 = true
 ·
  rw [if_pos h_1] at h
  have e_2 : b_0 = true := h_1
  simp only [e_2, go_sem, seval]
  have g_0 := Option.some.inj h
  subst g_0
  rw [← hQ]
  exact ⟨rfl, _, rfl, _, _, (RefV.out rfl), rfl, rfl⟩
 ·
  rw [if_neg h_1] at h
  have e_2 : b_0 = false := bfalse h_1
  simp only [e_2, go_sem, seval]
  have g_0 := Option.some.inj h
  subst g_0
  rw [← hQ]
  exact ⟨rfl, _, _, RefV.dead rfl, rfl, rfl⟩
theorem gsub_reader_contexts_w (N : Nat) (l_0 : List Int) (a_1 : Int) (a_2 : Int) (a_3 : Int) (c_0 : Bool) (o : (O3T) ⊕ Unit) (h : gsub_reader_contexts N l_0 a_1 a_2 a_3 = some o) :
  ACalls Try.prog 45 [.ptr 0 0 0, .int .i64 a_3, .fn (.func 46) [] []] [.box [.vec c_0 (List.map eU8 l_0), .int .i64 a_1, .int .i64 a_2] 100] (fun e H => match o with | .inl (z_1, z_2, z_3, z_4, z_5, z_6, z_7, z_8, z_9, z_10, z_11, z_12, z_13, z_14, z_15, z_16) => H = [.box [.vec c_0 (List.map eU8 l_0), .int .i64 a_1, .int .i64 a_2] 100] ∧ e = .ret (.agg [.int .i64 z_1, .vec false (List.map eTSpan z_2), .bool z_3, .int .i64 z_4, .vec false (List.map eLI64 z_5), .vec false (List.map eLTLig z_6), .vec false (List.map eTCtx z_7), .vec false (List.map eTValue z_8), .vec false (List.map eLTTwo z_9), .vec false (List.map eTClass z_10), .vec false (List.map eTClass z_11), .vec false (List.map eLTTwo z_12), .vec false (List.map eTArr2_TAnchor z_13), .vec false (List.map eTMark z_14), .vec false (List.map eTSpan z_15), .vec false (List.map eLLTAnchor z_16)]) | .inr _ => H = [.dead] ∧ e = .pan (.iface 58 (.agg []))) := by
 unfold gsub_reader_contexts at h
 refine ACalls.goN Try.func45 n45 a45 Try.ntmps45 r45 (by simp) 1 rfl ?_
 generalize hQ : bodyA _ _ _ = QQ
 obtain ⟨⟨y_1, y_2⟩, h_3, h⟩ := bindS h
 try dsimp only at h
 simp only [A45, go_sem, seval]
 refine ACalls.use0 (context_Context_w N _ _ c_0 _ _ h_3) rfl rfl ?_
 obtain ⟨o_5, h_4, h⟩ := bindS h
 simp only [go_sem, seval]
 rcases o_5 with _ | _
 ·
  try dsimp only at h
  refine ACalls.use0 (gsub_must_w N _ _ h_4) rfl rfl ?_
  refine CallK_go (by simp) ?_
  simp only [go_sem, seval]
  have g_0 := Option.some.inj h
  subst g_0
  rw [← hQ]
  exact ⟨rfl, _, rfl, _, _, (RefV.trans (RefV.std (v' := .agg [.int .i64 a_3, nn, .bool false, .int .i64 0, nn, nn, .vec false (List.map eTCtx y_1), nn, nn, nn, nn, nn, nn, nn, nn, nn]) [0] (by decide) (by decide) rfl (by first | rfl | simp only [go_sem, seval])) (RefV.weak (Wks.cons (Wk.agg (Wks.cons (Wk.refl _) (Wks.cons Wk.vec (Wks.cons (Wk.refl _) (Wks.cons (Wk.refl _) (Wks.cons Wk.vec (Wks.cons Wk.vec (Wks.cons (Wk.refl _) (Wks.cons Wk.vec (Wks.cons Wk.vec (Wks.cons Wk.vec (Wks.cons Wk.vec (Wks.cons Wk.vec (Wks.cons Wk.vec (Wks.cons Wk.vec (Wks.cons Wk.vec (Wks.cons Wk.vec (Wks.nil)))))))))))))))))) Wks.nil) (WkH.refl _))), rfl, rfl⟩
 ·
  try dsimp only at h
  refine ACalls.panA (gsub_must_w N _ _ h_4) [] (v' := .iface 58 (.agg [])) (H' := [.box [.vec c_0 (List.map eU8 l_0), .int .i64 a_1, .int .i64 a_2] 100, .box [.int .i64 0, nn, .bool false, .int .i64 0, nn, nn, nn, nn, nn, nn, nn, nn, nn, nn, nn, nn] 35]) ?_
  try simp only [CallK_pan, dCallK_pan, panK_ap]
  have g_0 := Option.some.inj h
  subst g_0
  rw [← hQ]
  exact ⟨rfl, _, _, RefV.dead rfl, rfl, rfl⟩
theorem context_Chain_w (N : Nat) (l_0 : List Int) (a_1 : Int) (c_0 : Bool) (z_1 : List TCtx) (z_2 : Bool) (h : context_Chain N l_0 a_1 = some (z_1, z_2)) :
  ACalls Try.prog 47 [.vec c_0 (List.map eU8 l_0), .int .i64 a_1] [] (fun e H => H = [] ∧ e = .ret (.tup [.vec false (List.map eTCtx z_1), .bool z_2])) := by
 unfold context_Chain at h
 refine ACalls.goN Try.func47 n47 a47 Try.ntmps47 r47 (by simp) 0 rfl ?_
 generalize hQ : bodyA _ _ _ = QQ
 obtain ⟨⟨y_1, y_2⟩, h_3, h⟩ := bindS h
 try dsimp only at h
 simp only [A47, go_sem, seval]
 refine ACalls.use0 (context_table_w N _ _ _ c_0 _ _ h_3) rfl rfl ?_
 refine ck0 ?_
 simp only [go_sem, seval]
 obtain ⟨k_1, g_1⟩ := Prod.mk.inj (Option.some.inj h)
 subst k_1
 subst g_1
 rw [← hQ]
 exact ⟨rfl, _, rfl, _, _, (RefV.out rfl), rfl, rfl⟩
theorem gsub_reader_contexts_v2_w (N : Nat) (l_0 : List Int) (a_1 : Int) (a_2 : Int) (a_3 : Int) (c_0 : Bool) (o : (O3T) ⊕ Unit) (h : gsub_reader_contexts_v2 N l_0 a_1 a_2 a_3 = some o) :
  ACalls Try.prog 45 [.ptr 0 0 0, .int .i64 a_3, .fn (.func 47) [] []] [.box [.vec c_0 (List.map eU8 l_0), .int .i64 a_1, .int .i64 a_2] 100] (fun e H => match o with | .inl (z_1, z_2, z_3, z_4, z_5, z_6, z_7, z_8, z_9, z_10, z_11, z_12, z_13, z_14, z_15, z_16) => H = [.box [.vec c_0 (List.map eU8 l_0), .int .i64 a_1, .int .i64 a_2] 100] ∧ e = .ret (.agg [.int .i64 z_1, .vec false (List.map eTSpan z_2), .bool z_3, .int .i64 z_4, .vec false (List.map eLI64 z_5), .vec false (List.map eLTLig z_6), .vec false (List.map eTCtx z_7), .vec false (List.map eTValue z_8), .vec false (List.map eLTTwo z_9), .vec false (List.map eTClass z_10), .vec false (List.map eTClass z_11), .vec false (List.map eLTTwo z_12), .vec false (List.map eTArr2_TAnchor z_13), .vec false (List.map eTMark z_14), .vec false (List.map eTSpan z_15), .vec false (List.map eLLTAnchor z_16)]) | .inr _ => H = [.dead] ∧ e = .pan (.iface 58 (.agg []))) := by
 unfold gsub_reader_contexts_v2 at h
 refine ACalls.goN Try.func45 n45 a45 Try.ntmps45 r45 (by simp) 1 rfl ?_
 generalize hQ : bodyA _ _ _ = QQ
 obtain ⟨⟨y_1, y_2⟩, h_3, h⟩ := bindS h
 try dsimp only at h
 simp only [A45, go_sem, seval]
 refine ACalls.use0 (context_Chain_w N _ _ c_0 _ _ h_3) rfl rfl ?_
 obtain ⟨o_5, h_4, h⟩ := bindS h
 simp only [go_sem, seval]
 rcases o_5 with _ | _
 ·
  try dsimp only at h
  refine ACalls.use0 (gsub_must_w N _ _ h_4) rfl rfl ?_
  refine CallK_go (by simp) ?_
  simp only [go_sem, seval]
  have g_0 := Option.some.inj h
  subst g_0
  rw [← hQ]
  exact ⟨rfl, _, rfl, _, _, (RefV.trans (RefV.std (v' := .agg [.int .i64 a_3, nn, .bool false, .int .i64 0, nn, nn, .vec false (List.map eTCtx y_1), nn, nn, nn, nn, nn, nn, nn, nn, nn]) [0] (by decide) (by decide) rfl (by first | rfl | simp only [go_sem, seval])) (RefV.weak (Wks.cons (Wk.agg (Wks.cons (Wk.refl _) (Wks.cons Wk.vec (Wks.cons (Wk.refl _) (Wks.cons (Wk.refl _) (Wks.cons Wk.vec (Wks.cons Wk.vec (Wks.cons (Wk.refl _) (Wks.cons Wk.vec (Wks.cons Wk.vec (Wks.cons Wk.vec (Wks.cons Wk.vec (Wks.cons Wk.vec (Wks.cons Wk.vec (Wks.cons Wk.vec (Wks.cons Wk.vec (Wks.cons Wk.vec (Wks.nil)))))))))))))))))) Wks.nil) (WkH.refl _))), rfl, rfl⟩
 ·
  try dsimp only at h
  refine ACalls.panA (gsub_must_w N _ _ h_4) [] (v' := .iface 58 (.agg [])) (H' := [.box [.vec c_0 (List.map eU8 l_0), .int .i64 a_1, .int .i64 a_2] 100, .box [.int .i64 0, nn, .bool false, .int .i64 0, nn, nn, nn, nn, nn, nn, nn, nn, nn, nn, nn, nn] 35]) ?_
  try simp only [CallK_pan, dCallK_pan, panK_ap]
  have g_0 := Option.some.inj h
  subst g_0
  rw [← hQ]
  exact ⟨rfl, _, _, RefV.dead rfl, rfl, rfl⟩
theorem gsub_reader_number_w (N : Nat) (l_0 : List Int) (a_1 : Int) (a_2 : Int) (c_0 : Bool) (o : (Int) ⊕ Unit) (h : gsub_reader_number N l_0 a_1 a_2 = some o) :
  ACalls Try.prog 49 [.ptr 0 0 0] [.box [.vec c_0 (List.map eU8 l_0), .int .i64 a_1, .int .i64 a_2] 100] (fun e H => match o with | .inl z_1 => H = [.box [.vec c_0 (List.map eU8 l_0), .int .i64 a_1, .int .i64 (IntKind.i64.wrap (a_2 + 2))] 100] ∧ e = .ret (.int .i64 z_1) | .inr _ => H = [.dead] ∧ e = .pan (.iface 58 (.agg []))) := by
 unfold gsub_reader_number at h
 refine ACalls.goN Try.func49 n49 a49 Try.ntmps49 r49 (by simp) 1 rfl ?_
 generalize hQ : bodyA _ _ _ = QQ
 obtain ⟨⟨y_1, y_2⟩, h_3, h⟩ := bindS h
 try dsimp only at h
 simp only [A49, go_sem, seval]
 refine ACalls.use0 (octet_U16_w N _ _ c_0 _ _ h_3) rfl rfl ?_
 obtain ⟨o_5, h_4, h⟩ := bindS h
 simp only [go_sem, seval]
 rcases o_5 with _ | _
 ·
  try dsimp only at h
  refine ACalls.use0 (gsub_must_w N _ _ h_4) rfl rfl ?_
  refine CallK_go (by simp) ?_
  simp only [go_sem, seval]
  have g_0 := Option.some.inj h
  subst g_0
  rw [← hQ]
  exact ⟨rfl, _, rfl, _, _, (RefV.std [0] (by decide) (by decide) rfl (by first | rfl | simp only [go_sem, seval])), rfl, rfl⟩
 ·
  try dsimp only at h
  refine ACalls.panA (gsub_must_w N _ _ h_4) [] (v' := .iface 58 (.agg [])) (H' := [.box [.vec c_0 (List.map eU8 l_0), .int .i64 a_1, .int .i64 a_2] 100]) ?_
  try simp only [CallK_pan, dCallK_pan, panK_ap]
  have g_0 := Option.some.inj h
  subst g_0
  rw [← hQ]
  exact ⟨rfl, _, _, RefV.dead rfl, rfl, rfl⟩
theorem gsub_reader_spans_w (N : Nat) (l_0 : List Int) (a_1 : Int) (a_2 : Int) (a_3 : Int) (c_0 : Bool) (o : ((List TSpan)) ⊕ Unit) (h : gsub_reader_spans N l_0 a_1 a_2 a_3 = some o) :
  ACalls Try.prog 73 [.ptr 0 0 0, .int .i64 a_3] [.box [.vec c_0 (List.map eU8 l_0), .int .i64 a_1, .int .i64 a_2] 100] (fun e H => match o with | .inl z_1 => H = [.box [.vec c_0 (List.map eU8 l_0), .int .i64 a_1, .int .i64 a_2] 100] ∧ e = .ret (.vec false (List.map eTSpan z_1)) | .inr _ => H = [.dead] ∧ e = .pan (.iface 58 (.agg []))) := by
 unfold gsub_reader_spans at h
 refine ACalls.goN Try.func73 n73 a73 Try.ntmps73 r73 (by simp) 1 rfl ?_
 generalize hQ : bodyA _ _ _ = QQ
 obtain ⟨⟨y_1, y_2⟩, h_3, h⟩ := bindS h
 try dsimp only at h
 simp only [A73, go_sem, seval]
 refine ACalls.use0 (cover_Cover_w N _ _ c_0 _ _ h_3) rfl rfl ?_
 obtain ⟨o_5, h_4, h⟩ := bindS h
 simp only [go_sem, seval]
 rcases o_5 with _ | _
 ·
  try dsimp only at h
  refine ACalls.use0 (gsub_must_w N _ _ h_4) rfl rfl ?_
  refine CallK_go (by simp) ?_
  simp only [go_sem, seval]
  have g_0 := Option.some.inj h
  subst g_0
  rw [← hQ]
  exact ⟨rfl, _, rfl, _, _, (RefV.std [0] (by decide) (by decide) rfl (by first | rfl | simp only [go_sem, seval])), rfl, rfl⟩
 ·
  try dsimp only at h
  refine ACalls.panA (gsub_must_w N _ _ h_4) [] (v' := .iface 58 (.agg [])) (H' := [.box [.vec c_0 (List.map eU8 l_0), .int .i64 a_1, .int .i64 a_2] 100]) ?_
  try simp only [CallK_pan, dCallK_pan, panK_ap]
  have g_0 := Option.some.inj h
  subst g_0
  rw [← hQ]
  exact ⟨rfl, _, _, RefV.dead rfl, rfl, rfl⟩
theorem gsub_reader_row_w (N : Nat) (l_0 : List Int) (a_1 : Int) (a_2 : Int) (a_3 : Int) (c_0 : Bool) (o : ((List Int)) ⊕ Unit) (h : gsub_reader_row N l_0 a_1 a_2 a_3 = some o) :
  ACalls Try.prog 78 [.ptr 0 0 0, .int .i64 a_3] [.box [.vec c_0 (List.map eU8 l_0), .int .i64 a_1, .int .i64 a_2] 100] (fun e H => match o with | .inl z_1 => H = [.box [.vec c_0 (List.map eU8 l_0), .int .i64 a_1, .int .i64 (IntKind.i64.wrap (a_2 + (IntKind.i64.wrap (a_3 * 2))))] 100] ∧ e = .ret (.vec false (List.map eI64 z_1)) | .inr _ => H = [.dead] ∧ e = .pan (.iface 58 (.agg []))) := by
 unfold gsub_reader_row at h
 refine ACalls.goN Try.func78 n78 a78 Try.ntmps78 r78 (by simp) 1 rfl ?_
 generalize hQ : bodyA _ _ _ = QQ
 obtain ⟨⟨y_1, y_2⟩, h_3, h⟩ := bindS h
 try dsimp only at h
 simp only [A78, go_sem, seval]
 refine ACalls.use0 (octet_Row_w N _ _ _ _ c_0 _ _ h_3) rfl rfl ?_
 obtain ⟨o_5, h_4, h⟩ := bindS h
 simp only [go_sem, seval]
 rcases o_5 with _ | _
 ·
  try dsimp only at h
  refine ACalls.use0 (gsub_must_w N _ _ h_4) rfl rfl ?_
  refine CallK_go (by simp) ?_
  simp only [go_sem, seval]
  have g_0 := Option.some.inj h
  subst g_0
  rw [← hQ]
  exact ⟨rfl, _, rfl, _, _, (RefV.std [0] (by decide) (by decide) rfl (by first | rfl | simp only [go_sem, seval])), rfl, rfl⟩
 ·
  try dsimp only at h
  refine ACalls.panA (gsub_must_w N _ _ h_4) [] (v' := .iface 58 (.agg [])) (H' := [.box [.vec c_0 (List.map eU8 l_0), .int .i64 a_1, .int .i64 a_2] 100]) ?_
  try simp only [CallK_pan, dCallK_pan, panK_ap]
  have g_0 := Option.some.inj h
  subst g_0
  rw [← hQ]
  exact ⟨rfl, _, _, RefV.dead rfl, rfl, rfl⟩
theorem gsub_reader_each_w (N : Nat) (l_0 : List Int) (a_1 : Int) (a_2 : Int) (l_3 : List TSpan) (c_0 : Bool) (c_1 : Bool) (o : ((List Int) × Int) ⊕ Unit) (h : gsub_reader_each N l_0 a_1 a_2 l_3 = some o) :
  ACalls Try.prog 75 [.ptr 0 0 0, .vec c_1 (List.map eTSpan l_3)] [.box [.vec c_0 (List.map eU8 l_0), .int .i64 a_1, .int .i64 a_2] 100] (fun e H => match o with | .inl (z_1, z_2) => H = [.box [.vec c_0 (List.map eU8 l_0), .int .i64 a_1, .int .i64 z_2] 100] ∧ e = .ret (.vec false (List.map eI64 z_1)) | .inr _ => H = [.dead] ∧ e = .pan (.iface 58 (.agg []))) := by
 unfold gsub_reader_each at h
 refine ACalls.goN Try.func75 n75 a75 Try.ntmps75 r75 (by simp) 1 rfl ?_
 generalize hQ : bodyA _ _ _ = QQ
 obtain ⟨o_3, h_2, h⟩ := bindS h
 simp only [A75, go_sem, seval]
 rcases o_3 with y_1 | _
 ·
  try dsimp only at h
  refine ACalls.useA (gsub_reader_number_w N _ _ _ c_0 _ h_2) [0] (v' := .int .i64 y_1) (H' := [.box [.vec c_0 (List.map eU8 l_0), .int .i64 a_1, .int .i64 (IntKind.i64.wrap (a_2 + 2))] 100]) ?_
  refine CallK_go (by simp) ?_
  obtain ⟨y_5, h_6, h⟩ := bindS h
  simp only [go_sem, seval]
  refine ACalls.use0 (cover_Count_w N _ c_1 _ h_6) rfl rfl ?_
  refine CallK_go (by simp) ?_
  obtain ⟨o_8, h_7, h⟩ := bindS h
  simp only [go_sem, seval]
  rcases o_8 with _ | _
  ·
   try dsimp only at h
   refine ACalls.use0 (gsub_must_w N _ _ h_7) rfl rfl ?_
   refine CallK_go (by simp) ?_
   have e_10 := eq_true (of_decide_eq_true (gsub_must_inl h_7))
   obtain ⟨o_13, h_12, h⟩ := bindS h
   simp only [e_10, go_sem, seval]
   rcases o_13 with y_11 | _
   ·
    try dsimp only at h
    refine ACalls.useA (gsub_reader_row_w N _ _ _ _ c_0 _ h_12) [0] (v' := .vec false (List.map eI64 y_11)) (H' := [.box [.vec c_0 (List.map eU8 l_0), .int .i64 a_1, .int .i64 (IntKind.i64.wrap ((IntKind.i64.wrap (a_2 + 2)) + (IntKind.i64.wrap (y_1 * 2))))] 100]) (hH := by simp only [go_sem, seval, e_10]) (ho := ⟨(by first | rfl | simp only [go_sem, seval, e_10]), trivial⟩) ?_
    refine CallK_go (by simp) ?_
    simp only [e_10, go_sem, seval]
    have g_0 := Option.some.inj h
    subst g_0
    rw [← hQ]
    exact ⟨rfl, _, rfl, _, _, (RefV.std [0] (by decide) (by decide) rfl (by first | rfl | simp only [go_sem, seval, e_10])), rfl, rfl⟩
   ·
    try dsimp only at h
    refine ACalls.panA (gsub_reader_row_w N _ _ _ _ c_0 _ h_12) [0] (v' := .iface 58 (.agg [])) (H' := [.dead]) (hH := by simp only [go_sem, seval, e_10]) (ho := ⟨(by first | rfl | simp only [go_sem, seval, e_10]), trivial⟩) ?_
    try simp only [CallK_pan, dCallK_pan, panK_ap]
    have g_0 := Option.some.inj h
    subst g_0
    rw [← hQ]
    exact ⟨rfl, _, _, RefV.dead rfl, rfl, rfl⟩
  ·
   try dsimp only at h
   refine ACalls.panA (gsub_must_w N _ _ h_7) [] (v' := .iface 58 (.agg [])) (H' := [.box [.vec c_0 (List.map eU8 l_0), .int .i64 a_1, .int .i64 (IntKind.i64.wrap (a_2 + 2))] 100]) ?_
   try simp only [CallK_pan, dCallK_pan, panK_ap]
   have g_0 := Option.some.inj h
   subst g_0
   rw [← hQ]
   exact ⟨rfl, _, _, RefV.dead rfl, rfl, rfl⟩
 ·
  try dsimp only at h
  refine ACalls.panA (gsub_reader_number_w N _ _ _ c_0 _ h_2) [0] (v' := .iface 58 (.agg [])) (H' := [.dead]) ?_
  try simp only [CallK_pan, dCallK_pan, panK_ap]
  have g_0 := Option.some.inj h
  subst g_0
  rw [← hQ]
  exact ⟨rfl, _, _, RefV.dead rfl, rfl, rfl⟩
theorem gsub_ones_L1_w (N : Nat) (l_0 : List Int) (c_0 : Bool) {R : AExit → ATm → List AObj → Prop} : ∀ (n : Nat) (i_1 : Int) (s_2 : List (List Int)) (o : (List (List Int))), gsub_ones_L1 N l_0 n i_1 s_2 = some o → (match o with | z_1 => R (.exit 0) ⟨19, [(3, .row 0 0 z_1.length)], []⟩ [.mem 1 (List.map eLI64 z_1) 48]) →
  ALp Try.prog 0 B74_1 ⟨19, [(3, .row 0 0 s_2.length), (6, .vec c_0 (List.map eI64 l_0)), (7, .int .i64 (l_0.length : Int)), (8, .int .i64 i_1)], []⟩ [.mem 1 (List.map eLI64 s_2) 48] R := by
 intro n
 induction n with
 | zero =>
  intro i_1 s_2 o h _
  have h0 : none = some o := h
  cases h0
 | succ n ih =>
  intro i_1 s_2 o h hp
  rw [gsub_ones_L1] at h
  refine ALp.round ?_
  generalize hQ : RoundQ _ _ _ _ = QQ
  simp only [B74_1, A74, go_sem, seval]
  by_cases h_3 : i_1 < (l_0.length : Int)
  ·
   rw [if_pos h_3] at h
   have e_4 := eq_true h_3
   obtain ⟨x_5, h_6, h⟩ := bindS h
   have e_7 : (List.map eI64 l_0)[(i_1).toNat]? = some [.int .i64 x_5] := atI_map eI64 h_6
   have e_8 := eq_true (atI_some h_6).1
   have e_9 := eq_true (atI_lt h_6)
   have e_10 : List.take s_2.length (List.map eLI64 s_2) = (List.map eLI64 s_2) := List.take_of_length_le (by simp)
   obtain ⟨h_11, h⟩ := guardS h
   have e_12 := eq_true h_11
   simp only [e_4, e_7, e_8, e_9, e_10, e_12, go_sem, seval]
   rw [← hQ]
   exact ⟨_, _, (Ref.trans (Ref.std (l' := [(3, .row 0 0 (s_2.length + 1)), (6, .vec c_0 (List.map eI64 l_0)), (7, .int .i64 (l_0.length : Int)), (8, .int .i64 (IntKind.i64.wrap (i_1 + 1)))]) (H' := [.mem 1 ((List.map eLI64 s_2) ++ [[.vec true [[.int .i64 x_5]]]]) 48]) [3, 6, 7, 8] [1] (by decide) low0 (by simp only [go_sem, seval, List.map_append, List.map_cons, List.map_nil]) (by simp only [go_sem, seval, List.map_append, List.map_cons, List.map_nil])) (Ref.weak (WkT.cons (Wk.refl _) (WkT.cons (Wk.refl _) (WkT.cons (Wk.refl _) (WkT.cons (Wk.refl _) (WkT.nil))))) (WkH.cons (WkO.snoc (x := [x_5]) (Wks.cons Wk.vec (Wks.nil))) (WkH.nil)))), (Nat.zero_le _), (by simpa only [List.length_append, List.length_cons, List.length_nil, Nat.zero_add] using ih _ _ _ h hp)⟩
  ·
   rw [if_neg h_3] at h
   have e_4 := eq_false h_3
   simp only [e_4, go_sem, seval]
   have g := Option.some.inj h
   subst g
   rw [← hQ]
   exact ⟨_, _, (Ref.std [3] [0] (by decide) low0 rfl (by first | rfl | simp only [go_sem, seval])), hp⟩
theorem gsub_ones_w (N : Nat) (l_0 : List Int) (c_0 : Bool) (z_1 : List (List Int)) (h : gsub_ones N l_0 = some z_1) :
  ACalls Try.prog 74 [.vec c_0 (List.map eI64 l_0)] [] (fun e H => H = [] ∧ e = .ret (.vec false (List.map eLI64 z_1))) := by
 unfold gsub_ones at h
 refine ACalls.goN Try.func74 n74 a74 Try.ntmps74 r74 (by simp) 0 rfl ?_
 generalize hQ : bodyA _ _ _ = QQ
 simp only [A74, go_sem, seval]
 obtain ⟨y_1002, h_1001, h⟩ := bindS h
 refine ALp.ref (Ref.trans (Ref.thaw (Nat.zero_le _) 3 rfl (sz := 1) (by decide) 48) (Ref.std [3, 6, 7, 8] [0] (by decide) low0 rfl (by first | rfl | simp only [go_sem, seval]))) (Nat.zero_le _) (gsub_ones_L1_w N _ c_0 N _ _ y_1002 h_1001 ?_)
 refine LoopK_go rfl (Nat.zero_le _) ?_
 simp only [go_sem, seval]
 have g_0 := Option.some.inj h
 subst g_0
 rw [← hQ]
 exact ⟨rfl, _, rfl, _, _, (RefV.trans (RefV.frz (Nat.zero_le _) (id := 0) rfl (pures_map y_1002 eLI64 (fun _ => rfl))) (RefV.out (by first | rfl | simp only [go_sem, seval]))), rfl, rfl⟩
theorem gsub_reader_single_w (N : Nat) (l_0 : List Int) (a_1 : Int) (a_2 : Int) (a_3 : Int) (c_0 : Bool) (o : (O2T) ⊕ Unit) (h : gsub_reader_single N l_0 a_1 a_2 a_3 = some o) :
  ACalls Try.prog 50 [.ptr 0 0 0, .int .i64 a_3] [.box [.vec c_0 (List.map eU8 l_0), .int .i64 a_1, .int .i64 a_2] 100] (fun e H => match o with | .inl (z_1, z_2, z_3, z_4, z_5, z_6, z_7, z_8, z_9, z_10, z_11, z_12, z_13, z_14, z_15, z_16, z_17) => H = [.box [.vec c_0 (List.map eU8 l_0), .int .i64 a_1, .int .i64 z_17] 100] ∧ e = .ret (.agg [.int .i64 z_1, .vec false (List.map eTSpan z_2), .bool z_3, .int .i64 z_4, .vec false (List.map eLI64 z_5), .vec false (List.map eLTLig z_6), .vec false (List.map eTCtx z_7), .vec false (List.map eTValue z_8), .vec false (List.map eLTTwo z_9), .vec false (List.map eTClass z_10), .vec false (List.map eTClass z_11), .vec false (List.map eLTTwo z_12), .vec false (List.map eTArr2_TAnchor z_13), .vec false (List.map eTMark z_14), .vec false (List.map eTSpan z_15), .vec false (List.map eLLTAnchor z_16)]) | .inr _ => H = [.dead] ∧ e = .pan (.iface 58 (.agg []))) := by
 unfold gsub_reader_single at h
 refine ACalls.goN Try.func50 n50 a50 Try.ntmps50 r50 (by simp) 1 rfl ?_
 generalize hQ : bodyA _ _ _ = QQ
 obtain ⟨o_3, h_2, h⟩ := bindS h
 simp only [A50, go_sem, seval]
 rcases o_3 with y_1 | _
 ·
  try dsimp only at h
  refine ACalls.useA (gsub_reader_number_w N _ _ _ c_0 _ h_2) [0] (v' := .int .i64 y_1) (H' := [.box [.vec c_0 (List.map eU8 l_0), .int .i64 a_1, .int .i64 (IntKind.i64.wrap (a_2 + 2))] 100, .box [.int .i64 0, nn, .bool false, .int .i64 0, nn, nn, nn, nn, nn, nn, nn, nn, nn, nn, nn, nn] 35]) ?_
  refine CallK_go (by simp) ?_
  obtain ⟨o_7, h_6, h⟩ := bindS h
  simp only [go_sem, seval]
  rcases o_7 with y_5 | _
  ·
   try dsimp only at h
   refine ACalls.useA (gsub_reader_spans_w N _ _ _ _ c_0 _ h_6) [0] (v' := .vec false (List.map eTSpan y_5)) (H' := [.box [.vec c_0 (List.map eU8 l_0), .int .i64 a_1, .int .i64 (IntKind.i64.wrap (a_2 + 2))] 100, .box [.int .i64 0, nn, .bool false, .int .i64 0, nn, nn, nn, nn, nn, nn, nn, nn, nn, nn, nn, nn] 35]) ?_
   refine CallK_go (by simp) ?_
   simp only [go_sem, seval]
   by_cases h_9 : a_3 = 1
   ·
    rw [if_pos h_9] at h
    have e_10 := eq_true h_9
    obtain ⟨o_13, h_12, h⟩ := bindS h
    simp only [e_10, go_sem, seval]
    rcases o_13 with y_11 | _
    ·
     try dsimp only at h
     refine ACalls.useA (gsub_reader_number_w N _ _ _ c_0 _ h_12) [0] (v' := .int .i64 y_11) (H' := [.box [.vec c_0 (List.map eU8 l_0), .int .i64 a_1, .int .i64 (IntKind.i64.wrap ((IntKind.i64.wrap (a_2 + 2)) + 2))] 100, .box [.int .i64 0, nn, .bool false, .int .i64 0, nn, nn, nn, nn, nn, nn, nn, nn, nn, nn, nn, nn] 35, .box [.int .i64 1, .vec false (List.map eTSpan y_5), .bool false, .int .i64 0, nn, nn, nn, nn, nn, nn, nn, nn, nn, nn, nn, nn] 35]) (hH := by simp only [go_sem, seval, e_10]) (ho := ⟨(by first | rfl | simp only [go_sem, seval, e_10]), trivial⟩) ?_
     refine CallK_go (by simp) ?_
     simp only [e_10, go_sem, seval]
     have g_0 := Option.some.inj h
     subst g_0
     rw [← hQ]
     exact ⟨rfl, _, rfl, _, _, (RefV.trans (RefV.std (v' := .agg [.int .i64 1, .vec false (List.map eTSpan y_5), .bool true, .int .i64 y_11, nn, nn, nn, nn, nn, nn, nn, nn, nn, nn, nn, nn]) [0] (by decide) (by decide) rfl (by first | rfl | simp only [go_sem, seval, e_10])) (RefV.weak (Wks.cons (Wk.agg (Wks.cons (Wk.refl _) (Wks.cons (Wk.refl _) (Wks.cons (Wk.refl _) (Wks.cons (Wk.refl _) (Wks.cons Wk.vec (Wks.cons Wk.vec (Wks.cons Wk.vec (Wks.cons Wk.vec (Wks.cons Wk.vec (Wks.cons Wk.vec (Wks.cons Wk.vec (Wks.cons Wk.vec (Wks.cons Wk.vec (Wks.cons Wk.vec (Wks.cons Wk.vec (Wks.cons Wk.vec (Wks.nil)))))))))))))))))) Wks.nil) (WkH.refl _))), rfl, rfl⟩
    ·
     try dsimp only at h
     refine ACalls.panA (gsub_reader_number_w N _ _ _ c_0 _ h_12) [0] (v' := .iface 58 (.agg [])) (H' := [.dead, .box [.int .i64 0, nn, .bool false, .int .i64 0, nn, nn, nn, nn, nn, nn, nn, nn, nn, nn, nn, nn] 35, .box [.int .i64 1, .vec false (List.map eTSpan y_5), .bool false, .int .i64 0, nn, nn, nn, nn, nn, nn, nn, nn, nn, nn, nn, nn] 35]) (hH := by simp only [go_sem, seval, e_10]) (ho := ⟨(by first | rfl | simp only [go_sem, seval, e_10]), trivial⟩) ?_
     try simp only [CallK_pan, dCallK_pan, panK_ap]
     have g_0 := Option.some.inj h
     subst g_0
     rw [← hQ]
     exact ⟨rfl, _, _, RefV.dead rfl, rfl, rfl⟩
   ·
    rw [if_neg h_9] at h
    have e_10 := eq_false h_9
    obtain ⟨o_16, h_15, h⟩ := bindS h
    simp only [e_10, go_sem, seval]
    rcases o_16 with _ | _
    ·
     try dsimp only at h
     refine ACalls.use0 (gsub_must_w N _ _ h_15) rfl rfl ?_
     refine CallK_go (by simp) ?_
     have e_18 := eq_true (of_decide_eq_true (gsub_must_inl h_15))
     obtain ⟨o_22, h_21, h⟩ := bindS h
     simp only [e_10, e_18, go_sem, seval]
     rcases o_22 with ⟨y_19, y_20⟩ | _
     ·
      try dsimp only at h
      refine ACalls.useA (gsub_reader_each_w N _ _ _ _ c_0 false _ h_21) [0] (v' := .vec false (List.map eI64 y_19)) (H' := [.box [.vec c_0 (List.map eU8 l_0), .int .i64 a_1, .int .i64 y_20] 100, .box [.int .i64 0, nn, .bool false, .int .i64 0, nn, nn, nn, nn, nn, nn, nn, nn, nn, nn, nn, nn] 35, .box [.int .i64 1, .vec false (List.map eTSpan y_5), .bool false, .int .i64 0, nn, nn, nn, nn, nn, nn, nn, nn, nn, nn, nn, nn] 35]) (hH := by simp only [go_sem, seval, e_10, e_18]) (ho := ⟨(by first | rfl | simp only [go_sem, seval, e_10, e_18]), trivial⟩) ?_
      refine CallK_go (by simp) ?_
      obtain ⟨y_24, h_25, h⟩ := bindS h
      simp only [e_10, e_18, go_sem, seval]
      refine ACalls.use0 (gsub_ones_w N _ false _ h_25) rfl rfl ?_
      refine CallK_go (by simp) ?_
      simp only [e_10, e_18, go_sem, seval]
      have g_0 := Option.some.inj h
      subst g_0
      rw [← hQ]
      exact ⟨rfl, _, rfl, _, _, (RefV.trans (RefV.std (v' := .agg [.int .i64 1, .vec false (List.map eTSpan y_5), .bool false, .int .i64 0, .vec false (List.map eLI64 y_24), nn, nn, nn, nn, nn, nn, nn, nn, nn, nn, nn]) [0] (by decide) (by decide) rfl (by first | rfl | simp only [go_sem, seval, e_10, e_18])) (RefV.weak (Wks.cons (Wk.agg (Wks.cons (Wk.refl _) (Wks.cons (Wk.refl _) (Wks.cons (Wk.refl _) (Wks.cons (Wk.refl _) (Wks.cons (Wk.refl _) (Wks.cons Wk.vec (Wks.cons Wk.vec (Wks.cons Wk.vec (Wks.cons Wk.vec (Wks.cons Wk.vec (Wks.cons Wk.vec (Wks.cons Wk.vec (Wks.cons Wk.vec (Wks.cons Wk.vec (Wks.cons Wk.vec (Wks.cons Wk.vec (Wks.nil)))))))))))))))))) Wks.nil) (WkH.refl _))), rfl, rfl⟩
     ·
      try dsimp only at h
      refine ACalls.panA (gsub_reader_each_w N _ _ _ _ c_0 false _ h_21) [0] (v' := .iface 58 (.agg [])) (H' := [.dead, .box [.int .i64 0, nn, .bool false, .int .i64 0, nn, nn, nn, nn, nn, nn, nn, nn, nn, nn, nn, nn] 35, .box [.int .i64 1, .vec false (List.map eTSpan y_5), .bool false, .int .i64 0, nn, nn, nn, nn, nn, nn, nn, nn, nn, nn, nn, nn] 35]) (hH := by simp only [go_sem, seval, e_10, e_18]) (ho := ⟨(by first | rfl | simp only [go_sem, seval, e_10, e_18]), trivial⟩) ?_
      try simp only [CallK_pan, dCallK_pan, panK_ap]
      have g_0 := Option.some.inj h
      subst g_0
      rw [← hQ]
      exact ⟨rfl, _, _, RefV.dead rfl, rfl, rfl⟩
    ·
     try dsimp only at h
     refine ACalls.panA (gsub_must_w N _ _ h_15) [] (v' := .iface 58 (.agg [])) (H' := [.box [.vec c_0 (List.map eU8 l_0), .int .i64 a_1, .int .i64 (IntKind.i64.wrap (a_2 + 2))] 100, .box [.int .i64 0, nn, .bool false, .int .i64 0, nn, nn, nn, nn, nn, nn, nn, nn, nn, nn, nn, nn] 35, .box [.int .i64 1, .vec false (List.map eTSpan y_5), .bool false, .int .i64 0, nn, nn, nn, nn, nn, nn, nn, nn, nn, nn, nn, nn] 35]) (hH := by simp only [go_sem, seval, e_10]) ?_
     try simp only [CallK_pan, dCallK_pan, panK_ap]
     have g_0 := Option.some.inj h
     subst g_0
     rw [← hQ]
     exact ⟨rfl, _, _, RefV.dead rfl, rfl, rfl⟩
  ·
   try dsimp only at h
   refine ACalls.panA (gsub_reader_spans_w N _ _ _ _ c_0 _ h_6) [0] (v' := .iface 58 (.agg [])) (H' := [.dead, .box [.int .i64 0, nn, .bool false, .int .i64 0, nn, nn, nn, nn, nn, nn, nn, nn, nn, nn, nn, nn] 35]) ?_
   try simp only [CallK_pan, dCallK_pan, panK_ap]
   have g_0 := Option.some.inj h
   subst g_0
   rw [← hQ]
   exact ⟨rfl, _, _, RefV.dead rfl, rfl, rfl⟩
 ·
  try dsimp only at h
  refine ACalls.panA (gsub_reader_number_w N _ _ _ c_0 _ h_2) [0] (v' := .iface 58 (.agg [])) (H' := [.dead, .box [.int .i64 0, nn, .bool false, .int .i64 0, nn, nn, nn, nn, nn, nn, nn, nn, nn, nn, nn, nn] 35]) ?_
  try simp only [CallK_pan, dCallK_pan, panK_ap]
  have g_0 := Option.some.inj h
  subst g_0
  rw [← hQ]
  exact ⟨rfl, _, _, RefV.dead rfl, rfl, rfl⟩
theorem gsub_reader_part_w (N : Nat) (l_0 : List Int) (a_1 : Int) (a_2 : Int) (a_3 : Int) (c_0 : Bool) (h : gsub_reader_part N l_0 a_1 a_2 a_3 = some ()) :
  ACalls Try.prog 76 [.ptr 0 0 0, .int .i64 a_3] [.box [.vec c_0 (List.map eU8 l_0), .int .i64 a_1, .int .i64 a_2] 100] (fun e H => H = [.box [.vec c_0 (List.map eU8 l_0), .int .i64 a_1, .int .i64 a_2] 100, .box [.vec c_0 (List.map eU8 l_0), .int .i64 (IntKind.i64.wrap (a_1 + a_3)), .int .i64 (IntKind.i64.wrap (a_1 + a_3))] 100] ∧ e = .ret (.ptr 1 0 0)) := by
 unfold gsub_reader_part at h
 refine ACalls.goN Try.func76 n76 a76 Try.ntmps76 r76 (by simp) 1 rfl ?_
 generalize hQ : bodyA _ _ _ = QQ
 simp only [A76, go_sem, seval]
 rw [← hQ]
 exact ⟨rfl, _, rfl, _, _, (RefV.std [0, 1] (by decide) (by decide) rfl (by first | rfl | simp only [go_sem, seval])), rfl, rfl⟩
theorem gsub_reader_list_w (N : Nat) (l_0 : List Int) (a_1 : Int) (a_2 : Int) (a_3 : Int) (a_4 : Int) (c_0 : Bool) (o : ((List Int) × Int) ⊕ Unit) (h : gsub_reader_list N l_0 a_1 a_2 a_3 a_4 = some o) :
  ACalls Try.prog 77 [.ptr 0 0 0, .int .i64 a_3, .int .i64 a_4] [.box [.vec c_0 (List.map eU8 l_0), .int .i64 a_1, .int .i64 a_2] 100] (fun e H => match o with | .inl (z_1, z_2) => H = [.box [.vec c_0 (List.map eU8 l_0), .int .i64 a_1, .int .i64 z_2] 100] ∧ e = .ret (.vec false (List.map eI64 z_1)) | .inr _ => H = [.dead] ∧ e = .pan (.iface 58 (.agg []))) := by
 unfold gsub_reader_list at h
 refine ACalls.goN Try.func77 n77 a77 Try.ntmps77 r77 (by simp) 1 rfl ?_
 generalize hQ : bodyA _ _ _ = QQ
 obtain ⟨o_3, h_2, h⟩ := bindS h
 simp only [A77, go_sem, seval]
 rcases o_3 with y_1 | _
 ·
  try dsimp only at h
  refine ACalls.useA (gsub_reader_number_w N _ _ _ c_0 _ h_2) [0] (v' := .int .i64 y_1) (H' := [.box [.vec c_0 (List.map eU8 l_0), .int .i64 a_1, .int .i64 (IntKind.i64.wrap (a_2 + 2))] 100]) ?_
  refine CallK_go (by simp) ?_
  simp only [go_sem, seval]
  by_cases h_5 : a_3 ≤ y_1
  ·
   rw [if_pos h_5] at h
   have e_6 := eq_true h_5
   obtain ⟨o_8, h_7, h⟩ := bindS h
   simp only [e_6, go_sem, seval]
   rcases o_8 with _ | _
   ·
    try dsimp only at h
    refine ACalls.use0 (gsub_must_w N _ _ h_7) rfl rfl ?_
    refine CallK_go (by simp) ?_
    have e_10 := eq_true (of_decide_eq_true (gsub_must_inl h_7))
    obtain ⟨o_13, h_12, h⟩ := bindS h
    simp only [e_6, e_10, go_sem, seval]
    rcases o_13 with y_11 | _
    ·
     try dsimp only at h
     refine ACalls.useA (gsub_reader_row_w N _ _ _ _ c_0 _ h_12) [0] (v' := .vec false (List.map eI64 y_11)) (H' := [.box [.vec c_0 (List.map eU8 l_0), .int .i64 a_1, .int .i64 (IntKind.i64.wrap ((IntKind.i64.wrap (a_2 + 2)) + (IntKind.i64.wrap ((IntKind.i64.wrap (y_1 - a_4)) * 2))))] 100]) (hH := by simp only [go_sem, seval, e_6, e_10]) (ho := ⟨(by first | rfl | simp only [go_sem, seval, e_6, e_10]), trivial⟩) ?_
     refine CallK_go (by simp) ?_
     simp only [e_6, e_10, go_sem, seval]
     have g_0 := Option.some.inj h
     subst g_0
     rw [← hQ]
     exact ⟨rfl, _, rfl, _, _, (RefV.std [0] (by decide) (by decide) rfl (by first | rfl | simp only [go_sem, seval, e_6, e_10])), rfl, rfl⟩
    ·
     try dsimp only at h
     refine ACalls.panA (gsub_reader_row_w N _ _ _ _ c_0 _ h_12) [0] (v' := .iface 58 (.agg [])) (H' := [.dead]) (hH := by simp only [go_sem, seval, e_6, e_10]) (ho := ⟨(by first | rfl | simp only [go_sem, seval, e_6, e_10]), trivial⟩) ?_
     try simp only [CallK_pan, dCallK_pan, panK_ap]
     have g_0 := Option.some.inj h
     subst g_0
     rw [← hQ]
     exact ⟨rfl, _, _, RefV.dead rfl, rfl, rfl⟩
   ·
    try dsimp only at h
    refine ACalls.panA (gsub_must_w N _ _ h_7) [] (v' := .iface 58 (.agg [])) (H' := [.box [.vec c_0 (List.map eU8 l_0), .int .i64 a_1, .int .i64 (IntKind.i64.wrap (a_2 + 2))] 100]) (hH := by simp only [go_sem, seval, e_6]) ?_
    try simp only [CallK_pan, dCallK_pan, panK_ap]
    have g_0 := Option.some.inj h
    subst g_0
    rw [← hQ]
    exact ⟨rfl, _, _, RefV.dead rfl, rfl, rfl⟩
  ·
   rw [if_neg h_5] at h
   have e_6 := eq_false h_5
   obtain ⟨o_16, h_15, h⟩ := bindS h
   simp only [e_6, go_sem, seval]
   rcases o_16 with _ | _
   ·
    try dsimp only at h
    refine ACalls.use0 (gsub_must_w N _ _ h_15) rfl rfl ?_
    refine CallK_go (by simp) ?_
    have h0 : none = some _ := h
    cases h0
   ·
    try dsimp only at h
    refine ACalls.panA (gsub_must_w N _ _ h_15) [] (v' := .iface 58 (.agg [])) (H' := [.box [.vec c_0 (List.map eU8 l_0), .int .i64 a_1, .int .i64 (IntKind.i64.wrap (a_2 + 2))] 100]) (hH := by simp only [go_sem, seval, e_6]) ?_
    try simp only [CallK_pan, dCallK_pan, panK_ap]
    have g_0 := Option.some.inj h
    subst g_0
    rw [← hQ]
    exact ⟨rfl, _, _, RefV.dead rfl, rfl, rfl⟩
 ·
  try dsimp only at h
  refine ACalls.panA (gsub_reader_number_w N _ _ _ c_0 _ h_2) [0] (v' := .iface 58 (.agg [])) (H' := [.dead]) ?_
  try simp only [CallK_pan, dCallK_pan, panK_ap]
  have g_0 := Option.some.inj h
  subst g_0
  rw [← hQ]
  exact ⟨rfl, _, _, RefV.dead rfl, rfl, rfl⟩
theorem gsub_reader_several_L1_w (N : Nat) (a_4 : Int) (y_9 : List Int) (l_0 : List Int) (a_1 : Int) (y_10 : Int) (a_3 : Int) (y_5 : List TSpan) (c_0 : Bool) {R : AExit → ATm → List AObj → Prop} : ∀ (n : Nat) (i_14 : Int) (s_15 : List (List Int)) (o : ((List (List Int))) ⊕ (Unit)), gsub_reader_several_L1 N a_4 y_9 l_0 a_1 y_10 a_3 y_5 n i_14 s_15 = some o → (match o with | .inl z_1 => R (.exit 0) ⟨37, [(6, .ptr 1 0 0), (7, .ptr 2 0 0)], []⟩ [.box [.vec c_0 (List.map eU8 l_0), .int .i64 a_1, .int .i64 y_10] 100, .box [.int .i64 0, nn, .bool false, .int .i64 0, nn, nn, nn, nn, nn, nn, nn, nn, nn, nn, nn, nn] 35, .box [.int .i64 a_3, .vec false (List.map eTSpan y_5), .bool false, .int .i64 0, .row 3 0 z_1.length, nn, nn, nn, nn, nn, nn, nn, nn, nn, nn, nn] 35, .mem 1 (List.map eLI64 z_1) 48] | .inr (_) => ∀ (tb : ATm) (Hb : List AObj), tb.ds = [] → R (.pan (.iface 58 (.agg []))) tb Hb) →
  ALp Try.prog 1 B51_1 ⟨37, [(0, .ptr 0 0 0), (2, .int .i64 a_4), (6, .ptr 1 0 0), (7, .ptr 2 0 0), (19, .vec false (List.map eI64 y_9)), (20, .int .i64 (y_9.length : Int)), (21, .int .i64 i_14)], []⟩ [.box [.vec c_0 (List.map eU8 l_0), .int .i64 a_1, .int .i64 y_10] 100, .box [.int .i64 0, nn, .bool false, .int .i64 0, nn, nn, nn, nn, nn, nn, nn, nn, nn, nn, nn, nn] 35, .box [.int .i64 a_3, .vec false (List.map eTSpan y_5), .bool false, .int .i64 0, .row 3 0 s_15.length, nn, nn, nn, nn, nn, nn, nn, nn, nn, nn, nn] 35, .mem 1 (List.map eLI64 s_15) 48] R := by
 intro n
 induction n with
 | zero =>
  intro i_14 s_15 o h _
  have h0 : none = some o := h
  cases h0
 | succ n ih =>
  intro i_14 s_15 o h hp
  rw [gsub_reader_several_L1] at h
  refine ALp.round ?_
  generalize hQ : RoundQ _ _ _ _ = QQ
  simp only [B51_1, A51, go_sem, seval]
  by_cases h_16 : i_14 < (y_9.length : Int)
  ·
   rw [if_pos h_16] at h
   have e_17 := eq_true h_16
   obtain ⟨x_18, h_19, h⟩ := bindS h
   have e_20 : (List.map eI64 y_9)[(i_14).toNat]? = some [.int .i64 x_18] := atI_map eI64 h_19
   have e_21 := eq_true (atI_some h_19).1
   have e_22 := eq_true (atI_lt h_19)
   obtain ⟨_, h_23, h⟩ := bindS h
   simp only [e_17, e_20, e_21, e_22, go_sem, seval]
   refine ACalls.useA (gsub_reader_part_w N _ _ _ _ c_0 h_23) [0] (v' := .ptr 4 0 0) (H' := [.box [.vec c_0 (List.map eU8 l_0), .int .i64 a_1, .int .i64 y_10] 100, .box [.int .i64 0, nn, .bool false, .int .i64 0, nn, nn, nn, nn, nn, nn, nn, nn, nn, nn, nn, nn] 35, .box [.int .i64 a_3, .vec false (List.map eTSpan y_5), .bool false, .int .i64 0, .row 3 0 s_15.length, nn, nn, nn, nn, nn, nn, nn, nn, nn, nn, nn] 35, .mem 1 (List.map eLI64 s_15) 48, .box [.vec c_0 (List.map eU8 l_0), .int .i64 (IntKind.i64.wrap (a_1 + x_18)), .int .i64 (IntKind.i64.wrap (a_1 + x_18))] 100]) (hH := by simp only [go_sem, seval, e_17]) (ho := ⟨(by first | rfl | simp only [go_sem, seval, e_17]), trivial⟩) ?_
   obtain ⟨o_27, h_26, h⟩ := bindS h
   simp only [e_17, e_20, e_21, e_22, go_sem, seval]
   rcases o_27 with ⟨y_24, y_25⟩ | _
   ·
    try dsimp only at h
    refine ACalls.useA (gsub_reader_list_w N _ _ _ _ _ c_0 _ h_26) [4] (v' := .vec false (List.map eI64 y_24)) (H' := [.box [.vec c_0 (List.map eU8 l_0), .int .i64 a_1, .int .i64 y_10] 100, .box [.int .i64 0, nn, .bool false, .int .i64 0, nn, nn, nn, nn, nn, nn, nn, nn, nn, nn, nn, nn] 35, .box [.int .i64 a_3, .vec false (List.map eTSpan y_5), .bool false, .int .i64 0, .row 3 0 s_15.length, nn, nn, nn, nn, nn, nn, nn, nn, nn, nn, nn] 35, .mem 1 (List.map eLI64 s_15) 48, .box [.vec c_0 (List.map eU8 l_0), .int .i64 (IntKind.i64.wrap (a_1 + x_18)), .int .i64 y_25] 100]) (hH := by simp only [go_sem, seval, e_17]) (ho := ⟨(by first | rfl | simp only [go_sem, seval, e_17]), trivial⟩) ?_
    have e_29 : List.take s_15.length (List.map eLI64 s_15) = (List.map eLI64 s_15) := List.take_of_length_le (by simp)
    have e_30 : (List.map eLI64 s_15) ++ [[.vec false (List.map eI64 y_24)]] = (List.map eLI64 (s_15 ++ [y_24])) := app_map s_15 ([y_24]) eLI64
    obtain ⟨h_31, h⟩ := guardS h
    have e_32 := eq_true h_31
    simp only [e_17, e_20, e_21, e_22, e_29, e_30, e_32, go_sem, seval]
    rw [← hQ]
    exact ⟨_, _, (Ref.std [0, 2, 6, 7, 19, 20, 21] [0, 1, 2, 5] (by decide) (by decide) rfl (by first | rfl | simp only [go_sem, seval])), (by simp), ih _ _ _ h hp⟩
   ·
    try dsimp only at h
    refine ACalls.panA (gsub_reader_list_w N _ _ _ _ _ c_0 _ h_26) [4] (v' := .iface 58 (.agg [])) (H' := [.box [.vec c_0 (List.map eU8 l_0), .int .i64 a_1, .int .i64 y_10] 100, .box [.int .i64 0, nn, .bool false, .int .i64 0, nn, nn, nn, nn, nn, nn, nn, nn, nn, nn, nn, nn] 35, .box [.int .i64 a_3, .vec false (List.map eTSpan y_5), .bool false, .int .i64 0, .row 3 0 s_15.length, nn, nn, nn, nn, nn, nn, nn, nn, nn, nn, nn] 35, .mem 1 (List.map eLI64 s_15) 48, .dead]) (hH := by simp only [go_sem, seval, e_17]) (ho := ⟨(by first | rfl | simp only [go_sem, seval, e_17]), trivial⟩) ?_
    try simp only [CallK_pan, dCallK_pan, panK_ap]
    have g := Option.some.inj h
    subst g
    rw [← hQ]
    exact hp _ _ rfl
  ·
   rw [if_neg h_16] at h
   have e_17 := eq_false h_16
   simp only [e_17, go_sem, seval]
   have g := Option.some.inj h
   subst g
   rw [← hQ]
   exact ⟨_, _, (Ref.std [6, 7] [0, 1, 2, 3] (by decide) (by decide) rfl (by first | rfl | simp only [go_sem, seval])), hp⟩
theorem gsub_reader_several_w (N : Nat) (l_0 : List Int) (a_1 : Int) (a_2 : Int) (a_3 : Int) (a_4 : Int) (c_0 : Bool) (o : (O2T) ⊕ Unit) (h : gsub_reader_several N l_0 a_1 a_2 a_3 a_4 = some o) :
  ACalls Try.prog 51 [.ptr 0 0 0, .int .i64 a_3, .int .i64 a_4] [.box [.vec c_0 (List.map eU8 l_0), .int .i64 a_1, .int .i64 a_2] 100] (fun e H => match o with | .inl (z_1, z_2, z_3, z_4, z_5, z_6, z_7, z_8, z_9, z_10, z_11, z_12, z_13, z_14, z_15, z_16, z_17) => H = [.box [.vec c_0 (List.map eU8 l_0), .int .i64 a_1, .int .i64 z_17] 100] ∧ e = .ret (.agg [.int .i64 z_1, .vec false (List.map eTSpan z_2), .bool z_3, .int .i64 z_4, .vec false (List.map eLI64 z_5), .vec false (List.map eLTLig z_6), .vec false (List.map eTCtx z_7), .vec false (List.map eTValue z_8), .vec false (List.map eLTTwo z_9), .vec false (List.map eTClass z_10), .vec false (List.map eTClass z_11), .vec false (List.map eLTTwo z_12), .vec false (List.map eTArr2_TAnchor z_13), .vec false (List.map eTMark z_14), .vec false (List.map eTSpan z_15), .vec false (List.map eLLTAnchor z_16)]) | .inr _ => H = [.dead] ∧ e = .pan (.iface 58 (.agg []))) := by
 unfold gsub_reader_several at h
 refine ACalls.goN Try.func51 n51 a51 Try.ntmps51 r51 (by simp) 1 rfl ?_
 generalize hQ : bodyA _ _ _ = QQ
 obtain ⟨o_3, h_2, h⟩ := bindS h
 simp only [A51, go_sem, seval]
 rcases o_3 with y_1 | _
 ·
  try dsimp only at h
  refine ACalls.useA (gsub_reader_number_w N _ _ _ c_0 _ h_2) [0] (v' := .int .i64 y_1) (H' := [.box [.vec c_0 (List.map eU8 l_0), .int .i64 a_1, .int .i64 (IntKind.i64.wrap (a_2 + 2))] 100, .box [.int .i64 0, nn, .bool false, .int .i64 0, nn, nn, nn, nn, nn, nn, nn, nn, nn, nn, nn, nn] 35]) ?_
  refine CallK_go (by simp) ?_
  obtain ⟨o_7, h_6, h⟩ := bindS h
  simp only [go_sem, seval]
  rcases o_7 with y_5 | _
  ·
   try dsimp only at h
   refine ACalls.useA (gsub_reader_spans_w N _ _ _ _ c_0 _ h_6) [0] (v' := .vec false (List.map eTSpan y_5)) (H' := [.box [.vec c_0 (List.map eU8 l_0), .int .i64 a_1, .int .i64 (IntKind.i64.wrap (a_2 + 2))] 100, .box [.int .i64 0, nn, .bool false, .int .i64 0, nn, nn, nn, nn, nn, nn, nn, nn, nn, nn, nn, nn] 35]) ?_
   refine CallK_go (by simp) ?_
   obtain ⟨o_12, h_11, h⟩ := bindS h
   simp only [go_sem, seval]
   rcases o_12 with ⟨y_9, y_10⟩ | _
   ·
    try dsimp only at h
    refine ACalls.useA (gsub_reader_each_w N _ _ _ _ c_0 false _ h_11) [0] (v' := .vec false (List.map eI64 y_9)) (H' := [.box [.vec c_0 (List.map eU8 l_0), .int .i64 a_1, .int .i64 y_10] 100, .box [.int .i64 0, nn, .bool false, .int .i64 0, nn, nn, nn, nn, nn, nn, nn, nn, nn, nn, nn, nn] 35, .box [.int .i64 a_3, .vec false (List.map eTSpan y_5), .bool false, .int .i64 0, nn, nn, nn, nn, nn, nn, nn, nn, nn, nn, nn, nn] 35]) ?_
    refine CallK_go (by simp) ?_
    simp only [go_sem, seval]
    obtain ⟨o_1016, h_1014, h⟩ := bindS h
    refine ALp.ref (Ref.trans (Ref.thawB (by simp) (id := 2) 4 rfl rfl (sz := 1) (by decide) 48) (Ref.std [0, 2, 6, 7, 19, 20, 21] [0, 1, 2, 3] (by decide) (by decide) rfl (by first | rfl | simp only [go_sem, seval]))) (by simp) (gsub_reader_several_L1_w N _ _ _ _ _ _ _ c_0 N _ _ o_1016 h_1014 ?_)
    rcases o_1016 with y_1015 | _
    ·
     try dsimp only at h
     refine LoopK_go rfl (by simp) ?_
     simp only [go_sem, seval]
     have g_0 := Option.some.inj h
     subst g_0
     rw [← hQ]
     exact ⟨rfl, _, rfl, _, _, (RefV.trans (RefV.frz (by simp) (id := 3) rfl (pures_map y_1015 eLI64 (fun _ => rfl))) (RefV.trans (RefV.std (v' := .agg [.int .i64 a_3, .vec false (List.map eTSpan y_5), .bool false, .int .i64 0, .vec false (List.map eLI64 y_1015), nn, nn, nn, nn, nn, nn, nn, nn, nn, nn, nn]) [0] (by decide) (by decide) (by first | rfl | simp only [go_sem, seval]) (by first | rfl | simp only [go_sem, seval])) (RefV.weak (Wks.cons (Wk.agg (Wks.cons (Wk.refl _) (Wks.cons (Wk.refl _) (Wks.cons (Wk.refl _) (Wks.cons (Wk.refl _) (Wks.cons (Wk.refl _) (Wks.cons Wk.vec (Wks.cons Wk.vec (Wks.cons Wk.vec (Wks.cons Wk.vec (Wks.cons Wk.vec (Wks.cons Wk.vec (Wks.cons Wk.vec (Wks.cons Wk.vec (Wks.cons Wk.vec (Wks.cons Wk.vec (Wks.cons Wk.vec (Wks.nil)))))))))))))))))) Wks.nil) (WkH.refl _)))), rfl, rfl⟩
    ·
     try dsimp only at h
     intro _ _ h_1017
     refine LoopK_pan ?_
     have g_0 := Option.some.inj h
     subst g_0
     rw [← hQ]
     exact ⟨h_1017, _, _, RefV.dead rfl, rfl, rfl⟩
   ·
    try dsimp only at h
    refine ACalls.panA (gsub_reader_each_w N _ _ _ _ c_0 false _ h_11) [0] (v' := .iface 58 (.agg [])) (H' := [.dead, .box [.int .i64 0, nn, .bool false, .int .i64 0, nn, nn, nn, nn, nn, nn, nn, nn, nn, nn, nn, nn] 35, .box [.int .i64 a_3, .vec false (List.map eTSpan y_5), .bool false, .int .i64 0, nn, nn, nn, nn, nn, nn, nn, nn, nn, nn, nn, nn] 35]) ?_
    try simp only [CallK_pan, dCallK_pan, panK_ap]
    have g_0 := Option.some.inj h
    subst g_0
    rw [← hQ]
    exact ⟨rfl, _, _, RefV.dead rfl, rfl, rfl⟩
  ·
   try dsimp only at h
   refine ACalls.panA (gsub_reader_spans_w N _ _ _ _ c_0 _ h_6) [0] (v' := .iface 58 (.agg [])) (H' := [.dead, .box [.int .i64 0, nn, .bool false, .int .i64 0, nn, nn, nn, nn, nn, nn, nn, nn, nn, nn, nn, nn] 35]) ?_
   try simp only [CallK_pan, dCallK_pan, panK_ap]
   have g_0 := Option.some.inj h
   subst g_0
   rw [← hQ]
   exact ⟨rfl, _, _, RefV.dead rfl, rfl, rfl⟩
 ·
  try dsimp only at h
  refine ACalls.panA (gsub_reader_number_w N _ _ _ c_0 _ h_2) [0] (v' := .iface 58 (.agg [])) (H' := [.dead, .box [.int .i64 0, nn, .bool false, .int .i64 0, nn, nn, nn, nn, nn, nn, nn, nn, nn, nn, nn, nn] 35]) ?_
  try simp only [CallK_pan, dCallK_pan, panK_ap]
  have g_0 := Option.some.inj h
  subst g_0
  rw [← hQ]
  exact ⟨rfl, _, _, RefV.dead rfl, rfl, rfl⟩
theorem gsub_reader_ligatures_L3_w (N : Nat) (i_14 : Int) (y_25 : Int) (y_9 : List Int) (i_15 : Int) (y_33 : List Int) (l_0 : List Int) (a_1 : Int) (y_10 : Int) (y_5 : List TSpan) (s_16 : List (List TLig)) (x_19 : Int) (c_0 : Bool) {R : AExit → ATm → List AObj → Prop} : ∀ (n : Nat) (i_37 : Int) (i_38 : Int) (s_39 : List TLig) (o : ((List TLig)) ⊕ (Unit)), gsub_reader_ligatures_L3 N i_14 y_25 y_9 i_15 y_33 l_0 a_1 y_10 y_5 s_16 x_19 n i_37 i_38 s_39 = some o → (match o with | .inl z_1 => R (.exit 2) ⟨68, [(0, .ptr 0 0 0), (2, .ptr 1 0 0), (3, .ptr 2 0 0), (4, .int .i64 (IntKind.i64.wrap (i_14 + y_25))), (8, .row 4 0 z_1.length), (22, .vec false (List.map eI64 y_9)), (23, .int .i64 (y_9.length : Int)), (24, .int .i64 i_15)], []⟩ [.box [.vec c_0 (List.map eU8 l_0), .int .i64 a_1, .int .i64 y_10] 100, .box [.int .i64 0, nn, .bool false, .int .i64 0, nn, nn, nn, nn, nn, nn, nn, nn, nn, nn, nn, nn] 35, .box [.int .i64 4, .vec false (List.map eTSpan y_5), .bool false, .int .i64 0, nn, .row 3 0 s_16.length, nn, nn, nn, nn, nn, nn, nn, nn, nn, nn] 35, .mem 1 (List.map eLTLig s_16) 41, .mem 2 (List.map eTLig z_1) 77] | .inr (_) => ∀ (tb : ATm) (Hb : List AObj), tb.ds = [] → R (.pan (.iface 58 (.agg []))) tb Hb) →
  ALp Try.prog 1 B52_2 ⟨68, [(0, .ptr 0 0 0), (2, .ptr 1 0 0), (3, .ptr 2 0 0), (4, .int .i64 (IntKind.i64.wrap (i_14 + y_25))), (7, .ptr 4 0 0), (8, .row 5 0 s_39.length), (22, .vec false (List.map eI64 y_9)), (23, .int .i64 (y_9.length : Int)), (24, .int .i64 i_15), (41, .vec false (List.map eI64 y_33)), (42, .int .i64 (y_33.length : Int)), (43, .int .i64 i_37)], []⟩ [.box [.vec c_0 (List.map eU8 l_0), .int .i64 a_1, .int .i64 y_10] 100, .box [.int .i64 0, nn, .bool false, .int .i64 0, nn, nn, nn, nn, nn, nn, nn, nn, nn, nn, nn, nn] 35, .box [.int .i64 4, .vec false (List.map eTSpan y_5), .bool false, .int .i64 0, nn, .row 3 0 s_16.length, nn, nn, nn, nn, nn, nn, nn, nn, nn, nn] 35, .mem 1 (List.map eLTLig s_16) 41, .box [.vec c_0 (List.map eU8 l_0), .int .i64 (IntKind.i64.wrap (a_1 + x_19)), .int .i64 i_38] 100, .mem 2 (List.map eTLig s_39) 77] R := by
 intro n
 induction n with
 | zero =>
  intro i_37 i_38 s_39 o h _
  have h0 : none = some o := h
  cases h0
 | succ n ih =>
  intro i_37 i_38 s_39 o h hp
  rw [gsub_reader_ligatures_L3] at h
  refine ALp.round ?_
  generalize hQ : RoundQ _ _ _ _ = QQ
  simp only [B52_2, B52_1, A52, go_sem, seval]
  by_cases h_40 : i_37 < (y_33.length : Int)
  ·
   rw [if_pos h_40] at h
   have e_41 := eq_true h_40
   obtain ⟨x_42, h_43, h⟩ := bindS h
   have e_44 : (List.map eI64 y_33)[(i_37).toNat]? = some [.int .i64 x_42] := atI_map eI64 h_43
   have e_45 := eq_true (atI_some h_43).1
   have e_46 := eq_true (atI_lt h_43)
   obtain ⟨_, h_47, h⟩ := bindS h
   simp only [e_41, e_44, e_45, e_46, go_sem, seval]
   refine ACalls.useA (gsub_reader_part_w N _ _ _ _ c_0 h_47) [4] (v' := .ptr 6 0 0) (H' := [.box [.vec c_0 (List.map eU8 l_0), .int .i64 a_1, .int .i64 y_10] 100, .box [.int .i64 0, nn, .bool false, .int .i64 0, nn, nn, nn, nn, nn, nn, nn, nn, nn, nn, nn, nn] 35, .box [.int .i64 4, .vec false (List.map eTSpan y_5), .bool false, .int .i64 0, nn, .row 3 0 s_16.length, nn, nn, nn, nn, nn, nn, nn, nn, nn, nn] 35, .mem 1 (List.map eLTLig s_16) 41, .box [.vec c_0 (List.map eU8 l_0), .int .i64 (IntKind.i64.wrap (a_1 + x_19)), .int .i64 i_38] 100, .mem 2 (List.map eTLig s_39) 77, .box [.vec c_0 (List.map eU8 l_0), .int .i64 (IntKind.i64.wrap ((IntKind.i64.wrap (a_1 + x_19)) + x_42)), .int .i64 (IntKind.i64.wrap ((IntKind.i64.wrap (a_1 + x_19)) + x_42))] 100]) (hH := by simp only [go_sem, seval, e_41]) (ho := ⟨(by first | rfl | simp only [go_sem, seval, e_41]), trivial⟩) ?_
   refine CallK_go (by simp) ?_
   obtain ⟨o_50, h_49, h⟩ := bindS h
   simp only [e_41, e_44, e_45, e_46, go_sem, seval]
   rcases o_50 with y_48 | _
   ·
    try dsimp only at h
    refine ACalls.useA (gsub_reader_number_w N _ _ _ c_0 _ h_49) [6] (v' := .int .i64 y_48) (H' := [.box [.vec c_0 (List.map eU8 l_0), .int .i64 a_1, .int .i64 y_10] 100, .box [.int .i64 0, nn, .bool false, .int .i64 0, nn, nn, nn, nn, nn, nn, nn, nn, nn, nn, nn, nn] 35, .box [.int .i64 4, .vec false (List.map eTSpan y_5), .bool false, .int .i64 0, nn, .row 3 0 s_16.length, nn, nn, nn, nn, nn, nn, nn, nn, nn, nn] 35, .mem 1 (List.map eLTLig s_16) 41, .box [.vec c_0 (List.map eU8 l_0), .int .i64 (IntKind.i64.wrap (a_1 + x_19)), .int .i64 i_38] 100, .mem 2 (List.map eTLig s_39) 77, .box [.vec c_0 (List.map eU8 l_0), .int .i64 (IntKind.i64.wrap ((IntKind.i64.wrap (a_1 + x_19)) + x_42)), .int .i64 (IntKind.i64.wrap ((IntKind.i64.wrap ((IntKind.i64.wrap (a_1 + x_19)) + x_42)) + 2))] 100]) (hH := by simp only [go_sem, seval, e_41]) (ho := ⟨(by first | rfl | simp only [go_sem, seval, e_41]), trivial⟩) ?_
    refine CallK_go (by simp) ?_
    obtain ⟨o_55, h_54, h⟩ := bindS h
    simp only [e_41, e_44, e_45, e_46, go_sem, seval]
    rcases o_55 with ⟨y_52, y_53⟩ | _
    ·
     try dsimp only at h
     refine ACalls.useA (gsub_reader_list_w N _ _ _ _ _ c_0 _ h_54) [6] (v' := .vec false (List.map eI64 y_52)) (H' := [.box [.vec c_0 (List.map eU8 l_0), .int .i64 a_1, .int .i64 y_10] 100, .box [.int .i64 0, nn, .bool false, .int .i64 0, nn, nn, nn, nn, nn, nn, nn, nn, nn, nn, nn, nn] 35, .box [.int .i64 4, .vec false (List.map eTSpan y_5), .bool false, .int .i64 0, nn, .row 3 0 s_16.length, nn, nn, nn, nn, nn, nn, nn, nn, nn, nn] 35, .mem 1 (List.map eLTLig s_16) 41, .box [.vec c_0 (List.map eU8 l_0), .int .i64 (IntKind.i64.wrap (a_1 + x_19)), .int .i64 i_38] 100, .mem 2 (List.map eTLig s_39) 77, .box [.vec c_0 (List.map eU8 l_0), .int .i64 (IntKind.i64.wrap ((IntKind.i64.wrap (a_1 + x_19)) + x_42)), .int .i64 y_53] 100]) (hH := by simp only [go_sem, seval, e_41]) (ho := ⟨(by first | rfl | simp only [go_sem, seval, e_41]), trivial⟩) ?_
     refine CallK_go (by simp) ?_
     have e_57 : List.take s_39.length (List.map eTLig s_39) = (List.map eTLig s_39) := List.take_of_length_le (by simp)
     have e_58 : (List.map eTLig s_39) ++ [[.vec false (List.map eI64 y_52), .int .i64 y_48]] = (List.map eTLig (s_39 ++ [TLig.mk y_52 y_48])) := app_map s_39 ([TLig.mk y_52 y_48]) eTLig
     obtain ⟨h_59, h⟩ := guardS h
     have e_60 := eq_true h_59
     simp only [e_41, e_44, e_45, e_46, e_57, e_58, e_60, go_sem, seval]
     rw [← hQ]
     exact ⟨_, _, (Ref.std [0, 2, 3, 4, 7, 8, 22, 23, 24, 41, 42, 43] [0, 1, 2, 3, 4, 7] (by decide) (by decide) (by first | rfl | simp only [go_sem, seval]) (by first | rfl | simp only [go_sem, seval])), (by simp), ih _ _ _ _ h hp⟩
    ·
     try dsimp only at h
     refine ACalls.panA (gsub_reader_list_w N _ _ _ _ _ c_0 _ h_54) [6] (v' := .iface 58 (.agg [])) (H' := [.box [.vec c_0 (List.map eU8 l_0), .int .i64 a_1, .int .i64 y_10] 100, .box [.int .i64 0, nn, .bool false, .int .i64 0, nn, nn, nn, nn, nn, nn, nn, nn, nn, nn, nn, nn] 35, .box [.int .i64 4, .vec false (List.map eTSpan y_5), .bool false, .int .i64 0, nn, .row 3 0 s_16.length, nn, nn, nn, nn, nn, nn, nn, nn, nn, nn] 35, .mem 1 (List.map eLTLig s_16) 41, .box [.vec c_0 (List.map eU8 l_0), .int .i64 (IntKind.i64.wrap (a_1 + x_19)), .int .i64 i_38] 100, .mem 2 (List.map eTLig s_39) 77, .dead]) (hH := by simp only [go_sem, seval, e_41]) (ho := ⟨(by first | rfl | simp only [go_sem, seval, e_41]), trivial⟩) ?_
     try simp only [CallK_pan, dCallK_pan, panK_ap]
     have g := Option.some.inj h
     subst g
     rw [← hQ]
     exact hp _ _ rfl
   ·
    try dsimp only at h
    refine ACalls.panA (gsub_reader_number_w N _ _ _ c_0 _ h_49) [6] (v' := .iface 58 (.agg [])) (H' := [.box [.vec c_0 (List.map eU8 l_0), .int .i64 a_1, .int .i64 y_10] 100, .box [.int .i64 0, nn, .bool false, .int .i64 0, nn, nn, nn, nn, nn, nn, nn, nn, nn, nn, nn, nn] 35, .box [.int .i64 4, .vec false (List.map eTSpan y_5), .bool false, .int .i64 0, nn, .row 3 0 s_16.length, nn, nn, nn, nn, nn, nn, nn, nn, nn, nn] 35, .mem 1 (List.map eLTLig s_16) 41, .box [.vec c_0 (List.map eU8 l_0), .int .i64 (IntKind.i64.wrap (a_1 + x_19)), .int .i64 i_38] 100, .mem 2 (List.map eTLig s_39) 77, .dead]) (hH := by simp only [go_sem, seval, e_41]) (ho := ⟨(by first | rfl | simp only [go_sem, seval, e_41]), trivial⟩) ?_
    try simp only [CallK_pan, dCallK_pan, panK_ap]
    have g := Option.some.inj h
    subst g
    rw [← hQ]
    exact hp _ _ rfl
  ·
   rw [if_neg h_40] at h
   have e_41 := eq_false h_40
   simp only [e_41, go_sem, seval]
   have g := Option.some.inj h
   subst g
   rw [← hQ]
   exact ⟨_, _, (Ref.std [0, 2, 3, 4, 8, 22, 23, 24] [0, 1, 2, 3, 5] (by decide) (by decide) rfl (by first | rfl | simp only [go_sem, seval])), hp⟩
theorem gsub_reader_ligatures_L4_w (N : Nat) (y_9 : List Int) (l_0 : List Int) (a_1 : Int) (y_10 : Int) (y_5 : List TSpan) (c_0 : Bool) {R : AExit → ATm → List AObj → Prop} : ∀ (n : Nat) (i_14 : Int) (i_15 : Int) (s_16 : List (List TLig)) (o : ((List (List TLig))) ⊕ (Unit)), gsub_reader_ligatures_L4 N y_9 l_0 a_1 y_10 y_5 n i_14 i_15 s_16 = some o → (match o with | .inl z_1 => R (.exit 0) ⟨68, [(2, .ptr 1 0 0), (3, .ptr 2 0 0)], []⟩ [.box [.vec c_0 (List.map eU8 l_0), .int .i64 a_1, .int .i64 y_10] 100, .box [.int .i64 0, nn, .bool false, .int .i64 0, nn, nn, nn, nn, nn, nn, nn, nn, nn, nn, nn, nn] 35, .box [.int .i64 4, .vec false (List.map eTSpan y_5), .bool false, .int .i64 0, nn, .row 3 0 z_1.length, nn, nn, nn, nn, nn, nn, nn, nn, nn, nn] 35, .mem 1 (List.map eLTLig z_1) 41] | .inr (_) => ∀ (tb : ATm) (Hb : List AObj), tb.ds = [] → R (.pan (.iface 58 (.agg []))) tb Hb) →
  ALp Try.prog 1 B52_1 ⟨68, [(0, .ptr 0 0 0), (2, .ptr 1 0 0), (3, .ptr 2 0 0), (4, .int .i64 i_14), (22, .vec false (List.map eI64 y_9)), (23, .int .i64 (y_9.length : Int)), (24, .int .i64 i_15)], []⟩ [.box [.vec c_0 (List.map eU8 l_0), .int .i64 a_1, .int .i64 y_10] 100, .box [.int .i64 0, nn, .bool false, .int .i64 0, nn, nn, nn, nn, nn, nn, nn, nn, nn, nn, nn, nn] 35, .box [.int .i64 4, .vec false (List.map eTSpan y_5), .bool false, .int .i64 0, nn, .row 3 0 s_16.length, nn, nn, nn, nn, nn, nn, nn, nn, nn, nn] 35, .mem 1 (List.map eLTLig s_16) 41] R := by
 intro n
 induction n with
 | zero =>
  intro i_14 i_15 s_16 o h _
  have h0 : none = some o := h
  cases h0
 | succ n ih =>
  intro i_14 i_15 s_16 o h hp
  rw [gsub_reader_ligatures_L4] at h
  refine ALp.round ?_
  generalize hQ : RoundQ _ _ _ _ = QQ
  simp only [B52_1, A52, go_sem, seval]
  by_cases h_17 : i_15 < (y_9.length : Int)
  ·
   rw [if_pos h_17] at h
   have e_18 := eq_true h_17
   obtain ⟨x_19, h_20, h⟩ := bindS h
   have e_21 : (List.map eI64 y_9)[(i_15).toNat]? = some [.int .i64 x_19] := atI_map eI64 h_20
   have e_22 := eq_true (atI_some h_20).1
   have e_23 := eq_true (atI_lt h_20)
   obtain ⟨_, h_24, h⟩ := bindS h
   simp only [e_18, e_21, e_22, e_23, go_sem, seval]
   refine ACalls.useA (gsub_reader_part_w N _ _ _ _ c_0 h_24) [0] (v' := .ptr 4 0 0) (H' := [.box [.vec c_0 (List.map eU8 l_0), .int .i64 a_1, .int .i64 y_10] 100, .box [.int .i64 0, nn, .bool false, .int .i64 0, nn, nn, nn, nn, nn, nn, nn, nn, nn, nn, nn, nn] 35, .box [.int .i64 4, .vec false (List.map eTSpan y_5), .bool false, .int .i64 0, nn, .row 3 0 s_16.length, nn, nn, nn, nn, nn, nn, nn, nn, nn, nn] 35, .mem 1 (List.map eLTLig s_16) 41, .box [.vec c_0 (List.map eU8 l_0), .int .i64 (IntKind.i64.wrap (a_1 + x_19)), .int .i64 (IntKind.i64.wrap (a_1 + x_19))] 100]) (hH := by simp only [go_sem, seval, e_18]) (ho := ⟨(by first | rfl | simp only [go_sem, seval, e_18]), trivial⟩) ?_
   refine CallK_go (by simp) ?_
   obtain ⟨o_27, h_26, h⟩ := bindS h
   simp only [e_18, e_21, e_22, e_23, go_sem, seval]
   rcases o_27 with y_25 | _
   ·
    try dsimp only at h
    refine ACalls.useA (gsub_reader_number_w N _ _ _ c_0 _ h_26) [4] (v' := .int .i64 y_25) (H' := [.box [.vec c_0 (List.map eU8 l_0), .int .i64 a_1, .int .i64 y_10] 100, .box [.int .i64 0, nn, .bool false, .int .i64 0, nn, nn, nn, nn, nn, nn, nn, nn, nn, nn, nn, nn] 35, .box [.int .i64 4, .vec false (List.map eTSpan y_5), .bool false, .int .i64 0, nn, .row 3 0 s_16.length, nn, nn, nn, nn, nn, nn, nn, nn, nn, nn] 35, .mem 1 (List.map eLTLig s_16) 41, .box [.vec c_0 (List.map eU8 l_0), .int .i64 (IntKind.i64.wrap (a_1 + x_19)), .int .i64 (IntKind.i64.wrap ((IntKind.i64.wrap (a_1 + x_19)) + 2))] 100]) (hH := by simp only [go_sem, seval, e_18]) (ho := ⟨(by first | rfl | simp only [go_sem, seval, e_18]), trivial⟩) ?_
    refine CallK_go (by simp) ?_
    obtain ⟨o_30, h_29, h⟩ := bindS h
    simp only [e_18, e_21, e_22, e_23, go_sem, seval]
    rcases o_30 with _ | _
    ·
     try dsimp only at h
     refine ACalls.use0 (gsub_must_w N _ _ h_29) rfl rfl ?_
     refine CallK_go (by simp) ?_
     have e_32 := eq_true (of_decide_eq_true (gsub_must_inl h_29))
     obtain ⟨o_35, h_34, h⟩ := bindS h
     simp only [e_18, e_21, e_22, e_23, e_32, go_sem, seval]
     rcases o_35 with y_33 | _
     ·
      try dsimp only at h
      refine ACalls.useA (gsub_reader_row_w N _ _ _ _ c_0 _ h_34) [4] (v' := .vec false (List.map eI64 y_33)) (H' := [.box [.vec c_0 (List.map eU8 l_0), .int .i64 a_1, .int .i64 y_10] 100, .box [.int .i64 0, nn, .bool false, .int .i64 0, nn, nn, nn, nn, nn, nn, nn, nn, nn, nn, nn, nn] 35, .box [.int .i64 4, .vec false (List.map eTSpan y_5), .bool false, .int .i64 0, nn, .row 3 0 s_16.length, nn, nn, nn, nn, nn, nn, nn, nn, nn, nn] 35, .mem 1 (List.map eLTLig s_16) 41, .box [.vec c_0 (List.map eU8 l_0), .int .i64 (IntKind.i64.wrap (a_1 + x_19)), .int .i64 (IntKind.i64.wrap ((IntKind.i64.wrap ((IntKind.i64.wrap (a_1 + x_19)) + 2)) + (IntKind.i64.wrap (y_25 * 2))))] 100]) (hH := by simp only [go_sem, seval, e_18, e_32]) (ho := ⟨(by first | rfl | simp only [go_sem, seval, e_18, e_32]), trivial⟩) ?_
      refine CallK_go (by simp) ?_
      simp only [e_18, e_21, e_22, e_23, e_32, go_sem, seval]
      obtain ⟨o_1039, h_1037, h⟩ := bindS h
      refine ALp.ref (Ref.trans (Ref.thaw (by simp) 8 rfl (sz := 2) (by decide) 77) (Ref.std [0, 2, 3, 4, 7, 8, 22, 23, 24, 41, 42, 43] [0, 1, 2, 3, 4, 5] (by decide) (by decide) rfl (by first | rfl | simp only [go_sem, seval]))) (by simp) (gsub_reader_ligatures_L3_w N _ _ _ _ _ _ _ _ _ _ _ c_0 N _ _ _ o_1039 h_1037 ?_)
      rcases o_1039 with y_1038 | _
      ·
       try dsimp only at h
       refine LoopK_ref rfl (ta1 := ⟨68, [(0, .ptr 0 0 0), (2, .ptr 1 0 0), (3, .ptr 2 0 0), (4, .int .i64 (IntKind.i64.wrap (i_14 + y_25))), (8, .vec false (List.map eTLig y_1038)), (22, .vec false (List.map eI64 y_9)), (23, .int .i64 (y_9.length : Int)), (24, .int .i64 i_15)], []⟩) (H1 := [.box [.vec c_0 (List.map eU8 l_0), .int .i64 a_1, .int .i64 y_10] 100, .box [.int .i64 0, nn, .bool false, .int .i64 0, nn, nn, nn, nn, nn, nn, nn, nn, nn, nn, nn, nn] 35, .box [.int .i64 4, .vec false (List.map eTSpan y_5), .bool false, .int .i64 0, nn, .row 3 0 s_16.length, nn, nn, nn, nn, nn, nn, nn, nn, nn, nn] 35, .mem 1 (List.map eLTLig s_16) 41]) (Ref.trans (Ref.frz (by simp) (id := 4) rfl (pures_map y_1038 eTLig (fun _ => rfl))) (Ref.std [0, 2, 3, 4, 8, 22, 23, 24] [0, 1, 2, 3] (by decide) (by decide) (by first | rfl | simp only [go_sem, seval]) (by first | rfl | simp only [go_sem, seval]))) (by simp) ?_
       have e_1040 : List.take s_16.length (List.map eLTLig s_16) = (List.map eLTLig s_16) := List.take_of_length_le (by simp)
       have e_1041 : (List.map eLTLig s_16) ++ [[.vec false (List.map eTLig y_1038)]] = (List.map eLTLig (s_16 ++ [y_1038])) := app_map s_16 ([y_1038]) eLTLig
       obtain ⟨h_1042, h⟩ := guardS h
       have e_1043 := eq_true h_1042
       simp only [e_18, e_21, e_22, e_23, e_32, e_1040, e_1041, e_1043, go_sem, seval]
       rw [← hQ]
       exact ⟨_, _, (Ref.std [0, 2, 3, 4, 22, 23, 24] [0, 1, 2, 4] (by decide) (by decide) rfl (by first | rfl | simp only [go_sem, seval])), (by simp), ih _ _ _ _ h hp⟩
      ·
       try dsimp only at h
       intro _ _ h_1044
       refine LoopK_pan ?_
       have g := Option.some.inj h
       subst g
       rw [← hQ]
       exact hp _ _ h_1044
     ·
      try dsimp only at h
      refine ACalls.panA (gsub_reader_row_w N _ _ _ _ c_0 _ h_34) [4] (v' := .iface 58 (.agg [])) (H' := [.box [.vec c_0 (List.map eU8 l_0), .int .i64 a_1, .int .i64 y_10] 100, .box [.int .i64 0, nn, .bool false, .int .i64 0, nn, nn, nn, nn, nn, nn, nn, nn, nn, nn, nn, nn] 35, .box [.int .i64 4, .vec false (List.map eTSpan y_5), .bool false, .int .i64 0, nn, .row 3 0 s_16.length, nn, nn, nn, nn, nn, nn, nn, nn, nn, nn] 35, .mem 1 (List.map eLTLig s_16) 41, .dead]) (hH := by simp only [go_sem, seval, e_18, e_32]) (ho := ⟨(by first | rfl | simp only [go_sem, seval, e_18, e_32]), trivial⟩) ?_
      try simp only [CallK_pan, dCallK_pan, panK_ap]
      have g := Option.some.inj h
      subst g
      rw [← hQ]
      exact hp _ _ rfl
    ·
     try dsimp only at h
     refine ACalls.panA (gsub_must_w N _ _ h_29) [] (v' := .iface 58 (.agg [])) (H' := [.box [.vec c_0 (List.map eU8 l_0), .int .i64 a_1, .int .i64 y_10] 100, .box [.int .i64 0, nn, .bool false, .int .i64 0, nn, nn, nn, nn, nn, nn, nn, nn, nn, nn, nn, nn] 35, .box [.int .i64 4, .vec false (List.map eTSpan y_5), .bool false, .int .i64 0, nn, .row 3 0 s_16.length, nn, nn, nn, nn, nn, nn, nn, nn, nn, nn] 35, .mem 1 (List.map eLTLig s_16) 41, .box [.vec c_0 (List.map eU8 l_0), .int .i64 (IntKind.i64.wrap (a_1 + x_19)), .int .i64 (IntKind.i64.wrap ((IntKind.i64.wrap (a_1 + x_19)) + 2))] 100]) (hH := by simp only [go_sem, seval, e_18]) ?_
     try simp only [CallK_pan, dCallK_pan, panK_ap]
     have g := Option.some.inj h
     subst g
     rw [← hQ]
     exact hp _ _ rfl
   ·
    try dsimp only at h
    refine ACalls.panA (gsub_reader_number_w N _ _ _ c_0 _ h_26) [4] (v' := .iface 58 (.agg [])) (H' := [.box [.vec c_0 (List.map eU8 l_0), .int .i64 a_1, .int .i64 y_10] 100, .box [.int .i64 0, nn, .bool false, .int .i64 0, nn, nn, nn, nn, nn, nn, nn, nn, nn, nn, nn, nn] 35, .box [.int .i64 4, .vec false (List.map eTSpan y_5), .bool false, .int .i64 0, nn, .row 3 0 s_16.length, nn, nn, nn, nn, nn, nn, nn, nn, nn, nn] 35, .mem 1 (List.map eLTLig s_16) 41, .dead]) (hH := by simp only [go_sem, seval, e_18]) (ho := ⟨(by first | rfl | simp only [go_sem, seval, e_18]), trivial⟩) ?_
    try simp only [CallK_pan, dCallK_pan, panK_ap]
    have g := Option.some.inj h
    subst g
    rw [← hQ]
    exact hp _ _ rfl
  ·
   rw [if_neg h_17] at h
   have e_18 := eq_false h_17
   simp only [e_18, go_sem, seval]
   have g := Option.some.inj h
   subst g
   rw [← hQ]
   exact ⟨_, _, (Ref.std [2, 3] [0, 1, 2, 3] (by decide) (by decide) rfl (by first | rfl | simp only [go_sem, seval])), hp⟩
theorem gsub_reader_ligatures_w (N : Nat) (l_0 : List Int) (a_1 : Int) (a_2 : Int) (c_0 : Bool) (o : (O2T) ⊕ Unit) (h : gsub_reader_ligatures N l_0 a_1 a_2 = some o) :
  ACalls Try.prog 52 [.ptr 0 0 0] [.box [.vec c_0 (List.map eU8 l_0), .int .i64 a_1, .int .i64 a_2] 100] (fun e H => match o with | .inl (z_1, z_2, z_3, z_4, z_5, z_6, z_7, z_8, z_9, z_10, z_11, z_12, z_13, z_14, z_15, z_16, z_17) => H = [.box [.vec c_0 (List.map eU8 l_0), .int .i64 a_1, .int .i64 z_17] 100] ∧ e = .ret (.agg [.int .i64 z_1, .vec false (List.map eTSpan z_2), .bool z_3, .int .i64 z_4, .vec false (List.map eLI64 z_5), .vec false (List.map eLTLig z_6), .vec false (List.map eTCtx z_7), .vec false (List.map eTValue z_8), .vec false (List.map eLTTwo z_9), .vec false (List.map eTClass z_10), .vec false (List.map eTClass z_11), .vec false (List.map eLTTwo z_12), .vec false (List.map eTArr2_TAnchor z_13), .vec false (List.map eTMark z_14), .vec false (List.map eTSpan z_15), .vec false (List.map eLLTAnchor z_16)]) | .inr _ => H = [.dead] ∧ e = .pan (.iface 58 (.agg []))) := by
 unfold gsub_reader_ligatures at h
 refine ACalls.goN Try.func52 n52 a52 Try.ntmps52 r52 (by simp) 1 rfl ?_
 generalize hQ : bodyA _ _ _ = QQ
 obtain ⟨o_3, h_2, h⟩ := bindS h
 simp only [A52, go_sem, seval]
 rcases o_3 with y_1 | _
 ·
  try dsimp only at h
  refine ACalls.useA (gsub_reader_number_w N _ _ _ c_0 _ h_2) [0] (v' := .int .i64 y_1) (H' := [.box [.vec c_0 (List.map eU8 l_0), .int .i64 a_1, .int .i64 (IntKind.i64.wrap (a_2 + 2))] 100, .box [.int .i64 0, nn, .bool false, .int .i64 0, nn, nn, nn, nn, nn, nn, nn, nn, nn, nn, nn, nn] 35]) ?_
  refine CallK_go (by simp) ?_
  obtain ⟨o_7, h_6, h⟩ := bindS h
  simp only [go_sem, seval]
  rcases o_7 with y_5 | _
  ·
   try dsimp only at h
   refine ACalls.useA (gsub_reader_spans_w N _ _ _ _ c_0 _ h_6) [0] (v' := .vec false (List.map eTSpan y_5)) (H' := [.box [.vec c_0 (List.map eU8 l_0), .int .i64 a_1, .int .i64 (IntKind.i64.wrap (a_2 + 2))] 100, .box [.int .i64 0, nn, .bool false, .int .i64 0, nn, nn, nn, nn, nn, nn, nn, nn, nn, nn, nn, nn] 35]) ?_
   refine CallK_go (by simp) ?_
   obtain ⟨o_12, h_11, h⟩ := bindS h
   simp only [go_sem, seval]
   rcases o_12 with ⟨y_9, y_10⟩ | _
   ·
    try dsimp only at h
    refine ACalls.useA (gsub_reader_each_w N _ _ _ _ c_0 false _ h_11) [0] (v' := .vec false (List.map eI64 y_9)) (H' := [.box [.vec c_0 (List.map eU8 l_0), .int .i64 a_1, .int .i64 y_10] 100, .box [.int .i64 0, nn, .bool false, .int .i64 0, nn, nn, nn, nn, nn, nn, nn, nn, nn, nn, nn, nn] 35, .box [.int .i64 4, .vec false (List.map eTSpan y_5), .bool false, .int .i64 0, nn, nn, nn, nn, nn, nn, nn, nn, nn, nn, nn, nn] 35]) ?_
    refine CallK_go (by simp) ?_
    simp only [go_sem, seval]
    obtain ⟨o_1016, h_1014, h⟩ := bindS h
    refine ALp.ref (Ref.trans (Ref.thawB (by simp) (id := 2) 5 rfl rfl (sz := 1) (by decide) 41) (Ref.std [0, 2, 3, 4, 22, 23, 24] [0, 1, 2, 3] (by decide) (by decide) rfl (by first | rfl | simp only [go_sem, seval]))) (by simp) (gsub_reader_ligatures_L4_w N _ _ _ _ _ c_0 N _ _ _ o_1016 h_1014 ?_)
    rcases o_1016 with y_1015 | _
    ·
     try dsimp only at h
     refine LoopK_go rfl (by simp) ?_
     simp only [go_sem, seval]
     have g_0 := Option.some.inj h
     subst g_0
     rw [← hQ]
     exact ⟨rfl, _, rfl, _, _, (RefV.trans (RefV.frz (by simp) (id := 3) rfl (pures_map y_1015 eLTLig (fun _ => rfl))) (RefV.trans (RefV.std (v' := .agg [.int .i64 4, .vec false (List.map eTSpan y_5), .bool false, .int .i64 0, nn, .vec false (List.map eLTLig y_1015), nn, nn, nn, nn, nn, nn, nn, nn, nn, nn]) [0] (by decide) (by decide) (by first | rfl | simp only [go_sem, seval]) (by first | rfl | simp only [go_sem, seval])) (RefV.weak (Wks.cons (Wk.agg (Wks.cons (Wk.refl _) (Wks.cons (Wk.refl _) (Wks.cons (Wk.refl _) (Wks.cons (Wk.refl _) (Wks.cons Wk.vec (Wks.cons (Wk.refl _) (Wks.cons Wk.vec (Wks.cons Wk.vec (Wks.cons Wk.vec (Wks.cons Wk.vec (Wks.cons Wk.vec (Wks.cons Wk.vec (Wks.cons Wk.vec (Wks.cons Wk.vec (Wks.cons Wk.vec (Wks.cons Wk.vec (Wks.nil)))))))))))))))))) Wks.nil) (WkH.refl _)))), rfl, rfl⟩
    ·
     try dsimp only at h
     intro _ _ h_1017
     refine LoopK_pan ?_
     have g_0 := Option.some.inj h
     subst g_0
     rw [← hQ]
     exact ⟨h_1017, _, _, RefV.dead rfl, rfl, rfl⟩
   ·
    try dsimp only at h
    refine ACalls.panA (gsub_reader_each_w N _ _ _ _ c_0 false _ h_11) [0] (v' := .iface 58 (.agg [])) (H' := [.dead, .box [.int .i64 0, nn, .bool false, .int .i64 0, nn, nn, nn, nn, nn, nn, nn, nn, nn, nn, nn, nn] 35, .box [.int .i64 4, .vec false (List.map eTSpan y_5), .bool false, .int .i64 0, nn, nn, nn, nn, nn, nn, nn, nn, nn, nn, nn, nn] 35]) ?_
    try simp only [CallK_pan, dCallK_pan, panK_ap]
    have g_0 := Option.some.inj h
    subst g_0
    rw [← hQ]
    exact ⟨rfl, _, _, RefV.dead rfl, rfl, rfl⟩
  ·
   try dsimp only at h
   refine ACalls.panA (gsub_reader_spans_w N _ _ _ _ c_0 _ h_6) [0] (v' := .iface 58 (.agg [])) (H' := [.dead, .box [.int .i64 0, nn, .bool false, .int .i64 0, nn, nn, nn, nn, nn, nn, nn, nn, nn, nn, nn, nn] 35]) ?_
   try simp only [CallK_pan, dCallK_pan, panK_ap]
   have g_0 := Option.some.inj h
   subst g_0
   rw [← hQ]
   exact ⟨rfl, _, _, RefV.dead rfl, rfl, rfl⟩
 ·
  try dsimp only at h
  refine ACalls.panA (gsub_reader_number_w N _ _ _ c_0 _ h_2) [0] (v' := .iface 58 (.agg [])) (H' := [.dead, .box [.int .i64 0, nn, .bool false, .int .i64 0, nn, nn, nn, nn, nn, nn, nn, nn, nn, nn, nn, nn] 35]) ?_
  try simp only [CallK_pan, dCallK_pan, panK_ap]
  have g_0 := Option.some.inj h
  subst g_0
  rw [← hQ]
  exact ⟨rfl, _, _, RefV.dead rfl, rfl, rfl⟩
theorem octet_U32_w (N : Nat) (l_0 : List Int) (a_1 : Int) (c_0 : Bool) (z_1 : Int) (z_2 : Bool) (h : octet_U32 N l_0 a_1 = some (z_1, z_2)) :
  ACalls Try.prog 79 [.vec c_0 (List.map eU8 l_0), .int .i64 a_1] [] (fun e H => H = [] ∧ e = .ret (.tup [.int .i64 z_1, .bool z_2])) := by
 unfold octet_U32 at h
 refine ACalls.goN Try.func79 n79 a79 Try.ntmps79 r79 (by simp) 0 rfl ?_
 generalize hQ : bodyA _ _ _ = QQ
 obtain ⟨⟨y_1, y_2⟩, h_3, h⟩ := bindS h
 try dsimp only at h
 simp only [A79, go_sem, seval]
 refine ACalls.use0 (octet_read_w N _ _ _ c_0 _ _ h_3) rfl rfl ?_
 refine ck0 ?_
 simp only [go_sem, seval]
 obtain ⟨k_1, g_1⟩ := Prod.mk.inj (Option.some.inj h)
 subst k_1
 subst g_1
 rw [← hQ]
 exact ⟨rfl, _, rfl, _, _, (RefV.out rfl), rfl, rfl⟩
theorem gsub_reader_sets_L1_w (N : Nat) (y_1 : List Int) (l_0 : List Int) (a_1 : Int) (y_2 : Int) (c_0 : Bool) {R : AExit → ATm → List AObj → Prop} : ∀ (n : Nat) (i_6 : Int) (s_7 : List TSet) (o : ((List TSet)) ⊕ (Unit)), gsub_reader_sets_L1 N y_1 l_0 a_1 y_2 n i_6 s_7 = some o → (match o with | .inl z_1 => R (.exit 0) ⟨22, [(3, .row 1 0 z_1.length)], []⟩ [.box [.vec c_0 (List.map eU8 l_0), .int .i64 a_1, .int .i64 y_2] 100, .mem 2 (List.map eTSet z_1) 85] | .inr (_) => ∀ (tb : ATm) (Hb : List AObj), tb.ds = [] → R (.pan (.iface 58 (.agg []))) tb Hb) →
  ALp Try.prog 1 B80_1 ⟨22, [(0, .ptr 0 0 0), (3, .row 1 0 s_7.length), (7, .vec false (List.map eI64 y_1)), (8, .int .i64 (y_1.length : Int)), (9, .int .i64 i_6)], []⟩ [.box [.vec c_0 (List.map eU8 l_0), .int .i64 a_1, .int .i64 y_2] 100, .mem 2 (List.map eTSet s_7) 85] R := by
 intro n
 induction n with
 | zero =>
  intro i_6 s_7 o h _
  have h0 : none = some o := h
  cases h0
 | succ n ih =>
  intro i_6 s_7 o h hp
  rw [gsub_reader_sets_L1] at h
  refine ALp.round ?_
  generalize hQ : RoundQ _ _ _ _ = QQ
  simp only [B80_1, A80, go_sem, seval]
  by_cases h_8 : i_6 < (y_1.length : Int)
  ·
   rw [if_pos h_8] at h
   have e_9 := eq_true h_8
   obtain ⟨x_10, h_11, h⟩ := bindS h
   have e_12 : (List.map eI64 y_1)[(i_6).toNat]? = some [.int .i64 x_10] := atI_map eI64 h_11
   have e_13 := eq_true (atI_some h_11).1
   have e_14 := eq_true (atI_lt h_11)
   obtain ⟨o_17, h_16, h⟩ := bindS h
   simp only [e_9, e_12, e_13, e_14, go_sem, seval]
   rcases o_17 with y_15 | _
   ·
    try dsimp only at h
    refine ACalls.useA (gsub_reader_spans_w N _ _ _ _ c_0 _ h_16) [0] (v' := .vec false (List.map eTSpan y_15)) (H' := [.box [.vec c_0 (List.map eU8 l_0), .int .i64 a_1, .int .i64 y_2] 100, .mem 2 (List.map eTSet s_7) 85]) (hH := by simp only [go_sem, seval, e_9]) (ho := ⟨(by first | rfl | simp only [go_sem, seval, e_9]), trivial⟩) ?_
    refine CallK_go (by simp) ?_
    have e_19 : List.take s_7.length (List.map eTSet s_7) = (List.map eTSet s_7) := List.take_of_length_le (by simp)
    have e_20 : (List.map eTSet s_7) ++ [[.vec false (List.map eTSpan y_15), .bool false]] = (List.map eTSet (s_7 ++ [TSet.mk y_15 false])) := app_map s_7 ([TSet.mk y_15 false]) eTSet
    obtain ⟨h_21, h⟩ := guardS h
    have e_22 := eq_true h_21
    simp only [e_9, e_12, e_13, e_14, e_19, e_20, e_22, go_sem, seval]
    rw [← hQ]
    exact ⟨_, _, (Ref.std [0, 3, 7, 8, 9] [0, 2] (by decide) (by decide) (by first | rfl | simp only [go_sem, seval]) (by first | rfl | simp only [go_sem, seval])), (by simp), ih _ _ _ h hp⟩
   ·
    try dsimp only at h
    refine ACalls.panA (gsub_reader_spans_w N _ _ _ _ c_0 _ h_16) [0] (v' := .iface 58 (.agg [])) (H' := [.dead, .mem 2 (List.map eTSet s_7) 85]) (hH := by simp only [go_sem, seval, e_9]) (ho := ⟨(by first | rfl | simp only [go_sem, seval, e_9]), trivial⟩) ?_
    try simp only [CallK_pan, dCallK_pan, panK_ap]
    have g := Option.some.inj h
    subst g
    rw [← hQ]
    exact hp _ _ rfl
  ·
   rw [if_neg h_8] at h
   have e_9 := eq_false h_8
   simp only [e_9, go_sem, seval]
   have g := Option.some.inj h
   subst g
   rw [← hQ]
   exact ⟨_, _, (Ref.std [3] [0, 1] (by decide) (by decide) rfl (by first | rfl | simp only [go_sem, seval])), hp⟩
theorem gsub_reader_sets_w (N : Nat) (l_0 : List Int) (a_1 : Int) (a_2 : Int) (c_0 : Bool) (o : ((List TSet) × Int) ⊕ Unit) (h : gsub_reader_sets N l_0 a_1 a_2 = some o) :
  ACalls Try.prog 80 [.ptr 0 0 0] [.box [.vec c_0 (List.map eU8 l_0), .int .i64 a_1, .int .i64 a_2] 100] (fun e H => match o with | .inl (z_1, z_2) => H = [.box [.vec c_0 (List.map eU8 l_0), .int .i64 a_1, .int .i64 z_2] 100] ∧ e = .ret (.vec false (List.map eTSet z_1)) | .inr _ => H = [.dead] ∧ e = .pan (.iface 58 (.agg []))) := by
 unfold gsub_reader_sets at h
 refine ACalls.goN Try.func80 n80 a80 Try.ntmps80 r80 (by simp) 1 rfl ?_
 generalize hQ : bodyA _ _ _ = QQ
 obtain ⟨o_4, h_3, h⟩ := bindS h
 simp only [A80, go_sem, seval]
 rcases o_4 with ⟨y_1, y_2⟩ | _
 ·
  try dsimp only at h
  refine ACalls.useA (gsub_reader_list_w N _ _ _ _ _ c_0 _ h_3) [0] (v' := .vec false (List.map eI64 y_1)) (H' := [.box [.vec c_0 (List.map eU8 l_0), .int .i64 a_1, .int .i64 y_2] 100]) ?_
  refine CallK_go (by simp) ?_
  simp only [go_sem, seval]
  obtain ⟨o_1008, h_1006, h⟩ := bindS h
  refine ALp.ref (Ref.trans (Ref.thaw (by simp) 3 rfl (sz := 2) (by decide) 85) (Ref.std [0, 3, 7, 8, 9] [0, 1] (by decide) (by decide) rfl (by first | rfl | simp only [go_sem, seval]))) (by simp) (gsub_reader_sets_L1_w N _ _ _ _ c_0 N _ _ o_1008 h_1006 ?_)
  rcases o_1008 with y_1007 | _
  ·
   try dsimp only at h
   refine LoopK_go rfl (by simp) ?_
   simp only [go_sem, seval]
   have g_0 := Option.some.inj h
   subst g_0
   rw [← hQ]
   exact ⟨rfl, _, rfl, _, _, (RefV.trans (RefV.frz (by simp) (id := 1) rfl (pures_map y_1007 eTSet (fun _ => rfl))) (RefV.std [0] (by decide) (by decide) (by first | rfl | simp only [go_sem, seval]) (by first | rfl | simp only [go_sem, seval]))), rfl, rfl⟩
  ·
   try dsimp only at h
   intro _ _ h_1009
   refine LoopK_pan ?_
   have g_0 := Option.some.inj h
   subst g_0
   rw [← hQ]
   exact ⟨h_1009, _, _, RefV.dead rfl, rfl, rfl⟩
 ·
  try dsimp only at h
  refine ACalls.panA (gsub_reader_list_w N _ _ _ _ _ c_0 _ h_3) [0] (v' := .iface 58 (.agg [])) (H' := [.dead]) ?_
  try simp only [CallK_pan, dCallK_pan, panK_ap]
  have g_0 := Option.some.inj h
  subst g_0
  rw [← hQ]
  exact ⟨rfl, _, _, RefV.dead rfl, rfl, rfl⟩
theorem gsub_reader_reverse_w (N : Nat) (l_0 : List Int) (a_1 : Int) (a_2 : Int) (c_0 : Bool) (o : (O2T) ⊕ Unit) (h : gsub_reader_reverse N l_0 a_1 a_2 = some o) :
  ACalls Try.prog 54 [.ptr 0 0 0] [.box [.vec c_0 (List.map eU8 l_0), .int .i64 a_1, .int .i64 a_2] 100] (fun e H => match o with | .inl (z_1, z_2, z_3, z_4, z_5, z_6, z_7, z_8, z_9, z_10, z_11, z_12, z_13, z_14, z_15, z_16, z_17) => H = [.box [.vec c_0 (List.map eU8 l_0), .int .i64 a_1, .int .i64 z_17] 100] ∧ e = .ret (.agg [.int .i64 z_1, .vec false (List.map eTSpan z_2), .bool z_3, .int .i64 z_4, .vec false (List.map eLI64 z_5), .vec false (List.map eLTLig z_6), .vec false (List.map eTCtx z_7), .vec false (List.map eTValue z_8), .vec false (List.map eLTTwo z_9), .vec false (List.map eTClass z_10), .vec false (List.map eTClass z_11), .vec false (List.map eLTTwo z_12), .vec false (List.map eTArr2_TAnchor z_13), .vec false (List.map eTMark z_14), .vec false (List.map eTSpan z_15), .vec false (List.map eLLTAnchor z_16)]) | .inr _ => H = [.dead] ∧ e = .pan (.iface 58 (.agg []))) := by
 unfold gsub_reader_reverse at h
 refine ACalls.goN Try.func54 n54 a54 Try.ntmps54 r54 (by simp) 1 rfl ?_
 generalize hQ : bodyA _ _ _ = QQ
 obtain ⟨o_3, h_2, h⟩ := bindS h
 simp only [A54, go_sem, seval]
 rcases o_3 with y_1 | _
 ·
  try dsimp only at h
  refine ACalls.useA (gsub_reader_number_w N _ _ _ c_0 _ h_2) [0] (v' := .int .i64 y_1) (H' := [.box [.vec c_0 (List.map eU8 l_0), .int .i64 a_1, .int .i64 (IntKind.i64.wrap (a_2 + 2))] 100, .box [.int .i64 0, nn, .bool false, .int .i64 0, nn, nn, nn, nn, nn, nn, nn, nn, nn, nn, nn, nn] 35]) ?_
  refine CallK_go (by simp) ?_
  obtain ⟨o_7, h_6, h⟩ := bindS h
  simp only [go_sem, seval]
  rcases o_7 with y_5 | _
  ·
   try dsimp only at h
   refine ACalls.useA (gsub_reader_spans_w N _ _ _ _ c_0 _ h_6) [0] (v' := .vec false (List.map eTSpan y_5)) (H' := [.box [.vec c_0 (List.map eU8 l_0), .int .i64 a_1, .int .i64 (IntKind.i64.wrap (a_2 + 2))] 100, .box [.int .i64 0, nn, .bool false, .int .i64 0, nn, nn, nn, nn, nn, nn, nn, nn, nn, nn, nn, nn] 35]) ?_
   refine CallK_go (by simp) ?_
   obtain ⟨o_12, h_11, h⟩ := bindS h
   simp only [go_sem, seval]
   rcases o_12 with ⟨y_9, y_10⟩ | _
   ·
    try dsimp only at h
    refine ACalls.useA (gsub_reader_sets_w N _ _ _ c_0 _ h_11) [0] (v' := .vec false (List.map eTSet y_9)) (H' := [.box [.vec c_0 (List.map eU8 l_0), .int .i64 a_1, .int .i64 y_10] 100, .box [.int .i64 0, nn, .bool false, .int .i64 0, nn, nn, nn, nn, nn, nn, nn, nn, nn, nn, nn, nn] 35, .box [.int .i64 8, .vec false (List.map eTSpan y_5), .bool false, .int .i64 0, nn, nn, nn, nn, nn, nn, nn, nn, nn, nn, nn, nn] 35]) ?_
    refine CallK_go (by simp) ?_
    obtain ⟨o_17, h_16, h⟩ := bindS h
    simp only [go_sem, seval]
    rcases o_17 with ⟨y_14, y_15⟩ | _
    ·
     try dsimp only at h
     refine ACalls.useA (gsub_reader_sets_w N _ _ _ c_0 _ h_16) [0] (v' := .vec false (List.map eTSet y_14)) (H' := [.box [.vec c_0 (List.map eU8 l_0), .int .i64 a_1, .int .i64 y_15] 100, .box [.int .i64 0, nn, .bool false, .int .i64 0, nn, nn, nn, nn, nn, nn, nn, nn, nn, nn, nn, nn] 35, .box [.int .i64 8, .vec false (List.map eTSpan y_5), .bool false, .int .i64 0, nn, nn, nn, nn, nn, nn, nn, nn, nn, nn, nn, nn] 35]) ?_
     refine CallK_go (by simp) ?_
     obtain ⟨o_22, h_21, h⟩ := bindS h
     simp only [go_sem, seval]
     rcases o_22 with ⟨y_19, y_20⟩ | _
     ·
      try dsimp only at h
      refine ACalls.useA (gsub_reader_each_w N _ _ _ _ c_0 false _ h_21) [0] (v' := .vec false (List.map eI64 y_19)) (H' := [.box [.vec c_0 (List.map eU8 l_0), .int .i64 a_1, .int .i64 y_20] 100, .box [.int .i64 0, nn, .bool false, .int .i64 0, nn, nn, nn, nn, nn, nn, nn, nn, nn, nn, nn, nn] 35, .box [.int .i64 8, .vec false (List.map eTSpan y_5), .bool false, .int .i64 0, nn, nn, .vec true [[.vec false (List.map eTSet y_9), nn, .vec false (List.map eTSet y_14), nn]], nn, nn, nn, nn, nn, nn, nn, nn, nn] 35]) ?_
      refine CallK_go (by simp) ?_
      obtain ⟨y_24, h_25, h⟩ := bindS h
      simp only [go_sem, seval]
      refine ACalls.use0 (gsub_ones_w N _ false _ h_25) rfl rfl ?_
      refine CallK_go (by simp) ?_
      simp only [go_sem, seval]
      have g_0 := Option.some.inj h
      subst g_0
      rw [← hQ]
      exact ⟨rfl, _, rfl, _, _, (RefV.trans (RefV.std (v' := .agg [.int .i64 8, .vec false (List.map eTSpan y_5), .bool false, .int .i64 0, .vec false (List.map eLI64 y_24), nn, .vec true [[.vec false (List.map eTSet y_9), nn, .vec false (List.map eTSet y_14), nn]], nn, nn, nn, nn, nn, nn, nn, nn, nn]) [0] (by decide) (by decide) rfl (by first | rfl | simp only [go_sem, seval])) (RefV.weak (Wks.cons (Wk.agg (Wks.cons (Wk.refl _) (Wks.cons (Wk.refl _) (Wks.cons (Wk.refl _) (Wks.cons (Wk.refl _) (Wks.cons (Wk.refl _) (Wks.cons Wk.vec (Wks.cons (Wk.vecs (Wkss.cons (Wks.cons (Wk.refl _) (Wks.cons Wk.vec (Wks.cons (Wk.refl _) (Wks.cons Wk.vec (Wks.nil))))) (Wkss.nil))) (Wks.cons Wk.vec (Wks.cons Wk.vec (Wks.cons Wk.vec (Wks.cons Wk.vec (Wks.cons Wk.vec (Wks.cons Wk.vec (Wks.cons Wk.vec (Wks.cons Wk.vec (Wks.cons Wk.vec (Wks.nil)))))))))))))))))) Wks.nil) (WkH.refl _))), rfl, rfl⟩
     ·
      try dsimp only at h
      refine ACalls.panA (gsub_reader_each_w N _ _ _ _ c_0 false _ h_21) [0] (v' := .iface 58 (.agg [])) (H' := [.dead, .box [.int .i64 0, nn, .bool false, .int .i64 0, nn, nn, nn, nn, nn, nn, nn, nn, nn, nn, nn, nn] 35, .box [.int .i64 8, .vec false (List.map eTSpan y_5), .bool false, .int .i64 0, nn, nn, .vec true [[.vec false (List.map eTSet y_9), nn, .vec false (List.map eTSet y_14), nn]], nn, nn, nn, nn, nn, nn, nn, nn, nn] 35]) ?_
      try simp only [CallK_pan, dCallK_pan, panK_ap]
      have g_0 := Option.some.inj h
      subst g_0
      rw [← hQ]
      exact ⟨rfl, _, _, RefV.dead rfl, rfl, rfl⟩
    ·
     try dsimp only at h
     refine ACalls.panA (gsub_reader_sets_w N _ _ _ c_0 _ h_16) [0] (v' := .iface 58 (.agg [])) (H' := [.dead, .box [.int .i64 0, nn, .bool false, .int .i64 0, nn, nn, nn, nn, nn, nn, nn, nn, nn, nn, nn, nn] 35, .box [.int .i64 8, .vec false (List.map eTSpan y_5), .bool false, .int .i64 0, nn, nn, nn, nn, nn, nn, nn, nn, nn, nn, nn, nn] 35]) ?_
     try simp only [CallK_pan, dCallK_pan, panK_ap]
     have g_0 := Option.some.inj h
     subst g_0
     rw [← hQ]
     exact ⟨rfl, _, _, RefV.dead rfl, rfl, rfl⟩
   ·
    try dsimp only at h
    refine ACalls.panA (gsub_reader_sets_w N _ _ _ c_0 _ h_11) [0] (v' := .iface 58 (.agg [])) (H' := [.dead, .box [.int .i64 0, nn, .bool false, .int .i64 0, nn, nn, nn, nn, nn, nn, nn, nn, nn, nn, nn, nn] 35, .box [.int .i64 8, .vec false (List.map eTSpan y_5), .bool false, .int .i64 0, nn, nn, nn, nn, nn, nn, nn, nn, nn, nn, nn, nn] 35]) ?_
    try simp only [CallK_pan, dCallK_pan, panK_ap]
    have g_0 := Option.some.inj h
    subst g_0
    rw [← hQ]
    exact ⟨rfl, _, _, RefV.dead rfl, rfl, rfl⟩
  ·
   try dsimp only at h
   refine ACalls.panA (gsub_reader_spans_w N _ _ _ _ c_0 _ h_6) [0] (v' := .iface 58 (.agg [])) (H' := [.dead, .box [.int .i64 0, nn, .bool false, .int .i64 0, nn, nn, nn, nn, nn, nn, nn, nn, nn, nn, nn, nn] 35]) ?_
   try simp only [CallK_pan, dCallK_pan, panK_ap]
   have g_0 := Option.some.inj h
   subst g_0
   rw [← hQ]
   exact ⟨rfl, _, _, RefV.dead rfl, rfl, rfl⟩
 ·
  try dsimp only at h
  refine ACalls.panA (gsub_reader_number_w N _ _ _ c_0 _ h_2) [0] (v' := .iface 58 (.agg [])) (H' := [.dead, .box [.int .i64 0, nn, .bool false, .int .i64 0, nn, nn, nn, nn, nn, nn, nn, nn, nn, nn, nn, nn] 35]) ?_
  try simp only [CallK_pan, dCallK_pan, panK_ap]
  have g_0 := Option.some.inj h
  subst g_0
  rw [← hQ]
  exact ⟨rfl, _, _, RefV.dead rfl, rfl, rfl⟩
theorem gsub_read_v2_w (N : Nat) (l_0 : List Int) (a_1 : Int) (a_2 : Int) (c_0 : Bool) (o : (O3T) ⊕ Unit) (h : gsub_read_v2 N l_0 a_1 a_2 = some o) :
  ACalls Try.prog 24 [.vec c_0 (List.map eU8 l_0), .int .i64 a_1, .int .i64 a_2] [] (fun e H => match o with | .inl (z_1, z_2, z_3, z_4, z_5, z_6, z_7, z_8, z_9, z_10, z_11, z_12, z_13, z_14, z_15, z_16) => H = [] ∧ e = .ret (.agg [.int .i64 z_1, .vec false (List.map eTSpan z_2), .bool z_3, .int .i64 z_4, .vec false (List.map eLI64 z_5), .vec false (List.map eLTLig z_6), .vec false (List.map eTCtx z_7), .vec false (List.map eTValue z_8), .vec false (List.map eLTTwo z_9), .vec false (List.map eTClass z_10), .vec false (List.map eTClass z_11), .vec false (List.map eLTTwo z_12), .vec false (List.map eTArr2_TAnchor z_13), .vec false (List.map eTMark z_14), .vec false (List.map eTSpan z_15), .vec false (List.map eLLTAnchor z_16)]) | .inr _ => H = [] ∧ e = .pan (.iface 58 (.agg []))) := by
 unfold gsub_read_v2 at h
 refine ACalls.goN Try.func24 n24 a24 Try.ntmps24 r24 (by simp) 0 rfl ?_
 generalize hQ : bodyA _ _ _ = QQ
 simp only [A24, go_sem, seval]
 by_cases h_1 : a_2 = 5
 ·
  rw [if_pos h_1] at h
  have e_2 := eq_true h_1
  obtain ⟨o_20, h_19, h⟩ := bindS h
  simp only [e_2, go_sem, seval]
  rcases o_20 with ⟨y_3, y_4, y_5, y_6, y_7, y_8, y_9, y_10, y_11, y_12, y_13, y_14, y_15, y_16, y_17, y_18⟩ | _
  ·
   try dsimp only at h
   refine ACalls.useA (gsub_reader_contexts_w N _ _ _ _ c_0 _ h_19) [1] (v' := .agg [.int .i64 y_3, .vec false (List.map eTSpan y_4), .bool y_5, .int .i64 y_6, .vec false (List.map eLI64 y_7), .vec false (List.map eLTLig y_8), .vec false (List.map eTCtx y_9), .vec false (List.map eTValue y_10), .vec false (List.map eLTTwo y_11), .vec false (List.map eTClass y_12), .vec false (List.map eTClass y_13), .vec false (List.map eLTTwo y_14), .vec false (List.map eTArr2_TAnchor y_15), .vec false (List.map eTMark y_16), .vec false (List.map eTSpan y_17), .vec false (List.map eLLTAnchor y_18)]) (H' := [.box [.int .i64 0, nn, .bool false, .int .i64 0, nn, nn, nn, nn, nn, nn, nn, nn, nn, nn, nn, nn] 35, .box [.vec c_0 (List.map eU8 l_0), .int .i64 a_1, .int .i64 a_1] 100]) (hH := by simp only [go_sem, seval, e_2]) (ho := ⟨(by first | rfl | simp only [go_sem, seval, e_2]), trivial⟩) ?_
   refine ck0 ?_
   simp only [e_2, go_sem, seval]
   have g_0 := Option.some.inj h
   subst g_0
   rw [← hQ]
   exact ⟨rfl, _, rfl, _, _, (RefV.out (by first | rfl | simp only [go_sem, seval, e_2])), rfl, rfl⟩
  ·
   try dsimp only at h
   refine ACalls.panA (gsub_reader_contexts_w N _ _ _ _ c_0 _ h_19) [1] (v' := .iface 58 (.agg [])) (H' := [.box [.int .i64 0, nn, .bool false, .int .i64 0, nn, nn, nn, nn, nn, nn, nn, nn, nn, nn, nn, nn] 35, .dead]) (hH := by simp only [go_sem, seval, e_2]) (ho := ⟨(by first | rfl | simp only [go_sem, seval, e_2]), trivial⟩) ?_
   try simp only [CallK_pan, dCallK_pan, panK_ap]
   have g_0 := Option.some.inj h
   subst g_0
   rw [← hQ]
   exact ⟨rfl, _, _, RefV.dead rfl, rfl, rfl⟩
 ·
  rw [if_neg h_1] at h
  have e_2 := eq_false h_1
  simp only [e_2, go_sem, seval]
  by_cases h_22 : a_2 = 6
  ·
   rw [if_pos h_22] at h
   have e_23 := eq_true h_22
   obtain ⟨o_41, h_40, h⟩ := bindS h
   simp only [e_2, e_23, go_sem, seval]
   rcases o_41 with ⟨y_24, y_25, y_26, y_27, y_28, y_29, y_30, y_31, y_32, y_33, y_34, y_35, y_36, y_37, y_38, y_39⟩ | _
   ·
    try dsimp only at h
    refine ACalls.useA (gsub_reader_contexts_v2_w N _ _ _ _ c_0 _ h_40) [1] (v' := .agg [.int .i64 y_24, .vec false (List.map eTSpan y_25), .bool y_26, .int .i64 y_27, .vec false (List.map eLI64 y_28), .vec false (List.map eLTLig y_29), .vec false (List.map eTCtx y_30), .vec false (List.map eTValue y_31), .vec false (List.map eLTTwo y_32), .vec false (List.map eTClass y_33), .vec false (List.map eTClass y_34), .vec false (List.map eLTTwo y_35), .vec false (List.map eTArr2_TAnchor y_36), .vec false (List.map eTMark y_37), .vec false (List.map eTSpan y_38), .vec false (List.map eLLTAnchor y_39)]) (H' := [.box [.int .i64 0, nn, .bool false, .int .i64 0, nn, nn, nn, nn, nn, nn, nn, nn, nn, nn, nn, nn] 35, .box [.vec c_0 (List.map eU8 l_0), .int .i64 a_1, .int .i64 a_1] 100]) (hH := by simp only [go_sem, seval, e_2, e_23]) (ho := ⟨(by first | rfl | simp only [go_sem, seval, e_2, e_23]), trivial⟩) ?_
    refine ck0 ?_
    simp only [e_2, e_23, go_sem, seval]
    have g_0 := Option.some.inj h
    subst g_0
    rw [← hQ]
    exact ⟨rfl, _, rfl, _, _, (RefV.out (by first | rfl | simp only [go_sem, seval, e_2, e_23])), rfl, rfl⟩
   ·
    try dsimp only at h
    refine ACalls.panA (gsub_reader_contexts_v2_w N _ _ _ _ c_0 _ h_40) [1] (v' := .iface 58 (.agg [])) (H' := [.box [.int .i64 0, nn, .bool false, .int .i64 0, nn, nn, nn, nn, nn, nn, nn, nn, nn, nn, nn, nn] 35, .dead]) (hH := by simp only [go_sem, seval, e_2, e_23]) (ho := ⟨(by first | rfl | simp only [go_sem, seval, e_2, e_23]), trivial⟩) ?_
    try simp only [CallK_pan, dCallK_pan, panK_ap]
    have g_0 := Option.some.inj h
    subst g_0
    rw [← hQ]
    exact ⟨rfl, _, _, RefV.dead rfl, rfl, rfl⟩
  ·
   rw [if_neg h_22] at h
   have e_23 := eq_false h_22
   simp only [e_2, e_23, go_sem, seval]
   by_cases h_43 : 1 ≤ a_2
   ·
    rw [if_pos h_43] at h
    have e_44 := eq_true h_43
    obtain ⟨o_46, h_45, h⟩ := bindS h
    simp only [e_2, e_23, e_44, go_sem, seval]
    rcases o_46 with _ | _
    ·
     try dsimp only at h
     refine ACalls.use0 (gsub_must_w N _ _ h_45) rfl rfl ?_
     refine ck0 ?_
     have e_48 := eq_true (of_decide_eq_true (gsub_must_inl h_45))
     obtain ⟨o_51, h_50, h⟩ := bindS h
     simp only [e_2, e_23, e_44, e_48, go_sem, seval]
     rcases o_51 with y_49 | _
     ·
      try dsimp only at h
      refine ACalls.useA (gsub_reader_number_w N _ _ _ c_0 _ h_50) [1] (v' := .int .i64 y_49) (H' := [.box [.int .i64 0, nn, .bool false, .int .i64 0, nn, nn, nn, nn, nn, nn, nn, nn, nn, nn, nn, nn] 35, .box [.vec c_0 (List.map eU8 l_0), .int .i64 a_1, .int .i64 (IntKind.i64.wrap (a_1 + 2))] 100]) (hH := by simp only [go_sem, seval, e_2, e_23, e_44, e_48]) (ho := ⟨(by first | rfl | simp only [go_sem, seval, e_2, e_23, e_44, e_48]), trivial⟩) ?_
      refine ck0 ?_
      simp only [e_2, e_23, e_44, e_48, go_sem, seval]
      by_cases h_53 : y_49 = 1
      ·
       rw [if_pos h_53] at h
       have e_54 := eq_true h_53
       obtain ⟨o_56, h_55, h⟩ := bindS h
       simp only [e_2, e_23, e_44, e_48, e_54, go_sem, seval]
       rcases o_56 with _ | _
       ·
        try dsimp only at h
        refine ACalls.use0 (gsub_must_w N _ _ h_55) rfl rfl ?_
        refine ck0 ?_
        simp only [e_2, e_23, e_44, e_48, e_54, go_sem, seval]
        by_cases h_58 : a_2 = 1
        ·
         rw [if_pos h_58] at h
         have e_59 := eq_true h_58
         obtain ⟨o_78, h_77, h⟩ := bindS h
         simp only [e_2, e_23, e_44, e_48, e_54, e_59, go_sem, seval]
         rcases o_78 with ⟨y_60, y_61, y_62, y_63, y_64, y_65, y_66, y_67, y_68, y_69, y_70, y_71, y_72, y_73, y_74, y_75, y_76⟩ | _
         ·
          try dsimp only at h
          refine ACalls.useA (gsub_reader_single_w N _ _ _ _ c_0 _ h_77) [1] (v' := .agg [.int .i64 y_60, .vec false (List.map eTSpan y_61), .bool y_62, .int .i64 y_63, .vec false (List.map eLI64 y_64), .vec false (List.map eLTLig y_65), .vec false (List.map eTCtx y_66), .vec false (List.map eTValue y_67), .vec false (List.map eLTTwo y_68), .vec false (List.map eTClass y_69), .vec false (List.map eTClass y_70), .vec false (List.map eLTTwo y_71), .vec false (List.map eTArr2_TAnchor y_72), .vec false (List.map eTMark y_73), .vec false (List.map eTSpan y_74), .vec false (List.map eLLTAnchor y_75)]) (H' := [.box [.int .i64 0, nn, .bool false, .int .i64 0, nn, nn, nn, nn, nn, nn, nn, nn, nn, nn, nn, nn] 35, .box [.vec c_0 (List.map eU8 l_0), .int .i64 a_1, .int .i64 y_76] 100]) (hH := by simp only [go_sem, seval, e_2, e_23, e_44, e_48, e_54, e_59]) (ho := ⟨(by first | rfl | simp only [go_sem, seval, e_2, e_23, e_44, e_48, e_54, e_59]), trivial⟩) ?_
          refine ck0 ?_
          simp only [e_2, e_23, e_44, e_48, e_54, e_59, go_sem, seval]
          have g_0 := Option.some.inj h
          subst g_0
          rw [← hQ]
          exact ⟨rfl, _, rfl, _, _, (RefV.out (by first | rfl | simp only [go_sem, seval, e_2, e_23, e_44, e_48, e_54, e_59])), rfl, rfl⟩
         ·
          try dsimp only at h
          refine ACalls.panA (gsub_reader_single_w N _ _ _ _ c_0 _ h_77) [1] (v' := .iface 58 (.agg [])) (H' := [.box [.int .i64 0, nn, .bool false, .int .i64 0, nn, nn, nn, nn, nn, nn, nn, nn, nn, nn, nn, nn] 35, .dead]) (hH := by simp only [go_sem, seval, e_2, e_23, e_44, e_48, e_54, e_59]) (ho := ⟨(by first | rfl | simp only [go_sem, seval, e_2, e_23, e_44, e_48, e_54, e_59]), trivial⟩) ?_
          try simp only [CallK_pan, dCallK_pan, panK_ap]
          have g_0 := Option.some.inj h
          subst g_0
          rw [← hQ]
          exact ⟨rfl, _, _, RefV.dead rfl, rfl, rfl⟩
        ·
         rw [if_neg h_58] at h
         have e_59 := eq_false h_58
         simp only [e_2, e_23, e_44, e_48, e_54, e_59, go_sem, seval]
         by_cases h_80 : a_2 = 2
         ·
          rw [if_pos h_80] at h
          have e_81 := eq_true h_80
          obtain ⟨o_100, h_99, h⟩ := bindS h
          simp only [e_2, e_23, e_44, e_48, e_54, e_59, e_81, go_sem, seval]
          rcases o_100 with ⟨y_82, y_83, y_84, y_85, y_86, y_87, y_88, y_89, y_90, y_91, y_92, y_93, y_94, y_95, y_96, y_97, y_98⟩ | _
          ·
           try dsimp only at h
           refine ACalls.useA (gsub_reader_several_w N _ _ _ _ _ c_0 _ h_99) [1] (v' := .agg [.int .i64 y_82, .vec false (List.map eTSpan y_83), .bool y_84, .int .i64 y_85, .vec false (List.map eLI64 y_86), .vec false (List.map eLTLig y_87), .vec false (List.map eTCtx y_88), .vec false (List.map eTValue y_89), .vec false (List.map eLTTwo y_90), .vec false (List.map eTClass y_91), .vec false (List.map eTClass y_92), .vec false (List.map eLTTwo y_93), .vec false (List.map eTArr2_TAnchor y_94), .vec false (List.map eTMark y_95), .vec false (List.map eTSpan y_96), .vec false (List.map eLLTAnchor y_97)]) (H' := [.box [.int .i64 0, nn, .bool false, .int .i64 0, nn, nn, nn, nn, nn, nn, nn, nn, nn, nn, nn, nn] 35, .box [.vec c_0 (List.map eU8 l_0), .int .i64 a_1, .int .i64 y_98] 100]) (hH := by simp only [go_sem, seval, e_2, e_23, e_44, e_48, e_54, e_59, e_81]) (ho := ⟨(by first | rfl | simp only [go_sem, seval, e_2, e_23, e_44, e_48, e_54, e_59, e_81]), trivial⟩) ?_
           refine ck0 ?_
           simp only [e_2, e_23, e_44, e_48, e_54, e_59, e_81, go_sem, seval]
           have g_0 := Option.some.inj h
           subst g_0
           rw [← hQ]
           exact ⟨rfl, _, rfl, _, _, (RefV.out (by first | rfl | simp only [go_sem, seval, e_2, e_23, e_44, e_48, e_54, e_59, e_81])), rfl, rfl⟩
          ·
           try dsimp only at h
           refine ACalls.panA (gsub_reader_several_w N _ _ _ _ _ c_0 _ h_99) [1] (v' := .iface 58 (.agg [])) (H' := [.box [.int .i64 0, nn, .bool false, .int .i64 0, nn, nn, nn, nn, nn, nn, nn, nn, nn, nn, nn, nn] 35, .dead]) (hH := by simp only [go_sem, seval, e_2, e_23, e_44, e_48, e_54, e_59, e_81]) (ho := ⟨(by first | rfl | simp only [go_sem, seval, e_2, e_23, e_44, e_48, e_54, e_59, e_81]), trivial⟩) ?_
           try simp only [CallK_pan, dCallK_pan, panK_ap]
           have g_0 := Option.some.inj h
           subst g_0
           rw [← hQ]
           exact ⟨rfl, _, _, RefV.dead rfl, rfl, rfl⟩
         ·
          rw [if_neg h_80] at h
          have e_81 := eq_false h_80
          simp only [e_2, e_23, e_44, e_48, e_54, e_59, e_81, go_sem, seval]
          by_cases h_102 : a_2 = 3
          ·
           rw [if_pos h_102] at h
           have e_103 := eq_true h_102
           obtain ⟨o_122, h_121, h⟩ := bindS h
           simp only [e_2, e_23, e_44, e_48, e_54, e_59, e_81, e_103, go_sem, seval]
           rcases o_122 with ⟨y_104, y_105, y_106, y_107, y_108, y_109, y_110, y_111, y_112, y_113, y_114, y_115, y_116, y_117, y_118, y_119, y_120⟩ | _
           ·
            try dsimp only at h
            refine ACalls.useA (gsub_reader_several_w N _ _ _ _ _ c_0 _ h_121) [1] (v' := .agg [.int .i64 y_104, .vec false (List.map eTSpan y_105), .bool y_106, .int .i64 y_107, .vec false (List.map eLI64 y_108), .vec false (List.map eLTLig y_109), .vec false (List.map eTCtx y_110), .vec false (List.map eTValue y_111), .vec false (List.map eLTTwo y_112), .vec false (List.map eTClass y_113), .vec false (List.map eTClass y_114), .vec false (List.map eLTTwo y_115), .vec false (List.map eTArr2_TAnchor y_116), .vec false (List.map eTMark y_117), .vec false (List.map eTSpan y_118), .vec false (List.map eLLTAnchor y_119)]) (H' := [.box [.int .i64 0, nn, .bool false, .int .i64 0, nn, nn, nn, nn, nn, nn, nn, nn, nn, nn, nn, nn] 35, .box [.vec c_0 (List.map eU8 l_0), .int .i64 a_1, .int .i64 y_120] 100]) (hH := by simp only [go_sem, seval, e_2, e_23, e_44, e_48, e_54, e_59, e_81, e_103]) (ho := ⟨(by first | rfl | simp only [go_sem, seval, e_2, e_23, e_44, e_48, e_54, e_59, e_81, e_103]), trivial⟩) ?_
            refine ck0 ?_
            simp only [e_2, e_23, e_44, e_48, e_54, e_59, e_81, e_103, go_sem, seval]
            have g_0 := Option.some.inj h
            subst g_0
            rw [← hQ]
            exact ⟨rfl, _, rfl, _, _, (RefV.out (by first | rfl | simp only [go_sem, seval, e_2, e_23, e_44, e_48, e_54, e_59, e_81, e_103])), rfl, rfl⟩
           ·
            try dsimp only at h
            refine ACalls.panA (gsub_reader_several_w N _ _ _ _ _ c_0 _ h_121) [1] (v' := .iface 58 (.agg [])) (H' := [.box [.int .i64 0, nn, .bool false, .int .i64 0, nn, nn, nn, nn, nn, nn, nn, nn, nn, nn, nn, nn] 35, .dead]) (hH := by simp only [go_sem, seval, e_2, e_23, e_44, e_48, e_54, e_59, e_81, e_103]) (ho := ⟨(by first | rfl | simp only [go_sem, seval, e_2, e_23, e_44, e_48, e_54, e_59, e_81, e_103]), trivial⟩) ?_
            try simp only [CallK_pan, dCallK_pan, panK_ap]
            have g_0 := Option.some.inj h
            subst g_0
            rw [← hQ]
            exact ⟨rfl, _, _, RefV.dead rfl, rfl, rfl⟩
          ·
           rw [if_neg h_102] at h
           have e_103 := eq_false h_102
           simp only [e_2, e_23, e_44, e_48, e_54, e_59, e_81, e_103, go_sem, seval]
           by_cases h_124 : a_2 = 4
           ·
            rw [if_pos h_124] at h
            have e_125 := eq_true h_124
            obtain ⟨o_144, h_143, h⟩ := bindS h
            simp only [e_2, e_23, e_44, e_48, e_54, e_59, e_81, e_103, e_125, go_sem, seval]
            rcases o_144 with ⟨y_126, y_127, y_128, y_129, y_130, y_131, y_132, y_133, y_134, y_135, y_136, y_137, y_138, y_139, y_140, y_141, y_142⟩ | _
            ·
             try dsimp only at h
             refine ACalls.useA (gsub_reader_ligatures_w N _ _ _ c_0 _ h_143) [1] (v' := .agg [.int .i64 y_126, .vec false (List.map eTSpan y_127), .bool y_128, .int .i64 y_129, .vec false (List.map eLI64 y_130), .vec false (List.map eLTLig y_131), .vec false (List.map eTCtx y_132), .vec false (List.map eTValue y_133), .vec false (List.map eLTTwo y_134), .vec false (List.map eTClass y_135), .vec false (List.map eTClass y_136), .vec false (List.map eLTTwo y_137), .vec false (List.map eTArr2_TAnchor y_138), .vec false (List.map eTMark y_139), .vec false (List.map eTSpan y_140), .vec false (List.map eLLTAnchor y_141)]) (H' := [.box [.int .i64 0, nn, .bool false, .int .i64 0, nn, nn, nn, nn, nn, nn, nn, nn, nn, nn, nn, nn] 35, .box [.vec c_0 (List.map eU8 l_0), .int .i64 a_1, .int .i64 y_142] 100]) (hH := by simp only [go_sem, seval, e_2, e_23, e_44, e_48, e_54, e_59, e_81, e_103, e_125]) (ho := ⟨(by first | rfl | simp only [go_sem, seval, e_2, e_23, e_44, e_48, e_54, e_59, e_81, e_103, e_125]), trivial⟩) ?_
             refine ck0 ?_
             simp only [e_2, e_23, e_44, e_48, e_54, e_59, e_81, e_103, e_125, go_sem, seval]
             have g_0 := Option.some.inj h
             subst g_0
             rw [← hQ]
             exact ⟨rfl, _, rfl, _, _, (RefV.out (by first | rfl | simp only [go_sem, seval, e_2, e_23, e_44, e_48, e_54, e_59, e_81, e_103, e_125])), rfl, rfl⟩
            ·
             try dsimp only at h
             refine ACalls.panA (gsub_reader_ligatures_w N _ _ _ c_0 _ h_143) [1] (v' := .iface 58 (.agg [])) (H' := [.box [.int .i64 0, nn, .bool false, .int .i64 0, nn, nn, nn, nn, nn, nn, nn, nn, nn, nn, nn, nn] 35, .dead]) (hH := by simp only [go_sem, seval, e_2, e_23, e_44, e_48, e_54, e_59, e_81, e_103, e_125]) (ho := ⟨(by first | rfl | simp only [go_sem, seval, e_2, e_23, e_44, e_48, e_54, e_59, e_81, e_103, e_125]), trivial⟩) ?_
             try simp only [CallK_pan, dCallK_pan, panK_ap]
             have g_0 := Option.some.inj h
             subst g_0
             rw [← hQ]
             exact ⟨rfl, _, _, RefV.dead rfl, rfl, rfl⟩
           ·
            rw [if_neg h_124] at h
            have e_125 := eq_false h_124
            simp only [e_2, e_23, e_44, e_48, e_54, e_59, e_81, e_103, e_125, go_sem, seval]
            by_cases h_146 : a_2 = 7
            ·
             rw [if_pos h_146] at h
             have e_147 := eq_true h_146
             have h0 : none = some _ := h
             cases h0
            ·
             rw [if_neg h_146] at h
             have e_147 := eq_false h_146
             obtain ⟨o_166, h_165, h⟩ := bindS h
             simp only [e_2, e_23, e_44, e_48, e_54, e_59, e_81, e_103, e_125, e_147, go_sem, seval]
             rcases o_166 with ⟨y_148, y_149, y_150, y_151, y_152, y_153, y_154, y_155, y_156, y_157, y_158, y_159, y_160, y_161, y_162, y_163, y_164⟩ | _
             ·
              try dsimp only at h
              refine ACalls.useA (gsub_reader_reverse_w N _ _ _ c_0 _ h_165) [1] (v' := .agg [.int .i64 y_148, .vec false (List.map eTSpan y_149), .bool y_150, .int .i64 y_151, .vec false (List.map eLI64 y_152), .vec false (List.map eLTLig y_153), .vec false (List.map eTCtx y_154), .vec false (List.map eTValue y_155), .vec false (List.map eLTTwo y_156), .vec false (List.map eTClass y_157), .vec false (List.map eTClass y_158), .vec false (List.map eLTTwo y_159), .vec false (List.map eTArr2_TAnchor y_160), .vec false (List.map eTMark y_161), .vec false (List.map eTSpan y_162), .vec false (List.map eLLTAnchor y_163)]) (H' := [.box [.int .i64 0, nn, .bool false, .int .i64 0, nn, nn, nn, nn, nn, nn, nn, nn, nn, nn, nn, nn] 35, .box [.vec c_0 (List.map eU8 l_0), .int .i64 a_1, .int .i64 y_164] 100]) (hH := by simp only [go_sem, seval, e_2, e_23, e_44, e_48, e_54, e_59, e_81, e_103, e_125, e_147]) (ho := ⟨(by first | rfl | simp only [go_sem, seval, e_2, e_23, e_44, e_48, e_54, e_59, e_81, e_103, e_125, e_147]), trivial⟩) ?_
              refine ck0 ?_
              simp only [e_2, e_23, e_44, e_48, e_54, e_59, e_81, e_103, e_125, e_147, go_sem, seval]
              have g_0 := Option.some.inj h
              subst g_0
              rw [← hQ]
              exact ⟨rfl, _, rfl, _, _, (RefV.out (by first | rfl | simp only [go_sem, seval, e_2, e_23, e_44, e_48, e_54, e_59, e_81, e_103, e_125, e_147])), rfl, rfl⟩
             ·
              try dsimp only at h
              refine ACalls.panA (gsub_reader_reverse_w N _ _ _ c_0 _ h_165) [1] (v' := .iface 58 (.agg [])) (H' := [.box [.int .i64 0, nn, .bool false, .int .i64 0, nn, nn, nn, nn, nn, nn, nn, nn, nn, nn, nn, nn] 35, .dead]) (hH := by simp only [go_sem, seval, e_2, e_23, e_44, e_48, e_54, e_59, e_81, e_103, e_125, e_147]) (ho := ⟨(by first | rfl | simp only [go_sem, seval, e_2, e_23, e_44, e_48, e_54, e_59, e_81, e_103, e_125, e_147]), trivial⟩) ?_
              try simp only [CallK_pan, dCallK_pan, panK_ap]
              have g_0 := Option.some.inj h
              subst g_0
              rw [← hQ]
              exact ⟨rfl, _, _, RefV.dead rfl, rfl, rfl⟩
       ·
        try dsimp only at h
        refine ACalls.panA (gsub_must_w N _ _ h_55) [] (v' := .iface 58 (.agg [])) (H' := [.box [.int .i64 0, nn, .bool false, .int .i64 0, nn, nn, nn, nn, nn, nn, nn, nn, nn, nn, nn, nn] 35, .box [.vec c_0 (List.map eU8 l_0), .int .i64 a_1, .int .i64 (IntKind.i64.wrap (a_1 + 2))] 100]) (hH := by simp only [go_sem, seval, e_2, e_23, e_44, e_48, e_54]) ?_
        try simp only [CallK_pan, dCallK_pan, panK_ap]
        have g_0 := Option.some.inj h
        subst g_0
        rw [← hQ]
        exact ⟨rfl, _, _, RefV.dead rfl, rfl, rfl⟩
      ·
       rw [if_neg h_53] at h
       have e_54 := eq_false h_53
       obtain ⟨o_169, h_168, h⟩ := bindS h
       simp only [e_2, e_23, e_44, e_48, e_54, go_sem, seval]
       rcases o_169 with _ | _
       ·
        try dsimp only at h
        refine ACalls.use0 (gsub_must_w N _ _ h_168) rfl rfl ?_
        refine ck0 ?_
        have e_171 := eq_true (of_decide_eq_true (gsub_must_inl h_168))
        obtain ⟨o_190, h_189, h⟩ := bindS h
        simp only [e_2, e_23, e_44, e_48, e_54, e_171, go_sem, seval]
        rcases o_190 with ⟨y_172, y_173, y_174, y_175, y_176, y_177, y_178, y_179, y_180, y_181, y_182, y_183, y_184, y_185, y_186, y_187, y_188⟩ | _
        ·
         try dsimp only at h
         refine ACalls.useA (gsub_reader_single_w N _ _ _ _ c_0 _ h_189) [1] (v' := .agg [.int .i64 y_172, .vec false (List.map eTSpan y_173), .bool y_174, .int .i64 y_175, .vec false (List.map eLI64 y_176), .vec false (List.map eLTLig y_177), .vec false (List.map eTCtx y_178), .vec false (List.map eTValue y_179), .vec false (List.map eLTTwo y_180), .vec false (List.map eTClass y_181), .vec false (List.map eTClass y_182), .vec false (List.map eLTTwo y_183), .vec false (List.map eTArr2_TAnchor y_184), .vec false (List.map eTMark y_185), .vec false (List.map eTSpan y_186), .vec false (List.map eLLTAnchor y_187)]) (H' := [.box [.int .i64 0, nn, .bool false, .int .i64 0, nn, nn, nn, nn, nn, nn, nn, nn, nn, nn, nn, nn] 35, .box [.vec c_0 (List.map eU8 l_0), .int .i64 a_1, .int .i64 y_188] 100]) (hH := by simp only [go_sem, seval, e_2, e_23, e_44, e_48, e_54, e_171]) (ho := ⟨(by first | rfl | simp only [go_sem, seval, e_2, e_23, e_44, e_48, e_54, e_171]), trivial⟩) ?_
         refine ck0 ?_
         simp only [e_2, e_23, e_44, e_48, e_54, e_171, go_sem, seval]
         have g_0 := Option.some.inj h
         subst g_0
         rw [← hQ]
         exact ⟨rfl, _, rfl, _, _, (RefV.out (by first | rfl | simp only [go_sem, seval, e_2, e_23, e_44, e_48, e_54, e_171])), rfl, rfl⟩
        ·
         try dsimp only at h
         refine ACalls.panA (gsub_reader_single_w N _ _ _ _ c_0 _ h_189) [1] (v' := .iface 58 (.agg [])) (H' := [.box [.int .i64 0, nn, .bool false, .int .i64 0, nn, nn, nn, nn, nn, nn, nn, nn, nn, nn, nn, nn] 35, .dead]) (hH := by simp only [go_sem, seval, e_2, e_23, e_44, e_48, e_54, e_171]) (ho := ⟨(by first | rfl | simp only [go_sem, seval, e_2, e_23, e_44, e_48, e_54, e_171]), trivial⟩) ?_
         try simp only [CallK_pan, dCallK_pan, panK_ap]
         have g_0 := Option.some.inj h
         subst g_0
         rw [← hQ]
         exact ⟨rfl, _, _, RefV.dead rfl, rfl, rfl⟩
       ·
        try dsimp only at h
        refine ACalls.panA (gsub_must_w N _ _ h_168) [] (v' := .iface 58 (.agg [])) (H' := [.box [.int .i64 0, nn, .bool false, .int .i64 0, nn, nn, nn, nn, nn, nn, nn, nn, nn, nn, nn, nn] 35, .box [.vec c_0 (List.map eU8 l_0), .int .i64 a_1, .int .i64 (IntKind.i64.wrap (a_1 + 2))] 100]) (hH := by simp only [go_sem, seval, e_2, e_23, e_44, e_48, e_54]) ?_
        try simp only [CallK_pan, dCallK_pan, panK_ap]
        have g_0 := Option.some.inj h
        subst g_0
        rw [← hQ]
        exact ⟨rfl, _, _, RefV.dead rfl, rfl, rfl⟩
     ·
      try dsimp only at h
      refine ACalls.panA (gsub_reader_number_w N _ _ _ c_0 _ h_50) [1] (v' := .iface 58 (.agg [])) (H' := [.box [.int .i64 0, nn, .bool false, .int .i64 0, nn, nn, nn, nn, nn, nn, nn, nn, nn, nn, nn, nn] 35, .dead]) (hH := by simp only [go_sem, seval, e_2, e_23, e_44, e_48]) (ho := ⟨(by first | rfl | simp only [go_sem, seval, e_2, e_23, e_44, e_48]), trivial⟩) ?_
      try simp only [CallK_pan, dCallK_pan, panK_ap]
      have g_0 := Option.some.inj h
      subst g_0
      rw [← hQ]
      exact ⟨rfl, _, _, RefV.dead rfl, rfl, rfl⟩
    ·
     try dsimp only at h
     refine ACalls.panA (gsub_must_w N _ _ h_45) [] (v' := .iface 58 (.agg [])) (H' := [.box [.int .i64 0, nn, .bool false, .int .i64 0, nn, nn, nn, nn, nn, nn, nn, nn, nn, nn, nn, nn] 35, .box [.vec c_0 (List.map eU8 l_0), .int .i64 a_1, .int .i64 a_1] 100]) (hH := by simp only [go_sem, seval, e_2, e_23, e_44]) ?_
     try simp only [CallK_pan, dCallK_pan, panK_ap]
     have g_0 := Option.some.inj h
     subst g_0
     rw [← hQ]
     exact ⟨rfl, _, _, RefV.dead rfl, rfl, rfl⟩
   ·
    rw [if_neg h_43] at h
    have e_44 := eq_false h_43
    obtain ⟨o_193, h_192, h⟩ := bindS h
    simp only [e_2, e_23, e_44, go_sem, seval]
    rcases o_193 with _ | _
    ·
     try dsimp only at h
     refine ACalls.use0 (gsub_must_w N _ _ h_192) rfl rfl ?_
     refine ck0 ?_
     have h0 : none = some _ := h
     cases h0
    ·
     try dsimp only at h
     refine ACalls.panA (gsub_must_w N _ _ h_192) [] (v' := .iface 58 (.agg [])) (H' := [.box [.int .i64 0, nn, .bool false, .int .i64 0, nn, nn, nn, nn, nn, nn, nn, nn, nn, nn, nn, nn] 35, .box [.vec c_0 (List.map eU8 l_0), .int .i64 a_1, .int .i64 a_1] 100]) (hH := by simp only [go_sem, seval, e_2, e_23, e_44]) ?_
     try simp only [CallK_pan, dCallK_pan, panK_ap]
     have g_0 := Option.some.inj h
     subst g_0
     rw [← hQ]
     exact ⟨rfl, _, _, RefV.dead rfl, rfl, rfl⟩
end Go.Proofs.Ytfacmhngbaboiaa.AI
