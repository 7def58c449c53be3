/- Walks, further ones. -/
import Derived.Test.YtakplhfiohjcmaacxW1
set_option linter.unusedVariables false
set_option linter.unusedSimpArgs false
set_option maxRecDepth 100000
set_option maxHeartbeats 1000000
namespace Go.Proofs.Ytakplhfiohjcmaa.AI
open Go.Proofs (Try.prog)
attribute [local go_sem] subs_eU8 subs_eI64 subs_eTSpan subs_eTArr3_I64 subs_eTSet subs_eTAct subs_eTCtx subs_eTClass subs_eB mk_eTSpan mk_eTArr3_I64 mk_eTSet mk_eTAct mk_eTCtx mk_eTClass
theorem context_reader_rule_v2_w (N : Nat) (l_0 : List Int) (a_1 : Int) (l_2 : List TSpan) (b_3 : Bool) (l_4 : List TClass) (l_5 : List TClass) (l_6 : List TClass) (b_7 : Bool) (c_0 : Bool) (c_1 : Bool) (c_2 : Bool) (c_3 : Bool) (o : ((List TSet) × (List TSet) × (List TSet) × (List TAct) × Int) ⊕ Unit) (h : context_reader_rule_v2 N l_0 a_1 l_2 b_3 l_4 l_5 l_6 b_7 = some o) :
  ACalls Try.prog 107 [.ptr 0 0 0, .agg [.vec false (List.map eTSpan l_2), .bool b_3], .agg [.fn (.func 101) [] [.ptr 1 0 0], .fn (.func 101) [] [.ptr 2 0 0], .fn (.func 101) [] [.ptr 3 0 0], .bool b_7]] [.box [.vec c_0 (List.map eU8 l_0), .int .i64 a_1] 123, .box [.vec c_1 (List.map eTClass l_4)] 27, .box [.vec c_2 (List.map eTClass l_5)] 27, .box [.vec c_3 (List.map eTClass l_6)] 27] (fun e H => match o with | .inl (z_1, z_2, z_3, z_4, z_5) => H = [.box [.vec c_0 (List.map eU8 l_0), .int .i64 z_5] 123, .box [.vec c_1 (List.map eTClass l_4)] 27, .box [.vec c_2 (List.map eTClass l_5)] 27, .box [.vec c_3 (List.map eTClass l_6)] 27] ∧ e = .ret (.agg [.vec false (List.map eTSet z_1), .vec false (List.map eTSet z_2), .vec false (List.map eTSet z_3), .vec false (List.map eTAct z_4)]) | .inr _ => H = [.dead, .dead, .dead, .dead] ∧ e = .pan (.iface 119 (.agg []))) := by
 unfold context_reader_rule_v2 at h
 refine ACalls.goN Try.func107 n107 a107 Try.ntmps107 r107 (by simp) 4 rfl ?_
 generalize hQ : bodyA _ _ _ = QQ
 simp only [A107, go_sem, seval]
 by_cases h_1 : b_7 = true
 ·
  rw [if_pos h_1] at h
  have e_2 : b_7 = true := h_1
  obtain ⟨o_5, h_4, h⟩ := bindS h
  simp only [e_2, go_sem, seval]
  rcases o_5 with y_3 | _
  ·
   try dsimp only at h
   refine ACalls.useA (context_reader_count_w N _ _ _ _ c_0 _ h_4) [0] (v' := .int .i64 y_3) (H' := [.box [.vec c_0 (List.map eU8 l_0), .int .i64 (IntKind.i64.wrap (a_1 + 2))] 123, .box [.vec c_1 (List.map eTClass l_4)] 27, .box [.vec c_2 (List.map eTClass l_5)] 27, .box [.vec c_3 (List.map eTClass l_6)] 27, .box [.vec false (List.map eTSpan l_2), .bool b_3] 36, .box [.fn (.func 101) [] [.ptr 1 0 0], .fn (.func 101) [] [.ptr 2 0 0], .fn (.func 101) [] [.ptr 3 0 0], .bool b_7] 143, .box [.vec true [], .vec true [], .vec true [], .vec true []] 61, .box [.vec true [], .vec true [], .vec true [], .vec true []] 61]) (hH := by simp only [go_sem, seval, e_2]) (ho := ⟨(by first | rfl | simp only [go_sem, seval, e_2]), trivial⟩) ?_
   obtain ⟨o_9, h_8, h⟩ := bindS h
   simp only [e_2, go_sem, seval]
   rcases o_9 with y_7 | _
   ·
    try dsimp only at h
    refine ACalls.useA (context_reader_row_w N _ _ _ c_0 _ h_8) [0] (v' := .vec false (List.map eI64 y_7)) (H' := [.box [.vec c_0 (List.map eU8 l_0), .int .i64 (IntKind.i64.wrap ((IntKind.i64.wrap (a_1 + 2)) + (IntKind.i64.wrap (y_3 * 2))))] 123, .box [.vec c_1 (List.map eTClass l_4)] 27, .box [.vec c_2 (List.map eTClass l_5)] 27, .box [.vec c_3 (List.map eTClass l_6)] 27, .box [.vec false (List.map eTSpan l_2), .bool b_3] 36, .box [.fn (.func 101) [] [.ptr 1 0 0], .fn (.func 101) [] [.ptr 2 0 0], .fn (.func 101) [] [.ptr 3 0 0], .bool b_7] 143, .box [.vec true [], .vec true [], .vec true [], .vec true []] 61, .box [.vec true [], .vec true [], .vec true [], .vec true []] 61]) (hH := by simp only [go_sem, seval, e_2]) (ho := ⟨(by first | rfl | simp only [go_sem, seval, e_2]), trivial⟩) ?_
    obtain ⟨y_11, h_12, h⟩ := bindS h
    simp only [e_2, go_sem, seval]
    refine ACalls.useA (context_of_v2_w N _ _ false c_1 _ h_12) [1] (v' := .vec false (List.map eTSet y_11)) (H' := [.box [.vec c_0 (List.map eU8 l_0), .int .i64 (IntKind.i64.wrap ((IntKind.i64.wrap (a_1 + 2)) + (IntKind.i64.wrap (y_3 * 2))))] 123, .box [.vec c_1 (List.map eTClass l_4)] 27, .box [.vec c_2 (List.map eTClass l_5)] 27, .box [.vec c_3 (List.map eTClass l_6)] 27, .box [.vec false (List.map eTSpan l_2), .bool b_3] 36, .box [.fn (.func 101) [] [.ptr 1 0 0], .fn (.func 101) [] [.ptr 2 0 0], .fn (.func 101) [] [.ptr 3 0 0], .bool b_7] 143, .box [.vec true [], .vec true [], .vec true [], .vec true []] 61, .box [.vec true [], .vec true [], .vec true [], .vec true []] 61]) (hH := by simp only [go_sem, seval, e_2]) (ho := ⟨(by first | rfl | simp only [go_sem, seval, e_2]), trivial⟩) ?_
    obtain ⟨o_15, h_14, h⟩ := bindS h
    simp only [e_2, go_sem, seval]
    rcases o_15 with y_13 | _
    ·
     try dsimp only at h
     refine ACalls.useA (context_reader_count_w N _ _ _ _ c_0 _ h_14) [0] (v' := .int .i64 y_13) (H' := [.box [.vec c_0 (List.map eU8 l_0), .int .i64 (IntKind.i64.wrap ((IntKind.i64.wrap ((IntKind.i64.wrap (a_1 + 2)) + (IntKind.i64.wrap (y_3 * 2)))) + 2))] 123, .box [.vec c_1 (List.map eTClass l_4)] 27, .box [.vec c_2 (List.map eTClass l_5)] 27, .box [.vec c_3 (List.map eTClass l_6)] 27, .box [.vec false (List.map eTSpan l_2), .bool b_3] 36, .box [.fn (.func 101) [] [.ptr 1 0 0], .fn (.func 101) [] [.ptr 2 0 0], .fn (.func 101) [] [.ptr 3 0 0], .bool b_7] 143, .box [.vec true [], .vec true [], .vec true [], .vec true []] 61, .box [.vec false (List.map eTSet y_11), .vec true [], .vec true [], .vec true []] 61]) (hH := by simp only [go_sem, seval, e_2]) (ho := ⟨(by first | rfl | simp only [go_sem, seval, e_2]), trivial⟩) ?_
     refine CallK_go (by simp) ?_
     obtain ⟨o_19, h_18, h⟩ := bindS h
     simp only [e_2, go_sem, seval]
     rcases o_19 with y_17 | _
     ·
      try dsimp only at h
      refine ACalls.useA (context_reader_row_w N _ _ _ c_0 _ h_18) [0] (v' := .vec false (List.map eI64 y_17)) (H' := [.box [.vec c_0 (List.map eU8 l_0), .int .i64 (IntKind.i64.wrap ((IntKind.i64.wrap ((IntKind.i64.wrap ((IntKind.i64.wrap (a_1 + 2)) + (IntKind.i64.wrap (y_3 * 2)))) + 2)) + (IntKind.i64.wrap ((IntKind.i64.wrap (y_13 - 1)) * 2))))] 123, .box [.vec c_1 (List.map eTClass l_4)] 27, .box [.vec c_2 (List.map eTClass l_5)] 27, .box [.vec c_3 (List.map eTClass l_6)] 27, .box [.vec false (List.map eTSpan l_2), .bool b_3] 36, .box [.fn (.func 101) [] [.ptr 1 0 0], .fn (.func 101) [] [.ptr 2 0 0], .fn (.func 101) [] [.ptr 3 0 0], .bool b_7] 143, .box [.vec true [], .vec true [], .vec true [], .vec true []] 61, .box [.vec false (List.map eTSet y_11), .vec true [], .vec true [], .vec true []] 61]) (hH := by simp only [go_sem, seval, e_2]) (ho := ⟨(by first | rfl | simp only [go_sem, seval, e_2]), trivial⟩) ?_
      obtain ⟨y_21, h_22, h⟩ := bindS h
      simp only [e_2, go_sem, seval]
      refine ACalls.useA (context_of_v2_w N _ _ false c_2 _ h_22) [2] (v' := .vec false (List.map eTSet y_21)) (H' := [.box [.vec c_0 (List.map eU8 l_0), .int .i64 (IntKind.i64.wrap ((IntKind.i64.wrap ((IntKind.i64.wrap ((IntKind.i64.wrap (a_1 + 2)) + (IntKind.i64.wrap (y_3 * 2)))) + 2)) + (IntKind.i64.wrap ((IntKind.i64.wrap (y_13 - 1)) * 2))))] 123, .box [.vec c_1 (List.map eTClass l_4)] 27, .box [.vec c_2 (List.map eTClass l_5)] 27, .box [.vec c_3 (List.map eTClass l_6)] 27, .box [.vec false (List.map eTSpan l_2), .bool b_3] 36, .box [.fn (.func 101) [] [.ptr 1 0 0], .fn (.func 101) [] [.ptr 2 0 0], .fn (.func 101) [] [.ptr 3 0 0], .bool b_7] 143, .box [.vec true [], .vec true [], .vec true [], .vec true []] 61, .box [.vec false (List.map eTSet y_11), .vec true [], .vec true [], .vec true []] 61]) (hH := by simp only [go_sem, seval, e_2]) (ho := ⟨(by first | rfl | simp only [go_sem, seval, e_2]), trivial⟩) ?_
      have e_23 : ((List.map eTSet y_21)).all (fun el => el.length == 2) = true := all_len _ eTSet 2 (fun _ => rfl)
      simp only [e_2, e_23, go_sem, seval]
      by_cases h_24 : y_21 = []
      ·
       rw [if_pos h_24] at h
       have e_25 : y_21 = [] := h_24
       obtain ⟨o_28, h_27, h⟩ := bindS h
       simp only [e_2, e_23, e_25, go_sem, seval]
       rcases o_28 with y_26 | _
       ·
        try dsimp only at h
        refine ACalls.useA (context_reader_count_w N _ _ _ _ c_0 _ h_27) [0] (v' := .int .i64 y_26) (H' := [.box [.vec c_0 (List.map eU8 l_0), .int .i64 (IntKind.i64.wrap ((IntKind.i64.wrap ((IntKind.i64.wrap ((IntKind.i64.wrap ((IntKind.i64.wrap (a_1 + 2)) + (IntKind.i64.wrap (y_3 * 2)))) + 2)) + (IntKind.i64.wrap ((IntKind.i64.wrap (y_13 - 1)) * 2)))) + 2))] 123, .box [.vec c_1 (List.map eTClass l_4)] 27, .box [.vec c_2 (List.map eTClass l_5)] 27, .box [.vec c_3 (List.map eTClass l_6)] 27, .box [.vec false (List.map eTSpan l_2), .bool b_3] 36, .box [.fn (.func 101) [] [.ptr 1 0 0], .fn (.func 101) [] [.ptr 2 0 0], .fn (.func 101) [] [.ptr 3 0 0], .bool b_7] 143, .box [.vec true [], .vec true [], .vec true [], .vec true []] 61, .box [.vec false (List.map eTSet y_11), .vec true [[.vec false (List.map eTSpan l_2), .bool b_3]], .vec true [], .vec true []] 61]) (hH := by simp only [go_sem, seval, e_2, e_25]) (ho := ⟨(by first | rfl | simp only [go_sem, seval, e_2, e_25]), trivial⟩) ?_
        obtain ⟨o_32, h_31, h⟩ := bindS h
        simp only [e_2, e_23, e_25, go_sem, seval]
        rcases o_32 with y_30 | _
        ·
         try dsimp only at h
         refine ACalls.useA (context_reader_row_w N _ _ _ c_0 _ h_31) [0] (v' := .vec false (List.map eI64 y_30)) (H' := [.box [.vec c_0 (List.map eU8 l_0), .int .i64 (IntKind.i64.wrap ((IntKind.i64.wrap ((IntKind.i64.wrap ((IntKind.i64.wrap ((IntKind.i64.wrap ((IntKind.i64.wrap (a_1 + 2)) + (IntKind.i64.wrap (y_3 * 2)))) + 2)) + (IntKind.i64.wrap ((IntKind.i64.wrap (y_13 - 1)) * 2)))) + 2)) + (IntKind.i64.wrap (y_26 * 2))))] 123, .box [.vec c_1 (List.map eTClass l_4)] 27, .box [.vec c_2 (List.map eTClass l_5)] 27, .box [.vec c_3 (List.map eTClass l_6)] 27, .box [.vec false (List.map eTSpan l_2), .bool b_3] 36, .box [.fn (.func 101) [] [.ptr 1 0 0], .fn (.func 101) [] [.ptr 2 0 0], .fn (.func 101) [] [.ptr 3 0 0], .bool b_7] 143, .box [.vec true [], .vec true [], .vec true [], .vec true []] 61, .box [.vec false (List.map eTSet y_11), .vec true [[.vec false (List.map eTSpan l_2), .bool b_3]], .vec true [], .vec true []] 61]) (hH := by simp only [go_sem, seval, e_2, e_25]) (ho := ⟨(by first | rfl | simp only [go_sem, seval, e_2, e_25]), trivial⟩) ?_
         obtain ⟨y_34, h_35, h⟩ := bindS h
         simp only [e_2, e_23, e_25, go_sem, seval]
         refine ACalls.useA (context_of_v2_w N _ _ false c_3 _ h_35) [3] (v' := .vec false (List.map eTSet y_34)) (H' := [.box [.vec c_0 (List.map eU8 l_0), .int .i64 (IntKind.i64.wrap ((IntKind.i64.wrap ((IntKind.i64.wrap ((IntKind.i64.wrap ((IntKind.i64.wrap ((IntKind.i64.wrap (a_1 + 2)) + (IntKind.i64.wrap (y_3 * 2)))) + 2)) + (IntKind.i64.wrap ((IntKind.i64.wrap (y_13 - 1)) * 2)))) + 2)) + (IntKind.i64.wrap (y_26 * 2))))] 123, .box [.vec c_1 (List.map eTClass l_4)] 27, .box [.vec c_2 (List.map eTClass l_5)] 27, .box [.vec c_3 (List.map eTClass l_6)] 27, .box [.vec false (List.map eTSpan l_2), .bool b_3] 36, .box [.fn (.func 101) [] [.ptr 1 0 0], .fn (.func 101) [] [.ptr 2 0 0], .fn (.func 101) [] [.ptr 3 0 0], .bool b_7] 143, .box [.vec true [], .vec true [], .vec true [], .vec true []] 61, .box [.vec false (List.map eTSet y_11), .vec true [[.vec false (List.map eTSpan l_2), .bool b_3]], .vec true [], .vec true []] 61]) (hH := by simp only [go_sem, seval, e_2, e_25]) (ho := ⟨(by first | rfl | simp only [go_sem, seval, e_2, e_25]), trivial⟩) ?_
         obtain ⟨o_38, h_37, h⟩ := bindS h
         simp only [e_2, e_23, e_25, go_sem, seval]
         rcases o_38 with y_36 | _
         ·
          try dsimp only at h
          refine ACalls.useA (context_reader_count_w N _ _ _ _ c_0 _ h_37) [0] (v' := .int .i64 y_36) (H' := [.box [.vec c_0 (List.map eU8 l_0), .int .i64 (IntKind.i64.wrap ((IntKind.i64.wrap ((IntKind.i64.wrap ((IntKind.i64.wrap ((IntKind.i64.wrap ((IntKind.i64.wrap ((IntKind.i64.wrap (a_1 + 2)) + (IntKind.i64.wrap (y_3 * 2)))) + 2)) + (IntKind.i64.wrap ((IntKind.i64.wrap (y_13 - 1)) * 2)))) + 2)) + (IntKind.i64.wrap (y_26 * 2)))) + 2))] 123, .box [.vec c_1 (List.map eTClass l_4)] 27, .box [.vec c_2 (List.map eTClass l_5)] 27, .box [.vec c_3 (List.map eTClass l_6)] 27, .box [.vec false (List.map eTSpan l_2), .bool b_3] 36, .box [.fn (.func 101) [] [.ptr 1 0 0], .fn (.func 101) [] [.ptr 2 0 0], .fn (.func 101) [] [.ptr 3 0 0], .bool b_7] 143, .box [.vec true [], .vec true [], .vec true [], .vec true []] 61, .box [.vec false (List.map eTSet y_11), .vec true [[.vec false (List.map eTSpan l_2), .bool b_3]], .vec false (List.map eTSet y_34), .vec true []] 61]) (hH := by simp only [go_sem, seval, e_2, e_25]) (ho := ⟨(by first | rfl | simp only [go_sem, seval, e_2, e_25]), trivial⟩) ?_
          refine CallK_go (by simp) ?_
          obtain ⟨o_43, h_42, h⟩ := bindS h
          simp only [e_2, e_23, e_25, go_sem, seval]
          rcases o_43 with ⟨y_40, y_41⟩ | _
          ·
           try dsimp only at h
           refine ACalls.useA (context_reader_acts_w N _ _ _ _ c_0 _ h_42) [0] (v' := .vec false (List.map eTAct y_40)) (H' := [.box [.vec c_0 (List.map eU8 l_0), .int .i64 y_41] 123, .box [.vec c_1 (List.map eTClass l_4)] 27, .box [.vec c_2 (List.map eTClass l_5)] 27, .box [.vec c_3 (List.map eTClass l_6)] 27, .box [.vec false (List.map eTSpan l_2), .bool b_3] 36, .box [.fn (.func 101) [] [.ptr 1 0 0], .fn (.func 101) [] [.ptr 2 0 0], .fn (.func 101) [] [.ptr 3 0 0], .bool b_7] 143, .box [.vec true [], .vec true [], .vec true [], .vec true []] 61, .box [.vec false (List.map eTSet y_11), .vec true [[.vec false (List.map eTSpan l_2), .bool b_3]], .vec false (List.map eTSet y_34), .vec true []] 61]) (hH := by simp only [go_sem, seval, e_2, e_25]) (ho := ⟨(by first | rfl | simp only [go_sem, seval, e_2, e_25]), trivial⟩) ?_
           refine CallK_go (by simp) ?_
           simp only [e_2, e_23, e_25, go_sem, seval]
           have g_0 := Option.some.inj h
           subst g_0
           rw [← hQ]
           exact ⟨rfl, _, rfl, _, _, (RefV.trans (RefV.std (v' := .agg [.vec false (List.map eTSet y_11), .vec true [[.vec false (List.map eTSpan l_2), .bool b_3]], .vec false (List.map eTSet y_34), .vec false (List.map eTAct y_40)]) [0, 1, 2, 3] (by decide) (by decide) rfl (by first | rfl | simp only [go_sem, seval, e_2, e_25])) (RefV.weak (Wks.cons (Wk.agg (Wks.cons (Wk.refl _) (Wks.cons Wk.vec (Wks.cons (Wk.refl _) (Wks.cons (Wk.refl _) (Wks.nil)))))) Wks.nil) (WkH.refl _))), rfl, rfl⟩
          ·
           try dsimp only at h
           refine ACalls.panA (context_reader_acts_w N _ _ _ _ c_0 _ h_42) [0] (v' := .iface 119 (.agg [])) (H' := [.dead, .box [.vec c_1 (List.map eTClass l_4)] 27, .box [.vec c_2 (List.map eTClass l_5)] 27, .box [.vec c_3 (List.map eTClass l_6)] 27, .box [.vec false (List.map eTSpan l_2), .bool b_3] 36, .box [.fn (.func 101) [] [.ptr 1 0 0], .fn (.func 101) [] [.ptr 2 0 0], .fn (.func 101) [] [.ptr 3 0 0], .bool b_7] 143, .box [.vec true [], .vec true [], .vec true [], .vec true []] 61, .box [.vec false (List.map eTSet y_11), .vec true [[.vec false (List.map eTSpan l_2), .bool b_3]], .vec false (List.map eTSet y_34), .vec true []] 61]) (hH := by simp only [go_sem, seval, e_2, e_25]) (ho := ⟨(by first | rfl | simp only [go_sem, seval, e_2, e_25]), trivial⟩) ?_
           try simp only [CallK_pan, dCallK_pan, panK_ap]
           have g_0 := Option.some.inj h
           subst g_0
           rw [← hQ]
           exact ⟨rfl, _, _, RefV.dead rfl, rfl, rfl⟩
         ·
          try dsimp only at h
          refine ACalls.panA (context_reader_count_w N _ _ _ _ c_0 _ h_37) [0] (v' := .iface 119 (.agg [])) (H' := [.dead, .box [.vec c_1 (List.map eTClass l_4)] 27, .box [.vec c_2 (List.map eTClass l_5)] 27, .box [.vec c_3 (List.map eTClass l_6)] 27, .box [.vec false (List.map eTSpan l_2), .bool b_3] 36, .box [.fn (.func 101) [] [.ptr 1 0 0], .fn (.func 101) [] [.ptr 2 0 0], .fn (.func 101) [] [.ptr 3 0 0], .bool b_7] 143, .box [.vec true [], .vec true [], .vec true [], .vec true []] 61, .box [.vec false (List.map eTSet y_11), .vec true [[.vec false (List.map eTSpan l_2), .bool b_3]], .vec false (List.map eTSet y_34), .vec true []] 61]) (hH := by simp only [go_sem, seval, e_2, e_25]) (ho := ⟨(by first | rfl | simp only [go_sem, seval, e_2, e_25]), trivial⟩) ?_
          try simp only [CallK_pan, dCallK_pan, panK_ap]
          have g_0 := Option.some.inj h
          subst g_0
          rw [← hQ]
          exact ⟨rfl, _, _, RefV.dead rfl, rfl, rfl⟩
        ·
         try dsimp only at h
         refine ACalls.panA (context_reader_row_w N _ _ _ c_0 _ h_31) [0] (v' := .iface 119 (.agg [])) (H' := [.dead, .box [.vec c_1 (List.map eTClass l_4)] 27, .box [.vec c_2 (List.map eTClass l_5)] 27, .box [.vec c_3 (List.map eTClass l_6)] 27, .box [.vec false (List.map eTSpan l_2), .bool b_3] 36, .box [.fn (.func 101) [] [.ptr 1 0 0], .fn (.func 101) [] [.ptr 2 0 0], .fn (.func 101) [] [.ptr 3 0 0], .bool b_7] 143, .box [.vec true [], .vec true [], .vec true [], .vec true []] 61, .box [.vec false (List.map eTSet y_11), .vec true [[.vec false (List.map eTSpan l_2), .bool b_3]], .vec true [], .vec true []] 61]) (hH := by simp only [go_sem, seval, e_2, e_25]) (ho := ⟨(by first | rfl | simp only [go_sem, seval, e_2, e_25]), trivial⟩) ?_
         try simp only [CallK_pan, dCallK_pan, panK_ap]
         have g_0 := Option.some.inj h
         subst g_0
         rw [← hQ]
         exact ⟨rfl, _, _, RefV.dead rfl, rfl, rfl⟩
       ·
        try dsimp only at h
        refine ACalls.panA (context_reader_count_w N _ _ _ _ c_0 _ h_27) [0] (v' := .iface 119 (.agg [])) (H' := [.dead, .box [.vec c_1 (List.map eTClass l_4)] 27, .box [.vec c_2 (List.map eTClass l_5)] 27, .box [.vec c_3 (List.map eTClass l_6)] 27, .box [.vec false (List.map eTSpan l_2), .bool b_3] 36, .box [.fn (.func 101) [] [.ptr 1 0 0], .fn (.func 101) [] [.ptr 2 0 0], .fn (.func 101) [] [.ptr 3 0 0], .bool b_7] 143, .box [.vec true [], .vec true [], .vec true [], .vec true []] 61, .box [.vec false (List.map eTSet y_11), .vec true [[.vec false (List.map eTSpan l_2), .bool b_3]], .vec true [], .vec true []] 61]) (hH := by simp only [go_sem, seval, e_2, e_25]) (ho := ⟨(by first | rfl | simp only [go_sem, seval, e_2, e_25]), trivial⟩) ?_
        try simp only [CallK_pan, dCallK_pan, panK_ap]
        have g_0 := Option.some.inj h
        subst g_0
        rw [← hQ]
        exact ⟨rfl, _, _, RefV.dead rfl, rfl, rfl⟩
      ·
       rw [if_neg h_24] at h
       have e_25 : (y_21.length = 0) = False ∧ (0 < y_21.length) = True := ⟨eq_false (fun q => h_24 (List.eq_nil_of_length_eq_zero q)), eq_true (Nat.pos_of_ne_zero (fun q => h_24 (List.eq_nil_of_length_eq_zero q)))⟩
       have e_45 : ((List.map eTSet y_21)).all (fun el => el.length == 2) = true := all_len _ eTSet 2 (fun _ => rfl)
       have e_46 : [[.vec false (List.map eTSpan l_2), .bool b_3]] ++ (List.map eTSet y_21) = (List.map eTSet ([TSet.mk l_2 b_3] ++ y_21)) := app_map ([TSet.mk l_2 b_3]) y_21 eTSet
       obtain ⟨h_47, h⟩ := guardS h
       have e_48 := eq_true h_47
       obtain ⟨o_51, h_50, h⟩ := bindS h
       simp only [e_2, e_23, e_25, e_45, e_46, e_48, go_sem, seval]
       rcases o_51 with y_49 | _
       ·
        try dsimp only at h
        refine ACalls.useA (context_reader_count_w N _ _ _ _ c_0 _ h_50) [0] (v' := .int .i64 y_49) (H' := [.box [.vec c_0 (List.map eU8 l_0), .int .i64 (IntKind.i64.wrap ((IntKind.i64.wrap ((IntKind.i64.wrap ((IntKind.i64.wrap ((IntKind.i64.wrap (a_1 + 2)) + (IntKind.i64.wrap (y_3 * 2)))) + 2)) + (IntKind.i64.wrap ((IntKind.i64.wrap (y_13 - 1)) * 2)))) + 2))] 123, .box [.vec c_1 (List.map eTClass l_4)] 27, .box [.vec c_2 (List.map eTClass l_5)] 27, .box [.vec c_3 (List.map eTClass l_6)] 27, .box [.vec false (List.map eTSpan l_2), .bool b_3] 36, .box [.fn (.func 101) [] [.ptr 1 0 0], .fn (.func 101) [] [.ptr 2 0 0], .fn (.func 101) [] [.ptr 3 0 0], .bool b_7] 143, .box [.vec true [], .vec true [], .vec true [], .vec true []] 61, .box [.vec false (List.map eTSet y_11), .row 8 0 (1 + y_21.length), .vec true [], .vec true []] 61, .mem 2 (List.map eTSet ([TSet.mk l_2 b_3] ++ y_21)) 36]) (hH := by simp only [go_sem, seval, e_2, e_25]) (ho := ⟨(by first | rfl | simp only [go_sem, seval, e_2, e_25]), trivial⟩) ?_
        obtain ⟨o_55, h_54, h⟩ := bindS h
        simp only [e_2, e_23, e_25, e_45, e_46, e_48, go_sem, seval]
        rcases o_55 with y_53 | _
        ·
         try dsimp only at h
         refine ACalls.useA (context_reader_row_w N _ _ _ c_0 _ h_54) [0] (v' := .vec false (List.map eI64 y_53)) (H' := [.box [.vec c_0 (List.map eU8 l_0), .int .i64 (IntKind.i64.wrap ((IntKind.i64.wrap ((IntKind.i64.wrap ((IntKind.i64.wrap ((IntKind.i64.wrap ((IntKind.i64.wrap (a_1 + 2)) + (IntKind.i64.wrap (y_3 * 2)))) + 2)) + (IntKind.i64.wrap ((IntKind.i64.wrap (y_13 - 1)) * 2)))) + 2)) + (IntKind.i64.wrap (y_49 * 2))))] 123, .box [.vec c_1 (List.map eTClass l_4)] 27, .box [.vec c_2 (List.map eTClass l_5)] 27, .box [.vec c_3 (List.map eTClass l_6)] 27, .box [.vec false (List.map eTSpan l_2), .bool b_3] 36, .box [.fn (.func 101) [] [.ptr 1 0 0], .fn (.func 101) [] [.ptr 2 0 0], .fn (.func 101) [] [.ptr 3 0 0], .bool b_7] 143, .box [.vec true [], .vec true [], .vec true [], .vec true []] 61, .box [.vec false (List.map eTSet y_11), .row 8 0 (1 + y_21.length), .vec true [], .vec true []] 61, .mem 2 (List.map eTSet ([TSet.mk l_2 b_3] ++ y_21)) 36]) (hH := by simp only [go_sem, seval, e_2, e_25]) (ho := ⟨(by first | rfl | simp only [go_sem, seval, e_2, e_25]), trivial⟩) ?_
         obtain ⟨y_57, h_58, h⟩ := bindS h
         simp only [e_2, e_23, e_25, e_45, e_46, e_48, go_sem, seval]
         refine ACalls.useA (context_of_v2_w N _ _ false c_3 _ h_58) [3] (v' := .vec false (List.map eTSet y_57)) (H' := [.box [.vec c_0 (List.map eU8 l_0), .int .i64 (IntKind.i64.wrap ((IntKind.i64.wrap ((IntKind.i64.wrap ((IntKind.i64.wrap ((IntKind.i64.wrap ((IntKind.i64.wrap (a_1 + 2)) + (IntKind.i64.wrap (y_3 * 2)))) + 2)) + (IntKind.i64.wrap ((IntKind.i64.wrap (y_13 - 1)) * 2)))) + 2)) + (IntKind.i64.wrap (y_49 * 2))))] 123, .box [.vec c_1 (List.map eTClass l_4)] 27, .box [.vec c_2 (List.map eTClass l_5)] 27, .box [.vec c_3 (List.map eTClass l_6)] 27, .box [.vec false (List.map eTSpan l_2), .bool b_3] 36, .box [.fn (.func 101) [] [.ptr 1 0 0], .fn (.func 101) [] [.ptr 2 0 0], .fn (.func 101) [] [.ptr 3 0 0], .bool b_7] 143, .box [.vec true [], .vec true [], .vec true [], .vec true []] 61, .box [.vec false (List.map eTSet y_11), .row 8 0 (1 + y_21.length), .vec true [], .vec true []] 61, .mem 2 (List.map eTSet ([TSet.mk l_2 b_3] ++ y_21)) 36]) (hH := by simp only [go_sem, seval, e_2, e_25]) (ho := ⟨(by first | rfl | simp only [go_sem, seval, e_2, e_25]), trivial⟩) ?_
         obtain ⟨o_61, h_60, h⟩ := bindS h
         simp only [e_2, e_23, e_25, e_45, e_46, e_48, go_sem, seval]
         rcases o_61 with y_59 | _
         ·
          try dsimp only at h
          refine ACalls.useA (context_reader_count_w N _ _ _ _ c_0 _ h_60) [0] (v' := .int .i64 y_59) (H' := [.box [.vec c_0 (List.map eU8 l_0), .int .i64 (IntKind.i64.wrap ((IntKind.i64.wrap ((IntKind.i64.wrap ((IntKind.i64.wrap ((IntKind.i64.wrap ((IntKind.i64.wrap ((IntKind.i64.wrap (a_1 + 2)) + (IntKind.i64.wrap (y_3 * 2)))) + 2)) + (IntKind.i64.wrap ((IntKind.i64.wrap (y_13 - 1)) * 2)))) + 2)) + (IntKind.i64.wrap (y_49 * 2)))) + 2))] 123, .box [.vec c_1 (List.map eTClass l_4)] 27, .box [.vec c_2 (List.map eTClass l_5)] 27, .box [.vec c_3 (List.map eTClass l_6)] 27, .box [.vec false (List.map eTSpan l_2), .bool b_3] 36, .box [.fn (.func 101) [] [.ptr 1 0 0], .fn (.func 101) [] [.ptr 2 0 0], .fn (.func 101) [] [.ptr 3 0 0], .bool b_7] 143, .box [.vec true [], .vec true [], .vec true [], .vec true []] 61, .box [.vec false (List.map eTSet y_11), .row 8 0 (1 + y_21.length), .vec false (List.map eTSet y_57), .vec true []] 61, .mem 2 (List.map eTSet ([TSet.mk l_2 b_3] ++ y_21)) 36]) (hH := by simp only [go_sem, seval, e_2, e_25]) (ho := ⟨(by first | rfl | simp only [go_sem, seval, e_2, e_25]), trivial⟩) ?_
          refine CallK_go (by simp) ?_
          obtain ⟨o_66, h_65, h⟩ := bindS h
          simp only [e_2, e_23, e_25, e_45, e_46, e_48, go_sem, seval]
          rcases o_66 with ⟨y_63, y_64⟩ | _
          ·
           try dsimp only at h
           refine ACalls.useA (context_reader_acts_w N _ _ _ _ c_0 _ h_65) [0] (v' := .vec false (List.map eTAct y_63)) (H' := [.box [.vec c_0 (List.map eU8 l_0), .int .i64 y_64] 123, .box [.vec c_1 (List.map eTClass l_4)] 27, .box [.vec c_2 (List.map eTClass l_5)] 27, .box [.vec c_3 (List.map eTClass l_6)] 27, .box [.vec false (List.map eTSpan l_2), .bool b_3] 36, .box [.fn (.func 101) [] [.ptr 1 0 0], .fn (.func 101) [] [.ptr 2 0 0], .fn (.func 101) [] [.ptr 3 0 0], .bool b_7] 143, .box [.vec true [], .vec true [], .vec true [], .vec true []] 61, .box [.vec false (List.map eTSet y_11), .row 8 0 (1 + y_21.length), .vec false (List.map eTSet y_57), .vec true []] 61, .mem 2 (List.map eTSet ([TSet.mk l_2 b_3] ++ y_21)) 36]) (hH := by simp only [go_sem, seval, e_2, e_25]) (ho := ⟨(by first | rfl | simp only [go_sem, seval, e_2, e_25]), trivial⟩) ?_
           refine CallK_go (by simp) ?_
           simp only [e_2, e_23, e_25, e_45, e_46, e_48, go_sem, seval]
           have g_0 := Option.some.inj h
           subst g_0
           rw [← hQ]
           exact ⟨rfl, _, rfl, _, _, (RefV.trans (RefV.frz (by simp) (id := 8) rfl (pures_map ([TSet.mk l_2 b_3] ++ y_21) eTSet (fun _ => rfl))) (RefV.std [0, 1, 2, 3] (by decide) (by decide) (by first | rfl | simp only [go_sem, seval, e_2, e_25]) (by first | rfl | simp only [go_sem, seval, e_2, e_25]))), rfl, rfl⟩
          ·
           try dsimp only at h
           refine ACalls.panA (context_reader_acts_w N _ _ _ _ c_0 _ h_65) [0] (v' := .iface 119 (.agg [])) (H' := [.dead, .box [.vec c_1 (List.map eTClass l_4)] 27, .box [.vec c_2 (List.map eTClass l_5)] 27, .box [.vec c_3 (List.map eTClass l_6)] 27, .box [.vec false (List.map eTSpan l_2), .bool b_3] 36, .box [.fn (.func 101) [] [.ptr 1 0 0], .fn (.func 101) [] [.ptr 2 0 0], .fn (.func 101) [] [.ptr 3 0 0], .bool b_7] 143, .box [.vec true [], .vec true [], .vec true [], .vec true []] 61, .box [.vec false (List.map eTSet y_11), .row 8 0 (1 + y_21.length), .vec false (List.map eTSet y_57), .vec true []] 61, .mem 2 (List.map eTSet ([TSet.mk l_2 b_3] ++ y_21)) 36]) (hH := by simp only [go_sem, seval, e_2, e_25]) (ho := ⟨(by first | rfl | simp only [go_sem, seval, e_2, e_25]), trivial⟩) ?_
           try simp only [CallK_pan, dCallK_pan, panK_ap]
           have g_0 := Option.some.inj h
           subst g_0
           rw [← hQ]
           exact ⟨rfl, _, _, RefV.dead rfl, rfl, rfl⟩
         ·
          try dsimp only at h
          refine ACalls.panA (context_reader_count_w N _ _ _ _ c_0 _ h_60) [0] (v' := .iface 119 (.agg [])) (H' := [.dead, .box [.vec c_1 (List.map eTClass l_4)] 27, .box [.vec c_2 (List.map eTClass l_5)] 27, .box [.vec c_3 (List.map eTClass l_6)] 27, .box [.vec false (List.map eTSpan l_2), .bool b_3] 36, .box [.fn (.func 101) [] [.ptr 1 0 0], .fn (.func 101) [] [.ptr 2 0 0], .fn (.func 101) [] [.ptr 3 0 0], .bool b_7] 143, .box [.vec true [], .vec true [], .vec true [], .vec true []] 61, .box [.vec false (List.map eTSet y_11), .row 8 0 (1 + y_21.length), .vec false (List.map eTSet y_57), .vec true []] 61, .mem 2 (List.map eTSet ([TSet.mk l_2 b_3] ++ y_21)) 36]) (hH := by simp only [go_sem, seval, e_2, e_25]) (ho := ⟨(by first | rfl | simp only [go_sem, seval, e_2, e_25]), trivial⟩) ?_
          try simp only [CallK_pan, dCallK_pan, panK_ap]
          have g_0 := Option.some.inj h
          subst g_0
          rw [← hQ]
          exact ⟨rfl, _, _, RefV.dead rfl, rfl, rfl⟩
        ·
         try dsimp only at h
         refine ACalls.panA (context_reader_row_w N _ _ _ c_0 _ h_54) [0] (v' := .iface 119 (.agg [])) (H' := [.dead, .box [.vec c_1 (List.map eTClass l_4)] 27, .box [.vec c_2 (List.map eTClass l_5)] 27, .box [.vec c_3 (List.map eTClass l_6)] 27, .box [.vec false (List.map eTSpan l_2), .bool b_3] 36, .box [.fn (.func 101) [] [.ptr 1 0 0], .fn (.func 101) [] [.ptr 2 0 0], .fn (.func 101) [] [.ptr 3 0 0], .bool b_7] 143, .box [.vec true [], .vec true [], .vec true [], .vec true []] 61, .box [.vec false (List.map eTSet y_11), .row 8 0 (1 + y_21.length), .vec true [], .vec true []] 61, .mem 2 (List.map eTSet ([TSet.mk l_2 b_3] ++ y_21)) 36]) (hH := by simp only [go_sem, seval, e_2, e_25]) (ho := ⟨(by first | rfl | simp only [go_sem, seval, e_2, e_25]), trivial⟩) ?_
         try simp only [CallK_pan, dCallK_pan, panK_ap]
         have g_0 := Option.some.inj h
         subst g_0
         rw [← hQ]
         exact ⟨rfl, _, _, RefV.dead rfl, rfl, rfl⟩
       ·
        try dsimp only at h
        refine ACalls.panA (context_reader_count_w N _ _ _ _ c_0 _ h_50) [0] (v' := .iface 119 (.agg [])) (H' := [.dead, .box [.vec c_1 (List.map eTClass l_4)] 27, .box [.vec c_2 (List.map eTClass l_5)] 27, .box [.vec c_3 (List.map eTClass l_6)] 27, .box [.vec false (List.map eTSpan l_2), .bool b_3] 36, .box [.fn (.func 101) [] [.ptr 1 0 0], .fn (.func 101) [] [.ptr 2 0 0], .fn (.func 101) [] [.ptr 3 0 0], .bool b_7] 143, .box [.vec true [], .vec true [], .vec true [], .vec true []] 61, .box [.vec false (List.map eTSet y_11), .row 8 0 (1 + y_21.length), .vec true [], .vec true []] 61, .mem 2 (List.map eTSet ([TSet.mk l_2 b_3] ++ y_21)) 36]) (hH := by simp only [go_sem, seval, e_2, e_25]) (ho := ⟨(by first | rfl | simp only [go_sem, seval, e_2, e_25]), trivial⟩) ?_
        try simp only [CallK_pan, dCallK_pan, panK_ap]
        have g_0 := Option.some.inj h
        subst g_0
        rw [← hQ]
        exact ⟨rfl, _, _, RefV.dead rfl, rfl, rfl⟩
     ·
      try dsimp only at h
      refine ACalls.panA (context_reader_row_w N _ _ _ c_0 _ h_18) [0] (v' := .iface 119 (.agg [])) (H' := [.dead, .box [.vec c_1 (List.map eTClass l_4)] 27, .box [.vec c_2 (List.map eTClass l_5)] 27, .box [.vec c_3 (List.map eTClass l_6)] 27, .box [.vec false (List.map eTSpan l_2), .bool b_3] 36, .box [.fn (.func 101) [] [.ptr 1 0 0], .fn (.func 101) [] [.ptr 2 0 0], .fn (.func 101) [] [.ptr 3 0 0], .bool b_7] 143, .box [.vec true [], .vec true [], .vec true [], .vec true []] 61, .box [.vec false (List.map eTSet y_11), .vec true [], .vec true [], .vec true []] 61]) (hH := by simp only [go_sem, seval, e_2]) (ho := ⟨(by first | rfl | simp only [go_sem, seval, e_2]), trivial⟩) ?_
      try simp only [CallK_pan, dCallK_pan, panK_ap]
      have g_0 := Option.some.inj h
      subst g_0
      rw [← hQ]
      exact ⟨rfl, _, _, RefV.dead rfl, rfl, rfl⟩
    ·
     try dsimp only at h
     refine ACalls.panA (context_reader_count_w N _ _ _ _ c_0 _ h_14) [0] (v' := .iface 119 (.agg [])) (H' := [.dead, .box [.vec c_1 (List.map eTClass l_4)] 27, .box [.vec c_2 (List.map eTClass l_5)] 27, .box [.vec c_3 (List.map eTClass l_6)] 27, .box [.vec false (List.map eTSpan l_2), .bool b_3] 36, .box [.fn (.func 101) [] [.ptr 1 0 0], .fn (.func 101) [] [.ptr 2 0 0], .fn (.func 101) [] [.ptr 3 0 0], .bool b_7] 143, .box [.vec true [], .vec true [], .vec true [], .vec true []] 61, .box [.vec false (List.map eTSet y_11), .vec true [], .vec true [], .vec true []] 61]) (hH := by simp only [go_sem, seval, e_2]) (ho := ⟨(by first | rfl | simp only [go_sem, seval, e_2]), trivial⟩) ?_
     try simp only [CallK_pan, dCallK_pan, panK_ap]
     have g_0 := Option.some.inj h
     subst g_0
     rw [← hQ]
     exact ⟨rfl, _, _, RefV.dead rfl, rfl, rfl⟩
   ·
    try dsimp only at h
    refine ACalls.panA (context_reader_row_w N _ _ _ c_0 _ h_8) [0] (v' := .iface 119 (.agg [])) (H' := [.dead, .box [.vec c_1 (List.map eTClass l_4)] 27, .box [.vec c_2 (List.map eTClass l_5)] 27, .box [.vec c_3 (List.map eTClass l_6)] 27, .box [.vec false (List.map eTSpan l_2), .bool b_3] 36, .box [.fn (.func 101) [] [.ptr 1 0 0], .fn (.func 101) [] [.ptr 2 0 0], .fn (.func 101) [] [.ptr 3 0 0], .bool b_7] 143, .box [.vec true [], .vec true [], .vec true [], .vec true []] 61, .box [.vec true [], .vec true [], .vec true [], .vec true []] 61]) (hH := by simp only [go_sem, seval, e_2]) (ho := ⟨(by first | rfl | simp only [go_sem, seval, e_2]), trivial⟩) ?_
    try simp only [CallK_pan, dCallK_pan, panK_ap]
    have g_0 := Option.some.inj h
    subst g_0
    rw [← hQ]
    exact ⟨rfl, _, _, RefV.dead rfl, rfl, rfl⟩
  ·
   try dsimp only at h
   refine ACalls.panA (context_reader_count_w N _ _ _ _ c_0 _ h_4) [0] (v' := .iface 119 (.agg [])) (H' := [.dead, .box [.vec c_1 (List.map eTClass l_4)] 27, .box [.vec c_2 (List.map eTClass l_5)] 27, .box [.vec c_3 (List.map eTClass l_6)] 27, .box [.vec false (List.map eTSpan l_2), .bool b_3] 36, .box [.fn (.func 101) [] [.ptr 1 0 0], .fn (.func 101) [] [.ptr 2 0 0], .fn (.func 101) [] [.ptr 3 0 0], .bool b_7] 143, .box [.vec true [], .vec true [], .vec true [], .vec true []] 61, .box [.vec true [], .vec true [], .vec true [], .vec true []] 61]) (hH := by simp only [go_sem, seval, e_2]) (ho := ⟨(by first | rfl | simp only [go_sem, seval, e_2]), trivial⟩) ?_
   try simp only [CallK_pan, dCallK_pan, panK_ap]
   have g_0 := Option.some.inj h
   subst g_0
   rw [← hQ]
   exact ⟨rfl, _, _, RefV.dead rfl, rfl, rfl⟩
 ·
  rw [if_neg h_1] at h
  have e_2 : b_7 = false := bfalse h_1
  obtain ⟨o_70, h_69, h⟩ := bindS h
  simp only [e_2, go_sem, seval]
  rcases o_70 with y_68 | _
  ·
   try dsimp only at h
   refine ACalls.useA (context_reader_count_w N _ _ _ _ c_0 _ h_69) [0] (v' := .int .i64 y_68) (H' := [.box [.vec c_0 (List.map eU8 l_0), .int .i64 (IntKind.i64.wrap (a_1 + 2))] 123, .box [.vec c_1 (List.map eTClass l_4)] 27, .box [.vec c_2 (List.map eTClass l_5)] 27, .box [.vec c_3 (List.map eTClass l_6)] 27, .box [.vec false (List.map eTSpan l_2), .bool b_3] 36, .box [.fn (.func 101) [] [.ptr 1 0 0], .fn (.func 101) [] [.ptr 2 0 0], .fn (.func 101) [] [.ptr 3 0 0], .bool b_7] 143, .box [.vec true [], .vec true [], .vec true [], .vec true []] 61, .box [.vec true [], .vec true [], .vec true [], .vec true []] 61]) (hH := by simp only [go_sem, seval, e_2]) (ho := ⟨(by first | rfl | simp only [go_sem, seval, e_2]), trivial⟩) ?_
   refine CallK_go (by simp) ?_
   obtain ⟨o_74, h_73, h⟩ := bindS h
   simp only [e_2, go_sem, seval]
   rcases o_74 with y_72 | _
   ·
    try dsimp only at h
    refine ACalls.useA (context_reader_count_w N _ _ _ _ c_0 _ h_73) [0] (v' := .int .i64 y_72) (H' := [.box [.vec c_0 (List.map eU8 l_0), .int .i64 (IntKind.i64.wrap ((IntKind.i64.wrap (a_1 + 2)) + 2))] 123, .box [.vec c_1 (List.map eTClass l_4)] 27, .box [.vec c_2 (List.map eTClass l_5)] 27, .box [.vec c_3 (List.map eTClass l_6)] 27, .box [.vec false (List.map eTSpan l_2), .bool b_3] 36, .box [.fn (.func 101) [] [.ptr 1 0 0], .fn (.func 101) [] [.ptr 2 0 0], .fn (.func 101) [] [.ptr 3 0 0], .bool b_7] 143, .box [.vec true [], .vec true [], .vec true [], .vec true []] 61, .box [.vec true [], .vec true [], .vec true [], .vec true []] 61]) (hH := by simp only [go_sem, seval, e_2]) (ho := ⟨(by first | rfl | simp only [go_sem, seval, e_2]), trivial⟩) ?_
    refine CallK_go (by simp) ?_
    obtain ⟨o_78, h_77, h⟩ := bindS h
    simp only [e_2, go_sem, seval]
    rcases o_78 with y_76 | _
    ·
     try dsimp only at h
     refine ACalls.useA (context_reader_row_w N _ _ _ c_0 _ h_77) [0] (v' := .vec false (List.map eI64 y_76)) (H' := [.box [.vec c_0 (List.map eU8 l_0), .int .i64 (IntKind.i64.wrap ((IntKind.i64.wrap ((IntKind.i64.wrap (a_1 + 2)) + 2)) + (IntKind.i64.wrap ((IntKind.i64.wrap (y_68 - 1)) * 2))))] 123, .box [.vec c_1 (List.map eTClass l_4)] 27, .box [.vec c_2 (List.map eTClass l_5)] 27, .box [.vec c_3 (List.map eTClass l_6)] 27, .box [.vec false (List.map eTSpan l_2), .bool b_3] 36, .box [.fn (.func 101) [] [.ptr 1 0 0], .fn (.func 101) [] [.ptr 2 0 0], .fn (.func 101) [] [.ptr 3 0 0], .bool b_7] 143, .box [.vec true [], .vec true [], .vec true [], .vec true []] 61, .box [.vec true [], .vec true [], .vec true [], .vec true []] 61]) (hH := by simp only [go_sem, seval, e_2]) (ho := ⟨(by first | rfl | simp only [go_sem, seval, e_2]), trivial⟩) ?_
     obtain ⟨y_80, h_81, h⟩ := bindS h
     simp only [e_2, go_sem, seval]
     refine ACalls.useA (context_of_v2_w N _ _ false c_2 _ h_81) [2] (v' := .vec false (List.map eTSet y_80)) (H' := [.box [.vec c_0 (List.map eU8 l_0), .int .i64 (IntKind.i64.wrap ((IntKind.i64.wrap ((IntKind.i64.wrap (a_1 + 2)) + 2)) + (IntKind.i64.wrap ((IntKind.i64.wrap (y_68 - 1)) * 2))))] 123, .box [.vec c_1 (List.map eTClass l_4)] 27, .box [.vec c_2 (List.map eTClass l_5)] 27, .box [.vec c_3 (List.map eTClass l_6)] 27, .box [.vec false (List.map eTSpan l_2), .bool b_3] 36, .box [.fn (.func 101) [] [.ptr 1 0 0], .fn (.func 101) [] [.ptr 2 0 0], .fn (.func 101) [] [.ptr 3 0 0], .bool b_7] 143, .box [.vec true [], .vec true [], .vec true [], .vec true []] 61, .box [.vec true [], .vec true [], .vec true [], .vec true []] 61]) (hH := by simp only [go_sem, seval, e_2]) (ho := ⟨(by first | rfl | simp only [go_sem, seval, e_2]), trivial⟩) ?_
     have e_82 : ((List.map eTSet y_80)).all (fun el => el.length == 2) = true := all_len _ eTSet 2 (fun _ => rfl)
     simp only [e_2, e_82, go_sem, seval]
     by_cases h_83 : y_80 = []
     ·
      rw [if_pos h_83] at h
      have e_84 : y_80 = [] := h_83
      obtain ⟨o_88, h_87, h⟩ := bindS h
      simp only [e_2, e_82, e_84, go_sem, seval]
      rcases o_88 with ⟨y_85, y_86⟩ | _
      ·
       try dsimp only at h
       refine ACalls.useA (context_reader_acts_w N _ _ _ _ c_0 _ h_87) [0] (v' := .vec false (List.map eTAct y_85)) (H' := [.box [.vec c_0 (List.map eU8 l_0), .int .i64 y_86] 123, .box [.vec c_1 (List.map eTClass l_4)] 27, .box [.vec c_2 (List.map eTClass l_5)] 27, .box [.vec c_3 (List.map eTClass l_6)] 27, .box [.vec false (List.map eTSpan l_2), .bool b_3] 36, .box [.fn (.func 101) [] [.ptr 1 0 0], .fn (.func 101) [] [.ptr 2 0 0], .fn (.func 101) [] [.ptr 3 0 0], .bool b_7] 143, .box [.vec true [], .vec true [], .vec true [], .vec true []] 61, .box [.vec true [], .vec true [[.vec false (List.map eTSpan l_2), .bool b_3]], .vec true [], .vec true []] 61]) (hH := by simp only [go_sem, seval, e_2, e_84]) (ho := ⟨(by first | rfl | simp only [go_sem, seval, e_2, e_84]), trivial⟩) ?_
       refine CallK_go (by simp) ?_
       simp only [e_2, e_82, e_84, go_sem, seval]
       have g_0 := Option.some.inj h
       subst g_0
       rw [← hQ]
       exact ⟨rfl, _, rfl, _, _, (RefV.trans (RefV.std (v' := .agg [.vec true [], .vec true [[.vec false (List.map eTSpan l_2), .bool b_3]], .vec true [], .vec false (List.map eTAct y_85)]) [0, 1, 2, 3] (by decide) (by decide) rfl (by first | rfl | simp only [go_sem, seval, e_2, e_84])) (RefV.weak (Wks.cons (Wk.agg (Wks.cons Wk.vec (Wks.cons Wk.vec (Wks.cons Wk.vec (Wks.cons (Wk.refl _) (Wks.nil)))))) Wks.nil) (WkH.refl _))), rfl, rfl⟩
      ·
       try dsimp only at h
       refine ACalls.panA (context_reader_acts_w N _ _ _ _ c_0 _ h_87) [0] (v' := .iface 119 (.agg [])) (H' := [.dead, .box [.vec c_1 (List.map eTClass l_4)] 27, .box [.vec c_2 (List.map eTClass l_5)] 27, .box [.vec c_3 (List.map eTClass l_6)] 27, .box [.vec false (List.map eTSpan l_2), .bool b_3] 36, .box [.fn (.func 101) [] [.ptr 1 0 0], .fn (.func 101) [] [.ptr 2 0 0], .fn (.func 101) [] [.ptr 3 0 0], .bool b_7] 143, .box [.vec true [], .vec true [], .vec true [], .vec true []] 61, .box [.vec true [], .vec true [[.vec false (List.map eTSpan l_2), .bool b_3]], .vec true [], .vec true []] 61]) (hH := by simp only [go_sem, seval, e_2, e_84]) (ho := ⟨(by first | rfl | simp only [go_sem, seval, e_2, e_84]), trivial⟩) ?_
       try simp only [CallK_pan, dCallK_pan, panK_ap]
       have g_0 := Option.some.inj h
       subst g_0
       rw [← hQ]
       exact ⟨rfl, _, _, RefV.dead rfl, rfl, rfl⟩
     ·
      rw [if_neg h_83] at h
      have e_84 : (y_80.length = 0) = False ∧ (0 < y_80.length) = True := ⟨eq_false (fun q => h_83 (List.eq_nil_of_length_eq_zero q)), eq_true (Nat.pos_of_ne_zero (fun q => h_83 (List.eq_nil_of_length_eq_zero q)))⟩
      have e_90 : ((List.map eTSet y_80)).all (fun el => el.length == 2) = true := all_len _ eTSet 2 (fun _ => rfl)
      have e_91 : [[.vec false (List.map eTSpan l_2), .bool b_3]] ++ (List.map eTSet y_80) = (List.map eTSet ([TSet.mk l_2 b_3] ++ y_80)) := app_map ([TSet.mk l_2 b_3]) y_80 eTSet
      obtain ⟨h_92, h⟩ := guardS h
      have e_93 := eq_true h_92
      obtain ⟨o_97, h_96, h⟩ := bindS h
      simp only [e_2, e_82, e_84, e_90, e_91, e_93, go_sem, seval]
      rcases o_97 with ⟨y_94, y_95⟩ | _
      ·
       try dsimp only at h
       refine ACalls.useA (context_reader_acts_w N _ _ _ _ c_0 _ h_96) [0] (v' := .vec false (List.map eTAct y_94)) (H' := [.box [.vec c_0 (List.map eU8 l_0), .int .i64 y_95] 123, .box [.vec c_1 (List.map eTClass l_4)] 27, .box [.vec c_2 (List.map eTClass l_5)] 27, .box [.vec c_3 (List.map eTClass l_6)] 27, .box [.vec false (List.map eTSpan l_2), .bool b_3] 36, .box [.fn (.func 101) [] [.ptr 1 0 0], .fn (.func 101) [] [.ptr 2 0 0], .fn (.func 101) [] [.ptr 3 0 0], .bool b_7] 143, .box [.vec true [], .vec true [], .vec true [], .vec true []] 61, .box [.vec true [], .row 8 0 (1 + y_80.length), .vec true [], .vec true []] 61, .mem 2 (List.map eTSet ([TSet.mk l_2 b_3] ++ y_80)) 36]) (hH := by simp only [go_sem, seval, e_2, e_84]) (ho := ⟨(by first | rfl | simp only [go_sem, seval, e_2, e_84]), trivial⟩) ?_
       refine CallK_go (by simp) ?_
       simp only [e_2, e_82, e_84, e_90, e_91, e_93, go_sem, seval]
       have g_0 := Option.some.inj h
       subst g_0
       rw [← hQ]
       exact ⟨rfl, _, rfl, _, _, (RefV.trans (RefV.frz (by simp) (id := 8) rfl (pures_map ([TSet.mk l_2 b_3] ++ y_80) eTSet (fun _ => rfl))) (RefV.trans (RefV.std (v' := .agg [.vec true [], .vec false (List.map eTSet ([TSet.mk l_2 b_3] ++ y_80)), .vec true [], .vec false (List.map eTAct y_94)]) [0, 1, 2, 3] (by decide) (by decide) (by first | rfl | simp only [go_sem, seval, e_2, e_84]) (by first | rfl | simp only [go_sem, seval, e_2, e_84])) (RefV.weak (Wks.cons (Wk.agg (Wks.cons Wk.vec (Wks.cons (Wk.refl _) (Wks.cons Wk.vec (Wks.cons (Wk.refl _) (Wks.nil)))))) Wks.nil) (WkH.refl _)))), rfl, rfl⟩
      ·
       try dsimp only at h
       refine ACalls.panA (context_reader_acts_w N _ _ _ _ c_0 _ h_96) [0] (v' := .iface 119 (.agg [])) (H' := [.dead, .box [.vec c_1 (List.map eTClass l_4)] 27, .box [.vec c_2 (List.map eTClass l_5)] 27, .box [.vec c_3 (List.map eTClass l_6)] 27, .box [.vec false (List.map eTSpan l_2), .bool b_3] 36, .box [.fn (.func 101) [] [.ptr 1 0 0], .fn (.func 101) [] [.ptr 2 0 0], .fn (.func 101) [] [.ptr 3 0 0], .bool b_7] 143, .box [.vec true [], .vec true [], .vec true [], .vec true []] 61, .box [.vec true [], .row 8 0 (1 + y_80.length), .vec true [], .vec true []] 61, .mem 2 (List.map eTSet ([TSet.mk l_2 b_3] ++ y_80)) 36]) (hH := by simp only [go_sem, seval, e_2, e_84]) (ho := ⟨(by first | rfl | simp only [go_sem, seval, e_2, e_84]), trivial⟩) ?_
       try simp only [CallK_pan, dCallK_pan, panK_ap]
       have g_0 := Option.some.inj h
       subst g_0
       rw [← hQ]
       exact ⟨rfl, _, _, RefV.dead rfl, rfl, rfl⟩
    ·
     try dsimp only at h
     refine ACalls.panA (context_reader_row_w N _ _ _ c_0 _ h_77) [0] (v' := .iface 119 (.agg [])) (H' := [.dead, .box [.vec c_1 (List.map eTClass l_4)] 27, .box [.vec c_2 (List.map eTClass l_5)] 27, .box [.vec c_3 (List.map eTClass l_6)] 27, .box [.vec false (List.map eTSpan l_2), .bool b_3] 36, .box [.fn (.func 101) [] [.ptr 1 0 0], .fn (.func 101) [] [.ptr 2 0 0], .fn (.func 101) [] [.ptr 3 0 0], .bool b_7] 143, .box [.vec true [], .vec true [], .vec true [], .vec true []] 61, .box [.vec true [], .vec true [], .vec true [], .vec true []] 61]) (hH := by simp only [go_sem, seval, e_2]) (ho := ⟨(by first | rfl | simp only [go_sem, seval, e_2]), trivial⟩) ?_
     try simp only [CallK_pan, dCallK_pan, panK_ap]
     have g_0 := Option.some.inj h
     subst g_0
     rw [← hQ]
     exact ⟨rfl, _, _, RefV.dead rfl, rfl, rfl⟩
   ·
    try dsimp only at h
    refine ACalls.panA (context_reader_count_w N _ _ _ _ c_0 _ h_73) [0] (v' := .iface 119 (.agg [])) (H' := [.dead, .box [.vec c_1 (List.map eTClass l_4)] 27, .box [.vec c_2 (List.map eTClass l_5)] 27, .box [.vec c_3 (List.map eTClass l_6)] 27, .box [.vec false (List.map eTSpan l_2), .bool b_3] 36, .box [.fn (.func 101) [] [.ptr 1 0 0], .fn (.func 101) [] [.ptr 2 0 0], .fn (.func 101) [] [.ptr 3 0 0], .bool b_7] 143, .box [.vec true [], .vec true [], .vec true [], .vec true []] 61, .box [.vec true [], .vec true [], .vec true [], .vec true []] 61]) (hH := by simp only [go_sem, seval, e_2]) (ho := ⟨(by first | rfl | simp only [go_sem, seval, e_2]), trivial⟩) ?_
    try simp only [CallK_pan, dCallK_pan, panK_ap]
    have g_0 := Option.some.inj h
    subst g_0
    rw [← hQ]
    exact ⟨rfl, _, _, RefV.dead rfl, rfl, rfl⟩
  ·
   try dsimp only at h
   refine ACalls.panA (context_reader_count_w N _ _ _ _ c_0 _ h_69) [0] (v' := .iface 119 (.agg [])) (H' := [.dead, .box [.vec c_1 (List.map eTClass l_4)] 27, .box [.vec c_2 (List.map eTClass l_5)] 27, .box [.vec c_3 (List.map eTClass l_6)] 27, .box [.vec false (List.map eTSpan l_2), .bool b_3] 36, .box [.fn (.func 101) [] [.ptr 1 0 0], .fn (.func 101) [] [.ptr 2 0 0], .fn (.func 101) [] [.ptr 3 0 0], .bool b_7] 143, .box [.vec true [], .vec true [], .vec true [], .vec true []] 61, .box [.vec true [], .vec true [], .vec true [], .vec true []] 61]) (hH := by simp only [go_sem, seval, e_2]) (ho := ⟨(by first | rfl | simp only [go_sem, seval, e_2]), trivial⟩) ?_
   try simp only [CallK_pan, dCallK_pan, panK_ap]
   have g_0 := Option.some.inj h
   subst g_0
   rw [← hQ]
   exact ⟨rfl, _, _, RefV.dead rfl, rfl, rfl⟩
theorem context_reader_list_L2_w (N : Nat) (a_2 : Int) (i_1 : Int) (x_4 : Int) (l_3 : List Int) (y_18 : List Int) (l_0 : List Int) (a_1 : Int) (l_4 : List TSpan) (l_5 : List TClass) (l_6 : List TClass) (l_7 : List TClass) (l_8 : List TClass) (b_9 : Bool) (c_1 : Bool) (c_0 : Bool) (c_2 : Bool) (c_3 : Bool) (c_4 : Bool) (c_5 : Bool) (c_6 : Bool) {R : AExit → ATm → List AObj → Prop} : ∀ (n : Nat) (i_22 : Int) (s_23 : List TCtx) (o : ((List TCtx)) ⊕ (Unit)), context_reader_list_L2 N a_2 i_1 x_4 l_3 y_18 l_0 a_1 l_4 l_5 l_6 l_7 l_8 b_9 n i_22 s_23 = some o → (match o with | .inl z_1 => R (.exit 2) ⟨75, [(0, .ptr 0 0 0), (1, .int .i64 a_2), (3, .fn (.func 102) [] [.ptr 1 0 0, .ptr 2 0 0]), (9, .ptr 6 0 0), (11, .row 7 0 z_1.length), (18, .vec c_1 (List.map eI64 l_3)), (19, .int .i64 (l_3.length : Int)), (20, .int .i64 i_1)], []⟩ [.box [.vec c_0 (List.map eU8 l_0), .int .i64 a_1] 123, .box [.vec c_2 (List.map eTSpan l_4)] 24, .box [.vec c_3 (List.map eTClass l_5)] 27, .box [.vec c_4 (List.map eTClass l_6)] 27, .box [.vec c_5 (List.map eTClass l_7)] 27, .box [.vec c_6 (List.map eTClass l_8)] 27, .box [.fn (.func 101) [] [.ptr 3 0 0], .fn (.func 101) [] [.ptr 4 0 0], .fn (.func 101) [] [.ptr 5 0 0], .bool b_9] 143, .mem 4 (List.map eTCtx z_1) 61] | .inr (_) => ∀ (tb : ATm) (Hb : List AObj), tb.ds = [] → R (.pan (.iface 119 (.agg []))) tb Hb) →
  ALp Try.prog 6 B96_2 ⟨75, [(0, .ptr 0 0 0), (1, .int .i64 a_2), (3, .fn (.func 102) [] [.ptr 1 0 0, .ptr 2 0 0]), (9, .ptr 6 0 0), (11, .row 7 0 s_23.length), (12, .int .i64 i_1), (13, .int .i64 x_4), (18, .vec c_1 (List.map eI64 l_3)), (19, .int .i64 (l_3.length : Int)), (20, .int .i64 i_1), (43, .vec false (List.map eI64 y_18)), (44, .int .i64 (y_18.length : Int)), (45, .int .i64 i_22)], []⟩ [.box [.vec c_0 (List.map eU8 l_0), .int .i64 a_1] 123, .box [.vec c_2 (List.map eTSpan l_4)] 24, .box [.vec c_3 (List.map eTClass l_5)] 27, .box [.vec c_4 (List.map eTClass l_6)] 27, .box [.vec c_5 (List.map eTClass l_7)] 27, .box [.vec c_6 (List.map eTClass l_8)] 27, .box [.fn (.func 101) [] [.ptr 3 0 0], .fn (.func 101) [] [.ptr 4 0 0], .fn (.func 101) [] [.ptr 5 0 0], .bool b_9] 143, .mem 4 (List.map eTCtx s_23) 61] R := by
 intro n
 induction n with
 | zero =>
  intro i_22 s_23 o h _
  have h0 : none = some o := h
  cases h0
 | succ n ih =>
  intro i_22 s_23 o h hp
  rw [context_reader_list_L2] at h
  refine ALp.round ?_
  generalize hQ : RoundQ _ _ _ _ = QQ
  simp only [B96_2, B96_1, A96, go_sem, seval]
  by_cases h_24 : i_22 < (y_18.length : Int)
  ·
   rw [if_pos h_24] at h
   have e_25 := eq_true h_24
   obtain ⟨x_26, h_27, h⟩ := bindS h
   have e_28 : (List.map eI64 y_18)[(i_22).toNat]? = some [.int .i64 x_26] := atI_map eI64 h_27
   have e_29 := eq_true (atI_some h_27).1
   have e_30 := eq_true (atI_lt h_27)
   simp only [e_25, e_28, e_29, e_30, go_sem, seval]
   refine ⟨?_, ?_⟩
   ·
    obtain ⟨⟨y_31, y_32⟩, h_33, h⟩ := bindS h
    try dsimp only at h
    try simp only [e_25, e_28, e_29, e_30, go_sem, seval]
    refine ACalls.useA (context_reader_classed_2_w N _ _ _ c_2 c_3 _ _ h_33) [1, 2] (v' := .agg [.vec false (List.map eTSpan y_31), .bool y_32]) (H' := [.box [.vec c_0 (List.map eU8 l_0), .int .i64 a_1] 123, .box [.vec c_2 (List.map eTSpan l_4)] 24, .box [.vec c_3 (List.map eTClass l_5)] 27, .box [.vec c_4 (List.map eTClass l_6)] 27, .box [.vec c_5 (List.map eTClass l_7)] 27, .box [.vec c_6 (List.map eTClass l_8)] 27, .box [.fn (.func 101) [] [.ptr 3 0 0], .fn (.func 101) [] [.ptr 4 0 0], .fn (.func 101) [] [.ptr 5 0 0], .bool b_9] 143, .mem 4 (List.map eTCtx s_23) 61, .box [.vec c_0 (List.map eU8 l_0), .int .i64 (IntKind.i64.wrap ((IntKind.i64.wrap (a_2 + x_4)) + x_26))] 123]) (hH := by simp only [go_sem, seval, e_25]) (ho := ⟨(by first | rfl | simp only [go_sem, seval, e_25]), (by first | rfl | simp only [go_sem, seval, e_25]), trivial⟩) ?_
    obtain ⟨o_40, h_39, h⟩ := bindS h
    simp only [e_25, e_28, e_29, e_30, go_sem, seval]
    rcases o_40 with ⟨y_34, y_35, y_36, y_37, y_38⟩ | _
    ·
     try dsimp only at h
     refine ACalls.useA (context_reader_rule_v2_w N _ _ _ _ _ _ _ _ c_0 c_4 c_5 c_6 _ h_39) [8, 3, 4, 5] (v' := .agg [.vec false (List.map eTSet y_34), .vec false (List.map eTSet y_35), .vec false (List.map eTSet y_36), .vec false (List.map eTAct y_37)]) (H' := [.box [.vec c_0 (List.map eU8 l_0), .int .i64 a_1] 123, .box [.vec c_2 (List.map eTSpan l_4)] 24, .box [.vec c_3 (List.map eTClass l_5)] 27, .box [.vec c_4 (List.map eTClass l_6)] 27, .box [.vec c_5 (List.map eTClass l_7)] 27, .box [.vec c_6 (List.map eTClass l_8)] 27, .box [.fn (.func 101) [] [.ptr 3 0 0], .fn (.func 101) [] [.ptr 4 0 0], .fn (.func 101) [] [.ptr 5 0 0], .bool b_9] 143, .mem 4 (List.map eTCtx s_23) 61, .box [.vec c_0 (List.map eU8 l_0), .int .i64 y_38] 123]) (hH := by simp only [go_sem, seval, e_25]) (ho := ⟨(by first | rfl | simp only [go_sem, seval, e_25]), (by first | rfl | simp only [go_sem, seval, e_25]), (by first | rfl | simp only [go_sem, seval, e_25]), (by first | rfl | simp only [go_sem, seval, e_25]), trivial⟩) ?_
     have e_42 : List.take s_23.length (List.map eTCtx s_23) = (List.map eTCtx s_23) := List.take_of_length_le (by simp)
     have e_43 : (List.map eTCtx s_23) ++ [[.vec false (List.map eTSet y_34), .vec false (List.map eTSet y_35), .vec false (List.map eTSet y_36), .vec false (List.map eTAct y_37)]] = (List.map eTCtx (s_23 ++ [TCtx.mk y_34 y_35 y_36 y_37])) := app_map s_23 ([TCtx.mk y_34 y_35 y_36 y_37]) eTCtx
     obtain ⟨h_44, h⟩ := guardS h
     have e_45 := eq_true h_44
     obtain ⟨o_47, h_46, h⟩ := bindS h
     simp only [e_25, e_28, e_29, e_30, e_42, e_43, e_45, go_sem, seval]
     rcases o_47 with _ | _
     ·
      try dsimp only at h
      refine ACalls.use0 (context_must_w N _ _ h_46) rfl rfl ?_
      refine CallK_go (by simp) ?_
      simp only [e_25, e_28, e_29, e_30, e_42, e_43, e_45, go_sem, seval]
      rw [← hQ]
      exact ⟨_, _, (Ref.std [0, 1, 3, 9, 11, 12, 13, 18, 19, 20, 43, 44, 45] [0, 1, 2, 3, 4, 5, 6, 9] (by decide) (by decide) (by first | rfl | simp only [go_sem, seval]) (by first | rfl | simp only [go_sem, seval, e_25])), (by simp), ih _ _ _ h hp⟩
     ·
      try dsimp only at h
      refine ACalls.panA (context_must_w N _ _ h_46) [] (v' := .iface 119 (.agg [])) (H' := [.box [.vec c_0 (List.map eU8 l_0), .int .i64 a_1] 123, .box [.vec c_2 (List.map eTSpan l_4)] 24, .box [.vec c_3 (List.map eTClass l_5)] 27, .box [.vec c_4 (List.map eTClass l_6)] 27, .box [.vec c_5 (List.map eTClass l_7)] 27, .box [.vec c_6 (List.map eTClass l_8)] 27, .box [.fn (.func 101) [] [.ptr 3 0 0], .fn (.func 101) [] [.ptr 4 0 0], .fn (.func 101) [] [.ptr 5 0 0], .bool b_9] 143, .dead, .box [.vec c_0 (List.map eU8 l_0), .int .i64 y_38] 123, .mem 4 (List.map eTCtx (s_23 ++ [TCtx.mk y_34 y_35 y_36 y_37])) 61]) (hH := by simp only [go_sem, seval, e_25]) ?_
      try simp only [CallK_pan, dCallK_pan, panK_ap]
      have g := Option.some.inj h
      subst g
      rw [← hQ]
      exact hp _ _ rfl
    ·
     try dsimp only at h
     refine ACalls.panA (context_reader_rule_v2_w N _ _ _ _ _ _ _ _ c_0 c_4 c_5 c_6 _ h_39) [8, 3, 4, 5] (v' := .iface 119 (.agg [])) (H' := [.box [.vec c_0 (List.map eU8 l_0), .int .i64 a_1] 123, .box [.vec c_2 (List.map eTSpan l_4)] 24, .box [.vec c_3 (List.map eTClass l_5)] 27, .dead, .dead, .dead, .box [.fn (.func 101) [] [.ptr 3 0 0], .fn (.func 101) [] [.ptr 4 0 0], .fn (.func 101) [] [.ptr 5 0 0], .bool b_9] 143, .mem 4 (List.map eTCtx s_23) 61, .dead]) (hH := by simp only [go_sem, seval, e_25]) (ho := ⟨(by first | rfl | simp only [go_sem, seval, e_25]), (by first | rfl | simp only [go_sem, seval, e_25]), (by first | rfl | simp only [go_sem, seval, e_25]), (by first | rfl | simp only [go_sem, seval, e_25]), trivial⟩) ?_
     try simp only [CallK_pan, dCallK_pan, panK_ap]
     have g := Option.some.inj h
     subst g
     rw [← hQ]
     exact hp _ _ rfl
   ·
    obtain ⟨⟨y_31, y_32⟩, h_33, h⟩ := bindS h
    try dsimp only at h
    try simp only [e_25, e_28, e_29, e_30, go_sem, seval]
    refine ACalls.useA (context_reader_classed_2_w N _ _ _ c_2 c_3 _ _ h_33) [1, 2] (v' := .agg [.vec false (List.map eTSpan y_31), .bool y_32]) (H' := [.box [.vec c_0 (List.map eU8 l_0), .int .i64 a_1] 123, .box [.vec c_2 (List.map eTSpan l_4)] 24, .box [.vec c_3 (List.map eTClass l_5)] 27, .box [.vec c_4 (List.map eTClass l_6)] 27, .box [.vec c_5 (List.map eTClass l_7)] 27, .box [.vec c_6 (List.map eTClass l_8)] 27, .box [.fn (.func 101) [] [.ptr 3 0 0], .fn (.func 101) [] [.ptr 4 0 0], .fn (.func 101) [] [.ptr 5 0 0], .bool b_9] 143, .mem 4 (List.map eTCtx s_23) 61]) (hH := by simp only [go_sem, seval, e_25]) (ho := ⟨(by first | rfl | simp only [go_sem, seval, e_25]), (by first | rfl | simp only [go_sem, seval, e_25]), trivial⟩) ?_
    obtain ⟨o_40, h_39, h⟩ := bindS h
    simp only [e_25, e_28, e_29, e_30, go_sem, seval]
    rcases o_40 with ⟨y_34, y_35, y_36, y_37, y_38⟩ | _
    ·
     try dsimp only at h
     refine ACalls.useA (context_reader_rule_v2_w N _ _ _ _ _ _ _ _ c_0 c_4 c_5 c_6 _ h_39) [8, 3, 4, 5] (v' := .agg [.vec false (List.map eTSet y_34), .vec false (List.map eTSet y_35), .vec false (List.map eTSet y_36), .vec false (List.map eTAct y_37)]) (H' := [.box [.vec c_0 (List.map eU8 l_0), .int .i64 a_1] 123, .box [.vec c_2 (List.map eTSpan l_4)] 24, .box [.vec c_3 (List.map eTClass l_5)] 27, .box [.vec c_4 (List.map eTClass l_6)] 27, .box [.vec c_5 (List.map eTClass l_7)] 27, .box [.vec c_6 (List.map eTClass l_8)] 27, .box [.fn (.func 101) [] [.ptr 3 0 0], .fn (.func 101) [] [.ptr 4 0 0], .fn (.func 101) [] [.ptr 5 0 0], .bool b_9] 143, .mem 4 (List.map eTCtx s_23) 61, .box [.vec c_0 (List.map eU8 l_0), .int .i64 y_38] 123]) (hH := by simp only [go_sem, seval, e_25]) (ho := ⟨(by first | rfl | simp only [go_sem, seval, e_25]), (by first | rfl | simp only [go_sem, seval, e_25]), (by first | rfl | simp only [go_sem, seval, e_25]), (by first | rfl | simp only [go_sem, seval, e_25]), trivial⟩) ?_
     have e_42 : List.take s_23.length (List.map eTCtx s_23) = (List.map eTCtx s_23) := List.take_of_length_le (by simp)
     have e_43 : (List.map eTCtx s_23) ++ [[.vec false (List.map eTSet y_34), .vec false (List.map eTSet y_35), .vec false (List.map eTSet y_36), .vec false (List.map eTAct y_37)]] = (List.map eTCtx (s_23 ++ [TCtx.mk y_34 y_35 y_36 y_37])) := app_map s_23 ([TCtx.mk y_34 y_35 y_36 y_37]) eTCtx
     obtain ⟨h_44, h⟩ := guardS h
     have e_45 := eq_true h_44
     obtain ⟨o_47, h_46, h⟩ := bindS h
     simp only [e_25, e_28, e_29, e_30, e_42, e_43, e_45, go_sem, seval]
     rcases o_47 with _ | _
     ·
      try dsimp only at h
      refine ACalls.use0 (context_must_w N _ _ h_46) rfl rfl ?_
      refine CallK_go (by simp) ?_
      simp only [e_25, e_28, e_29, e_30, e_42, e_43, e_45, go_sem, seval]
      rw [← hQ]
      exact ⟨_, _, (Ref.std [0, 1, 3, 9, 11, 12, 13, 18, 19, 20, 43, 44, 45] [0, 1, 2, 3, 4, 5, 6, 9] (by decide) (by decide) (by first | rfl | simp only [go_sem, seval]) (by first | rfl | simp only [go_sem, seval, e_25])), (by simp), ih _ _ _ h hp⟩
     ·
      try dsimp only at h
      refine ACalls.panA (context_must_w N _ _ h_46) [] (v' := .iface 119 (.agg [])) (H' := [.box [.vec c_0 (List.map eU8 l_0), .int .i64 a_1] 123, .box [.vec c_2 (List.map eTSpan l_4)] 24, .box [.vec c_3 (List.map eTClass l_5)] 27, .box [.vec c_4 (List.map eTClass l_6)] 27, .box [.vec c_5 (List.map eTClass l_7)] 27, .box [.vec c_6 (List.map eTClass l_8)] 27, .box [.fn (.func 101) [] [.ptr 3 0 0], .fn (.func 101) [] [.ptr 4 0 0], .fn (.func 101) [] [.ptr 5 0 0], .bool b_9] 143, .dead, .box [.vec c_0 (List.map eU8 l_0), .int .i64 y_38] 123, .mem 4 (List.map eTCtx (s_23 ++ [TCtx.mk y_34 y_35 y_36 y_37])) 61]) (hH := by simp only [go_sem, seval, e_25]) ?_
      try simp only [CallK_pan, dCallK_pan, panK_ap]
      have g := Option.some.inj h
      subst g
      rw [← hQ]
      exact hp _ _ rfl
    ·
     try dsimp only at h
     refine ACalls.panA (context_reader_rule_v2_w N _ _ _ _ _ _ _ _ c_0 c_4 c_5 c_6 _ h_39) [8, 3, 4, 5] (v' := .iface 119 (.agg [])) (H' := [.box [.vec c_0 (List.map eU8 l_0), .int .i64 a_1] 123, .box [.vec c_2 (List.map eTSpan l_4)] 24, .box [.vec c_3 (List.map eTClass l_5)] 27, .dead, .dead, .dead, .box [.fn (.func 101) [] [.ptr 3 0 0], .fn (.func 101) [] [.ptr 4 0 0], .fn (.func 101) [] [.ptr 5 0 0], .bool b_9] 143, .mem 4 (List.map eTCtx s_23) 61, .dead]) (hH := by simp only [go_sem, seval, e_25]) (ho := ⟨(by first | rfl | simp only [go_sem, seval, e_25]), (by first | rfl | simp only [go_sem, seval, e_25]), (by first | rfl | simp only [go_sem, seval, e_25]), (by first | rfl | simp only [go_sem, seval, e_25]), trivial⟩) ?_
     try simp only [CallK_pan, dCallK_pan, panK_ap]
     have g := Option.some.inj h
     subst g
     rw [← hQ]
     exact hp _ _ rfl
  ·
   rw [if_neg h_24] at h
   have e_25 := eq_false h_24
   simp only [e_25, go_sem, seval]
   have g := Option.some.inj h
   subst g
   rw [← hQ]
   exact ⟨_, _, (Ref.std [0, 1, 3, 9, 11, 18, 19, 20] [0, 1, 2, 3, 4, 5, 6, 7] (by decide) (by decide) rfl (by first | rfl | simp only [go_sem, seval, e_25])), hp⟩
theorem context_reader_list_L3_w (N : Nat) (a_2 : Int) (l_3 : List Int) (l_0 : List Int) (a_1 : Int) (l_4 : List TSpan) (l_5 : List TClass) (l_6 : List TClass) (l_7 : List TClass) (l_8 : List TClass) (b_9 : Bool) (c_1 : Bool) (c_0 : Bool) (c_2 : Bool) (c_3 : Bool) (c_4 : Bool) (c_5 : Bool) (c_6 : Bool) {R : AExit → ATm → List AObj → Prop} : ∀ (n : Nat) (i_1 : Int) (s_2 : List TCtx) (o : ((List TCtx)) ⊕ (Unit)), context_reader_list_L3 N a_2 l_3 l_0 a_1 l_4 l_5 l_6 l_7 l_8 b_9 n i_1 s_2 = some o → (match o with | .inl z_1 => R (.exit 0) ⟨75, [(11, .row 6 0 z_1.length)], []⟩ [.box [.vec c_0 (List.map eU8 l_0), .int .i64 a_1] 123, .box [.vec c_2 (List.map eTSpan l_4)] 24, .box [.vec c_3 (List.map eTClass l_5)] 27, .box [.vec c_4 (List.map eTClass l_6)] 27, .box [.vec c_5 (List.map eTClass l_7)] 27, .box [.vec c_6 (List.map eTClass l_8)] 27, .mem 4 (List.map eTCtx z_1) 61] | .inr (_) => ∀ (tb : ATm) (Hb : List AObj), tb.ds = [] → R (.pan (.iface 119 (.agg []))) tb Hb) →
  ALp Try.prog 6 B96_1 ⟨75, [(0, .ptr 0 0 0), (1, .int .i64 a_2), (3, .fn (.func 102) [] [.ptr 1 0 0, .ptr 2 0 0]), (9, .ptr 6 0 0), (11, .row 7 0 s_2.length), (18, .vec c_1 (List.map eI64 l_3)), (19, .int .i64 (l_3.length : Int)), (20, .int .i64 i_1)], []⟩ [.box [.vec c_0 (List.map eU8 l_0), .int .i64 a_1] 123, .box [.vec c_2 (List.map eTSpan l_4)] 24, .box [.vec c_3 (List.map eTClass l_5)] 27, .box [.vec c_4 (List.map eTClass l_6)] 27, .box [.vec c_5 (List.map eTClass l_7)] 27, .box [.vec c_6 (List.map eTClass l_8)] 27, .box [.fn (.func 101) [] [.ptr 3 0 0], .fn (.func 101) [] [.ptr 4 0 0], .fn (.func 101) [] [.ptr 5 0 0], .bool b_9] 143, .mem 4 (List.map eTCtx s_2) 61] R := by
 intro n
 induction n with
 | zero =>
  intro i_1 s_2 o h _
  have h0 : none = some o := h
  cases h0
 | succ n ih =>
  intro i_1 s_2 o h hp
  rw [context_reader_list_L3] at h
  refine ALp.round ?_
  generalize hQ : RoundQ _ _ _ _ = QQ
  simp only [B96_1, A96, go_sem, seval]
  by_cases h_3 : i_1 < (l_3.length : Int)
  ·
   rw [if_pos h_3] at h
   have e_4 := eq_true h_3
   obtain ⟨x_5, h_6, h⟩ := bindS h
   have e_7 : (List.map eI64 l_3)[(i_1).toNat]? = some [.int .i64 x_5] := atI_map eI64 h_6
   have e_8 := eq_true (atI_some h_6).1
   have e_9 := eq_true (atI_lt h_6)
   simp only [e_4, e_7, e_8, e_9, go_sem, seval]
   by_cases h_10 : x_5 = 0
   ·
    rw [if_pos h_10] at h
    have e_11 := eq_true h_10
    simp only [e_4, e_7, e_8, e_9, e_11, go_sem, seval]
    rw [← hQ]
    exact ⟨_, _, (Ref.std [0, 1, 3, 9, 11, 18, 19, 20] [0, 1, 2, 3, 4, 5, 6, 7] (by decide) (by decide) rfl (by first | rfl | simp only [go_sem, seval, e_4, e_11])), (by simp), ih _ _ _ h hp⟩
   ·
    rw [if_neg h_10] at h
    have e_11 := eq_false h_10
    obtain ⟨o_14, h_13, h⟩ := bindS h
    simp only [e_4, e_7, e_8, e_9, e_11, go_sem, seval]
    rcases o_14 with y_12 | _
    ·
     try dsimp only at h
     refine ACalls.useA (context_reader_number_w N _ _ c_0 _ h_13) [8] (v' := .int .i64 y_12) (H' := [.box [.vec c_0 (List.map eU8 l_0), .int .i64 a_1] 123, .box [.vec c_2 (List.map eTSpan l_4)] 24, .box [.vec c_3 (List.map eTClass l_5)] 27, .box [.vec c_4 (List.map eTClass l_6)] 27, .box [.vec c_5 (List.map eTClass l_7)] 27, .box [.vec c_6 (List.map eTClass l_8)] 27, .box [.fn (.func 101) [] [.ptr 3 0 0], .fn (.func 101) [] [.ptr 4 0 0], .fn (.func 101) [] [.ptr 5 0 0], .bool b_9] 143, .mem 4 (List.map eTCtx s_2) 61, .box [.vec c_0 (List.map eU8 l_0), .int .i64 (IntKind.i64.wrap ((IntKind.i64.wrap (a_2 + x_5)) + 2))] 123]) (hH := by simp only [go_sem, seval, e_4, e_11]) (ho := ⟨(by first | rfl | simp only [go_sem, seval, e_4, e_11]), trivial⟩) ?_
     refine CallK_go (by simp) ?_
     obtain ⟨o_17, h_16, h⟩ := bindS h
     simp only [e_4, e_7, e_8, e_9, e_11, go_sem, seval]
     rcases o_17 with _ | _
     ·
      try dsimp only at h
      refine ACalls.use0 (context_must_w N _ _ h_16) rfl rfl ?_
      refine CallK_go (by simp) ?_
      obtain ⟨o_21, h_20, h⟩ := bindS h
      simp only [e_4, e_7, e_8, e_9, e_11, go_sem, seval]
      rcases o_21 with y_19 | _
      ·
       try dsimp only at h
       refine ACalls.useA (context_reader_row_w N _ _ _ c_0 _ h_20) [8] (v' := .vec false (List.map eI64 y_19)) (H' := [.box [.vec c_0 (List.map eU8 l_0), .int .i64 a_1] 123, .box [.vec c_2 (List.map eTSpan l_4)] 24, .box [.vec c_3 (List.map eTClass l_5)] 27, .box [.vec c_4 (List.map eTClass l_6)] 27, .box [.vec c_5 (List.map eTClass l_7)] 27, .box [.vec c_6 (List.map eTClass l_8)] 27, .box [.fn (.func 101) [] [.ptr 3 0 0], .fn (.func 101) [] [.ptr 4 0 0], .fn (.func 101) [] [.ptr 5 0 0], .bool b_9] 143, .mem 4 (List.map eTCtx s_2) 61, .box [.vec c_0 (List.map eU8 l_0), .int .i64 (IntKind.i64.wrap ((IntKind.i64.wrap ((IntKind.i64.wrap (a_2 + x_5)) + 2)) + (IntKind.i64.wrap (y_12 * 2))))] 123]) (hH := by simp only [go_sem, seval, e_4, e_11]) (ho := ⟨(by first | rfl | simp only [go_sem, seval, e_4, e_11]), trivial⟩) ?_
       refine CallK_go (by simp) ?_
       simp only [e_4, e_7, e_8, e_9, e_11, go_sem, seval]
       obtain ⟨o_1025, h_1023, h⟩ := bindS h
       refine ALp.ref (Ref.std [0, 1, 3, 9, 11, 12, 13, 18, 19, 20, 43, 44, 45] [0, 1, 2, 3, 4, 5, 6, 7] (by decide) (by decide) rfl (by first | rfl | simp only [go_sem, seval, e_4, e_11])) (by simp) (context_reader_list_L2_w N _ _ _ _ _ _ _ _ _ _ _ _ _ c_1 c_0 c_2 c_3 c_4 c_5 c_6 N _ _ o_1025 h_1023 ?_)
       rcases o_1025 with y_1024 | _
       ·
        try dsimp only at h
        refine LoopK_go rfl (by simp) ?_
        simp only [e_4, e_7, e_8, e_9, e_11, go_sem, seval]
        rw [← hQ]
        exact ⟨_, _, (Ref.std [0, 1, 3, 9, 11, 18, 19, 20] [0, 1, 2, 3, 4, 5, 6, 7] (by decide) (by decide) rfl (by first | rfl | simp only [go_sem, seval, e_4, e_11])), (by simp), ih _ _ _ h hp⟩
       ·
        try dsimp only at h
        intro _ _ h_1026
        refine LoopK_pan ?_
        have g := Option.some.inj h
        subst g
        rw [← hQ]
        exact hp _ _ h_1026
      ·
       try dsimp only at h
       refine ACalls.panA (context_reader_row_w N _ _ _ c_0 _ h_20) [8] (v' := .iface 119 (.agg [])) (H' := [.box [.vec c_0 (List.map eU8 l_0), .int .i64 a_1] 123, .box [.vec c_2 (List.map eTSpan l_4)] 24, .box [.vec c_3 (List.map eTClass l_5)] 27, .box [.vec c_4 (List.map eTClass l_6)] 27, .box [.vec c_5 (List.map eTClass l_7)] 27, .box [.vec c_6 (List.map eTClass l_8)] 27, .box [.fn (.func 101) [] [.ptr 3 0 0], .fn (.func 101) [] [.ptr 4 0 0], .fn (.func 101) [] [.ptr 5 0 0], .bool b_9] 143, .mem 4 (List.map eTCtx s_2) 61, .dead]) (hH := by simp only [go_sem, seval, e_4, e_11]) (ho := ⟨(by first | rfl | simp only [go_sem, seval, e_4, e_11]), trivial⟩) ?_
       try simp only [CallK_pan, dCallK_pan, panK_ap]
       have g := Option.some.inj h
       subst g
       rw [← hQ]
       exact hp _ _ rfl
     ·
      try dsimp only at h
      refine ACalls.panA (context_must_w N _ _ h_16) [] (v' := .iface 119 (.agg [])) (H' := [.box [.vec c_0 (List.map eU8 l_0), .int .i64 a_1] 123, .box [.vec c_2 (List.map eTSpan l_4)] 24, .box [.vec c_3 (List.map eTClass l_5)] 27, .box [.vec c_4 (List.map eTClass l_6)] 27, .box [.vec c_5 (List.map eTClass l_7)] 27, .box [.vec c_6 (List.map eTClass l_8)] 27, .box [.fn (.func 101) [] [.ptr 3 0 0], .fn (.func 101) [] [.ptr 4 0 0], .fn (.func 101) [] [.ptr 5 0 0], .bool b_9] 143, .mem 4 (List.map eTCtx s_2) 61, .box [.vec c_0 (List.map eU8 l_0), .int .i64 (IntKind.i64.wrap ((IntKind.i64.wrap (a_2 + x_5)) + 2))] 123]) (hH := by simp only [go_sem, seval, e_4, e_11]) ?_
      try simp only [CallK_pan, dCallK_pan, panK_ap]
      have g := Option.some.inj h
      subst g
      rw [← hQ]
      exact hp _ _ rfl
    ·
     try dsimp only at h
     refine ACalls.panA (context_reader_number_w N _ _ c_0 _ h_13) [8] (v' := .iface 119 (.agg [])) (H' := [.box [.vec c_0 (List.map eU8 l_0), .int .i64 a_1] 123, .box [.vec c_2 (List.map eTSpan l_4)] 24, .box [.vec c_3 (List.map eTClass l_5)] 27, .box [.vec c_4 (List.map eTClass l_6)] 27, .box [.vec c_5 (List.map eTClass l_7)] 27, .box [.vec c_6 (List.map eTClass l_8)] 27, .box [.fn (.func 101) [] [.ptr 3 0 0], .fn (.func 101) [] [.ptr 4 0 0], .fn (.func 101) [] [.ptr 5 0 0], .bool b_9] 143, .mem 4 (List.map eTCtx s_2) 61, .dead]) (hH := by simp only [go_sem, seval, e_4, e_11]) (ho := ⟨(by first | rfl | simp only [go_sem, seval, e_4, e_11]), trivial⟩) ?_
     try simp only [CallK_pan, dCallK_pan, panK_ap]
     have g := Option.some.inj h
     subst g
     rw [← hQ]
     exact hp _ _ rfl
  ·
   rw [if_neg h_3] at h
   have e_4 := eq_false h_3
   simp only [e_4, go_sem, seval]
   have g := Option.some.inj h
   subst g
   rw [← hQ]
   exact ⟨_, _, (Ref.std [11] [0, 1, 2, 3, 4, 5, 7] (by decide) (by decide) rfl (by first | rfl | simp only [go_sem, seval])), hp⟩
theorem context_reader_list_w (N : Nat) (l_0 : List Int) (a_1 : Int) (a_2 : Int) (l_3 : List Int) (l_4 : List TSpan) (l_5 : List TClass) (l_6 : List TClass) (l_7 : List TClass) (l_8 : List TClass) (b_9 : Bool) (c_0 : Bool) (c_1 : Bool) (c_2 : Bool) (c_3 : Bool) (c_4 : Bool) (c_5 : Bool) (c_6 : Bool) (o : ((List TCtx)) ⊕ Unit) (h : context_reader_list N l_0 a_1 a_2 l_3 l_4 l_5 l_6 l_7 l_8 b_9 = some o) :
  ACalls Try.prog 96 [.ptr 0 0 0, .int .i64 a_2, .vec c_1 (List.map eI64 l_3), .fn (.func 102) [] [.ptr 1 0 0, .ptr 2 0 0], .agg [.fn (.func 101) [] [.ptr 3 0 0], .fn (.func 101) [] [.ptr 4 0 0], .fn (.func 101) [] [.ptr 5 0 0], .bool b_9]] [.box [.vec c_0 (List.map eU8 l_0), .int .i64 a_1] 123, .box [.vec c_2 (List.map eTSpan l_4)] 24, .box [.vec c_3 (List.map eTClass l_5)] 27, .box [.vec c_4 (List.map eTClass l_6)] 27, .box [.vec c_5 (List.map eTClass l_7)] 27, .box [.vec c_6 (List.map eTClass l_8)] 27] (fun e H => match o with | .inl z_1 => H = [.box [.vec c_0 (List.map eU8 l_0), .int .i64 a_1] 123, .box [.vec c_2 (List.map eTSpan l_4)] 24, .box [.vec c_3 (List.map eTClass l_5)] 27, .box [.vec c_4 (List.map eTClass l_6)] 27, .box [.vec c_5 (List.map eTClass l_7)] 27, .box [.vec c_6 (List.map eTClass l_8)] 27] ∧ e = .ret (.vec false (List.map eTCtx z_1)) | .inr _ => H = [.dead, .dead, .dead, .dead, .dead, .dead] ∧ e = .pan (.iface 119 (.agg []))) := by
 unfold context_reader_list at h
 refine ACalls.goN Try.func96 n96 a96 Try.ntmps96 r96 (by simp) 6 rfl ?_
 generalize hQ : bodyA _ _ _ = QQ
 simp only [A96, go_sem, seval]
 obtain ⟨o_1003, h_1001, h⟩ := bindS h
 refine ALp.ref (Ref.trans (Ref.thaw (by simp) 11 rfl (sz := 4) (by decide) 61) (Ref.std [0, 1, 3, 9, 11, 18, 19, 20] [0, 1, 2, 3, 4, 5, 6, 7] (by decide) (by decide) rfl (by first | rfl | simp only [go_sem, seval]))) (by simp) (context_reader_list_L3_w N _ _ _ _ _ _ _ _ _ _ c_1 c_0 c_2 c_3 c_4 c_5 c_6 N _ _ o_1003 h_1001 ?_)
 rcases o_1003 with y_1002 | _
 ·
  try dsimp only at h
  refine LoopK_go rfl (by simp) ?_
  simp only [go_sem, seval]
  have g_0 := Option.some.inj h
  subst g_0
  rw [← hQ]
  exact ⟨rfl, _, rfl, _, _, (RefV.trans (RefV.frz (by simp) (id := 6) rfl (pures_map y_1002 eTCtx (fun _ => rfl))) (RefV.std [0, 1, 2, 3, 4, 5] (by decide) (by decide) (by first | rfl | simp only [go_sem, seval]) (by first | rfl | simp only [go_sem, seval]))), rfl, rfl⟩
 ·
  try dsimp only at h
  intro _ _ h_1004
  refine LoopK_pan ?_
  have g_0 := Option.some.inj h
  subst g_0
  rw [← hQ]
  exact ⟨h_1004, _, _, RefV.dead rfl, rfl, rfl⟩
theorem context_reader_classed_w (N : Nat) (l_0 : List Int) (a_1 : Int) (a_2 : Int) (b_3 : Bool) (c_0 : Bool) (o : ((List TCtx) × Int) ⊕ Unit) (h : context_reader_classed N l_0 a_1 a_2 b_3 = some o) :
  ACalls Try.prog 84 [.ptr 0 0 0, .int .i64 a_2, .bool b_3] [.box [.vec c_0 (List.map eU8 l_0), .int .i64 a_1] 123] (fun e H => match o with | .inl (z_1, z_2) => H = [.box [.vec c_0 (List.map eU8 l_0), .int .i64 z_2] 123] ∧ e = .ret (.vec false (List.map eTCtx z_1)) | .inr _ => H = [.dead] ∧ e = .pan (.iface 119 (.agg []))) := by
 unfold context_reader_classed at h
 refine ACalls.goN Try.func84 n84 a84 Try.ntmps84 r84 (by simp) 1 rfl ?_
 generalize hQ : bodyA _ _ _ = QQ
 obtain ⟨o_3, h_2, h⟩ := bindS h
 simp only [A84, go_sem, seval]
 rcases o_3 with y_1 | _
 ·
  try dsimp only at h
  refine ACalls.useA (context_reader_row_w N _ _ _ c_0 _ h_2) [0] (v' := .vec false (List.map eI64 y_1)) (H' := [.box [.vec c_0 (List.map eU8 l_0), .int .i64 (IntKind.i64.wrap (a_1 + (IntKind.i64.wrap 2)))] 123]) ?_
  refine CallK_go (by simp) ?_
  obtain ⟨o_7, h_6, h⟩ := bindS h
  simp only [go_sem, seval]
  rcases o_7 with y_5 | _
  ·
   try dsimp only at h
   refine ACalls.useA (context_reader_covers_w N _ _ _ _ c_0 false _ h_6) [0] (v' := .vec false (List.map eTSet y_5)) (H' := [.box [.vec c_0 (List.map eU8 l_0), .int .i64 (IntKind.i64.wrap (a_1 + (IntKind.i64.wrap 2)))] 123]) ?_
   refine CallK_go (by simp) ?_
   obtain ⟨x_9, h_10, h⟩ := bindS h
   have e_11 : (List.map eTSet y_5)[0]? = some [.vec false (List.map eTSpan x_9.Spans), .bool x_9.Not] := atI_map eTSet h_10
   have e_12 := eq_true (atI_lt h_10)
   simp only [e_11, e_12, go_sem, seval]
   by_cases h_13 : b_3 = true
   ·
    rw [if_pos h_13] at h
    have e_14 : b_3 = true := h_13
    obtain ⟨o_17, h_16, h⟩ := bindS h
    simp only [e_11, e_12, e_14, go_sem, seval]
    rcases o_17 with y_15 | _
    ·
     try dsimp only at h
     refine ACalls.useA (context_reader_number_w N _ _ c_0 _ h_16) [0] (v' := .int .i64 y_15) (H' := [.box [.vec c_0 (List.map eU8 l_0), .int .i64 (IntKind.i64.wrap ((IntKind.i64.wrap (a_1 + (IntKind.i64.wrap 2))) + 2))] 123, .box [.vec false (List.map eTSpan x_9.Spans)] 24]) (hH := by simp only [go_sem, seval, e_14]) (ho := ⟨(by first | rfl | simp only [go_sem, seval, e_14]), trivial⟩) ?_
     refine CallK_go (by simp) ?_
     obtain ⟨o_21, h_20, h⟩ := bindS h
     simp only [e_11, e_12, e_14, go_sem, seval]
     rcases o_21 with y_19 | _
     ·
      try dsimp only at h
      refine ACalls.useA (context_reader_classes_w N _ _ _ _ c_0 _ h_20) [0] (v' := .vec false (List.map eTClass y_19)) (H' := [.box [.vec c_0 (List.map eU8 l_0), .int .i64 (IntKind.i64.wrap ((IntKind.i64.wrap (a_1 + (IntKind.i64.wrap 2))) + 2))] 123, .box [.vec false (List.map eTSpan x_9.Spans)] 24]) (hH := by simp only [go_sem, seval, e_14]) (ho := ⟨(by first | rfl | simp only [go_sem, seval, e_14]), trivial⟩) ?_
      refine CallK_go (by simp) ?_
      obtain ⟨o_25, h_24, h⟩ := bindS h
      simp only [e_11, e_12, e_14, go_sem, seval]
      rcases o_25 with y_23 | _
      ·
       try dsimp only at h
       refine ACalls.useA (context_reader_number_w N _ _ c_0 _ h_24) [0] (v' := .int .i64 y_23) (H' := [.box [.vec c_0 (List.map eU8 l_0), .int .i64 (IntKind.i64.wrap ((IntKind.i64.wrap ((IntKind.i64.wrap (a_1 + (IntKind.i64.wrap 2))) + 2)) + 2))] 123, .box [.vec false (List.map eTSpan x_9.Spans)] 24]) (hH := by simp only [go_sem, seval, e_14]) (ho := ⟨(by first | rfl | simp only [go_sem, seval, e_14]), trivial⟩) ?_
       refine CallK_go (by simp) ?_
       obtain ⟨o_29, h_28, h⟩ := bindS h
       simp only [e_11, e_12, e_14, go_sem, seval]
       rcases o_29 with y_27 | _
       ·
        try dsimp only at h
        refine ACalls.useA (context_reader_classes_w N _ _ _ _ c_0 _ h_28) [0] (v' := .vec false (List.map eTClass y_27)) (H' := [.box [.vec c_0 (List.map eU8 l_0), .int .i64 (IntKind.i64.wrap ((IntKind.i64.wrap ((IntKind.i64.wrap (a_1 + (IntKind.i64.wrap 2))) + 2)) + 2))] 123, .box [.vec false (List.map eTSpan x_9.Spans)] 24]) (hH := by simp only [go_sem, seval, e_14]) (ho := ⟨(by first | rfl | simp only [go_sem, seval, e_14]), trivial⟩) ?_
        refine CallK_go (by simp) ?_
        obtain ⟨o_33, h_32, h⟩ := bindS h
        simp only [e_11, e_12, e_14, go_sem, seval]
        rcases o_33 with y_31 | _
        ·
         try dsimp only at h
         refine ACalls.useA (context_reader_number_w N _ _ c_0 _ h_32) [0] (v' := .int .i64 y_31) (H' := [.box [.vec c_0 (List.map eU8 l_0), .int .i64 (IntKind.i64.wrap ((IntKind.i64.wrap ((IntKind.i64.wrap ((IntKind.i64.wrap (a_1 + (IntKind.i64.wrap 2))) + 2)) + 2)) + 2))] 123, .box [.vec false (List.map eTSpan x_9.Spans)] 24, .box [.vec false (List.map eTClass y_27)] 27]) (hH := by simp only [go_sem, seval, e_14]) (ho := ⟨(by first | rfl | simp only [go_sem, seval, e_14]), trivial⟩) ?_
         refine CallK_go (by simp) ?_
         obtain ⟨o_37, h_36, h⟩ := bindS h
         simp only [e_11, e_12, e_14, go_sem, seval]
         rcases o_37 with y_35 | _
         ·
          try dsimp only at h
          refine ACalls.useA (context_reader_classes_w N _ _ _ _ c_0 _ h_36) [0] (v' := .vec false (List.map eTClass y_35)) (H' := [.box [.vec c_0 (List.map eU8 l_0), .int .i64 (IntKind.i64.wrap ((IntKind.i64.wrap ((IntKind.i64.wrap ((IntKind.i64.wrap (a_1 + (IntKind.i64.wrap 2))) + 2)) + 2)) + 2))] 123, .box [.vec false (List.map eTSpan x_9.Spans)] 24, .box [.vec false (List.map eTClass y_27)] 27]) (hH := by simp only [go_sem, seval, e_14]) (ho := ⟨(by first | rfl | simp only [go_sem, seval, e_14]), trivial⟩) ?_
          refine CallK_go (by simp) ?_
          obtain ⟨o_41, h_40, h⟩ := bindS h
          simp only [e_11, e_12, e_14, go_sem, seval]
          rcases o_41 with y_39 | _
          ·
           try dsimp only at h
           refine ACalls.useA (context_reader_number_w N _ _ c_0 _ h_40) [0] (v' := .int .i64 y_39) (H' := [.box [.vec c_0 (List.map eU8 l_0), .int .i64 (IntKind.i64.wrap ((IntKind.i64.wrap ((IntKind.i64.wrap ((IntKind.i64.wrap ((IntKind.i64.wrap (a_1 + (IntKind.i64.wrap 2))) + 2)) + 2)) + 2)) + 2))] 123, .box [.vec false (List.map eTSpan x_9.Spans)] 24, .box [.vec false (List.map eTClass y_27)] 27]) (hH := by simp only [go_sem, seval, e_14]) (ho := ⟨(by first | rfl | simp only [go_sem, seval, e_14]), trivial⟩) ?_
           obtain ⟨o_45, h_44, h⟩ := bindS h
           simp only [e_11, e_12, e_14, go_sem, seval]
           rcases o_45 with y_43 | _
           ·
            try dsimp only at h
            refine ACalls.useA (context_reader_row_w N _ _ _ c_0 _ h_44) [0] (v' := .vec false (List.map eI64 y_43)) (H' := [.box [.vec c_0 (List.map eU8 l_0), .int .i64 (IntKind.i64.wrap ((IntKind.i64.wrap ((IntKind.i64.wrap ((IntKind.i64.wrap ((IntKind.i64.wrap ((IntKind.i64.wrap (a_1 + (IntKind.i64.wrap 2))) + 2)) + 2)) + 2)) + 2)) + (IntKind.i64.wrap (y_39 * 2))))] 123, .box [.vec false (List.map eTSpan x_9.Spans)] 24, .box [.vec false (List.map eTClass y_27)] 27]) (hH := by simp only [go_sem, seval, e_14]) (ho := ⟨(by first | rfl | simp only [go_sem, seval, e_14]), trivial⟩) ?_
            obtain ⟨_, h_47, h⟩ := bindS h
            simp only [e_11, e_12, e_14, go_sem, seval]
            refine ACalls.useA (context_reader_classed_1_w N _ false h_47) [] (v' := .fn (.func 101) [] [.ptr 3 0 0]) (H' := [.box [.vec c_0 (List.map eU8 l_0), .int .i64 (IntKind.i64.wrap ((IntKind.i64.wrap ((IntKind.i64.wrap ((IntKind.i64.wrap ((IntKind.i64.wrap ((IntKind.i64.wrap (a_1 + (IntKind.i64.wrap 2))) + 2)) + 2)) + 2)) + 2)) + (IntKind.i64.wrap (y_39 * 2))))] 123, .box [.vec false (List.map eTSpan x_9.Spans)] 24, .box [.vec false (List.map eTClass y_27)] 27, .box [.vec false (List.map eTClass y_19)] 27]) (hH := by simp only [go_sem, seval, e_14]) ?_
            obtain ⟨_, h_48, h⟩ := bindS h
            simp only [e_11, e_12, e_14, go_sem, seval]
            refine ACalls.useA (context_reader_classed_1_w N _ false h_48) [] (v' := .fn (.func 101) [] [.ptr 4 0 0]) (H' := [.box [.vec c_0 (List.map eU8 l_0), .int .i64 (IntKind.i64.wrap ((IntKind.i64.wrap ((IntKind.i64.wrap ((IntKind.i64.wrap ((IntKind.i64.wrap ((IntKind.i64.wrap (a_1 + (IntKind.i64.wrap 2))) + 2)) + 2)) + 2)) + 2)) + (IntKind.i64.wrap (y_39 * 2))))] 123, .box [.vec false (List.map eTSpan x_9.Spans)] 24, .box [.vec false (List.map eTClass y_27)] 27, .box [.vec false (List.map eTClass y_19)] 27, .box [.vec false (List.map eTClass y_27)] 27]) (hH := by simp only [go_sem, seval, e_14]) ?_
            obtain ⟨_, h_49, h⟩ := bindS h
            simp only [e_11, e_12, e_14, go_sem, seval]
            refine ACalls.useA (context_reader_classed_1_w N _ false h_49) [] (v' := .fn (.func 101) [] [.ptr 5 0 0]) (H' := [.box [.vec c_0 (List.map eU8 l_0), .int .i64 (IntKind.i64.wrap ((IntKind.i64.wrap ((IntKind.i64.wrap ((IntKind.i64.wrap ((IntKind.i64.wrap ((IntKind.i64.wrap (a_1 + (IntKind.i64.wrap 2))) + 2)) + 2)) + 2)) + 2)) + (IntKind.i64.wrap (y_39 * 2))))] 123, .box [.vec false (List.map eTSpan x_9.Spans)] 24, .box [.vec false (List.map eTClass y_27)] 27, .box [.vec false (List.map eTClass y_19)] 27, .box [.vec false (List.map eTClass y_27)] 27, .box [.vec false (List.map eTClass y_35)] 27]) (hH := by simp only [go_sem, seval, e_14]) ?_
            obtain ⟨o_52, h_51, h⟩ := bindS h
            simp only [e_11, e_12, e_14, go_sem, seval]
            rcases o_52 with y_50 | _
            ·
             try dsimp only at h
             refine ACalls.useA (context_reader_list_w N _ _ _ _ _ _ _ _ _ _ c_0 false false false false false false _ h_51) [0, 1, 2, 3, 4, 5] (v' := .vec false (List.map eTCtx y_50)) (H' := [.box [.vec c_0 (List.map eU8 l_0), .int .i64 (IntKind.i64.wrap ((IntKind.i64.wrap ((IntKind.i64.wrap ((IntKind.i64.wrap ((IntKind.i64.wrap ((IntKind.i64.wrap (a_1 + (IntKind.i64.wrap 2))) + 2)) + 2)) + 2)) + 2)) + (IntKind.i64.wrap (y_39 * 2))))] 123, .box [.vec false (List.map eTSpan x_9.Spans)] 24, .box [.vec false (List.map eTClass y_27)] 27, .box [.vec false (List.map eTClass y_19)] 27, .box [.vec false (List.map eTClass y_27)] 27, .box [.vec false (List.map eTClass y_35)] 27]) (hH := by simp only [go_sem, seval, e_14]) (ho := ⟨(by first | rfl | simp only [go_sem, seval, e_14]), (by first | rfl | simp only [go_sem, seval, e_14]), (by first | rfl | simp only [go_sem, seval, e_14]), (by first | rfl | simp only [go_sem, seval, e_14]), (by first | rfl | simp only [go_sem, seval, e_14]), (by first | rfl | simp only [go_sem, seval, e_14]), trivial⟩) ?_
             simp only [e_11, e_12, e_14, go_sem, seval]
             have g_0 := Option.some.inj h
             subst g_0
             rw [← hQ]
             exact ⟨rfl, _, rfl, _, _, (RefV.std [0] (by decide) (by decide) rfl (by first | rfl | simp only [go_sem, seval, e_14])), rfl, rfl⟩
            ·
             try dsimp only at h
             refine ACalls.panA (context_reader_list_w N _ _ _ _ _ _ _ _ _ _ c_0 false false false false false false _ h_51) [0, 1, 2, 3, 4, 5] (v' := .iface 119 (.agg [])) (H' := [.dead, .dead, .dead, .dead, .dead, .dead]) (hH := by simp only [go_sem, seval, e_14]) (ho := ⟨(by first | rfl | simp only [go_sem, seval, e_14]), (by first | rfl | simp only [go_sem, seval, e_14]), (by first | rfl | simp only [go_sem, seval, e_14]), (by first | rfl | simp only [go_sem, seval, e_14]), (by first | rfl | simp only [go_sem, seval, e_14]), (by first | rfl | simp only [go_sem, seval, e_14]), trivial⟩) ?_
             try simp only [CallK_pan, dCallK_pan, panK_ap]
             have g_0 := Option.some.inj h
             subst g_0
             rw [← hQ]
             exact ⟨rfl, _, _, RefV.dead rfl, rfl, rfl⟩
           ·
            try dsimp only at h
            refine ACalls.panA (context_reader_row_w N _ _ _ c_0 _ h_44) [0] (v' := .iface 119 (.agg [])) (H' := [.dead, .box [.vec false (List.map eTSpan x_9.Spans)] 24, .box [.vec false (List.map eTClass y_27)] 27]) (hH := by simp only [go_sem, seval, e_14]) (ho := ⟨(by first | rfl | simp only [go_sem, seval, e_14]), trivial⟩) ?_
            try simp only [CallK_pan, dCallK_pan, panK_ap]
            have g_0 := Option.some.inj h
            subst g_0
            rw [← hQ]
            exact ⟨rfl, _, _, RefV.dead rfl, rfl, rfl⟩
          ·
           try dsimp only at h
           refine ACalls.panA (context_reader_number_w N _ _ c_0 _ h_40) [0] (v' := .iface 119 (.agg [])) (H' := [.dead, .box [.vec false (List.map eTSpan x_9.Spans)] 24, .box [.vec false (List.map eTClass y_27)] 27]) (hH := by simp only [go_sem, seval, e_14]) (ho := ⟨(by first | rfl | simp only [go_sem, seval, e_14]), trivial⟩) ?_
           try simp only [CallK_pan, dCallK_pan, panK_ap]
           have g_0 := Option.some.inj h
           subst g_0
           rw [← hQ]
           exact ⟨rfl, _, _, RefV.dead rfl, rfl, rfl⟩
         ·
          try dsimp only at h
          refine ACalls.panA (context_reader_classes_w N _ _ _ _ c_0 _ h_36) [0] (v' := .iface 119 (.agg [])) (H' := [.dead, .box [.vec false (List.map eTSpan x_9.Spans)] 24, .box [.vec false (List.map eTClass y_27)] 27]) (hH := by simp only [go_sem, seval, e_14]) (ho := ⟨(by first | rfl | simp only [go_sem, seval, e_14]), trivial⟩) ?_
          try simp only [CallK_pan, dCallK_pan, panK_ap]
          have g_0 := Option.some.inj h
          subst g_0
          rw [← hQ]
          exact ⟨rfl, _, _, RefV.dead rfl, rfl, rfl⟩
        ·
         try dsimp only at h
         refine ACalls.panA (context_reader_number_w N _ _ c_0 _ h_32) [0] (v' := .iface 119 (.agg [])) (H' := [.dead, .box [.vec false (List.map eTSpan x_9.Spans)] 24, .box [.vec false (List.map eTClass y_27)] 27]) (hH := by simp only [go_sem, seval, e_14]) (ho := ⟨(by first | rfl | simp only [go_sem, seval, e_14]), trivial⟩) ?_
         try simp only [CallK_pan, dCallK_pan, panK_ap]
         have g_0 := Option.some.inj h
         subst g_0
         rw [← hQ]
         exact ⟨rfl, _, _, RefV.dead rfl, rfl, rfl⟩
       ·
        try dsimp only at h
        refine ACalls.panA (context_reader_classes_w N _ _ _ _ c_0 _ h_28) [0] (v' := .iface 119 (.agg [])) (H' := [.dead, .box [.vec false (List.map eTSpan x_9.Spans)] 24]) (hH := by simp only [go_sem, seval, e_14]) (ho := ⟨(by first | rfl | simp only [go_sem, seval, e_14]), trivial⟩) ?_
        try simp only [CallK_pan, dCallK_pan, panK_ap]
        have g_0 := Option.some.inj h
        subst g_0
        rw [← hQ]
        exact ⟨rfl, _, _, RefV.dead rfl, rfl, rfl⟩
      ·
       try dsimp only at h
       refine ACalls.panA (context_reader_number_w N _ _ c_0 _ h_24) [0] (v' := .iface 119 (.agg [])) (H' := [.dead, .box [.vec false (List.map eTSpan x_9.Spans)] 24]) (hH := by simp only [go_sem, seval, e_14]) (ho := ⟨(by first | rfl | simp only [go_sem, seval, e_14]), trivial⟩) ?_
       try simp only [CallK_pan, dCallK_pan, panK_ap]
       have g_0 := Option.some.inj h
       subst g_0
       rw [← hQ]
       exact ⟨rfl, _, _, RefV.dead rfl, rfl, rfl⟩
     ·
      try dsimp only at h
      refine ACalls.panA (context_reader_classes_w N _ _ _ _ c_0 _ h_20) [0] (v' := .iface 119 (.agg [])) (H' := [.dead, .box [.vec false (List.map eTSpan x_9.Spans)] 24]) (hH := by simp only [go_sem, seval, e_14]) (ho := ⟨(by first | rfl | simp only [go_sem, seval, e_14]), trivial⟩) ?_
      try simp only [CallK_pan, dCallK_pan, panK_ap]
      have g_0 := Option.some.inj h
      subst g_0
      rw [← hQ]
      exact ⟨rfl, _, _, RefV.dead rfl, rfl, rfl⟩
    ·
     try dsimp only at h
     refine ACalls.panA (context_reader_number_w N _ _ c_0 _ h_16) [0] (v' := .iface 119 (.agg [])) (H' := [.dead, .box [.vec false (List.map eTSpan x_9.Spans)] 24]) (hH := by simp only [go_sem, seval, e_14]) (ho := ⟨(by first | rfl | simp only [go_sem, seval, e_14]), trivial⟩) ?_
     try simp only [CallK_pan, dCallK_pan, panK_ap]
     have g_0 := Option.some.inj h
     subst g_0
     rw [← hQ]
     exact ⟨rfl, _, _, RefV.dead rfl, rfl, rfl⟩
   ·
    rw [if_neg h_13] at h
    have e_14 : b_3 = false := bfalse h_13
    obtain ⟨o_56, h_55, h⟩ := bindS h
    simp only [e_11, e_12, e_14, go_sem, seval]
    rcases o_56 with y_54 | _
    ·
     try dsimp only at h
     refine ACalls.useA (context_reader_number_w N _ _ c_0 _ h_55) [0] (v' := .int .i64 y_54) (H' := [.box [.vec c_0 (List.map eU8 l_0), .int .i64 (IntKind.i64.wrap ((IntKind.i64.wrap (a_1 + (IntKind.i64.wrap 2))) + 2))] 123, .box [.vec false (List.map eTSpan x_9.Spans)] 24]) (hH := by simp only [go_sem, seval, e_14]) (ho := ⟨(by first | rfl | simp only [go_sem, seval, e_14]), trivial⟩) ?_
     refine CallK_go (by simp) ?_
     obtain ⟨o_60, h_59, h⟩ := bindS h
     simp only [e_11, e_12, e_14, go_sem, seval]
     rcases o_60 with y_58 | _
     ·
      try dsimp only at h
      refine ACalls.useA (context_reader_classes_w N _ _ _ _ c_0 _ h_59) [0] (v' := .vec false (List.map eTClass y_58)) (H' := [.box [.vec c_0 (List.map eU8 l_0), .int .i64 (IntKind.i64.wrap ((IntKind.i64.wrap (a_1 + (IntKind.i64.wrap 2))) + 2))] 123, .box [.vec false (List.map eTSpan x_9.Spans)] 24]) (hH := by simp only [go_sem, seval, e_14]) (ho := ⟨(by first | rfl | simp only [go_sem, seval, e_14]), trivial⟩) ?_
      refine CallK_go (by simp) ?_
      obtain ⟨o_64, h_63, h⟩ := bindS h
      simp only [e_11, e_12, e_14, go_sem, seval]
      rcases o_64 with y_62 | _
      ·
       try dsimp only at h
       refine ACalls.useA (context_reader_number_w N _ _ c_0 _ h_63) [0] (v' := .int .i64 y_62) (H' := [.box [.vec c_0 (List.map eU8 l_0), .int .i64 (IntKind.i64.wrap ((IntKind.i64.wrap ((IntKind.i64.wrap (a_1 + (IntKind.i64.wrap 2))) + 2)) + 2))] 123, .box [.vec false (List.map eTSpan x_9.Spans)] 24, .box [.vec false (List.map eTClass y_58)] 27]) (hH := by simp only [go_sem, seval, e_14]) (ho := ⟨(by first | rfl | simp only [go_sem, seval, e_14]), trivial⟩) ?_
       obtain ⟨o_68, h_67, h⟩ := bindS h
       simp only [e_11, e_12, e_14, go_sem, seval]
       rcases o_68 with y_66 | _
       ·
        try dsimp only at h
        refine ACalls.useA (context_reader_row_w N _ _ _ c_0 _ h_67) [0] (v' := .vec false (List.map eI64 y_66)) (H' := [.box [.vec c_0 (List.map eU8 l_0), .int .i64 (IntKind.i64.wrap ((IntKind.i64.wrap ((IntKind.i64.wrap ((IntKind.i64.wrap (a_1 + (IntKind.i64.wrap 2))) + 2)) + 2)) + (IntKind.i64.wrap (y_62 * 2))))] 123, .box [.vec false (List.map eTSpan x_9.Spans)] 24, .box [.vec false (List.map eTClass y_58)] 27]) (hH := by simp only [go_sem, seval, e_14]) (ho := ⟨(by first | rfl | simp only [go_sem, seval, e_14]), trivial⟩) ?_
        obtain ⟨_, h_70, h⟩ := bindS h
        simp only [e_11, e_12, e_14, go_sem, seval]
        refine ACalls.useA (context_reader_classed_1_w N _ true h_70) [] (v' := .fn (.func 101) [] [.ptr 3 0 0]) (H' := [.box [.vec c_0 (List.map eU8 l_0), .int .i64 (IntKind.i64.wrap ((IntKind.i64.wrap ((IntKind.i64.wrap ((IntKind.i64.wrap (a_1 + (IntKind.i64.wrap 2))) + 2)) + 2)) + (IntKind.i64.wrap (y_62 * 2))))] 123, .box [.vec false (List.map eTSpan x_9.Spans)] 24, .box [.vec false (List.map eTClass y_58)] 27, .box [.vec true (List.map eTClass ([]))] 27]) (hH := by simp only [go_sem, seval, e_14]) ?_
        obtain ⟨_, h_71, h⟩ := bindS h
        simp only [e_11, e_12, e_14, go_sem, seval]
        refine ACalls.useA (context_reader_classed_1_w N _ false h_71) [] (v' := .fn (.func 101) [] [.ptr 4 0 0]) (H' := [.box [.vec c_0 (List.map eU8 l_0), .int .i64 (IntKind.i64.wrap ((IntKind.i64.wrap ((IntKind.i64.wrap ((IntKind.i64.wrap (a_1 + (IntKind.i64.wrap 2))) + 2)) + 2)) + (IntKind.i64.wrap (y_62 * 2))))] 123, .box [.vec false (List.map eTSpan x_9.Spans)] 24, .box [.vec false (List.map eTClass y_58)] 27, .box [.vec true (List.map eTClass ([]))] 27, .box [.vec false (List.map eTClass y_58)] 27]) (hH := by simp only [go_sem, seval, e_14]) ?_
        obtain ⟨_, h_72, h⟩ := bindS h
        simp only [e_11, e_12, e_14, go_sem, seval]
        refine ACalls.useA (context_reader_classed_1_w N _ true h_72) [] (v' := .fn (.func 101) [] [.ptr 5 0 0]) (H' := [.box [.vec c_0 (List.map eU8 l_0), .int .i64 (IntKind.i64.wrap ((IntKind.i64.wrap ((IntKind.i64.wrap ((IntKind.i64.wrap (a_1 + (IntKind.i64.wrap 2))) + 2)) + 2)) + (IntKind.i64.wrap (y_62 * 2))))] 123, .box [.vec false (List.map eTSpan x_9.Spans)] 24, .box [.vec false (List.map eTClass y_58)] 27, .box [.vec true (List.map eTClass ([]))] 27, .box [.vec false (List.map eTClass y_58)] 27, .box [.vec true (List.map eTClass ([]))] 27]) (hH := by simp only [go_sem, seval, e_14]) ?_
        obtain ⟨o_75, h_74, h⟩ := bindS h
        simp only [e_11, e_12, e_14, go_sem, seval]
        rcases o_75 with y_73 | _
        ·
         try dsimp only at h
         refine ACalls.useA (context_reader_list_w N _ _ _ _ _ _ _ _ _ _ c_0 false false false true false true _ h_74) [0, 1, 2, 3, 4, 5] (v' := .vec false (List.map eTCtx y_73)) (H' := [.box [.vec c_0 (List.map eU8 l_0), .int .i64 (IntKind.i64.wrap ((IntKind.i64.wrap ((IntKind.i64.wrap ((IntKind.i64.wrap (a_1 + (IntKind.i64.wrap 2))) + 2)) + 2)) + (IntKind.i64.wrap (y_62 * 2))))] 123, .box [.vec false (List.map eTSpan x_9.Spans)] 24, .box [.vec false (List.map eTClass y_58)] 27, .box [.vec true (List.map eTClass ([]))] 27, .box [.vec false (List.map eTClass y_58)] 27, .box [.vec true (List.map eTClass ([]))] 27]) (hH := by simp only [go_sem, seval, e_14]) (ho := ⟨(by first | rfl | simp only [go_sem, seval, e_14]), (by first | rfl | simp only [go_sem, seval, e_14]), (by first | rfl | simp only [go_sem, seval, e_14]), (by first | rfl | simp only [go_sem, seval, e_14]), (by first | rfl | simp only [go_sem, seval, e_14]), (by first | rfl | simp only [go_sem, seval, e_14]), trivial⟩) ?_
         simp only [e_11, e_12, e_14, go_sem, seval]
         have g_0 := Option.some.inj h
         subst g_0
         rw [← hQ]
         exact ⟨rfl, _, rfl, _, _, (RefV.std [0] (by decide) (by decide) rfl (by first | rfl | simp only [go_sem, seval, e_14])), rfl, rfl⟩
        ·
         try dsimp only at h
         refine ACalls.panA (context_reader_list_w N _ _ _ _ _ _ _ _ _ _ c_0 false false false true false true _ h_74) [0, 1, 2, 3, 4, 5] (v' := .iface 119 (.agg [])) (H' := [.dead, .dead, .dead, .dead, .dead, .dead]) (hH := by simp only [go_sem, seval, e_14]) (ho := ⟨(by first | rfl | simp only [go_sem, seval, e_14]), (by first | rfl | simp only [go_sem, seval, e_14]), (by first | rfl | simp only [go_sem, seval, e_14]), (by first | rfl | simp only [go_sem, seval, e_14]), (by first | rfl | simp only [go_sem, seval, e_14]), (by first | rfl | simp only [go_sem, seval, e_14]), trivial⟩) ?_
         try simp only [CallK_pan, dCallK_pan, panK_ap]
         have g_0 := Option.some.inj h
         subst g_0
         rw [← hQ]
         exact ⟨rfl, _, _, RefV.dead rfl, rfl, rfl⟩
       ·
        try dsimp only at h
        refine ACalls.panA (context_reader_row_w N _ _ _ c_0 _ h_67) [0] (v' := .iface 119 (.agg [])) (H' := [.dead, .box [.vec false (List.map eTSpan x_9.Spans)] 24, .box [.vec false (List.map eTClass y_58)] 27]) (hH := by simp only [go_sem, seval, e_14]) (ho := ⟨(by first | rfl | simp only [go_sem, seval, e_14]), trivial⟩) ?_
        try simp only [CallK_pan, dCallK_pan, panK_ap]
        have g_0 := Option.some.inj h
        subst g_0
        rw [← hQ]
        exact ⟨rfl, _, _, RefV.dead rfl, rfl, rfl⟩
      ·
       try dsimp only at h
       refine ACalls.panA (context_reader_number_w N _ _ c_0 _ h_63) [0] (v' := .iface 119 (.agg [])) (H' := [.dead, .box [.vec false (List.map eTSpan x_9.Spans)] 24, .box [.vec false (List.map eTClass y_58)] 27]) (hH := by simp only [go_sem, seval, e_14]) (ho := ⟨(by first | rfl | simp only [go_sem, seval, e_14]), trivial⟩) ?_
       try simp only [CallK_pan, dCallK_pan, panK_ap]
       have g_0 := Option.some.inj h
       subst g_0
       rw [← hQ]
       exact ⟨rfl, _, _, RefV.dead rfl, rfl, rfl⟩
     ·
      try dsimp only at h
      refine ACalls.panA (context_reader_classes_w N _ _ _ _ c_0 _ h_59) [0] (v' := .iface 119 (.agg [])) (H' := [.dead, .box [.vec false (List.map eTSpan x_9.Spans)] 24]) (hH := by simp only [go_sem, seval, e_14]) (ho := ⟨(by first | rfl | simp only [go_sem, seval, e_14]), trivial⟩) ?_
      try simp only [CallK_pan, dCallK_pan, panK_ap]
      have g_0 := Option.some.inj h
      subst g_0
      rw [← hQ]
      exact ⟨rfl, _, _, RefV.dead rfl, rfl, rfl⟩
    ·
     try dsimp only at h
     refine ACalls.panA (context_reader_number_w N _ _ c_0 _ h_55) [0] (v' := .iface 119 (.agg [])) (H' := [.dead, .box [.vec false (List.map eTSpan x_9.Spans)] 24]) (hH := by simp only [go_sem, seval, e_14]) (ho := ⟨(by first | rfl | simp only [go_sem, seval, e_14]), trivial⟩) ?_
     try simp only [CallK_pan, dCallK_pan, panK_ap]
     have g_0 := Option.some.inj h
     subst g_0
     rw [← hQ]
     exact ⟨rfl, _, _, RefV.dead rfl, rfl, rfl⟩
  ·
   try dsimp only at h
   refine ACalls.panA (context_reader_covers_w N _ _ _ _ c_0 false _ h_6) [0] (v' := .iface 119 (.agg [])) (H' := [.dead]) ?_
   try simp only [CallK_pan, dCallK_pan, panK_ap]
   have g_0 := Option.some.inj h
   subst g_0
   rw [← hQ]
   exact ⟨rfl, _, _, RefV.dead rfl, rfl, rfl⟩
 ·
  try dsimp only at h
  refine ACalls.panA (context_reader_row_w N _ _ _ c_0 _ h_2) [0] (v' := .iface 119 (.agg [])) (H' := [.dead]) ?_
  try simp only [CallK_pan, dCallK_pan, panK_ap]
  have g_0 := Option.some.inj h
  subst g_0
  rw [← hQ]
  exact ⟨rfl, _, _, RefV.dead rfl, rfl, rfl⟩
theorem context_reader_covered_w (N : Nat) (l_0 : List Int) (a_1 : Int) (a_2 : Int) (b_3 : Bool) (c_0 : Bool) (o : ((List TCtx) × Int) ⊕ Unit) (h : context_reader_covered N l_0 a_1 a_2 b_3 = some o) :
  ACalls Try.prog 85 [.ptr 0 0 0, .int .i64 a_2, .bool b_3] [.box [.vec c_0 (List.map eU8 l_0), .int .i64 a_1] 123] (fun e H => match o with | .inl (z_1, z_2) => H = [.box [.vec c_0 (List.map eU8 l_0), .int .i64 z_2] 123] ∧ e = .ret (.vec false (List.map eTCtx z_1)) | .inr _ => H = [.dead] ∧ e = .pan (.iface 119 (.agg []))) := by
 unfold context_reader_covered at h
 refine ACalls.goN Try.func85 n85 a85 Try.ntmps85 r85 (by simp) 1 rfl ?_
 generalize hQ : bodyA _ _ _ = QQ
 simp only [A85, go_sem, seval]
 by_cases h_1 : b_3 = true
 ·
  rw [if_pos h_1] at h
  have e_2 : b_3 = true := h_1
  obtain ⟨o_5, h_4, h⟩ := bindS h
  simp only [e_2, go_sem, seval]
  rcases o_5 with y_3 | _
  ·
   try dsimp only at h
   refine ACalls.useA (context_reader_count_w N _ _ _ _ c_0 _ h_4) [0] (v' := .int .i64 y_3) (H' := [.box [.vec c_0 (List.map eU8 l_0), .int .i64 (IntKind.i64.wrap (a_1 + 2))] 123, .box [.vec true [], .vec true [], .vec true [], .vec true []] 61]) (hH := by simp only [go_sem, seval, e_2]) (ho := ⟨(by first | rfl | simp only [go_sem, seval, e_2]), trivial⟩) ?_
   refine CallK_go (by simp) ?_
   obtain ⟨o_9, h_8, h⟩ := bindS h
   simp only [e_2, go_sem, seval]
   rcases o_9 with y_7 | _
   ·
    try dsimp only at h
    refine ACalls.useA (context_reader_row_w N _ _ _ c_0 _ h_8) [0] (v' := .vec false (List.map eI64 y_7)) (H' := [.box [.vec c_0 (List.map eU8 l_0), .int .i64 (IntKind.i64.wrap ((IntKind.i64.wrap (a_1 + 2)) + (IntKind.i64.wrap (y_3 * 2))))] 123, .box [.vec true [], .vec true [], .vec true [], .vec true []] 61]) (hH := by simp only [go_sem, seval, e_2]) (ho := ⟨(by first | rfl | simp only [go_sem, seval, e_2]), trivial⟩) ?_
    refine CallK_go (by simp) ?_
    obtain ⟨o_13, h_12, h⟩ := bindS h
    simp only [e_2, go_sem, seval]
    rcases o_13 with y_11 | _
    ·
     try dsimp only at h
     refine ACalls.useA (context_reader_covers_w N _ _ _ _ c_0 false _ h_12) [0] (v' := .vec false (List.map eTSet y_11)) (H' := [.box [.vec c_0 (List.map eU8 l_0), .int .i64 (IntKind.i64.wrap ((IntKind.i64.wrap (a_1 + 2)) + (IntKind.i64.wrap (y_3 * 2))))] 123, .box [.vec true [], .vec true [], .vec true [], .vec true []] 61]) (hH := by simp only [go_sem, seval, e_2]) (ho := ⟨(by first | rfl | simp only [go_sem, seval, e_2]), trivial⟩) ?_
     refine CallK_go (by simp) ?_
     obtain ⟨o_17, h_16, h⟩ := bindS h
     simp only [e_2, go_sem, seval]
     rcases o_17 with y_15 | _
     ·
      try dsimp only at h
      refine ACalls.useA (context_reader_count_w N _ _ _ _ c_0 _ h_16) [0] (v' := .int .i64 y_15) (H' := [.box [.vec c_0 (List.map eU8 l_0), .int .i64 (IntKind.i64.wrap ((IntKind.i64.wrap ((IntKind.i64.wrap (a_1 + 2)) + (IntKind.i64.wrap (y_3 * 2)))) + 2))] 123, .box [.vec false (List.map eTSet y_11), .vec true [], .vec true [], .vec true []] 61]) (hH := by simp only [go_sem, seval, e_2]) (ho := ⟨(by first | rfl | simp only [go_sem, seval, e_2]), trivial⟩) ?_
      refine CallK_go (by simp) ?_
      obtain ⟨o_21, h_20, h⟩ := bindS h
      simp only [e_2, go_sem, seval]
      rcases o_21 with y_19 | _
      ·
       try dsimp only at h
       refine ACalls.useA (context_reader_row_w N _ _ _ c_0 _ h_20) [0] (v' := .vec false (List.map eI64 y_19)) (H' := [.box [.vec c_0 (List.map eU8 l_0), .int .i64 (IntKind.i64.wrap ((IntKind.i64.wrap ((IntKind.i64.wrap ((IntKind.i64.wrap (a_1 + 2)) + (IntKind.i64.wrap (y_3 * 2)))) + 2)) + (IntKind.i64.wrap (y_15 * 2))))] 123, .box [.vec false (List.map eTSet y_11), .vec true [], .vec true [], .vec true []] 61]) (hH := by simp only [go_sem, seval, e_2]) (ho := ⟨(by first | rfl | simp only [go_sem, seval, e_2]), trivial⟩) ?_
       refine CallK_go (by simp) ?_
       obtain ⟨o_25, h_24, h⟩ := bindS h
       simp only [e_2, go_sem, seval]
       rcases o_25 with y_23 | _
       ·
        try dsimp only at h
        refine ACalls.useA (context_reader_covers_w N _ _ _ _ c_0 false _ h_24) [0] (v' := .vec false (List.map eTSet y_23)) (H' := [.box [.vec c_0 (List.map eU8 l_0), .int .i64 (IntKind.i64.wrap ((IntKind.i64.wrap ((IntKind.i64.wrap ((IntKind.i64.wrap (a_1 + 2)) + (IntKind.i64.wrap (y_3 * 2)))) + 2)) + (IntKind.i64.wrap (y_15 * 2))))] 123, .box [.vec false (List.map eTSet y_11), .vec true [], .vec true [], .vec true []] 61]) (hH := by simp only [go_sem, seval, e_2]) (ho := ⟨(by first | rfl | simp only [go_sem, seval, e_2]), trivial⟩) ?_
        refine CallK_go (by simp) ?_
        obtain ⟨o_29, h_28, h⟩ := bindS h
        simp only [e_2, go_sem, seval]
        rcases o_29 with y_27 | _
        ·
         try dsimp only at h
         refine ACalls.useA (context_reader_count_w N _ _ _ _ c_0 _ h_28) [0] (v' := .int .i64 y_27) (H' := [.box [.vec c_0 (List.map eU8 l_0), .int .i64 (IntKind.i64.wrap ((IntKind.i64.wrap ((IntKind.i64.wrap ((IntKind.i64.wrap ((IntKind.i64.wrap (a_1 + 2)) + (IntKind.i64.wrap (y_3 * 2)))) + 2)) + (IntKind.i64.wrap (y_15 * 2)))) + 2))] 123, .box [.vec false (List.map eTSet y_11), .vec false (List.map eTSet y_23), .vec true [], .vec true []] 61]) (hH := by simp only [go_sem, seval, e_2]) (ho := ⟨(by first | rfl | simp only [go_sem, seval, e_2]), trivial⟩) ?_
         refine CallK_go (by simp) ?_
         obtain ⟨o_33, h_32, h⟩ := bindS h
         simp only [e_2, go_sem, seval]
         rcases o_33 with y_31 | _
         ·
          try dsimp only at h
          refine ACalls.useA (context_reader_row_w N _ _ _ c_0 _ h_32) [0] (v' := .vec false (List.map eI64 y_31)) (H' := [.box [.vec c_0 (List.map eU8 l_0), .int .i64 (IntKind.i64.wrap ((IntKind.i64.wrap ((IntKind.i64.wrap ((IntKind.i64.wrap ((IntKind.i64.wrap ((IntKind.i64.wrap (a_1 + 2)) + (IntKind.i64.wrap (y_3 * 2)))) + 2)) + (IntKind.i64.wrap (y_15 * 2)))) + 2)) + (IntKind.i64.wrap (y_27 * 2))))] 123, .box [.vec false (List.map eTSet y_11), .vec false (List.map eTSet y_23), .vec true [], .vec true []] 61]) (hH := by simp only [go_sem, seval, e_2]) (ho := ⟨(by first | rfl | simp only [go_sem, seval, e_2]), trivial⟩) ?_
          refine CallK_go (by simp) ?_
          obtain ⟨o_37, h_36, h⟩ := bindS h
          simp only [e_2, go_sem, seval]
          rcases o_37 with y_35 | _
          ·
           try dsimp only at h
           refine ACalls.useA (context_reader_covers_w N _ _ _ _ c_0 false _ h_36) [0] (v' := .vec false (List.map eTSet y_35)) (H' := [.box [.vec c_0 (List.map eU8 l_0), .int .i64 (IntKind.i64.wrap ((IntKind.i64.wrap ((IntKind.i64.wrap ((IntKind.i64.wrap ((IntKind.i64.wrap ((IntKind.i64.wrap (a_1 + 2)) + (IntKind.i64.wrap (y_3 * 2)))) + 2)) + (IntKind.i64.wrap (y_15 * 2)))) + 2)) + (IntKind.i64.wrap (y_27 * 2))))] 123, .box [.vec false (List.map eTSet y_11), .vec false (List.map eTSet y_23), .vec true [], .vec true []] 61]) (hH := by simp only [go_sem, seval, e_2]) (ho := ⟨(by first | rfl | simp only [go_sem, seval, e_2]), trivial⟩) ?_
           refine CallK_go (by simp) ?_
           obtain ⟨o_41, h_40, h⟩ := bindS h
           simp only [e_2, go_sem, seval]
           rcases o_41 with y_39 | _
           ·
            try dsimp only at h
            refine ACalls.useA (context_reader_count_w N _ _ _ _ c_0 _ h_40) [0] (v' := .int .i64 y_39) (H' := [.box [.vec c_0 (List.map eU8 l_0), .int .i64 (IntKind.i64.wrap ((IntKind.i64.wrap ((IntKind.i64.wrap ((IntKind.i64.wrap ((IntKind.i64.wrap ((IntKind.i64.wrap ((IntKind.i64.wrap (a_1 + 2)) + (IntKind.i64.wrap (y_3 * 2)))) + 2)) + (IntKind.i64.wrap (y_15 * 2)))) + 2)) + (IntKind.i64.wrap (y_27 * 2)))) + 2))] 123, .box [.vec false (List.map eTSet y_11), .vec false (List.map eTSet y_23), .vec false (List.map eTSet y_35), .vec true []] 61]) (hH := by simp only [go_sem, seval, e_2]) (ho := ⟨(by first | rfl | simp only [go_sem, seval, e_2]), trivial⟩) ?_
            obtain ⟨o_46, h_45, h⟩ := bindS h
            simp only [e_2, go_sem, seval]
            rcases o_46 with ⟨y_43, y_44⟩ | _
            ·
             try dsimp only at h
             refine ACalls.useA (context_reader_acts_w N _ _ _ _ c_0 _ h_45) [0] (v' := .vec false (List.map eTAct y_43)) (H' := [.box [.vec c_0 (List.map eU8 l_0), .int .i64 y_44] 123, .box [.vec false (List.map eTSet y_11), .vec false (List.map eTSet y_23), .vec false (List.map eTSet y_35), .vec true []] 61]) (hH := by simp only [go_sem, seval, e_2]) (ho := ⟨(by first | rfl | simp only [go_sem, seval, e_2]), trivial⟩) ?_
             simp only [e_2, go_sem, seval]
             have g_0 := Option.some.inj h
             subst g_0
             rw [← hQ]
             exact ⟨rfl, _, rfl, _, _, (RefV.trans (RefV.std (v' := .vec true [[.vec false (List.map eTSet y_11), .vec false (List.map eTSet y_23), .vec false (List.map eTSet y_35), .vec false (List.map eTAct y_43)]]) [0] (by decide) (by decide) rfl (by first | rfl | simp only [go_sem, seval, e_2])) (RefV.weak (Wks.cons Wk.vec Wks.nil) (WkH.refl _))), rfl, rfl⟩
            ·
             try dsimp only at h
             refine ACalls.panA (context_reader_acts_w N _ _ _ _ c_0 _ h_45) [0] (v' := .iface 119 (.agg [])) (H' := [.dead, .box [.vec false (List.map eTSet y_11), .vec false (List.map eTSet y_23), .vec false (List.map eTSet y_35), .vec true []] 61]) (hH := by simp only [go_sem, seval, e_2]) (ho := ⟨(by first | rfl | simp only [go_sem, seval, e_2]), trivial⟩) ?_
             try simp only [CallK_pan, dCallK_pan, panK_ap]
             have g_0 := Option.some.inj h
             subst g_0
             rw [← hQ]
             exact ⟨rfl, _, _, RefV.dead rfl, rfl, rfl⟩
           ·
            try dsimp only at h
            refine ACalls.panA (context_reader_count_w N _ _ _ _ c_0 _ h_40) [0] (v' := .iface 119 (.agg [])) (H' := [.dead, .box [.vec false (List.map eTSet y_11), .vec false (List.map eTSet y_23), .vec false (List.map eTSet y_35), .vec true []] 61]) (hH := by simp only [go_sem, seval, e_2]) (ho := ⟨(by first | rfl | simp only [go_sem, seval, e_2]), trivial⟩) ?_
            try simp only [CallK_pan, dCallK_pan, panK_ap]
            have g_0 := Option.some.inj h
            subst g_0
            rw [← hQ]
            exact ⟨rfl, _, _, RefV.dead rfl, rfl, rfl⟩
          ·
           try dsimp only at h
           refine ACalls.panA (context_reader_covers_w N _ _ _ _ c_0 false _ h_36) [0] (v' := .iface 119 (.agg [])) (H' := [.dead, .box [.vec false (List.map eTSet y_11), .vec false (List.map eTSet y_23), .vec true [], .vec true []] 61]) (hH := by simp only [go_sem, seval, e_2]) (ho := ⟨(by first | rfl | simp only [go_sem, seval, e_2]), trivial⟩) ?_
           try simp only [CallK_pan, dCallK_pan, panK_ap]
           have g_0 := Option.some.inj h
           subst g_0
           rw [← hQ]
           exact ⟨rfl, _, _, RefV.dead rfl, rfl, rfl⟩
         ·
          try dsimp only at h
          refine ACalls.panA (context_reader_row_w N _ _ _ c_0 _ h_32) [0] (v' := .iface 119 (.agg [])) (H' := [.dead, .box [.vec false (List.map eTSet y_11), .vec false (List.map eTSet y_23), .vec true [], .vec true []] 61]) (hH := by simp only [go_sem, seval, e_2]) (ho := ⟨(by first | rfl | simp only [go_sem, seval, e_2]), trivial⟩) ?_
          try simp only [CallK_pan, dCallK_pan, panK_ap]
          have g_0 := Option.some.inj h
          subst g_0
          rw [← hQ]
          exact ⟨rfl, _, _, RefV.dead rfl, rfl, rfl⟩
        ·
         try dsimp only at h
         refine ACalls.panA (context_reader_count_w N _ _ _ _ c_0 _ h_28) [0] (v' := .iface 119 (.agg [])) (H' := [.dead, .box [.vec false (List.map eTSet y_11), .vec false (List.map eTSet y_23), .vec true [], .vec true []] 61]) (hH := by simp only [go_sem, seval, e_2]) (ho := ⟨(by first | rfl | simp only [go_sem, seval, e_2]), trivial⟩) ?_
         try simp only [CallK_pan, dCallK_pan, panK_ap]
         have g_0 := Option.some.inj h
         subst g_0
         rw [← hQ]
         exact ⟨rfl, _, _, RefV.dead rfl, rfl, rfl⟩
       ·
        try dsimp only at h
        refine ACalls.panA (context_reader_covers_w N _ _ _ _ c_0 false _ h_24) [0] (v' := .iface 119 (.agg [])) (H' := [.dead, .box [.vec false (List.map eTSet y_11), .vec true [], .vec true [], .vec true []] 61]) (hH := by simp only [go_sem, seval, e_2]) (ho := ⟨(by first | rfl | simp only [go_sem, seval, e_2]), trivial⟩) ?_
        try simp only [CallK_pan, dCallK_pan, panK_ap]
        have g_0 := Option.some.inj h
        subst g_0
        rw [← hQ]
        exact ⟨rfl, _, _, RefV.dead rfl, rfl, rfl⟩
      ·
       try dsimp only at h
       refine ACalls.panA (context_reader_row_w N _ _ _ c_0 _ h_20) [0] (v' := .iface 119 (.agg [])) (H' := [.dead, .box [.vec false (List.map eTSet y_11), .vec true [], .vec true [], .vec true []] 61]) (hH := by simp only [go_sem, seval, e_2]) (ho := ⟨(by first | rfl | simp only [go_sem, seval, e_2]), trivial⟩) ?_
       try simp only [CallK_pan, dCallK_pan, panK_ap]
       have g_0 := Option.some.inj h
       subst g_0
       rw [← hQ]
       exact ⟨rfl, _, _, RefV.dead rfl, rfl, rfl⟩
     ·
      try dsimp only at h
      refine ACalls.panA (context_reader_count_w N _ _ _ _ c_0 _ h_16) [0] (v' := .iface 119 (.agg [])) (H' := [.dead, .box [.vec false (List.map eTSet y_11), .vec true [], .vec true [], .vec true []] 61]) (hH := by simp only [go_sem, seval, e_2]) (ho := ⟨(by first | rfl | simp only [go_sem, seval, e_2]), trivial⟩) ?_
      try simp only [CallK_pan, dCallK_pan, panK_ap]
      have g_0 := Option.some.inj h
      subst g_0
      rw [← hQ]
      exact ⟨rfl, _, _, RefV.dead rfl, rfl, rfl⟩
    ·
     try dsimp only at h
     refine ACalls.panA (context_reader_covers_w N _ _ _ _ c_0 false _ h_12) [0] (v' := .iface 119 (.agg [])) (H' := [.dead, .box [.vec true [], .vec true [], .vec true [], .vec true []] 61]) (hH := by simp only [go_sem, seval, e_2]) (ho := ⟨(by first | rfl | simp only [go_sem, seval, e_2]), trivial⟩) ?_
     try simp only [CallK_pan, dCallK_pan, panK_ap]
     have g_0 := Option.some.inj h
     subst g_0
     rw [← hQ]
     exact ⟨rfl, _, _, RefV.dead rfl, rfl, rfl⟩
   ·
    try dsimp only at h
    refine ACalls.panA (context_reader_row_w N _ _ _ c_0 _ h_8) [0] (v' := .iface 119 (.agg [])) (H' := [.dead, .box [.vec true [], .vec true [], .vec true [], .vec true []] 61]) (hH := by simp only [go_sem, seval, e_2]) (ho := ⟨(by first | rfl | simp only [go_sem, seval, e_2]), trivial⟩) ?_
    try simp only [CallK_pan, dCallK_pan, panK_ap]
    have g_0 := Option.some.inj h
    subst g_0
    rw [← hQ]
    exact ⟨rfl, _, _, RefV.dead rfl, rfl, rfl⟩
  ·
   try dsimp only at h
   refine ACalls.panA (context_reader_count_w N _ _ _ _ c_0 _ h_4) [0] (v' := .iface 119 (.agg [])) (H' := [.dead, .box [.vec true [], .vec true [], .vec true [], .vec true []] 61]) (hH := by simp only [go_sem, seval, e_2]) (ho := ⟨(by first | rfl | simp only [go_sem, seval, e_2]), trivial⟩) ?_
   try simp only [CallK_pan, dCallK_pan, panK_ap]
   have g_0 := Option.some.inj h
   subst g_0
   rw [← hQ]
   exact ⟨rfl, _, _, RefV.dead rfl, rfl, rfl⟩
 ·
  rw [if_neg h_1] at h
  have e_2 : b_3 = false := bfalse h_1
  obtain ⟨o_50, h_49, h⟩ := bindS h
  simp only [e_2, go_sem, seval]
  rcases o_50 with y_48 | _
  ·
   try dsimp only at h
   refine ACalls.useA (context_reader_count_w N _ _ _ _ c_0 _ h_49) [0] (v' := .int .i64 y_48) (H' := [.box [.vec c_0 (List.map eU8 l_0), .int .i64 (IntKind.i64.wrap (a_1 + 2))] 123, .box [.vec true [], .vec true [], .vec true [], .vec true []] 61]) (hH := by simp only [go_sem, seval, e_2]) (ho := ⟨(by first | rfl | simp only [go_sem, seval, e_2]), trivial⟩) ?_
   refine CallK_go (by simp) ?_
   obtain ⟨o_54, h_53, h⟩ := bindS h
   simp only [e_2, go_sem, seval]
   rcases o_54 with y_52 | _
   ·
    try dsimp only at h
    refine ACalls.useA (context_reader_count_w N _ _ _ _ c_0 _ h_53) [0] (v' := .int .i64 y_52) (H' := [.box [.vec c_0 (List.map eU8 l_0), .int .i64 (IntKind.i64.wrap ((IntKind.i64.wrap (a_1 + 2)) + 2))] 123, .box [.vec true [], .vec true [], .vec true [], .vec true []] 61]) (hH := by simp only [go_sem, seval, e_2]) (ho := ⟨(by first | rfl | simp only [go_sem, seval, e_2]), trivial⟩) ?_
    refine CallK_go (by simp) ?_
    obtain ⟨o_58, h_57, h⟩ := bindS h
    simp only [e_2, go_sem, seval]
    rcases o_58 with y_56 | _
    ·
     try dsimp only at h
     refine ACalls.useA (context_reader_row_w N _ _ _ c_0 _ h_57) [0] (v' := .vec false (List.map eI64 y_56)) (H' := [.box [.vec c_0 (List.map eU8 l_0), .int .i64 (IntKind.i64.wrap ((IntKind.i64.wrap ((IntKind.i64.wrap (a_1 + 2)) + 2)) + (IntKind.i64.wrap (y_48 * 2))))] 123, .box [.vec true [], .vec true [], .vec true [], .vec true []] 61]) (hH := by simp only [go_sem, seval, e_2]) (ho := ⟨(by first | rfl | simp only [go_sem, seval, e_2]), trivial⟩) ?_
     refine CallK_go (by simp) ?_
     obtain ⟨o_62, h_61, h⟩ := bindS h
     simp only [e_2, go_sem, seval]
     rcases o_62 with y_60 | _
     ·
      try dsimp only at h
      refine ACalls.useA (context_reader_covers_w N _ _ _ _ c_0 false _ h_61) [0] (v' := .vec false (List.map eTSet y_60)) (H' := [.box [.vec c_0 (List.map eU8 l_0), .int .i64 (IntKind.i64.wrap ((IntKind.i64.wrap ((IntKind.i64.wrap (a_1 + 2)) + 2)) + (IntKind.i64.wrap (y_48 * 2))))] 123, .box [.vec true [], .vec true [], .vec true [], .vec true []] 61]) (hH := by simp only [go_sem, seval, e_2]) (ho := ⟨(by first | rfl | simp only [go_sem, seval, e_2]), trivial⟩) ?_
      refine CallK_go (by simp) ?_
      obtain ⟨o_67, h_66, h⟩ := bindS h
      simp only [e_2, go_sem, seval]
      rcases o_67 with ⟨y_64, y_65⟩ | _
      ·
       try dsimp only at h
       refine ACalls.useA (context_reader_acts_w N _ _ _ _ c_0 _ h_66) [0] (v' := .vec false (List.map eTAct y_64)) (H' := [.box [.vec c_0 (List.map eU8 l_0), .int .i64 y_65] 123, .box [.vec true [], .vec false (List.map eTSet y_60), .vec true [], .vec true []] 61]) (hH := by simp only [go_sem, seval, e_2]) (ho := ⟨(by first | rfl | simp only [go_sem, seval, e_2]), trivial⟩) ?_
       refine CallK_go (by simp) ?_
       simp only [e_2, go_sem, seval]
       have g_0 := Option.some.inj h
       subst g_0
       rw [← hQ]
       exact ⟨rfl, _, rfl, _, _, (RefV.trans (RefV.std (v' := .vec true [[.vec true [], .vec false (List.map eTSet y_60), .vec true [], .vec false (List.map eTAct y_64)]]) [0] (by decide) (by decide) rfl (by first | rfl | simp only [go_sem, seval, e_2])) (RefV.weak (Wks.cons (Wk.vecs (Wkss.cons (Wks.cons Wk.vec (Wks.cons (Wk.refl _) (Wks.cons Wk.vec (Wks.cons (Wk.refl _) (Wks.nil))))) (Wkss.nil))) Wks.nil) (WkH.refl _))), rfl, rfl⟩
      ·
       try dsimp only at h
       refine ACalls.panA (context_reader_acts_w N _ _ _ _ c_0 _ h_66) [0] (v' := .iface 119 (.agg [])) (H' := [.dead, .box [.vec true [], .vec false (List.map eTSet y_60), .vec true [], .vec true []] 61]) (hH := by simp only [go_sem, seval, e_2]) (ho := ⟨(by first | rfl | simp only [go_sem, seval, e_2]), trivial⟩) ?_
       try simp only [CallK_pan, dCallK_pan, panK_ap]
       have g_0 := Option.some.inj h
       subst g_0
       rw [← hQ]
       exact ⟨rfl, _, _, RefV.dead rfl, rfl, rfl⟩
     ·
      try dsimp only at h
      refine ACalls.panA (context_reader_covers_w N _ _ _ _ c_0 false _ h_61) [0] (v' := .iface 119 (.agg [])) (H' := [.dead, .box [.vec true [], .vec true [], .vec true [], .vec true []] 61]) (hH := by simp only [go_sem, seval, e_2]) (ho := ⟨(by first | rfl | simp only [go_sem, seval, e_2]), trivial⟩) ?_
      try simp only [CallK_pan, dCallK_pan, panK_ap]
      have g_0 := Option.some.inj h
      subst g_0
      rw [← hQ]
      exact ⟨rfl, _, _, RefV.dead rfl, rfl, rfl⟩
    ·
     try dsimp only at h
     refine ACalls.panA (context_reader_row_w N _ _ _ c_0 _ h_57) [0] (v' := .iface 119 (.agg [])) (H' := [.dead, .box [.vec true [], .vec true [], .vec true [], .vec true []] 61]) (hH := by simp only [go_sem, seval, e_2]) (ho := ⟨(by first | rfl | simp only [go_sem, seval, e_2]), trivial⟩) ?_
     try simp only [CallK_pan, dCallK_pan, panK_ap]
     have g_0 := Option.some.inj h
     subst g_0
     rw [← hQ]
     exact ⟨rfl, _, _, RefV.dead rfl, rfl, rfl⟩
   ·
    try dsimp only at h
    refine ACalls.panA (context_reader_count_w N _ _ _ _ c_0 _ h_53) [0] (v' := .iface 119 (.agg [])) (H' := [.dead, .box [.vec true [], .vec true [], .vec true [], .vec true []] 61]) (hH := by simp only [go_sem, seval, e_2]) (ho := ⟨(by first | rfl | simp only [go_sem, seval, e_2]), trivial⟩) ?_
    try simp only [CallK_pan, dCallK_pan, panK_ap]
    have g_0 := Option.some.inj h
    subst g_0
    rw [← hQ]
    exact ⟨rfl, _, _, RefV.dead rfl, rfl, rfl⟩
  ·
   try dsimp only at h
   refine ACalls.panA (context_reader_count_w N _ _ _ _ c_0 _ h_49) [0] (v' := .iface 119 (.agg [])) (H' := [.dead, .box [.vec true [], .vec true [], .vec true [], .vec true []] 61]) (hH := by simp only [go_sem, seval, e_2]) (ho := ⟨(by first | rfl | simp only [go_sem, seval, e_2]), trivial⟩) ?_
   try simp only [CallK_pan, dCallK_pan, panK_ap]
   have g_0 := Option.some.inj h
   subst g_0
   rw [← hQ]
   exact ⟨rfl, _, _, RefV.dead rfl, rfl, rfl⟩
theorem context_table_w (N : Nat) (l_0 : List Int) (a_1 : Int) (b_2 : Bool) (c_0 : Bool) (z_1 : List TCtx) (z_2 : Bool) (h : context_table N l_0 a_1 b_2 = some (z_1, z_2)) :
  ACalls Try.prog 63 [.vec c_0 (List.map eU8 l_0), .int .i64 a_1, .bool b_2] [] (fun e H => H = [] ∧ e = .ret (.tup [.vec false (List.map eTCtx z_1), .bool z_2])) := by
 unfold context_table at h
 refine ACalls.goRN Try.func63 n63 a63 Try.ntmps63 r63 (by simp) 0 rfl ?_
 generalize hQ : bodyR _ _ _ _ = QQ
 obtain ⟨o_3, h_2, h⟩ := bindS h
 simp only [A63, go_sem, seval]
 rcases o_3 with y_1 | _
 ·
  try dsimp only at h
  refine ACalls.useA (context_reader_number_w N _ _ c_0 _ h_2) [2] (v' := .int .i64 y_1) (H' := [.box [.vec true []] 53, .box [.bool false] 4, .box [.vec c_0 (List.map eU8 l_0), .int .i64 (IntKind.i64.wrap (a_1 + 2))] 123]) ?_
  refine ck0 ?_
  simp only [go_sem, seval]
  by_cases h_5 : y_1 = 1
  ·
   rw [if_pos h_5] at h
   have e_6 := eq_true h_5
   obtain ⟨o_10, h_9, h⟩ := bindS h
   simp only [e_6, go_sem, seval]
   rcases o_10 with ⟨y_7, y_8⟩ | _
   ·
    try dsimp only at h
    refine ACalls.useA (context_reader_single_w N _ _ _ _ c_0 _ h_9) [2] (v' := .vec false (List.map eTCtx y_7)) (H' := [.box [.vec true []] 53, .box [.bool false] 4, .box [.vec c_0 (List.map eU8 l_0), .int .i64 y_8] 123]) (hH := by simp only [go_sem, seval, e_6]) (ho := ⟨(by first | rfl | simp only [go_sem, seval, e_6]), trivial⟩) ?_
    refine ck0 ?_
    simp only [e_6, go_sem, seval]
    rw [← hQ]
    show clo _ _ _ _ _ _ _
    refine clo.of_M (g := 81) (by simp) rfl rc81 (by decide) ?_
    generalize hE : endR _ _ _ _ = EE
    simp only [A81r, A81, go_sem, seval]
    obtain ⟨k_1, g_1⟩ := Prod.mk.inj (Option.some.inj h)
    subst k_1
    subst g_1
    rw [← hE]
    exact ⟨rfl, _, rfl, _, _, (RefV.out rfl), rfl, rfl⟩
   ·
    try dsimp only at h
    refine ACalls.panA (context_reader_single_w N _ _ _ _ c_0 _ h_9) [2] (v' := .iface 119 (.agg [])) (H' := [.box [.vec true []] 53, .box [.bool false] 4, .dead]) (hH := by simp only [go_sem, seval, e_6]) (ho := ⟨(by first | rfl | simp only [go_sem, seval, e_6]), trivial⟩) ?_
    try simp only [CallK_pan, dCallK_pan, panK_ap]
    rw [← hQ]
    show clo _ _ _ _ _ _ _
    refine clo.of_M (g := 81) (by simp) rfl rc81 (by decide) ?_
    generalize hE : endR _ _ _ _ = EE
    simp only [A81r, A81, go_sem, seval]
    obtain ⟨k_1, g_1⟩ := Prod.mk.inj (Option.some.inj h)
    subst k_1
    subst g_1
    rw [← hE]
    exact ⟨rfl, _, rfl, _, _, outVB, rfl, rfl⟩
  ·
   rw [if_neg h_5] at h
   have e_6 := eq_false h_5
   simp only [e_6, go_sem, seval]
   by_cases h_12 : y_1 = 2
   ·
    rw [if_pos h_12] at h
    have e_13 := eq_true h_12
    obtain ⟨o_17, h_16, h⟩ := bindS h
    simp only [e_6, e_13, go_sem, seval]
    rcases o_17 with ⟨y_14, y_15⟩ | _
    ·
     try dsimp only at h
     refine ACalls.useA (context_reader_classed_w N _ _ _ _ c_0 _ h_16) [2] (v' := .vec false (List.map eTCtx y_14)) (H' := [.box [.vec true []] 53, .box [.bool false] 4, .box [.vec c_0 (List.map eU8 l_0), .int .i64 y_15] 123]) (hH := by simp only [go_sem, seval, e_6, e_13]) (ho := ⟨(by first | rfl | simp only [go_sem, seval, e_6, e_13]), trivial⟩) ?_
     refine ck0 ?_
     simp only [e_6, e_13, go_sem, seval]
     rw [← hQ]
     show clo _ _ _ _ _ _ _
     refine clo.of_M (g := 81) (by simp) rfl rc81 (by decide) ?_
     generalize hE : endR _ _ _ _ = EE
     simp only [A81r, A81, go_sem, seval]
     obtain ⟨k_1, g_1⟩ := Prod.mk.inj (Option.some.inj h)
     subst k_1
     subst g_1
     rw [← hE]
     exact ⟨rfl, _, rfl, _, _, (RefV.out rfl), rfl, rfl⟩
    ·
     try dsimp only at h
     refine ACalls.panA (context_reader_classed_w N _ _ _ _ c_0 _ h_16) [2] (v' := .iface 119 (.agg [])) (H' := [.box [.vec true []] 53, .box [.bool false] 4, .dead]) (hH := by simp only [go_sem, seval, e_6, e_13]) (ho := ⟨(by first | rfl | simp only [go_sem, seval, e_6, e_13]), trivial⟩) ?_
     try simp only [CallK_pan, dCallK_pan, panK_ap]
     rw [← hQ]
     show clo _ _ _ _ _ _ _
     refine clo.of_M (g := 81) (by simp) rfl rc81 (by decide) ?_
     generalize hE : endR _ _ _ _ = EE
     simp only [A81r, A81, go_sem, seval]
     obtain ⟨k_1, g_1⟩ := Prod.mk.inj (Option.some.inj h)
     subst k_1
     subst g_1
     rw [← hE]
     exact ⟨rfl, _, rfl, _, _, outVB, rfl, rfl⟩
   ·
    rw [if_neg h_12] at h
    have e_13 := eq_false h_12
    simp only [e_6, e_13, go_sem, seval]
    by_cases h_19 : y_1 = 3
    ·
     rw [if_pos h_19] at h
     have e_20 := eq_true h_19
     obtain ⟨o_24, h_23, h⟩ := bindS h
     simp only [e_6, e_13, e_20, go_sem, seval]
     rcases o_24 with ⟨y_21, y_22⟩ | _
     ·
      try dsimp only at h
      refine ACalls.useA (context_reader_covered_w N _ _ _ _ c_0 _ h_23) [2] (v' := .vec false (List.map eTCtx y_21)) (H' := [.box [.vec true []] 53, .box [.bool false] 4, .box [.vec c_0 (List.map eU8 l_0), .int .i64 y_22] 123]) (hH := by simp only [go_sem, seval, e_6, e_13, e_20]) (ho := ⟨(by first | rfl | simp only [go_sem, seval, e_6, e_13, e_20]), trivial⟩) ?_
      refine ck0 ?_
      simp only [e_6, e_13, e_20, go_sem, seval]
      rw [← hQ]
      show clo _ _ _ _ _ _ _
      refine clo.of_M (g := 81) (by simp) rfl rc81 (by decide) ?_
      generalize hE : endR _ _ _ _ = EE
      simp only [A81r, A81, go_sem, seval]
      obtain ⟨k_1, g_1⟩ := Prod.mk.inj (Option.some.inj h)
      subst k_1
      subst g_1
      rw [← hE]
      exact ⟨rfl, _, rfl, _, _, (RefV.out rfl), rfl, rfl⟩
     ·
      try dsimp only at h
      refine ACalls.panA (context_reader_covered_w N _ _ _ _ c_0 _ h_23) [2] (v' := .iface 119 (.agg [])) (H' := [.box [.vec true []] 53, .box [.bool false] 4, .dead]) (hH := by simp only [go_sem, seval, e_6, e_13, e_20]) (ho := ⟨(by first | rfl | simp only [go_sem, seval, e_6, e_13, e_20]), trivial⟩) ?_
      try simp only [CallK_pan, dCallK_pan, panK_ap]
      rw [← hQ]
      show clo _ _ _ _ _ _ _
      refine clo.of_M (g := 81) (by simp) rfl rc81 (by decide) ?_
      generalize hE : endR _ _ _ _ = EE
      simp only [A81r, A81, go_sem, seval]
      obtain ⟨k_1, g_1⟩ := Prod.mk.inj (Option.some.inj h)
      subst k_1
      subst g_1
      rw [← hE]
      exact ⟨rfl, _, rfl, _, _, outVB, rfl, rfl⟩
    ·
     rw [if_neg h_19] at h
     have e_20 := eq_false h_19
     simp only [e_6, e_13, e_20, go_sem, seval]
     rw [← hQ]
     show clo _ _ _ _ _ _ _
     refine clo.of_M (g := 81) (by simp) rfl rc81 (by decide) ?_
     generalize hE : endR _ _ _ _ = EE
     simp only [A81r, A81, go_sem, seval]
     obtain ⟨k_1, g_1⟩ := Prod.mk.inj (Option.some.inj h)
     subst k_1
     subst g_1
     rw [← hE]
     exact ⟨rfl, _, rfl, _, _, outVB, rfl, rfl⟩
 ·
  try dsimp only at h
  refine ACalls.panA (context_reader_number_w N _ _ c_0 _ h_2) [2] (v' := .iface 119 (.agg [])) (H' := [.box [.vec true []] 53, .box [.bool false] 4, .dead]) ?_
  try simp only [CallK_pan, dCallK_pan, panK_ap]
  rw [← hQ]
  show clo _ _ _ _ _ _ _
  refine clo.of_M (g := 81) (by simp) rfl rc81 (by decide) ?_
  generalize hE : endR _ _ _ _ = EE
  simp only [A81r, A81, go_sem, seval]
  obtain ⟨k_1, g_1⟩ := Prod.mk.inj (Option.some.inj h)
  subst k_1
  subst g_1
  rw [← hE]
  exact ⟨rfl, _, rfl, _, _, outVB, rfl, rfl⟩
theorem context_Context_w (N : Nat) (l_0 : List Int) (a_1 : Int) (c_0 : Bool) (z_1 : List TCtx) (z_2 : Bool) (h : context_Context N l_0 a_1 = some (z_1, z_2)) :
  ACalls Try.prog 37 [.vec c_0 (List.map eU8 l_0), .int .i64 a_1] [] (fun e H => H = [] ∧ e = .ret (.tup [.vec false (List.map eTCtx z_1), .bool z_2])) := by
 unfold context_Context at h
 refine ACalls.goN Try.func37 n37 a37 Try.ntmps37 r37 (by simp) 0 rfl ?_
 generalize hQ : bodyA _ _ _ = QQ
 obtain ⟨⟨y_1, y_2⟩, h_3, h⟩ := bindS h
 try dsimp only at h
 simp only [A37, go_sem, seval]
 refine ACalls.use0 (context_table_w N _ _ _ c_0 _ _ h_3) rfl rfl ?_
 refine ck0 ?_
 simp only [go_sem, seval]
 obtain ⟨k_1, g_1⟩ := Prod.mk.inj (Option.some.inj h)
 subst k_1
 subst g_1
 rw [← hQ]
 exact ⟨rfl, _, rfl, _, _, (RefV.out rfl), rfl, rfl⟩
theorem context_Chain_w (N : Nat) (l_0 : List Int) (a_1 : Int) (c_0 : Bool) (z_1 : List TCtx) (z_2 : Bool) (h : context_Chain N l_0 a_1 = some (z_1, z_2)) :
  ACalls Try.prog 40 [.vec c_0 (List.map eU8 l_0), .int .i64 a_1] [] (fun e H => H = [] ∧ e = .ret (.tup [.vec false (List.map eTCtx z_1), .bool z_2])) := by
 unfold context_Chain at h
 refine ACalls.goN Try.func40 n40 a40 Try.ntmps40 r40 (by simp) 0 rfl ?_
 generalize hQ : bodyA _ _ _ = QQ
 obtain ⟨⟨y_1, y_2⟩, h_3, h⟩ := bindS h
 try dsimp only at h
 simp only [A40, go_sem, seval]
 refine ACalls.use0 (context_table_w N _ _ _ c_0 _ _ h_3) rfl rfl ?_
 refine ck0 ?_
 simp only [go_sem, seval]
 obtain ⟨k_1, g_1⟩ := Prod.mk.inj (Option.some.inj h)
 subst k_1
 subst g_1
 rw [← hQ]
 exact ⟨rfl, _, rfl, _, _, (RefV.out rfl), rfl, rfl⟩
theorem ref10_Same_L1_w (N : Nat) (l_0 : List TSpan) (l_1 : List TSpan) (c_0 : Bool) (c_1 : Bool) {R : AExit → ATm → List AObj → Prop} : ∀ (n : Nat) (i_3 : Int) (o : (Unit) ⊕ (Unit)), ref10_Same_L1 N l_0 l_1 n i_3 = some o → (match o with | .inl _ => R (.exit 0) ⟨26, [], []⟩ [] | .inr (_) => R .ret ⟨26, [(4, .bool false)], []⟩ []) →
  ALp Try.prog 0 B22_1 ⟨26, [(0, .vec c_0 (List.map eTSpan l_0)), (1, .vec c_1 (List.map eTSpan l_1)), (5, .int .i64 i_3)], []⟩ [] R := by
 intro n
 induction n with
 | zero =>
  intro i_3 o h _
  have h0 : none = some o := h
  cases h0
 | succ n ih =>
  intro i_3 o h hp
  rw [ref10_Same_L1] at h
  refine ALp.round ?_
  generalize hQ : RoundQ _ _ _ _ = QQ
  simp only [B22_1, A22, go_sem, seval]
  by_cases h_4 : i_3 < (l_0.length : Int)
  ·
   rw [if_pos h_4] at h
   have e_5 := eq_true h_4
   obtain ⟨x_6, h_7, h⟩ := bindS h
   have e_8 : (List.map eTSpan l_0)[(i_3).toNat]? = some [.int .i64 x_6.From, .int .i64 x_6.To] := atI_map eTSpan h_7
   have e_9 := eq_true (atI_some h_7).1
   have e_10 := eq_true (atI_lt h_7)
   obtain ⟨x_11, h_12, h⟩ := bindS h
   have e_13 : (List.map eTSpan l_1)[(i_3).toNat]? = some [.int .i64 x_11.From, .int .i64 x_11.To] := atI_map eTSpan h_12
   have e_14 := eq_true (atI_some h_12).1
   have e_15 := eq_true (atI_lt h_12)
   simp only [e_5, e_8, e_9, e_10, e_13, e_14, e_15, go_sem, seval]
   by_cases h_16 : x_6.From = x_11.From
   ·
    rw [if_pos h_16] at h
    have e_17 := eq_true h_16
    simp only [e_5, e_8, e_9, e_10, e_13, e_14, e_15, e_17, go_sem, seval]
    by_cases h_18 : x_6.To = x_11.To
    ·
     rw [if_pos h_18] at h
     have e_19 := eq_true h_18
     simp only [e_5, e_8, e_9, e_10, e_13, e_14, e_15, e_17, e_19, go_sem, seval]
     rw [← hQ]
     exact ⟨_, _, (Ref.out [0, 1, 5] rfl), (Nat.zero_le _), ih _ _ h hp⟩
    ·
     rw [if_neg h_18] at h
     have e_19 := eq_false h_18
     simp only [e_5, e_8, e_9, e_10, e_13, e_14, e_15, e_17, e_19, go_sem, seval]
     have g := Option.some.inj h
     subst g
     rw [← hQ]
     exact ⟨_, _, (Ref.out [4] rfl), hp⟩
   ·
    rw [if_neg h_16] at h
    have e_17 := eq_false h_16
    simp only [e_5, e_8, e_9, e_10, e_13, e_14, e_15, e_17, go_sem, seval]
    have g := Option.some.inj h
    subst g
    rw [← hQ]
    exact ⟨_, _, (Ref.out [4] rfl), hp⟩
  ·
   rw [if_neg h_4] at h
   have e_5 := eq_false h_4
   simp only [e_5, go_sem, seval]
   have g := Option.some.inj h
   subst g
   rw [← hQ]
   exact ⟨_, _, (Ref.out [] rfl), hp⟩
theorem ref10_Same_w (N : Nat) (l_0 : List TSpan) (l_1 : List TSpan) (c_0 : Bool) (c_1 : Bool) (z_1 : Bool) (h : ref10_Same N l_0 l_1 = some z_1) :
  ACalls Try.prog 22 [.vec c_0 (List.map eTSpan l_0), .vec c_1 (List.map eTSpan l_1)] [] (fun e H => H = [] ∧ e = .ret (.bool z_1)) := by
 unfold ref10_Same at h
 refine ACalls.goN Try.func22 n22 a22 Try.ntmps22 r22 (by simp) 0 rfl ?_
 generalize hQ : bodyA _ _ _ = QQ
 simp only [A22, go_sem, seval]
 by_cases h_1 : (l_0.length : Int) = (l_1.length : Int)
 ·
  rw [if_pos h_1] at h
  have e_2 := eq_true h_1
  simp only [e_2, go_sem, seval]
  obtain ⟨o_1004, h_1003, h⟩ := bindS h
  refine ALp.ref (Ref.out [0, 1, 5] rfl) (Nat.zero_le _) (ref10_Same_L1_w N _ _ c_0 c_1 N _ o_1004 h_1003 ?_)
  rcases o_1004 with _ | _
  ·
   try dsimp only at h
   refine LoopK_go rfl (Nat.zero_le _) ?_
   simp only [e_2, go_sem, seval]
   have g_0 := Option.some.inj h
   subst g_0
   rw [← hQ]
   exact ⟨rfl, _, rfl, _, _, (RefV.out rfl), rfl, rfl⟩
  ·
   try dsimp only at h
   refine LoopK_ret ?_
   have g_0 := Option.some.inj h
   subst g_0
   rw [← hQ]
   exact ⟨rfl, _, rfl, _, _, (RefV.out rfl), rfl, rfl⟩
 ·
  rw [if_neg h_1] at h
  have e_2 := eq_false h_1
  simp only [e_2, go_sem, seval]
  have g_0 := Option.some.inj h
  subst g_0
  rw [← hQ]
  exact ⟨rfl, _, rfl, _, _, (RefV.out rfl), rfl, rfl⟩
theorem ref11_SameSets_L1_w (N : Nat) (l_0 : List TSet) (l_1 : List TSet) (c_0 : Bool) (c_1 : Bool) {R : AExit → ATm → List AObj → Prop} : ∀ (n : Nat) (i_3 : Int) (o : (Unit) ⊕ (Unit)), ref11_SameSets_L1 N l_0 l_1 n i_3 = some o → (match o with | .inl _ => R (.exit 0) ⟨42, [], []⟩ [] | .inr (_) => R .ret ⟨42, [(4, .bool false)], []⟩ []) →
  ALp Try.prog 0 B69_1 ⟨42, [(0, .vec c_0 (List.map eTSet l_0)), (1, .vec c_1 (List.map eTSet l_1)), (5, .int .i64 i_3)], []⟩ [] R := by
 intro n
 induction n with
 | zero =>
  intro i_3 o h _
  have h0 : none = some o := h
  cases h0
 | succ n ih =>
  intro i_3 o h hp
  rw [ref11_SameSets_L1] at h
  refine ALp.round ?_
  generalize hQ : RoundQ _ _ _ _ = QQ
  simp only [B69_1, A69, go_sem, seval]
  by_cases h_4 : i_3 < (l_0.length : Int)
  ·
   rw [if_pos h_4] at h
   have e_5 := eq_true h_4
   obtain ⟨x_6, h_7, h⟩ := bindS h
   have e_8 : (List.map eTSet l_0)[(i_3).toNat]? = some [.vec false (List.map eTSpan x_6.Spans), .bool x_6.Not] := atI_map eTSet h_7
   have e_9 := eq_true (atI_some h_7).1
   have e_10 := eq_true (atI_lt h_7)
   obtain ⟨x_11, h_12, h⟩ := bindS h
   have e_13 : (List.map eTSet l_1)[(i_3).toNat]? = some [.vec false (List.map eTSpan x_11.Spans), .bool x_11.Not] := atI_map eTSet h_12
   have e_14 := eq_true (atI_some h_12).1
   have e_15 := eq_true (atI_lt h_12)
   simp only [e_5, e_8, e_9, e_10, e_13, e_14, e_15, go_sem, seval]
   by_cases h_16 : x_6.Not = true
   ·
    rw [if_pos h_16] at h
    have e_17 : x_6.Not = true := h_16
    simp only [e_5, e_8, e_9, e_10, e_13, e_14, e_15, e_17, go_sem, seval]
    by_cases h_18 : x_11.Not = true
    ·
     rw [if_pos h_18] at h
     have e_19 : x_11.Not = true := h_18
     obtain ⟨y_20, h_21, h⟩ := bindS h
     simp only [e_5, e_8, e_9, e_10, e_13, e_14, e_15, e_17, e_19, go_sem, seval]
     refine ACalls.use0 (ref10_Same_w N _ _ false false _ h_21) rfl rfl ?_
     simp only [e_5, e_8, e_9, e_10, e_13, e_14, e_15, e_17, e_19, go_sem, seval]
     by_cases h_22 : y_20 = true
     ·
      rw [if_pos h_22] at h
      have e_23 : y_20 = true := h_22
      simp only [e_5, e_8, e_9, e_10, e_13, e_14, e_15, e_17, e_19, e_23, go_sem, seval]
      rw [← hQ]
      exact ⟨_, _, (Ref.out [0, 1, 5] rfl), (Nat.zero_le _), ih _ _ h hp⟩
     ·
      rw [if_neg h_22] at h
      have e_23 : y_20 = false := bfalse h_22
      simp only [e_5, e_8, e_9, e_10, e_13, e_14, e_15, e_17, e_19, e_23, go_sem, seval]
      have g := Option.some.inj h
      subst g
      rw [← hQ]
      exact ⟨_, _, (Ref.out [4] rfl), hp⟩
    ·
     rw [if_neg h_18] at h
     have e_19 : x_11.Not = false := bfalse h_18
     simp only [e_5, e_8, e_9, e_10, e_13, e_14, e_15, e_17, e_19, go_sem, seval]
     have g := Option.some.inj h
     subst g
     rw [← hQ]
     exact ⟨_, _, (Ref.out [4] rfl), hp⟩
   ·
    rw [if_neg h_16] at h
    have e_17 : x_6.Not = false := bfalse h_16
    simp only [e_5, e_8, e_9, e_10, e_13, e_14, e_15, e_17, go_sem, seval]
    by_cases h_24 : x_11.Not = true
    ·
     rw [if_pos h_24] at h
     have e_25 : x_11.Not = true := h_24
     simp only [e_5, e_8, e_9, e_10, e_13, e_14, e_15, e_17, e_25, go_sem, seval]
     have g := Option.some.inj h
     subst g
     rw [← hQ]
     exact ⟨_, _, (Ref.out [4] rfl), hp⟩
    ·
     rw [if_neg h_24] at h
     have e_25 : x_11.Not = false := bfalse h_24
     obtain ⟨y_26, h_27, h⟩ := bindS h
     simp only [e_5, e_8, e_9, e_10, e_13, e_14, e_15, e_17, e_25, go_sem, seval]
     refine ACalls.use0 (ref10_Same_w N _ _ false false _ h_27) rfl rfl ?_
     simp only [e_5, e_8, e_9, e_10, e_13, e_14, e_15, e_17, e_25, go_sem, seval]
     by_cases h_28 : y_26 = true
     ·
      rw [if_pos h_28] at h
      have e_29 : y_26 = true := h_28
      simp only [e_5, e_8, e_9, e_10, e_13, e_14, e_15, e_17, e_25, e_29, go_sem, seval]
      rw [← hQ]
      exact ⟨_, _, (Ref.out [0, 1, 5] rfl), (Nat.zero_le _), ih _ _ h hp⟩
     ·
      rw [if_neg h_28] at h
      have e_29 : y_26 = false := bfalse h_28
      simp only [e_5, e_8, e_9, e_10, e_13, e_14, e_15, e_17, e_25, e_29, go_sem, seval]
      have g := Option.some.inj h
      subst g
      rw [← hQ]
      exact ⟨_, _, (Ref.out [4] rfl), hp⟩
  ·
   rw [if_neg h_4] at h
   have e_5 := eq_false h_4
   simp only [e_5, go_sem, seval]
   have g := Option.some.inj h
   subst g
   rw [← hQ]
   exact ⟨_, _, (Ref.out [] rfl), hp⟩
theorem ref11_SameSets_w (N : Nat) (l_0 : List TSet) (l_1 : List TSet) (c_0 : Bool) (c_1 : Bool) (z_1 : Bool) (h : ref11_SameSets N l_0 l_1 = some z_1) :
  ACalls Try.prog 69 [.vec c_0 (List.map eTSet l_0), .vec c_1 (List.map eTSet l_1)] [] (fun e H => H = [] ∧ e = .ret (.bool z_1)) := by
 unfold ref11_SameSets at h
 refine ACalls.goN Try.func69 n69 a69 Try.ntmps69 r69 (by simp) 0 rfl ?_
 generalize hQ : bodyA _ _ _ = QQ
 simp only [A69, go_sem, seval]
 by_cases h_1 : (l_0.length : Int) = (l_1.length : Int)
 ·
  rw [if_pos h_1] at h
  have e_2 := eq_true h_1
  simp only [e_2, go_sem, seval]
  obtain ⟨o_1004, h_1003, h⟩ := bindS h
  refine ALp.ref (Ref.out [0, 1, 5] rfl) (Nat.zero_le _) (ref11_SameSets_L1_w N _ _ c_0 c_1 N _ o_1004 h_1003 ?_)
  rcases o_1004 with _ | _
  ·
   try dsimp only at h
   refine LoopK_go rfl (Nat.zero_le _) ?_
   simp only [e_2, go_sem, seval]
   have g_0 := Option.some.inj h
   subst g_0
   rw [← hQ]
   exact ⟨rfl, _, rfl, _, _, (RefV.out rfl), rfl, rfl⟩
  ·
   try dsimp only at h
   refine LoopK_ret ?_
   have g_0 := Option.some.inj h
   subst g_0
   rw [← hQ]
   exact ⟨rfl, _, rfl, _, _, (RefV.out rfl), rfl, rfl⟩
 ·
  rw [if_neg h_1] at h
  have e_2 := eq_false h_1
  simp only [e_2, go_sem, seval]
  have g_0 := Option.some.inj h
  subst g_0
  rw [← hQ]
  exact ⟨rfl, _, rfl, _, _, (RefV.out rfl), rfl, rfl⟩
theorem ref11_Same_L2_w (N : Nat) (l_0 : List TCtx) (l_1 : List TCtx) (i_3 : Int) (c_0 : Bool) (c_1 : Bool) {R : AExit → ATm → List AObj → Prop} : ∀ (n : Nat) (i_30 : Int) (o : (Unit) ⊕ (Unit)), ref11_Same_L2 N l_0 l_1 i_3 n i_30 = some o → (match o with | .inl _ => R (.exit 2) ⟨100, [(0, .vec c_0 (List.map eTCtx l_0)), (1, .vec c_1 (List.map eTCtx l_1)), (5, .int .i64 i_3)], []⟩ [] | .inr (_) => R .ret ⟨100, [(4, .bool false)], []⟩ []) →
  ALp Try.prog 0 B39_2 ⟨100, [(0, .vec c_0 (List.map eTCtx l_0)), (1, .vec c_1 (List.map eTCtx l_1)), (5, .int .i64 i_3), (6, .int .i64 i_30)], []⟩ [] R := by
 intro n
 induction n with
 | zero =>
  intro i_30 o h _
  have h0 : none = some o := h
  cases h0
 | succ n ih =>
  intro i_30 o h hp
  rw [ref11_Same_L2] at h
  refine ALp.round ?_
  generalize hQ : RoundQ _ _ _ _ = QQ
  obtain ⟨x_31, h_32, h⟩ := bindS h
  have e_33 : (List.map eTCtx l_0)[(i_3).toNat]? = some [.vec false (List.map eTSet x_31.Back), .vec false (List.map eTSet x_31.In), .vec false (List.map eTSet x_31.Ahead), .vec false (List.map eTAct x_31.Acts)] := atI_map eTCtx h_32
  have e_34 := eq_true (atI_some h_32).1
  have e_35 := eq_true (atI_lt h_32)
  simp only [B39_2, B39_1, A39, e_33, e_34, e_35, go_sem, seval]
  by_cases h_36 : i_30 < (x_31.Acts.length : Int)
  ·
   rw [if_pos h_36] at h
   have e_37 := eq_true h_36
   obtain ⟨x_38, h_39, h⟩ := bindS h
   have e_40 : (List.map eTAct x_31.Acts)[(i_30).toNat]? = some [.int .i64 x_38.At, .int .i64 x_38.Lookup] := atI_map eTAct h_39
   have e_41 := eq_true (atI_some h_39).1
   have e_42 := eq_true (atI_lt h_39)
   obtain ⟨x_43, h_44, h⟩ := bindS h
   have e_45 : (List.map eTCtx l_1)[(i_3).toNat]? = some [.vec false (List.map eTSet x_43.Back), .vec false (List.map eTSet x_43.In), .vec false (List.map eTSet x_43.Ahead), .vec false (List.map eTAct x_43.Acts)] := atI_map eTCtx h_44
   have e_46 := eq_true (atI_some h_44).1
   have e_47 := eq_true (atI_lt h_44)
   obtain ⟨x_48, h_49, h⟩ := bindS h
   have e_50 : (List.map eTAct x_43.Acts)[(i_30).toNat]? = some [.int .i64 x_48.At, .int .i64 x_48.Lookup] := atI_map eTAct h_49
   have e_51 := eq_true (atI_some h_49).1
   have e_52 := eq_true (atI_lt h_49)
   simp only [e_33, e_34, e_35, e_37, e_40, e_41, e_42, e_45, e_46, e_47, e_50, e_51, e_52, go_sem, seval]
   by_cases h_53 : x_38.At = x_48.At
   ·
    rw [if_pos h_53] at h
    have e_54 := eq_true h_53
    simp only [e_33, e_34, e_35, e_37, e_40, e_41, e_42, e_45, e_46, e_47, e_50, e_51, e_52, e_54, go_sem, seval]
    by_cases h_55 : x_38.Lookup = x_48.Lookup
    ·
     rw [if_pos h_55] at h
     have e_56 := eq_true h_55
     simp only [e_33, e_34, e_35, e_37, e_40, e_41, e_42, e_45, e_46, e_47, e_50, e_51, e_52, e_54, e_56, go_sem, seval]
     rw [← hQ]
     exact ⟨_, _, (Ref.out [0, 1, 5, 6] rfl), (Nat.zero_le _), ih _ _ h hp⟩
    ·
     rw [if_neg h_55] at h
     have e_56 := eq_false h_55
     simp only [e_33, e_34, e_35, e_37, e_40, e_41, e_42, e_45, e_46, e_47, e_50, e_51, e_52, e_54, e_56, go_sem, seval]
     have g := Option.some.inj h
     subst g
     rw [← hQ]
     exact ⟨_, _, (Ref.out [4] rfl), hp⟩
   ·
    rw [if_neg h_53] at h
    have e_54 := eq_false h_53
    simp only [e_33, e_34, e_35, e_37, e_40, e_41, e_42, e_45, e_46, e_47, e_50, e_51, e_52, e_54, go_sem, seval]
    have g := Option.some.inj h
    subst g
    rw [← hQ]
    exact ⟨_, _, (Ref.out [4] rfl), hp⟩
  ·
   rw [if_neg h_36] at h
   have e_37 := eq_false h_36
   simp only [e_33, e_34, e_35, e_37, go_sem, seval]
   have g := Option.some.inj h
   subst g
   rw [← hQ]
   exact ⟨_, _, (Ref.out [0, 1, 5] rfl), hp⟩
theorem ref11_Same_L3_w (N : Nat) (l_0 : List TCtx) (l_1 : List TCtx) (c_0 : Bool) (c_1 : Bool) {R : AExit → ATm → List AObj → Prop} : ∀ (n : Nat) (i_3 : Int) (o : (Unit) ⊕ (Unit)), ref11_Same_L3 N l_0 l_1 n i_3 = some o → (match o with | .inl _ => R (.exit 0) ⟨100, [], []⟩ [] | .inr (_) => R .ret ⟨100, [(4, .bool false)], []⟩ []) →
  ALp Try.prog 0 B39_1 ⟨100, [(0, .vec c_0 (List.map eTCtx l_0)), (1, .vec c_1 (List.map eTCtx l_1)), (5, .int .i64 i_3)], []⟩ [] R := by
 intro n
 induction n with
 | zero =>
  intro i_3 o h _
  have h0 : none = some o := h
  cases h0
 | succ n ih =>
  intro i_3 o h hp
  rw [ref11_Same_L3] at h
  refine ALp.round ?_
  generalize hQ : RoundQ _ _ _ _ = QQ
  simp only [B39_1, A39, go_sem, seval]
  by_cases h_4 : i_3 < (l_0.length : Int)
  ·
   rw [if_pos h_4] at h
   have e_5 := eq_true h_4
   obtain ⟨x_6, h_7, h⟩ := bindS h
   have e_8 : (List.map eTCtx l_0)[(i_3).toNat]? = some [.vec false (List.map eTSet x_6.Back), .vec false (List.map eTSet x_6.In), .vec false (List.map eTSet x_6.Ahead), .vec false (List.map eTAct x_6.Acts)] := atI_map eTCtx h_7
   have e_9 := eq_true (atI_some h_7).1
   have e_10 := eq_true (atI_lt h_7)
   obtain ⟨x_11, h_12, h⟩ := bindS h
   have e_13 : (List.map eTCtx l_1)[(i_3).toNat]? = some [.vec false (List.map eTSet x_11.Back), .vec false (List.map eTSet x_11.In), .vec false (List.map eTSet x_11.Ahead), .vec false (List.map eTAct x_11.Acts)] := atI_map eTCtx h_12
   have e_14 := eq_true (atI_some h_12).1
   have e_15 := eq_true (atI_lt h_12)
   obtain ⟨y_16, h_17, h⟩ := bindS h
   simp only [e_5, e_8, e_9, e_10, e_13, e_14, e_15, go_sem, seval]
   refine ACalls.use0 (ref11_SameSets_w N _ _ false false _ h_17) rfl rfl ?_
   simp only [e_5, e_8, e_9, e_10, e_13, e_14, e_15, go_sem, seval]
   by_cases h_18 : y_16 = true
   ·
    rw [if_pos h_18] at h
    have e_19 : y_16 = true := h_18
    obtain ⟨y_20, h_21, h⟩ := bindS h
    simp only [e_5, e_8, e_9, e_10, e_13, e_14, e_15, e_19, go_sem, seval]
    refine ACalls.use0 (ref11_SameSets_w N _ _ false false _ h_21) rfl rfl ?_
    simp only [e_5, e_8, e_9, e_10, e_13, e_14, e_15, e_19, go_sem, seval]
    by_cases h_22 : y_20 = true
    ·
     rw [if_pos h_22] at h
     have e_23 : y_20 = true := h_22
     obtain ⟨y_24, h_25, h⟩ := bindS h
     simp only [e_5, e_8, e_9, e_10, e_13, e_14, e_15, e_19, e_23, go_sem, seval]
     refine ACalls.use0 (ref11_SameSets_w N _ _ false false _ h_25) rfl rfl ?_
     simp only [e_5, e_8, e_9, e_10, e_13, e_14, e_15, e_19, e_23, go_sem, seval]
     by_cases h_26 : y_24 = true
     ·
      rw [if_pos h_26] at h
      have e_27 : y_24 = true := h_26
      simp only [e_5, e_8, e_9, e_10, e_13, e_14, e_15, e_19, e_23, e_27, go_sem, seval]
      by_cases h_28 : (x_6.Acts.length : Int) = (x_11.Acts.length : Int)
      ·
       rw [if_pos h_28] at h
       have e_29 := eq_true h_28
       simp only [e_5, e_8, e_9, e_10, e_13, e_14, e_15, e_19, e_23, e_27, e_29, go_sem, seval]
       obtain ⟨o_1031, h_1030, h⟩ := bindS h
       refine ALp.ref (Ref.out [0, 1, 5, 6] rfl) (Nat.zero_le _) (ref11_Same_L2_w N _ _ _ c_0 c_1 N _ o_1031 h_1030 ?_)
       rcases o_1031 with _ | _
       ·
        try dsimp only at h
        refine LoopK_go rfl (Nat.zero_le _) ?_
        simp only [e_5, e_8, e_9, e_10, e_13, e_14, e_15, e_19, e_23, e_27, e_29, go_sem, seval]
        rw [← hQ]
        exact ⟨_, _, (Ref.out [0, 1, 5] rfl), (Nat.zero_le _), ih _ _ h hp⟩
       ·
        try dsimp only at h
        refine LoopK_ret ?_
        have g := Option.some.inj h
        subst g
        rw [← hQ]
        exact ⟨_, _, (Ref.out [4] rfl), hp⟩
      ·
       rw [if_neg h_28] at h
       have e_29 := eq_false h_28
       simp only [e_5, e_8, e_9, e_10, e_13, e_14, e_15, e_19, e_23, e_27, e_29, go_sem, seval]
       have g := Option.some.inj h
       subst g
       rw [← hQ]
       exact ⟨_, _, (Ref.out [4] rfl), hp⟩
     ·
      rw [if_neg h_26] at h
      have e_27 : y_24 = false := bfalse h_26
      simp only [e_5, e_8, e_9, e_10, e_13, e_14, e_15, e_19, e_23, e_27, go_sem, seval]
      have g := Option.some.inj h
      subst g
      rw [← hQ]
      exact ⟨_, _, (Ref.out [4] rfl), hp⟩
    ·
     rw [if_neg h_22] at h
     have e_23 : y_20 = false := bfalse h_22
     simp only [e_5, e_8, e_9, e_10, e_13, e_14, e_15, e_19, e_23, go_sem, seval]
     have g := Option.some.inj h
     subst g
     rw [← hQ]
     exact ⟨_, _, (Ref.out [4] rfl), hp⟩
   ·
    rw [if_neg h_18] at h
    have e_19 : y_16 = false := bfalse h_18
    simp only [e_5, e_8, e_9, e_10, e_13, e_14, e_15, e_19, go_sem, seval]
    have g := Option.some.inj h
    subst g
    rw [← hQ]
    exact ⟨_, _, (Ref.out [4] rfl), hp⟩
  ·
   rw [if_neg h_4] at h
   have e_5 := eq_false h_4
   simp only [e_5, go_sem, seval]
   have g := Option.some.inj h
   subst g
   rw [← hQ]
   exact ⟨_, _, (Ref.out [] rfl), hp⟩
theorem ref11_Same_w (N : Nat) (l_0 : List TCtx) (l_1 : List TCtx) (c_0 : Bool) (c_1 : Bool) (z_1 : Bool) (h : ref11_Same N l_0 l_1 = some z_1) :
  ACalls Try.prog 39 [.vec c_0 (List.map eTCtx l_0), .vec c_1 (List.map eTCtx l_1)] [] (fun e H => H = [] ∧ e = .ret (.bool z_1)) := by
 unfold ref11_Same at h
 refine ACalls.goN Try.func39 n39 a39 Try.ntmps39 r39 (by simp) 0 rfl ?_
 generalize hQ : bodyA _ _ _ = QQ
 simp only [A39, go_sem, seval]
 by_cases h_1 : (l_0.length : Int) = (l_1.length : Int)
 ·
  rw [if_pos h_1] at h
  have e_2 := eq_true h_1
  simp only [e_2, go_sem, seval]
  obtain ⟨o_1004, h_1003, h⟩ := bindS h
  refine ALp.ref (Ref.out [0, 1, 5] rfl) (Nat.zero_le _) (ref11_Same_L3_w N _ _ c_0 c_1 N _ o_1004 h_1003 ?_)
  rcases o_1004 with _ | _
  ·
   try dsimp only at h
   refine LoopK_go rfl (Nat.zero_le _) ?_
   simp only [e_2, go_sem, seval]
   have g_0 := Option.some.inj h
   subst g_0
   rw [← hQ]
   exact ⟨rfl, _, rfl, _, _, (RefV.out rfl), rfl, rfl⟩
  ·
   try dsimp only at h
   refine LoopK_ret ?_
   have g_0 := Option.some.inj h
   subst g_0
   rw [← hQ]
   exact ⟨rfl, _, rfl, _, _, (RefV.out rfl), rfl, rfl⟩
 ·
  rw [if_neg h_1] at h
  have e_2 := eq_false h_1
  simp only [e_2, go_sem, seval]
  have g_0 := Option.some.inj h
  subst g_0
  rw [← hQ]
  exact ⟨rfl, _, rfl, _, _, (RefV.out rfl), rfl, rfl⟩
theorem law11_alive_w (N : Nat) (z_1 : Bool) (h : law11_alive N = some z_1) :
  ACalls Try.prog 36 [] [] (fun e H => H = [] ∧ e = .ret (.bool z_1)) := by
 unfold law11_alive at h
 refine ACalls.goN Try.func36 n36 a36 Try.ntmps36 r36 (by simp) 0 rfl ?_
 generalize hQ : bodyA _ _ _ = QQ
 obtain ⟨⟨y_1, y_2⟩, h_3, h⟩ := bindS h
 try dsimp only at h
 simp only [A36, go_sem, seval]
 refine ACalls.use0 (context_Context_w N _ _ true _ _ h_3) rfl rfl ?_
 refine ck0 ?_
 obtain ⟨⟨y_4, y_5⟩, h_6, h⟩ := bindS h
 try dsimp only at h
 simp only [go_sem, seval]
 refine ACalls.use0 (context_Chain_w N _ _ true _ _ h_6) rfl rfl ?_
 refine ck0 ?_
 simp only [go_sem, seval]
 by_cases h_7 : y_2 = true
 ·
  rw [if_pos h_7] at h
  have e_8 : y_2 = true := h_7
  simp only [e_8, go_sem, seval]
  by_cases h_9 : y_5 = true
  ·
   rw [if_pos h_9] at h
   have e_10 : y_5 = true := h_9
   simp only [e_8, e_10, go_sem, seval]
   by_cases h_11 : (y_1.length : Int) = 1
   ·
    rw [if_pos h_11] at h
    have e_12 := eq_true h_11
    obtain ⟨x_13, h_14, h⟩ := bindS h
    have e_15 : (List.map eTCtx y_1)[0]? = some [.vec false (List.map eTSet x_13.Back), .vec false (List.map eTSet x_13.In), .vec false (List.map eTSet x_13.Ahead), .vec false (List.map eTAct x_13.Acts)] := atI_map eTCtx h_14
    have e_16 := eq_true (atI_lt h_14)
    simp only [e_8, e_10, e_12, e_15, e_16, go_sem, seval]
    by_cases h_17 : (x_13.In.length : Int) = 1
    ·
     rw [if_pos h_17] at h
     have e_18 := eq_true h_17
     obtain ⟨x_19, h_20, h⟩ := bindS h
     have e_21 : (List.map eTSet x_13.In)[0]? = some [.vec false (List.map eTSpan x_19.Spans), .bool x_19.Not] := atI_map eTSet h_20
     have e_22 := eq_true (atI_lt h_20)
     simp only [e_8, e_10, e_12, e_15, e_16, e_18, e_21, e_22, go_sem, seval]
     by_cases h_23 : (x_19.Spans.length : Int) = 1
     ·
      rw [if_pos h_23] at h
      have e_24 := eq_true h_23
      obtain ⟨y_25, h_26, h⟩ := bindS h
      simp only [e_8, e_10, e_12, e_15, e_16, e_18, e_21, e_22, e_24, go_sem, seval]
      refine ACalls.use0 (ref11_Same_w N _ _ false false _ h_26) rfl rfl ?_
      refine ck0 ?_
      simp only [e_8, e_10, e_12, e_15, e_16, e_18, e_21, e_22, e_24, go_sem, seval]
      have g_0 := Option.some.inj h
      subst g_0
      rw [← hQ]
      exact ⟨rfl, _, rfl, _, _, (RefV.out (by first | rfl | simp only [go_sem, seval, e_8, e_10, e_12, e_18, e_24])), rfl, rfl⟩
     ·
      rw [if_neg h_23] at h
      have e_24 := eq_false h_23
      simp only [e_8, e_10, e_12, e_15, e_16, e_18, e_21, e_22, e_24, go_sem, seval]
      have g_0 := Option.some.inj h
      subst g_0
      rw [← hQ]
      exact ⟨rfl, _, rfl, _, _, (RefV.out rfl), rfl, rfl⟩
    ·
     rw [if_neg h_17] at h
     have e_18 := eq_false h_17
     simp only [e_8, e_10, e_12, e_15, e_16, e_18, go_sem, seval]
     have g_0 := Option.some.inj h
     subst g_0
     rw [← hQ]
     exact ⟨rfl, _, rfl, _, _, (RefV.out rfl), rfl, rfl⟩
   ·
    rw [if_neg h_11] at h
    have e_12 := eq_false h_11
    simp only [e_8, e_10, e_12, go_sem, seval]
    have g_0 := Option.some.inj h
    subst g_0
    rw [← hQ]
    exact ⟨rfl, _, rfl, _, _, (RefV.out rfl), rfl, rfl⟩
  ·
   rw [if_neg h_9] at h
   have e_10 : y_5 = false := bfalse h_9
   simp only [e_8, e_10, go_sem, seval]
   have g_0 := Option.some.inj h
   subst g_0
   rw [← hQ]
   exact ⟨rfl, _, rfl, _, _, (RefV.out rfl), rfl, rfl⟩
 ·
  rw [if_neg h_7] at h
  have e_8 : y_2 = false := bfalse h_7
  simp only [e_8, go_sem, seval]
  have g_0 := Option.some.inj h
  subst g_0
  rw [← hQ]
  exact ⟨rfl, _, rfl, _, _, (RefV.out rfl), rfl, rfl⟩
theorem ref01_Within_w (N : Nat) (a_0 : Int) (a_1 : Int) (a_2 : Int) (z_1 : Bool) (h : ref01_Within N a_0 a_1 a_2 = some z_1) :
  ACalls Try.prog 105 [.int .i64 a_0, .int .i64 a_1, .int .i64 a_2] [] (fun e H => H = [] ∧ e = .ret (.bool z_1)) := by
 unfold ref01_Within at h
 refine ACalls.goN Try.func105 n105 a105 Try.ntmps105 r105 (by simp) 0 rfl ?_
 generalize hQ : bodyA _ _ _ = QQ
 simp only [A105, go_sem, seval]
 by_cases h_1 : 0 ≤ a_1
 ·
  rw [if_pos h_1] at h
  have e_2 := eq_true h_1
  simp only [e_2, go_sem, seval]
  by_cases h_3 : 0 ≤ a_2
  ·
   rw [if_pos h_3] at h
   have e_4 := eq_true h_3
   simp only [e_2, e_4, go_sem, seval]
   by_cases h_5 : a_1 ≤ a_0
   ·
    rw [if_pos h_5] at h
    have e_6 := eq_true h_5
    simp only [e_2, e_4, e_6, go_sem, seval]
    have g_0 := Option.some.inj h
    subst g_0
    rw [← hQ]
    exact ⟨rfl, _, rfl, _, _, (RefV.out (by first | rfl | simp only [go_sem, seval, e_2, e_4, e_6])), rfl, rfl⟩
   ·
    rw [if_neg h_5] at h
    have e_6 := eq_false h_5
    simp only [e_2, e_4, e_6, go_sem, seval]
    have g_0 := Option.some.inj h
    subst g_0
    rw [← hQ]
    exact ⟨rfl, _, rfl, _, _, (RefV.out rfl), rfl, rfl⟩
  ·
   rw [if_neg h_3] at h
   have e_4 := eq_false h_3
   simp only [e_2, e_4, go_sem, seval]
   have g_0 := Option.some.inj h
   subst g_0
   rw [← hQ]
   exact ⟨rfl, _, rfl, _, _, (RefV.out rfl), rfl, rfl⟩
 ·
  rw [if_neg h_1] at h
  have e_2 := eq_false h_1
  simp only [e_2, go_sem, seval]
  have g_0 := Option.some.inj h
  subst g_0
  rw [← hQ]
  exact ⟨rfl, _, rfl, _, _, (RefV.out rfl), rfl, rfl⟩
theorem ref01_Number_L1_w (N : Nat) (l_0 : List Int) (a_1 : Int) (a_2 : Int) (c_0 : Bool) {R : AExit → ATm → List AObj → Prop} : ∀ (n : Nat) (i_5 : Int) (i_6 : Int) (o : Int), ref01_Number_L1 N l_0 a_1 a_2 n i_5 i_6 = some o → (match o with | z_1 => R (.exit 0) ⟨32, [(8, .int .i64 z_1)], []⟩ []) →
  ALp Try.prog 0 B86_1 ⟨32, [(0, .vec c_0 (List.map eU8 l_0)), (1, .int .i64 a_1), (2, .int .i64 a_2), (8, .int .i64 i_5), (9, .int .i64 i_6)], []⟩ [] R := by
 intro n
 induction n with
 | zero =>
  intro i_5 i_6 o h _
  have h0 : none = some o := h
  cases h0
 | succ n ih =>
  intro i_5 i_6 o h hp
  rw [ref01_Number_L1] at h
  refine ALp.round ?_
  generalize hQ : RoundQ _ _ _ _ = QQ
  simp only [B86_1, A86, go_sem, seval]
  by_cases h_7 : i_6 < a_2
  ·
   rw [if_pos h_7] at h
   have e_8 := eq_true h_7
   obtain ⟨x_9, h_10, h⟩ := bindS h
   have e_11 : (List.map eU8 l_0)[(IntKind.i64.wrap (a_1 + i_6)).toNat]? = some [.int .u8 x_9] := atI_map eU8 h_10
   have e_12 := eq_true (atI_some h_10).1
   have e_13 := eq_true (atI_lt h_10)
   simp only [e_8, e_11, e_12, e_13, go_sem, seval]
   rw [← hQ]
   exact ⟨_, _, (Ref.out [0, 1, 2, 8, 9] rfl), (Nat.zero_le _), ih _ _ _ h hp⟩
  ·
   rw [if_neg h_7] at h
   have e_8 := eq_false h_7
   simp only [e_8, go_sem, seval]
   have g := Option.some.inj h
   subst g
   rw [← hQ]
   exact ⟨_, _, (Ref.out [8] rfl), hp⟩
theorem ref01_Number_w (N : Nat) (l_0 : List Int) (a_1 : Int) (a_2 : Int) (c_0 : Bool) (z_1 : Int) (z_2 : Bool) (h : ref01_Number N l_0 a_1 a_2 = some (z_1, z_2)) :
  ACalls Try.prog 86 [.vec c_0 (List.map eU8 l_0), .int .i64 a_1, .int .i64 a_2] [] (fun e H => H = [] ∧ e = .ret (.tup [.int .i64 z_1, .bool z_2])) := by
 unfold ref01_Number at h
 refine ACalls.goN Try.func86 n86 a86 Try.ntmps86 r86 (by simp) 0 rfl ?_
 generalize hQ : bodyA _ _ _ = QQ
 obtain ⟨y_1, h_2, h⟩ := bindS h
 simp only [A86, go_sem, seval]
 refine ACalls.use0 (ref01_Within_w N _ _ _ _ h_2) rfl rfl ?_
 refine ck0 ?_
 simp only [go_sem, seval]
 by_cases h_3 : y_1 = true
 ·
  rw [if_pos h_3] at h
  have e_4 : y_1 = true := h_3
  simp only [e_4, go_sem, seval]
  obtain ⟨y_1006, h_1005, h⟩ := bindS h
  refine ALp.ref (Ref.out [0, 1, 2, 8, 9] rfl) (Nat.zero_le _) (ref01_Number_L1_w N _ _ _ c_0 N _ _ y_1006 h_1005 ?_)
  refine LoopK_go rfl (Nat.zero_le _) ?_
  simp only [e_4, go_sem, seval]
  obtain ⟨k_1, g_1⟩ := Prod.mk.inj (Option.some.inj h)
  subst k_1
  subst g_1
  rw [← hQ]
  exact ⟨rfl, _, rfl, _, _, (RefV.out rfl), rfl, rfl⟩
 ·
  rw [if_neg h_3] at h
  have e_4 : y_1 = false := bfalse h_3
  simp only [e_4, go_sem, seval]
  obtain ⟨k_1, g_1⟩ := Prod.mk.inj (Option.some.inj h)
  subst k_1
  subst g_1
  rw [← hQ]
  exact ⟨rfl, _, rfl, _, _, (RefV.out rfl), rfl, rfl⟩
theorem ref10_U16_w (N : Nat) (l_0 : List Int) (a_1 : Int) (c_0 : Bool) (z_1 : Int) (h : ref10_U16 N l_0 a_1 = some z_1) :
  ACalls Try.prog 64 [.vec c_0 (List.map eU8 l_0), .int .i64 a_1] [] (fun e H => H = [] ∧ e = .ret (.int .i64 z_1)) := by
 unfold ref10_U16 at h
 refine ACalls.goN Try.func64 n64 a64 Try.ntmps64 r64 (by simp) 0 rfl ?_
 generalize hQ : bodyA _ _ _ = QQ
 obtain ⟨⟨y_1, y_2⟩, h_3, h⟩ := bindS h
 try dsimp only at h
 simp only [A64, go_sem, seval]
 refine ACalls.use0 (ref01_Number_w N _ _ _ c_0 _ _ h_3) rfl rfl ?_
 refine ck0 ?_
 simp only [go_sem, seval]
 by_cases h_4 : y_2 = true
 ·
  rw [if_pos h_4] at h
  have e_5 : y_2 = true := h_4
  simp only [e_5, go_sem, seval]
  have g_0 := Option.some.inj h
  subst g_0
  rw [← hQ]
  exact ⟨rfl, _, rfl, _, _, (RefV.out rfl), rfl, rfl⟩
 ·
  rw [if_neg h_4] at h
  have e_5 : y_2 = false := bfalse h_4
  simp only [e_5, go_sem, seval]
  have g_0 := Option.some.inj h
  subst g_0
  rw [← hQ]
  exact ⟨rfl, _, rfl, _, _, (RefV.out rfl), rfl, rfl⟩
theorem ref11_Row_L1_w (N : Nat) (l_0 : List Int) (a_1 : Int) (a_2 : Int) (c_0 : Bool) {R : AExit → ATm → List AObj → Prop} : ∀ (n : Nat) (i_1 : Int) (s_2 : List Int) (o : ((List Int)) ⊕ (Unit)), ref11_Row_L1 N l_0 a_1 a_2 n i_1 s_2 = some o → (match o with | .inl z_1 => R (.exit 0) ⟨29, [(8, .row 0 0 z_1.length)], []⟩ [.mem 1 (List.map eI64 z_1) 3] | .inr (_) => R .ret ⟨29, [(6, .vec true []), (7, .bool false)], []⟩ []) →
  ALp Try.prog 0 B67_1 ⟨29, [(0, .vec c_0 (List.map eU8 l_0)), (1, .int .i64 a_1), (2, .int .i64 a_2), (8, .row 0 0 s_2.length), (9, .int .i64 i_1)], []⟩ [.mem 1 (List.map eI64 s_2) 3] R := by
 intro n
 induction n with
 | zero =>
  intro i_1 s_2 o h _
  have h0 : none = some o := h
  cases h0
 | succ n ih =>
  intro i_1 s_2 o h hp
  rw [ref11_Row_L1] at h
  refine ALp.round ?_
  generalize hQ : RoundQ _ _ _ _ = QQ
  simp only [B67_1, A67, go_sem, seval]
  by_cases h_3 : i_1 < a_2
  ·
   rw [if_pos h_3] at h
   have e_4 := eq_true h_3
   obtain ⟨y_5, h_6, h⟩ := bindS h
   simp only [e_4, go_sem, seval]
   refine ACalls.use0 (ref10_U16_w N _ _ c_0 _ h_6) rfl rfl ?_
   refine ck0 ?_
   simp only [e_4, go_sem, seval]
   by_cases h_7 : y_5 < 0
   ·
    rw [if_pos h_7] at h
    have e_8 := eq_true h_7
    simp only [e_4, e_8, go_sem, seval]
    have g := Option.some.inj h
    subst g
    rw [← hQ]
    exact ⟨_, _, (Ref.out [6, 7] rfl), hp⟩
   ·
    rw [if_neg h_7] at h
    have e_8 := eq_false h_7
    have e_9 : List.take s_2.length (List.map eI64 s_2) = (List.map eI64 s_2) := List.take_of_length_le (by simp)
    have e_10 : (List.map eI64 s_2) ++ [[.int .i64 y_5]] = (List.map eI64 (s_2 ++ [y_5])) := app_map s_2 ([y_5]) eI64
    obtain ⟨h_11, h⟩ := guardS h
    have e_12 := eq_true h_11
    simp only [e_4, e_8, e_9, e_10, e_12, go_sem, seval]
    rw [← hQ]
    exact ⟨_, _, (Ref.std [0, 1, 2, 8, 9] [1] (by decide) low0 (by first | rfl | simp only [go_sem, seval]) (by first | rfl | simp only [go_sem, seval])), (Nat.zero_le _), ih _ _ _ h hp⟩
  ·
   rw [if_neg h_3] at h
   have e_4 := eq_false h_3
   simp only [e_4, go_sem, seval]
   have g := Option.some.inj h
   subst g
   rw [← hQ]
   exact ⟨_, _, (Ref.std [8] [0] (by decide) low0 rfl (by first | rfl | simp only [go_sem, seval])), hp⟩
theorem ref11_Row_w (N : Nat) (l_0 : List Int) (a_1 : Int) (a_2 : Int) (c_0 : Bool) (z_1 : List Int) (z_2 : Bool) (h : ref11_Row N l_0 a_1 a_2 = some (z_1, z_2)) :
  ACalls Try.prog 67 [.vec c_0 (List.map eU8 l_0), .int .i64 a_1, .int .i64 a_2] [] (fun e H => H = [] ∧ e = .ret (.tup [.vec false (List.map eI64 z_1), .bool z_2])) := by
 unfold ref11_Row at h
 refine ACalls.goN Try.func67 n67 a67 Try.ntmps67 r67 (by simp) 0 rfl ?_
 generalize hQ : bodyA _ _ _ = QQ
 simp only [A67, go_sem, seval]
 obtain ⟨o_1003, h_1001, h⟩ := bindS h
 refine ALp.ref (Ref.trans (Ref.thaw (Nat.zero_le _) 8 rfl (sz := 1) (by decide) 3) (Ref.std [0, 1, 2, 8, 9] [0] (by decide) low0 rfl (by first | rfl | simp only [go_sem, seval]))) (Nat.zero_le _) (ref11_Row_L1_w N _ _ _ c_0 N _ _ o_1003 h_1001 ?_)
 rcases o_1003 with y_1002 | _
 ·
  try dsimp only at h
  refine LoopK_go rfl (Nat.zero_le _) ?_
  simp only [go_sem, seval]
  obtain ⟨k_1, g_1⟩ := Prod.mk.inj (Option.some.inj h)
  subst k_1
  subst g_1
  rw [← hQ]
  exact ⟨rfl, _, rfl, _, _, (RefV.trans (RefV.frz (Nat.zero_le _) (id := 0) rfl (pures_map y_1002 eI64 (fun _ => rfl))) (RefV.out (by first | rfl | simp only [go_sem, seval]))), rfl, rfl⟩
 ·
  try dsimp only at h
  refine LoopK_ret ?_
  obtain ⟨k_1, g_1⟩ := Prod.mk.inj (Option.some.inj h)
  subst k_1
  subst g_1
  rw [← hQ]
  exact ⟨rfl, _, rfl, _, _, outVB, rfl, rfl⟩
theorem ref11_Seq_w (N : Nat) (l_0 : List Int) (a_1 : Int) (a_2 : Int) (a_3 : Int) (c_0 : Bool) (z_1 : List Int) (z_2 : Int) (z_3 : Bool) (h : ref11_Seq N l_0 a_1 a_2 a_3 = some (z_1, z_2, z_3)) :
  ACalls Try.prog 89 [.vec c_0 (List.map eU8 l_0), .int .i64 a_1, .int .i64 a_2, .int .i64 a_3] [] (fun e H => H = [] ∧ e = .ret (.tup [.vec false (List.map eI64 z_1), .int .i64 z_2, .bool z_3])) := by
 unfold ref11_Seq at h
 refine ACalls.goN Try.func89 n89 a89 Try.ntmps89 r89 (by simp) 0 rfl ?_
 generalize hQ : bodyA _ _ _ = QQ
 obtain ⟨y_1, h_2, h⟩ := bindS h
 simp only [A89, go_sem, seval]
 refine ACalls.use0 (ref10_U16_w N _ _ c_0 _ h_2) rfl rfl ?_
 refine ck0 ?_
 simp only [go_sem, seval]
 by_cases h_3 : y_1 < a_2
 ·
  rw [if_pos h_3] at h
  have e_4 := eq_true h_3
  simp only [e_4, go_sem, seval]
  obtain ⟨k_1, g_1⟩ := Prod.mk.inj (Option.some.inj h)
  subst k_1
  obtain ⟨k_2, g_2⟩ := Prod.mk.inj g_1
  subst k_2
  subst g_2
  rw [← hQ]
  exact ⟨rfl, _, rfl, _, _, (RefV.trans (RefV.out (v' := .tup [.vec true [], .int .i64 0, .bool false]) rfl) (RefV.weak (Wks.cons (Wk.tup (Wks.cons Wk.vec (Wks.cons (Wk.refl _) (Wks.cons (Wk.refl _) (Wks.nil))))) Wks.nil) (WkH.refl _))), rfl, rfl⟩
 ·
  rw [if_neg h_3] at h
  have e_4 := eq_false h_3
  simp only [e_4, go_sem, seval]
  by_cases h_5 : 16 < y_1
  ·
   rw [if_pos h_5] at h
   have e_6 := eq_true h_5
   simp only [e_4, e_6, go_sem, seval]
   obtain ⟨k_1, g_1⟩ := Prod.mk.inj (Option.some.inj h)
   subst k_1
   obtain ⟨k_2, g_2⟩ := Prod.mk.inj g_1
   subst k_2
   subst g_2
   rw [← hQ]
   exact ⟨rfl, _, rfl, _, _, (RefV.trans (RefV.out (v' := .tup [.vec true [], .int .i64 0, .bool false]) rfl) (RefV.weak (Wks.cons (Wk.tup (Wks.cons Wk.vec (Wks.cons (Wk.refl _) (Wks.cons (Wk.refl _) (Wks.nil))))) Wks.nil) (WkH.refl _))), rfl, rfl⟩
  ·
   rw [if_neg h_5] at h
   have e_6 := eq_false h_5
   obtain ⟨⟨y_7, y_8⟩, h_9, h⟩ := bindS h
   try dsimp only at h
   simp only [e_4, e_6, go_sem, seval]
   refine ACalls.use0 (ref11_Row_w N _ _ _ c_0 _ _ h_9) rfl rfl ?_
   refine ck0 ?_
   simp only [e_4, e_6, go_sem, seval]
   obtain ⟨k_1, g_1⟩ := Prod.mk.inj (Option.some.inj h)
   subst k_1
   obtain ⟨k_2, g_2⟩ := Prod.mk.inj g_1
   subst k_2
   subst g_2
   rw [← hQ]
   exact ⟨rfl, _, rfl, _, _, (RefV.out (by first | rfl | simp only [go_sem, seval, e_4, e_6])), rfl, rfl⟩
theorem ref10_Table_L1_w (N : Nat) (l_0 : List Int) (a_1 : Int) (b_2 : Bool) (c_0 : Bool) {R : AExit → ATm → List AObj → Prop} : ∀ (n : Nat) (i_2 : Int) (s_3 : List Int) (o : (List Int)), ref10_Table_L1 N l_0 a_1 b_2 n i_2 s_3 = some o → (match o with | z_1 => R (.exit 0) ⟨175, [(0, .vec c_0 (List.map eU8 l_0)), (1, .int .i64 a_1), (2, .bool b_2), (8, .row 0 0 z_1.length)], []⟩ [.mem 1 (List.map eI64 z_1) 3]) →
  ALp Try.prog 0 B56_1 ⟨175, [(0, .vec c_0 (List.map eU8 l_0)), (1, .int .i64 a_1), (2, .bool b_2), (8, .row 0 0 s_3.length), (9, .int .i64 i_2)], []⟩ [.mem 1 (List.map eI64 s_3) 3] R := by
 intro n
 induction n with
 | zero =>
  intro i_2 s_3 o h _
  have h0 : none = some o := h
  cases h0
 | succ n ih =>
  intro i_2 s_3 o h hp
  rw [ref10_Table_L1] at h
  refine ALp.round ?_
  generalize hQ : RoundQ _ _ _ _ = QQ
  simp only [B56_1, A56, go_sem, seval]
  by_cases h_4 : i_2 < 65536
  ·
   rw [if_pos h_4] at h
   have e_5 := eq_true h_4
   obtain ⟨x_6, h_7, h⟩ := bindS h
   have e_8 : (List.map eI64 s_3)[(i_2).toNat]? = some [.int .i64 x_6] := atI_map eI64 h_7
   have e_9 := eq_true (atI_some h_7).1
   have e_10 := eq_true (atI_lt h_7)
   have e_11 : (List.map eI64 s_3).set (i_2).toNat [.int .i64 (-1)] = List.map eI64 (List.set s_3 (i_2).toNat (-1)) := set_map s_3 eI64 (i_2).toNat (-1)
   simp only [e_5, e_8, e_9, e_10, e_11, go_sem, seval]
   rw [← hQ]
   exact ⟨_, _, (Ref.std [0, 1, 2, 8, 9] [0] (by decide) low0 (by first | rfl | simp only [go_sem, seval, e_5]) (by first | rfl | simp only [go_sem, seval])), (Nat.zero_le _), ih _ _ _ h hp⟩
  ·
   rw [if_neg h_4] at h
   have e_5 := eq_false h_4
   simp only [e_5, go_sem, seval]
   have g := Option.some.inj h
   subst g
   rw [← hQ]
   exact ⟨_, _, (Ref.std [0, 1, 2, 8] [0] (by decide) low0 (by first | rfl | simp only [go_sem, seval, e_5]) (by first | rfl | simp only [go_sem, seval])), hp⟩
theorem ref10_Table_L2_w (N : Nat) (l_0 : List Int) (a_1 : Int) (y_1012 : Int) (y_1008 : Int) (c_0 : Bool) {R : AExit → ATm → List AObj → Prop} : ∀ (n : Nat) (i_1018 : Int) (s_1019 : List Int) (o : ((List Int)) ⊕ ((List Int))), ref10_Table_L2 N l_0 a_1 y_1012 y_1008 n i_1018 s_1019 = some o → (match o with | .inl z_1 => R (.exit 2) ⟨175, [(8, .row 0 0 z_1.length)], []⟩ [.mem 1 (List.map eI64 z_1) 3] | .inr (z_1) => R .ret ⟨175, [(6, .row 0 0 z_1.length), (7, .bool false)], []⟩ [.mem 1 (List.map eI64 z_1) 3]) →
  ALp Try.prog 0 B56_2 ⟨175, [(0, .vec c_0 (List.map eU8 l_0)), (1, .int .i64 a_1), (8, .row 0 0 s_1019.length), (11, .int .i64 y_1012), (14, .int .i64 y_1008), (15, .int .i64 i_1018)], []⟩ [.mem 1 (List.map eI64 s_1019) 3] R := by
 intro n
 induction n with
 | zero =>
  intro i_1018 s_1019 o h _
  have h0 : none = some o := h
  cases h0
 | succ n ih =>
  intro i_1018 s_1019 o h hp
  rw [ref10_Table_L2] at h
  refine ALp.round ?_
  generalize hQ : RoundQ _ _ _ _ = QQ
  simp only [B56_2, A56, go_sem, seval]
  by_cases h_1020 : i_1018 < y_1012
  ·
   rw [if_pos h_1020] at h
   have e_1021 := eq_true h_1020
   obtain ⟨y_1022, h_1023, h⟩ := bindS h
   simp only [e_1021, go_sem, seval]
   refine ACalls.use0 (ref10_U16_w N _ _ c_0 _ h_1023) rfl rfl ?_
   refine ck0 ?_
   simp only [e_1021, go_sem, seval]
   by_cases h_1024 : y_1022 < 0
   ·
    rw [if_pos h_1024] at h
    have e_1025 := eq_true h_1024
    simp only [e_1021, e_1025, go_sem, seval]
    have g := Option.some.inj h
    subst g
    rw [← hQ]
    exact ⟨_, _, (Ref.std [6, 7] [0] (by decide) low0 rfl (by first | rfl | simp only [go_sem, seval])), hp⟩
   ·
    rw [if_neg h_1024] at h
    have e_1025 := eq_false h_1024
    obtain ⟨x_1026, h_1027, h⟩ := bindS h
    have e_1028 : (List.map eI64 s_1019)[(IntKind.i64.wrap (y_1008 + i_1018)).toNat]? = some [.int .i64 x_1026] := atI_map eI64 h_1027
    have e_1029 := eq_true (atI_some h_1027).1
    have e_1030 := eq_true (atI_lt h_1027)
    have e_1031 : (List.map eI64 s_1019).set (IntKind.i64.wrap (y_1008 + i_1018)).toNat [.int .i64 y_1022] = List.map eI64 (List.set s_1019 (IntKind.i64.wrap (y_1008 + i_1018)).toNat y_1022) := set_map s_1019 eI64 (IntKind.i64.wrap (y_1008 + i_1018)).toNat y_1022
    simp only [e_1021, e_1025, e_1028, e_1029, e_1030, e_1031, go_sem, seval]
    rw [← hQ]
    exact ⟨_, _, (Ref.std [0, 1, 8, 11, 14, 15] [0] (by decide) low0 (by first | rfl | simp only [go_sem, seval]) (by first | rfl | simp only [go_sem, seval])), (Nat.zero_le _), ih _ _ _ h hp⟩
  ·
   rw [if_neg h_1020] at h
   have e_1021 := eq_false h_1020
   simp only [e_1021, go_sem, seval]
   have g := Option.some.inj h
   subst g
   rw [← hQ]
   exact ⟨_, _, (Ref.std [8] [0] (by decide) low0 rfl (by first | rfl | simp only [go_sem, seval])), hp⟩
theorem ref10_Table_L4_w (N : Nat) (l_0 : List Int) (a_1 : Int) (b_2 : Bool) (y_1004 : Int) (y_1008 : Int) (y_2044 : Int) (i_2026 : Int) (y_2046 : Int) (c_0 : Bool) {R : AExit → ATm → List AObj → Prop} : ∀ (n : Nat) (i_2056 : Int) (i_2057 : Int) (s_2058 : List Int) (o : Int × (List Int)), ref10_Table_L4 N l_0 a_1 b_2 y_1004 y_1008 y_2044 i_2026 y_2046 n i_2056 i_2057 s_2058 = some o → (match o with | (z_1, z_2) => R (.exit 6) ⟨175, [(0, .vec c_0 (List.map eU8 l_0)), (1, .int .i64 a_1), (2, .bool b_2), (8, .row 0 0 z_2.length), (10, .int .i64 y_1004), (11, .int .i64 y_1008), (12, .int .i64 z_1), (13, .int .i64 y_2044), (17, .int .i64 i_2026)], []⟩ [.mem 1 (List.map eI64 z_2) 3]) →
  ALp Try.prog 0 B56_4 ⟨175, [(0, .vec c_0 (List.map eU8 l_0)), (1, .int .i64 a_1), (2, .bool b_2), (8, .row 0 0 s_2058.length), (10, .int .i64 y_1004), (11, .int .i64 y_1008), (12, .int .i64 i_2056), (13, .int .i64 y_2044), (17, .int .i64 i_2026), (20, .int .i64 y_2044), (21, .int .i64 y_2046), (22, .int .i64 i_2057)], []⟩ [.mem 1 (List.map eI64 s_2058) 3] R := by
 intro n
 induction n with
 | zero =>
  intro i_2056 i_2057 s_2058 o h _
  have h0 : none = some o := h
  cases h0
 | succ n ih =>
  intro i_2056 i_2057 s_2058 o h hp
  rw [ref10_Table_L4] at h
  refine ALp.round ?_
  generalize hQ : RoundQ _ _ _ _ = QQ
  simp only [B56_4, B56_3, A56, go_sem, seval]
  by_cases h_2059 : i_2057 ≤ y_2044
  ·
   rw [if_pos h_2059] at h
   have e_2060 := eq_true h_2059
   obtain ⟨x_2061, h_2062, h⟩ := bindS h
   have e_2063 : (List.map eI64 s_2058)[(i_2057).toNat]? = some [.int .i64 x_2061] := atI_map eI64 h_2062
   have e_2064 := eq_true (atI_some h_2062).1
   have e_2065 := eq_true (atI_lt h_2062)
   have e_2066 : (List.map eI64 s_2058).set (i_2057).toNat [.int .i64 y_2046] = List.map eI64 (List.set s_2058 (i_2057).toNat y_2046) := set_map s_2058 eI64 (i_2057).toNat y_2046
   simp only [e_2060, e_2063, e_2064, e_2065, e_2066, go_sem, seval]
   by_cases h_2067 : b_2 = true
   ·
    rw [if_pos h_2067] at h
    have e_2068 : b_2 = true := h_2067
    simp only [e_2060, e_2063, e_2064, e_2065, e_2066, e_2068, go_sem, seval]
    rw [← hQ]
    exact ⟨_, _, (Ref.std [0, 1, 2, 8, 10, 11, 12, 13, 17, 20, 21, 22] [0] (by decide) low0 (by first | rfl | simp only [go_sem, seval, e_2060, e_2068]) (by first | rfl | simp only [go_sem, seval])), (Nat.zero_le _), ih _ _ _ _ h hp⟩
   ·
    rw [if_neg h_2067] at h
    have e_2068 : b_2 = false := bfalse h_2067
    have e_2069 : (List.map eI64 (List.set s_2058 (i_2057).toNat y_2046))[(i_2057).toNat]? = some [.int .i64 y_2046] := set_at h_2062
    have e_2070 : (List.map eI64 (List.set s_2058 (i_2057).toNat y_2046)).set (i_2057).toNat [.int .i64 i_2056] = List.map eI64 (List.set (List.set s_2058 (i_2057).toNat y_2046) (i_2057).toNat i_2056) := set_map (List.set s_2058 (i_2057).toNat y_2046) eI64 (i_2057).toNat i_2056
    simp only [e_2060, e_2063, e_2064, e_2065, e_2066, e_2068, e_2069, e_2070, go_sem, seval]
    rw [← hQ]
    exact ⟨_, _, (Ref.std [0, 1, 2, 8, 10, 11, 12, 13, 17, 20, 21, 22] [0] (by decide) low0 (by first | rfl | simp only [go_sem, seval, e_2060, e_2068]) (by first | rfl | simp only [go_sem, seval])), (Nat.zero_le _), ih _ _ _ _ h hp⟩
  ·
   rw [if_neg h_2059] at h
   have e_2060 := eq_false h_2059
   simp only [e_2060, go_sem, seval]
   have g := Option.some.inj h
   subst g
   rw [← hQ]
   exact ⟨_, _, (Ref.std [0, 1, 2, 8, 10, 11, 12, 13, 17] [0] (by decide) low0 (by first | rfl | simp only [go_sem, seval, e_2060]) (by first | rfl | simp only [go_sem, seval])), hp⟩
theorem ref10_Table_L5_w (N : Nat) (l_0 : List Int) (a_1 : Int) (b_2 : Bool) (y_1004 : Int) (y_1008 : Int) (c_0 : Bool) {R : AExit → ATm → List AObj → Prop} : ∀ (n : Nat) (i_2024 : Int) (i_2025 : Int) (i_2026 : Int) (s_2027 : List Int) (o : ((List Int)) ⊕ ((List Int))), ref10_Table_L5 N l_0 a_1 b_2 y_1004 y_1008 n i_2024 i_2025 i_2026 s_2027 = some o → (match o with | .inl z_1 => R (.exit 4) ⟨175, [(8, .row 0 0 z_1.length)], []⟩ [.mem 1 (List.map eI64 z_1) 3] | .inr (z_1) => R .ret ⟨175, [(6, .row 0 0 z_1.length), (7, .bool false)], []⟩ [.mem 1 (List.map eI64 z_1) 3]) →
  ALp Try.prog 0 B56_3 ⟨175, [(0, .vec c_0 (List.map eU8 l_0)), (1, .int .i64 a_1), (2, .bool b_2), (8, .row 0 0 s_2027.length), (10, .int .i64 y_1004), (11, .int .i64 y_1008), (12, .int .i64 i_2024), (13, .int .i64 i_2025), (17, .int .i64 i_2026)], []⟩ [.mem 1 (List.map eI64 s_2027) 3] R := by
 intro n
 induction n with
 | zero =>
  intro i_2024 i_2025 i_2026 s_2027 o h _
  have h0 : none = some o := h
  cases h0
 | succ n ih =>
  intro i_2024 i_2025 i_2026 s_2027 o h hp
  rw [ref10_Table_L5] at h
  refine ALp.round ?_
  generalize hQ : RoundQ _ _ _ _ = QQ
  simp only [B56_3, A56, go_sem, seval]
  by_cases h_2028 : i_2026 < y_1008
  ·
   rw [if_pos h_2028] at h
   have e_2029 := eq_true h_2028
   simp only [e_2029, go_sem, seval]
   by_cases h_2030 : y_1004 = 1
   ·
    rw [if_pos h_2030] at h
    have e_2031 := eq_true h_2030
    obtain ⟨y_2032, h_2033, h⟩ := bindS h
    simp only [e_2029, e_2031, go_sem, seval]
    refine ACalls.use0 (ref10_U16_w N _ _ c_0 _ h_2033) rfl rfl ?_
    refine ck0 ?_
    simp only [e_2029, e_2031, go_sem, seval]
    by_cases h_2034 : y_2032 ≤ i_2025
    ·
     rw [if_pos h_2034] at h
     have e_2035 := eq_true h_2034
     simp only [e_2029, e_2031, e_2035, go_sem, seval]
     have g := Option.some.inj h
     subst g
     rw [← hQ]
     exact ⟨_, _, (Ref.std [6, 7] [0] (by decide) low0 rfl (by first | rfl | simp only [go_sem, seval])), hp⟩
    ·
     rw [if_neg h_2034] at h
     have e_2035 := eq_false h_2034
     obtain ⟨x_2036, h_2037, h⟩ := bindS h
     have e_2038 : (List.map eI64 s_2027)[(y_2032).toNat]? = some [.int .i64 x_2036] := atI_map eI64 h_2037
     have e_2039 := eq_true (atI_some h_2037).1
     have e_2040 := eq_true (atI_lt h_2037)
     have e_2041 : (List.map eI64 s_2027).set (y_2032).toNat [.int .i64 i_2026] = List.map eI64 (List.set s_2027 (y_2032).toNat i_2026) := set_map s_2027 eI64 (y_2032).toNat i_2026
     simp only [e_2029, e_2031, e_2035, e_2038, e_2039, e_2040, e_2041, go_sem, seval]
     rw [← hQ]
     exact ⟨_, _, (Ref.std [0, 1, 2, 8, 10, 11, 12, 13, 17] [0] (by decide) low0 (by first | rfl | simp only [go_sem, seval, e_2029, e_2031, e_2035]) (by first | rfl | simp only [go_sem, seval])), (Nat.zero_le _), ih _ _ _ _ _ h hp⟩
   ·
    rw [if_neg h_2030] at h
    have e_2031 := eq_false h_2030
    obtain ⟨y_2042, h_2043, h⟩ := bindS h
    simp only [e_2029, e_2031, go_sem, seval]
    refine ACalls.use0 (ref10_U16_w N _ _ c_0 _ h_2043) rfl rfl ?_
    refine ck0 ?_
    obtain ⟨y_2044, h_2045, h⟩ := bindS h
    simp only [e_2029, e_2031, go_sem, seval]
    refine ACalls.use0 (ref10_U16_w N _ _ c_0 _ h_2045) rfl rfl ?_
    refine ck0 ?_
    obtain ⟨y_2046, h_2047, h⟩ := bindS h
    simp only [e_2029, e_2031, go_sem, seval]
    refine ACalls.use0 (ref10_U16_w N _ _ c_0 _ h_2047) rfl rfl ?_
    refine ck0 ?_
    simp only [e_2029, e_2031, go_sem, seval]
    by_cases h_2048 : y_2046 < 0
    ·
     rw [if_pos h_2048] at h
     have e_2049 := eq_true h_2048
     simp only [e_2029, e_2031, e_2049, go_sem, seval]
     have g := Option.some.inj h
     subst g
     rw [← hQ]
     exact ⟨_, _, (Ref.std [6, 7] [0] (by decide) low0 rfl (by first | rfl | simp only [go_sem, seval])), hp⟩
    ·
     rw [if_neg h_2048] at h
     have e_2049 := eq_false h_2048
     simp only [e_2029, e_2031, e_2049, go_sem, seval]
     by_cases h_2050 : y_2042 ≤ i_2025
     ·
      rw [if_pos h_2050] at h
      have e_2051 := eq_true h_2050
      simp only [e_2029, e_2031, e_2049, e_2051, go_sem, seval]
      have g := Option.some.inj h
      subst g
      rw [← hQ]
      exact ⟨_, _, (Ref.std [6, 7] [0] (by decide) low0 rfl (by first | rfl | simp only [go_sem, seval])), hp⟩
     ·
      rw [if_neg h_2050] at h
      have e_2051 := eq_false h_2050
      simp only [e_2029, e_2031, e_2049, e_2051, go_sem, seval]
      by_cases h_2052 : y_2044 < y_2042
      ·
       rw [if_pos h_2052] at h
       have e_2053 := eq_true h_2052
       simp only [e_2029, e_2031, e_2049, e_2051, e_2053, go_sem, seval]
       have g := Option.some.inj h
       subst g
       rw [← hQ]
       exact ⟨_, _, (Ref.std [6, 7] [0] (by decide) low0 rfl (by first | rfl | simp only [go_sem, seval])), hp⟩
      ·
       rw [if_neg h_2052] at h
       have e_2053 := eq_false h_2052
       simp only [e_2029, e_2031, e_2049, e_2051, e_2053, go_sem, seval]
       by_cases h_2054 : b_2 = true
       ·
        rw [if_pos h_2054] at h
        have e_2055 : b_2 = true := h_2054
        simp only [e_2029, e_2031, e_2049, e_2051, e_2053, e_2055, go_sem, seval]
        obtain ⟨⟨y_3057, y_3058⟩, h_3056, h⟩ := bindS h
        try dsimp only at h
        refine ALp.ref (Ref.std [0, 1, 2, 8, 10, 11, 12, 13, 17, 20, 21, 22] [0] (by decide) low0 (by first | rfl | simp only [go_sem, seval, e_2029, e_2031, e_2049, e_2051, e_2053, e_2055]) (by first | rfl | simp only [go_sem, seval])) (Nat.zero_le _) (ref10_Table_L4_w N _ _ _ _ _ _ _ _ c_0 N _ _ _ _ h_3056 ?_)
        refine LoopK_go rfl (Nat.zero_le _) ?_
        simp only [e_2029, e_2031, e_2049, e_2051, e_2053, e_2055, go_sem, seval]
        rw [← hQ]
        exact ⟨_, _, (Ref.std [0, 1, 2, 8, 10, 11, 12, 13, 17] [0] (by decide) low0 (by first | rfl | simp only [go_sem, seval, e_2029, e_2031, e_2049, e_2051, e_2053, e_2055]) (by first | rfl | simp only [go_sem, seval])), (Nat.zero_le _), ih _ _ _ _ _ h hp⟩
       ·
        rw [if_neg h_2054] at h
        have e_2055 : b_2 = false := bfalse h_2054
        simp only [e_2029, e_2031, e_2049, e_2051, e_2053, e_2055, go_sem, seval]
        by_cases h_3059 : y_2046 = i_2024
        ·
         rw [if_pos h_3059] at h
         have e_3060 := eq_true h_3059
         simp only [e_2029, e_2031, e_2049, e_2051, e_2053, e_2055, e_3060, go_sem, seval]
         obtain ⟨⟨y_4062, y_4063⟩, h_4061, h⟩ := bindS h
         try dsimp only at h
         refine ALp.ref (Ref.std [0, 1, 2, 8, 10, 11, 12, 13, 17, 20, 21, 22] [0] (by decide) low0 (by first | rfl | simp only [go_sem, seval, e_2029, e_2031, e_2049, e_2051, e_2053, e_2055, e_3060]) (by first | rfl | simp only [go_sem, seval])) (Nat.zero_le _) (ref10_Table_L4_w N _ _ _ _ _ _ _ _ c_0 N _ _ _ _ h_4061 ?_)
         refine LoopK_go rfl (Nat.zero_le _) ?_
         simp only [e_2029, e_2031, e_2049, e_2051, e_2053, e_2055, e_3060, go_sem, seval]
         rw [← hQ]
         exact ⟨_, _, (Ref.std [0, 1, 2, 8, 10, 11, 12, 13, 17] [0] (by decide) low0 (by first | rfl | simp only [go_sem, seval, e_2029, e_2031, e_2049, e_2051, e_2053, e_2055, e_3060]) (by first | rfl | simp only [go_sem, seval])), (Nat.zero_le _), ih _ _ _ _ _ h hp⟩
        ·
         rw [if_neg h_3059] at h
         have e_3060 := eq_false h_3059
         simp only [e_2029, e_2031, e_2049, e_2051, e_2053, e_2055, e_3060, go_sem, seval]
         have g := Option.some.inj h
         subst g
         rw [← hQ]
         exact ⟨_, _, (Ref.std [6, 7] [0] (by decide) low0 rfl (by first | rfl | simp only [go_sem, seval])), hp⟩
  ·
   rw [if_neg h_2028] at h
   have e_2029 := eq_false h_2028
   simp only [e_2029, go_sem, seval]
   have g := Option.some.inj h
   subst g
   rw [← hQ]
   exact ⟨_, _, (Ref.std [8] [0] (by decide) low0 rfl (by first | rfl | simp only [go_sem, seval])), hp⟩
theorem ref10_Table_w (N : Nat) (l_0 : List Int) (a_1 : Int) (b_2 : Bool) (c_0 : Bool) (z_1 : List Int) (z_2 : Bool) (h : ref10_Table N l_0 a_1 b_2 = some (z_1, z_2)) :
  ACalls Try.prog 56 [.vec c_0 (List.map eU8 l_0), .int .i64 a_1, .bool b_2] [] (fun e H => H = [] ∧ e = .ret (.tup [.vec false (List.map eI64 z_1), .bool z_2])) := by
 unfold ref10_Table at h
 refine ACalls.goN Try.func56 n56 a56 Try.ntmps56 r56 (by simp) 0 rfl ?_
 generalize hQ : bodyA _ _ _ = QQ
 have e_1 : List.replicate 65536 [.int .i64 0] = List.map eI64 (List.replicate 65536 0) := rep_map _ eI64 0
 simp only [A56, e_1, go_sem, seval, -List.reduceReplicate]
 obtain ⟨y_1003, h_1002, h⟩ := bindS h
 refine ALp.ref (Ref.std [0, 1, 2, 8, 9] [0] (by decide) low0 (by simp only [go_sem, seval, -List.reduceReplicate]) (by simp only [go_sem, seval, -List.reduceReplicate])) (Nat.zero_le _) (ref10_Table_L1_w N _ _ _ c_0 N _ _ y_1003 h_1002 ?_)
 refine LoopK_go rfl (Nat.zero_le _) ?_
 obtain ⟨y_1004, h_1005, h⟩ := bindS h
 simp only [e_1, go_sem, seval, -List.reduceReplicate]
 refine ACalls.use0 (ref10_U16_w N _ _ c_0 _ h_1005) rfl rfl ?_
 refine ck0 ?_
 simp only [e_1, go_sem, seval, -List.reduceReplicate]
 by_cases h_1006 : y_1004 = 1
 ·
  rw [if_pos h_1006] at h
  have e_1007 := eq_true h_1006
  obtain ⟨y_1008, h_1009, h⟩ := bindS h
  simp only [e_1, e_1007, go_sem, seval, -List.reduceReplicate]
  refine ACalls.use0 (ref10_U16_w N _ _ c_0 _ h_1009) rfl rfl ?_
  refine ck0 ?_
  simp only [e_1, e_1007, go_sem, seval, -List.reduceReplicate]
  by_cases h_1010 : b_2 = true
  ·
   rw [if_pos h_1010] at h
   have e_1011 : b_2 = true := h_1010
   obtain ⟨y_1012, h_1013, h⟩ := bindS h
   simp only [e_1, e_1007, e_1011, go_sem, seval, -List.reduceReplicate]
   refine ACalls.use0 (ref10_U16_w N _ _ c_0 _ h_1013) rfl rfl ?_
   refine ck0 ?_
   simp only [e_1, e_1007, e_1011, go_sem, seval, -List.reduceReplicate]
   by_cases h_1014 : y_1012 < 0
   ·
    rw [if_pos h_1014] at h
    have e_1015 := eq_true h_1014
    simp only [e_1, e_1007, e_1011, e_1015, go_sem, seval, -List.reduceReplicate]
    obtain ⟨k_1, g_1⟩ := Prod.mk.inj (Option.some.inj h)
    subst k_1
    subst g_1
    rw [← hQ]
    exact ⟨rfl, _, rfl, _, _, (RefV.trans (RefV.frz (Nat.zero_le _) (id := 0) rfl (pures_map y_1003 eI64 (fun _ => rfl))) (RefV.out (by first | rfl | simp only [go_sem, seval, -List.reduceReplicate, e_1007, e_1011, e_1015]))), rfl, rfl⟩
   ·
    rw [if_neg h_1014] at h
    have e_1015 := eq_false h_1014
    simp only [e_1, e_1007, e_1011, e_1015, go_sem, seval, -List.reduceReplicate]
    by_cases h_1016 : 65536 < IntKind.i64.wrap (y_1008 + y_1012)
    ·
     rw [if_pos h_1016] at h
     have e_1017 := eq_true h_1016
     simp only [e_1, e_1007, e_1011, e_1015, e_1017, go_sem, seval, -List.reduceReplicate]
     obtain ⟨k_1, g_1⟩ := Prod.mk.inj (Option.some.inj h)
     subst k_1
     subst g_1
     rw [← hQ]
     exact ⟨rfl, _, rfl, _, _, (RefV.trans (RefV.frz (Nat.zero_le _) (id := 0) rfl (pures_map y_1003 eI64 (fun _ => rfl))) (RefV.out (by first | rfl | simp only [go_sem, seval, -List.reduceReplicate, e_1007, e_1011, e_1015, e_1017]))), rfl, rfl⟩
    ·
     rw [if_neg h_1016] at h
     have e_1017 := eq_false h_1016
     simp only [e_1, e_1007, e_1011, e_1015, e_1017, go_sem, seval, -List.reduceReplicate]
     obtain ⟨o_2021, h_2018, h⟩ := bindS h
     refine ALp.ref (Ref.std [0, 1, 8, 11, 14, 15] [0] (by decide) low0 rfl (by first | rfl | simp only [go_sem, seval, -List.reduceReplicate])) (Nat.zero_le _) (ref10_Table_L2_w N _ _ _ _ c_0 N _ _ o_2021 h_2018 ?_)
     rcases o_2021 with y_2019 | y_2020
     ·
      try dsimp only at h
      refine LoopK_go rfl (Nat.zero_le _) ?_
      simp only [e_1, e_1007, e_1011, e_1015, e_1017, go_sem, seval, -List.reduceReplicate]
      obtain ⟨k_1, g_1⟩ := Prod.mk.inj (Option.some.inj h)
      subst k_1
      subst g_1
      rw [← hQ]
      exact ⟨rfl, _, rfl, _, _, (RefV.trans (RefV.frz (Nat.zero_le _) (id := 0) rfl (pures_map y_2019 eI64 (fun _ => rfl))) (RefV.out (by first | rfl | simp only [go_sem, seval, -List.reduceReplicate, e_1007, e_1011, e_1015, e_1017]))), rfl, rfl⟩
     ·
      try dsimp only at h
      refine LoopK_ret ?_
      obtain ⟨k_1, g_1⟩ := Prod.mk.inj (Option.some.inj h)
      subst k_1
      subst g_1
      rw [← hQ]
      exact ⟨rfl, _, rfl, _, _, (RefV.trans (RefV.frz (Nat.zero_le _) (id := 0) rfl (pures_map y_2020 eI64 (fun _ => rfl))) (RefV.out (by first | rfl | simp only [go_sem, seval, -List.reduceReplicate, e_1007, e_1011, e_1015, e_1017]))), rfl, rfl⟩
  ·
   rw [if_neg h_1010] at h
   have e_1011 : b_2 = false := bfalse h_1010
   simp only [e_1, e_1007, e_1011, go_sem, seval, -List.reduceReplicate]
   by_cases h_2022 : y_1008 < 0
   ·
    rw [if_pos h_2022] at h
    have e_2023 := eq_true h_2022
    simp only [e_1, e_1007, e_1011, e_2023, go_sem, seval, -List.reduceReplicate]
    obtain ⟨k_1, g_1⟩ := Prod.mk.inj (Option.some.inj h)
    subst k_1
    subst g_1
    rw [← hQ]
    exact ⟨rfl, _, rfl, _, _, (RefV.trans (RefV.frz (Nat.zero_le _) (id := 0) rfl (pures_map y_1003 eI64 (fun _ => rfl))) (RefV.out (by first | rfl | simp only [go_sem, seval, -List.reduceReplicate, e_1007, e_1011, e_2023]))), rfl, rfl⟩
   ·
    rw [if_neg h_2022] at h
    have e_2023 := eq_false h_2022
    simp only [e_1, e_1007, e_1011, e_2023, go_sem, seval, -List.reduceReplicate]
    obtain ⟨o_3027, h_3024, h⟩ := bindS h
    refine ALp.ref (Ref.std [0, 1, 2, 8, 10, 11, 12, 13, 17] [0] (by decide) low0 (by first | rfl | simp only [go_sem, seval, -List.reduceReplicate, e_1007, e_1011, e_2023]) (by first | rfl | simp only [go_sem, seval, -List.reduceReplicate])) (Nat.zero_le _) (ref10_Table_L5_w N _ _ _ _ _ c_0 N _ _ _ _ o_3027 h_3024 ?_)
    rcases o_3027 with y_3025 | y_3026
    ·
     try dsimp only at h
     refine LoopK_go rfl (Nat.zero_le _) ?_
     simp only [e_1, e_1007, e_1011, e_2023, go_sem, seval, -List.reduceReplicate]
     obtain ⟨k_1, g_1⟩ := Prod.mk.inj (Option.some.inj h)
     subst k_1
     subst g_1
     rw [← hQ]
     exact ⟨rfl, _, rfl, _, _, (RefV.trans (RefV.frz (Nat.zero_le _) (id := 0) rfl (pures_map y_3025 eI64 (fun _ => rfl))) (RefV.out (by first | rfl | simp only [go_sem, seval, -List.reduceReplicate, e_1007, e_1011, e_2023]))), rfl, rfl⟩
    ·
     try dsimp only at h
     refine LoopK_ret ?_
     obtain ⟨k_1, g_1⟩ := Prod.mk.inj (Option.some.inj h)
     subst k_1
     subst g_1
     rw [← hQ]
     exact ⟨rfl, _, rfl, _, _, (RefV.trans (RefV.frz (Nat.zero_le _) (id := 0) rfl (pures_map y_3026 eI64 (fun _ => rfl))) (RefV.out (by first | rfl | simp only [go_sem, seval, -List.reduceReplicate, e_1007, e_1011, e_2023]))), rfl, rfl⟩
 ·
  rw [if_neg h_1006] at h
  have e_1007 := eq_false h_1006
  simp only [e_1, e_1007, go_sem, seval, -List.reduceReplicate]
  by_cases h_3028 : y_1004 = 2
  ·
   rw [if_pos h_3028] at h
   have e_3029 := eq_true h_3028
   obtain ⟨y_3030, h_3031, h⟩ := bindS h
   simp only [e_1, e_1007, e_3029, go_sem, seval, -List.reduceReplicate]
   refine ACalls.use0 (ref10_U16_w N _ _ c_0 _ h_3031) rfl rfl ?_
   refine ck0 ?_
   simp only [e_1, e_1007, e_3029, go_sem, seval, -List.reduceReplicate]
   by_cases h_3032 : y_3030 < 0
   ·
    rw [if_pos h_3032] at h
    have e_3033 := eq_true h_3032
    simp only [e_1, e_1007, e_3029, e_3033, go_sem, seval, -List.reduceReplicate]
    obtain ⟨k_1, g_1⟩ := Prod.mk.inj (Option.some.inj h)
    subst k_1
    subst g_1
    rw [← hQ]
    exact ⟨rfl, _, rfl, _, _, (RefV.trans (RefV.frz (Nat.zero_le _) (id := 0) rfl (pures_map y_1003 eI64 (fun _ => rfl))) (RefV.out (by first | rfl | simp only [go_sem, seval, -List.reduceReplicate, e_1007, e_3029, e_3033]))), rfl, rfl⟩
   ·
    rw [if_neg h_3032] at h
    have e_3033 := eq_false h_3032
    simp only [e_1, e_1007, e_3029, e_3033, go_sem, seval, -List.reduceReplicate]
    obtain ⟨o_4037, h_4034, h⟩ := bindS h
    refine ALp.ref (Ref.std [0, 1, 2, 8, 10, 11, 12, 13, 17] [0] (by decide) low0 (by first | rfl | simp only [go_sem, seval, -List.reduceReplicate, e_1007, e_3029, e_3033]) (by first | rfl | simp only [go_sem, seval, -List.reduceReplicate])) (Nat.zero_le _) (ref10_Table_L5_w N _ _ _ _ _ c_0 N _ _ _ _ o_4037 h_4034 ?_)
    rcases o_4037 with y_4035 | y_4036
    ·
     try dsimp only at h
     refine LoopK_go rfl (Nat.zero_le _) ?_
     simp only [e_1, e_1007, e_3029, e_3033, go_sem, seval, -List.reduceReplicate]
     obtain ⟨k_1, g_1⟩ := Prod.mk.inj (Option.some.inj h)
     subst k_1
     subst g_1
     rw [← hQ]
     exact ⟨rfl, _, rfl, _, _, (RefV.trans (RefV.frz (Nat.zero_le _) (id := 0) rfl (pures_map y_4035 eI64 (fun _ => rfl))) (RefV.out (by first | rfl | simp only [go_sem, seval, -List.reduceReplicate, e_1007, e_3029, e_3033]))), rfl, rfl⟩
    ·
     try dsimp only at h
     refine LoopK_ret ?_
     obtain ⟨k_1, g_1⟩ := Prod.mk.inj (Option.some.inj h)
     subst k_1
     subst g_1
     rw [← hQ]
     exact ⟨rfl, _, rfl, _, _, (RefV.trans (RefV.frz (Nat.zero_le _) (id := 0) rfl (pures_map y_4036 eI64 (fun _ => rfl))) (RefV.out (by first | rfl | simp only [go_sem, seval, -List.reduceReplicate, e_1007, e_3029, e_3033]))), rfl, rfl⟩
  ·
   rw [if_neg h_3028] at h
   have e_3029 := eq_false h_3028
   simp only [e_1, e_1007, e_3029, go_sem, seval, -List.reduceReplicate]
   obtain ⟨k_1, g_1⟩ := Prod.mk.inj (Option.some.inj h)
   subst k_1
   subst g_1
   rw [← hQ]
   exact ⟨rfl, _, rfl, _, _, (RefV.trans (RefV.frz (Nat.zero_le _) (id := 0) rfl (pures_map y_1003 eI64 (fun _ => rfl))) (RefV.out (by first | rfl | simp only [go_sem, seval, -List.reduceReplicate, e_1007, e_3029]))), rfl, rfl⟩
theorem ref10_Cover_L1_w (N : Nat) (y_1 : List Int) {R : AExit → ATm → List AObj → Prop} : ∀ (n : Nat) (i_7 : Int) (s_8 : List Bool) (o : (List Bool)), ref10_Cover_L1 N y_1 n i_7 s_8 = some o → (match o with | z_1 => R (.exit 0) ⟨33, [(8, .row 0 0 z_1.length)], []⟩ [.mem 1 (List.map eB z_1) 4]) →
  ALp Try.prog 0 B19_1 ⟨33, [(6, .vec false (List.map eI64 y_1)), (8, .row 0 0 s_8.length), (9, .int .i64 i_7)], []⟩ [.mem 1 (List.map eB s_8) 4] R := by
 intro n
 induction n with
 | zero =>
  intro i_7 s_8 o h _
  have h0 : none = some o := h
  cases h0
 | succ n ih =>
  intro i_7 s_8 o h hp
  rw [ref10_Cover_L1] at h
  refine ALp.round ?_
  generalize hQ : RoundQ _ _ _ _ = QQ
  simp only [B19_1, A19, go_sem, seval]
  by_cases h_9 : i_7 < 65536
  ·
   rw [if_pos h_9] at h
   have e_10 := eq_true h_9
   obtain ⟨x_11, h_12, h⟩ := bindS h
   have e_13 : (List.map eI64 y_1)[(i_7).toNat]? = some [.int .i64 x_11] := atI_map eI64 h_12
   have e_14 := eq_true (atI_some h_12).1
   have e_15 := eq_true (atI_lt h_12)
   obtain ⟨x_16, h_17, h⟩ := bindS h
   have e_18 : (List.map eB s_8)[(i_7).toNat]? = some [.bool x_16] := atI_map eB h_17
   have e_19 := eq_true (atI_some h_17).1
   have e_20 := eq_true (atI_lt h_17)
   have e_21 : (List.map eB s_8).set (i_7).toNat [.bool (decide (0 ≤ x_11))] = List.map eB (List.set s_8 (i_7).toNat (decide (0 ≤ x_11))) := set_map s_8 eB (i_7).toNat (decide (0 ≤ x_11))
   simp only [e_10, e_13, e_14, e_15, e_18, e_19, e_20, e_21, go_sem, seval]
   rw [← hQ]
   exact ⟨_, _, (Ref.std [6, 8, 9] [0] (by decide) low0 (by first | rfl | simp only [go_sem, seval]) (by first | rfl | simp only [go_sem, seval])), (Nat.zero_le _), ih _ _ _ h hp⟩
  ·
   rw [if_neg h_9] at h
   have e_10 := eq_false h_9
   simp only [e_10, go_sem, seval]
   have g := Option.some.inj h
   subst g
   rw [← hQ]
   exact ⟨_, _, (Ref.std [8] [0] (by decide) low0 rfl (by first | rfl | simp only [go_sem, seval])), hp⟩
theorem ref10_Spans_row_L3_w (N : Nat) (i_1 : Int) (l_0 : List Bool) (s_2 : List TSpan) {R : AExit → ATm → List AObj → Prop} : ∀ (n : Nat) (i_12 : Int) (o : Int), ref10_Spans_row_L3 N i_1 l_0 s_2 n i_12 = some o → (match o with | z_1 => R (.exit 2) ⟨40, [(0, .row 0 0 l_0.length), (3, .row 1 0 s_2.length), (4, .int .i64 i_1), (5, .int .i64 z_1)], []⟩ [.mem 1 (List.map eB l_0) 4, .mem 2 (List.map eTSpan s_2) 38]) →
  ALp Try.prog 1 B35_2 ⟨40, [(0, .row 0 0 l_0.length), (3, .row 1 0 s_2.length), (4, .int .i64 i_1), (5, .int .i64 i_12)], []⟩ [.mem 1 (List.map eB l_0) 4, .mem 2 (List.map eTSpan s_2) 38] R := by
 intro n
 induction n with
 | zero =>
  intro i_12 o h _
  have h0 : none = some o := h
  cases h0
 | succ n ih =>
  intro i_12 o h hp
  rw [ref10_Spans_row_L3] at h
  refine ALp.round ?_
  generalize hQ : RoundQ _ _ _ _ = QQ
  simp only [B35_2, B35_1, A35, go_sem, seval]
  by_cases h_13 : IntKind.i64.wrap (i_12 + 1) < (l_0.length : Int)
  ·
   rw [if_pos h_13] at h
   have e_14 := eq_true h_13
   obtain ⟨x_15, h_16, h⟩ := bindS h
   have e_17 : (List.map eB l_0)[(IntKind.i64.wrap (i_12 + 1)).toNat]? = some [.bool x_15] := atI_map eB h_16
   have e_18 := eq_true (atI_some h_16).1
   have e_19 := eq_true (atI_lt h_16)
   simp only [e_14, e_17, e_18, e_19, go_sem, seval]
   by_cases h_20 : x_15 = true
   ·
    rw [if_pos h_20] at h
    have e_21 : x_15 = true := h_20
    simp only [e_14, e_17, e_18, e_19, e_21, go_sem, seval]
    rw [← hQ]
    exact ⟨_, _, (Ref.std [0, 3, 4, 5] [0, 1] (by decide) (by decide) rfl (by first | rfl | simp only [go_sem, seval])), (by simp), ih _ _ h hp⟩
   ·
    rw [if_neg h_20] at h
    have e_21 : x_15 = false := bfalse h_20
    simp only [e_14, e_17, e_18, e_19, e_21, go_sem, seval]
    have g := Option.some.inj h
    subst g
    rw [← hQ]
    exact ⟨_, _, (Ref.std [0, 3, 4, 5] [0, 1] (by decide) (by decide) rfl (by first | rfl | simp only [go_sem, seval])), hp⟩
  ·
   rw [if_neg h_13] at h
   have e_14 := eq_false h_13
   simp only [e_14, go_sem, seval]
   have g := Option.some.inj h
   subst g
   rw [← hQ]
   exact ⟨_, _, (Ref.std [0, 3, 4, 5] [0, 1] (by decide) (by decide) rfl (by first | rfl | simp only [go_sem, seval])), hp⟩
theorem ref10_Spans_row_L4_w (N : Nat) (l_0 : List Bool) {R : AExit → ATm → List AObj → Prop} : ∀ (n : Nat) (i_1 : Int) (s_2 : List TSpan) (o : (List TSpan)), ref10_Spans_row_L4 N l_0 n i_1 s_2 = some o → (match o with | z_1 => R (.exit 0) ⟨40, [(3, .row 1 0 z_1.length)], []⟩ [.mem 1 (List.map eB l_0) 4, .mem 2 (List.map eTSpan z_1) 38]) →
  ALp Try.prog 1 B35_1 ⟨40, [(0, .row 0 0 l_0.length), (3, .row 1 0 s_2.length), (4, .int .i64 i_1)], []⟩ [.mem 1 (List.map eB l_0) 4, .mem 2 (List.map eTSpan s_2) 38] R := by
 intro n
 induction n with
 | zero =>
  intro i_1 s_2 o h _
  have h0 : none = some o := h
  cases h0
 | succ n ih =>
  intro i_1 s_2 o h hp
  rw [ref10_Spans_row_L4] at h
  refine ALp.round ?_
  generalize hQ : RoundQ _ _ _ _ = QQ
  simp only [B35_1, A35, go_sem, seval]
  by_cases h_3 : i_1 < (l_0.length : Int)
  ·
   rw [if_pos h_3] at h
   have e_4 := eq_true h_3
   obtain ⟨x_5, h_6, h⟩ := bindS h
   have e_7 : (List.map eB l_0)[(i_1).toNat]? = some [.bool x_5] := atI_map eB h_6
   have e_8 := eq_true (atI_some h_6).1
   have e_9 := eq_true (atI_lt h_6)
   simp only [e_4, e_7, e_8, e_9, go_sem, seval]
   by_cases h_10 : x_5 = true
   ·
    rw [if_pos h_10] at h
    have e_11 : x_5 = true := h_10
    simp only [e_4, e_7, e_8, e_9, e_11, go_sem, seval]
    obtain ⟨y_1013, h_1012, h⟩ := bindS h
    refine ALp.ref (Ref.std [0, 3, 4, 5] [0, 1] (by decide) (by decide) rfl (by first | rfl | simp only [go_sem, seval])) (by simp) (ref10_Spans_row_L3_w N _ _ _ N _ y_1013 h_1012 ?_)
    refine LoopK_go rfl (by simp) ?_
    have e_1014 : List.take s_2.length (List.map eTSpan s_2) = (List.map eTSpan s_2) := List.take_of_length_le (by simp)
    have e_1015 : (List.map eTSpan s_2) ++ [[.int .i64 i_1, .int .i64 y_1013]] = (List.map eTSpan (s_2 ++ [TSpan.mk i_1 y_1013])) := app_map s_2 ([TSpan.mk i_1 y_1013]) eTSpan
    obtain ⟨h_1016, h⟩ := guardS h
    have e_1017 := eq_true h_1016
    simp only [e_4, e_7, e_8, e_9, e_11, e_1014, e_1015, e_1017, go_sem, seval]
    rw [← hQ]
    exact ⟨_, _, (Ref.std [0, 3, 4] [0, 2] (by decide) (by decide) (by first | rfl | simp only [go_sem, seval]) (by first | rfl | simp only [go_sem, seval])), (by simp), ih _ _ _ h hp⟩
   ·
    rw [if_neg h_10] at h
    have e_11 : x_5 = false := bfalse h_10
    simp only [e_4, e_7, e_8, e_9, e_11, go_sem, seval]
    rw [← hQ]
    exact ⟨_, _, (Ref.std [0, 3, 4] [0, 1] (by decide) (by decide) rfl (by first | rfl | simp only [go_sem, seval])), (by simp), ih _ _ _ h hp⟩
  ·
   rw [if_neg h_3] at h
   have e_4 := eq_false h_3
   simp only [e_4, go_sem, seval]
   have g := Option.some.inj h
   subst g
   rw [← hQ]
   exact ⟨_, _, (Ref.std [3] [0, 1] (by decide) (by decide) rfl (by first | rfl | simp only [go_sem, seval])), hp⟩
theorem ref10_Spans_row_w (N : Nat) (l_0 : List Bool) (z_1 : List TSpan) (h : ref10_Spans_row N l_0 = some z_1) :
  ACalls Try.prog 35 [.row 0 0 l_0.length] [.mem 1 (List.map eB l_0) 4] (fun e H => H = [.mem 1 (List.map eB l_0) 4] ∧ e = .ret (.vec false (List.map eTSpan z_1))) := by
 unfold ref10_Spans_row at h
 refine ACalls.goN Try.func35 n35 a35 Try.ntmps35 r35 (by simp) 1 rfl ?_
 generalize hQ : bodyA _ _ _ = QQ
 simp only [A35, go_sem, seval]
 obtain ⟨y_1002, h_1001, h⟩ := bindS h
 refine ALp.ref (Ref.trans (Ref.thaw (by simp) 3 rfl (sz := 2) (by decide) 38) (Ref.std [0, 3, 4] [0, 1] (by decide) (by decide) rfl (by first | rfl | simp only [go_sem, seval]))) (by simp) (ref10_Spans_row_L4_w N _ N _ _ y_1002 h_1001 ?_)
 refine LoopK_go rfl (by simp) ?_
 simp only [go_sem, seval]
 have g_0 := Option.some.inj h
 subst g_0
 rw [← hQ]
 exact ⟨rfl, _, rfl, _, _, (RefV.trans (RefV.frz (by simp) (id := 1) rfl (pures_map y_1002 eTSpan (fun _ => rfl))) (RefV.std [0] (by decide) (by decide) (by first | rfl | simp only [go_sem, seval]) (by first | rfl | simp only [go_sem, seval]))), rfl, rfl⟩
theorem ref10_Cover_w (N : Nat) (l_0 : List Int) (a_1 : Int) (c_0 : Bool) (z_1 : List TSpan) (z_2 : Bool) (h : ref10_Cover N l_0 a_1 = some (z_1, z_2)) :
  ACalls Try.prog 19 [.vec c_0 (List.map eU8 l_0), .int .i64 a_1] [] (fun e H => H = [] ∧ e = .ret (.tup [.vec false (List.map eTSpan z_1), .bool z_2])) := by
 unfold ref10_Cover at h
 refine ACalls.goN Try.func19 n19 a19 Try.ntmps19 r19 (by simp) 0 rfl ?_
 generalize hQ : bodyA _ _ _ = QQ
 obtain ⟨⟨y_1, y_2⟩, h_3, h⟩ := bindS h
 try dsimp only at h
 simp only [A19, go_sem, seval, -List.reduceReplicate]
 refine ACalls.use0 (ref10_Table_w N _ _ _ c_0 _ _ h_3) rfl rfl ?_
 refine ck0 ?_
 simp only [go_sem, seval, -List.reduceReplicate]
 by_cases h_4 : y_2 = true
 ·
  rw [if_pos h_4] at h
  have e_5 : y_2 = true := h_4
  have e_6 : List.replicate 65536 [.bool false] = List.map eB (List.replicate 65536 false) := rep_map _ eB false
  simp only [e_5, e_6, go_sem, seval, -List.reduceReplicate]
  obtain ⟨y_1008, h_1007, h⟩ := bindS h
  refine ALp.ref (Ref.std [6, 8, 9] [0] (by decide) low0 (by simp only [go_sem, seval, -List.reduceReplicate]) (by simp only [go_sem, seval, -List.reduceReplicate])) (Nat.zero_le _) (ref10_Cover_L1_w N _ N _ _ y_1008 h_1007 ?_)
  refine LoopK_go rfl (Nat.zero_le _) ?_
  obtain ⟨y_1009, h_1010, h⟩ := bindS h
  simp only [e_5, e_6, go_sem, seval, -List.reduceReplicate]
  refine ACalls.useA (ref10_Spans_row_w N _ _ h_1010) [0] (v' := .vec false (List.map eTSpan y_1009)) (H' := [.mem 1 (List.map eB y_1008) 4]) ?_
  refine ck0 ?_
  simp only [e_5, e_6, go_sem, seval, -List.reduceReplicate]
  obtain ⟨k_1, g_1⟩ := Prod.mk.inj (Option.some.inj h)
  subst k_1
  subst g_1
  rw [← hQ]
  exact ⟨rfl, _, rfl, _, _, (RefV.out rfl), rfl, rfl⟩
 ·
  rw [if_neg h_4] at h
  have e_5 : y_2 = false := bfalse h_4
  simp only [e_5, go_sem, seval, -List.reduceReplicate]
  obtain ⟨k_1, g_1⟩ := Prod.mk.inj (Option.some.inj h)
  subst k_1
  subst g_1
  rw [← hQ]
  exact ⟨rfl, _, rfl, _, _, outVB, rfl, rfl⟩
theorem ref11_Covers_L1_w (N : Nat) (l_0 : List Int) (a_1 : Int) (l_2 : List Int) (c_0 : Bool) (c_1 : Bool) {R : AExit → ATm → List AObj → Prop} : ∀ (n : Nat) (i_1 : Int) (s_2 : List TSet) (o : ((List TSet)) ⊕ (Unit)), ref11_Covers_L1 N l_0 a_1 l_2 n i_1 s_2 = some o → (match o with | .inl z_1 => R (.exit 0) ⟨37, [(8, .row 0 0 z_1.length)], []⟩ [.mem 2 (List.map eTSet z_1) 36] | .inr (_) => R .ret ⟨37, [(6, .vec true []), (7, .bool false)], []⟩ []) →
  ALp Try.prog 0 B87_1 ⟨37, [(0, .vec c_0 (List.map eU8 l_0)), (1, .int .i64 a_1), (2, .vec c_1 (List.map eI64 l_2)), (8, .row 0 0 s_2.length), (9, .int .i64 i_1)], []⟩ [.mem 2 (List.map eTSet s_2) 36] R := by
 intro n
 induction n with
 | zero =>
  intro i_1 s_2 o h _
  have h0 : none = some o := h
  cases h0
 | succ n ih =>
  intro i_1 s_2 o h hp
  rw [ref11_Covers_L1] at h
  refine ALp.round ?_
  generalize hQ : RoundQ _ _ _ _ = QQ
  simp only [B87_1, A87, go_sem, seval]
  by_cases h_3 : i_1 < (l_2.length : Int)
  ·
   rw [if_pos h_3] at h
   have e_4 := eq_true h_3
   obtain ⟨x_5, h_6, h⟩ := bindS h
   have e_7 : (List.map eI64 l_2)[(i_1).toNat]? = some [.int .i64 x_5] := atI_map eI64 h_6
   have e_8 := eq_true (atI_some h_6).1
   have e_9 := eq_true (atI_lt h_6)
   obtain ⟨⟨y_10, y_11⟩, h_12, h⟩ := bindS h
   try dsimp only at h
   simp only [e_4, e_7, e_8, e_9, go_sem, seval]
   refine ACalls.use0 (ref10_Cover_w N _ _ c_0 _ _ h_12) rfl rfl ?_
   refine ck0 ?_
   simp only [e_4, e_7, e_8, e_9, go_sem, seval]
   by_cases h_13 : y_11 = true
   ·
    rw [if_pos h_13] at h
    have e_14 : y_11 = true := h_13
    have e_15 : List.take s_2.length (List.map eTSet s_2) = (List.map eTSet s_2) := List.take_of_length_le (by simp)
    have e_16 : (List.map eTSet s_2) ++ [[.vec false (List.map eTSpan y_10), .bool false]] = (List.map eTSet (s_2 ++ [TSet.mk y_10 false])) := app_map s_2 ([TSet.mk y_10 false]) eTSet
    obtain ⟨h_17, h⟩ := guardS h
    have e_18 := eq_true h_17
    simp only [e_4, e_7, e_8, e_9, e_14, e_15, e_16, e_18, go_sem, seval]
    rw [← hQ]
    exact ⟨_, _, (Ref.std [0, 1, 2, 8, 9] [1] (by decide) low0 (by first | rfl | simp only [go_sem, seval]) (by first | rfl | simp only [go_sem, seval])), (Nat.zero_le _), ih _ _ _ h hp⟩
   ·
    rw [if_neg h_13] at h
    have e_14 : y_11 = false := bfalse h_13
    simp only [e_4, e_7, e_8, e_9, e_14, go_sem, seval]
    have g := Option.some.inj h
    subst g
    rw [← hQ]
    exact ⟨_, _, (Ref.out [6, 7] rfl), hp⟩
  ·
   rw [if_neg h_3] at h
   have e_4 := eq_false h_3
   simp only [e_4, go_sem, seval]
   have g := Option.some.inj h
   subst g
   rw [← hQ]
   exact ⟨_, _, (Ref.std [8] [0] (by decide) low0 rfl (by first | rfl | simp only [go_sem, seval])), hp⟩
theorem ref11_Covers_w (N : Nat) (l_0 : List Int) (a_1 : Int) (l_2 : List Int) (c_0 : Bool) (c_1 : Bool) (z_1 : List TSet) (z_2 : Bool) (h : ref11_Covers N l_0 a_1 l_2 = some (z_1, z_2)) :
  ACalls Try.prog 87 [.vec c_0 (List.map eU8 l_0), .int .i64 a_1, .vec c_1 (List.map eI64 l_2)] [] (fun e H => H = [] ∧ e = .ret (.tup [.vec false (List.map eTSet z_1), .bool z_2])) := by
 unfold ref11_Covers at h
 refine ACalls.goN Try.func87 n87 a87 Try.ntmps87 r87 (by simp) 0 rfl ?_
 generalize hQ : bodyA _ _ _ = QQ
 simp only [A87, go_sem, seval]
 obtain ⟨o_1003, h_1001, h⟩ := bindS h
 refine ALp.ref (Ref.trans (Ref.thaw (Nat.zero_le _) 8 rfl (sz := 2) (by decide) 36) (Ref.std [0, 1, 2, 8, 9] [0] (by decide) low0 rfl (by first | rfl | simp only [go_sem, seval]))) (Nat.zero_le _) (ref11_Covers_L1_w N _ _ _ c_0 c_1 N _ _ o_1003 h_1001 ?_)
 rcases o_1003 with y_1002 | _
 ·
  try dsimp only at h
  refine LoopK_go rfl (Nat.zero_le _) ?_
  simp only [go_sem, seval]
  obtain ⟨k_1, g_1⟩ := Prod.mk.inj (Option.some.inj h)
  subst k_1
  subst g_1
  rw [← hQ]
  exact ⟨rfl, _, rfl, _, _, (RefV.trans (RefV.frz (Nat.zero_le _) (id := 0) rfl (pures_map y_1002 eTSet (fun _ => rfl))) (RefV.out (by first | rfl | simp only [go_sem, seval]))), rfl, rfl⟩
 ·
  try dsimp only at h
  refine LoopK_ret ?_
  obtain ⟨k_1, g_1⟩ := Prod.mk.inj (Option.some.inj h)
  subst k_1
  subst g_1
  rw [← hQ]
  exact ⟨rfl, _, rfl, _, _, outVB, rfl, rfl⟩
theorem ref11_Third_L1_w (N : Nat) (l_0 : List Int) (a_1 : Int) (c_0 : Bool) {R : AExit → ATm → List AObj → Prop} : ∀ (n : Nat) (i_3 : Int) (i_4 : Int) (s_5 : List TSet) (s_6 : List TSet) (s_7 : List TSet) (o : (Int × (List TSet) × (List TSet) × (List TSet)) ⊕ (Unit)), ref11_Third_L1 N l_0 a_1 n i_3 i_4 s_5 s_6 s_7 = some o → (match o with | .inl (z_1, z_2, z_3, z_4) => R (.exit 0) ⟨159, [(0, .vec c_0 (List.map eU8 l_0)), (8, .ptr 0 0 0), (17, .int .i64 z_1)], []⟩ [.box [.vec false (List.map eTSet z_2), .vec false (List.map eTSet z_3), .vec false (List.map eTSet z_4), .vec true []] 61] | .inr (_) => R .ret ⟨159, [(6, .vec true []), (7, .bool false)], []⟩ []) →
  ALp Try.prog 0 B65_1 ⟨159, [(0, .vec c_0 (List.map eU8 l_0)), (1, .int .i64 a_1), (8, .ptr 0 0 0), (17, .int .i64 i_3), (18, .int .i64 i_4)], []⟩ [.box [.vec false (List.map eTSet s_5), .vec false (List.map eTSet s_6), .vec false (List.map eTSet s_7), .vec true []] 61] R := by
 intro n
 induction n with
 | zero =>
  intro i_3 i_4 s_5 s_6 s_7 o h _
  have h0 : none = some o := h
  cases h0
 | succ n ih =>
  intro i_3 i_4 s_5 s_6 s_7 o h hp
  rw [ref11_Third_L1] at h
  refine ALp.round ?_
  generalize hQ : RoundQ _ _ _ _ = QQ
  simp only [B65_1, A65, go_sem, seval]
  by_cases h_8 : i_4 < 3
  ·
   rw [if_pos h_8] at h
   have e_9 := eq_true h_8
   simp only [e_9, go_sem, seval]
   by_cases h_10 : i_4 = 1
   ·
    rw [if_pos h_10] at h
    have e_11 := eq_true h_10
    obtain ⟨⟨y_12, y_13, y_14⟩, h_15, h⟩ := bindS h
    try dsimp only at h
    simp only [e_9, e_11, go_sem, seval]
    refine ACalls.use0 (ref11_Seq_w N _ _ _ _ c_0 _ _ _ h_15) rfl rfl ?_
    refine ck0 ?_
    obtain ⟨⟨y_16, y_17⟩, h_18, h⟩ := bindS h
    try dsimp only at h
    simp only [e_9, e_11, go_sem, seval]
    refine ACalls.use0 (ref11_Covers_w N _ _ _ c_0 false _ _ h_18) rfl rfl ?_
    refine ck0 ?_
    simp only [e_9, e_11, go_sem, seval]
    by_cases h_19 : y_14 = true
    ·
     rw [if_pos h_19] at h
     have e_20 : y_14 = true := h_19
     simp only [e_9, e_11, e_20, go_sem, seval]
     by_cases h_21 : y_17 = true
     ·
      rw [if_pos h_21] at h
      have e_22 : y_17 = true := h_21
      simp only [e_9, e_11, e_20, e_22, go_sem, seval]
      by_cases h_23 : i_4 = 0
      ·
       rw [if_pos h_23] at h
       have e_24 := eq_true h_23
       simp only [e_9, e_11, e_20, e_22, e_24, go_sem, seval]
       rw [← hQ]
       exact ⟨_, _, (Ref.std [0, 1, 8, 17, 18] [0] (by decide) low0 rfl rfl), (Nat.zero_le _), ih _ _ _ _ _ _ h hp⟩
      ·
       rw [if_neg h_23] at h
       have e_24 := eq_false h_23
       simp only [e_9, e_11, e_20, e_22, e_24, go_sem, seval]
       rw [← hQ]
       exact ⟨_, _, (Ref.std [0, 1, 8, 17, 18] [0] (by decide) low0 rfl rfl), (Nat.zero_le _), ih _ _ _ _ _ _ h hp⟩
     ·
      rw [if_neg h_21] at h
      have e_22 : y_17 = false := bfalse h_21
      simp only [e_9, e_11, e_20, e_22, go_sem, seval]
      have g := Option.some.inj h
      subst g
      rw [← hQ]
      exact ⟨_, _, (Ref.out [6, 7] rfl), hp⟩
    ·
     rw [if_neg h_19] at h
     have e_20 : y_14 = false := bfalse h_19
     simp only [e_9, e_11, e_20, go_sem, seval]
     have g := Option.some.inj h
     subst g
     rw [← hQ]
     exact ⟨_, _, (Ref.out [6, 7] rfl), hp⟩
   ·
    rw [if_neg h_10] at h
    have e_11 := eq_false h_10
    obtain ⟨⟨y_25, y_26, y_27⟩, h_28, h⟩ := bindS h
    try dsimp only at h
    simp only [e_9, e_11, go_sem, seval]
    refine ACalls.use0 (ref11_Seq_w N _ _ _ _ c_0 _ _ _ h_28) rfl rfl ?_
    refine ck0 ?_
    obtain ⟨⟨y_29, y_30⟩, h_31, h⟩ := bindS h
    try dsimp only at h
    simp only [e_9, e_11, go_sem, seval]
    refine ACalls.use0 (ref11_Covers_w N _ _ _ c_0 false _ _ h_31) rfl rfl ?_
    refine ck0 ?_
    simp only [e_9, e_11, go_sem, seval]
    by_cases h_32 : y_27 = true
    ·
     rw [if_pos h_32] at h
     have e_33 : y_27 = true := h_32
     simp only [e_9, e_11, e_33, go_sem, seval]
     by_cases h_34 : y_30 = true
     ·
      rw [if_pos h_34] at h
      have e_35 : y_30 = true := h_34
      simp only [e_9, e_11, e_33, e_35, go_sem, seval]
      by_cases h_36 : i_4 = 0
      ·
       rw [if_pos h_36] at h
       have e_37 := eq_true h_36
       simp only [e_9, e_11, e_33, e_35, e_37, go_sem, seval]
       rw [← hQ]
       exact ⟨_, _, (Ref.std [0, 1, 8, 17, 18] [0] (by decide) low0 rfl rfl), (Nat.zero_le _), ih _ _ _ _ _ _ h hp⟩
      ·
       rw [if_neg h_36] at h
       have e_37 := eq_false h_36
       simp only [e_9, e_11, e_33, e_35, e_37, go_sem, seval]
       by_cases h_38 : i_4 = 2
       ·
        rw [if_pos h_38] at h
        have e_39 := eq_true h_38
        simp only [e_9, e_11, e_33, e_35, e_37, e_39, go_sem, seval]
        rw [← hQ]
        exact ⟨_, _, (Ref.std [0, 1, 8, 17, 18] [0] (by decide) low0 rfl rfl), (Nat.zero_le _), ih _ _ _ _ _ _ h hp⟩
       ·
        rw [if_neg h_38] at h
        have e_39 := eq_false h_38
        simp only [e_9, e_11, e_33, e_35, e_37, e_39, go_sem, seval]
        rw [← hQ]
        exact ⟨_, _, (Ref.std [0, 1, 8, 17, 18] [0] (by decide) low0 rfl rfl), (Nat.zero_le _), ih _ _ _ _ _ _ h hp⟩
     ·
      rw [if_neg h_34] at h
      have e_35 : y_30 = false := bfalse h_34
      simp only [e_9, e_11, e_33, e_35, go_sem, seval]
      have g := Option.some.inj h
      subst g
      rw [← hQ]
      exact ⟨_, _, (Ref.out [6, 7] rfl), hp⟩
    ·
     rw [if_neg h_32] at h
     have e_33 : y_27 = false := bfalse h_32
     simp only [e_9, e_11, e_33, go_sem, seval]
     have g := Option.some.inj h
     subst g
     rw [← hQ]
     exact ⟨_, _, (Ref.out [6, 7] rfl), hp⟩
  ·
   rw [if_neg h_8] at h
   have e_9 := eq_false h_8
   simp only [e_9, go_sem, seval]
   have g := Option.some.inj h
   subst g
   rw [← hQ]
   exact ⟨_, _, (Ref.std [0, 8, 17] [0] (by decide) low0 rfl rfl), hp⟩
theorem ref11_Acts_L1_w (N : Nat) (a_2 : Int) (a_3 : Int) (y_1 : List Int) {R : AExit → ATm → List AObj → Prop} : ∀ (n : Nat) (i_10 : Int) (s_11 : List TAct) (o : ((List TAct)) ⊕ (Unit)), ref11_Acts_L1 N a_2 a_3 y_1 n i_10 s_11 = some o → (match o with | .inl z_1 => R (.exit 0) ⟨60, [(12, .row 0 0 z_1.length)], []⟩ [.mem 2 (List.map eTAct z_1) 63] | .inr (_) => R .ret ⟨60, [(8, .vec true []), (9, .bool false)], []⟩ []) →
  ALp Try.prog 0 B88_1 ⟨60, [(2, .int .i64 a_2), (3, .int .i64 a_3), (10, .vec false (List.map eI64 y_1)), (12, .row 0 0 s_11.length), (13, .int .i64 i_10)], []⟩ [.mem 2 (List.map eTAct s_11) 63] R := by
 intro n
 induction n with
 | zero =>
  intro i_10 s_11 o h _
  have h0 : none = some o := h
  cases h0
 | succ n ih =>
  intro i_10 s_11 o h hp
  rw [ref11_Acts_L1] at h
  refine ALp.round ?_
  generalize hQ : RoundQ _ _ _ _ = QQ
  simp only [B88_1, A88, go_sem, seval]
  by_cases h_12 : i_10 < a_2
  ·
   rw [if_pos h_12] at h
   have e_13 := eq_true h_12
   obtain ⟨x_14, h_15, h⟩ := bindS h
   have e_16 : (List.map eI64 y_1)[(IntKind.i64.wrap (2 * i_10)).toNat]? = some [.int .i64 x_14] := atI_map eI64 h_15
   have e_17 := eq_true (atI_some h_15).1
   have e_18 := eq_true (atI_lt h_15)
   simp only [e_13, e_16, e_17, e_18, go_sem, seval]
   by_cases h_19 : a_3 ≤ x_14
   ·
    rw [if_pos h_19] at h
    have e_20 := eq_true h_19
    simp only [e_13, e_16, e_17, e_18, e_20, go_sem, seval]
    have g := Option.some.inj h
    subst g
    rw [← hQ]
    exact ⟨_, _, (Ref.out [8, 9] rfl), hp⟩
   ·
    rw [if_neg h_19] at h
    have e_20 := eq_false h_19
    obtain ⟨x_21, h_22, h⟩ := bindS h
    have e_23 : (List.map eI64 y_1)[(IntKind.i64.wrap ((IntKind.i64.wrap (2 * i_10)) + 1)).toNat]? = some [.int .i64 x_21] := atI_map eI64 h_22
    have e_24 := eq_true (atI_some h_22).1
    have e_25 := eq_true (atI_lt h_22)
    have e_26 : List.take s_11.length (List.map eTAct s_11) = (List.map eTAct s_11) := List.take_of_length_le (by simp)
    have e_27 : (List.map eTAct s_11) ++ [[.int .i64 x_14, .int .i64 x_21]] = (List.map eTAct (s_11 ++ [TAct.mk x_14 x_21])) := app_map s_11 ([TAct.mk x_14 x_21]) eTAct
    obtain ⟨h_28, h⟩ := guardS h
    have e_29 := eq_true h_28
    simp only [e_13, e_16, e_17, e_18, e_20, e_23, e_24, e_25, e_26, e_27, e_29, go_sem, seval]
    rw [← hQ]
    exact ⟨_, _, (Ref.std [2, 3, 10, 12, 13] [1] (by decide) low0 (by first | rfl | simp only [go_sem, seval]) (by first | rfl | simp only [go_sem, seval])), (Nat.zero_le _), ih _ _ _ h hp⟩
  ·
   rw [if_neg h_12] at h
   have e_13 := eq_false h_12
   simp only [e_13, go_sem, seval]
   have g := Option.some.inj h
   subst g
   rw [← hQ]
   exact ⟨_, _, (Ref.std [12] [0] (by decide) low0 rfl (by first | rfl | simp only [go_sem, seval])), hp⟩
theorem ref11_Acts_w (N : Nat) (l_0 : List Int) (a_1 : Int) (a_2 : Int) (a_3 : Int) (c_0 : Bool) (z_1 : List TAct) (z_2 : Bool) (h : ref11_Acts N l_0 a_1 a_2 a_3 = some (z_1, z_2)) :
  ACalls Try.prog 88 [.vec c_0 (List.map eU8 l_0), .int .i64 a_1, .int .i64 a_2, .int .i64 a_3] [] (fun e H => H = [] ∧ e = .ret (.tup [.vec false (List.map eTAct z_1), .bool z_2])) := by
 unfold ref11_Acts at h
 refine ACalls.goN Try.func88 n88 a88 Try.ntmps88 r88 (by simp) 0 rfl ?_
 generalize hQ : bodyA _ _ _ = QQ
 obtain ⟨⟨y_1, y_2⟩, h_3, h⟩ := bindS h
 try dsimp only at h
 simp only [A88, go_sem, seval]
 refine ACalls.use0 (ref11_Row_w N _ _ _ c_0 _ _ h_3) rfl rfl ?_
 refine ck0 ?_
 simp only [go_sem, seval]
 by_cases h_4 : y_2 = true
 ·
  rw [if_pos h_4] at h
  have e_5 : y_2 = true := h_4
  simp only [e_5, go_sem, seval]
  by_cases h_6 : a_2 < 0
  ·
   rw [if_pos h_6] at h
   have e_7 := eq_true h_6
   simp only [e_5, e_7, go_sem, seval]
   obtain ⟨k_1, g_1⟩ := Prod.mk.inj (Option.some.inj h)
   subst k_1
   subst g_1
   rw [← hQ]
   exact ⟨rfl, _, rfl, _, _, outVB, rfl, rfl⟩
  ·
   rw [if_neg h_6] at h
   have e_7 := eq_false h_6
   simp only [e_5, e_7, go_sem, seval]
   by_cases h_8 : 16 < a_2
   ·
    rw [if_pos h_8] at h
    have e_9 := eq_true h_8
    simp only [e_5, e_7, e_9, go_sem, seval]
    obtain ⟨k_1, g_1⟩ := Prod.mk.inj (Option.some.inj h)
    subst k_1
    subst g_1
    rw [← hQ]
    exact ⟨rfl, _, rfl, _, _, outVB, rfl, rfl⟩
   ·
    rw [if_neg h_8] at h
    have e_9 := eq_false h_8
    simp only [e_5, e_7, e_9, go_sem, seval]
    obtain ⟨o_1012, h_1010, h⟩ := bindS h
    refine ALp.ref (Ref.trans (Ref.thaw (Nat.zero_le _) 12 rfl (sz := 2) (by decide) 63) (Ref.std [2, 3, 10, 12, 13] [0] (by decide) low0 rfl (by first | rfl | simp only [go_sem, seval]))) (Nat.zero_le _) (ref11_Acts_L1_w N _ _ _ N _ _ o_1012 h_1010 ?_)
    rcases o_1012 with y_1011 | _
    ·
     try dsimp only at h
     refine LoopK_go rfl (Nat.zero_le _) ?_
     simp only [e_5, e_7, e_9, go_sem, seval]
     obtain ⟨k_1, g_1⟩ := Prod.mk.inj (Option.some.inj h)
     subst k_1
     subst g_1
     rw [← hQ]
     exact ⟨rfl, _, rfl, _, _, (RefV.trans (RefV.frz (Nat.zero_le _) (id := 0) rfl (pures_map y_1011 eTAct (fun _ => rfl))) (RefV.out (by first | rfl | simp only [go_sem, seval, e_5, e_7, e_9]))), rfl, rfl⟩
    ·
     try dsimp only at h
     refine LoopK_ret ?_
     obtain ⟨k_1, g_1⟩ := Prod.mk.inj (Option.some.inj h)
     subst k_1
     subst g_1
     rw [← hQ]
     exact ⟨rfl, _, rfl, _, _, outVB, rfl, rfl⟩
 ·
  rw [if_neg h_4] at h
  have e_5 : y_2 = false := bfalse h_4
  simp only [e_5, go_sem, seval]
  obtain ⟨k_1, g_1⟩ := Prod.mk.inj (Option.some.inj h)
  subst k_1
  subst g_1
  rw [← hQ]
  exact ⟨rfl, _, rfl, _, _, outVB, rfl, rfl⟩
theorem ref11_Third_w (N : Nat) (l_0 : List Int) (a_1 : Int) (b_2 : Bool) (c_0 : Bool) (z_1 : List TCtx) (z_2 : Bool) (h : ref11_Third N l_0 a_1 b_2 = some (z_1, z_2)) :
  ACalls Try.prog 65 [.vec c_0 (List.map eU8 l_0), .int .i64 a_1, .bool b_2] [] (fun e H => H = [] ∧ e = .ret (.tup [.vec false (List.map eTCtx z_1), .bool z_2])) := by
 unfold ref11_Third at h
 refine ACalls.goN Try.func65 n65 a65 Try.ntmps65 r65 (by simp) 0 rfl ?_
 generalize hQ : bodyA _ _ _ = QQ
 simp only [A65, go_sem, seval]
 by_cases h_1 : b_2 = true
 ·
  rw [if_pos h_1] at h
  have e_2 : b_2 = true := h_1
  simp only [e_2, go_sem, seval]
  obtain ⟨o_1008, h_1003, h⟩ := bindS h
  refine ALp.ref (Ref.trans (Ref.std (l' := [(0, .vec c_0 (List.map eU8 l_0)), (1, .int .i64 a_1), (8, .ptr 0 0 0), (17, .int .i64 (IntKind.i64.wrap (a_1 + 2))), (18, .int .i64 0)]) (H' := [.box [.vec true [], .vec true [], .vec true [], .vec true []] 61]) [0, 1, 8, 17, 18] [0] (by decide) low0 rfl rfl) (Ref.weak (WkT.cons (Wk.refl _) (WkT.cons (Wk.refl _) (WkT.cons (Wk.refl _) (WkT.cons (Wk.refl _) (WkT.cons (Wk.refl _) (WkT.nil)))))) (WkH.cons (WkO.bx (Wks.cons Wk.vec (Wks.cons Wk.vec (Wks.cons Wk.vec (Wks.cons (Wk.refl _) (Wks.nil)))))) (WkH.nil)))) (Nat.zero_le _) (ref11_Third_L1_w N _ _ c_0 N _ _ _ _ _ o_1008 h_1003 ?_)
  rcases o_1008 with ⟨y_1004, y_1005, y_1006, y_1007⟩ | _
  ·
   try dsimp only at h
   refine LoopK_go rfl (Nat.zero_le _) ?_
   obtain ⟨y_1009, h_1010, h⟩ := bindS h
   simp only [e_2, go_sem, seval]
   refine ACalls.use0 (ref10_U16_w N _ _ c_0 _ h_1010) rfl rfl ?_
   refine ck0 ?_
   simp only [e_2, go_sem, seval]
   by_cases h_1011 : y_1009 < 0
   ·
    rw [if_pos h_1011] at h
    have e_1012 := eq_true h_1011
    simp only [e_2, e_1012, go_sem, seval]
    obtain ⟨k_1, g_1⟩ := Prod.mk.inj (Option.some.inj h)
    subst k_1
    subst g_1
    rw [← hQ]
    exact ⟨rfl, _, rfl, _, _, outVB, rfl, rfl⟩
   ·
    rw [if_neg h_1011] at h
    have e_1012 := eq_false h_1011
    simp only [e_2, e_1012, go_sem, seval]
    by_cases h_1013 : 16 < y_1009
    ·
     rw [if_pos h_1013] at h
     have e_1014 := eq_true h_1013
     simp only [e_2, e_1012, e_1014, go_sem, seval]
     obtain ⟨k_1, g_1⟩ := Prod.mk.inj (Option.some.inj h)
     subst k_1
     subst g_1
     rw [← hQ]
     exact ⟨rfl, _, rfl, _, _, outVB, rfl, rfl⟩
    ·
     rw [if_neg h_1013] at h
     have e_1014 := eq_false h_1013
     obtain ⟨⟨y_1015, y_1016⟩, h_1017, h⟩ := bindS h
     try dsimp only at h
     simp only [e_2, e_1012, e_1014, go_sem, seval]
     refine ACalls.use0 (ref11_Acts_w N _ _ _ _ c_0 _ _ h_1017) rfl rfl ?_
     refine ck0 ?_
     simp only [e_2, e_1012, e_1014, go_sem, seval]
     obtain ⟨k_1, g_1⟩ := Prod.mk.inj (Option.some.inj h)
     subst k_1
     subst g_1
     rw [← hQ]
     exact ⟨rfl, _, rfl, _, _, (RefV.trans (RefV.out (v' := .tup [.vec true [[.vec false (List.map eTSet y_1005), .vec false (List.map eTSet y_1006), .vec false (List.map eTSet y_1007), .vec false (List.map eTAct y_1015)]], .bool y_1016]) (by first | rfl | simp only [go_sem, seval, e_2, e_1012, e_1014])) (RefV.weak (Wks.cons (Wk.tup (Wks.cons Wk.vec (Wks.cons (Wk.refl _) (Wks.nil)))) Wks.nil) (WkH.refl _))), rfl, rfl⟩
  ·
   try dsimp only at h
   refine LoopK_ret ?_
   obtain ⟨k_1, g_1⟩ := Prod.mk.inj (Option.some.inj h)
   subst k_1
   subst g_1
   rw [← hQ]
   exact ⟨rfl, _, rfl, _, _, outVB, rfl, rfl⟩
 ·
  rw [if_neg h_1] at h
  have e_2 : b_2 = false := bfalse h_1
  obtain ⟨y_1018, h_1019, h⟩ := bindS h
  simp only [e_2, go_sem, seval]
  refine ACalls.use0 (ref10_U16_w N _ _ c_0 _ h_1019) rfl rfl ?_
  refine ck0 ?_
  obtain ⟨y_1020, h_1021, h⟩ := bindS h
  simp only [e_2, go_sem, seval]
  refine ACalls.use0 (ref10_U16_w N _ _ c_0 _ h_1021) rfl rfl ?_
  refine ck0 ?_
  simp only [e_2, go_sem, seval]
  by_cases h_1022 : y_1018 < 1
  ·
   rw [if_pos h_1022] at h
   have e_1023 := eq_true h_1022
   simp only [e_2, e_1023, go_sem, seval]
   obtain ⟨k_1, g_1⟩ := Prod.mk.inj (Option.some.inj h)
   subst k_1
   subst g_1
   rw [← hQ]
   exact ⟨rfl, _, rfl, _, _, outVB, rfl, rfl⟩
  ·
   rw [if_neg h_1022] at h
   have e_1023 := eq_false h_1022
   simp only [e_2, e_1023, go_sem, seval]
   by_cases h_1024 : 16 < y_1018
   ·
    rw [if_pos h_1024] at h
    have e_1025 := eq_true h_1024
    simp only [e_2, e_1023, e_1025, go_sem, seval]
    obtain ⟨k_1, g_1⟩ := Prod.mk.inj (Option.some.inj h)
    subst k_1
    subst g_1
    rw [← hQ]
    exact ⟨rfl, _, rfl, _, _, outVB, rfl, rfl⟩
   ·
    rw [if_neg h_1024] at h
    have e_1025 := eq_false h_1024
    simp only [e_2, e_1023, e_1025, go_sem, seval]
    by_cases h_1026 : y_1020 < 0
    ·
     rw [if_pos h_1026] at h
     have e_1027 := eq_true h_1026
     simp only [e_2, e_1023, e_1025, e_1027, go_sem, seval]
     obtain ⟨k_1, g_1⟩ := Prod.mk.inj (Option.some.inj h)
     subst k_1
     subst g_1
     rw [← hQ]
     exact ⟨rfl, _, rfl, _, _, outVB, rfl, rfl⟩
    ·
     rw [if_neg h_1026] at h
     have e_1027 := eq_false h_1026
     simp only [e_2, e_1023, e_1025, e_1027, go_sem, seval]
     by_cases h_1028 : 16 < y_1020
     ·
      rw [if_pos h_1028] at h
      have e_1029 := eq_true h_1028
      simp only [e_2, e_1023, e_1025, e_1027, e_1029, go_sem, seval]
      obtain ⟨k_1, g_1⟩ := Prod.mk.inj (Option.some.inj h)
      subst k_1
      subst g_1
      rw [← hQ]
      exact ⟨rfl, _, rfl, _, _, outVB, rfl, rfl⟩
     ·
      rw [if_neg h_1028] at h
      have e_1029 := eq_false h_1028
      obtain ⟨⟨y_1030, y_1031⟩, h_1032, h⟩ := bindS h
      try dsimp only at h
      simp only [e_2, e_1023, e_1025, e_1027, e_1029, go_sem, seval]
      refine ACalls.use0 (ref11_Row_w N _ _ _ c_0 _ _ h_1032) rfl rfl ?_
      refine ck0 ?_
      simp only [e_2, e_1023, e_1025, e_1027, e_1029, go_sem, seval]
      by_cases h_1033 : y_1031 = true
      ·
       rw [if_pos h_1033] at h
       have e_1034 : y_1031 = true := h_1033
       obtain ⟨⟨y_1035, y_1036⟩, h_1037, h⟩ := bindS h
       try dsimp only at h
       simp only [e_2, e_1023, e_1025, e_1027, e_1029, e_1034, go_sem, seval]
       refine ACalls.use0 (ref11_Covers_w N _ _ _ c_0 false _ _ h_1037) rfl rfl ?_
       refine ck0 ?_
       obtain ⟨⟨y_1038, y_1039⟩, h_1040, h⟩ := bindS h
       try dsimp only at h
       simp only [e_2, e_1023, e_1025, e_1027, e_1029, e_1034, go_sem, seval]
       refine ACalls.use0 (ref11_Acts_w N _ _ _ _ c_0 _ _ h_1040) rfl rfl ?_
       refine ck0 ?_
       simp only [e_2, e_1023, e_1025, e_1027, e_1029, e_1034, go_sem, seval]
       by_cases h_1041 : y_1036 = true
       ·
        rw [if_pos h_1041] at h
        have e_1042 : y_1036 = true := h_1041
        simp only [e_2, e_1023, e_1025, e_1027, e_1029, e_1034, e_1042, go_sem, seval]
        by_cases h_1043 : y_1039 = true
        ·
         rw [if_pos h_1043] at h
         have e_1044 : y_1039 = true := h_1043
         simp only [e_2, e_1023, e_1025, e_1027, e_1029, e_1034, e_1042, e_1044, go_sem, seval]
         obtain ⟨k_1, g_1⟩ := Prod.mk.inj (Option.some.inj h)
         subst k_1
         subst g_1
         rw [← hQ]
         exact ⟨rfl, _, rfl, _, _, (RefV.trans (RefV.out (v' := .tup [.vec true [[.vec true [], .vec false (List.map eTSet y_1035), .vec true [], .vec false (List.map eTAct y_1038)]], .bool true]) rfl) (RefV.weak (Wks.cons (Wk.tup (Wks.cons (Wk.vecs (Wkss.cons (Wks.cons Wk.vec (Wks.cons (Wk.refl _) (Wks.cons Wk.vec (Wks.cons (Wk.refl _) (Wks.nil))))) (Wkss.nil))) (Wks.cons (Wk.refl _) (Wks.nil)))) Wks.nil) (WkH.refl _))), rfl, rfl⟩
        ·
         rw [if_neg h_1043] at h
         have e_1044 : y_1039 = false := bfalse h_1043
         simp only [e_2, e_1023, e_1025, e_1027, e_1029, e_1034, e_1042, e_1044, go_sem, seval]
         obtain ⟨k_1, g_1⟩ := Prod.mk.inj (Option.some.inj h)
         subst k_1
         subst g_1
         rw [← hQ]
         exact ⟨rfl, _, rfl, _, _, outVB, rfl, rfl⟩
       ·
        rw [if_neg h_1041] at h
        have e_1042 : y_1036 = false := bfalse h_1041
        simp only [e_2, e_1023, e_1025, e_1027, e_1029, e_1034, e_1042, go_sem, seval]
        obtain ⟨k_1, g_1⟩ := Prod.mk.inj (Option.some.inj h)
        subst k_1
        subst g_1
        rw [← hQ]
        exact ⟨rfl, _, rfl, _, _, outVB, rfl, rfl⟩
      ·
       rw [if_neg h_1033] at h
       have e_1034 : y_1031 = false := bfalse h_1033
       simp only [e_2, e_1023, e_1025, e_1027, e_1029, e_1034, go_sem, seval]
       obtain ⟨k_1, g_1⟩ := Prod.mk.inj (Option.some.inj h)
       subst k_1
       subst g_1
       rw [← hQ]
       exact ⟨rfl, _, rfl, _, _, outVB, rfl, rfl⟩
theorem ref10_Classes_L3_w (N : Nat) (y_1 : List Int) (i_6 : Int) (s_7 : List TClass) {R : AExit → ATm → List AObj → Prop} : ∀ (n : Nat) (i_17 : Int) (o : Int), ref10_Classes_L3 N y_1 i_6 s_7 n i_17 = some o → (match o with | z_1 => R (.exit 2) ⟨58, [(6, .vec false (List.map eI64 y_1)), (8, .row 0 0 s_7.length), (9, .int .i64 i_6), (10, .int .i64 z_1)], []⟩ [.mem 3 (List.map eTClass s_7) 48]) →
  ALp Try.prog 0 B21_2 ⟨58, [(6, .vec false (List.map eI64 y_1)), (8, .row 0 0 s_7.length), (9, .int .i64 i_6), (10, .int .i64 i_17)], []⟩ [.mem 3 (List.map eTClass s_7) 48] R := by
 intro n
 induction n with
 | zero =>
  intro i_17 o h _
  have h0 : none = some o := h
  cases h0
 | succ n ih =>
  intro i_17 o h hp
  rw [ref10_Classes_L3] at h
  refine ALp.round ?_
  generalize hQ : RoundQ _ _ _ _ = QQ
  simp only [B21_2, B21_1, A21, go_sem, seval]
  by_cases h_18 : IntKind.i64.wrap (i_17 + 1) < 65536
  ·
   rw [if_pos h_18] at h
   have e_19 := eq_true h_18
   obtain ⟨x_20, h_21, h⟩ := bindS h
   have e_22 : (List.map eI64 y_1)[(IntKind.i64.wrap (i_17 + 1)).toNat]? = some [.int .i64 x_20] := atI_map eI64 h_21
   have e_23 := eq_true (atI_some h_21).1
   have e_24 := eq_true (atI_lt h_21)
   obtain ⟨x_25, h_26, h⟩ := bindS h
   have e_27 : (List.map eI64 y_1)[(i_6).toNat]? = some [.int .i64 x_25] := atI_map eI64 h_26
   have e_28 := eq_true (atI_some h_26).1
   have e_29 := eq_true (atI_lt h_26)
   simp only [e_19, e_22, e_23, e_24, e_27, e_28, e_29, go_sem, seval]
   by_cases h_30 : x_20 = x_25
   ·
    rw [if_pos h_30] at h
    have e_31 := eq_true h_30
    simp only [e_19, e_22, e_23, e_24, e_27, e_28, e_29, e_31, go_sem, seval]
    rw [← hQ]
    exact ⟨_, _, (Ref.std [6, 8, 9, 10] [0] (by decide) low0 rfl (by first | rfl | simp only [go_sem, seval])), (Nat.zero_le _), ih _ _ h hp⟩
   ·
    rw [if_neg h_30] at h
    have e_31 := eq_false h_30
    simp only [e_19, e_22, e_23, e_24, e_27, e_28, e_29, e_31, go_sem, seval]
    have g := Option.some.inj h
    subst g
    rw [← hQ]
    exact ⟨_, _, (Ref.std [6, 8, 9, 10] [0] (by decide) low0 rfl (by first | rfl | simp only [go_sem, seval])), hp⟩
  ·
   rw [if_neg h_18] at h
   have e_19 := eq_false h_18
   simp only [e_19, go_sem, seval]
   have g := Option.some.inj h
   subst g
   rw [← hQ]
   exact ⟨_, _, (Ref.std [6, 8, 9, 10] [0] (by decide) low0 rfl (by first | rfl | simp only [go_sem, seval])), hp⟩
theorem ref10_Classes_L4_w (N : Nat) (y_1 : List Int) {R : AExit → ATm → List AObj → Prop} : ∀ (n : Nat) (i_6 : Int) (s_7 : List TClass) (o : (List TClass)), ref10_Classes_L4 N y_1 n i_6 s_7 = some o → (match o with | z_1 => R (.exit 0) ⟨58, [(8, .row 0 0 z_1.length)], []⟩ [.mem 3 (List.map eTClass z_1) 48]) →
  ALp Try.prog 0 B21_1 ⟨58, [(6, .vec false (List.map eI64 y_1)), (8, .row 0 0 s_7.length), (9, .int .i64 i_6)], []⟩ [.mem 3 (List.map eTClass s_7) 48] R := by
 intro n
 induction n with
 | zero =>
  intro i_6 s_7 o h _
  have h0 : none = some o := h
  cases h0
 | succ n ih =>
  intro i_6 s_7 o h hp
  rw [ref10_Classes_L4] at h
  refine ALp.round ?_
  generalize hQ : RoundQ _ _ _ _ = QQ
  simp only [B21_1, A21, go_sem, seval]
  by_cases h_8 : i_6 < 65536
  ·
   rw [if_pos h_8] at h
   have e_9 := eq_true h_8
   obtain ⟨x_10, h_11, h⟩ := bindS h
   have e_12 : (List.map eI64 y_1)[(i_6).toNat]? = some [.int .i64 x_10] := atI_map eI64 h_11
   have e_13 := eq_true (atI_some h_11).1
   have e_14 := eq_true (atI_lt h_11)
   simp only [e_9, e_12, e_13, e_14, go_sem, seval]
   by_cases h_15 : x_10 ≤ 0
   ·
    rw [if_pos h_15] at h
    have e_16 := eq_true h_15
    simp only [e_9, e_12, e_13, e_14, e_16, go_sem, seval]
    rw [← hQ]
    exact ⟨_, _, (Ref.std [6, 8, 9] [0] (by decide) low0 rfl (by first | rfl | simp only [go_sem, seval])), (Nat.zero_le _), ih _ _ _ h hp⟩
   ·
    rw [if_neg h_15] at h
    have e_16 := eq_false h_15
    simp only [e_9, e_12, e_13, e_14, e_16, go_sem, seval]
    obtain ⟨y_1018, h_1017, h⟩ := bindS h
    refine ALp.ref (Ref.std [6, 8, 9, 10] [0] (by decide) low0 rfl (by first | rfl | simp only [go_sem, seval])) (Nat.zero_le _) (ref10_Classes_L3_w N _ _ _ N _ y_1018 h_1017 ?_)
    refine LoopK_go rfl (Nat.zero_le _) ?_
    have e_1019 : List.take s_7.length (List.map eTClass s_7) = (List.map eTClass s_7) := List.take_of_length_le (by simp)
    have e_1020 : (List.map eTClass s_7) ++ [[.int .i64 i_6, .int .i64 y_1018, .int .i64 x_10]] = (List.map eTClass (s_7 ++ [TClass.mk i_6 y_1018 x_10])) := app_map s_7 ([TClass.mk i_6 y_1018 x_10]) eTClass
    obtain ⟨h_1021, h⟩ := guardS h
    have e_1022 := eq_true h_1021
    simp only [e_9, e_12, e_13, e_14, e_16, e_1019, e_1020, e_1022, go_sem, seval]
    rw [← hQ]
    exact ⟨_, _, (Ref.std [6, 8, 9] [1] (by decide) low0 (by first | rfl | simp only [go_sem, seval]) (by first | rfl | simp only [go_sem, seval])), (Nat.zero_le _), ih _ _ _ h hp⟩
  ·
   rw [if_neg h_8] at h
   have e_9 := eq_false h_8
   simp only [e_9, go_sem, seval]
   have g := Option.some.inj h
   subst g
   rw [← hQ]
   exact ⟨_, _, (Ref.std [8] [0] (by decide) low0 rfl (by first | rfl | simp only [go_sem, seval])), hp⟩
theorem ref10_Classes_w (N : Nat) (l_0 : List Int) (a_1 : Int) (c_0 : Bool) (z_1 : List TClass) (z_2 : Bool) (h : ref10_Classes N l_0 a_1 = some (z_1, z_2)) :
  ACalls Try.prog 21 [.vec c_0 (List.map eU8 l_0), .int .i64 a_1] [] (fun e H => H = [] ∧ e = .ret (.tup [.vec false (List.map eTClass z_1), .bool z_2])) := by
 unfold ref10_Classes at h
 refine ACalls.goN Try.func21 n21 a21 Try.ntmps21 r21 (by simp) 0 rfl ?_
 generalize hQ : bodyA _ _ _ = QQ
 obtain ⟨⟨y_1, y_2⟩, h_3, h⟩ := bindS h
 try dsimp only at h
 simp only [A21, go_sem, seval]
 refine ACalls.use0 (ref10_Table_w N _ _ _ c_0 _ _ h_3) rfl rfl ?_
 refine ck0 ?_
 simp only [go_sem, seval]
 by_cases h_4 : y_2 = true
 ·
  rw [if_pos h_4] at h
  have e_5 : y_2 = true := h_4
  simp only [e_5, go_sem, seval]
  obtain ⟨y_1007, h_1006, h⟩ := bindS h
  refine ALp.ref (Ref.trans (Ref.thaw (Nat.zero_le _) 8 rfl (sz := 3) (by decide) 48) (Ref.std [6, 8, 9] [0] (by decide) low0 rfl (by first | rfl | simp only [go_sem, seval]))) (Nat.zero_le _) (ref10_Classes_L4_w N _ N _ _ y_1007 h_1006 ?_)
  refine LoopK_go rfl (Nat.zero_le _) ?_
  simp only [e_5, go_sem, seval]
  obtain ⟨k_1, g_1⟩ := Prod.mk.inj (Option.some.inj h)
  subst k_1
  subst g_1
  rw [← hQ]
  exact ⟨rfl, _, rfl, _, _, (RefV.trans (RefV.frz (Nat.zero_le _) (id := 0) rfl (pures_map y_1007 eTClass (fun _ => rfl))) (RefV.out (by first | rfl | simp only [go_sem, seval, e_5]))), rfl, rfl⟩
 ·
  rw [if_neg h_4] at h
  have e_5 : y_2 = false := bfalse h_4
  simp only [e_5, go_sem, seval]
  obtain ⟨k_1, g_1⟩ := Prod.mk.inj (Option.some.inj h)
  subst k_1
  subst g_1
  rw [← hQ]
  exact ⟨rfl, _, rfl, _, _, outVB, rfl, rfl⟩
end Go.Proofs.Ytakplhfiohjcmaa.AI
