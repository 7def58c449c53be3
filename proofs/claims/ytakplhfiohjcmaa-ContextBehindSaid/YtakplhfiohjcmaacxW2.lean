/- Walks, further ones. -/
import Derived.Test.YtakplhfiohjcmaacxW1
set_option linter.unusedVariables false
set_option linter.unusedSimpArgs false
set_option maxRecDepth 100000
set_option maxHeartbeats 1000000
namespace Go.Proofs.Ytakplhfiohjcmaa.AI
open Go.Proofs (Try.prog)
attribute [local go_sem] subs_eU8 subs_eI64 subs_eTSpan subs_eTArr3_I64 subs_eTSet subs_eTAct subs_eTCtx subs_eTClass subs_eB mk_eTSpan mk_eTArr3_I64 mk_eTSet mk_eTAct mk_eTCtx mk_eTClass
theorem context_reader_rule_v2_w (N : Nat) (l_0 : List Int) (a_1 : Int) (l_2 : List TSpan) (b_3 : Bool) (l_4 : List TClass) (l_5 : List TClass) (l_6 : List TClass) (b_7 : Bool) (c_0 : Bool) (c_1 : Bool) (c_2 : Bool) (c_3 : Bool) (o : ((List TSet) × (List TSet) × (List TSet) × (List TAct) × Int) ⊕ Unit) (h : context_reader_rule_v2 N l_0 a_1 l_2 b_3 l_4 l_5 l_6 b_7 = some o) :
    ACalls Go.Proofs.Try.prog 107 [.ptr 0 0 0, .agg [.vec false (List.map eTSpan l_2), .bool b_3], .agg [.fn (.func 101) [] [.ptr 1 0 0], .fn (.func 101) [] [.ptr 2 0 0], .fn (.func 101) [] [.ptr 3 0 0], .bool b_7]] [.box [.vec c_0 (List.map eU8 l_0), .int .i64 a_1] 123, .box [.vec c_1 (List.map eTClass l_4)] 27, .box [.vec c_2 (List.map eTClass l_5)] 27, .box [.vec c_3 (List.map eTClass l_6)] 27] (fun e H => match o with | .inl (z_1, z_2, z_3, z_4, z_5) => H = [.box [.vec c_0 (List.map eU8 l_0), .int .i64 z_5] 123, .box [.vec c_1 (List.map eTClass l_4)] 27, .box [.vec c_2 (List.map eTClass l_5)] 27, .box [.vec c_3 (List.map eTClass l_6)] 27] ∧ e = .ret (.agg [.vec false (List.map eTSet z_1), .vec false (List.map eTSet z_2), .vec false (List.map eTSet z_3), .vec false (List.map eTAct z_4)]) | .inr _ => H = [.dead, .dead, .dead, .dead] ∧ e = .pan (.iface 119 (.agg []))) := by
  unfold context_reader_rule_v2 at h
  refine ACalls.goN Go.Proofs.Try.func107 n107 a107 Go.Proofs.Try.ntmps107 r107 (by simp) 4 rfl ?_
  generalize hQ : bodyA _ _ _ = QQ
  simp only [A107, go_sem, simprocAttr]
  by_cases h_1 : b_7 = true
  · rw [if_pos h_1] at h
    have e_2 : b_7 = true := h_1
    obtain ⟨o_5, h_4, h⟩ := bindS h
    simp only [e_2, go_sem, simprocAttr]
    rcases o_5 with y_3 | _
    · skip
      try dsimp only at h
      refine ACalls.use (context_reader_count_w N _ _ _ _ c_0 _ h_4) [0] (by decide) ⟨(by first | rfl | simp only [go_sem, simprocAttr, e_2]), trivial⟩ rfl (v' := .int .i64 y_3) (by first | rfl | simp only [go_sem, simprocAttr, e_2]) (H' := [.box [.vec c_0 (List.map eU8 l_0), .int .i64 (IntKind.i64.wrap (a_1 + 2))] 123, .box [.vec c_1 (List.map eTClass l_4)] 27, .box [.vec c_2 (List.map eTClass l_5)] 27, .box [.vec c_3 (List.map eTClass l_6)] 27, .box [.vec false (List.map eTSpan l_2), .bool b_3] 36, .box [.fn (.func 101) [] [.ptr 1 0 0], .fn (.func 101) [] [.ptr 2 0 0], .fn (.func 101) [] [.ptr 3 0 0], .bool b_7] 143, .box [.vec true [], .vec true [], .vec true [], .vec true []] 61, .box [.vec true [], .vec true [], .vec true [], .vec true []] 61]) (by first | rfl | simp only [go_sem, simprocAttr, e_2]) ?_
      obtain ⟨o_9, h_8, h⟩ := bindS h
      simp only [e_2, go_sem, simprocAttr]
      rcases o_9 with y_7 | _
      · skip
        try dsimp only at h
        refine ACalls.use (context_reader_row_w N _ _ _ c_0 _ h_8) [0] (by decide) ⟨(by first | rfl | simp only [go_sem, simprocAttr, e_2]), trivial⟩ rfl (v' := .vec false (List.map eI64 y_7)) (by first | rfl | simp only [go_sem, simprocAttr, e_2]) (H' := [.box [.vec c_0 (List.map eU8 l_0), .int .i64 (IntKind.i64.wrap ((IntKind.i64.wrap (a_1 + 2)) + (IntKind.i64.wrap (y_3 * 2))))] 123, .box [.vec c_1 (List.map eTClass l_4)] 27, .box [.vec c_2 (List.map eTClass l_5)] 27, .box [.vec c_3 (List.map eTClass l_6)] 27, .box [.vec false (List.map eTSpan l_2), .bool b_3] 36, .box [.fn (.func 101) [] [.ptr 1 0 0], .fn (.func 101) [] [.ptr 2 0 0], .fn (.func 101) [] [.ptr 3 0 0], .bool b_7] 143, .box [.vec true [], .vec true [], .vec true [], .vec true []] 61, .box [.vec true [], .vec true [], .vec true [], .vec true []] 61]) (by first | rfl | simp only [go_sem, simprocAttr, e_2]) ?_
        obtain ⟨y_11, h_12, h⟩ := bindS h
        simp only [e_2, go_sem, simprocAttr]
        refine ACalls.use (context_of_v2_w N _ _ false c_1 _ h_12) [1] (by decide) ⟨(by first | rfl | simp only [go_sem, simprocAttr, e_2]), trivial⟩ rfl (v' := .vec false (List.map eTSet y_11)) (by first | rfl | simp only [go_sem, simprocAttr, e_2]) (H' := [.box [.vec c_0 (List.map eU8 l_0), .int .i64 (IntKind.i64.wrap ((IntKind.i64.wrap (a_1 + 2)) + (IntKind.i64.wrap (y_3 * 2))))] 123, .box [.vec c_1 (List.map eTClass l_4)] 27, .box [.vec c_2 (List.map eTClass l_5)] 27, .box [.vec c_3 (List.map eTClass l_6)] 27, .box [.vec false (List.map eTSpan l_2), .bool b_3] 36, .box [.fn (.func 101) [] [.ptr 1 0 0], .fn (.func 101) [] [.ptr 2 0 0], .fn (.func 101) [] [.ptr 3 0 0], .bool b_7] 143, .box [.vec true [], .vec true [], .vec true [], .vec true []] 61, .box [.vec true [], .vec true [], .vec true [], .vec true []] 61]) (by first | rfl | simp only [go_sem, simprocAttr, e_2]) ?_
        obtain ⟨o_15, h_14, h⟩ := bindS h
        simp only [e_2, go_sem, simprocAttr]
        rcases o_15 with y_13 | _
        · skip
          try dsimp only at h
          refine ACalls.use (context_reader_count_w N _ _ _ _ c_0 _ h_14) [0] (by decide) ⟨(by first | rfl | simp only [go_sem, simprocAttr, e_2]), trivial⟩ rfl (v' := .int .i64 y_13) (by first | rfl | simp only [go_sem, simprocAttr, e_2]) (H' := [.box [.vec c_0 (List.map eU8 l_0), .int .i64 (IntKind.i64.wrap ((IntKind.i64.wrap ((IntKind.i64.wrap (a_1 + 2)) + (IntKind.i64.wrap (y_3 * 2)))) + 2))] 123, .box [.vec c_1 (List.map eTClass l_4)] 27, .box [.vec c_2 (List.map eTClass l_5)] 27, .box [.vec c_3 (List.map eTClass l_6)] 27, .box [.vec false (List.map eTSpan l_2), .bool b_3] 36, .box [.fn (.func 101) [] [.ptr 1 0 0], .fn (.func 101) [] [.ptr 2 0 0], .fn (.func 101) [] [.ptr 3 0 0], .bool b_7] 143, .box [.vec true [], .vec true [], .vec true [], .vec true []] 61, .box [.vec false (List.map eTSet y_11), .vec true [], .vec true [], .vec true []] 61]) (by first | rfl | simp only [go_sem, simprocAttr, e_2]) ?_
          refine CallK_go (by simp) ?_
          obtain ⟨o_19, h_18, h⟩ := bindS h
          simp only [e_2, go_sem, simprocAttr]
          rcases o_19 with y_17 | _
          · skip
            try dsimp only at h
            refine ACalls.use (context_reader_row_w N _ _ _ c_0 _ h_18) [0] (by decide) ⟨(by first | rfl | simp only [go_sem, simprocAttr, e_2]), trivial⟩ rfl (v' := .vec false (List.map eI64 y_17)) (by first | rfl | simp only [go_sem, simprocAttr, e_2]) (H' := [.box [.vec c_0 (List.map eU8 l_0), .int .i64 (IntKind.i64.wrap ((IntKind.i64.wrap ((IntKind.i64.wrap ((IntKind.i64.wrap (a_1 + 2)) + (IntKind.i64.wrap (y_3 * 2)))) + 2)) + (IntKind.i64.wrap ((IntKind.i64.wrap (y_13 - 1)) * 2))))] 123, .box [.vec c_1 (List.map eTClass l_4)] 27, .box [.vec c_2 (List.map eTClass l_5)] 27, .box [.vec c_3 (List.map eTClass l_6)] 27, .box [.vec false (List.map eTSpan l_2), .bool b_3] 36, .box [.fn (.func 101) [] [.ptr 1 0 0], .fn (.func 101) [] [.ptr 2 0 0], .fn (.func 101) [] [.ptr 3 0 0], .bool b_7] 143, .box [.vec true [], .vec true [], .vec true [], .vec true []] 61, .box [.vec false (List.map eTSet y_11), .vec true [], .vec true [], .vec true []] 61]) (by first | rfl | simp only [go_sem, simprocAttr, e_2]) ?_
            obtain ⟨y_21, h_22, h⟩ := bindS h
            simp only [e_2, go_sem, simprocAttr]
            refine ACalls.use (context_of_v2_w N _ _ false c_2 _ h_22) [2] (by decide) ⟨(by first | rfl | simp only [go_sem, simprocAttr, e_2]), trivial⟩ rfl (v' := .vec false (List.map eTSet y_21)) (by first | rfl | simp only [go_sem, simprocAttr, e_2]) (H' := [.box [.vec c_0 (List.map eU8 l_0), .int .i64 (IntKind.i64.wrap ((IntKind.i64.wrap ((IntKind.i64.wrap ((IntKind.i64.wrap (a_1 + 2)) + (IntKind.i64.wrap (y_3 * 2)))) + 2)) + (IntKind.i64.wrap ((IntKind.i64.wrap (y_13 - 1)) * 2))))] 123, .box [.vec c_1 (List.map eTClass l_4)] 27, .box [.vec c_2 (List.map eTClass l_5)] 27, .box [.vec c_3 (List.map eTClass l_6)] 27, .box [.vec false (List.map eTSpan l_2), .bool b_3] 36, .box [.fn (.func 101) [] [.ptr 1 0 0], .fn (.func 101) [] [.ptr 2 0 0], .fn (.func 101) [] [.ptr 3 0 0], .bool b_7] 143, .box [.vec true [], .vec true [], .vec true [], .vec true []] 61, .box [.vec false (List.map eTSet y_11), .vec true [], .vec true [], .vec true []] 61]) (by first | rfl | simp only [go_sem, simprocAttr, e_2]) ?_
            have e_23 : ((List.map eTSet y_21)).all (fun el => el.length == 2) = true := all_len _ eTSet 2 (fun _ => rfl)
            simp only [e_2, e_23, go_sem, simprocAttr]
            by_cases h_24 : y_21 = []
            · rw [if_pos h_24] at h
              have e_25 : y_21 = [] := h_24
              obtain ⟨o_28, h_27, h⟩ := bindS h
              simp only [e_2, e_23, e_25, go_sem, simprocAttr]
              rcases o_28 with y_26 | _
              · skip
                try dsimp only at h
                refine ACalls.use (context_reader_count_w N _ _ _ _ c_0 _ h_27) [0] (by decide) ⟨(by first | rfl | simp only [go_sem, simprocAttr, e_2, e_25]), trivial⟩ rfl (v' := .int .i64 y_26) (by first | rfl | simp only [go_sem, simprocAttr, e_2, e_25]) (H' := [.box [.vec c_0 (List.map eU8 l_0), .int .i64 (IntKind.i64.wrap ((IntKind.i64.wrap ((IntKind.i64.wrap ((IntKind.i64.wrap ((IntKind.i64.wrap (a_1 + 2)) + (IntKind.i64.wrap (y_3 * 2)))) + 2)) + (IntKind.i64.wrap ((IntKind.i64.wrap (y_13 - 1)) * 2)))) + 2))] 123, .box [.vec c_1 (List.map eTClass l_4)] 27, .box [.vec c_2 (List.map eTClass l_5)] 27, .box [.vec c_3 (List.map eTClass l_6)] 27, .box [.vec false (List.map eTSpan l_2), .bool b_3] 36, .box [.fn (.func 101) [] [.ptr 1 0 0], .fn (.func 101) [] [.ptr 2 0 0], .fn (.func 101) [] [.ptr 3 0 0], .bool b_7] 143, .box [.vec true [], .vec true [], .vec true [], .vec true []] 61, .box [.vec false (List.map eTSet y_11), .vec true [[.vec false (List.map eTSpan l_2), .bool b_3]], .vec true [], .vec true []] 61]) (by first | rfl | simp only [go_sem, simprocAttr, e_2, e_25]) ?_
                obtain ⟨o_32, h_31, h⟩ := bindS h
                simp only [e_2, e_23, e_25, go_sem, simprocAttr]
                rcases o_32 with y_30 | _
                · skip
                  try dsimp only at h
                  refine ACalls.use (context_reader_row_w N _ _ _ c_0 _ h_31) [0] (by decide) ⟨(by first | rfl | simp only [go_sem, simprocAttr, e_2, e_25]), trivial⟩ rfl (v' := .vec false (List.map eI64 y_30)) (by first | rfl | simp only [go_sem, simprocAttr, e_2, e_25]) (H' := [.box [.vec c_0 (List.map eU8 l_0), .int .i64 (IntKind.i64.wrap ((IntKind.i64.wrap ((IntKind.i64.wrap ((IntKind.i64.wrap ((IntKind.i64.wrap ((IntKind.i64.wrap (a_1 + 2)) + (IntKind.i64.wrap (y_3 * 2)))) + 2)) + (IntKind.i64.wrap ((IntKind.i64.wrap (y_13 - 1)) * 2)))) + 2)) + (IntKind.i64.wrap (y_26 * 2))))] 123, .box [.vec c_1 (List.map eTClass l_4)] 27, .box [.vec c_2 (List.map eTClass l_5)] 27, .box [.vec c_3 (List.map eTClass l_6)] 27, .box [.vec false (List.map eTSpan l_2), .bool b_3] 36, .box [.fn (.func 101) [] [.ptr 1 0 0], .fn (.func 101) [] [.ptr 2 0 0], .fn (.func 101) [] [.ptr 3 0 0], .bool b_7] 143, .box [.vec true [], .vec true [], .vec true [], .vec true []] 61, .box [.vec false (List.map eTSet y_11), .vec true [[.vec false (List.map eTSpan l_2), .bool b_3]], .vec true [], .vec true []] 61]) (by first | rfl | simp only [go_sem, simprocAttr, e_2, e_25]) ?_
                  obtain ⟨y_34, h_35, h⟩ := bindS h
                  simp only [e_2, e_23, e_25, go_sem, simprocAttr]
                  refine ACalls.use (context_of_v2_w N _ _ false c_3 _ h_35) [3] (by decide) ⟨(by first | rfl | simp only [go_sem, simprocAttr, e_2, e_25]), trivial⟩ rfl (v' := .vec false (List.map eTSet y_34)) (by first | rfl | simp only [go_sem, simprocAttr, e_2, e_25]) (H' := [.box [.vec c_0 (List.map eU8 l_0), .int .i64 (IntKind.i64.wrap ((IntKind.i64.wrap ((IntKind.i64.wrap ((IntKind.i64.wrap ((IntKind.i64.wrap ((IntKind.i64.wrap (a_1 + 2)) + (IntKind.i64.wrap (y_3 * 2)))) + 2)) + (IntKind.i64.wrap ((IntKind.i64.wrap (y_13 - 1)) * 2)))) + 2)) + (IntKind.i64.wrap (y_26 * 2))))] 123, .box [.vec c_1 (List.map eTClass l_4)] 27, .box [.vec c_2 (List.map eTClass l_5)] 27, .box [.vec c_3 (List.map eTClass l_6)] 27, .box [.vec false (List.map eTSpan l_2), .bool b_3] 36, .box [.fn (.func 101) [] [.ptr 1 0 0], .fn (.func 101) [] [.ptr 2 0 0], .fn (.func 101) [] [.ptr 3 0 0], .bool b_7] 143, .box [.vec true [], .vec true [], .vec true [], .vec true []] 61, .box [.vec false (List.map eTSet y_11), .vec true [[.vec false (List.map eTSpan l_2), .bool b_3]], .vec true [], .vec true []] 61]) (by first | rfl | simp only [go_sem, simprocAttr, e_2, e_25]) ?_
                  obtain ⟨o_38, h_37, h⟩ := bindS h
                  simp only [e_2, e_23, e_25, go_sem, simprocAttr]
                  rcases o_38 with y_36 | _
                  · skip
                    try dsimp only at h
                    refine ACalls.use (context_reader_count_w N _ _ _ _ c_0 _ h_37) [0] (by decide) ⟨(by first | rfl | simp only [go_sem, simprocAttr, e_2, e_25]), trivial⟩ rfl (v' := .int .i64 y_36) (by first | rfl | simp only [go_sem, simprocAttr, e_2, e_25]) (H' := [.box [.vec c_0 (List.map eU8 l_0), .int .i64 (IntKind.i64.wrap ((IntKind.i64.wrap ((IntKind.i64.wrap ((IntKind.i64.wrap ((IntKind.i64.wrap ((IntKind.i64.wrap ((IntKind.i64.wrap (a_1 + 2)) + (IntKind.i64.wrap (y_3 * 2)))) + 2)) + (IntKind.i64.wrap ((IntKind.i64.wrap (y_13 - 1)) * 2)))) + 2)) + (IntKind.i64.wrap (y_26 * 2)))) + 2))] 123, .box [.vec c_1 (List.map eTClass l_4)] 27, .box [.vec c_2 (List.map eTClass l_5)] 27, .box [.vec c_3 (List.map eTClass l_6)] 27, .box [.vec false (List.map eTSpan l_2), .bool b_3] 36, .box [.fn (.func 101) [] [.ptr 1 0 0], .fn (.func 101) [] [.ptr 2 0 0], .fn (.func 101) [] [.ptr 3 0 0], .bool b_7] 143, .box [.vec true [], .vec true [], .vec true [], .vec true []] 61, .box [.vec false (List.map eTSet y_11), .vec true [[.vec false (List.map eTSpan l_2), .bool b_3]], .vec false (List.map eTSet y_34), .vec true []] 61]) (by first | rfl | simp only [go_sem, simprocAttr, e_2, e_25]) ?_
                    refine CallK_go (by simp) ?_
                    obtain ⟨o_43, h_42, h⟩ := bindS h
                    simp only [e_2, e_23, e_25, go_sem, simprocAttr]
                    rcases o_43 with ⟨y_40, y_41⟩ | _
                    · skip
                      try dsimp only at h
                      refine ACalls.use (context_reader_acts_w N _ _ _ _ c_0 _ h_42) [0] (by decide) ⟨(by first | rfl | simp only [go_sem, simprocAttr, e_2, e_25]), trivial⟩ rfl (v' := .vec false (List.map eTAct y_40)) (by first | rfl | simp only [go_sem, simprocAttr, e_2, e_25]) (H' := [.box [.vec c_0 (List.map eU8 l_0), .int .i64 y_41] 123, .box [.vec c_1 (List.map eTClass l_4)] 27, .box [.vec c_2 (List.map eTClass l_5)] 27, .box [.vec c_3 (List.map eTClass l_6)] 27, .box [.vec false (List.map eTSpan l_2), .bool b_3] 36, .box [.fn (.func 101) [] [.ptr 1 0 0], .fn (.func 101) [] [.ptr 2 0 0], .fn (.func 101) [] [.ptr 3 0 0], .bool b_7] 143, .box [.vec true [], .vec true [], .vec true [], .vec true []] 61, .box [.vec false (List.map eTSet y_11), .vec true [[.vec false (List.map eTSpan l_2), .bool b_3]], .vec false (List.map eTSet y_34), .vec true []] 61]) (by first | rfl | simp only [go_sem, simprocAttr, e_2, e_25]) ?_
                      refine CallK_go (by simp) ?_
                      simp only [e_2, e_23, e_25, go_sem, simprocAttr]
                      have g_0 := Option.some.inj h
                      subst g_0
                      rw [← hQ]
                      exact ⟨rfl, _, rfl, _, _, (RefV.trans (RefV.std (v' := .agg [.vec false (List.map eTSet y_11), .vec true [[.vec false (List.map eTSpan l_2), .bool b_3]], .vec false (List.map eTSet y_34), .vec false (List.map eTAct y_40)]) [0, 1, 2, 3] (by decide) (by decide) rfl (by first | rfl | simp only [go_sem, simprocAttr, e_2, e_25])) (RefV.weak (Wks.cons (Wk.agg (Wks.cons (Wk.refl _) (Wks.cons Wk.vec (Wks.cons (Wk.refl _) (Wks.cons (Wk.refl _) (Wks.nil)))))) Wks.nil) (WkH.refl _))), rfl, rfl⟩
                    · skip
                      try dsimp only at h
                      refine ACalls.usePan (context_reader_acts_w N _ _ _ _ c_0 _ h_42) [0] (by decide) ⟨(by first | rfl | simp only [go_sem, simprocAttr, e_2, e_25]), trivial⟩ rfl (v' := .iface 119 (.agg [])) rfl (H' := [.dead, .box [.vec c_1 (List.map eTClass l_4)] 27, .box [.vec c_2 (List.map eTClass l_5)] 27, .box [.vec c_3 (List.map eTClass l_6)] 27, .box [.vec false (List.map eTSpan l_2), .bool b_3] 36, .box [.fn (.func 101) [] [.ptr 1 0 0], .fn (.func 101) [] [.ptr 2 0 0], .fn (.func 101) [] [.ptr 3 0 0], .bool b_7] 143, .box [.vec true [], .vec true [], .vec true [], .vec true []] 61, .box [.vec false (List.map eTSet y_11), .vec true [[.vec false (List.map eTSpan l_2), .bool b_3]], .vec false (List.map eTSet y_34), .vec true []] 61]) (by first | rfl | simp only [go_sem, simprocAttr, e_2, e_25]) ?_
                      try simp only [CallK_pan, dCallK_pan, panK_ap]
                      have g_0 := Option.some.inj h
                      subst g_0
                      rw [← hQ]
                      exact ⟨rfl, _, _, RefV.dead rfl, rfl, rfl⟩
                  · skip
                    try dsimp only at h
                    refine ACalls.usePan (context_reader_count_w N _ _ _ _ c_0 _ h_37) [0] (by decide) ⟨(by first | rfl | simp only [go_sem, simprocAttr, e_2, e_25]), trivial⟩ rfl (v' := .iface 119 (.agg [])) rfl (H' := [.dead, .box [.vec c_1 (List.map eTClass l_4)] 27, .box [.vec c_2 (List.map eTClass l_5)] 27, .box [.vec c_3 (List.map eTClass l_6)] 27, .box [.vec false (List.map eTSpan l_2), .bool b_3] 36, .box [.fn (.func 101) [] [.ptr 1 0 0], .fn (.func 101) [] [.ptr 2 0 0], .fn (.func 101) [] [.ptr 3 0 0], .bool b_7] 143, .box [.vec true [], .vec true [], .vec true [], .vec true []] 61, .box [.vec false (List.map eTSet y_11), .vec true [[.vec false (List.map eTSpan l_2), .bool b_3]], .vec false (List.map eTSet y_34), .vec true []] 61]) (by first | rfl | simp only [go_sem, simprocAttr, e_2, e_25]) ?_
                    try simp only [CallK_pan, dCallK_pan, panK_ap]
                    have g_0 := Option.some.inj h
                    subst g_0
                    rw [← hQ]
                    exact ⟨rfl, _, _, RefV.dead rfl, rfl, rfl⟩
                · skip
                  try dsimp only at h
                  refine ACalls.usePan (context_reader_row_w N _ _ _ c_0 _ h_31) [0] (by decide) ⟨(by first | rfl | simp only [go_sem, simprocAttr, e_2, e_25]), trivial⟩ rfl (v' := .iface 119 (.agg [])) rfl (H' := [.dead, .box [.vec c_1 (List.map eTClass l_4)] 27, .box [.vec c_2 (List.map eTClass l_5)] 27, .box [.vec c_3 (List.map eTClass l_6)] 27, .box [.vec false (List.map eTSpan l_2), .bool b_3] 36, .box [.fn (.func 101) [] [.ptr 1 0 0], .fn (.func 101) [] [.ptr 2 0 0], .fn (.func 101) [] [.ptr 3 0 0], .bool b_7] 143, .box [.vec true [], .vec true [], .vec true [], .vec true []] 61, .box [.vec false (List.map eTSet y_11), .vec true [[.vec false (List.map eTSpan l_2), .bool b_3]], .vec true [], .vec true []] 61]) (by first | rfl | simp only [go_sem, simprocAttr, e_2, e_25]) ?_
                  try simp only [CallK_pan, dCallK_pan, panK_ap]
                  have g_0 := Option.some.inj h
                  subst g_0
                  rw [← hQ]
                  exact ⟨rfl, _, _, RefV.dead rfl, rfl, rfl⟩
              · skip
                try dsimp only at h
                refine ACalls.usePan (context_reader_count_w N _ _ _ _ c_0 _ h_27) [0] (by decide) ⟨(by first | rfl | simp only [go_sem, simprocAttr, e_2, e_25]), trivial⟩ rfl (v' := .iface 119 (.agg [])) rfl (H' := [.dead, .box [.vec c_1 (List.map eTClass l_4)] 27, .box [.vec c_2 (List.map eTClass l_5)] 27, .box [.vec c_3 (List.map eTClass l_6)] 27, .box [.vec false (List.map eTSpan l_2), .bool b_3] 36, .box [.fn (.func 101) [] [.ptr 1 0 0], .fn (.func 101) [] [.ptr 2 0 0], .fn (.func 101) [] [.ptr 3 0 0], .bool b_7] 143, .box [.vec true [], .vec true [], .vec true [], .vec true []] 61, .box [.vec false (List.map eTSet y_11), .vec true [[.vec false (List.map eTSpan l_2), .bool b_3]], .vec true [], .vec true []] 61]) (by first | rfl | simp only [go_sem, simprocAttr, e_2, e_25]) ?_
                try simp only [CallK_pan, dCallK_pan, panK_ap]
                have g_0 := Option.some.inj h
                subst g_0
                rw [← hQ]
                exact ⟨rfl, _, _, RefV.dead rfl, rfl, rfl⟩
            · rw [if_neg h_24] at h
              have e_25 : (y_21.length = 0) = False ∧ (0 < y_21.length) = True := ⟨eq_false (fun q => h_24 (List.eq_nil_of_length_eq_zero q)), eq_true (Nat.pos_of_ne_zero (fun q => h_24 (List.eq_nil_of_length_eq_zero q)))⟩
              have e_45 : ((List.map eTSet y_21)).all (fun el => el.length == 2) = true := all_len _ eTSet 2 (fun _ => rfl)
              have e_46 : [[.vec false (List.map eTSpan l_2), .bool b_3]] ++ (List.map eTSet y_21) = (List.map eTSet ([TSet.mk l_2 b_3] ++ y_21)) := app_map ([TSet.mk l_2 b_3]) y_21 eTSet
              obtain ⟨h_47, h⟩ := guardS h
              have e_48 : ((1 + y_21.length) * 32 ≤ 140737488355328) = True := eq_true h_47
              obtain ⟨o_51, h_50, h⟩ := bindS h
              simp only [e_2, e_23, e_25, e_45, e_46, e_48, go_sem, simprocAttr]
              rcases o_51 with y_49 | _
              · skip
                try dsimp only at h
                refine ACalls.use (context_reader_count_w N _ _ _ _ c_0 _ h_50) [0] (by decide) ⟨(by first | rfl | simp only [go_sem, simprocAttr, e_2, e_25]), trivial⟩ rfl (v' := .int .i64 y_49) (by first | rfl | simp only [go_sem, simprocAttr, e_2, e_25]) (H' := [.box [.vec c_0 (List.map eU8 l_0), .int .i64 (IntKind.i64.wrap ((IntKind.i64.wrap ((IntKind.i64.wrap ((IntKind.i64.wrap ((IntKind.i64.wrap (a_1 + 2)) + (IntKind.i64.wrap (y_3 * 2)))) + 2)) + (IntKind.i64.wrap ((IntKind.i64.wrap (y_13 - 1)) * 2)))) + 2))] 123, .box [.vec c_1 (List.map eTClass l_4)] 27, .box [.vec c_2 (List.map eTClass l_5)] 27, .box [.vec c_3 (List.map eTClass l_6)] 27, .box [.vec false (List.map eTSpan l_2), .bool b_3] 36, .box [.fn (.func 101) [] [.ptr 1 0 0], .fn (.func 101) [] [.ptr 2 0 0], .fn (.func 101) [] [.ptr 3 0 0], .bool b_7] 143, .box [.vec true [], .vec true [], .vec true [], .vec true []] 61, .box [.vec false (List.map eTSet y_11), .row 8 0 (1 + y_21.length), .vec true [], .vec true []] 61, .mem 2 (List.map eTSet ([TSet.mk l_2 b_3] ++ y_21)) 36]) (by first | rfl | simp only [go_sem, simprocAttr, e_2, e_25]) ?_
                obtain ⟨o_55, h_54, h⟩ := bindS h
                simp only [e_2, e_23, e_25, e_45, e_46, e_48, go_sem, simprocAttr]
                rcases o_55 with y_53 | _
                · skip
                  try dsimp only at h
                  refine ACalls.use (context_reader_row_w N _ _ _ c_0 _ h_54) [0] (by decide) ⟨(by first | rfl | simp only [go_sem, simprocAttr, e_2, e_25]), trivial⟩ rfl (v' := .vec false (List.map eI64 y_53)) (by first | rfl | simp only [go_sem, simprocAttr, e_2, e_25]) (H' := [.box [.vec c_0 (List.map eU8 l_0), .int .i64 (IntKind.i64.wrap ((IntKind.i64.wrap ((IntKind.i64.wrap ((IntKind.i64.wrap ((IntKind.i64.wrap ((IntKind.i64.wrap (a_1 + 2)) + (IntKind.i64.wrap (y_3 * 2)))) + 2)) + (IntKind.i64.wrap ((IntKind.i64.wrap (y_13 - 1)) * 2)))) + 2)) + (IntKind.i64.wrap (y_49 * 2))))] 123, .box [.vec c_1 (List.map eTClass l_4)] 27, .box [.vec c_2 (List.map eTClass l_5)] 27, .box [.vec c_3 (List.map eTClass l_6)] 27, .box [.vec false (List.map eTSpan l_2), .bool b_3] 36, .box [.fn (.func 101) [] [.ptr 1 0 0], .fn (.func 101) [] [.ptr 2 0 0], .fn (.func 101) [] [.ptr 3 0 0], .bool b_7] 143, .box [.vec true [], .vec true [], .vec true [], .vec true []] 61, .box [.vec false (List.map eTSet y_11), .row 8 0 (1 + y_21.length), .vec true [], .vec true []] 61, .mem 2 (List.map eTSet ([TSet.mk l_2 b_3] ++ y_21)) 36]) (by first | rfl | simp only [go_sem, simprocAttr, e_2, e_25]) ?_
                  obtain ⟨y_57, h_58, h⟩ := bindS h
                  simp only [e_2, e_23, e_25, e_45, e_46, e_48, go_sem, simprocAttr]
                  refine ACalls.use (context_of_v2_w N _ _ false c_3 _ h_58) [3] (by decide) ⟨(by first | rfl | simp only [go_sem, simprocAttr, e_2, e_25]), trivial⟩ rfl (v' := .vec false (List.map eTSet y_57)) (by first | rfl | simp only [go_sem, simprocAttr, e_2, e_25]) (H' := [.box [.vec c_0 (List.map eU8 l_0), .int .i64 (IntKind.i64.wrap ((IntKind.i64.wrap ((IntKind.i64.wrap ((IntKind.i64.wrap ((IntKind.i64.wrap ((IntKind.i64.wrap (a_1 + 2)) + (IntKind.i64.wrap (y_3 * 2)))) + 2)) + (IntKind.i64.wrap ((IntKind.i64.wrap (y_13 - 1)) * 2)))) + 2)) + (IntKind.i64.wrap (y_49 * 2))))] 123, .box [.vec c_1 (List.map eTClass l_4)] 27, .box [.vec c_2 (List.map eTClass l_5)] 27, .box [.vec c_3 (List.map eTClass l_6)] 27, .box [.vec false (List.map eTSpan l_2), .bool b_3] 36, .box [.fn (.func 101) [] [.ptr 1 0 0], .fn (.func 101) [] [.ptr 2 0 0], .fn (.func 101) [] [.ptr 3 0 0], .bool b_7] 143, .box [.vec true [], .vec true [], .vec true [], .vec true []] 61, .box [.vec false (List.map eTSet y_11), .row 8 0 (1 + y_21.length), .vec true [], .vec true []] 61, .mem 2 (List.map eTSet ([TSet.mk l_2 b_3] ++ y_21)) 36]) (by first | rfl | simp only [go_sem, simprocAttr, e_2, e_25]) ?_
                  obtain ⟨o_61, h_60, h⟩ := bindS h
                  simp only [e_2, e_23, e_25, e_45, e_46, e_48, go_sem, simprocAttr]
                  rcases o_61 with y_59 | _
                  · skip
                    try dsimp only at h
                    refine ACalls.use (context_reader_count_w N _ _ _ _ c_0 _ h_60) [0] (by decide) ⟨(by first | rfl | simp only [go_sem, simprocAttr, e_2, e_25]), trivial⟩ rfl (v' := .int .i64 y_59) (by first | rfl | simp only [go_sem, simprocAttr, e_2, e_25]) (H' := [.box [.vec c_0 (List.map eU8 l_0), .int .i64 (IntKind.i64.wrap ((IntKind.i64.wrap ((IntKind.i64.wrap ((IntKind.i64.wrap ((IntKind.i64.wrap ((IntKind.i64.wrap ((IntKind.i64.wrap (a_1 + 2)) + (IntKind.i64.wrap (y_3 * 2)))) + 2)) + (IntKind.i64.wrap ((IntKind.i64.wrap (y_13 - 1)) * 2)))) + 2)) + (IntKind.i64.wrap (y_49 * 2)))) + 2))] 123, .box [.vec c_1 (List.map eTClass l_4)] 27, .box [.vec c_2 (List.map eTClass l_5)] 27, .box [.vec c_3 (List.map eTClass l_6)] 27, .box [.vec false (List.map eTSpan l_2), .bool b_3] 36, .box [.fn (.func 101) [] [.ptr 1 0 0], .fn (.func 101) [] [.ptr 2 0 0], .fn (.func 101) [] [.ptr 3 0 0], .bool b_7] 143, .box [.vec true [], .vec true [], .vec true [], .vec true []] 61, .box [.vec false (List.map eTSet y_11), .row 8 0 (1 + y_21.length), .vec false (List.map eTSet y_57), .vec true []] 61, .mem 2 (List.map eTSet ([TSet.mk l_2 b_3] ++ y_21)) 36]) (by first | rfl | simp only [go_sem, simprocAttr, e_2, e_25]) ?_
                    refine CallK_go (by simp) ?_
                    obtain ⟨o_66, h_65, h⟩ := bindS h
                    simp only [e_2, e_23, e_25, e_45, e_46, e_48, go_sem, simprocAttr]
                    rcases o_66 with ⟨y_63, y_64⟩ | _
                    · skip
                      try dsimp only at h
                      refine ACalls.use (context_reader_acts_w N _ _ _ _ c_0 _ h_65) [0] (by decide) ⟨(by first | rfl | simp only [go_sem, simprocAttr, e_2, e_25]), trivial⟩ rfl (v' := .vec false (List.map eTAct y_63)) (by first | rfl | simp only [go_sem, simprocAttr, e_2, e_25]) (H' := [.box [.vec c_0 (List.map eU8 l_0), .int .i64 y_64] 123, .box [.vec c_1 (List.map eTClass l_4)] 27, .box [.vec c_2 (List.map eTClass l_5)] 27, .box [.vec c_3 (List.map eTClass l_6)] 27, .box [.vec false (List.map eTSpan l_2), .bool b_3] 36, .box [.fn (.func 101) [] [.ptr 1 0 0], .fn (.func 101) [] [.ptr 2 0 0], .fn (.func 101) [] [.ptr 3 0 0], .bool b_7] 143, .box [.vec true [], .vec true [], .vec true [], .vec true []] 61, .box [.vec false (List.map eTSet y_11), .row 8 0 (1 + y_21.length), .vec false (List.map eTSet y_57), .vec true []] 61, .mem 2 (List.map eTSet ([TSet.mk l_2 b_3] ++ y_21)) 36]) (by first | rfl | simp only [go_sem, simprocAttr, e_2, e_25]) ?_
                      refine CallK_go (by simp) ?_
                      simp only [e_2, e_23, e_25, e_45, e_46, e_48, go_sem, simprocAttr]
                      have g_0 := Option.some.inj h
                      subst g_0
                      rw [← hQ]
                      exact ⟨rfl, _, rfl, _, _, (RefV.trans (RefV.frz (by simp) (id := 8) rfl (pures_map ([TSet.mk l_2 b_3] ++ y_21) eTSet (fun _ => rfl))) (RefV.std [0, 1, 2, 3] (by decide) (by decide) (by first | rfl | simp only [go_sem, simprocAttr, e_2, e_25]) (by first | rfl | simp only [go_sem, simprocAttr, e_2, e_25]))), rfl, rfl⟩
                    · skip
                      try dsimp only at h
                      refine ACalls.usePan (context_reader_acts_w N _ _ _ _ c_0 _ h_65) [0] (by decide) ⟨(by first | rfl | simp only [go_sem, simprocAttr, e_2, e_25]), trivial⟩ rfl (v' := .iface 119 (.agg [])) rfl (H' := [.dead, .box [.vec c_1 (List.map eTClass l_4)] 27, .box [.vec c_2 (List.map eTClass l_5)] 27, .box [.vec c_3 (List.map eTClass l_6)] 27, .box [.vec false (List.map eTSpan l_2), .bool b_3] 36, .box [.fn (.func 101) [] [.ptr 1 0 0], .fn (.func 101) [] [.ptr 2 0 0], .fn (.func 101) [] [.ptr 3 0 0], .bool b_7] 143, .box [.vec true [], .vec true [], .vec true [], .vec true []] 61, .box [.vec false (List.map eTSet y_11), .row 8 0 (1 + y_21.length), .vec false (List.map eTSet y_57), .vec true []] 61, .mem 2 (List.map eTSet ([TSet.mk l_2 b_3] ++ y_21)) 36]) (by first | rfl | simp only [go_sem, simprocAttr, e_2, e_25]) ?_
                      try simp only [CallK_pan, dCallK_pan, panK_ap]
                      have g_0 := Option.some.inj h
                      subst g_0
                      rw [← hQ]
                      exact ⟨rfl, _, _, RefV.dead rfl, rfl, rfl⟩
                  · skip
                    try dsimp only at h
                    refine ACalls.usePan (context_reader_count_w N _ _ _ _ c_0 _ h_60) [0] (by decide) ⟨(by first | rfl | simp only [go_sem, simprocAttr, e_2, e_25]), trivial⟩ rfl (v' := .iface 119 (.agg [])) rfl (H' := [.dead, .box [.vec c_1 (List.map eTClass l_4)] 27, .box [.vec c_2 (List.map eTClass l_5)] 27, .box [.vec c_3 (List.map eTClass l_6)] 27, .box [.vec false (List.map eTSpan l_2), .bool b_3] 36, .box [.fn (.func 101) [] [.ptr 1 0 0], .fn (.func 101) [] [.ptr 2 0 0], .fn (.func 101) [] [.ptr 3 0 0], .bool b_7] 143, .box [.vec true [], .vec true [], .vec true [], .vec true []] 61, .box [.vec false (List.map eTSet y_11), .row 8 0 (1 + y_21.length), .vec false (List.map eTSet y_57), .vec true []] 61, .mem 2 (List.map eTSet ([TSet.mk l_2 b_3] ++ y_21)) 36]) (by first | rfl | simp only [go_sem, simprocAttr, e_2, e_25]) ?_
                    try simp only [CallK_pan, dCallK_pan, panK_ap]
                    have g_0 := Option.some.inj h
                    subst g_0
                    rw [← hQ]
                    exact ⟨rfl, _, _, RefV.dead rfl, rfl, rfl⟩
                · skip
                  try dsimp only at h
                  refine ACalls.usePan (context_reader_row_w N _ _ _ c_0 _ h_54) [0] (by decide) ⟨(by first | rfl | simp only [go_sem, simprocAttr, e_2, e_25]), trivial⟩ rfl (v' := .iface 119 (.agg [])) rfl (H' := [.dead, .box [.vec c_1 (List.map eTClass l_4)] 27, .box [.vec c_2 (List.map eTClass l_5)] 27, .box [.vec c_3 (List.map eTClass l_6)] 27, .box [.vec false (List.map eTSpan l_2), .bool b_3] 36, .box [.fn (.func 101) [] [.ptr 1 0 0], .fn (.func 101) [] [.ptr 2 0 0], .fn (.func 101) [] [.ptr 3 0 0], .bool b_7] 143, .box [.vec true [], .vec true [], .vec true [], .vec true []] 61, .box [.vec false (List.map eTSet y_11), .row 8 0 (1 + y_21.length), .vec true [], .vec true []] 61, .mem 2 (List.map eTSet ([TSet.mk l_2 b_3] ++ y_21)) 36]) (by first | rfl | simp only [go_sem, simprocAttr, e_2, e_25]) ?_
                  try simp only [CallK_pan, dCallK_pan, panK_ap]
                  have g_0 := Option.some.inj h
                  subst g_0
                  rw [← hQ]
                  exact ⟨rfl, _, _, RefV.dead rfl, rfl, rfl⟩
              · skip
                try dsimp only at h
                refine ACalls.usePan (context_reader_count_w N _ _ _ _ c_0 _ h_50) [0] (by decide) ⟨(by first | rfl | simp only [go_sem, simprocAttr, e_2, e_25]), trivial⟩ rfl (v' := .iface 119 (.agg [])) rfl (H' := [.dead, .box [.vec c_1 (List.map eTClass l_4)] 27, .box [.vec c_2 (List.map eTClass l_5)] 27, .box [.vec c_3 (List.map eTClass l_6)] 27, .box [.vec false (List.map eTSpan l_2), .bool b_3] 36, .box [.fn (.func 101) [] [.ptr 1 0 0], .fn (.func 101) [] [.ptr 2 0 0], .fn (.func 101) [] [.ptr 3 0 0], .bool b_7] 143, .box [.vec true [], .vec true [], .vec true [], .vec true []] 61, .box [.vec false (List.map eTSet y_11), .row 8 0 (1 + y_21.length), .vec true [], .vec true []] 61, .mem 2 (List.map eTSet ([TSet.mk l_2 b_3] ++ y_21)) 36]) (by first | rfl | simp only [go_sem, simprocAttr, e_2, e_25]) ?_
                try simp only [CallK_pan, dCallK_pan, panK_ap]
                have g_0 := Option.some.inj h
                subst g_0
                rw [← hQ]
                exact ⟨rfl, _, _, RefV.dead rfl, rfl, rfl⟩
          · skip
            try dsimp only at h
            refine ACalls.usePan (context_reader_row_w N _ _ _ c_0 _ h_18) [0] (by decide) ⟨(by first | rfl | simp only [go_sem, simprocAttr, e_2]), trivial⟩ rfl (v' := .iface 119 (.agg [])) rfl (H' := [.dead, .box [.vec c_1 (List.map eTClass l_4)] 27, .box [.vec c_2 (List.map eTClass l_5)] 27, .box [.vec c_3 (List.map eTClass l_6)] 27, .box [.vec false (List.map eTSpan l_2), .bool b_3] 36, .box [.fn (.func 101) [] [.ptr 1 0 0], .fn (.func 101) [] [.ptr 2 0 0], .fn (.func 101) [] [.ptr 3 0 0], .bool b_7] 143, .box [.vec true [], .vec true [], .vec true [], .vec true []] 61, .box [.vec false (List.map eTSet y_11), .vec true [], .vec true [], .vec true []] 61]) (by first | rfl | simp only [go_sem, simprocAttr, e_2]) ?_
            try simp only [CallK_pan, dCallK_pan, panK_ap]
            have g_0 := Option.some.inj h
            subst g_0
            rw [← hQ]
            exact ⟨rfl, _, _, RefV.dead rfl, rfl, rfl⟩
        · skip
          try dsimp only at h
          refine ACalls.usePan (context_reader_count_w N _ _ _ _ c_0 _ h_14) [0] (by decide) ⟨(by first | rfl | simp only [go_sem, simprocAttr, e_2]), trivial⟩ rfl (v' := .iface 119 (.agg [])) rfl (H' := [.dead, .box [.vec c_1 (List.map eTClass l_4)] 27, .box [.vec c_2 (List.map eTClass l_5)] 27, .box [.vec c_3 (List.map eTClass l_6)] 27, .box [.vec false (List.map eTSpan l_2), .bool b_3] 36, .box [.fn (.func 101) [] [.ptr 1 0 0], .fn (.func 101) [] [.ptr 2 0 0], .fn (.func 101) [] [.ptr 3 0 0], .bool b_7] 143, .box [.vec true [], .vec true [], .vec true [], .vec true []] 61, .box [.vec false (List.map eTSet y_11), .vec true [], .vec true [], .vec true []] 61]) (by first | rfl | simp only [go_sem, simprocAttr, e_2]) ?_
          try simp only [CallK_pan, dCallK_pan, panK_ap]
          have g_0 := Option.some.inj h
          subst g_0
          rw [← hQ]
          exact ⟨rfl, _, _, RefV.dead rfl, rfl, rfl⟩
      · skip
        try dsimp only at h
        refine ACalls.usePan (context_reader_row_w N _ _ _ c_0 _ h_8) [0] (by decide) ⟨(by first | rfl | simp only [go_sem, simprocAttr, e_2]), trivial⟩ rfl (v' := .iface 119 (.agg [])) rfl (H' := [.dead, .box [.vec c_1 (List.map eTClass l_4)] 27, .box [.vec c_2 (List.map eTClass l_5)] 27, .box [.vec c_3 (List.map eTClass l_6)] 27, .box [.vec false (List.map eTSpan l_2), .bool b_3] 36, .box [.fn (.func 101) [] [.ptr 1 0 0], .fn (.func 101) [] [.ptr 2 0 0], .fn (.func 101) [] [.ptr 3 0 0], .bool b_7] 143, .box [.vec true [], .vec true [], .vec true [], .vec true []] 61, .box [.vec true [], .vec true [], .vec true [], .vec true []] 61]) (by first | rfl | simp only [go_sem, simprocAttr, e_2]) ?_
        try simp only [CallK_pan, dCallK_pan, panK_ap]
        have g_0 := Option.some.inj h
        subst g_0
        rw [← hQ]
        exact ⟨rfl, _, _, RefV.dead rfl, rfl, rfl⟩
    · skip
      try dsimp only at h
      refine ACalls.usePan (context_reader_count_w N _ _ _ _ c_0 _ h_4) [0] (by decide) ⟨(by first | rfl | simp only [go_sem, simprocAttr, e_2]), trivial⟩ rfl (v' := .iface 119 (.agg [])) rfl (H' := [.dead, .box [.vec c_1 (List.map eTClass l_4)] 27, .box [.vec c_2 (List.map eTClass l_5)] 27, .box [.vec c_3 (List.map eTClass l_6)] 27, .box [.vec false (List.map eTSpan l_2), .bool b_3] 36, .box [.fn (.func 101) [] [.ptr 1 0 0], .fn (.func 101) [] [.ptr 2 0 0], .fn (.func 101) [] [.ptr 3 0 0], .bool b_7] 143, .box [.vec true [], .vec true [], .vec true [], .vec true []] 61, .box [.vec true [], .vec true [], .vec true [], .vec true []] 61]) (by first | rfl | simp only [go_sem, simprocAttr, e_2]) ?_
      try simp only [CallK_pan, dCallK_pan, panK_ap]
      have g_0 := Option.some.inj h
      subst g_0
      rw [← hQ]
      exact ⟨rfl, _, _, RefV.dead rfl, rfl, rfl⟩
  · rw [if_neg h_1] at h
    have e_2 : b_7 = false := bfalse h_1
    obtain ⟨o_70, h_69, h⟩ := bindS h
    simp only [e_2, go_sem, simprocAttr]
    rcases o_70 with y_68 | _
    · skip
      try dsimp only at h
      refine ACalls.use (context_reader_count_w N _ _ _ _ c_0 _ h_69) [0] (by decide) ⟨(by first | rfl | simp only [go_sem, simprocAttr, e_2]), trivial⟩ rfl (v' := .int .i64 y_68) (by first | rfl | simp only [go_sem, simprocAttr, e_2]) (H' := [.box [.vec c_0 (List.map eU8 l_0), .int .i64 (IntKind.i64.wrap (a_1 + 2))] 123, .box [.vec c_1 (List.map eTClass l_4)] 27, .box [.vec c_2 (List.map eTClass l_5)] 27, .box [.vec c_3 (List.map eTClass l_6)] 27, .box [.vec false (List.map eTSpan l_2), .bool b_3] 36, .box [.fn (.func 101) [] [.ptr 1 0 0], .fn (.func 101) [] [.ptr 2 0 0], .fn (.func 101) [] [.ptr 3 0 0], .bool b_7] 143, .box [.vec true [], .vec true [], .vec true [], .vec true []] 61, .box [.vec true [], .vec true [], .vec true [], .vec true []] 61]) (by first | rfl | simp only [go_sem, simprocAttr, e_2]) ?_
      refine CallK_go (by simp) ?_
      obtain ⟨o_74, h_73, h⟩ := bindS h
      simp only [e_2, go_sem, simprocAttr]
      rcases o_74 with y_72 | _
      · skip
        try dsimp only at h
        refine ACalls.use (context_reader_count_w N _ _ _ _ c_0 _ h_73) [0] (by decide) ⟨(by first | rfl | simp only [go_sem, simprocAttr, e_2]), trivial⟩ rfl (v' := .int .i64 y_72) (by first | rfl | simp only [go_sem, simprocAttr, e_2]) (H' := [.box [.vec c_0 (List.map eU8 l_0), .int .i64 (IntKind.i64.wrap ((IntKind.i64.wrap (a_1 + 2)) + 2))] 123, .box [.vec c_1 (List.map eTClass l_4)] 27, .box [.vec c_2 (List.map eTClass l_5)] 27, .box [.vec c_3 (List.map eTClass l_6)] 27, .box [.vec false (List.map eTSpan l_2), .bool b_3] 36, .box [.fn (.func 101) [] [.ptr 1 0 0], .fn (.func 101) [] [.ptr 2 0 0], .fn (.func 101) [] [.ptr 3 0 0], .bool b_7] 143, .box [.vec true [], .vec true [], .vec true [], .vec true []] 61, .box [.vec true [], .vec true [], .vec true [], .vec true []] 61]) (by first | rfl | simp only [go_sem, simprocAttr, e_2]) ?_
        refine CallK_go (by simp) ?_
        obtain ⟨o_78, h_77, h⟩ := bindS h
        simp only [e_2, go_sem, simprocAttr]
        rcases o_78 with y_76 | _
        · skip
          try dsimp only at h
          refine ACalls.use (context_reader_row_w N _ _ _ c_0 _ h_77) [0] (by decide) ⟨(by first | rfl | simp only [go_sem, simprocAttr, e_2]), trivial⟩ rfl (v' := .vec false (List.map eI64 y_76)) (by first | rfl | simp only [go_sem, simprocAttr, e_2]) (H' := [.box [.vec c_0 (List.map eU8 l_0), .int .i64 (IntKind.i64.wrap ((IntKind.i64.wrap ((IntKind.i64.wrap (a_1 + 2)) + 2)) + (IntKind.i64.wrap ((IntKind.i64.wrap (y_68 - 1)) * 2))))] 123, .box [.vec c_1 (List.map eTClass l_4)] 27, .box [.vec c_2 (List.map eTClass l_5)] 27, .box [.vec c_3 (List.map eTClass l_6)] 27, .box [.vec false (List.map eTSpan l_2), .bool b_3] 36, .box [.fn (.func 101) [] [.ptr 1 0 0], .fn (.func 101) [] [.ptr 2 0 0], .fn (.func 101) [] [.ptr 3 0 0], .bool b_7] 143, .box [.vec true [], .vec true [], .vec true [], .vec true []] 61, .box [.vec true [], .vec true [], .vec true [], .vec true []] 61]) (by first | rfl | simp only [go_sem, simprocAttr, e_2]) ?_
          obtain ⟨y_80, h_81, h⟩ := bindS h
          simp only [e_2, go_sem, simprocAttr]
          refine ACalls.use (context_of_v2_w N _ _ false c_2 _ h_81) [2] (by decide) ⟨(by first | rfl | simp only [go_sem, simprocAttr, e_2]), trivial⟩ rfl (v' := .vec false (List.map eTSet y_80)) (by first | rfl | simp only [go_sem, simprocAttr, e_2]) (H' := [.box [.vec c_0 (List.map eU8 l_0), .int .i64 (IntKind.i64.wrap ((IntKind.i64.wrap ((IntKind.i64.wrap (a_1 + 2)) + 2)) + (IntKind.i64.wrap ((IntKind.i64.wrap (y_68 - 1)) * 2))))] 123, .box [.vec c_1 (List.map eTClass l_4)] 27, .box [.vec c_2 (List.map eTClass l_5)] 27, .box [.vec c_3 (List.map eTClass l_6)] 27, .box [.vec false (List.map eTSpan l_2), .bool b_3] 36, .box [.fn (.func 101) [] [.ptr 1 0 0], .fn (.func 101) [] [.ptr 2 0 0], .fn (.func 101) [] [.ptr 3 0 0], .bool b_7] 143, .box [.vec true [], .vec true [], .vec true [], .vec true []] 61, .box [.vec true [], .vec true [], .vec true [], .vec true []] 61]) (by first | rfl | simp only [go_sem, simprocAttr, e_2]) ?_
          have e_82 : ((List.map eTSet y_80)).all (fun el => el.length == 2) = true := all_len _ eTSet 2 (fun _ => rfl)
          simp only [e_2, e_82, go_sem, simprocAttr]
          by_cases h_83 : y_80 = []
          · rw [if_pos h_83] at h
            have e_84 : y_80 = [] := h_83
            obtain ⟨o_88, h_87, h⟩ := bindS h
            simp only [e_2, e_82, e_84, go_sem, simprocAttr]
            rcases o_88 with ⟨y_85, y_86⟩ | _
            · skip
              try dsimp only at h
              refine ACalls.use (context_reader_acts_w N _ _ _ _ c_0 _ h_87) [0] (by decide) ⟨(by first | rfl | simp only [go_sem, simprocAttr, e_2, e_84]), trivial⟩ rfl (v' := .vec false (List.map eTAct y_85)) (by first | rfl | simp only [go_sem, simprocAttr, e_2, e_84]) (H' := [.box [.vec c_0 (List.map eU8 l_0), .int .i64 y_86] 123, .box [.vec c_1 (List.map eTClass l_4)] 27, .box [.vec c_2 (List.map eTClass l_5)] 27, .box [.vec c_3 (List.map eTClass l_6)] 27, .box [.vec false (List.map eTSpan l_2), .bool b_3] 36, .box [.fn (.func 101) [] [.ptr 1 0 0], .fn (.func 101) [] [.ptr 2 0 0], .fn (.func 101) [] [.ptr 3 0 0], .bool b_7] 143, .box [.vec true [], .vec true [], .vec true [], .vec true []] 61, .box [.vec true [], .vec true [[.vec false (List.map eTSpan l_2), .bool b_3]], .vec true [], .vec true []] 61]) (by first | rfl | simp only [go_sem, simprocAttr, e_2, e_84]) ?_
              refine CallK_go (by simp) ?_
              simp only [e_2, e_82, e_84, go_sem, simprocAttr]
              have g_0 := Option.some.inj h
              subst g_0
              rw [← hQ]
              exact ⟨rfl, _, rfl, _, _, (RefV.trans (RefV.std (v' := .agg [.vec true [], .vec true [[.vec false (List.map eTSpan l_2), .bool b_3]], .vec true [], .vec false (List.map eTAct y_85)]) [0, 1, 2, 3] (by decide) (by decide) rfl (by first | rfl | simp only [go_sem, simprocAttr, e_2, e_84])) (RefV.weak (Wks.cons (Wk.agg (Wks.cons Wk.vec (Wks.cons Wk.vec (Wks.cons Wk.vec (Wks.cons (Wk.refl _) (Wks.nil)))))) Wks.nil) (WkH.refl _))), rfl, rfl⟩
            · skip
              try dsimp only at h
              refine ACalls.usePan (context_reader_acts_w N _ _ _ _ c_0 _ h_87) [0] (by decide) ⟨(by first | rfl | simp only [go_sem, simprocAttr, e_2, e_84]), trivial⟩ rfl (v' := .iface 119 (.agg [])) rfl (H' := [.dead, .box [.vec c_1 (List.map eTClass l_4)] 27, .box [.vec c_2 (List.map eTClass l_5)] 27, .box [.vec c_3 (List.map eTClass l_6)] 27, .box [.vec false (List.map eTSpan l_2), .bool b_3] 36, .box [.fn (.func 101) [] [.ptr 1 0 0], .fn (.func 101) [] [.ptr 2 0 0], .fn (.func 101) [] [.ptr 3 0 0], .bool b_7] 143, .box [.vec true [], .vec true [], .vec true [], .vec true []] 61, .box [.vec true [], .vec true [[.vec false (List.map eTSpan l_2), .bool b_3]], .vec true [], .vec true []] 61]) (by first | rfl | simp only [go_sem, simprocAttr, e_2, e_84]) ?_
              try simp only [CallK_pan, dCallK_pan, panK_ap]
              have g_0 := Option.some.inj h
              subst g_0
              rw [← hQ]
              exact ⟨rfl, _, _, RefV.dead rfl, rfl, rfl⟩
          · rw [if_neg h_83] at h
            have e_84 : (y_80.length = 0) = False ∧ (0 < y_80.length) = True := ⟨eq_false (fun q => h_83 (List.eq_nil_of_length_eq_zero q)), eq_true (Nat.pos_of_ne_zero (fun q => h_83 (List.eq_nil_of_length_eq_zero q)))⟩
            have e_90 : ((List.map eTSet y_80)).all (fun el => el.length == 2) = true := all_len _ eTSet 2 (fun _ => rfl)
            have e_91 : [[.vec false (List.map eTSpan l_2), .bool b_3]] ++ (List.map eTSet y_80) = (List.map eTSet ([TSet.mk l_2 b_3] ++ y_80)) := app_map ([TSet.mk l_2 b_3]) y_80 eTSet
            obtain ⟨h_92, h⟩ := guardS h
            have e_93 : ((1 + y_80.length) * 32 ≤ 140737488355328) = True := eq_true h_92
            obtain ⟨o_97, h_96, h⟩ := bindS h
            simp only [e_2, e_82, e_84, e_90, e_91, e_93, go_sem, simprocAttr]
            rcases o_97 with ⟨y_94, y_95⟩ | _
            · skip
              try dsimp only at h
              refine ACalls.use (context_reader_acts_w N _ _ _ _ c_0 _ h_96) [0] (by decide) ⟨(by first | rfl | simp only [go_sem, simprocAttr, e_2, e_84]), trivial⟩ rfl (v' := .vec false (List.map eTAct y_94)) (by first | rfl | simp only [go_sem, simprocAttr, e_2, e_84]) (H' := [.box [.vec c_0 (List.map eU8 l_0), .int .i64 y_95] 123, .box [.vec c_1 (List.map eTClass l_4)] 27, .box [.vec c_2 (List.map eTClass l_5)] 27, .box [.vec c_3 (List.map eTClass l_6)] 27, .box [.vec false (List.map eTSpan l_2), .bool b_3] 36, .box [.fn (.func 101) [] [.ptr 1 0 0], .fn (.func 101) [] [.ptr 2 0 0], .fn (.func 101) [] [.ptr 3 0 0], .bool b_7] 143, .box [.vec true [], .vec true [], .vec true [], .vec true []] 61, .box [.vec true [], .row 8 0 (1 + y_80.length), .vec true [], .vec true []] 61, .mem 2 (List.map eTSet ([TSet.mk l_2 b_3] ++ y_80)) 36]) (by first | rfl | simp only [go_sem, simprocAttr, e_2, e_84]) ?_
              refine CallK_go (by simp) ?_
              simp only [e_2, e_82, e_84, e_90, e_91, e_93, go_sem, simprocAttr]
              have g_0 := Option.some.inj h
              subst g_0
              rw [← hQ]
              exact ⟨rfl, _, rfl, _, _, (RefV.trans (RefV.frz (by simp) (id := 8) rfl (pures_map ([TSet.mk l_2 b_3] ++ y_80) eTSet (fun _ => rfl))) (RefV.trans (RefV.std (v' := .agg [.vec true [], .vec false (List.map eTSet ([TSet.mk l_2 b_3] ++ y_80)), .vec true [], .vec false (List.map eTAct y_94)]) [0, 1, 2, 3] (by decide) (by decide) (by first | rfl | simp only [go_sem, simprocAttr, e_2, e_84]) (by first | rfl | simp only [go_sem, simprocAttr, e_2, e_84])) (RefV.weak (Wks.cons (Wk.agg (Wks.cons Wk.vec (Wks.cons (Wk.refl _) (Wks.cons Wk.vec (Wks.cons (Wk.refl _) (Wks.nil)))))) Wks.nil) (WkH.refl _)))), rfl, rfl⟩
            · skip
              try dsimp only at h
              refine ACalls.usePan (context_reader_acts_w N _ _ _ _ c_0 _ h_96) [0] (by decide) ⟨(by first | rfl | simp only [go_sem, simprocAttr, e_2, e_84]), trivial⟩ rfl (v' := .iface 119 (.agg [])) rfl (H' := [.dead, .box [.vec c_1 (List.map eTClass l_4)] 27, .box [.vec c_2 (List.map eTClass l_5)] 27, .box [.vec c_3 (List.map eTClass l_6)] 27, .box [.vec false (List.map eTSpan l_2), .bool b_3] 36, .box [.fn (.func 101) [] [.ptr 1 0 0], .fn (.func 101) [] [.ptr 2 0 0], .fn (.func 101) [] [.ptr 3 0 0], .bool b_7] 143, .box [.vec true [], .vec true [], .vec true [], .vec true []] 61, .box [.vec true [], .row 8 0 (1 + y_80.length), .vec true [], .vec true []] 61, .mem 2 (List.map eTSet ([TSet.mk l_2 b_3] ++ y_80)) 36]) (by first | rfl | simp only [go_sem, simprocAttr, e_2, e_84]) ?_
              try simp only [CallK_pan, dCallK_pan, panK_ap]
              have g_0 := Option.some.inj h
              subst g_0
              rw [← hQ]
              exact ⟨rfl, _, _, RefV.dead rfl, rfl, rfl⟩
        · skip
          try dsimp only at h
          refine ACalls.usePan (context_reader_row_w N _ _ _ c_0 _ h_77) [0] (by decide) ⟨(by first | rfl | simp only [go_sem, simprocAttr, e_2]), trivial⟩ rfl (v' := .iface 119 (.agg [])) rfl (H' := [.dead, .box [.vec c_1 (List.map eTClass l_4)] 27, .box [.vec c_2 (List.map eTClass l_5)] 27, .box [.vec c_3 (List.map eTClass l_6)] 27, .box [.vec false (List.map eTSpan l_2), .bool b_3] 36, .box [.fn (.func 101) [] [.ptr 1 0 0], .fn (.func 101) [] [.ptr 2 0 0], .fn (.func 101) [] [.ptr 3 0 0], .bool b_7] 143, .box [.vec true [], .vec true [], .vec true [], .vec true []] 61, .box [.vec true [], .vec true [], .vec true [], .vec true []] 61]) (by first | rfl | simp only [go_sem, simprocAttr, e_2]) ?_
          try simp only [CallK_pan, dCallK_pan, panK_ap]
          have g_0 := Option.some.inj h
          subst g_0
          rw [← hQ]
          exact ⟨rfl, _, _, RefV.dead rfl, rfl, rfl⟩
      · skip
        try dsimp only at h
        refine ACalls.usePan (context_reader_count_w N _ _ _ _ c_0 _ h_73) [0] (by decide) ⟨(by first | rfl | simp only [go_sem, simprocAttr, e_2]), trivial⟩ rfl (v' := .iface 119 (.agg [])) rfl (H' := [.dead, .box [.vec c_1 (List.map eTClass l_4)] 27, .box [.vec c_2 (List.map eTClass l_5)] 27, .box [.vec c_3 (List.map eTClass l_6)] 27, .box [.vec false (List.map eTSpan l_2), .bool b_3] 36, .box [.fn (.func 101) [] [.ptr 1 0 0], .fn (.func 101) [] [.ptr 2 0 0], .fn (.func 101) [] [.ptr 3 0 0], .bool b_7] 143, .box [.vec true [], .vec true [], .vec true [], .vec true []] 61, .box [.vec true [], .vec true [], .vec true [], .vec true []] 61]) (by first | rfl | simp only [go_sem, simprocAttr, e_2]) ?_
        try simp only [CallK_pan, dCallK_pan, panK_ap]
        have g_0 := Option.some.inj h
        subst g_0
        rw [← hQ]
        exact ⟨rfl, _, _, RefV.dead rfl, rfl, rfl⟩
    · skip
      try dsimp only at h
      refine ACalls.usePan (context_reader_count_w N _ _ _ _ c_0 _ h_69) [0] (by decide) ⟨(by first | rfl | simp only [go_sem, simprocAttr, e_2]), trivial⟩ rfl (v' := .iface 119 (.agg [])) rfl (H' := [.dead, .box [.vec c_1 (List.map eTClass l_4)] 27, .box [.vec c_2 (List.map eTClass l_5)] 27, .box [.vec c_3 (List.map eTClass l_6)] 27, .box [.vec false (List.map eTSpan l_2), .bool b_3] 36, .box [.fn (.func 101) [] [.ptr 1 0 0], .fn (.func 101) [] [.ptr 2 0 0], .fn (.func 101) [] [.ptr 3 0 0], .bool b_7] 143, .box [.vec true [], .vec true [], .vec true [], .vec true []] 61, .box [.vec true [], .vec true [], .vec true [], .vec true []] 61]) (by first | rfl | simp only [go_sem, simprocAttr, e_2]) ?_
      try simp only [CallK_pan, dCallK_pan, panK_ap]
      have g_0 := Option.some.inj h
      subst g_0
      rw [← hQ]
      exact ⟨rfl, _, _, RefV.dead rfl, rfl, rfl⟩
theorem context_reader_list_L2_w (N : Nat) (a_2 : Int) (i_1 : Int) (x_4 : Int) (l_3 : List Int) (y_18 : List Int) (l_0 : List Int) (a_1 : Int) (l_4 : List TSpan) (l_5 : List TClass) (l_6 : List TClass) (l_7 : List TClass) (l_8 : List TClass) (b_9 : Bool) (c_1 : Bool) (c_0 : Bool) (c_2 : Bool) (c_3 : Bool) (c_4 : Bool) (c_5 : Bool) (c_6 : Bool) {R : AExit → ATm → List AObj → Prop} : ∀ (n : Nat) (i_22 : Int) (s_23 : List TCtx) (o : ((List TCtx)) ⊕ (Unit)), context_reader_list_L2 N a_2 i_1 x_4 l_3 y_18 l_0 a_1 l_4 l_5 l_6 l_7 l_8 b_9 n i_22 s_23 = some o → (match o with | .inl z_1 => R (.exit 2) ⟨75, [(0, .ptr 0 0 0), (1, .int .i64 a_2), (3, .fn (.func 102) [] [.ptr 1 0 0, .ptr 2 0 0]), (9, .ptr 6 0 0), (11, .row 7 0 z_1.length), (18, .vec c_1 (List.map eI64 l_3)), (19, .int .i64 (l_3.length : Int)), (20, .int .i64 i_1)], []⟩ [.box [.vec c_0 (List.map eU8 l_0), .int .i64 a_1] 123, .box [.vec c_2 (List.map eTSpan l_4)] 24, .box [.vec c_3 (List.map eTClass l_5)] 27, .box [.vec c_4 (List.map eTClass l_6)] 27, .box [.vec c_5 (List.map eTClass l_7)] 27, .box [.vec c_6 (List.map eTClass l_8)] 27, .box [.fn (.func 101) [] [.ptr 3 0 0], .fn (.func 101) [] [.ptr 4 0 0], .fn (.func 101) [] [.ptr 5 0 0], .bool b_9] 143, .mem 4 (List.map eTCtx z_1) 61] | .inr (_) => ∀ (tb : ATm) (Hb : List AObj), tb.ds = [] → R (.pan (.iface 119 (.agg []))) tb Hb) →
    ALp Go.Proofs.Try.prog 6 B96_2 ⟨75, [(0, .ptr 0 0 0), (1, .int .i64 a_2), (3, .fn (.func 102) [] [.ptr 1 0 0, .ptr 2 0 0]), (9, .ptr 6 0 0), (11, .row 7 0 s_23.length), (12, .int .i64 i_1), (13, .int .i64 x_4), (18, .vec c_1 (List.map eI64 l_3)), (19, .int .i64 (l_3.length : Int)), (20, .int .i64 i_1), (43, .vec false (List.map eI64 y_18)), (44, .int .i64 (y_18.length : Int)), (45, .int .i64 i_22)], []⟩ [.box [.vec c_0 (List.map eU8 l_0), .int .i64 a_1] 123, .box [.vec c_2 (List.map eTSpan l_4)] 24, .box [.vec c_3 (List.map eTClass l_5)] 27, .box [.vec c_4 (List.map eTClass l_6)] 27, .box [.vec c_5 (List.map eTClass l_7)] 27, .box [.vec c_6 (List.map eTClass l_8)] 27, .box [.fn (.func 101) [] [.ptr 3 0 0], .fn (.func 101) [] [.ptr 4 0 0], .fn (.func 101) [] [.ptr 5 0 0], .bool b_9] 143, .mem 4 (List.map eTCtx s_23) 61] R := by
  intro n
  induction n with
  | zero =>
    intro i_22 s_23 o h _
    have h0 : none = some o := h
    cases h0
  | succ n ih =>
    intro i_22 s_23 o h hp
    rw [context_reader_list_L2] at h
    refine ALp.round ?_
    generalize hQ : RoundQ _ _ _ _ = QQ
    simp only [B96_2, B96_1, A96, go_sem, simprocAttr]
    by_cases h_24 : i_22 < (y_18.length : Int)
    · rw [if_pos h_24] at h
      have e_25 : (i_22 < (y_18.length : Int)) = True := eq_true h_24
      obtain ⟨x_26, h_27, h⟩ := bindS h
      have e_28 : (List.map eI64 y_18)[(i_22).toNat]? = some [.int .i64 x_26] := atI_map eI64 h_27
      have e_29 : ((0 : Int) ≤ i_22) = True := eq_true (atI_some h_27).1
      have e_30 : ((i_22 : Int) < (y_18.length : Int)) = True := eq_true (atI_lt h_27)
      simp only [e_25, e_28, e_29, e_30, go_sem, simprocAttr]
      refine ⟨?_, ?_⟩
      · skip
        obtain ⟨⟨y_31, y_32⟩, h_33, h⟩ := bindS h
        try dsimp only at h
        try simp only [e_25, e_28, e_29, e_30, go_sem, simprocAttr]
        refine ACalls.use (context_reader_classed_2_w N _ _ _ c_2 c_3 _ _ h_33) [1, 2] (by decide) ⟨(by first | rfl | simp only [go_sem, simprocAttr, e_25]), (by first | rfl | simp only [go_sem, simprocAttr, e_25]), trivial⟩ rfl (v' := .agg [.vec false (List.map eTSpan y_31), .bool y_32]) (by first | rfl | simp only [go_sem, simprocAttr, e_25]) (H' := [.box [.vec c_0 (List.map eU8 l_0), .int .i64 a_1] 123, .box [.vec c_2 (List.map eTSpan l_4)] 24, .box [.vec c_3 (List.map eTClass l_5)] 27, .box [.vec c_4 (List.map eTClass l_6)] 27, .box [.vec c_5 (List.map eTClass l_7)] 27, .box [.vec c_6 (List.map eTClass l_8)] 27, .box [.fn (.func 101) [] [.ptr 3 0 0], .fn (.func 101) [] [.ptr 4 0 0], .fn (.func 101) [] [.ptr 5 0 0], .bool b_9] 143, .mem 4 (List.map eTCtx s_23) 61, .box [.vec c_0 (List.map eU8 l_0), .int .i64 (IntKind.i64.wrap ((IntKind.i64.wrap (a_2 + x_4)) + x_26))] 123]) (by first | rfl | simp only [go_sem, simprocAttr, e_25]) ?_
        obtain ⟨o_40, h_39, h⟩ := bindS h
        simp only [e_25, e_28, e_29, e_30, go_sem, simprocAttr]
        rcases o_40 with ⟨y_34, y_35, y_36, y_37, y_38⟩ | _
        · skip
          try dsimp only at h
          refine ACalls.use (context_reader_rule_v2_w N _ _ _ _ _ _ _ _ c_0 c_4 c_5 c_6 _ h_39) [8, 3, 4, 5] (by decide) ⟨(by first | rfl | simp only [go_sem, simprocAttr, e_25]), (by first | rfl | simp only [go_sem, simprocAttr, e_25]), (by first | rfl | simp only [go_sem, simprocAttr, e_25]), (by first | rfl | simp only [go_sem, simprocAttr, e_25]), trivial⟩ rfl (v' := .agg [.vec false (List.map eTSet y_34), .vec false (List.map eTSet y_35), .vec false (List.map eTSet y_36), .vec false (List.map eTAct y_37)]) (by first | rfl | simp only [go_sem, simprocAttr, e_25]) (H' := [.box [.vec c_0 (List.map eU8 l_0), .int .i64 a_1] 123, .box [.vec c_2 (List.map eTSpan l_4)] 24, .box [.vec c_3 (List.map eTClass l_5)] 27, .box [.vec c_4 (List.map eTClass l_6)] 27, .box [.vec c_5 (List.map eTClass l_7)] 27, .box [.vec c_6 (List.map eTClass l_8)] 27, .box [.fn (.func 101) [] [.ptr 3 0 0], .fn (.func 101) [] [.ptr 4 0 0], .fn (.func 101) [] [.ptr 5 0 0], .bool b_9] 143, .mem 4 (List.map eTCtx s_23) 61, .box [.vec c_0 (List.map eU8 l_0), .int .i64 y_38] 123]) (by first | rfl | simp only [go_sem, simprocAttr, e_25]) ?_
          have e_42 : List.take s_23.length (List.map eTCtx s_23) = (List.map eTCtx s_23) := List.take_of_length_le (by simp)
          have e_43 : (List.map eTCtx s_23) ++ [[.vec false (List.map eTSet y_34), .vec false (List.map eTSet y_35), .vec false (List.map eTSet y_36), .vec false (List.map eTAct y_37)]] = (List.map eTCtx (s_23 ++ [TCtx.mk y_34 y_35 y_36 y_37])) := app_map s_23 ([TCtx.mk y_34 y_35 y_36 y_37]) eTCtx
          obtain ⟨h_44, h⟩ := guardS h
          have e_45 : ((s_23.length + 1) * 96 ≤ 140737488355328) = True := eq_true h_44
          obtain ⟨o_47, h_46, h⟩ := bindS h
          simp only [e_25, e_28, e_29, e_30, e_42, e_43, e_45, go_sem, simprocAttr]
          rcases o_47 with _ | _
          · skip
            try dsimp only at h
            refine ACalls.use0 (context_must_w N _ _ h_46) rfl rfl ?_
            refine CallK_go (by simp) ?_
            simp only [e_25, e_28, e_29, e_30, e_42, e_43, e_45, go_sem, simprocAttr]
            rw [← hQ]
            exact ⟨_, _, (Ref.std [0, 1, 3, 9, 11, 12, 13, 18, 19, 20, 43, 44, 45] [0, 1, 2, 3, 4, 5, 6, 9] (by decide) (by decide) (by first | rfl | simp only [go_sem, simprocAttr]) (by first | rfl | simp only [go_sem, simprocAttr, e_25])), (by simp), ih _ _ _ h hp⟩
          · skip
            try dsimp only at h
            refine ACalls.usePan (context_must_w N _ _ h_46) [] (by decide) trivial rfl (v' := .iface 119 (.agg [])) rfl (H' := [.box [.vec c_0 (List.map eU8 l_0), .int .i64 a_1] 123, .box [.vec c_2 (List.map eTSpan l_4)] 24, .box [.vec c_3 (List.map eTClass l_5)] 27, .box [.vec c_4 (List.map eTClass l_6)] 27, .box [.vec c_5 (List.map eTClass l_7)] 27, .box [.vec c_6 (List.map eTClass l_8)] 27, .box [.fn (.func 101) [] [.ptr 3 0 0], .fn (.func 101) [] [.ptr 4 0 0], .fn (.func 101) [] [.ptr 5 0 0], .bool b_9] 143, .dead, .box [.vec c_0 (List.map eU8 l_0), .int .i64 y_38] 123, .mem 4 (List.map eTCtx (s_23 ++ [TCtx.mk y_34 y_35 y_36 y_37])) 61]) (by first | rfl | simp only [go_sem, simprocAttr, e_25]) ?_
            try simp only [CallK_pan, dCallK_pan, panK_ap]
            have g := Option.some.inj h
            subst g
            rw [← hQ]
            exact hp _ _ rfl
        · skip
          try dsimp only at h
          refine ACalls.usePan (context_reader_rule_v2_w N _ _ _ _ _ _ _ _ c_0 c_4 c_5 c_6 _ h_39) [8, 3, 4, 5] (by decide) ⟨(by first | rfl | simp only [go_sem, simprocAttr, e_25]), (by first | rfl | simp only [go_sem, simprocAttr, e_25]), (by first | rfl | simp only [go_sem, simprocAttr, e_25]), (by first | rfl | simp only [go_sem, simprocAttr, e_25]), trivial⟩ rfl (v' := .iface 119 (.agg [])) rfl (H' := [.box [.vec c_0 (List.map eU8 l_0), .int .i64 a_1] 123, .box [.vec c_2 (List.map eTSpan l_4)] 24, .box [.vec c_3 (List.map eTClass l_5)] 27, .dead, .dead, .dead, .box [.fn (.func 101) [] [.ptr 3 0 0], .fn (.func 101) [] [.ptr 4 0 0], .fn (.func 101) [] [.ptr 5 0 0], .bool b_9] 143, .mem 4 (List.map eTCtx s_23) 61, .dead]) (by first | rfl | simp only [go_sem, simprocAttr, e_25]) ?_
          try simp only [CallK_pan, dCallK_pan, panK_ap]
          have g := Option.some.inj h
          subst g
          rw [← hQ]
          exact hp _ _ rfl
      · skip
        obtain ⟨⟨y_31, y_32⟩, h_33, h⟩ := bindS h
        try dsimp only at h
        try simp only [e_25, e_28, e_29, e_30, go_sem, simprocAttr]
        refine ACalls.use (context_reader_classed_2_w N _ _ _ c_2 c_3 _ _ h_33) [1, 2] (by decide) ⟨(by first | rfl | simp only [go_sem, simprocAttr, e_25]), (by first | rfl | simp only [go_sem, simprocAttr, e_25]), trivial⟩ rfl (v' := .agg [.vec false (List.map eTSpan y_31), .bool y_32]) (by first | rfl | simp only [go_sem, simprocAttr, e_25]) (H' := [.box [.vec c_0 (List.map eU8 l_0), .int .i64 a_1] 123, .box [.vec c_2 (List.map eTSpan l_4)] 24, .box [.vec c_3 (List.map eTClass l_5)] 27, .box [.vec c_4 (List.map eTClass l_6)] 27, .box [.vec c_5 (List.map eTClass l_7)] 27, .box [.vec c_6 (List.map eTClass l_8)] 27, .box [.fn (.func 101) [] [.ptr 3 0 0], .fn (.func 101) [] [.ptr 4 0 0], .fn (.func 101) [] [.ptr 5 0 0], .bool b_9] 143, .mem 4 (List.map eTCtx s_23) 61]) (by first | rfl | simp only [go_sem, simprocAttr, e_25]) ?_
        obtain ⟨o_40, h_39, h⟩ := bindS h
        simp only [e_25, e_28, e_29, e_30, go_sem, simprocAttr]
        rcases o_40 with ⟨y_34, y_35, y_36, y_37, y_38⟩ | _
        · skip
          try dsimp only at h
          refine ACalls.use (context_reader_rule_v2_w N _ _ _ _ _ _ _ _ c_0 c_4 c_5 c_6 _ h_39) [8, 3, 4, 5] (by decide) ⟨(by first | rfl | simp only [go_sem, simprocAttr, e_25]), (by first | rfl | simp only [go_sem, simprocAttr, e_25]), (by first | rfl | simp only [go_sem, simprocAttr, e_25]), (by first | rfl | simp only [go_sem, simprocAttr, e_25]), trivial⟩ rfl (v' := .agg [.vec false (List.map eTSet y_34), .vec false (List.map eTSet y_35), .vec false (List.map eTSet y_36), .vec false (List.map eTAct y_37)]) (by first | rfl | simp only [go_sem, simprocAttr, e_25]) (H' := [.box [.vec c_0 (List.map eU8 l_0), .int .i64 a_1] 123, .box [.vec c_2 (List.map eTSpan l_4)] 24, .box [.vec c_3 (List.map eTClass l_5)] 27, .box [.vec c_4 (List.map eTClass l_6)] 27, .box [.vec c_5 (List.map eTClass l_7)] 27, .box [.vec c_6 (List.map eTClass l_8)] 27, .box [.fn (.func 101) [] [.ptr 3 0 0], .fn (.func 101) [] [.ptr 4 0 0], .fn (.func 101) [] [.ptr 5 0 0], .bool b_9] 143, .mem 4 (List.map eTCtx s_23) 61, .box [.vec c_0 (List.map eU8 l_0), .int .i64 y_38] 123]) (by first | rfl | simp only [go_sem, simprocAttr, e_25]) ?_
          have e_42 : List.take s_23.length (List.map eTCtx s_23) = (List.map eTCtx s_23) := List.take_of_length_le (by simp)
          have e_43 : (List.map eTCtx s_23) ++ [[.vec false (List.map eTSet y_34), .vec false (List.map eTSet y_35), .vec false (List.map eTSet y_36), .vec false (List.map eTAct y_37)]] = (List.map eTCtx (s_23 ++ [TCtx.mk y_34 y_35 y_36 y_37])) := app_map s_23 ([TCtx.mk y_34 y_35 y_36 y_37]) eTCtx
          obtain ⟨h_44, h⟩ := guardS h
          have e_45 : ((s_23.length + 1) * 96 ≤ 140737488355328) = True := eq_true h_44
          obtain ⟨o_47, h_46, h⟩ := bindS h
          simp only [e_25, e_28, e_29, e_30, e_42, e_43, e_45, go_sem, simprocAttr]
          rcases o_47 with _ | _
          · skip
            try dsimp only at h
            refine ACalls.use0 (context_must_w N _ _ h_46) rfl rfl ?_
            refine CallK_go (by simp) ?_
            simp only [e_25, e_28, e_29, e_30, e_42, e_43, e_45, go_sem, simprocAttr]
            rw [← hQ]
            exact ⟨_, _, (Ref.std [0, 1, 3, 9, 11, 12, 13, 18, 19, 20, 43, 44, 45] [0, 1, 2, 3, 4, 5, 6, 9] (by decide) (by decide) (by first | rfl | simp only [go_sem, simprocAttr]) (by first | rfl | simp only [go_sem, simprocAttr, e_25])), (by simp), ih _ _ _ h hp⟩
          · skip
            try dsimp only at h
            refine ACalls.usePan (context_must_w N _ _ h_46) [] (by decide) trivial rfl (v' := .iface 119 (.agg [])) rfl (H' := [.box [.vec c_0 (List.map eU8 l_0), .int .i64 a_1] 123, .box [.vec c_2 (List.map eTSpan l_4)] 24, .box [.vec c_3 (List.map eTClass l_5)] 27, .box [.vec c_4 (List.map eTClass l_6)] 27, .box [.vec c_5 (List.map eTClass l_7)] 27, .box [.vec c_6 (List.map eTClass l_8)] 27, .box [.fn (.func 101) [] [.ptr 3 0 0], .fn (.func 101) [] [.ptr 4 0 0], .fn (.func 101) [] [.ptr 5 0 0], .bool b_9] 143, .dead, .box [.vec c_0 (List.map eU8 l_0), .int .i64 y_38] 123, .mem 4 (List.map eTCtx (s_23 ++ [TCtx.mk y_34 y_35 y_36 y_37])) 61]) (by first | rfl | simp only [go_sem, simprocAttr, e_25]) ?_
            try simp only [CallK_pan, dCallK_pan, panK_ap]
            have g := Option.some.inj h
            subst g
            rw [← hQ]
            exact hp _ _ rfl
        · skip
          try dsimp only at h
          refine ACalls.usePan (context_reader_rule_v2_w N _ _ _ _ _ _ _ _ c_0 c_4 c_5 c_6 _ h_39) [8, 3, 4, 5] (by decide) ⟨(by first | rfl | simp only [go_sem, simprocAttr, e_25]), (by first | rfl | simp only [go_sem, simprocAttr, e_25]), (by first | rfl | simp only [go_sem, simprocAttr, e_25]), (by first | rfl | simp only [go_sem, simprocAttr, e_25]), trivial⟩ rfl (v' := .iface 119 (.agg [])) rfl (H' := [.box [.vec c_0 (List.map eU8 l_0), .int .i64 a_1] 123, .box [.vec c_2 (List.map eTSpan l_4)] 24, .box [.vec c_3 (List.map eTClass l_5)] 27, .dead, .dead, .dead, .box [.fn (.func 101) [] [.ptr 3 0 0], .fn (.func 101) [] [.ptr 4 0 0], .fn (.func 101) [] [.ptr 5 0 0], .bool b_9] 143, .mem 4 (List.map eTCtx s_23) 61, .dead]) (by first | rfl | simp only [go_sem, simprocAttr, e_25]) ?_
          try simp only [CallK_pan, dCallK_pan, panK_ap]
          have g := Option.some.inj h
          subst g
          rw [← hQ]
          exact hp _ _ rfl
    · rw [if_neg h_24] at h
      have e_25 : (i_22 < (y_18.length : Int)) = False := eq_false h_24
      simp only [e_25, go_sem, simprocAttr]
      have g := Option.some.inj h
      subst g
      rw [← hQ]
      exact ⟨_, _, (Ref.std [0, 1, 3, 9, 11, 18, 19, 20] [0, 1, 2, 3, 4, 5, 6, 7] (by decide) (by decide) rfl (by first | rfl | simp only [go_sem, simprocAttr, e_25])), hp⟩
theorem context_reader_list_L3_w (N : Nat) (a_2 : Int) (l_3 : List Int) (l_0 : List Int) (a_1 : Int) (l_4 : List TSpan) (l_5 : List TClass) (l_6 : List TClass) (l_7 : List TClass) (l_8 : List TClass) (b_9 : Bool) (c_1 : Bool) (c_0 : Bool) (c_2 : Bool) (c_3 : Bool) (c_4 : Bool) (c_5 : Bool) (c_6 : Bool) {R : AExit → ATm → List AObj → Prop} : ∀ (n : Nat) (i_1 : Int) (s_2 : List TCtx) (o : ((List TCtx)) ⊕ (Unit)), context_reader_list_L3 N a_2 l_3 l_0 a_1 l_4 l_5 l_6 l_7 l_8 b_9 n i_1 s_2 = some o → (match o with | .inl z_1 => R (.exit 0) ⟨75, [(11, .row 6 0 z_1.length)], []⟩ [.box [.vec c_0 (List.map eU8 l_0), .int .i64 a_1] 123, .box [.vec c_2 (List.map eTSpan l_4)] 24, .box [.vec c_3 (List.map eTClass l_5)] 27, .box [.vec c_4 (List.map eTClass l_6)] 27, .box [.vec c_5 (List.map eTClass l_7)] 27, .box [.vec c_6 (List.map eTClass l_8)] 27, .mem 4 (List.map eTCtx z_1) 61] | .inr (_) => ∀ (tb : ATm) (Hb : List AObj), tb.ds = [] → R (.pan (.iface 119 (.agg []))) tb Hb) →
    ALp Go.Proofs.Try.prog 6 B96_1 ⟨75, [(0, .ptr 0 0 0), (1, .int .i64 a_2), (3, .fn (.func 102) [] [.ptr 1 0 0, .ptr 2 0 0]), (9, .ptr 6 0 0), (11, .row 7 0 s_2.length), (18, .vec c_1 (List.map eI64 l_3)), (19, .int .i64 (l_3.length : Int)), (20, .int .i64 i_1)], []⟩ [.box [.vec c_0 (List.map eU8 l_0), .int .i64 a_1] 123, .box [.vec c_2 (List.map eTSpan l_4)] 24, .box [.vec c_3 (List.map eTClass l_5)] 27, .box [.vec c_4 (List.map eTClass l_6)] 27, .box [.vec c_5 (List.map eTClass l_7)] 27, .box [.vec c_6 (List.map eTClass l_8)] 27, .box [.fn (.func 101) [] [.ptr 3 0 0], .fn (.func 101) [] [.ptr 4 0 0], .fn (.func 101) [] [.ptr 5 0 0], .bool b_9] 143, .mem 4 (List.map eTCtx s_2) 61] R := by
  intro n
  induction n with
  | zero =>
    intro i_1 s_2 o h _
    have h0 : none = some o := h
    cases h0
  | succ n ih =>
    intro i_1 s_2 o h hp
    rw [context_reader_list_L3] at h
    refine ALp.round ?_
    generalize hQ : RoundQ _ _ _ _ = QQ
    simp only [B96_1, A96, go_sem, simprocAttr]
    by_cases h_3 : i_1 < (l_3.length : Int)
    · rw [if_pos h_3] at h
      have e_4 : (i_1 < (l_3.length : Int)) = True := eq_true h_3
      obtain ⟨x_5, h_6, h⟩ := bindS h
      have e_7 : (List.map eI64 l_3)[(i_1).toNat]? = some [.int .i64 x_5] := atI_map eI64 h_6
      have e_8 : ((0 : Int) ≤ i_1) = True := eq_true (atI_some h_6).1
      have e_9 : ((i_1 : Int) < (l_3.length : Int)) = True := eq_true (atI_lt h_6)
      simp only [e_4, e_7, e_8, e_9, go_sem, simprocAttr]
      by_cases h_10 : x_5 = 0
      · rw [if_pos h_10] at h
        have e_11 : (x_5 = 0) = True := eq_true h_10
        simp only [e_4, e_7, e_8, e_9, e_11, go_sem, simprocAttr]
        rw [← hQ]
        exact ⟨_, _, (Ref.std [0, 1, 3, 9, 11, 18, 19, 20] [0, 1, 2, 3, 4, 5, 6, 7] (by decide) (by decide) rfl (by first | rfl | simp only [go_sem, simprocAttr, e_4, e_11])), (by simp), ih _ _ _ h hp⟩
      · rw [if_neg h_10] at h
        have e_11 : (x_5 = 0) = False := eq_false h_10
        obtain ⟨o_14, h_13, h⟩ := bindS h
        simp only [e_4, e_7, e_8, e_9, e_11, go_sem, simprocAttr]
        rcases o_14 with y_12 | _
        · skip
          try dsimp only at h
          refine ACalls.use (context_reader_number_w N _ _ c_0 _ h_13) [8] (by decide) ⟨(by first | rfl | simp only [go_sem, simprocAttr, e_4, e_11]), trivial⟩ rfl (v' := .int .i64 y_12) (by first | rfl | simp only [go_sem, simprocAttr, e_4, e_11]) (H' := [.box [.vec c_0 (List.map eU8 l_0), .int .i64 a_1] 123, .box [.vec c_2 (List.map eTSpan l_4)] 24, .box [.vec c_3 (List.map eTClass l_5)] 27, .box [.vec c_4 (List.map eTClass l_6)] 27, .box [.vec c_5 (List.map eTClass l_7)] 27, .box [.vec c_6 (List.map eTClass l_8)] 27, .box [.fn (.func 101) [] [.ptr 3 0 0], .fn (.func 101) [] [.ptr 4 0 0], .fn (.func 101) [] [.ptr 5 0 0], .bool b_9] 143, .mem 4 (List.map eTCtx s_2) 61, .box [.vec c_0 (List.map eU8 l_0), .int .i64 (IntKind.i64.wrap ((IntKind.i64.wrap (a_2 + x_5)) + 2))] 123]) (by first | rfl | simp only [go_sem, simprocAttr, e_4, e_11]) ?_
          refine CallK_go (by simp) ?_
          obtain ⟨o_17, h_16, h⟩ := bindS h
          simp only [e_4, e_7, e_8, e_9, e_11, go_sem, simprocAttr]
          rcases o_17 with _ | _
          · skip
            try dsimp only at h
            refine ACalls.use0 (context_must_w N _ _ h_16) rfl rfl ?_
            refine CallK_go (by simp) ?_
            obtain ⟨o_21, h_20, h⟩ := bindS h
            simp only [e_4, e_7, e_8, e_9, e_11, go_sem, simprocAttr]
            rcases o_21 with y_19 | _
            · skip
              try dsimp only at h
              refine ACalls.use (context_reader_row_w N _ _ _ c_0 _ h_20) [8] (by decide) ⟨(by first | rfl | simp only [go_sem, simprocAttr, e_4, e_11]), trivial⟩ rfl (v' := .vec false (List.map eI64 y_19)) (by first | rfl | simp only [go_sem, simprocAttr, e_4, e_11]) (H' := [.box [.vec c_0 (List.map eU8 l_0), .int .i64 a_1] 123, .box [.vec c_2 (List.map eTSpan l_4)] 24, .box [.vec c_3 (List.map eTClass l_5)] 27, .box [.vec c_4 (List.map eTClass l_6)] 27, .box [.vec c_5 (List.map eTClass l_7)] 27, .box [.vec c_6 (List.map eTClass l_8)] 27, .box [.fn (.func 101) [] [.ptr 3 0 0], .fn (.func 101) [] [.ptr 4 0 0], .fn (.func 101) [] [.ptr 5 0 0], .bool b_9] 143, .mem 4 (List.map eTCtx s_2) 61, .box [.vec c_0 (List.map eU8 l_0), .int .i64 (IntKind.i64.wrap ((IntKind.i64.wrap ((IntKind.i64.wrap (a_2 + x_5)) + 2)) + (IntKind.i64.wrap (y_12 * 2))))] 123]) (by first | rfl | simp only [go_sem, simprocAttr, e_4, e_11]) ?_
              refine CallK_go (by simp) ?_
              simp only [e_4, e_7, e_8, e_9, e_11, go_sem, simprocAttr]
              obtain ⟨o_1025, h_1023, h⟩ := bindS h
              refine ALp.ref (Ref.std [0, 1, 3, 9, 11, 12, 13, 18, 19, 20, 43, 44, 45] [0, 1, 2, 3, 4, 5, 6, 7] (by decide) (by decide) rfl (by first | rfl | simp only [go_sem, simprocAttr, e_4, e_11])) (by simp) (context_reader_list_L2_w N _ _ _ _ _ _ _ _ _ _ _ _ _ c_1 c_0 c_2 c_3 c_4 c_5 c_6 N _ _ o_1025 h_1023 ?_)
              rcases o_1025 with y_1024 | _
              · try dsimp only at h
                refine LoopK_go rfl (by simp) ?_
                simp only [e_4, e_7, e_8, e_9, e_11, go_sem, simprocAttr]
                rw [← hQ]
                exact ⟨_, _, (Ref.std [0, 1, 3, 9, 11, 18, 19, 20] [0, 1, 2, 3, 4, 5, 6, 7] (by decide) (by decide) rfl (by first | rfl | simp only [go_sem, simprocAttr, e_4, e_11])), (by simp), ih _ _ _ h hp⟩
              · try dsimp only at h
                intro _ _ h_1026
                refine LoopK_pan ?_
                have g := Option.some.inj h
                subst g
                rw [← hQ]
                exact hp _ _ h_1026
            · skip
              try dsimp only at h
              refine ACalls.usePan (context_reader_row_w N _ _ _ c_0 _ h_20) [8] (by decide) ⟨(by first | rfl | simp only [go_sem, simprocAttr, e_4, e_11]), trivial⟩ rfl (v' := .iface 119 (.agg [])) rfl (H' := [.box [.vec c_0 (List.map eU8 l_0), .int .i64 a_1] 123, .box [.vec c_2 (List.map eTSpan l_4)] 24, .box [.vec c_3 (List.map eTClass l_5)] 27, .box [.vec c_4 (List.map eTClass l_6)] 27, .box [.vec c_5 (List.map eTClass l_7)] 27, .box [.vec c_6 (List.map eTClass l_8)] 27, .box [.fn (.func 101) [] [.ptr 3 0 0], .fn (.func 101) [] [.ptr 4 0 0], .fn (.func 101) [] [.ptr 5 0 0], .bool b_9] 143, .mem 4 (List.map eTCtx s_2) 61, .dead]) (by first | rfl | simp only [go_sem, simprocAttr, e_4, e_11]) ?_
              try simp only [CallK_pan, dCallK_pan, panK_ap]
              have g := Option.some.inj h
              subst g
              rw [← hQ]
              exact hp _ _ rfl
          · skip
            try dsimp only at h
            refine ACalls.usePan (context_must_w N _ _ h_16) [] (by decide) trivial rfl (v' := .iface 119 (.agg [])) rfl (H' := [.box [.vec c_0 (List.map eU8 l_0), .int .i64 a_1] 123, .box [.vec c_2 (List.map eTSpan l_4)] 24, .box [.vec c_3 (List.map eTClass l_5)] 27, .box [.vec c_4 (List.map eTClass l_6)] 27, .box [.vec c_5 (List.map eTClass l_7)] 27, .box [.vec c_6 (List.map eTClass l_8)] 27, .box [.fn (.func 101) [] [.ptr 3 0 0], .fn (.func 101) [] [.ptr 4 0 0], .fn (.func 101) [] [.ptr 5 0 0], .bool b_9] 143, .mem 4 (List.map eTCtx s_2) 61, .box [.vec c_0 (List.map eU8 l_0), .int .i64 (IntKind.i64.wrap ((IntKind.i64.wrap (a_2 + x_5)) + 2))] 123]) (by first | rfl | simp only [go_sem, simprocAttr, e_4, e_11]) ?_
            try simp only [CallK_pan, dCallK_pan, panK_ap]
            have g := Option.some.inj h
            subst g
            rw [← hQ]
            exact hp _ _ rfl
        · skip
          try dsimp only at h
          refine ACalls.usePan (context_reader_number_w N _ _ c_0 _ h_13) [8] (by decide) ⟨(by first | rfl | simp only [go_sem, simprocAttr, e_4, e_11]), trivial⟩ rfl (v' := .iface 119 (.agg [])) rfl (H' := [.box [.vec c_0 (List.map eU8 l_0), .int .i64 a_1] 123, .box [.vec c_2 (List.map eTSpan l_4)] 24, .box [.vec c_3 (List.map eTClass l_5)] 27, .box [.vec c_4 (List.map eTClass l_6)] 27, .box [.vec c_5 (List.map eTClass l_7)] 27, .box [.vec c_6 (List.map eTClass l_8)] 27, .box [.fn (.func 101) [] [.ptr 3 0 0], .fn (.func 101) [] [.ptr 4 0 0], .fn (.func 101) [] [.ptr 5 0 0], .bool b_9] 143, .mem 4 (List.map eTCtx s_2) 61, .dead]) (by first | rfl | simp only [go_sem, simprocAttr, e_4, e_11]) ?_
          try simp only [CallK_pan, dCallK_pan, panK_ap]
          have g := Option.some.inj h
          subst g
          rw [← hQ]
          exact hp _ _ rfl
    · rw [if_neg h_3] at h
      have e_4 : (i_1 < (l_3.length : Int)) = False := eq_false h_3
      simp only [e_4, go_sem, simprocAttr]
      have g := Option.some.inj h
      subst g
      rw [← hQ]
      exact ⟨_, _, (Ref.std [11] [0, 1, 2, 3, 4, 5, 7] (by decide) (by decide) rfl (by first | rfl | simp only [go_sem, simprocAttr])), hp⟩
theorem context_reader_list_w (N : Nat) (l_0 : List Int) (a_1 : Int) (a_2 : Int) (l_3 : List Int) (l_4 : List TSpan) (l_5 : List TClass) (l_6 : List TClass) (l_7 : List TClass) (l_8 : List TClass) (b_9 : Bool) (c_0 : Bool) (c_1 : Bool) (c_2 : Bool) (c_3 : Bool) (c_4 : Bool) (c_5 : Bool) (c_6 : Bool) (o : ((List TCtx)) ⊕ Unit) (h : context_reader_list N l_0 a_1 a_2 l_3 l_4 l_5 l_6 l_7 l_8 b_9 = some o) :
    ACalls Go.Proofs.Try.prog 96 [.ptr 0 0 0, .int .i64 a_2, .vec c_1 (List.map eI64 l_3), .fn (.func 102) [] [.ptr 1 0 0, .ptr 2 0 0], .agg [.fn (.func 101) [] [.ptr 3 0 0], .fn (.func 101) [] [.ptr 4 0 0], .fn (.func 101) [] [.ptr 5 0 0], .bool b_9]] [.box [.vec c_0 (List.map eU8 l_0), .int .i64 a_1] 123, .box [.vec c_2 (List.map eTSpan l_4)] 24, .box [.vec c_3 (List.map eTClass l_5)] 27, .box [.vec c_4 (List.map eTClass l_6)] 27, .box [.vec c_5 (List.map eTClass l_7)] 27, .box [.vec c_6 (List.map eTClass l_8)] 27] (fun e H => match o with | .inl z_1 => H = [.box [.vec c_0 (List.map eU8 l_0), .int .i64 a_1] 123, .box [.vec c_2 (List.map eTSpan l_4)] 24, .box [.vec c_3 (List.map eTClass l_5)] 27, .box [.vec c_4 (List.map eTClass l_6)] 27, .box [.vec c_5 (List.map eTClass l_7)] 27, .box [.vec c_6 (List.map eTClass l_8)] 27] ∧ e = .ret (.vec false (List.map eTCtx z_1)) | .inr _ => H = [.dead, .dead, .dead, .dead, .dead, .dead] ∧ e = .pan (.iface 119 (.agg []))) := by
  unfold context_reader_list at h
  refine ACalls.goN Go.Proofs.Try.func96 n96 a96 Go.Proofs.Try.ntmps96 r96 (by simp) 6 rfl ?_
  generalize hQ : bodyA _ _ _ = QQ
  simp only [A96, go_sem, simprocAttr]
  obtain ⟨o_1003, h_1001, h⟩ := bindS h
  refine ALp.ref (Ref.trans (Ref.thaw (by simp) 11 rfl (sz := 4) (by decide) 61) (Ref.std [0, 1, 3, 9, 11, 18, 19, 20] [0, 1, 2, 3, 4, 5, 6, 7] (by decide) (by decide) rfl (by first | rfl | simp only [go_sem, simprocAttr]))) (by simp) (context_reader_list_L3_w N _ _ _ _ _ _ _ _ _ _ c_1 c_0 c_2 c_3 c_4 c_5 c_6 N _ _ o_1003 h_1001 ?_)
  rcases o_1003 with y_1002 | _
  · try dsimp only at h
    refine LoopK_go rfl (by simp) ?_
    simp only [go_sem, simprocAttr]
    have g_0 := Option.some.inj h
    subst g_0
    rw [← hQ]
    exact ⟨rfl, _, rfl, _, _, (RefV.trans (RefV.frz (by simp) (id := 6) rfl (pures_map y_1002 eTCtx (fun _ => rfl))) (RefV.std [0, 1, 2, 3, 4, 5] (by decide) (by decide) (by first | rfl | simp only [go_sem, simprocAttr]) (by first | rfl | simp only [go_sem, simprocAttr]))), rfl, rfl⟩
  · try dsimp only at h
    intro _ _ h_1004
    refine LoopK_pan ?_
    have g_0 := Option.some.inj h
    subst g_0
    rw [← hQ]
    exact ⟨h_1004, _, _, RefV.dead rfl, rfl, rfl⟩
theorem context_reader_classed_w (N : Nat) (l_0 : List Int) (a_1 : Int) (a_2 : Int) (b_3 : Bool) (c_0 : Bool) (o : ((List TCtx) × Int) ⊕ Unit) (h : context_reader_classed N l_0 a_1 a_2 b_3 = some o) :
    ACalls Go.Proofs.Try.prog 84 [.ptr 0 0 0, .int .i64 a_2, .bool b_3] [.box [.vec c_0 (List.map eU8 l_0), .int .i64 a_1] 123] (fun e H => match o with | .inl (z_1, z_2) => H = [.box [.vec c_0 (List.map eU8 l_0), .int .i64 z_2] 123] ∧ e = .ret (.vec false (List.map eTCtx z_1)) | .inr _ => H = [.dead] ∧ e = .pan (.iface 119 (.agg []))) := by
  unfold context_reader_classed at h
  refine ACalls.goN Go.Proofs.Try.func84 n84 a84 Go.Proofs.Try.ntmps84 r84 (by simp) 1 rfl ?_
  generalize hQ : bodyA _ _ _ = QQ
  obtain ⟨o_3, h_2, h⟩ := bindS h
  simp only [A84, go_sem, simprocAttr]
  rcases o_3 with y_1 | _
  · skip
    try dsimp only at h
    refine ACalls.use (context_reader_row_w N _ _ _ c_0 _ h_2) [0] (by decide) ⟨rfl, trivial⟩ rfl (v' := .vec false (List.map eI64 y_1)) rfl (H' := [.box [.vec c_0 (List.map eU8 l_0), .int .i64 (IntKind.i64.wrap (a_1 + (IntKind.i64.wrap 2)))] 123]) rfl ?_
    refine CallK_go (by simp) ?_
    obtain ⟨o_7, h_6, h⟩ := bindS h
    simp only [go_sem, simprocAttr]
    rcases o_7 with y_5 | _
    · skip
      try dsimp only at h
      refine ACalls.use (context_reader_covers_w N _ _ _ _ c_0 false _ h_6) [0] (by decide) ⟨rfl, trivial⟩ rfl (v' := .vec false (List.map eTSet y_5)) rfl (H' := [.box [.vec c_0 (List.map eU8 l_0), .int .i64 (IntKind.i64.wrap (a_1 + (IntKind.i64.wrap 2)))] 123]) rfl ?_
      refine CallK_go (by simp) ?_
      obtain ⟨x_9, h_10, h⟩ := bindS h
      have e_11 : (List.map eTSet y_5)[0]? = some [.vec false (List.map eTSpan x_9.Spans), .bool x_9.Not] := atI_map eTSet h_10
      have e_12 : ((0 : Int) < (y_5.length : Int)) = True := eq_true (atI_lt h_10)
      simp only [e_11, e_12, go_sem, simprocAttr]
      by_cases h_13 : b_3 = true
      · rw [if_pos h_13] at h
        have e_14 : b_3 = true := h_13
        obtain ⟨o_17, h_16, h⟩ := bindS h
        simp only [e_11, e_12, e_14, go_sem, simprocAttr]
        rcases o_17 with y_15 | _
        · skip
          try dsimp only at h
          refine ACalls.use (context_reader_number_w N _ _ c_0 _ h_16) [0] (by decide) ⟨(by first | rfl | simp only [go_sem, simprocAttr, e_14]), trivial⟩ rfl (v' := .int .i64 y_15) (by first | rfl | simp only [go_sem, simprocAttr, e_14]) (H' := [.box [.vec c_0 (List.map eU8 l_0), .int .i64 (IntKind.i64.wrap ((IntKind.i64.wrap (a_1 + (IntKind.i64.wrap 2))) + 2))] 123, .box [.vec false (List.map eTSpan x_9.Spans)] 24]) (by first | rfl | simp only [go_sem, simprocAttr, e_14]) ?_
          refine CallK_go (by simp) ?_
          obtain ⟨o_21, h_20, h⟩ := bindS h
          simp only [e_11, e_12, e_14, go_sem, simprocAttr]
          rcases o_21 with y_19 | _
          · skip
            try dsimp only at h
            refine ACalls.use (context_reader_classes_w N _ _ _ _ c_0 _ h_20) [0] (by decide) ⟨(by first | rfl | simp only [go_sem, simprocAttr, e_14]), trivial⟩ rfl (v' := .vec false (List.map eTClass y_19)) (by first | rfl | simp only [go_sem, simprocAttr, e_14]) (H' := [.box [.vec c_0 (List.map eU8 l_0), .int .i64 (IntKind.i64.wrap ((IntKind.i64.wrap (a_1 + (IntKind.i64.wrap 2))) + 2))] 123, .box [.vec false (List.map eTSpan x_9.Spans)] 24]) (by first | rfl | simp only [go_sem, simprocAttr, e_14]) ?_
            refine CallK_go (by simp) ?_
            obtain ⟨o_25, h_24, h⟩ := bindS h
            simp only [e_11, e_12, e_14, go_sem, simprocAttr]
            rcases o_25 with y_23 | _
            · skip
              try dsimp only at h
              refine ACalls.use (context_reader_number_w N _ _ c_0 _ h_24) [0] (by decide) ⟨(by first | rfl | simp only [go_sem, simprocAttr, e_14]), trivial⟩ rfl (v' := .int .i64 y_23) (by first | rfl | simp only [go_sem, simprocAttr, e_14]) (H' := [.box [.vec c_0 (List.map eU8 l_0), .int .i64 (IntKind.i64.wrap ((IntKind.i64.wrap ((IntKind.i64.wrap (a_1 + (IntKind.i64.wrap 2))) + 2)) + 2))] 123, .box [.vec false (List.map eTSpan x_9.Spans)] 24]) (by first | rfl | simp only [go_sem, simprocAttr, e_14]) ?_
              refine CallK_go (by simp) ?_
              obtain ⟨o_29, h_28, h⟩ := bindS h
              simp only [e_11, e_12, e_14, go_sem, simprocAttr]
              rcases o_29 with y_27 | _
              · skip
                try dsimp only at h
                refine ACalls.use (context_reader_classes_w N _ _ _ _ c_0 _ h_28) [0] (by decide) ⟨(by first | rfl | simp only [go_sem, simprocAttr, e_14]), trivial⟩ rfl (v' := .vec false (List.map eTClass y_27)) (by first | rfl | simp only [go_sem, simprocAttr, e_14]) (H' := [.box [.vec c_0 (List.map eU8 l_0), .int .i64 (IntKind.i64.wrap ((IntKind.i64.wrap ((IntKind.i64.wrap (a_1 + (IntKind.i64.wrap 2))) + 2)) + 2))] 123, .box [.vec false (List.map eTSpan x_9.Spans)] 24]) (by first | rfl | simp only [go_sem, simprocAttr, e_14]) ?_
                refine CallK_go (by simp) ?_
                obtain ⟨o_33, h_32, h⟩ := bindS h
                simp only [e_11, e_12, e_14, go_sem, simprocAttr]
                rcases o_33 with y_31 | _
                · skip
                  try dsimp only at h
                  refine ACalls.use (context_reader_number_w N _ _ c_0 _ h_32) [0] (by decide) ⟨(by first | rfl | simp only [go_sem, simprocAttr, e_14]), trivial⟩ rfl (v' := .int .i64 y_31) (by first | rfl | simp only [go_sem, simprocAttr, e_14]) (H' := [.box [.vec c_0 (List.map eU8 l_0), .int .i64 (IntKind.i64.wrap ((IntKind.i64.wrap ((IntKind.i64.wrap ((IntKind.i64.wrap (a_1 + (IntKind.i64.wrap 2))) + 2)) + 2)) + 2))] 123, .box [.vec false (List.map eTSpan x_9.Spans)] 24, .box [.vec false (List.map eTClass y_27)] 27]) (by first | rfl | simp only [go_sem, simprocAttr, e_14]) ?_
                  refine CallK_go (by simp) ?_
                  obtain ⟨o_37, h_36, h⟩ := bindS h
                  simp only [e_11, e_12, e_14, go_sem, simprocAttr]
                  rcases o_37 with y_35 | _
                  · skip
                    try dsimp only at h
                    refine ACalls.use (context_reader_classes_w N _ _ _ _ c_0 _ h_36) [0] (by decide) ⟨(by first | rfl | simp only [go_sem, simprocAttr, e_14]), trivial⟩ rfl (v' := .vec false (List.map eTClass y_35)) (by first | rfl | simp only [go_sem, simprocAttr, e_14]) (H' := [.box [.vec c_0 (List.map eU8 l_0), .int .i64 (IntKind.i64.wrap ((IntKind.i64.wrap ((IntKind.i64.wrap ((IntKind.i64.wrap (a_1 + (IntKind.i64.wrap 2))) + 2)) + 2)) + 2))] 123, .box [.vec false (List.map eTSpan x_9.Spans)] 24, .box [.vec false (List.map eTClass y_27)] 27]) (by first | rfl | simp only [go_sem, simprocAttr, e_14]) ?_
                    refine CallK_go (by simp) ?_
                    obtain ⟨o_41, h_40, h⟩ := bindS h
                    simp only [e_11, e_12, e_14, go_sem, simprocAttr]
                    rcases o_41 with y_39 | _
                    · skip
                      try dsimp only at h
                      refine ACalls.use (context_reader_number_w N _ _ c_0 _ h_40) [0] (by decide) ⟨(by first | rfl | simp only [go_sem, simprocAttr, e_14]), trivial⟩ rfl (v' := .int .i64 y_39) (by first | rfl | simp only [go_sem, simprocAttr, e_14]) (H' := [.box [.vec c_0 (List.map eU8 l_0), .int .i64 (IntKind.i64.wrap ((IntKind.i64.wrap ((IntKind.i64.wrap ((IntKind.i64.wrap ((IntKind.i64.wrap (a_1 + (IntKind.i64.wrap 2))) + 2)) + 2)) + 2)) + 2))] 123, .box [.vec false (List.map eTSpan x_9.Spans)] 24, .box [.vec false (List.map eTClass y_27)] 27]) (by first | rfl | simp only [go_sem, simprocAttr, e_14]) ?_
                      obtain ⟨o_45, h_44, h⟩ := bindS h
                      simp only [e_11, e_12, e_14, go_sem, simprocAttr]
                      rcases o_45 with y_43 | _
                      · skip
                        try dsimp only at h
                        refine ACalls.use (context_reader_row_w N _ _ _ c_0 _ h_44) [0] (by decide) ⟨(by first | rfl | simp only [go_sem, simprocAttr, e_14]), trivial⟩ rfl (v' := .vec false (List.map eI64 y_43)) (by first | rfl | simp only [go_sem, simprocAttr, e_14]) (H' := [.box [.vec c_0 (List.map eU8 l_0), .int .i64 (IntKind.i64.wrap ((IntKind.i64.wrap ((IntKind.i64.wrap ((IntKind.i64.wrap ((IntKind.i64.wrap ((IntKind.i64.wrap (a_1 + (IntKind.i64.wrap 2))) + 2)) + 2)) + 2)) + 2)) + (IntKind.i64.wrap (y_39 * 2))))] 123, .box [.vec false (List.map eTSpan x_9.Spans)] 24, .box [.vec false (List.map eTClass y_27)] 27]) (by first | rfl | simp only [go_sem, simprocAttr, e_14]) ?_
                        obtain ⟨_, h_47, h⟩ := bindS h
                        simp only [e_11, e_12, e_14, go_sem, simprocAttr]
                        refine ACalls.use (context_reader_classed_1_w N _ false h_47) [] (by decide) trivial rfl (v' := .fn (.func 101) [] [.ptr 3 0 0]) (by first | rfl | simp only [go_sem, simprocAttr, e_14]) (H' := [.box [.vec c_0 (List.map eU8 l_0), .int .i64 (IntKind.i64.wrap ((IntKind.i64.wrap ((IntKind.i64.wrap ((IntKind.i64.wrap ((IntKind.i64.wrap ((IntKind.i64.wrap (a_1 + (IntKind.i64.wrap 2))) + 2)) + 2)) + 2)) + 2)) + (IntKind.i64.wrap (y_39 * 2))))] 123, .box [.vec false (List.map eTSpan x_9.Spans)] 24, .box [.vec false (List.map eTClass y_27)] 27, .box [.vec false (List.map eTClass y_19)] 27]) (by first | rfl | simp only [go_sem, simprocAttr, e_14]) ?_
                        obtain ⟨_, h_48, h⟩ := bindS h
                        simp only [e_11, e_12, e_14, go_sem, simprocAttr]
                        refine ACalls.use (context_reader_classed_1_w N _ false h_48) [] (by decide) trivial rfl (v' := .fn (.func 101) [] [.ptr 4 0 0]) (by first | rfl | simp only [go_sem, simprocAttr, e_14]) (H' := [.box [.vec c_0 (List.map eU8 l_0), .int .i64 (IntKind.i64.wrap ((IntKind.i64.wrap ((IntKind.i64.wrap ((IntKind.i64.wrap ((IntKind.i64.wrap ((IntKind.i64.wrap (a_1 + (IntKind.i64.wrap 2))) + 2)) + 2)) + 2)) + 2)) + (IntKind.i64.wrap (y_39 * 2))))] 123, .box [.vec false (List.map eTSpan x_9.Spans)] 24, .box [.vec false (List.map eTClass y_27)] 27, .box [.vec false (List.map eTClass y_19)] 27, .box [.vec false (List.map eTClass y_27)] 27]) (by first | rfl | simp only [go_sem, simprocAttr, e_14]) ?_
                        obtain ⟨_, h_49, h⟩ := bindS h
                        simp only [e_11, e_12, e_14, go_sem, simprocAttr]
                        refine ACalls.use (context_reader_classed_1_w N _ false h_49) [] (by decide) trivial rfl (v' := .fn (.func 101) [] [.ptr 5 0 0]) (by first | rfl | simp only [go_sem, simprocAttr, e_14]) (H' := [.box [.vec c_0 (List.map eU8 l_0), .int .i64 (IntKind.i64.wrap ((IntKind.i64.wrap ((IntKind.i64.wrap ((IntKind.i64.wrap ((IntKind.i64.wrap ((IntKind.i64.wrap (a_1 + (IntKind.i64.wrap 2))) + 2)) + 2)) + 2)) + 2)) + (IntKind.i64.wrap (y_39 * 2))))] 123, .box [.vec false (List.map eTSpan x_9.Spans)] 24, .box [.vec false (List.map eTClass y_27)] 27, .box [.vec false (List.map eTClass y_19)] 27, .box [.vec false (List.map eTClass y_27)] 27, .box [.vec false (List.map eTClass y_35)] 27]) (by first | rfl | simp only [go_sem, simprocAttr, e_14]) ?_
                        obtain ⟨o_52, h_51, h⟩ := bindS h
                        simp only [e_11, e_12, e_14, go_sem, simprocAttr]
                        rcases o_52 with y_50 | _
                        · skip
                          try dsimp only at h
                          refine ACalls.use (context_reader_list_w N _ _ _ _ _ _ _ _ _ _ c_0 false false false false false false _ h_51) [0, 1, 2, 3, 4, 5] (by decide) ⟨(by first | rfl | simp only [go_sem, simprocAttr, e_14]), (by first | rfl | simp only [go_sem, simprocAttr, e_14]), (by first | rfl | simp only [go_sem, simprocAttr, e_14]), (by first | rfl | simp only [go_sem, simprocAttr, e_14]), (by first | rfl | simp only [go_sem, simprocAttr, e_14]), (by first | rfl | simp only [go_sem, simprocAttr, e_14]), trivial⟩ rfl (v' := .vec false (List.map eTCtx y_50)) (by first | rfl | simp only [go_sem, simprocAttr, e_14]) (H' := [.box [.vec c_0 (List.map eU8 l_0), .int .i64 (IntKind.i64.wrap ((IntKind.i64.wrap ((IntKind.i64.wrap ((IntKind.i64.wrap ((IntKind.i64.wrap ((IntKind.i64.wrap (a_1 + (IntKind.i64.wrap 2))) + 2)) + 2)) + 2)) + 2)) + (IntKind.i64.wrap (y_39 * 2))))] 123, .box [.vec false (List.map eTSpan x_9.Spans)] 24, .box [.vec false (List.map eTClass y_27)] 27, .box [.vec false (List.map eTClass y_19)] 27, .box [.vec false (List.map eTClass y_27)] 27, .box [.vec false (List.map eTClass y_35)] 27]) (by first | rfl | simp only [go_sem, simprocAttr, e_14]) ?_
                          simp only [e_11, e_12, e_14, go_sem, simprocAttr]
                          have g_0 := Option.some.inj h
                          subst g_0
                          rw [← hQ]
                          exact ⟨rfl, _, rfl, _, _, (RefV.std [0] (by decide) (by decide) rfl (by first | rfl | simp only [go_sem, simprocAttr, e_14])), rfl, rfl⟩
                        · skip
                          try dsimp only at h
                          refine ACalls.usePan (context_reader_list_w N _ _ _ _ _ _ _ _ _ _ c_0 false false false false false false _ h_51) [0, 1, 2, 3, 4, 5] (by decide) ⟨(by first | rfl | simp only [go_sem, simprocAttr, e_14]), (by first | rfl | simp only [go_sem, simprocAttr, e_14]), (by first | rfl | simp only [go_sem, simprocAttr, e_14]), (by first | rfl | simp only [go_sem, simprocAttr, e_14]), (by first | rfl | simp only [go_sem, simprocAttr, e_14]), (by first | rfl | simp only [go_sem, simprocAttr, e_14]), trivial⟩ rfl (v' := .iface 119 (.agg [])) rfl (H' := [.dead, .dead, .dead, .dead, .dead, .dead]) (by first | rfl | simp only [go_sem, simprocAttr, e_14]) ?_
                          try simp only [CallK_pan, dCallK_pan, panK_ap]
                          have g_0 := Option.some.inj h
                          subst g_0
                          rw [← hQ]
                          exact ⟨rfl, _, _, RefV.dead rfl, rfl, rfl⟩
                      · skip
                        try dsimp only at h
                        refine ACalls.usePan (context_reader_row_w N _ _ _ c_0 _ h_44) [0] (by decide) ⟨(by first | rfl | simp only [go_sem, simprocAttr, e_14]), trivial⟩ rfl (v' := .iface 119 (.agg [])) rfl (H' := [.dead, .box [.vec false (List.map eTSpan x_9.Spans)] 24, .box [.vec false (List.map eTClass y_27)] 27]) (by first | rfl | simp only [go_sem, simprocAttr, e_14]) ?_
                        try simp only [CallK_pan, dCallK_pan, panK_ap]
                        have g_0 := Option.some.inj h
                        subst g_0
                        rw [← hQ]
                        exact ⟨rfl, _, _, RefV.dead rfl, rfl, rfl⟩
                    · skip
                      try dsimp only at h
                      refine ACalls.usePan (context_reader_number_w N _ _ c_0 _ h_40) [0] (by decide) ⟨(by first | rfl | simp only [go_sem, simprocAttr, e_14]), trivial⟩ rfl (v' := .iface 119 (.agg [])) rfl (H' := [.dead, .box [.vec false (List.map eTSpan x_9.Spans)] 24, .box [.vec false (List.map eTClass y_27)] 27]) (by first | rfl | simp only [go_sem, simprocAttr, e_14]) ?_
                      try simp only [CallK_pan, dCallK_pan, panK_ap]
                      have g_0 := Option.some.inj h
                      subst g_0
                      rw [← hQ]
                      exact ⟨rfl, _, _, RefV.dead rfl, rfl, rfl⟩
                  · skip
                    try dsimp only at h
                    refine ACalls.usePan (context_reader_classes_w N _ _ _ _ c_0 _ h_36) [0] (by decide) ⟨(by first | rfl | simp only [go_sem, simprocAttr, e_14]), trivial⟩ rfl (v' := .iface 119 (.agg [])) rfl (H' := [.dead, .box [.vec false (List.map eTSpan x_9.Spans)] 24, .box [.vec false (List.map eTClass y_27)] 27]) (by first | rfl | simp only [go_sem, simprocAttr, e_14]) ?_
                    try simp only [CallK_pan, dCallK_pan, panK_ap]
                    have g_0 := Option.some.inj h
                    subst g_0
                    rw [← hQ]
                    exact ⟨rfl, _, _, RefV.dead rfl, rfl, rfl⟩
                · skip
                  try dsimp only at h
                  refine ACalls.usePan (context_reader_number_w N _ _ c_0 _ h_32) [0] (by decide) ⟨(by first | rfl | simp only [go_sem, simprocAttr, e_14]), trivial⟩ rfl (v' := .iface 119 (.agg [])) rfl (H' := [.dead, .box [.vec false (List.map eTSpan x_9.Spans)] 24, .box [.vec false (List.map eTClass y_27)] 27]) (by first | rfl | simp only [go_sem, simprocAttr, e_14]) ?_
                  try simp only [CallK_pan, dCallK_pan, panK_ap]
                  have g_0 := Option.some.inj h
                  subst g_0
                  rw [← hQ]
                  exact ⟨rfl, _, _, RefV.dead rfl, rfl, rfl⟩
              · skip
                try dsimp only at h
                refine ACalls.usePan (context_reader_classes_w N _ _ _ _ c_0 _ h_28) [0] (by decide) ⟨(by first | rfl | simp only [go_sem, simprocAttr, e_14]), trivial⟩ rfl (v' := .iface 119 (.agg [])) rfl (H' := [.dead, .box [.vec false (List.map eTSpan x_9.Spans)] 24]) (by first | rfl | simp only [go_sem, simprocAttr, e_14]) ?_
                try simp only [CallK_pan, dCallK_pan, panK_ap]
                have g_0 := Option.some.inj h
                subst g_0
                rw [← hQ]
                exact ⟨rfl, _, _, RefV.dead rfl, rfl, rfl⟩
            · skip
              try dsimp only at h
              refine ACalls.usePan (context_reader_number_w N _ _ c_0 _ h_24) [0] (by decide) ⟨(by first | rfl | simp only [go_sem, simprocAttr, e_14]), trivial⟩ rfl (v' := .iface 119 (.agg [])) rfl (H' := [.dead, .box [.vec false (List.map eTSpan x_9.Spans)] 24]) (by first | rfl | simp only [go_sem, simprocAttr, e_14]) ?_
              try simp only [CallK_pan, dCallK_pan, panK_ap]
              have g_0 := Option.some.inj h
              subst g_0
              rw [← hQ]
              exact ⟨rfl, _, _, RefV.dead rfl, rfl, rfl⟩
          · skip
            try dsimp only at h
            refine ACalls.usePan (context_reader_classes_w N _ _ _ _ c_0 _ h_20) [0] (by decide) ⟨(by first | rfl | simp only [go_sem, simprocAttr, e_14]), trivial⟩ rfl (v' := .iface 119 (.agg [])) rfl (H' := [.dead, .box [.vec false (List.map eTSpan x_9.Spans)] 24]) (by first | rfl | simp only [go_sem, simprocAttr, e_14]) ?_
            try simp only [CallK_pan, dCallK_pan, panK_ap]
            have g_0 := Option.some.inj h
            subst g_0
            rw [← hQ]
            exact ⟨rfl, _, _, RefV.dead rfl, rfl, rfl⟩
        · skip
          try dsimp only at h
          refine ACalls.usePan (context_reader_number_w N _ _ c_0 _ h_16) [0] (by decide) ⟨(by first | rfl | simp only [go_sem, simprocAttr, e_14]), trivial⟩ rfl (v' := .iface 119 (.agg [])) rfl (H' := [.dead, .box [.vec false (List.map eTSpan x_9.Spans)] 24]) (by first | rfl | simp only [go_sem, simprocAttr, e_14]) ?_
          try simp only [CallK_pan, dCallK_pan, panK_ap]
          have g_0 := Option.some.inj h
          subst g_0
          rw [← hQ]
          exact ⟨rfl, _, _, RefV.dead rfl, rfl, rfl⟩
      · rw [if_neg h_13] at h
        have e_14 : b_3 = false := bfalse h_13
        obtain ⟨o_56, h_55, h⟩ := bindS h
        simp only [e_11, e_12, e_14, go_sem, simprocAttr]
        rcases o_56 with y_54 | _
        · skip
          try dsimp only at h
          refine ACalls.use (context_reader_number_w N _ _ c_0 _ h_55) [0] (by decide) ⟨(by first | rfl | simp only [go_sem, simprocAttr, e_14]), trivial⟩ rfl (v' := .int .i64 y_54) (by first | rfl | simp only [go_sem, simprocAttr, e_14]) (H' := [.box [.vec c_0 (List.map eU8 l_0), .int .i64 (IntKind.i64.wrap ((IntKind.i64.wrap (a_1 + (IntKind.i64.wrap 2))) + 2))] 123, .box [.vec false (List.map eTSpan x_9.Spans)] 24]) (by first | rfl | simp only [go_sem, simprocAttr, e_14]) ?_
          refine CallK_go (by simp) ?_
          obtain ⟨o_60, h_59, h⟩ := bindS h
          simp only [e_11, e_12, e_14, go_sem, simprocAttr]
          rcases o_60 with y_58 | _
          · skip
            try dsimp only at h
            refine ACalls.use (context_reader_classes_w N _ _ _ _ c_0 _ h_59) [0] (by decide) ⟨(by first | rfl | simp only [go_sem, simprocAttr, e_14]), trivial⟩ rfl (v' := .vec false (List.map eTClass y_58)) (by first | rfl | simp only [go_sem, simprocAttr, e_14]) (H' := [.box [.vec c_0 (List.map eU8 l_0), .int .i64 (IntKind.i64.wrap ((IntKind.i64.wrap (a_1 + (IntKind.i64.wrap 2))) + 2))] 123, .box [.vec false (List.map eTSpan x_9.Spans)] 24]) (by first | rfl | simp only [go_sem, simprocAttr, e_14]) ?_
            refine CallK_go (by simp) ?_
            obtain ⟨o_64, h_63, h⟩ := bindS h
            simp only [e_11, e_12, e_14, go_sem, simprocAttr]
            rcases o_64 with y_62 | _
            · skip
              try dsimp only at h
              refine ACalls.use (context_reader_number_w N _ _ c_0 _ h_63) [0] (by decide) ⟨(by first | rfl | simp only [go_sem, simprocAttr, e_14]), trivial⟩ rfl (v' := .int .i64 y_62) (by first | rfl | simp only [go_sem, simprocAttr, e_14]) (H' := [.box [.vec c_0 (List.map eU8 l_0), .int .i64 (IntKind.i64.wrap ((IntKind.i64.wrap ((IntKind.i64.wrap (a_1 + (IntKind.i64.wrap 2))) + 2)) + 2))] 123, .box [.vec false (List.map eTSpan x_9.Spans)] 24, .box [.vec false (List.map eTClass y_58)] 27]) (by first | rfl | simp only [go_sem, simprocAttr, e_14]) ?_
              obtain ⟨o_68, h_67, h⟩ := bindS h
              simp only [e_11, e_12, e_14, go_sem, simprocAttr]
              rcases o_68 with y_66 | _
              · skip
                try dsimp only at h
                refine ACalls.use (context_reader_row_w N _ _ _ c_0 _ h_67) [0] (by decide) ⟨(by first | rfl | simp only [go_sem, simprocAttr, e_14]), trivial⟩ rfl (v' := .vec false (List.map eI64 y_66)) (by first | rfl | simp only [go_sem, simprocAttr, e_14]) (H' := [.box [.vec c_0 (List.map eU8 l_0), .int .i64 (IntKind.i64.wrap ((IntKind.i64.wrap ((IntKind.i64.wrap ((IntKind.i64.wrap (a_1 + (IntKind.i64.wrap 2))) + 2)) + 2)) + (IntKind.i64.wrap (y_62 * 2))))] 123, .box [.vec false (List.map eTSpan x_9.Spans)] 24, .box [.vec false (List.map eTClass y_58)] 27]) (by first | rfl | simp only [go_sem, simprocAttr, e_14]) ?_
                obtain ⟨_, h_70, h⟩ := bindS h
                simp only [e_11, e_12, e_14, go_sem, simprocAttr]
                refine ACalls.use (context_reader_classed_1_w N _ true h_70) [] (by decide) trivial rfl (v' := .fn (.func 101) [] [.ptr 3 0 0]) (by first | rfl | simp only [go_sem, simprocAttr, e_14]) (H' := [.box [.vec c_0 (List.map eU8 l_0), .int .i64 (IntKind.i64.wrap ((IntKind.i64.wrap ((IntKind.i64.wrap ((IntKind.i64.wrap (a_1 + (IntKind.i64.wrap 2))) + 2)) + 2)) + (IntKind.i64.wrap (y_62 * 2))))] 123, .box [.vec false (List.map eTSpan x_9.Spans)] 24, .box [.vec false (List.map eTClass y_58)] 27, .box [.vec true (List.map eTClass ([]))] 27]) (by first | rfl | simp only [go_sem, simprocAttr, e_14]) ?_
                obtain ⟨_, h_71, h⟩ := bindS h
                simp only [e_11, e_12, e_14, go_sem, simprocAttr]
                refine ACalls.use (context_reader_classed_1_w N _ false h_71) [] (by decide) trivial rfl (v' := .fn (.func 101) [] [.ptr 4 0 0]) (by first | rfl | simp only [go_sem, simprocAttr, e_14]) (H' := [.box [.vec c_0 (List.map eU8 l_0), .int .i64 (IntKind.i64.wrap ((IntKind.i64.wrap ((IntKind.i64.wrap ((IntKind.i64.wrap (a_1 + (IntKind.i64.wrap 2))) + 2)) + 2)) + (IntKind.i64.wrap (y_62 * 2))))] 123, .box [.vec false (List.map eTSpan x_9.Spans)] 24, .box [.vec false (List.map eTClass y_58)] 27, .box [.vec true (List.map eTClass ([]))] 27, .box [.vec false (List.map eTClass y_58)] 27]) (by first | rfl | simp only [go_sem, simprocAttr, e_14]) ?_
                obtain ⟨_, h_72, h⟩ := bindS h
                simp only [e_11, e_12, e_14, go_sem, simprocAttr]
                refine ACalls.use (context_reader_classed_1_w N _ true h_72) [] (by decide) trivial rfl (v' := .fn (.func 101) [] [.ptr 5 0 0]) (by first | rfl | simp only [go_sem, simprocAttr, e_14]) (H' := [.box [.vec c_0 (List.map eU8 l_0), .int .i64 (IntKind.i64.wrap ((IntKind.i64.wrap ((IntKind.i64.wrap ((IntKind.i64.wrap (a_1 + (IntKind.i64.wrap 2))) + 2)) + 2)) + (IntKind.i64.wrap (y_62 * 2))))] 123, .box [.vec false (List.map eTSpan x_9.Spans)] 24, .box [.vec false (List.map eTClass y_58)] 27, .box [.vec true (List.map eTClass ([]))] 27, .box [.vec false (List.map eTClass y_58)] 27, .box [.vec true (List.map eTClass ([]))] 27]) (by first | rfl | simp only [go_sem, simprocAttr, e_14]) ?_
                obtain ⟨o_75, h_74, h⟩ := bindS h
                simp only [e_11, e_12, e_14, go_sem, simprocAttr]
                rcases o_75 with y_73 | _
                · skip
                  try dsimp only at h
                  refine ACalls.use (context_reader_list_w N _ _ _ _ _ _ _ _ _ _ c_0 false false false true false true _ h_74) [0, 1, 2, 3, 4, 5] (by decide) ⟨(by first | rfl | simp only [go_sem, simprocAttr, e_14]), (by first | rfl | simp only [go_sem, simprocAttr, e_14]), (by first | rfl | simp only [go_sem, simprocAttr, e_14]), (by first | rfl | simp only [go_sem, simprocAttr, e_14]), (by first | rfl | simp only [go_sem, simprocAttr, e_14]), (by first | rfl | simp only [go_sem, simprocAttr, e_14]), trivial⟩ rfl (v' := .vec false (List.map eTCtx y_73)) (by first | rfl | simp only [go_sem, simprocAttr, e_14]) (H' := [.box [.vec c_0 (List.map eU8 l_0), .int .i64 (IntKind.i64.wrap ((IntKind.i64.wrap ((IntKind.i64.wrap ((IntKind.i64.wrap (a_1 + (IntKind.i64.wrap 2))) + 2)) + 2)) + (IntKind.i64.wrap (y_62 * 2))))] 123, .box [.vec false (List.map eTSpan x_9.Spans)] 24, .box [.vec false (List.map eTClass y_58)] 27, .box [.vec true (List.map eTClass ([]))] 27, .box [.vec false (List.map eTClass y_58)] 27, .box [.vec true (List.map eTClass ([]))] 27]) (by first | rfl | simp only [go_sem, simprocAttr, e_14]) ?_
                  simp only [e_11, e_12, e_14, go_sem, simprocAttr]
                  have g_0 := Option.some.inj h
                  subst g_0
                  rw [← hQ]
                  exact ⟨rfl, _, rfl, _, _, (RefV.std [0] (by decide) (by decide) rfl (by first | rfl | simp only [go_sem, simprocAttr, e_14])), rfl, rfl⟩
                · skip
                  try dsimp only at h
                  refine ACalls.usePan (context_reader_list_w N _ _ _ _ _ _ _ _ _ _ c_0 false false false true false true _ h_74) [0, 1, 2, 3, 4, 5] (by decide) ⟨(by first | rfl | simp only [go_sem, simprocAttr, e_14]), (by first | rfl | simp only [go_sem, simprocAttr, e_14]), (by first | rfl | simp only [go_sem, simprocAttr, e_14]), (by first | rfl | simp only [go_sem, simprocAttr, e_14]), (by first | rfl | simp only [go_sem, simprocAttr, e_14]), (by first | rfl | simp only [go_sem, simprocAttr, e_14]), trivial⟩ rfl (v' := .iface 119 (.agg [])) rfl (H' := [.dead, .dead, .dead, .dead, .dead, .dead]) (by first | rfl | simp only [go_sem, simprocAttr, e_14]) ?_
                  try simp only [CallK_pan, dCallK_pan, panK_ap]
                  have g_0 := Option.some.inj h
                  subst g_0
                  rw [← hQ]
                  exact ⟨rfl, _, _, RefV.dead rfl, rfl, rfl⟩
              · skip
                try dsimp only at h
                refine ACalls.usePan (context_reader_row_w N _ _ _ c_0 _ h_67) [0] (by decide) ⟨(by first | rfl | simp only [go_sem, simprocAttr, e_14]), trivial⟩ rfl (v' := .iface 119 (.agg [])) rfl (H' := [.dead, .box [.vec false (List.map eTSpan x_9.Spans)] 24, .box [.vec false (List.map eTClass y_58)] 27]) (by first | rfl | simp only [go_sem, simprocAttr, e_14]) ?_
                try simp only [CallK_pan, dCallK_pan, panK_ap]
                have g_0 := Option.some.inj h
                subst g_0
                rw [← hQ]
                exact ⟨rfl, _, _, RefV.dead rfl, rfl, rfl⟩
            · skip
              try dsimp only at h
              refine ACalls.usePan (context_reader_number_w N _ _ c_0 _ h_63) [0] (by decide) ⟨(by first | rfl | simp only [go_sem, simprocAttr, e_14]), trivial⟩ rfl (v' := .iface 119 (.agg [])) rfl (H' := [.dead, .box [.vec false (List.map eTSpan x_9.Spans)] 24, .box [.vec false (List.map eTClass y_58)] 27]) (by first | rfl | simp only [go_sem, simprocAttr, e_14]) ?_
              try simp only [CallK_pan, dCallK_pan, panK_ap]
              have g_0 := Option.some.inj h
              subst g_0
              rw [← hQ]
              exact ⟨rfl, _, _, RefV.dead rfl, rfl, rfl⟩
          · skip
            try dsimp only at h
            refine ACalls.usePan (context_reader_classes_w N _ _ _ _ c_0 _ h_59) [0] (by decide) ⟨(by first | rfl | simp only [go_sem, simprocAttr, e_14]), trivial⟩ rfl (v' := .iface 119 (.agg [])) rfl (H' := [.dead, .box [.vec false (List.map eTSpan x_9.Spans)] 24]) (by first | rfl | simp only [go_sem, simprocAttr, e_14]) ?_
            try simp only [CallK_pan, dCallK_pan, panK_ap]
            have g_0 := Option.some.inj h
            subst g_0
            rw [← hQ]
            exact ⟨rfl, _, _, RefV.dead rfl, rfl, rfl⟩
        · skip
          try dsimp only at h
          refine ACalls.usePan (context_reader_number_w N _ _ c_0 _ h_55) [0] (by decide) ⟨(by first | rfl | simp only [go_sem, simprocAttr, e_14]), trivial⟩ rfl (v' := .iface 119 (.agg [])) rfl (H' := [.dead, .box [.vec false (List.map eTSpan x_9.Spans)] 24]) (by first | rfl | simp only [go_sem, simprocAttr, e_14]) ?_
          try simp only [CallK_pan, dCallK_pan, panK_ap]
          have g_0 := Option.some.inj h
          subst g_0
          rw [← hQ]
          exact ⟨rfl, _, _, RefV.dead rfl, rfl, rfl⟩
    · skip
      try dsimp only at h
      refine ACalls.usePan (context_reader_covers_w N _ _ _ _ c_0 false _ h_6) [0] (by decide) ⟨rfl, trivial⟩ rfl (v' := .iface 119 (.agg [])) rfl (H' := [.dead]) rfl ?_
      try simp only [CallK_pan, dCallK_pan, panK_ap]
      have g_0 := Option.some.inj h
      subst g_0
      rw [← hQ]
      exact ⟨rfl, _, _, RefV.dead rfl, rfl, rfl⟩
  · skip
    try dsimp only at h
    refine ACalls.usePan (context_reader_row_w N _ _ _ c_0 _ h_2) [0] (by decide) ⟨rfl, trivial⟩ rfl (v' := .iface 119 (.agg [])) rfl (H' := [.dead]) rfl ?_
    try simp only [CallK_pan, dCallK_pan, panK_ap]
    have g_0 := Option.some.inj h
    subst g_0
    rw [← hQ]
    exact ⟨rfl, _, _, RefV.dead rfl, rfl, rfl⟩
theorem context_reader_covered_w (N : Nat) (l_0 : List Int) (a_1 : Int) (a_2 : Int) (b_3 : Bool) (c_0 : Bool) (o : ((List TCtx) × Int) ⊕ Unit) (h : context_reader_covered N l_0 a_1 a_2 b_3 = some o) :
    ACalls Go.Proofs.Try.prog 85 [.ptr 0 0 0, .int .i64 a_2, .bool b_3] [.box [.vec c_0 (List.map eU8 l_0), .int .i64 a_1] 123] (fun e H => match o with | .inl (z_1, z_2) => H = [.box [.vec c_0 (List.map eU8 l_0), .int .i64 z_2] 123] ∧ e = .ret (.vec false (List.map eTCtx z_1)) | .inr _ => H = [.dead] ∧ e = .pan (.iface 119 (.agg []))) := by
  unfold context_reader_covered at h
  refine ACalls.goN Go.Proofs.Try.func85 n85 a85 Go.Proofs.Try.ntmps85 r85 (by simp) 1 rfl ?_
  generalize hQ : bodyA _ _ _ = QQ
  simp only [A85, go_sem, simprocAttr]
  by_cases h_1 : b_3 = true
  · rw [if_pos h_1] at h
    have e_2 : b_3 = true := h_1
    obtain ⟨o_5, h_4, h⟩ := bindS h
    simp only [e_2, go_sem, simprocAttr]
    rcases o_5 with y_3 | _
    · skip
      try dsimp only at h
      refine ACalls.use (context_reader_count_w N _ _ _ _ c_0 _ h_4) [0] (by decide) ⟨(by first | rfl | simp only [go_sem, simprocAttr, e_2]), trivial⟩ rfl (v' := .int .i64 y_3) (by first | rfl | simp only [go_sem, simprocAttr, e_2]) (H' := [.box [.vec c_0 (List.map eU8 l_0), .int .i64 (IntKind.i64.wrap (a_1 + 2))] 123, .box [.vec true [], .vec true [], .vec true [], .vec true []] 61]) (by first | rfl | simp only [go_sem, simprocAttr, e_2]) ?_
      refine CallK_go (by simp) ?_
      obtain ⟨o_9, h_8, h⟩ := bindS h
      simp only [e_2, go_sem, simprocAttr]
      rcases o_9 with y_7 | _
      · skip
        try dsimp only at h
        refine ACalls.use (context_reader_row_w N _ _ _ c_0 _ h_8) [0] (by decide) ⟨(by first | rfl | simp only [go_sem, simprocAttr, e_2]), trivial⟩ rfl (v' := .vec false (List.map eI64 y_7)) (by first | rfl | simp only [go_sem, simprocAttr, e_2]) (H' := [.box [.vec c_0 (List.map eU8 l_0), .int .i64 (IntKind.i64.wrap ((IntKind.i64.wrap (a_1 + 2)) + (IntKind.i64.wrap (y_3 * 2))))] 123, .box [.vec true [], .vec true [], .vec true [], .vec true []] 61]) (by first | rfl | simp only [go_sem, simprocAttr, e_2]) ?_
        refine CallK_go (by simp) ?_
        obtain ⟨o_13, h_12, h⟩ := bindS h
        simp only [e_2, go_sem, simprocAttr]
        rcases o_13 with y_11 | _
        · skip
          try dsimp only at h
          refine ACalls.use (context_reader_covers_w N _ _ _ _ c_0 false _ h_12) [0] (by decide) ⟨(by first | rfl | simp only [go_sem, simprocAttr, e_2]), trivial⟩ rfl (v' := .vec false (List.map eTSet y_11)) (by first | rfl | simp only [go_sem, simprocAttr, e_2]) (H' := [.box [.vec c_0 (List.map eU8 l_0), .int .i64 (IntKind.i64.wrap ((IntKind.i64.wrap (a_1 + 2)) + (IntKind.i64.wrap (y_3 * 2))))] 123, .box [.vec true [], .vec true [], .vec true [], .vec true []] 61]) (by first | rfl | simp only [go_sem, simprocAttr, e_2]) ?_
          refine CallK_go (by simp) ?_
          obtain ⟨o_17, h_16, h⟩ := bindS h
          simp only [e_2, go_sem, simprocAttr]
          rcases o_17 with y_15 | _
          · skip
            try dsimp only at h
            refine ACalls.use (context_reader_count_w N _ _ _ _ c_0 _ h_16) [0] (by decide) ⟨(by first | rfl | simp only [go_sem, simprocAttr, e_2]), trivial⟩ rfl (v' := .int .i64 y_15) (by first | rfl | simp only [go_sem, simprocAttr, e_2]) (H' := [.box [.vec c_0 (List.map eU8 l_0), .int .i64 (IntKind.i64.wrap ((IntKind.i64.wrap ((IntKind.i64.wrap (a_1 + 2)) + (IntKind.i64.wrap (y_3 * 2)))) + 2))] 123, .box [.vec false (List.map eTSet y_11), .vec true [], .vec true [], .vec true []] 61]) (by first | rfl | simp only [go_sem, simprocAttr, e_2]) ?_
            refine CallK_go (by simp) ?_
            obtain ⟨o_21, h_20, h⟩ := bindS h
            simp only [e_2, go_sem, simprocAttr]
            rcases o_21 with y_19 | _
            · skip
              try dsimp only at h
              refine ACalls.use (context_reader_row_w N _ _ _ c_0 _ h_20) [0] (by decide) ⟨(by first | rfl | simp only [go_sem, simprocAttr, e_2]), trivial⟩ rfl (v' := .vec false (List.map eI64 y_19)) (by first | rfl | simp only [go_sem, simprocAttr, e_2]) (H' := [.box [.vec c_0 (List.map eU8 l_0), .int .i64 (IntKind.i64.wrap ((IntKind.i64.wrap ((IntKind.i64.wrap ((IntKind.i64.wrap (a_1 + 2)) + (IntKind.i64.wrap (y_3 * 2)))) + 2)) + (IntKind.i64.wrap (y_15 * 2))))] 123, .box [.vec false (List.map eTSet y_11), .vec true [], .vec true [], .vec true []] 61]) (by first | rfl | simp only [go_sem, simprocAttr, e_2]) ?_
              refine CallK_go (by simp) ?_
              obtain ⟨o_25, h_24, h⟩ := bindS h
              simp only [e_2, go_sem, simprocAttr]
              rcases o_25 with y_23 | _
              · skip
                try dsimp only at h
                refine ACalls.use (context_reader_covers_w N _ _ _ _ c_0 false _ h_24) [0] (by decide) ⟨(by first | rfl | simp only [go_sem, simprocAttr, e_2]), trivial⟩ rfl (v' := .vec false (List.map eTSet y_23)) (by first | rfl | simp only [go_sem, simprocAttr, e_2]) (H' := [.box [.vec c_0 (List.map eU8 l_0), .int .i64 (IntKind.i64.wrap ((IntKind.i64.wrap ((IntKind.i64.wrap ((IntKind.i64.wrap (a_1 + 2)) + (IntKind.i64.wrap (y_3 * 2)))) + 2)) + (IntKind.i64.wrap (y_15 * 2))))] 123, .box [.vec false (List.map eTSet y_11), .vec true [], .vec true [], .vec true []] 61]) (by first | rfl | simp only [go_sem, simprocAttr, e_2]) ?_
                refine CallK_go (by simp) ?_
                obtain ⟨o_29, h_28, h⟩ := bindS h
                simp only [e_2, go_sem, simprocAttr]
                rcases o_29 with y_27 | _
                · skip
                  try dsimp only at h
                  refine ACalls.use (context_reader_count_w N _ _ _ _ c_0 _ h_28) [0] (by decide) ⟨(by first | rfl | simp only [go_sem, simprocAttr, e_2]), trivial⟩ rfl (v' := .int .i64 y_27) (by first | rfl | simp only [go_sem, simprocAttr, e_2]) (H' := [.box [.vec c_0 (List.map eU8 l_0), .int .i64 (IntKind.i64.wrap ((IntKind.i64.wrap ((IntKind.i64.wrap ((IntKind.i64.wrap ((IntKind.i64.wrap (a_1 + 2)) + (IntKind.i64.wrap (y_3 * 2)))) + 2)) + (IntKind.i64.wrap (y_15 * 2)))) + 2))] 123, .box [.vec false (List.map eTSet y_11), .vec false (List.map eTSet y_23), .vec true [], .vec true []] 61]) (by first | rfl | simp only [go_sem, simprocAttr, e_2]) ?_
                  refine CallK_go (by simp) ?_
                  obtain ⟨o_33, h_32, h⟩ := bindS h
                  simp only [e_2, go_sem, simprocAttr]
                  rcases o_33 with y_31 | _
                  · skip
                    try dsimp only at h
                    refine ACalls.use (context_reader_row_w N _ _ _ c_0 _ h_32) [0] (by decide) ⟨(by first | rfl | simp only [go_sem, simprocAttr, e_2]), trivial⟩ rfl (v' := .vec false (List.map eI64 y_31)) (by first | rfl | simp only [go_sem, simprocAttr, e_2]) (H' := [.box [.vec c_0 (List.map eU8 l_0), .int .i64 (IntKind.i64.wrap ((IntKind.i64.wrap ((IntKind.i64.wrap ((IntKind.i64.wrap ((IntKind.i64.wrap ((IntKind.i64.wrap (a_1 + 2)) + (IntKind.i64.wrap (y_3 * 2)))) + 2)) + (IntKind.i64.wrap (y_15 * 2)))) + 2)) + (IntKind.i64.wrap (y_27 * 2))))] 123, .box [.vec false (List.map eTSet y_11), .vec false (List.map eTSet y_23), .vec true [], .vec true []] 61]) (by first | rfl | simp only [go_sem, simprocAttr, e_2]) ?_
                    refine CallK_go (by simp) ?_
                    obtain ⟨o_37, h_36, h⟩ := bindS h
                    simp only [e_2, go_sem, simprocAttr]
                    rcases o_37 with y_35 | _
                    · skip
                      try dsimp only at h
                      refine ACalls.use (context_reader_covers_w N _ _ _ _ c_0 false _ h_36) [0] (by decide) ⟨(by first | rfl | simp only [go_sem, simprocAttr, e_2]), trivial⟩ rfl (v' := .vec false (List.map eTSet y_35)) (by first | rfl | simp only [go_sem, simprocAttr, e_2]) (H' := [.box [.vec c_0 (List.map eU8 l_0), .int .i64 (IntKind.i64.wrap ((IntKind.i64.wrap ((IntKind.i64.wrap ((IntKind.i64.wrap ((IntKind.i64.wrap ((IntKind.i64.wrap (a_1 + 2)) + (IntKind.i64.wrap (y_3 * 2)))) + 2)) + (IntKind.i64.wrap (y_15 * 2)))) + 2)) + (IntKind.i64.wrap (y_27 * 2))))] 123, .box [.vec false (List.map eTSet y_11), .vec false (List.map eTSet y_23), .vec true [], .vec true []] 61]) (by first | rfl | simp only [go_sem, simprocAttr, e_2]) ?_
                      refine CallK_go (by simp) ?_
                      obtain ⟨o_41, h_40, h⟩ := bindS h
                      simp only [e_2, go_sem, simprocAttr]
                      rcases o_41 with y_39 | _
                      · skip
                        try dsimp only at h
                        refine ACalls.use (context_reader_count_w N _ _ _ _ c_0 _ h_40) [0] (by decide) ⟨(by first | rfl | simp only [go_sem, simprocAttr, e_2]), trivial⟩ rfl (v' := .int .i64 y_39) (by first | rfl | simp only [go_sem, simprocAttr, e_2]) (H' := [.box [.vec c_0 (List.map eU8 l_0), .int .i64 (IntKind.i64.wrap ((IntKind.i64.wrap ((IntKind.i64.wrap ((IntKind.i64.wrap ((IntKind.i64.wrap ((IntKind.i64.wrap ((IntKind.i64.wrap (a_1 + 2)) + (IntKind.i64.wrap (y_3 * 2)))) + 2)) + (IntKind.i64.wrap (y_15 * 2)))) + 2)) + (IntKind.i64.wrap (y_27 * 2)))) + 2))] 123, .box [.vec false (List.map eTSet y_11), .vec false (List.map eTSet y_23), .vec false (List.map eTSet y_35), .vec true []] 61]) (by first | rfl | simp only [go_sem, simprocAttr, e_2]) ?_
                        obtain ⟨o_46, h_45, h⟩ := bindS h
                        simp only [e_2, go_sem, simprocAttr]
                        rcases o_46 with ⟨y_43, y_44⟩ | _
                        · skip
                          try dsimp only at h
                          refine ACalls.use (context_reader_acts_w N _ _ _ _ c_0 _ h_45) [0] (by decide) ⟨(by first | rfl | simp only [go_sem, simprocAttr, e_2]), trivial⟩ rfl (v' := .vec false (List.map eTAct y_43)) (by first | rfl | simp only [go_sem, simprocAttr, e_2]) (H' := [.box [.vec c_0 (List.map eU8 l_0), .int .i64 y_44] 123, .box [.vec false (List.map eTSet y_11), .vec false (List.map eTSet y_23), .vec false (List.map eTSet y_35), .vec true []] 61]) (by first | rfl | simp only [go_sem, simprocAttr, e_2]) ?_
                          simp only [e_2, go_sem, simprocAttr]
                          have g_0 := Option.some.inj h
                          subst g_0
                          rw [← hQ]
                          exact ⟨rfl, _, rfl, _, _, (RefV.trans (RefV.std (v' := .vec true [[.vec false (List.map eTSet y_11), .vec false (List.map eTSet y_23), .vec false (List.map eTSet y_35), .vec false (List.map eTAct y_43)]]) [0] (by decide) (by decide) rfl (by first | rfl | simp only [go_sem, simprocAttr, e_2])) (RefV.weak (Wks.cons Wk.vec Wks.nil) (WkH.refl _))), rfl, rfl⟩
                        · skip
                          try dsimp only at h
                          refine ACalls.usePan (context_reader_acts_w N _ _ _ _ c_0 _ h_45) [0] (by decide) ⟨(by first | rfl | simp only [go_sem, simprocAttr, e_2]), trivial⟩ rfl (v' := .iface 119 (.agg [])) rfl (H' := [.dead, .box [.vec false (List.map eTSet y_11), .vec false (List.map eTSet y_23), .vec false (List.map eTSet y_35), .vec true []] 61]) (by first | rfl | simp only [go_sem, simprocAttr, e_2]) ?_
                          try simp only [CallK_pan, dCallK_pan, panK_ap]
                          have g_0 := Option.some.inj h
                          subst g_0
                          rw [← hQ]
                          exact ⟨rfl, _, _, RefV.dead rfl, rfl, rfl⟩
                      · skip
                        try dsimp only at h
                        refine ACalls.usePan (context_reader_count_w N _ _ _ _ c_0 _ h_40) [0] (by decide) ⟨(by first | rfl | simp only [go_sem, simprocAttr, e_2]), trivial⟩ rfl (v' := .iface 119 (.agg [])) rfl (H' := [.dead, .box [.vec false (List.map eTSet y_11), .vec false (List.map eTSet y_23), .vec false (List.map eTSet y_35), .vec true []] 61]) (by first | rfl | simp only [go_sem, simprocAttr, e_2]) ?_
                        try simp only [CallK_pan, dCallK_pan, panK_ap]
                        have g_0 := Option.some.inj h
                        subst g_0
                        rw [← hQ]
                        exact ⟨rfl, _, _, RefV.dead rfl, rfl, rfl⟩
                    · skip
                      try dsimp only at h
                      refine ACalls.usePan (context_reader_covers_w N _ _ _ _ c_0 false _ h_36) [0] (by decide) ⟨(by first | rfl | simp only [go_sem, simprocAttr, e_2]), trivial⟩ rfl (v' := .iface 119 (.agg [])) rfl (H' := [.dead, .box [.vec false (List.map eTSet y_11), .vec false (List.map eTSet y_23), .vec true [], .vec true []] 61]) (by first | rfl | simp only [go_sem, simprocAttr, e_2]) ?_
                      try simp only [CallK_pan, dCallK_pan, panK_ap]
                      have g_0 := Option.some.inj h
                      subst g_0
                      rw [← hQ]
                      exact ⟨rfl, _, _, RefV.dead rfl, rfl, rfl⟩
                  · skip
                    try dsimp only at h
                    refine ACalls.usePan (context_reader_row_w N _ _ _ c_0 _ h_32) [0] (by decide) ⟨(by first | rfl | simp only [go_sem, simprocAttr, e_2]), trivial⟩ rfl (v' := .iface 119 (.agg [])) rfl (H' := [.dead, .box [.vec false (List.map eTSet y_11), .vec false (List.map eTSet y_23), .vec true [], .vec true []] 61]) (by first | rfl | simp only [go_sem, simprocAttr, e_2]) ?_
                    try simp only [CallK_pan, dCallK_pan, panK_ap]
                    have g_0 := Option.some.inj h
                    subst g_0
                    rw [← hQ]
                    exact ⟨rfl, _, _, RefV.dead rfl, rfl, rfl⟩
                · skip
                  try dsimp only at h
                  refine ACalls.usePan (context_reader_count_w N _ _ _ _ c_0 _ h_28) [0] (by decide) ⟨(by first | rfl | simp only [go_sem, simprocAttr, e_2]), trivial⟩ rfl (v' := .iface 119 (.agg [])) rfl (H' := [.dead, .box [.vec false (List.map eTSet y_11), .vec false (List.map eTSet y_23), .vec true [], .vec true []] 61]) (by first | rfl | simp only [go_sem, simprocAttr, e_2]) ?_
                  try simp only [CallK_pan, dCallK_pan, panK_ap]
                  have g_0 := Option.some.inj h
                  subst g_0
                  rw [← hQ]
                  exact ⟨rfl, _, _, RefV.dead rfl, rfl, rfl⟩
              · skip
                try dsimp only at h
                refine ACalls.usePan (context_reader_covers_w N _ _ _ _ c_0 false _ h_24) [0] (by decide) ⟨(by first | rfl | simp only [go_sem, simprocAttr, e_2]), trivial⟩ rfl (v' := .iface 119 (.agg [])) rfl (H' := [.dead, .box [.vec false (List.map eTSet y_11), .vec true [], .vec true [], .vec true []] 61]) (by first | rfl | simp only [go_sem, simprocAttr, e_2]) ?_
                try simp only [CallK_pan, dCallK_pan, panK_ap]
                have g_0 := Option.some.inj h
                subst g_0
                rw [← hQ]
                exact ⟨rfl, _, _, RefV.dead rfl, rfl, rfl⟩
            · skip
              try dsimp only at h
              refine ACalls.usePan (context_reader_row_w N _ _ _ c_0 _ h_20) [0] (by decide) ⟨(by first | rfl | simp only [go_sem, simprocAttr, e_2]), trivial⟩ rfl (v' := .iface 119 (.agg [])) rfl (H' := [.dead, .box [.vec false (List.map eTSet y_11), .vec true [], .vec true [], .vec true []] 61]) (by first | rfl | simp only [go_sem, simprocAttr, e_2]) ?_
              try simp only [CallK_pan, dCallK_pan, panK_ap]
              have g_0 := Option.some.inj h
              subst g_0
              rw [← hQ]
              exact ⟨rfl, _, _, RefV.dead rfl, rfl, rfl⟩
          · skip
            try dsimp only at h
            refine ACalls.usePan (context_reader_count_w N _ _ _ _ c_0 _ h_16) [0] (by decide) ⟨(by first | rfl | simp only [go_sem, simprocAttr, e_2]), trivial⟩ rfl (v' := .iface 119 (.agg [])) rfl (H' := [.dead, .box [.vec false (List.map eTSet y_11), .vec true [], .vec true [], .vec true []] 61]) (by first | rfl | simp only [go_sem, simprocAttr, e_2]) ?_
            try simp only [CallK_pan, dCallK_pan, panK_ap]
            have g_0 := Option.some.inj h
            subst g_0
            rw [← hQ]
            exact ⟨rfl, _, _, RefV.dead rfl, rfl, rfl⟩
        · skip
          try dsimp only at h
          refine ACalls.usePan (context_reader_covers_w N _ _ _ _ c_0 false _ h_12) [0] (by decide) ⟨(by first | rfl | simp only [go_sem, simprocAttr, e_2]), trivial⟩ rfl (v' := .iface 119 (.agg [])) rfl (H' := [.dead, .box [.vec true [], .vec true [], .vec true [], .vec true []] 61]) (by first | rfl | simp only [go_sem, simprocAttr, e_2]) ?_
          try simp only [CallK_pan, dCallK_pan, panK_ap]
          have g_0 := Option.some.inj h
          subst g_0
          rw [← hQ]
          exact ⟨rfl, _, _, RefV.dead rfl, rfl, rfl⟩
      · skip
        try dsimp only at h
        refine ACalls.usePan (context_reader_row_w N _ _ _ c_0 _ h_8) [0] (by decide) ⟨(by first | rfl | simp only [go_sem, simprocAttr, e_2]), trivial⟩ rfl (v' := .iface 119 (.agg [])) rfl (H' := [.dead, .box [.vec true [], .vec true [], .vec true [], .vec true []] 61]) (by first | rfl | simp only [go_sem, simprocAttr, e_2]) ?_
        try simp only [CallK_pan, dCallK_pan, panK_ap]
        have g_0 := Option.some.inj h
        subst g_0
        rw [← hQ]
        exact ⟨rfl, _, _, RefV.dead rfl, rfl, rfl⟩
    · skip
      try dsimp only at h
      refine ACalls.usePan (context_reader_count_w N _ _ _ _ c_0 _ h_4) [0] (by decide) ⟨(by first | rfl | simp only [go_sem, simprocAttr, e_2]), trivial⟩ rfl (v' := .iface 119 (.agg [])) rfl (H' := [.dead, .box [.vec true [], .vec true [], .vec true [], .vec true []] 61]) (by first | rfl | simp only [go_sem, simprocAttr, e_2]) ?_
      try simp only [CallK_pan, dCallK_pan, panK_ap]
      have g_0 := Option.some.inj h
      subst g_0
      rw [← hQ]
      exact ⟨rfl, _, _, RefV.dead rfl, rfl, rfl⟩
  · rw [if_neg h_1] at h
    have e_2 : b_3 = false := bfalse h_1
    obtain ⟨o_50, h_49, h⟩ := bindS h
    simp only [e_2, go_sem, simprocAttr]
    rcases o_50 with y_48 | _
    · skip
      try dsimp only at h
      refine ACalls.use (context_reader_count_w N _ _ _ _ c_0 _ h_49) [0] (by decide) ⟨(by first | rfl | simp only [go_sem, simprocAttr, e_2]), trivial⟩ rfl (v' := .int .i64 y_48) (by first | rfl | simp only [go_sem, simprocAttr, e_2]) (H' := [.box [.vec c_0 (List.map eU8 l_0), .int .i64 (IntKind.i64.wrap (a_1 + 2))] 123, .box [.vec true [], .vec true [], .vec true [], .vec true []] 61]) (by first | rfl | simp only [go_sem, simprocAttr, e_2]) ?_
      refine CallK_go (by simp) ?_
      obtain ⟨o_54, h_53, h⟩ := bindS h
      simp only [e_2, go_sem, simprocAttr]
      rcases o_54 with y_52 | _
      · skip
        try dsimp only at h
        refine ACalls.use (context_reader_count_w N _ _ _ _ c_0 _ h_53) [0] (by decide) ⟨(by first | rfl | simp only [go_sem, simprocAttr, e_2]), trivial⟩ rfl (v' := .int .i64 y_52) (by first | rfl | simp only [go_sem, simprocAttr, e_2]) (H' := [.box [.vec c_0 (List.map eU8 l_0), .int .i64 (IntKind.i64.wrap ((IntKind.i64.wrap (a_1 + 2)) + 2))] 123, .box [.vec true [], .vec true [], .vec true [], .vec true []] 61]) (by first | rfl | simp only [go_sem, simprocAttr, e_2]) ?_
        refine CallK_go (by simp) ?_
        obtain ⟨o_58, h_57, h⟩ := bindS h
        simp only [e_2, go_sem, simprocAttr]
        rcases o_58 with y_56 | _
        · skip
          try dsimp only at h
          refine ACalls.use (context_reader_row_w N _ _ _ c_0 _ h_57) [0] (by decide) ⟨(by first | rfl | simp only [go_sem, simprocAttr, e_2]), trivial⟩ rfl (v' := .vec false (List.map eI64 y_56)) (by first | rfl | simp only [go_sem, simprocAttr, e_2]) (H' := [.box [.vec c_0 (List.map eU8 l_0), .int .i64 (IntKind.i64.wrap ((IntKind.i64.wrap ((IntKind.i64.wrap (a_1 + 2)) + 2)) + (IntKind.i64.wrap (y_48 * 2))))] 123, .box [.vec true [], .vec true [], .vec true [], .vec true []] 61]) (by first | rfl | simp only [go_sem, simprocAttr, e_2]) ?_
          refine CallK_go (by simp) ?_
          obtain ⟨o_62, h_61, h⟩ := bindS h
          simp only [e_2, go_sem, simprocAttr]
          rcases o_62 with y_60 | _
          · skip
            try dsimp only at h
            refine ACalls.use (context_reader_covers_w N _ _ _ _ c_0 false _ h_61) [0] (by decide) ⟨(by first | rfl | simp only [go_sem, simprocAttr, e_2]), trivial⟩ rfl (v' := .vec false (List.map eTSet y_60)) (by first | rfl | simp only [go_sem, simprocAttr, e_2]) (H' := [.box [.vec c_0 (List.map eU8 l_0), .int .i64 (IntKind.i64.wrap ((IntKind.i64.wrap ((IntKind.i64.wrap (a_1 + 2)) + 2)) + (IntKind.i64.wrap (y_48 * 2))))] 123, .box [.vec true [], .vec true [], .vec true [], .vec true []] 61]) (by first | rfl | simp only [go_sem, simprocAttr, e_2]) ?_
            refine CallK_go (by simp) ?_
            obtain ⟨o_67, h_66, h⟩ := bindS h
            simp only [e_2, go_sem, simprocAttr]
            rcases o_67 with ⟨y_64, y_65⟩ | _
            · skip
              try dsimp only at h
              refine ACalls.use (context_reader_acts_w N _ _ _ _ c_0 _ h_66) [0] (by decide) ⟨(by first | rfl | simp only [go_sem, simprocAttr, e_2]), trivial⟩ rfl (v' := .vec false (List.map eTAct y_64)) (by first | rfl | simp only [go_sem, simprocAttr, e_2]) (H' := [.box [.vec c_0 (List.map eU8 l_0), .int .i64 y_65] 123, .box [.vec true [], .vec false (List.map eTSet y_60), .vec true [], .vec true []] 61]) (by first | rfl | simp only [go_sem, simprocAttr, e_2]) ?_
              refine CallK_go (by simp) ?_
              simp only [e_2, go_sem, simprocAttr]
              have g_0 := Option.some.inj h
              subst g_0
              rw [← hQ]
              exact ⟨rfl, _, rfl, _, _, (RefV.trans (RefV.std (v' := .vec true [[.vec true [], .vec false (List.map eTSet y_60), .vec true [], .vec false (List.map eTAct y_64)]]) [0] (by decide) (by decide) rfl (by first | rfl | simp only [go_sem, simprocAttr, e_2])) (RefV.weak (Wks.cons (Wk.vecs (Wkss.cons (Wks.cons Wk.vec (Wks.cons (Wk.refl _) (Wks.cons Wk.vec (Wks.cons (Wk.refl _) (Wks.nil))))) (Wkss.nil))) Wks.nil) (WkH.refl _))), rfl, rfl⟩
            · skip
              try dsimp only at h
              refine ACalls.usePan (context_reader_acts_w N _ _ _ _ c_0 _ h_66) [0] (by decide) ⟨(by first | rfl | simp only [go_sem, simprocAttr, e_2]), trivial⟩ rfl (v' := .iface 119 (.agg [])) rfl (H' := [.dead, .box [.vec true [], .vec false (List.map eTSet y_60), .vec true [], .vec true []] 61]) (by first | rfl | simp only [go_sem, simprocAttr, e_2]) ?_
              try simp only [CallK_pan, dCallK_pan, panK_ap]
              have g_0 := Option.some.inj h
              subst g_0
              rw [← hQ]
              exact ⟨rfl, _, _, RefV.dead rfl, rfl, rfl⟩
          · skip
            try dsimp only at h
            refine ACalls.usePan (context_reader_covers_w N _ _ _ _ c_0 false _ h_61) [0] (by decide) ⟨(by first | rfl | simp only [go_sem, simprocAttr, e_2]), trivial⟩ rfl (v' := .iface 119 (.agg [])) rfl (H' := [.dead, .box [.vec true [], .vec true [], .vec true [], .vec true []] 61]) (by first | rfl | simp only [go_sem, simprocAttr, e_2]) ?_
            try simp only [CallK_pan, dCallK_pan, panK_ap]
            have g_0 := Option.some.inj h
            subst g_0
            rw [← hQ]
            exact ⟨rfl, _, _, RefV.dead rfl, rfl, rfl⟩
        · skip
          try dsimp only at h
          refine ACalls.usePan (context_reader_row_w N _ _ _ c_0 _ h_57) [0] (by decide) ⟨(by first | rfl | simp only [go_sem, simprocAttr, e_2]), trivial⟩ rfl (v' := .iface 119 (.agg [])) rfl (H' := [.dead, .box [.vec true [], .vec true [], .vec true [], .vec true []] 61]) (by first | rfl | simp only [go_sem, simprocAttr, e_2]) ?_
          try simp only [CallK_pan, dCallK_pan, panK_ap]
          have g_0 := Option.some.inj h
          subst g_0
          rw [← hQ]
          exact ⟨rfl, _, _, RefV.dead rfl, rfl, rfl⟩
      · skip
        try dsimp only at h
        refine ACalls.usePan (context_reader_count_w N _ _ _ _ c_0 _ h_53) [0] (by decide) ⟨(by first | rfl | simp only [go_sem, simprocAttr, e_2]), trivial⟩ rfl (v' := .iface 119 (.agg [])) rfl (H' := [.dead, .box [.vec true [], .vec true [], .vec true [], .vec true []] 61]) (by first | rfl | simp only [go_sem, simprocAttr, e_2]) ?_
        try simp only [CallK_pan, dCallK_pan, panK_ap]
        have g_0 := Option.some.inj h
        subst g_0
        rw [← hQ]
        exact ⟨rfl, _, _, RefV.dead rfl, rfl, rfl⟩
    · skip
      try dsimp only at h
      refine ACalls.usePan (context_reader_count_w N _ _ _ _ c_0 _ h_49) [0] (by decide) ⟨(by first | rfl | simp only [go_sem, simprocAttr, e_2]), trivial⟩ rfl (v' := .iface 119 (.agg [])) rfl (H' := [.dead, .box [.vec true [], .vec true [], .vec true [], .vec true []] 61]) (by first | rfl | simp only [go_sem, simprocAttr, e_2]) ?_
      try simp only [CallK_pan, dCallK_pan, panK_ap]
      have g_0 := Option.some.inj h
      subst g_0
      rw [← hQ]
      exact ⟨rfl, _, _, RefV.dead rfl, rfl, rfl⟩
theorem context_table_w (N : Nat) (l_0 : List Int) (a_1 : Int) (b_2 : Bool) (c_0 : Bool) (z_1 : List TCtx) (z_2 : Bool) (h : context_table N l_0 a_1 b_2 = some (z_1, z_2)) :
    ACalls Go.Proofs.Try.prog 63 [.vec c_0 (List.map eU8 l_0), .int .i64 a_1, .bool b_2] [] (fun e H => H = [] ∧ e = .ret (.tup [.vec false (List.map eTCtx z_1), .bool z_2])) := by
  unfold context_table at h
  refine ACalls.goRN Go.Proofs.Try.func63 n63 a63 Go.Proofs.Try.ntmps63 r63 (by simp) 0 rfl ?_
  generalize hQ : bodyR _ _ _ _ = QQ
  obtain ⟨o_3, h_2, h⟩ := bindS h
  simp only [A63, go_sem, simprocAttr]
  rcases o_3 with y_1 | _
  · skip
    try dsimp only at h
    refine ACalls.use (context_reader_number_w N _ _ c_0 _ h_2) [2] (by decide) ⟨rfl, trivial⟩ rfl (v' := .int .i64 y_1) rfl (H' := [.box [.vec true []] 53, .box [.bool false] 4, .box [.vec c_0 (List.map eU8 l_0), .int .i64 (IntKind.i64.wrap (a_1 + 2))] 123]) rfl ?_
    refine CallK_go (Nat.zero_le _) ?_
    simp only [go_sem, simprocAttr]
    by_cases h_5 : y_1 = 1
    · rw [if_pos h_5] at h
      have e_6 : (y_1 = 1) = True := eq_true h_5
      obtain ⟨o_10, h_9, h⟩ := bindS h
      simp only [e_6, go_sem, simprocAttr]
      rcases o_10 with ⟨y_7, y_8⟩ | _
      · skip
        try dsimp only at h
        refine ACalls.use (context_reader_single_w N _ _ _ _ c_0 _ h_9) [2] (by decide) ⟨(by first | rfl | simp only [go_sem, simprocAttr, e_6]), trivial⟩ rfl (v' := .vec false (List.map eTCtx y_7)) (by first | rfl | simp only [go_sem, simprocAttr, e_6]) (H' := [.box [.vec true []] 53, .box [.bool false] 4, .box [.vec c_0 (List.map eU8 l_0), .int .i64 y_8] 123]) (by first | rfl | simp only [go_sem, simprocAttr, e_6]) ?_
        refine CallK_go (Nat.zero_le _) ?_
        simp only [e_6, go_sem, simprocAttr]
        rw [← hQ]
        show clo _ _ _ _ _ _ _
        refine clo.of_M (g := 81) (by simp) rfl rc81 (by decide) ?_
        generalize hE : endR _ _ _ _ = EE
        simp only [A81r, A81, go_sem, simprocAttr]
        have g_0 := Option.some.inj h
        obtain ⟨k_1, g_1⟩ := Prod.mk.inj g_0
        subst k_1
        subst g_1
        rw [← hE]
        exact ⟨rfl, _, rfl, _, _, (RefV.out rfl), rfl, rfl⟩
      · skip
        try dsimp only at h
        refine ACalls.usePan (context_reader_single_w N _ _ _ _ c_0 _ h_9) [2] (by decide) ⟨(by first | rfl | simp only [go_sem, simprocAttr, e_6]), trivial⟩ rfl (v' := .iface 119 (.agg [])) rfl (H' := [.box [.vec true []] 53, .box [.bool false] 4, .dead]) (by first | rfl | simp only [go_sem, simprocAttr, e_6]) ?_
        try simp only [CallK_pan, dCallK_pan, panK_ap]
        rw [← hQ]
        show clo _ _ _ _ _ _ _
        refine clo.of_M (g := 81) (by simp) rfl rc81 (by decide) ?_
        generalize hE : endR _ _ _ _ = EE
        simp only [A81r, A81, go_sem, simprocAttr]
        have g_0 := Option.some.inj h
        obtain ⟨k_1, g_1⟩ := Prod.mk.inj g_0
        subst k_1
        subst g_1
        rw [← hE]
        exact ⟨rfl, _, rfl, _, _, (RefV.trans (RefV.out (v' := .tup [.vec true [], .bool false]) rfl) (RefV.weak (Wks.cons (Wk.tup (Wks.cons Wk.vec (Wks.cons (Wk.refl _) (Wks.nil)))) Wks.nil) (WkH.refl _))), rfl, rfl⟩
    · rw [if_neg h_5] at h
      have e_6 : (y_1 = 1) = False := eq_false h_5
      simp only [e_6, go_sem, simprocAttr]
      by_cases h_12 : y_1 = 2
      · rw [if_pos h_12] at h
        have e_13 : (y_1 = 2) = True := eq_true h_12
        obtain ⟨o_17, h_16, h⟩ := bindS h
        simp only [e_6, e_13, go_sem, simprocAttr]
        rcases o_17 with ⟨y_14, y_15⟩ | _
        · skip
          try dsimp only at h
          refine ACalls.use (context_reader_classed_w N _ _ _ _ c_0 _ h_16) [2] (by decide) ⟨(by first | rfl | simp only [go_sem, simprocAttr, e_6, e_13]), trivial⟩ rfl (v' := .vec false (List.map eTCtx y_14)) (by first | rfl | simp only [go_sem, simprocAttr, e_6, e_13]) (H' := [.box [.vec true []] 53, .box [.bool false] 4, .box [.vec c_0 (List.map eU8 l_0), .int .i64 y_15] 123]) (by first | rfl | simp only [go_sem, simprocAttr, e_6, e_13]) ?_
          refine CallK_go (Nat.zero_le _) ?_
          simp only [e_6, e_13, go_sem, simprocAttr]
          rw [← hQ]
          show clo _ _ _ _ _ _ _
          refine clo.of_M (g := 81) (by simp) rfl rc81 (by decide) ?_
          generalize hE : endR _ _ _ _ = EE
          simp only [A81r, A81, go_sem, simprocAttr]
          have g_0 := Option.some.inj h
          obtain ⟨k_1, g_1⟩ := Prod.mk.inj g_0
          subst k_1
          subst g_1
          rw [← hE]
          exact ⟨rfl, _, rfl, _, _, (RefV.out rfl), rfl, rfl⟩
        · skip
          try dsimp only at h
          refine ACalls.usePan (context_reader_classed_w N _ _ _ _ c_0 _ h_16) [2] (by decide) ⟨(by first | rfl | simp only [go_sem, simprocAttr, e_6, e_13]), trivial⟩ rfl (v' := .iface 119 (.agg [])) rfl (H' := [.box [.vec true []] 53, .box [.bool false] 4, .dead]) (by first | rfl | simp only [go_sem, simprocAttr, e_6, e_13]) ?_
          try simp only [CallK_pan, dCallK_pan, panK_ap]
          rw [← hQ]
          show clo _ _ _ _ _ _ _
          refine clo.of_M (g := 81) (by simp) rfl rc81 (by decide) ?_
          generalize hE : endR _ _ _ _ = EE
          simp only [A81r, A81, go_sem, simprocAttr]
          have g_0 := Option.some.inj h
          obtain ⟨k_1, g_1⟩ := Prod.mk.inj g_0
          subst k_1
          subst g_1
          rw [← hE]
          exact ⟨rfl, _, rfl, _, _, (RefV.trans (RefV.out (v' := .tup [.vec true [], .bool false]) rfl) (RefV.weak (Wks.cons (Wk.tup (Wks.cons Wk.vec (Wks.cons (Wk.refl _) (Wks.nil)))) Wks.nil) (WkH.refl _))), rfl, rfl⟩
      · rw [if_neg h_12] at h
        have e_13 : (y_1 = 2) = False := eq_false h_12
        simp only [e_6, e_13, go_sem, simprocAttr]
        by_cases h_19 : y_1 = 3
        · rw [if_pos h_19] at h
          have e_20 : (y_1 = 3) = True := eq_true h_19
          obtain ⟨o_24, h_23, h⟩ := bindS h
          simp only [e_6, e_13, e_20, go_sem, simprocAttr]
          rcases o_24 with ⟨y_21, y_22⟩ | _
          · skip
            try dsimp only at h
            refine ACalls.use (context_reader_covered_w N _ _ _ _ c_0 _ h_23) [2] (by decide) ⟨(by first | rfl | simp only [go_sem, simprocAttr, e_6, e_13, e_20]), trivial⟩ rfl (v' := .vec false (List.map eTCtx y_21)) (by first | rfl | simp only [go_sem, simprocAttr, e_6, e_13, e_20]) (H' := [.box [.vec true []] 53, .box [.bool false] 4, .box [.vec c_0 (List.map eU8 l_0), .int .i64 y_22] 123]) (by first | rfl | simp only [go_sem, simprocAttr, e_6, e_13, e_20]) ?_
            refine CallK_go (Nat.zero_le _) ?_
            simp only [e_6, e_13, e_20, go_sem, simprocAttr]
            rw [← hQ]
            show clo _ _ _ _ _ _ _
            refine clo.of_M (g := 81) (by simp) rfl rc81 (by decide) ?_
            generalize hE : endR _ _ _ _ = EE
            simp only [A81r, A81, go_sem, simprocAttr]
            have g_0 := Option.some.inj h
            obtain ⟨k_1, g_1⟩ := Prod.mk.inj g_0
            subst k_1
            subst g_1
            rw [← hE]
            exact ⟨rfl, _, rfl, _, _, (RefV.out rfl), rfl, rfl⟩
          · skip
            try dsimp only at h
            refine ACalls.usePan (context_reader_covered_w N _ _ _ _ c_0 _ h_23) [2] (by decide) ⟨(by first | rfl | simp only [go_sem, simprocAttr, e_6, e_13, e_20]), trivial⟩ rfl (v' := .iface 119 (.agg [])) rfl (H' := [.box [.vec true []] 53, .box [.bool false] 4, .dead]) (by first | rfl | simp only [go_sem, simprocAttr, e_6, e_13, e_20]) ?_
            try simp only [CallK_pan, dCallK_pan, panK_ap]
            rw [← hQ]
            show clo _ _ _ _ _ _ _
            refine clo.of_M (g := 81) (by simp) rfl rc81 (by decide) ?_
            generalize hE : endR _ _ _ _ = EE
            simp only [A81r, A81, go_sem, simprocAttr]
            have g_0 := Option.some.inj h
            obtain ⟨k_1, g_1⟩ := Prod.mk.inj g_0
            subst k_1
            subst g_1
            rw [← hE]
            exact ⟨rfl, _, rfl, _, _, (RefV.trans (RefV.out (v' := .tup [.vec true [], .bool false]) rfl) (RefV.weak (Wks.cons (Wk.tup (Wks.cons Wk.vec (Wks.cons (Wk.refl _) (Wks.nil)))) Wks.nil) (WkH.refl _))), rfl, rfl⟩
        · rw [if_neg h_19] at h
          have e_20 : (y_1 = 3) = False := eq_false h_19
          simp only [e_6, e_13, e_20, go_sem, simprocAttr]
          rw [← hQ]
          show clo _ _ _ _ _ _ _
          refine clo.of_M (g := 81) (by simp) rfl rc81 (by decide) ?_
          generalize hE : endR _ _ _ _ = EE
          simp only [A81r, A81, go_sem, simprocAttr]
          have g_0 := Option.some.inj h
          obtain ⟨k_1, g_1⟩ := Prod.mk.inj g_0
          subst k_1
          subst g_1
          rw [← hE]
          exact ⟨rfl, _, rfl, _, _, (RefV.trans (RefV.out (v' := .tup [.vec true [], .bool false]) rfl) (RefV.weak (Wks.cons (Wk.tup (Wks.cons Wk.vec (Wks.cons (Wk.refl _) (Wks.nil)))) Wks.nil) (WkH.refl _))), rfl, rfl⟩
  · skip
    try dsimp only at h
    refine ACalls.usePan (context_reader_number_w N _ _ c_0 _ h_2) [2] (by decide) ⟨rfl, trivial⟩ rfl (v' := .iface 119 (.agg [])) rfl (H' := [.box [.vec true []] 53, .box [.bool false] 4, .dead]) rfl ?_
    try simp only [CallK_pan, dCallK_pan, panK_ap]
    rw [← hQ]
    show clo _ _ _ _ _ _ _
    refine clo.of_M (g := 81) (by simp) rfl rc81 (by decide) ?_
    generalize hE : endR _ _ _ _ = EE
    simp only [A81r, A81, go_sem, simprocAttr]
    have g_0 := Option.some.inj h
    obtain ⟨k_1, g_1⟩ := Prod.mk.inj g_0
    subst k_1
    subst g_1
    rw [← hE]
    exact ⟨rfl, _, rfl, _, _, (RefV.trans (RefV.out (v' := .tup [.vec true [], .bool false]) rfl) (RefV.weak (Wks.cons (Wk.tup (Wks.cons Wk.vec (Wks.cons (Wk.refl _) (Wks.nil)))) Wks.nil) (WkH.refl _))), rfl, rfl⟩
theorem context_Context_w (N : Nat) (l_0 : List Int) (a_1 : Int) (c_0 : Bool) (z_1 : List TCtx) (z_2 : Bool) (h : context_Context N l_0 a_1 = some (z_1, z_2)) :
    ACalls Go.Proofs.Try.prog 37 [.vec c_0 (List.map eU8 l_0), .int .i64 a_1] [] (fun e H => H = [] ∧ e = .ret (.tup [.vec false (List.map eTCtx z_1), .bool z_2])) := by
  unfold context_Context at h
  refine ACalls.goN Go.Proofs.Try.func37 n37 a37 Go.Proofs.Try.ntmps37 r37 (by simp) 0 rfl ?_
  generalize hQ : bodyA _ _ _ = QQ
  obtain ⟨⟨y_1, y_2⟩, h_3, h⟩ := bindS h
  try dsimp only at h
  simp only [A37, go_sem, simprocAttr]
  refine ACalls.use0 (context_table_w N _ _ _ c_0 _ _ h_3) rfl rfl ?_
  refine CallK_go (Nat.zero_le _) ?_
  simp only [go_sem, simprocAttr]
  have g_0 := Option.some.inj h
  obtain ⟨k_1, g_1⟩ := Prod.mk.inj g_0
  subst k_1
  subst g_1
  rw [← hQ]
  exact ⟨rfl, _, rfl, _, _, (RefV.out rfl), rfl, rfl⟩
theorem context_Chain_w (N : Nat) (l_0 : List Int) (a_1 : Int) (c_0 : Bool) (z_1 : List TCtx) (z_2 : Bool) (h : context_Chain N l_0 a_1 = some (z_1, z_2)) :
    ACalls Go.Proofs.Try.prog 40 [.vec c_0 (List.map eU8 l_0), .int .i64 a_1] [] (fun e H => H = [] ∧ e = .ret (.tup [.vec false (List.map eTCtx z_1), .bool z_2])) := by
  unfold context_Chain at h
  refine ACalls.goN Go.Proofs.Try.func40 n40 a40 Go.Proofs.Try.ntmps40 r40 (by simp) 0 rfl ?_
  generalize hQ : bodyA _ _ _ = QQ
  obtain ⟨⟨y_1, y_2⟩, h_3, h⟩ := bindS h
  try dsimp only at h
  simp only [A40, go_sem, simprocAttr]
  refine ACalls.use0 (context_table_w N _ _ _ c_0 _ _ h_3) rfl rfl ?_
  refine CallK_go (Nat.zero_le _) ?_
  simp only [go_sem, simprocAttr]
  have g_0 := Option.some.inj h
  obtain ⟨k_1, g_1⟩ := Prod.mk.inj g_0
  subst k_1
  subst g_1
  rw [← hQ]
  exact ⟨rfl, _, rfl, _, _, (RefV.out rfl), rfl, rfl⟩
theorem ref10_Same_L1_w (N : Nat) (l_0 : List TSpan) (l_1 : List TSpan) (c_0 : Bool) (c_1 : Bool) {R : AExit → ATm → List AObj → Prop} : ∀ (n : Nat) (i_3 : Int) (o : (Unit) ⊕ (Unit)), ref10_Same_L1 N l_0 l_1 n i_3 = some o → (match o with | .inl _ => R (.exit 0) ⟨26, [], []⟩ [] | .inr (_) => R .ret ⟨26, [(4, .bool false)], []⟩ []) →
    ALp Go.Proofs.Try.prog 0 B22_1 ⟨26, [(0, .vec c_0 (List.map eTSpan l_0)), (1, .vec c_1 (List.map eTSpan l_1)), (5, .int .i64 i_3)], []⟩ [] R := by
  intro n
  induction n with
  | zero =>
    intro i_3 o h _
    have h0 : none = some o := h
    cases h0
  | succ n ih =>
    intro i_3 o h hp
    rw [ref10_Same_L1] at h
    refine ALp.round ?_
    generalize hQ : RoundQ _ _ _ _ = QQ
    simp only [B22_1, A22, go_sem, simprocAttr]
    by_cases h_4 : i_3 < (l_0.length : Int)
    · rw [if_pos h_4] at h
      have e_5 : (i_3 < (l_0.length : Int)) = True := eq_true h_4
      obtain ⟨x_6, h_7, h⟩ := bindS h
      have e_8 : (List.map eTSpan l_0)[(i_3).toNat]? = some [.int .i64 x_6.From, .int .i64 x_6.To] := atI_map eTSpan h_7
      have e_9 : ((0 : Int) ≤ i_3) = True := eq_true (atI_some h_7).1
      have e_10 : ((i_3 : Int) < (l_0.length : Int)) = True := eq_true (atI_lt h_7)
      obtain ⟨x_11, h_12, h⟩ := bindS h
      have e_13 : (List.map eTSpan l_1)[(i_3).toNat]? = some [.int .i64 x_11.From, .int .i64 x_11.To] := atI_map eTSpan h_12
      have e_14 : ((0 : Int) ≤ i_3) = True := eq_true (atI_some h_12).1
      have e_15 : ((i_3 : Int) < (l_1.length : Int)) = True := eq_true (atI_lt h_12)
      simp only [e_5, e_8, e_9, e_10, e_13, e_14, e_15, go_sem, simprocAttr]
      by_cases h_16 : x_6.From = x_11.From
      · rw [if_pos h_16] at h
        have e_17 : (x_6.From = x_11.From) = True := eq_true h_16
        simp only [e_5, e_8, e_9, e_10, e_13, e_14, e_15, e_17, go_sem, simprocAttr]
        by_cases h_18 : x_6.To = x_11.To
        · rw [if_pos h_18] at h
          have e_19 : (x_6.To = x_11.To) = True := eq_true h_18
          simp only [e_5, e_8, e_9, e_10, e_13, e_14, e_15, e_17, e_19, go_sem, simprocAttr]
          rw [← hQ]
          exact ⟨_, _, (Ref.out [0, 1, 5] rfl), (Nat.zero_le _), ih _ _ h hp⟩
        · rw [if_neg h_18] at h
          have e_19 : (x_6.To = x_11.To) = False := eq_false h_18
          simp only [e_5, e_8, e_9, e_10, e_13, e_14, e_15, e_17, e_19, go_sem, simprocAttr]
          have g := Option.some.inj h
          subst g
          rw [← hQ]
          exact ⟨_, _, (Ref.out [4] rfl), hp⟩
      · rw [if_neg h_16] at h
        have e_17 : (x_6.From = x_11.From) = False := eq_false h_16
        simp only [e_5, e_8, e_9, e_10, e_13, e_14, e_15, e_17, go_sem, simprocAttr]
        have g := Option.some.inj h
        subst g
        rw [← hQ]
        exact ⟨_, _, (Ref.out [4] rfl), hp⟩
    · rw [if_neg h_4] at h
      have e_5 : (i_3 < (l_0.length : Int)) = False := eq_false h_4
      simp only [e_5, go_sem, simprocAttr]
      have g := Option.some.inj h
      subst g
      rw [← hQ]
      exact ⟨_, _, (Ref.out [] rfl), hp⟩
theorem ref10_Same_w (N : Nat) (l_0 : List TSpan) (l_1 : List TSpan) (c_0 : Bool) (c_1 : Bool) (z_1 : Bool) (h : ref10_Same N l_0 l_1 = some z_1) :
    ACalls Go.Proofs.Try.prog 22 [.vec c_0 (List.map eTSpan l_0), .vec c_1 (List.map eTSpan l_1)] [] (fun e H => H = [] ∧ e = .ret (.bool z_1)) := by
  unfold ref10_Same at h
  refine ACalls.goN Go.Proofs.Try.func22 n22 a22 Go.Proofs.Try.ntmps22 r22 (by simp) 0 rfl ?_
  generalize hQ : bodyA _ _ _ = QQ
  simp only [A22, go_sem, simprocAttr]
  by_cases h_1 : (l_0.length : Int) = (l_1.length : Int)
  · rw [if_pos h_1] at h
    have e_2 : ((l_0.length : Int) = (l_1.length : Int)) = True := eq_true h_1
    simp only [e_2, go_sem, simprocAttr]
    obtain ⟨o_1004, h_1003, h⟩ := bindS h
    refine ALp.ref (Ref.out [0, 1, 5] rfl) (Nat.zero_le _) (ref10_Same_L1_w N _ _ c_0 c_1 N _ o_1004 h_1003 ?_)
    rcases o_1004 with _ | _
    · try dsimp only at h
      refine LoopK_go rfl (Nat.zero_le _) ?_
      simp only [e_2, go_sem, simprocAttr]
      have g_0 := Option.some.inj h
      subst g_0
      rw [← hQ]
      exact ⟨rfl, _, rfl, _, _, (RefV.out rfl), rfl, rfl⟩
    · try dsimp only at h
      refine LoopK_ret ?_
      have g_0 := Option.some.inj h
      subst g_0
      rw [← hQ]
      exact ⟨rfl, _, rfl, _, _, (RefV.out rfl), rfl, rfl⟩
  · rw [if_neg h_1] at h
    have e_2 : ((l_0.length : Int) = (l_1.length : Int)) = False := eq_false h_1
    simp only [e_2, go_sem, simprocAttr]
    have g_0 := Option.some.inj h
    subst g_0
    rw [← hQ]
    exact ⟨rfl, _, rfl, _, _, (RefV.out rfl), rfl, rfl⟩
theorem ref11_SameSets_L1_w (N : Nat) (l_0 : List TSet) (l_1 : List TSet) (c_0 : Bool) (c_1 : Bool) {R : AExit → ATm → List AObj → Prop} : ∀ (n : Nat) (i_3 : Int) (o : (Unit) ⊕ (Unit)), ref11_SameSets_L1 N l_0 l_1 n i_3 = some o → (match o with | .inl _ => R (.exit 0) ⟨42, [], []⟩ [] | .inr (_) => R .ret ⟨42, [(4, .bool false)], []⟩ []) →
    ALp Go.Proofs.Try.prog 0 B69_1 ⟨42, [(0, .vec c_0 (List.map eTSet l_0)), (1, .vec c_1 (List.map eTSet l_1)), (5, .int .i64 i_3)], []⟩ [] R := by
  intro n
  induction n with
  | zero =>
    intro i_3 o h _
    have h0 : none = some o := h
    cases h0
  | succ n ih =>
    intro i_3 o h hp
    rw [ref11_SameSets_L1] at h
    refine ALp.round ?_
    generalize hQ : RoundQ _ _ _ _ = QQ
    simp only [B69_1, A69, go_sem, simprocAttr]
    by_cases h_4 : i_3 < (l_0.length : Int)
    · rw [if_pos h_4] at h
      have e_5 : (i_3 < (l_0.length : Int)) = True := eq_true h_4
      obtain ⟨x_6, h_7, h⟩ := bindS h
      have e_8 : (List.map eTSet l_0)[(i_3).toNat]? = some [.vec false (List.map eTSpan x_6.Spans), .bool x_6.Not] := atI_map eTSet h_7
      have e_9 : ((0 : Int) ≤ i_3) = True := eq_true (atI_some h_7).1
      have e_10 : ((i_3 : Int) < (l_0.length : Int)) = True := eq_true (atI_lt h_7)
      obtain ⟨x_11, h_12, h⟩ := bindS h
      have e_13 : (List.map eTSet l_1)[(i_3).toNat]? = some [.vec false (List.map eTSpan x_11.Spans), .bool x_11.Not] := atI_map eTSet h_12
      have e_14 : ((0 : Int) ≤ i_3) = True := eq_true (atI_some h_12).1
      have e_15 : ((i_3 : Int) < (l_1.length : Int)) = True := eq_true (atI_lt h_12)
      simp only [e_5, e_8, e_9, e_10, e_13, e_14, e_15, go_sem, simprocAttr]
      by_cases h_16 : x_6.Not = true
      · rw [if_pos h_16] at h
        have e_17 : x_6.Not = true := h_16
        simp only [e_5, e_8, e_9, e_10, e_13, e_14, e_15, e_17, go_sem, simprocAttr]
        by_cases h_18 : x_11.Not = true
        · rw [if_pos h_18] at h
          have e_19 : x_11.Not = true := h_18
          obtain ⟨y_20, h_21, h⟩ := bindS h
          simp only [e_5, e_8, e_9, e_10, e_13, e_14, e_15, e_17, e_19, go_sem, simprocAttr]
          refine ACalls.use0 (ref10_Same_w N _ _ false false _ h_21) rfl rfl ?_
          simp only [e_5, e_8, e_9, e_10, e_13, e_14, e_15, e_17, e_19, go_sem, simprocAttr]
          by_cases h_22 : y_20 = true
          · rw [if_pos h_22] at h
            have e_23 : y_20 = true := h_22
            simp only [e_5, e_8, e_9, e_10, e_13, e_14, e_15, e_17, e_19, e_23, go_sem, simprocAttr]
            rw [← hQ]
            exact ⟨_, _, (Ref.out [0, 1, 5] rfl), (Nat.zero_le _), ih _ _ h hp⟩
          · rw [if_neg h_22] at h
            have e_23 : y_20 = false := bfalse h_22
            simp only [e_5, e_8, e_9, e_10, e_13, e_14, e_15, e_17, e_19, e_23, go_sem, simprocAttr]
            have g := Option.some.inj h
            subst g
            rw [← hQ]
            exact ⟨_, _, (Ref.out [4] rfl), hp⟩
        · rw [if_neg h_18] at h
          have e_19 : x_11.Not = false := bfalse h_18
          simp only [e_5, e_8, e_9, e_10, e_13, e_14, e_15, e_17, e_19, go_sem, simprocAttr]
          have g := Option.some.inj h
          subst g
          rw [← hQ]
          exact ⟨_, _, (Ref.out [4] rfl), hp⟩
      · rw [if_neg h_16] at h
        have e_17 : x_6.Not = false := bfalse h_16
        simp only [e_5, e_8, e_9, e_10, e_13, e_14, e_15, e_17, go_sem, simprocAttr]
        by_cases h_24 : x_11.Not = true
        · rw [if_pos h_24] at h
          have e_25 : x_11.Not = true := h_24
          simp only [e_5, e_8, e_9, e_10, e_13, e_14, e_15, e_17, e_25, go_sem, simprocAttr]
          have g := Option.some.inj h
          subst g
          rw [← hQ]
          exact ⟨_, _, (Ref.out [4] rfl), hp⟩
        · rw [if_neg h_24] at h
          have e_25 : x_11.Not = false := bfalse h_24
          obtain ⟨y_26, h_27, h⟩ := bindS h
          simp only [e_5, e_8, e_9, e_10, e_13, e_14, e_15, e_17, e_25, go_sem, simprocAttr]
          refine ACalls.use0 (ref10_Same_w N _ _ false false _ h_27) rfl rfl ?_
          simp only [e_5, e_8, e_9, e_10, e_13, e_14, e_15, e_17, e_25, go_sem, simprocAttr]
          by_cases h_28 : y_26 = true
          · rw [if_pos h_28] at h
            have e_29 : y_26 = true := h_28
            simp only [e_5, e_8, e_9, e_10, e_13, e_14, e_15, e_17, e_25, e_29, go_sem, simprocAttr]
            rw [← hQ]
            exact ⟨_, _, (Ref.out [0, 1, 5] rfl), (Nat.zero_le _), ih _ _ h hp⟩
          · rw [if_neg h_28] at h
            have e_29 : y_26 = false := bfalse h_28
            simp only [e_5, e_8, e_9, e_10, e_13, e_14, e_15, e_17, e_25, e_29, go_sem, simprocAttr]
            have g := Option.some.inj h
            subst g
            rw [← hQ]
            exact ⟨_, _, (Ref.out [4] rfl), hp⟩
    · rw [if_neg h_4] at h
      have e_5 : (i_3 < (l_0.length : Int)) = False := eq_false h_4
      simp only [e_5, go_sem, simprocAttr]
      have g := Option.some.inj h
      subst g
      rw [← hQ]
      exact ⟨_, _, (Ref.out [] rfl), hp⟩
theorem ref11_SameSets_w (N : Nat) (l_0 : List TSet) (l_1 : List TSet) (c_0 : Bool) (c_1 : Bool) (z_1 : Bool) (h : ref11_SameSets N l_0 l_1 = some z_1) :
    ACalls Go.Proofs.Try.prog 69 [.vec c_0 (List.map eTSet l_0), .vec c_1 (List.map eTSet l_1)] [] (fun e H => H = [] ∧ e = .ret (.bool z_1)) := by
  unfold ref11_SameSets at h
  refine ACalls.goN Go.Proofs.Try.func69 n69 a69 Go.Proofs.Try.ntmps69 r69 (by simp) 0 rfl ?_
  generalize hQ : bodyA _ _ _ = QQ
  simp only [A69, go_sem, simprocAttr]
  by_cases h_1 : (l_0.length : Int) = (l_1.length : Int)
  · rw [if_pos h_1] at h
    have e_2 : ((l_0.length : Int) = (l_1.length : Int)) = True := eq_true h_1
    simp only [e_2, go_sem, simprocAttr]
    obtain ⟨o_1004, h_1003, h⟩ := bindS h
    refine ALp.ref (Ref.out [0, 1, 5] rfl) (Nat.zero_le _) (ref11_SameSets_L1_w N _ _ c_0 c_1 N _ o_1004 h_1003 ?_)
    rcases o_1004 with _ | _
    · try dsimp only at h
      refine LoopK_go rfl (Nat.zero_le _) ?_
      simp only [e_2, go_sem, simprocAttr]
      have g_0 := Option.some.inj h
      subst g_0
      rw [← hQ]
      exact ⟨rfl, _, rfl, _, _, (RefV.out rfl), rfl, rfl⟩
    · try dsimp only at h
      refine LoopK_ret ?_
      have g_0 := Option.some.inj h
      subst g_0
      rw [← hQ]
      exact ⟨rfl, _, rfl, _, _, (RefV.out rfl), rfl, rfl⟩
  · rw [if_neg h_1] at h
    have e_2 : ((l_0.length : Int) = (l_1.length : Int)) = False := eq_false h_1
    simp only [e_2, go_sem, simprocAttr]
    have g_0 := Option.some.inj h
    subst g_0
    rw [← hQ]
    exact ⟨rfl, _, rfl, _, _, (RefV.out rfl), rfl, rfl⟩
theorem ref11_Same_L2_w (N : Nat) (l_0 : List TCtx) (l_1 : List TCtx) (i_3 : Int) (c_0 : Bool) (c_1 : Bool) {R : AExit → ATm → List AObj → Prop} : ∀ (n : Nat) (i_30 : Int) (o : (Unit) ⊕ (Unit)), ref11_Same_L2 N l_0 l_1 i_3 n i_30 = some o → (match o with | .inl _ => R (.exit 2) ⟨100, [(0, .vec c_0 (List.map eTCtx l_0)), (1, .vec c_1 (List.map eTCtx l_1)), (5, .int .i64 i_3)], []⟩ [] | .inr (_) => R .ret ⟨100, [(4, .bool false)], []⟩ []) →
    ALp Go.Proofs.Try.prog 0 B39_2 ⟨100, [(0, .vec c_0 (List.map eTCtx l_0)), (1, .vec c_1 (List.map eTCtx l_1)), (5, .int .i64 i_3), (6, .int .i64 i_30)], []⟩ [] R := by
  intro n
  induction n with
  | zero =>
    intro i_30 o h _
    have h0 : none = some o := h
    cases h0
  | succ n ih =>
    intro i_30 o h hp
    rw [ref11_Same_L2] at h
    refine ALp.round ?_
    generalize hQ : RoundQ _ _ _ _ = QQ
    obtain ⟨x_31, h_32, h⟩ := bindS h
    have e_33 : (List.map eTCtx l_0)[(i_3).toNat]? = some [.vec false (List.map eTSet x_31.Back), .vec false (List.map eTSet x_31.In), .vec false (List.map eTSet x_31.Ahead), .vec false (List.map eTAct x_31.Acts)] := atI_map eTCtx h_32
    have e_34 : ((0 : Int) ≤ i_3) = True := eq_true (atI_some h_32).1
    have e_35 : ((i_3 : Int) < (l_0.length : Int)) = True := eq_true (atI_lt h_32)
    simp only [B39_2, B39_1, A39, e_33, e_34, e_35, go_sem, simprocAttr]
    by_cases h_36 : i_30 < (x_31.Acts.length : Int)
    · rw [if_pos h_36] at h
      have e_37 : (i_30 < (x_31.Acts.length : Int)) = True := eq_true h_36
      obtain ⟨x_38, h_39, h⟩ := bindS h
      have e_40 : (List.map eTAct x_31.Acts)[(i_30).toNat]? = some [.int .i64 x_38.At, .int .i64 x_38.Lookup] := atI_map eTAct h_39
      have e_41 : ((0 : Int) ≤ i_30) = True := eq_true (atI_some h_39).1
      have e_42 : ((i_30 : Int) < (x_31.Acts.length : Int)) = True := eq_true (atI_lt h_39)
      obtain ⟨x_43, h_44, h⟩ := bindS h
      have e_45 : (List.map eTCtx l_1)[(i_3).toNat]? = some [.vec false (List.map eTSet x_43.Back), .vec false (List.map eTSet x_43.In), .vec false (List.map eTSet x_43.Ahead), .vec false (List.map eTAct x_43.Acts)] := atI_map eTCtx h_44
      have e_46 : ((0 : Int) ≤ i_3) = True := eq_true (atI_some h_44).1
      have e_47 : ((i_3 : Int) < (l_1.length : Int)) = True := eq_true (atI_lt h_44)
      obtain ⟨x_48, h_49, h⟩ := bindS h
      have e_50 : (List.map eTAct x_43.Acts)[(i_30).toNat]? = some [.int .i64 x_48.At, .int .i64 x_48.Lookup] := atI_map eTAct h_49
      have e_51 : ((0 : Int) ≤ i_30) = True := eq_true (atI_some h_49).1
      have e_52 : ((i_30 : Int) < (x_43.Acts.length : Int)) = True := eq_true (atI_lt h_49)
      simp only [e_33, e_34, e_35, e_37, e_40, e_41, e_42, e_45, e_46, e_47, e_50, e_51, e_52, go_sem, simprocAttr]
      by_cases h_53 : x_38.At = x_48.At
      · rw [if_pos h_53] at h
        have e_54 : (x_38.At = x_48.At) = True := eq_true h_53
        simp only [e_33, e_34, e_35, e_37, e_40, e_41, e_42, e_45, e_46, e_47, e_50, e_51, e_52, e_54, go_sem, simprocAttr]
        by_cases h_55 : x_38.Lookup = x_48.Lookup
        · rw [if_pos h_55] at h
          have e_56 : (x_38.Lookup = x_48.Lookup) = True := eq_true h_55
          simp only [e_33, e_34, e_35, e_37, e_40, e_41, e_42, e_45, e_46, e_47, e_50, e_51, e_52, e_54, e_56, go_sem, simprocAttr]
          rw [← hQ]
          exact ⟨_, _, (Ref.out [0, 1, 5, 6] rfl), (Nat.zero_le _), ih _ _ h hp⟩
        · rw [if_neg h_55] at h
          have e_56 : (x_38.Lookup = x_48.Lookup) = False := eq_false h_55
          simp only [e_33, e_34, e_35, e_37, e_40, e_41, e_42, e_45, e_46, e_47, e_50, e_51, e_52, e_54, e_56, go_sem, simprocAttr]
          have g := Option.some.inj h
          subst g
          rw [← hQ]
          exact ⟨_, _, (Ref.out [4] rfl), hp⟩
      · rw [if_neg h_53] at h
        have e_54 : (x_38.At = x_48.At) = False := eq_false h_53
        simp only [e_33, e_34, e_35, e_37, e_40, e_41, e_42, e_45, e_46, e_47, e_50, e_51, e_52, e_54, go_sem, simprocAttr]
        have g := Option.some.inj h
        subst g
        rw [← hQ]
        exact ⟨_, _, (Ref.out [4] rfl), hp⟩
    · rw [if_neg h_36] at h
      have e_37 : (i_30 < (x_31.Acts.length : Int)) = False := eq_false h_36
      simp only [e_33, e_34, e_35, e_37, go_sem, simprocAttr]
      have g := Option.some.inj h
      subst g
      rw [← hQ]
      exact ⟨_, _, (Ref.out [0, 1, 5] rfl), hp⟩
theorem ref11_Same_L3_w (N : Nat) (l_0 : List TCtx) (l_1 : List TCtx) (c_0 : Bool) (c_1 : Bool) {R : AExit → ATm → List AObj → Prop} : ∀ (n : Nat) (i_3 : Int) (o : (Unit) ⊕ (Unit)), ref11_Same_L3 N l_0 l_1 n i_3 = some o → (match o with | .inl _ => R (.exit 0) ⟨100, [], []⟩ [] | .inr (_) => R .ret ⟨100, [(4, .bool false)], []⟩ []) →
    ALp Go.Proofs.Try.prog 0 B39_1 ⟨100, [(0, .vec c_0 (List.map eTCtx l_0)), (1, .vec c_1 (List.map eTCtx l_1)), (5, .int .i64 i_3)], []⟩ [] R := by
  intro n
  induction n with
  | zero =>
    intro i_3 o h _
    have h0 : none = some o := h
    cases h0
  | succ n ih =>
    intro i_3 o h hp
    rw [ref11_Same_L3] at h
    refine ALp.round ?_
    generalize hQ : RoundQ _ _ _ _ = QQ
    simp only [B39_1, A39, go_sem, simprocAttr]
    by_cases h_4 : i_3 < (l_0.length : Int)
    · rw [if_pos h_4] at h
      have e_5 : (i_3 < (l_0.length : Int)) = True := eq_true h_4
      obtain ⟨x_6, h_7, h⟩ := bindS h
      have e_8 : (List.map eTCtx l_0)[(i_3).toNat]? = some [.vec false (List.map eTSet x_6.Back), .vec false (List.map eTSet x_6.In), .vec false (List.map eTSet x_6.Ahead), .vec false (List.map eTAct x_6.Acts)] := atI_map eTCtx h_7
      have e_9 : ((0 : Int) ≤ i_3) = True := eq_true (atI_some h_7).1
      have e_10 : ((i_3 : Int) < (l_0.length : Int)) = True := eq_true (atI_lt h_7)
      obtain ⟨x_11, h_12, h⟩ := bindS h
      have e_13 : (List.map eTCtx l_1)[(i_3).toNat]? = some [.vec false (List.map eTSet x_11.Back), .vec false (List.map eTSet x_11.In), .vec false (List.map eTSet x_11.Ahead), .vec false (List.map eTAct x_11.Acts)] := atI_map eTCtx h_12
      have e_14 : ((0 : Int) ≤ i_3) = True := eq_true (atI_some h_12).1
      have e_15 : ((i_3 : Int) < (l_1.length : Int)) = True := eq_true (atI_lt h_12)
      obtain ⟨y_16, h_17, h⟩ := bindS h
      simp only [e_5, e_8, e_9, e_10, e_13, e_14, e_15, go_sem, simprocAttr]
      refine ACalls.use0 (ref11_SameSets_w N _ _ false false _ h_17) rfl rfl ?_
      simp only [e_5, e_8, e_9, e_10, e_13, e_14, e_15, go_sem, simprocAttr]
      by_cases h_18 : y_16 = true
      · rw [if_pos h_18] at h
        have e_19 : y_16 = true := h_18
        obtain ⟨y_20, h_21, h⟩ := bindS h
        simp only [e_5, e_8, e_9, e_10, e_13, e_14, e_15, e_19, go_sem, simprocAttr]
        refine ACalls.use0 (ref11_SameSets_w N _ _ false false _ h_21) rfl rfl ?_
        simp only [e_5, e_8, e_9, e_10, e_13, e_14, e_15, e_19, go_sem, simprocAttr]
        by_cases h_22 : y_20 = true
        · rw [if_pos h_22] at h
          have e_23 : y_20 = true := h_22
          obtain ⟨y_24, h_25, h⟩ := bindS h
          simp only [e_5, e_8, e_9, e_10, e_13, e_14, e_15, e_19, e_23, go_sem, simprocAttr]
          refine ACalls.use0 (ref11_SameSets_w N _ _ false false _ h_25) rfl rfl ?_
          simp only [e_5, e_8, e_9, e_10, e_13, e_14, e_15, e_19, e_23, go_sem, simprocAttr]
          by_cases h_26 : y_24 = true
          · rw [if_pos h_26] at h
            have e_27 : y_24 = true := h_26
            simp only [e_5, e_8, e_9, e_10, e_13, e_14, e_15, e_19, e_23, e_27, go_sem, simprocAttr]
            by_cases h_28 : (x_6.Acts.length : Int) = (x_11.Acts.length : Int)
            · rw [if_pos h_28] at h
              have e_29 : ((x_6.Acts.length : Int) = (x_11.Acts.length : Int)) = True := eq_true h_28
              simp only [e_5, e_8, e_9, e_10, e_13, e_14, e_15, e_19, e_23, e_27, e_29, go_sem, simprocAttr]
              obtain ⟨o_1031, h_1030, h⟩ := bindS h
              refine ALp.ref (Ref.out [0, 1, 5, 6] rfl) (Nat.zero_le _) (ref11_Same_L2_w N _ _ _ c_0 c_1 N _ o_1031 h_1030 ?_)
              rcases o_1031 with _ | _
              · try dsimp only at h
                refine LoopK_go rfl (Nat.zero_le _) ?_
                simp only [e_5, e_8, e_9, e_10, e_13, e_14, e_15, e_19, e_23, e_27, e_29, go_sem, simprocAttr]
                rw [← hQ]
                exact ⟨_, _, (Ref.out [0, 1, 5] rfl), (Nat.zero_le _), ih _ _ h hp⟩
              · try dsimp only at h
                refine LoopK_ret ?_
                have g := Option.some.inj h
                subst g
                rw [← hQ]
                exact ⟨_, _, (Ref.out [4] rfl), hp⟩
            · rw [if_neg h_28] at h
              have e_29 : ((x_6.Acts.length : Int) = (x_11.Acts.length : Int)) = False := eq_false h_28
              simp only [e_5, e_8, e_9, e_10, e_13, e_14, e_15, e_19, e_23, e_27, e_29, go_sem, simprocAttr]
              have g := Option.some.inj h
              subst g
              rw [← hQ]
              exact ⟨_, _, (Ref.out [4] rfl), hp⟩
          · rw [if_neg h_26] at h
            have e_27 : y_24 = false := bfalse h_26
            simp only [e_5, e_8, e_9, e_10, e_13, e_14, e_15, e_19, e_23, e_27, go_sem, simprocAttr]
            have g := Option.some.inj h
            subst g
            rw [← hQ]
            exact ⟨_, _, (Ref.out [4] rfl), hp⟩
        · rw [if_neg h_22] at h
          have e_23 : y_20 = false := bfalse h_22
          simp only [e_5, e_8, e_9, e_10, e_13, e_14, e_15, e_19, e_23, go_sem, simprocAttr]
          have g := Option.some.inj h
          subst g
          rw [← hQ]
          exact ⟨_, _, (Ref.out [4] rfl), hp⟩
      · rw [if_neg h_18] at h
        have e_19 : y_16 = false := bfalse h_18
        simp only [e_5, e_8, e_9, e_10, e_13, e_14, e_15, e_19, go_sem, simprocAttr]
        have g := Option.some.inj h
        subst g
        rw [← hQ]
        exact ⟨_, _, (Ref.out [4] rfl), hp⟩
    · rw [if_neg h_4] at h
      have e_5 : (i_3 < (l_0.length : Int)) = False := eq_false h_4
      simp only [e_5, go_sem, simprocAttr]
      have g := Option.some.inj h
      subst g
      rw [← hQ]
      exact ⟨_, _, (Ref.out [] rfl), hp⟩
theorem ref11_Same_w (N : Nat) (l_0 : List TCtx) (l_1 : List TCtx) (c_0 : Bool) (c_1 : Bool) (z_1 : Bool) (h : ref11_Same N l_0 l_1 = some z_1) :
    ACalls Go.Proofs.Try.prog 39 [.vec c_0 (List.map eTCtx l_0), .vec c_1 (List.map eTCtx l_1)] [] (fun e H => H = [] ∧ e = .ret (.bool z_1)) := by
  unfold ref11_Same at h
  refine ACalls.goN Go.Proofs.Try.func39 n39 a39 Go.Proofs.Try.ntmps39 r39 (by simp) 0 rfl ?_
  generalize hQ : bodyA _ _ _ = QQ
  simp only [A39, go_sem, simprocAttr]
  by_cases h_1 : (l_0.length : Int) = (l_1.length : Int)
  · rw [if_pos h_1] at h
    have e_2 : ((l_0.length : Int) = (l_1.length : Int)) = True := eq_true h_1
    simp only [e_2, go_sem, simprocAttr]
    obtain ⟨o_1004, h_1003, h⟩ := bindS h
    refine ALp.ref (Ref.out [0, 1, 5] rfl) (Nat.zero_le _) (ref11_Same_L3_w N _ _ c_0 c_1 N _ o_1004 h_1003 ?_)
    rcases o_1004 with _ | _
    · try dsimp only at h
      refine LoopK_go rfl (Nat.zero_le _) ?_
      simp only [e_2, go_sem, simprocAttr]
      have g_0 := Option.some.inj h
      subst g_0
      rw [← hQ]
      exact ⟨rfl, _, rfl, _, _, (RefV.out rfl), rfl, rfl⟩
    · try dsimp only at h
      refine LoopK_ret ?_
      have g_0 := Option.some.inj h
      subst g_0
      rw [← hQ]
      exact ⟨rfl, _, rfl, _, _, (RefV.out rfl), rfl, rfl⟩
  · rw [if_neg h_1] at h
    have e_2 : ((l_0.length : Int) = (l_1.length : Int)) = False := eq_false h_1
    simp only [e_2, go_sem, simprocAttr]
    have g_0 := Option.some.inj h
    subst g_0
    rw [← hQ]
    exact ⟨rfl, _, rfl, _, _, (RefV.out rfl), rfl, rfl⟩
theorem law11_alive_w (N : Nat) (z_1 : Bool) (h : law11_alive N = some z_1) :
    ACalls Go.Proofs.Try.prog 36 [] [] (fun e H => H = [] ∧ e = .ret (.bool z_1)) := by
  unfold law11_alive at h
  refine ACalls.goN Go.Proofs.Try.func36 n36 a36 Go.Proofs.Try.ntmps36 r36 (by simp) 0 rfl ?_
  generalize hQ : bodyA _ _ _ = QQ
  obtain ⟨⟨y_1, y_2⟩, h_3, h⟩ := bindS h
  try dsimp only at h
  simp only [A36, go_sem, simprocAttr]
  refine ACalls.use0 (context_Context_w N _ _ true _ _ h_3) rfl rfl ?_
  refine CallK_go (Nat.zero_le _) ?_
  obtain ⟨⟨y_4, y_5⟩, h_6, h⟩ := bindS h
  try dsimp only at h
  simp only [go_sem, simprocAttr]
  refine ACalls.use0 (context_Chain_w N _ _ true _ _ h_6) rfl rfl ?_
  refine CallK_go (Nat.zero_le _) ?_
  simp only [go_sem, simprocAttr]
  by_cases h_7 : y_2 = true
  · rw [if_pos h_7] at h
    have e_8 : y_2 = true := h_7
    simp only [e_8, go_sem, simprocAttr]
    by_cases h_9 : y_5 = true
    · rw [if_pos h_9] at h
      have e_10 : y_5 = true := h_9
      simp only [e_8, e_10, go_sem, simprocAttr]
      by_cases h_11 : (y_1.length : Int) = 1
      · rw [if_pos h_11] at h
        have e_12 : ((y_1.length : Int) = 1) = True := eq_true h_11
        obtain ⟨x_13, h_14, h⟩ := bindS h
        have e_15 : (List.map eTCtx y_1)[0]? = some [.vec false (List.map eTSet x_13.Back), .vec false (List.map eTSet x_13.In), .vec false (List.map eTSet x_13.Ahead), .vec false (List.map eTAct x_13.Acts)] := atI_map eTCtx h_14
        have e_16 : ((0 : Int) < (y_1.length : Int)) = True := eq_true (atI_lt h_14)
        simp only [e_8, e_10, e_12, e_15, e_16, go_sem, simprocAttr]
        by_cases h_17 : (x_13.In.length : Int) = 1
        · rw [if_pos h_17] at h
          have e_18 : ((x_13.In.length : Int) = 1) = True := eq_true h_17
          obtain ⟨x_19, h_20, h⟩ := bindS h
          have e_21 : (List.map eTSet x_13.In)[0]? = some [.vec false (List.map eTSpan x_19.Spans), .bool x_19.Not] := atI_map eTSet h_20
          have e_22 : ((0 : Int) < (x_13.In.length : Int)) = True := eq_true (atI_lt h_20)
          simp only [e_8, e_10, e_12, e_15, e_16, e_18, e_21, e_22, go_sem, simprocAttr]
          by_cases h_23 : (x_19.Spans.length : Int) = 1
          · rw [if_pos h_23] at h
            have e_24 : ((x_19.Spans.length : Int) = 1) = True := eq_true h_23
            obtain ⟨y_25, h_26, h⟩ := bindS h
            simp only [e_8, e_10, e_12, e_15, e_16, e_18, e_21, e_22, e_24, go_sem, simprocAttr]
            refine ACalls.use0 (ref11_Same_w N _ _ false false _ h_26) rfl rfl ?_
            refine CallK_go (Nat.zero_le _) ?_
            simp only [e_8, e_10, e_12, e_15, e_16, e_18, e_21, e_22, e_24, go_sem, simprocAttr]
            have g_0 := Option.some.inj h
            subst g_0
            rw [← hQ]
            exact ⟨rfl, _, rfl, _, _, (RefV.out (by first | rfl | simp only [go_sem, simprocAttr, e_8, e_10, e_12, e_18, e_24])), rfl, rfl⟩
          · rw [if_neg h_23] at h
            have e_24 : ((x_19.Spans.length : Int) = 1) = False := eq_false h_23
            simp only [e_8, e_10, e_12, e_15, e_16, e_18, e_21, e_22, e_24, go_sem, simprocAttr]
            have g_0 := Option.some.inj h
            subst g_0
            rw [← hQ]
            exact ⟨rfl, _, rfl, _, _, (RefV.out rfl), rfl, rfl⟩
        · rw [if_neg h_17] at h
          have e_18 : ((x_13.In.length : Int) = 1) = False := eq_false h_17
          simp only [e_8, e_10, e_12, e_15, e_16, e_18, go_sem, simprocAttr]
          have g_0 := Option.some.inj h
          subst g_0
          rw [← hQ]
          exact ⟨rfl, _, rfl, _, _, (RefV.out rfl), rfl, rfl⟩
      · rw [if_neg h_11] at h
        have e_12 : ((y_1.length : Int) = 1) = False := eq_false h_11
        simp only [e_8, e_10, e_12, go_sem, simprocAttr]
        have g_0 := Option.some.inj h
        subst g_0
        rw [← hQ]
        exact ⟨rfl, _, rfl, _, _, (RefV.out rfl), rfl, rfl⟩
    · rw [if_neg h_9] at h
      have e_10 : y_5 = false := bfalse h_9
      simp only [e_8, e_10, go_sem, simprocAttr]
      have g_0 := Option.some.inj h
      subst g_0
      rw [← hQ]
      exact ⟨rfl, _, rfl, _, _, (RefV.out rfl), rfl, rfl⟩
  · rw [if_neg h_7] at h
    have e_8 : y_2 = false := bfalse h_7
    simp only [e_8, go_sem, simprocAttr]
    have g_0 := Option.some.inj h
    subst g_0
    rw [← hQ]
    exact ⟨rfl, _, rfl, _, _, (RefV.out rfl), rfl, rfl⟩
theorem law11_ContextBehind_w (N : Nat) (l_0 : List Int) (l_1 : List Int) (b_2 : Bool) (c_0 : Bool) (c_1 : Bool) (z_1 : Bool) (h : law11_ContextBehind N l_0 l_1 b_2 = some z_1) :
    ACalls Go.Proofs.Try.prog 12 [.vec c_0 (List.map eU8 l_0), .vec c_1 (List.map eU8 l_1), .bool b_2] [] (fun e H => H = [] ∧ e = .ret (.bool z_1)) := by
  unfold law11_ContextBehind at h
  refine ACalls.goN Go.Proofs.Try.func12 n12 a12 Go.Proofs.Try.ntmps12 r12 (by simp) 0 rfl ?_
  generalize hQ : bodyA _ _ _ = QQ
  obtain ⟨y_1, h_2, h⟩ := bindS h
  simp only [A12, go_sem, simprocAttr]
  refine ACalls.use0 (law11_alive_w N _ h_2) rfl rfl ?_
  refine CallK_go (Nat.zero_le _) ?_
  simp only [go_sem, simprocAttr]
  by_cases h_3 : y_1 = true
  · rw [if_pos h_3] at h
    have e_4 : y_1 = true := h_3
    simp only [e_4, go_sem, simprocAttr]
    by_cases h_5 : 1000 < (l_0.length : Int)
    · rw [if_pos h_5] at h
      have e_6 : (1000 < (l_0.length : Int)) = True := eq_true h_5
      simp only [e_4, e_6, go_sem, simprocAttr]
      have g_0 := Option.some.inj h
      subst g_0
      rw [← hQ]
      exact ⟨rfl, _, rfl, _, _, (RefV.out rfl), rfl, rfl⟩
    · rw [if_neg h_5] at h
      have e_6 : (1000 < (l_0.length : Int)) = False := eq_false h_5
      simp only [e_4, e_6, go_sem, simprocAttr]
      by_cases h_7 : 300 < (l_1.length : Int)
      · rw [if_pos h_7] at h
        have e_8 : (300 < (l_1.length : Int)) = True := eq_true h_7
        simp only [e_4, e_6, e_8, go_sem, simprocAttr]
        have g_0 := Option.some.inj h
        subst g_0
        rw [← hQ]
        exact ⟨rfl, _, rfl, _, _, (RefV.out rfl), rfl, rfl⟩
      · rw [if_neg h_7] at h
        have e_8 : (300 < (l_1.length : Int)) = False := eq_false h_7
        have e_9 : ((List.map eU8 l_0)).all (fun el => el.length == 1) = true := all_len _ eU8 1 (fun _ => rfl)
        obtain ⟨h_10, h⟩ := guardS h
        have e_11 : (l_0.length ≤ 140737488355328) = True := eq_true h_10
        have e_12 : List.take l_0.length (List.map eU8 l_0) = (List.map eU8 l_0) := List.take_of_length_le (by simp)
        have e_13 : ((List.map eU8 l_1)).all (fun el => el.length == 1) = true := all_len _ eU8 1 (fun _ => rfl)
        have e_14 : (List.map eU8 l_0) ++ (List.map eU8 l_1) = (List.map eU8 (l_0 ++ l_1)) := app_map l_0 l_1 eU8
        obtain ⟨h_15, h⟩ := guardS h
        have e_16 : (l_0.length + l_1.length ≤ 140737488355328) = True := eq_true h_15
        simp only [e_4, e_6, e_8, e_9, e_11, e_12, e_13, e_14, e_16, go_sem, simprocAttr]
        by_cases h_17 : b_2 = true
        · rw [if_pos h_17] at h
          have e_18 : b_2 = true := h_17
          obtain ⟨⟨y_19, y_20⟩, h_21, h⟩ := bindS h
          try dsimp only at h
          simp only [e_4, e_6, e_8, e_9, e_11, e_12, e_13, e_14, e_16, e_18, go_sem, simprocAttr]
          refine ACalls.use0 (context_Chain_w N _ _ c_0 _ _ h_21) rfl rfl ?_
          refine CallK_ref (ta1 := ⟨73, [(7, .vec false (List.map eU8 (l_0 ++ l_1))), (35, .tup [.vec false (List.map eTCtx y_19), .bool y_20])], []⟩) (H1 := []) (Ref.trans (Ref.frz (Nat.zero_le _) (id := 1) rfl (pures_map (l_0 ++ l_1) eU8 (fun _ => rfl))) (Ref.out [7, 35] (by first | rfl | simp only [go_sem, simprocAttr, e_4, e_6, e_8, e_18]))) (Nat.zero_le _) ?_
          obtain ⟨⟨y_22, y_23⟩, h_24, h⟩ := bindS h
          try dsimp only at h
          simp only [e_4, e_6, e_8, e_9, e_11, e_12, e_13, e_14, e_16, e_18, go_sem, simprocAttr]
          refine ACalls.use0 (context_Chain_w N _ _ false _ _ h_24) rfl rfl ?_
          refine CallK_go (Nat.zero_le _) ?_
          simp only [e_4, e_6, e_8, e_9, e_11, e_12, e_13, e_14, e_16, e_18, go_sem, simprocAttr]
          by_cases h_25 : y_20 = true
          · rw [if_pos h_25] at h
            have e_26 : y_20 = true := h_25
            simp only [e_4, e_6, e_8, e_9, e_11, e_12, e_13, e_14, e_16, e_18, e_26, go_sem, simprocAttr]
            by_cases h_27 : y_23 = true
            · rw [if_pos h_27] at h
              have e_28 : y_23 = true := h_27
              obtain ⟨y_29, h_30, h⟩ := bindS h
              simp only [e_4, e_6, e_8, e_9, e_11, e_12, e_13, e_14, e_16, e_18, e_26, e_28, go_sem, simprocAttr]
              refine ACalls.use0 (ref11_Same_w N _ _ false false _ h_30) rfl rfl ?_
              refine CallK_go (Nat.zero_le _) ?_
              simp only [e_4, e_6, e_8, e_9, e_11, e_12, e_13, e_14, e_16, e_18, e_26, e_28, go_sem, simprocAttr]
              have g_0 := Option.some.inj h
              subst g_0
              rw [← hQ]
              exact ⟨rfl, _, rfl, _, _, (RefV.out (by first | rfl | simp only [go_sem, simprocAttr, e_4, e_6, e_8, e_18, e_26, e_28])), rfl, rfl⟩
            · rw [if_neg h_27] at h
              have e_28 : y_23 = false := bfalse h_27
              simp only [e_4, e_6, e_8, e_9, e_11, e_12, e_13, e_14, e_16, e_18, e_26, e_28, go_sem, simprocAttr]
              have g_0 := Option.some.inj h
              subst g_0
              rw [← hQ]
              exact ⟨rfl, _, rfl, _, _, (RefV.out rfl), rfl, rfl⟩
          · rw [if_neg h_25] at h
            have e_26 : y_20 = false := bfalse h_25
            simp only [e_4, e_6, e_8, e_9, e_11, e_12, e_13, e_14, e_16, e_18, e_26, go_sem, simprocAttr]
            have g_0 := Option.some.inj h
            subst g_0
            rw [← hQ]
            exact ⟨rfl, _, rfl, _, _, (RefV.out rfl), rfl, rfl⟩
        · rw [if_neg h_17] at h
          have e_18 : b_2 = false := bfalse h_17
          obtain ⟨⟨y_31, y_32⟩, h_33, h⟩ := bindS h
          try dsimp only at h
          simp only [e_4, e_6, e_8, e_9, e_11, e_12, e_13, e_14, e_16, e_18, go_sem, simprocAttr]
          refine ACalls.use0 (context_Context_w N _ _ c_0 _ _ h_33) rfl rfl ?_
          refine CallK_ref (ta1 := ⟨73, [(7, .vec false (List.map eU8 (l_0 ++ l_1))), (55, .tup [.vec false (List.map eTCtx y_31), .bool y_32])], []⟩) (H1 := []) (Ref.trans (Ref.frz (Nat.zero_le _) (id := 1) rfl (pures_map (l_0 ++ l_1) eU8 (fun _ => rfl))) (Ref.out [7, 55] (by first | rfl | simp only [go_sem, simprocAttr, e_4, e_6, e_8, e_18]))) (Nat.zero_le _) ?_
          obtain ⟨⟨y_34, y_35⟩, h_36, h⟩ := bindS h
          try dsimp only at h
          simp only [e_4, e_6, e_8, e_9, e_11, e_12, e_13, e_14, e_16, e_18, go_sem, simprocAttr]
          refine ACalls.use0 (context_Context_w N _ _ false _ _ h_36) rfl rfl ?_
          refine CallK_go (Nat.zero_le _) ?_
          simp only [e_4, e_6, e_8, e_9, e_11, e_12, e_13, e_14, e_16, e_18, go_sem, simprocAttr]
          by_cases h_37 : y_32 = true
          · rw [if_pos h_37] at h
            have e_38 : y_32 = true := h_37
            simp only [e_4, e_6, e_8, e_9, e_11, e_12, e_13, e_14, e_16, e_18, e_38, go_sem, simprocAttr]
            by_cases h_39 : y_35 = true
            · rw [if_pos h_39] at h
              have e_40 : y_35 = true := h_39
              obtain ⟨y_41, h_42, h⟩ := bindS h
              simp only [e_4, e_6, e_8, e_9, e_11, e_12, e_13, e_14, e_16, e_18, e_38, e_40, go_sem, simprocAttr]
              refine ACalls.use0 (ref11_Same_w N _ _ false false _ h_42) rfl rfl ?_
              refine CallK_go (Nat.zero_le _) ?_
              simp only [e_4, e_6, e_8, e_9, e_11, e_12, e_13, e_14, e_16, e_18, e_38, e_40, go_sem, simprocAttr]
              have g_0 := Option.some.inj h
              subst g_0
              rw [← hQ]
              exact ⟨rfl, _, rfl, _, _, (RefV.out (by first | rfl | simp only [go_sem, simprocAttr, e_4, e_6, e_8, e_18, e_38, e_40])), rfl, rfl⟩
            · rw [if_neg h_39] at h
              have e_40 : y_35 = false := bfalse h_39
              simp only [e_4, e_6, e_8, e_9, e_11, e_12, e_13, e_14, e_16, e_18, e_38, e_40, go_sem, simprocAttr]
              have g_0 := Option.some.inj h
              subst g_0
              rw [← hQ]
              exact ⟨rfl, _, rfl, _, _, (RefV.out rfl), rfl, rfl⟩
          · rw [if_neg h_37] at h
            have e_38 : y_32 = false := bfalse h_37
            simp only [e_4, e_6, e_8, e_9, e_11, e_12, e_13, e_14, e_16, e_18, e_38, go_sem, simprocAttr]
            have g_0 := Option.some.inj h
            subst g_0
            rw [← hQ]
            exact ⟨rfl, _, rfl, _, _, (RefV.out rfl), rfl, rfl⟩
  · rw [if_neg h_3] at h
    have e_4 : y_1 = false := bfalse h_3
    simp only [e_4, go_sem, simprocAttr]
    have g_0 := Option.some.inj h
    subst g_0
    rw [← hQ]
    exact ⟨rfl, _, rfl, _, _, (RefV.out rfl), rfl, rfl⟩
end Go.Proofs.Ytakplhfiohjcmaa.AI
