/- Walks, further ones. -/
import Derived.Test.YtakplhfiohjcmaacxW2
set_option linter.unusedVariables false
set_option linter.unusedSimpArgs false
set_option maxRecDepth 100000
set_option maxHeartbeats 1000000
namespace Go.Proofs.Ytakplhfiohjcmaa.AI
open Go.Proofs (Try.prog)
attribute [local go_sem] subs_eU8 subs_eI64 subs_eTSpan subs_eTArr3_I64 subs_eTSet subs_eTAct subs_eTCtx subs_eTClass subs_eB mk_eTSpan mk_eTArr3_I64 mk_eTSet mk_eTAct mk_eTCtx mk_eTClass
theorem ref11_Classes_w (N : Nat) (l_0 : List Int) (a_1 : Int) (a_2 : Int) (c_0 : Bool) (z_1 : List TClass) (z_2 : Bool) (h : ref11_Classes N l_0 a_1 a_2 = some (z_1, z_2)) :
  ACalls Try.prog 66 [.vec c_0 (List.map eU8 l_0), .int .i64 a_1, .int .i64 a_2] [] (fun e H => H = [] ∧ e = .ret (.tup [.vec false (List.map eTClass z_1), .bool z_2])) := by
 unfold ref11_Classes at h
 refine ACalls.goN Try.func66 n66 a66 Try.ntmps66 r66 (by simp) 0 rfl ?_
 generalize hQ : bodyA _ _ _ = QQ
 simp only [A66, go_sem, seval]
 by_cases h_1 : a_2 = 0
 ·
  rw [if_pos h_1] at h
  have e_2 := eq_true h_1
  simp only [e_2, go_sem, seval]
  obtain ⟨k_1, g_1⟩ := Prod.mk.inj (Option.some.inj h)
  subst k_1
  subst g_1
  rw [← hQ]
  exact ⟨rfl, _, rfl, _, _, (RefV.trans (RefV.out (v' := .tup [.vec true [], .bool true]) rfl) (RefV.weak (Wks.cons (Wk.tup (Wks.cons Wk.vec (Wks.cons (Wk.refl _) (Wks.nil)))) Wks.nil) (WkH.refl _))), rfl, rfl⟩
 ·
  rw [if_neg h_1] at h
  have e_2 := eq_false h_1
  obtain ⟨⟨y_3, y_4⟩, h_5, h⟩ := bindS h
  try dsimp only at h
  simp only [e_2, go_sem, seval]
  refine ACalls.use0 (ref10_Classes_w N _ _ c_0 _ _ h_5) rfl rfl ?_
  refine ck0 ?_
  simp only [e_2, go_sem, seval]
  obtain ⟨k_1, g_1⟩ := Prod.mk.inj (Option.some.inj h)
  subst k_1
  subst g_1
  rw [← hQ]
  exact ⟨rfl, _, rfl, _, _, (RefV.out (by first | rfl | simp only [go_sem, seval, e_2])), rfl, rfl⟩
theorem ref11_Table_L1_w (N : Nat) (l_0 : List Int) (a_1 : Int) (b_2 : Bool) (y_1 : Int) (y_14 : List Int) (c_0 : Bool) {R : AExit → ATm → List AObj → Prop} : ∀ (n : Nat) (i_19 : Int) (i_20 : Int) (s_21 : List TClass) (s_22 : List TClass) (s_23 : List TClass) (o : (Int × (List TClass) × (List TClass) × (List TClass)) ⊕ (Unit)), ref11_Table_L1 N l_0 a_1 b_2 y_1 y_14 n i_19 i_20 s_21 s_22 s_23 = some o → (match o with | .inl (z_1, z_2, z_3, z_4) => R (.exit 0) ⟨259, [(0, .vec c_0 (List.map eU8 l_0)), (1, .int .i64 a_1), (2, .bool b_2), (8, .int .i64 y_1), (10, .vec false (List.map eI64 y_14)), (12, .int .i64 z_1), (13, .ptr 0 0 0)], []⟩ [.box [.vec false (List.map eTClass z_2), .vec false (List.map eTClass z_3), .vec false (List.map eTClass z_4)] 100] | .inr (_) => R .ret ⟨259, [(6, .vec true []), (7, .bool false)], []⟩ []) →
  ALp Try.prog 0 B38_1 ⟨259, [(0, .vec c_0 (List.map eU8 l_0)), (1, .int .i64 a_1), (2, .bool b_2), (8, .int .i64 y_1), (10, .vec false (List.map eI64 y_14)), (12, .int .i64 i_19), (13, .ptr 0 0 0), (14, .int .i64 i_20)], []⟩ [.box [.vec false (List.map eTClass s_21), .vec false (List.map eTClass s_22), .vec false (List.map eTClass s_23)] 100] R := by
 intro n
 induction n with
 | zero =>
  intro i_19 i_20 s_21 s_22 s_23 o h _
  have h0 : none = some o := h
  cases h0
 | succ n ih =>
  intro i_19 i_20 s_21 s_22 s_23 o h hp
  rw [ref11_Table_L1] at h
  refine ALp.round ?_
  generalize hQ : RoundQ _ _ _ _ = QQ
  simp only [B38_1, A38, go_sem, seval]
  by_cases h_24 : i_20 < 3
  ·
   rw [if_pos h_24] at h
   have e_25 := eq_true h_24
   simp only [e_25, go_sem, seval]
   by_cases h_26 : y_1 = 2
   ·
    rw [if_pos h_26] at h
    have e_27 := eq_true h_26
    simp only [e_25, e_27, go_sem, seval]
    by_cases h_28 : b_2 = true
    ·
     rw [if_pos h_28] at h
     have e_29 : b_2 = true := h_28
     obtain ⟨y_30, h_31, h⟩ := bindS h
     simp only [e_25, e_27, e_29, go_sem, seval]
     refine ACalls.use0 (ref10_U16_w N _ _ c_0 _ h_31) rfl rfl ?_
     refine ck0 ?_
     simp only [e_25, e_27, e_29, go_sem, seval]
     by_cases h_32 : y_30 < 0
     ·
      rw [if_pos h_32] at h
      have e_33 := eq_true h_32
      simp only [e_25, e_27, e_29, e_33, go_sem, seval]
      have g := Option.some.inj h
      subst g
      rw [← hQ]
      exact ⟨_, _, (Ref.out [6, 7] rfl), hp⟩
     ·
      rw [if_neg h_32] at h
      have e_33 := eq_false h_32
      obtain ⟨⟨y_34, y_35⟩, h_36, h⟩ := bindS h
      try dsimp only at h
      simp only [e_25, e_27, e_29, e_33, go_sem, seval]
      refine ACalls.use0 (ref11_Classes_w N _ _ _ c_0 _ _ h_36) rfl rfl ?_
      refine ck0 ?_
      simp only [e_25, e_27, e_29, e_33, go_sem, seval]
      by_cases h_37 : y_35 = true
      ·
       rw [if_pos h_37] at h
       have e_38 : y_35 = true := h_37
       simp only [e_25, e_27, e_29, e_33, e_38, go_sem, seval]
       by_cases h_39 : i_20 = 0
       ·
        rw [if_pos h_39] at h
        have e_40 := eq_true h_39
        have e_41 : ((0 : Int) ≤ i_20) = True := eq_true (by have := of_eq_true e_40; omega)
        have e_42 : ((i_20 : Int) < 3) = True := eq_true (by have := of_eq_true e_40; omega)
        have e_43 : (i_20).toNat = 0 := by have := of_eq_true e_40; omega
        try simp only [e_25, e_27, e_29, e_33, e_38, e_40, e_41, e_42, e_43, go_sem, seval]
        rw [← hQ]
        exact ⟨_, _, (Ref.std [0, 1, 2, 8, 10, 12, 13, 14] [0] (by decide) low0 (by first | rfl | simp only [go_sem, seval, e_25, e_27, e_29, e_33, e_38, e_40]) rfl), (Nat.zero_le _), ih _ _ _ _ _ _ h hp⟩
       ·
        rw [if_neg h_39] at h
        have e_40 := eq_false h_39
        try simp only [e_25, e_27, e_29, e_33, e_38, e_40, go_sem, seval]
        by_cases h_44 : i_20 = 1
        ·
         rw [if_pos h_44] at h
         have e_45 := eq_true h_44
         have e_46 : ((0 : Int) ≤ i_20) = True := eq_true (by have := of_eq_true e_45; omega)
         have e_47 : ((i_20 : Int) < 3) = True := eq_true (by have := of_eq_true e_45; omega)
         have e_48 : (i_20).toNat = 1 := by have := of_eq_true e_45; omega
         try simp only [e_25, e_27, e_29, e_33, e_38, e_40, e_45, e_46, e_47, e_48, go_sem, seval]
         rw [← hQ]
         exact ⟨_, _, (Ref.std [0, 1, 2, 8, 10, 12, 13, 14] [0] (by decide) low0 (by first | rfl | simp only [go_sem, seval, e_25, e_27, e_29, e_33, e_38, e_40, e_45]) rfl), (Nat.zero_le _), ih _ _ _ _ _ _ h hp⟩
        ·
         rw [if_neg h_44] at h
         have e_45 := eq_false h_44
         try simp only [e_25, e_27, e_29, e_33, e_38, e_40, e_45, go_sem, seval]
         by_cases h_49 : i_20 = 2
         ·
          rw [if_pos h_49] at h
          have e_50 := eq_true h_49
          have e_51 : ((0 : Int) ≤ i_20) = True := eq_true (by have := of_eq_true e_50; omega)
          have e_52 : ((i_20 : Int) < 3) = True := eq_true (by have := of_eq_true e_50; omega)
          have e_53 : (i_20).toNat = 2 := by have := of_eq_true e_50; omega
          try simp only [e_25, e_27, e_29, e_33, e_38, e_40, e_45, e_50, e_51, e_52, e_53, go_sem, seval]
          rw [← hQ]
          exact ⟨_, _, (Ref.std [0, 1, 2, 8, 10, 12, 13, 14] [0] (by decide) low0 (by first | rfl | simp only [go_sem, seval, e_25, e_27, e_29, e_33, e_38, e_40, e_45, e_50]) rfl), (Nat.zero_le _), ih _ _ _ _ _ _ h hp⟩
         ·
          rw [if_neg h_49] at h
          have e_50 := eq_false h_49
          have h0 : none = some _ := h
          cases h0
      ·
       rw [if_neg h_37] at h
       have e_38 : y_35 = false := bfalse h_37
       simp only [e_25, e_27, e_29, e_33, e_38, go_sem, seval]
       have g := Option.some.inj h
       subst g
       rw [← hQ]
       exact ⟨_, _, (Ref.out [6, 7] rfl), hp⟩
    ·
     rw [if_neg h_28] at h
     have e_29 : b_2 = false := bfalse h_28
     simp only [e_25, e_27, e_29, go_sem, seval]
     by_cases h_54 : i_20 = 1
     ·
      rw [if_pos h_54] at h
      have e_55 := eq_true h_54
      obtain ⟨y_56, h_57, h⟩ := bindS h
      simp only [e_25, e_27, e_29, e_55, go_sem, seval]
      refine ACalls.use0 (ref10_U16_w N _ _ c_0 _ h_57) rfl rfl ?_
      refine ck0 ?_
      simp only [e_25, e_27, e_29, e_55, go_sem, seval]
      by_cases h_58 : y_56 < 0
      ·
       rw [if_pos h_58] at h
       have e_59 := eq_true h_58
       simp only [e_25, e_27, e_29, e_55, e_59, go_sem, seval]
       have g := Option.some.inj h
       subst g
       rw [← hQ]
       exact ⟨_, _, (Ref.out [6, 7] rfl), hp⟩
      ·
       rw [if_neg h_58] at h
       have e_59 := eq_false h_58
       obtain ⟨⟨y_60, y_61⟩, h_62, h⟩ := bindS h
       try dsimp only at h
       simp only [e_25, e_27, e_29, e_55, e_59, go_sem, seval]
       refine ACalls.use0 (ref11_Classes_w N _ _ _ c_0 _ _ h_62) rfl rfl ?_
       refine ck0 ?_
       simp only [e_25, e_27, e_29, e_55, e_59, go_sem, seval]
       by_cases h_63 : y_61 = true
       ·
        rw [if_pos h_63] at h
        have e_64 : y_61 = true := h_63
        simp only [e_25, e_27, e_29, e_55, e_59, e_64, go_sem, seval]
        by_cases h_65 : i_20 = 0
        ·
         rw [if_pos h_65] at h
         have e_66 := eq_true h_65
         have e_67 : ((0 : Int) ≤ i_20) = True := eq_true (by have := of_eq_true e_66; omega)
         have e_68 : ((i_20 : Int) < 3) = True := eq_true (by have := of_eq_true e_66; omega)
         have e_69 : (i_20).toNat = 0 := by have := of_eq_true e_66; omega
         try simp only [e_25, e_27, e_29, e_55, e_59, e_64, e_66, e_67, e_68, e_69, go_sem, seval]
         rw [← hQ]
         exact ⟨_, _, (Ref.std [0, 1, 2, 8, 10, 12, 13, 14] [0] (by decide) low0 (by first | rfl | simp only [go_sem, seval, e_25, e_27, e_29, e_55, e_59, e_64, e_66]) rfl), (Nat.zero_le _), ih _ _ _ _ _ _ h hp⟩
        ·
         rw [if_neg h_65] at h
         have e_66 := eq_false h_65
         have e_70 : ((0 : Int) ≤ i_20) = True := eq_true (by have := of_eq_true e_55; omega)
         have e_71 : ((i_20 : Int) < 3) = True := eq_true (by have := of_eq_true e_55; omega)
         have e_72 : (i_20).toNat = 1 := by have := of_eq_true e_55; omega
         try simp only [e_25, e_27, e_29, e_55, e_59, e_64, e_66, e_70, e_71, e_72, go_sem, seval]
         rw [← hQ]
         exact ⟨_, _, (Ref.std [0, 1, 2, 8, 10, 12, 13, 14] [0] (by decide) low0 (by first | rfl | simp only [go_sem, seval, e_25, e_27, e_29, e_55, e_59, e_64, e_66]) rfl), (Nat.zero_le _), ih _ _ _ _ _ _ h hp⟩
       ·
        rw [if_neg h_63] at h
        have e_64 : y_61 = false := bfalse h_63
        simp only [e_25, e_27, e_29, e_55, e_59, e_64, go_sem, seval]
        have g := Option.some.inj h
        subst g
        rw [← hQ]
        exact ⟨_, _, (Ref.out [6, 7] rfl), hp⟩
     ·
      rw [if_neg h_54] at h
      have e_55 := eq_false h_54
      simp only [e_25, e_27, e_29, e_55, go_sem, seval]
      rw [← hQ]
      exact ⟨_, _, (Ref.std [0, 1, 2, 8, 10, 12, 13, 14] [0] (by decide) low0 (by first | rfl | simp only [go_sem, seval, e_25, e_27, e_29, e_55]) rfl), (Nat.zero_le _), ih _ _ _ _ _ _ h hp⟩
   ·
    rw [if_neg h_26] at h
    have e_27 := eq_false h_26
    simp only [e_25, e_27, go_sem, seval]
    have g := Option.some.inj h
    subst g
    rw [← hQ]
    exact ⟨_, _, (Ref.std [0, 1, 2, 8, 10, 12, 13] [0] (by decide) low0 (by first | rfl | simp only [go_sem, seval, e_25, e_27]) rfl), hp⟩
  ·
   rw [if_neg h_24] at h
   have e_25 := eq_false h_24
   simp only [e_25, go_sem, seval]
   have g := Option.some.inj h
   subst g
   rw [← hQ]
   exact ⟨_, _, (Ref.std [0, 1, 2, 8, 10, 12, 13] [0] (by decide) low0 (by first | rfl | simp only [go_sem, seval, e_25]) rfl), hp⟩
theorem ref11_Table_L2_w (N : Nat) (l_0 : List Int) (a_1 : Int) (b_2 : Bool) (y_1 : Int) (y_14 : List Int) (y_1020 : Int) (y_1025 : Int) (y_1021 : List TClass) (y_1022 : List TClass) (y_1023 : List TClass) (c_0 : Bool) {R : AExit → ATm → List AObj → Prop} : ∀ (n : Nat) (i_1029 : Int) (s_1030 : List Int) (o : (List Int)), ref11_Table_L2 N l_0 a_1 b_2 y_1 y_14 y_1020 y_1025 y_1021 y_1022 y_1023 n i_1029 s_1030 = some o → (match o with | z_1 => R (.exit 2) ⟨259, [(0, .vec c_0 (List.map eU8 l_0)), (1, .int .i64 a_1), (2, .bool b_2), (8, .int .i64 y_1), (12, .int .i64 y_1020), (13, .ptr 0 0 0), (18, .int .i64 y_1025), (19, .row 1 0 z_1.length)], []⟩ [.box [.vec false (List.map eTClass y_1021), .vec false (List.map eTClass y_1022), .vec false (List.map eTClass y_1023)] 100, .mem 1 (List.map eI64 z_1) 3]) →
  ALp Try.prog 0 B38_2 ⟨259, [(0, .vec c_0 (List.map eU8 l_0)), (1, .int .i64 a_1), (2, .bool b_2), (8, .int .i64 y_1), (10, .vec false (List.map eI64 y_14)), (12, .int .i64 y_1020), (13, .ptr 0 0 0), (18, .int .i64 y_1025), (19, .row 1 0 s_1030.length), (20, .int .i64 i_1029)], []⟩ [.box [.vec false (List.map eTClass y_1021), .vec false (List.map eTClass y_1022), .vec false (List.map eTClass y_1023)] 100, .mem 1 (List.map eI64 s_1030) 3] R := by
 intro n
 induction n with
 | zero =>
  intro i_1029 s_1030 o h _
  have h0 : none = some o := h
  cases h0
 | succ n ih =>
  intro i_1029 s_1030 o h hp
  rw [ref11_Table_L2] at h
  refine ALp.round ?_
  generalize hQ : RoundQ _ _ _ _ = QQ
  simp only [B38_2, A38, go_sem, seval]
  by_cases h_1031 : i_1029 < 65536
  ·
   rw [if_pos h_1031] at h
   have e_1032 := eq_true h_1031
   obtain ⟨x_1033, h_1034, h⟩ := bindS h
   have e_1035 : (List.map eI64 y_14)[(i_1029).toNat]? = some [.int .i64 x_1033] := atI_map eI64 h_1034
   have e_1036 := eq_true (atI_some h_1034).1
   have e_1037 := eq_true (atI_lt h_1034)
   simp only [e_1032, e_1035, e_1036, e_1037, go_sem, seval]
   by_cases h_1038 : 0 ≤ x_1033
   ·
    rw [if_pos h_1038] at h
    have e_1039 := eq_true h_1038
    have e_1040 : List.take s_1030.length (List.map eI64 s_1030) = (List.map eI64 s_1030) := List.take_of_length_le (by simp)
    have e_1041 : (List.map eI64 s_1030) ++ [[.int .i64 i_1029]] = (List.map eI64 (s_1030 ++ [i_1029])) := app_map s_1030 ([i_1029]) eI64
    obtain ⟨h_1042, h⟩ := guardS h
    have e_1043 := eq_true h_1042
    simp only [e_1032, e_1035, e_1036, e_1037, e_1039, e_1040, e_1041, e_1043, go_sem, seval]
    rw [← hQ]
    exact ⟨_, _, (Ref.std [0, 1, 2, 8, 10, 12, 13, 18, 19, 20] [0, 2] (by decide) low0 (by first | rfl | simp only [go_sem, seval, e_1032, e_1039]) (by first | rfl | simp only [go_sem, seval])), (Nat.zero_le _), ih _ _ _ h hp⟩
   ·
    rw [if_neg h_1038] at h
    have e_1039 := eq_false h_1038
    simp only [e_1032, e_1035, e_1036, e_1037, e_1039, go_sem, seval]
    rw [← hQ]
    exact ⟨_, _, (Ref.std [0, 1, 2, 8, 10, 12, 13, 18, 19, 20] [0, 1] (by decide) low0 (by first | rfl | simp only [go_sem, seval, e_1032, e_1039]) (by first | rfl | simp only [go_sem, seval])), (Nat.zero_le _), ih _ _ _ h hp⟩
  ·
   rw [if_neg h_1031] at h
   have e_1032 := eq_false h_1031
   simp only [e_1032, go_sem, seval]
   have g := Option.some.inj h
   subst g
   rw [← hQ]
   exact ⟨_, _, (Ref.std [0, 1, 2, 8, 12, 13, 18, 19] [0, 1] (by decide) low0 (by first | rfl | simp only [go_sem, seval, e_1032]) (by first | rfl | simp only [go_sem, seval])), hp⟩
theorem ref11_With_L2_w (N : Nat) (l_0 : List TClass) (a_1 : Int) (i_2 : Int) (c_0 : Bool) {R : AExit → ATm → List AObj → Prop} : ∀ (n : Nat) (i_11 : Int) (s_12 : List Bool) (o : (List Bool)), ref11_With_L2 N l_0 a_1 i_2 n i_11 s_12 = some o → (match o with | z_1 => R (.exit 2) ⟨50, [(0, .vec c_0 (List.map eTClass l_0)), (1, .int .i64 a_1), (4, .ptr 0 0 0), (5, .row 1 0 z_1.length), (6, .int .i64 i_2)], []⟩ [.box [.vec true [], .bool false] 36, .mem 1 (List.map eB z_1) 4]) →
  ALp Try.prog 0 B106_2 ⟨50, [(0, .vec c_0 (List.map eTClass l_0)), (1, .int .i64 a_1), (4, .ptr 0 0 0), (5, .row 1 0 s_12.length), (6, .int .i64 i_2), (7, .int .i64 i_11)], []⟩ [.box [.vec true [], .bool false] 36, .mem 1 (List.map eB s_12) 4] R := by
 intro n
 induction n with
 | zero =>
  intro i_11 s_12 o h _
  have h0 : none = some o := h
  cases h0
 | succ n ih =>
  intro i_11 s_12 o h hp
  rw [ref11_With_L2] at h
  refine ALp.round ?_
  generalize hQ : RoundQ _ _ _ _ = QQ
  obtain ⟨x_13, h_14, h⟩ := bindS h
  have e_15 : (List.map eTClass l_0)[(i_2).toNat]? = some [.int .i64 x_13.From, .int .i64 x_13.To, .int .i64 x_13.Class] := atI_map eTClass h_14
  have e_16 := eq_true (atI_some h_14).1
  have e_17 := eq_true (atI_lt h_14)
  simp only [B106_2, B106_1, A106, e_15, e_16, e_17, go_sem, seval]
  by_cases h_18 : i_11 ≤ x_13.To
  ·
   rw [if_pos h_18] at h
   have e_19 := eq_true h_18
   simp only [e_15, e_16, e_17, e_19, go_sem, seval]
   by_cases h_20 : a_1 = 0
   ·
    rw [if_pos h_20] at h
    have e_21 := eq_true h_20
    obtain ⟨x_22, h_23, h⟩ := bindS h
    have e_24 : (List.map eB s_12)[(i_11).toNat]? = some [.bool x_22] := atI_map eB h_23
    have e_25 := eq_true (atI_some h_23).1
    have e_26 := eq_true (atI_lt h_23)
    have e_27 : (List.map eB s_12).set (i_11).toNat [.bool true] = List.map eB (List.set s_12 (i_11).toNat true) := set_map s_12 eB (i_11).toNat true
    simp only [e_15, e_16, e_17, e_19, e_21, e_24, e_25, e_26, e_27, go_sem, seval]
    rw [← hQ]
    exact ⟨_, _, (Ref.std [0, 1, 4, 5, 6, 7] [0, 1] (by decide) low0 (by first | rfl | simp only [go_sem, seval]) (by first | rfl | simp only [go_sem, seval])), (Nat.zero_le _), ih _ _ _ h hp⟩
   ·
    rw [if_neg h_20] at h
    have e_21 := eq_false h_20
    simp only [e_15, e_16, e_17, e_19, e_21, go_sem, seval]
    by_cases h_28 : x_13.Class = a_1
    ·
     rw [if_pos h_28] at h
     have e_29 := eq_true h_28
     obtain ⟨x_30, h_31, h⟩ := bindS h
     have e_32 : (List.map eB s_12)[(i_11).toNat]? = some [.bool x_30] := atI_map eB h_31
     have e_33 := eq_true (atI_some h_31).1
     have e_34 := eq_true (atI_lt h_31)
     have e_35 : (List.map eB s_12).set (i_11).toNat [.bool true] = List.map eB (List.set s_12 (i_11).toNat true) := set_map s_12 eB (i_11).toNat true
     simp only [e_15, e_16, e_17, e_19, e_21, e_29, e_32, e_33, e_34, e_35, go_sem, seval]
     rw [← hQ]
     exact ⟨_, _, (Ref.std [0, 1, 4, 5, 6, 7] [0, 1] (by decide) low0 (by first | rfl | simp only [go_sem, seval]) (by first | rfl | simp only [go_sem, seval])), (Nat.zero_le _), ih _ _ _ h hp⟩
    ·
     rw [if_neg h_28] at h
     have e_29 := eq_false h_28
     simp only [e_15, e_16, e_17, e_19, e_21, e_29, go_sem, seval]
     have g := Option.some.inj h
     subst g
     rw [← hQ]
     exact ⟨_, _, (Ref.std [0, 1, 4, 5, 6] [0, 1] (by decide) low0 rfl (by first | rfl | simp only [go_sem, seval])), hp⟩
  ·
   rw [if_neg h_18] at h
   have e_19 := eq_false h_18
   simp only [e_15, e_16, e_17, e_19, go_sem, seval]
   have g := Option.some.inj h
   subst g
   rw [← hQ]
   exact ⟨_, _, (Ref.std [0, 1, 4, 5, 6] [0, 1] (by decide) low0 rfl (by first | rfl | simp only [go_sem, seval])), hp⟩
theorem ref11_With_L3_w (N : Nat) (l_0 : List TClass) (a_1 : Int) (c_0 : Bool) {R : AExit → ATm → List AObj → Prop} : ∀ (n : Nat) (i_2 : Int) (s_3 : List Bool) (o : (List Bool)), ref11_With_L3 N l_0 a_1 n i_2 s_3 = some o → (match o with | z_1 => R (.exit 0) ⟨50, [(1, .int .i64 a_1), (4, .ptr 0 0 0), (5, .row 1 0 z_1.length)], []⟩ [.box [.vec true [], .bool false] 36, .mem 1 (List.map eB z_1) 4]) →
  ALp Try.prog 0 B106_1 ⟨50, [(0, .vec c_0 (List.map eTClass l_0)), (1, .int .i64 a_1), (4, .ptr 0 0 0), (5, .row 1 0 s_3.length), (6, .int .i64 i_2)], []⟩ [.box [.vec true [], .bool false] 36, .mem 1 (List.map eB s_3) 4] R := by
 intro n
 induction n with
 | zero =>
  intro i_2 s_3 o h _
  have h0 : none = some o := h
  cases h0
 | succ n ih =>
  intro i_2 s_3 o h hp
  rw [ref11_With_L3] at h
  refine ALp.round ?_
  generalize hQ : RoundQ _ _ _ _ = QQ
  simp only [B106_1, A106, go_sem, seval]
  by_cases h_4 : i_2 < (l_0.length : Int)
  ·
   rw [if_pos h_4] at h
   have e_5 := eq_true h_4
   obtain ⟨x_6, h_7, h⟩ := bindS h
   have e_8 : (List.map eTClass l_0)[(i_2).toNat]? = some [.int .i64 x_6.From, .int .i64 x_6.To, .int .i64 x_6.Class] := atI_map eTClass h_7
   have e_9 := eq_true (atI_some h_7).1
   have e_10 := eq_true (atI_lt h_7)
   simp only [e_5, e_8, e_9, e_10, go_sem, seval]
   obtain ⟨y_1012, h_1011, h⟩ := bindS h
   refine ALp.ref (Ref.std [0, 1, 4, 5, 6, 7] [0, 1] (by decide) low0 rfl (by first | rfl | simp only [go_sem, seval])) (Nat.zero_le _) (ref11_With_L2_w N _ _ _ c_0 N _ _ y_1012 h_1011 ?_)
   refine LoopK_go rfl (Nat.zero_le _) ?_
   simp only [e_5, e_8, e_9, e_10, go_sem, seval]
   rw [← hQ]
   exact ⟨_, _, (Ref.std [0, 1, 4, 5, 6] [0, 1] (by decide) low0 rfl (by first | rfl | simp only [go_sem, seval])), (Nat.zero_le _), ih _ _ _ h hp⟩
  ·
   rw [if_neg h_4] at h
   have e_5 := eq_false h_4
   simp only [e_5, go_sem, seval]
   have g := Option.some.inj h
   subst g
   rw [← hQ]
   exact ⟨_, _, (Ref.std [1, 4, 5] [0, 1] (by decide) low0 rfl (by first | rfl | simp only [go_sem, seval])), hp⟩
theorem ref11_With_w (N : Nat) (l_0 : List TClass) (a_1 : Int) (c_0 : Bool) (z_1 : List TSpan) (z_2 : Bool) (h : ref11_With N l_0 a_1 = some (z_1, z_2)) :
  ACalls Try.prog 106 [.vec c_0 (List.map eTClass l_0), .int .i64 a_1] [] (fun e H => H = [] ∧ e = .ret (.agg [.vec false (List.map eTSpan z_1), .bool z_2])) := by
 unfold ref11_With at h
 refine ACalls.goN Try.func106 n106 a106 Try.ntmps106 r106 (by simp) 0 rfl ?_
 generalize hQ : bodyA _ _ _ = QQ
 have e_1 : List.replicate 65536 [.bool false] = List.map eB (List.replicate 65536 false) := rep_map _ eB false
 simp only [A106, e_1, go_sem, seval, -List.reduceReplicate]
 obtain ⟨y_1003, h_1002, h⟩ := bindS h
 refine ALp.ref (Ref.std [0, 1, 4, 5, 6] [0, 1] (by decide) low0 (by simp only [go_sem, seval, -List.reduceReplicate]) (by simp only [go_sem, seval, -List.reduceReplicate])) (Nat.zero_le _) (ref11_With_L3_w N _ _ c_0 N _ _ y_1003 h_1002 ?_)
 refine LoopK_go rfl (Nat.zero_le _) ?_
 obtain ⟨y_1004, h_1005, h⟩ := bindS h
 simp only [e_1, go_sem, seval, -List.reduceReplicate]
 refine ACalls.useA (ref10_Spans_row_w N _ _ h_1005) [1] (v' := .vec false (List.map eTSpan y_1004)) (H' := [.box [.vec true [], .bool false] 36, .mem 1 (List.map eB y_1003) 4]) ?_
 refine ck0 ?_
 simp only [e_1, go_sem, seval, -List.reduceReplicate]
 obtain ⟨k_1, g_1⟩ := Prod.mk.inj (Option.some.inj h)
 subst k_1
 subst g_1
 rw [← hQ]
 exact ⟨rfl, _, rfl, _, _, (RefV.out rfl), rfl, rfl⟩
theorem ref11_Sets_L1_w (N : Nat) (l_0 : List Int) (a_1 : Int) (l_2 : List TClass) (c_0 : Bool) (c_1 : Bool) {R : AExit → ATm → List AObj → Prop} : ∀ (n : Nat) (i_1 : Int) (s_2 : List TSet) (o : (List TSet)), ref11_Sets_L1 N l_0 a_1 l_2 n i_1 s_2 = some o → (match o with | z_1 => R (.exit 0) ⟨41, [(7, .row 0 0 z_1.length)], []⟩ [.mem 2 (List.map eTSet z_1) 36]) →
  ALp Try.prog 0 B90_1 ⟨41, [(0, .vec c_0 (List.map eI64 l_0)), (1, .int .i64 a_1), (2, .vec c_1 (List.map eTClass l_2)), (7, .row 0 0 s_2.length), (8, .int .i64 i_1)], []⟩ [.mem 2 (List.map eTSet s_2) 36] R := by
 intro n
 induction n with
 | zero =>
  intro i_1 s_2 o h _
  have h0 : none = some o := h
  cases h0
 | succ n ih =>
  intro i_1 s_2 o h hp
  rw [ref11_Sets_L1] at h
  refine ALp.round ?_
  generalize hQ : RoundQ _ _ _ _ = QQ
  simp only [B90_1, A90, go_sem, seval]
  by_cases h_3 : i_1 < (l_0.length : Int)
  ·
   rw [if_pos h_3] at h
   have e_4 := eq_true h_3
   simp only [e_4, go_sem, seval]
   by_cases h_5 : a_1 = 1
   ·
    rw [if_pos h_5] at h
    have e_6 := eq_true h_5
    obtain ⟨x_7, h_8, h⟩ := bindS h
    have e_9 : (List.map eI64 l_0)[(i_1).toNat]? = some [.int .i64 x_7] := atI_map eI64 h_8
    have e_10 := eq_true (atI_some h_8).1
    have e_11 := eq_true (atI_lt h_8)
    have e_12 : List.take s_2.length (List.map eTSet s_2) = (List.map eTSet s_2) := List.take_of_length_le (by simp)
    obtain ⟨h_13, h⟩ := guardS h
    have e_14 := eq_true h_13
    simp only [e_4, e_6, e_9, e_10, e_11, e_12, e_14, go_sem, seval]
    rw [← hQ]
    exact ⟨_, _, (Ref.trans (Ref.std (l' := [(0, .vec c_0 (List.map eI64 l_0)), (1, .int .i64 a_1), (2, .vec c_1 (List.map eTClass l_2)), (7, .row 0 0 (s_2.length + 1)), (8, .int .i64 (IntKind.i64.wrap (i_1 + 1)))]) (H' := [.mem 2 ((List.map eTSet s_2) ++ [[.vec true [[.int .i64 x_7, .int .i64 x_7]], .bool false]]) 36]) [0, 1, 2, 7, 8] [1] (by decide) low0 (by simp only [go_sem, seval, List.map_append, List.map_cons, List.map_nil]) (by simp only [go_sem, seval, List.map_append, List.map_cons, List.map_nil])) (Ref.weak (WkT.cons (Wk.refl _) (WkT.cons (Wk.refl _) (WkT.cons (Wk.refl _) (WkT.cons (Wk.refl _) (WkT.cons (Wk.refl _) (WkT.nil)))))) (WkH.cons (WkO.snoc (x := TSet.mk ([TSpan.mk x_7 x_7]) false) (Wks.cons Wk.vec (Wks.cons (Wk.refl _) (Wks.nil)))) (WkH.nil)))), (Nat.zero_le _), (by simpa only [List.length_append, List.length_cons, List.length_nil, Nat.zero_add] using ih _ _ _ h hp)⟩
   ·
    rw [if_neg h_5] at h
    have e_6 := eq_false h_5
    obtain ⟨x_15, h_16, h⟩ := bindS h
    have e_17 : (List.map eI64 l_0)[(i_1).toNat]? = some [.int .i64 x_15] := atI_map eI64 h_16
    have e_18 := eq_true (atI_some h_16).1
    have e_19 := eq_true (atI_lt h_16)
    obtain ⟨⟨y_20, y_21⟩, h_22, h⟩ := bindS h
    try dsimp only at h
    simp only [e_4, e_6, e_17, e_18, e_19, go_sem, seval]
    refine ACalls.use0 (ref11_With_w N _ _ c_1 _ _ h_22) rfl rfl ?_
    refine ck0 ?_
    have e_23 : List.take s_2.length (List.map eTSet s_2) = (List.map eTSet s_2) := List.take_of_length_le (by simp)
    have e_24 : (List.map eTSet s_2) ++ [[.vec false (List.map eTSpan y_20), .bool y_21]] = (List.map eTSet (s_2 ++ [TSet.mk y_20 y_21])) := app_map s_2 ([TSet.mk y_20 y_21]) eTSet
    obtain ⟨h_25, h⟩ := guardS h
    have e_26 := eq_true h_25
    simp only [e_4, e_6, e_17, e_18, e_19, e_23, e_24, e_26, go_sem, seval]
    rw [← hQ]
    exact ⟨_, _, (Ref.std [0, 1, 2, 7, 8] [1] (by decide) low0 (by first | rfl | simp only [go_sem, seval]) (by first | rfl | simp only [go_sem, seval])), (Nat.zero_le _), ih _ _ _ h hp⟩
  ·
   rw [if_neg h_3] at h
   have e_4 := eq_false h_3
   simp only [e_4, go_sem, seval]
   have g := Option.some.inj h
   subst g
   rw [← hQ]
   exact ⟨_, _, (Ref.std [7] [0] (by decide) low0 rfl (by first | rfl | simp only [go_sem, seval])), hp⟩
theorem ref11_Sets_w (N : Nat) (l_0 : List Int) (a_1 : Int) (l_2 : List TClass) (c_0 : Bool) (c_1 : Bool) (z_1 : List TSet) (h : ref11_Sets N l_0 a_1 l_2 = some z_1) :
  ACalls Try.prog 90 [.vec c_0 (List.map eI64 l_0), .int .i64 a_1, .vec c_1 (List.map eTClass l_2)] [] (fun e H => H = [] ∧ e = .ret (.vec false (List.map eTSet z_1))) := by
 unfold ref11_Sets at h
 refine ACalls.goN Try.func90 n90 a90 Try.ntmps90 r90 (by simp) 0 rfl ?_
 generalize hQ : bodyA _ _ _ = QQ
 simp only [A90, go_sem, seval]
 obtain ⟨y_1002, h_1001, h⟩ := bindS h
 refine ALp.ref (Ref.trans (Ref.thaw (Nat.zero_le _) 7 rfl (sz := 2) (by decide) 36) (Ref.std [0, 1, 2, 7, 8] [0] (by decide) low0 rfl (by first | rfl | simp only [go_sem, seval]))) (Nat.zero_le _) (ref11_Sets_L1_w N _ _ _ c_0 c_1 N _ _ y_1002 h_1001 ?_)
 refine LoopK_go rfl (Nat.zero_le _) ?_
 simp only [go_sem, seval]
 have g_0 := Option.some.inj h
 subst g_0
 rw [← hQ]
 exact ⟨rfl, _, rfl, _, _, (RefV.trans (RefV.frz (Nat.zero_le _) (id := 0) rfl (pures_map y_1002 eTSet (fun _ => rfl))) (RefV.out (by first | rfl | simp only [go_sem, seval]))), rfl, rfl⟩
theorem ref11_Rule_w (N : Nat) (l_0 : List Int) (a_1 : Int) (a_2 : Int) (b_3 : Bool) (l_4 : List TSpan) (b_5 : Bool) (l_6 : List TClass) (l_7 : List TClass) (l_8 : List TClass) (z_1 : List TSet) (z_2 : List TSet) (z_3 : List TSet) (z_4 : List TAct) (z_5 : Bool) (h : ref11_Rule N l_0 a_1 a_2 b_3 l_4 b_5 l_6 l_7 l_8 = some (z_1, z_2, z_3, z_4, z_5)) :
  ACalls Try.prog 68 [.vec false (List.map eU8 l_0), .int .i64 a_1, .int .i64 a_2, .bool b_3, .agg [.vec false (List.map eTSpan l_4), .bool b_5], .agg [.vec false (List.map eTClass l_6), .vec false (List.map eTClass l_7), .vec false (List.map eTClass l_8)]] [] (fun e H => H = [] ∧ e = .ret (.tup [.agg [.vec false (List.map eTSet z_1), .vec false (List.map eTSet z_2), .vec false (List.map eTSet z_3), .vec false (List.map eTAct z_4)], .bool z_5])) := by
 unfold ref11_Rule at h
 refine ACalls.goN Try.func68 n68 a68 Try.ntmps68 r68 (by simp) 0 rfl ?_
 generalize hQ : bodyA _ _ _ = QQ
 simp only [A68, go_sem, seval]
 by_cases h_1 : b_3 = true
 ·
  rw [if_pos h_1] at h
  have e_2 : b_3 = true := h_1
  obtain ⟨⟨y_3, y_4, y_5⟩, h_6, h⟩ := bindS h
  try dsimp only at h
  simp only [e_2, go_sem, seval]
  refine ACalls.use0 (ref11_Seq_w N _ _ _ _ false _ _ _ h_6) rfl rfl ?_
  refine ck0 ?_
  simp only [e_2, go_sem, seval]
  by_cases h_7 : y_5 = true
  ·
   rw [if_pos h_7] at h
   have e_8 : y_5 = true := h_7
   obtain ⟨y_9, h_10, h⟩ := bindS h
   simp only [e_2, e_8, go_sem, seval]
   refine ACalls.use0 (ref11_Sets_w N _ _ _ false false _ h_10) rfl rfl ?_
   refine ck0 ?_
   obtain ⟨⟨y_11, y_12, y_13⟩, h_14, h⟩ := bindS h
   try dsimp only at h
   simp only [e_2, e_8, go_sem, seval]
   refine ACalls.use0 (ref11_Seq_w N _ _ _ _ false _ _ _ h_14) rfl rfl ?_
   refine ck0 ?_
   simp only [e_2, e_8, go_sem, seval]
   by_cases h_15 : y_13 = true
   ·
    rw [if_pos h_15] at h
    have e_16 : y_13 = true := h_15
    obtain ⟨y_17, h_18, h⟩ := bindS h
    simp only [e_2, e_8, e_16, go_sem, seval]
    refine ACalls.use0 (ref11_Sets_w N _ _ _ false false _ h_18) rfl rfl ?_
    have e_19 : ((List.map eTSet y_17)).all (fun el => el.length == 2) = true := all_len _ eTSet 2 (fun _ => rfl)
    simp only [e_2, e_8, e_16, e_19, go_sem, seval]
    by_cases h_20 : y_17 = []
    ·
     rw [if_pos h_20] at h
     have e_21 : y_17 = [] := h_20
     obtain ⟨⟨y_22, y_23, y_24⟩, h_25, h⟩ := bindS h
     try dsimp only at h
     simp only [e_2, e_8, e_16, e_19, e_21, go_sem, seval]
     refine ACalls.use0 (ref11_Seq_w N _ _ _ _ false _ _ _ h_25) rfl rfl ?_
     refine ck0 ?_
     simp only [e_2, e_8, e_16, e_19, e_21, go_sem, seval]
     by_cases h_26 : y_24 = true
     ·
      rw [if_pos h_26] at h
      have e_27 : y_24 = true := h_26
      obtain ⟨y_28, h_29, h⟩ := bindS h
      simp only [e_2, e_8, e_16, e_19, e_21, e_27, go_sem, seval]
      refine ACalls.use0 (ref11_Sets_w N _ _ _ false false _ h_29) rfl rfl ?_
      refine ck0 ?_
      obtain ⟨y_30, h_31, h⟩ := bindS h
      simp only [e_2, e_8, e_16, e_19, e_21, e_27, go_sem, seval]
      refine ACalls.use0 (ref10_U16_w N _ _ false _ h_31) rfl rfl ?_
      refine ck0 ?_
      simp only [e_2, e_8, e_16, e_19, e_21, e_27, go_sem, seval]
      by_cases h_32 : y_30 < 0
      ·
       rw [if_pos h_32] at h
       have e_33 := eq_true h_32
       simp only [e_2, e_8, e_16, e_19, e_21, e_27, e_33, go_sem, seval]
       obtain ⟨k_1, g_1⟩ := Prod.mk.inj (Option.some.inj h)
       subst k_1
       obtain ⟨k_2, g_2⟩ := Prod.mk.inj g_1
       subst k_2
       obtain ⟨k_3, g_3⟩ := Prod.mk.inj g_2
       subst k_3
       obtain ⟨k_4, g_4⟩ := Prod.mk.inj g_3
       subst k_4
       subst g_4
       rw [← hQ]
       exact ⟨rfl, _, rfl, _, _, (RefV.trans (RefV.out (v' := .tup [.agg [.vec false (List.map eTSet y_9), .vec true [[.vec false (List.map eTSpan l_4), .bool b_5]], .vec false (List.map eTSet y_28), .vec true []], .bool false]) rfl) (RefV.weak (Wks.cons (Wk.tup (Wks.cons (Wk.agg (Wks.cons (Wk.refl _) (Wks.cons Wk.vec (Wks.cons (Wk.refl _) (Wks.cons Wk.vec (Wks.nil)))))) (Wks.cons (Wk.refl _) (Wks.nil)))) Wks.nil) (WkH.refl _))), rfl, rfl⟩
      ·
       rw [if_neg h_32] at h
       have e_33 := eq_false h_32
       simp only [e_2, e_8, e_16, e_19, e_21, e_27, e_33, go_sem, seval]
       by_cases h_34 : 16 < y_30
       ·
        rw [if_pos h_34] at h
        have e_35 := eq_true h_34
        simp only [e_2, e_8, e_16, e_19, e_21, e_27, e_33, e_35, go_sem, seval]
        obtain ⟨k_1, g_1⟩ := Prod.mk.inj (Option.some.inj h)
        subst k_1
        obtain ⟨k_2, g_2⟩ := Prod.mk.inj g_1
        subst k_2
        obtain ⟨k_3, g_3⟩ := Prod.mk.inj g_2
        subst k_3
        obtain ⟨k_4, g_4⟩ := Prod.mk.inj g_3
        subst k_4
        subst g_4
        rw [← hQ]
        exact ⟨rfl, _, rfl, _, _, (RefV.trans (RefV.out (v' := .tup [.agg [.vec false (List.map eTSet y_9), .vec true [[.vec false (List.map eTSpan l_4), .bool b_5]], .vec false (List.map eTSet y_28), .vec true []], .bool false]) rfl) (RefV.weak (Wks.cons (Wk.tup (Wks.cons (Wk.agg (Wks.cons (Wk.refl _) (Wks.cons Wk.vec (Wks.cons (Wk.refl _) (Wks.cons Wk.vec (Wks.nil)))))) (Wks.cons (Wk.refl _) (Wks.nil)))) Wks.nil) (WkH.refl _))), rfl, rfl⟩
       ·
        rw [if_neg h_34] at h
        have e_35 := eq_false h_34
        obtain ⟨⟨y_36, y_37⟩, h_38, h⟩ := bindS h
        try dsimp only at h
        simp only [e_2, e_8, e_16, e_19, e_21, e_27, e_33, e_35, go_sem, seval]
        refine ACalls.use0 (ref11_Acts_w N _ _ _ _ false _ _ h_38) rfl rfl ?_
        refine ck0 ?_
        simp only [e_2, e_8, e_16, e_19, e_21, e_27, e_33, e_35, go_sem, seval]
        obtain ⟨k_1, g_1⟩ := Prod.mk.inj (Option.some.inj h)
        subst k_1
        obtain ⟨k_2, g_2⟩ := Prod.mk.inj g_1
        subst k_2
        obtain ⟨k_3, g_3⟩ := Prod.mk.inj g_2
        subst k_3
        obtain ⟨k_4, g_4⟩ := Prod.mk.inj g_3
        subst k_4
        subst g_4
        rw [← hQ]
        exact ⟨rfl, _, rfl, _, _, (RefV.trans (RefV.out (v' := .tup [.agg [.vec false (List.map eTSet y_9), .vec true [[.vec false (List.map eTSpan l_4), .bool b_5]], .vec false (List.map eTSet y_28), .vec false (List.map eTAct y_36)], .bool y_37]) (by first | rfl | simp only [go_sem, seval, e_2, e_8, e_16, e_21, e_27, e_33, e_35])) (RefV.weak (Wks.cons (Wk.tup (Wks.cons (Wk.agg (Wks.cons (Wk.refl _) (Wks.cons Wk.vec (Wks.cons (Wk.refl _) (Wks.cons (Wk.refl _) (Wks.nil)))))) (Wks.cons (Wk.refl _) (Wks.nil)))) Wks.nil) (WkH.refl _))), rfl, rfl⟩
     ·
      rw [if_neg h_26] at h
      have e_27 : y_24 = false := bfalse h_26
      simp only [e_2, e_8, e_16, e_19, e_21, e_27, go_sem, seval]
      obtain ⟨k_1, g_1⟩ := Prod.mk.inj (Option.some.inj h)
      subst k_1
      obtain ⟨k_2, g_2⟩ := Prod.mk.inj g_1
      subst k_2
      obtain ⟨k_3, g_3⟩ := Prod.mk.inj g_2
      subst k_3
      obtain ⟨k_4, g_4⟩ := Prod.mk.inj g_3
      subst k_4
      subst g_4
      rw [← hQ]
      exact ⟨rfl, _, rfl, _, _, (RefV.trans (RefV.out (v' := .tup [.agg [.vec false (List.map eTSet y_9), .vec true [[.vec false (List.map eTSpan l_4), .bool b_5]], .vec true [], .vec true []], .bool false]) rfl) (RefV.weak (Wks.cons (Wk.tup (Wks.cons (Wk.agg (Wks.cons (Wk.refl _) (Wks.cons Wk.vec (Wks.cons Wk.vec (Wks.cons Wk.vec (Wks.nil)))))) (Wks.cons (Wk.refl _) (Wks.nil)))) Wks.nil) (WkH.refl _))), rfl, rfl⟩
    ·
     rw [if_neg h_20] at h
     have e_21 : (y_17.length = 0) = False ∧ (0 < y_17.length) = True := ⟨eq_false (fun q => h_20 (List.eq_nil_of_length_eq_zero q)), eq_true (Nat.pos_of_ne_zero (fun q => h_20 (List.eq_nil_of_length_eq_zero q)))⟩
     have e_39 : ((List.map eTSet y_17)).all (fun el => el.length == 2) = true := all_len _ eTSet 2 (fun _ => rfl)
     have e_40 : [[.vec false (List.map eTSpan l_4), .bool b_5]] ++ (List.map eTSet y_17) = (List.map eTSet ([TSet.mk l_4 b_5] ++ y_17)) := app_map ([TSet.mk l_4 b_5]) y_17 eTSet
     obtain ⟨h_41, h⟩ := guardS h
     have e_42 := eq_true h_41
     obtain ⟨⟨y_43, y_44, y_45⟩, h_46, h⟩ := bindS h
     try dsimp only at h
     simp only [e_2, e_8, e_16, e_19, e_21, e_39, e_40, e_42, go_sem, seval]
     refine ACalls.use0 (ref11_Seq_w N _ _ _ _ false _ _ _ h_46) rfl rfl ?_
     refine ck0 ?_
     simp only [e_2, e_8, e_16, e_19, e_21, e_39, e_40, e_42, go_sem, seval]
     by_cases h_47 : y_45 = true
     ·
      rw [if_pos h_47] at h
      have e_48 : y_45 = true := h_47
      obtain ⟨y_49, h_50, h⟩ := bindS h
      simp only [e_2, e_8, e_16, e_19, e_21, e_39, e_40, e_42, e_48, go_sem, seval]
      refine ACalls.use0 (ref11_Sets_w N _ _ _ false false _ h_50) rfl rfl ?_
      refine ck0 ?_
      obtain ⟨y_51, h_52, h⟩ := bindS h
      simp only [e_2, e_8, e_16, e_19, e_21, e_39, e_40, e_42, e_48, go_sem, seval]
      refine ACalls.use0 (ref10_U16_w N _ _ false _ h_52) rfl rfl ?_
      refine ck0 ?_
      simp only [e_2, e_8, e_16, e_19, e_21, e_39, e_40, e_42, e_48, go_sem, seval]
      by_cases h_53 : y_51 < 0
      ·
       rw [if_pos h_53] at h
       have e_54 := eq_true h_53
       simp only [e_2, e_8, e_16, e_19, e_21, e_39, e_40, e_42, e_48, e_54, go_sem, seval]
       obtain ⟨k_1, g_1⟩ := Prod.mk.inj (Option.some.inj h)
       subst k_1
       obtain ⟨k_2, g_2⟩ := Prod.mk.inj g_1
       subst k_2
       obtain ⟨k_3, g_3⟩ := Prod.mk.inj g_2
       subst k_3
       obtain ⟨k_4, g_4⟩ := Prod.mk.inj g_3
       subst k_4
       subst g_4
       rw [← hQ]
       exact ⟨rfl, _, rfl, _, _, (RefV.trans (RefV.frz (Nat.zero_le _) (id := 4) rfl (pures_map ([TSet.mk l_4 b_5] ++ y_17) eTSet (fun _ => rfl))) (RefV.trans (RefV.out (v' := .tup [.agg [.vec false (List.map eTSet y_9), .vec false (List.map eTSet ([TSet.mk l_4 b_5] ++ y_17)), .vec false (List.map eTSet y_49), .vec true []], .bool false]) (by first | rfl | simp only [go_sem, seval, e_2, e_8, e_16, e_21, e_48, e_54])) (RefV.weak (Wks.cons (Wk.tup (Wks.cons (Wk.agg (Wks.cons (Wk.refl _) (Wks.cons (Wk.refl _) (Wks.cons (Wk.refl _) (Wks.cons Wk.vec (Wks.nil)))))) (Wks.cons (Wk.refl _) (Wks.nil)))) Wks.nil) (WkH.refl _)))), rfl, rfl⟩
      ·
       rw [if_neg h_53] at h
       have e_54 := eq_false h_53
       simp only [e_2, e_8, e_16, e_19, e_21, e_39, e_40, e_42, e_48, e_54, go_sem, seval]
       by_cases h_55 : 16 < y_51
       ·
        rw [if_pos h_55] at h
        have e_56 := eq_true h_55
        simp only [e_2, e_8, e_16, e_19, e_21, e_39, e_40, e_42, e_48, e_54, e_56, go_sem, seval]
        obtain ⟨k_1, g_1⟩ := Prod.mk.inj (Option.some.inj h)
        subst k_1
        obtain ⟨k_2, g_2⟩ := Prod.mk.inj g_1
        subst k_2
        obtain ⟨k_3, g_3⟩ := Prod.mk.inj g_2
        subst k_3
        obtain ⟨k_4, g_4⟩ := Prod.mk.inj g_3
        subst k_4
        subst g_4
        rw [← hQ]
        exact ⟨rfl, _, rfl, _, _, (RefV.trans (RefV.frz (Nat.zero_le _) (id := 4) rfl (pures_map ([TSet.mk l_4 b_5] ++ y_17) eTSet (fun _ => rfl))) (RefV.trans (RefV.out (v' := .tup [.agg [.vec false (List.map eTSet y_9), .vec false (List.map eTSet ([TSet.mk l_4 b_5] ++ y_17)), .vec false (List.map eTSet y_49), .vec true []], .bool false]) (by first | rfl | simp only [go_sem, seval, e_2, e_8, e_16, e_21, e_48, e_54, e_56])) (RefV.weak (Wks.cons (Wk.tup (Wks.cons (Wk.agg (Wks.cons (Wk.refl _) (Wks.cons (Wk.refl _) (Wks.cons (Wk.refl _) (Wks.cons Wk.vec (Wks.nil)))))) (Wks.cons (Wk.refl _) (Wks.nil)))) Wks.nil) (WkH.refl _)))), rfl, rfl⟩
       ·
        rw [if_neg h_55] at h
        have e_56 := eq_false h_55
        obtain ⟨⟨y_57, y_58⟩, h_59, h⟩ := bindS h
        try dsimp only at h
        simp only [e_2, e_8, e_16, e_19, e_21, e_39, e_40, e_42, e_48, e_54, e_56, go_sem, seval]
        refine ACalls.use0 (ref11_Acts_w N _ _ _ _ false _ _ h_59) rfl rfl ?_
        refine ck0 ?_
        simp only [e_2, e_8, e_16, e_19, e_21, e_39, e_40, e_42, e_48, e_54, e_56, go_sem, seval]
        obtain ⟨k_1, g_1⟩ := Prod.mk.inj (Option.some.inj h)
        subst k_1
        obtain ⟨k_2, g_2⟩ := Prod.mk.inj g_1
        subst k_2
        obtain ⟨k_3, g_3⟩ := Prod.mk.inj g_2
        subst k_3
        obtain ⟨k_4, g_4⟩ := Prod.mk.inj g_3
        subst k_4
        subst g_4
        rw [← hQ]
        exact ⟨rfl, _, rfl, _, _, (RefV.trans (RefV.frz (Nat.zero_le _) (id := 4) rfl (pures_map ([TSet.mk l_4 b_5] ++ y_17) eTSet (fun _ => rfl))) (RefV.out (by first | rfl | simp only [go_sem, seval, e_2, e_8, e_16, e_21, e_48, e_54, e_56]))), rfl, rfl⟩
     ·
      rw [if_neg h_47] at h
      have e_48 : y_45 = false := bfalse h_47
      simp only [e_2, e_8, e_16, e_19, e_21, e_39, e_40, e_42, e_48, go_sem, seval]
      obtain ⟨k_1, g_1⟩ := Prod.mk.inj (Option.some.inj h)
      subst k_1
      obtain ⟨k_2, g_2⟩ := Prod.mk.inj g_1
      subst k_2
      obtain ⟨k_3, g_3⟩ := Prod.mk.inj g_2
      subst k_3
      obtain ⟨k_4, g_4⟩ := Prod.mk.inj g_3
      subst k_4
      subst g_4
      rw [← hQ]
      exact ⟨rfl, _, rfl, _, _, (RefV.trans (RefV.frz (Nat.zero_le _) (id := 4) rfl (pures_map ([TSet.mk l_4 b_5] ++ y_17) eTSet (fun _ => rfl))) (RefV.trans (RefV.out (v' := .tup [.agg [.vec false (List.map eTSet y_9), .vec false (List.map eTSet ([TSet.mk l_4 b_5] ++ y_17)), .vec true [], .vec true []], .bool false]) (by first | rfl | simp only [go_sem, seval, e_2, e_8, e_16, e_21, e_48])) (RefV.weak (Wks.cons (Wk.tup (Wks.cons (Wk.agg (Wks.cons (Wk.refl _) (Wks.cons (Wk.refl _) (Wks.cons Wk.vec (Wks.cons Wk.vec (Wks.nil)))))) (Wks.cons (Wk.refl _) (Wks.nil)))) Wks.nil) (WkH.refl _)))), rfl, rfl⟩
   ·
    rw [if_neg h_15] at h
    have e_16 : y_13 = false := bfalse h_15
    simp only [e_2, e_8, e_16, go_sem, seval]
    obtain ⟨k_1, g_1⟩ := Prod.mk.inj (Option.some.inj h)
    subst k_1
    obtain ⟨k_2, g_2⟩ := Prod.mk.inj g_1
    subst k_2
    obtain ⟨k_3, g_3⟩ := Prod.mk.inj g_2
    subst k_3
    obtain ⟨k_4, g_4⟩ := Prod.mk.inj g_3
    subst k_4
    subst g_4
    rw [← hQ]
    exact ⟨rfl, _, rfl, _, _, (RefV.trans (RefV.out (v' := .tup [.agg [.vec false (List.map eTSet y_9), .vec true [[.vec false (List.map eTSpan l_4), .bool b_5]], .vec true [], .vec true []], .bool false]) rfl) (RefV.weak (Wks.cons (Wk.tup (Wks.cons (Wk.agg (Wks.cons (Wk.refl _) (Wks.cons Wk.vec (Wks.cons Wk.vec (Wks.cons Wk.vec (Wks.nil)))))) (Wks.cons (Wk.refl _) (Wks.nil)))) Wks.nil) (WkH.refl _))), rfl, rfl⟩
  ·
   rw [if_neg h_7] at h
   have e_8 : y_5 = false := bfalse h_7
   simp only [e_2, e_8, go_sem, seval]
   obtain ⟨k_1, g_1⟩ := Prod.mk.inj (Option.some.inj h)
   subst k_1
   obtain ⟨k_2, g_2⟩ := Prod.mk.inj g_1
   subst k_2
   obtain ⟨k_3, g_3⟩ := Prod.mk.inj g_2
   subst k_3
   obtain ⟨k_4, g_4⟩ := Prod.mk.inj g_3
   subst k_4
   subst g_4
   rw [← hQ]
   exact ⟨rfl, _, rfl, _, _, (RefV.trans (RefV.out (v' := .tup [.agg [.vec true [], .vec true [[.vec false (List.map eTSpan l_4), .bool b_5]], .vec true [], .vec true []], .bool false]) rfl) (RefV.weak (Wks.cons (Wk.tup (Wks.cons (Wk.agg (Wks.cons Wk.vec (Wks.cons Wk.vec (Wks.cons Wk.vec (Wks.cons Wk.vec (Wks.nil)))))) (Wks.cons (Wk.refl _) (Wks.nil)))) Wks.nil) (WkH.refl _))), rfl, rfl⟩
 ·
  rw [if_neg h_1] at h
  have e_2 : b_3 = false := bfalse h_1
  obtain ⟨y_60, h_61, h⟩ := bindS h
  simp only [e_2, go_sem, seval]
  refine ACalls.use0 (ref10_U16_w N _ _ false _ h_61) rfl rfl ?_
  refine ck0 ?_
  obtain ⟨y_62, h_63, h⟩ := bindS h
  simp only [e_2, go_sem, seval]
  refine ACalls.use0 (ref10_U16_w N _ _ false _ h_63) rfl rfl ?_
  refine ck0 ?_
  simp only [e_2, go_sem, seval]
  by_cases h_64 : y_60 < 1
  ·
   rw [if_pos h_64] at h
   have e_65 := eq_true h_64
   simp only [e_2, e_65, go_sem, seval]
   obtain ⟨k_1, g_1⟩ := Prod.mk.inj (Option.some.inj h)
   subst k_1
   obtain ⟨k_2, g_2⟩ := Prod.mk.inj g_1
   subst k_2
   obtain ⟨k_3, g_3⟩ := Prod.mk.inj g_2
   subst k_3
   obtain ⟨k_4, g_4⟩ := Prod.mk.inj g_3
   subst k_4
   subst g_4
   rw [← hQ]
   exact ⟨rfl, _, rfl, _, _, (RefV.trans (RefV.out (v' := .tup [.agg [.vec true [], .vec true [[.vec false (List.map eTSpan l_4), .bool b_5]], .vec true [], .vec true []], .bool false]) rfl) (RefV.weak (Wks.cons (Wk.tup (Wks.cons (Wk.agg (Wks.cons Wk.vec (Wks.cons Wk.vec (Wks.cons Wk.vec (Wks.cons Wk.vec (Wks.nil)))))) (Wks.cons (Wk.refl _) (Wks.nil)))) Wks.nil) (WkH.refl _))), rfl, rfl⟩
  ·
   rw [if_neg h_64] at h
   have e_65 := eq_false h_64
   simp only [e_2, e_65, go_sem, seval]
   by_cases h_66 : 16 < y_60
   ·
    rw [if_pos h_66] at h
    have e_67 := eq_true h_66
    simp only [e_2, e_65, e_67, go_sem, seval]
    obtain ⟨k_1, g_1⟩ := Prod.mk.inj (Option.some.inj h)
    subst k_1
    obtain ⟨k_2, g_2⟩ := Prod.mk.inj g_1
    subst k_2
    obtain ⟨k_3, g_3⟩ := Prod.mk.inj g_2
    subst k_3
    obtain ⟨k_4, g_4⟩ := Prod.mk.inj g_3
    subst k_4
    subst g_4
    rw [← hQ]
    exact ⟨rfl, _, rfl, _, _, (RefV.trans (RefV.out (v' := .tup [.agg [.vec true [], .vec true [[.vec false (List.map eTSpan l_4), .bool b_5]], .vec true [], .vec true []], .bool false]) rfl) (RefV.weak (Wks.cons (Wk.tup (Wks.cons (Wk.agg (Wks.cons Wk.vec (Wks.cons Wk.vec (Wks.cons Wk.vec (Wks.cons Wk.vec (Wks.nil)))))) (Wks.cons (Wk.refl _) (Wks.nil)))) Wks.nil) (WkH.refl _))), rfl, rfl⟩
   ·
    rw [if_neg h_66] at h
    have e_67 := eq_false h_66
    simp only [e_2, e_65, e_67, go_sem, seval]
    by_cases h_68 : y_62 < 0
    ·
     rw [if_pos h_68] at h
     have e_69 := eq_true h_68
     simp only [e_2, e_65, e_67, e_69, go_sem, seval]
     obtain ⟨k_1, g_1⟩ := Prod.mk.inj (Option.some.inj h)
     subst k_1
     obtain ⟨k_2, g_2⟩ := Prod.mk.inj g_1
     subst k_2
     obtain ⟨k_3, g_3⟩ := Prod.mk.inj g_2
     subst k_3
     obtain ⟨k_4, g_4⟩ := Prod.mk.inj g_3
     subst k_4
     subst g_4
     rw [← hQ]
     exact ⟨rfl, _, rfl, _, _, (RefV.trans (RefV.out (v' := .tup [.agg [.vec true [], .vec true [[.vec false (List.map eTSpan l_4), .bool b_5]], .vec true [], .vec true []], .bool false]) rfl) (RefV.weak (Wks.cons (Wk.tup (Wks.cons (Wk.agg (Wks.cons Wk.vec (Wks.cons Wk.vec (Wks.cons Wk.vec (Wks.cons Wk.vec (Wks.nil)))))) (Wks.cons (Wk.refl _) (Wks.nil)))) Wks.nil) (WkH.refl _))), rfl, rfl⟩
    ·
     rw [if_neg h_68] at h
     have e_69 := eq_false h_68
     simp only [e_2, e_65, e_67, e_69, go_sem, seval]
     by_cases h_70 : 16 < y_62
     ·
      rw [if_pos h_70] at h
      have e_71 := eq_true h_70
      simp only [e_2, e_65, e_67, e_69, e_71, go_sem, seval]
      obtain ⟨k_1, g_1⟩ := Prod.mk.inj (Option.some.inj h)
      subst k_1
      obtain ⟨k_2, g_2⟩ := Prod.mk.inj g_1
      subst k_2
      obtain ⟨k_3, g_3⟩ := Prod.mk.inj g_2
      subst k_3
      obtain ⟨k_4, g_4⟩ := Prod.mk.inj g_3
      subst k_4
      subst g_4
      rw [← hQ]
      exact ⟨rfl, _, rfl, _, _, (RefV.trans (RefV.out (v' := .tup [.agg [.vec true [], .vec true [[.vec false (List.map eTSpan l_4), .bool b_5]], .vec true [], .vec true []], .bool false]) rfl) (RefV.weak (Wks.cons (Wk.tup (Wks.cons (Wk.agg (Wks.cons Wk.vec (Wks.cons Wk.vec (Wks.cons Wk.vec (Wks.cons Wk.vec (Wks.nil)))))) (Wks.cons (Wk.refl _) (Wks.nil)))) Wks.nil) (WkH.refl _))), rfl, rfl⟩
     ·
      rw [if_neg h_70] at h
      have e_71 := eq_false h_70
      obtain ⟨⟨y_72, y_73⟩, h_74, h⟩ := bindS h
      try dsimp only at h
      simp only [e_2, e_65, e_67, e_69, e_71, go_sem, seval]
      refine ACalls.use0 (ref11_Row_w N _ _ _ false _ _ h_74) rfl rfl ?_
      refine ck0 ?_
      obtain ⟨⟨y_75, y_76⟩, h_77, h⟩ := bindS h
      try dsimp only at h
      simp only [e_2, e_65, e_67, e_69, e_71, go_sem, seval]
      refine ACalls.use0 (ref11_Acts_w N _ _ _ _ false _ _ h_77) rfl rfl ?_
      refine ck0 ?_
      obtain ⟨y_78, h_79, h⟩ := bindS h
      simp only [e_2, e_65, e_67, e_69, e_71, go_sem, seval]
      refine ACalls.use0 (ref11_Sets_w N _ _ _ false false _ h_79) rfl rfl ?_
      have e_80 : ((List.map eTSet y_78)).all (fun el => el.length == 2) = true := all_len _ eTSet 2 (fun _ => rfl)
      simp only [e_2, e_65, e_67, e_69, e_71, e_80, go_sem, seval]
      by_cases h_81 : y_78 = []
      ·
       rw [if_pos h_81] at h
       have e_82 : y_78 = [] := h_81
       simp only [e_2, e_65, e_67, e_69, e_71, e_80, e_82, go_sem, seval]
       by_cases h_83 : y_73 = true
       ·
        rw [if_pos h_83] at h
        have e_84 : y_73 = true := h_83
        simp only [e_2, e_65, e_67, e_69, e_71, e_80, e_82, e_84, go_sem, seval]
        obtain ⟨k_1, g_1⟩ := Prod.mk.inj (Option.some.inj h)
        subst k_1
        obtain ⟨k_2, g_2⟩ := Prod.mk.inj g_1
        subst k_2
        obtain ⟨k_3, g_3⟩ := Prod.mk.inj g_2
        subst k_3
        obtain ⟨k_4, g_4⟩ := Prod.mk.inj g_3
        subst k_4
        subst g_4
        rw [← hQ]
        exact ⟨rfl, _, rfl, _, _, (RefV.trans (RefV.out (v' := .tup [.agg [.vec true [], .vec true [[.vec false (List.map eTSpan l_4), .bool b_5]], .vec true [], .vec false (List.map eTAct y_75)], .bool y_76]) (by first | rfl | simp only [go_sem, seval, e_2, e_65, e_67, e_69, e_71, e_82, e_84])) (RefV.weak (Wks.cons (Wk.tup (Wks.cons (Wk.agg (Wks.cons Wk.vec (Wks.cons Wk.vec (Wks.cons Wk.vec (Wks.cons (Wk.refl _) (Wks.nil)))))) (Wks.cons (Wk.refl _) (Wks.nil)))) Wks.nil) (WkH.refl _))), rfl, rfl⟩
       ·
        rw [if_neg h_83] at h
        have e_84 : y_73 = false := bfalse h_83
        simp only [e_2, e_65, e_67, e_69, e_71, e_80, e_82, e_84, go_sem, seval]
        obtain ⟨k_1, g_1⟩ := Prod.mk.inj (Option.some.inj h)
        subst k_1
        obtain ⟨k_2, g_2⟩ := Prod.mk.inj g_1
        subst k_2
        obtain ⟨k_3, g_3⟩ := Prod.mk.inj g_2
        subst k_3
        obtain ⟨k_4, g_4⟩ := Prod.mk.inj g_3
        subst k_4
        subst g_4
        rw [← hQ]
        exact ⟨rfl, _, rfl, _, _, (RefV.trans (RefV.out (v' := .tup [.agg [.vec true [], .vec true [[.vec false (List.map eTSpan l_4), .bool b_5]], .vec true [], .vec false (List.map eTAct y_75)], .bool false]) rfl) (RefV.weak (Wks.cons (Wk.tup (Wks.cons (Wk.agg (Wks.cons Wk.vec (Wks.cons Wk.vec (Wks.cons Wk.vec (Wks.cons (Wk.refl _) (Wks.nil)))))) (Wks.cons (Wk.refl _) (Wks.nil)))) Wks.nil) (WkH.refl _))), rfl, rfl⟩
      ·
       rw [if_neg h_81] at h
       have e_82 : (y_78.length = 0) = False ∧ (0 < y_78.length) = True := ⟨eq_false (fun q => h_81 (List.eq_nil_of_length_eq_zero q)), eq_true (Nat.pos_of_ne_zero (fun q => h_81 (List.eq_nil_of_length_eq_zero q)))⟩
       have e_85 : ((List.map eTSet y_78)).all (fun el => el.length == 2) = true := all_len _ eTSet 2 (fun _ => rfl)
       have e_86 : [[.vec false (List.map eTSpan l_4), .bool b_5]] ++ (List.map eTSet y_78) = (List.map eTSet ([TSet.mk l_4 b_5] ++ y_78)) := app_map ([TSet.mk l_4 b_5]) y_78 eTSet
       obtain ⟨h_87, h⟩ := guardS h
       have e_88 := eq_true h_87
       simp only [e_2, e_65, e_67, e_69, e_71, e_80, e_82, e_85, e_86, e_88, go_sem, seval]
       by_cases h_89 : y_73 = true
       ·
        rw [if_pos h_89] at h
        have e_90 : y_73 = true := h_89
        simp only [e_2, e_65, e_67, e_69, e_71, e_80, e_82, e_85, e_86, e_88, e_90, go_sem, seval]
        obtain ⟨k_1, g_1⟩ := Prod.mk.inj (Option.some.inj h)
        subst k_1
        obtain ⟨k_2, g_2⟩ := Prod.mk.inj g_1
        subst k_2
        obtain ⟨k_3, g_3⟩ := Prod.mk.inj g_2
        subst k_3
        obtain ⟨k_4, g_4⟩ := Prod.mk.inj g_3
        subst k_4
        subst g_4
        rw [← hQ]
        exact ⟨rfl, _, rfl, _, _, (RefV.trans (RefV.frz (Nat.zero_le _) (id := 4) rfl (pures_map ([TSet.mk l_4 b_5] ++ y_78) eTSet (fun _ => rfl))) (RefV.trans (RefV.out (v' := .tup [.agg [.vec true [], .vec false (List.map eTSet ([TSet.mk l_4 b_5] ++ y_78)), .vec true [], .vec false (List.map eTAct y_75)], .bool y_76]) (by first | rfl | simp only [go_sem, seval, e_2, e_65, e_67, e_69, e_71, e_82, e_90])) (RefV.weak (Wks.cons (Wk.tup (Wks.cons (Wk.agg (Wks.cons Wk.vec (Wks.cons (Wk.refl _) (Wks.cons Wk.vec (Wks.cons (Wk.refl _) (Wks.nil)))))) (Wks.cons (Wk.refl _) (Wks.nil)))) Wks.nil) (WkH.refl _)))), rfl, rfl⟩
       ·
        rw [if_neg h_89] at h
        have e_90 : y_73 = false := bfalse h_89
        simp only [e_2, e_65, e_67, e_69, e_71, e_80, e_82, e_85, e_86, e_88, e_90, go_sem, seval]
        obtain ⟨k_1, g_1⟩ := Prod.mk.inj (Option.some.inj h)
        subst k_1
        obtain ⟨k_2, g_2⟩ := Prod.mk.inj g_1
        subst k_2
        obtain ⟨k_3, g_3⟩ := Prod.mk.inj g_2
        subst k_3
        obtain ⟨k_4, g_4⟩ := Prod.mk.inj g_3
        subst k_4
        subst g_4
        rw [← hQ]
        exact ⟨rfl, _, rfl, _, _, (RefV.trans (RefV.frz (Nat.zero_le _) (id := 4) rfl (pures_map ([TSet.mk l_4 b_5] ++ y_78) eTSet (fun _ => rfl))) (RefV.trans (RefV.out (v' := .tup [.agg [.vec true [], .vec false (List.map eTSet ([TSet.mk l_4 b_5] ++ y_78)), .vec true [], .vec false (List.map eTAct y_75)], .bool false]) (by first | rfl | simp only [go_sem, seval, e_2, e_65, e_67, e_69, e_71, e_82, e_90])) (RefV.weak (Wks.cons (Wk.tup (Wks.cons (Wk.agg (Wks.cons Wk.vec (Wks.cons (Wk.refl _) (Wks.cons Wk.vec (Wks.cons (Wk.refl _) (Wks.nil)))))) (Wks.cons (Wk.refl _) (Wks.nil)))) Wks.nil) (WkH.refl _)))), rfl, rfl⟩
theorem ref10_Of_L1_w (N : Nat) (l_0 : List TClass) (a_1 : Int) (c_0 : Bool) {R : AExit → ATm → List AObj → Prop} : ∀ (n : Nat) (i_1 : Int) (o : (Unit) ⊕ (Int)), ref10_Of_L1 N l_0 a_1 n i_1 = some o → (match o with | .inl _ => R (.exit 0) ⟨33, [], []⟩ [] | .inr (z_1) => R .ret ⟨33, [(4, .int .i64 z_1)], []⟩ []) →
  ALp Try.prog 0 B30_1 ⟨33, [(0, .vec c_0 (List.map eTClass l_0)), (1, .int .i64 a_1), (5, .int .i64 i_1)], []⟩ [] R := by
 intro n
 induction n with
 | zero =>
  intro i_1 o h _
  have h0 : none = some o := h
  cases h0
 | succ n ih =>
  intro i_1 o h hp
  rw [ref10_Of_L1] at h
  refine ALp.round ?_
  generalize hQ : RoundQ _ _ _ _ = QQ
  simp only [B30_1, A30, go_sem, seval]
  by_cases h_2 : i_1 < (l_0.length : Int)
  ·
   rw [if_pos h_2] at h
   have e_3 := eq_true h_2
   obtain ⟨x_4, h_5, h⟩ := bindS h
   have e_6 : (List.map eTClass l_0)[(i_1).toNat]? = some [.int .i64 x_4.From, .int .i64 x_4.To, .int .i64 x_4.Class] := atI_map eTClass h_5
   have e_7 := eq_true (atI_some h_5).1
   have e_8 := eq_true (atI_lt h_5)
   simp only [e_3, e_6, e_7, e_8, go_sem, seval]
   by_cases h_9 : x_4.From ≤ a_1
   ·
    rw [if_pos h_9] at h
    have e_10 := eq_true h_9
    simp only [e_3, e_6, e_7, e_8, e_10, go_sem, seval]
    by_cases h_11 : a_1 ≤ x_4.To
    ·
     rw [if_pos h_11] at h
     have e_12 := eq_true h_11
     simp only [e_3, e_6, e_7, e_8, e_10, e_12, go_sem, seval]
     have g := Option.some.inj h
     subst g
     rw [← hQ]
     exact ⟨_, _, (Ref.out [4] rfl), hp⟩
    ·
     rw [if_neg h_11] at h
     have e_12 := eq_false h_11
     simp only [e_3, e_6, e_7, e_8, e_10, e_12, go_sem, seval]
     rw [← hQ]
     exact ⟨_, _, (Ref.out [0, 1, 5] rfl), (Nat.zero_le _), ih _ _ h hp⟩
   ·
    rw [if_neg h_9] at h
    have e_10 := eq_false h_9
    simp only [e_3, e_6, e_7, e_8, e_10, go_sem, seval]
    rw [← hQ]
    exact ⟨_, _, (Ref.out [0, 1, 5] rfl), (Nat.zero_le _), ih _ _ h hp⟩
  ·
   rw [if_neg h_2] at h
   have e_3 := eq_false h_2
   simp only [e_3, go_sem, seval]
   have g := Option.some.inj h
   subst g
   rw [← hQ]
   exact ⟨_, _, (Ref.out [] rfl), hp⟩
theorem ref10_Of_w (N : Nat) (l_0 : List TClass) (a_1 : Int) (c_0 : Bool) (z_1 : Int) (h : ref10_Of N l_0 a_1 = some z_1) :
  ACalls Try.prog 30 [.vec c_0 (List.map eTClass l_0), .int .i64 a_1] [] (fun e H => H = [] ∧ e = .ret (.int .i64 z_1)) := by
 unfold ref10_Of at h
 refine ACalls.goN Try.func30 n30 a30 Try.ntmps30 r30 (by simp) 0 rfl ?_
 generalize hQ : bodyA _ _ _ = QQ
 simp only [A30, go_sem, seval]
 obtain ⟨o_1003, h_1001, h⟩ := bindS h
 refine ALp.ref (Ref.out [0, 1, 5] rfl) (Nat.zero_le _) (ref10_Of_L1_w N _ _ c_0 N _ o_1003 h_1001 ?_)
 rcases o_1003 with _ | y_1002
 ·
  try dsimp only at h
  refine LoopK_go rfl (Nat.zero_le _) ?_
  simp only [go_sem, seval]
  have g_0 := Option.some.inj h
  subst g_0
  rw [← hQ]
  exact ⟨rfl, _, rfl, _, _, (RefV.out rfl), rfl, rfl⟩
 ·
  try dsimp only at h
  refine LoopK_ret ?_
  have g_0 := Option.some.inj h
  subst g_0
  rw [← hQ]
  exact ⟨rfl, _, rfl, _, _, (RefV.out rfl), rfl, rfl⟩
theorem ref11_Table_L6_w (N : Nat) (l_0 : List Int) (a_1 : Int) (b_2 : Bool) (y_1 : Int) (y_1025 : Int) (y_2031 : List Int) (i_2038 : Int) (y_2055 : Int) (y_2057 : List Int) (y_1021 : List TClass) (y_1022 : List TClass) (y_1023 : List TClass) (y_2030 : List Int) (x_2050 : Int) (c_0 : Bool) {R : AExit → ATm → List AObj → Prop} : ∀ (n : Nat) (i_2066 : Int) (s_2067 : List TCtx) (o : ((List TCtx)) ⊕ (Unit)), ref11_Table_L6 N l_0 a_1 b_2 y_1 y_1025 y_2031 i_2038 y_2055 y_2057 y_1021 y_1022 y_1023 y_2030 x_2050 n i_2066 s_2067 = some o → (match o with | .inl z_1 => R (.exit 8) ⟨259, [(0, .vec c_0 (List.map eU8 l_0)), (1, .int .i64 a_1), (2, .bool b_2), (8, .int .i64 y_1), (13, .ptr 0 0 0), (18, .int .i64 y_1025), (19, .row 1 0 y_2030.length), (21, .vec false (List.map eI64 y_2031)), (23, .row 2 0 z_1.length), (24, .int .i64 i_2038)], []⟩ [.box [.vec false (List.map eTClass y_1021), .vec false (List.map eTClass y_1022), .vec false (List.map eTClass y_1023)] 100, .mem 1 (List.map eI64 y_2030) 3, .mem 4 (List.map eTCtx z_1) 61] | .inr (_) => R .ret ⟨259, [(6, .vec true []), (7, .bool false)], []⟩ []) →
  ALp Try.prog 0 B38_5 ⟨259, [(0, .vec c_0 (List.map eU8 l_0)), (1, .int .i64 a_1), (2, .bool b_2), (8, .int .i64 y_1), (13, .ptr 0 0 0), (18, .int .i64 y_1025), (19, .row 1 0 y_2030.length), (21, .vec false (List.map eI64 y_2031)), (23, .row 2 0 s_2067.length), (24, .int .i64 i_2038), (25, .ptr 3 0 0), (28, .int .i64 y_2055), (29, .vec false (List.map eI64 y_2057)), (31, .int .i64 i_2066)], []⟩ [.box [.vec false (List.map eTClass y_1021), .vec false (List.map eTClass y_1022), .vec false (List.map eTClass y_1023)] 100, .mem 1 (List.map eI64 y_2030) 3, .mem 4 (List.map eTCtx s_2067) 61, .box [.vec true [[.int .i64 x_2050, .int .i64 x_2050]], .bool false] 36] R := by
 intro n
 induction n with
 | zero =>
  intro i_2066 s_2067 o h _
  have h0 : none = some o := h
  cases h0
 | succ n ih =>
  intro i_2066 s_2067 o h hp
  rw [ref11_Table_L6] at h
  refine ALp.round ?_
  generalize hQ : RoundQ _ _ _ _ = QQ
  simp only [B38_5, B38_3, A38, go_sem, seval]
  by_cases h_2068 : i_2066 < y_2055
  ·
   rw [if_pos h_2068] at h
   have e_2069 := eq_true h_2068
   simp only [e_2069, go_sem, seval]
   refine ⟨?_, ?_⟩
   ·
    obtain ⟨x_2070, h_2071, h⟩ := bindS h
    have e_2072 : (List.map eI64 y_2031)[(i_2038).toNat]? = some [.int .i64 x_2070] := atI_map eI64 h_2071
    have e_2073 := eq_true (atI_some h_2071).1
    have e_2074 := eq_true (atI_lt h_2071)
    obtain ⟨x_2075, h_2076, h⟩ := bindS h
    have e_2077 : (List.map eI64 y_2057)[(i_2066).toNat]? = some [.int .i64 x_2075] := atI_map eI64 h_2076
    have e_2078 := eq_true (atI_some h_2076).1
    have e_2079 := eq_true (atI_lt h_2076)
    obtain ⟨⟨y_2080, y_2081, y_2082, y_2083, y_2084⟩, h_2085, h⟩ := bindS h
    try dsimp only at h
    try simp only [e_2069, e_2072, e_2073, e_2074, e_2077, e_2078, e_2079, go_sem, seval]
    refine ACalls.wk (args' := [.vec false (List.map eU8 l_0), .int .i64 (IntKind.i64.wrap ((IntKind.i64.wrap (a_1 + x_2070)) + x_2075)), .int .i64 y_1, .bool b_2, .agg [.vec false [[.int .i64 x_2050, .int .i64 x_2050]], .bool false], .agg [.vec false (List.map eTClass y_1021), .vec false (List.map eTClass y_1022), .vec false (List.map eTClass y_1023)]]) (Wks.cons Wk.vec (Wks.cons (Wk.refl _) (Wks.cons (Wk.refl _) (Wks.cons (Wk.refl _) (Wks.cons (Wk.agg (Wks.cons Wk.vec (Wks.cons (Wk.refl _) (Wks.nil)))) (Wks.cons (Wk.refl _) (Wks.nil))))))) ?_
    refine ACalls.use0 (ref11_Rule_w N _ _ _ _ _ _ _ _ _ _ _ _ _ _ h_2085) rfl rfl ?_
    simp only [e_2069, e_2072, e_2073, e_2074, e_2077, e_2078, e_2079, go_sem, seval]
    by_cases h_2086 : y_2084 = true
    ·
     rw [if_pos h_2086] at h
     have e_2087 : y_2084 = true := h_2086
     simp only [e_2069, e_2072, e_2073, e_2074, e_2077, e_2078, e_2079, e_2087, go_sem, seval]
     by_cases h_2088 : (s_2067.length : Int) = 64
     ·
      rw [if_pos h_2088] at h
      have e_2089 := eq_true h_2088
      simp only [e_2069, e_2072, e_2073, e_2074, e_2077, e_2078, e_2079, e_2087, e_2089, go_sem, seval]
      have g := Option.some.inj h
      subst g
      rw [← hQ]
      exact ⟨_, _, (Ref.out [6, 7] rfl), hp⟩
     ·
      rw [if_neg h_2088] at h
      have e_2089 := eq_false h_2088
      have e_2090 : List.take s_2067.length (List.map eTCtx s_2067) = (List.map eTCtx s_2067) := List.take_of_length_le (by simp)
      have e_2091 : (List.map eTCtx s_2067) ++ [[.vec false (List.map eTSet y_2080), .vec false (List.map eTSet y_2081), .vec false (List.map eTSet y_2082), .vec false (List.map eTAct y_2083)]] = (List.map eTCtx (s_2067 ++ [TCtx.mk y_2080 y_2081 y_2082 y_2083])) := app_map s_2067 ([TCtx.mk y_2080 y_2081 y_2082 y_2083]) eTCtx
      obtain ⟨h_2092, h⟩ := guardS h
      have e_2093 := eq_true h_2092
      simp only [e_2069, e_2072, e_2073, e_2074, e_2077, e_2078, e_2079, e_2087, e_2089, e_2090, e_2091, e_2093, go_sem, seval]
      rw [← hQ]
      exact ⟨_, _, (Ref.std [0, 1, 2, 8, 13, 18, 19, 21, 23, 24, 25, 28, 29, 31] [0, 1, 5, 3] (by decide) low0 (by first | rfl | simp only [go_sem, seval, e_2069, e_2087, e_2089]) (by first | rfl | simp only [go_sem, seval])), (Nat.zero_le _), ih _ _ _ h hp⟩
    ·
     rw [if_neg h_2086] at h
     have e_2087 : y_2084 = false := bfalse h_2086
     simp only [e_2069, e_2072, e_2073, e_2074, e_2077, e_2078, e_2079, e_2087, go_sem, seval]
     have g := Option.some.inj h
     subst g
     rw [← hQ]
     exact ⟨_, _, (Ref.out [6, 7] rfl), hp⟩
   ·
    obtain ⟨x_2070, h_2071, h⟩ := bindS h
    have e_2072 : (List.map eI64 y_2031)[(i_2038).toNat]? = some [.int .i64 x_2070] := atI_map eI64 h_2071
    have e_2073 := eq_true (atI_some h_2071).1
    have e_2074 := eq_true (atI_lt h_2071)
    obtain ⟨x_2075, h_2076, h⟩ := bindS h
    have e_2077 : (List.map eI64 y_2057)[(i_2066).toNat]? = some [.int .i64 x_2075] := atI_map eI64 h_2076
    have e_2078 := eq_true (atI_some h_2076).1
    have e_2079 := eq_true (atI_lt h_2076)
    obtain ⟨⟨y_2080, y_2081, y_2082, y_2083, y_2084⟩, h_2085, h⟩ := bindS h
    try dsimp only at h
    try simp only [e_2069, e_2072, e_2073, e_2074, e_2077, e_2078, e_2079, go_sem, seval]
    refine ACalls.wk (args' := [.vec false (List.map eU8 l_0), .int .i64 (IntKind.i64.wrap ((IntKind.i64.wrap (a_1 + x_2070)) + x_2075)), .int .i64 y_1, .bool b_2, .agg [.vec false [[.int .i64 x_2050, .int .i64 x_2050]], .bool false], .agg [.vec false (List.map eTClass y_1021), .vec false (List.map eTClass y_1022), .vec false (List.map eTClass y_1023)]]) (Wks.cons Wk.vec (Wks.cons (Wk.refl _) (Wks.cons (Wk.refl _) (Wks.cons (Wk.refl _) (Wks.cons (Wk.agg (Wks.cons Wk.vec (Wks.cons (Wk.refl _) (Wks.nil)))) (Wks.cons (Wk.refl _) (Wks.nil))))))) ?_
    refine ACalls.use0 (ref11_Rule_w N _ _ _ _ _ _ _ _ _ _ _ _ _ _ h_2085) rfl rfl ?_
    simp only [e_2069, e_2072, e_2073, e_2074, e_2077, e_2078, e_2079, go_sem, seval]
    by_cases h_2086 : y_2084 = true
    ·
     rw [if_pos h_2086] at h
     have e_2087 : y_2084 = true := h_2086
     simp only [e_2069, e_2072, e_2073, e_2074, e_2077, e_2078, e_2079, e_2087, go_sem, seval]
     by_cases h_2088 : (s_2067.length : Int) = 64
     ·
      rw [if_pos h_2088] at h
      have e_2089 := eq_true h_2088
      simp only [e_2069, e_2072, e_2073, e_2074, e_2077, e_2078, e_2079, e_2087, e_2089, go_sem, seval]
      have g := Option.some.inj h
      subst g
      rw [← hQ]
      exact ⟨_, _, (Ref.out [6, 7] rfl), hp⟩
     ·
      rw [if_neg h_2088] at h
      have e_2089 := eq_false h_2088
      have e_2090 : List.take s_2067.length (List.map eTCtx s_2067) = (List.map eTCtx s_2067) := List.take_of_length_le (by simp)
      have e_2091 : (List.map eTCtx s_2067) ++ [[.vec false (List.map eTSet y_2080), .vec false (List.map eTSet y_2081), .vec false (List.map eTSet y_2082), .vec false (List.map eTAct y_2083)]] = (List.map eTCtx (s_2067 ++ [TCtx.mk y_2080 y_2081 y_2082 y_2083])) := app_map s_2067 ([TCtx.mk y_2080 y_2081 y_2082 y_2083]) eTCtx
      obtain ⟨h_2092, h⟩ := guardS h
      have e_2093 := eq_true h_2092
      simp only [e_2069, e_2072, e_2073, e_2074, e_2077, e_2078, e_2079, e_2087, e_2089, e_2090, e_2091, e_2093, go_sem, seval]
      rw [← hQ]
      exact ⟨_, _, (Ref.std [0, 1, 2, 8, 13, 18, 19, 21, 23, 24, 25, 28, 29, 31] [0, 1, 5, 3] (by decide) low0 (by first | rfl | simp only [go_sem, seval, e_2069, e_2087, e_2089]) (by first | rfl | simp only [go_sem, seval])), (Nat.zero_le _), ih _ _ _ h hp⟩
    ·
     rw [if_neg h_2086] at h
     have e_2087 : y_2084 = false := bfalse h_2086
     simp only [e_2069, e_2072, e_2073, e_2074, e_2077, e_2078, e_2079, e_2087, go_sem, seval]
     have g := Option.some.inj h
     subst g
     rw [← hQ]
     exact ⟨_, _, (Ref.out [6, 7] rfl), hp⟩
  ·
   rw [if_neg h_2068] at h
   have e_2069 := eq_false h_2068
   simp only [e_2069, go_sem, seval]
   have g := Option.some.inj h
   subst g
   rw [← hQ]
   exact ⟨_, _, (Ref.std [0, 1, 2, 8, 13, 18, 19, 21, 23, 24] [0, 1, 2] (by decide) low0 (by first | rfl | simp only [go_sem, seval, e_2069]) (by first | rfl | simp only [go_sem, seval])), hp⟩
theorem ref11_Table_L8_w (N : Nat) (l_0 : List Int) (a_1 : Int) (b_2 : Bool) (y_1 : Int) (y_1025 : Int) (y_2031 : List Int) (i_2038 : Int) (y_4074 : Int) (y_4076 : List Int) (y_1021 : List TClass) (y_1022 : List TClass) (y_1023 : List TClass) (y_2030 : List Int) (y_4072 : List TSpan) (c_0 : Bool) {R : AExit → ATm → List AObj → Prop} : ∀ (n : Nat) (i_4085 : Int) (s_4086 : List TCtx) (o : ((List TCtx)) ⊕ (Unit)), ref11_Table_L8 N l_0 a_1 b_2 y_1 y_1025 y_2031 i_2038 y_4074 y_4076 y_1021 y_1022 y_1023 y_2030 y_4072 n i_4085 s_4086 = some o → (match o with | .inl z_1 => R (.exit 8) ⟨259, [(0, .vec c_0 (List.map eU8 l_0)), (1, .int .i64 a_1), (2, .bool b_2), (8, .int .i64 y_1), (13, .ptr 0 0 0), (18, .int .i64 y_1025), (19, .row 1 0 y_2030.length), (21, .vec false (List.map eI64 y_2031)), (23, .row 2 0 z_1.length), (24, .int .i64 i_2038)], []⟩ [.box [.vec false (List.map eTClass y_1021), .vec false (List.map eTClass y_1022), .vec false (List.map eTClass y_1023)] 100, .mem 1 (List.map eI64 y_2030) 3, .mem 4 (List.map eTCtx z_1) 61] | .inr (_) => R .ret ⟨259, [(6, .vec true []), (7, .bool false)], []⟩ []) →
  ALp Try.prog 0 B38_5 ⟨259, [(0, .vec c_0 (List.map eU8 l_0)), (1, .int .i64 a_1), (2, .bool b_2), (8, .int .i64 y_1), (13, .ptr 0 0 0), (18, .int .i64 y_1025), (19, .row 1 0 y_2030.length), (21, .vec false (List.map eI64 y_2031)), (23, .row 2 0 s_4086.length), (24, .int .i64 i_2038), (25, .ptr 3 0 0), (28, .int .i64 y_4074), (29, .vec false (List.map eI64 y_4076)), (31, .int .i64 i_4085)], []⟩ [.box [.vec false (List.map eTClass y_1021), .vec false (List.map eTClass y_1022), .vec false (List.map eTClass y_1023)] 100, .mem 1 (List.map eI64 y_2030) 3, .mem 4 (List.map eTCtx s_4086) 61, .box [.vec false (List.map eTSpan y_4072), .bool false] 36] R := by
 intro n
 induction n with
 | zero =>
  intro i_4085 s_4086 o h _
  have h0 : none = some o := h
  cases h0
 | succ n ih =>
  intro i_4085 s_4086 o h hp
  rw [ref11_Table_L8] at h
  refine ALp.round ?_
  generalize hQ : RoundQ _ _ _ _ = QQ
  simp only [B38_5, B38_3, A38, go_sem, seval]
  by_cases h_4087 : i_4085 < y_4074
  ·
   rw [if_pos h_4087] at h
   have e_4088 := eq_true h_4087
   simp only [e_4088, go_sem, seval]
   refine ⟨?_, ?_⟩
   ·
    obtain ⟨x_4089, h_4090, h⟩ := bindS h
    have e_4091 : (List.map eI64 y_2031)[(i_2038).toNat]? = some [.int .i64 x_4089] := atI_map eI64 h_4090
    have e_4092 := eq_true (atI_some h_4090).1
    have e_4093 := eq_true (atI_lt h_4090)
    obtain ⟨x_4094, h_4095, h⟩ := bindS h
    have e_4096 : (List.map eI64 y_4076)[(i_4085).toNat]? = some [.int .i64 x_4094] := atI_map eI64 h_4095
    have e_4097 := eq_true (atI_some h_4095).1
    have e_4098 := eq_true (atI_lt h_4095)
    obtain ⟨⟨y_4099, y_4100, y_4101, y_4102, y_4103⟩, h_4104, h⟩ := bindS h
    try dsimp only at h
    try simp only [e_4088, e_4091, e_4092, e_4093, e_4096, e_4097, e_4098, go_sem, seval]
    refine ACalls.wk (args' := [.vec false (List.map eU8 l_0), .int .i64 (IntKind.i64.wrap ((IntKind.i64.wrap (a_1 + x_4089)) + x_4094)), .int .i64 y_1, .bool b_2, .agg [.vec false (List.map eTSpan y_4072), .bool false], .agg [.vec false (List.map eTClass y_1021), .vec false (List.map eTClass y_1022), .vec false (List.map eTClass y_1023)]]) (Wks.cons Wk.vec (Wks.cons (Wk.refl _) (Wks.cons (Wk.refl _) (Wks.cons (Wk.refl _) (Wks.cons (Wk.refl _) (Wks.cons (Wk.refl _) (Wks.nil))))))) ?_
    refine ACalls.use0 (ref11_Rule_w N _ _ _ _ _ _ _ _ _ _ _ _ _ _ h_4104) rfl rfl ?_
    simp only [e_4088, e_4091, e_4092, e_4093, e_4096, e_4097, e_4098, go_sem, seval]
    by_cases h_4105 : y_4103 = true
    ·
     rw [if_pos h_4105] at h
     have e_4106 : y_4103 = true := h_4105
     simp only [e_4088, e_4091, e_4092, e_4093, e_4096, e_4097, e_4098, e_4106, go_sem, seval]
     by_cases h_4107 : (s_4086.length : Int) = 64
     ·
      rw [if_pos h_4107] at h
      have e_4108 := eq_true h_4107
      simp only [e_4088, e_4091, e_4092, e_4093, e_4096, e_4097, e_4098, e_4106, e_4108, go_sem, seval]
      have g := Option.some.inj h
      subst g
      rw [← hQ]
      exact ⟨_, _, (Ref.out [6, 7] rfl), hp⟩
     ·
      rw [if_neg h_4107] at h
      have e_4108 := eq_false h_4107
      have e_4109 : List.take s_4086.length (List.map eTCtx s_4086) = (List.map eTCtx s_4086) := List.take_of_length_le (by simp)
      have e_4110 : (List.map eTCtx s_4086) ++ [[.vec false (List.map eTSet y_4099), .vec false (List.map eTSet y_4100), .vec false (List.map eTSet y_4101), .vec false (List.map eTAct y_4102)]] = (List.map eTCtx (s_4086 ++ [TCtx.mk y_4099 y_4100 y_4101 y_4102])) := app_map s_4086 ([TCtx.mk y_4099 y_4100 y_4101 y_4102]) eTCtx
      obtain ⟨h_4111, h⟩ := guardS h
      have e_4112 := eq_true h_4111
      simp only [e_4088, e_4091, e_4092, e_4093, e_4096, e_4097, e_4098, e_4106, e_4108, e_4109, e_4110, e_4112, go_sem, seval]
      rw [← hQ]
      exact ⟨_, _, (Ref.std [0, 1, 2, 8, 13, 18, 19, 21, 23, 24, 25, 28, 29, 31] [0, 1, 5, 3] (by decide) low0 (by first | rfl | simp only [go_sem, seval, e_4088, e_4106, e_4108]) (by first | rfl | simp only [go_sem, seval])), (Nat.zero_le _), ih _ _ _ h hp⟩
    ·
     rw [if_neg h_4105] at h
     have e_4106 : y_4103 = false := bfalse h_4105
     simp only [e_4088, e_4091, e_4092, e_4093, e_4096, e_4097, e_4098, e_4106, go_sem, seval]
     have g := Option.some.inj h
     subst g
     rw [← hQ]
     exact ⟨_, _, (Ref.out [6, 7] rfl), hp⟩
   ·
    obtain ⟨x_4089, h_4090, h⟩ := bindS h
    have e_4091 : (List.map eI64 y_2031)[(i_2038).toNat]? = some [.int .i64 x_4089] := atI_map eI64 h_4090
    have e_4092 := eq_true (atI_some h_4090).1
    have e_4093 := eq_true (atI_lt h_4090)
    obtain ⟨x_4094, h_4095, h⟩ := bindS h
    have e_4096 : (List.map eI64 y_4076)[(i_4085).toNat]? = some [.int .i64 x_4094] := atI_map eI64 h_4095
    have e_4097 := eq_true (atI_some h_4095).1
    have e_4098 := eq_true (atI_lt h_4095)
    obtain ⟨⟨y_4099, y_4100, y_4101, y_4102, y_4103⟩, h_4104, h⟩ := bindS h
    try dsimp only at h
    try simp only [e_4088, e_4091, e_4092, e_4093, e_4096, e_4097, e_4098, go_sem, seval]
    refine ACalls.wk (args' := [.vec false (List.map eU8 l_0), .int .i64 (IntKind.i64.wrap ((IntKind.i64.wrap (a_1 + x_4089)) + x_4094)), .int .i64 y_1, .bool b_2, .agg [.vec false (List.map eTSpan y_4072), .bool false], .agg [.vec false (List.map eTClass y_1021), .vec false (List.map eTClass y_1022), .vec false (List.map eTClass y_1023)]]) (Wks.cons Wk.vec (Wks.cons (Wk.refl _) (Wks.cons (Wk.refl _) (Wks.cons (Wk.refl _) (Wks.cons (Wk.refl _) (Wks.cons (Wk.refl _) (Wks.nil))))))) ?_
    refine ACalls.use0 (ref11_Rule_w N _ _ _ _ _ _ _ _ _ _ _ _ _ _ h_4104) rfl rfl ?_
    simp only [e_4088, e_4091, e_4092, e_4093, e_4096, e_4097, e_4098, go_sem, seval]
    by_cases h_4105 : y_4103 = true
    ·
     rw [if_pos h_4105] at h
     have e_4106 : y_4103 = true := h_4105
     simp only [e_4088, e_4091, e_4092, e_4093, e_4096, e_4097, e_4098, e_4106, go_sem, seval]
     by_cases h_4107 : (s_4086.length : Int) = 64
     ·
      rw [if_pos h_4107] at h
      have e_4108 := eq_true h_4107
      simp only [e_4088, e_4091, e_4092, e_4093, e_4096, e_4097, e_4098, e_4106, e_4108, go_sem, seval]
      have g := Option.some.inj h
      subst g
      rw [← hQ]
      exact ⟨_, _, (Ref.out [6, 7] rfl), hp⟩
     ·
      rw [if_neg h_4107] at h
      have e_4108 := eq_false h_4107
      have e_4109 : List.take s_4086.length (List.map eTCtx s_4086) = (List.map eTCtx s_4086) := List.take_of_length_le (by simp)
      have e_4110 : (List.map eTCtx s_4086) ++ [[.vec false (List.map eTSet y_4099), .vec false (List.map eTSet y_4100), .vec false (List.map eTSet y_4101), .vec false (List.map eTAct y_4102)]] = (List.map eTCtx (s_4086 ++ [TCtx.mk y_4099 y_4100 y_4101 y_4102])) := app_map s_4086 ([TCtx.mk y_4099 y_4100 y_4101 y_4102]) eTCtx
      obtain ⟨h_4111, h⟩ := guardS h
      have e_4112 := eq_true h_4111
      simp only [e_4088, e_4091, e_4092, e_4093, e_4096, e_4097, e_4098, e_4106, e_4108, e_4109, e_4110, e_4112, go_sem, seval]
      rw [← hQ]
      exact ⟨_, _, (Ref.std [0, 1, 2, 8, 13, 18, 19, 21, 23, 24, 25, 28, 29, 31] [0, 1, 5, 3] (by decide) low0 (by first | rfl | simp only [go_sem, seval, e_4088, e_4106, e_4108]) (by first | rfl | simp only [go_sem, seval])), (Nat.zero_le _), ih _ _ _ h hp⟩
    ·
     rw [if_neg h_4105] at h
     have e_4106 : y_4103 = false := bfalse h_4105
     simp only [e_4088, e_4091, e_4092, e_4093, e_4096, e_4097, e_4098, e_4106, go_sem, seval]
     have g := Option.some.inj h
     subst g
     rw [← hQ]
     exact ⟨_, _, (Ref.out [6, 7] rfl), hp⟩
  ·
   rw [if_neg h_4087] at h
   have e_4088 := eq_false h_4087
   simp only [e_4088, go_sem, seval]
   have g := Option.some.inj h
   subst g
   rw [← hQ]
   exact ⟨_, _, (Ref.std [0, 1, 2, 8, 13, 18, 19, 21, 23, 24] [0, 1, 2] (by decide) low0 (by first | rfl | simp only [go_sem, seval, e_4088]) (by first | rfl | simp only [go_sem, seval])), hp⟩
theorem ref11_Table_L9_w (N : Nat) (l_0 : List Int) (a_1 : Int) (b_2 : Bool) (y_1 : Int) (y_1025 : Int) (y_2031 : List Int) (i_2038 : Int) (y_1021 : List TClass) (y_1022 : List TClass) (y_1023 : List TClass) (y_2030 : List Int) (s_2039 : List TCtx) (c_0 : Bool) {R : AExit → ATm → List AObj → Prop} : ∀ (n : Nat) (i_3071 : Int) (s_3072 : List Bool) (o : (List Bool)), ref11_Table_L9 N l_0 a_1 b_2 y_1 y_1025 y_2031 i_2038 y_1021 y_1022 y_1023 y_2030 s_2039 n i_3071 s_3072 = some o → (match o with | z_1 => R (.exit 6) ⟨259, [(0, .vec c_0 (List.map eU8 l_0)), (1, .int .i64 a_1), (2, .bool b_2), (8, .int .i64 y_1), (13, .ptr 0 0 0), (18, .int .i64 y_1025), (19, .row 1 0 y_2030.length), (21, .vec false (List.map eI64 y_2031)), (23, .row 2 0 s_2039.length), (24, .int .i64 i_2038), (25, .ptr 3 0 0), (26, .row 4 0 z_1.length)], []⟩ [.box [.vec false (List.map eTClass y_1021), .vec false (List.map eTClass y_1022), .vec false (List.map eTClass y_1023)] 100, .mem 1 (List.map eI64 y_2030) 3, .mem 4 (List.map eTCtx s_2039) 61, .box [.vec true [], .bool false] 36, .mem 1 (List.map eB z_1) 4]) →
  ALp Try.prog 0 B38_4 ⟨259, [(0, .vec c_0 (List.map eU8 l_0)), (1, .int .i64 a_1), (2, .bool b_2), (8, .int .i64 y_1), (13, .ptr 0 0 0), (18, .int .i64 y_1025), (19, .row 1 0 y_2030.length), (21, .vec false (List.map eI64 y_2031)), (23, .row 2 0 s_2039.length), (24, .int .i64 i_2038), (25, .ptr 3 0 0), (26, .row 4 0 s_3072.length), (27, .int .i64 i_3071)], []⟩ [.box [.vec false (List.map eTClass y_1021), .vec false (List.map eTClass y_1022), .vec false (List.map eTClass y_1023)] 100, .mem 1 (List.map eI64 y_2030) 3, .mem 4 (List.map eTCtx s_2039) 61, .box [.vec true [], .bool false] 36, .mem 1 (List.map eB s_3072) 4] R := by
 intro n
 induction n with
 | zero =>
  intro i_3071 s_3072 o h _
  have h0 : none = some o := h
  cases h0
 | succ n ih =>
  intro i_3071 s_3072 o h hp
  rw [ref11_Table_L9] at h
  refine ALp.round ?_
  generalize hQ : RoundQ _ _ _ _ = QQ
  simp only [B38_4, B38_3, A38, go_sem, seval]
  by_cases h_3073 : i_3071 < (y_2030.length : Int)
  ·
   rw [if_pos h_3073] at h
   have e_3074 := eq_true h_3073
   obtain ⟨x_3075, h_3076, h⟩ := bindS h
   have e_3077 : (List.map eI64 y_2030)[(i_3071).toNat]? = some [.int .i64 x_3075] := atI_map eI64 h_3076
   have e_3078 := eq_true (atI_some h_3076).1
   have e_3079 := eq_true (atI_lt h_3076)
   obtain ⟨y_3080, h_3081, h⟩ := bindS h
   simp only [e_3074, e_3077, e_3078, e_3079, go_sem, seval]
   refine ACalls.use0 (ref10_Of_w N _ _ false _ h_3081) rfl rfl ?_
   obtain ⟨x_3082, h_3083, h⟩ := bindS h
   have e_3084 : (List.map eB s_3072)[(x_3075).toNat]? = some [.bool x_3082] := atI_map eB h_3083
   have e_3085 := eq_true (atI_some h_3083).1
   have e_3086 := eq_true (atI_lt h_3083)
   have e_3087 : (List.map eB s_3072).set (x_3075).toNat [.bool (decide (y_3080 = i_2038))] = List.map eB (List.set s_3072 (x_3075).toNat (decide (y_3080 = i_2038))) := set_map s_3072 eB (x_3075).toNat (decide (y_3080 = i_2038))
   simp only [e_3074, e_3077, e_3078, e_3079, e_3084, e_3085, e_3086, e_3087, go_sem, seval]
   rw [← hQ]
   exact ⟨_, _, (Ref.std [0, 1, 2, 8, 13, 18, 19, 21, 23, 24, 25, 26, 27] [0, 1, 2, 3, 4] (by decide) low0 (by first | rfl | simp only [go_sem, seval, e_3074]) (by first | rfl | simp only [go_sem, seval])), (Nat.zero_le _), ih _ _ _ h hp⟩
  ·
   rw [if_neg h_3073] at h
   have e_3074 := eq_false h_3073
   simp only [e_3074, go_sem, seval]
   have g := Option.some.inj h
   subst g
   rw [← hQ]
   exact ⟨_, _, (Ref.std [0, 1, 2, 8, 13, 18, 19, 21, 23, 24, 25, 26] [0, 1, 2, 3, 4] (by decide) low0 (by first | rfl | simp only [go_sem, seval, e_3074]) (by first | rfl | simp only [go_sem, seval])), hp⟩
theorem ref11_Table_L10_w (N : Nat) (l_0 : List Int) (a_1 : Int) (b_2 : Bool) (y_1 : Int) (y_1025 : Int) (y_2031 : List Int) (y_1021 : List TClass) (y_1022 : List TClass) (y_1023 : List TClass) (y_2030 : List Int) (c_0 : Bool) {R : AExit → ATm → List AObj → Prop} : ∀ (n : Nat) (i_2038 : Int) (s_2039 : List TCtx) (o : ((List TCtx)) ⊕ (Unit)), ref11_Table_L10 N l_0 a_1 b_2 y_1 y_1025 y_2031 y_1021 y_1022 y_1023 y_2030 n i_2038 s_2039 = some o → (match o with | .inl z_1 => R (.exit 4) ⟨259, [(23, .row 0 0 z_1.length)], []⟩ [.mem 4 (List.map eTCtx z_1) 61] | .inr (_) => R .ret ⟨259, [(6, .vec true []), (7, .bool false)], []⟩ []) →
  ALp Try.prog 0 B38_3 ⟨259, [(0, .vec c_0 (List.map eU8 l_0)), (1, .int .i64 a_1), (2, .bool b_2), (8, .int .i64 y_1), (13, .ptr 0 0 0), (18, .int .i64 y_1025), (19, .row 1 0 y_2030.length), (21, .vec false (List.map eI64 y_2031)), (23, .row 2 0 s_2039.length), (24, .int .i64 i_2038)], []⟩ [.box [.vec false (List.map eTClass y_1021), .vec false (List.map eTClass y_1022), .vec false (List.map eTClass y_1023)] 100, .mem 1 (List.map eI64 y_2030) 3, .mem 4 (List.map eTCtx s_2039) 61] R := by
 intro n
 induction n with
 | zero =>
  intro i_2038 s_2039 o h _
  have h0 : none = some o := h
  cases h0
 | succ n ih =>
  intro i_2038 s_2039 o h hp
  rw [ref11_Table_L10] at h
  refine ALp.round ?_
  generalize hQ : RoundQ _ _ _ _ = QQ
  simp only [B38_3, A38, go_sem, seval, -List.reduceReplicate]
  by_cases h_2040 : i_2038 < y_1025
  ·
   rw [if_pos h_2040] at h
   have e_2041 := eq_true h_2040
   obtain ⟨x_2042, h_2043, h⟩ := bindS h
   have e_2044 : (List.map eI64 y_2031)[(i_2038).toNat]? = some [.int .i64 x_2042] := atI_map eI64 h_2043
   have e_2045 := eq_true (atI_some h_2043).1
   have e_2046 := eq_true (atI_lt h_2043)
   simp only [e_2041, e_2044, e_2045, e_2046, go_sem, seval, -List.reduceReplicate]
   by_cases h_2047 : x_2042 = 0
   ·
    rw [if_pos h_2047] at h
    have e_2048 := eq_true h_2047
    simp only [e_2041, e_2044, e_2045, e_2046, e_2048, go_sem, seval, -List.reduceReplicate]
    rw [← hQ]
    exact ⟨_, _, (Ref.std [0, 1, 2, 8, 13, 18, 19, 21, 23, 24] [0, 1, 2] (by decide) low0 (by first | rfl | simp only [go_sem, seval, -List.reduceReplicate, e_2041, e_2048]) (by first | rfl | simp only [go_sem, seval, -List.reduceReplicate])), (Nat.zero_le _), ih _ _ _ h hp⟩
   ·
    rw [if_neg h_2047] at h
    have e_2048 := eq_false h_2047
    simp only [e_2041, e_2044, e_2045, e_2046, e_2048, go_sem, seval, -List.reduceReplicate]
    by_cases h_2049 : y_1 = 1
    ·
     rw [if_pos h_2049] at h
     have e_2050 := eq_true h_2049
     obtain ⟨x_2051, h_2052, h⟩ := bindS h
     have e_2053 : (List.map eI64 y_2030)[(i_2038).toNat]? = some [.int .i64 x_2051] := atI_map eI64 h_2052
     have e_2054 := eq_true (atI_some h_2052).1
     have e_2055 := eq_true (atI_lt h_2052)
     obtain ⟨y_2056, h_2057, h⟩ := bindS h
     simp only [e_2041, e_2044, e_2045, e_2046, e_2048, e_2050, e_2053, e_2054, e_2055, go_sem, seval, -List.reduceReplicate]
     refine ACalls.use0 (ref10_U16_w N _ _ c_0 _ h_2057) rfl rfl ?_
     refine ck0 ?_
     obtain ⟨⟨y_2058, y_2059⟩, h_2060, h⟩ := bindS h
     try dsimp only at h
     simp only [e_2041, e_2044, e_2045, e_2046, e_2048, e_2050, e_2053, e_2054, e_2055, go_sem, seval, -List.reduceReplicate]
     refine ACalls.use0 (ref11_Row_w N _ _ _ c_0 _ _ h_2060) rfl rfl ?_
     refine ck0 ?_
     simp only [e_2041, e_2044, e_2045, e_2046, e_2048, e_2050, e_2053, e_2054, e_2055, go_sem, seval, -List.reduceReplicate]
     by_cases h_2061 : y_2056 < 0
     ·
      rw [if_pos h_2061] at h
      have e_2062 := eq_true h_2061
      simp only [e_2041, e_2044, e_2045, e_2046, e_2048, e_2050, e_2053, e_2054, e_2055, e_2062, go_sem, seval, -List.reduceReplicate]
      have g := Option.some.inj h
      subst g
      rw [← hQ]
      exact ⟨_, _, (Ref.out [6, 7] rfl), hp⟩
     ·
      rw [if_neg h_2061] at h
      have e_2062 := eq_false h_2061
      simp only [e_2041, e_2044, e_2045, e_2046, e_2048, e_2050, e_2053, e_2054, e_2055, e_2062, go_sem, seval, -List.reduceReplicate]
      by_cases h_2063 : 64 < y_2056
      ·
       rw [if_pos h_2063] at h
       have e_2064 := eq_true h_2063
       simp only [e_2041, e_2044, e_2045, e_2046, e_2048, e_2050, e_2053, e_2054, e_2055, e_2062, e_2064, go_sem, seval, -List.reduceReplicate]
       have g := Option.some.inj h
       subst g
       rw [← hQ]
       exact ⟨_, _, (Ref.out [6, 7] rfl), hp⟩
      ·
       rw [if_neg h_2063] at h
       have e_2064 := eq_false h_2063
       simp only [e_2041, e_2044, e_2045, e_2046, e_2048, e_2050, e_2053, e_2054, e_2055, e_2062, e_2064, go_sem, seval, -List.reduceReplicate]
       by_cases h_2065 : y_2059 = true
       ·
        rw [if_pos h_2065] at h
        have e_2066 : y_2059 = true := h_2065
        simp only [e_2041, e_2044, e_2045, e_2046, e_2048, e_2050, e_2053, e_2054, e_2055, e_2062, e_2064, e_2066, go_sem, seval, -List.reduceReplicate]
        obtain ⟨o_3069, h_3067, h⟩ := bindS h
        refine ALp.ref (Ref.std [0, 1, 2, 8, 13, 18, 19, 21, 23, 24, 25, 28, 29, 31] [0, 1, 2, 3] (by decide) low0 (by first | rfl | simp only [go_sem, seval, -List.reduceReplicate, e_2041, e_2048, e_2050, e_2062, e_2064, e_2066]) (by first | rfl | simp only [go_sem, seval, -List.reduceReplicate])) (Nat.zero_le _) (ref11_Table_L6_w N _ _ _ _ _ _ _ _ _ _ _ _ _ _ c_0 N _ _ o_3069 h_3067 ?_)
        rcases o_3069 with y_3068 | _
        ·
         try dsimp only at h
         refine LoopK_go rfl (Nat.zero_le _) ?_
         simp only [e_2041, e_2044, e_2045, e_2046, e_2048, e_2050, e_2053, e_2054, e_2055, e_2062, e_2064, e_2066, go_sem, seval, -List.reduceReplicate]
         rw [← hQ]
         exact ⟨_, _, (Ref.std [0, 1, 2, 8, 13, 18, 19, 21, 23, 24] [0, 1, 2] (by decide) low0 (by first | rfl | simp only [go_sem, seval, -List.reduceReplicate, e_2041, e_2048, e_2050, e_2062, e_2064, e_2066]) (by first | rfl | simp only [go_sem, seval, -List.reduceReplicate])), (Nat.zero_le _), ih _ _ _ h hp⟩
        ·
         try dsimp only at h
         refine LoopK_ret ?_
         have g := Option.some.inj h
         subst g
         rw [← hQ]
         exact ⟨_, _, (Ref.out [6, 7] rfl), hp⟩
       ·
        rw [if_neg h_2065] at h
        have e_2066 : y_2059 = false := bfalse h_2065
        simp only [e_2041, e_2044, e_2045, e_2046, e_2048, e_2050, e_2053, e_2054, e_2055, e_2062, e_2064, e_2066, go_sem, seval, -List.reduceReplicate]
        have g := Option.some.inj h
        subst g
        rw [← hQ]
        exact ⟨_, _, (Ref.out [6, 7] rfl), hp⟩
    ·
     rw [if_neg h_2049] at h
     have e_2050 := eq_false h_2049
     have e_3070 : List.replicate 65536 [.bool false] = List.map eB (List.replicate 65536 false) := rep_map _ eB false
     simp only [e_2041, e_2044, e_2045, e_2046, e_2048, e_2050, e_3070, go_sem, seval, -List.reduceReplicate]
     obtain ⟨y_4072, h_4071, h⟩ := bindS h
     refine ALp.ref (Ref.std [0, 1, 2, 8, 13, 18, 19, 21, 23, 24, 25, 26, 27] [0, 1, 2, 3, 4] (by decide) low0 (by simp only [go_sem, seval, -List.reduceReplicate, e_2041, e_2048, e_2050]) (by simp only [go_sem, seval, -List.reduceReplicate])) (Nat.zero_le _) (ref11_Table_L9_w N _ _ _ _ _ _ _ _ _ _ _ _ c_0 N _ _ y_4072 h_4071 ?_)
     refine LoopK_go rfl (Nat.zero_le _) ?_
     obtain ⟨y_4073, h_4074, h⟩ := bindS h
     simp only [e_2041, e_2044, e_2045, e_2046, e_2048, e_2050, e_3070, go_sem, seval, -List.reduceReplicate]
     refine ACalls.useA (ref10_Spans_row_w N _ _ h_4074) [4] (v' := .vec false (List.map eTSpan y_4073)) (H' := [.box [.vec false (List.map eTClass y_1021), .vec false (List.map eTClass y_1022), .vec false (List.map eTClass y_1023)] 100, .mem 1 (List.map eI64 y_2030) 3, .mem 4 (List.map eTCtx s_2039) 61, .box [.vec true [], .bool false] 36, .mem 1 (List.map eB y_4072) 4]) (hH := by simp only [go_sem, seval, -List.reduceReplicate, e_2041, e_2048, e_2050]) (ho := ⟨(by first | rfl | simp only [go_sem, seval, -List.reduceReplicate, e_2041, e_2048, e_2050]), trivial⟩) ?_
     refine ck0 ?_
     obtain ⟨y_4075, h_4076, h⟩ := bindS h
     simp only [e_2041, e_2044, e_2045, e_2046, e_2048, e_2050, e_3070, go_sem, seval, -List.reduceReplicate]
     refine ACalls.use0 (ref10_U16_w N _ _ c_0 _ h_4076) rfl rfl ?_
     refine ck0 ?_
     obtain ⟨⟨y_4077, y_4078⟩, h_4079, h⟩ := bindS h
     try dsimp only at h
     simp only [e_2041, e_2044, e_2045, e_2046, e_2048, e_2050, e_3070, go_sem, seval, -List.reduceReplicate]
     refine ACalls.use0 (ref11_Row_w N _ _ _ c_0 _ _ h_4079) rfl rfl ?_
     refine ck0 ?_
     simp only [e_2041, e_2044, e_2045, e_2046, e_2048, e_2050, e_3070, go_sem, seval, -List.reduceReplicate]
     by_cases h_4080 : y_4075 < 0
     ·
      rw [if_pos h_4080] at h
      have e_4081 := eq_true h_4080
      simp only [e_2041, e_2044, e_2045, e_2046, e_2048, e_2050, e_3070, e_4081, go_sem, seval, -List.reduceReplicate]
      have g := Option.some.inj h
      subst g
      rw [← hQ]
      exact ⟨_, _, (Ref.out [6, 7] rfl), hp⟩
     ·
      rw [if_neg h_4080] at h
      have e_4081 := eq_false h_4080
      simp only [e_2041, e_2044, e_2045, e_2046, e_2048, e_2050, e_3070, e_4081, go_sem, seval, -List.reduceReplicate]
      by_cases h_4082 : 64 < y_4075
      ·
       rw [if_pos h_4082] at h
       have e_4083 := eq_true h_4082
       simp only [e_2041, e_2044, e_2045, e_2046, e_2048, e_2050, e_3070, e_4081, e_4083, go_sem, seval, -List.reduceReplicate]
       have g := Option.some.inj h
       subst g
       rw [← hQ]
       exact ⟨_, _, (Ref.out [6, 7] rfl), hp⟩
      ·
       rw [if_neg h_4082] at h
       have e_4083 := eq_false h_4082
       simp only [e_2041, e_2044, e_2045, e_2046, e_2048, e_2050, e_3070, e_4081, e_4083, go_sem, seval, -List.reduceReplicate]
       by_cases h_4084 : y_4078 = true
       ·
        rw [if_pos h_4084] at h
        have e_4085 : y_4078 = true := h_4084
        simp only [e_2041, e_2044, e_2045, e_2046, e_2048, e_2050, e_3070, e_4081, e_4083, e_4085, go_sem, seval, -List.reduceReplicate]
        obtain ⟨o_5088, h_5086, h⟩ := bindS h
        refine ALp.ref (Ref.std [0, 1, 2, 8, 13, 18, 19, 21, 23, 24, 25, 28, 29, 31] [0, 1, 2, 3] (by decide) low0 (by first | rfl | simp only [go_sem, seval, -List.reduceReplicate, e_2041, e_2048, e_2050, e_4081, e_4083, e_4085]) (by first | rfl | simp only [go_sem, seval, -List.reduceReplicate])) (Nat.zero_le _) (ref11_Table_L8_w N _ _ _ _ _ _ _ _ _ _ _ _ _ _ c_0 N _ _ o_5088 h_5086 ?_)
        rcases o_5088 with y_5087 | _
        ·
         try dsimp only at h
         refine LoopK_go rfl (Nat.zero_le _) ?_
         simp only [e_2041, e_2044, e_2045, e_2046, e_2048, e_2050, e_3070, e_4081, e_4083, e_4085, go_sem, seval, -List.reduceReplicate]
         rw [← hQ]
         exact ⟨_, _, (Ref.std [0, 1, 2, 8, 13, 18, 19, 21, 23, 24] [0, 1, 2] (by decide) low0 (by first | rfl | simp only [go_sem, seval, -List.reduceReplicate, e_2041, e_2048, e_2050, e_4081, e_4083, e_4085]) (by first | rfl | simp only [go_sem, seval, -List.reduceReplicate])), (Nat.zero_le _), ih _ _ _ h hp⟩
        ·
         try dsimp only at h
         refine LoopK_ret ?_
         have g := Option.some.inj h
         subst g
         rw [← hQ]
         exact ⟨_, _, (Ref.out [6, 7] rfl), hp⟩
       ·
        rw [if_neg h_4084] at h
        have e_4085 : y_4078 = false := bfalse h_4084
        simp only [e_2041, e_2044, e_2045, e_2046, e_2048, e_2050, e_3070, e_4081, e_4083, e_4085, go_sem, seval, -List.reduceReplicate]
        have g := Option.some.inj h
        subst g
        rw [← hQ]
        exact ⟨_, _, (Ref.out [6, 7] rfl), hp⟩
  ·
   rw [if_neg h_2040] at h
   have e_2041 := eq_false h_2040
   simp only [e_2041, go_sem, seval, -List.reduceReplicate]
   have g := Option.some.inj h
   subst g
   rw [← hQ]
   exact ⟨_, _, (Ref.std [23] [2] (by decide) low0 rfl (by first | rfl | simp only [go_sem, seval, -List.reduceReplicate])), hp⟩
theorem ref11_Table_w (N : Nat) (l_0 : List Int) (a_1 : Int) (b_2 : Bool) (c_0 : Bool) (z_1 : List TCtx) (z_2 : Bool) (h : ref11_Table N l_0 a_1 b_2 = some (z_1, z_2)) :
  ACalls Try.prog 38 [.vec c_0 (List.map eU8 l_0), .int .i64 a_1, .bool b_2] [] (fun e H => H = [] ∧ e = .ret (.tup [.vec false (List.map eTCtx z_1), .bool z_2])) := by
 unfold ref11_Table at h
 refine ACalls.goN Try.func38 n38 a38 Try.ntmps38 r38 (by simp) 0 rfl ?_
 generalize hQ : bodyA _ _ _ = QQ
 obtain ⟨y_1, h_2, h⟩ := bindS h
 simp only [A38, go_sem, seval]
 refine ACalls.use0 (ref10_U16_w N _ _ c_0 _ h_2) rfl rfl ?_
 refine ck0 ?_
 simp only [go_sem, seval]
 by_cases h_3 : y_1 = 3
 ·
  rw [if_pos h_3] at h
  have e_4 := eq_true h_3
  obtain ⟨⟨y_5, y_6⟩, h_7, h⟩ := bindS h
  try dsimp only at h
  simp only [e_4, go_sem, seval]
  refine ACalls.use0 (ref11_Third_w N _ _ _ c_0 _ _ h_7) rfl rfl ?_
  refine ck0 ?_
  simp only [e_4, go_sem, seval]
  obtain ⟨k_1, g_1⟩ := Prod.mk.inj (Option.some.inj h)
  subst k_1
  subst g_1
  rw [← hQ]
  exact ⟨rfl, _, rfl, _, _, (RefV.out (by first | rfl | simp only [go_sem, seval, e_4])), rfl, rfl⟩
 ·
  rw [if_neg h_3] at h
  have e_4 := eq_false h_3
  obtain ⟨y_8, h_9, h⟩ := bindS h
  simp only [e_4, go_sem, seval]
  refine ACalls.use0 (ref10_U16_w N _ _ c_0 _ h_9) rfl rfl ?_
  refine ck0 ?_
  simp only [e_4, go_sem, seval]
  by_cases h_10 : y_1 = 1
  ·
   rw [if_pos h_10] at h
   have e_11 := eq_true h_10
   simp only [e_4, e_11, go_sem, seval]
   by_cases h_12 : y_8 < 0
   ·
    rw [if_pos h_12] at h
    have e_13 := eq_true h_12
    simp only [e_4, e_11, e_13, go_sem, seval]
    obtain ⟨k_1, g_1⟩ := Prod.mk.inj (Option.some.inj h)
    subst k_1
    subst g_1
    rw [← hQ]
    exact ⟨rfl, _, rfl, _, _, outVB, rfl, rfl⟩
   ·
    rw [if_neg h_12] at h
    have e_13 := eq_false h_12
    obtain ⟨⟨y_14, y_15⟩, h_16, h⟩ := bindS h
    try dsimp only at h
    simp only [e_4, e_11, e_13, go_sem, seval]
    refine ACalls.use0 (ref10_Table_w N _ _ _ c_0 _ _ h_16) rfl rfl ?_
    refine ck0 ?_
    simp only [e_4, e_11, e_13, go_sem, seval]
    by_cases h_17 : y_15 = true
    ·
     rw [if_pos h_17] at h
     have e_18 : y_15 = true := h_17
     simp only [e_4, e_11, e_13, e_18, go_sem, seval]
     obtain ⟨o_1024, h_1019, h⟩ := bindS h
     refine ALp.ref (Ref.trans (Ref.std (l' := [(0, .vec c_0 (List.map eU8 l_0)), (1, .int .i64 a_1), (2, .bool b_2), (8, .int .i64 y_1), (10, .vec false (List.map eI64 y_14)), (12, .int .i64 (IntKind.i64.wrap (a_1 + 4))), (13, .ptr 0 0 0), (14, .int .i64 0)]) (H' := [.box [.vec true [], .vec true [], .vec true []] 100]) [0, 1, 2, 8, 10, 12, 13, 14] [0] (by decide) low0 (by first | rfl | simp only [go_sem, seval, e_4, e_11, e_13, e_18]) rfl) (Ref.weak (WkT.cons (Wk.refl _) (WkT.cons (Wk.refl _) (WkT.cons (Wk.refl _) (WkT.cons (Wk.refl _) (WkT.cons (Wk.refl _) (WkT.cons (Wk.refl _) (WkT.cons (Wk.refl _) (WkT.cons (Wk.refl _) (WkT.nil))))))))) (WkH.cons (WkO.bx (Wks.cons Wk.vec (Wks.cons Wk.vec (Wks.cons Wk.vec (Wks.nil))))) (WkH.nil)))) (Nat.zero_le _) (ref11_Table_L1_w N _ _ _ _ _ c_0 N _ _ _ _ _ o_1024 h_1019 ?_)
     rcases o_1024 with ⟨y_1020, y_1021, y_1022, y_1023⟩ | _
     ·
      try dsimp only at h
      refine LoopK_go rfl (Nat.zero_le _) ?_
      obtain ⟨y_1025, h_1026, h⟩ := bindS h
      simp only [e_4, e_11, e_13, e_18, go_sem, seval]
      refine ACalls.use0 (ref10_U16_w N _ _ c_0 _ h_1026) rfl rfl ?_
      refine ck0 ?_
      simp only [e_4, e_11, e_13, e_18, go_sem, seval]
      by_cases h_1027 : y_1025 < 0
      ·
       rw [if_pos h_1027] at h
       have e_1028 := eq_true h_1027
       simp only [e_4, e_11, e_13, e_18, e_1028, go_sem, seval]
       obtain ⟨k_1, g_1⟩ := Prod.mk.inj (Option.some.inj h)
       subst k_1
       subst g_1
       rw [← hQ]
       exact ⟨rfl, _, rfl, _, _, outVB, rfl, rfl⟩
      ·
       rw [if_neg h_1027] at h
       have e_1028 := eq_false h_1027
       simp only [e_4, e_11, e_13, e_18, e_1028, go_sem, seval]
       obtain ⟨y_2030, h_2029, h⟩ := bindS h
       refine ALp.ref (Ref.trans (Ref.thaw (Nat.zero_le _) 19 rfl (sz := 1) (by decide) 3) (Ref.std [0, 1, 2, 8, 10, 12, 13, 18, 19, 20] [0, 1] (by decide) low0 (by first | rfl | simp only [go_sem, seval, e_4, e_11, e_13, e_18, e_1028]) (by first | rfl | simp only [go_sem, seval]))) (Nat.zero_le _) (ref11_Table_L2_w N _ _ _ _ _ _ _ _ _ _ c_0 N _ _ y_2030 h_2029 ?_)
       refine LoopK_go rfl (Nat.zero_le _) ?_
       obtain ⟨⟨y_2031, y_2032⟩, h_2033, h⟩ := bindS h
       try dsimp only at h
       simp only [e_4, e_11, e_13, e_18, e_1028, go_sem, seval]
       refine ACalls.use0 (ref11_Row_w N _ _ _ c_0 _ _ h_2033) rfl rfl ?_
       refine ck0 ?_
       simp only [e_4, e_11, e_13, e_18, e_1028, go_sem, seval]
       by_cases h_2034 : y_2032 = true
       ·
        rw [if_pos h_2034] at h
        have e_2035 : y_2032 = true := h_2034
        simp only [e_4, e_11, e_13, e_18, e_1028, e_2035, go_sem, seval]
        by_cases h_2036 : y_1025 = (y_2030.length : Int)
        ·
         rw [if_pos h_2036] at h
         have e_2037 := eq_true h_2036
         simp only [e_4, e_11, e_13, e_18, e_1028, e_2035, e_2037, go_sem, seval]
         obtain ⟨o_3040, h_3038, h⟩ := bindS h
         refine ALp.ref (Ref.trans (Ref.thaw (Nat.zero_le _) 23 rfl (sz := 4) (by decide) 61) (Ref.std [0, 1, 2, 8, 13, 18, 19, 21, 23, 24] [0, 1, 2] (by decide) low0 (by first | rfl | simp only [go_sem, seval, e_4, e_11, e_13, e_18, e_1028, e_2035, e_2037]) (by first | rfl | simp only [go_sem, seval]))) (Nat.zero_le _) (ref11_Table_L10_w N _ _ _ _ _ _ _ _ _ _ c_0 N _ _ o_3040 h_3038 ?_)
         rcases o_3040 with y_3039 | _
         ·
          try dsimp only at h
          refine LoopK_go rfl (Nat.zero_le _) ?_
          simp only [e_4, e_11, e_13, e_18, e_1028, e_2035, e_2037, go_sem, seval]
          obtain ⟨k_1, g_1⟩ := Prod.mk.inj (Option.some.inj h)
          subst k_1
          subst g_1
          rw [← hQ]
          exact ⟨rfl, _, rfl, _, _, (RefV.trans (RefV.frz (Nat.zero_le _) (id := 0) rfl (pures_map y_3039 eTCtx (fun _ => rfl))) (RefV.out (by first | rfl | simp only [go_sem, seval, e_4, e_11, e_13, e_18, e_1028, e_2035, e_2037]))), rfl, rfl⟩
         ·
          try dsimp only at h
          refine LoopK_ret ?_
          obtain ⟨k_1, g_1⟩ := Prod.mk.inj (Option.some.inj h)
          subst k_1
          subst g_1
          rw [← hQ]
          exact ⟨rfl, _, rfl, _, _, outVB, rfl, rfl⟩
        ·
         rw [if_neg h_2036] at h
         have e_2037 := eq_false h_2036
         simp only [e_4, e_11, e_13, e_18, e_1028, e_2035, e_2037, go_sem, seval]
         obtain ⟨k_1, g_1⟩ := Prod.mk.inj (Option.some.inj h)
         subst k_1
         subst g_1
         rw [← hQ]
         exact ⟨rfl, _, rfl, _, _, outVB, rfl, rfl⟩
       ·
        rw [if_neg h_2034] at h
        have e_2035 : y_2032 = false := bfalse h_2034
        simp only [e_4, e_11, e_13, e_18, e_1028, e_2035, go_sem, seval]
        obtain ⟨k_1, g_1⟩ := Prod.mk.inj (Option.some.inj h)
        subst k_1
        subst g_1
        rw [← hQ]
        exact ⟨rfl, _, rfl, _, _, outVB, rfl, rfl⟩
     ·
      try dsimp only at h
      refine LoopK_ret ?_
      obtain ⟨k_1, g_1⟩ := Prod.mk.inj (Option.some.inj h)
      subst k_1
      subst g_1
      rw [← hQ]
      exact ⟨rfl, _, rfl, _, _, outVB, rfl, rfl⟩
    ·
     rw [if_neg h_17] at h
     have e_18 : y_15 = false := bfalse h_17
     simp only [e_4, e_11, e_13, e_18, go_sem, seval]
     obtain ⟨k_1, g_1⟩ := Prod.mk.inj (Option.some.inj h)
     subst k_1
     subst g_1
     rw [← hQ]
     exact ⟨rfl, _, rfl, _, _, outVB, rfl, rfl⟩
  ·
   rw [if_neg h_10] at h
   have e_11 := eq_false h_10
   simp only [e_4, e_11, go_sem, seval]
   by_cases h_3041 : y_1 = 2
   ·
    rw [if_pos h_3041] at h
    have e_3042 := eq_true h_3041
    simp only [e_4, e_11, e_3042, go_sem, seval]
    by_cases h_3043 : y_8 < 0
    ·
     rw [if_pos h_3043] at h
     have e_3044 := eq_true h_3043
     simp only [e_4, e_11, e_3042, e_3044, go_sem, seval]
     obtain ⟨k_1, g_1⟩ := Prod.mk.inj (Option.some.inj h)
     subst k_1
     subst g_1
     rw [← hQ]
     exact ⟨rfl, _, rfl, _, _, outVB, rfl, rfl⟩
    ·
     rw [if_neg h_3043] at h
     have e_3044 := eq_false h_3043
     obtain ⟨⟨y_3045, y_3046⟩, h_3047, h⟩ := bindS h
     try dsimp only at h
     simp only [e_4, e_11, e_3042, e_3044, go_sem, seval]
     refine ACalls.use0 (ref10_Table_w N _ _ _ c_0 _ _ h_3047) rfl rfl ?_
     refine ck0 ?_
     simp only [e_4, e_11, e_3042, e_3044, go_sem, seval]
     by_cases h_3048 : y_3046 = true
     ·
      rw [if_pos h_3048] at h
      have e_3049 : y_3046 = true := h_3048
      simp only [e_4, e_11, e_3042, e_3044, e_3049, go_sem, seval]
      obtain ⟨o_4055, h_4050, h⟩ := bindS h
      refine ALp.ref (Ref.trans (Ref.std (l' := [(0, .vec c_0 (List.map eU8 l_0)), (1, .int .i64 a_1), (2, .bool b_2), (8, .int .i64 y_1), (10, .vec false (List.map eI64 y_3045)), (12, .int .i64 (IntKind.i64.wrap (a_1 + 4))), (13, .ptr 0 0 0), (14, .int .i64 0)]) (H' := [.box [.vec true [], .vec true [], .vec true []] 100]) [0, 1, 2, 8, 10, 12, 13, 14] [0] (by decide) low0 (by first | rfl | simp only [go_sem, seval, e_4, e_11, e_3042, e_3044, e_3049]) rfl) (Ref.weak (WkT.cons (Wk.refl _) (WkT.cons (Wk.refl _) (WkT.cons (Wk.refl _) (WkT.cons (Wk.refl _) (WkT.cons (Wk.refl _) (WkT.cons (Wk.refl _) (WkT.cons (Wk.refl _) (WkT.cons (Wk.refl _) (WkT.nil))))))))) (WkH.cons (WkO.bx (Wks.cons Wk.vec (Wks.cons Wk.vec (Wks.cons Wk.vec (Wks.nil))))) (WkH.nil)))) (Nat.zero_le _) (ref11_Table_L1_w N _ _ _ _ _ c_0 N _ _ _ _ _ o_4055 h_4050 ?_)
      rcases o_4055 with ⟨y_4051, y_4052, y_4053, y_4054⟩ | _
      ·
       try dsimp only at h
       refine LoopK_go rfl (Nat.zero_le _) ?_
       obtain ⟨y_4056, h_4057, h⟩ := bindS h
       simp only [e_4, e_11, e_3042, e_3044, e_3049, go_sem, seval]
       refine ACalls.use0 (ref10_U16_w N _ _ c_0 _ h_4057) rfl rfl ?_
       refine ck0 ?_
       simp only [e_4, e_11, e_3042, e_3044, e_3049, go_sem, seval]
       by_cases h_4058 : y_4056 < 0
       ·
        rw [if_pos h_4058] at h
        have e_4059 := eq_true h_4058
        simp only [e_4, e_11, e_3042, e_3044, e_3049, e_4059, go_sem, seval]
        obtain ⟨k_1, g_1⟩ := Prod.mk.inj (Option.some.inj h)
        subst k_1
        subst g_1
        rw [← hQ]
        exact ⟨rfl, _, rfl, _, _, outVB, rfl, rfl⟩
       ·
        rw [if_neg h_4058] at h
        have e_4059 := eq_false h_4058
        simp only [e_4, e_11, e_3042, e_3044, e_3049, e_4059, go_sem, seval]
        obtain ⟨y_5061, h_5060, h⟩ := bindS h
        refine ALp.ref (Ref.trans (Ref.thaw (Nat.zero_le _) 19 rfl (sz := 1) (by decide) 3) (Ref.std [0, 1, 2, 8, 10, 12, 13, 18, 19, 20] [0, 1] (by decide) low0 (by first | rfl | simp only [go_sem, seval, e_4, e_11, e_3042, e_3044, e_3049, e_4059]) (by first | rfl | simp only [go_sem, seval]))) (Nat.zero_le _) (ref11_Table_L2_w N _ _ _ _ _ _ _ _ _ _ c_0 N _ _ y_5061 h_5060 ?_)
        refine LoopK_go rfl (Nat.zero_le _) ?_
        obtain ⟨⟨y_5062, y_5063⟩, h_5064, h⟩ := bindS h
        try dsimp only at h
        simp only [e_4, e_11, e_3042, e_3044, e_3049, e_4059, go_sem, seval]
        refine ACalls.use0 (ref11_Row_w N _ _ _ c_0 _ _ h_5064) rfl rfl ?_
        refine ck0 ?_
        simp only [e_4, e_11, e_3042, e_3044, e_3049, e_4059, go_sem, seval]
        by_cases h_5065 : y_5063 = true
        ·
         rw [if_pos h_5065] at h
         have e_5066 : y_5063 = true := h_5065
         simp only [e_4, e_11, e_3042, e_3044, e_3049, e_4059, e_5066, go_sem, seval]
         obtain ⟨o_6069, h_6067, h⟩ := bindS h
         refine ALp.ref (Ref.trans (Ref.thaw (Nat.zero_le _) 23 rfl (sz := 4) (by decide) 61) (Ref.std [0, 1, 2, 8, 13, 18, 19, 21, 23, 24] [0, 1, 2] (by decide) low0 (by first | rfl | simp only [go_sem, seval, e_4, e_11, e_3042, e_3044, e_3049, e_4059, e_5066]) (by first | rfl | simp only [go_sem, seval]))) (Nat.zero_le _) (ref11_Table_L10_w N _ _ _ _ _ _ _ _ _ _ c_0 N _ _ o_6069 h_6067 ?_)
         rcases o_6069 with y_6068 | _
         ·
          try dsimp only at h
          refine LoopK_go rfl (Nat.zero_le _) ?_
          simp only [e_4, e_11, e_3042, e_3044, e_3049, e_4059, e_5066, go_sem, seval]
          obtain ⟨k_1, g_1⟩ := Prod.mk.inj (Option.some.inj h)
          subst k_1
          subst g_1
          rw [← hQ]
          exact ⟨rfl, _, rfl, _, _, (RefV.trans (RefV.frz (Nat.zero_le _) (id := 0) rfl (pures_map y_6068 eTCtx (fun _ => rfl))) (RefV.out (by first | rfl | simp only [go_sem, seval, e_4, e_11, e_3042, e_3044, e_3049, e_4059, e_5066]))), rfl, rfl⟩
         ·
          try dsimp only at h
          refine LoopK_ret ?_
          obtain ⟨k_1, g_1⟩ := Prod.mk.inj (Option.some.inj h)
          subst k_1
          subst g_1
          rw [← hQ]
          exact ⟨rfl, _, rfl, _, _, outVB, rfl, rfl⟩
        ·
         rw [if_neg h_5065] at h
         have e_5066 : y_5063 = false := bfalse h_5065
         simp only [e_4, e_11, e_3042, e_3044, e_3049, e_4059, e_5066, go_sem, seval]
         obtain ⟨k_1, g_1⟩ := Prod.mk.inj (Option.some.inj h)
         subst k_1
         subst g_1
         rw [← hQ]
         exact ⟨rfl, _, rfl, _, _, outVB, rfl, rfl⟩
      ·
       try dsimp only at h
       refine LoopK_ret ?_
       obtain ⟨k_1, g_1⟩ := Prod.mk.inj (Option.some.inj h)
       subst k_1
       subst g_1
       rw [← hQ]
       exact ⟨rfl, _, rfl, _, _, outVB, rfl, rfl⟩
     ·
      rw [if_neg h_3048] at h
      have e_3049 : y_3046 = false := bfalse h_3048
      simp only [e_4, e_11, e_3042, e_3044, e_3049, go_sem, seval]
      obtain ⟨k_1, g_1⟩ := Prod.mk.inj (Option.some.inj h)
      subst k_1
      subst g_1
      rw [← hQ]
      exact ⟨rfl, _, rfl, _, _, outVB, rfl, rfl⟩
   ·
    rw [if_neg h_3041] at h
    have e_3042 := eq_false h_3041
    simp only [e_4, e_11, e_3042, go_sem, seval]
    obtain ⟨k_1, g_1⟩ := Prod.mk.inj (Option.some.inj h)
    subst k_1
    subst g_1
    rw [← hQ]
    exact ⟨rfl, _, rfl, _, _, outVB, rfl, rfl⟩
theorem law11_ContextChains_w (N : Nat) (l_0 : List Int) (a_1 : Int) (c_0 : Bool) (z_1 : Bool) (h : law11_ContextChains N l_0 a_1 = some z_1) :
  ACalls Try.prog 9 [.vec c_0 (List.map eU8 l_0), .int .i64 a_1] [] (fun e H => H = [] ∧ e = .ret (.bool z_1)) := by
 unfold law11_ContextChains at h
 refine ACalls.goN Try.func9 n9 a9 Try.ntmps9 r9 (by simp) 0 rfl ?_
 generalize hQ : bodyA _ _ _ = QQ
 obtain ⟨y_1, h_2, h⟩ := bindS h
 simp only [A9, go_sem, seval]
 refine ACalls.use0 (law11_alive_w N _ h_2) rfl rfl ?_
 refine ck0 ?_
 simp only [go_sem, seval]
 by_cases h_3 : y_1 = true
 ·
  rw [if_pos h_3] at h
  have e_4 : y_1 = true := h_3
  simp only [e_4, go_sem, seval]
  by_cases h_5 : 1000 < (l_0.length : Int)
  ·
   rw [if_pos h_5] at h
   have e_6 := eq_true h_5
   simp only [e_4, e_6, go_sem, seval]
   have g_0 := Option.some.inj h
   subst g_0
   rw [← hQ]
   exact ⟨rfl, _, rfl, _, _, (RefV.out rfl), rfl, rfl⟩
  ·
   rw [if_neg h_5] at h
   have e_6 := eq_false h_5
   simp only [e_4, e_6, go_sem, seval]
   by_cases h_7 : 1000 < a_1
   ·
    rw [if_pos h_7] at h
    have e_8 := eq_true h_7
    simp only [e_4, e_6, e_8, go_sem, seval]
    have g_0 := Option.some.inj h
    subst g_0
    rw [← hQ]
    exact ⟨rfl, _, rfl, _, _, (RefV.out rfl), rfl, rfl⟩
   ·
    rw [if_neg h_7] at h
    have e_8 := eq_false h_7
    simp only [e_4, e_6, e_8, go_sem, seval]
    by_cases h_9 : a_1 < (-1000)
    ·
     rw [if_pos h_9] at h
     have e_10 := eq_true h_9
     simp only [e_4, e_6, e_8, e_10, go_sem, seval]
     have g_0 := Option.some.inj h
     subst g_0
     rw [← hQ]
     exact ⟨rfl, _, rfl, _, _, (RefV.out rfl), rfl, rfl⟩
    ·
     rw [if_neg h_9] at h
     have e_10 := eq_false h_9
     obtain ⟨⟨y_11, y_12⟩, h_13, h⟩ := bindS h
     try dsimp only at h
     simp only [e_4, e_6, e_8, e_10, go_sem, seval]
     refine ACalls.use0 (context_Chain_w N _ _ c_0 _ _ h_13) rfl rfl ?_
     refine ck0 ?_
     obtain ⟨⟨y_14, y_15⟩, h_16, h⟩ := bindS h
     try dsimp only at h
     simp only [e_4, e_6, e_8, e_10, go_sem, seval]
     refine ACalls.use0 (ref11_Table_w N _ _ _ c_0 _ _ h_16) rfl rfl ?_
     refine ck0 ?_
     simp only [e_4, e_6, e_8, e_10, go_sem, seval]
     by_cases h_17 : y_15 = true
     ·
      rw [if_pos h_17] at h
      have e_18 : y_15 = true := h_17
      simp only [e_4, e_6, e_8, e_10, e_18, go_sem, seval]
      by_cases h_19 : y_12 = true
      ·
       rw [if_pos h_19] at h
       have e_20 : y_12 = true := h_19
       obtain ⟨y_21, h_22, h⟩ := bindS h
       simp only [e_4, e_6, e_8, e_10, e_18, e_20, go_sem, seval]
       refine ACalls.use0 (ref11_Same_w N _ _ false false _ h_22) rfl rfl ?_
       refine ck0 ?_
       simp only [e_4, e_6, e_8, e_10, e_18, e_20, go_sem, seval]
       have g_0 := Option.some.inj h
       subst g_0
       rw [← hQ]
       exact ⟨rfl, _, rfl, _, _, (RefV.out (by first | rfl | simp only [go_sem, seval, e_4, e_6, e_8, e_10, e_18, e_20])), rfl, rfl⟩
      ·
       rw [if_neg h_19] at h
       have e_20 : y_12 = false := bfalse h_19
       simp only [e_4, e_6, e_8, e_10, e_18, e_20, go_sem, seval]
       have g_0 := Option.some.inj h
       subst g_0
       rw [← hQ]
       exact ⟨rfl, _, rfl, _, _, (RefV.out rfl), rfl, rfl⟩
     ·
      rw [if_neg h_17] at h
      have e_18 : y_15 = false := bfalse h_17
      simp only [e_4, e_6, e_8, e_10, e_18, go_sem, seval]
      by_cases h_23 : y_12 = true
      ·
       rw [if_pos h_23] at h
       have e_24 : y_12 = true := h_23
       simp only [e_4, e_6, e_8, e_10, e_18, e_24, go_sem, seval]
       have g_0 := Option.some.inj h
       subst g_0
       rw [← hQ]
       exact ⟨rfl, _, rfl, _, _, (RefV.out rfl), rfl, rfl⟩
      ·
       rw [if_neg h_23] at h
       have e_24 : y_12 = false := bfalse h_23
       obtain ⟨y_25, h_26, h⟩ := bindS h
       simp only [e_4, e_6, e_8, e_10, e_18, e_24, go_sem, seval]
       refine ACalls.use0 (ref11_Same_w N _ _ false true _ h_26) rfl rfl ?_
       refine ck0 ?_
       simp only [e_4, e_6, e_8, e_10, e_18, e_24, go_sem, seval]
       have g_0 := Option.some.inj h
       subst g_0
       rw [← hQ]
       exact ⟨rfl, _, rfl, _, _, (RefV.out (by first | rfl | simp only [go_sem, seval, e_4, e_6, e_8, e_10, e_18, e_24])), rfl, rfl⟩
 ·
  rw [if_neg h_3] at h
  have e_4 : y_1 = false := bfalse h_3
  simp only [e_4, go_sem, seval]
  have g_0 := Option.some.inj h
  subst g_0
  rw [← hQ]
  exact ⟨rfl, _, rfl, _, _, (RefV.out rfl), rfl, rfl⟩
end Go.Proofs.Ytakplhfiohjcmaa.AI
