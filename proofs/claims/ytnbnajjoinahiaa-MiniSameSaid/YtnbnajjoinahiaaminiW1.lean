/- Part of a proof. -/
import Derived.Test.YtnbnajjoinahiaaminiP
import Derived.Test.YtnbnajjoinahiaaminiA
set_option linter.unusedVariables false
set_option linter.unusedSimpArgs false
set_option maxRecDepth 100000
set_option maxHeartbeats 1000000
namespace Go.Proofs.Ytnbnajjoinahiaa.AI
open Go.Proofs (Try.prog)
def eA16I64 (x : Vector Int 16) : List AV := (arrI .i64 x)
theorem subs_eA16I64 (S : Sub) (l : List (Vector Int 16)) : (List.map eA16I64 l).map (subs S) = List.map eA16I64 l := subs_map S l eA16I64 (fun _ => by first | rfl | simp only [eA16I64, go_sem])
def eI64 (x : Int) : List AV := [.int .i64 x]
theorem subs_eI64 (S : Sub) (l : List Int) : (List.map eI64 l).map (subs S) = List.map eI64 l := subs_map S l eI64 (fun _ => by first | rfl | simp only [eA16I64, go_sem])
def eB (x : Bool) : List AV := [.bool x]
theorem subs_eB (S : Sub) (l : List Bool) : (List.map eB l).map (subs S) = List.map eB l := subs_map S l eB (fun _ => by first | rfl | simp only [eA16I64, go_sem])
def eLB (x : List Bool) : List AV := [.vec false (List.map eB x)]
theorem subs_eLB (S : Sub) (l : List (List Bool)) : (List.map eLB l).map (subs S) = List.map eLB l := subs_map S l eLB (fun _ => by first | rfl | simp only [eA16I64, go_sem])
def eTDfa (x : TDfa) : List AV := [.vec false (List.map eA16I64 x.Next), .vec false (List.map eI64 x.Rule)]
theorem subs_eTDfa (S : Sub) (l : List TDfa) : (List.map eTDfa l).map (subs S) = List.map eTDfa l := subs_map S l eTDfa (fun _ => by first | rfl | simp only [eA16I64, go_sem])
theorem mk_eTDfa (v_Next : List (Vector Int 16)) (v_Rule : List Int) : eTDfa (TDfa.mk v_Next v_Rule) = [.vec false (List.map eA16I64 v_Next), .vec false (List.map eI64 v_Rule)] := rfl
attribute [local go_sem] subs_eA16I64 subs_eI64 subs_eB subs_eLB subs_eTDfa mk_eTDfa
def B39_1 : ACode := match A39 with | (.seq _ (.seq _ (.seq (.seq _ (.block _ (.loop b))) _))) => b | _ => .skip
def B39_2 : ACode := match B39_1 with | (.seq _ (.seq (.block _ (.seq _ (.seq (.seq _ (.block _ (.loop b))) _))) _)) => b | _ => .skip
def B14_1 : ACode := match A14 with | (.seq _ (.seq _ (.seq _ (.seq _ (.seq (.seq _ (.block _ (.loop b))) _))))) => b | _ => .skip
def B14_2 : ACode := match B14_1 with | (.seq _ (.seq _ (.seq (.block _ (.seq _ (.seq _ (.seq (.seq _ (.block _ (.loop b))) _)))) _))) => b | _ => .skip
def B23_1 : ACode := match A23 with | (.seq _ (.seq _ (.seq _ (.seq (.seq _ (.block _ (.loop b))) _)))) => b | _ => .skip
def B23_2 : ACode := match B23_1 with | (.seq _ (.seq _ (.seq (.block _ (.seq _ (.seq _ (.seq _ (.block _ (.loop b)))))) _))) => b | _ => .skip
def B40_1 : ACode := match A40 with | (.seq _ (.seq _ (.seq _ (.seq _ (.block _ (.loop b)))))) => b | _ => .skip
def B42_1 : ACode := match A42 with | (.seq _ (.seq _ (.seq _ (.seq (.seq _ (.block _ (.loop b))) _)))) => b | _ => .skip
def B42_2 : ACode := match B42_1 with | (.seq _ (.seq _ (.seq (.block _ (.seq _ (.seq (.seq _ (.block _ (.loop b))) _))) _))) => b | _ => .skip
def B15_1 : ACode := match A15 with | (.seq _ (.scope (.seq _ (.seq _ (.seq (.seq _ (.block _ (.loop b))) _))))) => b | _ => .skip
def B15_2 : ACode := match A15 with | (.seq _ (.scope (.seq _ (.seq _ (.seq _ (.seq _ (.seq (.block _ (.loop b)) _))))))) => b | _ => .skip
def B15_3 : ACode := match B15_2 with | (.block _ (.seq (.seq _ (.block _ (.loop b))) _)) => b | _ => .skip
def B15_4 : ACode := match B15_3 with | (.seq _ (.seq _ (.seq (.block _ (.seq _ (.seq _ (.seq _ (.block _ (.loop b)))))) _))) => b | _ => .skip
def B59_1 : ACode := match A59 with | (.seq _ (.seq _ (.seq _ (.seq (.seq _ (.block _ (.loop b))) _)))) => b | _ => .skip
def B59_2 : ACode := match B59_1 with | (.seq _ (.seq _ (.seq (.block _ (.seq _ (.seq _ (.seq _ (.seq (.seq _ (.block _ (.loop b))) _))))) _))) => b | _ => .skip
def B19_1 : ACode := match A19 with | (.seq _ (.seq _ (.seq _ (.seq _ (.seq _ (.seq _ (.seq _ (.seq (.seq _ (.block _ (.loop b))) _)))))))) => b | _ => .skip
def B19_2 : ACode := match B19_1 with | (.seq _ (.seq (.block _ (.seq _ (.seq (.seq _ (.block _ (.loop b))) _))) _)) => b | _ => .skip
def B43_1 : ACode := match A43 with | (.seq _ (.seq _ (.seq (.seq _ (.block _ (.loop b))) _))) => b | _ => .skip
def B44_1 : ACode := match A44 with | (.seq _ (.seq _ (.seq (.seq _ (.block _ (.loop b))) _))) => b | _ => .skip
def B16_1 : ACode := match A16 with | (.seq _ (.seq _ (.seq _ (.seq (.seq _ (.block _ (.loop b))) _)))) => b | _ => .skip
def B16_2 : ACode := match B16_1 with | (.seq _ (.seq (.block _ (.seq _ (.seq _ (.block _ (.loop b))))) _)) => b | _ => .skip
def B21_1 : ACode := match A21 with | (.seq _ (.seq _ (.seq _ (.seq _ (.seq (.seq _ (.block _ (.loop b))) _))))) => b | _ => .skip
def B21_2 : ACode := match B21_1 with | (.seq _ (.seq (.block _ (.seq _ (.seq (.seq _ (.block _ (.loop b))) _))) _)) => b | _ => .skip
def B21_3 : ACode := match B21_2 with | (.seq _ (.seq (.block _ (.seq _ (.seq _ (.seq _ (.seq (.seq _ (.block _ (.loop b))) _))))) _)) => b | _ => .skip
def B17_1 : ACode := match A17 with | (.seq _ (.seq _ (.seq _ (.seq _ (.seq (.seq _ (.block _ (.loop b))) _))))) => b | _ => .skip
def B17_2 : ACode := match B17_1 with | (.seq _ (.seq (.block _ (.seq _ (.seq _ (.block _ (.loop b))))) _)) => b | _ => .skip
def B17_3 : ACode := match A17 with | (.seq _ (.seq _ (.seq _ (.seq _ (.seq _ (.seq (.seq _ (.block _ (.loop b))) _)))))) => b | _ => .skip
def B17_4 : ACode := match B17_3 with | (.seq _ (.block _ (.seq _ (.seq _ (.block _ (.loop b)))))) => b | _ => .skip
def B17_5 : ACode := match B17_4 with | (.seq _ (.seq (.block _ (.seq _ (.block _ (.loop b)))) _)) => b | _ => .skip
def B17_6 : ACode := match B17_5 with | (.seq _ (.seq (.block _ (.seq _ (.block _ (.loop b)))) _)) => b | _ => .skip
def B17_7 : ACode := match A17 with | (.seq _ (.seq _ (.seq _ (.seq _ (.seq _ (.seq _ (.seq _ (.seq (.seq _ (.block _ (.loop b))) _)))))))) => b | _ => .skip
def B17_8 : ACode := match B17_7 with | (.seq _ (.seq (.block _ (.seq _ (.seq (.seq _ (.block _ (.loop b))) _))) _)) => b | _ => .skip
def B18_1 : ACode := match A18 with | (.seq _ (.seq _ (.seq _ (.seq (.seq _ (.block _ (.loop b))) _)))) => b | _ => .skip
def B18_2 : ACode := match B18_1 with | (.seq _ (.seq (.block _ (.seq _ (.block _ (.loop b)))) _)) => b | _ => .skip
def B18_3 : ACode := match B18_2 with | (.seq _ (.seq (.block _ (.seq _ (.seq _ (.block _ (.loop b))))) _)) => b | _ => .skip
def B18_4 : ACode := match A18 with | (.seq _ (.seq _ (.seq _ (.seq _ (.seq _ (.seq (.seq _ (.block _ (.loop b))) _)))))) => b | _ => .skip
def B20_1 : ACode := match A20 with | (.seq _ (.seq _ (.seq (.seq _ (.block _ (.loop b))) _))) => b | _ => .skip
def B20_2 : ACode := match A20 with | (.seq _ (.seq _ (.seq _ (.seq (.seq _ (.block _ (.loop b))) _)))) => b | _ => .skip
theorem law08_example_L3_w (N : Nat) (i_1 : Int) (s_2 : List (Vector Int 16)) (s_3 : List Int) {R : AExit → ATm → List AObj → Prop} : ∀ (n : Nat) (i_6 : Int) (v_7 : Vector Int 16) (o : (Vector Int 16)), law08_example_L3 N i_1 s_2 s_3 n i_6 v_7 = some o → (match o with | z_1 => R (.exit 2) ⟨46, [(0, .ptr 0 0 0), (1, .ptr 1 0 0), (2, .int .i64 i_1), (3, .ptr 4 0 0)], []⟩ [.box [nn, nn] 25, .box [.row 2 0 s_2.length, .row 3 0 s_3.length] 25, .mem 16 (List.map eA16I64 s_2) 58, .mem 1 (List.map eI64 s_3) 3, .box (arrI .i64 z_1) 58]) →
  ALp Try.prog 0 B39_2 ⟨46, [(0, .ptr 0 0 0), (1, .ptr 1 0 0), (2, .int .i64 i_1), (3, .ptr 4 0 0), (4, .int .i64 i_6)], []⟩ [.box [nn, nn] 25, .box [.row 2 0 s_2.length, .row 3 0 s_3.length] 25, .mem 16 (List.map eA16I64 s_2) 58, .mem 1 (List.map eI64 s_3) 3, .box (arrI .i64 v_7) 58] R := by
 intro n
 induction n with
 | zero =>
  intro i_6 v_7 o h _; exact no0 h
 | succ n ih =>
  intro i_6 v_7 o h hp; rw [law08_example_L3] at h; refine ALp.round ?_; generalize hQ : RoundQ _ _ _ _ = QQ; simp only [B39_2, B39_1, A39, go_sem, seval]; rcases iteS h with ⟨e_9, h⟩ | ⟨e_9, h⟩
  · obtain ⟨x_10, h_11, h⟩ := bindS h; have e_12 : List.take 1 (List.drop (i_6).toNat (arrI .i64 v_7)) = [.int .i64 x_10] := arr_one h_11; have e_13 : ((0 : Int) ≤ i_6) = True := arr_ge h_11; have e_14 : ((i_6 : Int) < 16) = True := arr_lt h_11; have e_15 : ((i_6).toNat + 1 ≤ 16) = True := arr_le h_11; simp only [e_9, e_12, e_13, e_14, e_15, go_sem, seval]; rw [← hQ]; exact ⟨_, _, (Ref.std [0, 1, 2, 3, 4] [0, 1, 2, 3, 4] (by decide) low0 (by rfl) (by first | rfl | simp only [go_sem, seval])), (Nat.zero_le _), ih _ _ _ h hp⟩
  · simp only [e_9, go_sem, seval]; cases h; rw [← hQ]; exact ⟨_, _, (Ref.std [0, 1, 2, 3] [0, 1, 2, 3, 4] (by decide) low0 (by rfl) (by first | rfl | simp only [go_sem, seval])), hp⟩
theorem law08_example_L4_w (N : Nat) {R : AExit → ATm → List AObj → Prop} : ∀ (n : Nat) (i_1 : Int) (s_2 : List (Vector Int 16)) (s_3 : List Int) (o : (List (Vector Int 16)) × (List Int)), law08_example_L4 N n i_1 s_2 s_3 = some o → (match o with | (z_1, z_2) => R (.exit 0) ⟨46, [(0, .ptr 0 0 0), (1, .ptr 1 0 0)], []⟩ [.box [nn, nn] 25, .box [.row 2 0 z_1.length, .row 3 0 z_2.length] 25, .mem 16 (List.map eA16I64 z_1) 58, .mem 1 (List.map eI64 z_2) 3]) →
  ALp Try.prog 0 B39_1 ⟨46, [(0, .ptr 0 0 0), (1, .ptr 1 0 0), (2, .int .i64 i_1)], []⟩ [.box [nn, nn] 25, .box [.row 2 0 s_2.length, .row 3 0 s_3.length] 25, .mem 16 (List.map eA16I64 s_2) 58, .mem 1 (List.map eI64 s_3) 3] R := by
 intro n
 induction n with
 | zero =>
  intro i_1 s_2 s_3 o h _; exact no0 h
 | succ n ih =>
  intro i_1 s_2 s_3 o h hp; rw [law08_example_L4] at h; refine ALp.round ?_; generalize hQ : RoundQ _ _ _ _ = QQ; simp only [B39_1, A39, go_sem, seval]; rcases iteS h with ⟨e_5, h⟩ | ⟨e_5, h⟩
  · simp only [e_5, go_sem, seval]; obtain ⟨y_1007, h_1006, h⟩ := bindS h; refine ALp.ref (Ref.std [0, 1, 2, 3, 4] [0, 1, 2, 3, 4] (by decide) low0 (by rfl) (by first | rfl | simp only [go_sem, seval])) (Nat.zero_le _) (law08_example_L3_w N _ _ _ N _ _ y_1007 h_1006 ?_); refine LoopK_go rfl (Nat.zero_le _) ?_; have e_1008 := tk eA16I64 s_2; have e_1009 : (List.map eA16I64 s_2) ++ [(arrI .i64 y_1007)] = (List.map eA16I64 (s_2 ++ [y_1007])) := app_map s_2 ([y_1007]) eA16I64; obtain ⟨e_1011, h⟩ := guardE h; have e_1012 := tk eI64 s_3; have e_1013 : (List.map eI64 s_3) ++ [[.int .i64 (IntKind.i64.wrap ((i_1.tmod 2) - 1))]] = (List.map eI64 (s_3 ++ [IntKind.i64.wrap ((i_1.tmod 2) - 1)])) := app_map s_3 ([IntKind.i64.wrap ((i_1.tmod 2) - 1)]) eI64; obtain ⟨e_1015, h⟩ := guardE h; simp only [e_5, e_1008, e_1009, e_1011, e_1012, e_1013, e_1015, go_sem, seval]; rw [← hQ]; exact ⟨_, _, (Ref.std [0, 1, 2] [0, 1, 5, 6] (by decide) low0 (by rfl) (by first | rfl | simp only [go_sem, seval])), (Nat.zero_le _), ih _ _ _ _ h hp⟩
  · simp only [e_5, go_sem, seval]; cases h; rw [← hQ]; exact ⟨_, _, (Ref.std [0, 1] [0, 1, 2, 3] (by decide) low0 rfl (by first | rfl | simp only [go_sem, seval])), hp⟩
theorem law08_example_w (N : Nat) (z_1 : List (Vector Int 16)) (z_2 : List Int) (h : law08_example N = some (z_1, z_2)) :
  ACalls Try.prog 39 [] [] (fun e H => H = [] ∧ e = .ret (.agg [.vec false (List.map eA16I64 z_1), .vec false (List.map eI64 z_2)])) := by
 unfold law08_example at h; refine ACalls.goN Try.func39 n39 a39 Try.ntmps39 r39 (by simp) 0 rfl ?_; generalize hQ : bodyA _ _ _ = QQ; simp only [A39, go_sem, seval]; obtain ⟨⟨y_1002, y_1003⟩, h_1001, h⟩ := bindS h; (try dsimp only at h); refine ALp.ref (Ref.trans (Ref.thawB (Nat.zero_le _) (id := 1) 0 rfl rfl (sz := 16) (by decide) 58) (Ref.trans (Ref.thawB (Nat.zero_le _) (id := 1) 1 rfl rfl (sz := 1) (by decide) 3) (Ref.std [0, 1, 2] [0, 1, 2, 3] (by decide) low0 rfl (by first | rfl | simp only [go_sem, seval])))) (Nat.zero_le _) (law08_example_L4_w N N _ _ _ _ h_1001 ?_); refine LoopK_go rfl (Nat.zero_le _) ?_; obtain ⟨x_1004, h_1005, h⟩ := bindS h; have e_1006 : (List.map eA16I64 y_1002)[0]? = some (arrI .i64 x_1004) := atI_map eA16I64 h_1005; have e_1007 := eq_true (atI_lt h_1005); obtain ⟨x_1008, h_1009, h⟩ := bindS h; have e_1010 : List.take 1 (List.drop 1 (arrI .i64 x_1004)) = [.int .i64 x_1008] := arr_one (k := .i64) (i := 1) h_1009; have e_1011 : (List.map eA16I64 y_1002).set 0 (arrI .i64 (Vector.setIfInBounds x_1004 1 1)) = List.map eA16I64 (List.set y_1002 0 (Vector.setIfInBounds x_1004 1 1)) := set_map y_1002 eA16I64 0 (Vector.setIfInBounds x_1004 1 1); obtain ⟨x_1012, h_1013, h⟩ := bindS h; have e_1014 : (List.map eA16I64 (List.set y_1002 0 (Vector.setIfInBounds x_1004 1 1)))[1]? = some (arrI .i64 x_1012) := atI_map eA16I64 h_1013; have e_1015 : ((1 : Int) < ((y_1002.length : Nat) : Int)) = True := eq_true (by have := atI_lt h_1013; simpa using this); obtain ⟨x_1016, h_1017, h⟩ := bindS h; have e_1018 : List.take 1 (List.drop 4 (arrI .i64 x_1012)) = [.int .i64 x_1016] := arr_one (k := .i64) (i := 4) h_1017; have e_1019 : (List.map eA16I64 (List.set y_1002 0 (Vector.setIfInBounds x_1004 1 1))).set 1 (arrI .i64 (Vector.setIfInBounds x_1012 4 2)) = List.map eA16I64 (List.set (List.set y_1002 0 (Vector.setIfInBounds x_1004 1 1)) 1 (Vector.setIfInBounds x_1012 4 2)) := set_map (List.set y_1002 0 (Vector.setIfInBounds x_1004 1 1)) eA16I64 1 (Vector.setIfInBounds x_1012 4 2); obtain ⟨x_1020, h_1021, h⟩ := bindS h; have e_1022 : (List.map eA16I64 (List.set (List.set y_1002 0 (Vector.setIfInBounds x_1004 1 1)) 1 (Vector.setIfInBounds x_1012 4 2)))[2]? = some (arrI .i64 x_1020) := atI_map eA16I64 h_1021; have e_1023 : ((2 : Int) < ((y_1002.length : Nat) : Int)) = True := eq_true (by have := atI_lt h_1021; simpa using this); obtain ⟨x_1024, h_1025, h⟩ := bindS h; have e_1026 : List.take 1 (List.drop 1 (arrI .i64 x_1020)) = [.int .i64 x_1024] := arr_one (k := .i64) (i := 1) h_1025; have e_1027 : (List.map eA16I64 (List.set (List.set y_1002 0 (Vector.setIfInBounds x_1004 1 1)) 1 (Vector.setIfInBounds x_1012 4 2))).set 2 (arrI .i64 (Vector.setIfInBounds x_1020 1 3)) = List.map eA16I64 (List.set (List.set (List.set y_1002 0 (Vector.setIfInBounds x_1004 1 1)) 1 (Vector.setIfInBounds x_1012 4 2)) 2 (Vector.setIfInBounds x_1020 1 3)) := set_map (List.set (List.set y_1002 0 (Vector.setIfInBounds x_1004 1 1)) 1 (Vector.setIfInBounds x_1012 4 2)) eA16I64 2 (Vector.setIfInBounds x_1020 1 3); obtain ⟨x_1028, h_1029, h⟩ := bindS h; have e_1030 : (List.map eA16I64 (List.set (List.set (List.set y_1002 0 (Vector.setIfInBounds x_1004 1 1)) 1 (Vector.setIfInBounds x_1012 4 2)) 2 (Vector.setIfInBounds x_1020 1 3)))[3]? = some (arrI .i64 x_1028) := atI_map eA16I64 h_1029; have e_1031 : ((3 : Int) < ((y_1002.length : Nat) : Int)) = True := eq_true (by have := atI_lt h_1029; simpa using this); obtain ⟨x_1032, h_1033, h⟩ := bindS h; have e_1034 : List.take 1 (List.drop 4 (arrI .i64 x_1028)) = [.int .i64 x_1032] := arr_one (k := .i64) (i := 4) h_1033
 have e_1035 : (List.map eA16I64 (List.set (List.set (List.set y_1002 0 (Vector.setIfInBounds x_1004 1 1)) 1 (Vector.setIfInBounds x_1012 4 2)) 2 (Vector.setIfInBounds x_1020 1 3))).set 3 (arrI .i64 (Vector.setIfInBounds x_1028 4 2)) = List.map eA16I64 (List.set (List.set (List.set (List.set y_1002 0 (Vector.setIfInBounds x_1004 1 1)) 1 (Vector.setIfInBounds x_1012 4 2)) 2 (Vector.setIfInBounds x_1020 1 3)) 3 (Vector.setIfInBounds x_1028 4 2)) := set_map (List.set (List.set (List.set y_1002 0 (Vector.setIfInBounds x_1004 1 1)) 1 (Vector.setIfInBounds x_1012 4 2)) 2 (Vector.setIfInBounds x_1020 1 3)) eA16I64 3 (Vector.setIfInBounds x_1028 4 2); simp only [e_1006, e_1007, e_1010, e_1011, e_1014, e_1015, e_1018, e_1019, e_1022, e_1023, e_1026, e_1027, e_1030, e_1031, e_1034, e_1035, go_sem, seval]; obtain ⟨rfl, rfl⟩ := pj (si h); rw [← hQ]; exact ⟨rfl, _, rfl, _, _, (RefV.trans (RefV.frz (Nat.zero_le _) (id := 2) rfl (pures_map (List.set (List.set (List.set (List.set y_1002 0 (Vector.setIfInBounds x_1004 1 1)) 1 (Vector.setIfInBounds x_1012 4 2)) 2 (Vector.setIfInBounds x_1020 1 3)) 3 (Vector.setIfInBounds x_1028 4 2)) eA16I64 (fun _ => by first | rfl | simp only [eA16I64, go_sem]))) (RefV.trans (RefV.frz (Nat.zero_le _) (id := 3) rfl (by first | exact pures_map y_1003 eI64 (fun _ => by first | rfl | simp only [eA16I64, go_sem]) | (simp only [subs_eI64]; exact pures_map y_1003 eI64 (fun _ => by first | rfl | simp only [eA16I64, go_sem])))) (RefV.out (by first | rfl | simp only [go_sem, seval])))), rfl, rfl⟩
theorem dfa_Right_L2_w (N : Nat) (l_0 : List (Vector Int 16)) (i_7 : Int) (x_10 : Vector Int 16) (l_1 : List Int) (c_0 : Bool) (c_1 : Bool) {R : AExit → ATm → List AObj → Prop} : ∀ (n : Nat) (i_25 : Int) (o : (Unit) ⊕ (Unit)), dfa_Right_L2 N l_0 i_7 x_10 l_1 n i_25 = some o → (match o with | .inl _ => R (.exit 2) ⟨59, [(1, .ptr 0 0 0), (3, .int .i64 (l_0.length : Int)), (25, .vec c_0 (List.map eA16I64 l_0)), (26, .int .i64 (l_0.length : Int)), (27, .int .i64 i_7)], []⟩ [.box [.vec c_0 (List.map eA16I64 l_0), .vec c_1 (List.map eI64 l_1)] 25] | .inr (_) => R .ret ⟨59, [(2, .bool false)], []⟩ []) →
  ALp Try.prog 0 B23_2 ⟨59, [(1, .ptr 0 0 0), (3, .int .i64 (l_0.length : Int)), (25, .vec c_0 (List.map eA16I64 l_0)), (26, .int .i64 (l_0.length : Int)), (27, .int .i64 i_7), (46, .agg (arrI .i64 x_10)), (47, .int .i64 i_25)], []⟩ [.box [.vec c_0 (List.map eA16I64 l_0), .vec c_1 (List.map eI64 l_1)] 25] R := by
 intro n
 induction n with
 | zero =>
  intro i_25 o h _; exact no0 h
 | succ n ih =>
  intro i_25 o h hp; rw [dfa_Right_L2] at h; refine ALp.round ?_; generalize hQ : RoundQ _ _ _ _ = QQ; simp only [B23_2, B23_1, A23, go_sem, seval]; rcases iteS h with ⟨e_27, h⟩ | ⟨e_27, h⟩
  ·
   obtain ⟨x_28, h_29, h⟩ := bindS h; have e_30 : List.take 1 (List.drop (i_25).toNat (arrI .i64 x_10)) = [.int .i64 x_28] := arr_one h_29; have e_31 : ((0 : Int) ≤ i_25) = True := arr_ge h_29; have e_32 : ((i_25 : Int) < 16) = True := arr_lt h_29; have e_33 : ((i_25).toNat + 1 ≤ 16) = True := arr_le h_29; simp only [e_27, e_30, e_31, e_32, e_33, go_sem, seval]; rcases iteS h with ⟨e_35, h⟩ | ⟨e_35, h⟩
   · simp only [e_27, e_30, e_31, e_32, e_33, e_35, go_sem, seval]; cases h; rw [← hQ]; exact ⟨_, _, (Ref.out [2] rfl), hp⟩
   ·
    simp only [e_27, e_30, e_31, e_32, e_33, e_35, go_sem, seval]; rcases iteS h with ⟨e_37, h⟩ | ⟨e_37, h⟩
    · simp only [e_27, e_30, e_31, e_32, e_33, e_35, e_37, go_sem, seval]; cases h; rw [← hQ]; exact ⟨_, _, (Ref.out [2] rfl), hp⟩
    · simp only [e_27, e_30, e_31, e_32, e_33, e_35, e_37, go_sem, seval]; rw [← hQ]; exact ⟨_, _, (Ref.std [1, 3, 25, 26, 27, 46, 47] [0] (by decide) low0 (by first | rfl | simp only [go_sem, seval]) (by rfl)), (Nat.zero_le _), ih _ _ h hp⟩
  · simp only [e_27, go_sem, seval]; cases h; rw [← hQ]; exact ⟨_, _, (Ref.std [1, 3, 25, 26, 27] [0] (by decide) low0 (by rfl) (by rfl)), hp⟩
theorem dfa_Right_L3_w (N : Nat) (l_0 : List (Vector Int 16)) (l_1 : List Int) (c_0 : Bool) (c_1 : Bool) {R : AExit → ATm → List AObj → Prop} : ∀ (n : Nat) (i_7 : Int) (o : (Unit) ⊕ (Unit)), dfa_Right_L3 N l_0 l_1 n i_7 = some o → (match o with | .inl _ => R (.exit 0) ⟨59, [], []⟩ [] | .inr (_) => R .ret ⟨59, [(2, .bool false)], []⟩ []) →
  ALp Try.prog 0 B23_1 ⟨59, [(1, .ptr 0 0 0), (3, .int .i64 (l_0.length : Int)), (25, .vec c_0 (List.map eA16I64 l_0)), (26, .int .i64 (l_0.length : Int)), (27, .int .i64 i_7)], []⟩ [.box [.vec c_0 (List.map eA16I64 l_0), .vec c_1 (List.map eI64 l_1)] 25] R := by
 intro n
 induction n with
 | zero =>
  intro i_7 o h _; exact no0 h
 | succ n ih =>
  intro i_7 o h hp; rw [dfa_Right_L3] at h; refine ALp.round ?_; generalize hQ : RoundQ _ _ _ _ = QQ; simp only [B23_1, A23, go_sem, seval]; rcases iteS h with ⟨e_9, h⟩ | ⟨e_9, h⟩
  ·
   obtain ⟨x_10, h_11, h⟩ := bindS h; have e_12 : (List.map eA16I64 l_0)[(i_7).toNat]? = some (arrI .i64 x_10) := atI_map eA16I64 h_11; have e_13 := eq_true (atI_some h_11).1; have e_14 := eq_true (atI_lt h_11); have e_15 : splice (arrI .i64 (Vector.replicate 16 (0 : Int))) 0 (arrI .i64 x_10) = (arrI .i64 x_10) := arr_put (by decide); obtain ⟨x_16, h_17, h⟩ := bindS h; have e_18 : (List.map eI64 l_1)[(i_7).toNat]? = some [.int .i64 x_16] := atI_map eI64 h_17; have e_19 := eq_true (atI_some h_17).1; have e_20 := eq_true (atI_lt h_17); simp only [e_9, e_12, e_13, e_14, e_15, e_18, e_19, e_20, go_sem, seval]; rcases iteS h with ⟨e_22, h⟩ | ⟨e_22, h⟩
   · simp only [e_9, e_12, e_13, e_14, e_15, e_18, e_19, e_20, e_22, go_sem, seval]; cases h; rw [← hQ]; exact ⟨_, _, (Ref.out [2] rfl), hp⟩
   ·
    simp only [e_9, e_12, e_13, e_14, e_15, e_18, e_19, e_20, e_22, go_sem, seval]; rcases iteS h with ⟨e_24, h⟩ | ⟨e_24, h⟩
    · simp only [e_9, e_12, e_13, e_14, e_15, e_18, e_19, e_20, e_22, e_24, go_sem, seval]; cases h; rw [← hQ]; exact ⟨_, _, (Ref.out [2] rfl), hp⟩
    ·
     simp only [e_9, e_12, e_13, e_14, e_15, e_18, e_19, e_20, e_22, e_24, go_sem, seval]; obtain ⟨o_1026, h_1025, h⟩ := bindS h; refine ALp.ref (Ref.std [1, 3, 25, 26, 27, 46, 47] [0] (by decide) low0 (by first | rfl | simp only [go_sem, seval]) (by rfl)) (Nat.zero_le _) (dfa_Right_L2_w N _ _ _ _ c_0 c_1 N _ o_1026 h_1025 ?_); rcases o_1026 with _ | _
     · (try dsimp only at h); refine LoopK_go rfl (Nat.zero_le _) ?_; simp only [e_9, e_12, e_13, e_14, e_15, e_18, e_19, e_20, e_22, e_24, go_sem, seval]; rw [← hQ]; exact ⟨_, _, (Ref.std [1, 3, 25, 26, 27] [0] (by decide) low0 rfl rfl), (Nat.zero_le _), ih _ _ h hp⟩
     · (try dsimp only at h); refine LoopK_ret ?_; cases h; rw [← hQ]; exact ⟨_, _, (Ref.out [2] rfl), hp⟩
  · simp only [e_9, go_sem, seval]; cases h; rw [← hQ]; exact ⟨_, _, (Ref.out [] rfl), hp⟩
theorem dfa_Right_w (N : Nat) (l_0 : List (Vector Int 16)) (l_1 : List Int) (c_0 : Bool) (c_1 : Bool) (z_1 : Bool) (h : dfa_Right N l_0 l_1 = some z_1) :
  ACalls Try.prog 23 [.agg [.vec c_0 (List.map eA16I64 l_0), .vec c_1 (List.map eI64 l_1)]] [] (fun e H => H = [] ∧ e = .ret (.bool z_1)) := by
 unfold dfa_Right at h; refine ACalls.goN Try.func23 n23 a23 Try.ntmps23 r23 (by simp) 0 rfl ?_; generalize hQ : bodyA _ _ _ = QQ; simp only [A23, go_sem, seval]; rcases iteS h with ⟨e_2, h⟩ | ⟨e_2, h⟩
 · simp only [e_2, go_sem, seval]; obtain rfl := si h; rw [← hQ]; exact ⟨rfl, _, rfl, _, _, (RefV.out rfl), rfl, rfl⟩
 ·
  simp only [e_2, go_sem, seval]; rcases iteS h with ⟨e_4, h⟩ | ⟨e_4, h⟩
  · simp only [e_2, e_4, go_sem, seval]; obtain rfl := si h; rw [← hQ]; exact ⟨rfl, _, rfl, _, _, (RefV.out rfl), rfl, rfl⟩
  ·
   simp only [e_2, e_4, go_sem, seval]; rcases iteS h with ⟨e_6, h⟩ | ⟨e_6, h⟩
   ·
    simp only [e_2, e_4, e_6, go_sem, seval]; obtain ⟨o_1008, h_1007, h⟩ := bindS h; refine ALp.ref (Ref.std [1, 3, 25, 26, 27] [0] (by decide) low0 rfl rfl) (Nat.zero_le _) (dfa_Right_L3_w N _ _ c_0 c_1 N _ o_1008 h_1007 ?_); rcases o_1008 with _ | _
    · (try dsimp only at h); refine LoopK_go rfl (Nat.zero_le _) ?_; simp only [e_2, e_4, e_6, go_sem, seval]; obtain rfl := si h; rw [← hQ]; exact ⟨rfl, _, rfl, _, _, (RefV.out rfl), rfl, rfl⟩
    · (try dsimp only at h); refine LoopK_ret ?_; obtain rfl := si h; rw [← hQ]; exact ⟨rfl, _, rfl, _, _, (RefV.out rfl), rfl, rfl⟩
   · simp only [e_2, e_4, e_6, go_sem, seval]; obtain rfl := si h; rw [← hQ]; exact ⟨rfl, _, rfl, _, _, (RefV.out rfl), rfl, rfl⟩
theorem mini_Dead_L1_w (N : Nat) (l_1 : List Int) (l_0 : List (Vector Int 16)) (c_1 : Bool) (c_0 : Bool) {R : AExit → ATm → List AObj → Prop} : ∀ (n : Nat) (i_10 : Int) (s_11 : List Bool) (o : (List Bool)), mini_Dead_L1 N l_1 l_0 n i_10 s_11 = some o → (match o with | z_1 => R (.exit 0) ⟨63, [(1, .ptr 0 0 0), (3, .row 1 0 z_1.length)], []⟩ [.box [.vec c_0 (List.map eA16I64 l_0), .vec c_1 (List.map eI64 l_1)] 25, .mem 1 (List.map eB z_1) 4]) →
  ALp Try.prog 0 B15_1 ⟨63, [(1, .ptr 0 0 0), (3, .row 1 0 s_11.length), (17, .vec c_1 (List.map eI64 l_1)), (18, .int .i64 (l_1.length : Int)), (19, .int .i64 i_10)], []⟩ [.box [.vec c_0 (List.map eA16I64 l_0), .vec c_1 (List.map eI64 l_1)] 25, .mem 1 (List.map eB s_11) 4] R := by
 intro n
 induction n with
 | zero =>
  intro i_10 s_11 o h _; exact no0 h
 | succ n ih =>
  intro i_10 s_11 o h hp; rw [mini_Dead_L1] at h; refine ALp.round ?_; generalize hQ : RoundQ _ _ _ _ = QQ; simp only [B15_1, A15, go_sem, seval]; rcases iteS h with ⟨e_13, h⟩ | ⟨e_13, h⟩
  · obtain ⟨x_14, h_15, h⟩ := bindS h; have e_16 : (List.map eI64 l_1)[(i_10).toNat]? = some [.int .i64 x_14] := atI_map eI64 h_15; have e_17 := eq_true (atI_some h_15).1; have e_18 := eq_true (atI_lt h_15); obtain ⟨x_19, h_20, h⟩ := bindS h; have e_21 : (List.map eB s_11)[(i_10).toNat]? = some [.bool x_19] := atI_map eB h_20; have e_22 := eq_true (atI_some h_20).1; have e_23 := eq_true (atI_lt h_20); have e_24 : (List.map eB s_11).set (i_10).toNat [.bool (decide (x_14 < 0))] = List.map eB (List.set s_11 (i_10).toNat (decide (x_14 < 0))) := set_map s_11 eB (i_10).toNat (decide (x_14 < 0)); simp only [e_13, e_16, e_17, e_18, e_21, e_22, e_23, e_24, go_sem, seval]; rw [← hQ]; exact ⟨_, _, (Ref.std [1, 3, 17, 18, 19] [0, 1] (by decide) low0 (by first | rfl | simp only [go_sem, seval]) (by first | rfl | simp only [go_sem, seval])), (Nat.zero_le _), ih _ _ _ h hp⟩
  · simp only [e_13, go_sem, seval]; cases h; rw [← hQ]; exact ⟨_, _, (Ref.std [1, 3] [0, 1] (by decide) low0 rfl (by first | rfl | simp only [go_sem, seval])), hp⟩
theorem mini_Dead_L3_w (N : Nat) (i_1012 : Int) (y_1011 : List Bool) (x_1022 : Vector Int 16) (l_0 : List (Vector Int 16)) (l_1 : List Int) (c_0 : Bool) (c_1 : Bool) {R : AExit → ATm → List AObj → Prop} : ∀ (n : Nat) (i_1027 : Int) (o : (Unit) ⊕ (Unit)), mini_Dead_L3 N i_1012 y_1011 x_1022 l_0 l_1 n i_1027 = some o → (match o with | .inl _ => R (.exit 3) ⟨63, [(1, .ptr 0 0 0), (3, .row 1 0 y_1011.length)], []⟩ [.box [.vec c_0 (List.map eA16I64 l_0), .vec c_1 (List.map eI64 l_1)] 25, .mem 1 (List.map eB (List.set y_1011 (i_1012).toNat false)) 4] | .inr (_) => R (.exit 6) ⟨63, [(1, .ptr 0 0 0), (3, .row 1 0 y_1011.length), (31, .int .i64 (y_1011.length : Int)), (32, .int .i64 i_1012)], []⟩ [.box [.vec c_0 (List.map eA16I64 l_0), .vec c_1 (List.map eI64 l_1)] 25, .mem 1 (List.map eB y_1011) 4]) →
  ALp Try.prog 0 B15_4 ⟨63, [(1, .ptr 0 0 0), (3, .row 1 0 y_1011.length), (6, .int .i64 i_1012), (31, .int .i64 (y_1011.length : Int)), (32, .int .i64 i_1012), (44, .agg (arrI .i64 x_1022)), (45, .int .i64 i_1027)], []⟩ [.box [.vec c_0 (List.map eA16I64 l_0), .vec c_1 (List.map eI64 l_1)] 25, .mem 1 (List.map eB y_1011) 4] R := by
 intro n
 induction n with
 | zero =>
  intro i_1027 o h _; exact no0 h
 | succ n ih =>
  intro i_1027 o h hp; rw [mini_Dead_L3] at h; refine ALp.round ?_; generalize hQ : RoundQ _ _ _ _ = QQ; simp only [B15_4, B15_3, B15_2, A15, go_sem, seval]; rcases iteS h with ⟨e_1029, h⟩ | ⟨e_1029, h⟩
  ·
   obtain ⟨x_1030, h_1031, h⟩ := bindS h; have e_1032 : List.take 1 (List.drop (i_1027).toNat (arrI .i64 x_1022)) = [.int .i64 x_1030] := arr_one h_1031; have e_1033 : ((0 : Int) ≤ i_1027) = True := arr_ge h_1031; have e_1034 : ((i_1027 : Int) < 16) = True := arr_lt h_1031; have e_1035 : ((i_1027).toNat + 1 ≤ 16) = True := arr_le h_1031; simp only [e_1029, e_1032, e_1033, e_1034, e_1035, go_sem, seval]; rcases iteS h with ⟨e_1037, h⟩ | ⟨e_1037, h⟩
   ·
    obtain ⟨x_1038, h_1039, h⟩ := bindS h; have e_1040 : (List.map eB y_1011)[(x_1030).toNat]? = some [.bool x_1038] := atI_map eB h_1039; have e_1041 := eq_true (atI_some h_1039).1; have e_1042 := eq_true (atI_lt h_1039); simp only [e_1029, e_1032, e_1033, e_1034, e_1035, e_1037, e_1040, e_1041, e_1042, go_sem, seval]; rcases iteB h with ⟨e_1044, h⟩ | ⟨e_1044, h⟩
    · simp only [e_1029, e_1032, e_1033, e_1034, e_1035, e_1037, e_1040, e_1041, e_1042, e_1044, go_sem, seval]; rw [← hQ]; exact ⟨_, _, (Ref.std [1, 3, 6, 31, 32, 44, 45] [0, 1] (by decide) low0 (by first | rfl | simp only [go_sem, seval]) (by first | rfl | simp only [go_sem, seval])), (Nat.zero_le _), ih _ _ h hp⟩
    · obtain ⟨x_1045, h_1046, h⟩ := bindS h; have e_1047 : (List.map eB y_1011)[(i_1012).toNat]? = some [.bool x_1045] := atI_map eB h_1046; have e_1048 := eq_true (atI_some h_1046).1; have e_1049 := eq_true (atI_lt h_1046); have e_1050 : (List.map eB y_1011).set (i_1012).toNat [.bool false] = List.map eB (List.set y_1011 (i_1012).toNat false) := set_map y_1011 eB (i_1012).toNat false; simp only [e_1029, e_1032, e_1033, e_1034, e_1035, e_1037, e_1040, e_1041, e_1042, e_1044, e_1047, e_1048, e_1049, e_1050, go_sem, seval]; cases h; rw [← hQ]; exact ⟨_, _, (Ref.std [1, 3] [0, 1] (by decide) low0 (by first | rfl | simp only [go_sem, seval]) (by first | rfl | simp only [go_sem, seval])), hp⟩
   · simp only [e_1029, e_1032, e_1033, e_1034, e_1035, e_1037, go_sem, seval]; rw [← hQ]; exact ⟨_, _, (Ref.std [1, 3, 6, 31, 32, 44, 45] [0, 1] (by decide) low0 (by first | rfl | simp only [go_sem, seval]) (by first | rfl | simp only [go_sem, seval])), (Nat.zero_le _), ih _ _ h hp⟩
  · simp only [e_1029, go_sem, seval]; cases h; rw [← hQ]; exact ⟨_, _, (Ref.std [1, 3, 31, 32] [0, 1] (by decide) low0 (by rfl) (by first | rfl | simp only [go_sem, seval])), hp⟩
theorem mini_Dead_L4_w (N : Nat) (y_1011 : List Bool) (l_0 : List (Vector Int 16)) (l_1 : List Int) (c_0 : Bool) (c_1 : Bool) {R : AExit → ATm → List AObj → Prop} : ∀ (n : Nat) (i_1012 : Int) (o : ((List Bool)) ⊕ (Unit)), mini_Dead_L4 N y_1011 l_0 l_1 n i_1012 = some o → (match o with | .inl z_1 => R (.exit 3) ⟨63, [(1, .ptr 0 0 0), (3, .row 1 0 z_1.length)], []⟩ [.box [.vec c_0 (List.map eA16I64 l_0), .vec c_1 (List.map eI64 l_1)] 25, .mem 1 (List.map eB z_1) 4] | .inr (_) => R (.exit 4) ⟨63, [(3, .row 0 0 y_1011.length)], []⟩ [.mem 1 (List.map eB y_1011) 4]) →
  ALp Try.prog 0 B15_3 ⟨63, [(1, .ptr 0 0 0), (3, .row 1 0 y_1011.length), (31, .int .i64 (y_1011.length : Int)), (32, .int .i64 i_1012)], []⟩ [.box [.vec c_0 (List.map eA16I64 l_0), .vec c_1 (List.map eI64 l_1)] 25, .mem 1 (List.map eB y_1011) 4] R := by
 intro n
 induction n with
 | zero =>
  intro i_1012 o h _; exact no0 h
 | succ n ih =>
  intro i_1012 o h hp; rw [mini_Dead_L4] at h; refine ALp.round ?_; generalize hQ : RoundQ _ _ _ _ = QQ; simp only [B15_3, B15_2, A15, go_sem, seval]; rcases iteS h with ⟨e_1014, h⟩ | ⟨e_1014, h⟩
  ·
   obtain ⟨x_1015, h_1016, h⟩ := bindS h; have e_1017 : (List.map eB y_1011)[(i_1012).toNat]? = some [.bool x_1015] := atI_map eB h_1016; have e_1018 := eq_true (atI_some h_1016).1; have e_1019 := eq_true (atI_lt h_1016); simp only [e_1014, e_1017, e_1018, e_1019, go_sem, seval]; rcases iteB h with ⟨e_1021, h⟩ | ⟨e_1021, h⟩
   ·
    obtain ⟨x_1022, h_1023, h⟩ := bindS h; have e_1024 : (List.map eA16I64 l_0)[(i_1012).toNat]? = some (arrI .i64 x_1022) := atI_map eA16I64 h_1023; have e_1025 := eq_true (atI_some h_1023).1; have e_1026 := eq_true (atI_lt h_1023); simp only [e_1014, e_1017, e_1018, e_1019, e_1021, e_1024, e_1025, e_1026, go_sem, seval]; obtain ⟨o_2028, h_2027, h⟩ := bindS h; refine ALp.ref (Ref.std [1, 3, 6, 31, 32, 44, 45] [0, 1] (by decide) low0 (by first | rfl | simp only [go_sem, seval]) (by first | rfl | simp only [go_sem, seval])) (Nat.zero_le _) (mini_Dead_L3_w N _ _ _ _ _ c_0 c_1 N _ o_2028 h_2027 ?_); rcases o_2028 with _ | _
    · (try dsimp only at h); refine LoopK_out rfl ?_; cases h; rw [← hQ]; exact ⟨_, _, (Ref.std [1, 3] [0, 1] (by decide) low0 (by first | rfl | simp only [go_sem, seval]) (by first | rfl | simp only [go_sem, seval])), hp⟩
    · (try dsimp only at h); refine LoopK_go rfl (Nat.zero_le _) ?_; simp only [e_1014, e_1017, e_1018, e_1019, e_1021, e_1024, e_1025, e_1026, go_sem, seval]; rw [← hQ]; exact ⟨_, _, (Ref.std [1, 3, 31, 32] [0, 1] (by decide) low0 rfl (by first | rfl | simp only [go_sem, seval])), (Nat.zero_le _), ih _ _ h hp⟩
   · simp only [e_1014, e_1017, e_1018, e_1019, e_1021, go_sem, seval]; rw [← hQ]; exact ⟨_, _, (Ref.std [1, 3, 31, 32] [0, 1] (by decide) low0 rfl (by first | rfl | simp only [go_sem, seval])), (Nat.zero_le _), ih _ _ h hp⟩
  · simp only [e_1014, go_sem, seval]; cases h; rw [← hQ]; exact ⟨_, _, (Ref.std [3] [1] (by decide) low0 rfl (by first | rfl | simp only [go_sem, seval])), hp⟩
theorem mini_Dead_L5_w (N : Nat) (l_0 : List (Vector Int 16)) (l_1 : List Int) (c_0 : Bool) (c_1 : Bool) {R : AExit → ATm → List AObj → Prop} : ∀ (n : Nat) (s_1012 : List Bool) (o : (List Bool)), mini_Dead_L5 N l_0 l_1 n s_1012 = some o → (match o with | z_1 => R (.exit 2) ⟨63, [(3, .row 0 0 z_1.length)], []⟩ [.mem 1 (List.map eB z_1) 4]) →
  ALp Try.prog 0 B15_2 ⟨63, [(1, .ptr 0 0 0), (3, .row 1 0 s_1012.length)], []⟩ [.box [.vec c_0 (List.map eA16I64 l_0), .vec c_1 (List.map eI64 l_1)] 25, .mem 1 (List.map eB s_1012) 4] R := by
 intro n
 induction n with
 | zero =>
  intro s_1012 o h _; exact no0 h
 | succ n ih =>
  intro s_1012 o h hp; rw [mini_Dead_L5] at h; refine ALp.round ?_; generalize hQ : RoundQ _ _ _ _ = QQ; simp only [B15_2, A15, go_sem, seval]; obtain ⟨o_2015, h_2013, h⟩ := bindS h; refine ALp.ref (Ref.std [1, 3, 31, 32] [0, 1] (by decide) low0 rfl (by first | rfl | simp only [go_sem, seval])) (Nat.zero_le _) (mini_Dead_L4_w N _ _ _ c_0 c_1 N _ o_2015 h_2013 ?_); rcases o_2015 with y_2014 | _
  · (try dsimp only at h); refine LoopK_go rfl (Nat.zero_le _) ?_; simp only [go_sem, seval]; rw [← hQ]; exact ⟨_, _, (Ref.std [1, 3] [0, 1] (by decide) low0 rfl (by first | rfl | simp only [go_sem, seval])), (Nat.zero_le _), ih _ _ h hp⟩
  · (try dsimp only at h); refine LoopK_go rfl (Nat.zero_le _) ?_; simp only [go_sem, seval]; cases h; rw [← hQ]; exact ⟨_, _, (Ref.std [3] [0] (by decide) low0 rfl (by first | rfl | simp only [go_sem, seval])), hp⟩
theorem mini_Dead_w (N : Nat) (l_0 : List (Vector Int 16)) (l_1 : List Int) (c_0 : Bool) (c_1 : Bool) (z_1 : List Bool) (h : mini_Dead N l_0 l_1 = some z_1) :
  ACalls Try.prog 15 [.agg [.vec c_0 (List.map eA16I64 l_0), .vec c_1 (List.map eI64 l_1)]] [] (fun e H => H = [] ∧ e = .ret (.vec false (List.map eB z_1))) := by
 unfold mini_Dead at h; refine ACalls.goN Try.func15 n15 a15 Try.ntmps15 r15 (by simp) 0 rfl ?_; generalize hQ : bodyA _ _ _ = QQ; obtain ⟨y_1, h_2, h⟩ := bindS h; simp only [A15, go_sem, seval, -List.reduceReplicate]; refine ACalls.go0 (dfa_Right_w N _ _ c_0 c_1 _ h_2) ?_; simp only [go_sem, seval, -List.reduceReplicate]; rcases iteB h with ⟨e_4, h⟩ | ⟨e_4, h⟩
 · obtain ⟨e_6, h⟩ := guardE h; obtain ⟨e_8, h⟩ := guardE h; have e_9 : List.replicate l_1.length [.bool false] = List.map eB (List.replicate l_1.length false) := rep_map _ eB false; simp only [e_4, e_6, e_8, e_9, go_sem, seval, -List.reduceReplicate]; obtain ⟨y_1011, h_1010, h⟩ := bindS h; refine ALp.ref (Ref.std [1, 3, 17, 18, 19] [0, 1] (by decide) low0 (by simp only [go_sem, seval, -List.reduceReplicate]) (by simp only [go_sem, seval, -List.reduceReplicate])) (Nat.zero_le _) (mini_Dead_L1_w N _ _ c_1 c_0 N _ _ y_1011 h_1010 ?_); refine LoopK_go rfl (Nat.zero_le _) ?_; simp only [e_4, e_6, e_8, e_9, go_sem, seval, -List.reduceReplicate]; obtain ⟨y_2013, h_2012, h⟩ := bindS h; refine ALp.ref (Ref.std [1, 3] [0, 1] (by decide) low0 rfl (by first | rfl | simp only [go_sem, seval, -List.reduceReplicate])) (Nat.zero_le _) (mini_Dead_L5_w N _ _ c_0 c_1 N _ y_2013 h_2012 ?_); refine LoopK_go rfl (Nat.zero_le _) ?_; simp only [e_4, e_6, e_8, e_9, go_sem, seval, -List.reduceReplicate]; obtain rfl := si h; rw [← hQ]; exact ⟨rfl, _, rfl, _, _, (RefV.trans (RefV.frz (Nat.zero_le _) (id := 0) rfl (pures_map y_2013 eB (fun _ => by first | rfl | simp only [eA16I64, go_sem]))) (RefV.out (by first | rfl | simp only [go_sem, seval, -List.reduceReplicate, e_4]))), rfl, rfl⟩
 · simp only [e_4, go_sem, seval, -List.reduceReplicate]; obtain rfl := si h; rw [← hQ]; exact ⟨rfl, _, rfl, _, _, (RefV.trans (RefV.out (v' := nn) rfl) (RefV.weak (Wks.cons Wk.vec Wks.nil) (WkH.refl _))), rfl, rfl⟩
theorem mini_alive_L3_w (N : Nat) (y_1 : List Bool) (i_3 : Int) (l_0 : List (Vector Int 16)) (x_7 : Vector Int 16) (l_1 : List Int) (s_4 : List (Vector Int 16)) (c_0 : Bool) (c_1 : Bool) {R : AExit → ATm → List AObj → Prop} : ∀ (n : Nat) (i_13 : Int) (v_14 : Vector Int 16) (o : (Vector Int 16)), mini_alive_L3 N y_1 i_3 l_0 x_7 l_1 s_4 n i_13 v_14 = some o → (match o with | z_1 => R (.exit 2) ⟨52, [(2, .ptr 0 0 0), (3, .vec false (List.map eB y_1)), (4, .ptr 1 0 0), (6, .ptr 3 0 0), (15, .vec c_0 (List.map eA16I64 l_0)), (16, .int .i64 (l_0.length : Int)), (17, .int .i64 i_3)], []⟩ [.box [nn, nn] 25, .box [.row 2 0 s_4.length, .vec c_1 (List.map eI64 l_1)] 25, .mem 16 (List.map eA16I64 s_4) 58, .box (arrI .i64 z_1) 58]) →
  ALp Try.prog 0 B42_2 ⟨52, [(2, .ptr 0 0 0), (3, .vec false (List.map eB y_1)), (4, .ptr 1 0 0), (5, .int .i64 i_3), (6, .ptr 3 0 0), (15, .vec c_0 (List.map eA16I64 l_0)), (16, .int .i64 (l_0.length : Int)), (17, .int .i64 i_3), (22, .agg (arrI .i64 x_7)), (23, .int .i64 i_13)], []⟩ [.box [nn, nn] 25, .box [.row 2 0 s_4.length, .vec c_1 (List.map eI64 l_1)] 25, .mem 16 (List.map eA16I64 s_4) 58, .box (arrI .i64 v_14) 58] R := by
 intro n
 induction n with
 | zero =>
  intro i_13 v_14 o h _; exact no0 h
 | succ n ih =>
  intro i_13 v_14 o h hp; rw [mini_alive_L3] at h; refine ALp.round ?_; generalize hQ : RoundQ _ _ _ _ = QQ; simp only [B42_2, B42_1, A42, go_sem, seval]; rcases iteS h with ⟨e_16, h⟩ | ⟨e_16, h⟩
  ·
   obtain ⟨x_17, h_18, h⟩ := bindS h; have e_19 : List.take 1 (List.drop (i_13).toNat (arrI .i64 x_7)) = [.int .i64 x_17] := arr_one h_18; have e_20 : ((0 : Int) ≤ i_13) = True := arr_ge h_18; have e_21 : ((i_13 : Int) < 16) = True := arr_lt h_18; have e_22 : ((i_13).toNat + 1 ≤ 16) = True := arr_le h_18; obtain ⟨x_23, h_24, h⟩ := bindS h; have e_25 : (List.map eB y_1)[(i_3).toNat]? = some [.bool x_23] := atI_map eB h_24; have e_26 := eq_true (atI_some h_24).1; have e_27 := eq_true (atI_lt h_24); simp only [e_16, e_19, e_20, e_21, e_22, e_25, e_26, e_27, go_sem, seval]; rcases iteB h with ⟨e_29, h⟩ | ⟨e_29, h⟩
   · obtain ⟨x_30, h_31, h⟩ := bindS h; have e_32 : List.take 1 (List.drop (i_13).toNat (arrI .i64 v_14)) = [.int .i64 x_30] := arr_one h_31; have e_33 : ((0 : Int) ≤ i_13) = True := arr_ge h_31; have e_34 : ((i_13 : Int) < 16) = True := arr_lt h_31; have e_35 : ((i_13).toNat + 1 ≤ 16) = True := arr_le h_31; simp only [e_16, e_19, e_20, e_21, e_22, e_25, e_26, e_27, e_29, e_32, e_33, e_34, e_35, go_sem, seval]; rw [← hQ]; exact ⟨_, _, (Ref.std [2, 3, 4, 5, 6, 15, 16, 17, 22, 23] [0, 1, 2, 3] (by decide) low0 (by first | rfl | simp only [go_sem, seval]) (by first | rfl | simp only [go_sem, seval])), (Nat.zero_le _), ih _ _ _ h hp⟩
   ·
    simp only [e_16, e_19, e_20, e_21, e_22, e_25, e_26, e_27, e_29, go_sem, seval]; rcases iteS h with ⟨e_37, h⟩ | ⟨e_37, h⟩
    ·
     obtain ⟨x_38, h_39, h⟩ := bindS h; have e_40 : (List.map eB y_1)[(x_17).toNat]? = some [.bool x_38] := atI_map eB h_39; have e_41 := eq_true (atI_some h_39).1; have e_42 := eq_true (atI_lt h_39); simp only [e_16, e_19, e_20, e_21, e_22, e_25, e_26, e_27, e_29, e_37, e_40, e_41, e_42, go_sem, seval]; rcases iteB h with ⟨e_44, h⟩ | ⟨e_44, h⟩
     · obtain ⟨x_45, h_46, h⟩ := bindS h; have e_47 : List.take 1 (List.drop (i_13).toNat (arrI .i64 v_14)) = [.int .i64 x_45] := arr_one h_46; have e_48 : ((0 : Int) ≤ i_13) = True := arr_ge h_46; have e_49 : ((i_13 : Int) < 16) = True := arr_lt h_46; have e_50 : ((i_13).toNat + 1 ≤ 16) = True := arr_le h_46; simp only [e_16, e_19, e_20, e_21, e_22, e_25, e_26, e_27, e_29, e_37, e_40, e_41, e_42, e_44, e_47, e_48, e_49, e_50, go_sem, seval]; rw [← hQ]; exact ⟨_, _, (Ref.std [2, 3, 4, 5, 6, 15, 16, 17, 22, 23] [0, 1, 2, 3] (by decide) low0 (by first | rfl | simp only [go_sem, seval]) (by first | rfl | simp only [go_sem, seval])), (Nat.zero_le _), ih _ _ _ h hp⟩
     · simp only [e_16, e_19, e_20, e_21, e_22, e_25, e_26, e_27, e_29, e_37, e_40, e_41, e_42, e_44, go_sem, seval]; rw [← hQ]; exact ⟨_, _, (Ref.std [2, 3, 4, 5, 6, 15, 16, 17, 22, 23] [0, 1, 2, 3] (by decide) low0 (by first | rfl | simp only [go_sem, seval]) (by first | rfl | simp only [go_sem, seval])), (Nat.zero_le _), ih _ _ _ h hp⟩
    · simp only [e_16, e_19, e_20, e_21, e_22, e_25, e_26, e_27, e_29, e_37, go_sem, seval]; rw [← hQ]; exact ⟨_, _, (Ref.std [2, 3, 4, 5, 6, 15, 16, 17, 22, 23] [0, 1, 2, 3] (by decide) low0 (by first | rfl | simp only [go_sem, seval]) (by first | rfl | simp only [go_sem, seval])), (Nat.zero_le _), ih _ _ _ h hp⟩
  · simp only [e_16, go_sem, seval]; cases h; rw [← hQ]; exact ⟨_, _, (Ref.std [2, 3, 4, 6, 15, 16, 17] [0, 1, 2, 3] (by decide) low0 (by rfl) (by first | rfl | simp only [go_sem, seval])), hp⟩
theorem mini_alive_L4_w (N : Nat) (y_1 : List Bool) (l_0 : List (Vector Int 16)) (l_1 : List Int) (c_0 : Bool) (c_1 : Bool) {R : AExit → ATm → List AObj → Prop} : ∀ (n : Nat) (i_3 : Int) (s_4 : List (Vector Int 16)) (o : (List (Vector Int 16))), mini_alive_L4 N y_1 l_0 l_1 n i_3 s_4 = some o → (match o with | z_1 => R (.exit 0) ⟨52, [(2, .ptr 0 0 0), (4, .ptr 1 0 0)], []⟩ [.box [nn, nn] 25, .box [.row 2 0 z_1.length, .vec c_1 (List.map eI64 l_1)] 25, .mem 16 (List.map eA16I64 z_1) 58]) →
  ALp Try.prog 0 B42_1 ⟨52, [(2, .ptr 0 0 0), (3, .vec false (List.map eB y_1)), (4, .ptr 1 0 0), (15, .vec c_0 (List.map eA16I64 l_0)), (16, .int .i64 (l_0.length : Int)), (17, .int .i64 i_3)], []⟩ [.box [nn, nn] 25, .box [.row 2 0 s_4.length, .vec c_1 (List.map eI64 l_1)] 25, .mem 16 (List.map eA16I64 s_4) 58] R := by
 intro n
 induction n with
 | zero =>
  intro i_3 s_4 o h _; exact no0 h
 | succ n ih =>
  intro i_3 s_4 o h hp; rw [mini_alive_L4] at h; refine ALp.round ?_; generalize hQ : RoundQ _ _ _ _ = QQ; simp only [B42_1, A42, go_sem, seval]; rcases iteS h with ⟨e_6, h⟩ | ⟨e_6, h⟩
  · obtain ⟨x_7, h_8, h⟩ := bindS h; have e_9 : (List.map eA16I64 l_0)[(i_3).toNat]? = some (arrI .i64 x_7) := atI_map eA16I64 h_8; have e_10 := eq_true (atI_some h_8).1; have e_11 := eq_true (atI_lt h_8); have e_12 : splice (arrI .i64 (Vector.replicate 16 (0 : Int))) 0 (arrI .i64 x_7) = (arrI .i64 x_7) := arr_put (by decide); simp only [e_6, e_9, e_10, e_11, e_12, go_sem, seval]; obtain ⟨y_1014, h_1013, h⟩ := bindS h; refine ALp.ref (Ref.std [2, 3, 4, 5, 6, 15, 16, 17, 22, 23] [0, 1, 2, 3] (by decide) low0 (by first | rfl | simp only [go_sem, seval]) (by first | rfl | simp only [go_sem, seval])) (Nat.zero_le _) (mini_alive_L3_w N _ _ _ _ _ _ c_0 c_1 N _ _ y_1014 h_1013 ?_); refine LoopK_go rfl (Nat.zero_le _) ?_; have e_1015 := tk eA16I64 s_4; have e_1016 : (List.map eA16I64 s_4) ++ [(arrI .i64 y_1014)] = (List.map eA16I64 (s_4 ++ [y_1014])) := app_map s_4 ([y_1014]) eA16I64; obtain ⟨e_1018, h⟩ := guardE h; simp only [e_6, e_9, e_10, e_11, e_12, e_1015, e_1016, e_1018, go_sem, seval]; rw [← hQ]; exact ⟨_, _, (Ref.std [2, 3, 4, 15, 16, 17] [0, 1, 4] (by decide) low0 (by rfl) (by first | rfl | simp only [go_sem, seval])), (Nat.zero_le _), ih _ _ _ h hp⟩
  · simp only [e_6, go_sem, seval]; cases h; rw [← hQ]; exact ⟨_, _, (Ref.std [2, 4] [0, 1, 2] (by decide) low0 rfl (by first | rfl | simp only [go_sem, seval])), hp⟩
theorem mini_alive_w (N : Nat) (l_0 : List (Vector Int 16)) (l_1 : List Int) (c_0 : Bool) (c_1 : Bool) (z_1 : List (Vector Int 16)) (z_2 : List Int) (h : mini_alive N l_0 l_1 = some (z_1, z_2)) :
  ACalls Try.prog 42 [.agg [.vec c_0 (List.map eA16I64 l_0), .vec c_1 (List.map eI64 l_1)]] [] (fun e H => H = [] ∧ e = .ret (.agg [.vec false (List.map eA16I64 z_1), .vec false (List.map eI64 z_2)])) := by
 unfold mini_alive at h; refine ACalls.goN Try.func42 n42 a42 Try.ntmps42 r42 (by simp) 0 rfl ?_; generalize hQ : bodyA _ _ _ = QQ; obtain ⟨y_1, h_2, h⟩ := bindS h; simp only [A42, go_sem, seval]; refine ACalls.go0 (mini_Dead_w N _ _ c_0 c_1 _ h_2) ?_; simp only [go_sem, seval]; obtain ⟨y_1004, h_1003, h⟩ := bindS h; refine ALp.ref (Ref.trans (Ref.thawB (Nat.zero_le _) (id := 2) 0 rfl rfl (sz := 16) (by decide) 58) (Ref.std [2, 3, 4, 15, 16, 17] [1, 2, 3] (by decide) low0 rfl (by first | rfl | simp only [go_sem, seval]))) (Nat.zero_le _) (mini_alive_L4_w N _ _ _ c_0 c_1 N _ _ y_1004 h_1003 ?_); refine LoopK_go rfl (Nat.zero_le _) ?_; simp only [go_sem, seval]; obtain ⟨rfl, rfl⟩ := pj (si h); rw [← hQ]; exact ⟨rfl, _, rfl, _, _, (RefV.trans (RefV.frz (Nat.zero_le _) (id := 2) rfl (pures_map y_1004 eA16I64 (fun _ => by first | rfl | simp only [eA16I64, go_sem]))) (RefV.trans (RefV.out (v' := .agg [.vec false (List.map eA16I64 y_1004), .vec c_1 (List.map eI64 l_1)]) (by first | rfl | simp only [go_sem, seval])) (RefV.weak (Wks.cons (Wk.agg (Wks.cons (Wk.refl _) (Wks.cons Wk.vec (Wks.nil)))) Wks.nil) (WkH.refl _)))), rfl, rfl⟩
theorem slices_Clone_intint_w (N : Nat) (l_0 : List Int) (c_0 : Bool) (z_1 : List Int) (h : slices_Clone_intint N l_0 = some z_1) :
  ACalls Try.prog 58 [.vec c_0 (List.map eI64 l_0)] [] (fun e H => H = [] ∧ e = .ret (.vec false (List.map eI64 z_1))) := by
 unfold slices_Clone_intint at h; refine ACalls.goN Try.func58 n58 a58 Try.ntmps58 r58 (by simp) 0 rfl ?_; generalize hQ : bodyA _ _ _ = QQ; simp only [A58, go_sem, seval]; by_cases h_1 : l_0 = []
 ·
  rw [if_pos h_1] at h; have e_2 : l_0 = [] := h_1; simp only [e_2, go_sem, seval]; refine ⟨?_, ?_⟩
  · (try simp only [e_2, go_sem, seval]); obtain rfl := si h; rw [← hQ]; exact ⟨rfl, _, rfl, _, _, (RefV.trans (RefV.out (v' := nn) rfl) (RefV.weak (Wks.cons Wk.vec Wks.nil) (WkH.refl _))), rfl, rfl⟩
  · (try simp only [e_2, go_sem, seval]); obtain rfl := si h; rw [← hQ]; exact ⟨rfl, _, rfl, _, _, (RefV.trans (RefV.frz (Nat.zero_le _) (id := 0) rfl (pures_map ([]) eI64 (fun _ => by first | rfl | simp only [eA16I64, go_sem]))) (RefV.out (by first | rfl | simp only [go_sem, seval, e_2]))), rfl, rfl⟩
 · rw [if_neg h_1] at h; have e_2 : (l_0.length = 0) = False ∧ (0 < l_0.length) = True := ⟨eq_false (fun q => h_1 (List.eq_nil_of_length_eq_zero q)), eq_true (Nat.pos_of_ne_zero (fun q => h_1 (List.eq_nil_of_length_eq_zero q)))⟩; have e_3 : ((List.map eI64 l_0)).all (fun el => el.length == 1) = true := all_len _ eI64 1 (fun _ => by first | rfl | simp only [eA16I64, go_sem]); obtain ⟨e_5, h⟩ := guardE h; simp only [e_2, e_3, e_5, go_sem, seval]; obtain rfl := si h; rw [← hQ]; exact ⟨rfl, _, rfl, _, _, (RefV.trans (RefV.frz (Nat.zero_le _) (id := 0) rfl (pures_map l_0 eI64 (fun _ => by first | rfl | simp only [eA16I64, go_sem]))) (RefV.out (by first | rfl | simp only [go_sem, seval, e_2]))), rfl, rfl⟩
theorem mini_refine_L2_w (N : Nat) (l_2 : List Int) (i_6 : Int) (x_19 : Vector Int 16) (l_0 : List (Vector Int 16)) (l_1 : List Int) (m_7 : List (Vector Int 17 × Int)) (s_8 : List Int) (c_2 : Bool) (c_0 : Bool) (c_1 : Bool) {R : AExit → ATm → List AObj → Prop} : ∀ (n : Nat) (i_24 : Int) (v_25 : Vector Int 17) (o : (Vector Int 17)), mini_refine_L2 N l_2 i_6 x_19 l_0 l_1 m_7 s_8 n i_24 v_25 = some o → (match o with | z_1 => R (.exit 2) ⟨69, [(1, .vec c_2 (List.map eI64 l_2)), (2, .ptr 0 0 0), (6, .map 1), (7, .row 2 0 s_8.length), (8, .int .i64 i_6), (9, .ptr 3 0 0), (19, .int .i64 (l_2.length : Int)), (20, .int .i64 i_6)], []⟩ [.box [.vec c_0 (List.map eA16I64 l_0), .vec c_1 (List.map eI64 l_1)] 25, .map (List.map (mpA .i64 .i64) m_7) 0, .mem 1 (List.map eI64 s_8) 3, .box (arrI .i64 z_1) 110]) →
  ALp Try.prog 0 B59_2 ⟨69, [(1, .vec c_2 (List.map eI64 l_2)), (2, .ptr 0 0 0), (6, .map 1), (7, .row 2 0 s_8.length), (8, .int .i64 i_6), (9, .ptr 3 0 0), (19, .int .i64 (l_2.length : Int)), (20, .int .i64 i_6), (32, .agg (arrI .i64 x_19)), (33, .int .i64 i_24)], []⟩ [.box [.vec c_0 (List.map eA16I64 l_0), .vec c_1 (List.map eI64 l_1)] 25, .map (List.map (mpA .i64 .i64) m_7) 0, .mem 1 (List.map eI64 s_8) 3, .box (arrI .i64 v_25) 110] R := by
 intro n
 induction n with
 | zero =>
  intro i_24 v_25 o h _; exact no0 h
 | succ n ih =>
  intro i_24 v_25 o h hp; rw [mini_refine_L2] at h; refine ALp.round ?_; generalize hQ : RoundQ _ _ _ _ = QQ; simp only [B59_2, B59_1, A59, go_sem, seval]; rcases iteS h with ⟨e_27, h⟩ | ⟨e_27, h⟩
  ·
   obtain ⟨x_28, h_29, h⟩ := bindS h; have e_30 : List.take 1 (List.drop (i_24).toNat (arrI .i64 x_19)) = [.int .i64 x_28] := arr_one h_29; have e_31 : ((0 : Int) ≤ i_24) = True := arr_ge h_29; have e_32 : ((i_24 : Int) < 16) = True := arr_lt h_29; have e_33 : ((i_24).toNat + 1 ≤ 16) = True := arr_le h_29; obtain ⟨x_34, h_35, h⟩ := bindS h; have e_36 : List.take 1 (List.drop (i_24).toNat (arrI .i64 v_25)) = [.int .i64 x_34] := arr_one h_35; have e_37 : ((0 : Int) ≤ i_24) = True := arr_ge h_35; have e_38 : ((i_24 : Int) < 17) = True := arr_lt h_35; have e_39 : ((i_24).toNat + 1 ≤ 17) = True := arr_le h_35; simp only [e_27, e_30, e_31, e_32, e_33, e_36, e_37, e_38, e_39, go_sem, seval]; rcases iteS h with ⟨e_41, h⟩ | ⟨e_41, h⟩
   · obtain ⟨x_42, h_43, h⟩ := bindS h; have e_44 : (List.map eI64 l_2)[(x_28).toNat]? = some [.int .i64 x_42] := atI_map eI64 h_43; have e_45 := eq_true (atI_some h_43).1; have e_46 := eq_true (atI_lt h_43); obtain ⟨x_47, h_48, h⟩ := bindS h; have e_49 : List.take 1 (List.drop (i_24).toNat (arrI .i64 (Vector.setIfInBounds v_25 (i_24).toNat (-1)))) = [.int .i64 x_47] := arr_one h_48; have e_50 : ((0 : Int) ≤ i_24) = True := arr_ge h_48; have e_51 : ((i_24 : Int) < 17) = True := arr_lt h_48; have e_52 : ((i_24).toNat + 1 ≤ 17) = True := arr_le h_48; simp only [e_27, e_30, e_31, e_32, e_33, e_36, e_37, e_38, e_39, e_41, e_44, e_45, e_46, e_49, e_50, e_51, e_52, go_sem, seval]; rw [← hQ]; exact ⟨_, _, (Ref.std [1, 2, 6, 7, 8, 9, 19, 20, 32, 33] [0, 1, 2, 3] (by decide) low0 (by first | rfl | simp only [go_sem, seval]) (by first | rfl | simp only [go_sem, seval])), (Nat.zero_le _), ih _ _ _ h hp⟩
   · simp only [e_27, e_30, e_31, e_32, e_33, e_36, e_37, e_38, e_39, e_41, go_sem, seval]; rw [← hQ]; exact ⟨_, _, (Ref.std [1, 2, 6, 7, 8, 9, 19, 20, 32, 33] [0, 1, 2, 3] (by decide) low0 (by first | rfl | simp only [go_sem, seval]) (by first | rfl | simp only [go_sem, seval])), (Nat.zero_le _), ih _ _ _ h hp⟩
  · simp only [e_27, go_sem, seval]; cases h; rw [← hQ]; exact ⟨_, _, (Ref.std [1, 2, 6, 7, 8, 9, 19, 20] [0, 1, 2, 3] (by decide) low0 (by rfl) (by first | rfl | simp only [go_sem, seval])), hp⟩
theorem mini_refine_L3_w (N : Nat) (l_2 : List Int) (l_0 : List (Vector Int 16)) (l_1 : List Int) (c_2 : Bool) (c_0 : Bool) (c_1 : Bool) {R : AExit → ATm → List AObj → Prop} : ∀ (n : Nat) (i_6 : Int) (m_7 : List (Vector Int 17 × Int)) (s_8 : List Int) (o : (List (Vector Int 17 × Int)) × (List Int)), mini_refine_L3 N l_2 l_0 l_1 n i_6 m_7 s_8 = some o → (match o with | (z_1, z_2) => R (.exit 0) ⟨69, [(6, .map 0), (7, .row 1 0 z_2.length)], []⟩ [.map (List.map (mpA .i64 .i64) z_1) 0, .mem 1 (List.map eI64 z_2) 3]) →
  ALp Try.prog 0 B59_1 ⟨69, [(1, .vec c_2 (List.map eI64 l_2)), (2, .ptr 0 0 0), (6, .map 1), (7, .row 2 0 s_8.length), (19, .int .i64 (l_2.length : Int)), (20, .int .i64 i_6)], []⟩ [.box [.vec c_0 (List.map eA16I64 l_0), .vec c_1 (List.map eI64 l_1)] 25, .map (List.map (mpA .i64 .i64) m_7) 0, .mem 1 (List.map eI64 s_8) 3] R := by
 intro n
 induction n with
 | zero =>
  intro i_6 m_7 s_8 o h _; exact no0 h
 | succ n ih =>
  intro i_6 m_7 s_8 o h hp; rw [mini_refine_L3] at h; refine ALp.round ?_; generalize hQ : RoundQ _ _ _ _ = QQ; simp only [B59_1, A59, go_sem, seval]; rcases iteS h with ⟨e_10, h⟩ | ⟨e_10, h⟩
  ·
   obtain ⟨x_11, h_12, h⟩ := bindS h; have e_13 : (List.map eI64 l_2)[(i_6).toNat]? = some [.int .i64 x_11] := atI_map eI64 h_12; have e_14 := eq_true (atI_some h_12).1; have e_15 := eq_true (atI_lt h_12); obtain ⟨x_16, h_17, h⟩ := bindS h; have e_18 : List.take 1 (List.drop 16 (arrI .i64 (Vector.replicate 17 (0 : Int)))) = [.int .i64 x_16] := arr_one (k := .i64) (i := 16) h_17; obtain ⟨x_19, h_20, h⟩ := bindS h; have e_21 : (List.map eA16I64 l_0)[(i_6).toNat]? = some (arrI .i64 x_19) := atI_map eA16I64 h_20; have e_22 := eq_true (atI_some h_20).1; have e_23 := eq_true (atI_lt h_20); simp only [e_10, e_13, e_14, e_15, e_18, e_21, e_22, e_23, go_sem, seval]; obtain ⟨y_1025, h_1024, h⟩ := bindS h; refine ALp.ref (Ref.std [1, 2, 6, 7, 8, 9, 19, 20, 32, 33] [0, 1, 2, 3] (by decide) low0 (by first | rfl | simp only [go_sem, seval]) (by first | rfl | simp only [go_sem, seval])) (Nat.zero_le _) (mini_refine_L2_w N _ _ _ _ _ _ _ c_2 c_0 c_1 N _ _ y_1025 h_1024 ?_); refine LoopK_go rfl (Nat.zero_le _) ?_; have e_1026 : mlk0 true 17 true (.int .i64 0) (.agg (arrI .i64 y_1025)) (List.map (mpA .i64 .i64) m_7) = some (.tup [.int .i64 (mget m_7 y_1025), .bool (mhas m_7 y_1025)]) := mlk_A m_7 y_1025; simp only [e_10, e_13, e_14, e_15, e_18, e_21, e_22, e_23, e_1026, go_sem, seval]; by_cases h_1027 : (mhas m_7 y_1025) = true
   · rw [if_pos h_1027] at h; have e_1028 : (mhas m_7 y_1025) = true := h_1027; obtain ⟨x_1029, h_1030, h⟩ := bindS h; have e_1031 : (List.map eI64 s_8)[(i_6).toNat]? = some [.int .i64 x_1029] := atI_map eI64 h_1030; have e_1032 := eq_true (atI_some h_1030).1; have e_1033 := eq_true (atI_lt h_1030); have e_1034 : (List.map eI64 s_8).set (i_6).toNat [.int .i64 (mget m_7 y_1025)] = List.map eI64 (List.set s_8 (i_6).toNat (mget m_7 y_1025)) := set_map s_8 eI64 (i_6).toNat (mget m_7 y_1025); simp only [e_10, e_13, e_14, e_15, e_18, e_21, e_22, e_23, e_1026, e_1028, e_1031, e_1032, e_1033, e_1034, go_sem, seval]; rw [← hQ]; exact ⟨_, _, (Ref.std [1, 2, 6, 7, 19, 20] [0, 1, 2] (by decide) low0 (by first | rfl | simp only [go_sem, seval]) (by first | rfl | simp only [go_sem, seval])), (Nat.zero_le _), ih _ _ _ _ h hp⟩
   · rw [if_neg h_1027] at h; have e_1028 : (mhas m_7 y_1025) = false := bfalse h_1027; have e_1035 : mup0 true 17 (.agg (arrI .i64 y_1025)) (.int .i64 (m_7.length : Int)) (List.map (mpA .i64 .i64) m_7) = some (List.map (mpA .i64 .i64) (mput m_7 y_1025 (m_7.length : Int))) := mup_A m_7 y_1025 (m_7.length : Int); obtain ⟨x_1036, h_1037, h⟩ := bindS h; have e_1038 : (List.map eI64 s_8)[(i_6).toNat]? = some [.int .i64 x_1036] := atI_map eI64 h_1037; have e_1039 := eq_true (atI_some h_1037).1; have e_1040 := eq_true (atI_lt h_1037); have e_1041 : (List.map eI64 s_8).set (i_6).toNat [.int .i64 (m_7.length : Int)] = List.map eI64 (List.set s_8 (i_6).toNat (m_7.length : Int)) := set_map s_8 eI64 (i_6).toNat (m_7.length : Int); simp only [e_10, e_13, e_14, e_15, e_18, e_21, e_22, e_23, e_1026, e_1028, e_1035, e_1038, e_1039, e_1040, e_1041, go_sem, seval]; rw [← hQ]; exact ⟨_, _, (Ref.std [1, 2, 6, 7, 19, 20] [0, 1, 2] (by decide) low0 (by first | rfl | simp only [go_sem, seval]) (by first | rfl | simp only [go_sem, seval])), (Nat.zero_le _), ih _ _ _ _ h hp⟩
  · simp only [e_10, go_sem, seval]; cases h; rw [← hQ]; exact ⟨_, _, (Ref.std [6, 7] [1, 2] (by decide) low0 rfl (by first | rfl | simp only [go_sem, seval])), hp⟩
theorem mini_refine_w (N : Nat) (l_0 : List (Vector Int 16)) (l_1 : List Int) (l_2 : List Int) (c_0 : Bool) (c_1 : Bool) (c_2 : Bool) (z_1 : List Int) (z_2 : Int) (h : mini_refine N l_0 l_1 l_2 = some (z_1, z_2)) :
  ACalls Try.prog 59 [.agg [.vec c_0 (List.map eA16I64 l_0), .vec c_1 (List.map eI64 l_1)], .vec c_2 (List.map eI64 l_2)] [] (fun e H => H = [] ∧ e = .ret (.tup [.vec false (List.map eI64 z_1), .int .i64 z_2])) := by
 unfold mini_refine at h; refine ACalls.goN Try.func59 n59 a59 Try.ntmps59 r59 (by simp) 0 rfl ?_; generalize hQ : bodyA _ _ _ = QQ; obtain ⟨e_2, h⟩ := guardE h; obtain ⟨e_4, h⟩ := guardE h; have e_5 : List.replicate l_2.length [.int .i64 0] = List.map eI64 (List.replicate l_2.length 0) := rep_map _ eI64 0; simp only [A59, e_2, e_4, e_5, go_sem, seval, -List.reduceReplicate]; obtain ⟨⟨y_1007, y_1008⟩, h_1006, h⟩ := bindS h; (try dsimp only at h); refine ALp.ref (Ref.std [1, 2, 6, 7, 19, 20] [0, 1, 2] (by decide) low0 (by simp only [go_sem, seval, -List.reduceReplicate]) (by simp only [go_sem, seval, -List.reduceReplicate])) (Nat.zero_le _) (mini_refine_L3_w N _ _ _ c_2 c_0 c_1 N _ _ _ _ h_1006 ?_); refine LoopK_go rfl (Nat.zero_le _) ?_; simp only [e_2, e_4, e_5, go_sem, seval, -List.reduceReplicate]; obtain ⟨rfl, rfl⟩ := pj (si h); rw [← hQ]; exact ⟨rfl, _, rfl, _, _, (RefV.trans (RefV.frz (Nat.zero_le _) (id := 1) rfl (pures_map y_1008 eI64 (fun _ => by first | rfl | simp only [eA16I64, go_sem]))) (RefV.out (by first | rfl | simp only [go_sem, seval, -List.reduceReplicate]))), rfl, rfl⟩
theorem mini_classes_L1_w (N : Nat) (y_1 : List (Vector Int 16)) (y_2 : List Int) {R : AExit → ATm → List AObj → Prop} : ∀ (n : Nat) (s_6 : List Int) (i_7 : Int) (o : (List Int)), mini_classes_L1 N y_1 y_2 n s_6 i_7 = some o → (match o with | z_1 => R .ret ⟨24, [(2, .vec false (List.map eI64 z_1))], []⟩ []) →
  ALp Try.prog 0 B40_1 ⟨24, [(1, .ptr 0 0 0), (3, .vec false (List.map eI64 s_6)), (4, .int .i64 i_7)], []⟩ [.box [.vec false (List.map eA16I64 y_1), .vec false (List.map eI64 y_2)] 25] R := by
 intro n
 induction n with
 | zero =>
  intro s_6 i_7 o h _; exact no0 h
 | succ n ih =>
  intro s_6 i_7 o h hp; rw [mini_classes_L1] at h; refine ALp.round ?_; generalize hQ : RoundQ _ _ _ _ = QQ; obtain ⟨⟨y_8, y_9⟩, h_10, h⟩ := bindS h; (try dsimp only at h); simp only [B40_1, A40, go_sem, seval]; refine ACalls.go0 (mini_refine_w N _ _ _ false false false _ _ h_10) ?_; simp only [go_sem, seval]; rcases iteS h with ⟨e_12, h⟩ | ⟨e_12, h⟩
  · simp only [e_12, go_sem, seval]; cases h; rw [← hQ]; exact ⟨_, _, (Ref.out [2] rfl), hp⟩
  · simp only [e_12, go_sem, seval]; rw [← hQ]; exact ⟨_, _, (Ref.std [1, 3, 4] [0] (by decide) low0 rfl rfl), (Nat.zero_le _), ih _ _ _ h hp⟩
theorem mini_classes_w (N : Nat) (l_0 : List (Vector Int 16)) (l_1 : List Int) (c_0 : Bool) (c_1 : Bool) (z_1 : List Int) (h : mini_classes N l_0 l_1 = some z_1) :
  ACalls Try.prog 40 [.agg [.vec c_0 (List.map eA16I64 l_0), .vec c_1 (List.map eI64 l_1)]] [] (fun e H => H = [] ∧ e = .ret (.vec false (List.map eI64 z_1))) := by
 unfold mini_classes at h; refine ACalls.goN Try.func40 n40 a40 Try.ntmps40 r40 (by simp) 0 rfl ?_; generalize hQ : bodyA _ _ _ = QQ; obtain ⟨⟨y_1, y_2⟩, h_3, h⟩ := bindS h; (try dsimp only at h); simp only [A40, go_sem, seval]; refine ACalls.go0 (mini_alive_w N _ _ c_0 c_1 _ _ h_3) ?_; obtain ⟨y_4, h_5, h⟩ := bindS h; simp only [go_sem, seval]; refine ACalls.go0 (slices_Clone_intint_w N _ false _ h_5) ?_; simp only [go_sem, seval]; obtain ⟨y_1007, h_1006, h⟩ := bindS h; refine ALp.ref (Ref.std [1, 3, 4] [0] (by decide) low0 rfl rfl) (Nat.zero_le _) (mini_classes_L1_w N _ _ N _ _ y_1007 h_1006 ?_); refine LoopK_ret ?_; obtain rfl := si h; rw [← hQ]; exact ⟨rfl, _, rfl, _, _, (RefV.out rfl), rfl, rfl⟩
theorem mini_Alike_L3_w (N : Nat) (y_5 : List Int) (x_11 : Int) (i_7 : Int) (s_8 : List (List Bool)) {R : AExit → ATm → List AObj → Prop} : ∀ (n : Nat) (i_21 : Int) (s_22 : List Bool) (o : (List Bool)), mini_Alike_L3 N y_5 x_11 i_7 s_8 n i_21 s_22 = some o → (match o with | z_1 => R (.exit 2) ⟨44, [(3, .vec false (List.map eI64 y_5)), (4, .row 0 0 s_8.length), (7, .row 1 0 z_1.length), (15, .vec false (List.map eI64 y_5)), (16, .int .i64 (y_5.length : Int)), (17, .int .i64 i_7)], []⟩ [.mem 1 (List.map eLB s_8) 30, .mem 1 (List.map eB z_1) 4]) →
  ALp Try.prog 0 B14_2 ⟨44, [(3, .vec false (List.map eI64 y_5)), (4, .row 0 0 s_8.length), (6, .int .i64 x_11), (7, .row 1 0 s_22.length), (15, .vec false (List.map eI64 y_5)), (16, .int .i64 (y_5.length : Int)), (17, .int .i64 i_7), (24, .vec false (List.map eI64 y_5)), (25, .int .i64 (y_5.length : Int)), (26, .int .i64 i_21)], []⟩ [.mem 1 (List.map eLB s_8) 30, .mem 1 (List.map eB s_22) 4] R := by
 intro n
 induction n with
 | zero =>
  intro i_21 s_22 o h _; exact no0 h
 | succ n ih =>
  intro i_21 s_22 o h hp; rw [mini_Alike_L3] at h; refine ALp.round ?_; generalize hQ : RoundQ _ _ _ _ = QQ; simp only [B14_2, B14_1, A14, go_sem, seval]; rcases iteS h with ⟨e_24, h⟩ | ⟨e_24, h⟩
  · obtain ⟨x_25, h_26, h⟩ := bindS h; have e_27 : (List.map eI64 y_5)[(i_21).toNat]? = some [.int .i64 x_25] := atI_map eI64 h_26; have e_28 := eq_true (atI_some h_26).1; have e_29 := eq_true (atI_lt h_26); obtain ⟨x_30, h_31, h⟩ := bindS h; have e_32 : (List.map eB s_22)[(i_21).toNat]? = some [.bool x_30] := atI_map eB h_31; have e_33 := eq_true (atI_some h_31).1; have e_34 := eq_true (atI_lt h_31); have e_35 : (List.map eB s_22).set (i_21).toNat [.bool (decide (x_11 = x_25))] = List.map eB (List.set s_22 (i_21).toNat (decide (x_11 = x_25))) := set_map s_22 eB (i_21).toNat (decide (x_11 = x_25)); simp only [e_24, e_27, e_28, e_29, e_32, e_33, e_34, e_35, go_sem, seval]; rw [← hQ]; exact ⟨_, _, (Ref.std [3, 4, 6, 7, 15, 16, 17, 24, 25, 26] [0, 1] (by decide) low0 (by first | rfl | simp only [go_sem, seval]) (by first | rfl | simp only [go_sem, seval])), (Nat.zero_le _), ih _ _ _ h hp⟩
  · simp only [e_24, go_sem, seval]; cases h; rw [← hQ]; exact ⟨_, _, (Ref.std [3, 4, 7, 15, 16, 17] [0, 1] (by decide) low0 rfl (by first | rfl | simp only [go_sem, seval])), hp⟩
theorem mini_Alike_L4_w (N : Nat) (y_5 : List Int) {R : AExit → ATm → List AObj → Prop} : ∀ (n : Nat) (i_7 : Int) (s_8 : List (List Bool)) (o : (List (List Bool))), mini_Alike_L4 N y_5 n i_7 s_8 = some o → (match o with | z_1 => R (.exit 0) ⟨44, [(4, .row 0 0 z_1.length)], []⟩ [.mem 1 (List.map eLB z_1) 30]) →
  ALp Try.prog 0 B14_1 ⟨44, [(3, .vec false (List.map eI64 y_5)), (4, .row 0 0 s_8.length), (15, .vec false (List.map eI64 y_5)), (16, .int .i64 (y_5.length : Int)), (17, .int .i64 i_7)], []⟩ [.mem 1 (List.map eLB s_8) 30] R := by
 intro n
 induction n with
 | zero =>
  intro i_7 s_8 o h _; exact no0 h
 | succ n ih =>
  intro i_7 s_8 o h hp; rw [mini_Alike_L4] at h; refine ALp.round ?_; generalize hQ : RoundQ _ _ _ _ = QQ; simp only [B14_1, A14, go_sem, seval, -List.reduceReplicate]; rcases iteS h with ⟨e_10, h⟩ | ⟨e_10, h⟩
  · obtain ⟨x_11, h_12, h⟩ := bindS h; have e_13 : (List.map eI64 y_5)[(i_7).toNat]? = some [.int .i64 x_11] := atI_map eI64 h_12; have e_14 := eq_true (atI_some h_12).1; have e_15 := eq_true (atI_lt h_12); obtain ⟨e_17, h⟩ := guardE h; obtain ⟨e_19, h⟩ := guardE h; have e_20 : List.replicate y_5.length [.bool false] = List.map eB (List.replicate y_5.length false) := rep_map _ eB false; simp only [e_10, e_13, e_14, e_15, e_17, e_19, e_20, go_sem, seval, -List.reduceReplicate]; obtain ⟨y_1022, h_1021, h⟩ := bindS h; refine ALp.ref (Ref.std [3, 4, 6, 7, 15, 16, 17, 24, 25, 26] [0, 1] (by decide) low0 (by simp only [go_sem, seval, -List.reduceReplicate]) (by simp only [go_sem, seval, -List.reduceReplicate])) (Nat.zero_le _) (mini_Alike_L3_w N _ _ _ _ N _ _ y_1022 h_1021 ?_); refine LoopK_ref rfl (ta1 := ⟨44, [(3, .vec false (List.map eI64 y_5)), (4, .row 0 0 s_8.length), (7, .vec false (List.map eB y_1022)), (15, .vec false (List.map eI64 y_5)), (16, .int .i64 (y_5.length : Int)), (17, .int .i64 i_7)], []⟩) (H1 := [.mem 1 (List.map eLB s_8) 30]) (Ref.trans (Ref.frz (Nat.zero_le _) (id := 1) rfl (pures_map y_1022 eB (fun _ => by first | rfl | simp only [eA16I64, go_sem]))) (Ref.std [3, 4, 7, 15, 16, 17] [0] (by decide) low0 (by first | rfl | simp only [go_sem, seval, -List.reduceReplicate]) (by first | rfl | simp only [go_sem, seval, -List.reduceReplicate]))) (Nat.zero_le _) ?_; have e_1023 := tk eLB s_8; have e_1024 : (List.map eLB s_8) ++ [[.vec false (List.map eB y_1022)]] = (List.map eLB (s_8 ++ [y_1022])) := app_map s_8 ([y_1022]) eLB; obtain ⟨e_1026, h⟩ := guardE h; simp only [e_10, e_13, e_14, e_15, e_17, e_19, e_20, e_1023, e_1024, e_1026, go_sem, seval, -List.reduceReplicate]; rw [← hQ]; exact ⟨_, _, (Ref.std [3, 4, 15, 16, 17] [1] (by decide) low0 (by first | rfl | simp only [go_sem, seval, -List.reduceReplicate]) (by first | rfl | simp only [go_sem, seval, -List.reduceReplicate])), (Nat.zero_le _), ih _ _ _ h hp⟩
  · simp only [e_10, go_sem, seval, -List.reduceReplicate]; cases h; rw [← hQ]; exact ⟨_, _, (Ref.std [4] [0] (by decide) low0 rfl (by first | rfl | simp only [go_sem, seval, -List.reduceReplicate])), hp⟩
theorem mini_Alike_w (N : Nat) (l_0 : List (Vector Int 16)) (l_1 : List Int) (c_0 : Bool) (c_1 : Bool) (z_1 : List (List Bool)) (h : mini_Alike N l_0 l_1 = some z_1) :
  ACalls Try.prog 14 [.agg [.vec c_0 (List.map eA16I64 l_0), .vec c_1 (List.map eI64 l_1)]] [] (fun e H => H = [] ∧ e = .ret (.vec false (List.map eLB z_1))) := by
 unfold mini_Alike at h; refine ACalls.goN Try.func14 n14 a14 Try.ntmps14 r14 (by simp) 0 rfl ?_; generalize hQ : bodyA _ _ _ = QQ; obtain ⟨y_1, h_2, h⟩ := bindS h; simp only [A14, go_sem, seval]; refine ACalls.go0 (dfa_Right_w N _ _ c_0 c_1 _ h_2) ?_; simp only [go_sem, seval]; rcases iteB h with ⟨e_4, h⟩ | ⟨e_4, h⟩
 · obtain ⟨y_5, h_6, h⟩ := bindS h; simp only [e_4, go_sem, seval]; refine ACalls.go0 (mini_classes_w N _ _ c_0 c_1 _ h_6) ?_; simp only [e_4, go_sem, seval]; obtain ⟨y_1008, h_1007, h⟩ := bindS h; refine ALp.ref (Ref.trans (Ref.thaw (Nat.zero_le _) 4 rfl (sz := 1) (by decide) 30) (Ref.std [3, 4, 15, 16, 17] [1] (by decide) low0 rfl (by first | rfl | simp only [go_sem, seval]))) (Nat.zero_le _) (mini_Alike_L4_w N _ N _ _ y_1008 h_1007 ?_); refine LoopK_go rfl (Nat.zero_le _) ?_; simp only [e_4, go_sem, seval]; obtain rfl := si h; rw [← hQ]; exact ⟨rfl, _, rfl, _, _, (RefV.trans (RefV.frz (Nat.zero_le _) (id := 0) rfl (pures_map y_1008 eLB (fun _ => by first | rfl | simp only [eA16I64, go_sem]))) (RefV.out (by first | rfl | simp only [go_sem, seval, e_4]))), rfl, rfl⟩
 · simp only [e_4, go_sem, seval]; obtain rfl := si h; rw [← hQ]; exact ⟨rfl, _, rfl, _, _, (RefV.trans (RefV.out (v' := nn) rfl) (RefV.weak (Wks.cons Wk.vec Wks.nil) (WkH.refl _))), rfl, rfl⟩
theorem mini_Small_L3_w (N : Nat) (y_5 : List Int) (i_15 : Int) (x_27 : Vector Int 16) (y_7 : List (Vector Int 16)) (y_8 : List Int) (s_18 : List (Vector Int 16)) (s_19 : List Int) {R : AExit → ATm → List AObj → Prop} : ∀ (n : Nat) (i_33 : Int) (m_34 : List (Int × Int)) (s_35 : List Int) (v_36 : Vector Int 16) (o : (List (Int × Int)) × (List Int) × (Vector Int 16)), mini_Small_L3 N y_5 i_15 x_27 y_7 y_8 s_18 s_19 n i_33 m_34 s_35 v_36 = some o → (match o with | (z_1, z_2, z_3) => R (.exit 2) ⟨95, [(1, .ptr 0 0 0), (2, .ptr 1 0 0), (3, .vec false (List.map eI64 y_5)), (4, .map 2), (5, .row 3 0 z_2.length), (6, .ptr 4 0 0), (7, .int .i64 i_15), (8, .ptr 7 0 0)], []⟩ [.box [.vec false (List.map eA16I64 y_7), .vec false (List.map eI64 y_8)] 25, .box [nn, nn] 25, .map (List.map (mpI .i64 .i64) z_1) 0, .mem 1 (List.map eI64 z_2) 3, .box [.row 5 0 s_18.length, .row 6 0 s_19.length] 25, .mem 16 (List.map eA16I64 s_18) 58, .mem 1 (List.map eI64 s_19) 3, .box (arrI .i64 z_3) 58]) →
  ALp Try.prog 0 B19_2 ⟨95, [(1, .ptr 0 0 0), (2, .ptr 1 0 0), (3, .vec false (List.map eI64 y_5)), (4, .map 2), (5, .row 3 0 s_35.length), (6, .ptr 4 0 0), (7, .int .i64 i_15), (8, .ptr 7 0 0), (41, .agg (arrI .i64 x_27)), (42, .int .i64 i_33)], []⟩ [.box [.vec false (List.map eA16I64 y_7), .vec false (List.map eI64 y_8)] 25, .box [nn, nn] 25, .map (List.map (mpI .i64 .i64) m_34) 0, .mem 1 (List.map eI64 s_35) 3, .box [.row 5 0 s_18.length, .row 6 0 s_19.length] 25, .mem 16 (List.map eA16I64 s_18) 58, .mem 1 (List.map eI64 s_19) 3, .box (arrI .i64 v_36) 58] R := by
 intro n
 induction n with
 | zero =>
  intro i_33 m_34 s_35 v_36 o h _; exact no0 h
 | succ n ih =>
  intro i_33 m_34 s_35 v_36 o h hp; rw [mini_Small_L3] at h; refine ALp.round ?_; generalize hQ : RoundQ _ _ _ _ = QQ; simp only [B19_2, B19_1, A19, go_sem, seval]; rcases iteS h with ⟨e_38, h⟩ | ⟨e_38, h⟩
  ·
   obtain ⟨x_39, h_40, h⟩ := bindS h; have e_41 : List.take 1 (List.drop (i_33).toNat (arrI .i64 x_27)) = [.int .i64 x_39] := arr_one h_40; have e_42 : ((0 : Int) ≤ i_33) = True := arr_ge h_40; have e_43 : ((i_33 : Int) < 16) = True := arr_lt h_40; have e_44 : ((i_33).toNat + 1 ≤ 16) = True := arr_le h_40; simp only [e_38, e_41, e_42, e_43, e_44, go_sem, seval]; rcases iteS h with ⟨e_46, h⟩ | ⟨e_46, h⟩
   · simp only [e_38, e_41, e_42, e_43, e_44, e_46, go_sem, seval]; rw [← hQ]; exact ⟨_, _, (Ref.std [1, 2, 3, 4, 5, 6, 7, 8, 41, 42] [0, 1, 2, 3, 4, 5, 6, 7] (by decide) low0 (by first | rfl | simp only [go_sem, seval]) (by first | rfl | simp only [go_sem, seval])), (Nat.zero_le _), ih _ _ _ _ _ h hp⟩
   ·
    obtain ⟨x_47, h_48, h⟩ := bindS h; have e_49 : (List.map eI64 y_5)[(x_39).toNat]? = some [.int .i64 x_47] := atI_map eI64 h_48; have e_50 := eq_true (atI_some h_48).1; have e_51 := eq_true (atI_lt h_48); have e_52 : mlk0 false 1 true (.int .i64 0) (.int .i64 x_47) (List.map (mpI .i64 .i64) m_34) = some (.tup [.int .i64 (mget m_34 x_47), .bool (mhas m_34 x_47)]) := mlk_I m_34 x_47; simp only [e_38, e_41, e_42, e_43, e_44, e_46, e_49, e_50, e_51, e_52, go_sem, seval]; by_cases h_53 : (mhas m_34 x_47) = true
    · rw [if_pos h_53] at h; have e_54 : (mhas m_34 x_47) = true := h_53; obtain ⟨x_55, h_56, h⟩ := bindS h; have e_57 : List.take 1 (List.drop (i_33).toNat (arrI .i64 v_36)) = [.int .i64 x_55] := arr_one h_56; have e_58 : ((0 : Int) ≤ i_33) = True := arr_ge h_56; have e_59 : ((i_33 : Int) < 16) = True := arr_lt h_56; have e_60 : ((i_33).toNat + 1 ≤ 16) = True := arr_le h_56; simp only [e_38, e_41, e_42, e_43, e_44, e_46, e_49, e_50, e_51, e_52, e_54, e_57, e_58, e_59, e_60, go_sem, seval]; rw [← hQ]; exact ⟨_, _, (Ref.std [1, 2, 3, 4, 5, 6, 7, 8, 41, 42] [0, 1, 2, 3, 4, 5, 6, 7] (by decide) low0 (by first | rfl | simp only [go_sem, seval]) (by first | rfl | simp only [go_sem, seval])), (Nat.zero_le _), ih _ _ _ _ _ h hp⟩
    · rw [if_neg h_53] at h; have e_54 : (mhas m_34 x_47) = false := bfalse h_53; have e_61 : mup0 false 1 (.int .i64 x_47) (.int .i64 (s_35.length : Int)) (List.map (mpI .i64 .i64) m_34) = some (List.map (mpI .i64 .i64) (mput m_34 x_47 (s_35.length : Int))) := mup_I m_34 x_47 (s_35.length : Int); have e_62 := tk eI64 s_35; have e_63 : (List.map eI64 s_35) ++ [[.int .i64 x_39]] = (List.map eI64 (s_35 ++ [x_39])) := app_map s_35 ([x_39]) eI64; obtain ⟨e_65, h⟩ := guardE h; obtain ⟨x_66, h_67, h⟩ := bindS h; have e_68 : List.take 1 (List.drop (i_33).toNat (arrI .i64 v_36)) = [.int .i64 x_66] := arr_one h_67; have e_69 : ((0 : Int) ≤ i_33) = True := arr_ge h_67; have e_70 : ((i_33 : Int) < 16) = True := arr_lt h_67; have e_71 : ((i_33).toNat + 1 ≤ 16) = True := arr_le h_67; simp only [e_38, e_41, e_42, e_43, e_44, e_46, e_49, e_50, e_51, e_52, e_54, e_61, e_62, e_63, e_65, e_68, e_69, e_70, e_71, go_sem, seval]; rw [← hQ]; exact ⟨_, _, (Ref.std [1, 2, 3, 4, 5, 6, 7, 8, 41, 42] [0, 1, 2, 8, 4, 5, 6, 7] (by decide) low0 (by first | rfl | simp only [go_sem, seval]) (by first | rfl | simp only [go_sem, seval])), (Nat.zero_le _), ih _ _ _ _ _ h hp⟩
  · simp only [e_38, go_sem, seval]; cases h; rw [← hQ]; exact ⟨_, _, (Ref.std [1, 2, 3, 4, 5, 6, 7, 8] [0, 1, 2, 3, 4, 5, 6, 7] (by decide) low0 (by rfl) (by first | rfl | simp only [go_sem, seval])), hp⟩
theorem mini_Small_L4_w (N : Nat) (y_5 : List Int) (y_7 : List (Vector Int 16)) (y_8 : List Int) {R : AExit → ATm → List AObj → Prop} : ∀ (n : Nat) (i_15 : Int) (m_16 : List (Int × Int)) (s_17 : List Int) (s_18 : List (Vector Int 16)) (s_19 : List Int) (o : (List (Vector Int 16)) × (List Int)), mini_Small_L4 N y_5 y_7 y_8 n i_15 m_16 s_17 s_18 s_19 = some o → (match o with | (z_1, z_2) => R (.exit 0) ⟨95, [(2, .ptr 0 0 0), (6, .ptr 1 0 0)], []⟩ [.box [nn, nn] 25, .box [.row 2 0 z_1.length, .row 3 0 z_2.length] 25, .mem 16 (List.map eA16I64 z_1) 58, .mem 1 (List.map eI64 z_2) 3]) →
  ALp Try.prog 0 B19_1 ⟨95, [(1, .ptr 0 0 0), (2, .ptr 1 0 0), (3, .vec false (List.map eI64 y_5)), (4, .map 2), (5, .row 3 0 s_17.length), (6, .ptr 4 0 0), (7, .int .i64 i_15)], []⟩ [.box [.vec false (List.map eA16I64 y_7), .vec false (List.map eI64 y_8)] 25, .box [nn, nn] 25, .map (List.map (mpI .i64 .i64) m_16) 0, .mem 1 (List.map eI64 s_17) 3, .box [.row 5 0 s_18.length, .row 6 0 s_19.length] 25, .mem 16 (List.map eA16I64 s_18) 58, .mem 1 (List.map eI64 s_19) 3] R := by
 intro n
 induction n with
 | zero =>
  intro i_15 m_16 s_17 s_18 s_19 o h _; exact no0 h
 | succ n ih =>
  intro i_15 m_16 s_17 s_18 s_19 o h hp; rw [mini_Small_L4] at h; refine ALp.round ?_; generalize hQ : RoundQ _ _ _ _ = QQ; simp only [B19_1, A19, go_sem, seval]; rcases iteS h with ⟨e_21, h⟩ | ⟨e_21, h⟩
  · obtain ⟨x_22, h_23, h⟩ := bindS h; have e_24 : (List.map eI64 s_17)[(i_15).toNat]? = some [.int .i64 x_22] := atI_map eI64 h_23; have e_25 := eq_true (atI_some h_23).1; have e_26 := eq_true (atI_lt h_23); obtain ⟨x_27, h_28, h⟩ := bindS h; have e_29 : (List.map eA16I64 y_7)[(x_22).toNat]? = some (arrI .i64 x_27) := atI_map eA16I64 h_28; have e_30 := eq_true (atI_some h_28).1; have e_31 := eq_true (atI_lt h_28); have e_32 : splice (arrI .i64 (Vector.replicate 16 (0 : Int))) 0 (arrI .i64 x_27) = (arrI .i64 x_27) := arr_put (by decide); simp only [e_21, e_24, e_25, e_26, e_29, e_30, e_31, e_32, go_sem, seval]; obtain ⟨⟨y_1034, y_1035, y_1036⟩, h_1033, h⟩ := bindS h; (try dsimp only at h); refine ALp.ref (Ref.std [1, 2, 3, 4, 5, 6, 7, 8, 41, 42] [0, 1, 2, 3, 4, 5, 6, 7] (by decide) low0 (by first | rfl | simp only [go_sem, seval]) (by first | rfl | simp only [go_sem, seval])) (Nat.zero_le _) (mini_Small_L3_w N _ _ _ _ _ _ _ N _ _ _ _ _ h_1033 ?_); refine LoopK_go rfl (Nat.zero_le _) ?_; have e_1037 := tk eA16I64 s_18; have e_1038 : (List.map eA16I64 s_18) ++ [(arrI .i64 y_1036)] = (List.map eA16I64 (s_18 ++ [y_1036])) := app_map s_18 ([y_1036]) eA16I64; obtain ⟨e_1040, h⟩ := guardE h; obtain ⟨x_1041, h_1042, h⟩ := bindS h; have e_1043 : (List.map eI64 y_1035)[(i_15).toNat]? = some [.int .i64 x_1041] := atI_map eI64 h_1042; have e_1044 := eq_true (atI_some h_1042).1; have e_1045 := eq_true (atI_lt h_1042); obtain ⟨x_1046, h_1047, h⟩ := bindS h; have e_1048 : (List.map eI64 y_8)[(x_1041).toNat]? = some [.int .i64 x_1046] := atI_map eI64 h_1047; have e_1049 := eq_true (atI_some h_1047).1; have e_1050 := eq_true (atI_lt h_1047); have e_1051 := tk eI64 s_19; have e_1052 : (List.map eI64 s_19) ++ [[.int .i64 x_1046]] = (List.map eI64 (s_19 ++ [x_1046])) := app_map s_19 ([x_1046]) eI64; obtain ⟨e_1054, h⟩ := guardE h; simp only [e_21, e_24, e_25, e_26, e_29, e_30, e_31, e_32, e_1037, e_1038, e_1040, e_1043, e_1044, e_1045, e_1048, e_1049, e_1050, e_1051, e_1052, e_1054, go_sem, seval]; rw [← hQ]; exact ⟨_, _, (Ref.std [1, 2, 3, 4, 5, 6, 7] [0, 1, 2, 3, 4, 8, 9] (by decide) low0 (by rfl) (by first | rfl | simp only [go_sem, seval])), (Nat.zero_le _), ih _ _ _ _ _ _ h hp⟩
  · simp only [e_21, go_sem, seval]; cases h; rw [← hQ]; exact ⟨_, _, (Ref.std [2, 6] [1, 4, 5, 6] (by decide) low0 rfl (by first | rfl | simp only [go_sem, seval])), hp⟩
theorem mini_Small_w (N : Nat) (l_0 : List (Vector Int 16)) (l_1 : List Int) (c_0 : Bool) (c_1 : Bool) (z_1 : List (Vector Int 16)) (z_2 : List Int) (h : mini_Small N l_0 l_1 = some (z_1, z_2)) :
  ACalls Try.prog 19 [.agg [.vec c_0 (List.map eA16I64 l_0), .vec c_1 (List.map eI64 l_1)]] [] (fun e H => H = [] ∧ e = .ret (.agg [.vec false (List.map eA16I64 z_1), .vec false (List.map eI64 z_2)])) := by
 unfold mini_Small at h; refine ACalls.goN Try.func19 n19 a19 Try.ntmps19 r19 (by simp) 0 rfl ?_; generalize hQ : bodyA _ _ _ = QQ; obtain ⟨y_1, h_2, h⟩ := bindS h; simp only [A19, go_sem, seval]; refine ACalls.go0 (dfa_Right_w N _ _ c_0 c_1 _ h_2) ?_; simp only [go_sem, seval]; rcases iteB h with ⟨e_4, h⟩ | ⟨e_4, h⟩
 · obtain ⟨y_5, h_6, h⟩ := bindS h; simp only [e_4, go_sem, seval]; refine ACalls.go0 (mini_classes_w N _ _ c_0 c_1 _ h_6) ?_; obtain ⟨⟨y_7, y_8⟩, h_9, h⟩ := bindS h; (try dsimp only at h); simp only [e_4, go_sem, seval]; refine ACalls.go0 (mini_alive_w N _ _ c_0 c_1 _ _ h_9) ?_; obtain ⟨x_10, h_11, h⟩ := bindS h; have e_12 : (List.map eI64 y_5)[0]? = some [.int .i64 x_10] := atI_map eI64 h_11; have e_13 := eq_true (atI_lt h_11); have e_14 : mup0 false 1 (.int .i64 x_10) (.int .i64 0) [] = some (List.map (mpI .i64 .i64) (mput ([]) x_10 0)) := mup_I ([]) x_10 0; simp only [e_4, e_12, e_13, e_14, go_sem, seval]; obtain ⟨⟨y_1016, y_1017⟩, h_1015, h⟩ := bindS h; (try dsimp only at h); refine ALp.ref (Ref.trans (Ref.thawB (Nat.zero_le _) (id := 4) 0 rfl rfl (sz := 16) (by decide) 58) (Ref.trans (Ref.thawB (Nat.zero_le _) (id := 4) 1 rfl rfl (sz := 1) (by decide) 3) (Ref.std [1, 2, 3, 4, 5, 6, 7] [0, 1, 2, 3, 4, 5, 6] (by decide) low0 rfl (by first | rfl | (simp only [go_sem, seval]; try rfl))))) (Nat.zero_le _) (mini_Small_L4_w N _ _ _ N _ _ _ _ _ _ h_1015 ?_); refine LoopK_go rfl (Nat.zero_le _) ?_; simp only [e_4, e_12, e_13, e_14, go_sem, seval]; obtain ⟨rfl, rfl⟩ := pj (si h); rw [← hQ]; exact ⟨rfl, _, rfl, _, _, (RefV.trans (RefV.frz (Nat.zero_le _) (id := 2) rfl (pures_map y_1016 eA16I64 (fun _ => by first | rfl | simp only [eA16I64, go_sem]))) (RefV.trans (RefV.frz (Nat.zero_le _) (id := 3) rfl (by first | exact pures_map y_1017 eI64 (fun _ => by first | rfl | simp only [eA16I64, go_sem]) | (simp only [subs_eI64]; exact pures_map y_1017 eI64 (fun _ => by first | rfl | simp only [eA16I64, go_sem])))) (RefV.out (by first | rfl | simp only [go_sem, seval, e_4])))), rfl, rfl⟩
 · simp only [e_4, go_sem, seval]; obtain ⟨rfl, rfl⟩ := pj (si h); rw [← hQ]; exact ⟨rfl, _, rfl, _, _, (RefV.trans (RefV.out (v' := .agg [nn, nn]) rfl) (RefV.weak (Wks.cons (Wk.agg (Wks.cons Wk.vec (Wks.cons Wk.vec (Wks.nil)))) Wks.nil) (WkH.refl _))), rfl, rfl⟩
theorem slices_Equal_16int16int_L1_w (N : Nat) (l_0 : List (Vector Int 16)) (l_1 : List (Vector Int 16)) (c_0 : Bool) (c_1 : Bool) {R : AExit → ATm → List AObj → Prop} : ∀ (n : Nat) (i_3 : Int) (o : (Unit) ⊕ (Unit)), slices_Equal_16int16int_L1 N l_0 l_1 n i_3 = some o → (match o with | .inl _ => R (.exit 0) ⟨26, [], []⟩ [] | .inr (_) => R .ret ⟨26, [(4, .bool false)], []⟩ []) →
  ALp Try.prog 0 B43_1 ⟨26, [(0, .vec c_0 (List.map eA16I64 l_0)), (1, .vec c_1 (List.map eA16I64 l_1)), (12, .int .i64 (l_0.length : Int)), (13, .int .i64 i_3)], []⟩ [] R := by
 intro n
 induction n with
 | zero =>
  intro i_3 o h _; exact no0 h
 | succ n ih =>
  intro i_3 o h hp; rw [slices_Equal_16int16int_L1] at h; refine ALp.round ?_; generalize hQ : RoundQ _ _ _ _ = QQ; simp only [B43_1, A43, go_sem, seval]; rcases iteS h with ⟨e_5, h⟩ | ⟨e_5, h⟩
  ·
   obtain ⟨x_6, h_7, h⟩ := bindS h; have e_8 : (List.map eA16I64 l_0)[(i_3).toNat]? = some (arrI .i64 x_6) := atI_map eA16I64 h_7; have e_9 := eq_true (atI_some h_7).1; have e_10 := eq_true (atI_lt h_7); obtain ⟨x_11, h_12, h⟩ := bindS h; have e_13 : (List.map eA16I64 l_1)[(i_3).toNat]? = some (arrI .i64 x_11) := atI_map eA16I64 h_12; have e_14 := eq_true (atI_some h_12).1; have e_15 := eq_true (atI_lt h_12); simp only [e_5, e_8, e_9, e_10, e_13, e_14, e_15, go_sem, seval]; rcases iteS h with ⟨e_17, h⟩ | ⟨e_17, h⟩
   · simp only [e_5, e_8, e_9, e_10, e_13, e_14, e_15, e_17, go_sem, seval]; rw [← hQ]; exact ⟨_, _, (Ref.out [0, 1, 12, 13] rfl), (Nat.zero_le _), ih _ _ h hp⟩
   · simp only [e_5, e_8, e_9, e_10, e_13, e_14, e_15, e_17, go_sem, seval]; cases h; rw [← hQ]; exact ⟨_, _, (Ref.out [4] rfl), hp⟩
  · simp only [e_5, go_sem, seval]; cases h; rw [← hQ]; exact ⟨_, _, (Ref.out [] rfl), hp⟩
theorem slices_Equal_16int16int_w (N : Nat) (l_0 : List (Vector Int 16)) (l_1 : List (Vector Int 16)) (c_0 : Bool) (c_1 : Bool) (z_1 : Bool) (h : slices_Equal_16int16int N l_0 l_1 = some z_1) :
  ACalls Try.prog 43 [.vec c_0 (List.map eA16I64 l_0), .vec c_1 (List.map eA16I64 l_1)] [] (fun e H => H = [] ∧ e = .ret (.bool z_1)) := by
 unfold slices_Equal_16int16int at h; refine ACalls.goN Try.func43 n43 a43 Try.ntmps43 r43 (by simp) 0 rfl ?_; generalize hQ : bodyA _ _ _ = QQ; simp only [A43, go_sem, seval]; rcases iteS h with ⟨e_2, h⟩ | ⟨e_2, h⟩
 ·
  simp only [e_2, go_sem, seval]; obtain ⟨o_1004, h_1003, h⟩ := bindS h; refine ALp.ref (Ref.out [0, 1, 12, 13] rfl) (Nat.zero_le _) (slices_Equal_16int16int_L1_w N _ _ c_0 c_1 N _ o_1004 h_1003 ?_); rcases o_1004 with _ | _
  · (try dsimp only at h); refine LoopK_go rfl (Nat.zero_le _) ?_; simp only [e_2, go_sem, seval]; obtain rfl := si h; rw [← hQ]; exact ⟨rfl, _, rfl, _, _, (RefV.out rfl), rfl, rfl⟩
  · (try dsimp only at h); refine LoopK_ret ?_; obtain rfl := si h; rw [← hQ]; exact ⟨rfl, _, rfl, _, _, (RefV.out rfl), rfl, rfl⟩
 · simp only [e_2, go_sem, seval]; obtain rfl := si h; rw [← hQ]; exact ⟨rfl, _, rfl, _, _, (RefV.out rfl), rfl, rfl⟩
theorem slices_Equal_intint_L1_w (N : Nat) (l_0 : List Int) (l_1 : List Int) (c_0 : Bool) (c_1 : Bool) {R : AExit → ATm → List AObj → Prop} : ∀ (n : Nat) (i_3 : Int) (o : (Unit) ⊕ (Unit)), slices_Equal_intint_L1 N l_0 l_1 n i_3 = some o → (match o with | .inl _ => R (.exit 0) ⟨26, [], []⟩ [] | .inr (_) => R .ret ⟨26, [(4, .bool false)], []⟩ []) →
  ALp Try.prog 0 B44_1 ⟨26, [(0, .vec c_0 (List.map eI64 l_0)), (1, .vec c_1 (List.map eI64 l_1)), (12, .int .i64 (l_0.length : Int)), (13, .int .i64 i_3)], []⟩ [] R := by
 intro n
 induction n with
 | zero =>
  intro i_3 o h _; exact no0 h
 | succ n ih =>
  intro i_3 o h hp; rw [slices_Equal_intint_L1] at h; refine ALp.round ?_; generalize hQ : RoundQ _ _ _ _ = QQ; simp only [B44_1, A44, go_sem, seval]; rcases iteS h with ⟨e_5, h⟩ | ⟨e_5, h⟩
  ·
   obtain ⟨x_6, h_7, h⟩ := bindS h; have e_8 : (List.map eI64 l_0)[(i_3).toNat]? = some [.int .i64 x_6] := atI_map eI64 h_7; have e_9 := eq_true (atI_some h_7).1; have e_10 := eq_true (atI_lt h_7); obtain ⟨x_11, h_12, h⟩ := bindS h; have e_13 : (List.map eI64 l_1)[(i_3).toNat]? = some [.int .i64 x_11] := atI_map eI64 h_12; have e_14 := eq_true (atI_some h_12).1; have e_15 := eq_true (atI_lt h_12); simp only [e_5, e_8, e_9, e_10, e_13, e_14, e_15, go_sem, seval]; rcases iteS h with ⟨e_17, h⟩ | ⟨e_17, h⟩
   · simp only [e_5, e_8, e_9, e_10, e_13, e_14, e_15, e_17, go_sem, seval]; rw [← hQ]; exact ⟨_, _, (Ref.out [0, 1, 12, 13] rfl), (Nat.zero_le _), ih _ _ h hp⟩
   · simp only [e_5, e_8, e_9, e_10, e_13, e_14, e_15, e_17, go_sem, seval]; cases h; rw [← hQ]; exact ⟨_, _, (Ref.out [4] rfl), hp⟩
  · simp only [e_5, go_sem, seval]; cases h; rw [← hQ]; exact ⟨_, _, (Ref.out [] rfl), hp⟩
theorem slices_Equal_intint_w (N : Nat) (l_0 : List Int) (l_1 : List Int) (c_0 : Bool) (c_1 : Bool) (z_1 : Bool) (h : slices_Equal_intint N l_0 l_1 = some z_1) :
  ACalls Try.prog 44 [.vec c_0 (List.map eI64 l_0), .vec c_1 (List.map eI64 l_1)] [] (fun e H => H = [] ∧ e = .ret (.bool z_1)) := by
 unfold slices_Equal_intint at h; refine ACalls.goN Try.func44 n44 a44 Try.ntmps44 r44 (by simp) 0 rfl ?_; generalize hQ : bodyA _ _ _ = QQ; simp only [A44, go_sem, seval]; rcases iteS h with ⟨e_2, h⟩ | ⟨e_2, h⟩
 ·
  simp only [e_2, go_sem, seval]; obtain ⟨o_1004, h_1003, h⟩ := bindS h; refine ALp.ref (Ref.out [0, 1, 12, 13] rfl) (Nat.zero_le _) (slices_Equal_intint_L1_w N _ _ c_0 c_1 N _ o_1004 h_1003 ?_); rcases o_1004 with _ | _
  · (try dsimp only at h); refine LoopK_go rfl (Nat.zero_le _) ?_; simp only [e_2, go_sem, seval]; obtain rfl := si h; rw [← hQ]; exact ⟨rfl, _, rfl, _, _, (RefV.out rfl), rfl, rfl⟩
  · (try dsimp only at h); refine LoopK_ret ?_; obtain rfl := si h; rw [← hQ]; exact ⟨rfl, _, rfl, _, _, (RefV.out rfl), rfl, rfl⟩
 · simp only [e_2, go_sem, seval]; obtain rfl := si h; rw [← hQ]; exact ⟨rfl, _, rfl, _, _, (RefV.out rfl), rfl, rfl⟩
theorem mini_Same_w (N : Nat) (l_0 : List (Vector Int 16)) (l_1 : List Int) (l_2 : List (Vector Int 16)) (l_3 : List Int) (c_0 : Bool) (c_1 : Bool) (c_2 : Bool) (c_3 : Bool) (z_1 : Bool) (h : mini_Same N l_0 l_1 l_2 l_3 = some z_1) :
  ACalls Try.prog 22 [.agg [.vec c_0 (List.map eA16I64 l_0), .vec c_1 (List.map eI64 l_1)], .agg [.vec c_2 (List.map eA16I64 l_2), .vec c_3 (List.map eI64 l_3)]] [] (fun e H => H = [] ∧ e = .ret (.bool z_1)) := by
 unfold mini_Same at h; refine ACalls.goN Try.func22 n22 a22 Try.ntmps22 r22 (by simp) 0 rfl ?_; generalize hQ : bodyA _ _ _ = QQ; obtain ⟨⟨y_1, y_2⟩, h_3, h⟩ := bindS h; (try dsimp only at h); simp only [A22, go_sem, seval]; refine ACalls.use0 (mini_Small_w N _ _ c_0 c_1 _ _ h_3) rfl rfl ?_; obtain ⟨⟨y_4, y_5⟩, h_6, h⟩ := bindS h; (try dsimp only at h); simp only [go_sem, seval]; refine ACalls.use0 (mini_Small_w N _ _ c_2 c_3 _ _ h_6) rfl rfl ?_; simp only [go_sem, seval]; rcases iteS h with ⟨e_8, h⟩ | ⟨e_8, h⟩
 ·
  obtain ⟨y_9, h_10, h⟩ := bindS h; simp only [e_8, go_sem, seval]; refine ACalls.go0 (slices_Equal_16int16int_w N _ _ false false _ h_10) ?_; simp only [e_8, go_sem, seval]; rcases iteB h with ⟨e_12, h⟩ | ⟨e_12, h⟩
  · obtain ⟨y_13, h_14, h⟩ := bindS h; simp only [e_8, e_12, go_sem, seval]; refine ACalls.go0 (slices_Equal_intint_w N _ _ false false _ h_14) ?_; simp only [e_8, e_12, go_sem, seval]; obtain rfl := si h; rw [← hQ]; exact ⟨rfl, _, rfl, _, _, (RefV.out (by first | rfl | simp only [go_sem, seval, e_8, e_12])), rfl, rfl⟩
  · simp only [e_8, e_12, go_sem, seval]; obtain rfl := si h; rw [← hQ]; exact ⟨rfl, _, rfl, _, _, (RefV.out rfl), rfl, rfl⟩
 · simp only [e_8, go_sem, seval]; obtain rfl := si h; rw [← hQ]; exact ⟨rfl, _, rfl, _, _, (RefV.out rfl), rfl, rfl⟩
theorem law08_alive_w (N : Nat) (z_1 : Bool) (h : law08_alive N = some z_1) :
  ACalls Try.prog 12 [] [] (fun e H => H = [] ∧ e = .ret (.bool z_1)) := by
 unfold law08_alive at h; refine ACalls.goN Try.func12 n12 a12 Try.ntmps12 r12 (by simp) 0 rfl ?_; generalize hQ : bodyA _ _ _ = QQ; obtain ⟨⟨y_1, y_2⟩, h_3, h⟩ := bindS h; (try dsimp only at h); simp only [A12, go_sem, seval]; refine ACalls.go0 (law08_example_w N _ _ h_3) ?_; obtain ⟨y_4, h_5, h⟩ := bindS h; simp only [go_sem, seval]; refine ACalls.go0 (mini_Alike_w N _ _ false false _ h_5) ?_; obtain ⟨⟨y_6, y_7⟩, h_8, h⟩ := bindS h; (try dsimp only at h); simp only [go_sem, seval]; refine ACalls.go0 (mini_Small_w N _ _ false false _ _ h_8) ?_; simp only [go_sem, seval]; rcases iteS h with ⟨e_10, h⟩ | ⟨e_10, h⟩
 ·
  simp only [e_10, go_sem, seval]; rcases iteS h with ⟨e_12, h⟩ | ⟨e_12, h⟩
  ·
   obtain ⟨x_13, h_14, h⟩ := bindS h; have e_15 : (List.map eLB y_4)[1]? = some [.vec false (List.map eB x_13)] := atI_map eLB h_14; have e_16 := eq_true (atI_lt h_14); obtain ⟨x_17, h_18, h⟩ := bindS h; have e_19 : (List.map eB x_13)[3]? = some [.bool x_17] := atI_map eB h_18; have e_20 := eq_true (atI_lt h_18); simp only [e_10, e_12, e_15, e_16, e_19, e_20, go_sem, seval]; rcases iteB h with ⟨e_22, h⟩ | ⟨e_22, h⟩
   ·
    obtain ⟨x_23, h_24, h⟩ := bindS h; have e_25 : (List.map eLB y_4)[0]? = some [.vec false (List.map eB x_23)] := atI_map eLB h_24; have e_26 := eq_true (atI_lt h_24); obtain ⟨x_27, h_28, h⟩ := bindS h; have e_29 : (List.map eB x_23)[2]? = some [.bool x_27] := atI_map eB h_28; have e_30 := eq_true (atI_lt h_28); simp only [e_10, e_12, e_15, e_16, e_19, e_20, e_22, e_25, e_26, e_29, e_30, go_sem, seval]; rcases iteB h with ⟨e_32, h⟩ | ⟨e_32, h⟩
    ·
     obtain ⟨x_33, h_34, h⟩ := bindS h; have e_35 : (List.map eB x_23)[1]? = some [.bool x_33] := atI_map eB h_34; have e_36 := eq_true (atI_lt h_34); simp only [e_10, e_12, e_15, e_16, e_19, e_20, e_22, e_25, e_26, e_29, e_30, e_32, e_35, e_36, go_sem, seval]; rcases iteB h with ⟨e_38, h⟩ | ⟨e_38, h⟩
     · simp only [e_10, e_12, e_15, e_16, e_19, e_20, e_22, e_25, e_26, e_29, e_30, e_32, e_35, e_36, e_38, go_sem, seval]; obtain rfl := si h; rw [← hQ]; exact ⟨rfl, _, rfl, _, _, (RefV.out rfl), rfl, rfl⟩
     ·
      obtain ⟨y_39, h_40, h⟩ := bindS h; simp only [e_10, e_12, e_15, e_16, e_19, e_20, e_22, e_25, e_26, e_29, e_30, e_32, e_35, e_36, e_38, go_sem, seval]; refine ACalls.go0 (mini_Dead_w N _ _ false false _ h_40) ?_; obtain ⟨x_41, h_42, h⟩ := bindS h; have e_43 : (List.map eB y_39)[2]? = some [.bool x_41] := atI_map eB h_42; have e_44 := eq_true (atI_lt h_42); simp only [e_10, e_12, e_15, e_16, e_19, e_20, e_22, e_25, e_26, e_29, e_30, e_32, e_35, e_36, e_38, e_43, e_44, go_sem, seval]; rcases iteB h with ⟨e_46, h⟩ | ⟨e_46, h⟩
      · simp only [e_10, e_12, e_15, e_16, e_19, e_20, e_22, e_25, e_26, e_29, e_30, e_32, e_35, e_36, e_38, e_43, e_44, e_46, go_sem, seval]; obtain rfl := si h; rw [← hQ]; exact ⟨rfl, _, rfl, _, _, (RefV.out rfl), rfl, rfl⟩
      ·
       obtain ⟨y_47, h_48, h⟩ := bindS h; simp only [e_10, e_12, e_15, e_16, e_19, e_20, e_22, e_25, e_26, e_29, e_30, e_32, e_35, e_36, e_38, e_43, e_44, e_46, go_sem, seval]; refine ACalls.go0 (mini_Same_w N _ _ _ _ false false false false _ h_48) ?_; simp only [e_10, e_12, e_15, e_16, e_19, e_20, e_22, e_25, e_26, e_29, e_30, e_32, e_35, e_36, e_38, e_43, e_44, e_46, go_sem, seval]; rcases iteB h with ⟨e_50, h⟩ | ⟨e_50, h⟩
       · obtain ⟨y_51, h_52, h⟩ := bindS h; simp only [e_10, e_12, e_15, e_16, e_19, e_20, e_22, e_25, e_26, e_29, e_30, e_32, e_35, e_36, e_38, e_43, e_44, e_46, e_50, go_sem, seval]; refine ACalls.go0 (mini_Dead_w N _ _ true true _ h_52) ?_; simp only [e_10, e_12, e_15, e_16, e_19, e_20, e_22, e_25, e_26, e_29, e_30, e_32, e_35, e_36, e_38, e_43, e_44, e_46, e_50, go_sem, seval]; obtain rfl := si h; rw [← hQ]; exact ⟨rfl, _, rfl, _, _, (RefV.out (by first | rfl | simp only [go_sem, seval, e_10, e_12, e_22, e_32, e_38, e_46, e_50])), rfl, rfl⟩
       · simp only [e_10, e_12, e_15, e_16, e_19, e_20, e_22, e_25, e_26, e_29, e_30, e_32, e_35, e_36, e_38, e_43, e_44, e_46, e_50, go_sem, seval]; obtain rfl := si h; rw [← hQ]; exact ⟨rfl, _, rfl, _, _, (RefV.out rfl), rfl, rfl⟩
    · simp only [e_10, e_12, e_15, e_16, e_19, e_20, e_22, e_25, e_26, e_29, e_30, e_32, go_sem, seval]; obtain rfl := si h; rw [← hQ]; exact ⟨rfl, _, rfl, _, _, (RefV.out rfl), rfl, rfl⟩
   · simp only [e_10, e_12, e_15, e_16, e_19, e_20, e_22, go_sem, seval]; obtain rfl := si h; rw [← hQ]; exact ⟨rfl, _, rfl, _, _, (RefV.out rfl), rfl, rfl⟩
  · simp only [e_10, e_12, go_sem, seval]; obtain rfl := si h; rw [← hQ]; exact ⟨rfl, _, rfl, _, _, (RefV.out rfl), rfl, rfl⟩
 · simp only [e_10, go_sem, seval]; obtain rfl := si h; rw [← hQ]; exact ⟨rfl, _, rfl, _, _, (RefV.out rfl), rfl, rfl⟩
theorem law08_great_w (N : Nat) (l_0 : List (Vector Int 16)) (l_1 : List Int) (c_0 : Bool) (c_1 : Bool) (z_1 : Bool) (h : law08_great N l_0 l_1 = some z_1) :
  ACalls Try.prog 13 [.agg [.vec c_0 (List.map eA16I64 l_0), .vec c_1 (List.map eI64 l_1)]] [] (fun e H => H = [] ∧ e = .ret (.bool z_1)) := by
 unfold law08_great at h; refine ACalls.goN Try.func13 n13 a13 Try.ntmps13 r13 (by simp) 0 rfl ?_; generalize hQ : bodyA _ _ _ = QQ; simp only [A13, go_sem, seval]; rcases iteS h with ⟨e_2, h⟩ | ⟨e_2, h⟩
 · simp only [e_2, go_sem, seval]; obtain rfl := si h; rw [← hQ]; exact ⟨rfl, _, rfl, _, _, (RefV.out rfl), rfl, rfl⟩
 · simp only [e_2, go_sem, seval]; obtain rfl := si h; rw [← hQ]; exact ⟨rfl, _, rfl, _, _, (RefV.out (by first | rfl | simp only [go_sem, seval, e_2])), rfl, rfl⟩
theorem ref07_Right_L2_w (N : Nat) (l_1 : List Int) (i_7 : Int) (l_0 : List (Vector Int 16)) (c_0 : Bool) (c_1 : Bool) {R : AExit → ATm → List AObj → Prop} : ∀ (n : Nat) (i_19 : Int) (o : (Unit) ⊕ (Unit)), ref07_Right_L2 N l_1 i_7 l_0 n i_19 = some o → (match o with | .inl _ => R (.exit 2) ⟨64, [(1, .ptr 0 0 0), (3, .int .i64 (l_1.length : Int)), (4, .int .i64 i_7)], []⟩ [.box [.vec c_0 (List.map eA16I64 l_0), .vec c_1 (List.map eI64 l_1)] 25] | .inr (_) => R .ret ⟨64, [(2, .bool false)], []⟩ []) →
  ALp Try.prog 0 B16_2 ⟨64, [(1, .ptr 0 0 0), (3, .int .i64 (l_1.length : Int)), (4, .int .i64 i_7), (5, .int .i64 i_19)], []⟩ [.box [.vec c_0 (List.map eA16I64 l_0), .vec c_1 (List.map eI64 l_1)] 25] R := by
 intro n
 induction n with
 | zero =>
  intro i_19 o h _; exact no0 h
 | succ n ih =>
  intro i_19 o h hp; rw [ref07_Right_L2] at h; refine ALp.round ?_; generalize hQ : RoundQ _ _ _ _ = QQ; simp only [B16_2, B16_1, A16, go_sem, seval]; rcases iteS h with ⟨e_21, h⟩ | ⟨e_21, h⟩
  ·
   obtain ⟨x_22, h_23, h⟩ := bindS h; have e_24 : (List.map eA16I64 l_0)[(i_7).toNat]? = some (arrI .i64 x_22) := atI_map eA16I64 h_23; have e_25 := eq_true (atI_some h_23).1; have e_26 := eq_true (atI_lt h_23); obtain ⟨x_27, h_28, h⟩ := bindS h; have e_29 : List.take 1 (List.drop (i_19).toNat (arrI .i64 x_22)) = [.int .i64 x_27] := arr_one h_28; have e_30 : ((0 : Int) ≤ i_19) = True := arr_ge h_28; have e_31 : ((i_19 : Int) < 16) = True := arr_lt h_28; have e_32 : ((i_19).toNat + 1 ≤ 16) = True := arr_le h_28; simp only [e_21, e_24, e_25, e_26, e_29, e_30, e_31, e_32, go_sem, seval]; rcases iteS h with ⟨e_34, h⟩ | ⟨e_34, h⟩
   · simp only [e_21, e_24, e_25, e_26, e_29, e_30, e_31, e_32, e_34, go_sem, seval]; cases h; rw [← hQ]; exact ⟨_, _, (Ref.out [2] rfl), hp⟩
   ·
    simp only [e_21, e_24, e_25, e_26, e_29, e_30, e_31, e_32, e_34, go_sem, seval]; rcases iteS h with ⟨e_36, h⟩ | ⟨e_36, h⟩
    · simp only [e_21, e_24, e_25, e_26, e_29, e_30, e_31, e_32, e_34, e_36, go_sem, seval]; cases h; rw [← hQ]; exact ⟨_, _, (Ref.out [2] rfl), hp⟩
    · simp only [e_21, e_24, e_25, e_26, e_29, e_30, e_31, e_32, e_34, e_36, go_sem, seval]; rw [← hQ]; exact ⟨_, _, (Ref.std [1, 3, 4, 5] [0] (by decide) low0 rfl rfl), (Nat.zero_le _), ih _ _ h hp⟩
  · simp only [e_21, go_sem, seval]; cases h; rw [← hQ]; exact ⟨_, _, (Ref.std [1, 3, 4] [0] (by decide) low0 rfl rfl), hp⟩
theorem ref07_Right_L3_w (N : Nat) (l_1 : List Int) (l_0 : List (Vector Int 16)) (c_0 : Bool) (c_1 : Bool) {R : AExit → ATm → List AObj → Prop} : ∀ (n : Nat) (i_7 : Int) (o : (Unit) ⊕ (Unit)), ref07_Right_L3 N l_1 l_0 n i_7 = some o → (match o with | .inl _ => R (.exit 0) ⟨64, [], []⟩ [] | .inr (_) => R .ret ⟨64, [(2, .bool false)], []⟩ []) →
  ALp Try.prog 0 B16_1 ⟨64, [(1, .ptr 0 0 0), (3, .int .i64 (l_1.length : Int)), (4, .int .i64 i_7)], []⟩ [.box [.vec c_0 (List.map eA16I64 l_0), .vec c_1 (List.map eI64 l_1)] 25] R := by
 intro n
 induction n with
 | zero =>
  intro i_7 o h _; exact no0 h
 | succ n ih =>
  intro i_7 o h hp; rw [ref07_Right_L3] at h; refine ALp.round ?_; generalize hQ : RoundQ _ _ _ _ = QQ; simp only [B16_1, A16, go_sem, seval]; rcases iteS h with ⟨e_9, h⟩ | ⟨e_9, h⟩
  ·
   obtain ⟨x_10, h_11, h⟩ := bindS h; have e_12 : (List.map eI64 l_1)[(i_7).toNat]? = some [.int .i64 x_10] := atI_map eI64 h_11; have e_13 := eq_true (atI_some h_11).1; have e_14 := eq_true (atI_lt h_11); simp only [e_9, e_12, e_13, e_14, go_sem, seval]; rcases iteS h with ⟨e_16, h⟩ | ⟨e_16, h⟩
   · simp only [e_9, e_12, e_13, e_14, e_16, go_sem, seval]; cases h; rw [← hQ]; exact ⟨_, _, (Ref.out [2] rfl), hp⟩
   ·
    simp only [e_9, e_12, e_13, e_14, e_16, go_sem, seval]; rcases iteS h with ⟨e_18, h⟩ | ⟨e_18, h⟩
    · simp only [e_9, e_12, e_13, e_14, e_16, e_18, go_sem, seval]; cases h; rw [← hQ]; exact ⟨_, _, (Ref.out [2] rfl), hp⟩
    ·
     simp only [e_9, e_12, e_13, e_14, e_16, e_18, go_sem, seval]; obtain ⟨o_1020, h_1019, h⟩ := bindS h; refine ALp.ref (Ref.std [1, 3, 4, 5] [0] (by decide) low0 rfl rfl) (Nat.zero_le _) (ref07_Right_L2_w N _ _ _ c_0 c_1 N _ o_1020 h_1019 ?_); rcases o_1020 with _ | _
     · (try dsimp only at h); refine LoopK_go rfl (Nat.zero_le _) ?_; simp only [e_9, e_12, e_13, e_14, e_16, e_18, go_sem, seval]; rw [← hQ]; exact ⟨_, _, (Ref.std [1, 3, 4] [0] (by decide) low0 rfl rfl), (Nat.zero_le _), ih _ _ h hp⟩
     · (try dsimp only at h); refine LoopK_ret ?_; cases h; rw [← hQ]; exact ⟨_, _, (Ref.out [2] rfl), hp⟩
  · simp only [e_9, go_sem, seval]; cases h; rw [← hQ]; exact ⟨_, _, (Ref.out [] rfl), hp⟩
theorem ref07_Right_w (N : Nat) (l_0 : List (Vector Int 16)) (l_1 : List Int) (c_0 : Bool) (c_1 : Bool) (z_1 : Bool) (h : ref07_Right N l_0 l_1 = some z_1) :
  ACalls Try.prog 16 [.agg [.vec c_0 (List.map eA16I64 l_0), .vec c_1 (List.map eI64 l_1)]] [] (fun e H => H = [] ∧ e = .ret (.bool z_1)) := by
 unfold ref07_Right at h; refine ACalls.goN Try.func16 n16 a16 Try.ntmps16 r16 (by simp) 0 rfl ?_; generalize hQ : bodyA _ _ _ = QQ; simp only [A16, go_sem, seval]; rcases iteS h with ⟨e_2, h⟩ | ⟨e_2, h⟩
 · simp only [e_2, go_sem, seval]; obtain rfl := si h; rw [← hQ]; exact ⟨rfl, _, rfl, _, _, (RefV.out rfl), rfl, rfl⟩
 ·
  simp only [e_2, go_sem, seval]; rcases iteS h with ⟨e_4, h⟩ | ⟨e_4, h⟩
  · simp only [e_2, e_4, go_sem, seval]; obtain rfl := si h; rw [← hQ]; exact ⟨rfl, _, rfl, _, _, (RefV.out rfl), rfl, rfl⟩
  ·
   simp only [e_2, e_4, go_sem, seval]; rcases iteS h with ⟨e_6, h⟩ | ⟨e_6, h⟩
   ·
    simp only [e_2, e_4, e_6, go_sem, seval]; obtain ⟨o_1008, h_1007, h⟩ := bindS h; refine ALp.ref (Ref.std [1, 3, 4] [0] (by decide) low0 rfl rfl) (Nat.zero_le _) (ref07_Right_L3_w N _ _ c_0 c_1 N _ o_1008 h_1007 ?_); rcases o_1008 with _ | _
    · (try dsimp only at h); refine LoopK_go rfl (Nat.zero_le _) ?_; simp only [e_2, e_4, e_6, go_sem, seval]; obtain rfl := si h; rw [← hQ]; exact ⟨rfl, _, rfl, _, _, (RefV.out rfl), rfl, rfl⟩
    · (try dsimp only at h); refine LoopK_ret ?_; obtain rfl := si h; rw [← hQ]; exact ⟨rfl, _, rfl, _, _, (RefV.out rfl), rfl, rfl⟩
   · simp only [e_2, e_4, e_6, go_sem, seval]; obtain rfl := si h; rw [← hQ]; exact ⟨rfl, _, rfl, _, _, (RefV.out rfl), rfl, rfl⟩
theorem ref08_Dead_L5_w (N : Nat) (l_1 : List Int) (i_6 : Int) (i_10 : Int) (l_0 : List (Vector Int 16)) (c_0 : Bool) (c_1 : Bool) {R : AExit → ATm → List AObj → Prop} : ∀ (n : Nat) (i_22 : Int) (s_23 : List Bool) (o : (List Bool)), ref08_Dead_L5 N l_1 i_6 i_10 l_0 n i_22 s_23 = some o → (match o with | z_1 => R (.exit 4) ⟨87, [(1, .ptr 0 0 0), (3, .int .i64 (l_1.length : Int)), (4, .row 1 0 z_1.length), (5, .int .i64 i_6), (6, .int .i64 i_10)], []⟩ [.box [.vec c_0 (List.map eA16I64 l_0), .vec c_1 (List.map eI64 l_1)] 25, .mem 1 (List.map eB z_1) 4]) →
  ALp Try.prog 0 B18_3 ⟨87, [(1, .ptr 0 0 0), (3, .int .i64 (l_1.length : Int)), (4, .row 1 0 s_23.length), (5, .int .i64 i_6), (6, .int .i64 i_10), (7, .int .i64 i_22)], []⟩ [.box [.vec c_0 (List.map eA16I64 l_0), .vec c_1 (List.map eI64 l_1)] 25, .mem 1 (List.map eB s_23) 4] R := by
 intro n
 induction n with
 | zero =>
  intro i_22 s_23 o h _; exact no0 h
 | succ n ih =>
  intro i_22 s_23 o h hp; rw [ref08_Dead_L5] at h; refine ALp.round ?_; generalize hQ : RoundQ _ _ _ _ = QQ; simp only [B18_3, B18_2, B18_1, A18, go_sem, seval]; rcases iteS h with ⟨e_25, h⟩ | ⟨e_25, h⟩
  ·
   obtain ⟨x_26, h_27, h⟩ := bindS h; have e_28 : (List.map eB s_23)[(i_10).toNat]? = some [.bool x_26] := atI_map eB h_27; have e_29 := eq_true (atI_some h_27).1; have e_30 := eq_true (atI_lt h_27); simp only [e_25, e_28, e_29, e_30, go_sem, seval]; rcases iteB h with ⟨e_32, h⟩ | ⟨e_32, h⟩
   · have e_33 : (List.map eB s_23).set (i_10).toNat [.bool true] = List.map eB (List.set s_23 (i_10).toNat true) := set_map s_23 eB (i_10).toNat true; simp only [e_25, e_28, e_29, e_30, e_32, e_33, go_sem, seval]; rw [← hQ]; exact ⟨_, _, (Ref.std [1, 3, 4, 5, 6, 7] [0, 1] (by decide) low0 (by first | rfl | simp only [go_sem, seval]) (by first | rfl | simp only [go_sem, seval])), (Nat.zero_le _), ih _ _ _ h hp⟩
   ·
    obtain ⟨x_34, h_35, h⟩ := bindS h; have e_36 : (List.map eA16I64 l_0)[(i_10).toNat]? = some (arrI .i64 x_34) := atI_map eA16I64 h_35; have e_37 := eq_true (atI_some h_35).1; have e_38 := eq_true (atI_lt h_35); obtain ⟨x_39, h_40, h⟩ := bindS h; have e_41 : List.take 1 (List.drop (i_22).toNat (arrI .i64 x_34)) = [.int .i64 x_39] := arr_one h_40; have e_42 : ((0 : Int) ≤ i_22) = True := arr_ge h_40; have e_43 : ((i_22 : Int) < 16) = True := arr_lt h_40; have e_44 : ((i_22).toNat + 1 ≤ 16) = True := arr_le h_40; simp only [e_25, e_28, e_29, e_30, e_32, e_36, e_37, e_38, e_41, e_42, e_43, e_44, go_sem, seval]; rcases iteS h with ⟨e_46, h⟩ | ⟨e_46, h⟩
    · obtain ⟨x_47, h_48, h⟩ := bindS h; have e_49 : (List.map eB s_23)[(x_39).toNat]? = some [.bool x_47] := atI_map eB h_48; have e_50 := eq_true (atI_some h_48).1; have e_51 := eq_true (atI_lt h_48); have e_52 : (List.map eB s_23).set (i_10).toNat [.bool x_47] = List.map eB (List.set s_23 (i_10).toNat x_47) := set_map s_23 eB (i_10).toNat x_47; simp only [e_25, e_28, e_29, e_30, e_32, e_36, e_37, e_38, e_41, e_42, e_43, e_44, e_46, e_49, e_50, e_51, e_52, go_sem, seval]; rw [← hQ]; exact ⟨_, _, (Ref.std [1, 3, 4, 5, 6, 7] [0, 1] (by decide) low0 (by first | rfl | simp only [go_sem, seval]) (by first | rfl | simp only [go_sem, seval])), (Nat.zero_le _), ih _ _ _ h hp⟩
    · have e_53 : (List.map eB s_23).set (i_10).toNat [.bool false] = List.map eB (List.set s_23 (i_10).toNat false) := set_map s_23 eB (i_10).toNat false; simp only [e_25, e_28, e_29, e_30, e_32, e_36, e_37, e_38, e_41, e_42, e_43, e_44, e_46, e_53, go_sem, seval]; rw [← hQ]; exact ⟨_, _, (Ref.std [1, 3, 4, 5, 6, 7] [0, 1] (by decide) low0 (by first | rfl | simp only [go_sem, seval]) (by first | rfl | simp only [go_sem, seval])), (Nat.zero_le _), ih _ _ _ h hp⟩
  · simp only [e_25, go_sem, seval]; cases h; rw [← hQ]; exact ⟨_, _, (Ref.std [1, 3, 4, 5, 6] [0, 1] (by decide) low0 rfl (by first | rfl | simp only [go_sem, seval])), hp⟩
theorem ref08_Dead_L6_w (N : Nat) (l_1 : List Int) (i_6 : Int) (l_0 : List (Vector Int 16)) (c_0 : Bool) (c_1 : Bool) {R : AExit → ATm → List AObj → Prop} : ∀ (n : Nat) (i_10 : Int) (s_11 : List Bool) (o : (List Bool)), ref08_Dead_L6 N l_1 i_6 l_0 n i_10 s_11 = some o → (match o with | z_1 => R (.exit 2) ⟨87, [(1, .ptr 0 0 0), (3, .int .i64 (l_1.length : Int)), (4, .row 1 0 z_1.length), (5, .int .i64 i_6)], []⟩ [.box [.vec c_0 (List.map eA16I64 l_0), .vec c_1 (List.map eI64 l_1)] 25, .mem 1 (List.map eB z_1) 4]) →
  ALp Try.prog 0 B18_2 ⟨87, [(1, .ptr 0 0 0), (3, .int .i64 (l_1.length : Int)), (4, .row 1 0 s_11.length), (5, .int .i64 i_6), (6, .int .i64 i_10)], []⟩ [.box [.vec c_0 (List.map eA16I64 l_0), .vec c_1 (List.map eI64 l_1)] 25, .mem 1 (List.map eB s_11) 4] R := by
 intro n
 induction n with
 | zero =>
  intro i_10 s_11 o h _; exact no0 h
 | succ n ih =>
  intro i_10 s_11 o h hp; rw [ref08_Dead_L6] at h; refine ALp.round ?_; generalize hQ : RoundQ _ _ _ _ = QQ; simp only [B18_2, B18_1, A18, go_sem, seval]; rcases iteS h with ⟨e_13, h⟩ | ⟨e_13, h⟩
  ·
   obtain ⟨x_14, h_15, h⟩ := bindS h; have e_16 : (List.map eB s_11)[(i_10).toNat]? = some [.bool x_14] := atI_map eB h_15; have e_17 := eq_true (atI_some h_15).1; have e_18 := eq_true (atI_lt h_15); simp only [e_13, e_16, e_17, e_18, go_sem, seval]; rcases iteB h with ⟨e_20, h⟩ | ⟨e_20, h⟩
   · have e_21 : (List.map eB s_11).set (i_10).toNat [.bool true] = List.map eB (List.set s_11 (i_10).toNat true) := set_map s_11 eB (i_10).toNat true; simp only [e_13, e_16, e_17, e_18, e_20, e_21, go_sem, seval]; obtain ⟨y_1023, h_1022, h⟩ := bindS h; refine ALp.ref (Ref.std [1, 3, 4, 5, 6, 7] [0, 1] (by decide) low0 (by first | rfl | simp only [go_sem, seval]) (by first | rfl | simp only [go_sem, seval])) (Nat.zero_le _) (ref08_Dead_L5_w N _ _ _ _ c_0 c_1 N _ _ y_1023 h_1022 ?_); refine LoopK_go rfl (Nat.zero_le _) ?_; simp only [e_13, e_16, e_17, e_18, e_20, e_21, go_sem, seval]; rw [← hQ]; exact ⟨_, _, (Ref.std [1, 3, 4, 5, 6] [0, 1] (by decide) low0 rfl (by first | rfl | simp only [go_sem, seval])), (Nat.zero_le _), ih _ _ _ h hp⟩
   · obtain ⟨x_1024, h_1025, h⟩ := bindS h; have e_1026 : (List.map eI64 l_1)[(i_10).toNat]? = some [.int .i64 x_1024] := atI_map eI64 h_1025; have e_1027 := eq_true (atI_some h_1025).1; have e_1028 := eq_true (atI_lt h_1025); have e_1029 : (List.map eB s_11).set (i_10).toNat [.bool (decide (0 ≤ x_1024))] = List.map eB (List.set s_11 (i_10).toNat (decide (0 ≤ x_1024))) := set_map s_11 eB (i_10).toNat (decide (0 ≤ x_1024)); simp only [e_13, e_16, e_17, e_18, e_20, e_1026, e_1027, e_1028, e_1029, go_sem, seval]; obtain ⟨y_2031, h_2030, h⟩ := bindS h; refine ALp.ref (Ref.std [1, 3, 4, 5, 6, 7] [0, 1] (by decide) low0 (by first | rfl | simp only [go_sem, seval]) (by first | rfl | simp only [go_sem, seval])) (Nat.zero_le _) (ref08_Dead_L5_w N _ _ _ _ c_0 c_1 N _ _ y_2031 h_2030 ?_); refine LoopK_go rfl (Nat.zero_le _) ?_; simp only [e_13, e_16, e_17, e_18, e_20, e_1026, e_1027, e_1028, e_1029, go_sem, seval]; rw [← hQ]; exact ⟨_, _, (Ref.std [1, 3, 4, 5, 6] [0, 1] (by decide) low0 rfl (by first | rfl | simp only [go_sem, seval])), (Nat.zero_le _), ih _ _ _ h hp⟩
  · simp only [e_13, go_sem, seval]; cases h; rw [← hQ]; exact ⟨_, _, (Ref.std [1, 3, 4, 5] [0, 1] (by decide) low0 rfl (by first | rfl | simp only [go_sem, seval])), hp⟩
theorem ref08_Dead_L7_w (N : Nat) (l_1 : List Int) (l_0 : List (Vector Int 16)) (c_0 : Bool) (c_1 : Bool) {R : AExit → ATm → List AObj → Prop} : ∀ (n : Nat) (i_6 : Int) (s_7 : List Bool) (o : (List Bool)), ref08_Dead_L7 N l_1 l_0 n i_6 s_7 = some o → (match o with | z_1 => R (.exit 0) ⟨87, [(3, .int .i64 (l_1.length : Int)), (4, .row 0 0 z_1.length)], []⟩ [.mem 1 (List.map eB z_1) 4]) →
  ALp Try.prog 0 B18_1 ⟨87, [(1, .ptr 0 0 0), (3, .int .i64 (l_1.length : Int)), (4, .row 1 0 s_7.length), (5, .int .i64 i_6)], []⟩ [.box [.vec c_0 (List.map eA16I64 l_0), .vec c_1 (List.map eI64 l_1)] 25, .mem 1 (List.map eB s_7) 4] R := by
 intro n
 induction n with
 | zero =>
  intro i_6 s_7 o h _; exact no0 h
 | succ n ih =>
  intro i_6 s_7 o h hp; rw [ref08_Dead_L7] at h; refine ALp.round ?_; generalize hQ : RoundQ _ _ _ _ = QQ; simp only [B18_1, A18, go_sem, seval]; rcases iteS h with ⟨e_9, h⟩ | ⟨e_9, h⟩
  · simp only [e_9, go_sem, seval]; obtain ⟨y_1011, h_1010, h⟩ := bindS h; refine ALp.ref (Ref.std [1, 3, 4, 5, 6] [0, 1] (by decide) low0 rfl (by first | rfl | simp only [go_sem, seval])) (Nat.zero_le _) (ref08_Dead_L6_w N _ _ _ c_0 c_1 N _ _ y_1011 h_1010 ?_); refine LoopK_go rfl (Nat.zero_le _) ?_; simp only [e_9, go_sem, seval]; rw [← hQ]; exact ⟨_, _, (Ref.std [1, 3, 4, 5] [0, 1] (by decide) low0 rfl (by first | rfl | simp only [go_sem, seval])), (Nat.zero_le _), ih _ _ _ h hp⟩
  · simp only [e_9, go_sem, seval]; cases h; rw [← hQ]; exact ⟨_, _, (Ref.std [3, 4] [1] (by decide) low0 rfl (by first | rfl | simp only [go_sem, seval])), hp⟩
theorem ref08_Dead_L8_w (N : Nat) (l_1 : List Int) (y_1007 : List Bool) {R : AExit → ATm → List AObj → Prop} : ∀ (n : Nat) (i_1008 : Int) (s_1009 : List Bool) (o : (List Bool)), ref08_Dead_L8 N l_1 y_1007 n i_1008 s_1009 = some o → (match o with | z_1 => R (.exit 6) ⟨87, [(8, .row 0 0 z_1.length)], []⟩ [.mem 1 (List.map eB z_1) 4]) →
  ALp Try.prog 0 B18_4 ⟨87, [(3, .int .i64 (l_1.length : Int)), (4, .row 0 0 y_1007.length), (8, .row 1 0 s_1009.length), (9, .int .i64 i_1008)], []⟩ [.mem 1 (List.map eB y_1007) 4, .mem 1 (List.map eB s_1009) 4] R := by
 intro n
 induction n with
 | zero =>
  intro i_1008 s_1009 o h _; exact no0 h
 | succ n ih =>
  intro i_1008 s_1009 o h hp; rw [ref08_Dead_L8] at h; refine ALp.round ?_; generalize hQ : RoundQ _ _ _ _ = QQ; simp only [B18_4, A18, go_sem, seval]; rcases iteS h with ⟨e_1011, h⟩ | ⟨e_1011, h⟩
  · obtain ⟨x_1012, h_1013, h⟩ := bindS h; have e_1014 : (List.map eB y_1007)[(i_1008).toNat]? = some [.bool x_1012] := atI_map eB h_1013; have e_1015 := eq_true (atI_some h_1013).1; have e_1016 := eq_true (atI_lt h_1013); have e_1017 := tk eB s_1009; have e_1018 : (List.map eB s_1009) ++ [[.bool (!x_1012)]] = (List.map eB (s_1009 ++ [!x_1012])) := app_map s_1009 ([!x_1012]) eB; obtain ⟨e_1020, h⟩ := guardE h; simp only [e_1011, e_1014, e_1015, e_1016, e_1017, e_1018, e_1020, go_sem, seval]; rw [← hQ]; exact ⟨_, _, (Ref.std [3, 4, 8, 9] [0, 2] (by decide) low0 (by first | rfl | simp only [go_sem, seval]) (by first | rfl | simp only [go_sem, seval])), (Nat.zero_le _), ih _ _ _ h hp⟩
  · simp only [e_1011, go_sem, seval]; cases h; rw [← hQ]; exact ⟨_, _, (Ref.std [8] [1] (by decide) low0 rfl (by first | rfl | simp only [go_sem, seval])), hp⟩
theorem ref08_Dead_w (N : Nat) (l_0 : List (Vector Int 16)) (l_1 : List Int) (c_0 : Bool) (c_1 : Bool) (z_1 : List Bool) (h : ref08_Dead N l_0 l_1 = some z_1) :
  ACalls Try.prog 18 [.agg [.vec c_0 (List.map eA16I64 l_0), .vec c_1 (List.map eI64 l_1)]] [] (fun e H => H = [] ∧ e = .ret (.vec false (List.map eB z_1))) := by
 unfold ref08_Dead at h; refine ACalls.goN Try.func18 n18 a18 Try.ntmps18 r18 (by simp) 0 rfl ?_; generalize hQ : bodyA _ _ _ = QQ; obtain ⟨e_2, h⟩ := guardE h; obtain ⟨e_4, h⟩ := guardE h; have e_5 : List.replicate l_1.length [.bool false] = List.map eB (List.replicate l_1.length false) := rep_map _ eB false; simp only [A18, e_2, e_4, e_5, go_sem, seval, -List.reduceReplicate]; obtain ⟨y_1007, h_1006, h⟩ := bindS h; refine ALp.ref (Ref.std [1, 3, 4, 5] [0, 1] (by decide) low0 (by simp only [go_sem, seval, -List.reduceReplicate]) (by simp only [go_sem, seval, -List.reduceReplicate])) (Nat.zero_le _) (ref08_Dead_L7_w N _ _ c_0 c_1 N _ _ y_1007 h_1006 ?_); refine LoopK_go rfl (Nat.zero_le _) ?_; simp only [e_2, e_4, e_5, go_sem, seval, -List.reduceReplicate]; obtain ⟨y_2009, h_2008, h⟩ := bindS h; refine ALp.ref (Ref.trans (Ref.thaw (Nat.zero_le _) 8 rfl (sz := 1) (by decide) 4) (Ref.std [3, 4, 8, 9] [0, 1] (by decide) low0 rfl (by first | rfl | simp only [go_sem, seval, -List.reduceReplicate]))) (Nat.zero_le _) (ref08_Dead_L8_w N _ _ N _ _ y_2009 h_2008 ?_); refine LoopK_go rfl (Nat.zero_le _) ?_; simp only [e_2, e_4, e_5, go_sem, seval, -List.reduceReplicate]; obtain rfl := si h; rw [← hQ]; exact ⟨rfl, _, rfl, _, _, (RefV.trans (RefV.frz (Nat.zero_le _) (id := 0) rfl (pures_map y_2009 eB (fun _ => by first | rfl | simp only [eA16I64, go_sem]))) (RefV.out (by first | rfl | simp only [go_sem, seval, -List.reduceReplicate]))), rfl, rfl⟩
theorem ref08_to_w (N : Nat) (l_0 : List (Vector Int 16)) (l_1 : List Int) (l_2 : List Bool) (a_3 : Int) (a_4 : Int) (c_0 : Bool) (c_1 : Bool) (c_2 : Bool) (z_1 : Int) (h : ref08_to N l_0 l_1 l_2 a_3 a_4 = some z_1) :
  ACalls Try.prog 41 [.agg [.vec c_0 (List.map eA16I64 l_0), .vec c_1 (List.map eI64 l_1)], .vec c_2 (List.map eB l_2), .int .i64 a_3, .int .i64 a_4] [] (fun e H => H = [] ∧ e = .ret (.int .i64 z_1)) := by
 unfold ref08_to at h; refine ACalls.goN Try.func41 n41 a41 Try.ntmps41 r41 (by simp) 0 rfl ?_; generalize hQ : bodyA _ _ _ = QQ; simp only [A41, go_sem, seval]; rcases iteS h with ⟨e_2, h⟩ | ⟨e_2, h⟩
 · simp only [e_2, go_sem, seval]; obtain rfl := si h; rw [← hQ]; exact ⟨rfl, _, rfl, _, _, (RefV.out rfl), rfl, rfl⟩
 ·
  obtain ⟨x_3, h_4, h⟩ := bindS h; have e_5 : (List.map eA16I64 l_0)[(a_3).toNat]? = some (arrI .i64 x_3) := atI_map eA16I64 h_4; have e_6 := eq_true (atI_some h_4).1; have e_7 := eq_true (atI_lt h_4); obtain ⟨x_8, h_9, h⟩ := bindS h; have e_10 : List.take 1 (List.drop (a_4).toNat (arrI .i64 x_3)) = [.int .i64 x_8] := arr_one h_9; have e_11 : ((0 : Int) ≤ a_4) = True := arr_ge h_9; have e_12 : ((a_4 : Int) < 16) = True := arr_lt h_9; have e_13 : ((a_4).toNat + 1 ≤ 16) = True := arr_le h_9; simp only [e_2, e_5, e_6, e_7, e_10, e_11, e_12, e_13, go_sem, seval]; rcases iteS h with ⟨e_15, h⟩ | ⟨e_15, h⟩
  · simp only [e_2, e_5, e_6, e_7, e_10, e_11, e_12, e_13, e_15, go_sem, seval]; obtain rfl := si h; rw [← hQ]; exact ⟨rfl, _, rfl, _, _, (RefV.out rfl), rfl, rfl⟩
  ·
   obtain ⟨x_16, h_17, h⟩ := bindS h; have e_18 : (List.map eB l_2)[(x_8).toNat]? = some [.bool x_16] := atI_map eB h_17; have e_19 := eq_true (atI_some h_17).1; have e_20 := eq_true (atI_lt h_17); simp only [e_2, e_5, e_6, e_7, e_10, e_11, e_12, e_13, e_15, e_18, e_19, e_20, go_sem, seval]; rcases iteB h with ⟨e_22, h⟩ | ⟨e_22, h⟩
   · simp only [e_2, e_5, e_6, e_7, e_10, e_11, e_12, e_13, e_15, e_18, e_19, e_20, e_22, go_sem, seval]; obtain rfl := si h; rw [← hQ]; exact ⟨rfl, _, rfl, _, _, (RefV.out rfl), rfl, rfl⟩
   · simp only [e_2, e_5, e_6, e_7, e_10, e_11, e_12, e_13, e_15, e_18, e_19, e_20, e_22, go_sem, seval]; obtain rfl := si h; rw [← hQ]; exact ⟨rfl, _, rfl, _, _, (RefV.out rfl), rfl, rfl⟩
def mkR (r : List Bool) : AObj := .mem 1 (List.map eB r) 4
def TH (b : List AV) (E : List (List AV)) (T : List (List Bool)) : List AObj := .box b 25 :: .mem 1 E 30 :: T.map mkR
def outP (m k : Nat) : List (List AV) := (List.range k).map (fun i => [.row (i + 2) 0 m]) ++ List.replicate (m - k) [nn]
theorem outP_get {m k i : Nat} (h : i < k) : (outP m k)[i]? = some [.row (i + 2) 0 m] := by
  unfold outP
  rw [List.getElem?_append_left (by simpa using h), List.getElem?_map, List.getElem?_range h]; rfl
theorem outP_new {m k : Nat} (h : k < m) : (outP m k)[k]? = some [nn] := by
  unfold outP
  rw [List.getElem?_append_right (by simp), List.length_map, List.length_range, Nat.sub_self, List.getElem?_replicate, if_pos (by omega)]
theorem outP_set {m k : Nat} (h : k < m) : (outP m k).set k [.row (k + 2) 0 m] = outP m (k + 1) := by
  unfold outP
  obtain ⟨d, hd⟩ : ∃ d, m - k = d + 1 := ⟨m - k - 1, by omega⟩
  rw [List.set_append_right _ _ (by simp), List.length_map, List.length_range, Nat.sub_self, hd, List.replicate_succ, List.set_cons_zero, List.range_succ, List.map_append, List.append_assoc, show m - (k + 1) = d by omega]; rfl
theorem TH_len {b : List AV} {E : List (List AV)} {T : List (List Bool)} : (TH b E T).length = T.length + 2 := by simp [TH]
theorem TH_0 {b : List AV} {E : List (List AV)} {T : List (List Bool)} : (TH b E T)[0]? = some (.box b 25) := rfl
theorem TH_1 {b : List AV} {E : List (List AV)} {T : List (List Bool)} : (TH b E T)[1]? = some (.mem 1 E 30) := rfl
theorem TH_r {b : List AV} {E : List (List AV)} {T : List (List Bool)} {i : Int} {r : List Bool} (h : atI T i = some r) : (TH b E T)[i.toNat + 2]? = some (.mem 1 (List.map eB r) 4) := by
  simp only [TH, List.getElem?_cons_succ, List.getElem?_map, (atI_some h).2]; rfl
theorem TH_set {b : List AV} {E : List (List AV)} {T : List (List Bool)} {i : Nat} {r : List Bool} : (TH b E T).set (i + 2) (.mem 1 (List.map eB r) 4) = TH b E (T.set i r) := by
  simp only [TH, List.set_cons_succ, List.map_set]; rfl
theorem TH_set1 {b : List AV} {E E' : List (List AV)} {T : List (List Bool)} : (TH b E T).set 1 (.mem 1 E' 30) = TH b E' T := rfl
theorem TH_app {b : List AV} {E : List (List AV)} {T : List (List Bool)} {r : List Bool} : TH b E T ++ [.mem 1 (List.map eB r) 4] = TH b E (T ++ [r]) := by simp [TH, mkR]
theorem raI_lt {l : List Int} {i a : Int} (h : raI l i = some a) (hi : i < (l.length : Int)) : atI l i = some a := by unfold raI at h; rw [if_pos hi] at h; exact h
theorem raI_ge {l : List Int} {i a : Int} (h : raI l i = some a) (hi : ¬ i < (l.length : Int)) : a = -1 := by unfold raI at h; rw [if_neg hi] at h; exact (Option.some.inj h).symm
theorem ref08_Alike_L1_w (N : Nat) (l_0 : List (Vector Int 16)) (l_1 : List Int) (c_0 c_1 : Bool) (y_4 : List Bool) (m : Nat) (hm : (m : Int) = (l_1.length : Int) + 1) (i_6 : Int) (E : List (List AV)) (hE : E[i_6.toNat]? = some [.row (i_6.toNat + 2) 0 m]) (hi : i_6 < (m : Int)) {R : AExit → ATm → List AObj → Prop} :
    ∀ (n : Nat) (i_7 : Int) (T o : List (List Bool)), ref08_Alike_L1 N l_0 l_1 i_6 n i_7 T = some o →
      R (.exit 2) ⟨147, [(1, .ptr 0 0 0), (3, .int .i64 (l_1.length : Int)), (4, .vec false (List.map eB y_4)), (5, .row 1 0 m), (6, .int .i64 i_6)], []⟩ (TH [.vec c_0 (List.map eA16I64 l_0), .vec c_1 (List.map eI64 l_1)] E o) →
      ALp Try.prog 0 B17_2 ⟨147, [(1, .ptr 0 0 0), (3, .int .i64 (l_1.length : Int)), (4, .vec false (List.map eB y_4)), (5, .row 1 0 m), (6, .int .i64 i_6), (7, .int .i64 i_7)], []⟩ (TH [.vec c_0 (List.map eA16I64 l_0), .vec c_1 (List.map eI64 l_1)] E T) R := by
  intro n
  induction n with
  | zero => intro i_7 T o h _; exact no0 h
  | succ n ih =>
    intro i_7 T o h hp
    rw [ref08_Alike_L1] at h
    refine ALp.round ?_
    generalize hQ : RoundQ _ _ _ _ = QQ
    simp only [B17_2, B17_1, A17, go_sem, seval, -List.reduceReplicate]
    rcases iteS h with ⟨e1, h⟩ | ⟨e1, h⟩
    · obtain ⟨a, ha, h⟩ := bindS h
      obtain ⟨b, hb, h⟩ := bindS h
      obtain ⟨r, hr, h⟩ := bindS h
      obtain ⟨x, hx, h⟩ := bindS h
      have e2 := TH_r (b := [.vec c_0 (List.map eA16I64 l_0), .vec c_1 (List.map eI64 l_1)]) (E := E) hr
      have e3 := eq_true hi
      have e4 := eq_true (atI_some hr).1
      have e5 : (List.map eB r)[i_7.toNat]? = some [.bool x] := atI_map eB hx
      have e6 := eq_true (atI_some hx).1
      have e7 : (i_7 < (m : Int)) = True := eq_true (by have := of_eq_true e1; omega)
      have fin : ∀ (y : Bool) (l : List (Nat × AV)), pickl l [1, 3, 4, 5, 6, 7] = [(1, .ptr 0 0 0), (3, .int .i64 (l_1.length : Int)), (4, .vec false (List.map eB y_4)), (5, .row 1 0 m), (6, .int .i64 i_6), (7, .int .i64 (IntKind.i64.wrap (i_7 + 1)))] → y = decide (¬ a = b) →
          QQ .normal ⟨147, l, []⟩ ((TH [.vec c_0 (List.map eA16I64 l_0), .vec c_1 (List.map eI64 l_1)] E T).set (i_6.toNat + 2) (.mem 1 ((List.map eB r).set i_7.toNat [.bool y]) 4)) := fun y l hl hy => by
        subst hy
        have e9 : (List.map eB r).set i_7.toNat [.bool (decide (¬ a = b))] = List.map eB (r.set i_7.toNat (decide (¬ a = b))) := set_map r eB i_7.toNat (decide (¬ a = b))
        rw [e9, TH_set, ← hQ]
        exact ⟨_, _, Ref.to (Ref.pick [1, 3, 4, 5, 6, 7]) (by rw [hl]) rfl, Nat.zero_le _, ih _ _ _ h hp⟩
      by_cases g1 : i_6 < (l_1.length : Int)
      · have ha' := raI_lt ha g1
        have f1 : (List.map eI64 l_1)[i_6.toNat]? = some [.int .i64 a] := atI_map eI64 ha'
        have f2 := eq_true g1
        by_cases g2 : i_7 < (l_1.length : Int)
        · have hb' := raI_lt hb g2
          have f3 : (List.map eI64 l_1)[i_7.toNat]? = some [.int .i64 b] := atI_map eI64 hb'
          have f4 := eq_true g2
          simp only [e1, e2, e3, e4, e5, e6, e7, f1, f2, f3, f4, hE, TH_0, TH_1, go_sem, seval, -List.reduceReplicate]
          exact fin _ _ rfl rfl
        · have f4 := eq_false g2
          have hb' := raI_ge hb g2
          simp only [e1, e2, e3, e4, e5, e6, e7, f1, f2, f4, hE, TH_0, TH_1, go_sem, seval, -List.reduceReplicate]
          exact fin _ _ rfl (by rw [hb'])
      · have f2 := eq_false g1
        have ha' := raI_ge ha g1
        by_cases g2 : i_7 < (l_1.length : Int)
        · have hb' := raI_lt hb g2
          have f3 : (List.map eI64 l_1)[i_7.toNat]? = some [.int .i64 b] := atI_map eI64 hb'
          have f4 := eq_true g2
          simp only [e1, e2, e3, e4, e5, e6, e7, f2, f3, f4, hE, TH_0, TH_1, go_sem, seval, -List.reduceReplicate]
          exact fin _ _ rfl (by rw [ha'])
        · have f4 := eq_false g2
          have hb' := raI_ge hb g2
          simp only [e1, e2, e3, e4, e5, e6, e7, f2, f4, hE, TH_0, TH_1, go_sem, seval, -List.reduceReplicate]
          exact fin _ _ rfl (by rw [ha', hb']; rfl)
    · simp only [e1, go_sem, seval, -List.reduceReplicate]
      cases h
      rw [← hQ]
      exact ⟨_, _, Ref.to (Ref.pick [1, 3, 4, 5, 6]) rfl rfl, hp⟩
theorem ref08_Alike_L2_w (N : Nat) (l_0 : List (Vector Int 16)) (l_1 : List Int) (c_0 c_1 : Bool) (y_4 : List Bool) (m : Nat) (hm : (m : Int) = (l_1.length : Int) + 1) (hM : m ≤ 1000001) {R : AExit → ATm → List AObj → Prop} :
    ∀ (n : Nat) (i_6 : Int) (T o : List (List Bool)), ref08_Alike_L2 N l_0 l_1 m n i_6 T = some o →
      R (.exit 0) ⟨147, [(1, .ptr 0 0 0), (3, .int .i64 (l_1.length : Int)), (4, .vec false (List.map eB y_4)), (5, .row 1 0 m)], []⟩ (TH [.vec c_0 (List.map eA16I64 l_0), .vec c_1 (List.map eI64 l_1)] (outP m o.length) o) →
      ALp Try.prog 0 B17_1 ⟨147, [(1, .ptr 0 0 0), (3, .int .i64 (l_1.length : Int)), (4, .vec false (List.map eB y_4)), (5, .row 1 0 m), (6, .int .i64 i_6)], []⟩ (TH [.vec c_0 (List.map eA16I64 l_0), .vec c_1 (List.map eI64 l_1)] (outP m T.length) T) R := by
  intro n
  induction n with
  | zero => intro i_6 T o h _; exact no0 h
  | succ n ih =>
    intro i_6 T o h hp
    rw [ref08_Alike_L2] at h
    refine ALp.round ?_
    generalize hQ : RoundQ _ _ _ _ = QQ
    simp only [B17_1, A17, go_sem, seval, -List.reduceReplicate]
    rcases iteS h with ⟨e1, h⟩ | ⟨e1, h⟩
    · obtain ⟨e2, h⟩ := guardE h
      have e2' := of_eq_true e2
      subst e2'
      obtain ⟨T', hT', h⟩ := bindS h
      obtain ⟨e3, h⟩ := guardE h
      have hlt : T.length < m := by have := of_eq_true e1; omega
      have f1 : IntKind.i64.wrap ((l_1.length : Int) + 1) = (m : Int) := by rw [← hm]; exact wrapI (by omega) (by omega)
      have f2 : ((m : Int) * 1 ≤ 140737488355328) = True := eq_true (by omega)
      have f3 : List.replicate m [AV.bool false] = List.map eB (List.replicate m false) := rep_map m eB false
      have f4 : ((T.length : Int) < (m : Int)) = True := eq_true (by omega)
      have f5 : (outP m T.length)[T.length]? = some [.vec true []] := outP_new hlt
      have f6 := outP_set hlt
      have f7 : ((m : Int) ≤ 140737488355328) = True := eq_true (by omega)
      simp only [e1, f1, f2, f3, f4, f5, f6, f7, TH_0, TH_1, TH_len, TH_app, TH_set1, go_sem, seval, -List.reduceReplicate, -List.reduceReplicate]
      have hE : (outP m (T.length + 1))[((T.length : Nat) : Int).toNat]? = some [.row (((T.length : Nat) : Int).toNat + 2) 0 m] := by rw [Int.toNat_natCast]; exact outP_get (by omega)
      refine ALp.ref (Ref.to (Ref.pick [1, 3, 4, 5, 6, 7]) rfl rfl) (Nat.zero_le _) (ref08_Alike_L1_w N l_0 l_1 c_0 c_1 y_4 m hm _ _ hE (of_eq_true f4) N _ _ T' hT' ?_)
      refine LoopK_go rfl (Nat.zero_le _) ?_
      simp only [go_sem, seval, -List.reduceReplicate]
      rw [← hQ]
      have e3' := of_eq_true e3
      rw [← e3']
      exact ⟨_, _, Ref.to (Ref.pick [1, 3, 4, 5, 6]) rfl rfl, Nat.zero_le _, ih _ _ _ h hp⟩
    · simp only [e1, go_sem, seval, -List.reduceReplicate]
      cases h
      rw [← hQ]
      exact ⟨_, _, Ref.to (Ref.pick [1, 3, 4, 5]) rfl rfl, hp⟩
theorem ref08_Alike_L3_w (N : Nat) (l_0 : List (Vector Int 16)) (l_1 : List Int) (c_0 c_1 : Bool) (y_4 : List Bool) (m : Nat) (hm : (m : Int) = (l_1.length : Int) + 1) (E : List (List AV)) (hE : ∀ i : Nat, i < m → E[i]? = some [.row (i + 2) 0 m]) (i_11 i_12 : Int) (h11 : i_11 < (m : Int)) (h12 : i_12 < (m : Int)) {R : AExit → ATm → List AObj → Prop} :
    ∀ (n : Nat) (i_13 : Int) (q : Bool) (T : List (List Bool)) (o : Bool × List (List Bool)), T.length = m → ref08_Alike_L3 N l_0 l_1 y_4 i_11 i_12 n i_13 q T = some o →
      (o.2.length = m → R (.exit 10) ⟨147, [(1, .ptr 0 0 0), (3, .int .i64 (l_1.length : Int)), (4, .vec false (List.map eB y_4)), (5, .row 1 0 m), (10, .bool o.1), (11, .int .i64 i_11), (12, .int .i64 i_12)], []⟩ (TH [.vec c_0 (List.map eA16I64 l_0), .vec c_1 (List.map eI64 l_1)] E o.2)) →
      ALp Try.prog 0 B17_6 ⟨147, [(1, .ptr 0 0 0), (3, .int .i64 (l_1.length : Int)), (4, .vec false (List.map eB y_4)), (5, .row 1 0 m), (10, .bool q), (11, .int .i64 i_11), (12, .int .i64 i_12), (13, .int .i64 i_13)], []⟩ (TH [.vec c_0 (List.map eA16I64 l_0), .vec c_1 (List.map eI64 l_1)] E T) R := by
  intro n
  induction n with
  | zero => intro i_13 q T o _ h _; exact no0 h
  | succ n ih =>
    intro i_13 q T o hT h hp
    rw [ref08_Alike_L3] at h
    refine ALp.round ?_
    generalize hQ : RoundQ _ _ _ _ = QQ
    rcases iteS h with ⟨e1, h⟩ | ⟨e1, h⟩
    · obtain ⟨r, hr, h⟩ := bindS h
      obtain ⟨x, hx, h⟩ := bindS h
      have r0 := (atI_some hr).1
      have x0 := (atI_some hx).1
      have e2 := TH_r (b := [.vec c_0 (List.map eA16I64 l_0), .vec c_1 (List.map eI64 l_1)]) (E := E) hr
      have e3 := eq_true h11
      have e4 := eq_true r0
      have e5 : (List.map eB r)[i_12.toNat]? = some [.bool x] := atI_map eB hx
      have e6 := eq_true x0
      have e7 := eq_true h12
      have e8 := hE i_11.toNat (by omega)
      have e9 := hE i_12.toNat (by omega)
      simp only [B17_6, B17_5, B17_4, B17_3, A17, e1, e2, e3, e4, e5, e6, e7, e8, TH_0, TH_1, go_sem, seval, -List.reduceReplicate]
      rcases iteB h with ⟨g1, h⟩ | ⟨g1, h⟩
      · subst g1
        simp only [go_sem, seval, -List.reduceReplicate]
        cases h
        rw [← hQ]
        exact ⟨_, _, Ref.to (Ref.pick [1, 3, 4, 5, 10, 11, 12]) rfl rfl, hp hT⟩
      · subst g1
        obtain ⟨a, ha, h⟩ := bindS h
        obtain ⟨b, hb, h⟩ := bindS h
        obtain ⟨ra, hra, h⟩ := bindS h
        obtain ⟨z, hz, h⟩ := bindS h
        have a0 := (atI_some hra).1
        have al := atI_lt hra
        have b0 := (atI_some hz).1
        by_cases gb : ¬ (b ≤ (l_1.length : Int))
        · rw [if_pos gb] at h; exact no0 h
        rw [if_neg gb] at h
        have f1 := TH_r (b := [.vec c_0 (List.map eA16I64 l_0), .vec c_1 (List.map eI64 l_1)]) (E := E) hra
        have f2 : (a < (m : Int)) = True := eq_true (by omega)
        have f3 := eq_true a0
        have f4 : (List.map eB ra)[b.toNat]? = some [.bool z] := atI_map eB hz
        have f5 := eq_true b0
        have f6 : (b < (m : Int)) = True := eq_true (by omega)
        have f7 := hE a.toNat (by omega)
        simp only [e1, e2, e3, e4, e5, e6, e7, e8, f1, f2, f3, f4, f5, f6, f7, TH_0, TH_1, go_sem, seval, -List.reduceReplicate]
        refine ACalls.use0 (ref08_to_w N _ _ _ _ _ c_0 c_1 false _ ha) rfl rfl ?_
        simp only [e1, e2, e3, e4, e5, e6, e7, e8, f1, f2, f3, f4, f5, f6, f7, TH_0, TH_1, dCallK_ret, go_sem, seval, -List.reduceReplicate]
        refine ACalls.use0 (ref08_to_w N _ _ _ _ _ c_0 c_1 false _ hb) rfl rfl ?_
        simp only [e1, e2, e3, e4, e5, e6, e7, e8, f1, f2, f3, f4, f5, f6, f7, TH_0, TH_1, dCallK_ret, go_sem, seval, -List.reduceReplicate]
        rcases iteB h with ⟨g2, h⟩ | ⟨g2, h⟩
        · subst g2
          obtain ⟨r2, hr2, h⟩ := bindS h
          obtain ⟨x2, hx2, h⟩ := bindS h
          have k1 : (List.map eB r).set i_12.toNat [.bool true] = List.map eB (r.set i_12.toNat true) := set_map r eB i_12.toNat true
          have k2 := TH_r (b := [.vec c_0 (List.map eA16I64 l_0), .vec c_1 (List.map eI64 l_1)]) (E := E) hr2
          have k3 : (List.map eB r2)[i_11.toNat]? = some [.bool x2] := atI_map eB hx2
          have k4 : (List.map eB r2).set i_11.toNat [.bool true] = List.map eB (r2.set i_11.toNat true) := set_map r2 eB i_11.toNat true
          simp only [e2, e3, e4, e5, e6, e7, e8, e9, k1, k2, k3, k4, TH_0, TH_1, TH_set, go_sem, seval, -List.reduceReplicate]
          rw [← hQ]
          exact ⟨_, _, Ref.to (Ref.pick [1, 3, 4, 5, 10, 11, 12, 13]) rfl rfl, Nat.zero_le _, ih _ _ _ _ (by simpa using hT) h hp⟩
        · subst g2
          simp only [go_sem, seval, -List.reduceReplicate]
          rw [← hQ]
          exact ⟨_, _, Ref.to (Ref.pick [1, 3, 4, 5, 10, 11, 12, 13]) rfl rfl, Nat.zero_le _, ih _ _ _ _ hT h hp⟩
    · simp only [B17_6, B17_5, B17_4, B17_3, A17, e1, go_sem, seval, -List.reduceReplicate]
      cases h
      rw [← hQ]
      exact ⟨_, _, Ref.to (Ref.pick [1, 3, 4, 5, 10, 11, 12]) rfl rfl, hp hT⟩
theorem ref08_Alike_L4_w (N : Nat) (l_0 : List (Vector Int 16)) (l_1 : List Int) (c_0 c_1 : Bool) (y_4 : List Bool) (m : Nat) (hm : (m : Int) = (l_1.length : Int) + 1) (E : List (List AV)) (hE : ∀ i : Nat, i < m → E[i]? = some [.row (i + 2) 0 m]) (i_11 : Int) (h11 : i_11 < (m : Int)) {R : AExit → ATm → List AObj → Prop} :
    ∀ (n : Nat) (i_12 : Int) (q : Bool) (T : List (List Bool)) (o : Bool × List (List Bool)), T.length = m → ref08_Alike_L4 N l_0 l_1 y_4 i_11 n i_12 q T = some o →
      (o.2.length = m → R (.exit 8) ⟨147, [(1, .ptr 0 0 0), (3, .int .i64 (l_1.length : Int)), (4, .vec false (List.map eB y_4)), (5, .row 1 0 m), (10, .bool o.1), (11, .int .i64 i_11)], []⟩ (TH [.vec c_0 (List.map eA16I64 l_0), .vec c_1 (List.map eI64 l_1)] E o.2)) →
      ALp Try.prog 0 B17_5 ⟨147, [(1, .ptr 0 0 0), (3, .int .i64 (l_1.length : Int)), (4, .vec false (List.map eB y_4)), (5, .row 1 0 m), (10, .bool q), (11, .int .i64 i_11), (12, .int .i64 i_12)], []⟩ (TH [.vec c_0 (List.map eA16I64 l_0), .vec c_1 (List.map eI64 l_1)] E T) R := by
  intro n
  induction n with
  | zero => intro i_12 q T o _ h _; exact no0 h
  | succ n ih =>
    intro i_12 q T o hT h hp
    rw [ref08_Alike_L4] at h
    refine ALp.round ?_
    generalize hQ : RoundQ _ _ _ _ = QQ
    rcases iteS h with ⟨e1, h⟩ | ⟨e1, h⟩
    · obtain ⟨⟨q', T'⟩, h1, h⟩ := bindS h
      (try dsimp only at h)
      simp only [B17_5, B17_4, B17_3, A17, e1, go_sem, seval, -List.reduceReplicate]
      refine ALp.ref (Ref.to (Ref.pick [1, 3, 4, 5, 10, 11, 12, 13]) rfl rfl) (Nat.zero_le _) (ref08_Alike_L3_w N l_0 l_1 c_0 c_1 y_4 m hm E hE i_11 i_12 h11 (by have := of_eq_true e1; omega) N _ _ T _ hT h1 fun hT' => ?_)
      refine LoopK_go rfl (Nat.zero_le _) ?_
      simp only [go_sem, seval, -List.reduceReplicate]
      rw [← hQ]
      exact ⟨_, _, Ref.to (Ref.pick [1, 3, 4, 5, 10, 11, 12]) rfl rfl, Nat.zero_le _, ih _ _ _ _ hT' h hp⟩
    · simp only [B17_5, B17_4, B17_3, A17, e1, go_sem, seval, -List.reduceReplicate]
      cases h
      rw [← hQ]
      exact ⟨_, _, Ref.to (Ref.pick [1, 3, 4, 5, 10, 11]) rfl rfl, hp hT⟩
theorem ref08_Alike_L5_w (N : Nat) (l_0 : List (Vector Int 16)) (l_1 : List Int) (c_0 c_1 : Bool) (y_4 : List Bool) (m : Nat) (hm : (m : Int) = (l_1.length : Int) + 1) (E : List (List AV)) (hE : ∀ i : Nat, i < m → E[i]? = some [.row (i + 2) 0 m]) {R : AExit → ATm → List AObj → Prop} :
    ∀ (n : Nat) (i_11 : Int) (q : Bool) (T : List (List Bool)) (o : Bool × List (List Bool)), T.length = m → ref08_Alike_L5 N l_0 l_1 y_4 n i_11 q T = some o →
      (o.2.length = m → R (.exit 6) ⟨147, [(1, .ptr 0 0 0), (3, .int .i64 (l_1.length : Int)), (4, .vec false (List.map eB y_4)), (5, .row 1 0 m), (10, .bool o.1)], []⟩ (TH [.vec c_0 (List.map eA16I64 l_0), .vec c_1 (List.map eI64 l_1)] E o.2)) →
      ALp Try.prog 0 B17_4 ⟨147, [(1, .ptr 0 0 0), (3, .int .i64 (l_1.length : Int)), (4, .vec false (List.map eB y_4)), (5, .row 1 0 m), (10, .bool q), (11, .int .i64 i_11)], []⟩ (TH [.vec c_0 (List.map eA16I64 l_0), .vec c_1 (List.map eI64 l_1)] E T) R := by
  intro n
  induction n with
  | zero => intro i_11 q T o _ h _; exact no0 h
  | succ n ih =>
    intro i_11 q T o hT h hp
    rw [ref08_Alike_L5] at h
    refine ALp.round ?_
    generalize hQ : RoundQ _ _ _ _ = QQ
    rcases iteS h with ⟨e1, h⟩ | ⟨e1, h⟩
    · obtain ⟨⟨q', T'⟩, h1, h⟩ := bindS h
      (try dsimp only at h)
      simp only [B17_4, B17_3, A17, e1, go_sem, seval, -List.reduceReplicate]
      refine ALp.ref (Ref.to (Ref.pick [1, 3, 4, 5, 10, 11, 12]) rfl rfl) (Nat.zero_le _) (ref08_Alike_L4_w N l_0 l_1 c_0 c_1 y_4 m hm E hE i_11 (by have := of_eq_true e1; omega) N _ _ T _ hT h1 fun hT' => ?_)
      refine LoopK_go rfl (Nat.zero_le _) ?_
      simp only [go_sem, seval, -List.reduceReplicate]
      rw [← hQ]
      exact ⟨_, _, Ref.to (Ref.pick [1, 3, 4, 5, 10, 11]) rfl rfl, Nat.zero_le _, ih _ _ _ _ hT' h hp⟩
    · simp only [B17_4, B17_3, A17, e1, go_sem, seval, -List.reduceReplicate]
      cases h
      rw [← hQ]
      exact ⟨_, _, Ref.to (Ref.pick [1, 3, 4, 5, 10]) rfl rfl, hp hT⟩
theorem ref08_Alike_L6_w (N : Nat) (l_0 : List (Vector Int 16)) (l_1 : List Int) (c_0 c_1 : Bool) (y_4 : List Bool) (m : Nat) (hm : (m : Int) = (l_1.length : Int) + 1) (E : List (List AV)) (hE : ∀ i : Nat, i < m → E[i]? = some [.row (i + 2) 0 m]) {R : AExit → ATm → List AObj → Prop} :
    ∀ (n : Nat) (q : Bool) (T o : List (List Bool)), T.length = m → ref08_Alike_L6 N l_0 l_1 y_4 n q T = some o →
      (o.length = m → R (.exit 4) ⟨147, [(1, .ptr 0 0 0), (3, .int .i64 (l_1.length : Int)), (4, .vec false (List.map eB y_4)), (5, .row 1 0 m)], []⟩ (TH [.vec c_0 (List.map eA16I64 l_0), .vec c_1 (List.map eI64 l_1)] E o)) →
      ALp Try.prog 0 B17_3 ⟨147, [(1, .ptr 0 0 0), (3, .int .i64 (l_1.length : Int)), (4, .vec false (List.map eB y_4)), (5, .row 1 0 m), (10, .bool q)], []⟩ (TH [.vec c_0 (List.map eA16I64 l_0), .vec c_1 (List.map eI64 l_1)] E T) R := by
  intro n
  induction n with
  | zero => intro q T o _ h _; exact no0 h
  | succ n ih =>
    intro q T o hT h hp
    rw [ref08_Alike_L6] at h
    refine ALp.round ?_
    generalize hQ : RoundQ _ _ _ _ = QQ
    rcases iteB h with ⟨e1, h⟩ | ⟨e1, h⟩
    · obtain ⟨⟨q', T'⟩, h1, h⟩ := bindS h
      (try dsimp only at h)
      simp only [B17_3, A17, e1, go_sem, seval, -List.reduceReplicate]
      refine ALp.ref (Ref.to (Ref.pick [1, 3, 4, 5, 10, 11]) rfl rfl) (Nat.zero_le _) (ref08_Alike_L5_w N l_0 l_1 c_0 c_1 y_4 m hm E hE N _ _ T _ hT h1 fun hT' => ?_)
      refine LoopK_go rfl (Nat.zero_le _) ?_
      simp only [go_sem, seval, -List.reduceReplicate]
      rw [← hQ]
      exact ⟨_, _, Ref.to (Ref.pick [1, 3, 4, 5, 10]) rfl rfl, Nat.zero_le _, ih _ _ _ hT' h hp⟩
    · simp only [B17_3, A17, e1, go_sem, seval, -List.reduceReplicate]
      cases h
      rw [← hQ]
      exact ⟨_, _, Ref.to (Ref.pick [1, 3, 4, 5]) rfl rfl, hp hT⟩
def TF (b : List AV) (m : Nat) (T : List (List Bool)) (k : Nat) : List AObj :=
  .box b 25 :: .mem 1 ((List.range m).map fun i => if i < k then [.vec false (List.map eB (T.getD i []))] else [.row (i + 2) 0 m]) 30 :: (List.range m).map fun i => if i < k then AObj.dead else mkR (T.getD i [])
theorem TF_0 {b : List AV} {m : Nat} {T : List (List Bool)} (hT : T.length = m) : TH b (outP m m) T = TF b m T 0 := by
  subst hT
  unfold TH TF outP
  have : T.map mkR = (List.range T.length).map fun i => if i < 0 then AObj.dead else mkR (T.getD i []) := by
    refine List.ext_getElem (by simp) fun i h1 h2 => ?_
    have hi : i < T.length := by simpa using h1
    simp [hi]
  rw [this, Nat.sub_self, List.replicate_zero, List.append_nil]
  rfl
theorem TF_step {b : List AV} {m : Nat} {T : List (List Bool)} {k n : Nat} {l : List (Nat × AV)} (hT : T.length = m) (hr : ∀ r ∈ T, r.length = m) (hk : k < m) (hb : ∀ S, subs S b = b) (hl : ∀ r, (⟨n, l, []⟩ : ATm).sub (frzS (k + 2) r) = ⟨n, l, []⟩) :
    Ref 0 ⟨n, l, []⟩ (TF b m T k) ⟨n, l, []⟩ (TF b m T (k + 1)) := by
  have hkT : k < T.length := by omega
  have hg : T.getD k [] = T[k] := by rw [List.getD_eq_getElem?_getD, List.getElem?_eq_getElem hkT]; rfl
  have hlen := hr _ (List.getElem_mem hkT)
  have ho : (TF b m T k)[k + 2]? = some (.mem 1 (List.map eB T[k]) 4) := by
    unfold TF
    simp only [List.getElem?_cons_succ, List.getElem?_map, List.getElem?_range hk, Option.map_some, Nat.lt_irrefl, if_false, hg]; rfl
  refine Ref.to (Ref.frz (Nat.zero_le _) (id := k + 2) ho (pures_map T[k] eB (fun _ => by first | rfl | simp only [eA16I64, go_sem]))) (hl _) ?_
  unfold TF
  simp only [List.set_cons_succ, List.map_cons, AObj.sub, hb, List.cons.injEq, true_and]
  refine ⟨?_, ?_⟩
  · congr 1
    rw [List.map_map]
    refine List.map_congr_left fun i hi => ?_
    have him := List.mem_range.1 hi
    simp only [Function.comp]
    by_cases h1 : i < k
    · rw [if_pos h1, if_pos (by omega)]; rfl
    · rw [if_neg h1]
      by_cases h2 : i = k
      · subst h2
        rw [if_pos (by omega), hg]
        simp [subs, AV.sub, frzS, hlen, List.take_of_length_le]
      · rw [if_neg (by omega)]
        simp [subs, AV.sub, frzS, h2]
  · refine List.ext_getElem (by simp) fun i h1 h2 => ?_
    have him : i < m := by simpa using h2
    rw [List.getElem_map, List.getElem_set, List.getElem_map, List.getElem_map, List.getElem_range]
    by_cases h3 : i = k
    · subst h3; rw [if_pos rfl, if_pos (by omega)]; rfl
    · rw [if_neg (by omega)]
      by_cases h4 : i < k
      · rw [if_pos h4, if_pos (by omega)]; rfl
      · rw [if_neg h4, if_neg (by omega)]
        simp only [mkR, AObj.sub]
        rw [subs_eB]
theorem TF_all {b : List AV} {m : Nat} {T : List (List Bool)} {n : Nat} {l : List (Nat × AV)} (hT : T.length = m) (hr : ∀ r ∈ T, r.length = m) (hb : ∀ S, subs S b = b) (hl : ∀ (k : Nat) r, (⟨n, l, []⟩ : ATm).sub (frzS (k + 2) r) = ⟨n, l, []⟩) : ∀ (k : Nat), k ≤ m → Ref 0 ⟨n, l, []⟩ (TH b (outP m m) T) ⟨n, l, []⟩ (TF b m T k)
  | 0, _ => by rw [TF_0 hT]; exact Ref.refl _ _ _
  | k + 1, h => (TF_all hT hr hb hl k (by omega)).trans (TF_step hT hr (by omega) hb (hl k))
theorem TF_end {c_0 c_1 : Bool} {l_0 : List (Vector Int 16)} {l_1 : List Int} {y_4 : List Bool} {m : Nat} {T : List (List Bool)} (hT : T.length = m) (hr : ∀ r ∈ T, r.length = m) :
    Ref 0 ⟨147, [(1, .ptr 0 0 0), (3, .int .i64 (l_1.length : Int)), (4, .vec false (List.map eB y_4)), (5, .row 1 0 m)], []⟩ (TH [.vec c_0 (List.map eA16I64 l_0), .vec c_1 (List.map eI64 l_1)] (outP m m) T) ⟨147, [(3, .int .i64 (l_1.length : Int)), (5, .vec false (List.map eLB T))], []⟩ [] := by
  have hb : ∀ S, subs S ([.vec c_0 (List.map eA16I64 l_0), .vec c_1 (List.map eI64 l_1)] : List AV) = [.vec c_0 (List.map eA16I64 l_0), .vec c_1 (List.map eI64 l_1)] := fun S => rfl
  have hE : ((List.range m).map fun i => if i < m then [AV.vec false (List.map eB (T.getD i []))] else [.row (i + 2) 0 m]) = List.map eLB T := by
    subst hT
    refine List.ext_getElem (by simp) fun i h1 h2 => ?_
    have hi : i < T.length := by simpa using h1
    simp [hi, eLB]
  have h1 := TF_all (n := 147) (l := [(1, .ptr 0 0 0), (3, .int .i64 (l_1.length : Int)), (4, .vec false (List.map eB y_4)), (5, .row 1 0 m)]) hT hr hb (fun k r => by simp [ATm.sub, AV.sub, frzS]) m (Nat.le_refl _)
  refine h1.trans ?_
  have ho : (TF [.vec c_0 (List.map eA16I64 l_0), .vec c_1 (List.map eI64 l_1)] m T m)[1]? = some (.mem 1 (List.map eLB T) 30) := by unfold TF; rw [hE]; rfl
  refine (Ref.frz (Nat.zero_le _) (id := 1) ho (pures_map T eLB (fun _ => by first | rfl | simp only [eA16I64, go_sem]))).trans ?_
  refine (Ref.cut 0 (Nat.zero_le _) (Nat.zero_le _)).trans ?_
  refine Ref.to (Ref.pick [3, 5]) ?_ rfl
  simp [pickl, look, ATm.sub, AV.sub, frzS, cutS, hT, List.take_of_length_le]
theorem ref08_Alike_L7_w (N : Nat) (l_1 : List Int) (T s : List (List Bool)) (i_15 : Int) {R : AExit → ATm → List AObj → Prop} : ∀ (n : Nat) (i_17 : Int) (l o : List Bool), ref08_Alike_L7 N l_1 T i_15 n i_17 l = some o →
    R (.exit 14) ⟨147, [(3, .int .i64 (l_1.length : Int)), (5, .vec false (List.map eLB T)), (14, .row 0 0 s.length), (15, .int .i64 i_15), (16, .row 1 0 o.length)], []⟩ [.mem 1 (List.map eLB s) 30, .mem 1 (List.map eB o) 4] →
    ALp Try.prog 0 B17_8 ⟨147, [(3, .int .i64 (l_1.length : Int)), (5, .vec false (List.map eLB T)), (14, .row 0 0 s.length), (15, .int .i64 i_15), (16, .row 1 0 l.length), (17, .int .i64 i_17)], []⟩ [.mem 1 (List.map eLB s) 30, .mem 1 (List.map eB l) 4] R := by
  intro n
  induction n with
  | zero => intro i_17 l o h _; exact no0 h
  | succ n ih =>
    intro i_17 l o h hp
    rw [ref08_Alike_L7] at h
    refine ALp.round ?_
    generalize hQ : RoundQ _ _ _ _ = QQ
    rcases iteS h with ⟨e1, h⟩ | ⟨e1, h⟩
    · obtain ⟨r, hr, h⟩ := bindS h
      obtain ⟨x, hx, h⟩ := bindS h
      obtain ⟨x', hx', h⟩ := bindS h
      have e2 : (List.map eLB T)[i_15.toNat]? = some [.vec false (List.map eB r)] := atI_map eLB hr
      have e3 := eq_true (atI_some hr).1
      have e4 : (List.map eB r)[i_17.toNat]? = some [.bool x] := atI_map eB hx
      have e5 := eq_true (atI_some hx).1
      have e6 : (List.map eB l)[i_17.toNat]? = some [.bool x'] := atI_map eB hx'
      have e7 := eq_true (atI_lt hx')
      have e8 : (List.map eB l).set i_17.toNat [.bool (!x)] = List.map eB (l.set i_17.toNat (!x)) := set_map l eB i_17.toNat (!x)
      simp only [B17_8, B17_7, A17, e1, e2, e3, e4, e5, e6, e7, e8, go_sem, seval, -List.reduceReplicate]
      rw [← hQ]
      exact ⟨_, _, (Ref.std [3, 5, 14, 15, 16, 17] [0, 1] (by decide) low0 (by first | rfl | simp only [go_sem, seval, -List.reduceReplicate]) (by first | rfl | simp only [go_sem, seval, -List.reduceReplicate])), Nat.zero_le _, ih _ _ _ h hp⟩
    · simp only [B17_8, B17_7, A17, e1, go_sem, seval, -List.reduceReplicate]
      cases h
      rw [← hQ]
      exact ⟨_, _, (Ref.std [3, 5, 14, 15, 16] [0, 1] (by decide) low0 rfl (by first | rfl | simp only [go_sem, seval, -List.reduceReplicate])), hp⟩
theorem ref08_Alike_L8_w (N : Nat) (l_1 : List Int) (T : List (List Bool)) {R : AExit → ATm → List AObj → Prop} : ∀ (n : Nat) (i_15 : Int) (s o : List (List Bool)), ref08_Alike_L8 N l_1 T n i_15 s = some o →
    R (.exit 12) ⟨147, [(14, .row 0 0 o.length)], []⟩ [.mem 1 (List.map eLB o) 30] →
    ALp Try.prog 0 B17_7 ⟨147, [(3, .int .i64 (l_1.length : Int)), (5, .vec false (List.map eLB T)), (14, .row 0 0 s.length), (15, .int .i64 i_15)], []⟩ [.mem 1 (List.map eLB s) 30] R := by
  intro n
  induction n with
  | zero => intro i_15 s o h _; exact no0 h
  | succ n ih =>
    intro i_15 s o h hp
    rw [ref08_Alike_L8] at h
    refine ALp.round ?_
    generalize hQ : RoundQ _ _ _ _ = QQ
    rcases iteS h with ⟨e1, h⟩ | ⟨e1, h⟩
    · obtain ⟨e2, h⟩ := guardE h
      obtain ⟨l, hl, h⟩ := bindS h
      obtain ⟨e3, h⟩ := guardE h
      have e4 : List.replicate l_1.length [AV.bool false] = List.map eB (List.replicate l_1.length false) := rep_map _ eB false
      simp only [B17_7, A17, e1, e2, e4, go_sem, seval, -List.reduceReplicate, -List.reduceReplicate]
      refine ALp.ref (Ref.std [3, 5, 14, 15, 16, 17] [0, 1] (by decide) low0 (by simp only [go_sem, seval, -List.reduceReplicate, -List.reduceReplicate]) (by simp only [go_sem, seval, -List.reduceReplicate, -List.reduceReplicate])) (Nat.zero_le _) (ref08_Alike_L7_w N l_1 T s i_15 N _ _ l hl ?_)
      refine LoopK_ref rfl (ta1 := ⟨147, [(3, .int .i64 (l_1.length : Int)), (5, .vec false (List.map eLB T)), (14, .row 0 0 s.length), (15, .int .i64 i_15), (16, .vec false (List.map eB l))], []⟩) (H1 := [.mem 1 (List.map eLB s) 30]) (Ref.trans (Ref.frz (Nat.zero_le _) (id := 1) rfl (pures_map l eB (fun _ => by first | rfl | simp only [eA16I64, go_sem]))) (Ref.std [3, 5, 14, 15, 16] [0] (by decide) low0 (by first | rfl | simp only [go_sem, seval, -List.reduceReplicate, -List.reduceReplicate]) (by first | rfl | simp only [go_sem, seval, -List.reduceReplicate, -List.reduceReplicate]))) (Nat.zero_le _) ?_
      have e5 := tk eLB s
      have e6 : (List.map eLB s) ++ [[.vec false (List.map eB l)]] = (List.map eLB (s ++ [l])) := app_map s ([l]) eLB
      simp only [e3, e5, e6, go_sem, seval, -List.reduceReplicate, -List.reduceReplicate]
      rw [← hQ]
      exact ⟨_, _, (Ref.std [3, 5, 14, 15] [1] (by decide) low0 (by first | rfl | simp only [go_sem, seval, -List.reduceReplicate, -List.reduceReplicate]) (by first | rfl | simp only [go_sem, seval, -List.reduceReplicate, -List.reduceReplicate])), (Nat.zero_le _), ih _ _ _ h hp⟩
    · simp only [B17_7, A17, e1, go_sem, seval, -List.reduceReplicate, -List.reduceReplicate]
      cases h
      rw [← hQ]
      exact ⟨_, _, (Ref.std [14] [0] (by decide) low0 rfl (by first | rfl | simp only [go_sem, seval, -List.reduceReplicate, -List.reduceReplicate])), hp⟩
theorem ref08_Alike_w (N : Nat) (l_0 : List (Vector Int 16)) (l_1 : List Int) (c_0 : Bool) (c_1 : Bool) (z_1 : List (List Bool)) (h : ref08_Alike N l_0 l_1 = some z_1) :
    ACalls Try.prog 17 [.agg [.vec c_0 (List.map eA16I64 l_0), .vec c_1 (List.map eI64 l_1)]] [] (fun e H => H = [] ∧ e = .ret (.vec false (List.map eLB z_1))) := by
  unfold ref08_Alike at h
  refine ACalls.goN Try.func17 n17 a17 Try.ntmps17 r17 (by simp) 0 rfl ?_
  generalize hQ : bodyA _ _ _ = QQ
  obtain ⟨y_4, hy, h⟩ := bindS h
  obtain ⟨g1, h⟩ := guardS h
  obtain ⟨T, hT, h⟩ := bindS h
  obtain ⟨g2, h⟩ := guardS h
  obtain ⟨T', hT', h⟩ := bindS h
  obtain ⟨⟨g3, g4⟩, h9⟩ := guardS h
  simp only [A17, go_sem, seval, -List.reduceReplicate]
  refine ACalls.go0 (ref08_Dead_w N _ _ c_0 c_1 _ hy) ?_
  generalize hme : l_1.length + 1 = m at *
  have hm : (m : Int) = (l_1.length : Int) + 1 := by omega
  have f1 : IntKind.i64.wrap ((l_1.length : Int) + 1) = (m : Int) := by rw [← hm]; exact wrapI (by omega) (by omega)
  have f2 : ((m : Int) * 24 ≤ 140737488355328) = True := eq_true (by omega)
  simp only [f1, f2, go_sem, seval, -List.reduceReplicate, -List.reduceReplicate]
  refine ALp.ref (ta1 := ⟨147, [(1, .ptr 0 0 0), (3, .int .i64 (l_1.length : Int)), (4, .vec false (List.map eB y_4)), (5, .row 1 0 m), (6, .int .i64 0)], []⟩) (H1 := TH [.vec c_0 (List.map eA16I64 l_0), .vec c_1 (List.map eI64 l_1)] (outP m 0) []) (Ref.to (Ref.pick [1, 3, 4, 5, 6]) rfl (by simp [TH, outP])) (Nat.zero_le _) (ref08_Alike_L2_w N l_0 l_1 c_0 c_1 y_4 m hm (by omega) N _ [] T hT ?_)
  refine LoopK_go rfl (Nat.zero_le _) ?_
  simp only [go_sem, seval, -List.reduceReplicate]
  rw [g2]
  refine ALp.ref (Ref.to (Ref.pick [1, 3, 4, 5, 10]) rfl rfl) (Nat.zero_le _) (ref08_Alike_L6_w N l_0 l_1 c_0 c_1 y_4 m hm (outP m m) (fun i hi => outP_get hi) N _ T T' g2 hT' fun hl => ?_)
  have hr : ∀ r ∈ T', r.length = m := fun r hr => by
    have := List.all_eq_true.1 g4 r hr
    simpa using this
  refine LoopK_ref rfl (TF_end hl hr) (Nat.zero_le _) ?_
  simp only [go_sem, seval, -List.reduceReplicate]
  refine ALp.ref (Ref.trans (Ref.thaw (Nat.zero_le _) 14 rfl (sz := 1) (by decide) 30) (Ref.std [3, 5, 14, 15] [0] (by decide) low0 rfl (by first | rfl | simp only [go_sem, seval, -List.reduceReplicate]))) (Nat.zero_le _) (ref08_Alike_L8_w N l_1 T' N _ [] z_1 h9 ?_)
  refine LoopK_go rfl (Nat.zero_le _) ?_
  simp only [go_sem, seval, -List.reduceReplicate]
  rw [← hQ]
  exact ⟨rfl, _, rfl, _, _, (RefV.trans (RefV.frz (Nat.zero_le _) (id := 0) rfl (pures_map z_1 eLB (fun _ => by first | rfl | simp only [eA16I64, go_sem]))) (RefV.out (by first | rfl | simp only [go_sem, seval, -List.reduceReplicate]))), rfl, rfl⟩

theorem ref08_Small_L8_w (N : Nat) (y_1 : List (List Bool)) (y_3 : List Bool) (i_5 : Int) (i_11 : Int) (x_32 : Int) (l_0 : List (Vector Int 16)) (l_1 : List Int) (s_12 : List Int) (s_7 : List (Vector Int 16)) (s_8 : List Int) (c_0 : Bool) (c_1 : Bool) {R : AExit → ATm → List AObj → Prop} : ∀ (n : Nat) (i_47 : Int) (v_48 : Vector Int 16) (o : (Vector Int 16)), ref08_Small_L8 N y_1 y_3 i_5 i_11 x_32 l_0 l_1 s_12 s_7 s_8 n i_47 v_48 = some o → (match o with | z_1 => R (.exit 4) ⟨98, [(1, .ptr 0 0 0), (2, .ptr 1 0 0), (3, .vec false (List.map eLB y_1)), (4, .vec false (List.map eB y_3)), (5, .row 2 0 s_12.length), (6, .ptr 3 0 0), (7, .int .i64 i_5), (8, .ptr 6 0 0), (9, .int .i64 i_11), (10, .int .i64 x_32)], []⟩ [.box [.vec c_0 (List.map eA16I64 l_0), .vec c_1 (List.map eI64 l_1)] 25, .box [nn, nn] 25, .mem 1 (List.map eI64 s_12) 3, .box [.row 4 0 s_7.length, .row 5 0 s_8.length] 25, .mem 16 (List.map eA16I64 s_7) 58, .mem 1 (List.map eI64 s_8) 3, .box (arrI .i64 z_1) 58]) →
  ALp Try.prog 0 B21_3 ⟨98, [(1, .ptr 0 0 0), (2, .ptr 1 0 0), (3, .vec false (List.map eLB y_1)), (4, .vec false (List.map eB y_3)), (5, .row 2 0 s_12.length), (6, .ptr 3 0 0), (7, .int .i64 i_5), (8, .ptr 6 0 0), (9, .int .i64 i_11), (10, .int .i64 x_32), (11, .int .i64 i_47)], []⟩ [.box [.vec c_0 (List.map eA16I64 l_0), .vec c_1 (List.map eI64 l_1)] 25, .box [nn, nn] 25, .mem 1 (List.map eI64 s_12) 3, .box [.row 4 0 s_7.length, .row 5 0 s_8.length] 25, .mem 16 (List.map eA16I64 s_7) 58, .mem 1 (List.map eI64 s_8) 3, .box (arrI .i64 v_48) 58] R := by
 intro n
 induction n with
 | zero =>
  intro i_47 v_48 o h _; exact no0 h
 | succ n ih =>
  intro i_47 v_48 o h hp; rw [ref08_Small_L8] at h; refine ALp.round ?_; generalize hQ : RoundQ _ _ _ _ = QQ; simp only [B21_3, B21_2, B21_1, A21, go_sem, seval]; rcases iteS h with ⟨e_50, h⟩ | ⟨e_50, h⟩
  ·
   obtain ⟨x_51, h_52, h⟩ := bindS h; have e_53 : (List.map eI64 s_12)[(i_47).toNat]? = some [.int .i64 x_51] := atI_map eI64 h_52; have e_54 := eq_true (atI_some h_52).1; have e_55 := eq_true (atI_lt h_52); obtain ⟨x_56, h_57, h⟩ := bindS h; have e_58 : (List.map eLB y_1)[(x_51).toNat]? = some [.vec false (List.map eB x_56)] := atI_map eLB h_57; have e_59 := eq_true (atI_some h_57).1; have e_60 := eq_true (atI_lt h_57); obtain ⟨x_61, h_62, h⟩ := bindS h; have e_63 : (List.map eB x_56)[(x_32).toNat]? = some [.bool x_61] := atI_map eB h_62; have e_64 := eq_true (atI_some h_62).1; have e_65 := eq_true (atI_lt h_62); simp only [e_50, e_53, e_54, e_55, e_58, e_59, e_60, e_63, e_64, e_65, go_sem, seval]; rcases iteB h with ⟨e_67, h⟩ | ⟨e_67, h⟩
   · obtain ⟨x_68, h_69, h⟩ := bindS h; have e_70 : List.take 1 (List.drop (i_11).toNat (arrI .i64 v_48)) = [.int .i64 x_68] := arr_one h_69; have e_71 : ((0 : Int) ≤ i_11) = True := arr_ge h_69; have e_72 : ((i_11 : Int) < 16) = True := arr_lt h_69; have e_73 : ((i_11).toNat + 1 ≤ 16) = True := arr_le h_69; simp only [e_50, e_53, e_54, e_55, e_58, e_59, e_60, e_63, e_64, e_65, e_67, e_70, e_71, e_72, e_73, go_sem, seval]; rw [← hQ]; exact ⟨_, _, (Ref.std [1, 2, 3, 4, 5, 6, 7, 8, 9, 10, 11] [0, 1, 2, 3, 4, 5, 6] (by decide) low0 (by rfl) (by first | rfl | simp only [go_sem, seval])), (Nat.zero_le _), ih _ _ _ h hp⟩
   · simp only [e_50, e_53, e_54, e_55, e_58, e_59, e_60, e_63, e_64, e_65, e_67, go_sem, seval]; rw [← hQ]; exact ⟨_, _, (Ref.std [1, 2, 3, 4, 5, 6, 7, 8, 9, 10, 11] [0, 1, 2, 3, 4, 5, 6] (by decide) low0 (by rfl) (by first | rfl | simp only [go_sem, seval])), (Nat.zero_le _), ih _ _ _ h hp⟩
  · simp only [e_50, go_sem, seval]; cases h; rw [← hQ]; exact ⟨_, _, (Ref.std [1, 2, 3, 4, 5, 6, 7, 8, 9, 10] [0, 1, 2, 3, 4, 5, 6] (by decide) low0 (by rfl) (by first | rfl | simp only [go_sem, seval])), hp⟩
theorem ref08_Small_L9_w (N : Nat) (y_1 : List (List Bool)) (y_3 : List Bool) (i_5 : Int) (l_0 : List (Vector Int 16)) (l_1 : List Int) (s_7 : List (Vector Int 16)) (s_8 : List Int) (c_0 : Bool) (c_1 : Bool) {R : AExit → ATm → List AObj → Prop} : ∀ (n : Nat) (i_11 : Int) (s_12 : List Int) (v_13 : Vector Int 16) (o : (List Int) × (Vector Int 16)), ref08_Small_L9 N y_1 y_3 i_5 l_0 l_1 s_7 s_8 n i_11 s_12 v_13 = some o → (match o with | (z_1, z_2) => R (.exit 2) ⟨98, [(1, .ptr 0 0 0), (2, .ptr 1 0 0), (3, .vec false (List.map eLB y_1)), (4, .vec false (List.map eB y_3)), (5, .row 2 0 z_1.length), (6, .ptr 3 0 0), (7, .int .i64 i_5), (8, .ptr 6 0 0)], []⟩ [.box [.vec c_0 (List.map eA16I64 l_0), .vec c_1 (List.map eI64 l_1)] 25, .box [nn, nn] 25, .mem 1 (List.map eI64 z_1) 3, .box [.row 4 0 s_7.length, .row 5 0 s_8.length] 25, .mem 16 (List.map eA16I64 s_7) 58, .mem 1 (List.map eI64 s_8) 3, .box (arrI .i64 z_2) 58]) →
  ALp Try.prog 0 B21_2 ⟨98, [(1, .ptr 0 0 0), (2, .ptr 1 0 0), (3, .vec false (List.map eLB y_1)), (4, .vec false (List.map eB y_3)), (5, .row 2 0 s_12.length), (6, .ptr 3 0 0), (7, .int .i64 i_5), (8, .ptr 6 0 0), (9, .int .i64 i_11)], []⟩ [.box [.vec c_0 (List.map eA16I64 l_0), .vec c_1 (List.map eI64 l_1)] 25, .box [nn, nn] 25, .mem 1 (List.map eI64 s_12) 3, .box [.row 4 0 s_7.length, .row 5 0 s_8.length] 25, .mem 16 (List.map eA16I64 s_7) 58, .mem 1 (List.map eI64 s_8) 3, .box (arrI .i64 v_13) 58] R := by
 intro n
 induction n with
 | zero =>
  intro i_11 s_12 v_13 o h _; exact no0 h
 | succ n ih =>
  intro i_11 s_12 v_13 o h hp; rw [ref08_Small_L9] at h; refine ALp.round ?_; generalize hQ : RoundQ _ _ _ _ = QQ; simp only [B21_2, B21_1, A21, go_sem, seval]; rcases iteS h with ⟨e_15, h⟩ | ⟨e_15, h⟩
  ·
   obtain ⟨x_16, h_17, h⟩ := bindS h; have e_18 : List.take 1 (List.drop (i_11).toNat (arrI .i64 v_13)) = [.int .i64 x_16] := arr_one h_17; have e_19 : ((0 : Int) ≤ i_11) = True := arr_ge h_17; have e_20 : ((i_11 : Int) < 16) = True := arr_lt h_17; have e_21 : ((i_11).toNat + 1 ≤ 16) = True := arr_le h_17; obtain ⟨x_22, h_23, h⟩ := bindS h; have e_24 : (List.map eI64 s_12)[(i_5).toNat]? = some [.int .i64 x_22] := atI_map eI64 h_23; have e_25 := eq_true (atI_some h_23).1; have e_26 := eq_true (atI_lt h_23); obtain ⟨x_27, h_28, h⟩ := bindS h; have e_29 : (List.map eA16I64 l_0)[(x_22).toNat]? = some (arrI .i64 x_27) := atI_map eA16I64 h_28; have e_30 := eq_true (atI_some h_28).1; have e_31 := eq_true (atI_lt h_28); obtain ⟨x_32, h_33, h⟩ := bindS h; have e_34 : List.take 1 (List.drop (i_11).toNat (arrI .i64 x_27)) = [.int .i64 x_32] := arr_one h_33; have e_35 : ((0 : Int) ≤ i_11) = True := arr_ge h_33; have e_36 : ((i_11 : Int) < 16) = True := arr_lt h_33; have e_37 : ((i_11).toNat + 1 ≤ 16) = True := arr_le h_33; simp only [e_15, e_18, e_19, e_20, e_21, e_24, e_25, e_26, e_29, e_30, e_31, e_34, e_35, e_36, e_37, go_sem, seval]; rcases iteS h with ⟨e_39, h⟩ | ⟨e_39, h⟩
   · simp only [e_15, e_18, e_19, e_20, e_21, e_24, e_25, e_26, e_29, e_30, e_31, e_34, e_35, e_36, e_37, e_39, go_sem, seval]; rw [← hQ]; exact ⟨_, _, (Ref.std [1, 2, 3, 4, 5, 6, 7, 8, 9] [0, 1, 2, 3, 4, 5, 6] (by decide) low0 (by rfl) (by first | rfl | simp only [go_sem, seval])), (Nat.zero_le _), ih _ _ _ _ h hp⟩
   ·
    obtain ⟨x_40, h_41, h⟩ := bindS h; have e_42 : (List.map eB y_3)[(x_32).toNat]? = some [.bool x_40] := atI_map eB h_41; have e_43 := eq_true (atI_some h_41).1; have e_44 := eq_true (atI_lt h_41); simp only [e_15, e_18, e_19, e_20, e_21, e_24, e_25, e_26, e_29, e_30, e_31, e_34, e_35, e_36, e_37, e_39, e_42, e_43, e_44, go_sem, seval]; rcases iteB h with ⟨e_46, h⟩ | ⟨e_46, h⟩
    · simp only [e_15, e_18, e_19, e_20, e_21, e_24, e_25, e_26, e_29, e_30, e_31, e_34, e_35, e_36, e_37, e_39, e_42, e_43, e_44, e_46, go_sem, seval]; rw [← hQ]; exact ⟨_, _, (Ref.std [1, 2, 3, 4, 5, 6, 7, 8, 9] [0, 1, 2, 3, 4, 5, 6] (by decide) low0 (by rfl) (by first | rfl | simp only [go_sem, seval])), (Nat.zero_le _), ih _ _ _ _ h hp⟩
    ·
     simp only [e_15, e_18, e_19, e_20, e_21, e_24, e_25, e_26, e_29, e_30, e_31, e_34, e_35, e_36, e_37, e_39, e_42, e_43, e_44, e_46, go_sem, seval]; obtain ⟨y_1048, h_1047, h⟩ := bindS h; refine ALp.ref (Ref.std [1, 2, 3, 4, 5, 6, 7, 8, 9, 10, 11] [0, 1, 2, 3, 4, 5, 6] (by decide) low0 (by rfl) (by first | rfl | simp only [go_sem, seval])) (Nat.zero_le _) (ref08_Small_L8_w N _ _ _ _ _ _ _ _ _ _ c_0 c_1 N _ _ y_1048 h_1047 ?_); refine LoopK_go rfl (Nat.zero_le _) ?_; obtain ⟨x_1049, h_1050, h⟩ := bindS h; have e_1051 : List.take 1 (List.drop (i_11).toNat (arrI .i64 y_1048)) = [.int .i64 x_1049] := arr_one h_1050; have e_1052 : ((0 : Int) ≤ i_11) = True := arr_ge h_1050; have e_1053 : ((i_11 : Int) < 16) = True := arr_lt h_1050; have e_1054 : ((i_11).toNat + 1 ≤ 16) = True := arr_le h_1050; simp only [e_15, e_18, e_19, e_20, e_21, e_24, e_25, e_26, e_29, e_30, e_31, e_34, e_35, e_36, e_37, e_39, e_42, e_43, e_44, e_46, e_1051, e_1052, e_1053, e_1054, go_sem, seval]; rcases iteS h with ⟨e_1056, h⟩ | ⟨e_1056, h⟩
     · have e_1057 := tk eI64 s_12; have e_1058 : (List.map eI64 s_12) ++ [[.int .i64 x_32]] = (List.map eI64 (s_12 ++ [x_32])) := app_map s_12 ([x_32]) eI64; obtain ⟨e_1060, h⟩ := guardE h; simp only [e_15, e_18, e_19, e_20, e_21, e_24, e_25, e_26, e_29, e_30, e_31, e_34, e_35, e_36, e_37, e_39, e_42, e_43, e_44, e_46, e_1051, e_1052, e_1053, e_1054, e_1056, e_1057, e_1058, e_1060, go_sem, seval]; rw [← hQ]; exact ⟨_, _, (Ref.std [1, 2, 3, 4, 5, 6, 7, 8, 9] [0, 1, 7, 3, 4, 5, 6] (by decide) low0 (by first | rfl | simp only [go_sem, seval]) (by first | rfl | simp only [go_sem, seval])), (Nat.zero_le _), ih _ _ _ _ h hp⟩
     · simp only [e_15, e_18, e_19, e_20, e_21, e_24, e_25, e_26, e_29, e_30, e_31, e_34, e_35, e_36, e_37, e_39, e_42, e_43, e_44, e_46, e_1051, e_1052, e_1053, e_1054, e_1056, go_sem, seval]; rw [← hQ]; exact ⟨_, _, (Ref.std [1, 2, 3, 4, 5, 6, 7, 8, 9] [0, 1, 2, 3, 4, 5, 6] (by decide) low0 (by rfl) (by first | rfl | simp only [go_sem, seval])), (Nat.zero_le _), ih _ _ _ _ h hp⟩
  · simp only [e_15, go_sem, seval]; cases h; rw [← hQ]; exact ⟨_, _, (Ref.std [1, 2, 3, 4, 5, 6, 7, 8] [0, 1, 2, 3, 4, 5, 6] (by decide) low0 (by rfl) (by first | rfl | simp only [go_sem, seval])), hp⟩
theorem ref08_Small_L10_w (N : Nat) (y_1 : List (List Bool)) (y_3 : List Bool) (l_0 : List (Vector Int 16)) (l_1 : List Int) (c_0 : Bool) (c_1 : Bool) {R : AExit → ATm → List AObj → Prop} : ∀ (n : Nat) (i_5 : Int) (s_6 : List Int) (s_7 : List (Vector Int 16)) (s_8 : List Int) (o : (List (Vector Int 16)) × (List Int)), ref08_Small_L10 N y_1 y_3 l_0 l_1 n i_5 s_6 s_7 s_8 = some o → (match o with | (z_1, z_2) => R (.exit 0) ⟨98, [(2, .ptr 0 0 0), (6, .ptr 1 0 0)], []⟩ [.box [nn, nn] 25, .box [.row 2 0 z_1.length, .row 3 0 z_2.length] 25, .mem 16 (List.map eA16I64 z_1) 58, .mem 1 (List.map eI64 z_2) 3]) →
  ALp Try.prog 0 B21_1 ⟨98, [(1, .ptr 0 0 0), (2, .ptr 1 0 0), (3, .vec false (List.map eLB y_1)), (4, .vec false (List.map eB y_3)), (5, .row 2 0 s_6.length), (6, .ptr 3 0 0), (7, .int .i64 i_5)], []⟩ [.box [.vec c_0 (List.map eA16I64 l_0), .vec c_1 (List.map eI64 l_1)] 25, .box [nn, nn] 25, .mem 1 (List.map eI64 s_6) 3, .box [.row 4 0 s_7.length, .row 5 0 s_8.length] 25, .mem 16 (List.map eA16I64 s_7) 58, .mem 1 (List.map eI64 s_8) 3] R := by
 intro n
 induction n with
 | zero =>
  intro i_5 s_6 s_7 s_8 o h _; exact no0 h
 | succ n ih =>
  intro i_5 s_6 s_7 s_8 o h hp; rw [ref08_Small_L10] at h; refine ALp.round ?_; generalize hQ : RoundQ _ _ _ _ = QQ; simp only [B21_1, A21, go_sem, seval]; rcases iteS h with ⟨e_10, h⟩ | ⟨e_10, h⟩
  · simp only [e_10, go_sem, seval]; obtain ⟨⟨y_1012, y_1013⟩, h_1011, h⟩ := bindS h; (try dsimp only at h); refine ALp.ref (Ref.std [1, 2, 3, 4, 5, 6, 7, 8, 9] [0, 1, 2, 3, 4, 5, 6] (by decide) low0 (by rfl) (by first | rfl | simp only [go_sem, seval])) (Nat.zero_le _) (ref08_Small_L9_w N _ _ _ _ _ _ _ c_0 c_1 N _ _ _ _ h_1011 ?_); refine LoopK_go rfl (Nat.zero_le _) ?_; have e_1014 := tk eA16I64 s_7; have e_1015 : (List.map eA16I64 s_7) ++ [(arrI .i64 y_1013)] = (List.map eA16I64 (s_7 ++ [y_1013])) := app_map s_7 ([y_1013]) eA16I64; obtain ⟨e_1017, h⟩ := guardE h; obtain ⟨x_1018, h_1019, h⟩ := bindS h; have e_1020 : (List.map eI64 y_1012)[(i_5).toNat]? = some [.int .i64 x_1018] := atI_map eI64 h_1019; have e_1021 := eq_true (atI_some h_1019).1; have e_1022 := eq_true (atI_lt h_1019); obtain ⟨x_1023, h_1024, h⟩ := bindS h; have e_1025 : (List.map eI64 l_1)[(x_1018).toNat]? = some [.int .i64 x_1023] := atI_map eI64 h_1024; have e_1026 := eq_true (atI_some h_1024).1; have e_1027 := eq_true (atI_lt h_1024); have e_1028 := tk eI64 s_8; have e_1029 : (List.map eI64 s_8) ++ [[.int .i64 x_1023]] = (List.map eI64 (s_8 ++ [x_1023])) := app_map s_8 ([x_1023]) eI64; obtain ⟨e_1031, h⟩ := guardE h; simp only [e_10, e_1014, e_1015, e_1017, e_1020, e_1021, e_1022, e_1025, e_1026, e_1027, e_1028, e_1029, e_1031, go_sem, seval]; rw [← hQ]; exact ⟨_, _, (Ref.std [1, 2, 3, 4, 5, 6, 7] [0, 1, 2, 3, 7, 8] (by decide) low0 (by rfl) (by first | rfl | simp only [go_sem, seval])), (Nat.zero_le _), ih _ _ _ _ _ h hp⟩
  · simp only [e_10, go_sem, seval]; cases h; rw [← hQ]; exact ⟨_, _, (Ref.std [2, 6] [1, 3, 4, 5] (by decide) low0 rfl (by first | rfl | simp only [go_sem, seval])), hp⟩
theorem ref08_Small_w (N : Nat) (l_0 : List (Vector Int 16)) (l_1 : List Int) (c_0 : Bool) (c_1 : Bool) (z_1 : List (Vector Int 16)) (z_2 : List Int) (h : ref08_Small N l_0 l_1 = some (z_1, z_2)) :
  ACalls Try.prog 21 [.agg [.vec c_0 (List.map eA16I64 l_0), .vec c_1 (List.map eI64 l_1)]] [] (fun e H => H = [] ∧ e = .ret (.agg [.vec false (List.map eA16I64 z_1), .vec false (List.map eI64 z_2)])) := by
 unfold ref08_Small at h; refine ACalls.goN Try.func21 n21 a21 Try.ntmps21 r21 (by simp) 0 rfl ?_; generalize hQ : bodyA _ _ _ = QQ; obtain ⟨y_1, h_2, h⟩ := bindS h; simp only [A21, go_sem, seval]; refine ACalls.use0 (ref08_Alike_w N _ _ c_0 c_1 _ h_2) rfl rfl ?_; obtain ⟨y_3, h_4, h⟩ := bindS h; simp only [go_sem, seval]; refine ACalls.use0 (ref08_Dead_w N _ _ c_0 c_1 _ h_4) rfl rfl ?_; simp only [go_sem, seval]; obtain ⟨⟨y_1006, y_1007⟩, h_1005, h⟩ := bindS h; (try dsimp only at h); refine ALp.ref (Ref.trans (Ref.thawB (Nat.zero_le _) (id := 3) 0 rfl rfl (sz := 16) (by decide) 58) (Ref.trans (Ref.thawB (Nat.zero_le _) (id := 3) 1 rfl rfl (sz := 1) (by decide) 3) (Ref.std [1, 2, 3, 4, 5, 6, 7] [0, 1, 2, 3, 4, 5] (by decide) low0 rfl (by first | rfl | (simp only [go_sem, seval]; try rfl))))) (Nat.zero_le _) (ref08_Small_L10_w N _ _ _ _ c_0 c_1 N _ _ _ _ _ h_1005 ?_); refine LoopK_go rfl (Nat.zero_le _) ?_; simp only [go_sem, seval]; obtain ⟨rfl, rfl⟩ := pj (si h); rw [← hQ]; exact ⟨rfl, _, rfl, _, _, (RefV.trans (RefV.frz (Nat.zero_le _) (id := 2) rfl (pures_map y_1006 eA16I64 (fun _ => by first | rfl | simp only [eA16I64, go_sem]))) (RefV.trans (RefV.frz (Nat.zero_le _) (id := 3) rfl (by first | exact pures_map y_1007 eI64 (fun _ => by first | rfl | simp only [eA16I64, go_sem]) | (simp only [subs_eI64]; exact pures_map y_1007 eI64 (fun _ => by first | rfl | simp only [eA16I64, go_sem])))) (RefV.out (by first | rfl | simp only [go_sem, seval])))), rfl, rfl⟩
theorem ref07_Same_L1_w (N : Nat) (l_0 : List (Vector Int 16)) (l_1 : List Int) (l_2 : List (Vector Int 16)) (l_3 : List Int) (c_0 : Bool) (c_1 : Bool) (c_2 : Bool) (c_3 : Bool) {R : AExit → ATm → List AObj → Prop} : ∀ (n : Nat) (i_5 : Int) (o : (Unit) ⊕ (Unit)), ref07_Same_L1 N l_0 l_1 l_2 l_3 n i_5 = some o → (match o with | .inl _ => R (.exit 0) ⟨59, [(2, .ptr 0 0 0), (3, .ptr 1 0 0)], []⟩ [.box [.vec c_0 (List.map eA16I64 l_0), .vec c_1 (List.map eI64 l_1)] 25, .box [.vec c_2 (List.map eA16I64 l_2), .vec c_3 (List.map eI64 l_3)] 25] | .inr (_) => R .ret ⟨59, [(4, .bool false)], []⟩ []) →
  ALp Try.prog 0 B20_1 ⟨59, [(2, .ptr 0 0 0), (3, .ptr 1 0 0), (5, .int .i64 i_5)], []⟩ [.box [.vec c_0 (List.map eA16I64 l_0), .vec c_1 (List.map eI64 l_1)] 25, .box [.vec c_2 (List.map eA16I64 l_2), .vec c_3 (List.map eI64 l_3)] 25] R := by
 intro n
 induction n with
 | zero =>
  intro i_5 o h _; exact no0 h
 | succ n ih =>
  intro i_5 o h hp; rw [ref07_Same_L1] at h; refine ALp.round ?_; generalize hQ : RoundQ _ _ _ _ = QQ; simp only [B20_1, A20, go_sem, seval]; rcases iteS h with ⟨e_7, h⟩ | ⟨e_7, h⟩
  ·
   obtain ⟨x_8, h_9, h⟩ := bindS h; have e_10 : (List.map eA16I64 l_0)[(i_5).toNat]? = some (arrI .i64 x_8) := atI_map eA16I64 h_9; have e_11 := eq_true (atI_some h_9).1; have e_12 := eq_true (atI_lt h_9); obtain ⟨x_13, h_14, h⟩ := bindS h; have e_15 : (List.map eA16I64 l_2)[(i_5).toNat]? = some (arrI .i64 x_13) := atI_map eA16I64 h_14; have e_16 := eq_true (atI_some h_14).1; have e_17 := eq_true (atI_lt h_14); simp only [e_7, e_10, e_11, e_12, e_15, e_16, e_17, go_sem, seval]; rcases iteS h with ⟨e_19, h⟩ | ⟨e_19, h⟩
   · simp only [e_7, e_10, e_11, e_12, e_15, e_16, e_17, e_19, go_sem, seval]; rw [← hQ]; exact ⟨_, _, (Ref.std [2, 3, 5] [0, 1] (by decide) low0 (by rfl) (by rfl)), (Nat.zero_le _), ih _ _ h hp⟩
   · simp only [e_7, e_10, e_11, e_12, e_15, e_16, e_17, e_19, go_sem, seval]; cases h; rw [← hQ]; exact ⟨_, _, (Ref.out [4] rfl), hp⟩
  · simp only [e_7, go_sem, seval]; cases h; rw [← hQ]; exact ⟨_, _, (Ref.std [2, 3] [0, 1] (by decide) low0 rfl rfl), hp⟩
theorem ref07_Same_L2_w (N : Nat) (l_0 : List (Vector Int 16)) (l_1 : List Int) (l_2 : List (Vector Int 16)) (l_3 : List Int) (c_0 : Bool) (c_1 : Bool) (c_2 : Bool) (c_3 : Bool) {R : AExit → ATm → List AObj → Prop} : ∀ (n : Nat) (i_1007 : Int) (o : (Unit) ⊕ (Unit)), ref07_Same_L2 N l_0 l_1 l_2 l_3 n i_1007 = some o → (match o with | .inl _ => R (.exit 2) ⟨59, [], []⟩ [] | .inr (_) => R .ret ⟨59, [(4, .bool false)], []⟩ []) →
  ALp Try.prog 0 B20_2 ⟨59, [(2, .ptr 0 0 0), (3, .ptr 1 0 0), (6, .int .i64 i_1007)], []⟩ [.box [.vec c_0 (List.map eA16I64 l_0), .vec c_1 (List.map eI64 l_1)] 25, .box [.vec c_2 (List.map eA16I64 l_2), .vec c_3 (List.map eI64 l_3)] 25] R := by
 intro n
 induction n with
 | zero =>
  intro i_1007 o h _; exact no0 h
 | succ n ih =>
  intro i_1007 o h hp; rw [ref07_Same_L2] at h; refine ALp.round ?_; generalize hQ : RoundQ _ _ _ _ = QQ; simp only [B20_2, A20, go_sem, seval]; rcases iteS h with ⟨e_1009, h⟩ | ⟨e_1009, h⟩
  ·
   obtain ⟨x_1010, h_1011, h⟩ := bindS h; have e_1012 : (List.map eI64 l_1)[(i_1007).toNat]? = some [.int .i64 x_1010] := atI_map eI64 h_1011; have e_1013 := eq_true (atI_some h_1011).1; have e_1014 := eq_true (atI_lt h_1011); obtain ⟨x_1015, h_1016, h⟩ := bindS h; have e_1017 : (List.map eI64 l_3)[(i_1007).toNat]? = some [.int .i64 x_1015] := atI_map eI64 h_1016; have e_1018 := eq_true (atI_some h_1016).1; have e_1019 := eq_true (atI_lt h_1016); simp only [e_1009, e_1012, e_1013, e_1014, e_1017, e_1018, e_1019, go_sem, seval]; rcases iteS h with ⟨e_1021, h⟩ | ⟨e_1021, h⟩
   · simp only [e_1009, e_1012, e_1013, e_1014, e_1017, e_1018, e_1019, e_1021, go_sem, seval]; rw [← hQ]; exact ⟨_, _, (Ref.std [2, 3, 6] [0, 1] (by decide) low0 rfl rfl), (Nat.zero_le _), ih _ _ h hp⟩
   · simp only [e_1009, e_1012, e_1013, e_1014, e_1017, e_1018, e_1019, e_1021, go_sem, seval]; cases h; rw [← hQ]; exact ⟨_, _, (Ref.out [4] rfl), hp⟩
  · simp only [e_1009, go_sem, seval]; cases h; rw [← hQ]; exact ⟨_, _, (Ref.out [] rfl), hp⟩
theorem ref07_Same_w (N : Nat) (l_0 : List (Vector Int 16)) (l_1 : List Int) (l_2 : List (Vector Int 16)) (l_3 : List Int) (c_0 : Bool) (c_1 : Bool) (c_2 : Bool) (c_3 : Bool) (z_1 : Bool) (h : ref07_Same N l_0 l_1 l_2 l_3 = some z_1) :
  ACalls Try.prog 20 [.agg [.vec c_0 (List.map eA16I64 l_0), .vec c_1 (List.map eI64 l_1)], .agg [.vec c_2 (List.map eA16I64 l_2), .vec c_3 (List.map eI64 l_3)]] [] (fun e H => H = [] ∧ e = .ret (.bool z_1)) := by
 unfold ref07_Same at h; refine ACalls.goN Try.func20 n20 a20 Try.ntmps20 r20 (by simp) 0 rfl ?_; generalize hQ : bodyA _ _ _ = QQ; simp only [A20, go_sem, seval]; rcases iteS h with ⟨e_2, h⟩ | ⟨e_2, h⟩
 ·
  simp only [e_2, go_sem, seval]; rcases iteS h with ⟨e_4, h⟩ | ⟨e_4, h⟩
  ·
   simp only [e_2, e_4, go_sem, seval]; obtain ⟨o_1006, h_1005, h⟩ := bindS h; refine ALp.ref (Ref.std [2, 3, 5] [0, 1] (by decide) low0 rfl rfl) (Nat.zero_le _) (ref07_Same_L1_w N _ _ _ _ c_0 c_1 c_2 c_3 N _ o_1006 h_1005 ?_); rcases o_1006 with _ | _
   ·
    (try dsimp only at h); refine LoopK_go rfl (Nat.zero_le _) ?_; simp only [e_2, e_4, go_sem, seval]; obtain ⟨o_2008, h_2007, h⟩ := bindS h; refine ALp.ref (Ref.std [2, 3, 6] [0, 1] (by decide) low0 rfl rfl) (Nat.zero_le _) (ref07_Same_L2_w N _ _ _ _ c_0 c_1 c_2 c_3 N _ o_2008 h_2007 ?_); rcases o_2008 with _ | _
    · (try dsimp only at h); refine LoopK_go rfl (Nat.zero_le _) ?_; simp only [e_2, e_4, go_sem, seval]; obtain rfl := si h; rw [← hQ]; exact ⟨rfl, _, rfl, _, _, (RefV.out rfl), rfl, rfl⟩
    · (try dsimp only at h); refine LoopK_ret ?_; obtain rfl := si h; rw [← hQ]; exact ⟨rfl, _, rfl, _, _, (RefV.out rfl), rfl, rfl⟩
   · (try dsimp only at h); refine LoopK_ret ?_; obtain rfl := si h; rw [← hQ]; exact ⟨rfl, _, rfl, _, _, (RefV.out rfl), rfl, rfl⟩
  · simp only [e_2, e_4, go_sem, seval]; obtain rfl := si h; rw [← hQ]; exact ⟨rfl, _, rfl, _, _, (RefV.out rfl), rfl, rfl⟩
 · simp only [e_2, go_sem, seval]; obtain rfl := si h; rw [← hQ]; exact ⟨rfl, _, rfl, _, _, (RefV.out rfl), rfl, rfl⟩
theorem law08_MiniSame_w (N : Nat) (l_0 : List (Vector Int 16)) (l_1 : List Int) (l_2 : List (Vector Int 16)) (l_3 : List Int) (c_0 : Bool) (c_1 : Bool) (c_2 : Bool) (c_3 : Bool) (z_1 : Bool) (h : law08_MiniSame N l_0 l_1 l_2 l_3 = some z_1) :
  ACalls Try.prog 5 [.agg [.vec c_0 (List.map eA16I64 l_0), .vec c_1 (List.map eI64 l_1)], .agg [.vec c_2 (List.map eA16I64 l_2), .vec c_3 (List.map eI64 l_3)]] [] (fun e H => H = [] ∧ e = .ret (.bool z_1)) := by
 unfold law08_MiniSame at h; refine ACalls.goN Try.func5 n5 a5 Try.ntmps5 r5 (by simp) 0 rfl ?_; generalize hQ : bodyA _ _ _ = QQ; obtain ⟨y_1, h_2, h⟩ := bindS h; simp only [A5, go_sem, seval]; refine ACalls.go0 (law08_alive_w N _ h_2) ?_; simp only [go_sem, seval]; rcases iteB h with ⟨e_4, h⟩ | ⟨e_4, h⟩
 ·
  obtain ⟨y_5, h_6, h⟩ := bindS h; simp only [e_4, go_sem, seval]; refine ACalls.go0 (law08_great_w N _ _ c_0 c_1 _ h_6) ?_; simp only [e_4, go_sem, seval]; rcases iteB h with ⟨e_8, h⟩ | ⟨e_8, h⟩
  · simp only [e_4, e_8, go_sem, seval]; obtain rfl := si h; rw [← hQ]; exact ⟨rfl, _, rfl, _, _, (RefV.out rfl), rfl, rfl⟩
  ·
   obtain ⟨y_9, h_10, h⟩ := bindS h; simp only [e_4, e_8, go_sem, seval]; refine ACalls.go0 (law08_great_w N _ _ c_2 c_3 _ h_10) ?_; simp only [e_4, e_8, go_sem, seval]; rcases iteB h with ⟨e_12, h⟩ | ⟨e_12, h⟩
   · simp only [e_4, e_8, e_12, go_sem, seval]; obtain rfl := si h; rw [← hQ]; exact ⟨rfl, _, rfl, _, _, (RefV.out rfl), rfl, rfl⟩
   ·
    obtain ⟨y_13, h_14, h⟩ := bindS h; simp only [e_4, e_8, e_12, go_sem, seval]; refine ACalls.go0 (ref07_Right_w N _ _ c_0 c_1 _ h_14) ?_; simp only [e_4, e_8, e_12, go_sem, seval]; rcases iteB h with ⟨e_16, h⟩ | ⟨e_16, h⟩
    ·
     obtain ⟨y_17, h_18, h⟩ := bindS h; simp only [e_4, e_8, e_12, e_16, go_sem, seval]; refine ACalls.go0 (ref07_Right_w N _ _ c_2 c_3 _ h_18) ?_; simp only [e_4, e_8, e_12, e_16, go_sem, seval]; rcases iteB h with ⟨e_20, h⟩ | ⟨e_20, h⟩
     · obtain ⟨y_21, h_22, h⟩ := bindS h; simp only [e_4, e_8, e_12, e_16, e_20, go_sem, seval]; refine ACalls.use0 (mini_Same_w N _ _ _ _ c_0 c_1 c_2 c_3 _ h_22) rfl rfl ?_; obtain ⟨⟨y_23, y_24⟩, h_25, h⟩ := bindS h; (try dsimp only at h); simp only [e_4, e_8, e_12, e_16, e_20, go_sem, seval]; refine ACalls.use0 (ref08_Small_w N _ _ c_0 c_1 _ _ h_25) rfl rfl ?_; obtain ⟨⟨y_26, y_27⟩, h_28, h⟩ := bindS h; (try dsimp only at h); simp only [e_4, e_8, e_12, e_16, e_20, go_sem, seval]; refine ACalls.use0 (ref08_Small_w N _ _ c_2 c_3 _ _ h_28) rfl rfl ?_; obtain ⟨y_29, h_30, h⟩ := bindS h; simp only [e_4, e_8, e_12, e_16, e_20, go_sem, seval]; refine ACalls.use0 (ref07_Same_w N _ _ _ _ false false false false _ h_30) rfl rfl ?_; simp only [e_4, e_8, e_12, e_16, e_20, go_sem, seval]; obtain rfl := si h; rw [← hQ]; exact ⟨rfl, _, rfl, _, _, (RefV.out (by first | rfl | simp only [go_sem, seval, e_4, e_8, e_12, e_16, e_20])), rfl, rfl⟩
     · obtain ⟨y_31, h_32, h⟩ := bindS h; simp only [e_4, e_8, e_12, e_16, e_20, go_sem, seval]; refine ACalls.go0 (mini_Same_w N _ _ _ _ c_0 c_1 c_2 c_3 _ h_32) ?_; simp only [e_4, e_8, e_12, e_16, e_20, go_sem, seval]; obtain rfl := si h; rw [← hQ]; exact ⟨rfl, _, rfl, _, _, (RefV.out (by first | rfl | simp only [go_sem, seval, e_4, e_8, e_12, e_16, e_20])), rfl, rfl⟩
    · obtain ⟨y_33, h_34, h⟩ := bindS h; simp only [e_4, e_8, e_12, e_16, go_sem, seval]; refine ACalls.go0 (mini_Same_w N _ _ _ _ c_0 c_1 c_2 c_3 _ h_34) ?_; simp only [e_4, e_8, e_12, e_16, go_sem, seval]; obtain rfl := si h; rw [← hQ]; exact ⟨rfl, _, rfl, _, _, (RefV.out (by first | rfl | simp only [go_sem, seval, e_4, e_8, e_12, e_16])), rfl, rfl⟩
 · simp only [e_4, go_sem, seval]; obtain rfl := si h; rw [← hQ]; exact ⟨rfl, _, rfl, _, _, (RefV.out rfl), rfl, rfl⟩
end Go.Proofs.Ytnbnajjoinahiaa.AI
