/- Walks, further ones. -/
import Derived.Test.YtfacmhngbaboiaagsW1
set_option linter.unusedVariables false
set_option linter.unusedSimpArgs false
set_option maxRecDepth 100000
set_option maxHeartbeats 1000000
namespace Go.Proofs.Ytfacmhngbaboiaa.AI
open Go.Proofs (Try.prog)
attribute [local go_sem] Xh5 Xf1 Xdi Xaq Xeq Xet Xes Xcd Xeu Xer Xdm Xcc Xep Xdk Jr Xdj Xbq Xa7 Jz Xdl Xjm Xgl Xbv Xic Xif Xie Xez Xid Xey Xib JO Xgm Xds
theorem Xb0 (N : Nat) (y_13 : Int) (l_0 : List Int) (a_1 : Int) (y_1 : List TSpan) (y_5 : Int) (c_0 : Bool) {R : AExit → ATm → List AObj → Prop} : ∀ (n : Nat) (i_21 : Int) (i_22 : Int) (s_23 : List Yg) (o : (Int × (List Yg)) ⊕ (Unit)), Ya N y_13 l_0 a_1 y_1 y_5 n i_21 i_22 s_23 = some o → (match o with | .inl (z_1, z_2) => R (.exit 0) ⟨36, [(4, .ptr 1 0 0), (5, .ptr 2 0 0)], []⟩ [.box [.vec c_0 (List.map eU8 l_0), .int .i64 a_1, .int .i64 z_1] 123, .box [.int .i64 0, nn, .bool false, .int .i64 0, nn, nn, nn, nn, nn, nn, nn, nn, nn, nn, nn, nn] 35, .box [.int .i64 11, .vec false (List.map Xi y_1), .bool false, .int .i64 0, nn, nn, nn, .row 3 0 z_2.length, nn, nn, nn, nn, nn, nn, nn, nn] 35, .mem 4 (List.map XU z_2) 89] | .inr (_) => ∀ (tb : ATm) (Hb : List AObj), tb.ds = [] → R (.pan (.iface 91 (.agg []))) tb Hb) →
  ALp Try.prog 1 B66_1 ⟨36, [(0, .ptr 0 0 0), (4, .ptr 1 0 0), (5, .ptr 2 0 0), (6, .fn (.func 103) [] [.ptr 4 0 0]), (23, .int .i64 y_13), (24, .int .i64 i_21)], []⟩ [.box [.vec c_0 (List.map eU8 l_0), .int .i64 a_1, .int .i64 i_22] 123, .box [.int .i64 0, nn, .bool false, .int .i64 0, nn, nn, nn, nn, nn, nn, nn, nn, nn, nn, nn, nn] 35, .box [.int .i64 11, .vec false (List.map Xi y_1), .bool false, .int .i64 0, nn, nn, nn, .row 3 0 s_23.length, nn, nn, nn, nn, nn, nn, nn, nn] 35, .mem 4 (List.map XU s_23) 89, .box [.int .i64 y_5] 3] R := by
 intro n
 induction n with
 | zero =>
  intro i_21 i_22 s_23 o h _; exact no0 h
 | succ n ih =>
  intro i_21 i_22 s_23 o h hp; rw [Ya] at h; refine ALp.round ?_; generalize hQ : YB _ _ _ _ = QQ; simp only [B66_1, A66, go_sem, seval]; rcases iteS h with ⟨e_25, h⟩ | ⟨e_25, h⟩
  ·
   obtain ⟨o_32, h_31, h⟩ := bindS h; simp only [e_25, go_sem, seval]; rcases o_32 with ⟨y_26, y_27, y_28, y_29, y_30⟩ | _
   · (try dsimp only at h); refine Xa.useA (XL N _ _ _ _ c_0 _ h_31) [0, 4] (ho := ⟨(by first | rfl | simp only [go_sem, seval, e_25]), (by first | rfl | simp only [go_sem, seval, e_25]), trivial⟩) ?_; have e_34 := tk XU s_23; have e_35 : (List.map XU s_23) ++ [[.int .i64 y_26, .int .i64 y_27, .int .i64 y_28, .int .i64 y_29]] = (List.map XU (s_23 ++ [Yg.mk y_26 y_27 y_28 y_29])) := YS s_23 ([Yg.mk y_26 y_27 y_28 y_29]) XU; obtain ⟨e_37, h⟩ := guardE h; simp only [e_25, e_34, e_35, e_37, go_sem, seval]; rw [← hQ]; exact ⟨_, _, (Ref.std [0, 4, 5, 6, 23, 24] [0, 1, 2, 5, 4] (by decide) (by decide) rfl (by first | rfl | simp only [go_sem, seval])), (by simp), ih _ _ _ _ h hp⟩
   · (try dsimp only at h); refine Xa.panA (XL N _ _ _ _ c_0 _ h_31) [0, 4] (ho := ⟨(by first | rfl | simp only [go_sem, seval, e_25]), (by first | rfl | simp only [go_sem, seval, e_25]), trivial⟩) ?_; (try simp only [Xc, Xb, Xe]); cases h; rw [← hQ]; exact hp _ _ rfl
  · simp only [e_25, go_sem, seval]; cases h; rw [← hQ]; exact ⟨_, _, (Ref.std [4, 5] [0, 1, 2, 3] (by decide) (by decide) rfl (by first | rfl | simp only [go_sem, seval])), hp⟩
theorem Xbz (N : Nat) (l_0 : List Int) (a_1 : Int) (y_1 : List TSpan) (y_5 : Int) (c_0 : Bool) {R : AExit → ATm → List AObj → Prop} : ∀ (n : Nat) (i_1026 : Int) (i_1027 : Int) (s_1028 : List Yg) (o : (Int × (List Yg)) ⊕ (Unit)), XZ N l_0 a_1 y_1 y_5 n i_1026 i_1027 s_1028 = some o → (match o with | .inl (z_1, z_2) => R (.exit 0) ⟨36, [(4, .ptr 1 0 0), (5, .ptr 2 0 0)], []⟩ [.box [.vec c_0 (List.map eU8 l_0), .int .i64 a_1, .int .i64 z_1] 123, .box [.int .i64 0, nn, .bool false, .int .i64 0, nn, nn, nn, nn, nn, nn, nn, nn, nn, nn, nn, nn] 35, .box [.int .i64 11, .vec false (List.map Xi y_1), .bool false, .int .i64 0, nn, nn, nn, .row 3 0 z_2.length, nn, nn, nn, nn, nn, nn, nn, nn] 35, .mem 4 (List.map XU z_2) 89] | .inr (_) => ∀ (tb : ATm) (Hb : List AObj), tb.ds = [] → R (.pan (.iface 91 (.agg []))) tb Hb) →
  ALp Try.prog 1 B66_1 ⟨36, [(0, .ptr 0 0 0), (4, .ptr 1 0 0), (5, .ptr 2 0 0), (6, .fn (.func 103) [] [.ptr 4 0 0]), (23, .int .i64 1), (24, .int .i64 i_1026)], []⟩ [.box [.vec c_0 (List.map eU8 l_0), .int .i64 a_1, .int .i64 i_1027] 123, .box [.int .i64 0, nn, .bool false, .int .i64 0, nn, nn, nn, nn, nn, nn, nn, nn, nn, nn, nn, nn] 35, .box [.int .i64 11, .vec false (List.map Xi y_1), .bool false, .int .i64 0, nn, nn, nn, .row 3 0 s_1028.length, nn, nn, nn, nn, nn, nn, nn, nn] 35, .mem 4 (List.map XU s_1028) 89, .box [.int .i64 y_5] 3] R := by
 intro n
 induction n with
 | zero =>
  intro i_1026 i_1027 s_1028 o h _; exact no0 h
 | succ n ih =>
  intro i_1026 i_1027 s_1028 o h hp; rw [XZ] at h; refine ALp.round ?_; generalize hQ : YB _ _ _ _ = QQ; simp only [B66_1, A66, go_sem, seval]; rcases iteS h with ⟨e_1030, h⟩ | ⟨e_1030, h⟩
  ·
   obtain ⟨o_1037, h_1036, h⟩ := bindS h; simp only [e_1030, go_sem, seval]; rcases o_1037 with ⟨y_1031, y_1032, y_1033, y_1034, y_1035⟩ | _
   · (try dsimp only at h); refine Xa.useA (XL N _ _ _ _ c_0 _ h_1036) [0, 4] (ho := ⟨(by first | rfl | simp only [go_sem, seval, e_1030]), (by first | rfl | simp only [go_sem, seval, e_1030]), trivial⟩) ?_; have e_1039 := tk XU s_1028; have e_1040 : (List.map XU s_1028) ++ [[.int .i64 y_1031, .int .i64 y_1032, .int .i64 y_1033, .int .i64 y_1034]] = (List.map XU (s_1028 ++ [Yg.mk y_1031 y_1032 y_1033 y_1034])) := YS s_1028 ([Yg.mk y_1031 y_1032 y_1033 y_1034]) XU; obtain ⟨e_1042, h⟩ := guardE h; simp only [e_1030, e_1039, e_1040, e_1042, go_sem, seval]; rw [← hQ]; exact ⟨_, _, (Ref.std [0, 4, 5, 6, 23, 24] [0, 1, 2, 5, 4] (by decide) (by decide) rfl (by first | rfl | simp only [go_sem, seval])), (by simp), ih _ _ _ _ h hp⟩
   · (try dsimp only at h); refine Xa.panA (XL N _ _ _ _ c_0 _ h_1036) [0, 4] (ho := ⟨(by first | rfl | simp only [go_sem, seval, e_1030]), (by first | rfl | simp only [go_sem, seval, e_1030]), trivial⟩) ?_; (try simp only [Xc, Xb, Xe]); cases h; rw [← hQ]; exact hp _ _ rfl
  · simp only [e_1030, go_sem, seval]; cases h; rw [← hQ]; exact ⟨_, _, (Ref.std [4, 5] [0, 1, 2, 3] (by decide) (by decide) rfl (by first | rfl | simp only [go_sem, seval])), hp⟩
theorem YG (N : Nat) (l_0 : List Int) (a_1 : Int) (a_2 : Int) (a_3 : Int) (c_0 : Bool) (o : (O2T) ⊕ Unit) (h : YK N l_0 a_1 a_2 a_3 = some o) :
  Xa Try.prog 66 [.ptr 0 0 0, .int .i64 a_3] [.box [.vec c_0 (List.map eU8 l_0), .int .i64 a_1, .int .i64 a_2] 123] (fun e H => match o with | .inl (z_1, z_2, z_3, z_4, z_5, z_6, z_7, z_8, z_9, z_10, z_11, z_12, z_13, z_14, z_15, z_16, z_17) => H = [.box [.vec c_0 (List.map eU8 l_0), .int .i64 a_1, .int .i64 z_17] 123] ∧ e = .ret (.agg [.int .i64 z_1, .vec false (List.map Xi z_2), .bool z_3, .int .i64 z_4, .vec false (List.map eLI64 z_5), .vec false (List.map YP z_6), .vec false (List.map eTCtx z_7), .vec false (List.map XU z_8), .vec false (List.map XC z_9), .vec false (List.map Xh z_10), .vec false (List.map Xh z_11), .vec false (List.map XC z_12), .vec false (List.map Xm z_13), .vec false (List.map YD z_14), .vec false (List.map Xi z_15), .vec false (List.map Xl z_16)]) | .inr _ => H = [.dead] ∧ e = .pan (.iface 91 (.agg []))) := by
 unfold YK at h; refine Xa.goN Try.func66 n66 a66 Try.ntmps66 r66 (by simp) 1 rfl ?_; generalize hQ : bodyA _ _ _ = QQ; obtain ⟨o_3, h_2, h⟩ := bindS h; simp only [A66, go_sem, seval]; rcases o_3 with y_1 | _
 ·
  (try dsimp only at h); refine Xa.goA (Yo N _ _ _ c_0 _ h_2) [0] ?_; obtain ⟨o_7, h_6, h⟩ := bindS h; simp only [go_sem, seval]; rcases o_7 with y_5 | _
  ·
   (try dsimp only at h); refine Xa.goA (ZA N _ _ _ c_0 _ h_6) [0] ?_; simp only [go_sem, seval]; rcases iteS h with ⟨e_10, h⟩ | ⟨e_10, h⟩
   ·
    obtain ⟨y_11, h_12, h⟩ := bindS h; simp only [e_10, go_sem, seval]; refine Xa.go0 (Jc N _ false _ h_12) ?_; obtain ⟨o_15, h_14, h⟩ := bindS h; simp only [e_10, go_sem, seval]; rcases o_15 with y_13 | _
    ·
     (try dsimp only at h); refine Xa.goA (XY N _ _ _ _ c_0 _ h_14) [0] (ho := ⟨(by first | rfl | simp only [go_sem, seval, e_10]), trivial⟩) ?_; obtain ⟨o_18, h_17, h⟩ := bindS h; simp only [e_10, go_sem, seval]; rcases o_18 with _ | _
     ·
      (try dsimp only at h); refine Xa.go0 (Xv N _ _ h_17) ?_; have e_20 := eq_true (of_decide_eq_true (Ja h_17)); simp only [e_10, e_20, go_sem, seval]; obtain ⟨o_1024, h_1021, h⟩ := bindS h; refine ALp.ref (Ref.trans (Ref.thawB (by simp) (id := 2) 7 rfl rfl (sz := 4) (by decide) 89) (Ref.std [0, 4, 5, 6, 23, 24] [0, 1, 2, 4, 3] (by decide) (by decide) rfl (by first | rfl | simp only [go_sem, seval]))) (by simp) (Xb0 N _ _ _ _ _ c_0 N _ _ _ o_1024 h_1021 ?_); rcases o_1024 with ⟨y_1022, y_1023⟩ | _
      · (try dsimp only at h); refine XJ rfl (by simp) ?_; simp only [e_10, e_20, go_sem, seval]; cases h; rw [← hQ]; exact ⟨rfl, _, rfl, _, _, (RefV.trans (RefV.frz (by simp) (id := 3) rfl (XX y_1023 XU (fun _ => rfl))) (RefV.trans (RefV.std (v' := .agg [.int .i64 11, .vec false (List.map Xi y_1), .bool false, .int .i64 0, nn, nn, nn, .vec false (List.map XU y_1023), nn, nn, nn, nn, nn, nn, nn, nn]) [0] (by decide) (by decide) (by first | rfl | simp only [go_sem, seval, e_10, e_20]) (by first | rfl | simp only [go_sem, seval, e_10, e_20])) (RefV.weak (Wks.cons (Wk.agg (Wks.cons (Wk.refl _) (Wks.cons (Wk.refl _) (Wks.cons (Wk.refl _) (Wks.cons (Wk.refl _) (Wks.cons Wk.vec (Wks.cons Wk.vec (Wks.cons Wk.vec (Wks.cons (Wk.refl _) (Wks.cons Wk.vec (Wks.cons Wk.vec (Wks.cons Wk.vec (Wks.cons Wk.vec (Wks.cons Wk.vec (Wks.cons Wk.vec (Wks.cons Wk.vec (Wks.cons Wk.vec (Wks.nil)))))))))))))))))) Wks.nil) (WkH.refl _)))), rfl, rfl⟩
      · (try dsimp only at h); intro _ _ h_1025; refine Zo ?_; cases h; rw [← hQ]; exact ⟨h_1025, _, _, RefV.dead rfl, rfl, rfl⟩
     · (try dsimp only at h); refine Xa.panA (Xv N _ _ h_17) [] ?_; (try simp only [Xc, Xb, Xe]); cases h; rw [← hQ]; exact ⟨rfl, _, _, RefV.dead rfl, rfl, rfl⟩
    · (try dsimp only at h); refine Xa.panA (XY N _ _ _ _ c_0 _ h_14) [0] (ho := ⟨(by first | rfl | simp only [go_sem, seval, e_10]), trivial⟩) ?_; (try simp only [Xc, Xb, Xe]); cases h; rw [← hQ]; exact ⟨rfl, _, _, RefV.dead rfl, rfl, rfl⟩
   ·
    simp only [e_10, go_sem, seval]; obtain ⟨o_2029, h_2026, h⟩ := bindS h; refine ALp.ref (Ref.trans (Ref.thawB (by simp) (id := 2) 7 rfl rfl (sz := 4) (by decide) 89) (Ref.std [0, 4, 5, 6, 23, 24] [0, 1, 2, 4, 3] (by decide) (by decide) rfl (by first | rfl | simp only [go_sem, seval]))) (by simp) (Xbz N _ _ _ _ c_0 N _ _ _ o_2029 h_2026 ?_); rcases o_2029 with ⟨y_2027, y_2028⟩ | _
    · (try dsimp only at h); refine XJ rfl (by simp) ?_; simp only [e_10, go_sem, seval]; cases h; rw [← hQ]; exact ⟨rfl, _, rfl, _, _, (RefV.trans (RefV.frz (by simp) (id := 3) rfl (XX y_2028 XU (fun _ => rfl))) (RefV.trans (RefV.std (v' := .agg [.int .i64 11, .vec false (List.map Xi y_1), .bool false, .int .i64 0, nn, nn, nn, .vec false (List.map XU y_2028), nn, nn, nn, nn, nn, nn, nn, nn]) [0] (by decide) (by decide) (by first | rfl | simp only [go_sem, seval, e_10]) (by first | rfl | simp only [go_sem, seval, e_10])) (RefV.weak (Wks.cons (Wk.agg (Wks.cons (Wk.refl _) (Wks.cons (Wk.refl _) (Wks.cons (Wk.refl _) (Wks.cons (Wk.refl _) (Wks.cons Wk.vec (Wks.cons Wk.vec (Wks.cons Wk.vec (Wks.cons (Wk.refl _) (Wks.cons Wk.vec (Wks.cons Wk.vec (Wks.cons Wk.vec (Wks.cons Wk.vec (Wks.cons Wk.vec (Wks.cons Wk.vec (Wks.cons Wk.vec (Wks.cons Wk.vec (Wks.nil)))))))))))))))))) Wks.nil) (WkH.refl _)))), rfl, rfl⟩
    · (try dsimp only at h); intro _ _ h_2030; refine Zo ?_; cases h; rw [← hQ]; exact ⟨h_2030, _, _, RefV.dead rfl, rfl, rfl⟩
  · (try dsimp only at h); refine Xa.panA (ZA N _ _ _ c_0 _ h_6) [0] ?_; (try simp only [Xc, Xb, Xe]); cases h; rw [← hQ]; exact ⟨rfl, _, _, RefV.dead rfl, rfl, rfl⟩
 · (try dsimp only at h); refine Xa.panA (Yo N _ _ _ c_0 _ h_2) [0] ?_; (try simp only [Xc, Xb, Xe]); cases h; rw [← hQ]; exact ⟨rfl, _, _, RefV.dead rfl, rfl, rfl⟩
theorem Qn (N : Nat) (l_0 : List Int) (a_1 : Int) (a_2 : Int) (c_0 : Bool) (o : ((List Xg)) ⊕ Unit) (h : Zc N l_0 a_1 a_2 = some o) :
  Xa Try.prog 88 [.ptr 0 0 0] [.box [.vec c_0 (List.map eU8 l_0), .int .i64 a_1, .int .i64 a_2] 123] (fun e H => match o with | .inl z_1 => H = [.box [.vec c_0 (List.map eU8 l_0), .int .i64 a_1, .int .i64 (IntKind.i64.wrap (a_2 + 2))] 123] ∧ e = .ret (.vec false (List.map Xh z_1)) | .inr _ => H = [.dead] ∧ e = .pan (.iface 91 (.agg []))) := by
 unfold Zc at h; refine Xa.goN Try.func88 n88 a88 Try.ntmps88 r88 (by simp) 1 rfl ?_; generalize hQ : bodyA _ _ _ = QQ; obtain ⟨o_3, h_2, h⟩ := bindS h; simp only [A88, go_sem, seval]; rcases o_3 with y_1 | _
 ·
  (try dsimp only at h); refine Xa.useA (Xn N _ _ _ c_0 _ h_2) [0] ?_; obtain ⟨⟨y_5, y_6⟩, h_7, h⟩ := bindS h; (try dsimp only at h); simp only [go_sem, seval]; refine Xa.use0 (Xct N _ _ c_0 _ _ h_7) rfl rfl ?_; obtain ⟨o_9, h_8, h⟩ := bindS h; simp only [go_sem, seval]; rcases o_9 with _ | _
  · (try dsimp only at h); refine Xa.go0 (Xv N _ _ h_8) ?_; simp only [go_sem, seval]; cases h; rw [← hQ]; exact ⟨rfl, _, rfl, _, _, (RefV.std [0] (by decide) (by decide) rfl (by first | rfl | simp only [go_sem, seval])), rfl, rfl⟩
  · (try dsimp only at h); refine Xa.panA (Xv N _ _ h_8) [] ?_; (try simp only [Xc, Xb, Xe]); cases h; rw [← hQ]; exact ⟨rfl, _, _, RefV.dead rfl, rfl, rfl⟩
 · (try dsimp only at h); refine Xa.panA (Xn N _ _ _ c_0 _ h_2) [0] ?_; (try simp only [Xc, Xb, Xe]); cases h; rw [← hQ]; exact ⟨rfl, _, _, RefV.dead rfl, rfl, rfl⟩
theorem Xco (N : Nat) (y_27 : Int) (y_23 : Int) (i_31 : Int) (l_0 : List Int) (a_1 : Int) (y_1 : List TSpan) (y_15 : List Xg) (y_19 : List Xg) (s_33 : List (List TTwo)) (y_5 : Int) (y_9 : Int) (c_0 : Bool) {R : AExit → ATm → List AObj → Prop} : ∀ (n : Nat) (i_36 : Int) (i_37 : Int) (s_38 : List TTwo) (o : (Int × (List TTwo)) ⊕ (Unit)), Yt N y_27 y_23 i_31 l_0 a_1 y_1 y_15 y_19 s_33 y_5 y_9 n i_36 i_37 s_38 = some o → (match o with | .inl (z_1, z_2) => R (.exit 2) ⟨109, [(0, .ptr 0 0 0), (4, .ptr 1 0 0), (5, .ptr 2 0 0), (6, .fn (.func 103) [] [.ptr 4 0 0]), (7, .fn (.func 103) [] [.ptr 5 0 0]), (9, .int .i64 y_27), (10, .row 6 0 z_2.length), (39, .int .i64 y_23), (40, .int .i64 i_31)], []⟩ [.box [.vec c_0 (List.map eU8 l_0), .int .i64 a_1, .int .i64 z_1] 123, .box [.int .i64 0, nn, .bool false, .int .i64 0, nn, nn, nn, nn, nn, nn, nn, nn, nn, nn, nn, nn] 35, .box [.int .i64 12, .vec false (List.map Xi y_1), .bool false, .int .i64 0, nn, nn, nn, nn, nn, .vec false (List.map Xh y_15), .vec false (List.map Xh y_19), .row 3 0 s_33.length, nn, nn, nn, nn] 35, .mem 1 (List.map XC s_33) 50, .box [.int .i64 y_5] 3, .box [.int .i64 y_9] 3, .mem 9 (List.map eTTwo z_2) 127] | .inr (_) => ∀ (tb : ATm) (Hb : List AObj), tb.ds = [] → R (.pan (.iface 91 (.agg []))) tb Hb) →
  ALp Try.prog 1 B67_2 ⟨109, [(0, .ptr 0 0 0), (4, .ptr 1 0 0), (5, .ptr 2 0 0), (6, .fn (.func 103) [] [.ptr 4 0 0]), (7, .fn (.func 103) [] [.ptr 5 0 0]), (9, .int .i64 y_27), (10, .row 6 0 s_38.length), (39, .int .i64 y_23), (40, .int .i64 i_31), (42, .int .i64 y_27), (43, .int .i64 i_36)], []⟩ [.box [.vec c_0 (List.map eU8 l_0), .int .i64 a_1, .int .i64 i_37] 123, .box [.int .i64 0, nn, .bool false, .int .i64 0, nn, nn, nn, nn, nn, nn, nn, nn, nn, nn, nn, nn] 35, .box [.int .i64 12, .vec false (List.map Xi y_1), .bool false, .int .i64 0, nn, nn, nn, nn, nn, .vec false (List.map Xh y_15), .vec false (List.map Xh y_19), .row 3 0 s_33.length, nn, nn, nn, nn] 35, .mem 1 (List.map XC s_33) 50, .box [.int .i64 y_5] 3, .box [.int .i64 y_9] 3, .mem 9 (List.map eTTwo s_38) 127] R := by
 intro n
 induction n with
 | zero =>
  intro i_36 i_37 s_38 o h _; exact no0 h
 | succ n ih =>
  intro i_36 i_37 s_38 o h hp; rw [Yt] at h; refine ALp.round ?_; generalize hQ : YB _ _ _ _ = QQ; simp only [B67_2, B67_1, A67, go_sem, seval]; rcases iteS h with ⟨e_40, h⟩ | ⟨e_40, h⟩
  ·
   obtain ⟨o_47, h_46, h⟩ := bindS h; simp only [e_40, go_sem, seval]; rcases o_47 with ⟨y_41, y_42, y_43, y_44, y_45⟩ | _
   ·
    (try dsimp only at h); refine Xa.goA (XL N _ _ _ _ c_0 _ h_46) [0, 4] (ho := ⟨(by first | rfl | simp only [go_sem, seval, e_40]), (by first | rfl | simp only [go_sem, seval, e_40]), trivial⟩) ?_; obtain ⟨o_55, h_54, h⟩ := bindS h; simp only [e_40, go_sem, seval]; rcases o_55 with ⟨y_49, y_50, y_51, y_52, y_53⟩ | _
    · (try dsimp only at h); refine Xa.goA (XL N _ _ _ _ c_0 _ h_54) [0, 5] (ho := ⟨(by first | rfl | simp only [go_sem, seval, e_40]), (by first | rfl | simp only [go_sem, seval, e_40]), trivial⟩) ?_; have e_57 := tk eTTwo s_38; have e_58 : (List.map eTTwo s_38) ++ [[.int .i64 0, .int .i64 y_41, .int .i64 y_42, .int .i64 y_43, .int .i64 y_44, .int .i64 y_49, .int .i64 y_50, .int .i64 y_51, .int .i64 y_52]] = (List.map eTTwo (s_38 ++ [TTwo.mk 0 (Yg.mk y_41 y_42 y_43 y_44) (Yg.mk y_49 y_50 y_51 y_52)])) := YS s_38 ([TTwo.mk 0 (Yg.mk y_41 y_42 y_43 y_44) (Yg.mk y_49 y_50 y_51 y_52)]) eTTwo; obtain ⟨e_60, h⟩ := guardE h; simp only [e_40, e_57, e_58, e_60, go_sem, seval]; rw [← hQ]; exact ⟨_, _, (Ref.std [0, 4, 5, 6, 7, 9, 10, 39, 40, 42, 43] [0, 1, 2, 3, 4, 5, 9] (by decide) (by decide) (by first | rfl | simp only [go_sem, seval]) (by first | rfl | simp only [go_sem, seval])), (by simp), ih _ _ _ _ h hp⟩
    · (try dsimp only at h); refine Xa.panA (XL N _ _ _ _ c_0 _ h_54) [0, 5] (ho := ⟨(by first | rfl | simp only [go_sem, seval, e_40]), (by first | rfl | simp only [go_sem, seval, e_40]), trivial⟩) ?_; (try simp only [Xc, Xb, Xe]); cases h; rw [← hQ]; exact hp _ _ rfl
   · (try dsimp only at h); refine Xa.panA (XL N _ _ _ _ c_0 _ h_46) [0, 4] (ho := ⟨(by first | rfl | simp only [go_sem, seval, e_40]), (by first | rfl | simp only [go_sem, seval, e_40]), trivial⟩) ?_; (try simp only [Xc, Xb, Xe]); cases h; rw [← hQ]; exact hp _ _ rfl
  · simp only [e_40, go_sem, seval]; cases h; rw [← hQ]; exact ⟨_, _, (Ref.std [0, 4, 5, 6, 7, 9, 10, 39, 40] [0, 1, 2, 3, 4, 5, 6] (by decide) (by decide) rfl (by first | rfl | simp only [go_sem, seval])), hp⟩
theorem Xcn (N : Nat) (y_27 : Int) (y_23 : Int) (l_0 : List Int) (a_1 : Int) (y_1 : List TSpan) (y_15 : List Xg) (y_19 : List Xg) (y_5 : Int) (y_9 : Int) (c_0 : Bool) {R : AExit → ATm → List AObj → Prop} : ∀ (n : Nat) (i_31 : Int) (i_32 : Int) (s_33 : List (List TTwo)) (o : (Int × (List (List TTwo))) ⊕ (Unit)), Yr N y_27 y_23 l_0 a_1 y_1 y_15 y_19 y_5 y_9 n i_31 i_32 s_33 = some o → (match o with | .inl (z_1, z_2) => R (.exit 0) ⟨109, [(4, .ptr 1 0 0), (5, .ptr 2 0 0)], []⟩ [.box [.vec c_0 (List.map eU8 l_0), .int .i64 a_1, .int .i64 z_1] 123, .box [.int .i64 0, nn, .bool false, .int .i64 0, nn, nn, nn, nn, nn, nn, nn, nn, nn, nn, nn, nn] 35, .box [.int .i64 12, .vec false (List.map Xi y_1), .bool false, .int .i64 0, nn, nn, nn, nn, nn, .vec false (List.map Xh y_15), .vec false (List.map Xh y_19), .row 3 0 z_2.length, nn, nn, nn, nn] 35, .mem 1 (List.map XC z_2) 50] | .inr (_) => ∀ (tb : ATm) (Hb : List AObj), tb.ds = [] → R (.pan (.iface 91 (.agg []))) tb Hb) →
  ALp Try.prog 1 B67_1 ⟨109, [(0, .ptr 0 0 0), (4, .ptr 1 0 0), (5, .ptr 2 0 0), (6, .fn (.func 103) [] [.ptr 4 0 0]), (7, .fn (.func 103) [] [.ptr 5 0 0]), (9, .int .i64 y_27), (39, .int .i64 y_23), (40, .int .i64 i_31)], []⟩ [.box [.vec c_0 (List.map eU8 l_0), .int .i64 a_1, .int .i64 i_32] 123, .box [.int .i64 0, nn, .bool false, .int .i64 0, nn, nn, nn, nn, nn, nn, nn, nn, nn, nn, nn, nn] 35, .box [.int .i64 12, .vec false (List.map Xi y_1), .bool false, .int .i64 0, nn, nn, nn, nn, nn, .vec false (List.map Xh y_15), .vec false (List.map Xh y_19), .row 3 0 s_33.length, nn, nn, nn, nn] 35, .mem 1 (List.map XC s_33) 50, .box [.int .i64 y_5] 3, .box [.int .i64 y_9] 3] R := by
 intro n
 induction n with
 | zero =>
  intro i_31 i_32 s_33 o h _; exact no0 h
 | succ n ih =>
  intro i_31 i_32 s_33 o h hp; rw [Yr] at h; refine ALp.round ?_; generalize hQ : YB _ _ _ _ = QQ; simp only [B67_1, A67, go_sem, seval]; rcases iteS h with ⟨e_35, h⟩ | ⟨e_35, h⟩
  ·
   simp only [e_35, go_sem, seval]; obtain ⟨o_1039, h_1036, h⟩ := bindS h; refine ALp.ref (Ref.trans (Ref.thaw (by simp) 10 rfl (sz := 9) (by decide) 127) (Ref.std [0, 4, 5, 6, 7, 9, 10, 39, 40, 42, 43] [0, 1, 2, 3, 4, 5, 6] (by decide) (by decide) rfl (by first | rfl | simp only [go_sem, seval]))) (by simp) (Xco N _ _ _ _ _ _ _ _ _ _ _ c_0 N _ _ _ o_1039 h_1036 ?_); rcases o_1039 with ⟨y_1037, y_1038⟩ | _
   · (try dsimp only at h); refine Xem rfl (ta1 := ⟨109, [(0, .ptr 0 0 0), (4, .ptr 1 0 0), (5, .ptr 2 0 0), (6, .fn (.func 103) [] [.ptr 4 0 0]), (7, .fn (.func 103) [] [.ptr 5 0 0]), (9, .int .i64 y_27), (10, .vec false (List.map eTTwo y_1038)), (39, .int .i64 y_23), (40, .int .i64 i_31)], []⟩) (H1 := [.box [.vec c_0 (List.map eU8 l_0), .int .i64 a_1, .int .i64 y_1037] 123, .box [.int .i64 0, nn, .bool false, .int .i64 0, nn, nn, nn, nn, nn, nn, nn, nn, nn, nn, nn, nn] 35, .box [.int .i64 12, .vec false (List.map Xi y_1), .bool false, .int .i64 0, nn, nn, nn, nn, nn, .vec false (List.map Xh y_15), .vec false (List.map Xh y_19), .row 3 0 s_33.length, nn, nn, nn, nn] 35, .mem 1 (List.map XC s_33) 50, .box [.int .i64 y_5] 3, .box [.int .i64 y_9] 3]) (Ref.trans (Ref.frz (by simp) (id := 6) rfl (XX y_1038 eTTwo (fun _ => rfl))) (Ref.std [0, 4, 5, 6, 7, 9, 10, 39, 40] [0, 1, 2, 3, 4, 5] (by decide) (by decide) (by first | rfl | simp only [go_sem, seval]) (by first | rfl | simp only [go_sem, seval]))) (by simp) ?_; have e_1040 := tk XC s_33; have e_1041 : (List.map XC s_33) ++ [[.vec false (List.map eTTwo y_1038)]] = (List.map XC (s_33 ++ [y_1038])) := YS s_33 ([y_1038]) XC; obtain ⟨e_1043, h⟩ := guardE h; simp only [e_35, e_1040, e_1041, e_1043, go_sem, seval]; rw [← hQ]; exact ⟨_, _, (Ref.std [0, 4, 5, 6, 7, 9, 39, 40] [0, 1, 2, 6, 4, 5] (by decide) (by decide) rfl (by first | rfl | simp only [go_sem, seval])), (by simp), ih _ _ _ _ h hp⟩
   · (try dsimp only at h); intro _ _ h_1044; refine Zo ?_; cases h; rw [← hQ]; exact hp _ _ h_1044
  · simp only [e_35, go_sem, seval]; cases h; rw [← hQ]; exact ⟨_, _, (Ref.std [4, 5] [0, 1, 2, 3] (by decide) (by decide) rfl (by first | rfl | simp only [go_sem, seval])), hp⟩
theorem ZX (N : Nat) (l_0 : List Int) (a_1 : Int) (a_2 : Int) (a_3 : Int) (c_0 : Bool) (o : ((List Int)) ⊕ Unit) (h : Zk N l_0 a_1 a_2 a_3 = some o) :
  Xa Try.prog 90 [.ptr 0 0 0, .int .i64 a_3] [.box [.vec c_0 (List.map eU8 l_0), .int .i64 a_1, .int .i64 a_2] 123] (fun e H => match o with | .inl z_1 => H = [.box [.vec c_0 (List.map eU8 l_0), .int .i64 a_1, .int .i64 (IntKind.i64.wrap (a_2 + (IntKind.i64.wrap (a_3 * 2))))] 123] ∧ e = .ret (.vec false (List.map eI64 z_1)) | .inr _ => H = [.dead] ∧ e = .pan (.iface 91 (.agg []))) := by
 unfold Zk at h; refine Xa.goN Try.func90 n90 a90 Try.ntmps90 r90 (by simp) 1 rfl ?_; generalize hQ : bodyA _ _ _ = QQ; obtain ⟨⟨y_1, y_2⟩, h_3, h⟩ := bindS h; (try dsimp only at h); simp only [A90, go_sem, seval]; refine Xa.use0 (Xau N _ _ _ _ c_0 _ _ h_3) rfl rfl ?_; obtain ⟨o_5, h_4, h⟩ := bindS h; simp only [go_sem, seval]; rcases o_5 with _ | _
 · (try dsimp only at h); refine Xa.go0 (Xv N _ _ h_4) ?_; simp only [go_sem, seval]; cases h; rw [← hQ]; exact ⟨rfl, _, rfl, _, _, (RefV.std [0] (by decide) (by decide) rfl (by first | rfl | simp only [go_sem, seval])), rfl, rfl⟩
 · (try dsimp only at h); refine Xa.panA (Xv N _ _ h_4) [] ?_; (try simp only [Xc, Xb, Xe]); cases h; rw [← hQ]; exact ⟨rfl, _, _, RefV.dead rfl, rfl, rfl⟩
theorem Ql (N : Nat) (l_0 : List Int) (a_1 : Int) (a_2 : Int) (a_3 : Int) (c_0 : Bool) (h : YC N l_0 a_1 a_2 a_3 = some ()) :
  Xa Try.prog 91 [.ptr 0 0 0, .int .i64 a_3] [.box [.vec c_0 (List.map eU8 l_0), .int .i64 a_1, .int .i64 a_2] 123] (fun e H => H = [.box [.vec c_0 (List.map eU8 l_0), .int .i64 a_1, .int .i64 a_2] 123, .box [.vec c_0 (List.map eU8 l_0), .int .i64 (IntKind.i64.wrap (a_1 + a_3)), .int .i64 (IntKind.i64.wrap (a_1 + a_3))] 123] ∧ e = .ret (.ptr 1 0 0)) := by
 unfold YC at h; refine Xa.goN Try.func91 n91 a91 Try.ntmps91 r91 (by simp) 1 rfl ?_; generalize hQ : bodyA _ _ _ = QQ; simp only [A91, go_sem, seval]; rw [← hQ]; exact ⟨rfl, _, rfl, _, _, (RefV.std [0, 1] (by decide) (by decide) rfl (by first | rfl | simp only [go_sem, seval])), rfl, rfl⟩
theorem Xcm (N : Nat) (y_1042 : List Int) (i_1046 : Int) (y_1057 : Int) (l_0 : List Int) (a_1 : Int) (i_1047 : Int) (y_1 : List TSpan) (s_1048 : List (List TTwo)) (y_5 : Int) (y_9 : Int) (x_1051 : Int) (c_0 : Bool) {R : AExit → ATm → List AObj → Prop} : ∀ (n : Nat) (i_1061 : Int) (i_1062 : Int) (s_1063 : List TTwo) (o : ((List TTwo)) ⊕ (Unit)), Yq N y_1042 i_1046 y_1057 l_0 a_1 i_1047 y_1 s_1048 y_5 y_9 x_1051 n i_1061 i_1062 s_1063 = some o → (match o with | .inl z_1 => R (.exit 6) ⟨109, [(0, .ptr 0 0 0), (4, .ptr 1 0 0), (5, .ptr 2 0 0), (6, .fn (.func 103) [] [.ptr 4 0 0]), (7, .fn (.func 103) [] [.ptr 5 0 0]), (16, .row 6 0 z_1.length), (72, .vec false (List.map eI64 y_1042)), (73, .int .i64 (y_1042.length : Int)), (74, .int .i64 i_1046)], []⟩ [.box [.vec c_0 (List.map eU8 l_0), .int .i64 a_1, .int .i64 i_1047] 123, .box [.int .i64 0, nn, .bool false, .int .i64 0, nn, nn, nn, nn, nn, nn, nn, nn, nn, nn, nn, nn] 35, .box [.int .i64 12, .vec false (List.map Xi y_1), .bool false, .int .i64 0, nn, nn, nn, nn, .row 3 0 s_1048.length, nn, nn, nn, nn, nn, nn, nn] 35, .mem 1 (List.map XC s_1048) 50, .box [.int .i64 y_5] 3, .box [.int .i64 y_9] 3, .mem 9 (List.map eTTwo z_1) 127] | .inr (_) => ∀ (tb : ATm) (Hb : List AObj), tb.ds = [] → R (.pan (.iface 91 (.agg []))) tb Hb) →
  ALp Try.prog 1 B67_4 ⟨109, [(0, .ptr 0 0 0), (4, .ptr 1 0 0), (5, .ptr 2 0 0), (6, .fn (.func 103) [] [.ptr 4 0 0]), (7, .fn (.func 103) [] [.ptr 5 0 0]), (15, .ptr 6 0 0), (16, .row 7 0 s_1063.length), (72, .vec false (List.map eI64 y_1042)), (73, .int .i64 (y_1042.length : Int)), (74, .int .i64 i_1046), (82, .int .i64 y_1057), (83, .int .i64 i_1061)], []⟩ [.box [.vec c_0 (List.map eU8 l_0), .int .i64 a_1, .int .i64 i_1047] 123, .box [.int .i64 0, nn, .bool false, .int .i64 0, nn, nn, nn, nn, nn, nn, nn, nn, nn, nn, nn, nn] 35, .box [.int .i64 12, .vec false (List.map Xi y_1), .bool false, .int .i64 0, nn, nn, nn, nn, .row 3 0 s_1048.length, nn, nn, nn, nn, nn, nn, nn] 35, .mem 1 (List.map XC s_1048) 50, .box [.int .i64 y_5] 3, .box [.int .i64 y_9] 3, .box [.vec c_0 (List.map eU8 l_0), .int .i64 (IntKind.i64.wrap (a_1 + x_1051)), .int .i64 i_1062] 123, .mem 9 (List.map eTTwo s_1063) 127] R := by
 intro n
 induction n with
 | zero =>
  intro i_1061 i_1062 s_1063 o h _; exact no0 h
 | succ n ih =>
  intro i_1061 i_1062 s_1063 o h hp; rw [Yq] at h; refine ALp.round ?_; generalize hQ : YB _ _ _ _ = QQ; simp only [B67_4, B67_3, A67, go_sem, seval]; rcases iteS h with ⟨e_1065, h⟩ | ⟨e_1065, h⟩
  ·
   obtain ⟨o_1068, h_1067, h⟩ := bindS h; simp only [e_1065, go_sem, seval]; rcases o_1068 with y_1066 | _
   ·
    (try dsimp only at h); refine Xa.goA (Xn N _ _ _ c_0 _ h_1067) [6] (ho := ⟨(by first | rfl | simp only [go_sem, seval, e_1065]), trivial⟩) ?_; obtain ⟨o_1076, h_1075, h⟩ := bindS h; simp only [e_1065, go_sem, seval]; rcases o_1076 with ⟨y_1070, y_1071, y_1072, y_1073, y_1074⟩ | _
    ·
     (try dsimp only at h); refine Xa.goA (XL N _ _ _ _ c_0 _ h_1075) [6, 4] (ho := ⟨(by first | rfl | simp only [go_sem, seval, e_1065]), (by first | rfl | simp only [go_sem, seval, e_1065]), trivial⟩) ?_; obtain ⟨o_1084, h_1083, h⟩ := bindS h; simp only [e_1065, go_sem, seval]; rcases o_1084 with ⟨y_1078, y_1079, y_1080, y_1081, y_1082⟩ | _
     · (try dsimp only at h); refine Xa.goA (XL N _ _ _ _ c_0 _ h_1083) [6, 5] (ho := ⟨(by first | rfl | simp only [go_sem, seval, e_1065]), (by first | rfl | simp only [go_sem, seval, e_1065]), trivial⟩) ?_; have e_1086 := tk eTTwo s_1063; have e_1087 : (List.map eTTwo s_1063) ++ [[.int .i64 y_1066, .int .i64 y_1070, .int .i64 y_1071, .int .i64 y_1072, .int .i64 y_1073, .int .i64 y_1078, .int .i64 y_1079, .int .i64 y_1080, .int .i64 y_1081]] = (List.map eTTwo (s_1063 ++ [TTwo.mk y_1066 (Yg.mk y_1070 y_1071 y_1072 y_1073) (Yg.mk y_1078 y_1079 y_1080 y_1081)])) := YS s_1063 ([TTwo.mk y_1066 (Yg.mk y_1070 y_1071 y_1072 y_1073) (Yg.mk y_1078 y_1079 y_1080 y_1081)]) eTTwo; obtain ⟨e_1089, h⟩ := guardE h; simp only [e_1065, e_1086, e_1087, e_1089, go_sem, seval]; rw [← hQ]; exact ⟨_, _, (Ref.std [0, 4, 5, 6, 7, 15, 16, 72, 73, 74, 82, 83] [0, 1, 2, 3, 4, 5, 6, 10] (by decide) (by decide) (by first | rfl | simp only [go_sem, seval]) (by first | rfl | simp only [go_sem, seval])), (by simp), ih _ _ _ _ h hp⟩
     · (try dsimp only at h); refine Xa.panA (XL N _ _ _ _ c_0 _ h_1083) [6, 5] (ho := ⟨(by first | rfl | simp only [go_sem, seval, e_1065]), (by first | rfl | simp only [go_sem, seval, e_1065]), trivial⟩) ?_; (try simp only [Xc, Xb, Xe]); cases h; rw [← hQ]; exact hp _ _ rfl
    · (try dsimp only at h); refine Xa.panA (XL N _ _ _ _ c_0 _ h_1075) [6, 4] (ho := ⟨(by first | rfl | simp only [go_sem, seval, e_1065]), (by first | rfl | simp only [go_sem, seval, e_1065]), trivial⟩) ?_; (try simp only [Xc, Xb, Xe]); cases h; rw [← hQ]; exact hp _ _ rfl
   · (try dsimp only at h); refine Xa.panA (Xn N _ _ _ c_0 _ h_1067) [6] (ho := ⟨(by first | rfl | simp only [go_sem, seval, e_1065]), trivial⟩) ?_; (try simp only [Xc, Xb, Xe]); cases h; rw [← hQ]; exact hp _ _ rfl
  · simp only [e_1065, go_sem, seval]; cases h; rw [← hQ]; exact ⟨_, _, (Ref.std [0, 4, 5, 6, 7, 16, 72, 73, 74] [0, 1, 2, 3, 4, 5, 7] (by decide) (by decide) rfl (by first | rfl | simp only [go_sem, seval])), hp⟩
theorem Xcl (N : Nat) (y_1042 : List Int) (l_0 : List Int) (a_1 : Int) (y_1 : List TSpan) (y_5 : Int) (y_9 : Int) (c_0 : Bool) {R : AExit → ATm → List AObj → Prop} : ∀ (n : Nat) (i_1046 : Int) (i_1047 : Int) (s_1048 : List (List TTwo)) (o : (Int × (List (List TTwo))) ⊕ (Unit)), Yp N y_1042 l_0 a_1 y_1 y_5 y_9 n i_1046 i_1047 s_1048 = some o → (match o with | .inl (z_1, z_2) => R (.exit 4) ⟨109, [(4, .ptr 1 0 0), (5, .ptr 2 0 0)], []⟩ [.box [.vec c_0 (List.map eU8 l_0), .int .i64 a_1, .int .i64 z_1] 123, .box [.int .i64 0, nn, .bool false, .int .i64 0, nn, nn, nn, nn, nn, nn, nn, nn, nn, nn, nn, nn] 35, .box [.int .i64 12, .vec false (List.map Xi y_1), .bool false, .int .i64 0, nn, nn, nn, nn, .row 3 0 z_2.length, nn, nn, nn, nn, nn, nn, nn] 35, .mem 1 (List.map XC z_2) 50] | .inr (_) => ∀ (tb : ATm) (Hb : List AObj), tb.ds = [] → R (.pan (.iface 91 (.agg []))) tb Hb) →
  ALp Try.prog 1 B67_3 ⟨109, [(0, .ptr 0 0 0), (4, .ptr 1 0 0), (5, .ptr 2 0 0), (6, .fn (.func 103) [] [.ptr 4 0 0]), (7, .fn (.func 103) [] [.ptr 5 0 0]), (72, .vec false (List.map eI64 y_1042)), (73, .int .i64 (y_1042.length : Int)), (74, .int .i64 i_1046)], []⟩ [.box [.vec c_0 (List.map eU8 l_0), .int .i64 a_1, .int .i64 i_1047] 123, .box [.int .i64 0, nn, .bool false, .int .i64 0, nn, nn, nn, nn, nn, nn, nn, nn, nn, nn, nn, nn] 35, .box [.int .i64 12, .vec false (List.map Xi y_1), .bool false, .int .i64 0, nn, nn, nn, nn, .row 3 0 s_1048.length, nn, nn, nn, nn, nn, nn, nn] 35, .mem 1 (List.map XC s_1048) 50, .box [.int .i64 y_5] 3, .box [.int .i64 y_9] 3] R := by
 intro n
 induction n with
 | zero =>
  intro i_1046 i_1047 s_1048 o h _; exact no0 h
 | succ n ih =>
  intro i_1046 i_1047 s_1048 o h hp; rw [Yp] at h; refine ALp.round ?_; generalize hQ : YB _ _ _ _ = QQ; simp only [B67_3, A67, go_sem, seval]; rcases iteS h with ⟨e_1050, h⟩ | ⟨e_1050, h⟩
  ·
   obtain ⟨x_1051, h_1052, h⟩ := bindS h; have e_1053 : (List.map eI64 y_1042)[(i_1046).toNat]? = some [.int .i64 x_1051] := XA eI64 h_1052; have e_1054 := eq_true (Xx h_1052).1; have e_1055 := eq_true (XP h_1052); obtain ⟨_, h_1056, h⟩ := bindS h; simp only [e_1050, e_1053, e_1054, e_1055, go_sem, seval]; refine Xa.goA (Ql N _ _ _ _ c_0 h_1056) [0] (ho := ⟨(by first | rfl | simp only [go_sem, seval, e_1050]), trivial⟩) ?_; obtain ⟨o_1059, h_1058, h⟩ := bindS h; simp only [e_1050, e_1053, e_1054, e_1055, go_sem, seval]; rcases o_1059 with y_1057 | _
   ·
    (try dsimp only at h); refine Xa.goA (Xn N _ _ _ c_0 _ h_1058) [6] (ho := ⟨(by first | rfl | simp only [go_sem, seval, e_1050]), trivial⟩) ?_; simp only [e_1050, e_1053, e_1054, e_1055, go_sem, seval]; obtain ⟨o_2063, h_2061, h⟩ := bindS h; refine ALp.ref (Ref.trans (Ref.thaw (by simp) 16 rfl (sz := 9) (by decide) 127) (Ref.std [0, 4, 5, 6, 7, 15, 16, 72, 73, 74, 82, 83] [0, 1, 2, 3, 4, 5, 6, 7] (by decide) (by decide) rfl (by first | rfl | simp only [go_sem, seval]))) (by simp) (Xcm N _ _ _ _ _ _ _ _ _ _ _ c_0 N _ _ _ o_2063 h_2061 ?_); rcases o_2063 with y_2062 | _
    · (try dsimp only at h); refine Xem rfl (ta1 := ⟨109, [(0, .ptr 0 0 0), (4, .ptr 1 0 0), (5, .ptr 2 0 0), (6, .fn (.func 103) [] [.ptr 4 0 0]), (7, .fn (.func 103) [] [.ptr 5 0 0]), (16, .vec false (List.map eTTwo y_2062)), (72, .vec false (List.map eI64 y_1042)), (73, .int .i64 (y_1042.length : Int)), (74, .int .i64 i_1046)], []⟩) (H1 := [.box [.vec c_0 (List.map eU8 l_0), .int .i64 a_1, .int .i64 i_1047] 123, .box [.int .i64 0, nn, .bool false, .int .i64 0, nn, nn, nn, nn, nn, nn, nn, nn, nn, nn, nn, nn] 35, .box [.int .i64 12, .vec false (List.map Xi y_1), .bool false, .int .i64 0, nn, nn, nn, nn, .row 3 0 s_1048.length, nn, nn, nn, nn, nn, nn, nn] 35, .mem 1 (List.map XC s_1048) 50, .box [.int .i64 y_5] 3, .box [.int .i64 y_9] 3]) (Ref.trans (Ref.frz (by simp) (id := 6) rfl (XX y_2062 eTTwo (fun _ => rfl))) (Ref.std [0, 4, 5, 6, 7, 16, 72, 73, 74] [0, 1, 2, 3, 4, 5] (by decide) (by decide) (by first | rfl | simp only [go_sem, seval]) (by first | rfl | simp only [go_sem, seval]))) (by simp) ?_; have e_2064 := tk XC s_1048; have e_2065 : (List.map XC s_1048) ++ [[.vec false (List.map eTTwo y_2062)]] = (List.map XC (s_1048 ++ [y_2062])) := YS s_1048 ([y_2062]) XC; obtain ⟨e_2067, h⟩ := guardE h; simp only [e_1050, e_1053, e_1054, e_1055, e_2064, e_2065, e_2067, go_sem, seval]; rw [← hQ]; exact ⟨_, _, (Ref.std [0, 4, 5, 6, 7, 72, 73, 74] [0, 1, 2, 6, 4, 5] (by decide) (by decide) rfl (by first | rfl | simp only [go_sem, seval])), (by simp), ih _ _ _ _ h hp⟩
    · (try dsimp only at h); intro _ _ h_2068; refine Zo ?_; cases h; rw [← hQ]; exact hp _ _ h_2068
   · (try dsimp only at h); refine Xa.panA (Xn N _ _ _ c_0 _ h_1058) [6] (ho := ⟨(by first | rfl | simp only [go_sem, seval, e_1050]), trivial⟩) ?_; (try simp only [Xc, Xb, Xe]); cases h; rw [← hQ]; exact hp _ _ rfl
  · simp only [e_1050, go_sem, seval]; cases h; rw [← hQ]; exact ⟨_, _, (Ref.std [4, 5] [0, 1, 2, 3] (by decide) (by decide) rfl (by first | rfl | simp only [go_sem, seval])), hp⟩
theorem YW (N : Nat) (l_0 : List Int) (a_1 : Int) (a_2 : Int) (a_3 : Int) (c_0 : Bool) (o : (O2T) ⊕ Unit) (h : YZ N l_0 a_1 a_2 a_3 = some o) :
  Xa Try.prog 67 [.ptr 0 0 0, .int .i64 a_3] [.box [.vec c_0 (List.map eU8 l_0), .int .i64 a_1, .int .i64 a_2] 123] (fun e H => match o with | .inl (z_1, z_2, z_3, z_4, z_5, z_6, z_7, z_8, z_9, z_10, z_11, z_12, z_13, z_14, z_15, z_16, z_17) => H = [.box [.vec c_0 (List.map eU8 l_0), .int .i64 a_1, .int .i64 z_17] 123] ∧ e = .ret (.agg [.int .i64 z_1, .vec false (List.map Xi z_2), .bool z_3, .int .i64 z_4, .vec false (List.map eLI64 z_5), .vec false (List.map YP z_6), .vec false (List.map eTCtx z_7), .vec false (List.map XU z_8), .vec false (List.map XC z_9), .vec false (List.map Xh z_10), .vec false (List.map Xh z_11), .vec false (List.map XC z_12), .vec false (List.map Xm z_13), .vec false (List.map YD z_14), .vec false (List.map Xi z_15), .vec false (List.map Xl z_16)]) | .inr _ => H = [.dead] ∧ e = .pan (.iface 91 (.agg []))) := by
 unfold YZ at h; refine Xa.goN Try.func67 n67 a67 Try.ntmps67 r67 (by simp) 1 rfl ?_; generalize hQ : bodyA _ _ _ = QQ; obtain ⟨o_3, h_2, h⟩ := bindS h; simp only [A67, go_sem, seval]; rcases o_3 with y_1 | _
 ·
  (try dsimp only at h); refine Xa.goA (Yo N _ _ _ c_0 _ h_2) [0] ?_; obtain ⟨o_7, h_6, h⟩ := bindS h; simp only [go_sem, seval]; rcases o_7 with y_5 | _
  ·
   (try dsimp only at h); refine Xa.goA (ZA N _ _ _ c_0 _ h_6) [0] ?_; obtain ⟨o_11, h_10, h⟩ := bindS h; simp only [go_sem, seval]; rcases o_11 with y_9 | _
   ·
    (try dsimp only at h); refine Xa.goA (ZA N _ _ _ c_0 _ h_10) [0] ?_; simp only [go_sem, seval]; rcases iteS h with ⟨e_14, h⟩ | ⟨e_14, h⟩
    ·
     obtain ⟨o_17, h_16, h⟩ := bindS h; simp only [e_14, go_sem, seval]; rcases o_17 with y_15 | _
     ·
      (try dsimp only at h); refine Xa.goA (Qn N _ _ _ c_0 _ h_16) [0] (ho := ⟨(by first | rfl | simp only [go_sem, seval, e_14]), trivial⟩) ?_; obtain ⟨o_21, h_20, h⟩ := bindS h; simp only [e_14, go_sem, seval]; rcases o_21 with y_19 | _
      ·
       (try dsimp only at h); refine Xa.goA (Qn N _ _ _ c_0 _ h_20) [0] (ho := ⟨(by first | rfl | simp only [go_sem, seval, e_14]), trivial⟩) ?_; obtain ⟨o_25, h_24, h⟩ := bindS h; simp only [e_14, go_sem, seval]; rcases o_25 with y_23 | _
       ·
        (try dsimp only at h); refine Xa.goA (XE N _ _ _ _ _ c_0 _ h_24) [0] (ho := ⟨(by first | rfl | simp only [go_sem, seval, e_14]), trivial⟩) ?_; obtain ⟨o_29, h_28, h⟩ := bindS h; simp only [e_14, go_sem, seval]; rcases o_29 with y_27 | _
        ·
         (try dsimp only at h); refine Xa.goA (XE N _ _ _ _ _ c_0 _ h_28) [0] (ho := ⟨(by first | rfl | simp only [go_sem, seval, e_14]), trivial⟩) ?_; simp only [e_14, go_sem, seval]; obtain ⟨o_1034, h_1031, h⟩ := bindS h; refine ALp.ref (Ref.trans (Ref.thawB (by simp) (id := 2) 11 rfl rfl (sz := 1) (by decide) 50) (Ref.std [0, 4, 5, 6, 7, 9, 39, 40] [0, 1, 2, 5, 3, 4] (by decide) (by decide) rfl (by first | rfl | simp only [go_sem, seval]))) (by simp) (Xcn N _ _ _ _ _ _ _ _ _ c_0 N _ _ _ o_1034 h_1031 ?_); rcases o_1034 with ⟨y_1032, y_1033⟩ | _
         · (try dsimp only at h); refine XJ rfl (by simp) ?_; simp only [e_14, go_sem, seval]; cases h; rw [← hQ]; exact ⟨rfl, _, rfl, _, _, (RefV.trans (RefV.frz (by simp) (id := 3) rfl (XX y_1033 XC (fun _ => rfl))) (RefV.trans (RefV.std (v' := .agg [.int .i64 12, .vec false (List.map Xi y_1), .bool false, .int .i64 0, nn, nn, nn, nn, nn, .vec false (List.map Xh y_15), .vec false (List.map Xh y_19), .vec false (List.map XC y_1033), nn, nn, nn, nn]) [0] (by decide) (by decide) (by first | rfl | simp only [go_sem, seval, e_14]) (by first | rfl | simp only [go_sem, seval, e_14])) (RefV.weak (Wks.cons (Wk.agg (Wks.cons (Wk.refl _) (Wks.cons (Wk.refl _) (Wks.cons (Wk.refl _) (Wks.cons (Wk.refl _) (Wks.cons Wk.vec (Wks.cons Wk.vec (Wks.cons Wk.vec (Wks.cons Wk.vec (Wks.cons Wk.vec (Wks.cons (Wk.refl _) (Wks.cons (Wk.refl _) (Wks.cons (Wk.refl _) (Wks.cons Wk.vec (Wks.cons Wk.vec (Wks.cons Wk.vec (Wks.cons Wk.vec (Wks.nil)))))))))))))))))) Wks.nil) (WkH.refl _)))), rfl, rfl⟩
         · (try dsimp only at h); intro _ _ h_1035; refine Zo ?_; cases h; rw [← hQ]; exact ⟨h_1035, _, _, RefV.dead rfl, rfl, rfl⟩
        · (try dsimp only at h); refine Xa.panA (XE N _ _ _ _ _ c_0 _ h_28) [0] (ho := ⟨(by first | rfl | simp only [go_sem, seval, e_14]), trivial⟩) ?_; (try simp only [Xc, Xb, Xe]); cases h; rw [← hQ]; exact ⟨rfl, _, _, RefV.dead rfl, rfl, rfl⟩
       · (try dsimp only at h); refine Xa.panA (XE N _ _ _ _ _ c_0 _ h_24) [0] (ho := ⟨(by first | rfl | simp only [go_sem, seval, e_14]), trivial⟩) ?_; (try simp only [Xc, Xb, Xe]); cases h; rw [← hQ]; exact ⟨rfl, _, _, RefV.dead rfl, rfl, rfl⟩
      · (try dsimp only at h); refine Xa.panA (Qn N _ _ _ c_0 _ h_20) [0] (ho := ⟨(by first | rfl | simp only [go_sem, seval, e_14]), trivial⟩) ?_; (try simp only [Xc, Xb, Xe]); cases h; rw [← hQ]; exact ⟨rfl, _, _, RefV.dead rfl, rfl, rfl⟩
     · (try dsimp only at h); refine Xa.panA (Qn N _ _ _ c_0 _ h_16) [0] (ho := ⟨(by first | rfl | simp only [go_sem, seval, e_14]), trivial⟩) ?_; (try simp only [Xc, Xb, Xe]); cases h; rw [← hQ]; exact ⟨rfl, _, _, RefV.dead rfl, rfl, rfl⟩
    ·
     obtain ⟨y_1036, h_1037, h⟩ := bindS h; simp only [e_14, go_sem, seval]; refine Xa.go0 (Jc N _ false _ h_1037) ?_; obtain ⟨o_1040, h_1039, h⟩ := bindS h; simp only [e_14, go_sem, seval]; rcases o_1040 with y_1038 | _
     ·
      (try dsimp only at h); refine Xa.goA (XY N _ _ _ _ c_0 _ h_1039) [0] (ho := ⟨(by first | rfl | simp only [go_sem, seval, e_14]), trivial⟩) ?_; obtain ⟨o_1044, h_1043, h⟩ := bindS h; simp only [e_14, go_sem, seval]; rcases o_1044 with y_1042 | _
      ·
       (try dsimp only at h); refine Xa.goA (ZX N _ _ _ _ c_0 _ h_1043) [0] (ho := ⟨(by first | rfl | simp only [go_sem, seval, e_14]), trivial⟩) ?_; simp only [e_14, go_sem, seval]; obtain ⟨o_2049, h_2046, h⟩ := bindS h; refine ALp.ref (Ref.trans (Ref.thawB (by simp) (id := 2) 8 rfl rfl (sz := 1) (by decide) 50) (Ref.std [0, 4, 5, 6, 7, 72, 73, 74] [0, 1, 2, 5, 3, 4] (by decide) (by decide) rfl (by first | rfl | simp only [go_sem, seval]))) (by simp) (Xcl N _ _ _ _ _ _ c_0 N _ _ _ o_2049 h_2046 ?_); rcases o_2049 with ⟨y_2047, y_2048⟩ | _
       · (try dsimp only at h); refine XJ rfl (by simp) ?_; simp only [e_14, go_sem, seval]; cases h; rw [← hQ]; exact ⟨rfl, _, rfl, _, _, (RefV.trans (RefV.frz (by simp) (id := 3) rfl (XX y_2048 XC (fun _ => rfl))) (RefV.trans (RefV.std (v' := .agg [.int .i64 12, .vec false (List.map Xi y_1), .bool false, .int .i64 0, nn, nn, nn, nn, .vec false (List.map XC y_2048), nn, nn, nn, nn, nn, nn, nn]) [0] (by decide) (by decide) (by first | rfl | simp only [go_sem, seval, e_14]) (by first | rfl | simp only [go_sem, seval, e_14])) (RefV.weak (Wks.cons (Wk.agg (Wks.cons (Wk.refl _) (Wks.cons (Wk.refl _) (Wks.cons (Wk.refl _) (Wks.cons (Wk.refl _) (Wks.cons Wk.vec (Wks.cons Wk.vec (Wks.cons Wk.vec (Wks.cons Wk.vec (Wks.cons (Wk.refl _) (Wks.cons Wk.vec (Wks.cons Wk.vec (Wks.cons Wk.vec (Wks.cons Wk.vec (Wks.cons Wk.vec (Wks.cons Wk.vec (Wks.cons Wk.vec (Wks.nil)))))))))))))))))) Wks.nil) (WkH.refl _)))), rfl, rfl⟩
       · (try dsimp only at h); intro _ _ h_2050; refine Zo ?_; cases h; rw [← hQ]; exact ⟨h_2050, _, _, RefV.dead rfl, rfl, rfl⟩
      · (try dsimp only at h); refine Xa.panA (ZX N _ _ _ _ c_0 _ h_1043) [0] (ho := ⟨(by first | rfl | simp only [go_sem, seval, e_14]), trivial⟩) ?_; (try simp only [Xc, Xb, Xe]); cases h; rw [← hQ]; exact ⟨rfl, _, _, RefV.dead rfl, rfl, rfl⟩
     · (try dsimp only at h); refine Xa.panA (XY N _ _ _ _ c_0 _ h_1039) [0] (ho := ⟨(by first | rfl | simp only [go_sem, seval, e_14]), trivial⟩) ?_; (try simp only [Xc, Xb, Xe]); cases h; rw [← hQ]; exact ⟨rfl, _, _, RefV.dead rfl, rfl, rfl⟩
   · (try dsimp only at h); refine Xa.panA (ZA N _ _ _ c_0 _ h_10) [0] ?_; (try simp only [Xc, Xb, Xe]); cases h; rw [← hQ]; exact ⟨rfl, _, _, RefV.dead rfl, rfl, rfl⟩
  · (try dsimp only at h); refine Xa.panA (ZA N _ _ _ c_0 _ h_6) [0] ?_; (try simp only [Xc, Xb, Xe]); cases h; rw [← hQ]; exact ⟨rfl, _, _, RefV.dead rfl, rfl, rfl⟩
 · (try dsimp only at h); refine Xa.panA (Yo N _ _ _ c_0 _ h_2) [0] ?_; (try simp only [Xc, Xb, Xe]); cases h; rw [← hQ]; exact ⟨rfl, _, _, RefV.dead rfl, rfl, rfl⟩
theorem Xjw (N : Nat) (l_0 : List Int) (a_1 : Int) (c_0 : Bool) (z_1 : Int) (z_2 : Bool) (h : Xcg N l_0 a_1 = some (z_1, z_2)) :
  Xa Try.prog 79 [.vec c_0 (List.map eU8 l_0), .int .i64 a_1] [] (fun e H => H = [] ∧ e = .ret (.tup [.int .i64 z_1, .bool z_2])) := by
 unfold Xcg at h; refine Xa.goN Try.func79 n79 a79 Try.ntmps79 r79 (by simp) 0 rfl ?_; generalize hQ : bodyA _ _ _ = QQ; obtain ⟨⟨y_1, y_2⟩, h_3, h⟩ := bindS h; (try dsimp only at h); simp only [A79, go_sem, seval]; refine Xa.go0 (Xff N _ _ _ c_0 _ _ h_3) ?_; simp only [go_sem, seval]; obtain ⟨rfl, rfl⟩ := pj (si h); rw [← hQ]; exact ⟨rfl, _, rfl, _, _, (RefV.out rfl), rfl, rfl⟩
theorem Qy (N : Nat) (l_0 : List Int) (a_1 : Int) (a_2 : Int) (a_3 : Int) (c_0 : Bool) (o : (Bool × Int × Int) ⊕ Unit) (h : Zl N l_0 a_1 a_2 a_3 = some o) :
  Xa Try.prog 93 [.ptr 0 0 0, .int .i64 a_3] [.box [.vec c_0 (List.map eU8 l_0), .int .i64 a_1, .int .i64 a_2] 123] (fun e H => match o with | .inl (z_1, z_2, z_3) => H = [.box [.vec c_0 (List.map eU8 l_0), .int .i64 a_1, .int .i64 a_2] 123] ∧ e = .ret (.agg [.bool z_1, .int .i64 z_2, .int .i64 z_3]) | .inr _ => H = [.dead] ∧ e = .pan (.iface 91 (.agg []))) := by
 unfold Zl at h; refine Xa.goN Try.func93 n93 a93 Try.ntmps93 r93 (by simp) 1 rfl ?_; generalize hQ : bodyA _ _ _ = QQ; simp only [A93, go_sem, seval]; rcases iteS h with ⟨e_2, h⟩ | ⟨e_2, h⟩
 · simp only [e_2, go_sem, seval]; cases h; rw [← hQ]; exact ⟨rfl, _, rfl, _, _, (RefV.std [0] (by decide) (by decide) rfl (by first | rfl | simp only [go_sem, seval, e_2])), rfl, rfl⟩
 ·
  obtain ⟨_, h_3, h⟩ := bindS h; simp only [e_2, go_sem, seval]; refine Xa.goA (Ql N _ _ _ _ c_0 h_3) [0] (ho := ⟨(by first | rfl | simp only [go_sem, seval, e_2]), trivial⟩) ?_; obtain ⟨o_6, h_5, h⟩ := bindS h; simp only [e_2, go_sem, seval]; rcases o_6 with y_4 | _
  ·
   (try dsimp only at h); refine Xa.goA (XE N _ _ _ _ _ c_0 _ h_5) [2] (ho := ⟨(by first | rfl | simp only [go_sem, seval, e_2]), trivial⟩) ?_; obtain ⟨o_10, h_9, h⟩ := bindS h; simp only [e_2, go_sem, seval]; rcases o_10 with y_8 | _
   ·
    (try dsimp only at h); refine Xa.goA (Zp N _ _ _ c_0 _ h_9) [2] (ho := ⟨(by first | rfl | simp only [go_sem, seval, e_2]), trivial⟩) ?_; obtain ⟨o_14, h_13, h⟩ := bindS h; simp only [e_2, go_sem, seval]; rcases o_14 with y_12 | _
    ·
     (try dsimp only at h); refine Xa.goA (Zp N _ _ _ c_0 _ h_13) [2] (ho := ⟨(by first | rfl | simp only [go_sem, seval, e_2]), trivial⟩) ?_; obtain ⟨o_18, h_17, h⟩ := bindS h; simp only [e_2, go_sem, seval]; rcases o_18 with y_16 | _
     · (try dsimp only at h); refine Xa.goA (ZX N _ _ _ _ c_0 _ h_17) [2] (ho := ⟨(by first | rfl | simp only [go_sem, seval, e_2]), trivial⟩) ?_; simp only [e_2, go_sem, seval]; cases h; rw [← hQ]; exact ⟨rfl, _, rfl, _, _, (RefV.std [0] (by decide) (by decide) rfl (by first | rfl | simp only [go_sem, seval, e_2])), rfl, rfl⟩
     · (try dsimp only at h); refine Xa.panA (ZX N _ _ _ _ c_0 _ h_17) [2] (ho := ⟨(by first | rfl | simp only [go_sem, seval, e_2]), trivial⟩) ?_; (try simp only [Xc, Xb, Xe]); cases h; rw [← hQ]; exact ⟨rfl, _, _, RefV.dead rfl, rfl, rfl⟩
    · (try dsimp only at h); refine Xa.panA (Zp N _ _ _ c_0 _ h_13) [2] (ho := ⟨(by first | rfl | simp only [go_sem, seval, e_2]), trivial⟩) ?_; (try simp only [Xc, Xb, Xe]); cases h; rw [← hQ]; exact ⟨rfl, _, _, RefV.dead rfl, rfl, rfl⟩
   · (try dsimp only at h); refine Xa.panA (Zp N _ _ _ c_0 _ h_9) [2] (ho := ⟨(by first | rfl | simp only [go_sem, seval, e_2]), trivial⟩) ?_; (try simp only [Xc, Xb, Xe]); cases h; rw [← hQ]; exact ⟨rfl, _, _, RefV.dead rfl, rfl, rfl⟩
  · (try dsimp only at h); refine Xa.panA (XE N _ _ _ _ _ c_0 _ h_5) [2] (ho := ⟨(by first | rfl | simp only [go_sem, seval, e_2]), trivial⟩) ?_; (try simp only [Xc, Xb, Xe]); cases h; rw [← hQ]; exact ⟨rfl, _, _, RefV.dead rfl, rfl, rfl⟩
theorem Xbj (N : Nat) (y_1 : List Int) (l_0 : List Int) (a_1 : Int) (c_0 : Bool) {R : AExit → ATm → List AObj → Prop} : ∀ (n : Nat) (i_5 : Int) (i_6 : Int) (s_7 : List Xw) (o : (Int × (List Xw)) ⊕ (Unit)), XT N y_1 l_0 a_1 n i_5 i_6 s_7 = some o → (match o with | .inl (z_1, z_2) => R (.exit 0) ⟨24, [(5, .row 1 0 z_2.length)], []⟩ [.box [.vec c_0 (List.map eU8 l_0), .int .i64 a_1, .int .i64 z_1] 123, .mem 3 (List.map YR z_2) 53] | .inr (_) => ∀ (tb : ATm) (Hb : List AObj), tb.ds = [] → R (.pan (.iface 91 (.agg []))) tb Hb) →
  ALp Try.prog 1 B92_1 ⟨24, [(0, .ptr 0 0 0), (5, .row 1 0 s_7.length), (10, .vec false (List.map eI64 y_1)), (11, .int .i64 (y_1.length : Int)), (12, .int .i64 i_5)], []⟩ [.box [.vec c_0 (List.map eU8 l_0), .int .i64 a_1, .int .i64 i_6] 123, .mem 3 (List.map YR s_7) 53] R := by
 intro n
 induction n with
 | zero =>
  intro i_5 i_6 s_7 o h _; exact no0 h
 | succ n ih =>
  intro i_5 i_6 s_7 o h hp; rw [XT] at h; refine ALp.round ?_; generalize hQ : YB _ _ _ _ = QQ; simp only [B92_1, A92, go_sem, seval]; rcases iteS h with ⟨e_9, h⟩ | ⟨e_9, h⟩
  ·
   obtain ⟨x_10, h_11, h⟩ := bindS h; have e_12 : (List.map eI64 y_1)[(i_5).toNat]? = some [.int .i64 x_10] := XA eI64 h_11; have e_13 := eq_true (Xx h_11).1; have e_14 := eq_true (XP h_11); obtain ⟨o_19, h_18, h⟩ := bindS h; simp only [e_9, e_12, e_13, e_14, go_sem, seval]; rcases o_19 with ⟨y_15, y_16, y_17⟩ | _
   · (try dsimp only at h); refine Xa.goA (Qy N _ _ _ _ c_0 _ h_18) [0] (ho := ⟨(by first | rfl | simp only [go_sem, seval, e_9]), trivial⟩) ?_; have e_21 := tk YR s_7; have e_22 : (List.map YR s_7) ++ [[.bool y_15, .int .i64 y_16, .int .i64 y_17]] = (List.map YR (s_7 ++ [Xw.mk y_15 y_16 y_17])) := YS s_7 ([Xw.mk y_15 y_16 y_17]) YR; obtain ⟨e_24, h⟩ := guardE h; simp only [e_9, e_12, e_13, e_14, e_21, e_22, e_24, go_sem, seval]; rw [← hQ]; exact ⟨_, _, (Ref.std [0, 5, 10, 11, 12] [0, 2] (by decide) (by decide) (by first | rfl | simp only [go_sem, seval]) (by first | rfl | simp only [go_sem, seval])), (by simp), ih _ _ _ _ h hp⟩
   · (try dsimp only at h); refine Xa.panA (Qy N _ _ _ _ c_0 _ h_18) [0] (ho := ⟨(by first | rfl | simp only [go_sem, seval, e_9]), trivial⟩) ?_; (try simp only [Xc, Xb, Xe]); cases h; rw [← hQ]; exact hp _ _ rfl
  · simp only [e_9, go_sem, seval]; cases h; rw [← hQ]; exact ⟨_, _, (Ref.std [5] [0, 1] (by decide) (by decide) rfl (by first | rfl | simp only [go_sem, seval])), hp⟩
theorem Zh (N : Nat) (l_0 : List Int) (a_1 : Int) (a_2 : Int) (a_3 : Int) (c_0 : Bool) (o : ((List Xw) × Int) ⊕ Unit) (h : YM N l_0 a_1 a_2 a_3 = some o) :
  Xa Try.prog 92 [.ptr 0 0 0, .int .i64 a_3] [.box [.vec c_0 (List.map eU8 l_0), .int .i64 a_1, .int .i64 a_2] 123] (fun e H => match o with | .inl (z_1, z_2) => H = [.box [.vec c_0 (List.map eU8 l_0), .int .i64 a_1, .int .i64 z_2] 123] ∧ e = .ret (.vec false (List.map YR z_1)) | .inr _ => H = [.dead] ∧ e = .pan (.iface 91 (.agg []))) := by
 unfold YM at h; refine Xa.goN Try.func92 n92 a92 Try.ntmps92 r92 (by simp) 1 rfl ?_; generalize hQ : bodyA _ _ _ = QQ; obtain ⟨o_3, h_2, h⟩ := bindS h; simp only [A92, go_sem, seval]; rcases o_3 with y_1 | _
 ·
  (try dsimp only at h); refine Xa.goA (ZX N _ _ _ _ c_0 _ h_2) [0] ?_; simp only [go_sem, seval]; obtain ⟨o_1008, h_1005, h⟩ := bindS h; refine ALp.ref (Ref.trans (Ref.thaw (by simp) 5 rfl (sz := 3) (by decide) 53) (Ref.std [0, 5, 10, 11, 12] [0, 1] (by decide) (by decide) rfl (by first | rfl | simp only [go_sem, seval]))) (by simp) (Xbj N _ _ _ c_0 N _ _ _ o_1008 h_1005 ?_); rcases o_1008 with ⟨y_1006, y_1007⟩ | _
  · (try dsimp only at h); refine XJ rfl (by simp) ?_; simp only [go_sem, seval]; cases h; rw [← hQ]; exact ⟨rfl, _, rfl, _, _, (RefV.trans (RefV.frz (by simp) (id := 1) rfl (XX y_1007 YR (fun _ => rfl))) (RefV.std [0] (by decide) (by decide) (by first | rfl | simp only [go_sem, seval]) (by first | rfl | simp only [go_sem, seval]))), rfl, rfl⟩
  · (try dsimp only at h); intro _ _ h_1009; refine Zo ?_; cases h; rw [← hQ]; exact ⟨h_1009, _, _, RefV.dead rfl, rfl, rfl⟩
 · (try dsimp only at h); refine Xa.panA (ZX N _ _ _ _ c_0 _ h_2) [0] ?_; (try simp only [Xc, Xb, Xe]); cases h; rw [← hQ]; exact ⟨rfl, _, _, RefV.dead rfl, rfl, rfl⟩
theorem Xbi (N : Nat) (y_7 : Int) (l_0 : List Int) (a_1 : Int) (y_1 : List TSpan) (c_0 : Bool) {R : AExit → ATm → List AObj → Prop} : ∀ (n : Nat) (i_11 : Int) (i_12 : Int) (s_13 : List Xp) (o : (Int × (List Xp)) ⊕ (Unit)), XR N y_7 l_0 a_1 y_1 n i_11 i_12 s_13 = some o → (match o with | .inl (z_1, z_2) => R (.exit 0) ⟨31, [(2, .ptr 1 0 0), (3, .ptr 2 0 0)], []⟩ [.box [.vec c_0 (List.map eU8 l_0), .int .i64 a_1, .int .i64 z_1] 123, .box [.int .i64 0, nn, .bool false, .int .i64 0, nn, nn, nn, nn, nn, nn, nn, nn, nn, nn, nn, nn] 35, .box [.int .i64 13, .vec false (List.map Xi y_1), .bool false, .int .i64 0, nn, nn, nn, nn, nn, nn, nn, nn, .row 3 0 z_2.length, nn, nn, nn] 35, .mem 6 (List.map Xm z_2) 95] | .inr (_) => ∀ (tb : ATm) (Hb : List AObj), tb.ds = [] → R (.pan (.iface 91 (.agg []))) tb Hb) →
  ALp Try.prog 1 B69_1 ⟨31, [(0, .ptr 0 0 0), (2, .ptr 1 0 0), (3, .ptr 2 0 0), (12, .int .i64 y_7), (13, .int .i64 i_11)], []⟩ [.box [.vec c_0 (List.map eU8 l_0), .int .i64 a_1, .int .i64 i_12] 123, .box [.int .i64 0, nn, .bool false, .int .i64 0, nn, nn, nn, nn, nn, nn, nn, nn, nn, nn, nn, nn] 35, .box [.int .i64 13, .vec false (List.map Xi y_1), .bool false, .int .i64 0, nn, nn, nn, nn, nn, nn, nn, nn, .row 3 0 s_13.length, nn, nn, nn] 35, .mem 6 (List.map Xm s_13) 95] R := by
 intro n
 induction n with
 | zero =>
  intro i_11 i_12 s_13 o h _; exact no0 h
 | succ n ih =>
  intro i_11 i_12 s_13 o h hp; rw [XR] at h; refine ALp.round ?_; generalize hQ : YB _ _ _ _ = QQ; simp only [B69_1, A69, go_sem, seval]; rcases iteS h with ⟨e_15, h⟩ | ⟨e_15, h⟩
  ·
   obtain ⟨o_19, h_18, h⟩ := bindS h; simp only [e_15, go_sem, seval]; rcases o_19 with ⟨y_16, y_17⟩ | _
   · (try dsimp only at h); refine Xa.goA (Zh N _ _ _ _ c_0 _ h_18) [0] (ho := ⟨(by first | rfl | simp only [go_sem, seval, e_15]), trivial⟩) ?_; obtain ⟨x_21, h_22, h⟩ := bindS h; have e_23 : (List.map YR y_16)[0]? = some [.bool x_21.Is, .int .i64 x_21.X, .int .i64 x_21.Y] := XA YR h_22; have e_24 := eq_true (XP h_22); obtain ⟨x_25, h_26, h⟩ := bindS h; have e_27 : (List.map YR y_16)[1]? = some [.bool x_25.Is, .int .i64 x_25.X, .int .i64 x_25.Y] := XA YR h_26; have e_28 := eq_true (XP h_26); have e_29 := tk Xm s_13; have e_30 : (List.map Xm s_13) ++ [[.bool x_21.Is, .int .i64 x_21.X, .int .i64 x_21.Y, .bool x_25.Is, .int .i64 x_25.X, .int .i64 x_25.Y]] = (List.map Xm (s_13 ++ [Xp.mk x_21 x_25])) := YS s_13 ([Xp.mk x_21 x_25]) Xm; obtain ⟨e_32, h⟩ := guardE h; simp only [e_15, e_23, e_24, e_27, e_28, e_29, e_30, e_32, go_sem, seval]; rw [← hQ]; exact ⟨_, _, (Ref.std [0, 2, 3, 12, 13] [0, 1, 2, 4] (by decide) (by decide) rfl (by first | rfl | simp only [go_sem, seval])), (by simp), ih _ _ _ _ h hp⟩
   · (try dsimp only at h); refine Xa.panA (Zh N _ _ _ _ c_0 _ h_18) [0] (ho := ⟨(by first | rfl | simp only [go_sem, seval, e_15]), trivial⟩) ?_; (try simp only [Xc, Xb, Xe]); cases h; rw [← hQ]; exact hp _ _ rfl
  · simp only [e_15, go_sem, seval]; cases h; rw [← hQ]; exact ⟨_, _, (Ref.std [2, 3] [0, 1, 2, 3] (by decide) (by decide) rfl (by first | rfl | simp only [go_sem, seval])), hp⟩
theorem Qm (N : Nat) (l_0 : List Int) (a_1 : Int) (a_2 : Int) (c_0 : Bool) (o : (O2T) ⊕ Unit) (h : Zb N l_0 a_1 a_2 = some o) :
  Xa Try.prog 69 [.ptr 0 0 0] [.box [.vec c_0 (List.map eU8 l_0), .int .i64 a_1, .int .i64 a_2] 123] (fun e H => match o with | .inl (z_1, z_2, z_3, z_4, z_5, z_6, z_7, z_8, z_9, z_10, z_11, z_12, z_13, z_14, z_15, z_16, z_17) => H = [.box [.vec c_0 (List.map eU8 l_0), .int .i64 a_1, .int .i64 z_17] 123] ∧ e = .ret (.agg [.int .i64 z_1, .vec false (List.map Xi z_2), .bool z_3, .int .i64 z_4, .vec false (List.map eLI64 z_5), .vec false (List.map YP z_6), .vec false (List.map eTCtx z_7), .vec false (List.map XU z_8), .vec false (List.map XC z_9), .vec false (List.map Xh z_10), .vec false (List.map Xh z_11), .vec false (List.map XC z_12), .vec false (List.map Xm z_13), .vec false (List.map YD z_14), .vec false (List.map Xi z_15), .vec false (List.map Xl z_16)]) | .inr _ => H = [.dead] ∧ e = .pan (.iface 91 (.agg []))) := by
 unfold Zb at h; refine Xa.goN Try.func69 n69 a69 Try.ntmps69 r69 (by simp) 1 rfl ?_; generalize hQ : bodyA _ _ _ = QQ; obtain ⟨o_3, h_2, h⟩ := bindS h; simp only [A69, go_sem, seval]; rcases o_3 with y_1 | _
 ·
  (try dsimp only at h); refine Xa.goA (Yo N _ _ _ c_0 _ h_2) [0] ?_; obtain ⟨y_5, h_6, h⟩ := bindS h; simp only [go_sem, seval]; refine Xa.go0 (Jc N _ false _ h_6) ?_; obtain ⟨o_9, h_8, h⟩ := bindS h; simp only [go_sem, seval]; rcases o_9 with y_7 | _
  ·
   (try dsimp only at h); refine Xa.goA (XY N _ _ _ _ c_0 _ h_8) [0] ?_; simp only [go_sem, seval]; obtain ⟨o_1014, h_1011, h⟩ := bindS h; refine ALp.ref (Ref.trans (Ref.thawB (by simp) (id := 2) 12 rfl rfl (sz := 6) (by decide) 95) (Ref.std [0, 2, 3, 12, 13] [0, 1, 2, 3] (by decide) (by decide) rfl (by first | rfl | simp only [go_sem, seval]))) (by simp) (Xbi N _ _ _ _ c_0 N _ _ _ o_1014 h_1011 ?_); rcases o_1014 with ⟨y_1012, y_1013⟩ | _
   · (try dsimp only at h); refine XJ rfl (by simp) ?_; simp only [go_sem, seval]; cases h; rw [← hQ]; exact ⟨rfl, _, rfl, _, _, (RefV.trans (RefV.frz (by simp) (id := 3) rfl (XX y_1013 Xm (fun _ => rfl))) (RefV.trans (RefV.std (v' := .agg [.int .i64 13, .vec false (List.map Xi y_1), .bool false, .int .i64 0, nn, nn, nn, nn, nn, nn, nn, nn, .vec false (List.map Xm y_1013), nn, nn, nn]) [0] (by decide) (by decide) (by first | rfl | simp only [go_sem, seval]) (by first | rfl | simp only [go_sem, seval])) (RefV.weak (Wks.cons (Wk.agg (Wks.cons (Wk.refl _) (Wks.cons (Wk.refl _) (Wks.cons (Wk.refl _) (Wks.cons (Wk.refl _) (Wks.cons Wk.vec (Wks.cons Wk.vec (Wks.cons Wk.vec (Wks.cons Wk.vec (Wks.cons Wk.vec (Wks.cons Wk.vec (Wks.cons Wk.vec (Wks.cons Wk.vec (Wks.cons (Wk.refl _) (Wks.cons Wk.vec (Wks.cons Wk.vec (Wks.cons Wk.vec (Wks.nil)))))))))))))))))) Wks.nil) (WkH.refl _)))), rfl, rfl⟩
   · (try dsimp only at h); intro _ _ h_1015; refine Zo ?_; cases h; rw [← hQ]; exact ⟨h_1015, _, _, RefV.dead rfl, rfl, rfl⟩
  · (try dsimp only at h); refine Xa.panA (XY N _ _ _ _ c_0 _ h_8) [0] ?_; (try simp only [Xc, Xb, Xe]); cases h; rw [← hQ]; exact ⟨rfl, _, _, RefV.dead rfl, rfl, rfl⟩
 · (try dsimp only at h); refine Xa.panA (Yo N _ _ _ c_0 _ h_2) [0] ?_; (try simp only [Xc, Xb, Xe]); cases h; rw [← hQ]; exact ⟨rfl, _, _, RefV.dead rfl, rfl, rfl⟩
theorem Xcb (N : Nat) (a_3 : Int) (y_9 : Int) (y_25 : Int) (l_0 : List Int) (a_1 : Int) (a_2 : Int) (y_1 : List TSpan) (y_5 : List TSpan) (y_13 : Int) (y_18 : Int) (c_0 : Bool) {R : AExit → ATm → List AObj → Prop} : ∀ (n : Nat) (i_29 : Int) (s_30 : List TMark) (i_31 : Int) (o : ((List TMark)) ⊕ (Unit)), Yn N a_3 y_9 y_25 l_0 a_1 a_2 y_1 y_5 y_13 y_18 n i_29 s_30 i_31 = some o → (match o with | .inl z_1 => R (.exit 0) ⟨93, [(1, .int .i64 a_3), (4, .ptr 1 0 0), (5, .ptr 2 0 0), (6, .int .i64 y_9), (8, .ptr 4 0 0)], []⟩ [.box [.vec c_0 (List.map eU8 l_0), .int .i64 a_1, .int .i64 (IntKind.i64.wrap ((IntKind.i64.wrap ((IntKind.i64.wrap ((IntKind.i64.wrap ((IntKind.i64.wrap (a_2 + 2)) + 2)) + 2)) + 2)) + 2))] 123, .box [.int .i64 0, nn, .bool false, .int .i64 0, nn, nn, nn, nn, nn, nn, nn, nn, nn, nn, nn, nn] 35, .box [.int .i64 (IntKind.i64.wrap (a_3 + 10)), .vec false (List.map Xi y_1), .bool false, .int .i64 0, nn, nn, nn, nn, nn, nn, nn, nn, nn, .row 3 0 z_1.length, .vec false (List.map Xi y_5), nn] 35, .mem 4 (List.map YD z_1) 55, .box [.vec c_0 (List.map eU8 l_0), .int .i64 (IntKind.i64.wrap (a_1 + y_18)), .int .i64 (IntKind.i64.wrap (a_1 + y_18))] 123] | .inr (_) => ∀ (tb : ATm) (Hb : List AObj), tb.ds = [] → R (.pan (.iface 91 (.agg []))) tb Hb) →
  ALp Try.prog 1 B70_1 ⟨93, [(1, .int .i64 a_3), (4, .ptr 1 0 0), (5, .ptr 2 0 0), (6, .int .i64 y_9), (7, .ptr 4 0 0), (8, .ptr 5 0 0), (35, .int .i64 y_25), (36, .int .i64 i_29)], []⟩ [.box [.vec c_0 (List.map eU8 l_0), .int .i64 a_1, .int .i64 (IntKind.i64.wrap ((IntKind.i64.wrap ((IntKind.i64.wrap ((IntKind.i64.wrap ((IntKind.i64.wrap (a_2 + 2)) + 2)) + 2)) + 2)) + 2))] 123, .box [.int .i64 0, nn, .bool false, .int .i64 0, nn, nn, nn, nn, nn, nn, nn, nn, nn, nn, nn, nn] 35, .box [.int .i64 (IntKind.i64.wrap (a_3 + 10)), .vec false (List.map Xi y_1), .bool false, .int .i64 0, nn, nn, nn, nn, nn, nn, nn, nn, nn, .row 3 0 s_30.length, .vec false (List.map Xi y_5), nn] 35, .mem 4 (List.map YD s_30) 55, .box [.vec c_0 (List.map eU8 l_0), .int .i64 (IntKind.i64.wrap (a_1 + y_13)), .int .i64 i_31] 123, .box [.vec c_0 (List.map eU8 l_0), .int .i64 (IntKind.i64.wrap (a_1 + y_18)), .int .i64 (IntKind.i64.wrap (a_1 + y_18))] 123] R := by
 intro n
 induction n with
 | zero =>
  intro i_29 s_30 i_31 o h _; exact no0 h
 | succ n ih =>
  intro i_29 s_30 i_31 o h hp; rw [Yn] at h; refine ALp.round ?_; generalize hQ : YB _ _ _ _ = QQ; simp only [B70_1, A70, go_sem, seval]; rcases iteS h with ⟨e_33, h⟩ | ⟨e_33, h⟩
  ·
   obtain ⟨o_36, h_35, h⟩ := bindS h; simp only [e_33, go_sem, seval]; rcases o_36 with y_34 | _
   ·
    (try dsimp only at h); refine Xa.goA (XE N _ _ _ _ _ c_0 _ h_35) [4] (ho := ⟨(by first | rfl | simp only [go_sem, seval, e_33]), trivial⟩) ?_; obtain ⟨o_40, h_39, h⟩ := bindS h; simp only [e_33, go_sem, seval]; rcases o_40 with y_38 | _
    ·
     (try dsimp only at h); refine Xa.goA (Xn N _ _ _ c_0 _ h_39) [4] (ho := ⟨(by first | rfl | simp only [go_sem, seval, e_33]), trivial⟩) ?_; obtain ⟨o_46, h_45, h⟩ := bindS h; simp only [e_33, go_sem, seval]; rcases o_46 with ⟨y_42, y_43, y_44⟩ | _
     ·
      (try dsimp only at h); refine Xa.goA (Qy N _ _ _ _ c_0 _ h_45) [4] (ho := ⟨(by first | rfl | simp only [go_sem, seval, e_33]), trivial⟩) ?_; obtain ⟨o_49, h_48, h⟩ := bindS h; simp only [e_33, go_sem, seval]; rcases o_49 with _ | _
      · (try dsimp only at h); refine Xa.go0 (Xv N _ _ h_48) ?_; have e_51 := tk YD s_30; have e_52 : (List.map YD s_30) ++ [[.int .i64 y_34, .bool y_42, .int .i64 y_43, .int .i64 y_44]] = (List.map YD (s_30 ++ [TMark.mk y_34 (Xw.mk y_42 y_43 y_44)])) := YS s_30 ([TMark.mk y_34 (Xw.mk y_42 y_43 y_44)]) YD; obtain ⟨e_54, h⟩ := guardE h; simp only [e_33, e_51, e_52, e_54, go_sem, seval]; rw [← hQ]; exact ⟨_, _, (Ref.std [1, 4, 5, 6, 7, 8, 35, 36] [0, 1, 2, 7, 4, 5] (by decide) (by decide) rfl (by first | rfl | simp only [go_sem, seval])), (by simp), ih _ _ _ _ h hp⟩
      · (try dsimp only at h); refine Xa.panA (Xv N _ _ h_48) [] ?_; (try simp only [Xc, Xb, Xe]); cases h; rw [← hQ]; exact hp _ _ rfl
     · (try dsimp only at h); refine Xa.panA (Qy N _ _ _ _ c_0 _ h_45) [4] (ho := ⟨(by first | rfl | simp only [go_sem, seval, e_33]), trivial⟩) ?_; (try simp only [Xc, Xb, Xe]); cases h; rw [← hQ]; exact hp _ _ rfl
    · (try dsimp only at h); refine Xa.panA (Xn N _ _ _ c_0 _ h_39) [4] (ho := ⟨(by first | rfl | simp only [go_sem, seval, e_33]), trivial⟩) ?_; (try simp only [Xc, Xb, Xe]); cases h; rw [← hQ]; exact hp _ _ rfl
   · (try dsimp only at h); refine Xa.panA (XE N _ _ _ _ _ c_0 _ h_35) [4] (ho := ⟨(by first | rfl | simp only [go_sem, seval, e_33]), trivial⟩) ?_; (try simp only [Xc, Xb, Xe]); cases h; rw [← hQ]; exact hp _ _ rfl
  · simp only [e_33, go_sem, seval]; cases h; rw [← hQ]; exact ⟨_, _, (Ref.std [1, 4, 5, 6, 8] [0, 1, 2, 3, 5] (by decide) (by decide) rfl (by first | rfl | simp only [go_sem, seval])), hp⟩
theorem Xca (N : Nat) (a_3 : Int) (y_9 : Int) (y_1034 : Int) (i_1038 : Int) (y_1050 : Int) (l_0 : List Int) (a_1 : Int) (a_2 : Int) (y_1 : List TSpan) (y_5 : List TSpan) (y_1030 : List TMark) (s_1039 : List (List (List Xw))) (y_18 : Int) (i_1040 : Int) (y_1045 : Int) (c_0 : Bool) {R : AExit → ATm → List AObj → Prop} : ∀ (n : Nat) (i_1054 : Int) (i_1055 : Int) (s_1056 : List (List Xw)) (o : ((List (List Xw))) ⊕ (Unit)), Ym N a_3 y_9 y_1034 i_1038 y_1050 l_0 a_1 a_2 y_1 y_5 y_1030 s_1039 y_18 i_1040 y_1045 n i_1054 i_1055 s_1056 = some o → (match o with | .inl z_1 => R (.exit 4) ⟨93, [(1, .int .i64 a_3), (4, .ptr 1 0 0), (5, .ptr 2 0 0), (6, .int .i64 y_9), (8, .ptr 5 0 0), (13, .row 6 0 z_1.length), (62, .int .i64 y_1034), (63, .int .i64 i_1038)], []⟩ [.box [.vec c_0 (List.map eU8 l_0), .int .i64 a_1, .int .i64 (IntKind.i64.wrap ((IntKind.i64.wrap ((IntKind.i64.wrap ((IntKind.i64.wrap ((IntKind.i64.wrap (a_2 + 2)) + 2)) + 2)) + 2)) + 2))] 123, .box [.int .i64 0, nn, .bool false, .int .i64 0, nn, nn, nn, nn, nn, nn, nn, nn, nn, nn, nn, nn] 35, .box [.int .i64 (IntKind.i64.wrap (a_3 + 10)), .vec false (List.map Xi y_1), .bool false, .int .i64 0, nn, nn, nn, nn, nn, nn, nn, nn, nn, .row 3 0 y_1030.length, .vec false (List.map Xi y_5), .row 4 0 s_1039.length] 35, .mem 4 (List.map YD y_1030) 55, .mem 1 (List.map Xl s_1039) 51, .box [.vec c_0 (List.map eU8 l_0), .int .i64 (IntKind.i64.wrap (a_1 + y_18)), .int .i64 (IntKind.i64.wrap (i_1040 + 2))] 123, .mem 1 (List.map XQ z_1) 56] | .inr (_) => ∀ (tb : ATm) (Hb : List AObj), tb.ds = [] → R (.pan (.iface 91 (.agg []))) tb Hb) →
  ALp Try.prog 1 B70_3 ⟨93, [(1, .int .i64 a_3), (4, .ptr 1 0 0), (5, .ptr 2 0 0), (6, .int .i64 y_9), (8, .ptr 5 0 0), (11, .ptr 6 0 0), (13, .row 7 0 s_1056.length), (62, .int .i64 y_1034), (63, .int .i64 i_1038), (75, .int .i64 y_1050), (76, .int .i64 i_1054)], []⟩ [.box [.vec c_0 (List.map eU8 l_0), .int .i64 a_1, .int .i64 (IntKind.i64.wrap ((IntKind.i64.wrap ((IntKind.i64.wrap ((IntKind.i64.wrap ((IntKind.i64.wrap (a_2 + 2)) + 2)) + 2)) + 2)) + 2))] 123, .box [.int .i64 0, nn, .bool false, .int .i64 0, nn, nn, nn, nn, nn, nn, nn, nn, nn, nn, nn, nn] 35, .box [.int .i64 (IntKind.i64.wrap (a_3 + 10)), .vec false (List.map Xi y_1), .bool false, .int .i64 0, nn, nn, nn, nn, nn, nn, nn, nn, nn, .row 3 0 y_1030.length, .vec false (List.map Xi y_5), .row 4 0 s_1039.length] 35, .mem 4 (List.map YD y_1030) 55, .mem 1 (List.map Xl s_1039) 51, .box [.vec c_0 (List.map eU8 l_0), .int .i64 (IntKind.i64.wrap (a_1 + y_18)), .int .i64 (IntKind.i64.wrap (i_1040 + 2))] 123, .box [.vec c_0 (List.map eU8 l_0), .int .i64 (IntKind.i64.wrap ((IntKind.i64.wrap (a_1 + y_18)) + y_1045)), .int .i64 i_1055] 123, .mem 1 (List.map XQ s_1056) 56] R := by
 intro n
 induction n with
 | zero =>
  intro i_1054 i_1055 s_1056 o h _; exact no0 h
 | succ n ih =>
  intro i_1054 i_1055 s_1056 o h hp; rw [Ym] at h; refine ALp.round ?_; generalize hQ : YB _ _ _ _ = QQ; simp only [B70_3, B70_2, A70, go_sem, seval]; rcases iteS h with ⟨e_1058, h⟩ | ⟨e_1058, h⟩
  ·
   obtain ⟨o_1062, h_1061, h⟩ := bindS h; simp only [e_1058, go_sem, seval]; rcases o_1062 with ⟨y_1059, y_1060⟩ | _
   · (try dsimp only at h); refine Xa.goA (Zh N _ _ _ _ c_0 _ h_1061) [6] (ho := ⟨(by first | rfl | simp only [go_sem, seval, e_1058]), trivial⟩) ?_; have e_1064 := tk XQ s_1056; have e_1065 : (List.map XQ s_1056) ++ [[.vec false (List.map YR y_1059)]] = (List.map XQ (s_1056 ++ [y_1059])) := YS s_1056 ([y_1059]) XQ; obtain ⟨e_1067, h⟩ := guardE h; simp only [e_1058, e_1064, e_1065, e_1067, go_sem, seval]; rw [← hQ]; exact ⟨_, _, (Ref.std [1, 4, 5, 6, 8, 11, 13, 62, 63, 75, 76] [0, 1, 2, 3, 4, 5, 6, 8] (by decide) (by decide) (by first | rfl | simp only [go_sem, seval]) (by first | rfl | simp only [go_sem, seval])), (by simp), ih _ _ _ _ h hp⟩
   · (try dsimp only at h); refine Xa.panA (Zh N _ _ _ _ c_0 _ h_1061) [6] (ho := ⟨(by first | rfl | simp only [go_sem, seval, e_1058]), trivial⟩) ?_; (try simp only [Xc, Xb, Xe]); cases h; rw [← hQ]; exact hp _ _ rfl
  · simp only [e_1058, go_sem, seval]; cases h; rw [← hQ]; exact ⟨_, _, (Ref.std [1, 4, 5, 6, 8, 13, 62, 63] [0, 1, 2, 3, 4, 5, 7] (by decide) (by decide) rfl (by first | rfl | simp only [go_sem, seval])), hp⟩
theorem Xb9 (N : Nat) (a_3 : Int) (y_9 : Int) (y_1034 : Int) (i_1038 : Int) (l_0 : List Int) (a_1 : Int) (a_2 : Int) (y_1 : List TSpan) (y_5 : List TSpan) (y_1030 : List TMark) (s_1039 : List (List (List Xw))) (y_18 : Int) (c_0 : Bool) {R : AExit → ATm → List AObj → Prop} : ∀ (n : Nat) (i_2062 : Int) (i_2063 : Int) (s_2064 : List (List Xw)) (o : (Int × (List (List Xw))) ⊕ (Unit)), Yl N a_3 y_9 y_1034 i_1038 l_0 a_1 a_2 y_1 y_5 y_1030 s_1039 y_18 n i_2062 i_2063 s_2064 = some o → (match o with | .inl (z_1, z_2) => R (.exit 4) ⟨93, [(1, .int .i64 a_3), (4, .ptr 1 0 0), (5, .ptr 2 0 0), (6, .int .i64 y_9), (8, .ptr 5 0 0), (13, .row 6 0 z_2.length), (62, .int .i64 y_1034), (63, .int .i64 i_1038)], []⟩ [.box [.vec c_0 (List.map eU8 l_0), .int .i64 a_1, .int .i64 (IntKind.i64.wrap ((IntKind.i64.wrap ((IntKind.i64.wrap ((IntKind.i64.wrap ((IntKind.i64.wrap (a_2 + 2)) + 2)) + 2)) + 2)) + 2))] 123, .box [.int .i64 0, nn, .bool false, .int .i64 0, nn, nn, nn, nn, nn, nn, nn, nn, nn, nn, nn, nn] 35, .box [.int .i64 (IntKind.i64.wrap (a_3 + 10)), .vec false (List.map Xi y_1), .bool false, .int .i64 0, nn, nn, nn, nn, nn, nn, nn, nn, nn, .row 3 0 y_1030.length, .vec false (List.map Xi y_5), .row 4 0 s_1039.length] 35, .mem 4 (List.map YD y_1030) 55, .mem 1 (List.map Xl s_1039) 51, .box [.vec c_0 (List.map eU8 l_0), .int .i64 (IntKind.i64.wrap (a_1 + y_18)), .int .i64 z_1] 123, .mem 1 (List.map XQ z_2) 56] | .inr (_) => ∀ (tb : ATm) (Hb : List AObj), tb.ds = [] → R (.pan (.iface 91 (.agg []))) tb Hb) →
  ALp Try.prog 1 B70_3 ⟨93, [(1, .int .i64 a_3), (4, .ptr 1 0 0), (5, .ptr 2 0 0), (6, .int .i64 y_9), (8, .ptr 5 0 0), (11, .ptr 5 0 0), (13, .row 6 0 s_2064.length), (62, .int .i64 y_1034), (63, .int .i64 i_1038), (75, .int .i64 1), (76, .int .i64 i_2062)], []⟩ [.box [.vec c_0 (List.map eU8 l_0), .int .i64 a_1, .int .i64 (IntKind.i64.wrap ((IntKind.i64.wrap ((IntKind.i64.wrap ((IntKind.i64.wrap ((IntKind.i64.wrap (a_2 + 2)) + 2)) + 2)) + 2)) + 2))] 123, .box [.int .i64 0, nn, .bool false, .int .i64 0, nn, nn, nn, nn, nn, nn, nn, nn, nn, nn, nn, nn] 35, .box [.int .i64 (IntKind.i64.wrap (a_3 + 10)), .vec false (List.map Xi y_1), .bool false, .int .i64 0, nn, nn, nn, nn, nn, nn, nn, nn, nn, .row 3 0 y_1030.length, .vec false (List.map Xi y_5), .row 4 0 s_1039.length] 35, .mem 4 (List.map YD y_1030) 55, .mem 1 (List.map Xl s_1039) 51, .box [.vec c_0 (List.map eU8 l_0), .int .i64 (IntKind.i64.wrap (a_1 + y_18)), .int .i64 i_2063] 123, .mem 1 (List.map XQ s_2064) 56] R := by
 intro n
 induction n with
 | zero =>
  intro i_2062 i_2063 s_2064 o h _; exact no0 h
 | succ n ih =>
  intro i_2062 i_2063 s_2064 o h hp; rw [Yl] at h; refine ALp.round ?_; generalize hQ : YB _ _ _ _ = QQ; simp only [B70_3, B70_2, A70, go_sem, seval]; rcases iteS h with ⟨e_2066, h⟩ | ⟨e_2066, h⟩
  ·
   obtain ⟨o_2070, h_2069, h⟩ := bindS h; simp only [e_2066, go_sem, seval]; rcases o_2070 with ⟨y_2067, y_2068⟩ | _
   · (try dsimp only at h); refine Xa.goA (Zh N _ _ _ _ c_0 _ h_2069) [5] (ho := ⟨(by first | rfl | simp only [go_sem, seval, e_2066]), trivial⟩) ?_; have e_2072 := tk XQ s_2064; have e_2073 : (List.map XQ s_2064) ++ [[.vec false (List.map YR y_2067)]] = (List.map XQ (s_2064 ++ [y_2067])) := YS s_2064 ([y_2067]) XQ; obtain ⟨e_2075, h⟩ := guardE h; simp only [e_2066, e_2072, e_2073, e_2075, go_sem, seval]; rw [← hQ]; exact ⟨_, _, (Ref.std [1, 4, 5, 6, 8, 11, 13, 62, 63, 75, 76] [0, 1, 2, 3, 4, 5, 7] (by decide) (by decide) (by first | rfl | simp only [go_sem, seval]) (by first | rfl | simp only [go_sem, seval])), (by simp), ih _ _ _ _ h hp⟩
   · (try dsimp only at h); refine Xa.panA (Zh N _ _ _ _ c_0 _ h_2069) [5] (ho := ⟨(by first | rfl | simp only [go_sem, seval, e_2066]), trivial⟩) ?_; (try simp only [Xc, Xb, Xe]); cases h; rw [← hQ]; exact hp _ _ rfl
  · simp only [e_2066, go_sem, seval]; cases h; rw [← hQ]; exact ⟨_, _, (Ref.std [1, 4, 5, 6, 8, 13, 62, 63] [0, 1, 2, 3, 4, 5, 6] (by decide) (by decide) rfl (by first | rfl | simp only [go_sem, seval])), hp⟩
theorem Xb8 (N : Nat) (a_3 : Int) (y_9 : Int) (y_1034 : Int) (l_0 : List Int) (a_1 : Int) (a_2 : Int) (y_1 : List TSpan) (y_5 : List TSpan) (y_1030 : List TMark) (y_18 : Int) (c_0 : Bool) {R : AExit → ATm → List AObj → Prop} : ∀ (n : Nat) (i_1038 : Int) (s_1039 : List (List (List Xw))) (i_1040 : Int) (o : ((List (List (List Xw)))) ⊕ (Unit)), XK N a_3 y_9 y_1034 l_0 a_1 a_2 y_1 y_5 y_1030 y_18 n i_1038 s_1039 i_1040 = some o → (match o with | .inl z_1 => R (.exit 2) ⟨93, [(4, .ptr 1 0 0), (5, .ptr 2 0 0)], []⟩ [.box [.vec c_0 (List.map eU8 l_0), .int .i64 a_1, .int .i64 (IntKind.i64.wrap ((IntKind.i64.wrap ((IntKind.i64.wrap ((IntKind.i64.wrap ((IntKind.i64.wrap (a_2 + 2)) + 2)) + 2)) + 2)) + 2))] 123, .box [.int .i64 0, nn, .bool false, .int .i64 0, nn, nn, nn, nn, nn, nn, nn, nn, nn, nn, nn, nn] 35, .box [.int .i64 (IntKind.i64.wrap (a_3 + 10)), .vec false (List.map Xi y_1), .bool false, .int .i64 0, nn, nn, nn, nn, nn, nn, nn, nn, nn, .row 3 0 y_1030.length, .vec false (List.map Xi y_5), .row 4 0 z_1.length] 35, .mem 4 (List.map YD y_1030) 55, .mem 1 (List.map Xl z_1) 51] | .inr (_) => ∀ (tb : ATm) (Hb : List AObj), tb.ds = [] → R (.pan (.iface 91 (.agg []))) tb Hb) →
  ALp Try.prog 1 B70_2 ⟨93, [(1, .int .i64 a_3), (4, .ptr 1 0 0), (5, .ptr 2 0 0), (6, .int .i64 y_9), (8, .ptr 5 0 0), (62, .int .i64 y_1034), (63, .int .i64 i_1038)], []⟩ [.box [.vec c_0 (List.map eU8 l_0), .int .i64 a_1, .int .i64 (IntKind.i64.wrap ((IntKind.i64.wrap ((IntKind.i64.wrap ((IntKind.i64.wrap ((IntKind.i64.wrap (a_2 + 2)) + 2)) + 2)) + 2)) + 2))] 123, .box [.int .i64 0, nn, .bool false, .int .i64 0, nn, nn, nn, nn, nn, nn, nn, nn, nn, nn, nn, nn] 35, .box [.int .i64 (IntKind.i64.wrap (a_3 + 10)), .vec false (List.map Xi y_1), .bool false, .int .i64 0, nn, nn, nn, nn, nn, nn, nn, nn, nn, .row 3 0 y_1030.length, .vec false (List.map Xi y_5), .row 4 0 s_1039.length] 35, .mem 4 (List.map YD y_1030) 55, .mem 1 (List.map Xl s_1039) 51, .box [.vec c_0 (List.map eU8 l_0), .int .i64 (IntKind.i64.wrap (a_1 + y_18)), .int .i64 i_1040] 123] R := by
 intro n
 induction n with
 | zero =>
  intro i_1038 s_1039 i_1040 o h _; exact no0 h
 | succ n ih =>
  intro i_1038 s_1039 i_1040 o h hp; rw [XK] at h; refine ALp.round ?_; generalize hQ : YB _ _ _ _ = QQ; simp only [B70_2, A70, go_sem, seval]; rcases iteS h with ⟨e_1042, h⟩ | ⟨e_1042, h⟩
  ·
   simp only [e_1042, go_sem, seval]; rcases iteS h with ⟨e_1044, h⟩ | ⟨e_1044, h⟩
   ·
    obtain ⟨o_1047, h_1046, h⟩ := bindS h; simp only [e_1042, e_1044, go_sem, seval]; rcases o_1047 with y_1045 | _
    ·
     (try dsimp only at h); refine Xa.goA (Xn N _ _ _ c_0 _ h_1046) [5] (ho := ⟨(by first | rfl | simp only [go_sem, seval, e_1042, e_1044]), trivial⟩) ?_; obtain ⟨_, h_1049, h⟩ := bindS h; simp only [e_1042, e_1044, go_sem, seval]; refine Xa.goA (Ql N _ _ _ _ c_0 h_1049) [5] (ho := ⟨(by first | rfl | simp only [go_sem, seval, e_1042, e_1044]), trivial⟩) ?_; obtain ⟨o_1052, h_1051, h⟩ := bindS h; simp only [e_1042, e_1044, go_sem, seval]; rcases o_1052 with y_1050 | _
     ·
      (try dsimp only at h); refine Xa.goA (XE N _ _ _ _ _ c_0 _ h_1051) [6] (ho := ⟨(by first | rfl | simp only [go_sem, seval, e_1042, e_1044]), trivial⟩) ?_; simp only [e_1042, e_1044, go_sem, seval]; obtain ⟨o_2056, h_2054, h⟩ := bindS h; refine ALp.ref (Ref.trans (Ref.thaw (by simp) 13 rfl (sz := 1) (by decide) 56) (Ref.std [1, 4, 5, 6, 8, 11, 13, 62, 63, 75, 76] [0, 1, 2, 3, 4, 5, 6, 7] (by decide) (by decide) rfl (by first | rfl | simp only [go_sem, seval]))) (by simp) (Xca N _ _ _ _ _ _ _ _ _ _ _ _ _ _ _ c_0 N _ _ _ o_2056 h_2054 ?_); rcases o_2056 with y_2055 | _
      · (try dsimp only at h); refine Xem rfl (ta1 := ⟨93, [(1, .int .i64 a_3), (4, .ptr 1 0 0), (5, .ptr 2 0 0), (6, .int .i64 y_9), (8, .ptr 5 0 0), (13, .vec false (List.map XQ y_2055)), (62, .int .i64 y_1034), (63, .int .i64 i_1038)], []⟩) (H1 := [.box [.vec c_0 (List.map eU8 l_0), .int .i64 a_1, .int .i64 (IntKind.i64.wrap ((IntKind.i64.wrap ((IntKind.i64.wrap ((IntKind.i64.wrap ((IntKind.i64.wrap (a_2 + 2)) + 2)) + 2)) + 2)) + 2))] 123, .box [.int .i64 0, nn, .bool false, .int .i64 0, nn, nn, nn, nn, nn, nn, nn, nn, nn, nn, nn, nn] 35, .box [.int .i64 (IntKind.i64.wrap (a_3 + 10)), .vec false (List.map Xi y_1), .bool false, .int .i64 0, nn, nn, nn, nn, nn, nn, nn, nn, nn, .row 3 0 y_1030.length, .vec false (List.map Xi y_5), .row 4 0 s_1039.length] 35, .mem 4 (List.map YD y_1030) 55, .mem 1 (List.map Xl s_1039) 51, .box [.vec c_0 (List.map eU8 l_0), .int .i64 (IntKind.i64.wrap (a_1 + y_18)), .int .i64 (IntKind.i64.wrap (i_1040 + 2))] 123]) (Ref.trans (Ref.frz (by simp) (id := 6) rfl (XX y_2055 XQ (fun _ => rfl))) (Ref.std [1, 4, 5, 6, 8, 13, 62, 63] [0, 1, 2, 3, 4, 5] (by decide) (by decide) (by first | rfl | simp only [go_sem, seval]) (by first | rfl | simp only [go_sem, seval]))) (by simp) ?_; have e_2057 := tk Xl s_1039; have e_2058 : (List.map Xl s_1039) ++ [[.vec false (List.map XQ y_2055)]] = (List.map Xl (s_1039 ++ [y_2055])) := YS s_1039 ([y_2055]) Xl; obtain ⟨e_2060, h⟩ := guardE h; simp only [e_1042, e_1044, e_2057, e_2058, e_2060, go_sem, seval]; rw [← hQ]; exact ⟨_, _, (Ref.std [1, 4, 5, 6, 8, 62, 63] [0, 1, 2, 3, 6, 5] (by decide) (by decide) rfl (by first | rfl | simp only [go_sem, seval])), (by simp), ih _ _ _ _ h hp⟩
      · (try dsimp only at h); intro _ _ h_2061; refine Zo ?_; cases h; rw [← hQ]; exact hp _ _ h_2061
     · (try dsimp only at h); refine Xa.panA (XE N _ _ _ _ _ c_0 _ h_1051) [6] (ho := ⟨(by first | rfl | simp only [go_sem, seval, e_1042, e_1044]), trivial⟩) ?_; (try simp only [Xc, Xb, Xe]); cases h; rw [← hQ]; exact hp _ _ rfl
    · (try dsimp only at h); refine Xa.panA (Xn N _ _ _ c_0 _ h_1046) [5] (ho := ⟨(by first | rfl | simp only [go_sem, seval, e_1042, e_1044]), trivial⟩) ?_; (try simp only [Xc, Xb, Xe]); cases h; rw [← hQ]; exact hp _ _ rfl
   ·
    simp only [e_1042, e_1044, go_sem, seval]; obtain ⟨o_3065, h_3062, h⟩ := bindS h; refine ALp.ref (Ref.trans (Ref.thaw (by simp) 13 rfl (sz := 1) (by decide) 56) (Ref.std [1, 4, 5, 6, 8, 11, 13, 62, 63, 75, 76] [0, 1, 2, 3, 4, 5, 6] (by decide) (by decide) rfl (by first | rfl | simp only [go_sem, seval]))) (by simp) (Xb9 N _ _ _ _ _ _ _ _ _ _ _ _ c_0 N _ _ _ o_3065 h_3062 ?_); rcases o_3065 with ⟨y_3063, y_3064⟩ | _
    · (try dsimp only at h); refine Xem rfl (ta1 := ⟨93, [(1, .int .i64 a_3), (4, .ptr 1 0 0), (5, .ptr 2 0 0), (6, .int .i64 y_9), (8, .ptr 5 0 0), (13, .vec false (List.map XQ y_3064)), (62, .int .i64 y_1034), (63, .int .i64 i_1038)], []⟩) (H1 := [.box [.vec c_0 (List.map eU8 l_0), .int .i64 a_1, .int .i64 (IntKind.i64.wrap ((IntKind.i64.wrap ((IntKind.i64.wrap ((IntKind.i64.wrap ((IntKind.i64.wrap (a_2 + 2)) + 2)) + 2)) + 2)) + 2))] 123, .box [.int .i64 0, nn, .bool false, .int .i64 0, nn, nn, nn, nn, nn, nn, nn, nn, nn, nn, nn, nn] 35, .box [.int .i64 (IntKind.i64.wrap (a_3 + 10)), .vec false (List.map Xi y_1), .bool false, .int .i64 0, nn, nn, nn, nn, nn, nn, nn, nn, nn, .row 3 0 y_1030.length, .vec false (List.map Xi y_5), .row 4 0 s_1039.length] 35, .mem 4 (List.map YD y_1030) 55, .mem 1 (List.map Xl s_1039) 51, .box [.vec c_0 (List.map eU8 l_0), .int .i64 (IntKind.i64.wrap (a_1 + y_18)), .int .i64 y_3063] 123]) (Ref.trans (Ref.frz (by simp) (id := 6) rfl (XX y_3064 XQ (fun _ => rfl))) (Ref.std [1, 4, 5, 6, 8, 13, 62, 63] [0, 1, 2, 3, 4, 5] (by decide) (by decide) (by first | rfl | simp only [go_sem, seval]) (by first | rfl | simp only [go_sem, seval]))) (by simp) ?_; have e_3066 := tk Xl s_1039; have e_3067 : (List.map Xl s_1039) ++ [[.vec false (List.map XQ y_3064)]] = (List.map Xl (s_1039 ++ [y_3064])) := YS s_1039 ([y_3064]) Xl; obtain ⟨e_3069, h⟩ := guardE h; simp only [e_1042, e_1044, e_3066, e_3067, e_3069, go_sem, seval]; rw [← hQ]; exact ⟨_, _, (Ref.std [1, 4, 5, 6, 8, 62, 63] [0, 1, 2, 3, 6, 5] (by decide) (by decide) rfl (by first | rfl | simp only [go_sem, seval])), (by simp), ih _ _ _ _ h hp⟩
    · (try dsimp only at h); intro _ _ h_3070; refine Zo ?_; cases h; rw [← hQ]; exact hp _ _ h_3070
  · simp only [e_1042, go_sem, seval]; cases h; rw [← hQ]; exact ⟨_, _, (Ref.std [4, 5] [0, 1, 2, 3, 4] (by decide) (by decide) rfl (by first | rfl | simp only [go_sem, seval])), hp⟩
theorem QH (N : Nat) (l_0 : List Int) (a_1 : Int) (a_2 : Int) (a_3 : Int) (c_0 : Bool) (o : (O3T) ⊕ Unit) (h : ZB N l_0 a_1 a_2 a_3 = some o) :
  Xa Try.prog 70 [.ptr 0 0 0, .int .i64 a_3] [.box [.vec c_0 (List.map eU8 l_0), .int .i64 a_1, .int .i64 a_2] 123] (fun e H => match o with | .inl (z_1, z_2, z_3, z_4, z_5, z_6, z_7, z_8, z_9, z_10, z_11, z_12, z_13, z_14, z_15, z_16) => H = [.box [.vec c_0 (List.map eU8 l_0), .int .i64 a_1, .int .i64 (IntKind.i64.wrap ((IntKind.i64.wrap ((IntKind.i64.wrap ((IntKind.i64.wrap ((IntKind.i64.wrap (a_2 + 2)) + 2)) + 2)) + 2)) + 2))] 123] ∧ e = .ret (.agg [.int .i64 z_1, .vec false (List.map Xi z_2), .bool z_3, .int .i64 z_4, .vec false (List.map eLI64 z_5), .vec false (List.map YP z_6), .vec false (List.map eTCtx z_7), .vec false (List.map XU z_8), .vec false (List.map XC z_9), .vec false (List.map Xh z_10), .vec false (List.map Xh z_11), .vec false (List.map XC z_12), .vec false (List.map Xm z_13), .vec false (List.map YD z_14), .vec false (List.map Xi z_15), .vec false (List.map Xl z_16)]) | .inr _ => H = [.dead] ∧ e = .pan (.iface 91 (.agg []))) := by
 unfold ZB at h; refine Xa.goN Try.func70 n70 a70 Try.ntmps70 r70 (by simp) 1 rfl ?_; generalize hQ : bodyA _ _ _ = QQ; obtain ⟨o_3, h_2, h⟩ := bindS h; simp only [A70, go_sem, seval]; rcases o_3 with y_1 | _
 ·
  (try dsimp only at h); refine Xa.goA (Yo N _ _ _ c_0 _ h_2) [0] ?_; obtain ⟨o_7, h_6, h⟩ := bindS h; simp only [go_sem, seval]; rcases o_7 with y_5 | _
  ·
   (try dsimp only at h); refine Xa.goA (Yo N _ _ _ c_0 _ h_6) [0] ?_; obtain ⟨o_11, h_10, h⟩ := bindS h; simp only [go_sem, seval]; rcases o_11 with y_9 | _
   ·
    (try dsimp only at h); refine Xa.goA (XE N _ _ _ _ _ c_0 _ h_10) [0] ?_; obtain ⟨o_15, h_14, h⟩ := bindS h; simp only [go_sem, seval]; rcases o_15 with y_13 | _
    ·
     (try dsimp only at h); refine Xa.goA (Xn N _ _ _ c_0 _ h_14) [0] ?_; obtain ⟨_, h_17, h⟩ := bindS h; simp only [go_sem, seval]; refine Xa.goA (Ql N _ _ _ _ c_0 h_17) [0] ?_; obtain ⟨o_20, h_19, h⟩ := bindS h; simp only [go_sem, seval]; rcases o_20 with y_18 | _
     ·
      (try dsimp only at h); refine Xa.goA (Xn N _ _ _ c_0 _ h_19) [0] ?_; obtain ⟨_, h_22, h⟩ := bindS h; simp only [go_sem, seval]; refine Xa.goA (Ql N _ _ _ _ c_0 h_22) [0] ?_; obtain ⟨y_23, h_24, h⟩ := bindS h; simp only [go_sem, seval]; refine Xa.go0 (Jc N _ false _ h_24) ?_; obtain ⟨o_27, h_26, h⟩ := bindS h; simp only [go_sem, seval]; rcases o_27 with y_25 | _
      ·
       (try dsimp only at h); refine Xa.goA (XY N _ _ _ _ c_0 _ h_26) [3] ?_; simp only [go_sem, seval]; obtain ⟨o_1031, h_1029, h⟩ := bindS h; refine ALp.ref (Ref.trans (Ref.thawB (by simp) (id := 2) 13 rfl rfl (sz := 4) (by decide) 55) (Ref.std [1, 4, 5, 6, 7, 8, 35, 36] [0, 1, 2, 5, 3, 4] (by decide) (by decide) rfl (by first | rfl | simp only [go_sem, seval]))) (by simp) (Xcb N _ _ _ _ _ _ _ _ _ _ c_0 N _ _ _ o_1031 h_1029 ?_); rcases o_1031 with y_1030 | _
       ·
        (try dsimp only at h); refine XJ rfl (by simp) ?_; obtain ⟨y_1032, h_1033, h⟩ := bindS h; simp only [go_sem, seval]; refine Xa.go0 (Jc N _ false _ h_1033) ?_; obtain ⟨o_1036, h_1035, h⟩ := bindS h; simp only [go_sem, seval]; rcases o_1036 with y_1034 | _
        ·
         (try dsimp only at h); refine Xa.goA (XY N _ _ _ _ c_0 _ h_1035) [4] ?_; simp only [go_sem, seval]; obtain ⟨o_2040, h_2038, h⟩ := bindS h; refine ALp.ref (Ref.trans (Ref.thawB (by simp) (id := 2) 15 rfl rfl (sz := 1) (by decide) 51) (Ref.std [1, 4, 5, 6, 8, 62, 63] [0, 1, 2, 3, 5, 4] (by decide) (by decide) rfl (by first | rfl | simp only [go_sem, seval]))) (by simp) (Xb8 N _ _ _ _ _ _ _ _ _ _ c_0 N _ _ _ o_2040 h_2038 ?_); rcases o_2040 with y_2039 | _
         · (try dsimp only at h); refine XJ rfl (by simp) ?_; simp only [go_sem, seval]; cases h; rw [← hQ]; exact ⟨rfl, _, rfl, _, _, (RefV.trans (RefV.frz (by simp) (id := 3) rfl (XX y_1030 YD (fun _ => rfl))) (RefV.trans (RefV.frz (by simp) (id := 4) rfl (by first | exact XX y_2039 Xl (fun _ => rfl) | (simp only [Jz]; exact XX y_2039 Xl (fun _ => rfl)))) (RefV.trans (RefV.std (v' := .agg [.int .i64 (IntKind.i64.wrap (a_3 + 10)), .vec false (List.map Xi y_1), .bool false, .int .i64 0, nn, nn, nn, nn, nn, nn, nn, nn, nn, .vec false (List.map YD y_1030), .vec false (List.map Xi y_5), .vec false (List.map Xl y_2039)]) [0] (by decide) (by decide) (by first | rfl | simp only [go_sem, seval]) (by first | rfl | simp only [go_sem, seval])) (RefV.weak (Wks.cons (Wk.agg (Wks.cons (Wk.refl _) (Wks.cons (Wk.refl _) (Wks.cons (Wk.refl _) (Wks.cons (Wk.refl _) (Wks.cons Wk.vec (Wks.cons Wk.vec (Wks.cons Wk.vec (Wks.cons Wk.vec (Wks.cons Wk.vec (Wks.cons Wk.vec (Wks.cons Wk.vec (Wks.cons Wk.vec (Wks.cons Wk.vec (Wks.cons (Wk.refl _) (Wks.cons (Wk.refl _) (Wks.cons (Wk.refl _) (Wks.nil)))))))))))))))))) Wks.nil) (WkH.refl _))))), rfl, rfl⟩
         · (try dsimp only at h); intro _ _ h_2041; refine Zo ?_; cases h; rw [← hQ]; exact ⟨h_2041, _, _, RefV.dead rfl, rfl, rfl⟩
        · (try dsimp only at h); refine Xa.panA (XY N _ _ _ _ c_0 _ h_1035) [4] ?_; (try simp only [Xc, Xb, Xe]); cases h; rw [← hQ]; exact ⟨rfl, _, _, RefV.dead rfl, rfl, rfl⟩
       · (try dsimp only at h); intro _ _ h_2042; refine Zo ?_; cases h; rw [← hQ]; exact ⟨h_2042, _, _, RefV.dead rfl, rfl, rfl⟩
      · (try dsimp only at h); refine Xa.panA (XY N _ _ _ _ c_0 _ h_26) [3] ?_; (try simp only [Xc, Xb, Xe]); cases h; rw [← hQ]; exact ⟨rfl, _, _, RefV.dead rfl, rfl, rfl⟩
     · (try dsimp only at h); refine Xa.panA (Xn N _ _ _ c_0 _ h_19) [0] ?_; (try simp only [Xc, Xb, Xe]); cases h; rw [← hQ]; exact ⟨rfl, _, _, RefV.dead rfl, rfl, rfl⟩
    · (try dsimp only at h); refine Xa.panA (Xn N _ _ _ c_0 _ h_14) [0] ?_; (try simp only [Xc, Xb, Xe]); cases h; rw [← hQ]; exact ⟨rfl, _, _, RefV.dead rfl, rfl, rfl⟩
   · (try dsimp only at h); refine Xa.panA (XE N _ _ _ _ _ c_0 _ h_10) [0] ?_; (try simp only [Xc, Xb, Xe]); cases h; rw [← hQ]; exact ⟨rfl, _, _, RefV.dead rfl, rfl, rfl⟩
  · (try dsimp only at h); refine Xa.panA (Yo N _ _ _ c_0 _ h_6) [0] ?_; (try simp only [Xc, Xb, Xe]); cases h; rw [← hQ]; exact ⟨rfl, _, _, RefV.dead rfl, rfl, rfl⟩
 · (try dsimp only at h); refine Xa.panA (Yo N _ _ _ c_0 _ h_2) [0] ?_; (try simp only [Xc, Xb, Xe]); cases h; rw [← hQ]; exact ⟨rfl, _, _, RefV.dead rfl, rfl, rfl⟩
theorem Xdb (N : Nat) (l_0 : List Int) (a_1 : Int) (a_2 : Int) (c_0 : Bool) (o : (O3T) ⊕ Unit) (h : QW N l_0 a_1 a_2 = some o) :
  Xa Try.prog 41 [.vec c_0 (List.map eU8 l_0), .int .i64 a_1, .int .i64 a_2] [] (fun e H => match o with | .inl (z_1, z_2, z_3, z_4, z_5, z_6, z_7, z_8, z_9, z_10, z_11, z_12, z_13, z_14, z_15, z_16) => H = [] ∧ e = .ret (.agg [.int .i64 z_1, .vec false (List.map Xi z_2), .bool z_3, .int .i64 z_4, .vec false (List.map eLI64 z_5), .vec false (List.map YP z_6), .vec false (List.map eTCtx z_7), .vec false (List.map XU z_8), .vec false (List.map XC z_9), .vec false (List.map Xh z_10), .vec false (List.map Xh z_11), .vec false (List.map XC z_12), .vec false (List.map Xm z_13), .vec false (List.map YD z_14), .vec false (List.map Xi z_15), .vec false (List.map Xl z_16)]) | .inr _ => H = [] ∧ e = .pan (.iface 91 (.agg []))) := by
 unfold QW at h; refine Xa.goN Try.func41 n41 a41 Try.ntmps41 r41 (by simp) 0 rfl ?_; generalize hQ : bodyA _ _ _ = QQ; simp only [A41, go_sem, seval]; rcases iteS h with ⟨e_2, h⟩ | ⟨e_2, h⟩
 ·
  obtain ⟨o_20, h_19, h⟩ := bindS h; simp only [e_2, go_sem, seval]; rcases o_20 with ⟨y_3, y_4, y_5, y_6, y_7, y_8, y_9, y_10, y_11, y_12, y_13, y_14, y_15, y_16, y_17, y_18⟩ | _
  · (try dsimp only at h); refine Xa.goA (Qc N _ _ _ _ c_0 _ h_19) [1] (ho := ⟨(by first | rfl | simp only [go_sem, seval, e_2]), trivial⟩) ?_; simp only [e_2, go_sem, seval]; cases h; rw [← hQ]; exact ⟨rfl, _, rfl, _, _, (RefV.out (by first | rfl | simp only [go_sem, seval, e_2])), rfl, rfl⟩
  · (try dsimp only at h); refine Xa.panA (Qc N _ _ _ _ c_0 _ h_19) [1] (ho := ⟨(by first | rfl | simp only [go_sem, seval, e_2]), trivial⟩) ?_; (try simp only [Xc, Xb, Xe]); cases h; rw [← hQ]; exact ⟨rfl, _, _, RefV.dead rfl, rfl, rfl⟩
 ·
  simp only [e_2, go_sem, seval]; rcases iteS h with ⟨e_23, h⟩ | ⟨e_23, h⟩
  ·
   obtain ⟨o_41, h_40, h⟩ := bindS h; simp only [e_2, e_23, go_sem, seval]; rcases o_41 with ⟨y_24, y_25, y_26, y_27, y_28, y_29, y_30, y_31, y_32, y_33, y_34, y_35, y_36, y_37, y_38, y_39⟩ | _
   · (try dsimp only at h); refine Xa.goA (ZG N _ _ _ _ c_0 _ h_40) [1] (ho := ⟨(by first | rfl | simp only [go_sem, seval, e_2, e_23]), trivial⟩) ?_; simp only [e_2, e_23, go_sem, seval]; cases h; rw [← hQ]; exact ⟨rfl, _, rfl, _, _, (RefV.out (by first | rfl | simp only [go_sem, seval, e_2, e_23])), rfl, rfl⟩
   · (try dsimp only at h); refine Xa.panA (ZG N _ _ _ _ c_0 _ h_40) [1] (ho := ⟨(by first | rfl | simp only [go_sem, seval, e_2, e_23]), trivial⟩) ?_; (try simp only [Xc, Xb, Xe]); cases h; rw [← hQ]; exact ⟨rfl, _, _, RefV.dead rfl, rfl, rfl⟩
  ·
   simp only [e_2, e_23, go_sem, seval]; rcases iteS h with ⟨e_44, h⟩ | ⟨e_44, h⟩
   ·
    obtain ⟨o_46, h_45, h⟩ := bindS h; simp only [e_2, e_23, e_44, go_sem, seval]; rcases o_46 with _ | _
    ·
     (try dsimp only at h); refine Xa.go0 (Xv N _ _ h_45) ?_; have e_48 := eq_true (of_decide_eq_true (Ja h_45)); obtain ⟨o_51, h_50, h⟩ := bindS h; simp only [e_2, e_23, e_44, e_48, go_sem, seval]; rcases o_51 with y_49 | _
     ·
      (try dsimp only at h); refine Xa.goA (Xn N _ _ _ c_0 _ h_50) [1] (ho := ⟨(by first | rfl | simp only [go_sem, seval, e_2, e_23, e_44, e_48]), trivial⟩) ?_; simp only [e_2, e_23, e_44, e_48, go_sem, seval]; rcases iteS h with ⟨e_54, h⟩ | ⟨e_54, h⟩
      ·
       simp only [e_2, e_23, e_44, e_48, e_54, go_sem, seval]; rcases iteS h with ⟨e_56, h⟩ | ⟨e_56, h⟩
       ·
        simp only [e_2, e_23, e_44, e_48, e_54, e_56, go_sem, seval]; rcases iteS h with ⟨e_58, h⟩ | ⟨e_58, h⟩
        ·
         obtain ⟨o_77, h_76, h⟩ := bindS h; simp only [e_2, e_23, e_44, e_48, e_54, e_56, e_58, go_sem, seval]; rcases o_77 with ⟨y_59, y_60, y_61, y_62, y_63, y_64, y_65, y_66, y_67, y_68, y_69, y_70, y_71, y_72, y_73, y_74, y_75⟩ | _
         · (try dsimp only at h); refine Xa.goA (YG N _ _ _ _ c_0 _ h_76) [1] (ho := ⟨(by first | rfl | simp only [go_sem, seval, e_2, e_23, e_44, e_48, e_54, e_56, e_58]), trivial⟩) ?_; simp only [e_2, e_23, e_44, e_48, e_54, e_56, e_58, go_sem, seval]; cases h; rw [← hQ]; exact ⟨rfl, _, rfl, _, _, (RefV.out (by first | rfl | simp only [go_sem, seval, e_2, e_23, e_44, e_48, e_54, e_56, e_58])), rfl, rfl⟩
         · (try dsimp only at h); refine Xa.panA (YG N _ _ _ _ c_0 _ h_76) [1] (ho := ⟨(by first | rfl | simp only [go_sem, seval, e_2, e_23, e_44, e_48, e_54, e_56, e_58]), trivial⟩) ?_; (try simp only [Xc, Xb, Xe]); cases h; rw [← hQ]; exact ⟨rfl, _, _, RefV.dead rfl, rfl, rfl⟩
        ·
         obtain ⟨o_97, h_96, h⟩ := bindS h; simp only [e_2, e_23, e_44, e_48, e_54, e_56, e_58, go_sem, seval]; rcases o_97 with ⟨y_79, y_80, y_81, y_82, y_83, y_84, y_85, y_86, y_87, y_88, y_89, y_90, y_91, y_92, y_93, y_94, y_95⟩ | _
         · (try dsimp only at h); refine Xa.goA (YW N _ _ _ _ c_0 _ h_96) [1] (ho := ⟨(by first | rfl | simp only [go_sem, seval, e_2, e_23, e_44, e_48, e_54, e_56, e_58]), trivial⟩) ?_; simp only [e_2, e_23, e_44, e_48, e_54, e_56, e_58, go_sem, seval]; cases h; rw [← hQ]; exact ⟨rfl, _, rfl, _, _, (RefV.out (by first | rfl | simp only [go_sem, seval, e_2, e_23, e_44, e_48, e_54, e_56, e_58])), rfl, rfl⟩
         · (try dsimp only at h); refine Xa.panA (YW N _ _ _ _ c_0 _ h_96) [1] (ho := ⟨(by first | rfl | simp only [go_sem, seval, e_2, e_23, e_44, e_48, e_54, e_56, e_58]), trivial⟩) ?_; (try simp only [Xc, Xb, Xe]); cases h; rw [← hQ]; exact ⟨rfl, _, _, RefV.dead rfl, rfl, rfl⟩
       ·
        simp only [e_2, e_23, e_44, e_48, e_54, e_56, go_sem, seval]; rcases iteS h with ⟨e_100, h⟩ | ⟨e_100, h⟩
        ·
         simp only [e_2, e_23, e_44, e_48, e_54, e_56, e_100, go_sem, seval]; rcases iteS h with ⟨e_102, h⟩ | ⟨e_102, h⟩
         ·
          obtain ⟨o_121, h_120, h⟩ := bindS h; simp only [e_2, e_23, e_44, e_48, e_54, e_56, e_100, e_102, go_sem, seval]; rcases o_121 with ⟨y_103, y_104, y_105, y_106, y_107, y_108, y_109, y_110, y_111, y_112, y_113, y_114, y_115, y_116, y_117, y_118, y_119⟩ | _
          · (try dsimp only at h); refine Xa.goA (YG N _ _ _ _ c_0 _ h_120) [1] (ho := ⟨(by first | rfl | simp only [go_sem, seval, e_2, e_23, e_44, e_48, e_54, e_56, e_100, e_102]), trivial⟩) ?_; simp only [e_2, e_23, e_44, e_48, e_54, e_56, e_100, e_102, go_sem, seval]; cases h; rw [← hQ]; exact ⟨rfl, _, rfl, _, _, (RefV.out (by first | rfl | simp only [go_sem, seval, e_2, e_23, e_44, e_48, e_54, e_56, e_100, e_102])), rfl, rfl⟩
          · (try dsimp only at h); refine Xa.panA (YG N _ _ _ _ c_0 _ h_120) [1] (ho := ⟨(by first | rfl | simp only [go_sem, seval, e_2, e_23, e_44, e_48, e_54, e_56, e_100, e_102]), trivial⟩) ?_; (try simp only [Xc, Xb, Xe]); cases h; rw [← hQ]; exact ⟨rfl, _, _, RefV.dead rfl, rfl, rfl⟩
         ·
          obtain ⟨o_141, h_140, h⟩ := bindS h; simp only [e_2, e_23, e_44, e_48, e_54, e_56, e_100, e_102, go_sem, seval]; rcases o_141 with ⟨y_123, y_124, y_125, y_126, y_127, y_128, y_129, y_130, y_131, y_132, y_133, y_134, y_135, y_136, y_137, y_138, y_139⟩ | _
          · (try dsimp only at h); refine Xa.goA (YW N _ _ _ _ c_0 _ h_140) [1] (ho := ⟨(by first | rfl | simp only [go_sem, seval, e_2, e_23, e_44, e_48, e_54, e_56, e_100, e_102]), trivial⟩) ?_; simp only [e_2, e_23, e_44, e_48, e_54, e_56, e_100, e_102, go_sem, seval]; cases h; rw [← hQ]; exact ⟨rfl, _, rfl, _, _, (RefV.out (by first | rfl | simp only [go_sem, seval, e_2, e_23, e_44, e_48, e_54, e_56, e_100, e_102])), rfl, rfl⟩
          · (try dsimp only at h); refine Xa.panA (YW N _ _ _ _ c_0 _ h_140) [1] (ho := ⟨(by first | rfl | simp only [go_sem, seval, e_2, e_23, e_44, e_48, e_54, e_56, e_100, e_102]), trivial⟩) ?_; (try simp only [Xc, Xb, Xe]); cases h; rw [← hQ]; exact ⟨rfl, _, _, RefV.dead rfl, rfl, rfl⟩
        ·
         obtain ⟨o_144, h_143, h⟩ := bindS h; simp only [e_2, e_23, e_44, e_48, e_54, e_56, e_100, go_sem, seval]; rcases o_144 with _ | _
         · (try dsimp only at h); refine Xa.go0 (Xv N _ _ h_143) ?_; exact no0 h
         · (try dsimp only at h); refine Xa.panA (Xv N _ _ h_143) [] ?_; (try simp only [Xc, Xb, Xe]); cases h; rw [← hQ]; exact ⟨rfl, _, _, RefV.dead rfl, rfl, rfl⟩
      ·
       simp only [e_2, e_23, e_44, e_48, e_54, go_sem, seval]; rcases iteS h with ⟨e_147, h⟩ | ⟨e_147, h⟩
       ·
        simp only [e_2, e_23, e_44, e_48, e_54, e_147, go_sem, seval]; rcases iteS h with ⟨e_149, h⟩ | ⟨e_149, h⟩
        · exact no0 h
        ·
         simp only [e_2, e_23, e_44, e_48, e_54, e_147, e_149, go_sem, seval]; rcases iteS h with ⟨e_151, h⟩ | ⟨e_151, h⟩
         ·
          obtain ⟨o_170, h_169, h⟩ := bindS h; simp only [e_2, e_23, e_44, e_48, e_54, e_147, e_149, e_151, go_sem, seval]; rcases o_170 with ⟨y_152, y_153, y_154, y_155, y_156, y_157, y_158, y_159, y_160, y_161, y_162, y_163, y_164, y_165, y_166, y_167, y_168⟩ | _
          · (try dsimp only at h); refine Xa.goA (Qm N _ _ _ c_0 _ h_169) [1] (ho := ⟨(by first | rfl | simp only [go_sem, seval, e_2, e_23, e_44, e_48, e_54, e_147, e_149, e_151]), trivial⟩) ?_; simp only [e_2, e_23, e_44, e_48, e_54, e_147, e_149, e_151, go_sem, seval]; cases h; rw [← hQ]; exact ⟨rfl, _, rfl, _, _, (RefV.out (by first | rfl | simp only [go_sem, seval, e_2, e_23, e_44, e_48, e_54, e_147, e_149, e_151])), rfl, rfl⟩
          · (try dsimp only at h); refine Xa.panA (Qm N _ _ _ c_0 _ h_169) [1] (ho := ⟨(by first | rfl | simp only [go_sem, seval, e_2, e_23, e_44, e_48, e_54, e_147, e_149, e_151]), trivial⟩) ?_; (try simp only [Xc, Xb, Xe]); cases h; rw [← hQ]; exact ⟨rfl, _, _, RefV.dead rfl, rfl, rfl⟩
         ·
          obtain ⟨o_189, h_188, h⟩ := bindS h; simp only [e_2, e_23, e_44, e_48, e_54, e_147, e_149, e_151, go_sem, seval]; rcases o_189 with ⟨y_172, y_173, y_174, y_175, y_176, y_177, y_178, y_179, y_180, y_181, y_182, y_183, y_184, y_185, y_186, y_187⟩ | _
          · (try dsimp only at h); refine Xa.goA (QH N _ _ _ _ c_0 _ h_188) [1] (ho := ⟨(by first | rfl | simp only [go_sem, seval, e_2, e_23, e_44, e_48, e_54, e_147, e_149, e_151]), trivial⟩) ?_; simp only [e_2, e_23, e_44, e_48, e_54, e_147, e_149, e_151, go_sem, seval]; cases h; rw [← hQ]; exact ⟨rfl, _, rfl, _, _, (RefV.out (by first | rfl | simp only [go_sem, seval, e_2, e_23, e_44, e_48, e_54, e_147, e_149, e_151])), rfl, rfl⟩
          · (try dsimp only at h); refine Xa.panA (QH N _ _ _ _ c_0 _ h_188) [1] (ho := ⟨(by first | rfl | simp only [go_sem, seval, e_2, e_23, e_44, e_48, e_54, e_147, e_149, e_151]), trivial⟩) ?_; (try simp only [Xc, Xb, Xe]); cases h; rw [← hQ]; exact ⟨rfl, _, _, RefV.dead rfl, rfl, rfl⟩
       ·
        obtain ⟨o_192, h_191, h⟩ := bindS h; simp only [e_2, e_23, e_44, e_48, e_54, e_147, go_sem, seval]; rcases o_192 with _ | _
        · (try dsimp only at h); refine Xa.go0 (Xv N _ _ h_191) ?_; exact no0 h
        · (try dsimp only at h); refine Xa.panA (Xv N _ _ h_191) [] ?_; (try simp only [Xc, Xb, Xe]); cases h; rw [← hQ]; exact ⟨rfl, _, _, RefV.dead rfl, rfl, rfl⟩
     · (try dsimp only at h); refine Xa.panA (Xn N _ _ _ c_0 _ h_50) [1] (ho := ⟨(by first | rfl | simp only [go_sem, seval, e_2, e_23, e_44, e_48]), trivial⟩) ?_; (try simp only [Xc, Xb, Xe]); cases h; rw [← hQ]; exact ⟨rfl, _, _, RefV.dead rfl, rfl, rfl⟩
    · (try dsimp only at h); refine Xa.panA (Xv N _ _ h_45) [] ?_; (try simp only [Xc, Xb, Xe]); cases h; rw [← hQ]; exact ⟨rfl, _, _, RefV.dead rfl, rfl, rfl⟩
   ·
    obtain ⟨o_195, h_194, h⟩ := bindS h; simp only [e_2, e_23, e_44, go_sem, seval]; rcases o_195 with _ | _
    · (try dsimp only at h); refine Xa.go0 (Xv N _ _ h_194) ?_; exact no0 h
    · (try dsimp only at h); refine Xa.panA (Xv N _ _ h_194) [] ?_; (try simp only [Xc, Xb, Xe]); cases h; rw [← hQ]; exact ⟨rfl, _, _, RefV.dead rfl, rfl, rfl⟩
theorem JB (N : Nat) (l_0 : List Int) (a_1 : Int) (a_2 : Int) (c_0 : Bool) (o : (O3T) ⊕ Unit) (h : Zg N l_0 a_1 a_2 = some o) :
  Xa Try.prog 68 [.ptr 0 0 0] [.box [.vec c_0 (List.map eU8 l_0), .int .i64 a_1, .int .i64 a_2] 123] (fun e H => match o with | .inl (z_1, z_2, z_3, z_4, z_5, z_6, z_7, z_8, z_9, z_10, z_11, z_12, z_13, z_14, z_15, z_16) => H = [.box [.vec c_0 (List.map eU8 l_0), .int .i64 a_1, .int .i64 (IntKind.i64.wrap (a_2 + 2))] 123] ∧ e = .ret (.agg [.int .i64 z_1, .vec false (List.map Xi z_2), .bool z_3, .int .i64 z_4, .vec false (List.map eLI64 z_5), .vec false (List.map YP z_6), .vec false (List.map eTCtx z_7), .vec false (List.map XU z_8), .vec false (List.map XC z_9), .vec false (List.map Xh z_10), .vec false (List.map Xh z_11), .vec false (List.map XC z_12), .vec false (List.map Xm z_13), .vec false (List.map YD z_14), .vec false (List.map Xi z_15), .vec false (List.map Xl z_16)]) | .inr _ => H = [.dead] ∧ e = .pan (.iface 91 (.agg []))) := by
 unfold Zg at h; refine Xa.goN Try.func68 n68 a68 Try.ntmps68 r68 (by simp) 1 rfl ?_; generalize hQ : bodyA _ _ _ = QQ; obtain ⟨o_3, h_2, h⟩ := bindS h; simp only [A68, go_sem, seval]; rcases o_3 with y_1 | _
 ·
  (try dsimp only at h); refine Xa.goA (Xn N _ _ _ c_0 _ h_2) [0] ?_; obtain ⟨⟨y_5, y_6⟩, h_7, h⟩ := bindS h; (try dsimp only at h); simp only [go_sem, seval]; refine Xa.use0 (Xjw N _ _ c_0 _ _ h_7) rfl rfl ?_; simp only [go_sem, seval]; rcases iteB h with ⟨e_9, h⟩ | ⟨e_9, h⟩
  ·
   simp only [e_9, go_sem, seval]; rcases iteS h with ⟨e_11, h⟩ | ⟨e_11, h⟩
   ·
    obtain ⟨o_13, h_12, h⟩ := bindS h; simp only [e_9, e_11, go_sem, seval]; rcases o_13 with _ | _
    · (try dsimp only at h); refine Xa.go0 (Xv N _ _ h_12) ?_; exact no0 h
    · (try dsimp only at h); refine Xa.panA (Xv N _ _ h_12) [] ?_; (try simp only [Xc, Xb, Xe]); cases h; rw [← hQ]; exact ⟨rfl, _, _, RefV.dead rfl, rfl, rfl⟩
   ·
    obtain ⟨o_16, h_15, h⟩ := bindS h; simp only [e_9, e_11, go_sem, seval]; rcases o_16 with _ | _
    ·
     (try dsimp only at h); refine Xa.go0 (Xv N _ _ h_15) ?_; have e_18 := eq_true (of_decide_eq_true (Ja h_15)); obtain ⟨o_36, h_35, h⟩ := bindS h; simp only [e_9, e_11, e_18, go_sem, seval]; rcases o_36 with ⟨y_19, y_20, y_21, y_22, y_23, y_24, y_25, y_26, y_27, y_28, y_29, y_30, y_31, y_32, y_33, y_34⟩ | _
     · (try dsimp only at h); refine Xa.use0 (Xdb N _ _ _ c_0 _ h_35) rfl rfl ?_; simp only [e_9, e_11, e_18, go_sem, seval]; cases h; rw [← hQ]; exact ⟨rfl, _, rfl, _, _, (RefV.std [0] (by decide) (by decide) (by first | rfl | simp only [go_sem, seval, e_9, e_11, e_18]) (by first | rfl | simp only [go_sem, seval, e_9, e_11, e_18])), rfl, rfl⟩
     · (try dsimp only at h); refine Xa.panA (Xdb N _ _ _ c_0 _ h_35) [] ?_; (try simp only [Xc, Xb, Xe]); cases h; rw [← hQ]; exact ⟨rfl, _, _, RefV.dead rfl, rfl, rfl⟩
    · (try dsimp only at h); refine Xa.panA (Xv N _ _ h_15) [] ?_; (try simp only [Xc, Xb, Xe]); cases h; rw [← hQ]; exact ⟨rfl, _, _, RefV.dead rfl, rfl, rfl⟩
  ·
   obtain ⟨o_39, h_38, h⟩ := bindS h; simp only [e_9, go_sem, seval]; rcases o_39 with _ | _
   · (try dsimp only at h); refine Xa.go0 (Xv N _ _ h_38) ?_; exact no0 h
   · (try dsimp only at h); refine Xa.panA (Xv N _ _ h_38) [] ?_; (try simp only [Xc, Xb, Xe]); cases h; rw [← hQ]; exact ⟨rfl, _, _, RefV.dead rfl, rfl, rfl⟩
 · (try dsimp only at h); refine Xa.panA (Xn N _ _ _ c_0 _ h_2) [0] ?_; (try simp only [Xc, Xb, Xe]); cases h; rw [← hQ]; exact ⟨rfl, _, _, RefV.dead rfl, rfl, rfl⟩
theorem Xgt (N : Nat) (l_0 : List Int) (a_1 : Int) (a_2 : Int) (c_0 : Bool) (o : (O3T) ⊕ Unit) (h : Xbk N l_0 a_1 a_2 = some o) :
  Xa Try.prog 41 [.vec c_0 (List.map eU8 l_0), .int .i64 a_1, .int .i64 a_2] [] (fun e H => match o with | .inl (z_1, z_2, z_3, z_4, z_5, z_6, z_7, z_8, z_9, z_10, z_11, z_12, z_13, z_14, z_15, z_16) => H = [] ∧ e = .ret (.agg [.int .i64 z_1, .vec false (List.map Xi z_2), .bool z_3, .int .i64 z_4, .vec false (List.map eLI64 z_5), .vec false (List.map YP z_6), .vec false (List.map eTCtx z_7), .vec false (List.map XU z_8), .vec false (List.map XC z_9), .vec false (List.map Xh z_10), .vec false (List.map Xh z_11), .vec false (List.map XC z_12), .vec false (List.map Xm z_13), .vec false (List.map YD z_14), .vec false (List.map Xi z_15), .vec false (List.map Xl z_16)]) | .inr _ => H = [] ∧ e = .pan (.iface 91 (.agg []))) := by
 unfold Xbk at h; refine Xa.goN Try.func41 n41 a41 Try.ntmps41 r41 (by simp) 0 rfl ?_; generalize hQ : bodyA _ _ _ = QQ; simp only [A41, go_sem, seval]; rcases iteS h with ⟨e_2, h⟩ | ⟨e_2, h⟩
 ·
  obtain ⟨o_20, h_19, h⟩ := bindS h; simp only [e_2, go_sem, seval]; rcases o_20 with ⟨y_3, y_4, y_5, y_6, y_7, y_8, y_9, y_10, y_11, y_12, y_13, y_14, y_15, y_16, y_17, y_18⟩ | _
  · (try dsimp only at h); refine Xa.goA (Qc N _ _ _ _ c_0 _ h_19) [1] (ho := ⟨(by first | rfl | simp only [go_sem, seval, e_2]), trivial⟩) ?_; simp only [e_2, go_sem, seval]; cases h; rw [← hQ]; exact ⟨rfl, _, rfl, _, _, (RefV.out (by first | rfl | simp only [go_sem, seval, e_2])), rfl, rfl⟩
  · (try dsimp only at h); refine Xa.panA (Qc N _ _ _ _ c_0 _ h_19) [1] (ho := ⟨(by first | rfl | simp only [go_sem, seval, e_2]), trivial⟩) ?_; (try simp only [Xc, Xb, Xe]); cases h; rw [← hQ]; exact ⟨rfl, _, _, RefV.dead rfl, rfl, rfl⟩
 ·
  simp only [e_2, go_sem, seval]; rcases iteS h with ⟨e_23, h⟩ | ⟨e_23, h⟩
  ·
   obtain ⟨o_41, h_40, h⟩ := bindS h; simp only [e_2, e_23, go_sem, seval]; rcases o_41 with ⟨y_24, y_25, y_26, y_27, y_28, y_29, y_30, y_31, y_32, y_33, y_34, y_35, y_36, y_37, y_38, y_39⟩ | _
   · (try dsimp only at h); refine Xa.goA (ZG N _ _ _ _ c_0 _ h_40) [1] (ho := ⟨(by first | rfl | simp only [go_sem, seval, e_2, e_23]), trivial⟩) ?_; simp only [e_2, e_23, go_sem, seval]; cases h; rw [← hQ]; exact ⟨rfl, _, rfl, _, _, (RefV.out (by first | rfl | simp only [go_sem, seval, e_2, e_23])), rfl, rfl⟩
   · (try dsimp only at h); refine Xa.panA (ZG N _ _ _ _ c_0 _ h_40) [1] (ho := ⟨(by first | rfl | simp only [go_sem, seval, e_2, e_23]), trivial⟩) ?_; (try simp only [Xc, Xb, Xe]); cases h; rw [← hQ]; exact ⟨rfl, _, _, RefV.dead rfl, rfl, rfl⟩
  ·
   simp only [e_2, e_23, go_sem, seval]; rcases iteS h with ⟨e_44, h⟩ | ⟨e_44, h⟩
   ·
    obtain ⟨o_46, h_45, h⟩ := bindS h; simp only [e_2, e_23, e_44, go_sem, seval]; rcases o_46 with _ | _
    ·
     (try dsimp only at h); refine Xa.go0 (Xv N _ _ h_45) ?_; have e_48 := eq_true (of_decide_eq_true (Ja h_45)); obtain ⟨o_51, h_50, h⟩ := bindS h; simp only [e_2, e_23, e_44, e_48, go_sem, seval]; rcases o_51 with y_49 | _
     ·
      (try dsimp only at h); refine Xa.goA (Xn N _ _ _ c_0 _ h_50) [1] (ho := ⟨(by first | rfl | simp only [go_sem, seval, e_2, e_23, e_44, e_48]), trivial⟩) ?_; simp only [e_2, e_23, e_44, e_48, go_sem, seval]; rcases iteS h with ⟨e_54, h⟩ | ⟨e_54, h⟩
      ·
       simp only [e_2, e_23, e_44, e_48, e_54, go_sem, seval]; rcases iteS h with ⟨e_56, h⟩ | ⟨e_56, h⟩
       ·
        simp only [e_2, e_23, e_44, e_48, e_54, e_56, go_sem, seval]; rcases iteS h with ⟨e_58, h⟩ | ⟨e_58, h⟩
        ·
         obtain ⟨o_77, h_76, h⟩ := bindS h; simp only [e_2, e_23, e_44, e_48, e_54, e_56, e_58, go_sem, seval]; rcases o_77 with ⟨y_59, y_60, y_61, y_62, y_63, y_64, y_65, y_66, y_67, y_68, y_69, y_70, y_71, y_72, y_73, y_74, y_75⟩ | _
         · (try dsimp only at h); refine Xa.goA (YG N _ _ _ _ c_0 _ h_76) [1] (ho := ⟨(by first | rfl | simp only [go_sem, seval, e_2, e_23, e_44, e_48, e_54, e_56, e_58]), trivial⟩) ?_; simp only [e_2, e_23, e_44, e_48, e_54, e_56, e_58, go_sem, seval]; cases h; rw [← hQ]; exact ⟨rfl, _, rfl, _, _, (RefV.out (by first | rfl | simp only [go_sem, seval, e_2, e_23, e_44, e_48, e_54, e_56, e_58])), rfl, rfl⟩
         · (try dsimp only at h); refine Xa.panA (YG N _ _ _ _ c_0 _ h_76) [1] (ho := ⟨(by first | rfl | simp only [go_sem, seval, e_2, e_23, e_44, e_48, e_54, e_56, e_58]), trivial⟩) ?_; (try simp only [Xc, Xb, Xe]); cases h; rw [← hQ]; exact ⟨rfl, _, _, RefV.dead rfl, rfl, rfl⟩
        ·
         obtain ⟨o_97, h_96, h⟩ := bindS h; simp only [e_2, e_23, e_44, e_48, e_54, e_56, e_58, go_sem, seval]; rcases o_97 with ⟨y_79, y_80, y_81, y_82, y_83, y_84, y_85, y_86, y_87, y_88, y_89, y_90, y_91, y_92, y_93, y_94, y_95⟩ | _
         · (try dsimp only at h); refine Xa.goA (YW N _ _ _ _ c_0 _ h_96) [1] (ho := ⟨(by first | rfl | simp only [go_sem, seval, e_2, e_23, e_44, e_48, e_54, e_56, e_58]), trivial⟩) ?_; simp only [e_2, e_23, e_44, e_48, e_54, e_56, e_58, go_sem, seval]; cases h; rw [← hQ]; exact ⟨rfl, _, rfl, _, _, (RefV.out (by first | rfl | simp only [go_sem, seval, e_2, e_23, e_44, e_48, e_54, e_56, e_58])), rfl, rfl⟩
         · (try dsimp only at h); refine Xa.panA (YW N _ _ _ _ c_0 _ h_96) [1] (ho := ⟨(by first | rfl | simp only [go_sem, seval, e_2, e_23, e_44, e_48, e_54, e_56, e_58]), trivial⟩) ?_; (try simp only [Xc, Xb, Xe]); cases h; rw [← hQ]; exact ⟨rfl, _, _, RefV.dead rfl, rfl, rfl⟩
       ·
        simp only [e_2, e_23, e_44, e_48, e_54, e_56, go_sem, seval]; rcases iteS h with ⟨e_100, h⟩ | ⟨e_100, h⟩
        ·
         simp only [e_2, e_23, e_44, e_48, e_54, e_56, e_100, go_sem, seval]; rcases iteS h with ⟨e_102, h⟩ | ⟨e_102, h⟩
         ·
          obtain ⟨o_121, h_120, h⟩ := bindS h; simp only [e_2, e_23, e_44, e_48, e_54, e_56, e_100, e_102, go_sem, seval]; rcases o_121 with ⟨y_103, y_104, y_105, y_106, y_107, y_108, y_109, y_110, y_111, y_112, y_113, y_114, y_115, y_116, y_117, y_118, y_119⟩ | _
          · (try dsimp only at h); refine Xa.goA (YG N _ _ _ _ c_0 _ h_120) [1] (ho := ⟨(by first | rfl | simp only [go_sem, seval, e_2, e_23, e_44, e_48, e_54, e_56, e_100, e_102]), trivial⟩) ?_; simp only [e_2, e_23, e_44, e_48, e_54, e_56, e_100, e_102, go_sem, seval]; cases h; rw [← hQ]; exact ⟨rfl, _, rfl, _, _, (RefV.out (by first | rfl | simp only [go_sem, seval, e_2, e_23, e_44, e_48, e_54, e_56, e_100, e_102])), rfl, rfl⟩
          · (try dsimp only at h); refine Xa.panA (YG N _ _ _ _ c_0 _ h_120) [1] (ho := ⟨(by first | rfl | simp only [go_sem, seval, e_2, e_23, e_44, e_48, e_54, e_56, e_100, e_102]), trivial⟩) ?_; (try simp only [Xc, Xb, Xe]); cases h; rw [← hQ]; exact ⟨rfl, _, _, RefV.dead rfl, rfl, rfl⟩
         ·
          obtain ⟨o_141, h_140, h⟩ := bindS h; simp only [e_2, e_23, e_44, e_48, e_54, e_56, e_100, e_102, go_sem, seval]; rcases o_141 with ⟨y_123, y_124, y_125, y_126, y_127, y_128, y_129, y_130, y_131, y_132, y_133, y_134, y_135, y_136, y_137, y_138, y_139⟩ | _
          · (try dsimp only at h); refine Xa.goA (YW N _ _ _ _ c_0 _ h_140) [1] (ho := ⟨(by first | rfl | simp only [go_sem, seval, e_2, e_23, e_44, e_48, e_54, e_56, e_100, e_102]), trivial⟩) ?_; simp only [e_2, e_23, e_44, e_48, e_54, e_56, e_100, e_102, go_sem, seval]; cases h; rw [← hQ]; exact ⟨rfl, _, rfl, _, _, (RefV.out (by first | rfl | simp only [go_sem, seval, e_2, e_23, e_44, e_48, e_54, e_56, e_100, e_102])), rfl, rfl⟩
          · (try dsimp only at h); refine Xa.panA (YW N _ _ _ _ c_0 _ h_140) [1] (ho := ⟨(by first | rfl | simp only [go_sem, seval, e_2, e_23, e_44, e_48, e_54, e_56, e_100, e_102]), trivial⟩) ?_; (try simp only [Xc, Xb, Xe]); cases h; rw [← hQ]; exact ⟨rfl, _, _, RefV.dead rfl, rfl, rfl⟩
        ·
         obtain ⟨o_144, h_143, h⟩ := bindS h; simp only [e_2, e_23, e_44, e_48, e_54, e_56, e_100, go_sem, seval]; rcases o_144 with _ | _
         · (try dsimp only at h); refine Xa.go0 (Xv N _ _ h_143) ?_; exact no0 h
         · (try dsimp only at h); refine Xa.panA (Xv N _ _ h_143) [] ?_; (try simp only [Xc, Xb, Xe]); cases h; rw [← hQ]; exact ⟨rfl, _, _, RefV.dead rfl, rfl, rfl⟩
      ·
       simp only [e_2, e_23, e_44, e_48, e_54, go_sem, seval]; rcases iteS h with ⟨e_147, h⟩ | ⟨e_147, h⟩
       ·
        simp only [e_2, e_23, e_44, e_48, e_54, e_147, go_sem, seval]; rcases iteS h with ⟨e_149, h⟩ | ⟨e_149, h⟩
        ·
         obtain ⟨o_167, h_166, h⟩ := bindS h; simp only [e_2, e_23, e_44, e_48, e_54, e_147, e_149, go_sem, seval]; rcases o_167 with ⟨y_150, y_151, y_152, y_153, y_154, y_155, y_156, y_157, y_158, y_159, y_160, y_161, y_162, y_163, y_164, y_165⟩ | _
         · (try dsimp only at h); refine Xa.goA (JB N _ _ _ c_0 _ h_166) [1] (ho := ⟨(by first | rfl | simp only [go_sem, seval, e_2, e_23, e_44, e_48, e_54, e_147, e_149]), trivial⟩) ?_; simp only [e_2, e_23, e_44, e_48, e_54, e_147, e_149, go_sem, seval]; cases h; rw [← hQ]; exact ⟨rfl, _, rfl, _, _, (RefV.out (by first | rfl | simp only [go_sem, seval, e_2, e_23, e_44, e_48, e_54, e_147, e_149])), rfl, rfl⟩
         · (try dsimp only at h); refine Xa.panA (JB N _ _ _ c_0 _ h_166) [1] (ho := ⟨(by first | rfl | simp only [go_sem, seval, e_2, e_23, e_44, e_48, e_54, e_147, e_149]), trivial⟩) ?_; (try simp only [Xc, Xb, Xe]); cases h; rw [← hQ]; exact ⟨rfl, _, _, RefV.dead rfl, rfl, rfl⟩
        ·
         simp only [e_2, e_23, e_44, e_48, e_54, e_147, e_149, go_sem, seval]; rcases iteS h with ⟨e_170, h⟩ | ⟨e_170, h⟩
         ·
          obtain ⟨o_189, h_188, h⟩ := bindS h; simp only [e_2, e_23, e_44, e_48, e_54, e_147, e_149, e_170, go_sem, seval]; rcases o_189 with ⟨y_171, y_172, y_173, y_174, y_175, y_176, y_177, y_178, y_179, y_180, y_181, y_182, y_183, y_184, y_185, y_186, y_187⟩ | _
          · (try dsimp only at h); refine Xa.goA (Qm N _ _ _ c_0 _ h_188) [1] (ho := ⟨(by first | rfl | simp only [go_sem, seval, e_2, e_23, e_44, e_48, e_54, e_147, e_149, e_170]), trivial⟩) ?_; simp only [e_2, e_23, e_44, e_48, e_54, e_147, e_149, e_170, go_sem, seval]; cases h; rw [← hQ]; exact ⟨rfl, _, rfl, _, _, (RefV.out (by first | rfl | simp only [go_sem, seval, e_2, e_23, e_44, e_48, e_54, e_147, e_149, e_170])), rfl, rfl⟩
          · (try dsimp only at h); refine Xa.panA (Qm N _ _ _ c_0 _ h_188) [1] (ho := ⟨(by first | rfl | simp only [go_sem, seval, e_2, e_23, e_44, e_48, e_54, e_147, e_149, e_170]), trivial⟩) ?_; (try simp only [Xc, Xb, Xe]); cases h; rw [← hQ]; exact ⟨rfl, _, _, RefV.dead rfl, rfl, rfl⟩
         ·
          obtain ⟨o_208, h_207, h⟩ := bindS h; simp only [e_2, e_23, e_44, e_48, e_54, e_147, e_149, e_170, go_sem, seval]; rcases o_208 with ⟨y_191, y_192, y_193, y_194, y_195, y_196, y_197, y_198, y_199, y_200, y_201, y_202, y_203, y_204, y_205, y_206⟩ | _
          · (try dsimp only at h); refine Xa.goA (QH N _ _ _ _ c_0 _ h_207) [1] (ho := ⟨(by first | rfl | simp only [go_sem, seval, e_2, e_23, e_44, e_48, e_54, e_147, e_149, e_170]), trivial⟩) ?_; simp only [e_2, e_23, e_44, e_48, e_54, e_147, e_149, e_170, go_sem, seval]; cases h; rw [← hQ]; exact ⟨rfl, _, rfl, _, _, (RefV.out (by first | rfl | simp only [go_sem, seval, e_2, e_23, e_44, e_48, e_54, e_147, e_149, e_170])), rfl, rfl⟩
          · (try dsimp only at h); refine Xa.panA (QH N _ _ _ _ c_0 _ h_207) [1] (ho := ⟨(by first | rfl | simp only [go_sem, seval, e_2, e_23, e_44, e_48, e_54, e_147, e_149, e_170]), trivial⟩) ?_; (try simp only [Xc, Xb, Xe]); cases h; rw [← hQ]; exact ⟨rfl, _, _, RefV.dead rfl, rfl, rfl⟩
       ·
        obtain ⟨o_211, h_210, h⟩ := bindS h; simp only [e_2, e_23, e_44, e_48, e_54, e_147, go_sem, seval]; rcases o_211 with _ | _
        · (try dsimp only at h); refine Xa.go0 (Xv N _ _ h_210) ?_; exact no0 h
        · (try dsimp only at h); refine Xa.panA (Xv N _ _ h_210) [] ?_; (try simp only [Xc, Xb, Xe]); cases h; rw [← hQ]; exact ⟨rfl, _, _, RefV.dead rfl, rfl, rfl⟩
     · (try dsimp only at h); refine Xa.panA (Xn N _ _ _ c_0 _ h_50) [1] (ho := ⟨(by first | rfl | simp only [go_sem, seval, e_2, e_23, e_44, e_48]), trivial⟩) ?_; (try simp only [Xc, Xb, Xe]); cases h; rw [← hQ]; exact ⟨rfl, _, _, RefV.dead rfl, rfl, rfl⟩
    · (try dsimp only at h); refine Xa.panA (Xv N _ _ h_45) [] ?_; (try simp only [Xc, Xb, Xe]); cases h; rw [← hQ]; exact ⟨rfl, _, _, RefV.dead rfl, rfl, rfl⟩
   ·
    obtain ⟨o_214, h_213, h⟩ := bindS h; simp only [e_2, e_23, e_44, go_sem, seval]; rcases o_214 with _ | _
    · (try dsimp only at h); refine Xa.go0 (Xv N _ _ h_213) ?_; exact no0 h
    · (try dsimp only at h); refine Xa.panA (Xv N _ _ h_213) [] ?_; (try simp only [Xc, Xb, Xe]); cases h; rw [← hQ]; exact ⟨rfl, _, _, RefV.dead rfl, rfl, rfl⟩
theorem Xgu (N : Nat) (l_0 : List Int) (a_1 : Int) (a_2 : Int) (c_0 : Bool) (z_1 : Int) (z_2 : List TSpan) (z_3 : Bool) (z_4 : Int) (z_5 : List (List Int)) (z_6 : List (List TLig)) (z_7 : List TCtx) (z_8 : List Yg) (z_9 : List (List TTwo)) (z_10 : List Xg) (z_11 : List Xg) (z_12 : List (List TTwo)) (z_13 : List Xp) (z_14 : List TMark) (z_15 : List TSpan) (z_16 : List (List (List Xw))) (z_17 : Bool) (h : JC N l_0 a_1 a_2 = some (z_1, z_2, z_3, z_4, z_5, z_6, z_7, z_8, z_9, z_10, z_11, z_12, z_13, z_14, z_15, z_16, z_17)) :
  Xa Try.prog 21 [.vec c_0 (List.map eU8 l_0), .int .i64 a_1, .int .i64 a_2] [] (fun e H => H = [] ∧ e = .ret (.tup [.agg [.int .i64 z_1, .vec false (List.map Xi z_2), .bool z_3, .int .i64 z_4, .vec false (List.map eLI64 z_5), .vec false (List.map YP z_6), .vec false (List.map eTCtx z_7), .vec false (List.map XU z_8), .vec false (List.map XC z_9), .vec false (List.map Xh z_10), .vec false (List.map Xh z_11), .vec false (List.map XC z_12), .vec false (List.map Xm z_13), .vec false (List.map YD z_14), .vec false (List.map Xi z_15), .vec false (List.map Xl z_16)], .bool z_17])) := by
 unfold JC at h; refine Xa.goRN Try.func21 n21 a21 Try.ntmps21 r21 (by simp) 0 rfl ?_; generalize hQ : bodyR _ _ _ _ = QQ; simp only [A21, go_sem, seval]; rcases iteS h with ⟨e_2, h⟩ | ⟨e_2, h⟩
 ·
  obtain ⟨o_4, h_3, h⟩ := bindS h; simp only [e_2, go_sem, seval]; rcases o_4 with _ | _
  ·
   (try dsimp only at h); refine Xa.go0 (Xv N _ _ h_3) ?_; have e_6 := eq_true (of_decide_eq_true (Ja h_3)); obtain ⟨o_24, h_23, h⟩ := bindS h; simp only [e_2, e_6, go_sem, seval]; rcases o_24 with ⟨y_7, y_8, y_9, y_10, y_11, y_12, y_13, y_14, y_15, y_16, y_17, y_18, y_19, y_20, y_21, y_22⟩ | _
   · (try dsimp only at h); refine Xa.go0 (Xgt N _ _ _ c_0 _ h_23) ?_; simp only [e_2, e_6, go_sem, seval]; rw [← hQ]; show clo _ _ _ _ _ _ _; refine clo.of_M (g := 39) (by simp) rfl rc39 (by decide) ?_; generalize hE : endR _ _ _ _ = EE; simp only [A39r, A39, go_sem, seval]; obtain ⟨rfl, g⟩ := pj (si h); obtain ⟨rfl, g1⟩ := pj g; obtain ⟨rfl, g2⟩ := pj g1; obtain ⟨rfl, g3⟩ := pj g2; obtain ⟨rfl, g4⟩ := pj g3; obtain ⟨rfl, g5⟩ := pj g4; obtain ⟨rfl, g6⟩ := pj g5; obtain ⟨rfl, g7⟩ := pj g6; obtain ⟨rfl, g8⟩ := pj g7; obtain ⟨rfl, g9⟩ := pj g8; obtain ⟨rfl, g10⟩ := pj g9; obtain ⟨rfl, g11⟩ := pj g10; obtain ⟨rfl, g12⟩ := pj g11; obtain ⟨rfl, g13⟩ := pj g12; obtain ⟨rfl, g14⟩ := pj g13; obtain ⟨rfl, rfl⟩ := pj g14; rw [← hE]; exact ⟨rfl, _, rfl, _, _, (RefV.out (by first | rfl | simp only [go_sem, seval, e_2, e_6])), rfl, rfl⟩
   · (try dsimp only at h); refine Xa.panA (Xgt N _ _ _ c_0 _ h_23) [] ?_; (try simp only [Xc, Xb, Xe]); rw [← hQ]; show clo _ _ _ _ _ _ _; refine clo.of_M (g := 39) (by simp) rfl rc39 (by decide) ?_; generalize hE : endR _ _ _ _ = EE; simp only [A39r, A39, go_sem, seval]; obtain ⟨rfl, g⟩ := pj (si h); obtain ⟨rfl, g1⟩ := pj g; obtain ⟨rfl, g2⟩ := pj g1; obtain ⟨rfl, g3⟩ := pj g2; obtain ⟨rfl, g4⟩ := pj g3; obtain ⟨rfl, g5⟩ := pj g4; obtain ⟨rfl, g6⟩ := pj g5; obtain ⟨rfl, g7⟩ := pj g6; obtain ⟨rfl, g8⟩ := pj g7; obtain ⟨rfl, g9⟩ := pj g8; obtain ⟨rfl, g10⟩ := pj g9; obtain ⟨rfl, g11⟩ := pj g10; obtain ⟨rfl, g12⟩ := pj g11; obtain ⟨rfl, g13⟩ := pj g12; obtain ⟨rfl, g14⟩ := pj g13; obtain ⟨rfl, rfl⟩ := pj g14; rw [← hE]; exact ⟨rfl, _, rfl, _, _, (RefV.trans (RefV.out (v' := .tup [.agg [.int .i64 0, nn, .bool false, .int .i64 0, nn, nn, nn, nn, nn, nn, nn, nn, nn, nn, nn, nn], .bool false]) rfl) (RefV.weak (Wks.cons (Wk.tup (Wks.cons (Wk.agg (Wks.cons (Wk.refl _) (Wks.cons Wk.vec (Wks.cons (Wk.refl _) (Wks.cons (Wk.refl _) (Wks.cons Wk.vec (Wks.cons Wk.vec (Wks.cons Wk.vec (Wks.cons Wk.vec (Wks.cons Wk.vec (Wks.cons Wk.vec (Wks.cons Wk.vec (Wks.cons Wk.vec (Wks.cons Wk.vec (Wks.cons Wk.vec (Wks.cons Wk.vec (Wks.cons Wk.vec (Wks.nil)))))))))))))))))) (Wks.cons (Wk.refl _) (Wks.nil)))) Wks.nil) (WkH.refl _))), rfl, rfl⟩
  · (try dsimp only at h); refine Xa.panA (Xv N _ _ h_3) [] ?_; (try simp only [Xc, Xb, Xe]); rw [← hQ]; show clo _ _ _ _ _ _ _; refine clo.of_M (g := 39) (by simp) rfl rc39 (by decide) ?_; generalize hE : endR _ _ _ _ = EE; simp only [A39r, A39, go_sem, seval]; obtain ⟨rfl, g⟩ := pj (si h); obtain ⟨rfl, g1⟩ := pj g; obtain ⟨rfl, g2⟩ := pj g1; obtain ⟨rfl, g3⟩ := pj g2; obtain ⟨rfl, g4⟩ := pj g3; obtain ⟨rfl, g5⟩ := pj g4; obtain ⟨rfl, g6⟩ := pj g5; obtain ⟨rfl, g7⟩ := pj g6; obtain ⟨rfl, g8⟩ := pj g7; obtain ⟨rfl, g9⟩ := pj g8; obtain ⟨rfl, g10⟩ := pj g9; obtain ⟨rfl, g11⟩ := pj g10; obtain ⟨rfl, g12⟩ := pj g11; obtain ⟨rfl, g13⟩ := pj g12; obtain ⟨rfl, g14⟩ := pj g13; obtain ⟨rfl, rfl⟩ := pj g14; rw [← hE]; exact ⟨rfl, _, rfl, _, _, (RefV.trans (RefV.out (v' := .tup [.agg [.int .i64 0, nn, .bool false, .int .i64 0, nn, nn, nn, nn, nn, nn, nn, nn, nn, nn, nn, nn], .bool false]) rfl) (RefV.weak (Wks.cons (Wk.tup (Wks.cons (Wk.agg (Wks.cons (Wk.refl _) (Wks.cons Wk.vec (Wks.cons (Wk.refl _) (Wks.cons (Wk.refl _) (Wks.cons Wk.vec (Wks.cons Wk.vec (Wks.cons Wk.vec (Wks.cons Wk.vec (Wks.cons Wk.vec (Wks.cons Wk.vec (Wks.cons Wk.vec (Wks.cons Wk.vec (Wks.cons Wk.vec (Wks.cons Wk.vec (Wks.cons Wk.vec (Wks.cons Wk.vec (Wks.nil)))))))))))))))))) (Wks.cons (Wk.refl _) (Wks.nil)))) Wks.nil) (WkH.refl _))), rfl, rfl⟩
 ·
  obtain ⟨o_27, h_26, h⟩ := bindS h; simp only [e_2, go_sem, seval]; rcases o_27 with _ | _
  · (try dsimp only at h); refine Xa.go0 (Xv N _ _ h_26) ?_; exact no0 h
  · (try dsimp only at h); refine Xa.panA (Xv N _ _ h_26) [] ?_; (try simp only [Xc, Xb, Xe]); rw [← hQ]; show clo _ _ _ _ _ _ _; refine clo.of_M (g := 39) (by simp) rfl rc39 (by decide) ?_; generalize hE : endR _ _ _ _ = EE; simp only [A39r, A39, go_sem, seval]; obtain ⟨rfl, g⟩ := pj (si h); obtain ⟨rfl, g1⟩ := pj g; obtain ⟨rfl, g2⟩ := pj g1; obtain ⟨rfl, g3⟩ := pj g2; obtain ⟨rfl, g4⟩ := pj g3; obtain ⟨rfl, g5⟩ := pj g4; obtain ⟨rfl, g6⟩ := pj g5; obtain ⟨rfl, g7⟩ := pj g6; obtain ⟨rfl, g8⟩ := pj g7; obtain ⟨rfl, g9⟩ := pj g8; obtain ⟨rfl, g10⟩ := pj g9; obtain ⟨rfl, g11⟩ := pj g10; obtain ⟨rfl, g12⟩ := pj g11; obtain ⟨rfl, g13⟩ := pj g12; obtain ⟨rfl, g14⟩ := pj g13; obtain ⟨rfl, rfl⟩ := pj g14; rw [← hE]; exact ⟨rfl, _, rfl, _, _, (RefV.trans (RefV.out (v' := .tup [.agg [.int .i64 0, nn, .bool false, .int .i64 0, nn, nn, nn, nn, nn, nn, nn, nn, nn, nn, nn, nn], .bool false]) rfl) (RefV.weak (Wks.cons (Wk.tup (Wks.cons (Wk.agg (Wks.cons (Wk.refl _) (Wks.cons Wk.vec (Wks.cons (Wk.refl _) (Wks.cons (Wk.refl _) (Wks.cons Wk.vec (Wks.cons Wk.vec (Wks.cons Wk.vec (Wks.cons Wk.vec (Wks.cons Wk.vec (Wks.cons Wk.vec (Wks.cons Wk.vec (Wks.cons Wk.vec (Wks.cons Wk.vec (Wks.cons Wk.vec (Wks.cons Wk.vec (Wks.cons Wk.vec (Wks.nil)))))))))))))))))) (Wks.cons (Wk.refl _) (Wks.nil)))) Wks.nil) (WkH.refl _))), rfl, rfl⟩
theorem Xgh (N : Nat) (l_0 : List TSpan) (l_1 : List TSpan) (c_0 : Bool) (c_1 : Bool) {R : AExit → ATm → List AObj → Prop} : ∀ (n : Nat) (i_3 : Int) (o : (Unit) ⊕ (Unit)), Qk N l_0 l_1 n i_3 = some o → (match o with | .inl _ => R (.exit 0) ⟨26, [], []⟩ [] | .inr (_) => R .ret ⟨26, [(4, .bool false)], []⟩ []) →
  ALp Try.prog 0 B34_1 ⟨26, [(0, .vec c_0 (List.map Xi l_0)), (1, .vec c_1 (List.map Xi l_1)), (5, .int .i64 i_3)], []⟩ [] R := by
 intro n
 induction n with
 | zero =>
  intro i_3 o h _; exact no0 h
 | succ n ih =>
  intro i_3 o h hp; rw [Qk] at h; refine ALp.round ?_; generalize hQ : YB _ _ _ _ = QQ; simp only [B34_1, A34, go_sem, seval]; rcases iteS h with ⟨e_5, h⟩ | ⟨e_5, h⟩
  ·
   obtain ⟨x_6, h_7, h⟩ := bindS h; have e_8 : (List.map Xi l_0)[(i_3).toNat]? = some [.int .i64 x_6.From, .int .i64 x_6.To] := XA Xi h_7; have e_9 := eq_true (Xx h_7).1; have e_10 := eq_true (XP h_7); obtain ⟨x_11, h_12, h⟩ := bindS h; have e_13 : (List.map Xi l_1)[(i_3).toNat]? = some [.int .i64 x_11.From, .int .i64 x_11.To] := XA Xi h_12; have e_14 := eq_true (Xx h_12).1; have e_15 := eq_true (XP h_12); simp only [e_5, e_8, e_9, e_10, e_13, e_14, e_15, go_sem, seval]; rcases iteS h with ⟨e_17, h⟩ | ⟨e_17, h⟩
   ·
    simp only [e_5, e_8, e_9, e_10, e_13, e_14, e_15, e_17, go_sem, seval]; rcases iteS h with ⟨e_19, h⟩ | ⟨e_19, h⟩
    · simp only [e_5, e_8, e_9, e_10, e_13, e_14, e_15, e_17, e_19, go_sem, seval]; rw [← hQ]; exact ⟨_, _, (Ref.out [0, 1, 5] rfl), (Nat.zero_le _), ih _ _ h hp⟩
    · simp only [e_5, e_8, e_9, e_10, e_13, e_14, e_15, e_17, e_19, go_sem, seval]; cases h; rw [← hQ]; exact ⟨_, _, (Ref.out [4] rfl), hp⟩
   · simp only [e_5, e_8, e_9, e_10, e_13, e_14, e_15, e_17, go_sem, seval]; cases h; rw [← hQ]; exact ⟨_, _, (Ref.out [4] rfl), hp⟩
  · simp only [e_5, go_sem, seval]; cases h; rw [← hQ]; exact ⟨_, _, (Ref.out [] rfl), hp⟩
theorem Xa3 (N : Nat) (l_0 : List TSpan) (l_1 : List TSpan) (c_0 : Bool) (c_1 : Bool) (z_1 : Bool) (h : Ju N l_0 l_1 = some z_1) :
  Xa Try.prog 34 [.vec c_0 (List.map Xi l_0), .vec c_1 (List.map Xi l_1)] [] (fun e H => H = [] ∧ e = .ret (.bool z_1)) := by
 unfold Ju at h; refine Xa.goN Try.func34 n34 a34 Try.ntmps34 r34 (by simp) 0 rfl ?_; generalize hQ : bodyA _ _ _ = QQ; simp only [A34, go_sem, seval]; rcases iteS h with ⟨e_2, h⟩ | ⟨e_2, h⟩
 ·
  simp only [e_2, go_sem, seval]; obtain ⟨o_1004, h_1003, h⟩ := bindS h; refine ALp.ref (Ref.out [0, 1, 5] rfl) (Nat.zero_le _) (Xgh N _ _ c_0 c_1 N _ o_1004 h_1003 ?_); rcases o_1004 with _ | _
  · (try dsimp only at h); refine XJ rfl (Nat.zero_le _) ?_; simp only [e_2, go_sem, seval]; obtain rfl := si h; rw [← hQ]; exact ⟨rfl, _, rfl, _, _, (RefV.out rfl), rfl, rfl⟩
  · (try dsimp only at h); refine Zj ?_; obtain rfl := si h; rw [← hQ]; exact ⟨rfl, _, rfl, _, _, (RefV.out rfl), rfl, rfl⟩
 · simp only [e_2, go_sem, seval]; obtain rfl := si h; rw [← hQ]; exact ⟨rfl, _, rfl, _, _, (RefV.out rfl), rfl, rfl⟩
theorem Xgi (N : Nat) (l_0 : List Int) (l_1 : List Int) (c_0 : Bool) (c_1 : Bool) {R : AExit → ATm → List AObj → Prop} : ∀ (n : Nat) (i_3 : Int) (o : (Unit) ⊕ (Unit)), Xad N l_0 l_1 n i_3 = some o → (match o with | .inl _ => R (.exit 0) ⟨26, [], []⟩ [] | .inr (_) => R .ret ⟨26, [(4, .bool false)], []⟩ []) →
  ALp Try.prog 0 B62_1 ⟨26, [(0, .vec c_0 (List.map eI64 l_0)), (1, .vec c_1 (List.map eI64 l_1)), (5, .int .i64 i_3)], []⟩ [] R := by
 intro n
 induction n with
 | zero =>
  intro i_3 o h _; exact no0 h
 | succ n ih =>
  intro i_3 o h hp; rw [Xad] at h; refine ALp.round ?_; generalize hQ : YB _ _ _ _ = QQ; simp only [B62_1, A62, go_sem, seval]; rcases iteS h with ⟨e_5, h⟩ | ⟨e_5, h⟩
  ·
   obtain ⟨x_6, h_7, h⟩ := bindS h; have e_8 : (List.map eI64 l_0)[(i_3).toNat]? = some [.int .i64 x_6] := XA eI64 h_7; have e_9 := eq_true (Xx h_7).1; have e_10 := eq_true (XP h_7); obtain ⟨x_11, h_12, h⟩ := bindS h; have e_13 : (List.map eI64 l_1)[(i_3).toNat]? = some [.int .i64 x_11] := XA eI64 h_12; have e_14 := eq_true (Xx h_12).1; have e_15 := eq_true (XP h_12); simp only [e_5, e_8, e_9, e_10, e_13, e_14, e_15, go_sem, seval]; rcases iteS h with ⟨e_17, h⟩ | ⟨e_17, h⟩
   · simp only [e_5, e_8, e_9, e_10, e_13, e_14, e_15, e_17, go_sem, seval]; rw [← hQ]; exact ⟨_, _, (Ref.out [0, 1, 5] rfl), (Nat.zero_le _), ih _ _ h hp⟩
   · simp only [e_5, e_8, e_9, e_10, e_13, e_14, e_15, e_17, go_sem, seval]; cases h; rw [← hQ]; exact ⟨_, _, (Ref.out [4] rfl), hp⟩
  · simp only [e_5, go_sem, seval]; cases h; rw [← hQ]; exact ⟨_, _, (Ref.out [] rfl), hp⟩
theorem Xfe (N : Nat) (l_0 : List Int) (l_1 : List Int) (c_0 : Bool) (c_1 : Bool) (z_1 : Bool) (h : Xc3 N l_0 l_1 = some z_1) :
  Xa Try.prog 62 [.vec c_0 (List.map eI64 l_0), .vec c_1 (List.map eI64 l_1)] [] (fun e H => H = [] ∧ e = .ret (.bool z_1)) := by
 unfold Xc3 at h; refine Xa.goN Try.func62 n62 a62 Try.ntmps62 r62 (by simp) 0 rfl ?_; generalize hQ : bodyA _ _ _ = QQ; simp only [A62, go_sem, seval]; rcases iteS h with ⟨e_2, h⟩ | ⟨e_2, h⟩
 ·
  simp only [e_2, go_sem, seval]; obtain ⟨o_1004, h_1003, h⟩ := bindS h; refine ALp.ref (Ref.out [0, 1, 5] rfl) (Nat.zero_le _) (Xgi N _ _ c_0 c_1 N _ o_1004 h_1003 ?_); rcases o_1004 with _ | _
  · (try dsimp only at h); refine XJ rfl (Nat.zero_le _) ?_; simp only [e_2, go_sem, seval]; obtain rfl := si h; rw [← hQ]; exact ⟨rfl, _, rfl, _, _, (RefV.out rfl), rfl, rfl⟩
  · (try dsimp only at h); refine Zj ?_; obtain rfl := si h; rw [← hQ]; exact ⟨rfl, _, rfl, _, _, (RefV.out rfl), rfl, rfl⟩
 · simp only [e_2, go_sem, seval]; obtain rfl := si h; rw [← hQ]; exact ⟨rfl, _, rfl, _, _, (RefV.out rfl), rfl, rfl⟩
theorem Xfp (N : Nat) (l_0 : List (List Int)) (l_1 : List (List Int)) (c_0 : Bool) (c_1 : Bool) {R : AExit → ATm → List AObj → Prop} : ∀ (n : Nat) (i_3 : Int) (o : (Unit) ⊕ (Unit)), QO N l_0 l_1 n i_3 = some o → (match o with | .inl _ => R (.exit 0) ⟨27, [], []⟩ [] | .inr (_) => R .ret ⟨27, [(4, .bool false)], []⟩ []) →
  ALp Try.prog 0 B35_1 ⟨27, [(0, .vec c_0 (List.map eLI64 l_0)), (1, .vec c_1 (List.map eLI64 l_1)), (5, .int .i64 i_3)], []⟩ [] R := by
 intro n
 induction n with
 | zero =>
  intro i_3 o h _; exact no0 h
 | succ n ih =>
  intro i_3 o h hp; rw [QO] at h; refine ALp.round ?_; generalize hQ : YB _ _ _ _ = QQ; simp only [B35_1, A35, go_sem, seval]; rcases iteS h with ⟨e_5, h⟩ | ⟨e_5, h⟩
  ·
   obtain ⟨x_6, h_7, h⟩ := bindS h; have e_8 : (List.map eLI64 l_0)[(i_3).toNat]? = some [.vec false (List.map eI64 x_6)] := XA eLI64 h_7; have e_9 := eq_true (Xx h_7).1; have e_10 := eq_true (XP h_7); obtain ⟨x_11, h_12, h⟩ := bindS h; have e_13 : (List.map eLI64 l_1)[(i_3).toNat]? = some [.vec false (List.map eI64 x_11)] := XA eLI64 h_12; have e_14 := eq_true (Xx h_12).1; have e_15 := eq_true (XP h_12); obtain ⟨y_16, h_17, h⟩ := bindS h; simp only [e_5, e_8, e_9, e_10, e_13, e_14, e_15, go_sem, seval]; refine Xa.use0 (Xfe N _ _ false false _ h_17) rfl rfl ?_; simp only [e_5, e_8, e_9, e_10, e_13, e_14, e_15, go_sem, seval]; rcases iteB h with ⟨e_19, h⟩ | ⟨e_19, h⟩
   · simp only [e_5, e_8, e_9, e_10, e_13, e_14, e_15, e_19, go_sem, seval]; rw [← hQ]; exact ⟨_, _, (Ref.out [0, 1, 5] rfl), (Nat.zero_le _), ih _ _ h hp⟩
   · simp only [e_5, e_8, e_9, e_10, e_13, e_14, e_15, e_19, go_sem, seval]; cases h; rw [← hQ]; exact ⟨_, _, (Ref.out [4] rfl), hp⟩
  · simp only [e_5, go_sem, seval]; cases h; rw [← hQ]; exact ⟨_, _, (Ref.out [] rfl), hp⟩
theorem Xd5 (N : Nat) (l_0 : List (List Int)) (l_1 : List (List Int)) (c_0 : Bool) (c_1 : Bool) (z_1 : Bool) (h : JL N l_0 l_1 = some z_1) :
  Xa Try.prog 35 [.vec c_0 (List.map eLI64 l_0), .vec c_1 (List.map eLI64 l_1)] [] (fun e H => H = [] ∧ e = .ret (.bool z_1)) := by
 unfold JL at h; refine Xa.goN Try.func35 n35 a35 Try.ntmps35 r35 (by simp) 0 rfl ?_; generalize hQ : bodyA _ _ _ = QQ; simp only [A35, go_sem, seval]; rcases iteS h with ⟨e_2, h⟩ | ⟨e_2, h⟩
 ·
  simp only [e_2, go_sem, seval]; obtain ⟨o_1004, h_1003, h⟩ := bindS h; refine ALp.ref (Ref.out [0, 1, 5] rfl) (Nat.zero_le _) (Xfp N _ _ c_0 c_1 N _ o_1004 h_1003 ?_); rcases o_1004 with _ | _
  · (try dsimp only at h); refine XJ rfl (Nat.zero_le _) ?_; simp only [e_2, go_sem, seval]; obtain rfl := si h; rw [← hQ]; exact ⟨rfl, _, rfl, _, _, (RefV.out rfl), rfl, rfl⟩
  · (try dsimp only at h); refine Zj ?_; obtain rfl := si h; rw [← hQ]; exact ⟨rfl, _, rfl, _, _, (RefV.out rfl), rfl, rfl⟩
 · simp only [e_2, go_sem, seval]; obtain rfl := si h; rw [← hQ]; exact ⟨rfl, _, rfl, _, _, (RefV.out rfl), rfl, rfl⟩
theorem Xge (N : Nat) (l_0 : List (List TLig)) (l_1 : List (List TLig)) (i_3 : Int) (c_0 : Bool) (c_1 : Bool) {R : AExit → ATm → List AObj → Prop} : ∀ (n : Nat) (i_18 : Int) (o : (Unit) ⊕ (Unit)), Xab N l_0 l_1 i_3 n i_18 = some o → (match o with | .inl _ => R (.exit 2) ⟨75, [(0, .vec c_0 (List.map YP l_0)), (1, .vec c_1 (List.map YP l_1)), (5, .int .i64 i_3)], []⟩ [] | .inr (_) => R .ret ⟨75, [(4, .bool false)], []⟩ []) →
  ALp Try.prog 0 B36_2 ⟨75, [(0, .vec c_0 (List.map YP l_0)), (1, .vec c_1 (List.map YP l_1)), (5, .int .i64 i_3), (6, .int .i64 i_18)], []⟩ [] R := by
 intro n
 induction n with
 | zero =>
  intro i_18 o h _; exact no0 h
 | succ n ih =>
  intro i_18 o h hp; rw [Xab] at h; refine ALp.round ?_; generalize hQ : YB _ _ _ _ = QQ; obtain ⟨x_19, h_20, h⟩ := bindS h; have e_21 : (List.map YP l_0)[(i_3).toNat]? = some [.vec false (List.map eTLig x_19)] := XA YP h_20; have e_22 := eq_true (Xx h_20).1; have e_23 := eq_true (XP h_20); simp only [B36_2, B36_1, A36, e_21, e_22, e_23, go_sem, seval]; rcases iteS h with ⟨e_25, h⟩ | ⟨e_25, h⟩
  ·
   obtain ⟨x_26, h_27, h⟩ := bindS h; have e_28 : (List.map eTLig x_19)[(i_18).toNat]? = some [.vec false (List.map eI64 x_26.Parts), .int .i64 x_26.To] := XA eTLig h_27; have e_29 := eq_true (Xx h_27).1; have e_30 := eq_true (XP h_27); obtain ⟨x_31, h_32, h⟩ := bindS h; have e_33 : (List.map YP l_1)[(i_3).toNat]? = some [.vec false (List.map eTLig x_31)] := XA YP h_32; have e_34 := eq_true (Xx h_32).1; have e_35 := eq_true (XP h_32); obtain ⟨x_36, h_37, h⟩ := bindS h; have e_38 : (List.map eTLig x_31)[(i_18).toNat]? = some [.vec false (List.map eI64 x_36.Parts), .int .i64 x_36.To] := XA eTLig h_37; have e_39 := eq_true (Xx h_37).1; have e_40 := eq_true (XP h_37); simp only [e_21, e_22, e_23, e_25, e_28, e_29, e_30, e_33, e_34, e_35, e_38, e_39, e_40, go_sem, seval]; rcases iteS h with ⟨e_42, h⟩ | ⟨e_42, h⟩
   ·
    obtain ⟨y_43, h_44, h⟩ := bindS h; simp only [e_21, e_22, e_23, e_25, e_28, e_29, e_30, e_33, e_34, e_35, e_38, e_39, e_40, e_42, go_sem, seval]; refine Xa.use0 (Xfe N _ _ false false _ h_44) rfl rfl ?_; simp only [e_21, e_22, e_23, e_25, e_28, e_29, e_30, e_33, e_34, e_35, e_38, e_39, e_40, e_42, go_sem, seval]; rcases iteB h with ⟨e_46, h⟩ | ⟨e_46, h⟩
    · simp only [e_21, e_22, e_23, e_25, e_28, e_29, e_30, e_33, e_34, e_35, e_38, e_39, e_40, e_42, e_46, go_sem, seval]; rw [← hQ]; exact ⟨_, _, (Ref.out [0, 1, 5, 6] rfl), (Nat.zero_le _), ih _ _ h hp⟩
    · simp only [e_21, e_22, e_23, e_25, e_28, e_29, e_30, e_33, e_34, e_35, e_38, e_39, e_40, e_42, e_46, go_sem, seval]; cases h; rw [← hQ]; exact ⟨_, _, (Ref.out [4] rfl), hp⟩
   · simp only [e_21, e_22, e_23, e_25, e_28, e_29, e_30, e_33, e_34, e_35, e_38, e_39, e_40, e_42, go_sem, seval]; cases h; rw [← hQ]; exact ⟨_, _, (Ref.out [4] rfl), hp⟩
  · simp only [e_21, e_22, e_23, e_25, go_sem, seval]; cases h; rw [← hQ]; exact ⟨_, _, (Ref.out [0, 1, 5] rfl), hp⟩
theorem Xgd (N : Nat) (l_0 : List (List TLig)) (l_1 : List (List TLig)) (c_0 : Bool) (c_1 : Bool) {R : AExit → ATm → List AObj → Prop} : ∀ (n : Nat) (i_3 : Int) (o : (Unit) ⊕ (Unit)), QY N l_0 l_1 n i_3 = some o → (match o with | .inl _ => R (.exit 0) ⟨75, [], []⟩ [] | .inr (_) => R .ret ⟨75, [(4, .bool false)], []⟩ []) →
  ALp Try.prog 0 B36_1 ⟨75, [(0, .vec c_0 (List.map YP l_0)), (1, .vec c_1 (List.map YP l_1)), (5, .int .i64 i_3)], []⟩ [] R := by
 intro n
 induction n with
 | zero =>
  intro i_3 o h _; exact no0 h
 | succ n ih =>
  intro i_3 o h hp; rw [QY] at h; refine ALp.round ?_; generalize hQ : YB _ _ _ _ = QQ; simp only [B36_1, A36, go_sem, seval]; rcases iteS h with ⟨e_5, h⟩ | ⟨e_5, h⟩
  ·
   obtain ⟨x_6, h_7, h⟩ := bindS h; have e_8 : (List.map YP l_0)[(i_3).toNat]? = some [.vec false (List.map eTLig x_6)] := XA YP h_7; have e_9 := eq_true (Xx h_7).1; have e_10 := eq_true (XP h_7); obtain ⟨x_11, h_12, h⟩ := bindS h; have e_13 : (List.map YP l_1)[(i_3).toNat]? = some [.vec false (List.map eTLig x_11)] := XA YP h_12; have e_14 := eq_true (Xx h_12).1; have e_15 := eq_true (XP h_12); simp only [e_5, e_8, e_9, e_10, e_13, e_14, e_15, go_sem, seval]; rcases iteS h with ⟨e_17, h⟩ | ⟨e_17, h⟩
   ·
    simp only [e_5, e_8, e_9, e_10, e_13, e_14, e_15, e_17, go_sem, seval]; obtain ⟨o_1019, h_1018, h⟩ := bindS h; refine ALp.ref (Ref.out [0, 1, 5, 6] rfl) (Nat.zero_le _) (Xge N _ _ _ c_0 c_1 N _ o_1019 h_1018 ?_); rcases o_1019 with _ | _
    · (try dsimp only at h); refine XJ rfl (Nat.zero_le _) ?_; simp only [e_5, e_8, e_9, e_10, e_13, e_14, e_15, e_17, go_sem, seval]; rw [← hQ]; exact ⟨_, _, (Ref.out [0, 1, 5] rfl), (Nat.zero_le _), ih _ _ h hp⟩
    · (try dsimp only at h); refine Zj ?_; cases h; rw [← hQ]; exact ⟨_, _, (Ref.out [4] rfl), hp⟩
   · simp only [e_5, e_8, e_9, e_10, e_13, e_14, e_15, e_17, go_sem, seval]; cases h; rw [← hQ]; exact ⟨_, _, (Ref.out [4] rfl), hp⟩
  · simp only [e_5, go_sem, seval]; cases h; rw [← hQ]; exact ⟨_, _, (Ref.out [] rfl), hp⟩
theorem Xfb (N : Nat) (l_0 : List (List TLig)) (l_1 : List (List TLig)) (c_0 : Bool) (c_1 : Bool) (z_1 : Bool) (h : Xam N l_0 l_1 = some z_1) :
  Xa Try.prog 36 [.vec c_0 (List.map YP l_0), .vec c_1 (List.map YP l_1)] [] (fun e H => H = [] ∧ e = .ret (.bool z_1)) := by
 unfold Xam at h; refine Xa.goN Try.func36 n36 a36 Try.ntmps36 r36 (by simp) 0 rfl ?_; generalize hQ : bodyA _ _ _ = QQ; simp only [A36, go_sem, seval]; rcases iteS h with ⟨e_2, h⟩ | ⟨e_2, h⟩
 ·
  simp only [e_2, go_sem, seval]; obtain ⟨o_1004, h_1003, h⟩ := bindS h; refine ALp.ref (Ref.out [0, 1, 5] rfl) (Nat.zero_le _) (Xgd N _ _ c_0 c_1 N _ o_1004 h_1003 ?_); rcases o_1004 with _ | _
  · (try dsimp only at h); refine XJ rfl (Nat.zero_le _) ?_; simp only [e_2, go_sem, seval]; obtain rfl := si h; rw [← hQ]; exact ⟨rfl, _, rfl, _, _, (RefV.out rfl), rfl, rfl⟩
  · (try dsimp only at h); refine Zj ?_; obtain rfl := si h; rw [← hQ]; exact ⟨rfl, _, rfl, _, _, (RefV.out rfl), rfl, rfl⟩
 · simp only [e_2, go_sem, seval]; obtain rfl := si h; rw [← hQ]; exact ⟨rfl, _, rfl, _, _, (RefV.out rfl), rfl, rfl⟩
theorem Xdq (N : Nat) (l_0 : List TSet) (l_1 : List TSet) (c_0 : Bool) (c_1 : Bool) {R : AExit → ATm → List AObj → Prop} : ∀ (n : Nat) (i_3 : Int) (o : (Unit) ⊕ (Unit)), YQ N l_0 l_1 n i_3 = some o → (match o with | .inl _ => R (.exit 0) ⟨42, [], []⟩ [] | .inr (_) => R .ret ⟨42, [(4, .bool false)], []⟩ []) →
  ALp Try.prog 0 B63_1 ⟨42, [(0, .vec c_0 (List.map eTSet l_0)), (1, .vec c_1 (List.map eTSet l_1)), (5, .int .i64 i_3)], []⟩ [] R := by
 intro n
 induction n with
 | zero =>
  intro i_3 o h _; exact no0 h
 | succ n ih =>
  intro i_3 o h hp; rw [YQ] at h; refine ALp.round ?_; generalize hQ : YB _ _ _ _ = QQ; simp only [B63_1, A63, go_sem, seval]; rcases iteS h with ⟨e_5, h⟩ | ⟨e_5, h⟩
  ·
   obtain ⟨x_6, h_7, h⟩ := bindS h; have e_8 : (List.map eTSet l_0)[(i_3).toNat]? = some [.vec false (List.map Xi x_6.Spans), .bool x_6.Not] := XA eTSet h_7; have e_9 := eq_true (Xx h_7).1; have e_10 := eq_true (XP h_7); obtain ⟨x_11, h_12, h⟩ := bindS h; have e_13 : (List.map eTSet l_1)[(i_3).toNat]? = some [.vec false (List.map Xi x_11.Spans), .bool x_11.Not] := XA eTSet h_12; have e_14 := eq_true (Xx h_12).1; have e_15 := eq_true (XP h_12); simp only [e_5, e_8, e_9, e_10, e_13, e_14, e_15, go_sem, seval]; by_cases h_16 : x_6.Not = true
   ·
    rw [if_pos h_16] at h; have e_17 : x_6.Not = true := h_16; simp only [e_5, e_8, e_9, e_10, e_13, e_14, e_15, e_17, go_sem, seval]; by_cases h_18 : x_11.Not = true
    ·
     rw [if_pos h_18] at h; have e_19 : x_11.Not = true := h_18; obtain ⟨y_20, h_21, h⟩ := bindS h; simp only [e_5, e_8, e_9, e_10, e_13, e_14, e_15, e_17, e_19, go_sem, seval]; refine Xa.use0 (Xa3 N _ _ false false _ h_21) rfl rfl ?_; simp only [e_5, e_8, e_9, e_10, e_13, e_14, e_15, e_17, e_19, go_sem, seval]; rcases iteB h with ⟨e_23, h⟩ | ⟨e_23, h⟩
     · simp only [e_5, e_8, e_9, e_10, e_13, e_14, e_15, e_17, e_19, e_23, go_sem, seval]; rw [← hQ]; exact ⟨_, _, (Ref.out [0, 1, 5] rfl), (Nat.zero_le _), ih _ _ h hp⟩
     · simp only [e_5, e_8, e_9, e_10, e_13, e_14, e_15, e_17, e_19, e_23, go_sem, seval]; cases h; rw [← hQ]; exact ⟨_, _, (Ref.out [4] rfl), hp⟩
    · rw [if_neg h_18] at h; have e_19 : x_11.Not = false := JJ h_18; simp only [e_5, e_8, e_9, e_10, e_13, e_14, e_15, e_17, e_19, go_sem, seval]; cases h; rw [← hQ]; exact ⟨_, _, (Ref.out [4] rfl), hp⟩
   ·
    rw [if_neg h_16] at h; have e_17 : x_6.Not = false := JJ h_16; simp only [e_5, e_8, e_9, e_10, e_13, e_14, e_15, e_17, go_sem, seval]; by_cases h_24 : x_11.Not = true
    · rw [if_pos h_24] at h; have e_25 : x_11.Not = true := h_24; simp only [e_5, e_8, e_9, e_10, e_13, e_14, e_15, e_17, e_25, go_sem, seval]; cases h; rw [← hQ]; exact ⟨_, _, (Ref.out [4] rfl), hp⟩
    ·
     rw [if_neg h_24] at h; have e_25 : x_11.Not = false := JJ h_24; obtain ⟨y_26, h_27, h⟩ := bindS h; simp only [e_5, e_8, e_9, e_10, e_13, e_14, e_15, e_17, e_25, go_sem, seval]; refine Xa.use0 (Xa3 N _ _ false false _ h_27) rfl rfl ?_; simp only [e_5, e_8, e_9, e_10, e_13, e_14, e_15, e_17, e_25, go_sem, seval]; rcases iteB h with ⟨e_29, h⟩ | ⟨e_29, h⟩
     · simp only [e_5, e_8, e_9, e_10, e_13, e_14, e_15, e_17, e_25, e_29, go_sem, seval]; rw [← hQ]; exact ⟨_, _, (Ref.out [0, 1, 5] rfl), (Nat.zero_le _), ih _ _ h hp⟩
     · simp only [e_5, e_8, e_9, e_10, e_13, e_14, e_15, e_17, e_25, e_29, go_sem, seval]; cases h; rw [← hQ]; exact ⟨_, _, (Ref.out [4] rfl), hp⟩
  · simp only [e_5, go_sem, seval]; cases h; rw [← hQ]; exact ⟨_, _, (Ref.out [] rfl), hp⟩
theorem JX (N : Nat) (l_0 : List TSet) (l_1 : List TSet) (c_0 : Bool) (c_1 : Bool) (z_1 : Bool) (h : Qu N l_0 l_1 = some z_1) :
  Xa Try.prog 63 [.vec c_0 (List.map eTSet l_0), .vec c_1 (List.map eTSet l_1)] [] (fun e H => H = [] ∧ e = .ret (.bool z_1)) := by
 unfold Qu at h; refine Xa.goN Try.func63 n63 a63 Try.ntmps63 r63 (by simp) 0 rfl ?_; generalize hQ : bodyA _ _ _ = QQ; simp only [A63, go_sem, seval]; rcases iteS h with ⟨e_2, h⟩ | ⟨e_2, h⟩
 ·
  simp only [e_2, go_sem, seval]; obtain ⟨o_1004, h_1003, h⟩ := bindS h; refine ALp.ref (Ref.out [0, 1, 5] rfl) (Nat.zero_le _) (Xdq N _ _ c_0 c_1 N _ o_1004 h_1003 ?_); rcases o_1004 with _ | _
  · (try dsimp only at h); refine XJ rfl (Nat.zero_le _) ?_; simp only [e_2, go_sem, seval]; obtain rfl := si h; rw [← hQ]; exact ⟨rfl, _, rfl, _, _, (RefV.out rfl), rfl, rfl⟩
  · (try dsimp only at h); refine Zj ?_; obtain rfl := si h; rw [← hQ]; exact ⟨rfl, _, rfl, _, _, (RefV.out rfl), rfl, rfl⟩
 · simp only [e_2, go_sem, seval]; obtain rfl := si h; rw [← hQ]; exact ⟨rfl, _, rfl, _, _, (RefV.out rfl), rfl, rfl⟩
theorem Xgg (N : Nat) (l_0 : List TCtx) (l_1 : List TCtx) (i_3 : Int) (c_0 : Bool) (c_1 : Bool) {R : AExit → ATm → List AObj → Prop} : ∀ (n : Nat) (i_30 : Int) (o : (Unit) ⊕ (Unit)), Qi N l_0 l_1 i_3 n i_30 = some o → (match o with | .inl _ => R (.exit 2) ⟨100, [(0, .vec c_0 (List.map eTCtx l_0)), (1, .vec c_1 (List.map eTCtx l_1)), (5, .int .i64 i_3)], []⟩ [] | .inr (_) => R .ret ⟨100, [(4, .bool false)], []⟩ []) →
  ALp Try.prog 0 B37_2 ⟨100, [(0, .vec c_0 (List.map eTCtx l_0)), (1, .vec c_1 (List.map eTCtx l_1)), (5, .int .i64 i_3), (6, .int .i64 i_30)], []⟩ [] R := by
 intro n
 induction n with
 | zero =>
  intro i_30 o h _; exact no0 h
 | succ n ih =>
  intro i_30 o h hp; rw [Qi] at h; refine ALp.round ?_; generalize hQ : YB _ _ _ _ = QQ; obtain ⟨x_31, h_32, h⟩ := bindS h; have e_33 : (List.map eTCtx l_0)[(i_3).toNat]? = some [.vec false (List.map eTSet x_31.Back), .vec false (List.map eTSet x_31.In), .vec false (List.map eTSet x_31.Ahead), .vec false (List.map eTAct x_31.Acts)] := XA eTCtx h_32; have e_34 := eq_true (Xx h_32).1; have e_35 := eq_true (XP h_32); simp only [B37_2, B37_1, A37, e_33, e_34, e_35, go_sem, seval]; rcases iteS h with ⟨e_37, h⟩ | ⟨e_37, h⟩
  ·
   obtain ⟨x_38, h_39, h⟩ := bindS h; have e_40 : (List.map eTAct x_31.Acts)[(i_30).toNat]? = some [.int .i64 x_38.At, .int .i64 x_38.Lookup] := XA eTAct h_39; have e_41 := eq_true (Xx h_39).1; have e_42 := eq_true (XP h_39); obtain ⟨x_43, h_44, h⟩ := bindS h; have e_45 : (List.map eTCtx l_1)[(i_3).toNat]? = some [.vec false (List.map eTSet x_43.Back), .vec false (List.map eTSet x_43.In), .vec false (List.map eTSet x_43.Ahead), .vec false (List.map eTAct x_43.Acts)] := XA eTCtx h_44; have e_46 := eq_true (Xx h_44).1; have e_47 := eq_true (XP h_44); obtain ⟨x_48, h_49, h⟩ := bindS h; have e_50 : (List.map eTAct x_43.Acts)[(i_30).toNat]? = some [.int .i64 x_48.At, .int .i64 x_48.Lookup] := XA eTAct h_49; have e_51 := eq_true (Xx h_49).1; have e_52 := eq_true (XP h_49); simp only [e_33, e_34, e_35, e_37, e_40, e_41, e_42, e_45, e_46, e_47, e_50, e_51, e_52, go_sem, seval]; rcases iteS h with ⟨e_54, h⟩ | ⟨e_54, h⟩
   ·
    simp only [e_33, e_34, e_35, e_37, e_40, e_41, e_42, e_45, e_46, e_47, e_50, e_51, e_52, e_54, go_sem, seval]; rcases iteS h with ⟨e_56, h⟩ | ⟨e_56, h⟩
    · simp only [e_33, e_34, e_35, e_37, e_40, e_41, e_42, e_45, e_46, e_47, e_50, e_51, e_52, e_54, e_56, go_sem, seval]; rw [← hQ]; exact ⟨_, _, (Ref.out [0, 1, 5, 6] rfl), (Nat.zero_le _), ih _ _ h hp⟩
    · simp only [e_33, e_34, e_35, e_37, e_40, e_41, e_42, e_45, e_46, e_47, e_50, e_51, e_52, e_54, e_56, go_sem, seval]; cases h; rw [← hQ]; exact ⟨_, _, (Ref.out [4] rfl), hp⟩
   · simp only [e_33, e_34, e_35, e_37, e_40, e_41, e_42, e_45, e_46, e_47, e_50, e_51, e_52, e_54, go_sem, seval]; cases h; rw [← hQ]; exact ⟨_, _, (Ref.out [4] rfl), hp⟩
  · simp only [e_33, e_34, e_35, e_37, go_sem, seval]; cases h; rw [← hQ]; exact ⟨_, _, (Ref.out [0, 1, 5] rfl), hp⟩
theorem Xgf (N : Nat) (l_0 : List TCtx) (l_1 : List TCtx) (c_0 : Bool) (c_1 : Bool) {R : AExit → ATm → List AObj → Prop} : ∀ (n : Nat) (i_3 : Int) (o : (Unit) ⊕ (Unit)), Qh N l_0 l_1 n i_3 = some o → (match o with | .inl _ => R (.exit 0) ⟨100, [], []⟩ [] | .inr (_) => R .ret ⟨100, [(4, .bool false)], []⟩ []) →
  ALp Try.prog 0 B37_1 ⟨100, [(0, .vec c_0 (List.map eTCtx l_0)), (1, .vec c_1 (List.map eTCtx l_1)), (5, .int .i64 i_3)], []⟩ [] R := by
 intro n
 induction n with
 | zero =>
  intro i_3 o h _; exact no0 h
 | succ n ih =>
  intro i_3 o h hp; rw [Qh] at h; refine ALp.round ?_; generalize hQ : YB _ _ _ _ = QQ; simp only [B37_1, A37, go_sem, seval]; rcases iteS h with ⟨e_5, h⟩ | ⟨e_5, h⟩
  ·
   obtain ⟨x_6, h_7, h⟩ := bindS h; have e_8 : (List.map eTCtx l_0)[(i_3).toNat]? = some [.vec false (List.map eTSet x_6.Back), .vec false (List.map eTSet x_6.In), .vec false (List.map eTSet x_6.Ahead), .vec false (List.map eTAct x_6.Acts)] := XA eTCtx h_7; have e_9 := eq_true (Xx h_7).1; have e_10 := eq_true (XP h_7); obtain ⟨x_11, h_12, h⟩ := bindS h; have e_13 : (List.map eTCtx l_1)[(i_3).toNat]? = some [.vec false (List.map eTSet x_11.Back), .vec false (List.map eTSet x_11.In), .vec false (List.map eTSet x_11.Ahead), .vec false (List.map eTAct x_11.Acts)] := XA eTCtx h_12; have e_14 := eq_true (Xx h_12).1; have e_15 := eq_true (XP h_12); obtain ⟨y_16, h_17, h⟩ := bindS h; simp only [e_5, e_8, e_9, e_10, e_13, e_14, e_15, go_sem, seval]; refine Xa.use0 (JX N _ _ false false _ h_17) rfl rfl ?_; simp only [e_5, e_8, e_9, e_10, e_13, e_14, e_15, go_sem, seval]; rcases iteB h with ⟨e_19, h⟩ | ⟨e_19, h⟩
   ·
    obtain ⟨y_20, h_21, h⟩ := bindS h; simp only [e_5, e_8, e_9, e_10, e_13, e_14, e_15, e_19, go_sem, seval]; refine Xa.use0 (JX N _ _ false false _ h_21) rfl rfl ?_; simp only [e_5, e_8, e_9, e_10, e_13, e_14, e_15, e_19, go_sem, seval]; rcases iteB h with ⟨e_23, h⟩ | ⟨e_23, h⟩
    ·
     obtain ⟨y_24, h_25, h⟩ := bindS h; simp only [e_5, e_8, e_9, e_10, e_13, e_14, e_15, e_19, e_23, go_sem, seval]; refine Xa.use0 (JX N _ _ false false _ h_25) rfl rfl ?_; simp only [e_5, e_8, e_9, e_10, e_13, e_14, e_15, e_19, e_23, go_sem, seval]; rcases iteB h with ⟨e_27, h⟩ | ⟨e_27, h⟩
     ·
      simp only [e_5, e_8, e_9, e_10, e_13, e_14, e_15, e_19, e_23, e_27, go_sem, seval]; rcases iteS h with ⟨e_29, h⟩ | ⟨e_29, h⟩
      ·
       simp only [e_5, e_8, e_9, e_10, e_13, e_14, e_15, e_19, e_23, e_27, e_29, go_sem, seval]; obtain ⟨o_1031, h_1030, h⟩ := bindS h; refine ALp.ref (Ref.out [0, 1, 5, 6] rfl) (Nat.zero_le _) (Xgg N _ _ _ c_0 c_1 N _ o_1031 h_1030 ?_); rcases o_1031 with _ | _
       · (try dsimp only at h); refine XJ rfl (Nat.zero_le _) ?_; simp only [e_5, e_8, e_9, e_10, e_13, e_14, e_15, e_19, e_23, e_27, e_29, go_sem, seval]; rw [← hQ]; exact ⟨_, _, (Ref.out [0, 1, 5] rfl), (Nat.zero_le _), ih _ _ h hp⟩
       · (try dsimp only at h); refine Zj ?_; cases h; rw [← hQ]; exact ⟨_, _, (Ref.out [4] rfl), hp⟩
      · simp only [e_5, e_8, e_9, e_10, e_13, e_14, e_15, e_19, e_23, e_27, e_29, go_sem, seval]; cases h; rw [← hQ]; exact ⟨_, _, (Ref.out [4] rfl), hp⟩
     · simp only [e_5, e_8, e_9, e_10, e_13, e_14, e_15, e_19, e_23, e_27, go_sem, seval]; cases h; rw [← hQ]; exact ⟨_, _, (Ref.out [4] rfl), hp⟩
    · simp only [e_5, e_8, e_9, e_10, e_13, e_14, e_15, e_19, e_23, go_sem, seval]; cases h; rw [← hQ]; exact ⟨_, _, (Ref.out [4] rfl), hp⟩
   · simp only [e_5, e_8, e_9, e_10, e_13, e_14, e_15, e_19, go_sem, seval]; cases h; rw [← hQ]; exact ⟨_, _, (Ref.out [4] rfl), hp⟩
  · simp only [e_5, go_sem, seval]; cases h; rw [← hQ]; exact ⟨_, _, (Ref.out [] rfl), hp⟩
theorem Xfc (N : Nat) (l_0 : List TCtx) (l_1 : List TCtx) (c_0 : Bool) (c_1 : Bool) (z_1 : Bool) (h : Xan N l_0 l_1 = some z_1) :
  Xa Try.prog 37 [.vec c_0 (List.map eTCtx l_0), .vec c_1 (List.map eTCtx l_1)] [] (fun e H => H = [] ∧ e = .ret (.bool z_1)) := by
 unfold Xan at h; refine Xa.goN Try.func37 n37 a37 Try.ntmps37 r37 (by simp) 0 rfl ?_; generalize hQ : bodyA _ _ _ = QQ; simp only [A37, go_sem, seval]; rcases iteS h with ⟨e_2, h⟩ | ⟨e_2, h⟩
 ·
  simp only [e_2, go_sem, seval]; obtain ⟨o_1004, h_1003, h⟩ := bindS h; refine ALp.ref (Ref.out [0, 1, 5] rfl) (Nat.zero_le _) (Xgf N _ _ c_0 c_1 N _ o_1004 h_1003 ?_); rcases o_1004 with _ | _
  · (try dsimp only at h); refine XJ rfl (Nat.zero_le _) ?_; simp only [e_2, go_sem, seval]; obtain rfl := si h; rw [← hQ]; exact ⟨rfl, _, rfl, _, _, (RefV.out rfl), rfl, rfl⟩
  · (try dsimp only at h); refine Zj ?_; obtain rfl := si h; rw [← hQ]; exact ⟨rfl, _, rfl, _, _, (RefV.out rfl), rfl, rfl⟩
 · simp only [e_2, go_sem, seval]; obtain rfl := si h; rw [← hQ]; exact ⟨rfl, _, rfl, _, _, (RefV.out rfl), rfl, rfl⟩
theorem Xiy (N : Nat) (a_0 : Int) (l_1 : List TSpan) (b_2 : Bool) (a_3 : Int) (l_4 : List (List Int)) (l_5 : List (List TLig)) (l_6 : List TCtx) (l_7 : List Yg) (l_8 : List (List TTwo)) (l_9 : List Xg) (l_10 : List Xg) (l_11 : List (List TTwo)) (l_12 : List Xp) (l_13 : List TMark) (l_14 : List TSpan) (l_15 : List (List (List Xw))) (a_16 : Int) (l_17 : List TSpan) (b_18 : Bool) (a_19 : Int) (l_20 : List (List Int)) (l_21 : List (List TLig)) (l_22 : List TCtx) (l_23 : List Yg) (l_24 : List (List TTwo)) (l_25 : List Xg) (l_26 : List Xg) (l_27 : List (List TTwo)) (l_28 : List Xp) (l_29 : List TMark) (l_30 : List TSpan) (l_31 : List (List (List Xw))) (c_0 : Bool) (c_1 : Bool) (c_2 : Bool) (c_3 : Bool) (c_4 : Bool) (c_5 : Bool) (c_6 : Bool) (c_7 : Bool) (c_8 : Bool) (c_9 : Bool) (c_10 : Bool) (c_11 : Bool) (c_12 : Bool) (c_13 : Bool) (c_14 : Bool) (c_15 : Bool) (c_16 : Bool) (c_17 : Bool) (c_18 : Bool) (c_19 : Bool) (c_20 : Bool) (c_21 : Bool) (c_22 : Bool) (c_23 : Bool) (c_24 : Bool) (c_25 : Bool) (z_1 : Bool) (h : Xbe N a_0 l_1 b_2 a_3 l_4 l_5 l_6 l_7 l_8 l_9 l_10 l_11 l_12 l_13 l_14 l_15 a_16 l_17 b_18 a_19 l_20 l_21 l_22 l_23 l_24 l_25 l_26 l_27 l_28 l_29 l_30 l_31 = some z_1) :
  Xa Try.prog 13 [.agg [.int .i64 a_0, .vec c_0 (List.map Xi l_1), .bool b_2, .int .i64 a_3, .vec c_1 (List.map eLI64 l_4), .vec c_2 (List.map YP l_5), .vec c_3 (List.map eTCtx l_6), .vec c_4 (List.map XU l_7), .vec c_5 (List.map XC l_8), .vec c_6 (List.map Xh l_9), .vec c_7 (List.map Xh l_10), .vec c_8 (List.map XC l_11), .vec c_9 (List.map Xm l_12), .vec c_10 (List.map YD l_13), .vec c_11 (List.map Xi l_14), .vec c_12 (List.map Xl l_15)], .agg [.int .i64 a_16, .vec c_13 (List.map Xi l_17), .bool b_18, .int .i64 a_19, .vec c_14 (List.map eLI64 l_20), .vec c_15 (List.map YP l_21), .vec c_16 (List.map eTCtx l_22), .vec c_17 (List.map XU l_23), .vec c_18 (List.map XC l_24), .vec c_19 (List.map Xh l_25), .vec c_20 (List.map Xh l_26), .vec c_21 (List.map XC l_27), .vec c_22 (List.map Xm l_28), .vec c_23 (List.map YD l_29), .vec c_24 (List.map Xi l_30), .vec c_25 (List.map Xl l_31)]] [] (fun e H => H = [] ∧ e = .ret (.bool z_1)) := by
 unfold Xbe at h; refine Xa.goN Try.func13 n13 a13 Try.ntmps13 r13 (by simp) 0 rfl ?_; generalize hQ : bodyA _ _ _ = QQ; simp only [A13, go_sem, seval]; rcases iteS h with ⟨e_2, h⟩ | ⟨e_2, h⟩
 ·
  obtain ⟨y_3, h_4, h⟩ := bindS h; simp only [e_2, go_sem, seval]; refine Xa.go0 (Xa3 N _ _ c_0 c_13 _ h_4) ?_; simp only [e_2, go_sem, seval]; rcases iteB h with ⟨e_6, h⟩ | ⟨e_6, h⟩
  ·
   simp only [e_2, e_6, go_sem, seval]; rcases iteB h with ⟨e_8, h⟩ | ⟨e_8, h⟩
   ·
    simp only [e_2, e_6, e_8, go_sem, seval]; rcases iteB h with ⟨e_10, h⟩ | ⟨e_10, h⟩
    ·
     simp only [e_2, e_6, e_8, e_10, go_sem, seval]; rcases iteS h with ⟨e_12, h⟩ | ⟨e_12, h⟩
     ·
      obtain ⟨y_13, h_14, h⟩ := bindS h; simp only [e_2, e_6, e_8, e_10, e_12, go_sem, seval]; refine Xa.go0 (Xd5 N _ _ c_1 c_14 _ h_14) ?_; simp only [e_2, e_6, e_8, e_10, e_12, go_sem, seval]; rcases iteB h with ⟨e_16, h⟩ | ⟨e_16, h⟩
      ·
       obtain ⟨y_17, h_18, h⟩ := bindS h; simp only [e_2, e_6, e_8, e_10, e_12, e_16, go_sem, seval]; refine Xa.go0 (Xfb N _ _ c_2 c_15 _ h_18) ?_; simp only [e_2, e_6, e_8, e_10, e_12, e_16, go_sem, seval]; rcases iteB h with ⟨e_20, h⟩ | ⟨e_20, h⟩
       · obtain ⟨y_21, h_22, h⟩ := bindS h; simp only [e_2, e_6, e_8, e_10, e_12, e_16, e_20, go_sem, seval]; refine Xa.go0 (Xfc N _ _ c_3 c_16 _ h_22) ?_; simp only [e_2, e_6, e_8, e_10, e_12, e_16, e_20, go_sem, seval]; obtain rfl := si h; rw [← hQ]; exact ⟨rfl, _, rfl, _, _, (RefV.out (by first | rfl | simp only [go_sem, seval, e_2, e_6, e_8, e_10, e_12, e_16, e_20])), rfl, rfl⟩
       · simp only [e_2, e_6, e_8, e_10, e_12, e_16, e_20, go_sem, seval]; obtain rfl := si h; rw [← hQ]; exact ⟨rfl, _, rfl, _, _, (RefV.out rfl), rfl, rfl⟩
      · simp only [e_2, e_6, e_8, e_10, e_12, e_16, go_sem, seval]; obtain rfl := si h; rw [← hQ]; exact ⟨rfl, _, rfl, _, _, (RefV.out rfl), rfl, rfl⟩
     · simp only [e_2, e_6, e_8, e_10, e_12, go_sem, seval]; obtain rfl := si h; rw [← hQ]; exact ⟨rfl, _, rfl, _, _, (RefV.out rfl), rfl, rfl⟩
    · simp only [e_2, e_6, e_8, e_10, go_sem, seval]; obtain rfl := si h; rw [← hQ]; exact ⟨rfl, _, rfl, _, _, (RefV.out rfl), rfl, rfl⟩
   ·
    simp only [e_2, e_6, e_8, go_sem, seval]; rcases iteB h with ⟨e_24, h⟩ | ⟨e_24, h⟩
    · simp only [e_2, e_6, e_8, e_24, go_sem, seval]; obtain rfl := si h; rw [← hQ]; exact ⟨rfl, _, rfl, _, _, (RefV.out rfl), rfl, rfl⟩
    ·
     simp only [e_2, e_6, e_8, e_24, go_sem, seval]; rcases iteS h with ⟨e_26, h⟩ | ⟨e_26, h⟩
     ·
      obtain ⟨y_27, h_28, h⟩ := bindS h; simp only [e_2, e_6, e_8, e_24, e_26, go_sem, seval]; refine Xa.go0 (Xd5 N _ _ c_1 c_14 _ h_28) ?_; simp only [e_2, e_6, e_8, e_24, e_26, go_sem, seval]; rcases iteB h with ⟨e_30, h⟩ | ⟨e_30, h⟩
      ·
       obtain ⟨y_31, h_32, h⟩ := bindS h; simp only [e_2, e_6, e_8, e_24, e_26, e_30, go_sem, seval]; refine Xa.go0 (Xfb N _ _ c_2 c_15 _ h_32) ?_; simp only [e_2, e_6, e_8, e_24, e_26, e_30, go_sem, seval]; rcases iteB h with ⟨e_34, h⟩ | ⟨e_34, h⟩
       · obtain ⟨y_35, h_36, h⟩ := bindS h; simp only [e_2, e_6, e_8, e_24, e_26, e_30, e_34, go_sem, seval]; refine Xa.go0 (Xfc N _ _ c_3 c_16 _ h_36) ?_; simp only [e_2, e_6, e_8, e_24, e_26, e_30, e_34, go_sem, seval]; obtain rfl := si h; rw [← hQ]; exact ⟨rfl, _, rfl, _, _, (RefV.out (by first | rfl | simp only [go_sem, seval, e_2, e_6, e_8, e_24, e_26, e_30, e_34])), rfl, rfl⟩
       · simp only [e_2, e_6, e_8, e_24, e_26, e_30, e_34, go_sem, seval]; obtain rfl := si h; rw [← hQ]; exact ⟨rfl, _, rfl, _, _, (RefV.out rfl), rfl, rfl⟩
      · simp only [e_2, e_6, e_8, e_24, e_26, e_30, go_sem, seval]; obtain rfl := si h; rw [← hQ]; exact ⟨rfl, _, rfl, _, _, (RefV.out rfl), rfl, rfl⟩
     · simp only [e_2, e_6, e_8, e_24, e_26, go_sem, seval]; obtain rfl := si h; rw [← hQ]; exact ⟨rfl, _, rfl, _, _, (RefV.out rfl), rfl, rfl⟩
  · simp only [e_2, e_6, go_sem, seval]; obtain rfl := si h; rw [← hQ]; exact ⟨rfl, _, rfl, _, _, (RefV.out rfl), rfl, rfl⟩
 · simp only [e_2, go_sem, seval]; obtain rfl := si h; rw [← hQ]; exact ⟨rfl, _, rfl, _, _, (RefV.out rfl), rfl, rfl⟩
theorem Xb7 (N : Nat) (l_0 : List Xg) (l_1 : List Xg) (c_0 : Bool) (c_1 : Bool) {R : AExit → ATm → List AObj → Prop} : ∀ (n : Nat) (i_3 : Int) (o : (Unit) ⊕ (Unit)), YT N l_0 l_1 n i_3 = some o → (match o with | .inl _ => R (.exit 0) ⟨26, [], []⟩ [] | .inr (_) => R .ret ⟨26, [(4, .bool false)], []⟩ []) →
  ALp Try.prog 0 B42_1 ⟨26, [(0, .vec c_0 (List.map Xh l_0)), (1, .vec c_1 (List.map Xh l_1)), (5, .int .i64 i_3)], []⟩ [] R := by
 intro n
 induction n with
 | zero =>
  intro i_3 o h _; exact no0 h
 | succ n ih =>
  intro i_3 o h hp; rw [YT] at h; refine ALp.round ?_; generalize hQ : YB _ _ _ _ = QQ; simp only [B42_1, A42, go_sem, seval]; rcases iteS h with ⟨e_5, h⟩ | ⟨e_5, h⟩
  ·
   obtain ⟨x_6, h_7, h⟩ := bindS h; have e_8 : (List.map Xh l_0)[(i_3).toNat]? = some [.int .i64 x_6.From, .int .i64 x_6.To, .int .i64 x_6.Class] := XA Xh h_7; have e_9 := eq_true (Xx h_7).1; have e_10 := eq_true (XP h_7); obtain ⟨x_11, h_12, h⟩ := bindS h; have e_13 : (List.map Xh l_1)[(i_3).toNat]? = some [.int .i64 x_11.From, .int .i64 x_11.To, .int .i64 x_11.Class] := XA Xh h_12; have e_14 := eq_true (Xx h_12).1; have e_15 := eq_true (XP h_12); simp only [e_5, e_8, e_9, e_10, e_13, e_14, e_15, go_sem, seval]; rcases iteS h with ⟨e_17, h⟩ | ⟨e_17, h⟩
   ·
    simp only [e_5, e_8, e_9, e_10, e_13, e_14, e_15, e_17, go_sem, seval]; rcases iteS h with ⟨e_19, h⟩ | ⟨e_19, h⟩
    ·
     simp only [e_5, e_8, e_9, e_10, e_13, e_14, e_15, e_17, e_19, go_sem, seval]; rcases iteS h with ⟨e_21, h⟩ | ⟨e_21, h⟩
     · simp only [e_5, e_8, e_9, e_10, e_13, e_14, e_15, e_17, e_19, e_21, go_sem, seval]; rw [← hQ]; exact ⟨_, _, (Ref.out [0, 1, 5] rfl), (Nat.zero_le _), ih _ _ h hp⟩
     · simp only [e_5, e_8, e_9, e_10, e_13, e_14, e_15, e_17, e_19, e_21, go_sem, seval]; cases h; rw [← hQ]; exact ⟨_, _, (Ref.out [4] rfl), hp⟩
    · simp only [e_5, e_8, e_9, e_10, e_13, e_14, e_15, e_17, e_19, go_sem, seval]; cases h; rw [← hQ]; exact ⟨_, _, (Ref.out [4] rfl), hp⟩
   · simp only [e_5, e_8, e_9, e_10, e_13, e_14, e_15, e_17, go_sem, seval]; cases h; rw [← hQ]; exact ⟨_, _, (Ref.out [4] rfl), hp⟩
  · simp only [e_5, go_sem, seval]; cases h; rw [← hQ]; exact ⟨_, _, (Ref.out [] rfl), hp⟩
theorem Xat (N : Nat) (l_0 : List Xg) (l_1 : List Xg) (c_0 : Bool) (c_1 : Bool) (z_1 : Bool) (h : ZW N l_0 l_1 = some z_1) :
  Xa Try.prog 42 [.vec c_0 (List.map Xh l_0), .vec c_1 (List.map Xh l_1)] [] (fun e H => H = [] ∧ e = .ret (.bool z_1)) := by
 unfold ZW at h; refine Xa.goN Try.func42 n42 a42 Try.ntmps42 r42 (by simp) 0 rfl ?_; generalize hQ : bodyA _ _ _ = QQ; simp only [A42, go_sem, seval]; rcases iteS h with ⟨e_2, h⟩ | ⟨e_2, h⟩
 ·
  simp only [e_2, go_sem, seval]; obtain ⟨o_1004, h_1003, h⟩ := bindS h; refine ALp.ref (Ref.out [0, 1, 5] rfl) (Nat.zero_le _) (Xb7 N _ _ c_0 c_1 N _ o_1004 h_1003 ?_); rcases o_1004 with _ | _
  · (try dsimp only at h); refine XJ rfl (Nat.zero_le _) ?_; simp only [e_2, go_sem, seval]; obtain rfl := si h; rw [← hQ]; exact ⟨rfl, _, rfl, _, _, (RefV.out rfl), rfl, rfl⟩
  · (try dsimp only at h); refine Zj ?_; obtain rfl := si h; rw [← hQ]; exact ⟨rfl, _, rfl, _, _, (RefV.out rfl), rfl, rfl⟩
 · simp only [e_2, go_sem, seval]; obtain rfl := si h; rw [← hQ]; exact ⟨rfl, _, rfl, _, _, (RefV.out rfl), rfl, rfl⟩
theorem Xgc (N : Nat) (a_0 : Int) (l_1 : List TSpan) (b_2 : Bool) (a_3 : Int) (l_4 : List (List Int)) (l_5 : List (List TLig)) (l_6 : List TCtx) (l_7 : List Yg) (l_8 : List (List TTwo)) (l_9 : List Xg) (l_10 : List Xg) (l_11 : List (List TTwo)) (l_12 : List Xp) (l_13 : List TMark) (l_14 : List TSpan) (l_15 : List (List (List Xw))) (a_16 : Int) (l_17 : List TSpan) (b_18 : Bool) (a_19 : Int) (l_20 : List (List Int)) (l_21 : List (List TLig)) (l_22 : List TCtx) (l_23 : List Yg) (l_24 : List (List TTwo)) (l_25 : List Xg) (l_26 : List Xg) (l_27 : List (List TTwo)) (l_28 : List Xp) (l_29 : List TMark) (l_30 : List TSpan) (l_31 : List (List (List Xw))) (c_0 : Bool) (c_1 : Bool) (c_2 : Bool) (c_3 : Bool) (c_4 : Bool) (c_5 : Bool) (c_6 : Bool) (c_7 : Bool) (c_8 : Bool) (c_9 : Bool) (c_10 : Bool) (c_11 : Bool) (c_12 : Bool) (c_13 : Bool) (c_14 : Bool) (c_15 : Bool) (c_16 : Bool) (c_17 : Bool) (c_18 : Bool) (c_19 : Bool) (c_20 : Bool) (c_21 : Bool) (c_22 : Bool) (c_23 : Bool) (c_24 : Bool) (c_25 : Bool) {R : AExit → ATm → List AObj → Prop} : ∀ (n : Nat) (i_23 : Int) (o : (Unit) ⊕ (Unit)), QG N a_0 l_1 b_2 a_3 l_4 l_5 l_6 l_7 l_8 l_9 l_10 l_11 l_12 l_13 l_14 l_15 a_16 l_17 b_18 a_19 l_20 l_21 l_22 l_23 l_24 l_25 l_26 l_27 l_28 l_29 l_30 l_31 n i_23 = some o → (match o with | .inl _ => R (.exit 0) ⟨136, [(2, .ptr 0 0 0), (3, .ptr 1 0 0)], []⟩ [.box [.int .i64 a_0, .vec c_0 (List.map Xi l_1), .bool b_2, .int .i64 a_3, .vec c_1 (List.map eLI64 l_4), .vec c_2 (List.map YP l_5), .vec c_3 (List.map eTCtx l_6), .vec c_4 (List.map XU l_7), .vec c_5 (List.map XC l_8), .vec c_6 (List.map Xh l_9), .vec c_7 (List.map Xh l_10), .vec c_8 (List.map XC l_11), .vec c_9 (List.map Xm l_12), .vec c_10 (List.map YD l_13), .vec c_11 (List.map Xi l_14), .vec c_12 (List.map Xl l_15)] 35, .box [.int .i64 a_16, .vec c_13 (List.map Xi l_17), .bool b_18, .int .i64 a_19, .vec c_14 (List.map eLI64 l_20), .vec c_15 (List.map YP l_21), .vec c_16 (List.map eTCtx l_22), .vec c_17 (List.map XU l_23), .vec c_18 (List.map XC l_24), .vec c_19 (List.map Xh l_25), .vec c_20 (List.map Xh l_26), .vec c_21 (List.map XC l_27), .vec c_22 (List.map Xm l_28), .vec c_23 (List.map YD l_29), .vec c_24 (List.map Xi l_30), .vec c_25 (List.map Xl l_31)] 35] | .inr (_) => R .ret ⟨136, [(4, .bool false)], []⟩ []) →
  ALp Try.prog 0 B22_1 ⟨136, [(2, .ptr 0 0 0), (3, .ptr 1 0 0), (5, .int .i64 i_23)], []⟩ [.box [.int .i64 a_0, .vec c_0 (List.map Xi l_1), .bool b_2, .int .i64 a_3, .vec c_1 (List.map eLI64 l_4), .vec c_2 (List.map YP l_5), .vec c_3 (List.map eTCtx l_6), .vec c_4 (List.map XU l_7), .vec c_5 (List.map XC l_8), .vec c_6 (List.map Xh l_9), .vec c_7 (List.map Xh l_10), .vec c_8 (List.map XC l_11), .vec c_9 (List.map Xm l_12), .vec c_10 (List.map YD l_13), .vec c_11 (List.map Xi l_14), .vec c_12 (List.map Xl l_15)] 35, .box [.int .i64 a_16, .vec c_13 (List.map Xi l_17), .bool b_18, .int .i64 a_19, .vec c_14 (List.map eLI64 l_20), .vec c_15 (List.map YP l_21), .vec c_16 (List.map eTCtx l_22), .vec c_17 (List.map XU l_23), .vec c_18 (List.map XC l_24), .vec c_19 (List.map Xh l_25), .vec c_20 (List.map Xh l_26), .vec c_21 (List.map XC l_27), .vec c_22 (List.map Xm l_28), .vec c_23 (List.map YD l_29), .vec c_24 (List.map Xi l_30), .vec c_25 (List.map Xl l_31)] 35] R := by
 intro n
 induction n with
 | zero =>
  intro i_23 o h _; exact no0 h
 | succ n ih =>
  intro i_23 o h hp; rw [QG] at h; refine ALp.round ?_; generalize hQ : YB _ _ _ _ = QQ; simp only [B22_1, A22, go_sem, seval]; rcases iteS h with ⟨e_25, h⟩ | ⟨e_25, h⟩
  ·
   obtain ⟨x_26, h_27, h⟩ := bindS h; have e_28 : (List.map XU l_7)[(i_23).toNat]? = some [.int .i64 x_26.X, .int .i64 x_26.Y, .int .i64 x_26.Wide, .int .i64 x_26.High] := XA XU h_27; have e_29 := eq_true (Xx h_27).1; have e_30 := eq_true (XP h_27); obtain ⟨x_31, h_32, h⟩ := bindS h; have e_33 : (List.map XU l_23)[(i_23).toNat]? = some [.int .i64 x_31.X, .int .i64 x_31.Y, .int .i64 x_31.Wide, .int .i64 x_31.High] := XA XU h_32; have e_34 := eq_true (Xx h_32).1; have e_35 := eq_true (XP h_32); simp only [e_25, e_28, e_29, e_30, e_33, e_34, e_35, go_sem, seval]; rcases iteS h with ⟨e_37, h⟩ | ⟨e_37, h⟩
   ·
    simp only [e_25, e_28, e_29, e_30, e_33, e_34, e_35, e_37, go_sem, seval]; rcases iteS h with ⟨e_39, h⟩ | ⟨e_39, h⟩
    ·
     simp only [e_25, e_28, e_29, e_30, e_33, e_34, e_35, e_37, e_39, go_sem, seval]; rcases iteS h with ⟨e_41, h⟩ | ⟨e_41, h⟩
     ·
      simp only [e_25, e_28, e_29, e_30, e_33, e_34, e_35, e_37, e_39, e_41, go_sem, seval]; rcases iteS h with ⟨e_43, h⟩ | ⟨e_43, h⟩
      · simp only [e_25, e_28, e_29, e_30, e_33, e_34, e_35, e_37, e_39, e_41, e_43, go_sem, seval]; rw [← hQ]; exact ⟨_, _, (Ref.std [2, 3, 5] [0, 1] (by decide) low0 rfl (by first | rfl | simp only [go_sem, seval, e_25, e_37, e_39, e_41, e_43])), (Nat.zero_le _), ih _ _ h hp⟩
      · simp only [e_25, e_28, e_29, e_30, e_33, e_34, e_35, e_37, e_39, e_41, e_43, go_sem, seval]; cases h; rw [← hQ]; exact ⟨_, _, (Ref.out [4] rfl), hp⟩
     · simp only [e_25, e_28, e_29, e_30, e_33, e_34, e_35, e_37, e_39, e_41, go_sem, seval]; cases h; rw [← hQ]; exact ⟨_, _, (Ref.out [4] rfl), hp⟩
    · simp only [e_25, e_28, e_29, e_30, e_33, e_34, e_35, e_37, e_39, go_sem, seval]; cases h; rw [← hQ]; exact ⟨_, _, (Ref.out [4] rfl), hp⟩
   · simp only [e_25, e_28, e_29, e_30, e_33, e_34, e_35, e_37, go_sem, seval]; cases h; rw [← hQ]; exact ⟨_, _, (Ref.out [4] rfl), hp⟩
  · simp only [e_25, go_sem, seval]; cases h; rw [← hQ]; exact ⟨_, _, (Ref.std [2, 3] [0, 1] (by decide) low0 rfl (by first | rfl | simp only [go_sem, seval, e_25])), hp⟩
theorem Xgb (N : Nat) (a_0 : Int) (l_1 : List TSpan) (b_2 : Bool) (a_3 : Int) (l_4 : List (List Int)) (l_5 : List (List TLig)) (l_6 : List TCtx) (l_7 : List Yg) (l_8 : List (List TTwo)) (l_9 : List Xg) (l_10 : List Xg) (l_11 : List (List TTwo)) (l_12 : List Xp) (l_13 : List TMark) (l_14 : List TSpan) (l_15 : List (List (List Xw))) (a_16 : Int) (l_17 : List TSpan) (b_18 : Bool) (a_19 : Int) (l_20 : List (List Int)) (l_21 : List (List TLig)) (l_22 : List TCtx) (l_23 : List Yg) (l_24 : List (List TTwo)) (l_25 : List Xg) (l_26 : List Xg) (l_27 : List (List TTwo)) (l_28 : List Xp) (l_29 : List TMark) (l_30 : List TSpan) (l_31 : List (List (List Xw))) (c_0 : Bool) (c_1 : Bool) (c_2 : Bool) (c_3 : Bool) (c_4 : Bool) (c_5 : Bool) (c_6 : Bool) (c_7 : Bool) (c_8 : Bool) (c_9 : Bool) (c_10 : Bool) (c_11 : Bool) (c_12 : Bool) (c_13 : Bool) (c_14 : Bool) (c_15 : Bool) (c_16 : Bool) (c_17 : Bool) (c_18 : Bool) (c_19 : Bool) (c_20 : Bool) (c_21 : Bool) (c_22 : Bool) (c_23 : Bool) (c_24 : Bool) (c_25 : Bool) {R : AExit → ATm → List AObj → Prop} : ∀ (n : Nat) (i_1025 : Int) (o : (Unit) ⊕ (Unit)), ZF N a_0 l_1 b_2 a_3 l_4 l_5 l_6 l_7 l_8 l_9 l_10 l_11 l_12 l_13 l_14 l_15 a_16 l_17 b_18 a_19 l_20 l_21 l_22 l_23 l_24 l_25 l_26 l_27 l_28 l_29 l_30 l_31 n i_1025 = some o → (match o with | .inl _ => R (.exit 2) ⟨136, [(2, .ptr 0 0 0), (3, .ptr 1 0 0)], []⟩ [.box [.int .i64 a_0, .vec c_0 (List.map Xi l_1), .bool b_2, .int .i64 a_3, .vec c_1 (List.map eLI64 l_4), .vec c_2 (List.map YP l_5), .vec c_3 (List.map eTCtx l_6), .vec c_4 (List.map XU l_7), .vec c_5 (List.map XC l_8), .vec c_6 (List.map Xh l_9), .vec c_7 (List.map Xh l_10), .vec c_8 (List.map XC l_11), .vec c_9 (List.map Xm l_12), .vec c_10 (List.map YD l_13), .vec c_11 (List.map Xi l_14), .vec c_12 (List.map Xl l_15)] 35, .box [.int .i64 a_16, .vec c_13 (List.map Xi l_17), .bool b_18, .int .i64 a_19, .vec c_14 (List.map eLI64 l_20), .vec c_15 (List.map YP l_21), .vec c_16 (List.map eTCtx l_22), .vec c_17 (List.map XU l_23), .vec c_18 (List.map XC l_24), .vec c_19 (List.map Xh l_25), .vec c_20 (List.map Xh l_26), .vec c_21 (List.map XC l_27), .vec c_22 (List.map Xm l_28), .vec c_23 (List.map YD l_29), .vec c_24 (List.map Xi l_30), .vec c_25 (List.map Xl l_31)] 35] | .inr (_) => R .ret ⟨136, [(4, .bool false)], []⟩ []) →
  ALp Try.prog 0 B22_2 ⟨136, [(2, .ptr 0 0 0), (3, .ptr 1 0 0), (6, .int .i64 i_1025)], []⟩ [.box [.int .i64 a_0, .vec c_0 (List.map Xi l_1), .bool b_2, .int .i64 a_3, .vec c_1 (List.map eLI64 l_4), .vec c_2 (List.map YP l_5), .vec c_3 (List.map eTCtx l_6), .vec c_4 (List.map XU l_7), .vec c_5 (List.map XC l_8), .vec c_6 (List.map Xh l_9), .vec c_7 (List.map Xh l_10), .vec c_8 (List.map XC l_11), .vec c_9 (List.map Xm l_12), .vec c_10 (List.map YD l_13), .vec c_11 (List.map Xi l_14), .vec c_12 (List.map Xl l_15)] 35, .box [.int .i64 a_16, .vec c_13 (List.map Xi l_17), .bool b_18, .int .i64 a_19, .vec c_14 (List.map eLI64 l_20), .vec c_15 (List.map YP l_21), .vec c_16 (List.map eTCtx l_22), .vec c_17 (List.map XU l_23), .vec c_18 (List.map XC l_24), .vec c_19 (List.map Xh l_25), .vec c_20 (List.map Xh l_26), .vec c_21 (List.map XC l_27), .vec c_22 (List.map Xm l_28), .vec c_23 (List.map YD l_29), .vec c_24 (List.map Xi l_30), .vec c_25 (List.map Xl l_31)] 35] R := by
 intro n
 induction n with
 | zero =>
  intro i_1025 o h _; exact no0 h
 | succ n ih =>
  intro i_1025 o h hp; rw [ZF] at h; refine ALp.round ?_; generalize hQ : YB _ _ _ _ = QQ; simp only [B22_2, A22, go_sem, seval]; rcases iteS h with ⟨e_1027, h⟩ | ⟨e_1027, h⟩
  ·
   obtain ⟨x_1028, h_1029, h⟩ := bindS h; have e_1030 : (List.map Xm l_12)[(i_1025).toNat]? = some [.bool x_1028.e0.Is, .int .i64 x_1028.e0.X, .int .i64 x_1028.e0.Y, .bool x_1028.e1.Is, .int .i64 x_1028.e1.X, .int .i64 x_1028.e1.Y] := XA Xm h_1029; have e_1031 := eq_true (Xx h_1029).1; have e_1032 := eq_true (XP h_1029); obtain ⟨x_1033, h_1034, h⟩ := bindS h; have e_1035 : (List.map Xm l_28)[(i_1025).toNat]? = some [.bool x_1033.e0.Is, .int .i64 x_1033.e0.X, .int .i64 x_1033.e0.Y, .bool x_1033.e1.Is, .int .i64 x_1033.e1.X, .int .i64 x_1033.e1.Y] := XA Xm h_1034; have e_1036 := eq_true (Xx h_1034).1; have e_1037 := eq_true (XP h_1034); simp only [e_1027, e_1030, e_1031, e_1032, e_1035, e_1036, e_1037, go_sem, seval]; by_cases h_1038 : x_1028.e0.Is = true
   ·
    rw [if_pos h_1038] at h; have e_1039 : x_1028.e0.Is = true := h_1038; simp only [e_1027, e_1030, e_1031, e_1032, e_1035, e_1036, e_1037, e_1039, go_sem, seval]; by_cases h_1040 : x_1033.e0.Is = true
    ·
     rw [if_pos h_1040] at h; have e_1041 : x_1033.e0.Is = true := h_1040; simp only [e_1027, e_1030, e_1031, e_1032, e_1035, e_1036, e_1037, e_1039, e_1041, go_sem, seval]; rcases iteS h with ⟨e_1043, h⟩ | ⟨e_1043, h⟩
     ·
      simp only [e_1027, e_1030, e_1031, e_1032, e_1035, e_1036, e_1037, e_1039, e_1041, e_1043, go_sem, seval]; rcases iteS h with ⟨e_1045, h⟩ | ⟨e_1045, h⟩
      ·
       simp only [e_1027, e_1030, e_1031, e_1032, e_1035, e_1036, e_1037, e_1039, e_1041, e_1043, e_1045, go_sem, seval]; by_cases h_1046 : x_1028.e1.Is = true
       ·
        rw [if_pos h_1046] at h; have e_1047 : x_1028.e1.Is = true := h_1046; simp only [e_1027, e_1030, e_1031, e_1032, e_1035, e_1036, e_1037, e_1039, e_1041, e_1043, e_1045, e_1047, go_sem, seval]; by_cases h_1048 : x_1033.e1.Is = true
        ·
         rw [if_pos h_1048] at h; have e_1049 : x_1033.e1.Is = true := h_1048; simp only [e_1027, e_1030, e_1031, e_1032, e_1035, e_1036, e_1037, e_1039, e_1041, e_1043, e_1045, e_1047, e_1049, go_sem, seval]; rcases iteS h with ⟨e_1051, h⟩ | ⟨e_1051, h⟩
         ·
          simp only [e_1027, e_1030, e_1031, e_1032, e_1035, e_1036, e_1037, e_1039, e_1041, e_1043, e_1045, e_1047, e_1049, e_1051, go_sem, seval]; rcases iteS h with ⟨e_1053, h⟩ | ⟨e_1053, h⟩
          · simp only [e_1027, e_1030, e_1031, e_1032, e_1035, e_1036, e_1037, e_1039, e_1041, e_1043, e_1045, e_1047, e_1049, e_1051, e_1053, go_sem, seval]; rw [← hQ]; exact ⟨_, _, (Ref.std [2, 3, 6] [0, 1] (by decide) low0 rfl (by first | rfl | simp only [go_sem, seval, e_1027, e_1039, e_1041, e_1043, e_1045, e_1047, e_1049, e_1051, e_1053])), (Nat.zero_le _), ih _ _ h hp⟩
          · simp only [e_1027, e_1030, e_1031, e_1032, e_1035, e_1036, e_1037, e_1039, e_1041, e_1043, e_1045, e_1047, e_1049, e_1051, e_1053, go_sem, seval]; cases h; rw [← hQ]; exact ⟨_, _, (Ref.out [4] rfl), hp⟩
         · simp only [e_1027, e_1030, e_1031, e_1032, e_1035, e_1036, e_1037, e_1039, e_1041, e_1043, e_1045, e_1047, e_1049, e_1051, go_sem, seval]; cases h; rw [← hQ]; exact ⟨_, _, (Ref.out [4] rfl), hp⟩
        · rw [if_neg h_1048] at h; have e_1049 : x_1033.e1.Is = false := JJ h_1048; simp only [e_1027, e_1030, e_1031, e_1032, e_1035, e_1036, e_1037, e_1039, e_1041, e_1043, e_1045, e_1047, e_1049, go_sem, seval]; cases h; rw [← hQ]; exact ⟨_, _, (Ref.out [4] rfl), hp⟩
       ·
        rw [if_neg h_1046] at h; have e_1047 : x_1028.e1.Is = false := JJ h_1046; simp only [e_1027, e_1030, e_1031, e_1032, e_1035, e_1036, e_1037, e_1039, e_1041, e_1043, e_1045, e_1047, go_sem, seval]; by_cases h_1054 : x_1033.e1.Is = true
        · rw [if_pos h_1054] at h; have e_1055 : x_1033.e1.Is = true := h_1054; simp only [e_1027, e_1030, e_1031, e_1032, e_1035, e_1036, e_1037, e_1039, e_1041, e_1043, e_1045, e_1047, e_1055, go_sem, seval]; cases h; rw [← hQ]; exact ⟨_, _, (Ref.out [4] rfl), hp⟩
        ·
         rw [if_neg h_1054] at h; have e_1055 : x_1033.e1.Is = false := JJ h_1054; simp only [e_1027, e_1030, e_1031, e_1032, e_1035, e_1036, e_1037, e_1039, e_1041, e_1043, e_1045, e_1047, e_1055, go_sem, seval]; rcases iteS h with ⟨e_1057, h⟩ | ⟨e_1057, h⟩
         ·
          simp only [e_1027, e_1030, e_1031, e_1032, e_1035, e_1036, e_1037, e_1039, e_1041, e_1043, e_1045, e_1047, e_1055, e_1057, go_sem, seval]; rcases iteS h with ⟨e_1059, h⟩ | ⟨e_1059, h⟩
          · simp only [e_1027, e_1030, e_1031, e_1032, e_1035, e_1036, e_1037, e_1039, e_1041, e_1043, e_1045, e_1047, e_1055, e_1057, e_1059, go_sem, seval]; rw [← hQ]; exact ⟨_, _, (Ref.std [2, 3, 6] [0, 1] (by decide) low0 rfl (by first | rfl | simp only [go_sem, seval, e_1027, e_1039, e_1041, e_1043, e_1045, e_1047, e_1055, e_1057, e_1059])), (Nat.zero_le _), ih _ _ h hp⟩
          · simp only [e_1027, e_1030, e_1031, e_1032, e_1035, e_1036, e_1037, e_1039, e_1041, e_1043, e_1045, e_1047, e_1055, e_1057, e_1059, go_sem, seval]; cases h; rw [← hQ]; exact ⟨_, _, (Ref.out [4] rfl), hp⟩
         · simp only [e_1027, e_1030, e_1031, e_1032, e_1035, e_1036, e_1037, e_1039, e_1041, e_1043, e_1045, e_1047, e_1055, e_1057, go_sem, seval]; cases h; rw [← hQ]; exact ⟨_, _, (Ref.out [4] rfl), hp⟩
      · simp only [e_1027, e_1030, e_1031, e_1032, e_1035, e_1036, e_1037, e_1039, e_1041, e_1043, e_1045, go_sem, seval]; cases h; rw [← hQ]; exact ⟨_, _, (Ref.out [4] rfl), hp⟩
     · simp only [e_1027, e_1030, e_1031, e_1032, e_1035, e_1036, e_1037, e_1039, e_1041, e_1043, go_sem, seval]; cases h; rw [← hQ]; exact ⟨_, _, (Ref.out [4] rfl), hp⟩
    · rw [if_neg h_1040] at h; have e_1041 : x_1033.e0.Is = false := JJ h_1040; simp only [e_1027, e_1030, e_1031, e_1032, e_1035, e_1036, e_1037, e_1039, e_1041, go_sem, seval]; cases h; rw [← hQ]; exact ⟨_, _, (Ref.out [4] rfl), hp⟩
   ·
    rw [if_neg h_1038] at h; have e_1039 : x_1028.e0.Is = false := JJ h_1038; simp only [e_1027, e_1030, e_1031, e_1032, e_1035, e_1036, e_1037, e_1039, go_sem, seval]; by_cases h_1060 : x_1033.e0.Is = true
    · rw [if_pos h_1060] at h; have e_1061 : x_1033.e0.Is = true := h_1060; simp only [e_1027, e_1030, e_1031, e_1032, e_1035, e_1036, e_1037, e_1039, e_1061, go_sem, seval]; cases h; rw [← hQ]; exact ⟨_, _, (Ref.out [4] rfl), hp⟩
    ·
     rw [if_neg h_1060] at h; have e_1061 : x_1033.e0.Is = false := JJ h_1060; simp only [e_1027, e_1030, e_1031, e_1032, e_1035, e_1036, e_1037, e_1039, e_1061, go_sem, seval]; rcases iteS h with ⟨e_1063, h⟩ | ⟨e_1063, h⟩
     ·
      simp only [e_1027, e_1030, e_1031, e_1032, e_1035, e_1036, e_1037, e_1039, e_1061, e_1063, go_sem, seval]; rcases iteS h with ⟨e_1065, h⟩ | ⟨e_1065, h⟩
      ·
       simp only [e_1027, e_1030, e_1031, e_1032, e_1035, e_1036, e_1037, e_1039, e_1061, e_1063, e_1065, go_sem, seval]; by_cases h_1066 : x_1028.e1.Is = true
       ·
        rw [if_pos h_1066] at h; have e_1067 : x_1028.e1.Is = true := h_1066; simp only [e_1027, e_1030, e_1031, e_1032, e_1035, e_1036, e_1037, e_1039, e_1061, e_1063, e_1065, e_1067, go_sem, seval]; by_cases h_1068 : x_1033.e1.Is = true
        ·
         rw [if_pos h_1068] at h; have e_1069 : x_1033.e1.Is = true := h_1068; simp only [e_1027, e_1030, e_1031, e_1032, e_1035, e_1036, e_1037, e_1039, e_1061, e_1063, e_1065, e_1067, e_1069, go_sem, seval]; rcases iteS h with ⟨e_1071, h⟩ | ⟨e_1071, h⟩
         ·
          simp only [e_1027, e_1030, e_1031, e_1032, e_1035, e_1036, e_1037, e_1039, e_1061, e_1063, e_1065, e_1067, e_1069, e_1071, go_sem, seval]; rcases iteS h with ⟨e_1073, h⟩ | ⟨e_1073, h⟩
          · simp only [e_1027, e_1030, e_1031, e_1032, e_1035, e_1036, e_1037, e_1039, e_1061, e_1063, e_1065, e_1067, e_1069, e_1071, e_1073, go_sem, seval]; rw [← hQ]; exact ⟨_, _, (Ref.std [2, 3, 6] [0, 1] (by decide) low0 rfl (by first | rfl | simp only [go_sem, seval, e_1027, e_1039, e_1061, e_1063, e_1065, e_1067, e_1069, e_1071, e_1073])), (Nat.zero_le _), ih _ _ h hp⟩
          · simp only [e_1027, e_1030, e_1031, e_1032, e_1035, e_1036, e_1037, e_1039, e_1061, e_1063, e_1065, e_1067, e_1069, e_1071, e_1073, go_sem, seval]; cases h; rw [← hQ]; exact ⟨_, _, (Ref.out [4] rfl), hp⟩
         · simp only [e_1027, e_1030, e_1031, e_1032, e_1035, e_1036, e_1037, e_1039, e_1061, e_1063, e_1065, e_1067, e_1069, e_1071, go_sem, seval]; cases h; rw [← hQ]; exact ⟨_, _, (Ref.out [4] rfl), hp⟩
        · rw [if_neg h_1068] at h; have e_1069 : x_1033.e1.Is = false := JJ h_1068; simp only [e_1027, e_1030, e_1031, e_1032, e_1035, e_1036, e_1037, e_1039, e_1061, e_1063, e_1065, e_1067, e_1069, go_sem, seval]; cases h; rw [← hQ]; exact ⟨_, _, (Ref.out [4] rfl), hp⟩
       ·
        rw [if_neg h_1066] at h; have e_1067 : x_1028.e1.Is = false := JJ h_1066; simp only [e_1027, e_1030, e_1031, e_1032, e_1035, e_1036, e_1037, e_1039, e_1061, e_1063, e_1065, e_1067, go_sem, seval]; by_cases h_1074 : x_1033.e1.Is = true
        · rw [if_pos h_1074] at h; have e_1075 : x_1033.e1.Is = true := h_1074; simp only [e_1027, e_1030, e_1031, e_1032, e_1035, e_1036, e_1037, e_1039, e_1061, e_1063, e_1065, e_1067, e_1075, go_sem, seval]; cases h; rw [← hQ]; exact ⟨_, _, (Ref.out [4] rfl), hp⟩
        ·
         rw [if_neg h_1074] at h; have e_1075 : x_1033.e1.Is = false := JJ h_1074; simp only [e_1027, e_1030, e_1031, e_1032, e_1035, e_1036, e_1037, e_1039, e_1061, e_1063, e_1065, e_1067, e_1075, go_sem, seval]; rcases iteS h with ⟨e_1077, h⟩ | ⟨e_1077, h⟩
         ·
          simp only [e_1027, e_1030, e_1031, e_1032, e_1035, e_1036, e_1037, e_1039, e_1061, e_1063, e_1065, e_1067, e_1075, e_1077, go_sem, seval]; rcases iteS h with ⟨e_1079, h⟩ | ⟨e_1079, h⟩
          · simp only [e_1027, e_1030, e_1031, e_1032, e_1035, e_1036, e_1037, e_1039, e_1061, e_1063, e_1065, e_1067, e_1075, e_1077, e_1079, go_sem, seval]; rw [← hQ]; exact ⟨_, _, (Ref.std [2, 3, 6] [0, 1] (by decide) low0 rfl (by first | rfl | simp only [go_sem, seval, e_1027, e_1039, e_1061, e_1063, e_1065, e_1067, e_1075, e_1077, e_1079])), (Nat.zero_le _), ih _ _ h hp⟩
          · simp only [e_1027, e_1030, e_1031, e_1032, e_1035, e_1036, e_1037, e_1039, e_1061, e_1063, e_1065, e_1067, e_1075, e_1077, e_1079, go_sem, seval]; cases h; rw [← hQ]; exact ⟨_, _, (Ref.out [4] rfl), hp⟩
         · simp only [e_1027, e_1030, e_1031, e_1032, e_1035, e_1036, e_1037, e_1039, e_1061, e_1063, e_1065, e_1067, e_1075, e_1077, go_sem, seval]; cases h; rw [← hQ]; exact ⟨_, _, (Ref.out [4] rfl), hp⟩
      · simp only [e_1027, e_1030, e_1031, e_1032, e_1035, e_1036, e_1037, e_1039, e_1061, e_1063, e_1065, go_sem, seval]; cases h; rw [← hQ]; exact ⟨_, _, (Ref.out [4] rfl), hp⟩
     · simp only [e_1027, e_1030, e_1031, e_1032, e_1035, e_1036, e_1037, e_1039, e_1061, e_1063, go_sem, seval]; cases h; rw [← hQ]; exact ⟨_, _, (Ref.out [4] rfl), hp⟩
  · simp only [e_1027, go_sem, seval]; cases h; rw [← hQ]; exact ⟨_, _, (Ref.std [2, 3] [0, 1] (by decide) low0 rfl (by first | rfl | simp only [go_sem, seval, e_1027])), hp⟩
theorem Xga (N : Nat) (a_0 : Int) (l_1 : List TSpan) (b_2 : Bool) (a_3 : Int) (l_4 : List (List Int)) (l_5 : List (List TLig)) (l_6 : List TCtx) (l_7 : List Yg) (l_8 : List (List TTwo)) (l_9 : List Xg) (l_10 : List Xg) (l_11 : List (List TTwo)) (l_12 : List Xp) (l_13 : List TMark) (l_14 : List TSpan) (l_15 : List (List (List Xw))) (a_16 : Int) (l_17 : List TSpan) (b_18 : Bool) (a_19 : Int) (l_20 : List (List Int)) (l_21 : List (List TLig)) (l_22 : List TCtx) (l_23 : List Yg) (l_24 : List (List TTwo)) (l_25 : List Xg) (l_26 : List Xg) (l_27 : List (List TTwo)) (l_28 : List Xp) (l_29 : List TMark) (l_30 : List TSpan) (l_31 : List (List (List Xw))) (c_0 : Bool) (c_1 : Bool) (c_2 : Bool) (c_3 : Bool) (c_4 : Bool) (c_5 : Bool) (c_6 : Bool) (c_7 : Bool) (c_8 : Bool) (c_9 : Bool) (c_10 : Bool) (c_11 : Bool) (c_12 : Bool) (c_13 : Bool) (c_14 : Bool) (c_15 : Bool) (c_16 : Bool) (c_17 : Bool) (c_18 : Bool) (c_19 : Bool) (c_20 : Bool) (c_21 : Bool) (c_22 : Bool) (c_23 : Bool) (c_24 : Bool) (c_25 : Bool) {R : AExit → ATm → List AObj → Prop} : ∀ (n : Nat) (i_2027 : Int) (o : (Unit) ⊕ (Unit)), Qg N a_0 l_1 b_2 a_3 l_4 l_5 l_6 l_7 l_8 l_9 l_10 l_11 l_12 l_13 l_14 l_15 a_16 l_17 b_18 a_19 l_20 l_21 l_22 l_23 l_24 l_25 l_26 l_27 l_28 l_29 l_30 l_31 n i_2027 = some o → (match o with | .inl _ => R (.exit 4) ⟨136, [(2, .ptr 0 0 0), (3, .ptr 1 0 0)], []⟩ [.box [.int .i64 a_0, .vec c_0 (List.map Xi l_1), .bool b_2, .int .i64 a_3, .vec c_1 (List.map eLI64 l_4), .vec c_2 (List.map YP l_5), .vec c_3 (List.map eTCtx l_6), .vec c_4 (List.map XU l_7), .vec c_5 (List.map XC l_8), .vec c_6 (List.map Xh l_9), .vec c_7 (List.map Xh l_10), .vec c_8 (List.map XC l_11), .vec c_9 (List.map Xm l_12), .vec c_10 (List.map YD l_13), .vec c_11 (List.map Xi l_14), .vec c_12 (List.map Xl l_15)] 35, .box [.int .i64 a_16, .vec c_13 (List.map Xi l_17), .bool b_18, .int .i64 a_19, .vec c_14 (List.map eLI64 l_20), .vec c_15 (List.map YP l_21), .vec c_16 (List.map eTCtx l_22), .vec c_17 (List.map XU l_23), .vec c_18 (List.map XC l_24), .vec c_19 (List.map Xh l_25), .vec c_20 (List.map Xh l_26), .vec c_21 (List.map XC l_27), .vec c_22 (List.map Xm l_28), .vec c_23 (List.map YD l_29), .vec c_24 (List.map Xi l_30), .vec c_25 (List.map Xl l_31)] 35] | .inr (_) => R .ret ⟨136, [(4, .bool false)], []⟩ []) →
  ALp Try.prog 0 B22_3 ⟨136, [(2, .ptr 0 0 0), (3, .ptr 1 0 0), (7, .int .i64 i_2027)], []⟩ [.box [.int .i64 a_0, .vec c_0 (List.map Xi l_1), .bool b_2, .int .i64 a_3, .vec c_1 (List.map eLI64 l_4), .vec c_2 (List.map YP l_5), .vec c_3 (List.map eTCtx l_6), .vec c_4 (List.map XU l_7), .vec c_5 (List.map XC l_8), .vec c_6 (List.map Xh l_9), .vec c_7 (List.map Xh l_10), .vec c_8 (List.map XC l_11), .vec c_9 (List.map Xm l_12), .vec c_10 (List.map YD l_13), .vec c_11 (List.map Xi l_14), .vec c_12 (List.map Xl l_15)] 35, .box [.int .i64 a_16, .vec c_13 (List.map Xi l_17), .bool b_18, .int .i64 a_19, .vec c_14 (List.map eLI64 l_20), .vec c_15 (List.map YP l_21), .vec c_16 (List.map eTCtx l_22), .vec c_17 (List.map XU l_23), .vec c_18 (List.map XC l_24), .vec c_19 (List.map Xh l_25), .vec c_20 (List.map Xh l_26), .vec c_21 (List.map XC l_27), .vec c_22 (List.map Xm l_28), .vec c_23 (List.map YD l_29), .vec c_24 (List.map Xi l_30), .vec c_25 (List.map Xl l_31)] 35] R := by
 intro n
 induction n with
 | zero =>
  intro i_2027 o h _; exact no0 h
 | succ n ih =>
  intro i_2027 o h hp; rw [Qg] at h; refine ALp.round ?_; generalize hQ : YB _ _ _ _ = QQ; simp only [B22_3, A22, go_sem, seval]; rcases iteS h with ⟨e_2029, h⟩ | ⟨e_2029, h⟩
  ·
   obtain ⟨x_2030, h_2031, h⟩ := bindS h; have e_2032 : (List.map YD l_13)[(i_2027).toNat]? = some [.int .i64 x_2030.Class, .bool x_2030.At.Is, .int .i64 x_2030.At.X, .int .i64 x_2030.At.Y] := XA YD h_2031; have e_2033 := eq_true (Xx h_2031).1; have e_2034 := eq_true (XP h_2031); obtain ⟨x_2035, h_2036, h⟩ := bindS h; have e_2037 : (List.map YD l_29)[(i_2027).toNat]? = some [.int .i64 x_2035.Class, .bool x_2035.At.Is, .int .i64 x_2035.At.X, .int .i64 x_2035.At.Y] := XA YD h_2036; have e_2038 := eq_true (Xx h_2036).1; have e_2039 := eq_true (XP h_2036); simp only [e_2029, e_2032, e_2033, e_2034, e_2037, e_2038, e_2039, go_sem, seval]; rcases iteS h with ⟨e_2041, h⟩ | ⟨e_2041, h⟩
   ·
    simp only [e_2029, e_2032, e_2033, e_2034, e_2037, e_2038, e_2039, e_2041, go_sem, seval]; by_cases h_2042 : x_2030.At.Is = true
    ·
     rw [if_pos h_2042] at h; have e_2043 : x_2030.At.Is = true := h_2042; simp only [e_2029, e_2032, e_2033, e_2034, e_2037, e_2038, e_2039, e_2041, e_2043, go_sem, seval]; by_cases h_2044 : x_2035.At.Is = true
     ·
      rw [if_pos h_2044] at h; have e_2045 : x_2035.At.Is = true := h_2044; simp only [e_2029, e_2032, e_2033, e_2034, e_2037, e_2038, e_2039, e_2041, e_2043, e_2045, go_sem, seval]; rcases iteS h with ⟨e_2047, h⟩ | ⟨e_2047, h⟩
      ·
       simp only [e_2029, e_2032, e_2033, e_2034, e_2037, e_2038, e_2039, e_2041, e_2043, e_2045, e_2047, go_sem, seval]; rcases iteS h with ⟨e_2049, h⟩ | ⟨e_2049, h⟩
       · simp only [e_2029, e_2032, e_2033, e_2034, e_2037, e_2038, e_2039, e_2041, e_2043, e_2045, e_2047, e_2049, go_sem, seval]; rw [← hQ]; exact ⟨_, _, (Ref.std [2, 3, 7] [0, 1] (by decide) low0 rfl (by first | rfl | simp only [go_sem, seval, e_2029, e_2041, e_2043, e_2045, e_2047, e_2049])), (Nat.zero_le _), ih _ _ h hp⟩
       · simp only [e_2029, e_2032, e_2033, e_2034, e_2037, e_2038, e_2039, e_2041, e_2043, e_2045, e_2047, e_2049, go_sem, seval]; cases h; rw [← hQ]; exact ⟨_, _, (Ref.out [4] rfl), hp⟩
      · simp only [e_2029, e_2032, e_2033, e_2034, e_2037, e_2038, e_2039, e_2041, e_2043, e_2045, e_2047, go_sem, seval]; cases h; rw [← hQ]; exact ⟨_, _, (Ref.out [4] rfl), hp⟩
     · rw [if_neg h_2044] at h; have e_2045 : x_2035.At.Is = false := JJ h_2044; simp only [e_2029, e_2032, e_2033, e_2034, e_2037, e_2038, e_2039, e_2041, e_2043, e_2045, go_sem, seval]; cases h; rw [← hQ]; exact ⟨_, _, (Ref.out [4] rfl), hp⟩
    ·
     rw [if_neg h_2042] at h; have e_2043 : x_2030.At.Is = false := JJ h_2042; simp only [e_2029, e_2032, e_2033, e_2034, e_2037, e_2038, e_2039, e_2041, e_2043, go_sem, seval]; by_cases h_2050 : x_2035.At.Is = true
     · rw [if_pos h_2050] at h; have e_2051 : x_2035.At.Is = true := h_2050; simp only [e_2029, e_2032, e_2033, e_2034, e_2037, e_2038, e_2039, e_2041, e_2043, e_2051, go_sem, seval]; cases h; rw [← hQ]; exact ⟨_, _, (Ref.out [4] rfl), hp⟩
     ·
      rw [if_neg h_2050] at h; have e_2051 : x_2035.At.Is = false := JJ h_2050; simp only [e_2029, e_2032, e_2033, e_2034, e_2037, e_2038, e_2039, e_2041, e_2043, e_2051, go_sem, seval]; rcases iteS h with ⟨e_2053, h⟩ | ⟨e_2053, h⟩
      ·
       simp only [e_2029, e_2032, e_2033, e_2034, e_2037, e_2038, e_2039, e_2041, e_2043, e_2051, e_2053, go_sem, seval]; rcases iteS h with ⟨e_2055, h⟩ | ⟨e_2055, h⟩
       · simp only [e_2029, e_2032, e_2033, e_2034, e_2037, e_2038, e_2039, e_2041, e_2043, e_2051, e_2053, e_2055, go_sem, seval]; rw [← hQ]; exact ⟨_, _, (Ref.std [2, 3, 7] [0, 1] (by decide) low0 rfl (by first | rfl | simp only [go_sem, seval, e_2029, e_2041, e_2043, e_2051, e_2053, e_2055])), (Nat.zero_le _), ih _ _ h hp⟩
       · simp only [e_2029, e_2032, e_2033, e_2034, e_2037, e_2038, e_2039, e_2041, e_2043, e_2051, e_2053, e_2055, go_sem, seval]; cases h; rw [← hQ]; exact ⟨_, _, (Ref.out [4] rfl), hp⟩
      · simp only [e_2029, e_2032, e_2033, e_2034, e_2037, e_2038, e_2039, e_2041, e_2043, e_2051, e_2053, go_sem, seval]; cases h; rw [← hQ]; exact ⟨_, _, (Ref.out [4] rfl), hp⟩
   · simp only [e_2029, e_2032, e_2033, e_2034, e_2037, e_2038, e_2039, e_2041, go_sem, seval]; cases h; rw [← hQ]; exact ⟨_, _, (Ref.out [4] rfl), hp⟩
  · simp only [e_2029, go_sem, seval]; cases h; rw [← hQ]; exact ⟨_, _, (Ref.std [2, 3] [0, 1] (by decide) low0 rfl (by first | rfl | simp only [go_sem, seval, e_2029])), hp⟩
theorem Xf9 (N : Nat) (l_0 : List (List TTwo)) (l_1 : List (List TTwo)) (i_3 : Int) (c_0 : Bool) (c_1 : Bool) {R : AExit → ATm → List AObj → Prop} : ∀ (n : Nat) (i_18 : Int) (o : (Unit) ⊕ (Unit)), QF N l_0 l_1 i_3 n i_18 = some o → (match o with | .inl _ => R (.exit 2) ⟨53, [(0, .vec c_0 (List.map XC l_0)), (1, .vec c_1 (List.map XC l_1)), (5, .int .i64 i_3)], []⟩ [] | .inr (_) => R .ret ⟨53, [(4, .bool false)], []⟩ []) →
  ALp Try.prog 0 B43_2 ⟨53, [(0, .vec c_0 (List.map XC l_0)), (1, .vec c_1 (List.map XC l_1)), (5, .int .i64 i_3), (6, .int .i64 i_18)], []⟩ [] R := by
 intro n
 induction n with
 | zero =>
  intro i_18 o h _; exact no0 h
 | succ n ih =>
  intro i_18 o h hp; rw [QF] at h; refine ALp.round ?_; generalize hQ : YB _ _ _ _ = QQ; obtain ⟨x_19, h_20, h⟩ := bindS h; have e_21 : (List.map XC l_0)[(i_3).toNat]? = some [.vec false (List.map eTTwo x_19)] := XA XC h_20; have e_22 := eq_true (Xx h_20).1; have e_23 := eq_true (XP h_20); simp only [B43_2, B43_1, A43, e_21, e_22, e_23, go_sem, seval]; rcases iteS h with ⟨e_25, h⟩ | ⟨e_25, h⟩
  ·
   obtain ⟨x_26, h_27, h⟩ := bindS h; have e_28 : (List.map eTTwo x_19)[(i_18).toNat]? = some [.int .i64 x_26.Second, .int .i64 x_26.A.X, .int .i64 x_26.A.Y, .int .i64 x_26.A.Wide, .int .i64 x_26.A.High, .int .i64 x_26.B.X, .int .i64 x_26.B.Y, .int .i64 x_26.B.Wide, .int .i64 x_26.B.High] := XA eTTwo h_27; have e_29 := eq_true (Xx h_27).1; have e_30 := eq_true (XP h_27); obtain ⟨x_31, h_32, h⟩ := bindS h; have e_33 : (List.map XC l_1)[(i_3).toNat]? = some [.vec false (List.map eTTwo x_31)] := XA XC h_32; have e_34 := eq_true (Xx h_32).1; have e_35 := eq_true (XP h_32); obtain ⟨x_36, h_37, h⟩ := bindS h; have e_38 : (List.map eTTwo x_31)[(i_18).toNat]? = some [.int .i64 x_36.Second, .int .i64 x_36.A.X, .int .i64 x_36.A.Y, .int .i64 x_36.A.Wide, .int .i64 x_36.A.High, .int .i64 x_36.B.X, .int .i64 x_36.B.Y, .int .i64 x_36.B.Wide, .int .i64 x_36.B.High] := XA eTTwo h_37; have e_39 := eq_true (Xx h_37).1; have e_40 := eq_true (XP h_37); simp only [e_21, e_22, e_23, e_25, e_28, e_29, e_30, e_33, e_34, e_35, e_38, e_39, e_40, go_sem, seval]; rcases iteS h with ⟨e_42, h⟩ | ⟨e_42, h⟩
   ·
    simp only [e_21, e_22, e_23, e_25, e_28, e_29, e_30, e_33, e_34, e_35, e_38, e_39, e_40, e_42, go_sem, seval]; rcases iteS h with ⟨e_44, h⟩ | ⟨e_44, h⟩
    ·
     simp only [e_21, e_22, e_23, e_25, e_28, e_29, e_30, e_33, e_34, e_35, e_38, e_39, e_40, e_42, e_44, go_sem, seval]; rcases iteS h with ⟨e_46, h⟩ | ⟨e_46, h⟩
     ·
      simp only [e_21, e_22, e_23, e_25, e_28, e_29, e_30, e_33, e_34, e_35, e_38, e_39, e_40, e_42, e_44, e_46, go_sem, seval]; rcases iteS h with ⟨e_48, h⟩ | ⟨e_48, h⟩
      ·
       simp only [e_21, e_22, e_23, e_25, e_28, e_29, e_30, e_33, e_34, e_35, e_38, e_39, e_40, e_42, e_44, e_46, e_48, go_sem, seval]; rcases iteS h with ⟨e_50, h⟩ | ⟨e_50, h⟩
       ·
        simp only [e_21, e_22, e_23, e_25, e_28, e_29, e_30, e_33, e_34, e_35, e_38, e_39, e_40, e_42, e_44, e_46, e_48, e_50, go_sem, seval]; rcases iteS h with ⟨e_52, h⟩ | ⟨e_52, h⟩
        ·
         simp only [e_21, e_22, e_23, e_25, e_28, e_29, e_30, e_33, e_34, e_35, e_38, e_39, e_40, e_42, e_44, e_46, e_48, e_50, e_52, go_sem, seval]; rcases iteS h with ⟨e_54, h⟩ | ⟨e_54, h⟩
         ·
          simp only [e_21, e_22, e_23, e_25, e_28, e_29, e_30, e_33, e_34, e_35, e_38, e_39, e_40, e_42, e_44, e_46, e_48, e_50, e_52, e_54, go_sem, seval]; rcases iteS h with ⟨e_56, h⟩ | ⟨e_56, h⟩
          ·
           simp only [e_21, e_22, e_23, e_25, e_28, e_29, e_30, e_33, e_34, e_35, e_38, e_39, e_40, e_42, e_44, e_46, e_48, e_50, e_52, e_54, e_56, go_sem, seval]; rcases iteS h with ⟨e_58, h⟩ | ⟨e_58, h⟩
           · simp only [e_21, e_22, e_23, e_25, e_28, e_29, e_30, e_33, e_34, e_35, e_38, e_39, e_40, e_42, e_44, e_46, e_48, e_50, e_52, e_54, e_56, e_58, go_sem, seval]; rw [← hQ]; exact ⟨_, _, (Ref.out [0, 1, 5, 6] rfl), (Nat.zero_le _), ih _ _ h hp⟩
           · simp only [e_21, e_22, e_23, e_25, e_28, e_29, e_30, e_33, e_34, e_35, e_38, e_39, e_40, e_42, e_44, e_46, e_48, e_50, e_52, e_54, e_56, e_58, go_sem, seval]; cases h; rw [← hQ]; exact ⟨_, _, (Ref.out [4] rfl), hp⟩
          · simp only [e_21, e_22, e_23, e_25, e_28, e_29, e_30, e_33, e_34, e_35, e_38, e_39, e_40, e_42, e_44, e_46, e_48, e_50, e_52, e_54, e_56, go_sem, seval]; cases h; rw [← hQ]; exact ⟨_, _, (Ref.out [4] rfl), hp⟩
         · simp only [e_21, e_22, e_23, e_25, e_28, e_29, e_30, e_33, e_34, e_35, e_38, e_39, e_40, e_42, e_44, e_46, e_48, e_50, e_52, e_54, go_sem, seval]; cases h; rw [← hQ]; exact ⟨_, _, (Ref.out [4] rfl), hp⟩
        · simp only [e_21, e_22, e_23, e_25, e_28, e_29, e_30, e_33, e_34, e_35, e_38, e_39, e_40, e_42, e_44, e_46, e_48, e_50, e_52, go_sem, seval]; cases h; rw [← hQ]; exact ⟨_, _, (Ref.out [4] rfl), hp⟩
       · simp only [e_21, e_22, e_23, e_25, e_28, e_29, e_30, e_33, e_34, e_35, e_38, e_39, e_40, e_42, e_44, e_46, e_48, e_50, go_sem, seval]; cases h; rw [← hQ]; exact ⟨_, _, (Ref.out [4] rfl), hp⟩
      · simp only [e_21, e_22, e_23, e_25, e_28, e_29, e_30, e_33, e_34, e_35, e_38, e_39, e_40, e_42, e_44, e_46, e_48, go_sem, seval]; cases h; rw [← hQ]; exact ⟨_, _, (Ref.out [4] rfl), hp⟩
     · simp only [e_21, e_22, e_23, e_25, e_28, e_29, e_30, e_33, e_34, e_35, e_38, e_39, e_40, e_42, e_44, e_46, go_sem, seval]; cases h; rw [← hQ]; exact ⟨_, _, (Ref.out [4] rfl), hp⟩
    · simp only [e_21, e_22, e_23, e_25, e_28, e_29, e_30, e_33, e_34, e_35, e_38, e_39, e_40, e_42, e_44, go_sem, seval]; cases h; rw [← hQ]; exact ⟨_, _, (Ref.out [4] rfl), hp⟩
   · simp only [e_21, e_22, e_23, e_25, e_28, e_29, e_30, e_33, e_34, e_35, e_38, e_39, e_40, e_42, go_sem, seval]; cases h; rw [← hQ]; exact ⟨_, _, (Ref.out [4] rfl), hp⟩
  · simp only [e_21, e_22, e_23, e_25, go_sem, seval]; cases h; rw [← hQ]; exact ⟨_, _, (Ref.out [0, 1, 5] rfl), hp⟩
theorem Xf8 (N : Nat) (l_0 : List (List TTwo)) (l_1 : List (List TTwo)) (c_0 : Bool) (c_1 : Bool) {R : AExit → ATm → List AObj → Prop} : ∀ (n : Nat) (i_3 : Int) (o : (Unit) ⊕ (Unit)), QE N l_0 l_1 n i_3 = some o → (match o with | .inl _ => R (.exit 0) ⟨53, [], []⟩ [] | .inr (_) => R .ret ⟨53, [(4, .bool false)], []⟩ []) →
  ALp Try.prog 0 B43_1 ⟨53, [(0, .vec c_0 (List.map XC l_0)), (1, .vec c_1 (List.map XC l_1)), (5, .int .i64 i_3)], []⟩ [] R := by
 intro n
 induction n with
 | zero =>
  intro i_3 o h _; exact no0 h
 | succ n ih =>
  intro i_3 o h hp; rw [QE] at h; refine ALp.round ?_; generalize hQ : YB _ _ _ _ = QQ; simp only [B43_1, A43, go_sem, seval]; rcases iteS h with ⟨e_5, h⟩ | ⟨e_5, h⟩
  ·
   obtain ⟨x_6, h_7, h⟩ := bindS h; have e_8 : (List.map XC l_0)[(i_3).toNat]? = some [.vec false (List.map eTTwo x_6)] := XA XC h_7; have e_9 := eq_true (Xx h_7).1; have e_10 := eq_true (XP h_7); obtain ⟨x_11, h_12, h⟩ := bindS h; have e_13 : (List.map XC l_1)[(i_3).toNat]? = some [.vec false (List.map eTTwo x_11)] := XA XC h_12; have e_14 := eq_true (Xx h_12).1; have e_15 := eq_true (XP h_12); simp only [e_5, e_8, e_9, e_10, e_13, e_14, e_15, go_sem, seval]; rcases iteS h with ⟨e_17, h⟩ | ⟨e_17, h⟩
   ·
    simp only [e_5, e_8, e_9, e_10, e_13, e_14, e_15, e_17, go_sem, seval]; obtain ⟨o_1019, h_1018, h⟩ := bindS h; refine ALp.ref (Ref.out [0, 1, 5, 6] rfl) (Nat.zero_le _) (Xf9 N _ _ _ c_0 c_1 N _ o_1019 h_1018 ?_); rcases o_1019 with _ | _
    · (try dsimp only at h); refine XJ rfl (Nat.zero_le _) ?_; simp only [e_5, e_8, e_9, e_10, e_13, e_14, e_15, e_17, go_sem, seval]; rw [← hQ]; exact ⟨_, _, (Ref.out [0, 1, 5] rfl), (Nat.zero_le _), ih _ _ h hp⟩
    · (try dsimp only at h); refine Zj ?_; cases h; rw [← hQ]; exact ⟨_, _, (Ref.out [4] rfl), hp⟩
   · simp only [e_5, e_8, e_9, e_10, e_13, e_14, e_15, e_17, go_sem, seval]; cases h; rw [← hQ]; exact ⟨_, _, (Ref.out [4] rfl), hp⟩
  · simp only [e_5, go_sem, seval]; cases h; rw [← hQ]; exact ⟨_, _, (Ref.out [] rfl), hp⟩
theorem Xfa (N : Nat) (l_0 : List (List TTwo)) (l_1 : List (List TTwo)) (c_0 : Bool) (c_1 : Bool) (z_1 : Bool) (h : Xal N l_0 l_1 = some z_1) :
  Xa Try.prog 43 [.vec c_0 (List.map XC l_0), .vec c_1 (List.map XC l_1)] [] (fun e H => H = [] ∧ e = .ret (.bool z_1)) := by
 unfold Xal at h; refine Xa.goN Try.func43 n43 a43 Try.ntmps43 r43 (by simp) 0 rfl ?_; generalize hQ : bodyA _ _ _ = QQ; simp only [A43, go_sem, seval]; rcases iteS h with ⟨e_2, h⟩ | ⟨e_2, h⟩
 ·
  simp only [e_2, go_sem, seval]; obtain ⟨o_1004, h_1003, h⟩ := bindS h; refine ALp.ref (Ref.out [0, 1, 5] rfl) (Nat.zero_le _) (Xf8 N _ _ c_0 c_1 N _ o_1004 h_1003 ?_); rcases o_1004 with _ | _
  · (try dsimp only at h); refine XJ rfl (Nat.zero_le _) ?_; simp only [e_2, go_sem, seval]; obtain rfl := si h; rw [← hQ]; exact ⟨rfl, _, rfl, _, _, (RefV.out rfl), rfl, rfl⟩
  · (try dsimp only at h); refine Zj ?_; obtain rfl := si h; rw [← hQ]; exact ⟨rfl, _, rfl, _, _, (RefV.out rfl), rfl, rfl⟩
 · simp only [e_2, go_sem, seval]; obtain rfl := si h; rw [← hQ]; exact ⟨rfl, _, rfl, _, _, (RefV.out rfl), rfl, rfl⟩
theorem Xdp (N : Nat) (l_0 : List (List (List Xw))) (l_1 : List (List (List Xw))) (i_3 : Int) (i_18 : Int) (c_0 : Bool) (c_1 : Bool) {R : AExit → ATm → List AObj → Prop} : ∀ (n : Nat) (i_43 : Int) (o : (Unit) ⊕ (Unit)), Zd N l_0 l_1 i_3 i_18 n i_43 = some o → (match o with | .inl _ => R (.exit 4) ⟨89, [(0, .vec c_0 (List.map Xl l_0)), (1, .vec c_1 (List.map Xl l_1)), (5, .int .i64 i_3), (6, .int .i64 i_18)], []⟩ [] | .inr (_) => R .ret ⟨89, [(4, .bool false)], []⟩ []) →
  ALp Try.prog 0 B44_3 ⟨89, [(0, .vec c_0 (List.map Xl l_0)), (1, .vec c_1 (List.map Xl l_1)), (5, .int .i64 i_3), (6, .int .i64 i_18), (7, .int .i64 i_43)], []⟩ [] R := by
 intro n
 induction n with
 | zero =>
  intro i_43 o h _; exact no0 h
 | succ n ih =>
  intro i_43 o h hp; rw [Zd] at h; refine ALp.round ?_; generalize hQ : YB _ _ _ _ = QQ; obtain ⟨x_44, h_45, h⟩ := bindS h; have e_46 : (List.map Xl l_0)[(i_3).toNat]? = some [.vec false (List.map XQ x_44)] := XA Xl h_45; have e_47 := eq_true (Xx h_45).1; have e_48 := eq_true (XP h_45); obtain ⟨x_49, h_50, h⟩ := bindS h; have e_51 : (List.map XQ x_44)[(i_18).toNat]? = some [.vec false (List.map YR x_49)] := XA XQ h_50; have e_52 := eq_true (Xx h_50).1; have e_53 := eq_true (XP h_50); simp only [B44_3, B44_2, B44_1, A44, e_46, e_47, e_48, e_51, e_52, e_53, go_sem, seval]; rcases iteS h with ⟨e_55, h⟩ | ⟨e_55, h⟩
  ·
   obtain ⟨x_56, h_57, h⟩ := bindS h; have e_58 : (List.map YR x_49)[(i_43).toNat]? = some [.bool x_56.Is, .int .i64 x_56.X, .int .i64 x_56.Y] := XA YR h_57; have e_59 := eq_true (Xx h_57).1; have e_60 := eq_true (XP h_57); obtain ⟨x_61, h_62, h⟩ := bindS h; have e_63 : (List.map Xl l_1)[(i_3).toNat]? = some [.vec false (List.map XQ x_61)] := XA Xl h_62; have e_64 := eq_true (Xx h_62).1; have e_65 := eq_true (XP h_62); obtain ⟨x_66, h_67, h⟩ := bindS h; have e_68 : (List.map XQ x_61)[(i_18).toNat]? = some [.vec false (List.map YR x_66)] := XA XQ h_67; have e_69 := eq_true (Xx h_67).1; have e_70 := eq_true (XP h_67); obtain ⟨x_71, h_72, h⟩ := bindS h; have e_73 : (List.map YR x_66)[(i_43).toNat]? = some [.bool x_71.Is, .int .i64 x_71.X, .int .i64 x_71.Y] := XA YR h_72; have e_74 := eq_true (Xx h_72).1; have e_75 := eq_true (XP h_72); simp only [e_46, e_47, e_48, e_51, e_52, e_53, e_55, e_58, e_59, e_60, e_63, e_64, e_65, e_68, e_69, e_70, e_73, e_74, e_75, go_sem, seval]; by_cases h_76 : x_56.Is = true
   ·
    rw [if_pos h_76] at h; have e_77 : x_56.Is = true := h_76; simp only [e_46, e_47, e_48, e_51, e_52, e_53, e_55, e_58, e_59, e_60, e_63, e_64, e_65, e_68, e_69, e_70, e_73, e_74, e_75, e_77, go_sem, seval]; by_cases h_78 : x_71.Is = true
    ·
     rw [if_pos h_78] at h; have e_79 : x_71.Is = true := h_78; simp only [e_46, e_47, e_48, e_51, e_52, e_53, e_55, e_58, e_59, e_60, e_63, e_64, e_65, e_68, e_69, e_70, e_73, e_74, e_75, e_77, e_79, go_sem, seval]; rcases iteS h with ⟨e_81, h⟩ | ⟨e_81, h⟩
     ·
      simp only [e_46, e_47, e_48, e_51, e_52, e_53, e_55, e_58, e_59, e_60, e_63, e_64, e_65, e_68, e_69, e_70, e_73, e_74, e_75, e_77, e_79, e_81, go_sem, seval]; rcases iteS h with ⟨e_83, h⟩ | ⟨e_83, h⟩
      · simp only [e_46, e_47, e_48, e_51, e_52, e_53, e_55, e_58, e_59, e_60, e_63, e_64, e_65, e_68, e_69, e_70, e_73, e_74, e_75, e_77, e_79, e_81, e_83, go_sem, seval]; rw [← hQ]; exact ⟨_, _, (Ref.out [0, 1, 5, 6, 7] rfl), (Nat.zero_le _), ih _ _ h hp⟩
      · simp only [e_46, e_47, e_48, e_51, e_52, e_53, e_55, e_58, e_59, e_60, e_63, e_64, e_65, e_68, e_69, e_70, e_73, e_74, e_75, e_77, e_79, e_81, e_83, go_sem, seval]; cases h; rw [← hQ]; exact ⟨_, _, (Ref.out [4] rfl), hp⟩
     · simp only [e_46, e_47, e_48, e_51, e_52, e_53, e_55, e_58, e_59, e_60, e_63, e_64, e_65, e_68, e_69, e_70, e_73, e_74, e_75, e_77, e_79, e_81, go_sem, seval]; cases h; rw [← hQ]; exact ⟨_, _, (Ref.out [4] rfl), hp⟩
    · rw [if_neg h_78] at h; have e_79 : x_71.Is = false := JJ h_78; simp only [e_46, e_47, e_48, e_51, e_52, e_53, e_55, e_58, e_59, e_60, e_63, e_64, e_65, e_68, e_69, e_70, e_73, e_74, e_75, e_77, e_79, go_sem, seval]; cases h; rw [← hQ]; exact ⟨_, _, (Ref.out [4] rfl), hp⟩
   ·
    rw [if_neg h_76] at h; have e_77 : x_56.Is = false := JJ h_76; simp only [e_46, e_47, e_48, e_51, e_52, e_53, e_55, e_58, e_59, e_60, e_63, e_64, e_65, e_68, e_69, e_70, e_73, e_74, e_75, e_77, go_sem, seval]; by_cases h_84 : x_71.Is = true
    · rw [if_pos h_84] at h; have e_85 : x_71.Is = true := h_84; simp only [e_46, e_47, e_48, e_51, e_52, e_53, e_55, e_58, e_59, e_60, e_63, e_64, e_65, e_68, e_69, e_70, e_73, e_74, e_75, e_77, e_85, go_sem, seval]; cases h; rw [← hQ]; exact ⟨_, _, (Ref.out [4] rfl), hp⟩
    ·
     rw [if_neg h_84] at h; have e_85 : x_71.Is = false := JJ h_84; simp only [e_46, e_47, e_48, e_51, e_52, e_53, e_55, e_58, e_59, e_60, e_63, e_64, e_65, e_68, e_69, e_70, e_73, e_74, e_75, e_77, e_85, go_sem, seval]; rcases iteS h with ⟨e_87, h⟩ | ⟨e_87, h⟩
     ·
      simp only [e_46, e_47, e_48, e_51, e_52, e_53, e_55, e_58, e_59, e_60, e_63, e_64, e_65, e_68, e_69, e_70, e_73, e_74, e_75, e_77, e_85, e_87, go_sem, seval]; rcases iteS h with ⟨e_89, h⟩ | ⟨e_89, h⟩
      · simp only [e_46, e_47, e_48, e_51, e_52, e_53, e_55, e_58, e_59, e_60, e_63, e_64, e_65, e_68, e_69, e_70, e_73, e_74, e_75, e_77, e_85, e_87, e_89, go_sem, seval]; rw [← hQ]; exact ⟨_, _, (Ref.out [0, 1, 5, 6, 7] rfl), (Nat.zero_le _), ih _ _ h hp⟩
      · simp only [e_46, e_47, e_48, e_51, e_52, e_53, e_55, e_58, e_59, e_60, e_63, e_64, e_65, e_68, e_69, e_70, e_73, e_74, e_75, e_77, e_85, e_87, e_89, go_sem, seval]; cases h; rw [← hQ]; exact ⟨_, _, (Ref.out [4] rfl), hp⟩
     · simp only [e_46, e_47, e_48, e_51, e_52, e_53, e_55, e_58, e_59, e_60, e_63, e_64, e_65, e_68, e_69, e_70, e_73, e_74, e_75, e_77, e_85, e_87, go_sem, seval]; cases h; rw [← hQ]; exact ⟨_, _, (Ref.out [4] rfl), hp⟩
  · simp only [e_46, e_47, e_48, e_51, e_52, e_53, e_55, go_sem, seval]; cases h; rw [← hQ]; exact ⟨_, _, (Ref.out [0, 1, 5, 6] rfl), hp⟩
theorem Xdo (N : Nat) (l_0 : List (List (List Xw))) (l_1 : List (List (List Xw))) (i_3 : Int) (c_0 : Bool) (c_1 : Bool) {R : AExit → ATm → List AObj → Prop} : ∀ (n : Nat) (i_18 : Int) (o : (Unit) ⊕ (Unit)), Zz N l_0 l_1 i_3 n i_18 = some o → (match o with | .inl _ => R (.exit 2) ⟨89, [(0, .vec c_0 (List.map Xl l_0)), (1, .vec c_1 (List.map Xl l_1)), (5, .int .i64 i_3)], []⟩ [] | .inr (_) => R .ret ⟨89, [(4, .bool false)], []⟩ []) →
  ALp Try.prog 0 B44_2 ⟨89, [(0, .vec c_0 (List.map Xl l_0)), (1, .vec c_1 (List.map Xl l_1)), (5, .int .i64 i_3), (6, .int .i64 i_18)], []⟩ [] R := by
 intro n
 induction n with
 | zero =>
  intro i_18 o h _; exact no0 h
 | succ n ih =>
  intro i_18 o h hp; rw [Zz] at h; refine ALp.round ?_; generalize hQ : YB _ _ _ _ = QQ; obtain ⟨x_19, h_20, h⟩ := bindS h; have e_21 : (List.map Xl l_0)[(i_3).toNat]? = some [.vec false (List.map XQ x_19)] := XA Xl h_20; have e_22 := eq_true (Xx h_20).1; have e_23 := eq_true (XP h_20); simp only [B44_2, B44_1, A44, e_21, e_22, e_23, go_sem, seval]; rcases iteS h with ⟨e_25, h⟩ | ⟨e_25, h⟩
  ·
   obtain ⟨x_26, h_27, h⟩ := bindS h; have e_28 : (List.map XQ x_19)[(i_18).toNat]? = some [.vec false (List.map YR x_26)] := XA XQ h_27; have e_29 := eq_true (Xx h_27).1; have e_30 := eq_true (XP h_27); obtain ⟨x_31, h_32, h⟩ := bindS h; have e_33 : (List.map Xl l_1)[(i_3).toNat]? = some [.vec false (List.map XQ x_31)] := XA Xl h_32; have e_34 := eq_true (Xx h_32).1; have e_35 := eq_true (XP h_32); obtain ⟨x_36, h_37, h⟩ := bindS h; have e_38 : (List.map XQ x_31)[(i_18).toNat]? = some [.vec false (List.map YR x_36)] := XA XQ h_37; have e_39 := eq_true (Xx h_37).1; have e_40 := eq_true (XP h_37); simp only [e_21, e_22, e_23, e_25, e_28, e_29, e_30, e_33, e_34, e_35, e_38, e_39, e_40, go_sem, seval]; rcases iteS h with ⟨e_42, h⟩ | ⟨e_42, h⟩
   ·
    simp only [e_21, e_22, e_23, e_25, e_28, e_29, e_30, e_33, e_34, e_35, e_38, e_39, e_40, e_42, go_sem, seval]; obtain ⟨o_1044, h_1043, h⟩ := bindS h; refine ALp.ref (Ref.out [0, 1, 5, 6, 7] rfl) (Nat.zero_le _) (Xdp N _ _ _ _ c_0 c_1 N _ o_1044 h_1043 ?_); rcases o_1044 with _ | _
    · (try dsimp only at h); refine XJ rfl (Nat.zero_le _) ?_; simp only [e_21, e_22, e_23, e_25, e_28, e_29, e_30, e_33, e_34, e_35, e_38, e_39, e_40, e_42, go_sem, seval]; rw [← hQ]; exact ⟨_, _, (Ref.out [0, 1, 5, 6] rfl), (Nat.zero_le _), ih _ _ h hp⟩
    · (try dsimp only at h); refine Zj ?_; cases h; rw [← hQ]; exact ⟨_, _, (Ref.out [4] rfl), hp⟩
   · simp only [e_21, e_22, e_23, e_25, e_28, e_29, e_30, e_33, e_34, e_35, e_38, e_39, e_40, e_42, go_sem, seval]; cases h; rw [← hQ]; exact ⟨_, _, (Ref.out [4] rfl), hp⟩
  · simp only [e_21, e_22, e_23, e_25, go_sem, seval]; cases h; rw [← hQ]; exact ⟨_, _, (Ref.out [0, 1, 5] rfl), hp⟩
theorem Xdn (N : Nat) (l_0 : List (List (List Xw))) (l_1 : List (List (List Xw))) (c_0 : Bool) (c_1 : Bool) {R : AExit → ATm → List AObj → Prop} : ∀ (n : Nat) (i_3 : Int) (o : (Unit) ⊕ (Unit)), Zy N l_0 l_1 n i_3 = some o → (match o with | .inl _ => R (.exit 0) ⟨89, [], []⟩ [] | .inr (_) => R .ret ⟨89, [(4, .bool false)], []⟩ []) →
  ALp Try.prog 0 B44_1 ⟨89, [(0, .vec c_0 (List.map Xl l_0)), (1, .vec c_1 (List.map Xl l_1)), (5, .int .i64 i_3)], []⟩ [] R := by
 intro n
 induction n with
 | zero =>
  intro i_3 o h _; exact no0 h
 | succ n ih =>
  intro i_3 o h hp; rw [Zy] at h; refine ALp.round ?_; generalize hQ : YB _ _ _ _ = QQ; simp only [B44_1, A44, go_sem, seval]; rcases iteS h with ⟨e_5, h⟩ | ⟨e_5, h⟩
  ·
   obtain ⟨x_6, h_7, h⟩ := bindS h; have e_8 : (List.map Xl l_0)[(i_3).toNat]? = some [.vec false (List.map XQ x_6)] := XA Xl h_7; have e_9 := eq_true (Xx h_7).1; have e_10 := eq_true (XP h_7); obtain ⟨x_11, h_12, h⟩ := bindS h; have e_13 : (List.map Xl l_1)[(i_3).toNat]? = some [.vec false (List.map XQ x_11)] := XA Xl h_12; have e_14 := eq_true (Xx h_12).1; have e_15 := eq_true (XP h_12); simp only [e_5, e_8, e_9, e_10, e_13, e_14, e_15, go_sem, seval]; rcases iteS h with ⟨e_17, h⟩ | ⟨e_17, h⟩
   ·
    simp only [e_5, e_8, e_9, e_10, e_13, e_14, e_15, e_17, go_sem, seval]; obtain ⟨o_1019, h_1018, h⟩ := bindS h; refine ALp.ref (Ref.out [0, 1, 5, 6] rfl) (Nat.zero_le _) (Xdo N _ _ _ c_0 c_1 N _ o_1019 h_1018 ?_); rcases o_1019 with _ | _
    · (try dsimp only at h); refine XJ rfl (Nat.zero_le _) ?_; simp only [e_5, e_8, e_9, e_10, e_13, e_14, e_15, e_17, go_sem, seval]; rw [← hQ]; exact ⟨_, _, (Ref.out [0, 1, 5] rfl), (Nat.zero_le _), ih _ _ h hp⟩
    · (try dsimp only at h); refine Zj ?_; cases h; rw [← hQ]; exact ⟨_, _, (Ref.out [4] rfl), hp⟩
   · simp only [e_5, e_8, e_9, e_10, e_13, e_14, e_15, e_17, go_sem, seval]; cases h; rw [← hQ]; exact ⟨_, _, (Ref.out [4] rfl), hp⟩
  · simp only [e_5, go_sem, seval]; cases h; rw [← hQ]; exact ⟨_, _, (Ref.out [] rfl), hp⟩
theorem Xfo (N : Nat) (l_0 : List (List (List Xw))) (l_1 : List (List (List Xw))) (c_0 : Bool) (c_1 : Bool) (z_1 : Bool) (h : Jg N l_0 l_1 = some z_1) :
  Xa Try.prog 44 [.vec c_0 (List.map Xl l_0), .vec c_1 (List.map Xl l_1)] [] (fun e H => H = [] ∧ e = .ret (.bool z_1)) := by
 unfold Jg at h; refine Xa.goN Try.func44 n44 a44 Try.ntmps44 r44 (by simp) 0 rfl ?_; generalize hQ : bodyA _ _ _ = QQ; simp only [A44, go_sem, seval]; rcases iteS h with ⟨e_2, h⟩ | ⟨e_2, h⟩
 ·
  simp only [e_2, go_sem, seval]; obtain ⟨o_1004, h_1003, h⟩ := bindS h; refine ALp.ref (Ref.out [0, 1, 5] rfl) (Nat.zero_le _) (Xdn N _ _ c_0 c_1 N _ o_1004 h_1003 ?_); rcases o_1004 with _ | _
  · (try dsimp only at h); refine XJ rfl (Nat.zero_le _) ?_; simp only [e_2, go_sem, seval]; obtain rfl := si h; rw [← hQ]; exact ⟨rfl, _, rfl, _, _, (RefV.out rfl), rfl, rfl⟩
  · (try dsimp only at h); refine Zj ?_; obtain rfl := si h; rw [← hQ]; exact ⟨rfl, _, rfl, _, _, (RefV.out rfl), rfl, rfl⟩
 · simp only [e_2, go_sem, seval]; obtain rfl := si h; rw [← hQ]; exact ⟨rfl, _, rfl, _, _, (RefV.out rfl), rfl, rfl⟩
end Go.Proofs.Ytfacmhngbaboiaa.AI
