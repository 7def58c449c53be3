/- Walks, further ones. -/
import Derived.Test.YtfacmhngbaboiaagsW2
set_option linter.unusedVariables false
set_option linter.unusedSimpArgs false
set_option maxRecDepth 100000
set_option maxHeartbeats 1000000
namespace Go.Proofs.Ytfacmhngbaboiaa.AI
open Go.Proofs (Try.prog)
attribute [local go_sem] Xh5 Xf1 Xdi Xaq Xeq Xet Xes Xcd Xeu Xer Xdm Xcc Xep Xdk Jr Xdj Xbq Xa7 Jz Xdl Xjm Xgl Xbv Xic Xif Xie Xez Xid Xey Xib JO Xgm Xds
theorem Xix (N : Nat) (a_0 : Int) (l_1 : List TSpan) (b_2 : Bool) (a_3 : Int) (l_4 : List (List Int)) (l_5 : List (List TLig)) (l_6 : List TCtx) (l_7 : List Yg) (l_8 : List (List TTwo)) (l_9 : List Xg) (l_10 : List Xg) (l_11 : List (List TTwo)) (l_12 : List Xp) (l_13 : List TMark) (l_14 : List TSpan) (l_15 : List (List (List Xw))) (a_16 : Int) (l_17 : List TSpan) (b_18 : Bool) (a_19 : Int) (l_20 : List (List Int)) (l_21 : List (List TLig)) (l_22 : List TCtx) (l_23 : List Yg) (l_24 : List (List TTwo)) (l_25 : List Xg) (l_26 : List Xg) (l_27 : List (List TTwo)) (l_28 : List Xp) (l_29 : List TMark) (l_30 : List TSpan) (l_31 : List (List (List Xw))) (c_0 : Bool) (c_1 : Bool) (c_2 : Bool) (c_3 : Bool) (c_4 : Bool) (c_5 : Bool) (c_6 : Bool) (c_7 : Bool) (c_8 : Bool) (c_9 : Bool) (c_10 : Bool) (c_11 : Bool) (c_12 : Bool) (c_13 : Bool) (c_14 : Bool) (c_15 : Bool) (c_16 : Bool) (c_17 : Bool) (c_18 : Bool) (c_19 : Bool) (c_20 : Bool) (c_21 : Bool) (c_22 : Bool) (c_23 : Bool) (c_24 : Bool) (c_25 : Bool) (z_1 : Bool) (h : Xbd N a_0 l_1 b_2 a_3 l_4 l_5 l_6 l_7 l_8 l_9 l_10 l_11 l_12 l_13 l_14 l_15 a_16 l_17 b_18 a_19 l_20 l_21 l_22 l_23 l_24 l_25 l_26 l_27 l_28 l_29 l_30 l_31 = some z_1) :
  Xa Try.prog 22 [.agg [.int .i64 a_0, .vec c_0 (List.map Xi l_1), .bool b_2, .int .i64 a_3, .vec c_1 (List.map eLI64 l_4), .vec c_2 (List.map YP l_5), .vec c_3 (List.map eTCtx l_6), .vec c_4 (List.map XU l_7), .vec c_5 (List.map XC l_8), .vec c_6 (List.map Xh l_9), .vec c_7 (List.map Xh l_10), .vec c_8 (List.map XC l_11), .vec c_9 (List.map Xm l_12), .vec c_10 (List.map YD l_13), .vec c_11 (List.map Xi l_14), .vec c_12 (List.map Xl l_15)], .agg [.int .i64 a_16, .vec c_13 (List.map Xi l_17), .bool b_18, .int .i64 a_19, .vec c_14 (List.map eLI64 l_20), .vec c_15 (List.map YP l_21), .vec c_16 (List.map eTCtx l_22), .vec c_17 (List.map XU l_23), .vec c_18 (List.map XC l_24), .vec c_19 (List.map Xh l_25), .vec c_20 (List.map Xh l_26), .vec c_21 (List.map XC l_27), .vec c_22 (List.map Xm l_28), .vec c_23 (List.map YD l_29), .vec c_24 (List.map Xi l_30), .vec c_25 (List.map Xl l_31)]] [] (fun e H => H = [] ∧ e = .ret (.bool z_1)) := by
 unfold Xbd at h; refine Xa.goN Try.func22 n22 a22 Try.ntmps22 r22 (by simp) 0 rfl ?_; generalize hQ : bodyA _ _ _ = QQ; obtain ⟨y_1, h_2, h⟩ := bindS h; simp only [A22, go_sem, seval]; refine Xa.go0 (Xiy N _ _ _ _ _ _ _ _ _ _ _ _ _ _ _ _ _ _ _ _ _ _ _ _ _ _ _ _ _ _ _ _ c_0 c_1 c_2 c_3 c_4 c_5 c_6 c_7 c_8 c_9 c_10 c_11 c_12 c_13 c_14 c_15 c_16 c_17 c_18 c_19 c_20 c_21 c_22 c_23 c_24 c_25 _ h_2) ?_; simp only [go_sem, seval]; rcases iteB h with ⟨e_4, h⟩ | ⟨e_4, h⟩
 ·
  simp only [e_4, go_sem, seval]; rcases iteS h with ⟨e_6, h⟩ | ⟨e_6, h⟩
  ·
   simp only [e_4, e_6, go_sem, seval]; rcases iteS h with ⟨e_8, h⟩ | ⟨e_8, h⟩
   ·
    simp only [e_4, e_6, e_8, go_sem, seval]; rcases iteS h with ⟨e_10, h⟩ | ⟨e_10, h⟩
    ·
     obtain ⟨y_11, h_12, h⟩ := bindS h; simp only [e_4, e_6, e_8, e_10, go_sem, seval]; refine Xa.go0 (Xa3 N _ _ c_11 c_24 _ h_12) ?_; simp only [e_4, e_6, e_8, e_10, go_sem, seval]; rcases iteB h with ⟨e_14, h⟩ | ⟨e_14, h⟩
     ·
      obtain ⟨y_15, h_16, h⟩ := bindS h; simp only [e_4, e_6, e_8, e_10, e_14, go_sem, seval]; refine Xa.go0 (Xat N _ _ c_6 c_19 _ h_16) ?_; simp only [e_4, e_6, e_8, e_10, e_14, go_sem, seval]; rcases iteB h with ⟨e_18, h⟩ | ⟨e_18, h⟩
      ·
       obtain ⟨y_19, h_20, h⟩ := bindS h; simp only [e_4, e_6, e_8, e_10, e_14, e_18, go_sem, seval]; refine Xa.go0 (Xat N _ _ c_7 c_20 _ h_20) ?_; simp only [e_4, e_6, e_8, e_10, e_14, e_18, go_sem, seval]; rcases iteB h with ⟨e_22, h⟩ | ⟨e_22, h⟩
       ·
        simp only [e_4, e_6, e_8, e_10, e_14, e_18, e_22, go_sem, seval]; obtain ⟨o_1024, h_1023, h⟩ := bindS h; refine ALp.ref (Ref.std [2, 3, 5] [0, 1] (by decide) low0 rfl (by first | rfl | simp only [go_sem, seval, e_4, e_6, e_8, e_10, e_14, e_18, e_22])) (Nat.zero_le _) (Xgc N _ _ _ _ _ _ _ _ _ _ _ _ _ _ _ _ _ _ _ _ _ _ _ _ _ _ _ _ _ _ _ _ c_0 c_1 c_2 c_3 c_4 c_5 c_6 c_7 c_8 c_9 c_10 c_11 c_12 c_13 c_14 c_15 c_16 c_17 c_18 c_19 c_20 c_21 c_22 c_23 c_24 c_25 N _ o_1024 h_1023 ?_); rcases o_1024 with _ | _
        ·
         (try dsimp only at h); refine XJ rfl (Nat.zero_le _) ?_; simp only [e_4, e_6, e_8, e_10, e_14, e_18, e_22, go_sem, seval]; obtain ⟨o_2026, h_2025, h⟩ := bindS h; refine ALp.ref (Ref.std [2, 3, 6] [0, 1] (by decide) low0 rfl (by first | rfl | simp only [go_sem, seval, e_4, e_6, e_8, e_10, e_14, e_18, e_22])) (Nat.zero_le _) (Xgb N _ _ _ _ _ _ _ _ _ _ _ _ _ _ _ _ _ _ _ _ _ _ _ _ _ _ _ _ _ _ _ _ c_0 c_1 c_2 c_3 c_4 c_5 c_6 c_7 c_8 c_9 c_10 c_11 c_12 c_13 c_14 c_15 c_16 c_17 c_18 c_19 c_20 c_21 c_22 c_23 c_24 c_25 N _ o_2026 h_2025 ?_); rcases o_2026 with _ | _
         ·
          (try dsimp only at h); refine XJ rfl (Nat.zero_le _) ?_; simp only [e_4, e_6, e_8, e_10, e_14, e_18, e_22, go_sem, seval]; obtain ⟨o_3028, h_3027, h⟩ := bindS h; refine ALp.ref (Ref.std [2, 3, 7] [0, 1] (by decide) low0 rfl (by first | rfl | simp only [go_sem, seval, e_4, e_6, e_8, e_10, e_14, e_18, e_22])) (Nat.zero_le _) (Xga N _ _ _ _ _ _ _ _ _ _ _ _ _ _ _ _ _ _ _ _ _ _ _ _ _ _ _ _ _ _ _ _ c_0 c_1 c_2 c_3 c_4 c_5 c_6 c_7 c_8 c_9 c_10 c_11 c_12 c_13 c_14 c_15 c_16 c_17 c_18 c_19 c_20 c_21 c_22 c_23 c_24 c_25 N _ o_3028 h_3027 ?_); rcases o_3028 with _ | _
          ·
           (try dsimp only at h); refine XJ rfl (Nat.zero_le _) ?_; obtain ⟨y_3029, h_3030, h⟩ := bindS h; simp only [e_4, e_6, e_8, e_10, e_14, e_18, e_22, go_sem, seval]; refine Xa.go0 (Xfa N _ _ c_5 c_18 _ h_3030) ?_; simp only [e_4, e_6, e_8, e_10, e_14, e_18, e_22, go_sem, seval]; rcases iteB h with ⟨e_3032, h⟩ | ⟨e_3032, h⟩
           ·
            obtain ⟨y_3033, h_3034, h⟩ := bindS h; simp only [e_4, e_6, e_8, e_10, e_14, e_18, e_22, e_3032, go_sem, seval]; refine Xa.go0 (Xfa N _ _ c_8 c_21 _ h_3034) ?_; simp only [e_4, e_6, e_8, e_10, e_14, e_18, e_22, e_3032, go_sem, seval]; rcases iteB h with ⟨e_3036, h⟩ | ⟨e_3036, h⟩
            · obtain ⟨y_3037, h_3038, h⟩ := bindS h; simp only [e_4, e_6, e_8, e_10, e_14, e_18, e_22, e_3032, e_3036, go_sem, seval]; refine Xa.go0 (Xfo N _ _ c_12 c_25 _ h_3038) ?_; simp only [e_4, e_6, e_8, e_10, e_14, e_18, e_22, e_3032, e_3036, go_sem, seval]; obtain rfl := si h; rw [← hQ]; exact ⟨rfl, _, rfl, _, _, (RefV.out (by first | rfl | simp only [go_sem, seval, e_4, e_6, e_8, e_10, e_14, e_18, e_22, e_3032, e_3036])), rfl, rfl⟩
            · simp only [e_4, e_6, e_8, e_10, e_14, e_18, e_22, e_3032, e_3036, go_sem, seval]; obtain rfl := si h; rw [← hQ]; exact ⟨rfl, _, rfl, _, _, (RefV.out rfl), rfl, rfl⟩
           · simp only [e_4, e_6, e_8, e_10, e_14, e_18, e_22, e_3032, go_sem, seval]; obtain rfl := si h; rw [← hQ]; exact ⟨rfl, _, rfl, _, _, (RefV.out rfl), rfl, rfl⟩
          · (try dsimp only at h); refine Zj ?_; obtain rfl := si h; rw [← hQ]; exact ⟨rfl, _, rfl, _, _, (RefV.out rfl), rfl, rfl⟩
         · (try dsimp only at h); refine Zj ?_; obtain rfl := si h; rw [← hQ]; exact ⟨rfl, _, rfl, _, _, (RefV.out rfl), rfl, rfl⟩
        · (try dsimp only at h); refine Zj ?_; obtain rfl := si h; rw [← hQ]; exact ⟨rfl, _, rfl, _, _, (RefV.out rfl), rfl, rfl⟩
       · simp only [e_4, e_6, e_8, e_10, e_14, e_18, e_22, go_sem, seval]; obtain rfl := si h; rw [← hQ]; exact ⟨rfl, _, rfl, _, _, (RefV.out rfl), rfl, rfl⟩
      · simp only [e_4, e_6, e_8, e_10, e_14, e_18, go_sem, seval]; obtain rfl := si h; rw [← hQ]; exact ⟨rfl, _, rfl, _, _, (RefV.out rfl), rfl, rfl⟩
     · simp only [e_4, e_6, e_8, e_10, e_14, go_sem, seval]; obtain rfl := si h; rw [← hQ]; exact ⟨rfl, _, rfl, _, _, (RefV.out rfl), rfl, rfl⟩
    · simp only [e_4, e_6, e_8, e_10, go_sem, seval]; obtain rfl := si h; rw [← hQ]; exact ⟨rfl, _, rfl, _, _, (RefV.out rfl), rfl, rfl⟩
   · simp only [e_4, e_6, e_8, go_sem, seval]; obtain rfl := si h; rw [← hQ]; exact ⟨rfl, _, rfl, _, _, (RefV.out rfl), rfl, rfl⟩
  · simp only [e_4, e_6, go_sem, seval]; obtain rfl := si h; rw [← hQ]; exact ⟨rfl, _, rfl, _, _, (RefV.out rfl), rfl, rfl⟩
 · simp only [e_4, go_sem, seval]; obtain rfl := si h; rw [← hQ]; exact ⟨rfl, _, rfl, _, _, (RefV.out rfl), rfl, rfl⟩
theorem Xd8 (N : Nat) (l_0 : List Int) (l_1 : List Int) (a_2 : Int) (c_0 : Bool) (c_1 : Bool) (z_1 : Bool) (h : Jn N l_0 l_1 a_2 = some z_1) :
  Xa Try.prog 9 [.vec c_0 (List.map eU8 l_0), .vec c_1 (List.map eU8 l_1), .int .i64 a_2] [] (fun e H => H = [] ∧ e = .ret (.bool z_1)) := by
 unfold Jn at h; refine Xa.goN Try.func9 n9 a9 Try.ntmps9 r9 (by simp) 0 rfl ?_; generalize hQ : bodyA _ _ _ = QQ; simp only [A9, go_sem, seval]; refine Xa.go0 alive13 ?_; simp only [go_sem, seval]; rcases iteS h with ⟨e_2, h⟩ | ⟨e_2, h⟩
 · simp only [e_2, go_sem, seval]; obtain rfl := si h; rw [← hQ]; exact ⟨rfl, _, rfl, _, _, (RefV.out rfl), rfl, rfl⟩
 ·
  simp only [e_2, go_sem, seval]; rcases iteS h with ⟨e_4, h⟩ | ⟨e_4, h⟩
  · simp only [e_2, e_4, go_sem, seval]; obtain rfl := si h; rw [← hQ]; exact ⟨rfl, _, rfl, _, _, (RefV.out rfl), rfl, rfl⟩
  ·
   have e_5 := Xaa l_0 eU8 1 (fun _ => rfl); obtain ⟨e_7, h⟩ := guardE h; have e_8 := tk eU8 l_0; have e_9 := Xaa l_1 eU8 1 (fun _ => rfl); have e_10 : (List.map eU8 l_0) ++ (List.map eU8 l_1) = (List.map eU8 (l_0 ++ l_1)) := YS l_0 l_1 eU8; obtain ⟨e_12, h⟩ := guardE h; obtain ⟨⟨y_13, y_14, y_15, y_16, y_17, y_18, y_19, y_20, y_21, y_22, y_23, y_24, y_25, y_26, y_27, y_28, y_29⟩, h_30, h⟩ := bindS h; (try dsimp only at h); simp only [e_2, e_4, e_5, e_7, e_8, e_9, e_10, e_12, go_sem, seval]; refine Xa.use0 (Xgu N _ _ _ c_0 _ _ _ _ _ _ _ _ _ _ _ _ _ _ _ _ _ h_30) rfl rfl ?_; refine CallK_ref (ta1 := ⟨50, [(2, .int .i64 a_2), (7, .vec false (List.map eU8 (l_0 ++ l_1))), (31, .tup [.agg [.int .i64 y_13, .vec false (List.map Xi y_14), .bool y_15, .int .i64 y_16, .vec false (List.map eLI64 y_17), .vec false (List.map YP y_18), .vec false (List.map eTCtx y_19), .vec false (List.map XU y_20), .vec false (List.map XC y_21), .vec false (List.map Xh y_22), .vec false (List.map Xh y_23), .vec false (List.map XC y_24), .vec false (List.map Xm y_25), .vec false (List.map YD y_26), .vec false (List.map Xi y_27), .vec false (List.map Xl y_28)], .bool y_29])], []⟩) (H1 := []) (Ref.trans (Ref.frz (Nat.zero_le _) (id := 1) rfl (XX (l_0 ++ l_1) eU8 (fun _ => rfl))) (Ref.out [2, 7, 31] (by first | rfl | simp only [go_sem, seval, e_2, e_4]))) (Nat.zero_le _) ?_; obtain ⟨⟨y_31, y_32, y_33, y_34, y_35, y_36, y_37, y_38, y_39, y_40, y_41, y_42, y_43, y_44, y_45, y_46, y_47⟩, h_48, h⟩ := bindS h; (try dsimp only at h); simp only [e_2, e_4, e_5, e_7, e_8, e_9, e_10, e_12, go_sem, seval]; refine Xa.go0 (Xgu N _ _ _ false _ _ _ _ _ _ _ _ _ _ _ _ _ _ _ _ _ h_48) ?_; simp only [e_2, e_4, e_5, e_7, e_8, e_9, e_10, e_12, go_sem, seval]; rcases iteB h with ⟨e_50, h⟩ | ⟨e_50, h⟩
   ·
    simp only [e_2, e_4, e_5, e_7, e_8, e_9, e_10, e_12, e_50, go_sem, seval]; rcases iteB h with ⟨e_52, h⟩ | ⟨e_52, h⟩
    · obtain ⟨y_53, h_54, h⟩ := bindS h; simp only [e_2, e_4, e_5, e_7, e_8, e_9, e_10, e_12, e_50, e_52, go_sem, seval]; refine Xa.go0 (Xix N _ _ _ _ _ _ _ _ _ _ _ _ _ _ _ _ _ _ _ _ _ _ _ _ _ _ _ _ _ _ _ _ false false false false false false false false false false false false false false false false false false false false false false false false false false _ h_54) ?_; simp only [e_2, e_4, e_5, e_7, e_8, e_9, e_10, e_12, e_50, e_52, go_sem, seval]; obtain rfl := si h; rw [← hQ]; exact ⟨rfl, _, rfl, _, _, (RefV.out (by first | rfl | simp only [go_sem, seval, e_2, e_4, e_50, e_52])), rfl, rfl⟩
    · simp only [e_2, e_4, e_5, e_7, e_8, e_9, e_10, e_12, e_50, e_52, go_sem, seval]; obtain rfl := si h; rw [← hQ]; exact ⟨rfl, _, rfl, _, _, (RefV.out rfl), rfl, rfl⟩
   · simp only [e_2, e_4, e_5, e_7, e_8, e_9, e_10, e_12, e_50, go_sem, seval]; obtain rfl := si h; rw [← hQ]; exact ⟨rfl, _, rfl, _, _, (RefV.out rfl), rfl, rfl⟩
end Go.Proofs.Ytfacmhngbaboiaa.AI
