-- PRINTED BY mprint.py (a program of this session, over the kit's printer): Lean checks it
import Derived.Test.YtlpikbkdlnocdaaK0
import Derived.Test.YtlpikbkdlnocdaaK1
import Derived.Test.YtlpikbkdlnocdaaK2
import Derived.Test.YtlpikbkdlnocdaaK4
namespace Go.Proofs.Ytlpikbkdlnocdaa.K
open Go.RowKit Go.Proofs.YtlpikbkdlnocdaaW.PrintWords Go.Proofs.YtlpikbkdlnocdaaW.PrintLast Go.Proofs.YtlpikbkdlnocdaaW.PrintMore
attribute [local go_sem] max2_int min2_int max_two min_two max_three min_three max_four min_four   -- for this text's walks alone
set_option linter.unusedVariables false
set_option linter.unusedSimpArgs false

/-! ### order_Final: function 23 -/
def order_Final.l0 : Nat → List Int → List Int → Int → Int → Int → ByteArray → Bool → Int → Option (List Int)
  | 0, _, _, _, _, _, _, _, _ => none
  | k + 1, x5, x8, x9, x10, x142000, x142001, x142002, x142003 => if x10 < x9 then (if 0 ≤ x10 then (if x10 < (x8.length : Int) then (if (rd x8 x10) = 0 then (if x5.length < 17592186044416 then (order_Final.l0 k (x5 ++ [x142003]) x8 x9 (wrap64 (x10 + 1)) x142000 x142001 x142002 x142003) else (none)) else (if x5.length < 17592186044416 then (order_Final.l0 k (x5 ++ [rd x8 x10]) x8 x9 (wrap64 (x10 + 1)) x142000 x142001 x142002 x142003) else (none))) else (none)) else (none)) else (some x5)
def order_Final.f (k : Nat) (a0_0 : Int) (a0_1 : ByteArray) (a0_2 : Bool) (a0_3 : Int) (l1 : List Int) : Option (List Int) := order_Final.l0 k ([] : List Int) l1 (l1.length : Int) 0 a0_0 a0_1 a0_2 a0_3
theorem order_Final.mono_l : ∀ k, (∀ y0 y1 y2 y3 y4 y5 y6 y7, LeO (order_Final.l0 k y0 y1 y2 y3 y4 y5 y6 y7) (order_Final.l0 (k + 1) y0 y1 y2 y3 y4 y5 y6 y7))
  | 0 => fun _ _ _ _ _ _ _ _ r h => by simp [order_Final.l0] at h
  | k + 1 => by
    have ih0 := order_Final.mono_l k
    · intro y0 y1 y2 y3 y4 y5 y6 y7
      unfold order_Final.l0
      repeat' first
      | (with_reducible exact ih0 _ _ _ _ _ _ _ _)
      | (with_reducible exact LeO.refl _)
      | (with_reducible exact LeO.none _)
      | (with_reducible refine LeO.ite ?_ ?_)
      | (with_reducible refine LeO.bind ?_ (fun _ => ?_))
      | exact ih0 _ _ _ _ _ _ _ _
      | exact LeO.none _
      | refine LeO.ite ?_ ?_
      | refine LeO.bind ?_ (fun _ => ?_)
theorem order_Final.mono : ∀ a0 a1 a2 a3 a4 k, LeO (order_Final.f k a0 a1 a2 a3 a4) (order_Final.f (k + 1) a0 a1 a2 a3 a4) := by
  intro a0 a1 a2 a3 a4 k
  have ih0 := order_Final.mono_l k
  unfold order_Final.f
  repeat' first
      | (with_reducible exact ih0 _ _ _ _ _ _ _ _)
      | (with_reducible exact LeO.refl _)
      | (with_reducible exact LeO.none _)
      | (with_reducible refine LeO.ite ?_ ?_)
      | (with_reducible refine LeO.bind ?_ (fun _ => ?_))
      | exact ih0 _ _ _ _ _ _ _ _
      | exact LeO.none _
      | refine LeO.ite ?_ ?_
      | refine LeO.bind ?_ (fun _ => ?_)
set_option maxHeartbeats 8000000 in
set_option maxRecDepth 100000 in
theorem order_Final.calls (k : Nat) (a0_0 : Int) (a0_1 : ByteArray) (a0_2 : Bool) (a0_3 : Int) (A1 : Option Addr) (c1 : Nat) (l1 : List Int) (r : List Int) (w : World) (hr1 : Kd.C (Kd.int .i64) w A1 l1.length l1) (hc1 : l1.length ≤ c1) (h : order_Final.f k a0_0 a0_1 a0_2 a0_3 l1 = some r) :
    Calls Try.prog 23 #[.agg #[.int .i64 a0_0, .string a0_1, .bool a0_2, .int .i64 a0_3], .slice A1 l1.length c1] w fun e w' => ∃ v0_ : Value, e = .returned (v0_) ∧ Kd.R (Kd.int .i64) 3 w' w.heap.size (fun _ => True) v0_ r ∧ Below w.heap.size w w' := by
  have hu23 := Try.underlying23
  have HR1 := Aside0.mk hr1
  have HC1 := Aside0.mk hc1
  clear hr1 hc1
  have HB := Aside0.mk (Below.refl w.heap.size w)
  have H : (order_Final.l0 k ([] : List Int) l1 (l1.length : Int) 0 a0_0 a0_1 a0_2 a0_3) = some r := h
  clear h
  have H' := Aside0.mk H
  clear H
  go_enter Try.func23, Try.ntmps23
  go_wp2_with (first | ((with_reducible refine gate_dst (N := 2) rfl ?_); refine box_event ?hg (N := 2) ?hd (cs := #[.int .i64 a0_0, .string a0_1, .bool a0_2, .int .i64 a0_3]) (t := 23) ?hr ?_; (case hd => rfl); (case hg => rfl); (case hr => first | (go_simp; done) | (go_simp; rfl)); intro gb141 hg w3 hbox hb; have n0_ := Aside0.mk (below_step (by repeat (first | (with_reducible first | exact HB.out | apply below_alloc | apply pw_below_drewN | apply below_drew1) | exact HB.out)) hb); have n1_ := Aside0.mk (hbox); have n2_ := Aside0.mk ((by rw [hg]; exact (below_size (by repeat (first | (with_reducible first | exact HB.out | apply below_alloc | apply pw_below_drewN | apply below_drew1) | exact HB.out))) : w.heap.size ≤ gb141)); have n3_ := Aside0.mk ((by rw [hg]; exact (below_size (by repeat (first | (with_reducible first | exact HB.out | apply below_alloc | apply pw_below_drewN | apply below_drew1) | exact HB.out))) : w.heap.size ≤ gb141)); clear HB; have HB := n0_; have BK141 := n1_; have GW141 := n2_; have GE141 := n3_; clear n0_ n1_ n2_ n3_; clear hb hbox hg))
  go_loopg [5, 10] k (fun kq v5 v10 w' => ∃ (x5_1 : List Int) (x10_1 : Int), v10 = .int .i64 x10_1 ∧ Aside0 (order_Final.l0 kq x5_1 l1 (l1.length : Int) x10_1 a0_0 a0_1 a0_2 a0_3 = some r) ∧ Aside0 (kq ≤ k) ∧ Aside0 (Kd.R (Kd.int .i64) 3 w' w.heap.size (fun _ => True) v5 x5_1) ∧ Aside0 (w'.heap[gb141]? = some (.cells #[.int .i64 a0_0, .string a0_1, .bool a0_2, .int .i64 a0_3] 23 (0, 0))) ∧ Aside0 (Below w.heap.size w w'))
  case atStart => exact ⟨(([] : List Int)), (0), (by first | rfl | (simp; done) | (simp [*]; done)), H', ⟨Nat.le_refl _⟩, ⟨by first | exact Kd.R_nil _ _ _ _ _ | exact Kd.N_nil _ _ _ _ _ | exact Kd.V_nil _ _ _ _ _ | exact Kd.Q_nil _ _ _ _ _ | exact Kd.S_nil _ _ _ _ _⟩, ⟨by (with_reducible repeat (first | refine blk_drewN ?_ _ | refine blk_drew ?_ | refine blk_alloc ?_ _)); exact BK141.out⟩, ⟨by repeat (first | (with_reducible first | exact HB.out | apply below_alloc | apply pw_below_drewN | apply below_drew1 | refine below_set ?_ GE141.out) | exact HB.out)⟩⟩
  case round =>
    clear H'
    try clear c1
    try clear c2
    try clear p2
    obtain ⟨x5_1, x10_1, rfl, HA, HK1, HO_5, BK141, HB⟩ := hrel
    cases gk with
    | zero => exact absurd HA.out (by simp [order_Final.l0])
    | succ k1 =>
      have H := HA.out
      clear HA
      simp only [order_Final.l0] at H
      by_cases c4 : x10_1 < (l1.length : Int)
      · rw [if_pos c4] at H
        have c4b0 : decide (x10_1 < (l1.length : Int)) = true := decide_eq_true c4
        clear c4
        by_cases c5 : 0 ≤ x10_1
        · rw [if_pos c5] at H
          have c5b0 : decide (0 ≤ x10_1) = true := decide_eq_true c5
          clear c5
          by_cases c6 : x10_1 < (l1.length : Int)
          · rw [if_pos c6] at H
            have c6b0 : decide (x10_1 < (l1.length : Int)) = true := decide_eq_true c6
            clear c6
            by_cases c7 : (rd l1 x10_1) = 0
            · rw [if_pos c7] at H
              have c7b0 : ((rd l1 x10_1) == 0) = true := beq_iff_eq.mpr c7
              have c7b1 : ((rd l1 x10_1) != 0) = false := bne_eq_false_iff_eq.mpr c7
              clear c7
              by_cases c8 : x5_1.length < 17592186044416
              · rw [if_pos c8] at H
                have LMc8 := Aside0.mk c8
                clear c8
                obtain ⟨y143, hy143⟩ : ∃ y_ : List Int, y_ = (x5_1 ++ [a0_3]) := ⟨_, rfl⟩
                replace H : (order_Final.l0 k1 y143 l1 (l1.length : Int) (wrap64 (x10_1 + 1)) a0_0 a0_1 a0_2 a0_3) = some r := by first | (rw [hy143]; with_reducible exact H) | (have H2_ := (Option.bind_some _ _).symm.trans H; rw [hy143]; with_reducible exact H2_) | (have H2_ := (Option.bind_some _ _).symm.trans H; with_reducible exact H2_) | with_reducible exact H | (rw [hy143]; exact H) | exact H
                have Ny143 := Aside0.mk hy143
                clear hy143
                have H' := Aside0.mk H
                clear H
                have p142 : 0 ≤ (x10_1 : Int) := of_decide_eq_true (by first | (with_reducible assumption) | assumption)
                have q142 : x10_1 < (l1.length : Int) := of_decide_eq_true (by first | (with_reducible assumption) | assumption)
                obtain ⟨ad142, e142, hx142_0⟩ := Kd.at_int HR1.out x10_1 p142 q142
                cases e142
                replace hx142_0 := (HB.out.cell (World.block_lt_of_cell? w _ hx142_0)).trans hx142_0
                replace p142 := eq_true p142
                replace q142 := eq_true q142
                have hcz9_0 : wr.cell? ⟨gb141, 0, none⟩ = some (.int .i64 a0_0) := (blk_cell BK141.out 0).trans rfl
                have hcz9_1 : wr.cell? ⟨gb141, 1, none⟩ = some (.string a0_1) := (blk_cell BK141.out 1).trans rfl
                have hcz9_2 : wr.cell? ⟨gb141, 2, none⟩ = some (.bool a0_2) := (blk_cell BK141.out 2).trans rfl
                have hcz9_3 : wr.cell? ⟨gb141, 3, none⟩ = some (.int .i64 a0_3) := (blk_cell BK141.out 3).trans rfl
                have hfz9_0 := blk_frozen BK141.out 0
                have hfz9_1 := blk_frozen BK141.out 1
                have hfz9_2 := blk_frozen BK141.out 2
                have hfz9_3 := blk_frozen BK141.out 3
                go_wp2_with (first | ((with_reducible refine gate_builtin (b := .append) (xs := #[.tmp 18, .tmp 20]) rfl ?_); at_builtin; refine Kd.R_append (Kd.int .i64) (w0 := w) w.heap.size rfl (.tmp 18) (.tmp 20) 24 3 (.int .i64 0) 8 rfl Try.underlying24 info3 rfl (by decide) (by omega) u5 x5_1 a0_3 [.int .i64 a0_3] (fun _ => True) (fun _ => False) rfl rfl ?aP (fun _ hk => hk.elim) ?aF ?aO ?aB ?aS ?aL ?_; (case aP => exact rfl); (case aB => exact (by repeat (first | (with_reducible first | exact HB.out | apply below_alloc | apply pw_below_drewN | apply below_drew1 | refine below_set ?_ GE141.out) | exact HB.out))); (case aF => exact (fun _ _ => trivial)); (case aO => exact (by (with_reducible repeat (first | apply Kd.R_alloc | apply Kd.R_drewN | apply Kd.R_drew)); exact HO_5.out)); (case aS => exact (below_size (by repeat (first | (with_reducible first | exact HB.out | apply below_alloc | apply pw_below_drewN | apply below_drew1 | refine below_set ?_ GE141.out) | exact HB.out)))); (case aL => have := LMc8.out; omega); intro v144 w10 ho hb hg hat; rw [← Ny143.out] at ho; have n0_ := Aside0.mk (blk_grown (g := gb141) (o := .cells #[.int .i64 a0_0, .string a0_1, .bool a0_2, .int .i64 a0_3] 23 (0, 0)) (by (with_reducible repeat (first | refine blk_drewN ?_ _ | refine blk_drew ?_ | refine blk_alloc ?_ _)); exact BK141.out) hg ((by first | exact Kd.R_ne HO_5.out BK141.out (by decide) | exact Kd.R_away HO_5.out (fun _ hk => hk.2) | exact Kd.R_away HO_5.out (fun _ hk => hk)))); have n1_ := Aside0.mk (hb); have n2_ := Aside0.mk (ho); clear BK141; clear HB; clear HO_5; have BK141 := n0_; have HB := n1_; have HO145 := n2_; clear n0_ n1_ n2_; clear ho hb hg hat))
                go_roundg k1
                case measure => have := HK1.out; omega
                case rel => exact ⟨(y143), (wrap64 (x10_1 + 1)), (by first | rfl | (simp; done) | (simp [*]; done)), H', ⟨by have := HK1.out; omega⟩, ⟨by (with_reducible repeat (first | apply Kd.R_alloc | apply Kd.R_drewN | apply Kd.R_drew)); exact HO145.out⟩, ⟨by (with_reducible repeat (first | refine blk_drewN ?_ _ | refine blk_drew ?_ | refine blk_alloc ?_ _)); exact BK141.out⟩, ⟨by repeat (first | (with_reducible first | exact HB.out | apply below_alloc | apply pw_below_drewN | apply below_drew1 | refine below_set ?_ GE141.out) | exact HB.out)⟩⟩
              · rw [if_neg c8] at H
                exact absurd H (by simp)
            · rw [if_neg c7] at H
              have c7b0 : ((rd l1 x10_1) == 0) = false := beq_eq_false_iff_ne.mpr c7
              have c7b1 : ((rd l1 x10_1) != 0) = true := bne_iff_ne.mpr c7
              by_cases c11 : x5_1.length < 17592186044416
              · rw [if_pos c11] at H
                have LMc11 := Aside0.mk c11
                clear c11
                obtain ⟨y146, hy146⟩ : ∃ y_ : List Int, y_ = (x5_1 ++ [rd l1 x10_1]) := ⟨_, rfl⟩
                replace H : (order_Final.l0 k1 y146 l1 (l1.length : Int) (wrap64 (x10_1 + 1)) a0_0 a0_1 a0_2 a0_3) = some r := by first | (rw [hy146]; with_reducible exact H) | (have H2_ := (Option.bind_some _ _).symm.trans H; rw [hy146]; with_reducible exact H2_) | (have H2_ := (Option.bind_some _ _).symm.trans H; with_reducible exact H2_) | with_reducible exact H | (rw [hy146]; exact H) | exact H
                have Ny146 := Aside0.mk hy146
                clear hy146
                have H' := Aside0.mk H
                clear H
                have p142 : 0 ≤ (x10_1 : Int) := of_decide_eq_true (by first | (with_reducible assumption) | assumption)
                have q142 : x10_1 < (l1.length : Int) := of_decide_eq_true (by first | (with_reducible assumption) | assumption)
                obtain ⟨ad142, e142, hx142_0⟩ := Kd.at_int HR1.out x10_1 p142 q142
                cases e142
                replace hx142_0 := (HB.out.cell (World.block_lt_of_cell? w _ hx142_0)).trans hx142_0
                replace p142 := eq_true p142
                replace q142 := eq_true q142
                go_wp2_with (first | ((with_reducible refine gate_builtin (b := .append) (xs := #[.tmp 18, .tmp 20]) rfl ?_); at_builtin; refine Kd.R_append (Kd.int .i64) (w0 := w) w.heap.size rfl (.tmp 18) (.tmp 20) 24 3 (.int .i64 0) 8 rfl Try.underlying24 info3 rfl (by decide) (by omega) u5 x5_1 (rd l1 x10_1) [.int .i64 (rd l1 x10_1)] (fun _ => True) (fun _ => False) rfl rfl ?aP (fun _ hk => hk.elim) ?aF ?aO ?aB ?aS ?aL ?_; (case aP => exact rfl); (case aB => exact (by repeat (first | (with_reducible first | exact HB.out | apply below_alloc | apply pw_below_drewN | apply below_drew1 | refine below_set ?_ GE141.out) | exact HB.out))); (case aF => exact (fun _ _ => trivial)); (case aO => exact (by (with_reducible repeat (first | apply Kd.R_alloc | apply Kd.R_drewN | apply Kd.R_drew)); exact HO_5.out)); (case aS => exact (below_size (by repeat (first | (with_reducible first | exact HB.out | apply below_alloc | apply pw_below_drewN | apply below_drew1 | refine below_set ?_ GE141.out) | exact HB.out)))); (case aL => have := LMc11.out; omega); intro v147 w12 ho hb hg hat; rw [← Ny146.out] at ho; have n0_ := Aside0.mk (blk_grown (g := gb141) (o := .cells #[.int .i64 a0_0, .string a0_1, .bool a0_2, .int .i64 a0_3] 23 (0, 0)) (by (with_reducible repeat (first | refine blk_drewN ?_ _ | refine blk_drew ?_ | refine blk_alloc ?_ _)); exact BK141.out) hg ((by first | exact Kd.R_ne HO_5.out BK141.out (by decide) | exact Kd.R_away HO_5.out (fun _ hk => hk.2) | exact Kd.R_away HO_5.out (fun _ hk => hk)))); have n1_ := Aside0.mk (hb); have n2_ := Aside0.mk (ho); clear BK141; clear HB; clear HO_5; have BK141 := n0_; have HB := n1_; have HO148 := n2_; clear n0_ n1_ n2_; clear ho hb hg hat))
                go_roundg k1
                case measure => have := HK1.out; omega
                case rel => exact ⟨(y146), (wrap64 (x10_1 + 1)), (by first | rfl | (simp; done) | (simp [*]; done)), H', ⟨by have := HK1.out; omega⟩, ⟨by (with_reducible repeat (first | apply Kd.R_alloc | apply Kd.R_drewN | apply Kd.R_drew)); exact HO148.out⟩, ⟨by (with_reducible repeat (first | refine blk_drewN ?_ _ | refine blk_drew ?_ | refine blk_alloc ?_ _)); exact BK141.out⟩, ⟨by repeat (first | (with_reducible first | exact HB.out | apply below_alloc | apply pw_below_drewN | apply below_drew1 | refine below_set ?_ GE141.out) | exact HB.out)⟩⟩
              · rw [if_neg c11] at H
                exact absurd H (by simp)
          · rw [if_neg c6] at H
            exact absurd H (by simp)
        · rw [if_neg c5] at H
          exact absurd H (by simp)
      · rw [if_neg c4] at H
        have c4b0 : decide (x10_1 < (l1.length : Int)) = false := decide_eq_false c4
        clear c4
        obtain rfl := Option.some.inj H
        go_wp2
        go_ret
        exact ⟨_, by first | rfl | (simp [errW_none, errW_some] <;> rfl) | (simp [*, errW_none, errW_some] <;> rfl), by (with_reducible repeat (first | apply Kd.R_alloc | apply Kd.R_drewN | apply Kd.R_drew)); exact HO_5.out, by repeat (first | (with_reducible first | exact HB.out | apply below_alloc | apply pw_below_drewN | apply below_drew1 | refine below_set ?_ GE141.out) | exact HB.out)⟩

/-! ### reedpenref01_Ints: function 24 -/
def reedpenref01_Ints.l0 : Nat → List Int → List Int → Int → Option (Bool)
  | 0, _, _, _ => none
  | k + 1, x0, x1, x5 => if x5 < (x0.length : Int) then (if 0 ≤ x5 then (if x5 < (x1.length : Int) then (if (rd x0 x5) = (rd x1 x5) then (reedpenref01_Ints.l0 k x0 x1 (wrap64 (x5 + 1))) else (some false)) else (none)) else (none)) else (some true)
def reedpenref01_Ints.f (k : Nat) (l0 : List Int) (l1 : List Int) : Option (Bool) := if (l0.length : Int) = (l1.length : Int) then (reedpenref01_Ints.l0 k l0 l1 0) else (some false)
theorem reedpenref01_Ints.mono_l : ∀ k, (∀ y0 y1 y2, LeO (reedpenref01_Ints.l0 k y0 y1 y2) (reedpenref01_Ints.l0 (k + 1) y0 y1 y2))
  | 0 => fun _ _ _ r h => by simp [reedpenref01_Ints.l0] at h
  | k + 1 => by
    have ih0 := reedpenref01_Ints.mono_l k
    · intro y0 y1 y2
      unfold reedpenref01_Ints.l0
      repeat' first
      | (with_reducible exact ih0 _ _ _)
      | (with_reducible exact LeO.refl _)
      | (with_reducible exact LeO.none _)
      | (with_reducible refine LeO.ite ?_ ?_)
      | (with_reducible refine LeO.bind ?_ (fun _ => ?_))
      | exact ih0 _ _ _
      | exact LeO.none _
      | refine LeO.ite ?_ ?_
      | refine LeO.bind ?_ (fun _ => ?_)
theorem reedpenref01_Ints.mono : ∀ a0 a1 k, LeO (reedpenref01_Ints.f k a0 a1) (reedpenref01_Ints.f (k + 1) a0 a1) := by
  intro a0 a1 k
  have ih0 := reedpenref01_Ints.mono_l k
  unfold reedpenref01_Ints.f
  repeat' first
      | (with_reducible exact ih0 _ _ _)
      | (with_reducible exact LeO.refl _)
      | (with_reducible exact LeO.none _)
      | (with_reducible refine LeO.ite ?_ ?_)
      | (with_reducible refine LeO.bind ?_ (fun _ => ?_))
      | exact ih0 _ _ _
      | exact LeO.none _
      | refine LeO.ite ?_ ?_
      | refine LeO.bind ?_ (fun _ => ?_)
set_option maxHeartbeats 8000000 in
set_option maxRecDepth 100000 in
theorem reedpenref01_Ints.calls (k : Nat) (A0 : Option Addr) (c0 : Nat) (l0 : List Int) (A1 : Option Addr) (c1 : Nat) (l1 : List Int) (r : Bool) (w : World) (hr0 : Kd.C (Kd.int .i64) w A0 l0.length l0) (hc0 : l0.length ≤ c0) (hr1 : Kd.C (Kd.int .i64) w A1 l1.length l1) (hc1 : l1.length ≤ c1) (h : reedpenref01_Ints.f k l0 l1 = some r) :
    Calls Try.prog 24 #[.slice A0 l0.length c0, .slice A1 l1.length c1] w fun e w' => e = .returned (.bool r) ∧ Drawn0 w w' := by
  have HR0 := Aside0.mk hr0
  have HC0 := Aside0.mk hc0
  clear hr0 hc0
  have HR1 := Aside0.mk hr1
  have HC1 := Aside0.mk hc1
  clear hr1 hc1
  have H : (if (l0.length : Int) = (l1.length : Int) then (reedpenref01_Ints.l0 k l0 l1 0) else (some false)) = some r := h
  clear h
  by_cases c3 : (l0.length : Int) = (l1.length : Int)
  · rw [if_pos c3] at H
    have c3b0 : ((l0.length : Int) == (l1.length : Int)) = true := beq_iff_eq.mpr c3
    have c3b1 : ((l0.length : Int) != (l1.length : Int)) = false := bne_eq_false_iff_eq.mpr c3
    have c3b2 : (l0.length == l1.length) = true := by first | simpa using c3 | (simp at c3 ⊢; omega)
    clear c3
    have H' := Aside0.mk H
    clear H
    go_enter Try.func24, Try.ntmps24
    go_wp2
    repeat (go_quiet (fail); try go_wp2)
    go_loopg [5] k (fun kq v5 w' => ∃ (x5_1 : Int), v5 = .int .i64 x5_1 ∧ Aside0 (reedpenref01_Ints.l0 kq l0 l1 x5_1 = some r) ∧ Aside0 (kq ≤ k) ∧ Drawn0 w w')
    case atStart => exact ⟨(0), (by first | rfl | (simp; done) | (simp [*]; done)), H', ⟨Nat.le_refl _⟩, by repeat (first | exact Drawn0.refl _ | apply Drawn0.step)⟩
    case round =>
      clear H'
      try clear c1
      try clear c2
      try clear p2
      try clear c3
      try clear c3b0
      try clear c3b1
      try clear c3b2
      obtain ⟨x5_1, rfl, HA, HK1, ⟨m1, rfl⟩⟩ := hrel
      cases gk with
      | zero => exact absurd HA.out (by simp [reedpenref01_Ints.l0])
      | succ k1 =>
        have H := HA.out
        clear HA
        simp only [reedpenref01_Ints.l0] at H
        by_cases c4 : x5_1 < (l0.length : Int)
        · rw [if_pos c4] at H
          have c4b0 : decide (x5_1 < (l0.length : Int)) = true := decide_eq_true c4
          clear c4
          by_cases c5 : 0 ≤ x5_1
          · rw [if_pos c5] at H
            have c5b0 : decide (0 ≤ x5_1) = true := decide_eq_true c5
            clear c5
            by_cases c6 : x5_1 < (l1.length : Int)
            · rw [if_pos c6] at H
              have c6b0 : decide (x5_1 < (l1.length : Int)) = true := decide_eq_true c6
              clear c6
              by_cases c7 : (rd l0 x5_1) = (rd l1 x5_1)
              · rw [if_pos c7] at H
                have c7b0 : ((rd l0 x5_1) == (rd l1 x5_1)) = true := beq_iff_eq.mpr c7
                have c7b1 : ((rd l0 x5_1) != (rd l1 x5_1)) = false := bne_eq_false_iff_eq.mpr c7
                clear c7
                have H' := Aside0.mk H
                clear H
                have p149 : 0 ≤ (x5_1 : Int) := of_decide_eq_true (by first | (with_reducible assumption) | assumption)
                have q149 : x5_1 < (l0.length : Int) := of_decide_eq_true (by first | (with_reducible assumption) | assumption)
                obtain ⟨ad149, e149, hx149_0⟩ := Kd.at_int HR0.out x5_1 p149 q149
                cases e149
                replace p149 := eq_true p149
                replace q149 := eq_true q149
                have p150 : 0 ≤ (x5_1 : Int) := of_decide_eq_true (by first | (with_reducible assumption) | assumption)
                have q150 : x5_1 < (l1.length : Int) := of_decide_eq_true (by first | (with_reducible assumption) | assumption)
                obtain ⟨ad150, e150, hx150_0⟩ := Kd.at_int HR1.out x5_1 p150 q150
                cases e150
                replace p150 := eq_true p150
                replace q150 := eq_true q150
                go_wp2
                repeat (go_quiet (fail); try go_wp2)
                go_roundg k1
                case measure => have := HK1.out; omega
                case rel => exact ⟨(wrap64 (x5_1 + 1)), (by first | rfl | (simp; done) | (simp [*]; done)), H', ⟨by have := HK1.out; omega⟩, by repeat (first | exact Drawn0.refl _ | apply Drawn0.step)⟩
              · rw [if_neg c7] at H
                have c7b0 : ((rd l0 x5_1) == (rd l1 x5_1)) = false := beq_eq_false_iff_ne.mpr c7
                have c7b1 : ((rd l0 x5_1) != (rd l1 x5_1)) = true := bne_iff_ne.mpr c7
                obtain rfl := Option.some.inj H
                have p149 : 0 ≤ (x5_1 : Int) := of_decide_eq_true (by first | (with_reducible assumption) | assumption)
                have q149 : x5_1 < (l0.length : Int) := of_decide_eq_true (by first | (with_reducible assumption) | assumption)
                obtain ⟨ad149, e149, hx149_0⟩ := Kd.at_int HR0.out x5_1 p149 q149
                cases e149
                replace p149 := eq_true p149
                replace q149 := eq_true q149
                have p150 : 0 ≤ (x5_1 : Int) := of_decide_eq_true (by first | (with_reducible assumption) | assumption)
                have q150 : x5_1 < (l1.length : Int) := of_decide_eq_true (by first | (with_reducible assumption) | assumption)
                obtain ⟨ad150, e150, hx150_0⟩ := Kd.at_int HR1.out x5_1 p150 q150
                cases e150
                replace p150 := eq_true p150
                replace q150 := eq_true q150
                go_wp2
                repeat (go_quiet (fail); try go_wp2)
                go_ret
                exact ⟨by first | rfl | (simp; done) | (simp [*]; done), by repeat (first | exact Drawn0.refl _ | apply Drawn0.step)⟩
            · rw [if_neg c6] at H
              exact absurd H (by simp)
          · rw [if_neg c5] at H
            exact absurd H (by simp)
        · rw [if_neg c4] at H
          have c4b0 : decide (x5_1 < (l0.length : Int)) = false := decide_eq_false c4
          clear c4
          obtain rfl := Option.some.inj H
          go_wp2
          repeat (go_quiet (fail); try go_wp2)
          go_ret
          exact ⟨by first | rfl | (simp; done) | (simp [*]; done), by repeat (first | exact Drawn0.refl _ | apply Drawn0.step)⟩
  · rw [if_neg c3] at H
    have c3b0 : ((l0.length : Int) == (l1.length : Int)) = false := beq_eq_false_iff_ne.mpr c3
    have c3b1 : ((l0.length : Int) != (l1.length : Int)) = true := bne_iff_ne.mpr c3
    have c3b2 : (l0.length == l1.length) = false := by first | simpa using c3 | (simp at c3 ⊢; omega)
    obtain rfl := Option.some.inj H
    go_enter Try.func24, Try.ntmps24
    go_wp2
    repeat (go_quiet (fail); try go_wp2)
    go_ret
    exact ⟨by first | rfl | (simp; done) | (simp [*]; done), by repeat (first | exact Drawn0.refl _ | apply Drawn0.step)⟩

/-! ### reedpenlaw26_alive: function 17 -/
def reedpenlaw26_alive.f (k : Nat)  : Option (Bool) := (some (([7, 4, 1, 5] : List Int) : List Int)).bind fun y152 => ((order_Elsewhere.f k 2 (⟨#[]⟩ : ByteArray) true 8 y152 true).bind fun t155 => ((order_Base.f k 2 (⟨#[]⟩ : ByteArray) true 8 y152 t155 ([] : List Bool)).bind fun t156 => ((order_Keys.f k 2 (⟨#[]⟩ : ByteArray) true 8 y152 (([0, 0, 0, 1] : List Int)) t155 t156).bind fun t160 => (if t155 = 2 then (if t156 = 2 then ((reedpenref01_Ints.f k t160 (([0, 0, 3, 1] : List Int))).bind fun t166 => (if t166 = true then ((order_Final.f k 2 (⟨#[]⟩ : ByteArray) true 8 t160).bind fun t167 => ((reedpenref01_Ints.f k t167 (([8, 8, 3, 1] : List Int))).bind fun t173 => (some t173))) else (some false))) else (some false)) else (some false)))))
theorem reedpenlaw26_alive.mono : ∀ k, LeO (reedpenlaw26_alive.f k ) (reedpenlaw26_alive.f (k + 1) ) := by
  intro  k
  unfold reedpenlaw26_alive.f
  repeat' first
      | (with_reducible exact order_Base.mono _ _ _ _ _ _ _ _)
      | (with_reducible exact order_Elsewhere.mono _ _ _ _ _ _ _)
      | (with_reducible exact order_Final.mono _ _ _ _ _ _)
      | (with_reducible exact order_Keys.mono _ _ _ _ _ _ _ _ _)
      | (with_reducible exact reedpenref01_Ints.mono _ _ _)
      | (with_reducible exact LeO.refl _)
      | (with_reducible exact LeO.none _)
      | (with_reducible refine LeO.ite ?_ ?_)
      | (with_reducible refine LeO.bind ?_ (fun _ => ?_))
      | exact order_Base.mono _ _ _ _ _ _ _ _
      | exact order_Elsewhere.mono _ _ _ _ _ _ _
      | exact order_Final.mono _ _ _ _ _ _
      | exact order_Keys.mono _ _ _ _ _ _ _ _ _
      | exact reedpenref01_Ints.mono _ _ _
      | exact LeO.none _
      | refine LeO.ite ?_ ?_
      | refine LeO.bind ?_ (fun _ => ?_)
set_option maxHeartbeats 8000000 in
set_option maxRecDepth 100000 in
theorem reedpenlaw26_alive.calls (k : Nat)  (r : Bool) (w : World) (h : reedpenlaw26_alive.f k  = some r) :
    Calls Try.prog 17 #[] w fun e w' => e = .returned (.bool r) ∧ Below w.heap.size w w' := by
  have hu23 := Try.underlying23
  have HB := Aside0.mk (Below.refl w.heap.size w)
  have H : ((some (([7, 4, 1, 5] : List Int) : List Int)).bind fun y152 => ((order_Elsewhere.f k 2 (⟨#[]⟩ : ByteArray) true 8 y152 true).bind fun t155 => ((order_Base.f k 2 (⟨#[]⟩ : ByteArray) true 8 y152 t155 ([] : List Bool)).bind fun t156 => ((order_Keys.f k 2 (⟨#[]⟩ : ByteArray) true 8 y152 (([0, 0, 0, 1] : List Int)) t155 t156).bind fun t160 => (if t155 = 2 then (if t156 = 2 then ((reedpenref01_Ints.f k t160 (([0, 0, 3, 1] : List Int))).bind fun t166 => (if t166 = true then ((order_Final.f k 2 (⟨#[]⟩ : ByteArray) true 8 t160).bind fun t167 => ((reedpenref01_Ints.f k t167 (([8, 8, 3, 1] : List Int))).bind fun t173 => (some t173))) else (some false))) else (some false)) else (some false)))))) = some r := h
  clear h
  obtain ⟨y152, hy152⟩ : ∃ y_ : List Int, y_ = (([7, 4, 1, 5] : List Int)) := ⟨_, rfl⟩
  replace H : ((order_Elsewhere.f k 2 (⟨#[]⟩ : ByteArray) true 8 y152 true).bind fun t155 => ((order_Base.f k 2 (⟨#[]⟩ : ByteArray) true 8 y152 t155 ([] : List Bool)).bind fun t156 => ((order_Keys.f k 2 (⟨#[]⟩ : ByteArray) true 8 y152 (([0, 0, 0, 1] : List Int)) t155 t156).bind fun t160 => (if t155 = 2 then (if t156 = 2 then ((reedpenref01_Ints.f k t160 (([0, 0, 3, 1] : List Int))).bind fun t166 => (if t166 = true then ((order_Final.f k 2 (⟨#[]⟩ : ByteArray) true 8 t160).bind fun t167 => ((reedpenref01_Ints.f k t167 (([8, 8, 3, 1] : List Int))).bind fun t173 => (some t173))) else (some false))) else (some false)) else (some false))))) = some r := by first | (rw [hy152]; with_reducible exact H) | (have H2_ := (Option.bind_some _ _).symm.trans H; rw [hy152]; with_reducible exact H2_) | (have H2_ := (Option.bind_some _ _).symm.trans H; with_reducible exact H2_) | with_reducible exact H | (rw [hy152]; exact H) | exact H
  have Ny152 := Aside0.mk hy152
  clear hy152
  replace H := Option.bind_eq_some_iff.mp H
  obtain ⟨t155, A10, H⟩ := H
  replace H : ((order_Base.f k 2 (⟨#[]⟩ : ByteArray) true 8 y152 t155 ([] : List Bool)).bind fun t156 => ((order_Keys.f k 2 (⟨#[]⟩ : ByteArray) true 8 y152 (([0, 0, 0, 1] : List Int)) t155 t156).bind fun t160 => (if t155 = 2 then (if t156 = 2 then ((reedpenref01_Ints.f k t160 (([0, 0, 3, 1] : List Int))).bind fun t166 => (if t166 = true then ((order_Final.f k 2 (⟨#[]⟩ : ByteArray) true 8 t160).bind fun t167 => ((reedpenref01_Ints.f k t167 (([8, 8, 3, 1] : List Int))).bind fun t173 => (some t173))) else (some false))) else (some false)) else (some false)))) = some r := H
  have A1 := Aside0.mk A10
  clear A10
  replace H := Option.bind_eq_some_iff.mp H
  obtain ⟨t156, A20, H⟩ := H
  replace H : ((order_Keys.f k 2 (⟨#[]⟩ : ByteArray) true 8 y152 (([0, 0, 0, 1] : List Int)) t155 t156).bind fun t160 => (if t155 = 2 then (if t156 = 2 then ((reedpenref01_Ints.f k t160 (([0, 0, 3, 1] : List Int))).bind fun t166 => (if t166 = true then ((order_Final.f k 2 (⟨#[]⟩ : ByteArray) true 8 t160).bind fun t167 => ((reedpenref01_Ints.f k t167 (([8, 8, 3, 1] : List Int))).bind fun t173 => (some t173))) else (some false))) else (some false)) else (some false))) = some r := H
  have A2 := Aside0.mk A20
  clear A20
  obtain ⟨y157, hy157⟩ : ∃ y_ : List Int, y_ = (([0, 0, 0, 1] : List Int)) := ⟨_, rfl⟩
  replace H : ((order_Keys.f k 2 (⟨#[]⟩ : ByteArray) true 8 y152 y157 t155 t156).bind fun t160 => (if t155 = 2 then (if t156 = 2 then ((reedpenref01_Ints.f k t160 (([0, 0, 3, 1] : List Int))).bind fun t166 => (if t166 = true then ((order_Final.f k 2 (⟨#[]⟩ : ByteArray) true 8 t160).bind fun t167 => ((reedpenref01_Ints.f k t167 (([8, 8, 3, 1] : List Int))).bind fun t173 => (some t173))) else (some false))) else (some false)) else (some false))) = some r := by first | (rw [hy157]; with_reducible exact H) | (have H2_ := (Option.bind_some _ _).symm.trans H; rw [hy157]; with_reducible exact H2_) | (have H2_ := (Option.bind_some _ _).symm.trans H; with_reducible exact H2_) | with_reducible exact H | (rw [hy157]; exact H) | exact H
  have Ny157 := Aside0.mk hy157
  clear hy157
  replace H := Option.bind_eq_some_iff.mp H
  obtain ⟨t160, A30, H⟩ := H
  replace H : (if t155 = 2 then (if t156 = 2 then ((reedpenref01_Ints.f k t160 (([0, 0, 3, 1] : List Int))).bind fun t166 => (if t166 = true then ((order_Final.f k 2 (⟨#[]⟩ : ByteArray) true 8 t160).bind fun t167 => ((reedpenref01_Ints.f k t167 (([8, 8, 3, 1] : List Int))).bind fun t173 => (some t173))) else (some false))) else (some false)) else (some false)) = some r := H
  have A3 := Aside0.mk A30
  clear A30
  by_cases c4 : t155 = 2
  · rw [if_pos c4] at H
    have c4b0 : (t155 == 2) = true := beq_iff_eq.mpr c4
    have c4b1 : (t155 != 2) = false := bne_eq_false_iff_eq.mpr c4
    clear c4
    by_cases c5 : t156 = 2
    · rw [if_pos c5] at H
      have c5b0 : (t156 == 2) = true := beq_iff_eq.mpr c5
      have c5b1 : (t156 != 2) = false := bne_eq_false_iff_eq.mpr c5
      clear c5
      obtain ⟨y163, hy163⟩ : ∃ y_ : List Int, y_ = (([0, 0, 3, 1] : List Int)) := ⟨_, rfl⟩
      replace H : ((reedpenref01_Ints.f k t160 y163).bind fun t166 => (if t166 = true then ((order_Final.f k 2 (⟨#[]⟩ : ByteArray) true 8 t160).bind fun t167 => ((reedpenref01_Ints.f k t167 (([8, 8, 3, 1] : List Int))).bind fun t173 => (some t173))) else (some false))) = some r := by first | (rw [hy163]; with_reducible exact H) | (have H2_ := (Option.bind_some _ _).symm.trans H; rw [hy163]; with_reducible exact H2_) | (have H2_ := (Option.bind_some _ _).symm.trans H; with_reducible exact H2_) | with_reducible exact H | (rw [hy163]; exact H) | exact H
      have Ny163 := Aside0.mk hy163
      clear hy163
      replace H := Option.bind_eq_some_iff.mp H
      obtain ⟨t166, A60, H⟩ := H
      replace H : (if t166 = true then ((order_Final.f k 2 (⟨#[]⟩ : ByteArray) true 8 t160).bind fun t167 => ((reedpenref01_Ints.f k t167 (([8, 8, 3, 1] : List Int))).bind fun t173 => (some t173))) else (some false)) = some r := H
      have A6 := Aside0.mk A60
      clear A60
      by_cases c7 : t166 = true
      · subst c7
        have H1 : ((order_Final.f k 2 (⟨#[]⟩ : ByteArray) true 8 t160).bind fun t167 => ((reedpenref01_Ints.f k t167 (([8, 8, 3, 1] : List Int))).bind fun t173 => (some t173))) = some r := by rw [if_pos rfl] at H; exact H
        clear H
        have H := H1
        clear H1
        replace H := Option.bind_eq_some_iff.mp H
        obtain ⟨t167, A80, H⟩ := H
        replace H : ((reedpenref01_Ints.f k t167 (([8, 8, 3, 1] : List Int))).bind fun t173 => (some t173)) = some r := H
        have A8 := Aside0.mk A80
        clear A80
        obtain ⟨y170, hy170⟩ : ∃ y_ : List Int, y_ = (([8, 8, 3, 1] : List Int)) := ⟨_, rfl⟩
        replace H : ((reedpenref01_Ints.f k t167 y170).bind fun t173 => (some t173)) = some r := by first | (rw [hy170]; with_reducible exact H) | (have H2_ := (Option.bind_some _ _).symm.trans H; rw [hy170]; with_reducible exact H2_) | (have H2_ := (Option.bind_some _ _).symm.trans H; with_reducible exact H2_) | with_reducible exact H | (rw [hy170]; exact H) | exact H
        have Ny170 := Aside0.mk hy170
        clear hy170
        replace H := Option.bind_eq_some_iff.mp H
        obtain ⟨t173, A90, H⟩ := H
        replace H : (some t173) = some r := H
        have A9 := Aside0.mk A90
        clear A90
        obtain rfl := Option.some.inj H
        go_enter Try.func17, Try.ntmps17
        go_wp2_with (first | ((with_reducible refine gate_dst (N := 1) rfl ?_); (try (refine gate_guard (by rfl) ?_; dsimp only)); refine box_event ?hg (N := 1) ?hd (cs := #[.int .i64 0, .string (⟨#[]⟩ : ByteArray), .bool false, .int .i64 0]) (t := 23) ?hr ?_; (case hd => rfl); (case hg => rfl); (case hr => first | (go_simp; done) | (go_simp; rfl)); intro gb151 hg w10 hbox hb; have n0_ := Aside0.mk (below_step (by repeat (first | (with_reducible first | exact HB.out | apply below_alloc | apply pw_below_drewN | apply below_drew1) | exact HB.out)) hb); have n1_ := Aside0.mk (hbox); have n2_ := Aside0.mk ((by rw [hg]; exact (below_size (by repeat (first | (with_reducible first | exact HB.out | apply below_alloc | apply pw_below_drewN | apply below_drew1) | exact HB.out))) : w.heap.size ≤ gb151)); have n3_ := Aside0.mk ((by rw [hg]; exact (below_size (by repeat (first | (with_reducible first | exact HB.out | apply below_alloc | apply pw_below_drewN | apply below_drew1) | exact HB.out))) : w.heap.size ≤ gb151)); clear HB; have HB := n0_; have BK151 := n1_; have GW151 := n2_; have GE151 := n3_; clear n0_ n1_ n2_ n3_; clear hb hbox hg; have hcz11_0 : w10.cell? ⟨gb151, 0, none⟩ = some (.int .i64 0) := (blk_cell BK151.out 0).trans rfl; have hcz11_1 : w10.cell? ⟨gb151, 1, none⟩ = some (.string (⟨#[]⟩ : ByteArray)) := (blk_cell BK151.out 1).trans rfl; have hcz11_2 : w10.cell? ⟨gb151, 2, none⟩ = some (.bool false) := (blk_cell BK151.out 2).trans rfl; have hcz11_3 : w10.cell? ⟨gb151, 3, none⟩ = some (.int .i64 0) := (blk_cell BK151.out 3).trans rfl; have hfz11_0 := blk_frozen BK151.out 0; have hfz11_1 := blk_frozen BK151.out 1; have hfz11_2 := blk_frozen BK151.out 2; have hfz11_3 := blk_frozen BK151.out 3) | ((with_reducible refine gate_dst (N := 7) rfl ?_); (try (refine gate_guard (by rfl) ?_; dsimp only)); refine Kd.R_lit (Kd.int .i64) _ 3 ?hg (N := 7) ?hd (xs := ([7, 4, 1, 5] : List Int)) (inner := [.int .i64 7, .int .i64 4, .int .i64 1, .int .i64 5]) (ok := fun _ => True) (okp := fun _ => True) ?hr ?hp (fun _ hk => hk) trivial (Below.refl _ _) (Nat.le_refl _) (by simp) ?_; (case hd => rfl); (case hg => rfl); (case hr => first | (go_simp; done) | (go_simp; rfl)); (case hp => exact (Reps.one (show Kd.M (Kd.int .i64) _ _ _ 7 [.int .i64 7] from rfl) (Reps.one (show Kd.M (Kd.int .i64) _ _ _ 4 [.int .i64 4] from rfl) (Reps.one (show Kd.M (Kd.int .i64) _ _ _ 1 [.int .i64 1] from rfl) (Reps.one (show Kd.M (Kd.int .i64) _ _ _ 5 [.int .i64 5] from rfl) (Reps.none _ _)))))); intro v153 w12 ho13 hb hg_ hnew_; clear hg_ hnew_; (first | rw [← Ny152.out] at ho13 | (simp only [Int.reduceToNat] at ho13; rw [← Ny152.out] at ho13)); have n0_ := Aside0.mk (Kd.R_lower ho13 (below_size (by repeat (first | (with_reducible first | exact HB.out | apply below_alloc | apply pw_below_drewN | apply below_drew1 | refine below_set ?_ GE151.out) | exact HB.out)))); have n1_ := Aside0.mk (blk_below (g := gb151) (o := .cells #[.int .i64 2, .string (⟨#[]⟩ : ByteArray), .bool true, .int .i64 8] 23 (0, 0)) (by (with_reducible repeat (first | refine blk_drewN ?_ _ | refine blk_drew ?_ | refine blk_alloc ?_ _)); refine blk_put (cs := #[.int .i64 2, .string (⟨#[]⟩ : ByteArray), .bool true, .int .i64 0]) ?_ 3 _ rfl; (with_reducible repeat (first | refine blk_drewN ?_ _ | refine blk_drew ?_ | refine blk_alloc ?_ _)); refine blk_put (cs := #[.int .i64 2, .string (⟨#[]⟩ : ByteArray), .bool false, .int .i64 0]) ?_ 2 _ rfl; (with_reducible repeat (first | refine blk_drewN ?_ _ | refine blk_drew ?_ | refine blk_alloc ?_ _)); refine blk_put (cs := #[.int .i64 2, .string (⟨#[]⟩ : ByteArray), .bool false, .int .i64 0]) ?_ 1 _ rfl; (with_reducible repeat (first | refine blk_drewN ?_ _ | refine blk_drew ?_ | refine blk_alloc ?_ _)); refine blk_put (cs := #[.int .i64 0, .string (⟨#[]⟩ : ByteArray), .bool false, .int .i64 0]) ?_ 0 _ rfl; (with_reducible repeat (first | refine blk_drewN ?_ _ | refine blk_drew ?_ | refine blk_alloc ?_ _)); exact BK151.out) hb); have n2_ := Aside0.mk (below_step (by repeat (first | (with_reducible first | exact HB.out | apply below_alloc | apply pw_below_drewN | apply below_drew1 | refine below_set ?_ GE151.out) | exact HB.out)) hb); clear BK151; clear HB; have HO154 := n0_; have BK151 := n1_; have HB := n2_; clear n0_ n1_ n2_; clear hb ho13; have hcz14_0 : w12.cell? ⟨gb151, 0, none⟩ = some (.int .i64 2) := (blk_cell BK151.out 0).trans rfl; have hcz14_1 : w12.cell? ⟨gb151, 1, none⟩ = some (.string (⟨#[]⟩ : ByteArray)) := (blk_cell BK151.out 1).trans rfl; have hcz14_2 : w12.cell? ⟨gb151, 2, none⟩ = some (.bool true) := (blk_cell BK151.out 2).trans rfl; have hcz14_3 : w12.cell? ⟨gb151, 3, none⟩ = some (.int .i64 8) := (blk_cell BK151.out 3).trans rfl; have hfz14_0 := blk_frozen BK151.out 0; have hfz14_1 := blk_frozen BK151.out 1; have hfz14_2 := blk_frozen BK151.out 2; have hfz14_3 := blk_frozen BK151.out 3; obtain ⟨Ao15, co15, eo15⟩ := Kd.R_slice HO154.out; subst eo15) | ((with_reducible refine gate_callee (f := 18) rfl ?_); refine goesL_ (some 10) rfl rfl Try.func18 (by kernel_rfl) rfl #[.agg #[.int .i64 2, .string (⟨#[]⟩ : ByteArray), .bool true, .int .i64 8], .slice Ao15 y152.length co15, .bool true] rfl (by (try simp only [List.map_toArray, List.map_cons, List.map_nil]); first | done | rfl | (simp only [List.length_drop, List.length_take]; rfl)) ?_; (with_reducible refine (order_Elsewhere.calls k 2 (⟨#[]⟩ : ByteArray) true 8 _ _ y152 true t155 _ ?side1 ?side2 A1.out).mono ?_); (case side1 => repeat (first | exact (Kd.R_reads' HO154.out).2.2 | (with_reducible refine Kd.C_alloc ?_ _) | (with_reducible refine Kd.C_drewN ?_ _) | (with_reducible refine Kd.C_drew ?_))); (case side2 => exact (Kd.R_reads' HO154.out).2.1); rintro e w16 ⟨rfl, hb⟩; refine ⟨_, rfl, ?_⟩; have n0_ := Aside0.mk (Kd.R_below (by (with_reducible repeat (first | apply Kd.R_alloc | apply Kd.R_drewN | apply Kd.R_drew)); exact HO154.out) hb); have n1_ := Aside0.mk (blk_below (g := gb151) (o := .cells #[.int .i64 2, .string (⟨#[]⟩ : ByteArray), .bool true, .int .i64 8] 23 (0, 0)) (by (with_reducible repeat (first | refine blk_drewN ?_ _ | refine blk_drew ?_ | refine blk_alloc ?_ _)); exact BK151.out) hb); have n2_ := Aside0.mk (below_step (by repeat (first | (with_reducible first | exact HB.out | apply below_alloc | apply pw_below_drewN | apply below_drew1 | refine below_set ?_ GE151.out) | exact HB.out)) hb); clear HO154; clear BK151; clear HB; have HO154 := n0_; have BK151 := n1_; have HB := n2_; clear n0_ n1_ n2_; (try clear hb); (try clear hb2); (try clear hk); (try clear hi); have hcz17_0 : w16.cell? ⟨gb151, 0, none⟩ = some (.int .i64 2) := (blk_cell BK151.out 0).trans rfl; have hcz17_1 : w16.cell? ⟨gb151, 1, none⟩ = some (.string (⟨#[]⟩ : ByteArray)) := (blk_cell BK151.out 1).trans rfl; have hcz17_2 : w16.cell? ⟨gb151, 2, none⟩ = some (.bool true) := (blk_cell BK151.out 2).trans rfl; have hcz17_3 : w16.cell? ⟨gb151, 3, none⟩ = some (.int .i64 8) := (blk_cell BK151.out 3).trans rfl; have hfz17_0 := blk_frozen BK151.out 0; have hfz17_1 := blk_frozen BK151.out 1; have hfz17_2 := blk_frozen BK151.out 2; have hfz17_3 := blk_frozen BK151.out 3) | ((with_reducible refine gate_callee (f := 20) rfl ?_); refine goesL_ (some 14) rfl rfl Try.func20 (by kernel_rfl) rfl #[.agg #[.int .i64 2, .string (⟨#[]⟩ : ByteArray), .bool true, .int .i64 8], .slice Ao15 y152.length co15, .int .i64 t155, .slice none 0 0] rfl (by (try simp only [List.map_toArray, List.map_cons, List.map_nil]); first | done | rfl | (simp only [List.length_drop, List.length_take]; rfl)) ?_; (refine (order_Base.calls k 2 (⟨#[]⟩ : ByteArray) true 8 _ _ y152 t155 _ _ ([] : List Bool) t156 _ ?side1 ?side2 ?side3 ?side4 A2.out).mono ?_); (case side1 => repeat (first | exact (Kd.R_reads' HO154.out).2.2 | (with_reducible refine Kd.C_alloc ?_ _) | (with_reducible refine Kd.C_drewN ?_ _) | (with_reducible refine Kd.C_drew ?_))); (case side2 => exact (Kd.R_reads' HO154.out).2.1); (case side3 => exact Kd.C_nil _ _); (case side4 => exact Nat.le_refl _); rintro e w18 ⟨rfl, hb⟩; refine ⟨_, rfl, ?_⟩; have n0_ := Aside0.mk (Kd.R_below (by (with_reducible repeat (first | apply Kd.R_alloc | apply Kd.R_drewN | apply Kd.R_drew)); exact HO154.out) hb); have n1_ := Aside0.mk (blk_below (g := gb151) (o := .cells #[.int .i64 2, .string (⟨#[]⟩ : ByteArray), .bool true, .int .i64 8] 23 (0, 0)) (by (with_reducible repeat (first | refine blk_drewN ?_ _ | refine blk_drew ?_ | refine blk_alloc ?_ _)); exact BK151.out) hb); have n2_ := Aside0.mk (below_step (by repeat (first | (with_reducible first | exact HB.out | apply below_alloc | apply pw_below_drewN | apply below_drew1 | refine below_set ?_ GE151.out) | exact HB.out)) hb); clear HO154; clear BK151; clear HB; have HO154 := n0_; have BK151 := n1_; have HB := n2_; clear n0_ n1_ n2_; (try clear hb); (try clear hb2); (try clear hk); (try clear hi); have hcz19_0 : w18.cell? ⟨gb151, 0, none⟩ = some (.int .i64 2) := (blk_cell BK151.out 0).trans rfl; have hcz19_1 : w18.cell? ⟨gb151, 1, none⟩ = some (.string (⟨#[]⟩ : ByteArray)) := (blk_cell BK151.out 1).trans rfl; have hcz19_2 : w18.cell? ⟨gb151, 2, none⟩ = some (.bool true) := (blk_cell BK151.out 2).trans rfl; have hcz19_3 : w18.cell? ⟨gb151, 3, none⟩ = some (.int .i64 8) := (blk_cell BK151.out 3).trans rfl; have hfz19_0 := blk_frozen BK151.out 0; have hfz19_1 := blk_frozen BK151.out 1; have hfz19_2 := blk_frozen BK151.out 2; have hfz19_3 := blk_frozen BK151.out 3) | ((with_reducible refine gate_dst (N := 17) rfl ?_); (try (refine gate_guard (by rfl) ?_; dsimp only)); refine Kd.R_lit (Kd.int .i64) _ 3 ?hg (N := 17) ?hd (xs := ([0, 0, 0, 1] : List Int)) (inner := [.int .i64 0, .int .i64 0, .int .i64 0, .int .i64 1]) (ok := fun _ => True) (okp := fun _ => True) ?hr ?hp (fun _ hk => hk) trivial (Below.refl _ _) (Nat.le_refl _) (by simp) ?_; (case hd => rfl); (case hg => rfl); (case hr => first | (go_simp; done) | (go_simp; rfl)); (case hp => exact (Reps.one (show Kd.M (Kd.int .i64) _ _ _ 0 [.int .i64 0] from rfl) (Reps.one (show Kd.M (Kd.int .i64) _ _ _ 0 [.int .i64 0] from rfl) (Reps.one (show Kd.M (Kd.int .i64) _ _ _ 0 [.int .i64 0] from rfl) (Reps.one (show Kd.M (Kd.int .i64) _ _ _ 1 [.int .i64 1] from rfl) (Reps.none _ _)))))); intro v158 w20 ho21 hb hg_ hnew_; clear hg_ hnew_; (first | rw [← Ny157.out] at ho21 | (simp only [Int.reduceToNat] at ho21; rw [← Ny157.out] at ho21)); have n0_ := Aside0.mk (Kd.R_elder' (by (with_reducible repeat (first | apply Kd.R_alloc | apply Kd.R_drewN | apply Kd.R_drew)); exact HO154.out) (Kd.R_base ho21) hb); have n1_ := Aside0.mk (Kd.R_lower (Kd.R_new' ho21 (Kd.R_lt (by (with_reducible repeat (first | apply Kd.R_alloc | apply Kd.R_drewN | apply Kd.R_drew)); exact HO154.out))) (below_size (by repeat (first | (with_reducible first | exact HB.out | apply below_alloc | apply pw_below_drewN | apply below_drew1 | refine below_set ?_ GE151.out) | exact HB.out)))); have n2_ := Aside0.mk (blk_below (g := gb151) (o := .cells #[.int .i64 2, .string (⟨#[]⟩ : ByteArray), .bool true, .int .i64 8] 23 (0, 0)) (by (with_reducible repeat (first | refine blk_drewN ?_ _ | refine blk_drew ?_ | refine blk_alloc ?_ _)); exact BK151.out) hb); have n3_ := Aside0.mk (below_step (by repeat (first | (with_reducible first | exact HB.out | apply below_alloc | apply pw_below_drewN | apply below_drew1 | refine below_set ?_ GE151.out) | exact HB.out)) hb); clear HO154; clear BK151; clear HB; have HO154 := n0_; have HO159 := n1_; have BK151 := n2_; have HB := n3_; clear n0_ n1_ n2_ n3_; clear hb ho21; obtain ⟨Ao22, co22, eo22⟩ := Kd.R_slice HO159.out; subst eo22) | ((with_reducible refine gate_callee (f := 22) rfl ?_); refine goesL_ (some 20) rfl rfl Try.func22 (by kernel_rfl) rfl #[.agg #[.int .i64 2, .string (⟨#[]⟩ : ByteArray), .bool true, .int .i64 8], .slice Ao15 y152.length co15, .slice Ao22 y157.length co22, .int .i64 t155, .int .i64 t156] rfl (by (try simp only [List.map_toArray, List.map_cons, List.map_nil]); first | done | rfl | (simp only [List.length_drop, List.length_take]; rfl)) ?_; (with_reducible refine (order_Keys.calls k 2 (⟨#[]⟩ : ByteArray) true 8 _ _ y152 _ _ y157 t155 t156 t160 _ ?side1 ?side2 ?side3 ?side4 A3.out).mono ?_); (case side1 => repeat (first | exact (Kd.R_reads' HO154.out).2.2 | (with_reducible refine Kd.C_alloc ?_ _) | (with_reducible refine Kd.C_drewN ?_ _) | (with_reducible refine Kd.C_drew ?_))); (case side2 => exact (Kd.R_reads' HO154.out).2.1); (case side3 => repeat (first | exact (Kd.R_reads' HO159.out).2.2 | (with_reducible refine Kd.C_alloc ?_ _) | (with_reducible refine Kd.C_drewN ?_ _) | (with_reducible refine Kd.C_drew ?_))); (case side4 => exact (Kd.R_reads' HO159.out).2.1); rintro e w23 ⟨v161, rfl, ho0, hb⟩; refine ⟨_, rfl, ?_⟩; have n0_ := Aside0.mk (Kd.R_elder' (by (with_reducible repeat (first | apply Kd.R_alloc | apply Kd.R_drewN | apply Kd.R_drew)); exact HO154.out) (Kd.R_base ho0) hb); have n1_ := Aside0.mk (Kd.R_elder' (by (with_reducible repeat (first | apply Kd.R_alloc | apply Kd.R_drewN | apply Kd.R_drew)); exact HO159.out) (Kd.R_base ho0) hb); have n2_ := Aside0.mk (Kd.R_lower (Kd.R_new' (Kd.R_new' ho0 (Kd.R_lt (by (with_reducible repeat (first | apply Kd.R_alloc | apply Kd.R_drewN | apply Kd.R_drew)); exact HO154.out))) (Kd.R_lt (by (with_reducible repeat (first | apply Kd.R_alloc | apply Kd.R_drewN | apply Kd.R_drew)); exact HO159.out))) (below_size (by repeat (first | (with_reducible first | exact HB.out | apply below_alloc | apply pw_below_drewN | apply below_drew1 | refine below_set ?_ GE151.out) | exact HB.out)))); have n3_ := Aside0.mk (blk_below (g := gb151) (o := .cells #[.int .i64 2, .string (⟨#[]⟩ : ByteArray), .bool true, .int .i64 8] 23 (0, 0)) (by (with_reducible repeat (first | refine blk_drewN ?_ _ | refine blk_drew ?_ | refine blk_alloc ?_ _)); exact BK151.out) hb); have n4_ := Aside0.mk (below_step (by repeat (first | (with_reducible first | exact HB.out | apply below_alloc | apply pw_below_drewN | apply below_drew1 | refine below_set ?_ GE151.out) | exact HB.out)) hb); clear HO154; clear HO159; clear BK151; clear HB; have HO154 := n0_; have HO159 := n1_; have HO162 := n2_; have BK151 := n3_; have HB := n4_; clear n0_ n1_ n2_ n3_ n4_; (try clear hb); (try clear hb2); (try clear hk); (try clear hi); (try clear ho0)) | ((with_reducible refine gate_dst (N := 29) rfl ?_); (try (refine gate_guard (by rfl) ?_; dsimp only)); refine Kd.R_lit (Kd.int .i64) _ 3 ?hg (N := 29) ?hd (xs := ([0, 0, 3, 1] : List Int)) (inner := [.int .i64 0, .int .i64 0, .int .i64 3, .int .i64 1]) (ok := fun _ => True) (okp := fun _ => True) ?hr ?hp (fun _ hk => hk) trivial (Below.refl _ _) (Nat.le_refl _) (by simp) ?_; (case hd => rfl); (case hg => rfl); (case hr => first | (go_simp; done) | (go_simp; rfl)); (case hp => exact (Reps.one (show Kd.M (Kd.int .i64) _ _ _ 0 [.int .i64 0] from rfl) (Reps.one (show Kd.M (Kd.int .i64) _ _ _ 0 [.int .i64 0] from rfl) (Reps.one (show Kd.M (Kd.int .i64) _ _ _ 3 [.int .i64 3] from rfl) (Reps.one (show Kd.M (Kd.int .i64) _ _ _ 1 [.int .i64 1] from rfl) (Reps.none _ _)))))); intro v164 w24 ho25 hb hg_ hnew_; clear hg_ hnew_; (first | rw [← Ny163.out] at ho25 | (simp only [Int.reduceToNat] at ho25; rw [← Ny163.out] at ho25)); have n0_ := Aside0.mk (Kd.R_elder' (by (with_reducible repeat (first | apply Kd.R_alloc | apply Kd.R_drewN | apply Kd.R_drew)); exact HO154.out) (Kd.R_base ho25) hb); have n1_ := Aside0.mk (Kd.R_elder' (by (with_reducible repeat (first | apply Kd.R_alloc | apply Kd.R_drewN | apply Kd.R_drew)); exact HO159.out) (Kd.R_base ho25) hb); have n2_ := Aside0.mk (Kd.R_elder' (by (with_reducible repeat (first | apply Kd.R_alloc | apply Kd.R_drewN | apply Kd.R_drew)); exact HO162.out) (Kd.R_base ho25) hb); have n3_ := Aside0.mk (Kd.R_lower (Kd.R_new' (Kd.R_new' (Kd.R_new' ho25 (Kd.R_lt (by (with_reducible repeat (first | apply Kd.R_alloc | apply Kd.R_drewN | apply Kd.R_drew)); exact HO154.out))) (Kd.R_lt (by (with_reducible repeat (first | apply Kd.R_alloc | apply Kd.R_drewN | apply Kd.R_drew)); exact HO159.out))) (Kd.R_lt (by (with_reducible repeat (first | apply Kd.R_alloc | apply Kd.R_drewN | apply Kd.R_drew)); exact HO162.out))) (below_size (by repeat (first | (with_reducible first | exact HB.out | apply below_alloc | apply pw_below_drewN | apply below_drew1 | refine below_set ?_ GE151.out) | exact HB.out)))); have n4_ := Aside0.mk (blk_below (g := gb151) (o := .cells #[.int .i64 2, .string (⟨#[]⟩ : ByteArray), .bool true, .int .i64 8] 23 (0, 0)) (by (with_reducible repeat (first | refine blk_drewN ?_ _ | refine blk_drew ?_ | refine blk_alloc ?_ _)); exact BK151.out) hb); have n5_ := Aside0.mk (below_step (by repeat (first | (with_reducible first | exact HB.out | apply below_alloc | apply pw_below_drewN | apply below_drew1 | refine below_set ?_ GE151.out) | exact HB.out)) hb); clear HO154; clear HO159; clear HO162; clear BK151; clear HB; have HO154 := n0_; have HO159 := n1_; have HO162 := n2_; have HO165 := n3_; have BK151 := n4_; have HB := n5_; clear n0_ n1_ n2_ n3_ n4_ n5_; clear hb ho25; obtain ⟨Ao26, co26, eo26⟩ := Kd.R_slice HO162.out; subst eo26; obtain ⟨Ao27, co27, eo27⟩ := Kd.R_slice HO165.out; subst eo27) | (go_at_call 24; (with_reducible refine (reedpenref01_Ints.calls k _ _ t160 _ _ y163 true _ ?side1 ?side2 ?side3 ?side4 A6.out).mono ?_); (case side1 => repeat (first | exact (Kd.R_reads' HO162.out).2.2 | (with_reducible refine Kd.C_alloc ?_ _) | (with_reducible refine Kd.C_drewN ?_ _) | (with_reducible refine Kd.C_drew ?_))); (case side2 => exact (Kd.R_reads' HO162.out).2.1); (case side3 => repeat (first | exact (Kd.R_reads' HO165.out).2.2 | (with_reducible refine Kd.C_alloc ?_ _) | (with_reducible refine Kd.C_drewN ?_ _) | (with_reducible refine Kd.C_drew ?_))); (case side4 => exact (Kd.R_reads' HO165.out).2.1); rintro e w' ⟨rfl, ⟨nd, rfl⟩⟩; have hcz28_0 : w24.cell? ⟨gb151, 0, none⟩ = some (.int .i64 2) := (blk_cell BK151.out 0).trans rfl; have hcz28_1 : w24.cell? ⟨gb151, 1, none⟩ = some (.string (⟨#[]⟩ : ByteArray)) := (blk_cell BK151.out 1).trans rfl; have hcz28_2 : w24.cell? ⟨gb151, 2, none⟩ = some (.bool true) := (blk_cell BK151.out 2).trans rfl; have hcz28_3 : w24.cell? ⟨gb151, 3, none⟩ = some (.int .i64 8) := (blk_cell BK151.out 3).trans rfl; have hfz28_0 := blk_frozen BK151.out 0; have hfz28_1 := blk_frozen BK151.out 1; have hfz28_2 := blk_frozen BK151.out 2; have hfz28_3 := blk_frozen BK151.out 3) | (go_at_call 23; (with_reducible refine (order_Final.calls k 2 (⟨#[]⟩ : ByteArray) true 8 _ _ t160 t167 _ ?side1 ?side2 A8.out).mono ?_); (case side1 => repeat (first | exact (Kd.R_reads' HO162.out).2.2 | (with_reducible refine Kd.C_alloc ?_ _) | (with_reducible refine Kd.C_drewN ?_ _) | (with_reducible refine Kd.C_drew ?_))); (case side2 => exact (Kd.R_reads' HO162.out).2.1); rintro e w29 ⟨v168, rfl, ho0, hb⟩; have n0_ := Aside0.mk (Kd.R_elder' (by (with_reducible repeat (first | apply Kd.R_alloc | apply Kd.R_drewN | apply Kd.R_drew)); exact HO154.out) (Kd.R_base ho0) hb); have n1_ := Aside0.mk (Kd.R_elder' (by (with_reducible repeat (first | apply Kd.R_alloc | apply Kd.R_drewN | apply Kd.R_drew)); exact HO159.out) (Kd.R_base ho0) hb); have n2_ := Aside0.mk (Kd.R_elder' (by (with_reducible repeat (first | apply Kd.R_alloc | apply Kd.R_drewN | apply Kd.R_drew)); exact HO162.out) (Kd.R_base ho0) hb); have n3_ := Aside0.mk (Kd.R_elder' (by (with_reducible repeat (first | apply Kd.R_alloc | apply Kd.R_drewN | apply Kd.R_drew)); exact HO165.out) (Kd.R_base ho0) hb); have n4_ := Aside0.mk (Kd.R_lower (Kd.R_new' (Kd.R_new' (Kd.R_new' (Kd.R_new' ho0 (Kd.R_lt (by (with_reducible repeat (first | apply Kd.R_alloc | apply Kd.R_drewN | apply Kd.R_drew)); exact HO154.out))) (Kd.R_lt (by (with_reducible repeat (first | apply Kd.R_alloc | apply Kd.R_drewN | apply Kd.R_drew)); exact HO159.out))) (Kd.R_lt (by (with_reducible repeat (first | apply Kd.R_alloc | apply Kd.R_drewN | apply Kd.R_drew)); exact HO162.out))) (Kd.R_lt (by (with_reducible repeat (first | apply Kd.R_alloc | apply Kd.R_drewN | apply Kd.R_drew)); exact HO165.out))) (below_size (by repeat (first | (with_reducible first | exact HB.out | apply below_alloc | apply pw_below_drewN | apply below_drew1 | refine below_set ?_ GE151.out) | exact HB.out)))); have n5_ := Aside0.mk (blk_below (g := gb151) (o := .cells #[.int .i64 2, .string (⟨#[]⟩ : ByteArray), .bool true, .int .i64 8] 23 (0, 0)) (by (with_reducible repeat (first | refine blk_drewN ?_ _ | refine blk_drew ?_ | refine blk_alloc ?_ _)); exact BK151.out) hb); have n6_ := Aside0.mk (below_step (by repeat (first | (with_reducible first | exact HB.out | apply below_alloc | apply pw_below_drewN | apply below_drew1 | refine below_set ?_ GE151.out) | exact HB.out)) hb); clear HO154; clear HO159; clear HO162; clear HO165; clear BK151; clear HB; have HO154 := n0_; have HO159 := n1_; have HO162 := n2_; have HO165 := n3_; have HO169 := n4_; have BK151 := n5_; have HB := n6_; clear n0_ n1_ n2_ n3_ n4_ n5_ n6_; (try clear hb); (try clear hb2); (try clear hk); (try clear hi); (try clear ho0)) | ((with_reducible refine gate_dst (N := 36) rfl ?_); (try (refine gate_guard (by rfl) ?_; dsimp only)); refine Kd.R_lit (Kd.int .i64) _ 3 ?hg (N := 36) ?hd (xs := ([8, 8, 3, 1] : List Int)) (inner := [.int .i64 8, .int .i64 8, .int .i64 3, .int .i64 1]) (ok := fun _ => True) (okp := fun _ => True) ?hr ?hp (fun _ hk => hk) trivial (Below.refl _ _) (Nat.le_refl _) (by simp) ?_; (case hd => rfl); (case hg => rfl); (case hr => first | (go_simp; done) | (go_simp; rfl)); (case hp => exact (Reps.one (show Kd.M (Kd.int .i64) _ _ _ 8 [.int .i64 8] from rfl) (Reps.one (show Kd.M (Kd.int .i64) _ _ _ 8 [.int .i64 8] from rfl) (Reps.one (show Kd.M (Kd.int .i64) _ _ _ 3 [.int .i64 3] from rfl) (Reps.one (show Kd.M (Kd.int .i64) _ _ _ 1 [.int .i64 1] from rfl) (Reps.none _ _)))))); intro v171 w30 ho31 hb hg_ hnew_; clear hg_ hnew_; (first | rw [← Ny170.out] at ho31 | (simp only [Int.reduceToNat] at ho31; rw [← Ny170.out] at ho31)); have n0_ := Aside0.mk (Kd.R_elder' (by (with_reducible repeat (first | apply Kd.R_alloc | apply Kd.R_drewN | apply Kd.R_drew)); exact HO154.out) (Kd.R_base ho31) hb); have n1_ := Aside0.mk (Kd.R_elder' (by (with_reducible repeat (first | apply Kd.R_alloc | apply Kd.R_drewN | apply Kd.R_drew)); exact HO159.out) (Kd.R_base ho31) hb); have n2_ := Aside0.mk (Kd.R_elder' (by (with_reducible repeat (first | apply Kd.R_alloc | apply Kd.R_drewN | apply Kd.R_drew)); exact HO162.out) (Kd.R_base ho31) hb); have n3_ := Aside0.mk (Kd.R_elder' (by (with_reducible repeat (first | apply Kd.R_alloc | apply Kd.R_drewN | apply Kd.R_drew)); exact HO165.out) (Kd.R_base ho31) hb); have n4_ := Aside0.mk (Kd.R_elder' (by (with_reducible repeat (first | apply Kd.R_alloc | apply Kd.R_drewN | apply Kd.R_drew)); exact HO169.out) (Kd.R_base ho31) hb); have n5_ := Aside0.mk (Kd.R_lower (Kd.R_new' (Kd.R_new' (Kd.R_new' (Kd.R_new' (Kd.R_new' ho31 (Kd.R_lt (by (with_reducible repeat (first | apply Kd.R_alloc | apply Kd.R_drewN | apply Kd.R_drew)); exact HO154.out))) (Kd.R_lt (by (with_reducible repeat (first | apply Kd.R_alloc | apply Kd.R_drewN | apply Kd.R_drew)); exact HO159.out))) (Kd.R_lt (by (with_reducible repeat (first | apply Kd.R_alloc | apply Kd.R_drewN | apply Kd.R_drew)); exact HO162.out))) (Kd.R_lt (by (with_reducible repeat (first | apply Kd.R_alloc | apply Kd.R_drewN | apply Kd.R_drew)); exact HO165.out))) (Kd.R_lt (by (with_reducible repeat (first | apply Kd.R_alloc | apply Kd.R_drewN | apply Kd.R_drew)); exact HO169.out))) (below_size (by repeat (first | (with_reducible first | exact HB.out | apply below_alloc | apply pw_below_drewN | apply below_drew1 | refine below_set ?_ GE151.out) | exact HB.out)))); have n6_ := Aside0.mk (blk_below (g := gb151) (o := .cells #[.int .i64 2, .string (⟨#[]⟩ : ByteArray), .bool true, .int .i64 8] 23 (0, 0)) (by (with_reducible repeat (first | refine blk_drewN ?_ _ | refine blk_drew ?_ | refine blk_alloc ?_ _)); exact BK151.out) hb); have n7_ := Aside0.mk (below_step (by repeat (first | (with_reducible first | exact HB.out | apply below_alloc | apply pw_below_drewN | apply below_drew1 | refine below_set ?_ GE151.out) | exact HB.out)) hb); clear HO154; clear HO159; clear HO162; clear HO165; clear HO169; clear BK151; clear HB; have HO154 := n0_; have HO159 := n1_; have HO162 := n2_; have HO165 := n3_; have HO169 := n4_; have HO172 := n5_; have BK151 := n6_; have HB := n7_; clear n0_ n1_ n2_ n3_ n4_ n5_ n6_ n7_; clear hb ho31; obtain ⟨Ao32, co32, eo32⟩ := Kd.R_slice HO169.out; subst eo32; obtain ⟨Ao33, co33, eo33⟩ := Kd.R_slice HO172.out; subst eo33) | (go_at_call 24; (with_reducible refine (reedpenref01_Ints.calls k _ _ t167 _ _ y170 t173 _ ?side1 ?side2 ?side3 ?side4 A9.out).mono ?_); (case side1 => repeat (first | exact (Kd.R_reads' HO169.out).2.2 | (with_reducible refine Kd.C_alloc ?_ _) | (with_reducible refine Kd.C_drewN ?_ _) | (with_reducible refine Kd.C_drew ?_))); (case side2 => exact (Kd.R_reads' HO169.out).2.1); (case side3 => repeat (first | exact (Kd.R_reads' HO172.out).2.2 | (with_reducible refine Kd.C_alloc ?_ _) | (with_reducible refine Kd.C_drewN ?_ _) | (with_reducible refine Kd.C_drew ?_))); (case side4 => exact (Kd.R_reads' HO172.out).2.1); rintro e w' ⟨rfl, ⟨nd, rfl⟩⟩))
        go_ret
        exact ⟨by first | rfl | (simp [errW_none, errW_some] <;> rfl) | (simp [*, errW_none, errW_some] <;> rfl), by repeat (first | (with_reducible first | exact HB.out | apply below_alloc | apply pw_below_drewN | apply below_drew1 | refine below_set ?_ GE151.out) | exact HB.out)⟩
      · replace c7 := Bool.eq_false_iff.mpr c7
        subst c7
        have H1 : (some false) = some r := by rw [if_neg (show ¬ (false = true) by decide)] at H; exact H
        clear H
        have H := H1
        clear H1
        obtain rfl := Option.some.inj H
        go_enter Try.func17, Try.ntmps17
        go_wp2_with (first | ((with_reducible refine gate_dst (N := 1) rfl ?_); (try (refine gate_guard (by rfl) ?_; dsimp only)); refine box_event ?hg (N := 1) ?hd (cs := #[.int .i64 0, .string (⟨#[]⟩ : ByteArray), .bool false, .int .i64 0]) (t := 23) ?hr ?_; (case hd => rfl); (case hg => rfl); (case hr => first | (go_simp; done) | (go_simp; rfl)); intro gb151 hg w34 hbox hb; have n0_ := Aside0.mk (below_step (by repeat (first | (with_reducible first | exact HB.out | apply below_alloc | apply pw_below_drewN | apply below_drew1) | exact HB.out)) hb); have n1_ := Aside0.mk (hbox); have n2_ := Aside0.mk ((by rw [hg]; exact (below_size (by repeat (first | (with_reducible first | exact HB.out | apply below_alloc | apply pw_below_drewN | apply below_drew1) | exact HB.out))) : w.heap.size ≤ gb151)); have n3_ := Aside0.mk ((by rw [hg]; exact (below_size (by repeat (first | (with_reducible first | exact HB.out | apply below_alloc | apply pw_below_drewN | apply below_drew1) | exact HB.out))) : w.heap.size ≤ gb151)); clear HB; have HB := n0_; have BK151 := n1_; have GW151 := n2_; have GE151 := n3_; clear n0_ n1_ n2_ n3_; clear hb hbox hg; have hcz35_0 : w34.cell? ⟨gb151, 0, none⟩ = some (.int .i64 0) := (blk_cell BK151.out 0).trans rfl; have hcz35_1 : w34.cell? ⟨gb151, 1, none⟩ = some (.string (⟨#[]⟩ : ByteArray)) := (blk_cell BK151.out 1).trans rfl; have hcz35_2 : w34.cell? ⟨gb151, 2, none⟩ = some (.bool false) := (blk_cell BK151.out 2).trans rfl; have hcz35_3 : w34.cell? ⟨gb151, 3, none⟩ = some (.int .i64 0) := (blk_cell BK151.out 3).trans rfl; have hfz35_0 := blk_frozen BK151.out 0; have hfz35_1 := blk_frozen BK151.out 1; have hfz35_2 := blk_frozen BK151.out 2; have hfz35_3 := blk_frozen BK151.out 3) | ((with_reducible refine gate_dst (N := 7) rfl ?_); (try (refine gate_guard (by rfl) ?_; dsimp only)); refine Kd.R_lit (Kd.int .i64) _ 3 ?hg (N := 7) ?hd (xs := ([7, 4, 1, 5] : List Int)) (inner := [.int .i64 7, .int .i64 4, .int .i64 1, .int .i64 5]) (ok := fun _ => True) (okp := fun _ => True) ?hr ?hp (fun _ hk => hk) trivial (Below.refl _ _) (Nat.le_refl _) (by simp) ?_; (case hd => rfl); (case hg => rfl); (case hr => first | (go_simp; done) | (go_simp; rfl)); (case hp => exact (Reps.one (show Kd.M (Kd.int .i64) _ _ _ 7 [.int .i64 7] from rfl) (Reps.one (show Kd.M (Kd.int .i64) _ _ _ 4 [.int .i64 4] from rfl) (Reps.one (show Kd.M (Kd.int .i64) _ _ _ 1 [.int .i64 1] from rfl) (Reps.one (show Kd.M (Kd.int .i64) _ _ _ 5 [.int .i64 5] from rfl) (Reps.none _ _)))))); intro v153 w36 ho37 hb hg_ hnew_; clear hg_ hnew_; (first | rw [← Ny152.out] at ho37 | (simp only [Int.reduceToNat] at ho37; rw [← Ny152.out] at ho37)); have n0_ := Aside0.mk (Kd.R_lower ho37 (below_size (by repeat (first | (with_reducible first | exact HB.out | apply below_alloc | apply pw_below_drewN | apply below_drew1 | refine below_set ?_ GE151.out) | exact HB.out)))); have n1_ := Aside0.mk (blk_below (g := gb151) (o := .cells #[.int .i64 2, .string (⟨#[]⟩ : ByteArray), .bool true, .int .i64 8] 23 (0, 0)) (by (with_reducible repeat (first | refine blk_drewN ?_ _ | refine blk_drew ?_ | refine blk_alloc ?_ _)); refine blk_put (cs := #[.int .i64 2, .string (⟨#[]⟩ : ByteArray), .bool true, .int .i64 0]) ?_ 3 _ rfl; (with_reducible repeat (first | refine blk_drewN ?_ _ | refine blk_drew ?_ | refine blk_alloc ?_ _)); refine blk_put (cs := #[.int .i64 2, .string (⟨#[]⟩ : ByteArray), .bool false, .int .i64 0]) ?_ 2 _ rfl; (with_reducible repeat (first | refine blk_drewN ?_ _ | refine blk_drew ?_ | refine blk_alloc ?_ _)); refine blk_put (cs := #[.int .i64 2, .string (⟨#[]⟩ : ByteArray), .bool false, .int .i64 0]) ?_ 1 _ rfl; (with_reducible repeat (first | refine blk_drewN ?_ _ | refine blk_drew ?_ | refine blk_alloc ?_ _)); refine blk_put (cs := #[.int .i64 0, .string (⟨#[]⟩ : ByteArray), .bool false, .int .i64 0]) ?_ 0 _ rfl; (with_reducible repeat (first | refine blk_drewN ?_ _ | refine blk_drew ?_ | refine blk_alloc ?_ _)); exact BK151.out) hb); have n2_ := Aside0.mk (below_step (by repeat (first | (with_reducible first | exact HB.out | apply below_alloc | apply pw_below_drewN | apply below_drew1 | refine below_set ?_ GE151.out) | exact HB.out)) hb); clear BK151; clear HB; have HO154 := n0_; have BK151 := n1_; have HB := n2_; clear n0_ n1_ n2_; clear hb ho37; have hcz38_0 : w36.cell? ⟨gb151, 0, none⟩ = some (.int .i64 2) := (blk_cell BK151.out 0).trans rfl; have hcz38_1 : w36.cell? ⟨gb151, 1, none⟩ = some (.string (⟨#[]⟩ : ByteArray)) := (blk_cell BK151.out 1).trans rfl; have hcz38_2 : w36.cell? ⟨gb151, 2, none⟩ = some (.bool true) := (blk_cell BK151.out 2).trans rfl; have hcz38_3 : w36.cell? ⟨gb151, 3, none⟩ = some (.int .i64 8) := (blk_cell BK151.out 3).trans rfl; have hfz38_0 := blk_frozen BK151.out 0; have hfz38_1 := blk_frozen BK151.out 1; have hfz38_2 := blk_frozen BK151.out 2; have hfz38_3 := blk_frozen BK151.out 3; obtain ⟨Ao39, co39, eo39⟩ := Kd.R_slice HO154.out; subst eo39) | ((with_reducible refine gate_callee (f := 18) rfl ?_); refine goesL_ (some 10) rfl rfl Try.func18 (by kernel_rfl) rfl #[.agg #[.int .i64 2, .string (⟨#[]⟩ : ByteArray), .bool true, .int .i64 8], .slice Ao39 y152.length co39, .bool true] rfl (by (try simp only [List.map_toArray, List.map_cons, List.map_nil]); first | done | rfl | (simp only [List.length_drop, List.length_take]; rfl)) ?_; (with_reducible refine (order_Elsewhere.calls k 2 (⟨#[]⟩ : ByteArray) true 8 _ _ y152 true t155 _ ?side1 ?side2 A1.out).mono ?_); (case side1 => repeat (first | exact (Kd.R_reads' HO154.out).2.2 | (with_reducible refine Kd.C_alloc ?_ _) | (with_reducible refine Kd.C_drewN ?_ _) | (with_reducible refine Kd.C_drew ?_))); (case side2 => exact (Kd.R_reads' HO154.out).2.1); rintro e w40 ⟨rfl, hb⟩; refine ⟨_, rfl, ?_⟩; have n0_ := Aside0.mk (Kd.R_below (by (with_reducible repeat (first | apply Kd.R_alloc | apply Kd.R_drewN | apply Kd.R_drew)); exact HO154.out) hb); have n1_ := Aside0.mk (blk_below (g := gb151) (o := .cells #[.int .i64 2, .string (⟨#[]⟩ : ByteArray), .bool true, .int .i64 8] 23 (0, 0)) (by (with_reducible repeat (first | refine blk_drewN ?_ _ | refine blk_drew ?_ | refine blk_alloc ?_ _)); exact BK151.out) hb); have n2_ := Aside0.mk (below_step (by repeat (first | (with_reducible first | exact HB.out | apply below_alloc | apply pw_below_drewN | apply below_drew1 | refine below_set ?_ GE151.out) | exact HB.out)) hb); clear HO154; clear BK151; clear HB; have HO154 := n0_; have BK151 := n1_; have HB := n2_; clear n0_ n1_ n2_; (try clear hb); (try clear hb2); (try clear hk); (try clear hi); have hcz41_0 : w40.cell? ⟨gb151, 0, none⟩ = some (.int .i64 2) := (blk_cell BK151.out 0).trans rfl; have hcz41_1 : w40.cell? ⟨gb151, 1, none⟩ = some (.string (⟨#[]⟩ : ByteArray)) := (blk_cell BK151.out 1).trans rfl; have hcz41_2 : w40.cell? ⟨gb151, 2, none⟩ = some (.bool true) := (blk_cell BK151.out 2).trans rfl; have hcz41_3 : w40.cell? ⟨gb151, 3, none⟩ = some (.int .i64 8) := (blk_cell BK151.out 3).trans rfl; have hfz41_0 := blk_frozen BK151.out 0; have hfz41_1 := blk_frozen BK151.out 1; have hfz41_2 := blk_frozen BK151.out 2; have hfz41_3 := blk_frozen BK151.out 3) | ((with_reducible refine gate_callee (f := 20) rfl ?_); refine goesL_ (some 14) rfl rfl Try.func20 (by kernel_rfl) rfl #[.agg #[.int .i64 2, .string (⟨#[]⟩ : ByteArray), .bool true, .int .i64 8], .slice Ao39 y152.length co39, .int .i64 t155, .slice none 0 0] rfl (by (try simp only [List.map_toArray, List.map_cons, List.map_nil]); first | done | rfl | (simp only [List.length_drop, List.length_take]; rfl)) ?_; (refine (order_Base.calls k 2 (⟨#[]⟩ : ByteArray) true 8 _ _ y152 t155 _ _ ([] : List Bool) t156 _ ?side1 ?side2 ?side3 ?side4 A2.out).mono ?_); (case side1 => repeat (first | exact (Kd.R_reads' HO154.out).2.2 | (with_reducible refine Kd.C_alloc ?_ _) | (with_reducible refine Kd.C_drewN ?_ _) | (with_reducible refine Kd.C_drew ?_))); (case side2 => exact (Kd.R_reads' HO154.out).2.1); (case side3 => exact Kd.C_nil _ _); (case side4 => exact Nat.le_refl _); rintro e w42 ⟨rfl, hb⟩; refine ⟨_, rfl, ?_⟩; have n0_ := Aside0.mk (Kd.R_below (by (with_reducible repeat (first | apply Kd.R_alloc | apply Kd.R_drewN | apply Kd.R_drew)); exact HO154.out) hb); have n1_ := Aside0.mk (blk_below (g := gb151) (o := .cells #[.int .i64 2, .string (⟨#[]⟩ : ByteArray), .bool true, .int .i64 8] 23 (0, 0)) (by (with_reducible repeat (first | refine blk_drewN ?_ _ | refine blk_drew ?_ | refine blk_alloc ?_ _)); exact BK151.out) hb); have n2_ := Aside0.mk (below_step (by repeat (first | (with_reducible first | exact HB.out | apply below_alloc | apply pw_below_drewN | apply below_drew1 | refine below_set ?_ GE151.out) | exact HB.out)) hb); clear HO154; clear BK151; clear HB; have HO154 := n0_; have BK151 := n1_; have HB := n2_; clear n0_ n1_ n2_; (try clear hb); (try clear hb2); (try clear hk); (try clear hi); have hcz43_0 : w42.cell? ⟨gb151, 0, none⟩ = some (.int .i64 2) := (blk_cell BK151.out 0).trans rfl; have hcz43_1 : w42.cell? ⟨gb151, 1, none⟩ = some (.string (⟨#[]⟩ : ByteArray)) := (blk_cell BK151.out 1).trans rfl; have hcz43_2 : w42.cell? ⟨gb151, 2, none⟩ = some (.bool true) := (blk_cell BK151.out 2).trans rfl; have hcz43_3 : w42.cell? ⟨gb151, 3, none⟩ = some (.int .i64 8) := (blk_cell BK151.out 3).trans rfl; have hfz43_0 := blk_frozen BK151.out 0; have hfz43_1 := blk_frozen BK151.out 1; have hfz43_2 := blk_frozen BK151.out 2; have hfz43_3 := blk_frozen BK151.out 3) | ((with_reducible refine gate_dst (N := 17) rfl ?_); (try (refine gate_guard (by rfl) ?_; dsimp only)); refine Kd.R_lit (Kd.int .i64) _ 3 ?hg (N := 17) ?hd (xs := ([0, 0, 0, 1] : List Int)) (inner := [.int .i64 0, .int .i64 0, .int .i64 0, .int .i64 1]) (ok := fun _ => True) (okp := fun _ => True) ?hr ?hp (fun _ hk => hk) trivial (Below.refl _ _) (Nat.le_refl _) (by simp) ?_; (case hd => rfl); (case hg => rfl); (case hr => first | (go_simp; done) | (go_simp; rfl)); (case hp => exact (Reps.one (show Kd.M (Kd.int .i64) _ _ _ 0 [.int .i64 0] from rfl) (Reps.one (show Kd.M (Kd.int .i64) _ _ _ 0 [.int .i64 0] from rfl) (Reps.one (show Kd.M (Kd.int .i64) _ _ _ 0 [.int .i64 0] from rfl) (Reps.one (show Kd.M (Kd.int .i64) _ _ _ 1 [.int .i64 1] from rfl) (Reps.none _ _)))))); intro v158 w44 ho45 hb hg_ hnew_; clear hg_ hnew_; (first | rw [← Ny157.out] at ho45 | (simp only [Int.reduceToNat] at ho45; rw [← Ny157.out] at ho45)); have n0_ := Aside0.mk (Kd.R_elder' (by (with_reducible repeat (first | apply Kd.R_alloc | apply Kd.R_drewN | apply Kd.R_drew)); exact HO154.out) (Kd.R_base ho45) hb); have n1_ := Aside0.mk (Kd.R_lower (Kd.R_new' ho45 (Kd.R_lt (by (with_reducible repeat (first | apply Kd.R_alloc | apply Kd.R_drewN | apply Kd.R_drew)); exact HO154.out))) (below_size (by repeat (first | (with_reducible first | exact HB.out | apply below_alloc | apply pw_below_drewN | apply below_drew1 | refine below_set ?_ GE151.out) | exact HB.out)))); have n2_ := Aside0.mk (blk_below (g := gb151) (o := .cells #[.int .i64 2, .string (⟨#[]⟩ : ByteArray), .bool true, .int .i64 8] 23 (0, 0)) (by (with_reducible repeat (first | refine blk_drewN ?_ _ | refine blk_drew ?_ | refine blk_alloc ?_ _)); exact BK151.out) hb); have n3_ := Aside0.mk (below_step (by repeat (first | (with_reducible first | exact HB.out | apply below_alloc | apply pw_below_drewN | apply below_drew1 | refine below_set ?_ GE151.out) | exact HB.out)) hb); clear HO154; clear BK151; clear HB; have HO154 := n0_; have HO159 := n1_; have BK151 := n2_; have HB := n3_; clear n0_ n1_ n2_ n3_; clear hb ho45; obtain ⟨Ao46, co46, eo46⟩ := Kd.R_slice HO159.out; subst eo46) | ((with_reducible refine gate_callee (f := 22) rfl ?_); refine goesL_ (some 20) rfl rfl Try.func22 (by kernel_rfl) rfl #[.agg #[.int .i64 2, .string (⟨#[]⟩ : ByteArray), .bool true, .int .i64 8], .slice Ao39 y152.length co39, .slice Ao46 y157.length co46, .int .i64 t155, .int .i64 t156] rfl (by (try simp only [List.map_toArray, List.map_cons, List.map_nil]); first | done | rfl | (simp only [List.length_drop, List.length_take]; rfl)) ?_; (with_reducible refine (order_Keys.calls k 2 (⟨#[]⟩ : ByteArray) true 8 _ _ y152 _ _ y157 t155 t156 t160 _ ?side1 ?side2 ?side3 ?side4 A3.out).mono ?_); (case side1 => repeat (first | exact (Kd.R_reads' HO154.out).2.2 | (with_reducible refine Kd.C_alloc ?_ _) | (with_reducible refine Kd.C_drewN ?_ _) | (with_reducible refine Kd.C_drew ?_))); (case side2 => exact (Kd.R_reads' HO154.out).2.1); (case side3 => repeat (first | exact (Kd.R_reads' HO159.out).2.2 | (with_reducible refine Kd.C_alloc ?_ _) | (with_reducible refine Kd.C_drewN ?_ _) | (with_reducible refine Kd.C_drew ?_))); (case side4 => exact (Kd.R_reads' HO159.out).2.1); rintro e w47 ⟨v161, rfl, ho0, hb⟩; refine ⟨_, rfl, ?_⟩; have n0_ := Aside0.mk (Kd.R_elder' (by (with_reducible repeat (first | apply Kd.R_alloc | apply Kd.R_drewN | apply Kd.R_drew)); exact HO154.out) (Kd.R_base ho0) hb); have n1_ := Aside0.mk (Kd.R_elder' (by (with_reducible repeat (first | apply Kd.R_alloc | apply Kd.R_drewN | apply Kd.R_drew)); exact HO159.out) (Kd.R_base ho0) hb); have n2_ := Aside0.mk (Kd.R_lower (Kd.R_new' (Kd.R_new' ho0 (Kd.R_lt (by (with_reducible repeat (first | apply Kd.R_alloc | apply Kd.R_drewN | apply Kd.R_drew)); exact HO154.out))) (Kd.R_lt (by (with_reducible repeat (first | apply Kd.R_alloc | apply Kd.R_drewN | apply Kd.R_drew)); exact HO159.out))) (below_size (by repeat (first | (with_reducible first | exact HB.out | apply below_alloc | apply pw_below_drewN | apply below_drew1 | refine below_set ?_ GE151.out) | exact HB.out)))); have n3_ := Aside0.mk (blk_below (g := gb151) (o := .cells #[.int .i64 2, .string (⟨#[]⟩ : ByteArray), .bool true, .int .i64 8] 23 (0, 0)) (by (with_reducible repeat (first | refine blk_drewN ?_ _ | refine blk_drew ?_ | refine blk_alloc ?_ _)); exact BK151.out) hb); have n4_ := Aside0.mk (below_step (by repeat (first | (with_reducible first | exact HB.out | apply below_alloc | apply pw_below_drewN | apply below_drew1 | refine below_set ?_ GE151.out) | exact HB.out)) hb); clear HO154; clear HO159; clear BK151; clear HB; have HO154 := n0_; have HO159 := n1_; have HO162 := n2_; have BK151 := n3_; have HB := n4_; clear n0_ n1_ n2_ n3_ n4_; (try clear hb); (try clear hb2); (try clear hk); (try clear hi); (try clear ho0)) | ((with_reducible refine gate_dst (N := 29) rfl ?_); (try (refine gate_guard (by rfl) ?_; dsimp only)); refine Kd.R_lit (Kd.int .i64) _ 3 ?hg (N := 29) ?hd (xs := ([0, 0, 3, 1] : List Int)) (inner := [.int .i64 0, .int .i64 0, .int .i64 3, .int .i64 1]) (ok := fun _ => True) (okp := fun _ => True) ?hr ?hp (fun _ hk => hk) trivial (Below.refl _ _) (Nat.le_refl _) (by simp) ?_; (case hd => rfl); (case hg => rfl); (case hr => first | (go_simp; done) | (go_simp; rfl)); (case hp => exact (Reps.one (show Kd.M (Kd.int .i64) _ _ _ 0 [.int .i64 0] from rfl) (Reps.one (show Kd.M (Kd.int .i64) _ _ _ 0 [.int .i64 0] from rfl) (Reps.one (show Kd.M (Kd.int .i64) _ _ _ 3 [.int .i64 3] from rfl) (Reps.one (show Kd.M (Kd.int .i64) _ _ _ 1 [.int .i64 1] from rfl) (Reps.none _ _)))))); intro v164 w48 ho49 hb hg_ hnew_; clear hg_ hnew_; (first | rw [← Ny163.out] at ho49 | (simp only [Int.reduceToNat] at ho49; rw [← Ny163.out] at ho49)); have n0_ := Aside0.mk (Kd.R_elder' (by (with_reducible repeat (first | apply Kd.R_alloc | apply Kd.R_drewN | apply Kd.R_drew)); exact HO154.out) (Kd.R_base ho49) hb); have n1_ := Aside0.mk (Kd.R_elder' (by (with_reducible repeat (first | apply Kd.R_alloc | apply Kd.R_drewN | apply Kd.R_drew)); exact HO159.out) (Kd.R_base ho49) hb); have n2_ := Aside0.mk (Kd.R_elder' (by (with_reducible repeat (first | apply Kd.R_alloc | apply Kd.R_drewN | apply Kd.R_drew)); exact HO162.out) (Kd.R_base ho49) hb); have n3_ := Aside0.mk (Kd.R_lower (Kd.R_new' (Kd.R_new' (Kd.R_new' ho49 (Kd.R_lt (by (with_reducible repeat (first | apply Kd.R_alloc | apply Kd.R_drewN | apply Kd.R_drew)); exact HO154.out))) (Kd.R_lt (by (with_reducible repeat (first | apply Kd.R_alloc | apply Kd.R_drewN | apply Kd.R_drew)); exact HO159.out))) (Kd.R_lt (by (with_reducible repeat (first | apply Kd.R_alloc | apply Kd.R_drewN | apply Kd.R_drew)); exact HO162.out))) (below_size (by repeat (first | (with_reducible first | exact HB.out | apply below_alloc | apply pw_below_drewN | apply below_drew1 | refine below_set ?_ GE151.out) | exact HB.out)))); have n4_ := Aside0.mk (blk_below (g := gb151) (o := .cells #[.int .i64 2, .string (⟨#[]⟩ : ByteArray), .bool true, .int .i64 8] 23 (0, 0)) (by (with_reducible repeat (first | refine blk_drewN ?_ _ | refine blk_drew ?_ | refine blk_alloc ?_ _)); exact BK151.out) hb); have n5_ := Aside0.mk (below_step (by repeat (first | (with_reducible first | exact HB.out | apply below_alloc | apply pw_below_drewN | apply below_drew1 | refine below_set ?_ GE151.out) | exact HB.out)) hb); clear HO154; clear HO159; clear HO162; clear BK151; clear HB; have HO154 := n0_; have HO159 := n1_; have HO162 := n2_; have HO165 := n3_; have BK151 := n4_; have HB := n5_; clear n0_ n1_ n2_ n3_ n4_ n5_; clear hb ho49; obtain ⟨Ao50, co50, eo50⟩ := Kd.R_slice HO162.out; subst eo50; obtain ⟨Ao51, co51, eo51⟩ := Kd.R_slice HO165.out; subst eo51) | (go_at_call 24; (with_reducible refine (reedpenref01_Ints.calls k _ _ t160 _ _ y163 false _ ?side1 ?side2 ?side3 ?side4 A6.out).mono ?_); (case side1 => repeat (first | exact (Kd.R_reads' HO162.out).2.2 | (with_reducible refine Kd.C_alloc ?_ _) | (with_reducible refine Kd.C_drewN ?_ _) | (with_reducible refine Kd.C_drew ?_))); (case side2 => exact (Kd.R_reads' HO162.out).2.1); (case side3 => repeat (first | exact (Kd.R_reads' HO165.out).2.2 | (with_reducible refine Kd.C_alloc ?_ _) | (with_reducible refine Kd.C_drewN ?_ _) | (with_reducible refine Kd.C_drew ?_))); (case side4 => exact (Kd.R_reads' HO165.out).2.1); rintro e w' ⟨rfl, ⟨nd, rfl⟩⟩))
        go_ret
        exact ⟨by first | rfl | (simp [errW_none, errW_some] <;> rfl) | (simp [*, errW_none, errW_some] <;> rfl), by repeat (first | (with_reducible first | exact HB.out | apply below_alloc | apply pw_below_drewN | apply below_drew1 | refine below_set ?_ GE151.out) | exact HB.out)⟩
    · rw [if_neg c5] at H
      have c5b0 : (t156 == 2) = false := beq_eq_false_iff_ne.mpr c5
      have c5b1 : (t156 != 2) = true := bne_iff_ne.mpr c5
      obtain rfl := Option.some.inj H
      go_enter Try.func17, Try.ntmps17
      go_wp2_with (first | ((with_reducible refine gate_dst (N := 1) rfl ?_); (try (refine gate_guard (by rfl) ?_; dsimp only)); refine box_event ?hg (N := 1) ?hd (cs := #[.int .i64 0, .string (⟨#[]⟩ : ByteArray), .bool false, .int .i64 0]) (t := 23) ?hr ?_; (case hd => rfl); (case hg => rfl); (case hr => first | (go_simp; done) | (go_simp; rfl)); intro gb151 hg w52 hbox hb; have n0_ := Aside0.mk (below_step (by repeat (first | (with_reducible first | exact HB.out | apply below_alloc | apply pw_below_drewN | apply below_drew1) | exact HB.out)) hb); have n1_ := Aside0.mk (hbox); have n2_ := Aside0.mk ((by rw [hg]; exact (below_size (by repeat (first | (with_reducible first | exact HB.out | apply below_alloc | apply pw_below_drewN | apply below_drew1) | exact HB.out))) : w.heap.size ≤ gb151)); have n3_ := Aside0.mk ((by rw [hg]; exact (below_size (by repeat (first | (with_reducible first | exact HB.out | apply below_alloc | apply pw_below_drewN | apply below_drew1) | exact HB.out))) : w.heap.size ≤ gb151)); clear HB; have HB := n0_; have BK151 := n1_; have GW151 := n2_; have GE151 := n3_; clear n0_ n1_ n2_ n3_; clear hb hbox hg; have hcz53_0 : w52.cell? ⟨gb151, 0, none⟩ = some (.int .i64 0) := (blk_cell BK151.out 0).trans rfl; have hcz53_1 : w52.cell? ⟨gb151, 1, none⟩ = some (.string (⟨#[]⟩ : ByteArray)) := (blk_cell BK151.out 1).trans rfl; have hcz53_2 : w52.cell? ⟨gb151, 2, none⟩ = some (.bool false) := (blk_cell BK151.out 2).trans rfl; have hcz53_3 : w52.cell? ⟨gb151, 3, none⟩ = some (.int .i64 0) := (blk_cell BK151.out 3).trans rfl; have hfz53_0 := blk_frozen BK151.out 0; have hfz53_1 := blk_frozen BK151.out 1; have hfz53_2 := blk_frozen BK151.out 2; have hfz53_3 := blk_frozen BK151.out 3) | ((with_reducible refine gate_dst (N := 7) rfl ?_); (try (refine gate_guard (by rfl) ?_; dsimp only)); refine Kd.R_lit (Kd.int .i64) _ 3 ?hg (N := 7) ?hd (xs := ([7, 4, 1, 5] : List Int)) (inner := [.int .i64 7, .int .i64 4, .int .i64 1, .int .i64 5]) (ok := fun _ => True) (okp := fun _ => True) ?hr ?hp (fun _ hk => hk) trivial (Below.refl _ _) (Nat.le_refl _) (by simp) ?_; (case hd => rfl); (case hg => rfl); (case hr => first | (go_simp; done) | (go_simp; rfl)); (case hp => exact (Reps.one (show Kd.M (Kd.int .i64) _ _ _ 7 [.int .i64 7] from rfl) (Reps.one (show Kd.M (Kd.int .i64) _ _ _ 4 [.int .i64 4] from rfl) (Reps.one (show Kd.M (Kd.int .i64) _ _ _ 1 [.int .i64 1] from rfl) (Reps.one (show Kd.M (Kd.int .i64) _ _ _ 5 [.int .i64 5] from rfl) (Reps.none _ _)))))); intro v153 w54 ho55 hb hg_ hnew_; clear hg_ hnew_; (first | rw [← Ny152.out] at ho55 | (simp only [Int.reduceToNat] at ho55; rw [← Ny152.out] at ho55)); have n0_ := Aside0.mk (Kd.R_lower ho55 (below_size (by repeat (first | (with_reducible first | exact HB.out | apply below_alloc | apply pw_below_drewN | apply below_drew1 | refine below_set ?_ GE151.out) | exact HB.out)))); have n1_ := Aside0.mk (blk_below (g := gb151) (o := .cells #[.int .i64 2, .string (⟨#[]⟩ : ByteArray), .bool true, .int .i64 8] 23 (0, 0)) (by (with_reducible repeat (first | refine blk_drewN ?_ _ | refine blk_drew ?_ | refine blk_alloc ?_ _)); refine blk_put (cs := #[.int .i64 2, .string (⟨#[]⟩ : ByteArray), .bool true, .int .i64 0]) ?_ 3 _ rfl; (with_reducible repeat (first | refine blk_drewN ?_ _ | refine blk_drew ?_ | refine blk_alloc ?_ _)); refine blk_put (cs := #[.int .i64 2, .string (⟨#[]⟩ : ByteArray), .bool false, .int .i64 0]) ?_ 2 _ rfl; (with_reducible repeat (first | refine blk_drewN ?_ _ | refine blk_drew ?_ | refine blk_alloc ?_ _)); refine blk_put (cs := #[.int .i64 2, .string (⟨#[]⟩ : ByteArray), .bool false, .int .i64 0]) ?_ 1 _ rfl; (with_reducible repeat (first | refine blk_drewN ?_ _ | refine blk_drew ?_ | refine blk_alloc ?_ _)); refine blk_put (cs := #[.int .i64 0, .string (⟨#[]⟩ : ByteArray), .bool false, .int .i64 0]) ?_ 0 _ rfl; (with_reducible repeat (first | refine blk_drewN ?_ _ | refine blk_drew ?_ | refine blk_alloc ?_ _)); exact BK151.out) hb); have n2_ := Aside0.mk (below_step (by repeat (first | (with_reducible first | exact HB.out | apply below_alloc | apply pw_below_drewN | apply below_drew1 | refine below_set ?_ GE151.out) | exact HB.out)) hb); clear BK151; clear HB; have HO154 := n0_; have BK151 := n1_; have HB := n2_; clear n0_ n1_ n2_; clear hb ho55; have hcz56_0 : w54.cell? ⟨gb151, 0, none⟩ = some (.int .i64 2) := (blk_cell BK151.out 0).trans rfl; have hcz56_1 : w54.cell? ⟨gb151, 1, none⟩ = some (.string (⟨#[]⟩ : ByteArray)) := (blk_cell BK151.out 1).trans rfl; have hcz56_2 : w54.cell? ⟨gb151, 2, none⟩ = some (.bool true) := (blk_cell BK151.out 2).trans rfl; have hcz56_3 : w54.cell? ⟨gb151, 3, none⟩ = some (.int .i64 8) := (blk_cell BK151.out 3).trans rfl; have hfz56_0 := blk_frozen BK151.out 0; have hfz56_1 := blk_frozen BK151.out 1; have hfz56_2 := blk_frozen BK151.out 2; have hfz56_3 := blk_frozen BK151.out 3; obtain ⟨Ao57, co57, eo57⟩ := Kd.R_slice HO154.out; subst eo57) | ((with_reducible refine gate_callee (f := 18) rfl ?_); refine goesL_ (some 10) rfl rfl Try.func18 (by kernel_rfl) rfl #[.agg #[.int .i64 2, .string (⟨#[]⟩ : ByteArray), .bool true, .int .i64 8], .slice Ao57 y152.length co57, .bool true] rfl (by (try simp only [List.map_toArray, List.map_cons, List.map_nil]); first | done | rfl | (simp only [List.length_drop, List.length_take]; rfl)) ?_; (with_reducible refine (order_Elsewhere.calls k 2 (⟨#[]⟩ : ByteArray) true 8 _ _ y152 true t155 _ ?side1 ?side2 A1.out).mono ?_); (case side1 => repeat (first | exact (Kd.R_reads' HO154.out).2.2 | (with_reducible refine Kd.C_alloc ?_ _) | (with_reducible refine Kd.C_drewN ?_ _) | (with_reducible refine Kd.C_drew ?_))); (case side2 => exact (Kd.R_reads' HO154.out).2.1); rintro e w58 ⟨rfl, hb⟩; refine ⟨_, rfl, ?_⟩; have n0_ := Aside0.mk (Kd.R_below (by (with_reducible repeat (first | apply Kd.R_alloc | apply Kd.R_drewN | apply Kd.R_drew)); exact HO154.out) hb); have n1_ := Aside0.mk (blk_below (g := gb151) (o := .cells #[.int .i64 2, .string (⟨#[]⟩ : ByteArray), .bool true, .int .i64 8] 23 (0, 0)) (by (with_reducible repeat (first | refine blk_drewN ?_ _ | refine blk_drew ?_ | refine blk_alloc ?_ _)); exact BK151.out) hb); have n2_ := Aside0.mk (below_step (by repeat (first | (with_reducible first | exact HB.out | apply below_alloc | apply pw_below_drewN | apply below_drew1 | refine below_set ?_ GE151.out) | exact HB.out)) hb); clear HO154; clear BK151; clear HB; have HO154 := n0_; have BK151 := n1_; have HB := n2_; clear n0_ n1_ n2_; (try clear hb); (try clear hb2); (try clear hk); (try clear hi); have hcz59_0 : w58.cell? ⟨gb151, 0, none⟩ = some (.int .i64 2) := (blk_cell BK151.out 0).trans rfl; have hcz59_1 : w58.cell? ⟨gb151, 1, none⟩ = some (.string (⟨#[]⟩ : ByteArray)) := (blk_cell BK151.out 1).trans rfl; have hcz59_2 : w58.cell? ⟨gb151, 2, none⟩ = some (.bool true) := (blk_cell BK151.out 2).trans rfl; have hcz59_3 : w58.cell? ⟨gb151, 3, none⟩ = some (.int .i64 8) := (blk_cell BK151.out 3).trans rfl; have hfz59_0 := blk_frozen BK151.out 0; have hfz59_1 := blk_frozen BK151.out 1; have hfz59_2 := blk_frozen BK151.out 2; have hfz59_3 := blk_frozen BK151.out 3) | ((with_reducible refine gate_callee (f := 20) rfl ?_); refine goesL_ (some 14) rfl rfl Try.func20 (by kernel_rfl) rfl #[.agg #[.int .i64 2, .string (⟨#[]⟩ : ByteArray), .bool true, .int .i64 8], .slice Ao57 y152.length co57, .int .i64 t155, .slice none 0 0] rfl (by (try simp only [List.map_toArray, List.map_cons, List.map_nil]); first | done | rfl | (simp only [List.length_drop, List.length_take]; rfl)) ?_; (refine (order_Base.calls k 2 (⟨#[]⟩ : ByteArray) true 8 _ _ y152 t155 _ _ ([] : List Bool) t156 _ ?side1 ?side2 ?side3 ?side4 A2.out).mono ?_); (case side1 => repeat (first | exact (Kd.R_reads' HO154.out).2.2 | (with_reducible refine Kd.C_alloc ?_ _) | (with_reducible refine Kd.C_drewN ?_ _) | (with_reducible refine Kd.C_drew ?_))); (case side2 => exact (Kd.R_reads' HO154.out).2.1); (case side3 => exact Kd.C_nil _ _); (case side4 => exact Nat.le_refl _); rintro e w60 ⟨rfl, hb⟩; refine ⟨_, rfl, ?_⟩; have n0_ := Aside0.mk (Kd.R_below (by (with_reducible repeat (first | apply Kd.R_alloc | apply Kd.R_drewN | apply Kd.R_drew)); exact HO154.out) hb); have n1_ := Aside0.mk (blk_below (g := gb151) (o := .cells #[.int .i64 2, .string (⟨#[]⟩ : ByteArray), .bool true, .int .i64 8] 23 (0, 0)) (by (with_reducible repeat (first | refine blk_drewN ?_ _ | refine blk_drew ?_ | refine blk_alloc ?_ _)); exact BK151.out) hb); have n2_ := Aside0.mk (below_step (by repeat (first | (with_reducible first | exact HB.out | apply below_alloc | apply pw_below_drewN | apply below_drew1 | refine below_set ?_ GE151.out) | exact HB.out)) hb); clear HO154; clear BK151; clear HB; have HO154 := n0_; have BK151 := n1_; have HB := n2_; clear n0_ n1_ n2_; (try clear hb); (try clear hb2); (try clear hk); (try clear hi); have hcz61_0 : w60.cell? ⟨gb151, 0, none⟩ = some (.int .i64 2) := (blk_cell BK151.out 0).trans rfl; have hcz61_1 : w60.cell? ⟨gb151, 1, none⟩ = some (.string (⟨#[]⟩ : ByteArray)) := (blk_cell BK151.out 1).trans rfl; have hcz61_2 : w60.cell? ⟨gb151, 2, none⟩ = some (.bool true) := (blk_cell BK151.out 2).trans rfl; have hcz61_3 : w60.cell? ⟨gb151, 3, none⟩ = some (.int .i64 8) := (blk_cell BK151.out 3).trans rfl; have hfz61_0 := blk_frozen BK151.out 0; have hfz61_1 := blk_frozen BK151.out 1; have hfz61_2 := blk_frozen BK151.out 2; have hfz61_3 := blk_frozen BK151.out 3) | ((with_reducible refine gate_dst (N := 17) rfl ?_); (try (refine gate_guard (by rfl) ?_; dsimp only)); refine Kd.R_lit (Kd.int .i64) _ 3 ?hg (N := 17) ?hd (xs := ([0, 0, 0, 1] : List Int)) (inner := [.int .i64 0, .int .i64 0, .int .i64 0, .int .i64 1]) (ok := fun _ => True) (okp := fun _ => True) ?hr ?hp (fun _ hk => hk) trivial (Below.refl _ _) (Nat.le_refl _) (by simp) ?_; (case hd => rfl); (case hg => rfl); (case hr => first | (go_simp; done) | (go_simp; rfl)); (case hp => exact (Reps.one (show Kd.M (Kd.int .i64) _ _ _ 0 [.int .i64 0] from rfl) (Reps.one (show Kd.M (Kd.int .i64) _ _ _ 0 [.int .i64 0] from rfl) (Reps.one (show Kd.M (Kd.int .i64) _ _ _ 0 [.int .i64 0] from rfl) (Reps.one (show Kd.M (Kd.int .i64) _ _ _ 1 [.int .i64 1] from rfl) (Reps.none _ _)))))); intro v158 w62 ho63 hb hg_ hnew_; clear hg_ hnew_; (first | rw [← Ny157.out] at ho63 | (simp only [Int.reduceToNat] at ho63; rw [← Ny157.out] at ho63)); have n0_ := Aside0.mk (Kd.R_elder' (by (with_reducible repeat (first | apply Kd.R_alloc | apply Kd.R_drewN | apply Kd.R_drew)); exact HO154.out) (Kd.R_base ho63) hb); have n1_ := Aside0.mk (Kd.R_lower (Kd.R_new' ho63 (Kd.R_lt (by (with_reducible repeat (first | apply Kd.R_alloc | apply Kd.R_drewN | apply Kd.R_drew)); exact HO154.out))) (below_size (by repeat (first | (with_reducible first | exact HB.out | apply below_alloc | apply pw_below_drewN | apply below_drew1 | refine below_set ?_ GE151.out) | exact HB.out)))); have n2_ := Aside0.mk (blk_below (g := gb151) (o := .cells #[.int .i64 2, .string (⟨#[]⟩ : ByteArray), .bool true, .int .i64 8] 23 (0, 0)) (by (with_reducible repeat (first | refine blk_drewN ?_ _ | refine blk_drew ?_ | refine blk_alloc ?_ _)); exact BK151.out) hb); have n3_ := Aside0.mk (below_step (by repeat (first | (with_reducible first | exact HB.out | apply below_alloc | apply pw_below_drewN | apply below_drew1 | refine below_set ?_ GE151.out) | exact HB.out)) hb); clear HO154; clear BK151; clear HB; have HO154 := n0_; have HO159 := n1_; have BK151 := n2_; have HB := n3_; clear n0_ n1_ n2_ n3_; clear hb ho63; obtain ⟨Ao64, co64, eo64⟩ := Kd.R_slice HO159.out; subst eo64) | ((with_reducible refine gate_callee (f := 22) rfl ?_); refine goesL_ (some 20) rfl rfl Try.func22 (by kernel_rfl) rfl #[.agg #[.int .i64 2, .string (⟨#[]⟩ : ByteArray), .bool true, .int .i64 8], .slice Ao57 y152.length co57, .slice Ao64 y157.length co64, .int .i64 t155, .int .i64 t156] rfl (by (try simp only [List.map_toArray, List.map_cons, List.map_nil]); first | done | rfl | (simp only [List.length_drop, List.length_take]; rfl)) ?_; (with_reducible refine (order_Keys.calls k 2 (⟨#[]⟩ : ByteArray) true 8 _ _ y152 _ _ y157 t155 t156 t160 _ ?side1 ?side2 ?side3 ?side4 A3.out).mono ?_); (case side1 => repeat (first | exact (Kd.R_reads' HO154.out).2.2 | (with_reducible refine Kd.C_alloc ?_ _) | (with_reducible refine Kd.C_drewN ?_ _) | (with_reducible refine Kd.C_drew ?_))); (case side2 => exact (Kd.R_reads' HO154.out).2.1); (case side3 => repeat (first | exact (Kd.R_reads' HO159.out).2.2 | (with_reducible refine Kd.C_alloc ?_ _) | (with_reducible refine Kd.C_drewN ?_ _) | (with_reducible refine Kd.C_drew ?_))); (case side4 => exact (Kd.R_reads' HO159.out).2.1); rintro e w65 ⟨v161, rfl, ho0, hb⟩; refine ⟨_, rfl, ?_⟩; have n0_ := Aside0.mk (Kd.R_elder' (by (with_reducible repeat (first | apply Kd.R_alloc | apply Kd.R_drewN | apply Kd.R_drew)); exact HO154.out) (Kd.R_base ho0) hb); have n1_ := Aside0.mk (Kd.R_elder' (by (with_reducible repeat (first | apply Kd.R_alloc | apply Kd.R_drewN | apply Kd.R_drew)); exact HO159.out) (Kd.R_base ho0) hb); have n2_ := Aside0.mk (Kd.R_lower (Kd.R_new' (Kd.R_new' ho0 (Kd.R_lt (by (with_reducible repeat (first | apply Kd.R_alloc | apply Kd.R_drewN | apply Kd.R_drew)); exact HO154.out))) (Kd.R_lt (by (with_reducible repeat (first | apply Kd.R_alloc | apply Kd.R_drewN | apply Kd.R_drew)); exact HO159.out))) (below_size (by repeat (first | (with_reducible first | exact HB.out | apply below_alloc | apply pw_below_drewN | apply below_drew1 | refine below_set ?_ GE151.out) | exact HB.out)))); have n3_ := Aside0.mk (blk_below (g := gb151) (o := .cells #[.int .i64 2, .string (⟨#[]⟩ : ByteArray), .bool true, .int .i64 8] 23 (0, 0)) (by (with_reducible repeat (first | refine blk_drewN ?_ _ | refine blk_drew ?_ | refine blk_alloc ?_ _)); exact BK151.out) hb); have n4_ := Aside0.mk (below_step (by repeat (first | (with_reducible first | exact HB.out | apply below_alloc | apply pw_below_drewN | apply below_drew1 | refine below_set ?_ GE151.out) | exact HB.out)) hb); clear HO154; clear HO159; clear BK151; clear HB; have HO154 := n0_; have HO159 := n1_; have HO162 := n2_; have BK151 := n3_; have HB := n4_; clear n0_ n1_ n2_ n3_ n4_; (try clear hb); (try clear hb2); (try clear hk); (try clear hi); (try clear ho0)))
      go_ret
      exact ⟨by first | rfl | (simp [errW_none, errW_some] <;> rfl) | (simp [*, errW_none, errW_some] <;> rfl), by repeat (first | (with_reducible first | exact HB.out | apply below_alloc | apply pw_below_drewN | apply below_drew1 | refine below_set ?_ GE151.out) | exact HB.out)⟩
  · rw [if_neg c4] at H
    have c4b0 : (t155 == 2) = false := beq_eq_false_iff_ne.mpr c4
    have c4b1 : (t155 != 2) = true := bne_iff_ne.mpr c4
    obtain rfl := Option.some.inj H
    go_enter Try.func17, Try.ntmps17
    go_wp2_with (first | ((with_reducible refine gate_dst (N := 1) rfl ?_); (try (refine gate_guard (by rfl) ?_; dsimp only)); refine box_event ?hg (N := 1) ?hd (cs := #[.int .i64 0, .string (⟨#[]⟩ : ByteArray), .bool false, .int .i64 0]) (t := 23) ?hr ?_; (case hd => rfl); (case hg => rfl); (case hr => first | (go_simp; done) | (go_simp; rfl)); intro gb151 hg w66 hbox hb; have n0_ := Aside0.mk (below_step (by repeat (first | (with_reducible first | exact HB.out | apply below_alloc | apply pw_below_drewN | apply below_drew1) | exact HB.out)) hb); have n1_ := Aside0.mk (hbox); have n2_ := Aside0.mk ((by rw [hg]; exact (below_size (by repeat (first | (with_reducible first | exact HB.out | apply below_alloc | apply pw_below_drewN | apply below_drew1) | exact HB.out))) : w.heap.size ≤ gb151)); have n3_ := Aside0.mk ((by rw [hg]; exact (below_size (by repeat (first | (with_reducible first | exact HB.out | apply below_alloc | apply pw_below_drewN | apply below_drew1) | exact HB.out))) : w.heap.size ≤ gb151)); clear HB; have HB := n0_; have BK151 := n1_; have GW151 := n2_; have GE151 := n3_; clear n0_ n1_ n2_ n3_; clear hb hbox hg; have hcz67_0 : w66.cell? ⟨gb151, 0, none⟩ = some (.int .i64 0) := (blk_cell BK151.out 0).trans rfl; have hcz67_1 : w66.cell? ⟨gb151, 1, none⟩ = some (.string (⟨#[]⟩ : ByteArray)) := (blk_cell BK151.out 1).trans rfl; have hcz67_2 : w66.cell? ⟨gb151, 2, none⟩ = some (.bool false) := (blk_cell BK151.out 2).trans rfl; have hcz67_3 : w66.cell? ⟨gb151, 3, none⟩ = some (.int .i64 0) := (blk_cell BK151.out 3).trans rfl; have hfz67_0 := blk_frozen BK151.out 0; have hfz67_1 := blk_frozen BK151.out 1; have hfz67_2 := blk_frozen BK151.out 2; have hfz67_3 := blk_frozen BK151.out 3) | ((with_reducible refine gate_dst (N := 7) rfl ?_); (try (refine gate_guard (by rfl) ?_; dsimp only)); refine Kd.R_lit (Kd.int .i64) _ 3 ?hg (N := 7) ?hd (xs := ([7, 4, 1, 5] : List Int)) (inner := [.int .i64 7, .int .i64 4, .int .i64 1, .int .i64 5]) (ok := fun _ => True) (okp := fun _ => True) ?hr ?hp (fun _ hk => hk) trivial (Below.refl _ _) (Nat.le_refl _) (by simp) ?_; (case hd => rfl); (case hg => rfl); (case hr => first | (go_simp; done) | (go_simp; rfl)); (case hp => exact (Reps.one (show Kd.M (Kd.int .i64) _ _ _ 7 [.int .i64 7] from rfl) (Reps.one (show Kd.M (Kd.int .i64) _ _ _ 4 [.int .i64 4] from rfl) (Reps.one (show Kd.M (Kd.int .i64) _ _ _ 1 [.int .i64 1] from rfl) (Reps.one (show Kd.M (Kd.int .i64) _ _ _ 5 [.int .i64 5] from rfl) (Reps.none _ _)))))); intro v153 w68 ho69 hb hg_ hnew_; clear hg_ hnew_; (first | rw [← Ny152.out] at ho69 | (simp only [Int.reduceToNat] at ho69; rw [← Ny152.out] at ho69)); have n0_ := Aside0.mk (Kd.R_lower ho69 (below_size (by repeat (first | (with_reducible first | exact HB.out | apply below_alloc | apply pw_below_drewN | apply below_drew1 | refine below_set ?_ GE151.out) | exact HB.out)))); have n1_ := Aside0.mk (blk_below (g := gb151) (o := .cells #[.int .i64 2, .string (⟨#[]⟩ : ByteArray), .bool true, .int .i64 8] 23 (0, 0)) (by (with_reducible repeat (first | refine blk_drewN ?_ _ | refine blk_drew ?_ | refine blk_alloc ?_ _)); refine blk_put (cs := #[.int .i64 2, .string (⟨#[]⟩ : ByteArray), .bool true, .int .i64 0]) ?_ 3 _ rfl; (with_reducible repeat (first | refine blk_drewN ?_ _ | refine blk_drew ?_ | refine blk_alloc ?_ _)); refine blk_put (cs := #[.int .i64 2, .string (⟨#[]⟩ : ByteArray), .bool false, .int .i64 0]) ?_ 2 _ rfl; (with_reducible repeat (first | refine blk_drewN ?_ _ | refine blk_drew ?_ | refine blk_alloc ?_ _)); refine blk_put (cs := #[.int .i64 2, .string (⟨#[]⟩ : ByteArray), .bool false, .int .i64 0]) ?_ 1 _ rfl; (with_reducible repeat (first | refine blk_drewN ?_ _ | refine blk_drew ?_ | refine blk_alloc ?_ _)); refine blk_put (cs := #[.int .i64 0, .string (⟨#[]⟩ : ByteArray), .bool false, .int .i64 0]) ?_ 0 _ rfl; (with_reducible repeat (first | refine blk_drewN ?_ _ | refine blk_drew ?_ | refine blk_alloc ?_ _)); exact BK151.out) hb); have n2_ := Aside0.mk (below_step (by repeat (first | (with_reducible first | exact HB.out | apply below_alloc | apply pw_below_drewN | apply below_drew1 | refine below_set ?_ GE151.out) | exact HB.out)) hb); clear BK151; clear HB; have HO154 := n0_; have BK151 := n1_; have HB := n2_; clear n0_ n1_ n2_; clear hb ho69; have hcz70_0 : w68.cell? ⟨gb151, 0, none⟩ = some (.int .i64 2) := (blk_cell BK151.out 0).trans rfl; have hcz70_1 : w68.cell? ⟨gb151, 1, none⟩ = some (.string (⟨#[]⟩ : ByteArray)) := (blk_cell BK151.out 1).trans rfl; have hcz70_2 : w68.cell? ⟨gb151, 2, none⟩ = some (.bool true) := (blk_cell BK151.out 2).trans rfl; have hcz70_3 : w68.cell? ⟨gb151, 3, none⟩ = some (.int .i64 8) := (blk_cell BK151.out 3).trans rfl; have hfz70_0 := blk_frozen BK151.out 0; have hfz70_1 := blk_frozen BK151.out 1; have hfz70_2 := blk_frozen BK151.out 2; have hfz70_3 := blk_frozen BK151.out 3; obtain ⟨Ao71, co71, eo71⟩ := Kd.R_slice HO154.out; subst eo71) | ((with_reducible refine gate_callee (f := 18) rfl ?_); refine goesL_ (some 10) rfl rfl Try.func18 (by kernel_rfl) rfl #[.agg #[.int .i64 2, .string (⟨#[]⟩ : ByteArray), .bool true, .int .i64 8], .slice Ao71 y152.length co71, .bool true] rfl (by (try simp only [List.map_toArray, List.map_cons, List.map_nil]); first | done | rfl | (simp only [List.length_drop, List.length_take]; rfl)) ?_; (with_reducible refine (order_Elsewhere.calls k 2 (⟨#[]⟩ : ByteArray) true 8 _ _ y152 true t155 _ ?side1 ?side2 A1.out).mono ?_); (case side1 => repeat (first | exact (Kd.R_reads' HO154.out).2.2 | (with_reducible refine Kd.C_alloc ?_ _) | (with_reducible refine Kd.C_drewN ?_ _) | (with_reducible refine Kd.C_drew ?_))); (case side2 => exact (Kd.R_reads' HO154.out).2.1); rintro e w72 ⟨rfl, hb⟩; refine ⟨_, rfl, ?_⟩; have n0_ := Aside0.mk (Kd.R_below (by (with_reducible repeat (first | apply Kd.R_alloc | apply Kd.R_drewN | apply Kd.R_drew)); exact HO154.out) hb); have n1_ := Aside0.mk (blk_below (g := gb151) (o := .cells #[.int .i64 2, .string (⟨#[]⟩ : ByteArray), .bool true, .int .i64 8] 23 (0, 0)) (by (with_reducible repeat (first | refine blk_drewN ?_ _ | refine blk_drew ?_ | refine blk_alloc ?_ _)); exact BK151.out) hb); have n2_ := Aside0.mk (below_step (by repeat (first | (with_reducible first | exact HB.out | apply below_alloc | apply pw_below_drewN | apply below_drew1 | refine below_set ?_ GE151.out) | exact HB.out)) hb); clear HO154; clear BK151; clear HB; have HO154 := n0_; have BK151 := n1_; have HB := n2_; clear n0_ n1_ n2_; (try clear hb); (try clear hb2); (try clear hk); (try clear hi); have hcz73_0 : w72.cell? ⟨gb151, 0, none⟩ = some (.int .i64 2) := (blk_cell BK151.out 0).trans rfl; have hcz73_1 : w72.cell? ⟨gb151, 1, none⟩ = some (.string (⟨#[]⟩ : ByteArray)) := (blk_cell BK151.out 1).trans rfl; have hcz73_2 : w72.cell? ⟨gb151, 2, none⟩ = some (.bool true) := (blk_cell BK151.out 2).trans rfl; have hcz73_3 : w72.cell? ⟨gb151, 3, none⟩ = some (.int .i64 8) := (blk_cell BK151.out 3).trans rfl; have hfz73_0 := blk_frozen BK151.out 0; have hfz73_1 := blk_frozen BK151.out 1; have hfz73_2 := blk_frozen BK151.out 2; have hfz73_3 := blk_frozen BK151.out 3) | ((with_reducible refine gate_callee (f := 20) rfl ?_); refine goesL_ (some 14) rfl rfl Try.func20 (by kernel_rfl) rfl #[.agg #[.int .i64 2, .string (⟨#[]⟩ : ByteArray), .bool true, .int .i64 8], .slice Ao71 y152.length co71, .int .i64 t155, .slice none 0 0] rfl (by (try simp only [List.map_toArray, List.map_cons, List.map_nil]); first | done | rfl | (simp only [List.length_drop, List.length_take]; rfl)) ?_; (refine (order_Base.calls k 2 (⟨#[]⟩ : ByteArray) true 8 _ _ y152 t155 _ _ ([] : List Bool) t156 _ ?side1 ?side2 ?side3 ?side4 A2.out).mono ?_); (case side1 => repeat (first | exact (Kd.R_reads' HO154.out).2.2 | (with_reducible refine Kd.C_alloc ?_ _) | (with_reducible refine Kd.C_drewN ?_ _) | (with_reducible refine Kd.C_drew ?_))); (case side2 => exact (Kd.R_reads' HO154.out).2.1); (case side3 => exact Kd.C_nil _ _); (case side4 => exact Nat.le_refl _); rintro e w74 ⟨rfl, hb⟩; refine ⟨_, rfl, ?_⟩; have n0_ := Aside0.mk (Kd.R_below (by (with_reducible repeat (first | apply Kd.R_alloc | apply Kd.R_drewN | apply Kd.R_drew)); exact HO154.out) hb); have n1_ := Aside0.mk (blk_below (g := gb151) (o := .cells #[.int .i64 2, .string (⟨#[]⟩ : ByteArray), .bool true, .int .i64 8] 23 (0, 0)) (by (with_reducible repeat (first | refine blk_drewN ?_ _ | refine blk_drew ?_ | refine blk_alloc ?_ _)); exact BK151.out) hb); have n2_ := Aside0.mk (below_step (by repeat (first | (with_reducible first | exact HB.out | apply below_alloc | apply pw_below_drewN | apply below_drew1 | refine below_set ?_ GE151.out) | exact HB.out)) hb); clear HO154; clear BK151; clear HB; have HO154 := n0_; have BK151 := n1_; have HB := n2_; clear n0_ n1_ n2_; (try clear hb); (try clear hb2); (try clear hk); (try clear hi); have hcz75_0 : w74.cell? ⟨gb151, 0, none⟩ = some (.int .i64 2) := (blk_cell BK151.out 0).trans rfl; have hcz75_1 : w74.cell? ⟨gb151, 1, none⟩ = some (.string (⟨#[]⟩ : ByteArray)) := (blk_cell BK151.out 1).trans rfl; have hcz75_2 : w74.cell? ⟨gb151, 2, none⟩ = some (.bool true) := (blk_cell BK151.out 2).trans rfl; have hcz75_3 : w74.cell? ⟨gb151, 3, none⟩ = some (.int .i64 8) := (blk_cell BK151.out 3).trans rfl; have hfz75_0 := blk_frozen BK151.out 0; have hfz75_1 := blk_frozen BK151.out 1; have hfz75_2 := blk_frozen BK151.out 2; have hfz75_3 := blk_frozen BK151.out 3) | ((with_reducible refine gate_dst (N := 17) rfl ?_); (try (refine gate_guard (by rfl) ?_; dsimp only)); refine Kd.R_lit (Kd.int .i64) _ 3 ?hg (N := 17) ?hd (xs := ([0, 0, 0, 1] : List Int)) (inner := [.int .i64 0, .int .i64 0, .int .i64 0, .int .i64 1]) (ok := fun _ => True) (okp := fun _ => True) ?hr ?hp (fun _ hk => hk) trivial (Below.refl _ _) (Nat.le_refl _) (by simp) ?_; (case hd => rfl); (case hg => rfl); (case hr => first | (go_simp; done) | (go_simp; rfl)); (case hp => exact (Reps.one (show Kd.M (Kd.int .i64) _ _ _ 0 [.int .i64 0] from rfl) (Reps.one (show Kd.M (Kd.int .i64) _ _ _ 0 [.int .i64 0] from rfl) (Reps.one (show Kd.M (Kd.int .i64) _ _ _ 0 [.int .i64 0] from rfl) (Reps.one (show Kd.M (Kd.int .i64) _ _ _ 1 [.int .i64 1] from rfl) (Reps.none _ _)))))); intro v158 w76 ho77 hb hg_ hnew_; clear hg_ hnew_; (first | rw [← Ny157.out] at ho77 | (simp only [Int.reduceToNat] at ho77; rw [← Ny157.out] at ho77)); have n0_ := Aside0.mk (Kd.R_elder' (by (with_reducible repeat (first | apply Kd.R_alloc | apply Kd.R_drewN | apply Kd.R_drew)); exact HO154.out) (Kd.R_base ho77) hb); have n1_ := Aside0.mk (Kd.R_lower (Kd.R_new' ho77 (Kd.R_lt (by (with_reducible repeat (first | apply Kd.R_alloc | apply Kd.R_drewN | apply Kd.R_drew)); exact HO154.out))) (below_size (by repeat (first | (with_reducible first | exact HB.out | apply below_alloc | apply pw_below_drewN | apply below_drew1 | refine below_set ?_ GE151.out) | exact HB.out)))); have n2_ := Aside0.mk (blk_below (g := gb151) (o := .cells #[.int .i64 2, .string (⟨#[]⟩ : ByteArray), .bool true, .int .i64 8] 23 (0, 0)) (by (with_reducible repeat (first | refine blk_drewN ?_ _ | refine blk_drew ?_ | refine blk_alloc ?_ _)); exact BK151.out) hb); have n3_ := Aside0.mk (below_step (by repeat (first | (with_reducible first | exact HB.out | apply below_alloc | apply pw_below_drewN | apply below_drew1 | refine below_set ?_ GE151.out) | exact HB.out)) hb); clear HO154; clear BK151; clear HB; have HO154 := n0_; have HO159 := n1_; have BK151 := n2_; have HB := n3_; clear n0_ n1_ n2_ n3_; clear hb ho77; obtain ⟨Ao78, co78, eo78⟩ := Kd.R_slice HO159.out; subst eo78) | ((with_reducible refine gate_callee (f := 22) rfl ?_); refine goesL_ (some 20) rfl rfl Try.func22 (by kernel_rfl) rfl #[.agg #[.int .i64 2, .string (⟨#[]⟩ : ByteArray), .bool true, .int .i64 8], .slice Ao71 y152.length co71, .slice Ao78 y157.length co78, .int .i64 t155, .int .i64 t156] rfl (by (try simp only [List.map_toArray, List.map_cons, List.map_nil]); first | done | rfl | (simp only [List.length_drop, List.length_take]; rfl)) ?_; (with_reducible refine (order_Keys.calls k 2 (⟨#[]⟩ : ByteArray) true 8 _ _ y152 _ _ y157 t155 t156 t160 _ ?side1 ?side2 ?side3 ?side4 A3.out).mono ?_); (case side1 => repeat (first | exact (Kd.R_reads' HO154.out).2.2 | (with_reducible refine Kd.C_alloc ?_ _) | (with_reducible refine Kd.C_drewN ?_ _) | (with_reducible refine Kd.C_drew ?_))); (case side2 => exact (Kd.R_reads' HO154.out).2.1); (case side3 => repeat (first | exact (Kd.R_reads' HO159.out).2.2 | (with_reducible refine Kd.C_alloc ?_ _) | (with_reducible refine Kd.C_drewN ?_ _) | (with_reducible refine Kd.C_drew ?_))); (case side4 => exact (Kd.R_reads' HO159.out).2.1); rintro e w79 ⟨v161, rfl, ho0, hb⟩; refine ⟨_, rfl, ?_⟩; have n0_ := Aside0.mk (Kd.R_elder' (by (with_reducible repeat (first | apply Kd.R_alloc | apply Kd.R_drewN | apply Kd.R_drew)); exact HO154.out) (Kd.R_base ho0) hb); have n1_ := Aside0.mk (Kd.R_elder' (by (with_reducible repeat (first | apply Kd.R_alloc | apply Kd.R_drewN | apply Kd.R_drew)); exact HO159.out) (Kd.R_base ho0) hb); have n2_ := Aside0.mk (Kd.R_lower (Kd.R_new' (Kd.R_new' ho0 (Kd.R_lt (by (with_reducible repeat (first | apply Kd.R_alloc | apply Kd.R_drewN | apply Kd.R_drew)); exact HO154.out))) (Kd.R_lt (by (with_reducible repeat (first | apply Kd.R_alloc | apply Kd.R_drewN | apply Kd.R_drew)); exact HO159.out))) (below_size (by repeat (first | (with_reducible first | exact HB.out | apply below_alloc | apply pw_below_drewN | apply below_drew1 | refine below_set ?_ GE151.out) | exact HB.out)))); have n3_ := Aside0.mk (blk_below (g := gb151) (o := .cells #[.int .i64 2, .string (⟨#[]⟩ : ByteArray), .bool true, .int .i64 8] 23 (0, 0)) (by (with_reducible repeat (first | refine blk_drewN ?_ _ | refine blk_drew ?_ | refine blk_alloc ?_ _)); exact BK151.out) hb); have n4_ := Aside0.mk (below_step (by repeat (first | (with_reducible first | exact HB.out | apply below_alloc | apply pw_below_drewN | apply below_drew1 | refine below_set ?_ GE151.out) | exact HB.out)) hb); clear HO154; clear HO159; clear BK151; clear HB; have HO154 := n0_; have HO159 := n1_; have HO162 := n2_; have BK151 := n3_; have HB := n4_; clear n0_ n1_ n2_ n3_ n4_; (try clear hb); (try clear hb2); (try clear hk); (try clear hi); (try clear ho0)))
    go_ret
    exact ⟨by first | rfl | (simp [errW_none, errW_some] <;> rfl) | (simp [*, errW_none, errW_some] <;> rfl), by repeat (first | (with_reducible first | exact HB.out | apply below_alloc | apply pw_below_drewN | apply below_drew1 | refine below_set ?_ GE151.out) | exact HB.out)⟩

/-! ### reedpenref05_Category: function 99 -/
def reedpenref05_Category.l0 : Nat → Int → List Int → Int → Option (Int)
  | 0, _, _, _ => none
  | k + 1, x0, x3, x4 => if x4 < 16 then (if 0 ≤ x4 then (if x4 < (x3.length : Int) then (if (rd x3 x4) = x0 then (some x4) else (reedpenref05_Category.l0 k x0 x3 (wrap64 (x4 + 1)))) else (none)) else (none)) else (some (-1))
def reedpenref05_Category.f (k : Nat) (a0 : Int) : Option (Int) := reedpenref05_Category.l0 k a0 (([79, 67, 86, 78, 72, 77, 83, 82, 74, 87, 68, 75, 71, 84, 81, 88] : List Int)) 0
theorem reedpenref05_Category.mono_l : ∀ k, (∀ y0 y1 y2, LeO (reedpenref05_Category.l0 k y0 y1 y2) (reedpenref05_Category.l0 (k + 1) y0 y1 y2))
  | 0 => fun _ _ _ r h => by simp [reedpenref05_Category.l0] at h
  | k + 1 => by
    have ih0 := reedpenref05_Category.mono_l k
    · intro y0 y1 y2
      unfold reedpenref05_Category.l0
      repeat' first
      | (with_reducible exact ih0 _ _ _)
      | (with_reducible exact LeO.refl _)
      | (with_reducible exact LeO.none _)
      | (with_reducible refine LeO.ite ?_ ?_)
      | (with_reducible refine LeO.bind ?_ (fun _ => ?_))
      | exact ih0 _ _ _
      | exact LeO.none _
      | refine LeO.ite ?_ ?_
      | refine LeO.bind ?_ (fun _ => ?_)
theorem reedpenref05_Category.mono : ∀ a0 k, LeO (reedpenref05_Category.f k a0) (reedpenref05_Category.f (k + 1) a0) := by
  intro a0 k
  have ih0 := reedpenref05_Category.mono_l k
  unfold reedpenref05_Category.f
  repeat' first
      | (with_reducible exact ih0 _ _ _)
      | (with_reducible exact LeO.refl _)
      | (with_reducible exact LeO.none _)
      | (with_reducible refine LeO.ite ?_ ?_)
      | (with_reducible refine LeO.bind ?_ (fun _ => ?_))
      | exact ih0 _ _ _
      | exact LeO.none _
      | refine LeO.ite ?_ ?_
      | refine LeO.bind ?_ (fun _ => ?_)
set_option maxHeartbeats 8000000 in
set_option maxRecDepth 100000 in
theorem reedpenref05_Category.calls (k : Nat) (a0 : Int) (r : Int) (w : World) (h : reedpenref05_Category.f k a0 = some r) :
    Calls Try.prog 99 #[.int .u8 a0] w fun e w' => e = .returned (.int .i64 r) ∧ Below w.heap.size w w' := by
  have HB := Aside0.mk (Below.refl w.heap.size w)
  have H : (reedpenref05_Category.l0 k a0 (([79, 67, 86, 78, 72, 77, 83, 82, 74, 87, 68, 75, 71, 84, 81, 88] : List Int)) 0) = some r := h
  clear h
  obtain ⟨y174, hy174⟩ : ∃ y_ : List Int, y_ = (([79, 67, 86, 78, 72, 77, 83, 82, 74, 87, 68, 75, 71, 84, 81, 88] : List Int)) := ⟨_, rfl⟩
  replace H : (reedpenref05_Category.l0 k a0 y174 0) = some r := by first | (rw [hy174]; with_reducible exact H) | (have H2_ := (Option.bind_some _ _).symm.trans H; rw [hy174]; with_reducible exact H2_) | (have H2_ := (Option.bind_some _ _).symm.trans H; with_reducible exact H2_) | with_reducible exact H | (rw [hy174]; exact H) | exact H
  have Ny174 := Aside0.mk hy174
  clear hy174
  have H' := Aside0.mk H
  clear H
  go_enter Try.func99, Try.ntmps99
  go_wp2_with (first | ((with_reducible refine gate_dst (N := 5) rfl ?_); refine Kd.R_lit (Kd.int .u8) _ 5 ?hg (N := 5) ?hd (xs := ([79, 67, 86, 78, 72, 77, 83, 82, 74, 87, 68, 75, 71, 84, 81, 88] : List Int)) (inner := [.int .u8 79, .int .u8 67, .int .u8 86, .int .u8 78, .int .u8 72, .int .u8 77, .int .u8 83, .int .u8 82, .int .u8 74, .int .u8 87, .int .u8 68, .int .u8 75, .int .u8 71, .int .u8 84, .int .u8 81, .int .u8 88]) (ok := fun _ => True) (okp := fun _ => True) ?hr ?hp (fun _ hk => hk) trivial (Below.refl _ _) (Nat.le_refl _) (by simp) ?_; (case hd => rfl); (case hg => rfl); (case hr => first | (go_simp; done) | (go_simp; rfl)); (case hp => exact (Reps.one (show Kd.M (Kd.int .u8) _ _ _ 79 [.int .u8 79] from rfl) (Reps.one (show Kd.M (Kd.int .u8) _ _ _ 67 [.int .u8 67] from rfl) (Reps.one (show Kd.M (Kd.int .u8) _ _ _ 86 [.int .u8 86] from rfl) (Reps.one (show Kd.M (Kd.int .u8) _ _ _ 78 [.int .u8 78] from rfl) (Reps.one (show Kd.M (Kd.int .u8) _ _ _ 72 [.int .u8 72] from rfl) (Reps.one (show Kd.M (Kd.int .u8) _ _ _ 77 [.int .u8 77] from rfl) (Reps.one (show Kd.M (Kd.int .u8) _ _ _ 83 [.int .u8 83] from rfl) (Reps.one (show Kd.M (Kd.int .u8) _ _ _ 82 [.int .u8 82] from rfl) (Reps.one (show Kd.M (Kd.int .u8) _ _ _ 74 [.int .u8 74] from rfl) (Reps.one (show Kd.M (Kd.int .u8) _ _ _ 87 [.int .u8 87] from rfl) (Reps.one (show Kd.M (Kd.int .u8) _ _ _ 68 [.int .u8 68] from rfl) (Reps.one (show Kd.M (Kd.int .u8) _ _ _ 75 [.int .u8 75] from rfl) (Reps.one (show Kd.M (Kd.int .u8) _ _ _ 71 [.int .u8 71] from rfl) (Reps.one (show Kd.M (Kd.int .u8) _ _ _ 84 [.int .u8 84] from rfl) (Reps.one (show Kd.M (Kd.int .u8) _ _ _ 81 [.int .u8 81] from rfl) (Reps.one (show Kd.M (Kd.int .u8) _ _ _ 88 [.int .u8 88] from rfl) (Reps.none _ _)))))))))))))))))); intro v175 w2 ho3 hb hg_ hnew_; clear hg_ hnew_; (first | rw [← Ny174.out] at ho3 | (simp only [Int.reduceToNat] at ho3; rw [← Ny174.out] at ho3)); have n0_ := Aside0.mk (Kd.R_lower ho3 (below_size (by repeat (first | (with_reducible first | exact HB.out | apply below_alloc | apply pw_below_drewN | apply below_drew1) | exact HB.out)))); have n1_ := Aside0.mk (below_step (by repeat (first | (with_reducible first | exact HB.out | apply below_alloc | apply pw_below_drewN | apply below_drew1) | exact HB.out)) hb); clear HB; have HO176 := n0_; have HB := n1_; clear n0_ n1_; clear hb ho3))
  go_loopg [4] k (fun kq v4 w' => ∃ (x4_1 : Int), v4 = .int .i64 x4_1 ∧ Aside0 (reedpenref05_Category.l0 kq a0 y174 x4_1 = some r) ∧ Aside0 (kq ≤ k) ∧ Aside0 (Kd.R (Kd.int .u8) 5 w' w.heap.size (fun _ => True) v175 y174) ∧ Aside0 (Below w.heap.size w w'))
  case atStart => exact ⟨(0), (by first | rfl | (simp; done) | (simp [*]; done)), H', ⟨Nat.le_refl _⟩, ⟨by (with_reducible repeat (first | apply Kd.R_alloc | apply Kd.R_drewN | apply Kd.R_drew)); exact HO176.out⟩, ⟨by repeat (first | (with_reducible first | exact HB.out | apply below_alloc | apply pw_below_drewN | apply below_drew1) | exact HB.out)⟩⟩
  case round =>
    clear H'
    try clear p2
    obtain ⟨x4_1, rfl, HA, HK1, HO_3, HB⟩ := hrel
    cases gk with
    | zero => exact absurd HA.out (by simp [reedpenref05_Category.l0])
    | succ k1 =>
      have H := HA.out
      clear HA
      simp only [reedpenref05_Category.l0] at H
      by_cases c4 : x4_1 < 16
      · rw [if_pos c4] at H
        have c4b0 : decide (x4_1 < 16) = true := decide_eq_true c4
        clear c4
        by_cases c5 : 0 ≤ x4_1
        · rw [if_pos c5] at H
          have c5b0 : decide (0 ≤ x4_1) = true := decide_eq_true c5
          clear c5
          by_cases c6 : x4_1 < (y174.length : Int)
          · rw [if_pos c6] at H
            have c6b0 : decide (x4_1 < (y174.length : Int)) = true := decide_eq_true c6
            clear c6
            by_cases c7 : (rd y174 x4_1) = a0
            · rw [if_pos c7] at H
              have c7b0 : ((rd y174 x4_1) == a0) = true := beq_iff_eq.mpr c7
              have c7b1 : ((rd y174 x4_1) != a0) = false := bne_eq_false_iff_eq.mpr c7
              clear c7
              obtain rfl := Option.some.inj H
              obtain ⟨Ao8, co8, eo8⟩ := Kd.R_slice HO_3.out
              subst eo8
              have p177 : 0 ≤ (x4_1 : Int) := of_decide_eq_true (by first | (with_reducible assumption) | assumption)
              have q177 : x4_1 < (y174.length : Int) := of_decide_eq_true (by first | (with_reducible assumption) | assumption)
              obtain ⟨ad177, e177, hx177_0⟩ := Kd.at_int (Kd.R_reads' HO_3.out).2.2 x4_1 p177 q177
              cases e177
              replace p177 := eq_true p177
              replace q177 := eq_true q177
              go_wp2
              go_ret
              exact ⟨by first | rfl | (simp [errW_none, errW_some] <;> rfl) | (simp [*, errW_none, errW_some] <;> rfl), by repeat (first | (with_reducible first | exact HB.out | apply below_alloc | apply pw_below_drewN | apply below_drew1) | exact HB.out)⟩
            · rw [if_neg c7] at H
              have c7b0 : ((rd y174 x4_1) == a0) = false := beq_eq_false_iff_ne.mpr c7
              have c7b1 : ((rd y174 x4_1) != a0) = true := bne_iff_ne.mpr c7
              have H' := Aside0.mk H
              clear H
              obtain ⟨Ao9, co9, eo9⟩ := Kd.R_slice HO_3.out
              subst eo9
              have p177 : 0 ≤ (x4_1 : Int) := of_decide_eq_true (by first | (with_reducible assumption) | assumption)
              have q177 : x4_1 < (y174.length : Int) := of_decide_eq_true (by first | (with_reducible assumption) | assumption)
              obtain ⟨ad177, e177, hx177_0⟩ := Kd.at_int (Kd.R_reads' HO_3.out).2.2 x4_1 p177 q177
              cases e177
              replace p177 := eq_true p177
              replace q177 := eq_true q177
              go_wp2
              go_roundg k1
              case measure => have := HK1.out; omega
              case rel => exact ⟨(wrap64 (x4_1 + 1)), (by first | rfl | (simp; done) | (simp [*]; done)), H', ⟨by have := HK1.out; omega⟩, ⟨by (with_reducible repeat (first | apply Kd.R_alloc | apply Kd.R_drewN | apply Kd.R_drew)); exact HO_3.out⟩, ⟨by repeat (first | (with_reducible first | exact HB.out | apply below_alloc | apply pw_below_drewN | apply below_drew1) | exact HB.out)⟩⟩
          · rw [if_neg c6] at H
            exact absurd H (by simp)
        · rw [if_neg c5] at H
          exact absurd H (by simp)
      · rw [if_neg c4] at H
        have c4b0 : decide (x4_1 < 16) = false := decide_eq_false c4
        clear c4
        obtain rfl := Option.some.inj H
        go_wp2
        go_ret
        exact ⟨by first | rfl | (simp [errW_none, errW_some] <;> rfl) | (simp [*, errW_none, errW_some] <;> rfl), by repeat (first | (with_reducible first | exact HB.out | apply below_alloc | apply pw_below_drewN | apply below_drew1) | exact HB.out)⟩

/-! ### reedpenref05_Letter: function 84 -/
def reedpenref05_Letter.l0 : Nat → Int → Int → Option (ByteArray)
  | 0, _, _ => none
  | k + 1, x0, x3 => if x3 ≤ 90 then (if x0 ≥ 0 then ((reedpenref05_Category.f k ((x3) % 256)).bind fun t178 => (if t178 = x0 then (some (strOfNums (([(x3) % 256] : List Int)))) else (reedpenref05_Letter.l0 k x0 (wrap32 (x3 + 1))))) else (reedpenref05_Letter.l0 k x0 (wrap32 (x3 + 1)))) else (some (⟨#[]⟩ : ByteArray))
def reedpenref05_Letter.f (k : Nat) (a0 : Int) : Option (ByteArray) := reedpenref05_Letter.l0 k a0 65
theorem reedpenref05_Letter.mono_l : ∀ k, (∀ y0 y1, LeO (reedpenref05_Letter.l0 k y0 y1) (reedpenref05_Letter.l0 (k + 1) y0 y1))
  | 0 => fun _ _ r h => by simp [reedpenref05_Letter.l0] at h
  | k + 1 => by
    have ih0 := reedpenref05_Letter.mono_l k
    · intro y0 y1
      unfold reedpenref05_Letter.l0
      repeat' first
      | (with_reducible exact ih0 _ _)
      | (with_reducible exact reedpenref05_Category.mono _ _)
      | (with_reducible exact LeO.refl _)
      | (with_reducible exact LeO.none _)
      | (with_reducible refine LeO.ite ?_ ?_)
      | (with_reducible refine LeO.bind ?_ (fun _ => ?_))
      | exact ih0 _ _
      | exact reedpenref05_Category.mono _ _
      | exact LeO.none _
      | refine LeO.ite ?_ ?_
      | refine LeO.bind ?_ (fun _ => ?_)
theorem reedpenref05_Letter.mono : ∀ a0 k, LeO (reedpenref05_Letter.f k a0) (reedpenref05_Letter.f (k + 1) a0) := by
  intro a0 k
  have ih0 := reedpenref05_Letter.mono_l k
  unfold reedpenref05_Letter.f
  repeat' first
      | (with_reducible exact ih0 _ _)
      | (with_reducible exact reedpenref05_Category.mono _ _)
      | (with_reducible exact LeO.refl _)
      | (with_reducible exact LeO.none _)
      | (with_reducible refine LeO.ite ?_ ?_)
      | (with_reducible refine LeO.bind ?_ (fun _ => ?_))
      | exact ih0 _ _
      | exact reedpenref05_Category.mono _ _
      | exact LeO.none _
      | refine LeO.ite ?_ ?_
      | refine LeO.bind ?_ (fun _ => ?_)
set_option maxHeartbeats 8000000 in
set_option maxRecDepth 100000 in
theorem reedpenref05_Letter.calls (k : Nat) (a0 : Int) (r : ByteArray) (w : World) (h : reedpenref05_Letter.f k a0 = some r) :
    Calls Try.prog 84 #[.int .i64 a0] w fun e w' => e = .returned (.string r) ∧ Below w.heap.size w w' := by
  have HB := Aside0.mk (Below.refl w.heap.size w)
  have H : (reedpenref05_Letter.l0 k a0 65) = some r := h
  clear h
  have H' := Aside0.mk H
  clear H
  go_enter Try.func84, Try.ntmps84
  go_wp2
  go_loopg [3] k (fun kq v3 w' => ∃ (x3_1 : Int), v3 = .int .i32 x3_1 ∧ Aside0 (reedpenref05_Letter.l0 kq a0 x3_1 = some r) ∧ Aside0 (kq ≤ k) ∧ Aside0 (Below w.heap.size w w'))
  case atStart => exact ⟨(65), (by first | rfl | (simp; done) | (simp [*]; done)), H', ⟨Nat.le_refl _⟩, ⟨by repeat (first | (with_reducible first | exact HB.out | apply below_alloc | apply pw_below_drewN | apply below_drew1) | exact HB.out)⟩⟩
  case round =>
    clear H'
    obtain ⟨x3_1, rfl, HA, HK1, HB⟩ := hrel
    cases gk with
    | zero => exact absurd HA.out (by simp [reedpenref05_Letter.l0])
    | succ k1 =>
      have H := HA.out
      clear HA
      simp only [reedpenref05_Letter.l0] at H
      by_cases c2 : x3_1 ≤ 90
      · rw [if_pos c2] at H
        have c2b0 : decide (x3_1 ≤ 90) = true := decide_eq_true c2
        clear c2
        by_cases c3 : a0 ≥ 0
        · rw [if_pos c3] at H
          have c3b0 : decide (0 ≤ a0) = true := decide_eq_true c3
          clear c3
          replace H := Option.bind_eq_some_iff.mp H
          obtain ⟨t178, A40, H⟩ := H
          replace H : (if t178 = a0 then (some (strOfNums (([(x3_1) % 256] : List Int)))) else (reedpenref05_Letter.l0 k1 a0 (wrap32 (x3_1 + 1)))) = some r := H
          have A4 := Aside0.mk A40
          clear A40
          by_cases c5 : t178 = a0
          · rw [if_pos c5] at H
            have c5b0 : (t178 == a0) = true := beq_iff_eq.mpr c5
            have c5b1 : (t178 != a0) = false := bne_eq_false_iff_eq.mpr c5
            clear c5
            obtain ⟨y179, hy179⟩ : ∃ y_ : List Int, y_ = (([(x3_1) % 256] : List Int)) := ⟨_, rfl⟩
            replace H : (some (strOfNums y179)) = some r := by first | (rw [hy179]; with_reducible exact H) | (have H2_ := (Option.bind_some _ _).symm.trans H; rw [hy179]; with_reducible exact H2_) | (have H2_ := (Option.bind_some _ _).symm.trans H; with_reducible exact H2_) | with_reducible exact H | (rw [hy179]; exact H) | exact H
            have Ny179 := Aside0.mk hy179
            clear hy179
            obtain rfl := Option.some.inj H
            go_wp2_with (first | (go_at_call 99; (with_reducible refine (reedpenref05_Category.calls k1 ((x3_1) % 256) t178 _ A4.out).mono ?_); rintro e w6 ⟨rfl, hb⟩; have n0_ := Aside0.mk (below_step (by repeat (first | (with_reducible first | exact HB.out | apply below_alloc | apply pw_below_drewN | apply below_drew1) | exact HB.out)) hb); clear HB; have HB := n0_; clear n0_; (try clear hb); (try clear hb2); (try clear hk); (try clear hi)) | ((with_reducible refine gate_dst (N := 19) rfl ?_); refine Kd.R_lit (Kd.int .u8) _ 5 ?hg (N := 19) ?hd (xs := ([(x3_1) % 256] : List Int)) (inner := [.int .u8 ((x3_1) % 256)]) (ok := fun _ => True) (okp := fun _ => True) ?hr ?hp (fun _ hk => hk) trivial (Below.refl _ _) (Nat.le_refl _) (by simp) ?_; (case hd => rfl); (case hg => rfl); (case hr => first | (go_simp; done) | (go_simp; rfl)); (case hp => exact (Reps.one (show Kd.M (Kd.int .u8) _ _ _ ((x3_1) % 256) [.int .u8 ((x3_1) % 256)] from rfl) (Reps.none _ _))); intro v180 w7 ho8 hb hg_ hnew_; clear hg_ hnew_; (first | rw [← Ny179.out] at ho8 | (simp only [Int.reduceToNat] at ho8; rw [← Ny179.out] at ho8)); have n0_ := Aside0.mk (Kd.R_lower ho8 (below_size (by repeat (first | (with_reducible first | exact HB.out | apply below_alloc | apply pw_below_drewN | apply below_drew1) | exact HB.out)))); have n1_ := Aside0.mk (below_step (by repeat (first | (with_reducible first | exact HB.out | apply below_alloc | apply pw_below_drewN | apply below_drew1) | exact HB.out)) hb); clear HB; have HO181 := n0_; have HB := n1_; clear n0_ n1_; clear hb ho8; have hcv9 := own_string (P := Try.prog) Try.underlying145 Try.underlying5 Try.underlying9 (Kd.own_of_R HO181.out)))
            go_ret
            exact ⟨by first | rfl | (simp [errW_none, errW_some] <;> rfl) | (simp [*, errW_none, errW_some] <;> rfl), by repeat (first | (with_reducible first | exact HB.out | apply below_alloc | apply pw_below_drewN | apply below_drew1) | exact HB.out)⟩
          · rw [if_neg c5] at H
            have c5b0 : (t178 == a0) = false := beq_eq_false_iff_ne.mpr c5
            have c5b1 : (t178 != a0) = true := bne_iff_ne.mpr c5
            have H' := Aside0.mk H
            clear H
            go_wp2_with (first | (go_at_call 99; (with_reducible refine (reedpenref05_Category.calls k1 ((x3_1) % 256) t178 _ A4.out).mono ?_); rintro e w10 ⟨rfl, hb⟩; have n0_ := Aside0.mk (below_step (by repeat (first | (with_reducible first | exact HB.out | apply below_alloc | apply pw_below_drewN | apply below_drew1) | exact HB.out)) hb); clear HB; have HB := n0_; clear n0_; (try clear hb); (try clear hb2); (try clear hk); (try clear hi)))
            go_roundg k1
            case measure => have := HK1.out; omega
            case rel => exact ⟨(wrap32 (x3_1 + 1)), (by first | rfl | (simp; done) | (simp [*]; done)), H', ⟨by have := HK1.out; omega⟩, ⟨by repeat (first | (with_reducible first | exact HB.out | apply below_alloc | apply pw_below_drewN | apply below_drew1) | exact HB.out)⟩⟩
        · rw [if_neg c3] at H
          have c3b0 : decide (0 ≤ a0) = false := decide_eq_false c3
          clear c3
          have H' := Aside0.mk H
          clear H
          go_wp2
          go_roundg k1
          case measure => have := HK1.out; omega
          case rel => exact ⟨(wrap32 (x3_1 + 1)), (by first | rfl | (simp; done) | (simp [*]; done)), H', ⟨by have := HK1.out; omega⟩, ⟨by repeat (first | (with_reducible first | exact HB.out | apply below_alloc | apply pw_below_drewN | apply below_drew1) | exact HB.out)⟩⟩
      · rw [if_neg c2] at H
        have c2b0 : decide (x3_1 ≤ 90) = false := decide_eq_false c2
        clear c2
        obtain rfl := Option.some.inj H
        go_wp2
        go_ret
        exact ⟨by first | rfl | (simp [errW_none, errW_some] <;> rfl) | (simp [*, errW_none, errW_some] <;> rfl), by repeat (first | (with_reducible first | exact HB.out | apply below_alloc | apply pw_below_drewN | apply below_drew1) | exact HB.out)⟩

end Go.Proofs.Ytlpikbkdlnocdaa.K
