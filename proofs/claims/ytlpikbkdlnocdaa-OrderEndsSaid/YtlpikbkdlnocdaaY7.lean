-- PRINTED BY mprint.py (a program of this session, over the kit's printer): Lean checks it
import Derived.Test.YtlpikbkdlnocdaaY0
import Derived.Test.YtlpikbkdlnocdaaY6
namespace Go.Proofs.Ytlpikbkdlnocdaa.Y
open Go.RowKit Go.Proofs.YtlpikbkdlnocdaaW.PrintWords Go.Proofs.YtlpikbkdlnocdaaW.PrintLast Go.Proofs.YtlpikbkdlnocdaaW.PrintMore
attribute [local go_sem] max2_int min2_int max_two min_two max_three min_three max_four min_four   -- for this text's walks alone
set_option linter.unusedVariables false
set_option linter.unusedSimpArgs false

/-! ### reedpenref26_Elsewhere: function 19 -/
mutual
def reedpenref26_Elsewhere.j0 : Nat → Bool → ByteArray → Bool → Int → ByteArray → Bool → Int → Option (Int)
  | 0, _, _, _, _, _, _, _ => none
  | k + 1, x2, x7, x23, x185000, x185001, x185002, x185003 => if x23 = true then (some 3) else (if x185000 = 1 then (if x2 = true then (if (x7.size : Int) < 3 then (reedpenref26_Elsewhere.j1 k x7 true) else (if 0 ≤ 2 then (if 2 ≤ (x7.size : Int) then (reedpenref26_Elsewhere.j1 k x7 ((x7.extract 0 2).toList != ([82, 72] : List UInt8))) else (none)) else (none))) else (reedpenref26_Elsewhere.j1 k x7 true)) else (if x185000 = 2 then (if x2 = true then (if (x7.size : Int) < 3 then (reedpenref26_Elsewhere.j1 k x7 true) else (if 0 ≤ 2 then (if 2 ≤ (x7.size : Int) then (reedpenref26_Elsewhere.j1 k x7 ((x7.extract 0 2).toList != ([82, 72] : List UInt8))) else (none)) else (none))) else (reedpenref26_Elsewhere.j1 k x7 true)) else (reedpenref26_Elsewhere.j1 k x7 true)))
def reedpenref26_Elsewhere.j1 : Nat → ByteArray → Bool → Option (Int)
  | 0, _, _ => none
  | k + 1, x7, x45 => if x45 = true then (some 0) else (reedpenref26_Elsewhere.l0 k x7 2)
def reedpenref26_Elsewhere.l0 : Nat → ByteArray → Int → Option (Int)
  | 0, _, _ => none
  | k + 1, x7, x8 => if x8 < (x7.size : Int) then ((reedpenref26_In.f k x7 x8 (⟨#[67, 82, 86]⟩ : ByteArray)).bind fun t186 => (if t186 = true then (some 2) else (reedpenref26_Elsewhere.l0 k x7 (wrap64 (x8 + 1))))) else (some 0)
end
def reedpenref26_Elsewhere.f (k : Nat) (a0_0 : Int) (a0_1 : ByteArray) (a0_2 : Bool) (a0_3 : Int) (l1 : List Int) (a2 : Bool) : Option (Int) := (reedpenref26_Letters.f k l1).bind fun t185 => (if a0_0 = 4 then (if (t185.size : Int) > 3 then (if 0 ≤ 3 then (if 3 ≤ (t185.size : Int) then (reedpenref26_Elsewhere.j0 k a2 t185 ((t185.extract 0 3).toList == ([82, 71, 75] : List UInt8)) a0_0 a0_1 a0_2 a0_3) else (none)) else (none)) else (reedpenref26_Elsewhere.j0 k a2 t185 false a0_0 a0_1 a0_2 a0_3)) else (reedpenref26_Elsewhere.j0 k a2 t185 false a0_0 a0_1 a0_2 a0_3))
theorem reedpenref26_Elsewhere.mono_l : ∀ k, (∀ y0 y1 y2 y3 y4 y5 y6, LeO (reedpenref26_Elsewhere.j0 k y0 y1 y2 y3 y4 y5 y6) (reedpenref26_Elsewhere.j0 (k + 1) y0 y1 y2 y3 y4 y5 y6)) ∧ (∀ y0 y1, LeO (reedpenref26_Elsewhere.j1 k y0 y1) (reedpenref26_Elsewhere.j1 (k + 1) y0 y1)) ∧ (∀ y0 y1, LeO (reedpenref26_Elsewhere.l0 k y0 y1) (reedpenref26_Elsewhere.l0 (k + 1) y0 y1))
  | 0 => ⟨fun _ _ _ _ _ _ _ r h => by simp [reedpenref26_Elsewhere.j0] at h, fun _ _ r h => by simp [reedpenref26_Elsewhere.j1] at h, fun _ _ r h => by simp [reedpenref26_Elsewhere.l0] at h⟩
  | k + 1 => by
    obtain ⟨ih0, ih1, ih2⟩ := reedpenref26_Elsewhere.mono_l k
    refine ⟨?_, ?_, ?_⟩
    · intro y0 y1 y2 y3 y4 y5 y6
      unfold reedpenref26_Elsewhere.j0
      repeat' first
      | (with_reducible exact ih0 _ _ _ _ _ _ _)
      | (with_reducible exact ih1 _ _)
      | (with_reducible exact ih2 _ _)
      | (with_reducible exact reedpenref26_In.mono _ _ _ _)
      | (with_reducible exact reedpenref26_Letters.mono _ _)
      | (with_reducible exact LeO.refl _)
      | (with_reducible exact LeO.none _)
      | (with_reducible refine LeO.ite ?_ ?_)
      | (with_reducible refine LeO.bind ?_ (fun _ => ?_))
      | exact ih0 _ _ _ _ _ _ _
      | exact ih1 _ _
      | exact ih2 _ _
      | exact reedpenref26_In.mono _ _ _ _
      | exact reedpenref26_Letters.mono _ _
      | exact LeO.none _
      | refine LeO.ite ?_ ?_
      | refine LeO.bind ?_ (fun _ => ?_)
    · intro y0 y1
      unfold reedpenref26_Elsewhere.j1
      repeat' first
      | (with_reducible exact ih0 _ _ _ _ _ _ _)
      | (with_reducible exact ih1 _ _)
      | (with_reducible exact ih2 _ _)
      | (with_reducible exact reedpenref26_In.mono _ _ _ _)
      | (with_reducible exact reedpenref26_Letters.mono _ _)
      | (with_reducible exact LeO.refl _)
      | (with_reducible exact LeO.none _)
      | (with_reducible refine LeO.ite ?_ ?_)
      | (with_reducible refine LeO.bind ?_ (fun _ => ?_))
      | exact ih0 _ _ _ _ _ _ _
      | exact ih1 _ _
      | exact ih2 _ _
      | exact reedpenref26_In.mono _ _ _ _
      | exact reedpenref26_Letters.mono _ _
      | exact LeO.none _
      | refine LeO.ite ?_ ?_
      | refine LeO.bind ?_ (fun _ => ?_)
    · intro y0 y1
      unfold reedpenref26_Elsewhere.l0
      repeat' first
      | (with_reducible exact ih0 _ _ _ _ _ _ _)
      | (with_reducible exact ih1 _ _)
      | (with_reducible exact ih2 _ _)
      | (with_reducible exact reedpenref26_In.mono _ _ _ _)
      | (with_reducible exact reedpenref26_Letters.mono _ _)
      | (with_reducible exact LeO.refl _)
      | (with_reducible exact LeO.none _)
      | (with_reducible refine LeO.ite ?_ ?_)
      | (with_reducible refine LeO.bind ?_ (fun _ => ?_))
      | exact ih0 _ _ _ _ _ _ _
      | exact ih1 _ _
      | exact ih2 _ _
      | exact reedpenref26_In.mono _ _ _ _
      | exact reedpenref26_Letters.mono _ _
      | exact LeO.none _
      | refine LeO.ite ?_ ?_
      | refine LeO.bind ?_ (fun _ => ?_)
theorem reedpenref26_Elsewhere.mono : ∀ a0 a1 a2 a3 a4 a5 k, LeO (reedpenref26_Elsewhere.f k a0 a1 a2 a3 a4 a5) (reedpenref26_Elsewhere.f (k + 1) a0 a1 a2 a3 a4 a5) := by
  intro a0 a1 a2 a3 a4 a5 k
  obtain ⟨ih0, ih1, ih2⟩ := reedpenref26_Elsewhere.mono_l k
  unfold reedpenref26_Elsewhere.f
  repeat' first
      | (with_reducible exact ih0 _ _ _ _ _ _ _)
      | (with_reducible exact ih1 _ _)
      | (with_reducible exact ih2 _ _)
      | (with_reducible exact reedpenref26_In.mono _ _ _ _)
      | (with_reducible exact reedpenref26_Letters.mono _ _)
      | (with_reducible exact LeO.refl _)
      | (with_reducible exact LeO.none _)
      | (with_reducible refine LeO.ite ?_ ?_)
      | (with_reducible refine LeO.bind ?_ (fun _ => ?_))
      | exact ih0 _ _ _ _ _ _ _
      | exact ih1 _ _
      | exact ih2 _ _
      | exact reedpenref26_In.mono _ _ _ _
      | exact reedpenref26_Letters.mono _ _
      | exact LeO.none _
      | refine LeO.ite ?_ ?_
      | refine LeO.bind ?_ (fun _ => ?_)
set_option maxHeartbeats 8000000 in
set_option maxRecDepth 100000 in
theorem reedpenref26_Elsewhere.calls (k : Nat) (a0_0 : Int) (a0_1 : ByteArray) (a0_2 : Bool) (a0_3 : Int) (A1 : Option Addr) (c1 : Nat) (l1 : List Int) (a2 : Bool) (r : Int) (w : World) (hr1 : Kd.C (Kd.int .i64) w A1 l1.length l1) (hc1 : l1.length ≤ c1) (h : reedpenref26_Elsewhere.f k a0_0 a0_1 a0_2 a0_3 l1 a2 = some r) :
    Calls Try.prog 19 #[.agg #[.int .i64 a0_0, .string a0_1, .bool a0_2, .int .i64 a0_3], .slice A1 l1.length c1, .bool a2] w fun e w' => e = .returned (.int .i64 r) ∧ Below w.heap.size w w' := by
  have hu23 := Try.underlying23
  have HR1 := Aside0.mk hr1
  have HC1 := Aside0.mk hc1
  clear hr1 hc1
  have HB := Aside0.mk (Below.refl w.heap.size w)
  have H : ((reedpenref26_Letters.f k l1).bind fun t185 => (if a0_0 = 4 then (if (t185.size : Int) > 3 then (if 0 ≤ 3 then (if 3 ≤ (t185.size : Int) then (reedpenref26_Elsewhere.j0 k a2 t185 ((t185.extract 0 3).toList == ([82, 71, 75] : List UInt8)) a0_0 a0_1 a0_2 a0_3) else (none)) else (none)) else (reedpenref26_Elsewhere.j0 k a2 t185 false a0_0 a0_1 a0_2 a0_3)) else (reedpenref26_Elsewhere.j0 k a2 t185 false a0_0 a0_1 a0_2 a0_3))) = some r := h
  clear h
  replace H := Option.bind_eq_some_iff.mp H
  obtain ⟨t185, A40, H⟩ := H
  replace H : (if a0_0 = 4 then (if (t185.size : Int) > 3 then (if 0 ≤ 3 then (if 3 ≤ (t185.size : Int) then (reedpenref26_Elsewhere.j0 k a2 t185 ((t185.extract 0 3).toList == ([82, 71, 75] : List UInt8)) a0_0 a0_1 a0_2 a0_3) else (none)) else (none)) else (reedpenref26_Elsewhere.j0 k a2 t185 false a0_0 a0_1 a0_2 a0_3)) else (reedpenref26_Elsewhere.j0 k a2 t185 false a0_0 a0_1 a0_2 a0_3)) = some r := H
  have A4 := Aside0.mk A40
  clear A40
  have HC5 := Aside0.mk H
  clear H
  go_enter Try.func19, Try.ntmps19
  go_upto_region 2 with (first | ((with_reducible refine gate_dst (N := 3) rfl ?_); (try (refine gate_guard (by rfl) ?_; dsimp only)); refine box_event ?hg (N := 3) ?hd (cs := #[.int .i64 a0_0, .string a0_1, .bool a0_2, .int .i64 a0_3]) (t := 23) ?hr ?_; (case hd => rfl); (case hg => rfl); (case hr => first | (go_simp; done) | (go_simp; rfl)); intro gb184 hg w6 hbox hb; have n0_ := Aside0.mk (below_step (by repeat (first | (with_reducible first | exact HB.out | apply below_alloc | apply pw_below_drewN | apply below_drew1) | exact HB.out)) hb); have n1_ := Aside0.mk (hbox); have n2_ := Aside0.mk ((by rw [hg]; exact (below_size (by repeat (first | (with_reducible first | exact HB.out | apply below_alloc | apply pw_below_drewN | apply below_drew1) | exact HB.out))) : w.heap.size ≤ gb184)); have n3_ := Aside0.mk ((by rw [hg]; exact (below_size (by repeat (first | (with_reducible first | exact HB.out | apply below_alloc | apply pw_below_drewN | apply below_drew1) | exact HB.out))) : w.heap.size ≤ gb184)); clear HB; have HB := n0_; have BK184 := n1_; have GW184 := n2_; have GE184 := n3_; clear n0_ n1_ n2_ n3_; clear hb hbox hg) | ((with_reducible refine gate_callee (f := 56) rfl ?_); refine goesL_ (some 10) rfl rfl Try.func56 (by kernel_rfl) rfl #[.slice A1 l1.length c1] rfl (by (try simp only [List.map_toArray, List.map_cons, List.map_nil]); first | done | rfl | (simp only [List.length_drop, List.length_take]; rfl)) ?_; (with_reducible refine (reedpenref26_Letters.calls k _ _ l1 t185 _ ?side1 ?side2 A4.out).mono ?_); (case side1 => repeat (first | exact (Kd.C_below HR1.out HB.out) | (with_reducible refine Kd.C_alloc ?_ _) | (with_reducible refine Kd.C_drewN ?_ _) | (with_reducible refine Kd.C_drew ?_))); (case side2 => exact HC1.out); rintro e w7 ⟨rfl, hb⟩; refine ⟨_, rfl, ?_⟩; have n0_ := Aside0.mk (blk_below (g := gb184) (o := .cells #[.int .i64 a0_0, .string a0_1, .bool a0_2, .int .i64 a0_3] 23 (0, 0)) (by (with_reducible repeat (first | refine blk_drewN ?_ _ | refine blk_drew ?_ | refine blk_alloc ?_ _)); exact BK184.out) hb); have n1_ := Aside0.mk (below_step (by repeat (first | (with_reducible first | exact HB.out | apply below_alloc | apply pw_below_drewN | apply below_drew1 | refine below_set ?_ GE184.out) | exact HB.out)) hb); clear BK184; clear HB; have BK184 := n0_; have HB := n1_; clear n0_ n1_; (try clear hb); (try clear hb2); (try clear hk); (try clear hi)))
  (try simp only [Act.put, List.setIfInBounds_toArray, List.set_cons_zero, List.set_cons_succ])
  go_cut [23] (fun v23 wc => ∃ (kq : Nat) (x23_4 : Bool), v23 = .bool x23_4 ∧ Aside0 (reedpenref26_Elsewhere.j0 kq a2 t185 x23_4 a0_0 a0_1 a0_2 a0_3 = some r) ∧ Aside0 (kq ≤ k) ∧ Aside0 (wc.heap[gb184]? = some (.cells #[.int .i64 a0_0, .string a0_1, .bool a0_2, .int .i64 a0_3] 23 (0, 0))) ∧ Aside0 (Below w.heap.size w wc))
  case first =>
    have H := HC5.out
    clear HC5
    by_cases c8 : a0_0 = 4
    · rw [if_pos c8] at H
      have c8b0 : (a0_0 == 4) = true := beq_iff_eq.mpr c8
      have c8b1 : (a0_0 != 4) = false := bne_eq_false_iff_eq.mpr c8
      clear c8
      (first | rw [c8b0] | (simp only [i64_w, i32_w]; rw [c8b0]) | skip)
      by_cases c9 : (t185.size : Int) > 3
      · rw [if_pos c9] at H
        have c9b0 : decide (3 < (t185.size : Int)) = true := decide_eq_true c9
        have c9b1 : decide (3 < t185.size) = true := decide_eq_true (by omega)
        clear c9
        by_cases c10 : 0 ≤ 3
        · rw [if_pos c10] at H
          have c10b0 := eq_true c10
          have c10b1 : decide (0 ≤ 3) = true := decide_eq_true c10
          clear c10
          by_cases c11 : 3 ≤ (t185.size : Int)
          · rw [if_pos c11] at H
            have c11b0 := eq_true c11
            have c11b1 : decide (3 ≤ (t185.size : Int)) = true := decide_eq_true c11
            clear c11
            have H' := Aside0.mk H
            clear H
            have hcz12_0 : w7.cell? ⟨gb184, 0, none⟩ = some (.int .i64 a0_0) := (blk_cell BK184.out 0).trans rfl
            have hcz12_1 : w7.cell? ⟨gb184, 1, none⟩ = some (.string a0_1) := (blk_cell BK184.out 1).trans rfl
            have hcz12_2 : w7.cell? ⟨gb184, 2, none⟩ = some (.bool a0_2) := (blk_cell BK184.out 2).trans rfl
            have hcz12_3 : w7.cell? ⟨gb184, 3, none⟩ = some (.int .i64 a0_3) := (blk_cell BK184.out 3).trans rfl
            have hfz12_0 := blk_frozen BK184.out 0
            have hfz12_1 := blk_frozen BK184.out 1
            have hfz12_2 := blk_frozen BK184.out 2
            have hfz12_3 := blk_frozen BK184.out 3
            go_wp2
            go_meet
            case rel => exact ⟨_, (((t185.extract 0 3).toList == ([82, 71, 75] : List UInt8))), (by first | rfl | (simp; done) | (simp [*]; done)), H', ⟨by first | omega | exact Nat.le_refl _⟩, ⟨by (with_reducible repeat (first | refine blk_drewN ?_ _ | refine blk_drew ?_ | refine blk_alloc ?_ _)); exact BK184.out⟩, ⟨by repeat (first | (with_reducible first | exact HB.out | apply below_alloc | apply pw_below_drewN | apply below_drew1 | refine below_set ?_ GE184.out) | exact HB.out)⟩⟩
          · rw [if_neg c11] at H
            exact absurd H (by simp)
        · rw [if_neg c10] at H
          exact absurd H (by simp)
      · rw [if_neg c9] at H
        have c9b0 : decide (3 < (t185.size : Int)) = false := decide_eq_false c9
        have c9b1 : decide (3 < t185.size) = false := decide_eq_false (by omega)
        clear c9
        have H' := Aside0.mk H
        clear H
        have hcz13_0 : w7.cell? ⟨gb184, 0, none⟩ = some (.int .i64 a0_0) := (blk_cell BK184.out 0).trans rfl
        have hcz13_1 : w7.cell? ⟨gb184, 1, none⟩ = some (.string a0_1) := (blk_cell BK184.out 1).trans rfl
        have hcz13_2 : w7.cell? ⟨gb184, 2, none⟩ = some (.bool a0_2) := (blk_cell BK184.out 2).trans rfl
        have hcz13_3 : w7.cell? ⟨gb184, 3, none⟩ = some (.int .i64 a0_3) := (blk_cell BK184.out 3).trans rfl
        have hfz13_0 := blk_frozen BK184.out 0
        have hfz13_1 := blk_frozen BK184.out 1
        have hfz13_2 := blk_frozen BK184.out 2
        have hfz13_3 := blk_frozen BK184.out 3
        go_wp2
        go_meet
        case rel => exact ⟨_, (false), (by first | rfl | (simp; done) | (simp [*]; done)), H', ⟨by first | omega | exact Nat.le_refl _⟩, ⟨by (with_reducible repeat (first | refine blk_drewN ?_ _ | refine blk_drew ?_ | refine blk_alloc ?_ _)); exact BK184.out⟩, ⟨by repeat (first | (with_reducible first | exact HB.out | apply below_alloc | apply pw_below_drewN | apply below_drew1 | refine below_set ?_ GE184.out) | exact HB.out)⟩⟩
    · rw [if_neg c8] at H
      have c8b0 : (a0_0 == 4) = false := beq_eq_false_iff_ne.mpr c8
      have c8b1 : (a0_0 != 4) = true := bne_iff_ne.mpr c8
      (first | rw [c8b0] | (simp only [i64_w, i32_w]; rw [c8b0]) | skip)
      have H' := Aside0.mk H
      clear H
      have hcz14_0 : w7.cell? ⟨gb184, 0, none⟩ = some (.int .i64 a0_0) := (blk_cell BK184.out 0).trans rfl
      have hcz14_1 : w7.cell? ⟨gb184, 1, none⟩ = some (.string a0_1) := (blk_cell BK184.out 1).trans rfl
      have hcz14_2 : w7.cell? ⟨gb184, 2, none⟩ = some (.bool a0_2) := (blk_cell BK184.out 2).trans rfl
      have hcz14_3 : w7.cell? ⟨gb184, 3, none⟩ = some (.int .i64 a0_3) := (blk_cell BK184.out 3).trans rfl
      have hfz14_0 := blk_frozen BK184.out 0
      have hfz14_1 := blk_frozen BK184.out 1
      have hfz14_2 := blk_frozen BK184.out 2
      have hfz14_3 := blk_frozen BK184.out 3
      go_wp2
      go_meet
      case rel => exact ⟨_, (false), (by first | rfl | (simp; done) | (simp [*]; done)), H', ⟨by first | omega | exact Nat.le_refl _⟩, ⟨by (with_reducible repeat (first | refine blk_drewN ?_ _ | refine blk_drew ?_ | refine blk_alloc ?_ _)); exact BK184.out⟩, ⟨by repeat (first | (with_reducible first | exact HB.out | apply below_alloc | apply pw_below_drewN | apply below_drew1 | refine below_set ?_ GE184.out) | exact HB.out)⟩⟩
  case rest =>
    clear HC5
    try clear c1
    try clear p2
    try clear c5
    try clear c8
    try clear c8b0
    try clear c8b1
    try clear c9
    try clear c9b0
    try clear c9b1
    try clear c10
    try clear c10b0
    try clear c10b1
    try clear c11
    try clear c11b0
    try clear c11b1
    try clear hcz12_0
    try clear hcz12_1
    try clear hcz12_2
    try clear hcz12_3
    try clear hcz13_0
    try clear hcz13_1
    try clear hcz13_2
    try clear hcz13_3
    try clear hcz14_0
    try clear hcz14_1
    try clear hcz14_2
    try clear hcz14_3
    try clear hfz12_0
    try clear hfz12_1
    try clear hfz12_2
    try clear hfz12_3
    try clear hfz13_0
    try clear hfz13_1
    try clear hfz13_2
    try clear hfz13_3
    try clear hfz14_0
    try clear hfz14_1
    try clear hfz14_2
    try clear hfz14_3
    obtain ⟨kq, x23_4, rfl, HA, HJ4, BK184, HB⟩ := hcut
    cases kq with
    | zero => exact absurd HA.out (by simp [reedpenref26_Elsewhere.j0])
    | succ kj4 =>
      have H := HA.out
      clear HA
      simp only [reedpenref26_Elsewhere.j0] at H
      by_cases c15 : x23_4 = true
      · subst c15
        have H1 : (some 3) = some r := by rw [if_pos rfl] at H; exact H
        clear H
        have H := H1
        clear H1
        obtain rfl := Option.some.inj H
        go_wp2
        go_ret
        exact ⟨by first | rfl | (simp [errW_none, errW_some] <;> rfl) | (simp [*, errW_none, errW_some] <;> rfl), by repeat (first | (with_reducible first | exact HB.out | apply below_alloc | apply pw_below_drewN | apply below_drew1 | refine below_set ?_ GE184.out) | exact HB.out)⟩
      · replace c15 := Bool.eq_false_iff.mpr c15
        subst c15
        have H1 : (if a0_0 = 1 then (if a2 = true then (if (t185.size : Int) < 3 then (reedpenref26_Elsewhere.j1 kj4 t185 true) else (if 0 ≤ 2 then (if 2 ≤ (t185.size : Int) then (reedpenref26_Elsewhere.j1 kj4 t185 ((t185.extract 0 2).toList != ([82, 72] : List UInt8))) else (none)) else (none))) else (reedpenref26_Elsewhere.j1 kj4 t185 true)) else (if a0_0 = 2 then (if a2 = true then (if (t185.size : Int) < 3 then (reedpenref26_Elsewhere.j1 kj4 t185 true) else (if 0 ≤ 2 then (if 2 ≤ (t185.size : Int) then (reedpenref26_Elsewhere.j1 kj4 t185 ((t185.extract 0 2).toList != ([82, 72] : List UInt8))) else (none)) else (none))) else (reedpenref26_Elsewhere.j1 kj4 t185 true)) else (reedpenref26_Elsewhere.j1 kj4 t185 true))) = some r := by rw [if_neg (show ¬ (false = true) by decide)] at H; exact H
        clear H
        have H := H1
        clear H1
        have HC16 := Aside0.mk H
        clear H
        go_upto_region 4 with (fail)
        go_cut [45] (fun v45 wc => ∃ (kq : Nat) (x45_15 : Bool), v45 = .bool x45_15 ∧ Aside0 (reedpenref26_Elsewhere.j1 kq t185 x45_15 = some r) ∧ Aside0 (kq ≤ kj4) ∧ Aside0 (wc.heap[gb184]? = some (.cells #[.int .i64 a0_0, .string a0_1, .bool a0_2, .int .i64 a0_3] 23 (0, 0))) ∧ Aside0 (Below w.heap.size w wc))
        case first =>
          have H := HC16.out
          clear HC16
          by_cases c17 : a0_0 = 1
          · rw [if_pos c17] at H
            have c17b0 : (a0_0 == 1) = true := beq_iff_eq.mpr c17
            have c17b1 : (a0_0 != 1) = false := bne_eq_false_iff_eq.mpr c17
            clear c17
            (first | rw [c17b0] | (simp only [i64_w, i32_w]; rw [c17b0]) | skip)
            by_cases c18 : a2 = true
            · subst c18
              have H1 : (if (t185.size : Int) < 3 then (reedpenref26_Elsewhere.j1 kj4 t185 true) else (if 0 ≤ 2 then (if 2 ≤ (t185.size : Int) then (reedpenref26_Elsewhere.j1 kj4 t185 ((t185.extract 0 2).toList != ([82, 72] : List UInt8))) else (none)) else (none))) = some r := by rw [if_pos rfl] at H; exact H
              clear H
              have H := H1
              clear H1
              by_cases c19 : (t185.size : Int) < 3
              · rw [if_pos c19] at H
                have c19b0 : decide ((t185.size : Int) < 3) = true := decide_eq_true c19
                have c19b1 : decide (t185.size < 3) = true := decide_eq_true (by omega)
                clear c19
                have H' := Aside0.mk H
                clear H
                have hcz20_0 : wc.cell? ⟨gb184, 0, none⟩ = some (.int .i64 a0_0) := (blk_cell BK184.out 0).trans rfl
                have hcz20_1 : wc.cell? ⟨gb184, 1, none⟩ = some (.string a0_1) := (blk_cell BK184.out 1).trans rfl
                have hcz20_2 : wc.cell? ⟨gb184, 2, none⟩ = some (.bool a0_2) := (blk_cell BK184.out 2).trans rfl
                have hcz20_3 : wc.cell? ⟨gb184, 3, none⟩ = some (.int .i64 a0_3) := (blk_cell BK184.out 3).trans rfl
                have hfz20_0 := blk_frozen BK184.out 0
                have hfz20_1 := blk_frozen BK184.out 1
                have hfz20_2 := blk_frozen BK184.out 2
                have hfz20_3 := blk_frozen BK184.out 3
                go_wp2
                go_meet
                case rel => exact ⟨_, (true), (by first | rfl | (simp; done) | (simp [*]; done)), H', ⟨by have := HJ4.out; first | omega | exact Nat.le_refl _⟩, ⟨by (with_reducible repeat (first | refine blk_drewN ?_ _ | refine blk_drew ?_ | refine blk_alloc ?_ _)); exact BK184.out⟩, ⟨by repeat (first | (with_reducible first | exact HB.out | apply below_alloc | apply pw_below_drewN | apply below_drew1 | refine below_set ?_ GE184.out) | exact HB.out)⟩⟩
              · rw [if_neg c19] at H
                have c19b0 : decide ((t185.size : Int) < 3) = false := decide_eq_false c19
                have c19b1 : decide (t185.size < 3) = false := decide_eq_false (by omega)
                clear c19
                by_cases c21 : 0 ≤ 2
                · rw [if_pos c21] at H
                  have c21b0 := eq_true c21
                  have c21b1 : decide (0 ≤ 2) = true := decide_eq_true c21
                  clear c21
                  by_cases c22 : 2 ≤ (t185.size : Int)
                  · rw [if_pos c22] at H
                    have c22b0 := eq_true c22
                    have c22b1 : decide (2 ≤ (t185.size : Int)) = true := decide_eq_true c22
                    clear c22
                    have H' := Aside0.mk H
                    clear H
                    have hcz23_0 : wc.cell? ⟨gb184, 0, none⟩ = some (.int .i64 a0_0) := (blk_cell BK184.out 0).trans rfl
                    have hcz23_1 : wc.cell? ⟨gb184, 1, none⟩ = some (.string a0_1) := (blk_cell BK184.out 1).trans rfl
                    have hcz23_2 : wc.cell? ⟨gb184, 2, none⟩ = some (.bool a0_2) := (blk_cell BK184.out 2).trans rfl
                    have hcz23_3 : wc.cell? ⟨gb184, 3, none⟩ = some (.int .i64 a0_3) := (blk_cell BK184.out 3).trans rfl
                    have hfz23_0 := blk_frozen BK184.out 0
                    have hfz23_1 := blk_frozen BK184.out 1
                    have hfz23_2 := blk_frozen BK184.out 2
                    have hfz23_3 := blk_frozen BK184.out 3
                    go_wp2
                    go_meet
                    case rel => exact ⟨_, (((t185.extract 0 2).toList != ([82, 72] : List UInt8))), (by first | rfl | (simp; done) | (simp [*]; done)), H', ⟨by have := HJ4.out; first | omega | exact Nat.le_refl _⟩, ⟨by (with_reducible repeat (first | refine blk_drewN ?_ _ | refine blk_drew ?_ | refine blk_alloc ?_ _)); exact BK184.out⟩, ⟨by repeat (first | (with_reducible first | exact HB.out | apply below_alloc | apply pw_below_drewN | apply below_drew1 | refine below_set ?_ GE184.out) | exact HB.out)⟩⟩
                  · rw [if_neg c22] at H
                    exact absurd H (by simp)
                · rw [if_neg c21] at H
                  exact absurd H (by simp)
            · replace c18 := Bool.eq_false_iff.mpr c18
              subst c18
              have H1 : (reedpenref26_Elsewhere.j1 kj4 t185 true) = some r := by rw [if_neg (show ¬ (false = true) by decide)] at H; exact H
              clear H
              have H := H1
              clear H1
              have H' := Aside0.mk H
              clear H
              have hcz24_0 : wc.cell? ⟨gb184, 0, none⟩ = some (.int .i64 a0_0) := (blk_cell BK184.out 0).trans rfl
              have hcz24_1 : wc.cell? ⟨gb184, 1, none⟩ = some (.string a0_1) := (blk_cell BK184.out 1).trans rfl
              have hcz24_2 : wc.cell? ⟨gb184, 2, none⟩ = some (.bool a0_2) := (blk_cell BK184.out 2).trans rfl
              have hcz24_3 : wc.cell? ⟨gb184, 3, none⟩ = some (.int .i64 a0_3) := (blk_cell BK184.out 3).trans rfl
              have hfz24_0 := blk_frozen BK184.out 0
              have hfz24_1 := blk_frozen BK184.out 1
              have hfz24_2 := blk_frozen BK184.out 2
              have hfz24_3 := blk_frozen BK184.out 3
              go_wp2
              go_meet
              case rel => exact ⟨_, (true), (by first | rfl | (simp; done) | (simp [*]; done)), H', ⟨by have := HJ4.out; first | omega | exact Nat.le_refl _⟩, ⟨by (with_reducible repeat (first | refine blk_drewN ?_ _ | refine blk_drew ?_ | refine blk_alloc ?_ _)); exact BK184.out⟩, ⟨by repeat (first | (with_reducible first | exact HB.out | apply below_alloc | apply pw_below_drewN | apply below_drew1 | refine below_set ?_ GE184.out) | exact HB.out)⟩⟩
          · rw [if_neg c17] at H
            have c17b0 : (a0_0 == 1) = false := beq_eq_false_iff_ne.mpr c17
            have c17b1 : (a0_0 != 1) = true := bne_iff_ne.mpr c17
            (first | rw [c17b0] | (simp only [i64_w, i32_w]; rw [c17b0]) | skip)
            by_cases c25 : a0_0 = 2
            · rw [if_pos c25] at H
              have c25b0 : (a0_0 == 2) = true := beq_iff_eq.mpr c25
              have c25b1 : (a0_0 != 2) = false := bne_eq_false_iff_eq.mpr c25
              clear c25
              by_cases c26 : a2 = true
              · subst c26
                have H1 : (if (t185.size : Int) < 3 then (reedpenref26_Elsewhere.j1 kj4 t185 true) else (if 0 ≤ 2 then (if 2 ≤ (t185.size : Int) then (reedpenref26_Elsewhere.j1 kj4 t185 ((t185.extract 0 2).toList != ([82, 72] : List UInt8))) else (none)) else (none))) = some r := by rw [if_pos rfl] at H; exact H
                clear H
                have H := H1
                clear H1
                by_cases c27 : (t185.size : Int) < 3
                · rw [if_pos c27] at H
                  have c27b0 : decide ((t185.size : Int) < 3) = true := decide_eq_true c27
                  have c27b1 : decide (t185.size < 3) = true := decide_eq_true (by omega)
                  clear c27
                  have H' := Aside0.mk H
                  clear H
                  have hcz28_0 : wc.cell? ⟨gb184, 0, none⟩ = some (.int .i64 a0_0) := (blk_cell BK184.out 0).trans rfl
                  have hcz28_1 : wc.cell? ⟨gb184, 1, none⟩ = some (.string a0_1) := (blk_cell BK184.out 1).trans rfl
                  have hcz28_2 : wc.cell? ⟨gb184, 2, none⟩ = some (.bool a0_2) := (blk_cell BK184.out 2).trans rfl
                  have hcz28_3 : wc.cell? ⟨gb184, 3, none⟩ = some (.int .i64 a0_3) := (blk_cell BK184.out 3).trans rfl
                  have hfz28_0 := blk_frozen BK184.out 0
                  have hfz28_1 := blk_frozen BK184.out 1
                  have hfz28_2 := blk_frozen BK184.out 2
                  have hfz28_3 := blk_frozen BK184.out 3
                  go_wp2
                  go_meet
                  case rel => exact ⟨_, (true), (by first | rfl | (simp; done) | (simp [*]; done)), H', ⟨by have := HJ4.out; first | omega | exact Nat.le_refl _⟩, ⟨by (with_reducible repeat (first | refine blk_drewN ?_ _ | refine blk_drew ?_ | refine blk_alloc ?_ _)); exact BK184.out⟩, ⟨by repeat (first | (with_reducible first | exact HB.out | apply below_alloc | apply pw_below_drewN | apply below_drew1 | refine below_set ?_ GE184.out) | exact HB.out)⟩⟩
                · rw [if_neg c27] at H
                  have c27b0 : decide ((t185.size : Int) < 3) = false := decide_eq_false c27
                  have c27b1 : decide (t185.size < 3) = false := decide_eq_false (by omega)
                  clear c27
                  by_cases c29 : 0 ≤ 2
                  · rw [if_pos c29] at H
                    have c29b0 := eq_true c29
                    have c29b1 : decide (0 ≤ 2) = true := decide_eq_true c29
                    clear c29
                    by_cases c30 : 2 ≤ (t185.size : Int)
                    · rw [if_pos c30] at H
                      have c30b0 := eq_true c30
                      have c30b1 : decide (2 ≤ (t185.size : Int)) = true := decide_eq_true c30
                      clear c30
                      have H' := Aside0.mk H
                      clear H
                      have hcz31_0 : wc.cell? ⟨gb184, 0, none⟩ = some (.int .i64 a0_0) := (blk_cell BK184.out 0).trans rfl
                      have hcz31_1 : wc.cell? ⟨gb184, 1, none⟩ = some (.string a0_1) := (blk_cell BK184.out 1).trans rfl
                      have hcz31_2 : wc.cell? ⟨gb184, 2, none⟩ = some (.bool a0_2) := (blk_cell BK184.out 2).trans rfl
                      have hcz31_3 : wc.cell? ⟨gb184, 3, none⟩ = some (.int .i64 a0_3) := (blk_cell BK184.out 3).trans rfl
                      have hfz31_0 := blk_frozen BK184.out 0
                      have hfz31_1 := blk_frozen BK184.out 1
                      have hfz31_2 := blk_frozen BK184.out 2
                      have hfz31_3 := blk_frozen BK184.out 3
                      go_wp2
                      go_meet
                      case rel => exact ⟨_, (((t185.extract 0 2).toList != ([82, 72] : List UInt8))), (by first | rfl | (simp; done) | (simp [*]; done)), H', ⟨by have := HJ4.out; first | omega | exact Nat.le_refl _⟩, ⟨by (with_reducible repeat (first | refine blk_drewN ?_ _ | refine blk_drew ?_ | refine blk_alloc ?_ _)); exact BK184.out⟩, ⟨by repeat (first | (with_reducible first | exact HB.out | apply below_alloc | apply pw_below_drewN | apply below_drew1 | refine below_set ?_ GE184.out) | exact HB.out)⟩⟩
                    · rw [if_neg c30] at H
                      exact absurd H (by simp)
                  · rw [if_neg c29] at H
                    exact absurd H (by simp)
              · replace c26 := Bool.eq_false_iff.mpr c26
                subst c26
                have H1 : (reedpenref26_Elsewhere.j1 kj4 t185 true) = some r := by rw [if_neg (show ¬ (false = true) by decide)] at H; exact H
                clear H
                have H := H1
                clear H1
                have H' := Aside0.mk H
                clear H
                have hcz32_0 : wc.cell? ⟨gb184, 0, none⟩ = some (.int .i64 a0_0) := (blk_cell BK184.out 0).trans rfl
                have hcz32_1 : wc.cell? ⟨gb184, 1, none⟩ = some (.string a0_1) := (blk_cell BK184.out 1).trans rfl
                have hcz32_2 : wc.cell? ⟨gb184, 2, none⟩ = some (.bool a0_2) := (blk_cell BK184.out 2).trans rfl
                have hcz32_3 : wc.cell? ⟨gb184, 3, none⟩ = some (.int .i64 a0_3) := (blk_cell BK184.out 3).trans rfl
                have hfz32_0 := blk_frozen BK184.out 0
                have hfz32_1 := blk_frozen BK184.out 1
                have hfz32_2 := blk_frozen BK184.out 2
                have hfz32_3 := blk_frozen BK184.out 3
                go_wp2
                go_meet
                case rel => exact ⟨_, (true), (by first | rfl | (simp; done) | (simp [*]; done)), H', ⟨by have := HJ4.out; first | omega | exact Nat.le_refl _⟩, ⟨by (with_reducible repeat (first | refine blk_drewN ?_ _ | refine blk_drew ?_ | refine blk_alloc ?_ _)); exact BK184.out⟩, ⟨by repeat (first | (with_reducible first | exact HB.out | apply below_alloc | apply pw_below_drewN | apply below_drew1 | refine below_set ?_ GE184.out) | exact HB.out)⟩⟩
            · rw [if_neg c25] at H
              have c25b0 : (a0_0 == 2) = false := beq_eq_false_iff_ne.mpr c25
              have c25b1 : (a0_0 != 2) = true := bne_iff_ne.mpr c25
              have H' := Aside0.mk H
              clear H
              have hcz33_0 : wc.cell? ⟨gb184, 0, none⟩ = some (.int .i64 a0_0) := (blk_cell BK184.out 0).trans rfl
              have hcz33_1 : wc.cell? ⟨gb184, 1, none⟩ = some (.string a0_1) := (blk_cell BK184.out 1).trans rfl
              have hcz33_2 : wc.cell? ⟨gb184, 2, none⟩ = some (.bool a0_2) := (blk_cell BK184.out 2).trans rfl
              have hcz33_3 : wc.cell? ⟨gb184, 3, none⟩ = some (.int .i64 a0_3) := (blk_cell BK184.out 3).trans rfl
              have hfz33_0 := blk_frozen BK184.out 0
              have hfz33_1 := blk_frozen BK184.out 1
              have hfz33_2 := blk_frozen BK184.out 2
              have hfz33_3 := blk_frozen BK184.out 3
              go_wp2
              go_meet
              case rel => exact ⟨_, (true), (by first | rfl | (simp; done) | (simp [*]; done)), H', ⟨by have := HJ4.out; first | omega | exact Nat.le_refl _⟩, ⟨by (with_reducible repeat (first | refine blk_drewN ?_ _ | refine blk_drew ?_ | refine blk_alloc ?_ _)); exact BK184.out⟩, ⟨by repeat (first | (with_reducible first | exact HB.out | apply below_alloc | apply pw_below_drewN | apply below_drew1 | refine below_set ?_ GE184.out) | exact HB.out)⟩⟩
        case rest =>
          clear HC16
          try clear c1
          try clear c2
          try clear p2
          try clear c3
          try clear c5
          try clear c8
          try clear c8b0
          try clear c8b1
          try clear c9
          try clear c9b0
          try clear c9b1
          try clear c10
          try clear c10b0
          try clear c10b1
          try clear c11
          try clear c11b0
          try clear c11b1
          try clear c15
          try clear c17
          try clear c17b0
          try clear c17b1
          try clear c18
          try clear c19
          try clear c19b0
          try clear c19b1
          try clear c21
          try clear c21b0
          try clear c21b1
          try clear c22
          try clear c22b0
          try clear c22b1
          try clear c25
          try clear c25b0
          try clear c25b1
          try clear c26
          try clear c27
          try clear c27b0
          try clear c27b1
          try clear c29
          try clear c29b0
          try clear c29b1
          try clear c30
          try clear c30b0
          try clear c30b1
          try clear hcz12_0
          try clear hcz12_1
          try clear hcz12_2
          try clear hcz12_3
          try clear hcz13_0
          try clear hcz13_1
          try clear hcz13_2
          try clear hcz13_3
          try clear hcz14_0
          try clear hcz14_1
          try clear hcz14_2
          try clear hcz14_3
          try clear hcz20_0
          try clear hcz20_1
          try clear hcz20_2
          try clear hcz20_3
          try clear hcz23_0
          try clear hcz23_1
          try clear hcz23_2
          try clear hcz23_3
          try clear hcz24_0
          try clear hcz24_1
          try clear hcz24_2
          try clear hcz24_3
          try clear hcz28_0
          try clear hcz28_1
          try clear hcz28_2
          try clear hcz28_3
          try clear hcz31_0
          try clear hcz31_1
          try clear hcz31_2
          try clear hcz31_3
          try clear hcz32_0
          try clear hcz32_1
          try clear hcz32_2
          try clear hcz32_3
          try clear hcz33_0
          try clear hcz33_1
          try clear hcz33_2
          try clear hcz33_3
          try clear hfz12_0
          try clear hfz12_1
          try clear hfz12_2
          try clear hfz12_3
          try clear hfz13_0
          try clear hfz13_1
          try clear hfz13_2
          try clear hfz13_3
          try clear hfz14_0
          try clear hfz14_1
          try clear hfz14_2
          try clear hfz14_3
          try clear hfz20_0
          try clear hfz20_1
          try clear hfz20_2
          try clear hfz20_3
          try clear hfz23_0
          try clear hfz23_1
          try clear hfz23_2
          try clear hfz23_3
          try clear hfz24_0
          try clear hfz24_1
          try clear hfz24_2
          try clear hfz24_3
          try clear hfz28_0
          try clear hfz28_1
          try clear hfz28_2
          try clear hfz28_3
          try clear hfz31_0
          try clear hfz31_1
          try clear hfz31_2
          try clear hfz31_3
          try clear hfz32_0
          try clear hfz32_1
          try clear hfz32_2
          try clear hfz32_3
          try clear hfz33_0
          try clear hfz33_1
          try clear hfz33_2
          try clear hfz33_3
          try clear p2
          obtain ⟨kq, x45_15, rfl, HA, HJ15, BK184, HB⟩ := hcut
          cases kq with
          | zero => exact absurd HA.out (by simp [reedpenref26_Elsewhere.j1])
          | succ kj15 =>
            have H := HA.out
            clear HA
            simp only [reedpenref26_Elsewhere.j1] at H
            by_cases c34 : x45_15 = true
            · subst c34
              have H1 : (some 0) = some r := by rw [if_pos rfl] at H; exact H
              clear H
              have H := H1
              clear H1
              obtain rfl := Option.some.inj H
              go_wp2
              go_ret
              exact ⟨by first | rfl | (simp [errW_none, errW_some] <;> rfl) | (simp [*, errW_none, errW_some] <;> rfl), by repeat (first | (with_reducible first | exact HB.out | apply below_alloc | apply pw_below_drewN | apply below_drew1 | refine below_set ?_ GE184.out) | exact HB.out)⟩
            · replace c34 := Bool.eq_false_iff.mpr c34
              subst c34
              have H1 : (reedpenref26_Elsewhere.l0 kj15 t185 2) = some r := by rw [if_neg (show ¬ (false = true) by decide)] at H; exact H
              clear H
              have H := H1
              clear H1
              have H' := Aside0.mk H
              clear H
              go_wp2
              go_loopg [8] kj15 (fun kq v8 w' => ∃ (x8_3 : Int), v8 = .int .i64 x8_3 ∧ Aside0 (reedpenref26_Elsewhere.l0 kq t185 x8_3 = some r) ∧ Aside0 (kq ≤ kj15) ∧ Aside0 (w'.heap[gb184]? = some (.cells #[.int .i64 a0_0, .string a0_1, .bool a0_2, .int .i64 a0_3] 23 (0, 0))) ∧ Aside0 (Below w.heap.size w w'))
              case atStart => exact ⟨(2), (by first | rfl | (simp; done) | (simp [*]; done)), H', ⟨Nat.le_refl _⟩, ⟨by (with_reducible repeat (first | refine blk_drewN ?_ _ | refine blk_drew ?_ | refine blk_alloc ?_ _)); exact BK184.out⟩, ⟨by repeat (first | (with_reducible first | exact HB.out | apply below_alloc | apply pw_below_drewN | apply below_drew1 | refine below_set ?_ GE184.out) | exact HB.out)⟩⟩
              case round =>
                clear H'
                try clear c1
                try clear c2
                try clear p2
                try clear c3
                try clear c5
                try clear c8
                try clear c8b0
                try clear c8b1
                try clear c9
                try clear c9b0
                try clear c9b1
                try clear c10
                try clear c10b0
                try clear c10b1
                try clear c11
                try clear c11b0
                try clear c11b1
                try clear c15
                try clear c17
                try clear c17b0
                try clear c17b1
                try clear c18
                try clear c19
                try clear c19b0
                try clear c19b1
                try clear c21
                try clear c21b0
                try clear c21b1
                try clear c22
                try clear c22b0
                try clear c22b1
                try clear c25
                try clear c25b0
                try clear c25b1
                try clear c26
                try clear c27
                try clear c27b0
                try clear c27b1
                try clear c29
                try clear c29b0
                try clear c29b1
                try clear c30
                try clear c30b0
                try clear c30b1
                try clear c34
                try clear hcz12_0
                try clear hcz12_1
                try clear hcz12_2
                try clear hcz12_3
                try clear hcz13_0
                try clear hcz13_1
                try clear hcz13_2
                try clear hcz13_3
                try clear hcz14_0
                try clear hcz14_1
                try clear hcz14_2
                try clear hcz14_3
                try clear hcz20_0
                try clear hcz20_1
                try clear hcz20_2
                try clear hcz20_3
                try clear hcz23_0
                try clear hcz23_1
                try clear hcz23_2
                try clear hcz23_3
                try clear hcz24_0
                try clear hcz24_1
                try clear hcz24_2
                try clear hcz24_3
                try clear hcz28_0
                try clear hcz28_1
                try clear hcz28_2
                try clear hcz28_3
                try clear hcz31_0
                try clear hcz31_1
                try clear hcz31_2
                try clear hcz31_3
                try clear hcz32_0
                try clear hcz32_1
                try clear hcz32_2
                try clear hcz32_3
                try clear hcz33_0
                try clear hcz33_1
                try clear hcz33_2
                try clear hcz33_3
                try clear hfz12_0
                try clear hfz12_1
                try clear hfz12_2
                try clear hfz12_3
                try clear hfz13_0
                try clear hfz13_1
                try clear hfz13_2
                try clear hfz13_3
                try clear hfz14_0
                try clear hfz14_1
                try clear hfz14_2
                try clear hfz14_3
                try clear hfz20_0
                try clear hfz20_1
                try clear hfz20_2
                try clear hfz20_3
                try clear hfz23_0
                try clear hfz23_1
                try clear hfz23_2
                try clear hfz23_3
                try clear hfz24_0
                try clear hfz24_1
                try clear hfz24_2
                try clear hfz24_3
                try clear hfz28_0
                try clear hfz28_1
                try clear hfz28_2
                try clear hfz28_3
                try clear hfz31_0
                try clear hfz31_1
                try clear hfz31_2
                try clear hfz31_3
                try clear hfz32_0
                try clear hfz32_1
                try clear hfz32_2
                try clear hfz32_3
                try clear hfz33_0
                try clear hfz33_1
                try clear hfz33_2
                try clear hfz33_3
                try clear p2
                obtain ⟨x8_3, rfl, HA, HK3, BK184, HB⟩ := hrel
                cases gk with
                | zero => exact absurd HA.out (by simp [reedpenref26_Elsewhere.l0])
                | succ k3 =>
                  have H := HA.out
                  clear HA
                  simp only [reedpenref26_Elsewhere.l0] at H
                  by_cases c35 : x8_3 < (t185.size : Int)
                  · rw [if_pos c35] at H
                    have c35b0 : decide (x8_3 < (t185.size : Int)) = true := decide_eq_true c35
                    clear c35
                    replace H := Option.bind_eq_some_iff.mp H
                    obtain ⟨t186, A360, H⟩ := H
                    replace H : (if t186 = true then (some 2) else (reedpenref26_Elsewhere.l0 k3 t185 (wrap64 (x8_3 + 1)))) = some r := H
                    have A36 := Aside0.mk A360
                    clear A360
                    by_cases c37 : t186 = true
                    · subst c37
                      have H1 : (some 2) = some r := by rw [if_pos rfl] at H; exact H
                      clear H
                      have H := H1
                      clear H1
                      obtain rfl := Option.some.inj H
                      go_wp2_with (first | ((with_reducible refine gate_callee (f := 57) rfl ?_); refine goesL_ (some 54) rfl rfl Try.func57 (by kernel_rfl) rfl #[.string t185, .int .i64 x8_3, .string (⟨#[67, 82, 86]⟩ : ByteArray)] rfl (by (try simp only [List.map_toArray, List.map_cons, List.map_nil]); first | done | rfl | (simp only [List.length_drop, List.length_take]; rfl)) ?_; (with_reducible refine (reedpenref26_In.calls k3 t185 x8_3 (⟨#[67, 82, 86]⟩ : ByteArray) true _ A36.out).mono ?_); rintro e w' ⟨rfl, ⟨nd, rfl⟩⟩; refine ⟨_, rfl, ?_⟩))
                      go_ret
                      exact ⟨by first | rfl | (simp [errW_none, errW_some] <;> rfl) | (simp [*, errW_none, errW_some] <;> rfl), by repeat (first | (with_reducible first | exact HB.out | apply below_alloc | apply pw_below_drewN | apply below_drew1 | refine below_set ?_ GE184.out) | exact HB.out)⟩
                    · replace c37 := Bool.eq_false_iff.mpr c37
                      subst c37
                      have H1 : (reedpenref26_Elsewhere.l0 k3 t185 (wrap64 (x8_3 + 1))) = some r := by rw [if_neg (show ¬ (false = true) by decide)] at H; exact H
                      clear H
                      have H := H1
                      clear H1
                      have H' := Aside0.mk H
                      clear H
                      go_wp2_with (first | ((with_reducible refine gate_callee (f := 57) rfl ?_); refine goesL_ (some 54) rfl rfl Try.func57 (by kernel_rfl) rfl #[.string t185, .int .i64 x8_3, .string (⟨#[67, 82, 86]⟩ : ByteArray)] rfl (by (try simp only [List.map_toArray, List.map_cons, List.map_nil]); first | done | rfl | (simp only [List.length_drop, List.length_take]; rfl)) ?_; (with_reducible refine (reedpenref26_In.calls k3 t185 x8_3 (⟨#[67, 82, 86]⟩ : ByteArray) false _ A36.out).mono ?_); rintro e w' ⟨rfl, ⟨nd, rfl⟩⟩; refine ⟨_, rfl, ?_⟩))
                      go_roundg k3
                      case measure => have := HJ4.out; have := HJ15.out; have := HK3.out; omega
                      case rel => exact ⟨(wrap64 (x8_3 + 1)), (by first | rfl | (simp; done) | (simp [*]; done)), H', ⟨by have := HJ4.out; have := HJ15.out; have := HK3.out; omega⟩, ⟨by (with_reducible repeat (first | refine blk_drewN ?_ _ | refine blk_drew ?_ | refine blk_alloc ?_ _)); exact BK184.out⟩, ⟨by repeat (first | (with_reducible first | exact HB.out | apply below_alloc | apply pw_below_drewN | apply below_drew1 | refine below_set ?_ GE184.out) | exact HB.out)⟩⟩
                  · rw [if_neg c35] at H
                    have c35b0 : decide (x8_3 < (t185.size : Int)) = false := decide_eq_false c35
                    clear c35
                    obtain rfl := Option.some.inj H
                    go_wp2
                    go_ret
                    exact ⟨by first | rfl | (simp [errW_none, errW_some] <;> rfl) | (simp [*, errW_none, errW_some] <;> rfl), by repeat (first | (with_reducible first | exact HB.out | apply below_alloc | apply pw_below_drewN | apply below_drew1 | refine below_set ?_ GE184.out) | exact HB.out)⟩

end Go.Proofs.Ytlpikbkdlnocdaa.Y
