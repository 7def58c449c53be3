-- PRINTED BY mprint.py (a program of this session, over the kit's printer): Lean checks it
import Derived.Test.YtahmicipakmbmaaZ0
import Derived.Test.YtahmicipakmbmaaZ1
import Derived.Test.YtahmicipakmbmaaZ2
import Derived.Test.YtahmicipakmbmaaZ3
import Derived.Test.YtahmicipakmbmaaZ4
namespace Go.Proofs.Ytahmicipakmbmaa.Z
open Go.RowKit Go.Proofs.YtahmicipakmbmaaW.PrintWords Go.Proofs.YtahmicipakmbmaaW.PrintLast Go.Proofs.YtahmicipakmbmaaW.PrintMore
attribute [local go_sem] max2_int min2_int max_two min_two max_three min_three max_four min_four   -- for this text's walks alone
set_option linter.unusedVariables false
set_option linter.unusedSimpArgs false

attribute [local go_sem high] eqA45
/-! ### reedpenlaw02_SpanSplit: function 11 -/
mutual
def reedpenlaw02_SpanSplit.j0 : Nat → List (S45) → Int → Int → Bool → Option (Bool)
  | 0, _, _, _, _ => none
  | k + 1, x0, x1, x2, x30 => if x30 = true then (some true) else (if (x0.length : Int) = 0 then (none) else (if 0 ≤ (Int.tmod (wrap64 (x1)) (x0.length : Int)) then (if (Int.tmod (wrap64 (x1)) (x0.length : Int)) < (x0.length : Int) then (if x2 < ((rd_T45 x0 (Int.tmod (wrap64 (x1)) (x0.length : Int))).f0) then (reedpenlaw02_SpanSplit.j1 k x0 x2 (Int.tmod (wrap64 (x1)) (x0.length : Int)) true) else (reedpenlaw02_SpanSplit.j1 k x0 x2 (Int.tmod (wrap64 (x1)) (x0.length : Int)) (decide (x2 ≥ ((rd_T45 x0 (Int.tmod (wrap64 (x1)) (x0.length : Int))).f1))))) else (none)) else (none)))
def reedpenlaw02_SpanSplit.j1 : Nat → List (S45) → Int → Int → Bool → Option (Bool)
  | 0, _, _, _, _ => none
  | k + 1, x0, x2, x7, x51 => if x51 = true then (some true) else (if 0 ≤ x7 then (if x7 ≤ (x0.length : Int) then ((some (x0.take (x7 : Int).toNat : List (S45))).bind fun y225 => (if ([] : List (S45)).length + y225.length < 8796093022208 then ((some (([] : List (S45)) ++ y225 : List (S45))).bind fun y229 => (if x7 < (x0.length : Int) then ((some (([(⟨(rd_T45 x0 x7).f0, x2, (rd_T45 x0 x7).f2⟩ : S45), (⟨wrap32 (x2 + 1), (rd_T45 x0 x7).f1, (rd_T45 x0 x7).f2⟩ : S45)] : List (S45)) : List (S45))).bind fun y236 => (if y229.length + y236.length < 8796093022208 then ((some (y229 ++ y236 : List (S45))).bind fun y239 => (if 0 ≤ (wrap64 (x7 + 1)) then (if (wrap64 (x7 + 1)) ≤ (x0.length : Int) then ((some (x0.drop ((wrap64 (x7 + 1)) : Int).toNat : List (S45))).bind fun y242 => (if y239.length + y242.length < 8796093022208 then ((some (y239 ++ y242 : List (S45))).bind fun y246 => ((span_Find.f y246 x2).bind fun bt249 => ((span_Find.f y246 (wrap32 (x2 + 1))).bind fun bt251 => ((span_Join.f k x0).bind fun t253 => ((span_Join.f k y246).bind fun t256 => (if (t253.length : Int) = (t256.length : Int) then (reedpenlaw02_SpanSplit.l0 k x0 x7 y246 bt249.1 bt249.2 bt251.1 bt251.2 t253 t256 0) else (some false))))))) else (none))) else (none)) else (none))) else (none))) else (none))) else (none))) else (none)) else (none))
def reedpenlaw02_SpanSplit.l0 : Nat → List (S45) → Int → List (S45) → Int → Bool → Int → Bool → List (S45) → List (S45) → Int → Option (Bool)
  | 0, _, _, _, _, _, _, _, _, _, _ => none
  | k + 1, x0, x7, x8, x9, x10, x11, x12, x13, x14, x15 => if x15 < (x13.length : Int) then (if 0 ≤ x15 then (if x15 < (x14.length : Int) then (if (!(((rd_T45 x13 x15).f0) == ((rd_T45 x14 x15).f0)) || (!(((rd_T45 x13 x15).f1) == ((rd_T45 x14 x15).f1)) || (!(((rd_T45 x13 x15).f2) == ((rd_T45 x14 x15).f2))))) = true then (some false) else (reedpenlaw02_SpanSplit.l0 k x0 x7 x8 x9 x10 x11 x12 x13 x14 (wrap64 (x15 + 1)))) else (none)) else (none)) else (if x10 = true then (if x12 = true then (if 0 ≤ x7 then (if x7 < (x0.length : Int) then (if x9 = ((rd_T45 x0 x7).f2) then (if x11 = x9 then ((span_Right.f k x8 255).bind fun t262 => (if t262 = true then ((span_Count.f k x8).bind fun t263 => ((span_Count.f k x0).bind fun t264 => (some (t263 == t264)))) else (some false))) else (some false)) else (some false)) else (none)) else (none)) else (some false)) else (some false))
end
def reedpenlaw02_SpanSplit.f (k : Nat) (l0 : List (S45)) (a1 : Int) (a2 : Int) : Option (Bool) := (reedpenlaw02_alive.f k).bind fun t221 => (if t221 = true then (if (l0.length : Int) > 300 then (reedpenlaw02_SpanSplit.j0 k l0 a1 a2 true) else (if (l0.length : Int) = 0 then (reedpenlaw02_SpanSplit.j0 k l0 a1 a2 true) else ((span_Right.f k l0 255).bind fun t222 => (reedpenlaw02_SpanSplit.j0 k l0 a1 a2 (!t222))))) else (some false))
theorem reedpenlaw02_SpanSplit.mono_l : ∀ k, (∀ y0 y1 y2 y3, LeO (reedpenlaw02_SpanSplit.j0 k y0 y1 y2 y3) (reedpenlaw02_SpanSplit.j0 (k + 1) y0 y1 y2 y3)) ∧ (∀ y0 y1 y2 y3, LeO (reedpenlaw02_SpanSplit.j1 k y0 y1 y2 y3) (reedpenlaw02_SpanSplit.j1 (k + 1) y0 y1 y2 y3)) ∧ (∀ y0 y1 y2 y3 y4 y5 y6 y7 y8 y9, LeO (reedpenlaw02_SpanSplit.l0 k y0 y1 y2 y3 y4 y5 y6 y7 y8 y9) (reedpenlaw02_SpanSplit.l0 (k + 1) y0 y1 y2 y3 y4 y5 y6 y7 y8 y9))
  | 0 => ⟨fun _ _ _ _ r h => by simp [reedpenlaw02_SpanSplit.j0] at h, fun _ _ _ _ r h => by simp [reedpenlaw02_SpanSplit.j1] at h, fun _ _ _ _ _ _ _ _ _ _ r h => by simp [reedpenlaw02_SpanSplit.l0] at h⟩
  | k + 1 => by
    obtain ⟨ih0, ih1, ih2⟩ := reedpenlaw02_SpanSplit.mono_l k
    refine ⟨?_, ?_, ?_⟩
    · intro y0 y1 y2 y3
      unfold reedpenlaw02_SpanSplit.j0
      repeat' first
      | (with_reducible exact ih0 _ _ _ _)
      | (with_reducible exact ih1 _ _ _ _)
      | (with_reducible exact ih2 _ _ _ _ _ _ _ _ _ _)
      | (with_reducible exact reedpenlaw02_alive.mono _)
      | (with_reducible exact span_Count.mono _ _)
      | (with_reducible exact span_Join.mono _ _)
      | (with_reducible exact span_Right.mono _ _ _)
      | (with_reducible exact LeO.refl _)
      | (with_reducible exact LeO.none _)
      | (with_reducible refine LeO.ite ?_ ?_)
      | (with_reducible refine LeO.bind ?_ (fun _ => ?_))
      | exact ih0 _ _ _ _
      | exact ih1 _ _ _ _
      | exact ih2 _ _ _ _ _ _ _ _ _ _
      | exact reedpenlaw02_alive.mono _
      | exact span_Count.mono _ _
      | exact span_Join.mono _ _
      | exact span_Right.mono _ _ _
      | exact LeO.none _
      | refine LeO.ite ?_ ?_
      | refine LeO.bind ?_ (fun _ => ?_)
    · intro y0 y1 y2 y3
      unfold reedpenlaw02_SpanSplit.j1
      repeat' first
      | (with_reducible exact ih0 _ _ _ _)
      | (with_reducible exact ih1 _ _ _ _)
      | (with_reducible exact ih2 _ _ _ _ _ _ _ _ _ _)
      | (with_reducible exact reedpenlaw02_alive.mono _)
      | (with_reducible exact span_Count.mono _ _)
      | (with_reducible exact span_Join.mono _ _)
      | (with_reducible exact span_Right.mono _ _ _)
      | (with_reducible exact LeO.refl _)
      | (with_reducible exact LeO.none _)
      | (with_reducible refine LeO.ite ?_ ?_)
      | (with_reducible refine LeO.bind ?_ (fun _ => ?_))
      | exact ih0 _ _ _ _
      | exact ih1 _ _ _ _
      | exact ih2 _ _ _ _ _ _ _ _ _ _
      | exact reedpenlaw02_alive.mono _
      | exact span_Count.mono _ _
      | exact span_Join.mono _ _
      | exact span_Right.mono _ _ _
      | exact LeO.none _
      | refine LeO.ite ?_ ?_
      | refine LeO.bind ?_ (fun _ => ?_)
    · intro y0 y1 y2 y3 y4 y5 y6 y7 y8 y9
      unfold reedpenlaw02_SpanSplit.l0
      repeat' first
      | (with_reducible exact ih0 _ _ _ _)
      | (with_reducible exact ih1 _ _ _ _)
      | (with_reducible exact ih2 _ _ _ _ _ _ _ _ _ _)
      | (with_reducible exact reedpenlaw02_alive.mono _)
      | (with_reducible exact span_Count.mono _ _)
      | (with_reducible exact span_Join.mono _ _)
      | (with_reducible exact span_Right.mono _ _ _)
      | (with_reducible exact LeO.refl _)
      | (with_reducible exact LeO.none _)
      | (with_reducible refine LeO.ite ?_ ?_)
      | (with_reducible refine LeO.bind ?_ (fun _ => ?_))
      | exact ih0 _ _ _ _
      | exact ih1 _ _ _ _
      | exact ih2 _ _ _ _ _ _ _ _ _ _
      | exact reedpenlaw02_alive.mono _
      | exact span_Count.mono _ _
      | exact span_Join.mono _ _
      | exact span_Right.mono _ _ _
      | exact LeO.none _
      | refine LeO.ite ?_ ?_
      | refine LeO.bind ?_ (fun _ => ?_)
theorem reedpenlaw02_SpanSplit.mono : ∀ a0 a1 a2 k, LeO (reedpenlaw02_SpanSplit.f k a0 a1 a2) (reedpenlaw02_SpanSplit.f (k + 1) a0 a1 a2) := by
  intro a0 a1 a2 k
  obtain ⟨ih0, ih1, ih2⟩ := reedpenlaw02_SpanSplit.mono_l k
  unfold reedpenlaw02_SpanSplit.f
  repeat' first
      | (with_reducible exact ih0 _ _ _ _)
      | (with_reducible exact ih1 _ _ _ _)
      | (with_reducible exact ih2 _ _ _ _ _ _ _ _ _ _)
      | (with_reducible exact reedpenlaw02_alive.mono _)
      | (with_reducible exact span_Count.mono _ _)
      | (with_reducible exact span_Join.mono _ _)
      | (with_reducible exact span_Right.mono _ _ _)
      | (with_reducible exact LeO.refl _)
      | (with_reducible exact LeO.none _)
      | (with_reducible refine LeO.ite ?_ ?_)
      | (with_reducible refine LeO.bind ?_ (fun _ => ?_))
      | exact ih0 _ _ _ _
      | exact ih1 _ _ _ _
      | exact ih2 _ _ _ _ _ _ _ _ _ _
      | exact reedpenlaw02_alive.mono _
      | exact span_Count.mono _ _
      | exact span_Join.mono _ _
      | exact span_Right.mono _ _ _
      | exact LeO.none _
      | refine LeO.ite ?_ ?_
      | refine LeO.bind ?_ (fun _ => ?_)
def reedpenlaw02_SpanSplit.T10 : Bool × List (List Nat × List Nat) := (true, [([], []), ([], []), ([], []), ([1, 2], [1, 2]), ([3], [3]), ([4], [4]), ([], []), ([], []), ([], []), ([7, 8], [7, 8]), ([9], [9]), ([10], [10]), ([5, 6, 11], [5, 6, 11]), ([], []), ([13], [13]), ([], []), ([], []), ([15, 16], [15, 16]), ([17], [17]), ([18], [18]), ([], []), ([], []), ([20, 21], [20, 21]), ([22], [22]), ([23], [23]), ([14, 19, 24], [14, 19, 24]), ([12, 25], [12, 25]), ([0, 26], [0, 26]), ([27, 27, 0, 1, 2, 3, 4, 5, 6, 7, 8, 9, 10, 11, 12, 13, 14, 15, 16, 17, 18, 19, 20, 21, 22, 23, 24, 25, 26, 27], [0, 27])])
def reedpenlaw02_SpanSplit.B10 : List Nat := [0, 0, 0, 6, 14, 30, 0, 0, 0, 384, 896, 1920, 4094, 0, 8192, 0, 0, 98304, 229376, 491520, 0, 0, 3145728, 7340032, 15728640, 33546240, 67108862, 134217727, 268435455]
theorem reedpenlaw02_SpanSplit.tab10 : rtab .any (opsOf Try.f11 10) = reedpenlaw02_SpanSplit.T10 := by kernel_rfl
theorem reedpenlaw02_SpanSplit.bits10 : waitsOk reedpenlaw02_SpanSplit.T10.2 reedpenlaw02_SpanSplit.B10 = true := by kernel_rfl
def reedpenlaw02_SpanSplit.T20 : Bool × List (List Nat × List Nat) := (true, [([], []), ([], []), ([0, 1], [0, 1]), ([2], [2]), ([], []), ([], []), ([4, 5], [4, 5]), ([6], [6]), ([3, 7], [3, 7])])
def reedpenlaw02_SpanSplit.B20 : List Nat := [0, 0, 3, 7, 0, 0, 48, 112, 255]
theorem reedpenlaw02_SpanSplit.tab20 : rtab .any (opsOf Try.f11 20) = reedpenlaw02_SpanSplit.T20 := by kernel_rfl
theorem reedpenlaw02_SpanSplit.bits20 : waitsOk reedpenlaw02_SpanSplit.T20.2 reedpenlaw02_SpanSplit.B20 = true := by kernel_rfl
set_option maxHeartbeats 8000000 in
set_option maxRecDepth 100000 in
theorem reedpenlaw02_SpanSplit.calls (k : Nat) (A0 : Option Addr) (c0 : Nat) (l0 : List (S45)) (a1 : Int) (a2 : Int) (r : Bool) (w : World) (hr0 : Kd.C k45 w A0 l0.length l0) (hc0 : l0.length ≤ c0) (h : reedpenlaw02_SpanSplit.f k l0 a1 a2 = some r) :
    Calls Try.prog 11 #[.slice A0 l0.length c0, .int .u8 a1, .int .i32 a2] w fun e w' => e = .returned (.bool r) ∧ Below w.heap.size w w' := by
  have hu45 := Try.underlying45
  have HR0 := Aside0.mk hr0
  have HC0 := Aside0.mk hc0
  clear hr0 hc0
  have HB := Aside0.mk (Below.refl w.heap.size w)
  have H : ((reedpenlaw02_alive.f k).bind fun t221 => (if t221 = true then (if (l0.length : Int) > 300 then (reedpenlaw02_SpanSplit.j0 k l0 a1 a2 true) else (if (l0.length : Int) = 0 then (reedpenlaw02_SpanSplit.j0 k l0 a1 a2 true) else ((span_Right.f k l0 255).bind fun t222 => (reedpenlaw02_SpanSplit.j0 k l0 a1 a2 (!t222))))) else (some false))) = some r := h
  clear h
  replace H := Option.bind_eq_some_iff.mp H
  obtain ⟨t221, A40, H⟩ := H
  replace H : (if t221 = true then (if (l0.length : Int) > 300 then (reedpenlaw02_SpanSplit.j0 k l0 a1 a2 true) else (if (l0.length : Int) = 0 then (reedpenlaw02_SpanSplit.j0 k l0 a1 a2 true) else ((span_Right.f k l0 255).bind fun t222 => (reedpenlaw02_SpanSplit.j0 k l0 a1 a2 (!t222))))) else (some false)) = some r := H
  have A4 := Aside0.mk A40
  clear A40
  by_cases c5 : t221 = true
  · subst c5
    have H1 : (if (l0.length : Int) > 300 then (reedpenlaw02_SpanSplit.j0 k l0 a1 a2 true) else (if (l0.length : Int) = 0 then (reedpenlaw02_SpanSplit.j0 k l0 a1 a2 true) else ((span_Right.f k l0 255).bind fun t222 => (reedpenlaw02_SpanSplit.j0 k l0 a1 a2 (!t222))))) = some r := by rw [if_pos rfl] at H; exact H
    clear H
    have H := H1
    clear H1
    have HC6 := Aside0.mk H
    clear H
    go_enter Try.func11, Try.ntmps11
    go_upto_region 3 with (first | ((with_reducible refine gate_callee (f := 29) rfl ?_); refine goesL_ (some 16) rfl rfl Try.func29 (by kernel_rfl) rfl #[] rfl (by (try simp only [List.map_toArray, List.map_cons, List.map_nil]); first | done | rfl | (simp only [List.length_drop, List.length_take]; rfl)) ?_; (with_reducible refine (reedpenlaw02_alive.calls k  true _ A4.out).mono ?_); rintro e w7 ⟨rfl, hb⟩; refine ⟨_, rfl, ?_⟩; have n0_ := Aside0.mk (below_step (by repeat (first | (with_reducible first | exact HB.out | apply below_alloc | apply pw_below_drewN | apply below_drew1) | exact HB.out)) hb); clear HB; have HB := n0_; clear n0_; (try clear hb); (try clear hb2); (try clear hk); (try clear hi)))
    (try simp only [Act.put, List.setIfInBounds_toArray, List.set_cons_zero, List.set_cons_succ])
    go_cut [30] (fun v30 wc => ∃ (kq : Nat) (x30_5 : Bool), v30 = .bool x30_5 ∧ Aside0 (reedpenlaw02_SpanSplit.j0 kq l0 a1 a2 x30_5 = some r) ∧ Aside0 (kq ≤ k) ∧ Aside0 (Below w.heap.size w wc))
    case first =>
      have H := HC6.out
      clear HC6
      by_cases c8 : (l0.length : Int) > 300
      · rw [if_pos c8] at H
        have c8b0 : decide (300 < (l0.length : Int)) = true := decide_eq_true c8
        have c8b1 : decide (300 < l0.length) = true := decide_eq_true (by omega)
        clear c8
        (first | rw [c8b0] | (simp only [i64_w, i32_w]; rw [c8b0]) | skip)
        have H' := Aside0.mk H
        clear H
        go_wp2
        (try subst hji15)
        go_meet
        case rel => (try subst hji15); exact ⟨_, (true), (by first | rfl | (simp; done) | (simp [*]; done)), H', ⟨by first | omega | exact Nat.le_refl _⟩, ⟨by repeat (first | (with_reducible first | exact HB.out | apply below_alloc | apply pw_below_drewN | apply below_drew1) | exact HB.out)⟩⟩
      · rw [if_neg c8] at H
        have c8b0 : decide (300 < (l0.length : Int)) = false := decide_eq_false c8
        have c8b1 : decide (300 < l0.length) = false := decide_eq_false (by omega)
        clear c8
        (first | rw [c8b0] | (simp only [i64_w, i32_w]; rw [c8b0]) | skip)
        by_cases c9 : (l0.length : Int) = 0
        · rw [if_pos c9] at H
          have c9b0 : ((l0.length : Int) == 0) = true := beq_iff_eq.mpr c9
          have c9b1 : ((l0.length : Int) != 0) = false := bne_eq_false_iff_eq.mpr c9
          clear c9
          have H' := Aside0.mk H
          clear H
          go_wp2
          (try subst hji15)
          go_meet
          case rel => (try subst hji15); exact ⟨_, (true), (by first | rfl | (simp; done) | (simp [*]; done)), H', ⟨by first | omega | exact Nat.le_refl _⟩, ⟨by repeat (first | (with_reducible first | exact HB.out | apply below_alloc | apply pw_below_drewN | apply below_drew1) | exact HB.out)⟩⟩
        · rw [if_neg c9] at H
          have c9b0 : ((l0.length : Int) == 0) = false := beq_eq_false_iff_ne.mpr c9
          have c9b1 : ((l0.length : Int) != 0) = true := bne_iff_ne.mpr c9
          have c9b2 : ¬ (l0 = []) := fun h_ => c9 (by rw [h_]; rfl)
          replace H := Option.bind_eq_some_iff.mp H
          obtain ⟨t222, A100, H⟩ := H
          replace H : (reedpenlaw02_SpanSplit.j0 k l0 a1 a2 (!t222)) = some r := H
          have A10 := Aside0.mk A100
          clear A100
          have H' := Aside0.mk H
          clear H
          go_wp2_with (first | (go_at_call 32; (with_reducible refine (span_Right.calls k _ _ l0 255 t222 _ ?side1 ?side2 A10.out).mono ?_); (case side1 => repeat (first | exact (Kd.C_below HR0.out HB.out) | (with_reducible refine Kd.C_alloc ?_ _) | (with_reducible refine Kd.C_drewN ?_ _) | (with_reducible refine Kd.C_drew ?_))); (case side2 => exact HC0.out); rintro e w11 ⟨rfl, hb⟩; have n0_ := Aside0.mk (below_step (by repeat (first | (with_reducible first | exact HB.out | apply below_alloc | apply pw_below_drewN | apply below_drew1) | exact HB.out)) hb); clear HB; have HB := n0_; clear n0_; (try clear hb); (try clear hb2); (try clear hk); (try clear hi)))
          (try subst hji15)
          go_meet
          case rel => (try subst hji15); exact ⟨_, (!t222), (by first | rfl | (simp; done) | (simp [*]; done)), H', ⟨by first | omega | exact Nat.le_refl _⟩, ⟨by repeat (first | (with_reducible first | exact HB.out | apply below_alloc | apply pw_below_drewN | apply below_drew1) | exact HB.out)⟩⟩
    case rest =>
      clear HC6
      try clear c1
      try clear c2
      try clear p2
      try clear c5
      try clear c8
      try clear c8b0
      try clear c8b1
      try clear c9
      try clear c9b0
      try clear c9b1
      try clear c9b2
      try clear c11
      obtain ⟨kq, x30_5, rfl, HA, HJ5, HB⟩ := hcut
      cases kq with
      | zero => exact absurd HA.out (by simp [reedpenlaw02_SpanSplit.j0])
      | succ kj5 =>
        have H := HA.out
        clear HA
        simp only [reedpenlaw02_SpanSplit.j0] at H
        by_cases c12 : x30_5 = true
        · subst c12
          have H1 : (some true) = some r := by rw [if_pos rfl] at H; exact H
          clear H
          have H := H1
          clear H1
          obtain rfl := Option.some.inj H
          go_wp2
          go_ret
          exact ⟨by first | rfl | (simp [errW_none, errW_some] <;> rfl) | (simp [*, errW_none, errW_some] <;> rfl), by repeat (first | (with_reducible first | exact HB.out | apply below_alloc | apply pw_below_drewN | apply below_drew1) | exact HB.out)⟩
        · replace c12 := Bool.eq_false_iff.mpr c12
          subst c12
          have H1 : (if (l0.length : Int) = 0 then (none) else (if 0 ≤ (Int.tmod (wrap64 (a1)) (l0.length : Int)) then (if (Int.tmod (wrap64 (a1)) (l0.length : Int)) < (l0.length : Int) then (if a2 < ((rd_T45 l0 (Int.tmod (wrap64 (a1)) (l0.length : Int))).f0) then (reedpenlaw02_SpanSplit.j1 kj5 l0 a2 (Int.tmod (wrap64 (a1)) (l0.length : Int)) true) else (reedpenlaw02_SpanSplit.j1 kj5 l0 a2 (Int.tmod (wrap64 (a1)) (l0.length : Int)) (decide (a2 ≥ ((rd_T45 l0 (Int.tmod (wrap64 (a1)) (l0.length : Int))).f1))))) else (none)) else (none))) = some r := by rw [if_neg (show ¬ (false = true) by decide)] at H; exact H
          clear H
          have H := H1
          clear H1
          by_cases c13 : (l0.length : Int) = 0
          · rw [if_pos c13] at H
            exact absurd H (by simp)
          · rw [if_neg c13] at H
            have c13b0 : ((l0.length : Int) == 0) = false := beq_eq_false_iff_ne.mpr c13
            have c13b1 : ((l0.length : Int) != 0) = true := bne_iff_ne.mpr c13
            have c13b2 : ¬ (l0 = []) := fun h_ => c13 (by rw [h_]; rfl)
            have HC14 := Aside0.mk H
            clear H
            go_upto_region 6 with (fail)
            go_cut [51] (fun v51 wc => ∃ (kq : Nat) (x51_13 : Bool), v51 = .bool x51_13 ∧ Aside0 (reedpenlaw02_SpanSplit.j1 kq l0 a2 (Int.tmod (wrap64 (a1)) (l0.length : Int)) x51_13 = some r) ∧ Aside0 (kq ≤ kj5) ∧ Aside0 (Below w.heap.size w wc))
            case first =>
              have H := HC14.out
              clear HC14
              obtain ⟨ji15, hji15⟩ : ∃ j_ : Int, (Int.tmod (wrap64 (a1)) (l0.length : Int)) = j_ := ⟨_, rfl⟩
              replace H : (if 0 ≤ (ji15) then (if (ji15) < (l0.length : Int) then (if a2 < ((rd_T45 l0 (ji15)).f0) then (reedpenlaw02_SpanSplit.j1 kj5 l0 a2 ji15 true) else (reedpenlaw02_SpanSplit.j1 kj5 l0 a2 ji15 (decide (a2 ≥ ((rd_T45 l0 (ji15)).f1))))) else (none)) else (none)) = some r := by first | (rw [hji15] at H; exact H) | (simp only [hji15] at H ⊢; exact H)
              by_cases c16 : 0 ≤ (ji15)
              · rw [if_pos c16] at H
                have c16b0 : decide (0 ≤ (ji15)) = true := decide_eq_true c16
                clear c16
                (first | rw [c16b0] | (simp only [i64_w, i32_w]; rw [c16b0]) | skip)
                by_cases c17 : (ji15) < (l0.length : Int)
                · rw [if_pos c17] at H
                  have c17b0 : decide ((ji15) < (l0.length : Int)) = true := decide_eq_true c17
                  clear c17
                  by_cases c18 : a2 < ((rd_T45 l0 (ji15)).f0)
                  · rw [if_pos c18] at H
                    have c18b0 : decide (a2 < ((rd_T45 l0 (ji15)).f0)) = true := decide_eq_true c18
                    clear c18
                    have H' := Aside0.mk H
                    clear H
                    have p223 : 0 ≤ ((ji15) : Int) := of_decide_eq_true (by first | (with_reducible assumption) | assumption)
                    have q223 : (ji15) < (l0.length : Int) := of_decide_eq_true (by first | (with_reducible assumption) | assumption)
                    obtain ⟨ad223, e223, hx223_0, hx223_1, hx223_2⟩ := at_T45 HR0.out (ji15) p223 q223
                    cases e223
                    replace hx223_0 := (HB.out.cell (World.block_lt_of_cell? w _ hx223_0)).trans hx223_0
                    replace hx223_1 := (HB.out.cell (World.block_lt_of_cell? w _ hx223_1)).trans hx223_1
                    replace hx223_2 := (HB.out.cell (World.block_lt_of_cell? w _ hx223_2)).trans hx223_2
                    replace p223 := eq_true p223
                    replace q223 := eq_true q223
                    go_wp2
                    (try subst hji15)
                    go_meet
                    case rel => (try subst hji15); exact ⟨_, (true), (by first | rfl | (simp; done) | (simp [*]; done)), H', ⟨by have := HJ5.out; first | omega | exact Nat.le_refl _⟩, ⟨by repeat (first | (with_reducible first | exact HB.out | apply below_alloc | apply pw_below_drewN | apply below_drew1) | exact HB.out)⟩⟩
                  · rw [if_neg c18] at H
                    have c18b0 : decide (a2 < ((rd_T45 l0 (ji15)).f0)) = false := decide_eq_false c18
                    clear c18
                    have H' := Aside0.mk H
                    clear H
                    have p223 : 0 ≤ ((ji15) : Int) := of_decide_eq_true (by first | (with_reducible assumption) | assumption)
                    have q223 : (ji15) < (l0.length : Int) := of_decide_eq_true (by first | (with_reducible assumption) | assumption)
                    obtain ⟨ad223, e223, hx223_0, hx223_1, hx223_2⟩ := at_T45 HR0.out (ji15) p223 q223
                    cases e223
                    replace hx223_0 := (HB.out.cell (World.block_lt_of_cell? w _ hx223_0)).trans hx223_0
                    replace hx223_1 := (HB.out.cell (World.block_lt_of_cell? w _ hx223_1)).trans hx223_1
                    replace hx223_2 := (HB.out.cell (World.block_lt_of_cell? w _ hx223_2)).trans hx223_2
                    replace p223 := eq_true p223
                    replace q223 := eq_true q223
                    have p224 : 0 ≤ ((ji15) : Int) := of_decide_eq_true (by first | (with_reducible assumption) | assumption)
                    have q224 : (ji15) < (l0.length : Int) := of_decide_eq_true (by first | (with_reducible assumption) | assumption)
                    obtain ⟨ad224, e224, hx224_0, hx224_1, hx224_2⟩ := at_T45 HR0.out (ji15) p224 q224
                    obtain rfl : ad223 = ad224 := (by injection e224)
                    replace hx224_0 := (HB.out.cell (World.block_lt_of_cell? w _ hx224_0)).trans hx224_0
                    replace hx224_1 := (HB.out.cell (World.block_lt_of_cell? w _ hx224_1)).trans hx224_1
                    replace hx224_2 := (HB.out.cell (World.block_lt_of_cell? w _ hx224_2)).trans hx224_2
                    replace p224 := eq_true p224
                    replace q224 := eq_true q224
                    go_wp2
                    (try subst hji15)
                    go_meet
                    case rel => (try subst hji15); exact ⟨_, (decide (a2 ≥ ((rd_T45 l0 (Int.tmod (wrap64 (a1)) (l0.length : Int))).f1))), (by first | rfl | (simp; done) | (simp [*]; done)), H', ⟨by have := HJ5.out; first | omega | exact Nat.le_refl _⟩, ⟨by repeat (first | (with_reducible first | exact HB.out | apply below_alloc | apply pw_below_drewN | apply below_drew1) | exact HB.out)⟩⟩
                · rw [if_neg c17] at H
                  exact absurd H (by simp)
              · rw [if_neg c16] at H
                exact absurd H (by simp)
            case rest =>
              clear HC14
              try clear c1
              try clear c2
              try clear p2
              try clear q2
              try clear hx2
              try clear c5
              try clear p6
              try clear c8
              try clear c8b0
              try clear c8b1
              try clear c9
              try clear c9b0
              try clear c9b1
              try clear c9b2
              try clear c11
              try clear c12
              try clear c13
              try clear c13b0
              try clear c13b1
              try clear c13b2
              try clear c16
              try clear c16b0
              try clear c17
              try clear c17b0
              try clear c18
              try clear c18b0
              try clear hx223_0
              try clear hx223_1
              try clear hx223_2
              try clear hx224_0
              try clear hx224_1
              try clear hx224_2
              try clear p2
              try clear p223
              try clear p224
              try clear q223
              try clear q224
              obtain ⟨kq, x51_13, rfl, HA, HJ13, HB⟩ := hcut
              cases kq with
              | zero => exact absurd HA.out (by simp [reedpenlaw02_SpanSplit.j1])
              | succ kj13 =>
                have H := HA.out
                clear HA
                simp only [reedpenlaw02_SpanSplit.j1] at H
                by_cases c19 : x51_13 = true
                · subst c19
                  have H1 : (some true) = some r := by rw [if_pos rfl] at H; exact H
                  clear H
                  have H := H1
                  clear H1
                  obtain rfl := Option.some.inj H
                  go_wp2
                  go_ret
                  exact ⟨by first | rfl | (simp [errW_none, errW_some] <;> rfl) | (simp [*, errW_none, errW_some] <;> rfl), by repeat (first | (with_reducible first | exact HB.out | apply below_alloc | apply pw_below_drewN | apply below_drew1) | exact HB.out)⟩
                · replace c19 := Bool.eq_false_iff.mpr c19
                  subst c19
                  have H1 : (if 0 ≤ (Int.tmod (wrap64 (a1)) (l0.length : Int)) then (if (Int.tmod (wrap64 (a1)) (l0.length : Int)) ≤ (l0.length : Int) then ((some (l0.take ((Int.tmod (wrap64 (a1)) (l0.length : Int)) : Int).toNat : List (S45))).bind fun y225 => (if ([] : List (S45)).length + y225.length < 8796093022208 then ((some (([] : List (S45)) ++ y225 : List (S45))).bind fun y229 => (if (Int.tmod (wrap64 (a1)) (l0.length : Int)) < (l0.length : Int) then ((some (([(⟨(rd_T45 l0 (Int.tmod (wrap64 (a1)) (l0.length : Int))).f0, a2, (rd_T45 l0 (Int.tmod (wrap64 (a1)) (l0.length : Int))).f2⟩ : S45), (⟨wrap32 (a2 + 1), (rd_T45 l0 (Int.tmod (wrap64 (a1)) (l0.length : Int))).f1, (rd_T45 l0 (Int.tmod (wrap64 (a1)) (l0.length : Int))).f2⟩ : S45)] : List (S45)) : List (S45))).bind fun y236 => (if y229.length + y236.length < 8796093022208 then ((some (y229 ++ y236 : List (S45))).bind fun y239 => (if 0 ≤ (wrap64 ((Int.tmod (wrap64 (a1)) (l0.length : Int)) + 1)) then (if (wrap64 ((Int.tmod (wrap64 (a1)) (l0.length : Int)) + 1)) ≤ (l0.length : Int) then ((some (l0.drop ((wrap64 ((Int.tmod (wrap64 (a1)) (l0.length : Int)) + 1)) : Int).toNat : List (S45))).bind fun y242 => (if y239.length + y242.length < 8796093022208 then ((some (y239 ++ y242 : List (S45))).bind fun y246 => ((span_Find.f y246 a2).bind fun bt249 => ((span_Find.f y246 (wrap32 (a2 + 1))).bind fun bt251 => ((span_Join.f kj13 l0).bind fun t253 => ((span_Join.f kj13 y246).bind fun t256 => (if (t253.length : Int) = (t256.length : Int) then (reedpenlaw02_SpanSplit.l0 kj13 l0 (Int.tmod (wrap64 (a1)) (l0.length : Int)) y246 bt249.1 bt249.2 bt251.1 bt251.2 t253 t256 0) else (some false))))))) else (none))) else (none)) else (none))) else (none))) else (none))) else (none))) else (none)) else (none)) = some r := by rw [if_neg (show ¬ (false = true) by decide)] at H; exact H
                  clear H
                  have H := H1
                  clear H1
                  obtain ⟨ji20, hji20⟩ : ∃ j_ : Int, (Int.tmod (wrap64 (a1)) (l0.length : Int)) = j_ := ⟨_, rfl⟩
                  replace H : (if 0 ≤ (ji20) then (if (ji20) ≤ (l0.length : Int) then ((some (l0.take ((ji20) : Int).toNat : List (S45))).bind fun y225 => (if ([] : List (S45)).length + y225.length < 8796093022208 then ((some (([] : List (S45)) ++ y225 : List (S45))).bind fun y229 => (if (ji20) < (l0.length : Int) then ((some (([(⟨(rd_T45 l0 (ji20)).f0, a2, (rd_T45 l0 (ji20)).f2⟩ : S45), (⟨wrap32 (a2 + 1), (rd_T45 l0 (ji20)).f1, (rd_T45 l0 (ji20)).f2⟩ : S45)] : List (S45)) : List (S45))).bind fun y236 => (if y229.length + y236.length < 8796093022208 then ((some (y229 ++ y236 : List (S45))).bind fun y239 => (if 0 ≤ (wrap64 ((ji20) + 1)) then (if (wrap64 ((ji20) + 1)) ≤ (l0.length : Int) then ((some (l0.drop ((wrap64 ((ji20) + 1)) : Int).toNat : List (S45))).bind fun y242 => (if y239.length + y242.length < 8796093022208 then ((some (y239 ++ y242 : List (S45))).bind fun y246 => ((span_Find.f y246 a2).bind fun bt249 => ((span_Find.f y246 (wrap32 (a2 + 1))).bind fun bt251 => ((span_Join.f kj13 l0).bind fun t253 => ((span_Join.f kj13 y246).bind fun t256 => (if (t253.length : Int) = (t256.length : Int) then (reedpenlaw02_SpanSplit.l0 kj13 l0 (ji20) y246 bt249.1 bt249.2 bt251.1 bt251.2 t253 t256 0) else (some false))))))) else (none))) else (none)) else (none))) else (none))) else (none))) else (none))) else (none)) else (none)) = some r := by first | (rw [hji20] at H; exact H) | (simp only [hji20] at H ⊢; exact H)
                  by_cases c21 : 0 ≤ (ji20)
                  · rw [if_pos c21] at H
                    have c21b0 := eq_true c21
                    have c21b1 : decide (0 ≤ (ji20)) = true := decide_eq_true c21
                    clear c21
                    by_cases c22 : (ji20) ≤ (l0.length : Int)
                    · rw [if_pos c22] at H
                      have c22b0 := eq_true c22
                      have c22b1 : decide ((ji20) ≤ (l0.length : Int)) = true := decide_eq_true c22
                      clear c22
                      obtain ⟨y225, hy225⟩ : ∃ y_ : List (S45), y_ = (l0.take ((ji20) : Int).toNat) := ⟨_, rfl⟩
                      replace H : (if ([] : List (S45)).length + y225.length < 8796093022208 then ((some (([] : List (S45)) ++ y225 : List (S45))).bind fun y229 => (if (ji20) < (l0.length : Int) then ((some (([(⟨(rd_T45 l0 (ji20)).f0, a2, (rd_T45 l0 (ji20)).f2⟩ : S45), (⟨wrap32 (a2 + 1), (rd_T45 l0 (ji20)).f1, (rd_T45 l0 (ji20)).f2⟩ : S45)] : List (S45)) : List (S45))).bind fun y236 => (if y229.length + y236.length < 8796093022208 then ((some (y229 ++ y236 : List (S45))).bind fun y239 => (if 0 ≤ (wrap64 ((ji20) + 1)) then (if (wrap64 ((ji20) + 1)) ≤ (l0.length : Int) then ((some (l0.drop ((wrap64 ((ji20) + 1)) : Int).toNat : List (S45))).bind fun y242 => (if y239.length + y242.length < 8796093022208 then ((some (y239 ++ y242 : List (S45))).bind fun y246 => ((span_Find.f y246 a2).bind fun bt249 => ((span_Find.f y246 (wrap32 (a2 + 1))).bind fun bt251 => ((span_Join.f kj13 l0).bind fun t253 => ((span_Join.f kj13 y246).bind fun t256 => (if (t253.length : Int) = (t256.length : Int) then (reedpenlaw02_SpanSplit.l0 kj13 l0 (ji20) y246 bt249.1 bt249.2 bt251.1 bt251.2 t253 t256 0) else (some false))))))) else (none))) else (none)) else (none))) else (none))) else (none))) else (none)) = some r := by first | (rw [hy225]; with_reducible exact H) | (have H2_ := (Option.bind_some _ _).symm.trans H; rw [hy225]; with_reducible exact H2_) | (have H2_ := (Option.bind_some _ _).symm.trans H; with_reducible exact H2_) | with_reducible exact H | (rw [hy225]; exact H) | exact H
                      have Ny225 := Aside0.mk hy225
                      clear hy225
                      by_cases c23 : ([] : List (S45)).length + y225.length < 8796093022208
                      · rw [if_pos c23] at H
                        have LMc23 := Aside0.mk c23
                        clear c23
                        obtain ⟨y229, hy229⟩ : ∃ y_ : List (S45), y_ = (([] : List (S45)) ++ y225) := ⟨_, rfl⟩
                        replace H : (if (ji20) < (l0.length : Int) then ((some (([(⟨(rd_T45 l0 (ji20)).f0, a2, (rd_T45 l0 (ji20)).f2⟩ : S45), (⟨wrap32 (a2 + 1), (rd_T45 l0 (ji20)).f1, (rd_T45 l0 (ji20)).f2⟩ : S45)] : List (S45)) : List (S45))).bind fun y236 => (if y229.length + y236.length < 8796093022208 then ((some (y229 ++ y236 : List (S45))).bind fun y239 => (if 0 ≤ (wrap64 ((ji20) + 1)) then (if (wrap64 ((ji20) + 1)) ≤ (l0.length : Int) then ((some (l0.drop ((wrap64 ((ji20) + 1)) : Int).toNat : List (S45))).bind fun y242 => (if y239.length + y242.length < 8796093022208 then ((some (y239 ++ y242 : List (S45))).bind fun y246 => ((span_Find.f y246 a2).bind fun bt249 => ((span_Find.f y246 (wrap32 (a2 + 1))).bind fun bt251 => ((span_Join.f kj13 l0).bind fun t253 => ((span_Join.f kj13 y246).bind fun t256 => (if (t253.length : Int) = (t256.length : Int) then (reedpenlaw02_SpanSplit.l0 kj13 l0 (ji20) y246 bt249.1 bt249.2 bt251.1 bt251.2 t253 t256 0) else (some false))))))) else (none))) else (none)) else (none))) else (none))) else (none)) = some r := by first | (rw [hy229]; with_reducible exact H) | (have H2_ := (Option.bind_some _ _).symm.trans H; rw [hy229]; with_reducible exact H2_) | (have H2_ := (Option.bind_some _ _).symm.trans H; with_reducible exact H2_) | with_reducible exact H | (rw [hy229]; exact H) | exact H
                        have Ny229 := Aside0.mk hy229
                        clear hy229
                        by_cases c24 : (ji20) < (l0.length : Int)
                        · rw [if_pos c24] at H
                          have c24b0 : decide ((ji20) < (l0.length : Int)) = true := decide_eq_true c24
                          clear c24
                          obtain ⟨y236, hy236⟩ : ∃ y_ : List (S45), y_ = (([(⟨(rd_T45 l0 (ji20)).f0, a2, (rd_T45 l0 (ji20)).f2⟩ : S45), (⟨wrap32 (a2 + 1), (rd_T45 l0 (ji20)).f1, (rd_T45 l0 (ji20)).f2⟩ : S45)] : List (S45))) := ⟨_, rfl⟩
                          replace H : (if y229.length + y236.length < 8796093022208 then ((some (y229 ++ y236 : List (S45))).bind fun y239 => (if 0 ≤ (wrap64 ((ji20) + 1)) then (if (wrap64 ((ji20) + 1)) ≤ (l0.length : Int) then ((some (l0.drop ((wrap64 ((ji20) + 1)) : Int).toNat : List (S45))).bind fun y242 => (if y239.length + y242.length < 8796093022208 then ((some (y239 ++ y242 : List (S45))).bind fun y246 => ((span_Find.f y246 a2).bind fun bt249 => ((span_Find.f y246 (wrap32 (a2 + 1))).bind fun bt251 => ((span_Join.f kj13 l0).bind fun t253 => ((span_Join.f kj13 y246).bind fun t256 => (if (t253.length : Int) = (t256.length : Int) then (reedpenlaw02_SpanSplit.l0 kj13 l0 (ji20) y246 bt249.1 bt249.2 bt251.1 bt251.2 t253 t256 0) else (some false))))))) else (none))) else (none)) else (none))) else (none)) = some r := by first | (rw [hy236]; with_reducible exact H) | (have H2_ := (Option.bind_some _ _).symm.trans H; rw [hy236]; with_reducible exact H2_) | (have H2_ := (Option.bind_some _ _).symm.trans H; with_reducible exact H2_) | with_reducible exact H | (rw [hy236]; exact H) | exact H
                          have Ny236 := Aside0.mk hy236
                          clear hy236
                          by_cases c25 : y229.length + y236.length < 8796093022208
                          · rw [if_pos c25] at H
                            have LMc25 := Aside0.mk c25
                            clear c25
                            obtain ⟨y239, hy239⟩ : ∃ y_ : List (S45), y_ = (y229 ++ y236) := ⟨_, rfl⟩
                            replace H : (if 0 ≤ (wrap64 ((ji20) + 1)) then (if (wrap64 ((ji20) + 1)) ≤ (l0.length : Int) then ((some (l0.drop ((wrap64 ((ji20) + 1)) : Int).toNat : List (S45))).bind fun y242 => (if y239.length + y242.length < 8796093022208 then ((some (y239 ++ y242 : List (S45))).bind fun y246 => ((span_Find.f y246 a2).bind fun bt249 => ((span_Find.f y246 (wrap32 (a2 + 1))).bind fun bt251 => ((span_Join.f kj13 l0).bind fun t253 => ((span_Join.f kj13 y246).bind fun t256 => (if (t253.length : Int) = (t256.length : Int) then (reedpenlaw02_SpanSplit.l0 kj13 l0 (ji20) y246 bt249.1 bt249.2 bt251.1 bt251.2 t253 t256 0) else (some false))))))) else (none))) else (none)) else (none)) = some r := by first | (rw [hy239]; with_reducible exact H) | (have H2_ := (Option.bind_some _ _).symm.trans H; rw [hy239]; with_reducible exact H2_) | (have H2_ := (Option.bind_some _ _).symm.trans H; with_reducible exact H2_) | with_reducible exact H | (rw [hy239]; exact H) | exact H
                            have Ny239 := Aside0.mk hy239
                            clear hy239
                            obtain ⟨ji26, hji26⟩ : ∃ j_ : Int, (wrap64 ((ji20) + 1)) = j_ := ⟨_, rfl⟩
                            replace H : (if 0 ≤ (ji26) then (if (ji26) ≤ (l0.length : Int) then ((some (l0.drop ((ji26) : Int).toNat : List (S45))).bind fun y242 => (if y239.length + y242.length < 8796093022208 then ((some (y239 ++ y242 : List (S45))).bind fun y246 => ((span_Find.f y246 a2).bind fun bt249 => ((span_Find.f y246 (wrap32 (a2 + 1))).bind fun bt251 => ((span_Join.f kj13 l0).bind fun t253 => ((span_Join.f kj13 y246).bind fun t256 => (if (t253.length : Int) = (t256.length : Int) then (reedpenlaw02_SpanSplit.l0 kj13 l0 (ji20) y246 bt249.1 bt249.2 bt251.1 bt251.2 t253 t256 0) else (some false))))))) else (none))) else (none)) else (none)) = some r := by first | (rw [hji26] at H; exact H) | (simp only [hji26] at H ⊢; exact H)
                            have hji26w : (IntKind.i64.wrap ((ji20) + 1)) = ji26 := (i64_w _).trans hji26
                            by_cases c27 : 0 ≤ (ji26)
                            · rw [if_pos c27] at H
                              have c27b0 := eq_true c27
                              have c27b1 : decide (0 ≤ (ji26)) = true := decide_eq_true c27
                              clear c27
                              by_cases c28 : (ji26) ≤ (l0.length : Int)
                              · rw [if_pos c28] at H
                                have c28b0 := eq_true c28
                                have c28b1 : decide ((ji26) ≤ (l0.length : Int)) = true := decide_eq_true c28
                                clear c28
                                obtain ⟨y242, hy242⟩ : ∃ y_ : List (S45), y_ = (l0.drop ((ji26) : Int).toNat) := ⟨_, rfl⟩
                                replace H : (if y239.length + y242.length < 8796093022208 then ((some (y239 ++ y242 : List (S45))).bind fun y246 => ((span_Find.f y246 a2).bind fun bt249 => ((span_Find.f y246 (wrap32 (a2 + 1))).bind fun bt251 => ((span_Join.f kj13 l0).bind fun t253 => ((span_Join.f kj13 y246).bind fun t256 => (if (t253.length : Int) = (t256.length : Int) then (reedpenlaw02_SpanSplit.l0 kj13 l0 (ji20) y246 bt249.1 bt249.2 bt251.1 bt251.2 t253 t256 0) else (some false))))))) else (none)) = some r := by first | (rw [hy242]; with_reducible exact H) | (have H2_ := (Option.bind_some _ _).symm.trans H; rw [hy242]; with_reducible exact H2_) | (have H2_ := (Option.bind_some _ _).symm.trans H; with_reducible exact H2_) | with_reducible exact H | (rw [hy242]; exact H) | exact H
                                have Ny242 := Aside0.mk hy242
                                clear hy242
                                by_cases c29 : y239.length + y242.length < 8796093022208
                                · rw [if_pos c29] at H
                                  have LMc29 := Aside0.mk c29
                                  clear c29
                                  obtain ⟨y246, hy246⟩ : ∃ y_ : List (S45), y_ = (y239 ++ y242) := ⟨_, rfl⟩
                                  replace H : ((span_Find.f y246 a2).bind fun bt249 => ((span_Find.f y246 (wrap32 (a2 + 1))).bind fun bt251 => ((span_Join.f kj13 l0).bind fun t253 => ((span_Join.f kj13 y246).bind fun t256 => (if (t253.length : Int) = (t256.length : Int) then (reedpenlaw02_SpanSplit.l0 kj13 l0 (ji20) y246 bt249.1 bt249.2 bt251.1 bt251.2 t253 t256 0) else (some false)))))) = some r := by first | (rw [hy246]; with_reducible exact H) | (have H2_ := (Option.bind_some _ _).symm.trans H; rw [hy246]; with_reducible exact H2_) | (have H2_ := (Option.bind_some _ _).symm.trans H; with_reducible exact H2_) | with_reducible exact H | (rw [hy246]; exact H) | exact H
                                  have Ny246 := Aside0.mk hy246
                                  clear hy246
                                  replace H := Option.bind_eq_some_iff.mp H
                                  obtain ⟨⟨t249, t250⟩, A300, H⟩ := H
                                  replace H : ((span_Find.f y246 (wrap32 (a2 + 1))).bind fun bt251 => ((span_Join.f kj13 l0).bind fun t253 => ((span_Join.f kj13 y246).bind fun t256 => (if (t253.length : Int) = (t256.length : Int) then (reedpenlaw02_SpanSplit.l0 kj13 l0 (ji20) y246 t249 t250 bt251.1 bt251.2 t253 t256 0) else (some false))))) = some r := H
                                  have A30 := Aside0.mk A300
                                  clear A300
                                  replace H := Option.bind_eq_some_iff.mp H
                                  obtain ⟨⟨t251, t252⟩, A310, H⟩ := H
                                  replace H : ((span_Join.f kj13 l0).bind fun t253 => ((span_Join.f kj13 y246).bind fun t256 => (if (t253.length : Int) = (t256.length : Int) then (reedpenlaw02_SpanSplit.l0 kj13 l0 (ji20) y246 t249 t250 t251 t252 t253 t256 0) else (some false)))) = some r := H
                                  have A31 := Aside0.mk A310
                                  clear A310
                                  replace H := Option.bind_eq_some_iff.mp H
                                  obtain ⟨t253, A320, H⟩ := H
                                  replace H : ((span_Join.f kj13 y246).bind fun t256 => (if (t253.length : Int) = (t256.length : Int) then (reedpenlaw02_SpanSplit.l0 kj13 l0 (ji20) y246 t249 t250 t251 t252 t253 t256 0) else (some false))) = some r := H
                                  have A32 := Aside0.mk A320
                                  clear A320
                                  replace H := Option.bind_eq_some_iff.mp H
                                  obtain ⟨t256, A330, H⟩ := H
                                  replace H : (if (t253.length : Int) = (t256.length : Int) then (reedpenlaw02_SpanSplit.l0 kj13 l0 (ji20) y246 t249 t250 t251 t252 t253 t256 0) else (some false)) = some r := H
                                  have A33 := Aside0.mk A330
                                  clear A330
                                  by_cases c34 : (t253.length : Int) = (t256.length : Int)
                                  · rw [if_pos c34] at H
                                    have c34b0 : ((t253.length : Int) == (t256.length : Int)) = true := beq_iff_eq.mpr c34
                                    have c34b1 : ((t253.length : Int) != (t256.length : Int)) = false := bne_eq_false_iff_eq.mpr c34
                                    have c34b2 : (t253.length == t256.length) = true := by first | simpa using c34 | (simp at c34 ⊢; omega)
                                    clear c34
                                    have H' := Aside0.mk H
                                    clear H
                                    have q35 : ((ji20) : Int) ≤ ((l0.length : Int) : Int) := of_decide_eq_true (by first | (with_reducible assumption) | assumption)
                                    obtain ⟨i035, hi035, _, hsz35, _⟩ := info_parts info45
                                    have hroom35 : l0.length ≤ c0 := HC0.out
                                    have hC35 : Kd.C k45 _ A0 l0.length l0 := HR0.out
                                    have hcut35 := cut_to (P := Try.prog) 40 45 .i64 Try.underlying40 hi035 A0 l0.length c0 (ji20) (of_decide_eq_true (by first | (with_reducible assumption) | assumption)) q35 hroom35
                                    have hr35 := Kd.C_take (m := ((ji20) : Int).toNat) hC35 (by omega)
                                    have hy35 : y225.length = ((ji20) : Int).toNat := (by rw [Ny225.out, List.length_take]; omega)
                                    rw [← Ny225.out] at hr35
                                    rw [← hy35] at hcut35
                                    have HR228 := Aside0.mk hr35
                                    have HC228 := Aside0.mk (show y225.length ≤ c0 from by omega)
                                    clear hr35 hC35 hroom35 hi035 hsz35
                                    have KY35 := Aside0.mk hy35
                                    clear hy35
                                    replace q35 := eq_true q35
                                    try go_wp2_with (first | ((with_reducible refine gate_builtin (b := .append) (xs := #[.tmp 52, .tmp 55]) rfl ?_); (try (refine gate_guard (by rfl) ?_; dsimp only)); at_builtin; refine Kd.R_append_rows k45 (w0 := w) w.heap.size rfl (.tmp 52) (.tmp 55) 40 45 (.agg #[(.int .i32 0), (.int .i32 0), (.int .i64 0)]) 16 rfl Try.underlying40 info45 rfl (by decide) (by omega) (.slice none 0 0) ([] : List (S45)) y225 _ _ _ (fun _ => True) (fun _ => False) rfl rfl ?aO ?aR (fun _ _ h => h) (fun _ h => h.elim) ?aF ?aB ?aS ?aL ?_; (case aR => repeat (first | exact (Kd.C_below HR228.out HB.out) | (with_reducible refine Kd.C_alloc ?_ _) | (with_reducible refine Kd.C_drewN ?_ _) | (with_reducible refine Kd.C_drew ?_))); (case aB => exact (by repeat (first | (with_reducible first | exact HB.out | apply below_alloc | apply pw_below_drewN | apply below_drew1) | exact HB.out))); (case aF => exact (fun _ _ => trivial)); (case aO => exact ((Kd.R_nil _ _ _ _ (fun _ => True)))); (case aS => exact (below_size (by repeat (first | (with_reducible first | exact HB.out | apply below_alloc | apply pw_below_drewN | apply below_drew1) | exact HB.out)))); (case aL => have := LMc23.out; omega); intro v230 w36 ho hb hg hat; rw [← Ny229.out] at ho; have n0_ := Aside0.mk (hb); have n1_ := Aside0.mk (ho); clear HB; have HB := n0_; have HO231 := n1_; clear n0_ n1_; clear ho hb hg hat))
                                    have n0_ := Aside0.mk (Kd.R_drew HO231.out)
                                    have n1_ := Aside0.mk (below_drew1 HB.out)
                                    clear HO231
                                    clear HB
                                    have HO231 := n0_
                                    have HB := n1_
                                    clear n0_ n1_
                                    have p232 : 0 ≤ ((ji20) : Int) := of_decide_eq_true (by first | (with_reducible assumption) | assumption)
                                    have q232 : (ji20) < (l0.length : Int) := of_decide_eq_true (by first | (with_reducible assumption) | assumption)
                                    obtain ⟨ad232, e232, hx232_0, hx232_1, hx232_2⟩ := at_T45 HR0.out (ji20) p232 q232
                                    have hw232_2 := hx232_2
                                    have hw232_1 := hx232_1
                                    have hw232_0 := hx232_0
                                    cases e232
                                    replace hx232_0 := (HB.out.cell (World.block_lt_of_cell? w _ hx232_0)).trans hx232_0
                                    replace hx232_1 := (HB.out.cell (World.block_lt_of_cell? w _ hx232_1)).trans hx232_1
                                    replace hx232_2 := (HB.out.cell (World.block_lt_of_cell? w _ hx232_2)).trans hx232_2
                                    replace p232 := eq_true p232
                                    replace q232 := eq_true q232
                                    have p233 : 0 ≤ ((ji20) : Int) := of_decide_eq_true (by first | (with_reducible assumption) | assumption)
                                    have q233 : (ji20) < (l0.length : Int) := of_decide_eq_true (by first | (with_reducible assumption) | assumption)
                                    obtain ⟨ad233, e233, hx233_0, hx233_1, hx233_2⟩ := at_T45 HR0.out (ji20) p233 q233
                                    have hw233_2 := hx233_2
                                    have hw233_1 := hx233_1
                                    have hw233_0 := hx233_0
                                    obtain rfl : ad232 = ad233 := (by injection e233)
                                    replace hx233_0 := (HB.out.cell (World.block_lt_of_cell? w _ hx233_0)).trans hx233_0
                                    replace hx233_1 := (HB.out.cell (World.block_lt_of_cell? w _ hx233_1)).trans hx233_1
                                    replace hx233_2 := (HB.out.cell (World.block_lt_of_cell? w _ hx233_2)).trans hx233_2
                                    replace p233 := eq_true p233
                                    replace q233 := eq_true q233
                                    have p234 : 0 ≤ ((ji20) : Int) := of_decide_eq_true (by first | (with_reducible assumption) | assumption)
                                    have q234 : (ji20) < (l0.length : Int) := of_decide_eq_true (by first | (with_reducible assumption) | assumption)
                                    obtain ⟨ad234, e234, hx234_0, hx234_1, hx234_2⟩ := at_T45 HR0.out (ji20) p234 q234
                                    have hw234_2 := hx234_2
                                    have hw234_1 := hx234_1
                                    have hw234_0 := hx234_0
                                    obtain rfl : ad232 = ad234 := (by injection e234)
                                    replace hx234_0 := (HB.out.cell (World.block_lt_of_cell? w _ hx234_0)).trans hx234_0
                                    replace hx234_1 := (HB.out.cell (World.block_lt_of_cell? w _ hx234_1)).trans hx234_1
                                    replace hx234_2 := (HB.out.cell (World.block_lt_of_cell? w _ hx234_2)).trans hx234_2
                                    replace p234 := eq_true p234
                                    replace q234 := eq_true q234
                                    have p235 : 0 ≤ ((ji20) : Int) := of_decide_eq_true (by first | (with_reducible assumption) | assumption)
                                    have q235 : (ji20) < (l0.length : Int) := of_decide_eq_true (by first | (with_reducible assumption) | assumption)
                                    obtain ⟨ad235, e235, hx235_0, hx235_1, hx235_2⟩ := at_T45 HR0.out (ji20) p235 q235
                                    have hw235_2 := hx235_2
                                    have hw235_1 := hx235_1
                                    have hw235_0 := hx235_0
                                    obtain rfl : ad232 = ad235 := (by injection e235)
                                    replace hx235_0 := (HB.out.cell (World.block_lt_of_cell? w _ hx235_0)).trans hx235_0
                                    replace hx235_1 := (HB.out.cell (World.block_lt_of_cell? w _ hx235_1)).trans hx235_1
                                    replace hx235_2 := (HB.out.cell (World.block_lt_of_cell? w _ hx235_2)).trans hx235_2
                                    replace p235 := eq_true p235
                                    replace q235 := eq_true q235
                                    refine start_ (n := 29) (S := fun w' => w'.cell? (ad232.add (((ji20)).toNat * 3)) = some (.int .i32 ((rd_T45 l0 (ji20)).f0)) ∧ w'.cell? ⟨(ad232.add (((ji20)).toNat * 3)).block, (ad232.add (((ji20)).toNat * 3)).off + 1, none⟩ = some (.int .i32 ((rd_T45 l0 (ji20)).f1)) ∧ w'.cell? ⟨(ad232.add (((ji20)).toNat * 3)).block, (ad232.add (((ji20)).toNat * 3)).off + 2, none⟩ = some (.int .i64 ((rd_T45 l0 (ji20)).f2)) ∧ w'.cell? (ad232.add (((ji20)).toNat * 3)) = some (.int .i32 ((rd_T45 l0 (ji20)).f0)) ∧ w'.cell? ⟨(ad232.add (((ji20)).toNat * 3)).block, (ad232.add (((ji20)).toNat * 3)).off + 1, none⟩ = some (.int .i32 ((rd_T45 l0 (ji20)).f1)) ∧ w'.cell? ⟨(ad232.add (((ji20)).toNat * 3)).block, (ad232.add (((ji20)).toNat * 3)).off + 2, none⟩ = some (.int .i64 ((rd_T45 l0 (ji20)).f2)) ∧ w'.cell? (ad232.add (((ji20)).toNat * 3)) = some (.int .i32 ((rd_T45 l0 (ji20)).f0)) ∧ w'.cell? ⟨(ad232.add (((ji20)).toNat * 3)).block, (ad232.add (((ji20)).toNat * 3)).off + 1, none⟩ = some (.int .i32 ((rd_T45 l0 (ji20)).f1)) ∧ w'.cell? ⟨(ad232.add (((ji20)).toNat * 3)).block, (ad232.add (((ji20)).toNat * 3)).off + 2, none⟩ = some (.int .i64 ((rd_T45 l0 (ji20)).f2)) ∧ w'.cell? (ad232.add (((ji20)).toNat * 3)) = some (.int .i32 ((rd_T45 l0 (ji20)).f0)) ∧ w'.cell? ⟨(ad232.add (((ji20)).toNat * 3)).block, (ad232.add (((ji20)).toNat * 3)).off + 1, none⟩ = some (.int .i32 ((rd_T45 l0 (ji20)).f1)) ∧ w'.cell? ⟨(ad232.add (((ji20)).toNat * 3)).block, (ad232.add (((ji20)).toNat * 3)).off + 2, none⟩ = some (.int .i64 ((rd_T45 l0 (ji20)).f2))) (ds := []) #[false, false, false, false, false, false, false, false, false, false, false, false, false, false, false, false, false, false, false, false, false, false, false, false, false, false, false, false, false] (by kernel_rfl) rfl rfl ⟨((HB.out.cell (World.block_lt_of_cell? w _ hw232_0)).trans hw232_0), ((HB.out.cell (World.block_lt_of_cell? w _ hw232_1)).trans hw232_1), ((HB.out.cell (World.block_lt_of_cell? w _ hw232_2)).trans hw232_2), ((HB.out.cell (World.block_lt_of_cell? w _ hw233_0)).trans hw233_0), ((HB.out.cell (World.block_lt_of_cell? w _ hw233_1)).trans hw233_1), ((HB.out.cell (World.block_lt_of_cell? w _ hw233_2)).trans hw233_2), ((HB.out.cell (World.block_lt_of_cell? w _ hw234_0)).trans hw234_0), ((HB.out.cell (World.block_lt_of_cell? w _ hw234_1)).trans hw234_1), ((HB.out.cell (World.block_lt_of_cell? w _ hw234_2)).trans hw234_2), ((HB.out.cell (World.block_lt_of_cell? w _ hw235_0)).trans hw235_0), ((HB.out.cell (World.block_lt_of_cell? w _ hw235_1)).trans hw235_1), ((HB.out.cell (World.block_lt_of_cell? w _ hw235_2)).trans hw235_2)⟩ (fun hHeld => ?_); refine with_tabW reedpenlaw02_SpanSplit.tab10 reedpenlaw02_SpanSplit.bits10 (fun HT_ HW_ => ?_)
                                    generalize w36.drew = w37 at HO231 HB hx232_0 hx232_1 hx232_2 hx233_0 hx233_1 hx233_2 hx234_0 hx234_1 hx234_2 hx235_0 hx235_1 hx235_2 hHeld ⊢
                                    refine pure_ (i := 0) (N := some 57) (v := ?_) (a' := ?_) #[true, false, false, false, false, false, false, false, false, false, false, false, false, false, false, false, false, false, false, false, false, false, false, false, false, false, false, false, false] rfl rfl (any_of HT_.out (by kernel_rfl)) (fun _ _ _ h => h) (Or.inl ⟨by rfl, ?_⟩) ?_ ?_
                                    rotate_left
                                    · intro w'
                                      go_simp
                                      with_reducible rfl
                                    rotate_left
                                    · simp only [Act.put, List.setIfInBounds_toArray, List.set_cons_zero, List.set_cons_succ, i64_w, i32_w]
                                      rfl
                                    refine pure_ (i := 1) (N := some 58) (v := ?_) (a' := ?_) #[true, true, false, false, false, false, false, false, false, false, false, false, false, false, false, false, false, false, false, false, false, false, false, false, false, false, false, false, false] rfl rfl (any_of HT_.out (by kernel_rfl)) (fun _ _ _ h => h) (Or.inl ⟨by rfl, ?_⟩) ?_ ?_
                                    rotate_left
                                    · intro w'
                                      go_simp
                                      with_reducible rfl
                                    rotate_left
                                    · simp only [Act.put, List.setIfInBounds_toArray, List.set_cons_zero, List.set_cons_succ, i64_w, i32_w]
                                      rfl
                                    refine pure_ (i := 2) (N := some 59) (v := ?_) (a' := ?_) #[true, true, true, false, false, false, false, false, false, false, false, false, false, false, false, false, false, false, false, false, false, false, false, false, false, false, false, false, false] rfl rfl (any_of HT_.out (by kernel_rfl)) (fun _ _ _ h => h) (Or.inl ⟨by rfl, ?_⟩) ?_ ?_
                                    rotate_left
                                    · intro w'
                                      go_simp
                                      with_reducible rfl
                                    rotate_left
                                    · simp only [Act.put, List.setIfInBounds_toArray, List.set_cons_zero, List.set_cons_succ, i64_w, i32_w]
                                      rfl
                                    refine pure_ (i := 3) (N := some 60) (v := ?_) (a' := ?_) #[true, true, true, true, false, false, false, false, false, false, false, false, false, false, false, false, false, false, false, false, false, false, false, false, false, false, false, false, false] rfl rfl (any_of HT_.out (by kernel_rfl)) (fun _ _ _ h => h) (Or.inl ⟨by rfl, ?_⟩) ?_ ?_
                                    rotate_left
                                    · intro w'
                                      go_simp
                                      with_reducible rfl
                                    rotate_left
                                    · simp only [Act.put, List.setIfInBounds_toArray, List.set_cons_zero, List.set_cons_succ, i64_w, i32_w]
                                      rfl
                                    refine pure_ (i := 4) (N := some 61) (v := ?_) (a' := ?_) #[true, true, true, true, true, false, false, false, false, false, false, false, false, false, false, false, false, false, false, false, false, false, false, false, false, false, false, false, false] rfl rfl (any_of HT_.out (by kernel_rfl)) (fun _ _ _ h => h) (Or.inl ⟨by rfl, ?_⟩) ?_ ?_
                                    rotate_left
                                    · intro w'
                                      go_simp
                                      with_reducible rfl
                                    rotate_left
                                    · simp only [Act.put, List.setIfInBounds_toArray, List.set_cons_zero, List.set_cons_succ, i64_w, i32_w]
                                      rfl
                                    refine pure_ (i := 6) (N := some 63) (v := ?_) (a' := ?_) #[true, true, true, true, true, false, true, false, false, false, false, false, false, false, false, false, false, false, false, false, false, false, false, false, false, false, false, false, false] rfl rfl (any_of HT_.out (by kernel_rfl)) (fun _ _ _ h => h) (Or.inl ⟨by rfl, ?_⟩) ?_ ?_
                                    rotate_left
                                    · intro w'
                                      go_simp
                                      with_reducible rfl
                                    rotate_left
                                    · simp only [Act.put, List.setIfInBounds_toArray, List.set_cons_zero, List.set_cons_succ, i64_w, i32_w]
                                      rfl
                                    refine pure_ (i := 7) (N := some 64) (v := ?_) (a' := ?_) #[true, true, true, true, true, false, true, true, false, false, false, false, false, false, false, false, false, false, false, false, false, false, false, false, false, false, false, false, false] rfl rfl (any_of HT_.out (by kernel_rfl)) (fun _ _ _ h => h) (Or.inl ⟨by rfl, ?_⟩) ?_ ?_
                                    rotate_left
                                    · intro w'
                                      go_simp
                                      with_reducible rfl
                                    rotate_left
                                    · simp only [Act.put, List.setIfInBounds_toArray, List.set_cons_zero, List.set_cons_succ, i64_w, i32_w]
                                      rfl
                                    refine pure_ (i := 8) (N := some 65) (v := ?_) (a' := ?_) #[true, true, true, true, true, false, true, true, true, false, false, false, false, false, false, false, false, false, false, false, false, false, false, false, false, false, false, false, false] rfl rfl (any_of HT_.out (by kernel_rfl)) (fun _ _ _ h => h) (Or.inl ⟨by rfl, ?_⟩) ?_ ?_
                                    rotate_left
                                    · intro w'
                                      go_simp
                                      with_reducible rfl
                                    rotate_left
                                    · simp only [Act.put, List.setIfInBounds_toArray, List.set_cons_zero, List.set_cons_succ, i64_w, i32_w]
                                      rfl
                                    refine pure_ (i := 9) (N := some 66) (v := ?_) (a' := ?_) #[true, true, true, true, true, false, true, true, true, true, false, false, false, false, false, false, false, false, false, false, false, false, false, false, false, false, false, false, false] rfl rfl (any_of HT_.out (by kernel_rfl)) (fun _ _ _ h => h) (Or.inl ⟨by rfl, ?_⟩) ?_ ?_
                                    rotate_left
                                    · intro w'
                                      go_simp
                                      with_reducible rfl
                                    rotate_left
                                    · simp only [Act.put, List.setIfInBounds_toArray, List.set_cons_zero, List.set_cons_succ, i64_w, i32_w]
                                      rfl
                                    refine pure_ (i := 10) (N := some 67) (v := ?_) (a' := ?_) #[true, true, true, true, true, false, true, true, true, true, true, false, false, false, false, false, false, false, false, false, false, false, false, false, false, false, false, false, false] rfl rfl (any_of HT_.out (by kernel_rfl)) (fun _ _ _ h => h) (Or.inl ⟨by rfl, ?_⟩) ?_ ?_
                                    rotate_left
                                    · intro w'
                                      go_simp
                                      with_reducible rfl
                                    rotate_left
                                    · simp only [Act.put, List.setIfInBounds_toArray, List.set_cons_zero, List.set_cons_succ, i64_w, i32_w]
                                      rfl
                                    refine pure_ (i := 13) (N := some 70) (v := ?_) (a' := ?_) #[true, true, true, true, true, false, true, true, true, true, true, false, false, true, false, false, false, false, false, false, false, false, false, false, false, false, false, false, false] rfl rfl (any_of HT_.out (by kernel_rfl)) (fun _ _ _ h => h) (Or.inl ⟨by rfl, ?_⟩) ?_ ?_
                                    rotate_left
                                    · intro w'
                                      go_simp
                                      with_reducible rfl
                                    rotate_left
                                    · simp only [Act.put, List.setIfInBounds_toArray, List.set_cons_zero, List.set_cons_succ, i64_w, i32_w]
                                      rfl
                                    refine pure_ (i := 14) (N := some 71) (v := ?_) (a' := ?_) #[true, true, true, true, true, false, true, true, true, true, true, false, false, true, true, false, false, false, false, false, false, false, false, false, false, false, false, false, false] rfl rfl (any_of HT_.out (by kernel_rfl)) (fun _ _ _ h => h) (Or.inl ⟨by rfl, ?_⟩) ?_ ?_
                                    rotate_left
                                    · intro w'
                                      go_simp
                                      with_reducible rfl
                                    rotate_left
                                    · simp only [Act.put, List.setIfInBounds_toArray, List.set_cons_zero, List.set_cons_succ, i64_w, i32_w]
                                      rfl
                                    refine pure_ (i := 15) (N := some 72) (v := ?_) (a' := ?_) #[true, true, true, true, true, false, true, true, true, true, true, false, false, true, true, true, false, false, false, false, false, false, false, false, false, false, false, false, false] rfl rfl (any_of HT_.out (by kernel_rfl)) (fun _ _ _ h => h) (Or.inl ⟨by rfl, ?_⟩) ?_ ?_
                                    rotate_left
                                    · intro w'
                                      go_simp
                                      with_reducible rfl
                                    rotate_left
                                    · simp only [Act.put, List.setIfInBounds_toArray, List.set_cons_zero, List.set_cons_succ, i64_w, i32_w]
                                      rfl
                                    refine pure_ (i := 16) (N := some 73) (v := ?_) (a' := ?_) #[true, true, true, true, true, false, true, true, true, true, true, false, false, true, true, true, true, false, false, false, false, false, false, false, false, false, false, false, false] rfl rfl (any_of HT_.out (by kernel_rfl)) (fun _ _ _ h => h) (Or.inl ⟨by rfl, ?_⟩) ?_ ?_
                                    rotate_left
                                    · intro w'
                                      go_simp
                                      with_reducible rfl
                                    rotate_left
                                    · simp only [Act.put, List.setIfInBounds_toArray, List.set_cons_zero, List.set_cons_succ, i64_w, i32_w]
                                      rfl
                                    refine pure_ (i := 17) (N := some 74) (v := ?_) (a' := ?_) #[true, true, true, true, true, false, true, true, true, true, true, false, false, true, true, true, true, true, false, false, false, false, false, false, false, false, false, false, false] rfl rfl (any_of HT_.out (by kernel_rfl)) (fun _ _ _ h => h) (Or.inl ⟨by rfl, ?_⟩) ?_ ?_
                                    rotate_left
                                    · intro w'
                                      go_simp
                                      with_reducible rfl
                                    rotate_left
                                    · simp only [Act.put, List.setIfInBounds_toArray, List.set_cons_zero, List.set_cons_succ, i64_w, i32_w]
                                      rfl
                                    refine pure_ (i := 18) (N := some 75) (v := ?_) (a' := ?_) #[true, true, true, true, true, false, true, true, true, true, true, false, false, true, true, true, true, true, true, false, false, false, false, false, false, false, false, false, false] rfl rfl (any_of HT_.out (by kernel_rfl)) (fun _ _ _ h => h) (Or.inl ⟨by rfl, ?_⟩) ?_ ?_
                                    rotate_left
                                    · intro w'
                                      go_simp
                                      with_reducible rfl
                                    rotate_left
                                    · simp only [Act.put, List.setIfInBounds_toArray, List.set_cons_zero, List.set_cons_succ, i64_w, i32_w]
                                      rfl
                                    refine pure_ (i := 20) (N := some 77) (v := ?_) (a' := ?_) #[true, true, true, true, true, false, true, true, true, true, true, false, false, true, true, true, true, true, true, false, true, false, false, false, false, false, false, false, false] rfl rfl (any_of HT_.out (by kernel_rfl)) (fun _ _ _ h => h) (Or.inl ⟨by rfl, ?_⟩) ?_ ?_
                                    rotate_left
                                    · intro w'
                                      go_simp
                                      with_reducible rfl
                                    rotate_left
                                    · simp only [Act.put, List.setIfInBounds_toArray, List.set_cons_zero, List.set_cons_succ, i64_w, i32_w]
                                      rfl
                                    refine pure_ (i := 21) (N := some 78) (v := ?_) (a' := ?_) #[true, true, true, true, true, false, true, true, true, true, true, false, false, true, true, true, true, true, true, false, true, true, false, false, false, false, false, false, false] rfl rfl (any_of HT_.out (by kernel_rfl)) (fun _ _ _ h => h) (Or.inl ⟨by rfl, ?_⟩) ?_ ?_
                                    rotate_left
                                    · intro w'
                                      go_simp
                                      with_reducible rfl
                                    rotate_left
                                    · simp only [Act.put, List.setIfInBounds_toArray, List.set_cons_zero, List.set_cons_succ, i64_w, i32_w]
                                      rfl
                                    refine pure_ (i := 22) (N := some 79) (v := ?_) (a' := ?_) #[true, true, true, true, true, false, true, true, true, true, true, false, false, true, true, true, true, true, true, false, true, true, true, false, false, false, false, false, false] rfl rfl (any_of HT_.out (by kernel_rfl)) (fun _ _ _ h => h) (Or.inl ⟨by rfl, ?_⟩) ?_ ?_
                                    rotate_left
                                    · intro w'
                                      go_simp
                                      with_reducible rfl
                                    rotate_left
                                    · simp only [Act.put, List.setIfInBounds_toArray, List.set_cons_zero, List.set_cons_succ, i64_w, i32_w]
                                      rfl
                                    refine pure_ (i := 23) (N := some 80) (v := ?_) (a' := ?_) #[true, true, true, true, true, false, true, true, true, true, true, false, false, true, true, true, true, true, true, false, true, true, true, true, false, false, false, false, false] rfl rfl (any_of HT_.out (by kernel_rfl)) (fun _ _ _ h => h) (Or.inl ⟨by rfl, ?_⟩) ?_ ?_
                                    rotate_left
                                    · intro w'
                                      go_simp
                                      with_reducible rfl
                                    rotate_left
                                    · simp only [Act.put, List.setIfInBounds_toArray, List.set_cons_zero, List.set_cons_succ, i64_w, i32_w]
                                      rfl
                                    refine take_ (i := 5) (N := some 62) (v := ?_) (a' := ?_) #[true, true, true, true, true, true, true, true, true, true, true, false, false, true, true, true, true, true, true, false, true, true, true, true, false, false, false, false, false] rfl rfl (take_ofW HT_.out HW_.out (by kernel_rfl)) (fun _ _ _ h => h) (Or.inl ⟨by rfl, ?_⟩) hHeld ?_ ?_
                                    rotate_left
                                    · rintro w' ⟨s0, s1, s2, s3, s4, s5, s6, s7, s8, s9, s10, s11⟩
                                      go_simp
                                      with_reducible rfl
                                    rotate_left
                                    · simp only [Act.put, List.setIfInBounds_toArray, List.set_cons_zero, List.set_cons_succ, i64_w, i32_w]
                                      rfl
                                    refine take_ (i := 11) (N := some 68) (v := ?_) (a' := ?_) #[true, true, true, true, true, true, true, true, true, true, true, true, false, true, true, true, true, true, true, false, true, true, true, true, false, false, false, false, false] rfl rfl (take_ofW HT_.out HW_.out (by kernel_rfl)) (fun _ _ _ h => h) (Or.inl ⟨by rfl, ?_⟩) hHeld ?_ ?_
                                    rotate_left
                                    · rintro w' ⟨s0, s1, s2, s3, s4, s5, s6, s7, s8, s9, s10, s11⟩
                                      go_simp
                                      with_reducible rfl
                                    rotate_left
                                    · simp only [Act.put, List.setIfInBounds_toArray, List.set_cons_zero, List.set_cons_succ, i64_w, i32_w]
                                      rfl
                                    refine pure_ (i := 12) (N := some 69) (v := ?_) (a' := ?_) #[true, true, true, true, true, true, true, true, true, true, true, true, true, true, true, true, true, true, true, false, true, true, true, true, false, false, false, false, false] rfl rfl (any_of HT_.out (by kernel_rfl)) (fun _ _ _ h => h) (Or.inl ⟨by rfl, ?_⟩) ?_ ?_
                                    rotate_left
                                    · intro w'
                                      go_simp
                                      with_reducible rfl
                                    rotate_left
                                    · simp only [Act.put, List.setIfInBounds_toArray, List.set_cons_zero, List.set_cons_succ, i64_w, i32_w]
                                      rfl
                                    refine take_ (i := 19) (N := some 76) (v := ?_) (a' := ?_) #[true, true, true, true, true, true, true, true, true, true, true, true, true, true, true, true, true, true, true, true, true, true, true, true, false, false, false, false, false] rfl rfl (take_ofW HT_.out HW_.out (by kernel_rfl)) (fun _ _ _ h => h) (Or.inl ⟨by rfl, ?_⟩) hHeld ?_ ?_
                                    rotate_left
                                    · rintro w' ⟨s0, s1, s2, s3, s4, s5, s6, s7, s8, s9, s10, s11⟩
                                      go_simp
                                      with_reducible rfl
                                    rotate_left
                                    · simp only [Act.put, List.setIfInBounds_toArray, List.set_cons_zero, List.set_cons_succ, i64_w, i32_w]
                                      rfl
                                    refine take_ (i := 24) (N := some 81) (v := ?_) (a' := ?_) #[true, true, true, true, true, true, true, true, true, true, true, true, true, true, true, true, true, true, true, true, true, true, true, true, true, false, false, false, false] rfl rfl (take_ofW HT_.out HW_.out (by kernel_rfl)) (fun _ _ _ h => h) (Or.inl ⟨by rfl, ?_⟩) hHeld ?_ ?_
                                    rotate_left
                                    · rintro w' ⟨s0, s1, s2, s3, s4, s5, s6, s7, s8, s9, s10, s11⟩
                                      go_simp
                                      with_reducible rfl
                                    rotate_left
                                    · simp only [Act.put, List.setIfInBounds_toArray, List.set_cons_zero, List.set_cons_succ, i64_w, i32_w]
                                      rfl
                                    refine pure_ (i := 25) (N := some 82) (v := ?_) (a' := ?_) #[true, true, true, true, true, true, true, true, true, true, true, true, true, true, true, true, true, true, true, true, true, true, true, true, true, true, false, false, false] rfl rfl (any_of HT_.out (by kernel_rfl)) (fun _ _ _ h => h) (Or.inl ⟨by rfl, ?_⟩) ?_ ?_
                                    rotate_left
                                    · intro w'
                                      go_simp
                                      with_reducible rfl
                                    rotate_left
                                    · simp only [Act.put, List.setIfInBounds_toArray, List.set_cons_zero, List.set_cons_succ, i64_w, i32_w]
                                      rfl
                                    refine one_ (i := 26) (N := some 83) #[true, true, true, true, true, true, true, true, true, true, true, true, true, true, true, true, true, true, true, true, true, true, true, true, true, true, true, false, false] rfl rfl (one_of HT_.out (by kernel_rfl)) (by decide) (fun K hK => ?_)
                                    refine Kd.R_lit_step k45 _ 45 ?hg (N := 83) ?hd (xs := ([(⟨(rd_T45 l0 (ji20)).f0, a2, (rd_T45 l0 (ji20)).f2⟩ : S45), (⟨wrap32 (a2 + 1), (rd_T45 l0 (ji20)).f1, (rd_T45 l0 (ji20)).f2⟩ : S45)] : List (S45))) (inner := [.int .i32 ((rd_T45 l0 (ji20)).f0), .int .i32 a2, .int .i64 ((rd_T45 l0 (ji20)).f2), .int .i32 (wrap32 (a2 + 1)), .int .i32 ((rd_T45 l0 (ji20)).f1), .int .i64 ((rd_T45 l0 (ji20)).f2)]) (ok := fun _ => True) (okp := fun _ => True) ?hr ?hp (fun _ hk => hk) trivial (Below.refl _ _) (Nat.le_refl _) (by simp) ?_; (case hd => rfl); (case hg => rfl); (case hr => first | (go_simp; done) | (go_simp; rfl)); (case hp => exact (Reps.c3 (show Kd.M k45 _ _ _ (⟨(rd_T45 l0 (ji20)).f0, a2, (rd_T45 l0 (ji20)).f2⟩ : S45) [.int .i32 ((rd_T45 l0 (ji20)).f0), .int .i32 a2, .int .i64 ((rd_T45 l0 (ji20)).f2)] from (k45_mkM _ _ _ (⟨(rd_T45 l0 (ji20)).f0, a2, (rd_T45 l0 (ji20)).f2⟩ : S45) )) (Reps.c3 (show Kd.M k45 _ _ _ (⟨wrap32 (a2 + 1), (rd_T45 l0 (ji20)).f1, (rd_T45 l0 (ji20)).f2⟩ : S45) [.int .i32 (wrap32 (a2 + 1)), .int .i32 ((rd_T45 l0 (ji20)).f1), .int .i64 ((rd_T45 l0 (ji20)).f2)] from (k45_mkM _ _ _ (⟨wrap32 (a2 + 1), (rd_T45 l0 (ji20)).f1, (rd_T45 l0 (ji20)).f2⟩ : S45) )) (Reps.none _ _))))
                                    intro v237 w38 ho39 hb hg_ hnew_
                                    clear hg_ hnew_
                                    (first | rw [← Ny236.out] at ho39 | (simp only [Int.reduceToNat] at ho39; rw [← Ny236.out] at ho39))
                                    have n0_ := Aside0.mk (Kd.R_elder' (by (with_reducible repeat (first | apply Kd.R_alloc | apply Kd.R_drewN | apply Kd.R_drew)); exact HO231.out) (Kd.R_base ho39) hb)
                                    have n1_ := Aside0.mk (Kd.R_lower (Kd.R_new' ho39 (Kd.R_lt (by (with_reducible repeat (first | apply Kd.R_alloc | apply Kd.R_drewN | apply Kd.R_drew)); exact HO231.out))) (below_size (by repeat (first | (with_reducible first | exact HB.out | apply below_alloc | apply pw_below_drewN | apply below_drew1) | exact HB.out))))
                                    have n2_ := Aside0.mk (below_step (by repeat (first | (with_reducible first | exact HB.out | apply below_alloc | apply pw_below_drewN | apply below_drew1) | exact HB.out)) hb)
                                    clear HO231
                                    clear HB
                                    have HO231 := n0_
                                    have HO238 := n1_
                                    have HB := n2_
                                    clear n0_ n1_ n2_
                                    clear hb ho39
                                    obtain ⟨Ao41, co41, eo41⟩ := Kd.R_slice HO238.out
                                    (first | subst eo41 | (injection eo41 with f1_ f2_ f3_; have f4_ := f1_.symm; have f5_ := f3_.symm; clear f1_ f2_ f3_; subst f4_; subst f5_))
                                    refine hK.out _ _ ⟨((HB.out.cell (World.block_lt_of_cell? w _ hw232_0)).trans hw232_0), ((HB.out.cell (World.block_lt_of_cell? w _ hw232_1)).trans hw232_1), ((HB.out.cell (World.block_lt_of_cell? w _ hw232_2)).trans hw232_2), ((HB.out.cell (World.block_lt_of_cell? w _ hw233_0)).trans hw233_0), ((HB.out.cell (World.block_lt_of_cell? w _ hw233_1)).trans hw233_1), ((HB.out.cell (World.block_lt_of_cell? w _ hw233_2)).trans hw233_2), ((HB.out.cell (World.block_lt_of_cell? w _ hw234_0)).trans hw234_0), ((HB.out.cell (World.block_lt_of_cell? w _ hw234_1)).trans hw234_1), ((HB.out.cell (World.block_lt_of_cell? w _ hw234_2)).trans hw234_2), ((HB.out.cell (World.block_lt_of_cell? w _ hw235_0)).trans hw235_0), ((HB.out.cell (World.block_lt_of_cell? w _ hw235_1)).trans hw235_1), ((HB.out.cell (World.block_lt_of_cell? w _ hw235_2)).trans hw235_2)⟩ (fun hHeld => ?_)
                                    clear hK K
                                    refine norm_ (a' := ?_) ?_ ?_
                                    rotate_left
                                    · show Act.put _ (some 83) _ = _
                                      simp only [Act.put, List.setIfInBounds_toArray, List.set_cons_zero, List.set_cons_succ, i64_w, i32_w]
                                      rfl
                                    refine one_ (i := 27) (N := some 84) #[true, true, true, true, true, true, true, true, true, true, true, true, true, true, true, true, true, true, true, true, true, true, true, true, true, true, true, true, false] rfl rfl (one_of HT_.out (by kernel_rfl)) (by decide) (fun K hK => ?_)
                                    refine Kd.R_append_rows_step k45 (w0 := w) w.heap.size (by rfl) (.tmp 57) (.tmp 83) 40 45 (.agg #[(.int .i32 0), (.int .i32 0), (.int .i64 0)]) 16 rfl Try.underlying40 info45 rfl (by decide) (by omega) v230 y229 y236 _ _ _ (fun k_ => some k_ ≠ (.slice Ao41 y236.length co41 : Value).ownBlock) (fun _ => False) rfl rfl ?aO ?aR (fun _ _ h => h) (fun _ h => h.elim) ?aF ?aB ?aS ?aL ?_
                                    (case aR => repeat (first | exact (Kd.R_reads' HO238.out).2.2 | (with_reducible refine Kd.C_alloc ?_ _) | (with_reducible refine Kd.C_drewN ?_ _) | (with_reducible refine Kd.C_drew ?_)))
                                    (case aB => exact (by repeat (first | (with_reducible first | exact HB.out | apply below_alloc | apply pw_below_drewN | apply below_drew1) | exact HB.out)))
                                    (case aF => exact (fun k_ hk => Kd.fresh' (Kd.R_lt (by (with_reducible repeat (first | apply Kd.R_alloc | apply Kd.R_drewN | apply Kd.R_drew)); exact HO238.out)) k_ hk))
                                    (case aO => exact (by (with_reducible repeat (first | apply Kd.R_alloc | apply Kd.R_drewN | apply Kd.R_drew)); exact Kd.R_mono HO231.out (fun _ hk => hk.2)))
                                    (case aS => exact (below_size (by repeat (first | (with_reducible first | exact HB.out | apply below_alloc | apply pw_below_drewN | apply below_drew1) | exact HB.out))))
                                    (case aL => have := LMc25.out; omega)
                                    intro v240 w40 ho hb hg hat
                                    rw [← Ny239.out] at ho
                                    have n0_ := Aside0.mk (Kd.R_after (ok := (fun _ => True)) (by (with_reducible repeat (first | apply Kd.R_alloc | apply Kd.R_drewN | apply Kd.R_drew)); exact HO238.out) hg hat)
                                    have n1_ := Aside0.mk (hb)
                                    have n2_ := Aside0.mk (ho)
                                    clear HO238
                                    clear HB
                                    clear HO231
                                    have HO238 := n0_
                                    have HB := n1_
                                    have HO241 := n2_
                                    clear n0_ n1_ n2_
                                    clear ho hb hg hat
                                    refine hK.out _ _ ⟨((HB.out.cell (World.block_lt_of_cell? w _ hw232_0)).trans hw232_0), ((HB.out.cell (World.block_lt_of_cell? w _ hw232_1)).trans hw232_1), ((HB.out.cell (World.block_lt_of_cell? w _ hw232_2)).trans hw232_2), ((HB.out.cell (World.block_lt_of_cell? w _ hw233_0)).trans hw233_0), ((HB.out.cell (World.block_lt_of_cell? w _ hw233_1)).trans hw233_1), ((HB.out.cell (World.block_lt_of_cell? w _ hw233_2)).trans hw233_2), ((HB.out.cell (World.block_lt_of_cell? w _ hw234_0)).trans hw234_0), ((HB.out.cell (World.block_lt_of_cell? w _ hw234_1)).trans hw234_1), ((HB.out.cell (World.block_lt_of_cell? w _ hw234_2)).trans hw234_2), ((HB.out.cell (World.block_lt_of_cell? w _ hw235_0)).trans hw235_0), ((HB.out.cell (World.block_lt_of_cell? w _ hw235_1)).trans hw235_1), ((HB.out.cell (World.block_lt_of_cell? w _ hw235_2)).trans hw235_2)⟩ (fun hHeld => ?_)
                                    clear hK K
                                    refine norm_ (a' := ?_) ?_ ?_
                                    rotate_left
                                    · show Act.put _ (some 84) _ = _
                                      simp only [Act.put, List.setIfInBounds_toArray, List.set_cons_zero, List.set_cons_succ, i64_w, i32_w]
                                      rfl
                                    refine pure_ (i := 28) (N := some 8) (v := ?_) (a' := ?_) #[true, true, true, true, true, true, true, true, true, true, true, true, true, true, true, true, true, true, true, true, true, true, true, true, true, true, true, true, true] rfl rfl (any_of HT_.out (by kernel_rfl)) (fun _ _ _ h => h) (Or.inl ⟨by rfl, ?_⟩) ?_ ?_
                                    rotate_left
                                    · intro w'
                                      go_simp
                                      with_reducible rfl
                                    rotate_left
                                    · simp only [Act.put, List.setIfInBounds_toArray, List.set_cons_zero, List.set_cons_succ, i64_w, i32_w]
                                      rfl
                                    refine done_ (done_of HT_.out (by kernel_rfl)) ?_
                                    have q42 : ((ji26) : Int) ≤ ((l0.length : Int) : Int) := of_decide_eq_true (by first | (with_reducible assumption) | assumption)
                                    obtain ⟨i042, hi042, _, hsz42, _⟩ := info_parts info45
                                    have hroom42 : l0.length ≤ c0 := HC0.out
                                    have hC42 : Kd.C k45 _ (some ad232) l0.length l0 := HR0.out
                                    have q042 : (0 : Int) ≤ ((ji26) : Int) := of_decide_eq_true (by first | (with_reducible assumption) | assumption)
                                    have hcut42 := cut_from (P := Try.prog) 40 45 .i64 Try.underlying40 hi042 3 hsz42 (some ad232) l0.length c0 (ji26) q042 q42
                                    have hr42 := Kd.C_drop (m := ((ji26) : Int).toNat) (c := c0) hC42 (by omega) hroom42
                                    obtain ⟨A42, hA42⟩ : ∃ A1, A1 = (if c0 = ((ji26) : Int).toNat then (some ad232) else ((some ad232) : Option Addr).map (·.add (((ji26) : Int).toNat * 3))) := ⟨_, rfl⟩
                                    obtain ⟨c42, hc42⟩ : ∃ c1, c1 = c0 - ((ji26) : Int).toNat := ⟨_, rfl⟩
                                    have hy42 : y242.length = l0.length - ((ji26) : Int).toNat := (by rw [Ny242.out, List.length_drop] <;> omega)
                                    rw [show (l0).drop ((ji26) : Int).toNat = y242 from Ny242.out.symm] at hr42
                                    replace hr42 : Kd.C k45 _ A42 y242.length y242 := (by rw [hA42]; exact hr42)
                                    rw [← hy42, ← hA42, ← hc42] at hcut42
                                    have HR245 := Aside0.mk hr42
                                    have HC245 := Aside0.mk (show y242.length ≤ c42 from by rw [hy42, hc42]; exact Nat.sub_le_sub_right hroom42 _)
                                    clear hr42 hC42 hroom42 hi042 hsz42 hc42
                                    have KY42 := Aside0.mk hy42
                                    have KA42 := Aside0.mk hA42
                                    clear hy42 hA42
                                    replace q42 := eq_true q42
                                    try go_wp2_with (first | ((with_reducible refine gate_builtin (b := .append) (xs := #[.tmp 85, .tmp 89]) rfl ?_); (try (refine gate_guard (by rfl) ?_; dsimp only)); at_builtin; refine Kd.R_append_rows k45 (w0 := w) w.heap.size rfl (.tmp 85) (.tmp 89) 40 45 (.agg #[(.int .i32 0), (.int .i32 0), (.int .i64 0)]) 16 rfl Try.underlying40 info45 rfl (by decide) (by omega) v240 y239 y242 _ _ _ (fun k_ => some k_ ≠ (.slice Ao41 y236.length co41 : Value).ownBlock) (fun _ => False) rfl rfl ?aO ?aR (fun _ _ h => h) (fun _ h => h.elim) ?aF ?aB ?aS ?aL ?_; (case aR => repeat (first | exact (Kd.C_below HR245.out HB.out) | (with_reducible refine Kd.C_alloc ?_ _) | (with_reducible refine Kd.C_drewN ?_ _) | (with_reducible refine Kd.C_drew ?_))); (case aB => exact (by repeat (first | (with_reducible first | exact HB.out | apply below_alloc | apply pw_below_drewN | apply below_drew1) | exact HB.out))); (case aF => exact (fun k_ hk => Kd.fresh' (Kd.R_lt (by (with_reducible repeat (first | apply Kd.R_alloc | apply Kd.R_drewN | apply Kd.R_drew)); exact HO238.out)) k_ hk)); (case aO => exact (by (with_reducible repeat (first | apply Kd.R_alloc | apply Kd.R_drewN | apply Kd.R_drew)); exact HO241.out)); (case aS => exact (below_size (by repeat (first | (with_reducible first | exact HB.out | apply below_alloc | apply pw_below_drewN | apply below_drew1) | exact HB.out)))); (case aL => have := LMc29.out; omega); intro v247 w43 ho hb hg hat; rw [← Ny246.out] at ho; have n0_ := Aside0.mk (Kd.R_after (ok := (fun _ => True)) (by (with_reducible repeat (first | apply Kd.R_alloc | apply Kd.R_drewN | apply Kd.R_drew)); exact HO238.out) hg hat); have n1_ := Aside0.mk (hb); have n2_ := Aside0.mk (ho); clear HO238; clear HB; clear HO241; have HO238 := n0_; have HB := n1_; have HO248 := n2_; clear n0_ n1_ n2_; clear ho hb hg hat; obtain ⟨Ao44, co44, eo44⟩ := Kd.R_slice HO248.out; subst eo44) | ((with_reducible refine gate_callee (f := 34) rfl ?_); refine goesL_ (some 94) rfl rfl Try.func34 (by kernel_rfl) rfl #[.slice Ao44 y246.length co44, .int .i32 a2] rfl (by (try simp only [List.map_toArray, List.map_cons, List.map_nil]); first | done | rfl | (simp only [List.length_drop, List.length_take]; rfl)) ?_; (with_reducible refine (span_Find.calls _ _ y246 a2 t249 t250 _ ?side1 ?side2 A30.out).mono ?_); (case side1 => repeat (first | exact (Kd.R_reads' HO248.out).2.2 | (with_reducible refine Kd.C_alloc ?_ _) | (with_reducible refine Kd.C_drewN ?_ _) | (with_reducible refine Kd.C_drew ?_))); (case side2 => exact (Kd.R_reads' HO248.out).2.1); rintro e w45 ⟨rfl, hb⟩; refine ⟨_, rfl, ?_⟩; have n0_ := Aside0.mk (Kd.R_below (by (with_reducible repeat (first | apply Kd.R_alloc | apply Kd.R_drewN | apply Kd.R_drew)); exact HO238.out) hb); have n1_ := Aside0.mk (Kd.R_below (by (with_reducible repeat (first | apply Kd.R_alloc | apply Kd.R_drewN | apply Kd.R_drew)); exact HO248.out) hb); have n2_ := Aside0.mk (below_step (by repeat (first | (with_reducible first | exact HB.out | apply below_alloc | apply pw_below_drewN | apply below_drew1) | exact HB.out)) hb); clear HO238; clear HO248; clear HB; have HO238 := n0_; have HO248 := n1_; have HB := n2_; clear n0_ n1_ n2_; (try clear hb); (try clear hb2); (try clear hk); (try clear hi)) | ((with_reducible refine gate_callee (f := 34) rfl ?_); refine goesL_ (some 101) rfl rfl Try.func34 (by kernel_rfl) rfl #[.slice Ao44 y246.length co44, .int .i32 (wrap32 (a2 + 1))] rfl (by (try simp only [List.map_toArray, List.map_cons, List.map_nil]); first | done | rfl | (simp only [List.length_drop, List.length_take]; rfl)) ?_; (with_reducible refine (span_Find.calls _ _ y246 (wrap32 (a2 + 1)) t251 t252 _ ?side1 ?side2 A31.out).mono ?_); (case side1 => repeat (first | exact (Kd.R_reads' HO248.out).2.2 | (with_reducible refine Kd.C_alloc ?_ _) | (with_reducible refine Kd.C_drewN ?_ _) | (with_reducible refine Kd.C_drew ?_))); (case side2 => exact (Kd.R_reads' HO248.out).2.1); rintro e w46 ⟨rfl, hb⟩; refine ⟨_, rfl, ?_⟩; have n0_ := Aside0.mk (Kd.R_below (by (with_reducible repeat (first | apply Kd.R_alloc | apply Kd.R_drewN | apply Kd.R_drew)); exact HO238.out) hb); have n1_ := Aside0.mk (Kd.R_below (by (with_reducible repeat (first | apply Kd.R_alloc | apply Kd.R_drewN | apply Kd.R_drew)); exact HO248.out) hb); have n2_ := Aside0.mk (below_step (by repeat (first | (with_reducible first | exact HB.out | apply below_alloc | apply pw_below_drewN | apply below_drew1) | exact HB.out)) hb); clear HO238; clear HO248; clear HB; have HO238 := n0_; have HO248 := n1_; have HB := n2_; clear n0_ n1_ n2_; (try clear hb); (try clear hb2); (try clear hk); (try clear hi)) | ((with_reducible refine gate_callee (f := 36) rfl ?_); refine goesL_ (some 105) rfl rfl Try.func36 (by kernel_rfl) rfl #[.slice (some ad232) l0.length c0] rfl (by (try simp only [List.map_toArray, List.map_cons, List.map_nil]); first | done | rfl | (simp only [List.length_drop, List.length_take]; rfl)) ?_; (with_reducible refine (span_Join.calls kj13 _ _ l0 t253 _ ?side1 ?side2 A32.out).mono ?_); (case side1 => repeat (first | exact (Kd.C_below HR0.out HB.out) | (with_reducible refine Kd.C_alloc ?_ _) | (with_reducible refine Kd.C_drewN ?_ _) | (with_reducible refine Kd.C_drew ?_))); (case side2 => exact HC0.out); rintro e w47 ⟨v254, rfl, ho0, hb⟩; refine ⟨_, rfl, ?_⟩; have n0_ := Aside0.mk (Kd.R_elder' (by (with_reducible repeat (first | apply Kd.R_alloc | apply Kd.R_drewN | apply Kd.R_drew)); exact HO238.out) (Kd.R_base ho0) hb); have n1_ := Aside0.mk (Kd.R_elder' (by (with_reducible repeat (first | apply Kd.R_alloc | apply Kd.R_drewN | apply Kd.R_drew)); exact HO248.out) (Kd.R_base ho0) hb); have n2_ := Aside0.mk (Kd.R_lower (Kd.R_new' (Kd.R_new' ho0 (Kd.R_lt (by (with_reducible repeat (first | apply Kd.R_alloc | apply Kd.R_drewN | apply Kd.R_drew)); exact HO238.out))) (Kd.R_lt (by (with_reducible repeat (first | apply Kd.R_alloc | apply Kd.R_drewN | apply Kd.R_drew)); exact HO248.out))) (below_size (by repeat (first | (with_reducible first | exact HB.out | apply below_alloc | apply pw_below_drewN | apply below_drew1) | exact HB.out)))); have n3_ := Aside0.mk (below_step (by repeat (first | (with_reducible first | exact HB.out | apply below_alloc | apply pw_below_drewN | apply below_drew1) | exact HB.out)) hb); clear HO238; clear HO248; clear HB; have HO238 := n0_; have HO248 := n1_; have HO255 := n2_; have HB := n3_; clear n0_ n1_ n2_ n3_; (try clear hb); (try clear hb2); (try clear hk); (try clear hi); (try clear ho0)) | ((with_reducible refine gate_callee (f := 36) rfl ?_); refine goesL_ (some 107) rfl rfl Try.func36 (by kernel_rfl) rfl #[.slice Ao44 y246.length co44] rfl (by (try simp only [List.map_toArray, List.map_cons, List.map_nil]); first | done | rfl | (simp only [List.length_drop, List.length_take]; rfl)) ?_; (with_reducible refine (span_Join.calls kj13 _ _ y246 t256 _ ?side1 ?side2 A33.out).mono ?_); (case side1 => repeat (first | exact (Kd.R_reads' HO248.out).2.2 | (with_reducible refine Kd.C_alloc ?_ _) | (with_reducible refine Kd.C_drewN ?_ _) | (with_reducible refine Kd.C_drew ?_))); (case side2 => exact (Kd.R_reads' HO248.out).2.1); rintro e w48 ⟨v257, rfl, ho0, hb⟩; refine ⟨_, rfl, ?_⟩; have n0_ := Aside0.mk (Kd.R_elder' (by (with_reducible repeat (first | apply Kd.R_alloc | apply Kd.R_drewN | apply Kd.R_drew)); exact HO238.out) (Kd.R_base ho0) hb); have n1_ := Aside0.mk (Kd.R_elder' (by (with_reducible repeat (first | apply Kd.R_alloc | apply Kd.R_drewN | apply Kd.R_drew)); exact HO248.out) (Kd.R_base ho0) hb); have n2_ := Aside0.mk (Kd.R_elder' (by (with_reducible repeat (first | apply Kd.R_alloc | apply Kd.R_drewN | apply Kd.R_drew)); exact HO255.out) (Kd.R_base ho0) hb); have n3_ := Aside0.mk (Kd.R_lower (Kd.R_new' (Kd.R_new' (Kd.R_new' ho0 (Kd.R_lt (by (with_reducible repeat (first | apply Kd.R_alloc | apply Kd.R_drewN | apply Kd.R_drew)); exact HO238.out))) (Kd.R_lt (by (with_reducible repeat (first | apply Kd.R_alloc | apply Kd.R_drewN | apply Kd.R_drew)); exact HO248.out))) (Kd.R_lt (by (with_reducible repeat (first | apply Kd.R_alloc | apply Kd.R_drewN | apply Kd.R_drew)); exact HO255.out))) (below_size (by repeat (first | (with_reducible first | exact HB.out | apply below_alloc | apply pw_below_drewN | apply below_drew1) | exact HB.out)))); have n4_ := Aside0.mk (below_step (by repeat (first | (with_reducible first | exact HB.out | apply below_alloc | apply pw_below_drewN | apply below_drew1) | exact HB.out)) hb); clear HO238; clear HO248; clear HO255; clear HB; have HO238 := n0_; have HO248 := n1_; have HO255 := n2_; have HO258 := n3_; have HB := n4_; clear n0_ n1_ n2_ n3_ n4_; (try clear hb); (try clear hb2); (try clear hk); (try clear hi); (try clear ho0); obtain ⟨Ao49, co49, eo49⟩ := Kd.R_slice HO255.out; subst eo49; obtain ⟨Ao50, co50, eo50⟩ := Kd.R_slice HO258.out; subst eo50))
                                    go_loopg [15] kj13 (fun kq v15 w' => ∃ (x15_3 : Int), v15 = .int .i64 x15_3 ∧ Aside0 (reedpenlaw02_SpanSplit.l0 kq l0 (ji20) y246 t249 t250 t251 t252 t253 t256 x15_3 = some r) ∧ Aside0 (kq ≤ kj13) ∧ Aside0 (Kd.R k45 45 w' w.heap.size (fun k_ => some k_ ≠ ((.slice Ao49 t253.length co49) : Value).ownBlock ∧ some k_ ≠ ((.slice Ao50 t256.length co50) : Value).ownBlock) (.slice Ao44 y246.length co44) y246) ∧ Aside0 (Kd.R k45 45 w' w.heap.size (fun k_ => some k_ ≠ ((.slice Ao44 y246.length co44) : Value).ownBlock ∧ some k_ ≠ ((.slice Ao50 t256.length co50) : Value).ownBlock) (.slice Ao49 t253.length co49) t253) ∧ Aside0 (Kd.R k45 45 w' w.heap.size (fun k_ => some k_ ≠ ((.slice Ao44 y246.length co44) : Value).ownBlock ∧ some k_ ≠ ((.slice Ao49 t253.length co49) : Value).ownBlock) (.slice Ao50 t256.length co50) t256) ∧ Aside0 (Below w.heap.size w w'))
                                    case atStart => exact ⟨(0), (by first | rfl | (simp; done) | (simp [*]; done)), H', ⟨Nat.le_refl _⟩, ⟨by (with_reducible repeat (first | apply Kd.R_alloc | apply Kd.R_drewN | apply Kd.R_drew)); exact Kd.R_mono HO248.out (fun _ hk => ⟨hk.1.2, hk.2⟩)⟩, ⟨by (with_reducible repeat (first | apply Kd.R_alloc | apply Kd.R_drewN | apply Kd.R_drew)); exact Kd.R_mono HO255.out (fun _ hk => ⟨hk.1.2, hk.2⟩)⟩, ⟨by (with_reducible repeat (first | apply Kd.R_alloc | apply Kd.R_drewN | apply Kd.R_drew)); exact Kd.R_mono HO258.out (fun _ hk => ⟨hk.1.2, hk.2⟩)⟩, ⟨by repeat (first | (with_reducible first | exact HB.out | apply below_alloc | apply pw_below_drewN | apply below_drew1) | exact HB.out)⟩⟩
                                    case round =>
                                      clear H'
                                      try clear c1
                                      try clear c2
                                      try clear p2
                                      try clear q2
                                      try clear hx2
                                      try clear c3
                                      try clear p3
                                      try clear q3
                                      try clear c4
                                      try clear q4
                                      try clear c5
                                      try clear p6
                                      try clear c8
                                      try clear c8b0
                                      try clear c8b1
                                      try clear c9
                                      try clear c9b0
                                      try clear c9b1
                                      try clear c9b2
                                      try clear c11
                                      try clear c12
                                      try clear c13
                                      try clear c13b0
                                      try clear c13b1
                                      try clear c13b2
                                      try clear c16
                                      try clear c16b0
                                      try clear c17
                                      try clear c17b0
                                      try clear c18
                                      try clear c18b0
                                      try clear c19
                                      try clear c21
                                      try clear c21b0
                                      try clear c21b1
                                      try clear c22
                                      try clear c22b0
                                      try clear c22b1
                                      try clear p22
                                      try clear q22
                                      try clear hx22
                                      try clear c23
                                      try clear p23
                                      try clear q23
                                      try clear hx23
                                      try clear c24
                                      try clear c24b0
                                      try clear c25
                                      try clear c27
                                      try clear c27b0
                                      try clear c27b1
                                      try clear c28
                                      try clear c28b0
                                      try clear c28b1
                                      try clear c29
                                      try clear p32
                                      try clear c34
                                      try clear c34b0
                                      try clear c34b1
                                      try clear c34b2
                                      try clear q35
                                      try clear c36
                                      try clear c42
                                      try clear q42
                                      try clear hx223_0
                                      try clear hx223_1
                                      try clear hx223_2
                                      try clear hx224_0
                                      try clear hx224_1
                                      try clear hx224_2
                                      try clear hx232_0
                                      try clear hx232_1
                                      try clear hx232_2
                                      try clear hx233_0
                                      try clear hx233_1
                                      try clear hx233_2
                                      try clear hx234_0
                                      try clear hx234_1
                                      try clear hx234_2
                                      try clear hx235_0
                                      try clear hx235_1
                                      try clear hx235_2
                                      try clear p2
                                      try clear p223
                                      try clear p224
                                      try clear p232
                                      try clear p233
                                      try clear p234
                                      try clear p235
                                      try clear p6
                                      try clear q042
                                      try clear q2
                                      try clear q223
                                      try clear q224
                                      try clear q232
                                      try clear q233
                                      try clear q234
                                      try clear q235
                                      try clear q35
                                      try clear q42
                                      obtain ⟨x15_3, rfl, HA, HK3, HO_8, HO_13, HO_14, HB⟩ := hrel
                                      cases gk with
                                      | zero => exact absurd HA.out (by simp [reedpenlaw02_SpanSplit.l0])
                                      | succ k3 =>
                                        have H := HA.out
                                        clear HA
                                        simp only [reedpenlaw02_SpanSplit.l0] at H
                                        by_cases c51 : x15_3 < (t253.length : Int)
                                        · rw [if_pos c51] at H
                                          have c51b0 : decide (x15_3 < (t253.length : Int)) = true := decide_eq_true c51
                                          clear c51
                                          by_cases c52 : 0 ≤ x15_3
                                          · rw [if_pos c52] at H
                                            have c52b0 : decide (0 ≤ x15_3) = true := decide_eq_true c52
                                            clear c52
                                            by_cases c53 : x15_3 < (t256.length : Int)
                                            · rw [if_pos c53] at H
                                              have c53b0 : decide (x15_3 < (t256.length : Int)) = true := decide_eq_true c53
                                              clear c53
                                              by_cases c54 : (!(((rd_T45 t253 x15_3).f0) == ((rd_T45 t256 x15_3).f0)) || (!(((rd_T45 t253 x15_3).f1) == ((rd_T45 t256 x15_3).f1)) || (!(((rd_T45 t253 x15_3).f2) == ((rd_T45 t256 x15_3).f2))))) = true
                                              · rw [if_pos c54] at H
                                                have c54b0 : (!(((rd_T45 t253 x15_3).f0) == ((rd_T45 t256 x15_3).f0)) || (!(((rd_T45 t253 x15_3).f1) == ((rd_T45 t256 x15_3).f1)) || (!(((rd_T45 t253 x15_3).f2) == ((rd_T45 t256 x15_3).f2))))) = true := c54
                                                clear c54
                                                obtain rfl := Option.some.inj H
                                                try go_wp2
                                                have n0_ := Aside0.mk (Kd.R_drew HO_8.out)
                                                have n1_ := Aside0.mk (Kd.R_drew HO_13.out)
                                                have n2_ := Aside0.mk (Kd.R_drew HO_14.out)
                                                have n3_ := Aside0.mk (below_drew1 HB.out)
                                                clear HO_8
                                                clear HO_13
                                                clear HO_14
                                                clear HB
                                                have HO_8 := n0_
                                                have HO_13 := n1_
                                                have HO_14 := n2_
                                                have HB := n3_
                                                clear n0_ n1_ n2_ n3_
                                                have p259 : 0 ≤ (x15_3 : Int) := of_decide_eq_true (by first | (with_reducible assumption) | assumption)
                                                have q259 : x15_3 < (t253.length : Int) := of_decide_eq_true (by first | (with_reducible assumption) | assumption)
                                                obtain ⟨ad259, e259, hx259_0, hx259_1, hx259_2⟩ := at_T45 (Kd.R_reads' HO_13.out).2.2 x15_3 p259 q259
                                                cases e259
                                                replace p259 := eq_true p259
                                                replace q259 := eq_true q259
                                                have p260 : 0 ≤ (x15_3 : Int) := of_decide_eq_true (by first | (with_reducible assumption) | assumption)
                                                have q260 : x15_3 < (t256.length : Int) := of_decide_eq_true (by first | (with_reducible assumption) | assumption)
                                                obtain ⟨ad260, e260, hx260_0, hx260_1, hx260_2⟩ := at_T45 (Kd.R_reads' HO_14.out).2.2 x15_3 p260 q260
                                                cases e260
                                                replace p260 := eq_true p260
                                                replace q260 := eq_true q260
                                                refine start_ (n := 9) (S := fun w' => w'.cell? (ad259.add ((x15_3).toNat * 3)) = some (.int .i32 ((rd_T45 t253 x15_3).f0)) ∧ w'.cell? ⟨(ad259.add ((x15_3).toNat * 3)).block, (ad259.add ((x15_3).toNat * 3)).off + 1, none⟩ = some (.int .i32 ((rd_T45 t253 x15_3).f1)) ∧ w'.cell? ⟨(ad259.add ((x15_3).toNat * 3)).block, (ad259.add ((x15_3).toNat * 3)).off + 2, none⟩ = some (.int .i64 ((rd_T45 t253 x15_3).f2)) ∧ w'.cell? (ad260.add ((x15_3).toNat * 3)) = some (.int .i32 ((rd_T45 t256 x15_3).f0)) ∧ w'.cell? ⟨(ad260.add ((x15_3).toNat * 3)).block, (ad260.add ((x15_3).toNat * 3)).off + 1, none⟩ = some (.int .i32 ((rd_T45 t256 x15_3).f1)) ∧ w'.cell? ⟨(ad260.add ((x15_3).toNat * 3)).block, (ad260.add ((x15_3).toNat * 3)).off + 2, none⟩ = some (.int .i64 ((rd_T45 t256 x15_3).f2))) (ds := []) #[false, false, false, false, false, false, false, false, false] (by kernel_rfl) rfl rfl ⟨hx259_0, hx259_1, hx259_2, hx260_0, hx260_1, hx260_2⟩ (fun hHeld => ?_); refine with_tabW reedpenlaw02_SpanSplit.tab20 reedpenlaw02_SpanSplit.bits20 (fun HT_ HW_ => ?_)
                                                generalize wr.drew = w55 at HO_8 HO_13 HO_14 HB hx259_0 hx259_1 hx259_2 hx260_0 hx260_1 hx260_2 hHeld ⊢
                                                refine pure_ (i := 0) (N := some 119) (v := ?_) (a' := ?_) #[true, false, false, false, false, false, false, false, false] rfl rfl (any_of HT_.out (by kernel_rfl)) (fun _ _ _ h => h) (Or.inl ⟨by rfl, ?_⟩) ?_ ?_
                                                rotate_left
                                                · intro w'
                                                  go_simp
                                                  with_reducible rfl
                                                rotate_left
                                                · simp only [Act.put, List.setIfInBounds_toArray, List.set_cons_zero, List.set_cons_succ, i64_w, i32_w]
                                                  rfl
                                                refine pure_ (i := 1) (N := some 120) (v := ?_) (a' := ?_) #[true, true, false, false, false, false, false, false, false] rfl rfl (any_of HT_.out (by kernel_rfl)) (fun _ _ _ h => h) (Or.inl ⟨by rfl, ?_⟩) ?_ ?_
                                                rotate_left
                                                · intro w'
                                                  go_simp
                                                  with_reducible rfl
                                                rotate_left
                                                · simp only [Act.put, List.setIfInBounds_toArray, List.set_cons_zero, List.set_cons_succ, i64_w, i32_w]
                                                  rfl
                                                refine pure_ (i := 2) (N := some 121) (v := ?_) (a' := ?_) #[true, true, true, false, false, false, false, false, false] rfl rfl (any_of HT_.out (by kernel_rfl)) (fun _ _ _ h => h) (Or.inl ⟨by rfl, ?_⟩) ?_ ?_
                                                rotate_left
                                                · intro w'
                                                  go_simp
                                                  with_reducible rfl
                                                rotate_left
                                                · simp only [Act.put, List.setIfInBounds_toArray, List.set_cons_zero, List.set_cons_succ, i64_w, i32_w]
                                                  rfl
                                                refine pure_ (i := 4) (N := some 123) (v := ?_) (a' := ?_) #[true, true, true, false, true, false, false, false, false] rfl rfl (any_of HT_.out (by kernel_rfl)) (fun _ _ _ h => h) (Or.inl ⟨by rfl, ?_⟩) ?_ ?_
                                                rotate_left
                                                · intro w'
                                                  go_simp
                                                  with_reducible rfl
                                                rotate_left
                                                · simp only [Act.put, List.setIfInBounds_toArray, List.set_cons_zero, List.set_cons_succ, i64_w, i32_w]
                                                  rfl
                                                refine pure_ (i := 5) (N := some 124) (v := ?_) (a' := ?_) #[true, true, true, false, true, true, false, false, false] rfl rfl (any_of HT_.out (by kernel_rfl)) (fun _ _ _ h => h) (Or.inl ⟨by rfl, ?_⟩) ?_ ?_
                                                rotate_left
                                                · intro w'
                                                  go_simp
                                                  with_reducible rfl
                                                rotate_left
                                                · simp only [Act.put, List.setIfInBounds_toArray, List.set_cons_zero, List.set_cons_succ, i64_w, i32_w]
                                                  rfl
                                                refine pure_ (i := 6) (N := some 125) (v := ?_) (a' := ?_) #[true, true, true, false, true, true, true, false, false] rfl rfl (any_of HT_.out (by kernel_rfl)) (fun _ _ _ h => h) (Or.inl ⟨by rfl, ?_⟩) ?_ ?_
                                                rotate_left
                                                · intro w'
                                                  go_simp
                                                  with_reducible rfl
                                                rotate_left
                                                · simp only [Act.put, List.setIfInBounds_toArray, List.set_cons_zero, List.set_cons_succ, i64_w, i32_w]
                                                  rfl
                                                refine take_ (i := 3) (N := some 122) (v := ?_) (a' := ?_) #[true, true, true, true, true, true, true, false, false] rfl rfl (take_ofW HT_.out HW_.out (by kernel_rfl)) (fun _ _ _ h => h) (Or.inl ⟨by rfl, ?_⟩) hHeld ?_ ?_
                                                rotate_left
                                                · rintro w' ⟨s0, s1, s2, s3, s4, s5⟩
                                                  go_simp
                                                  with_reducible rfl
                                                rotate_left
                                                · simp only [Act.put, List.setIfInBounds_toArray, List.set_cons_zero, List.set_cons_succ, i64_w, i32_w]
                                                  rfl
                                                refine take_ (i := 7) (N := some 126) (v := ?_) (a' := ?_) #[true, true, true, true, true, true, true, true, false] rfl rfl (take_ofW HT_.out HW_.out (by kernel_rfl)) (fun _ _ _ h => h) (Or.inl ⟨by rfl, ?_⟩) hHeld ?_ ?_
                                                rotate_left
                                                · rintro w' ⟨s0, s1, s2, s3, s4, s5⟩
                                                  go_simp
                                                  with_reducible rfl
                                                rotate_left
                                                · simp only [Act.put, List.setIfInBounds_toArray, List.set_cons_zero, List.set_cons_succ, i64_w, i32_w]
                                                  rfl
                                                refine pure_ (i := 8) (N := some 127) (v := ?_) (a' := ?_) #[true, true, true, true, true, true, true, true, true] rfl rfl (any_of HT_.out (by kernel_rfl)) (fun _ _ _ h => h) (Or.inl ⟨by rfl, ?_⟩) ?_ ?_
                                                rotate_left
                                                · intro w'
                                                  go_simp
                                                  with_reducible rfl
                                                rotate_left
                                                · simp only [Act.put, List.setIfInBounds_toArray, List.set_cons_zero, List.set_cons_succ, i64_w, i32_w]
                                                  rfl
                                                refine done_ (done_of HT_.out (by kernel_rfl)) ?_
                                                try go_wp2
                                                go_ret
                                                exact ⟨by first | rfl | (simp [errW_none, errW_some] <;> rfl) | (simp only [← hji20, ← hji26]; first | rfl | (simp [errW_none, errW_some] <;> rfl)) | (simp [*, errW_none, errW_some] <;> rfl), by repeat (first | (with_reducible first | exact HB.out | apply below_alloc | apply pw_below_drewN | apply below_drew1) | exact HB.out)⟩
                                              · rw [if_neg c54] at H
                                                have c54b0 : (!(((rd_T45 t253 x15_3).f0) == ((rd_T45 t256 x15_3).f0)) || (!(((rd_T45 t253 x15_3).f1) == ((rd_T45 t256 x15_3).f1)) || (!(((rd_T45 t253 x15_3).f2) == ((rd_T45 t256 x15_3).f2))))) = false := by simpa using c54
                                                clear c54
                                                have H' := Aside0.mk H
                                                clear H
                                                try go_wp2
                                                have n0_ := Aside0.mk (Kd.R_drew HO_8.out)
                                                have n1_ := Aside0.mk (Kd.R_drew HO_13.out)
                                                have n2_ := Aside0.mk (Kd.R_drew HO_14.out)
                                                have n3_ := Aside0.mk (below_drew1 HB.out)
                                                clear HO_8
                                                clear HO_13
                                                clear HO_14
                                                clear HB
                                                have HO_8 := n0_
                                                have HO_13 := n1_
                                                have HO_14 := n2_
                                                have HB := n3_
                                                clear n0_ n1_ n2_ n3_
                                                have p259 : 0 ≤ (x15_3 : Int) := of_decide_eq_true (by first | (with_reducible assumption) | assumption)
                                                have q259 : x15_3 < (t253.length : Int) := of_decide_eq_true (by first | (with_reducible assumption) | assumption)
                                                obtain ⟨ad259, e259, hx259_0, hx259_1, hx259_2⟩ := at_T45 (Kd.R_reads' HO_13.out).2.2 x15_3 p259 q259
                                                cases e259
                                                replace p259 := eq_true p259
                                                replace q259 := eq_true q259
                                                have p260 : 0 ≤ (x15_3 : Int) := of_decide_eq_true (by first | (with_reducible assumption) | assumption)
                                                have q260 : x15_3 < (t256.length : Int) := of_decide_eq_true (by first | (with_reducible assumption) | assumption)
                                                obtain ⟨ad260, e260, hx260_0, hx260_1, hx260_2⟩ := at_T45 (Kd.R_reads' HO_14.out).2.2 x15_3 p260 q260
                                                cases e260
                                                replace p260 := eq_true p260
                                                replace q260 := eq_true q260
                                                refine start_ (n := 9) (S := fun w' => w'.cell? (ad259.add ((x15_3).toNat * 3)) = some (.int .i32 ((rd_T45 t253 x15_3).f0)) ∧ w'.cell? ⟨(ad259.add ((x15_3).toNat * 3)).block, (ad259.add ((x15_3).toNat * 3)).off + 1, none⟩ = some (.int .i32 ((rd_T45 t253 x15_3).f1)) ∧ w'.cell? ⟨(ad259.add ((x15_3).toNat * 3)).block, (ad259.add ((x15_3).toNat * 3)).off + 2, none⟩ = some (.int .i64 ((rd_T45 t253 x15_3).f2)) ∧ w'.cell? (ad260.add ((x15_3).toNat * 3)) = some (.int .i32 ((rd_T45 t256 x15_3).f0)) ∧ w'.cell? ⟨(ad260.add ((x15_3).toNat * 3)).block, (ad260.add ((x15_3).toNat * 3)).off + 1, none⟩ = some (.int .i32 ((rd_T45 t256 x15_3).f1)) ∧ w'.cell? ⟨(ad260.add ((x15_3).toNat * 3)).block, (ad260.add ((x15_3).toNat * 3)).off + 2, none⟩ = some (.int .i64 ((rd_T45 t256 x15_3).f2))) (ds := []) #[false, false, false, false, false, false, false, false, false] (by kernel_rfl) rfl rfl ⟨hx259_0, hx259_1, hx259_2, hx260_0, hx260_1, hx260_2⟩ (fun hHeld => ?_); refine with_tabW reedpenlaw02_SpanSplit.tab20 reedpenlaw02_SpanSplit.bits20 (fun HT_ HW_ => ?_)
                                                generalize wr.drew = w56 at HO_8 HO_13 HO_14 HB hx259_0 hx259_1 hx259_2 hx260_0 hx260_1 hx260_2 hHeld ⊢
                                                refine pure_ (i := 0) (N := some 119) (v := ?_) (a' := ?_) #[true, false, false, false, false, false, false, false, false] rfl rfl (any_of HT_.out (by kernel_rfl)) (fun _ _ _ h => h) (Or.inl ⟨by rfl, ?_⟩) ?_ ?_
                                                rotate_left
                                                · intro w'
                                                  go_simp
                                                  with_reducible rfl
                                                rotate_left
                                                · simp only [Act.put, List.setIfInBounds_toArray, List.set_cons_zero, List.set_cons_succ, i64_w, i32_w]
                                                  rfl
                                                refine pure_ (i := 1) (N := some 120) (v := ?_) (a' := ?_) #[true, true, false, false, false, false, false, false, false] rfl rfl (any_of HT_.out (by kernel_rfl)) (fun _ _ _ h => h) (Or.inl ⟨by rfl, ?_⟩) ?_ ?_
                                                rotate_left
                                                · intro w'
                                                  go_simp
                                                  with_reducible rfl
                                                rotate_left
                                                · simp only [Act.put, List.setIfInBounds_toArray, List.set_cons_zero, List.set_cons_succ, i64_w, i32_w]
                                                  rfl
                                                refine pure_ (i := 2) (N := some 121) (v := ?_) (a' := ?_) #[true, true, true, false, false, false, false, false, false] rfl rfl (any_of HT_.out (by kernel_rfl)) (fun _ _ _ h => h) (Or.inl ⟨by rfl, ?_⟩) ?_ ?_
                                                rotate_left
                                                · intro w'
                                                  go_simp
                                                  with_reducible rfl
                                                rotate_left
                                                · simp only [Act.put, List.setIfInBounds_toArray, List.set_cons_zero, List.set_cons_succ, i64_w, i32_w]
                                                  rfl
                                                refine pure_ (i := 4) (N := some 123) (v := ?_) (a' := ?_) #[true, true, true, false, true, false, false, false, false] rfl rfl (any_of HT_.out (by kernel_rfl)) (fun _ _ _ h => h) (Or.inl ⟨by rfl, ?_⟩) ?_ ?_
                                                rotate_left
                                                · intro w'
                                                  go_simp
                                                  with_reducible rfl
                                                rotate_left
                                                · simp only [Act.put, List.setIfInBounds_toArray, List.set_cons_zero, List.set_cons_succ, i64_w, i32_w]
                                                  rfl
                                                refine pure_ (i := 5) (N := some 124) (v := ?_) (a' := ?_) #[true, true, true, false, true, true, false, false, false] rfl rfl (any_of HT_.out (by kernel_rfl)) (fun _ _ _ h => h) (Or.inl ⟨by rfl, ?_⟩) ?_ ?_
                                                rotate_left
                                                · intro w'
                                                  go_simp
                                                  with_reducible rfl
                                                rotate_left
                                                · simp only [Act.put, List.setIfInBounds_toArray, List.set_cons_zero, List.set_cons_succ, i64_w, i32_w]
                                                  rfl
                                                refine pure_ (i := 6) (N := some 125) (v := ?_) (a' := ?_) #[true, true, true, false, true, true, true, false, false] rfl rfl (any_of HT_.out (by kernel_rfl)) (fun _ _ _ h => h) (Or.inl ⟨by rfl, ?_⟩) ?_ ?_
                                                rotate_left
                                                · intro w'
                                                  go_simp
                                                  with_reducible rfl
                                                rotate_left
                                                · simp only [Act.put, List.setIfInBounds_toArray, List.set_cons_zero, List.set_cons_succ, i64_w, i32_w]
                                                  rfl
                                                refine take_ (i := 3) (N := some 122) (v := ?_) (a' := ?_) #[true, true, true, true, true, true, true, false, false] rfl rfl (take_ofW HT_.out HW_.out (by kernel_rfl)) (fun _ _ _ h => h) (Or.inl ⟨by rfl, ?_⟩) hHeld ?_ ?_
                                                rotate_left
                                                · rintro w' ⟨s0, s1, s2, s3, s4, s5⟩
                                                  go_simp
                                                  with_reducible rfl
                                                rotate_left
                                                · simp only [Act.put, List.setIfInBounds_toArray, List.set_cons_zero, List.set_cons_succ, i64_w, i32_w]
                                                  rfl
                                                refine take_ (i := 7) (N := some 126) (v := ?_) (a' := ?_) #[true, true, true, true, true, true, true, true, false] rfl rfl (take_ofW HT_.out HW_.out (by kernel_rfl)) (fun _ _ _ h => h) (Or.inl ⟨by rfl, ?_⟩) hHeld ?_ ?_
                                                rotate_left
                                                · rintro w' ⟨s0, s1, s2, s3, s4, s5⟩
                                                  go_simp
                                                  with_reducible rfl
                                                rotate_left
                                                · simp only [Act.put, List.setIfInBounds_toArray, List.set_cons_zero, List.set_cons_succ, i64_w, i32_w]
                                                  rfl
                                                refine pure_ (i := 8) (N := some 127) (v := ?_) (a' := ?_) #[true, true, true, true, true, true, true, true, true] rfl rfl (any_of HT_.out (by kernel_rfl)) (fun _ _ _ h => h) (Or.inl ⟨by rfl, ?_⟩) ?_ ?_
                                                rotate_left
                                                · intro w'
                                                  go_simp
                                                  with_reducible rfl
                                                rotate_left
                                                · simp only [Act.put, List.setIfInBounds_toArray, List.set_cons_zero, List.set_cons_succ, i64_w, i32_w]
                                                  rfl
                                                refine done_ (done_of HT_.out (by kernel_rfl)) ?_
                                                try go_wp2
                                                go_roundg k3
                                                case measure => have := HJ5.out; have := HJ13.out; have := HK3.out; omega
                                                case rel => exact ⟨(wrap64 (x15_3 + 1)), (by first | rfl | (simp; done) | (simp [*]; done)), H', ⟨by have := HJ5.out; have := HJ13.out; have := HK3.out; omega⟩, ⟨by (with_reducible repeat (first | apply Kd.R_alloc | apply Kd.R_drewN | apply Kd.R_drew)); exact HO_8.out⟩, ⟨by (with_reducible repeat (first | apply Kd.R_alloc | apply Kd.R_drewN | apply Kd.R_drew)); exact HO_13.out⟩, ⟨by (with_reducible repeat (first | apply Kd.R_alloc | apply Kd.R_drewN | apply Kd.R_drew)); exact HO_14.out⟩, ⟨by repeat (first | (with_reducible first | exact HB.out | apply below_alloc | apply pw_below_drewN | apply below_drew1) | exact HB.out)⟩⟩
                                            · rw [if_neg c53] at H
                                              exact absurd H (by simp)
                                          · rw [if_neg c52] at H
                                            exact absurd H (by simp)
                                        · rw [if_neg c51] at H
                                          have c51b0 : decide (x15_3 < (t253.length : Int)) = false := decide_eq_false c51
                                          clear c51
                                          by_cases c57 : t250 = true
                                          · subst c57
                                            have H1 : (if t252 = true then (if 0 ≤ (ji20) then (if (ji20) < (l0.length : Int) then (if t249 = ((rd_T45 l0 (ji20)).f2) then (if t251 = t249 then ((span_Right.f k3 y246 255).bind fun t262 => (if t262 = true then ((span_Count.f k3 y246).bind fun t263 => ((span_Count.f k3 l0).bind fun t264 => (some (t263 == t264)))) else (some false))) else (some false)) else (some false)) else (none)) else (none)) else (some false)) = some r := by rw [if_pos rfl] at H; exact H
                                            clear H
                                            have H := H1
                                            clear H1
                                            by_cases c58 : t252 = true
                                            · subst c58
                                              have H1 : (if 0 ≤ (ji20) then (if (ji20) < (l0.length : Int) then (if t249 = ((rd_T45 l0 (ji20)).f2) then (if t251 = t249 then ((span_Right.f k3 y246 255).bind fun t262 => (if t262 = true then ((span_Count.f k3 y246).bind fun t263 => ((span_Count.f k3 l0).bind fun t264 => (some (t263 == t264)))) else (some false))) else (some false)) else (some false)) else (none)) else (none)) = some r := by rw [if_pos rfl] at H; exact H
                                              clear H
                                              have H := H1
                                              clear H1
                                              by_cases c59 : 0 ≤ (ji20)
                                              · rw [if_pos c59] at H
                                                have c59b0 : decide (0 ≤ (ji20)) = true := decide_eq_true c59
                                                clear c59
                                                by_cases c60 : (ji20) < (l0.length : Int)
                                                · rw [if_pos c60] at H
                                                  have c60b0 : decide ((ji20) < (l0.length : Int)) = true := decide_eq_true c60
                                                  clear c60
                                                  by_cases c61 : t249 = ((rd_T45 l0 (ji20)).f2)
                                                  · rw [if_pos c61] at H
                                                    have c61b0 : (t249 == ((rd_T45 l0 (ji20)).f2)) = true := beq_iff_eq.mpr c61
                                                    have c61b1 : (t249 != ((rd_T45 l0 (ji20)).f2)) = false := bne_eq_false_iff_eq.mpr c61
                                                    clear c61
                                                    by_cases c62 : t251 = t249
                                                    · rw [if_pos c62] at H
                                                      have c62b0 : (t251 == t249) = true := beq_iff_eq.mpr c62
                                                      have c62b1 : (t251 != t249) = false := bne_eq_false_iff_eq.mpr c62
                                                      clear c62
                                                      replace H := Option.bind_eq_some_iff.mp H
                                                      obtain ⟨t262, A630, H⟩ := H
                                                      replace H : (if t262 = true then ((span_Count.f k3 y246).bind fun t263 => ((span_Count.f k3 l0).bind fun t264 => (some (t263 == t264)))) else (some false)) = some r := H
                                                      have A63 := Aside0.mk A630
                                                      clear A630
                                                      by_cases c64 : t262 = true
                                                      · subst c64
                                                        have H1 : ((span_Count.f k3 y246).bind fun t263 => ((span_Count.f k3 l0).bind fun t264 => (some (t263 == t264)))) = some r := by rw [if_pos rfl] at H; exact H
                                                        clear H
                                                        have H := H1
                                                        clear H1
                                                        replace H := Option.bind_eq_some_iff.mp H
                                                        obtain ⟨t263, A650, H⟩ := H
                                                        replace H : ((span_Count.f k3 l0).bind fun t264 => (some (t263 == t264))) = some r := H
                                                        have A65 := Aside0.mk A650
                                                        clear A650
                                                        replace H := Option.bind_eq_some_iff.mp H
                                                        obtain ⟨t264, A660, H⟩ := H
                                                        replace H : (some (t263 == t264)) = some r := H
                                                        have A66 := Aside0.mk A660
                                                        clear A660
                                                        obtain rfl := Option.some.inj H
                                                        have p261 : 0 ≤ ((ji20) : Int) := of_decide_eq_true (by first | (with_reducible assumption) | assumption)
                                                        have q261 : (ji20) < (l0.length : Int) := of_decide_eq_true (by first | (with_reducible assumption) | assumption)
                                                        obtain ⟨ad261, e261, hx261_0, hx261_1, hx261_2⟩ := at_T45 HR0.out (ji20) p261 q261
                                                        obtain rfl : ad232 = ad261 := (by injection e261)
                                                        replace hx261_0 := (HB.out.cell (World.block_lt_of_cell? w _ hx261_0)).trans hx261_0
                                                        replace hx261_1 := (HB.out.cell (World.block_lt_of_cell? w _ hx261_1)).trans hx261_1
                                                        replace hx261_2 := (HB.out.cell (World.block_lt_of_cell? w _ hx261_2)).trans hx261_2
                                                        replace p261 := eq_true p261
                                                        replace q261 := eq_true q261
                                                        go_wp2_with (first | (go_at_call 32; (with_reducible refine (span_Right.calls k3 _ _ y246 255 true _ ?side1 ?side2 A63.out).mono ?_); (case side1 => repeat (first | exact (Kd.R_reads' HO_8.out).2.2 | (with_reducible refine Kd.C_alloc ?_ _) | (with_reducible refine Kd.C_drewN ?_ _) | (with_reducible refine Kd.C_drew ?_))); (case side2 => exact (Kd.R_reads' HO_8.out).2.1); rintro e w67 ⟨rfl, hb⟩; have n0_ := Aside0.mk (Kd.R_below (by (with_reducible repeat (first | apply Kd.R_alloc | apply Kd.R_drewN | apply Kd.R_drew)); exact HO_8.out) hb); have n1_ := Aside0.mk (Kd.R_below (by (with_reducible repeat (first | apply Kd.R_alloc | apply Kd.R_drewN | apply Kd.R_drew)); exact HO_13.out) hb); have n2_ := Aside0.mk (Kd.R_below (by (with_reducible repeat (first | apply Kd.R_alloc | apply Kd.R_drewN | apply Kd.R_drew)); exact HO_14.out) hb); have n3_ := Aside0.mk (below_step (by repeat (first | (with_reducible first | exact HB.out | apply below_alloc | apply pw_below_drewN | apply below_drew1) | exact HB.out)) hb); clear HO_8; clear HO_13; clear HO_14; clear HB; have HO_8 := n0_; have HO_13 := n1_; have HO_14 := n2_; have HB := n3_; clear n0_ n1_ n2_ n3_; (try clear hb); (try clear hb2); (try clear hk); (try clear hi)) | (go_at_call 37; (with_reducible refine (span_Count.calls k3 _ _ y246 t263 _ ?side1 ?side2 A65.out).mono ?_); (case side1 => repeat (first | exact (Kd.R_reads' HO_8.out).2.2 | (with_reducible refine Kd.C_alloc ?_ _) | (with_reducible refine Kd.C_drewN ?_ _) | (with_reducible refine Kd.C_drew ?_))); (case side2 => exact (Kd.R_reads' HO_8.out).2.1); rintro e w68 ⟨rfl, hb⟩; have n0_ := Aside0.mk (Kd.R_below (by (with_reducible repeat (first | apply Kd.R_alloc | apply Kd.R_drewN | apply Kd.R_drew)); exact HO_8.out) hb); have n1_ := Aside0.mk (Kd.R_below (by (with_reducible repeat (first | apply Kd.R_alloc | apply Kd.R_drewN | apply Kd.R_drew)); exact HO_13.out) hb); have n2_ := Aside0.mk (Kd.R_below (by (with_reducible repeat (first | apply Kd.R_alloc | apply Kd.R_drewN | apply Kd.R_drew)); exact HO_14.out) hb); have n3_ := Aside0.mk (below_step (by repeat (first | (with_reducible first | exact HB.out | apply below_alloc | apply pw_below_drewN | apply below_drew1) | exact HB.out)) hb); clear HO_8; clear HO_13; clear HO_14; clear HB; have HO_8 := n0_; have HO_13 := n1_; have HO_14 := n2_; have HB := n3_; clear n0_ n1_ n2_ n3_; (try clear hb); (try clear hb2); (try clear hk); (try clear hi)) | (go_at_call 37; (with_reducible refine (span_Count.calls k3 _ _ l0 t264 _ ?side1 ?side2 A66.out).mono ?_); (case side1 => repeat (first | exact (Kd.C_below HR0.out HB.out) | (with_reducible refine Kd.C_alloc ?_ _) | (with_reducible refine Kd.C_drewN ?_ _) | (with_reducible refine Kd.C_drew ?_))); (case side2 => exact HC0.out); rintro e w69 ⟨rfl, hb⟩; have n0_ := Aside0.mk (Kd.R_below (by (with_reducible repeat (first | apply Kd.R_alloc | apply Kd.R_drewN | apply Kd.R_drew)); exact HO_8.out) hb); have n1_ := Aside0.mk (Kd.R_below (by (with_reducible repeat (first | apply Kd.R_alloc | apply Kd.R_drewN | apply Kd.R_drew)); exact HO_13.out) hb); have n2_ := Aside0.mk (Kd.R_below (by (with_reducible repeat (first | apply Kd.R_alloc | apply Kd.R_drewN | apply Kd.R_drew)); exact HO_14.out) hb); have n3_ := Aside0.mk (below_step (by repeat (first | (with_reducible first | exact HB.out | apply below_alloc | apply pw_below_drewN | apply below_drew1) | exact HB.out)) hb); clear HO_8; clear HO_13; clear HO_14; clear HB; have HO_8 := n0_; have HO_13 := n1_; have HO_14 := n2_; have HB := n3_; clear n0_ n1_ n2_ n3_; (try clear hb); (try clear hb2); (try clear hk); (try clear hi)))
                                                        go_ret
                                                        exact ⟨by first | rfl | (simp [errW_none, errW_some] <;> rfl) | (simp only [← hji20, ← hji26]; first | rfl | (simp [errW_none, errW_some] <;> rfl)) | (simp [*, errW_none, errW_some] <;> rfl), by repeat (first | (with_reducible first | exact HB.out | apply below_alloc | apply pw_below_drewN | apply below_drew1) | exact HB.out)⟩
                                                      · replace c64 := Bool.eq_false_iff.mpr c64
                                                        subst c64
                                                        have H1 : (some false) = some r := by rw [if_neg (show ¬ (false = true) by decide)] at H; exact H
                                                        clear H
                                                        have H := H1
                                                        clear H1
                                                        obtain rfl := Option.some.inj H
                                                        have p261 : 0 ≤ ((ji20) : Int) := of_decide_eq_true (by first | (with_reducible assumption) | assumption)
                                                        have q261 : (ji20) < (l0.length : Int) := of_decide_eq_true (by first | (with_reducible assumption) | assumption)
                                                        obtain ⟨ad261, e261, hx261_0, hx261_1, hx261_2⟩ := at_T45 HR0.out (ji20) p261 q261
                                                        obtain rfl : ad232 = ad261 := (by injection e261)
                                                        replace hx261_0 := (HB.out.cell (World.block_lt_of_cell? w _ hx261_0)).trans hx261_0
                                                        replace hx261_1 := (HB.out.cell (World.block_lt_of_cell? w _ hx261_1)).trans hx261_1
                                                        replace hx261_2 := (HB.out.cell (World.block_lt_of_cell? w _ hx261_2)).trans hx261_2
                                                        replace p261 := eq_true p261
                                                        replace q261 := eq_true q261
                                                        go_wp2_with (first | (go_at_call 32; (with_reducible refine (span_Right.calls k3 _ _ y246 255 false _ ?side1 ?side2 A63.out).mono ?_); (case side1 => repeat (first | exact (Kd.R_reads' HO_8.out).2.2 | (with_reducible refine Kd.C_alloc ?_ _) | (with_reducible refine Kd.C_drewN ?_ _) | (with_reducible refine Kd.C_drew ?_))); (case side2 => exact (Kd.R_reads' HO_8.out).2.1); rintro e w70 ⟨rfl, hb⟩; have n0_ := Aside0.mk (Kd.R_below (by (with_reducible repeat (first | apply Kd.R_alloc | apply Kd.R_drewN | apply Kd.R_drew)); exact HO_8.out) hb); have n1_ := Aside0.mk (Kd.R_below (by (with_reducible repeat (first | apply Kd.R_alloc | apply Kd.R_drewN | apply Kd.R_drew)); exact HO_13.out) hb); have n2_ := Aside0.mk (Kd.R_below (by (with_reducible repeat (first | apply Kd.R_alloc | apply Kd.R_drewN | apply Kd.R_drew)); exact HO_14.out) hb); have n3_ := Aside0.mk (below_step (by repeat (first | (with_reducible first | exact HB.out | apply below_alloc | apply pw_below_drewN | apply below_drew1) | exact HB.out)) hb); clear HO_8; clear HO_13; clear HO_14; clear HB; have HO_8 := n0_; have HO_13 := n1_; have HO_14 := n2_; have HB := n3_; clear n0_ n1_ n2_ n3_; (try clear hb); (try clear hb2); (try clear hk); (try clear hi)))
                                                        go_ret
                                                        exact ⟨by first | rfl | (simp [errW_none, errW_some] <;> rfl) | (simp only [← hji20, ← hji26]; first | rfl | (simp [errW_none, errW_some] <;> rfl)) | (simp [*, errW_none, errW_some] <;> rfl), by repeat (first | (with_reducible first | exact HB.out | apply below_alloc | apply pw_below_drewN | apply below_drew1) | exact HB.out)⟩
                                                    · rw [if_neg c62] at H
                                                      have c62b0 : (t251 == t249) = false := beq_eq_false_iff_ne.mpr c62
                                                      have c62b1 : (t251 != t249) = true := bne_iff_ne.mpr c62
                                                      obtain rfl := Option.some.inj H
                                                      have p261 : 0 ≤ ((ji20) : Int) := of_decide_eq_true (by first | (with_reducible assumption) | assumption)
                                                      have q261 : (ji20) < (l0.length : Int) := of_decide_eq_true (by first | (with_reducible assumption) | assumption)
                                                      obtain ⟨ad261, e261, hx261_0, hx261_1, hx261_2⟩ := at_T45 HR0.out (ji20) p261 q261
                                                      obtain rfl : ad232 = ad261 := (by injection e261)
                                                      replace hx261_0 := (HB.out.cell (World.block_lt_of_cell? w _ hx261_0)).trans hx261_0
                                                      replace hx261_1 := (HB.out.cell (World.block_lt_of_cell? w _ hx261_1)).trans hx261_1
                                                      replace hx261_2 := (HB.out.cell (World.block_lt_of_cell? w _ hx261_2)).trans hx261_2
                                                      replace p261 := eq_true p261
                                                      replace q261 := eq_true q261
                                                      go_wp2
                                                      go_ret
                                                      exact ⟨by first | rfl | (simp [errW_none, errW_some] <;> rfl) | (simp only [← hji20, ← hji26]; first | rfl | (simp [errW_none, errW_some] <;> rfl)) | (simp [*, errW_none, errW_some] <;> rfl), by repeat (first | (with_reducible first | exact HB.out | apply below_alloc | apply pw_below_drewN | apply below_drew1) | exact HB.out)⟩
                                                  · rw [if_neg c61] at H
                                                    have c61b0 : (t249 == ((rd_T45 l0 (ji20)).f2)) = false := beq_eq_false_iff_ne.mpr c61
                                                    have c61b1 : (t249 != ((rd_T45 l0 (ji20)).f2)) = true := bne_iff_ne.mpr c61
                                                    obtain rfl := Option.some.inj H
                                                    have p261 : 0 ≤ ((ji20) : Int) := of_decide_eq_true (by first | (with_reducible assumption) | assumption)
                                                    have q261 : (ji20) < (l0.length : Int) := of_decide_eq_true (by first | (with_reducible assumption) | assumption)
                                                    obtain ⟨ad261, e261, hx261_0, hx261_1, hx261_2⟩ := at_T45 HR0.out (ji20) p261 q261
                                                    obtain rfl : ad232 = ad261 := (by injection e261)
                                                    replace hx261_0 := (HB.out.cell (World.block_lt_of_cell? w _ hx261_0)).trans hx261_0
                                                    replace hx261_1 := (HB.out.cell (World.block_lt_of_cell? w _ hx261_1)).trans hx261_1
                                                    replace hx261_2 := (HB.out.cell (World.block_lt_of_cell? w _ hx261_2)).trans hx261_2
                                                    replace p261 := eq_true p261
                                                    replace q261 := eq_true q261
                                                    go_wp2
                                                    go_ret
                                                    exact ⟨by first | rfl | (simp [errW_none, errW_some] <;> rfl) | (simp only [← hji20, ← hji26]; first | rfl | (simp [errW_none, errW_some] <;> rfl)) | (simp [*, errW_none, errW_some] <;> rfl), by repeat (first | (with_reducible first | exact HB.out | apply below_alloc | apply pw_below_drewN | apply below_drew1) | exact HB.out)⟩
                                                · rw [if_neg c60] at H
                                                  exact absurd H (by simp)
                                              · rw [if_neg c59] at H
                                                exact absurd H (by simp)
                                            · replace c58 := Bool.eq_false_iff.mpr c58
                                              subst c58
                                              have H1 : (some false) = some r := by rw [if_neg (show ¬ (false = true) by decide)] at H; exact H
                                              clear H
                                              have H := H1
                                              clear H1
                                              obtain rfl := Option.some.inj H
                                              go_wp2
                                              go_ret
                                              exact ⟨by first | rfl | (simp [errW_none, errW_some] <;> rfl) | (simp only [← hji20, ← hji26]; first | rfl | (simp [errW_none, errW_some] <;> rfl)) | (simp [*, errW_none, errW_some] <;> rfl), by repeat (first | (with_reducible first | exact HB.out | apply below_alloc | apply pw_below_drewN | apply below_drew1) | exact HB.out)⟩
                                          · replace c57 := Bool.eq_false_iff.mpr c57
                                            subst c57
                                            have H1 : (some false) = some r := by rw [if_neg (show ¬ (false = true) by decide)] at H; exact H
                                            clear H
                                            have H := H1
                                            clear H1
                                            obtain rfl := Option.some.inj H
                                            go_wp2
                                            go_ret
                                            exact ⟨by first | rfl | (simp [errW_none, errW_some] <;> rfl) | (simp only [← hji20, ← hji26]; first | rfl | (simp [errW_none, errW_some] <;> rfl)) | (simp [*, errW_none, errW_some] <;> rfl), by repeat (first | (with_reducible first | exact HB.out | apply below_alloc | apply pw_below_drewN | apply below_drew1) | exact HB.out)⟩
                                  · rw [if_neg c34] at H
                                    have c34b0 : ((t253.length : Int) == (t256.length : Int)) = false := beq_eq_false_iff_ne.mpr c34
                                    have c34b1 : ((t253.length : Int) != (t256.length : Int)) = true := bne_iff_ne.mpr c34
                                    have c34b2 : (t253.length == t256.length) = false := by first | simpa using c34 | (simp at c34 ⊢; omega)
                                    obtain rfl := Option.some.inj H
                                    have q71 : ((ji20) : Int) ≤ ((l0.length : Int) : Int) := of_decide_eq_true (by first | (with_reducible assumption) | assumption)
                                    obtain ⟨i071, hi071, _, hsz71, _⟩ := info_parts info45
                                    have hroom71 : l0.length ≤ c0 := HC0.out
                                    have hC71 : Kd.C k45 _ A0 l0.length l0 := HR0.out
                                    have hcut71 := cut_to (P := Try.prog) 40 45 .i64 Try.underlying40 hi071 A0 l0.length c0 (ji20) (of_decide_eq_true (by first | (with_reducible assumption) | assumption)) q71 hroom71
                                    have hr71 := Kd.C_take (m := ((ji20) : Int).toNat) hC71 (by omega)
                                    have hy71 : y225.length = ((ji20) : Int).toNat := (by rw [Ny225.out, List.length_take]; omega)
                                    rw [← Ny225.out] at hr71
                                    rw [← hy71] at hcut71
                                    have HR228 := Aside0.mk hr71
                                    have HC228 := Aside0.mk (show y225.length ≤ c0 from by omega)
                                    clear hr71 hC71 hroom71 hi071 hsz71
                                    have KY71 := Aside0.mk hy71
                                    clear hy71
                                    replace q71 := eq_true q71
                                    try go_wp2_with (first | ((with_reducible refine gate_builtin (b := .append) (xs := #[.tmp 52, .tmp 55]) rfl ?_); (try (refine gate_guard (by rfl) ?_; dsimp only)); at_builtin; refine Kd.R_append_rows k45 (w0 := w) w.heap.size rfl (.tmp 52) (.tmp 55) 40 45 (.agg #[(.int .i32 0), (.int .i32 0), (.int .i64 0)]) 16 rfl Try.underlying40 info45 rfl (by decide) (by omega) (.slice none 0 0) ([] : List (S45)) y225 _ _ _ (fun _ => True) (fun _ => False) rfl rfl ?aO ?aR (fun _ _ h => h) (fun _ h => h.elim) ?aF ?aB ?aS ?aL ?_; (case aR => repeat (first | exact (Kd.C_below HR228.out HB.out) | (with_reducible refine Kd.C_alloc ?_ _) | (with_reducible refine Kd.C_drewN ?_ _) | (with_reducible refine Kd.C_drew ?_))); (case aB => exact (by repeat (first | (with_reducible first | exact HB.out | apply below_alloc | apply pw_below_drewN | apply below_drew1) | exact HB.out))); (case aF => exact (fun _ _ => trivial)); (case aO => exact ((Kd.R_nil _ _ _ _ (fun _ => True)))); (case aS => exact (below_size (by repeat (first | (with_reducible first | exact HB.out | apply below_alloc | apply pw_below_drewN | apply below_drew1) | exact HB.out)))); (case aL => have := LMc23.out; omega); intro v230 w72 ho hb hg hat; rw [← Ny229.out] at ho; have n0_ := Aside0.mk (hb); have n1_ := Aside0.mk (ho); clear HB; have HB := n0_; have HO231 := n1_; clear n0_ n1_; clear ho hb hg hat))
                                    have n0_ := Aside0.mk (Kd.R_drew HO231.out)
                                    have n1_ := Aside0.mk (below_drew1 HB.out)
                                    clear HO231
                                    clear HB
                                    have HO231 := n0_
                                    have HB := n1_
                                    clear n0_ n1_
                                    have p232 : 0 ≤ ((ji20) : Int) := of_decide_eq_true (by first | (with_reducible assumption) | assumption)
                                    have q232 : (ji20) < (l0.length : Int) := of_decide_eq_true (by first | (with_reducible assumption) | assumption)
                                    obtain ⟨ad232, e232, hx232_0, hx232_1, hx232_2⟩ := at_T45 HR0.out (ji20) p232 q232
                                    have hw232_2 := hx232_2
                                    have hw232_1 := hx232_1
                                    have hw232_0 := hx232_0
                                    cases e232
                                    replace hx232_0 := (HB.out.cell (World.block_lt_of_cell? w _ hx232_0)).trans hx232_0
                                    replace hx232_1 := (HB.out.cell (World.block_lt_of_cell? w _ hx232_1)).trans hx232_1
                                    replace hx232_2 := (HB.out.cell (World.block_lt_of_cell? w _ hx232_2)).trans hx232_2
                                    replace p232 := eq_true p232
                                    replace q232 := eq_true q232
                                    have p233 : 0 ≤ ((ji20) : Int) := of_decide_eq_true (by first | (with_reducible assumption) | assumption)
                                    have q233 : (ji20) < (l0.length : Int) := of_decide_eq_true (by first | (with_reducible assumption) | assumption)
                                    obtain ⟨ad233, e233, hx233_0, hx233_1, hx233_2⟩ := at_T45 HR0.out (ji20) p233 q233
                                    have hw233_2 := hx233_2
                                    have hw233_1 := hx233_1
                                    have hw233_0 := hx233_0
                                    obtain rfl : ad232 = ad233 := (by injection e233)
                                    replace hx233_0 := (HB.out.cell (World.block_lt_of_cell? w _ hx233_0)).trans hx233_0
                                    replace hx233_1 := (HB.out.cell (World.block_lt_of_cell? w _ hx233_1)).trans hx233_1
                                    replace hx233_2 := (HB.out.cell (World.block_lt_of_cell? w _ hx233_2)).trans hx233_2
                                    replace p233 := eq_true p233
                                    replace q233 := eq_true q233
                                    have p234 : 0 ≤ ((ji20) : Int) := of_decide_eq_true (by first | (with_reducible assumption) | assumption)
                                    have q234 : (ji20) < (l0.length : Int) := of_decide_eq_true (by first | (with_reducible assumption) | assumption)
                                    obtain ⟨ad234, e234, hx234_0, hx234_1, hx234_2⟩ := at_T45 HR0.out (ji20) p234 q234
                                    have hw234_2 := hx234_2
                                    have hw234_1 := hx234_1
                                    have hw234_0 := hx234_0
                                    obtain rfl : ad232 = ad234 := (by injection e234)
                                    replace hx234_0 := (HB.out.cell (World.block_lt_of_cell? w _ hx234_0)).trans hx234_0
                                    replace hx234_1 := (HB.out.cell (World.block_lt_of_cell? w _ hx234_1)).trans hx234_1
                                    replace hx234_2 := (HB.out.cell (World.block_lt_of_cell? w _ hx234_2)).trans hx234_2
                                    replace p234 := eq_true p234
                                    replace q234 := eq_true q234
                                    have p235 : 0 ≤ ((ji20) : Int) := of_decide_eq_true (by first | (with_reducible assumption) | assumption)
                                    have q235 : (ji20) < (l0.length : Int) := of_decide_eq_true (by first | (with_reducible assumption) | assumption)
                                    obtain ⟨ad235, e235, hx235_0, hx235_1, hx235_2⟩ := at_T45 HR0.out (ji20) p235 q235
                                    have hw235_2 := hx235_2
                                    have hw235_1 := hx235_1
                                    have hw235_0 := hx235_0
                                    obtain rfl : ad232 = ad235 := (by injection e235)
                                    replace hx235_0 := (HB.out.cell (World.block_lt_of_cell? w _ hx235_0)).trans hx235_0
                                    replace hx235_1 := (HB.out.cell (World.block_lt_of_cell? w _ hx235_1)).trans hx235_1
                                    replace hx235_2 := (HB.out.cell (World.block_lt_of_cell? w _ hx235_2)).trans hx235_2
                                    replace p235 := eq_true p235
                                    replace q235 := eq_true q235
                                    refine start_ (n := 29) (S := fun w' => w'.cell? (ad232.add (((ji20)).toNat * 3)) = some (.int .i32 ((rd_T45 l0 (ji20)).f0)) ∧ w'.cell? ⟨(ad232.add (((ji20)).toNat * 3)).block, (ad232.add (((ji20)).toNat * 3)).off + 1, none⟩ = some (.int .i32 ((rd_T45 l0 (ji20)).f1)) ∧ w'.cell? ⟨(ad232.add (((ji20)).toNat * 3)).block, (ad232.add (((ji20)).toNat * 3)).off + 2, none⟩ = some (.int .i64 ((rd_T45 l0 (ji20)).f2)) ∧ w'.cell? (ad232.add (((ji20)).toNat * 3)) = some (.int .i32 ((rd_T45 l0 (ji20)).f0)) ∧ w'.cell? ⟨(ad232.add (((ji20)).toNat * 3)).block, (ad232.add (((ji20)).toNat * 3)).off + 1, none⟩ = some (.int .i32 ((rd_T45 l0 (ji20)).f1)) ∧ w'.cell? ⟨(ad232.add (((ji20)).toNat * 3)).block, (ad232.add (((ji20)).toNat * 3)).off + 2, none⟩ = some (.int .i64 ((rd_T45 l0 (ji20)).f2)) ∧ w'.cell? (ad232.add (((ji20)).toNat * 3)) = some (.int .i32 ((rd_T45 l0 (ji20)).f0)) ∧ w'.cell? ⟨(ad232.add (((ji20)).toNat * 3)).block, (ad232.add (((ji20)).toNat * 3)).off + 1, none⟩ = some (.int .i32 ((rd_T45 l0 (ji20)).f1)) ∧ w'.cell? ⟨(ad232.add (((ji20)).toNat * 3)).block, (ad232.add (((ji20)).toNat * 3)).off + 2, none⟩ = some (.int .i64 ((rd_T45 l0 (ji20)).f2)) ∧ w'.cell? (ad232.add (((ji20)).toNat * 3)) = some (.int .i32 ((rd_T45 l0 (ji20)).f0)) ∧ w'.cell? ⟨(ad232.add (((ji20)).toNat * 3)).block, (ad232.add (((ji20)).toNat * 3)).off + 1, none⟩ = some (.int .i32 ((rd_T45 l0 (ji20)).f1)) ∧ w'.cell? ⟨(ad232.add (((ji20)).toNat * 3)).block, (ad232.add (((ji20)).toNat * 3)).off + 2, none⟩ = some (.int .i64 ((rd_T45 l0 (ji20)).f2))) (ds := []) #[false, false, false, false, false, false, false, false, false, false, false, false, false, false, false, false, false, false, false, false, false, false, false, false, false, false, false, false, false] (by kernel_rfl) rfl rfl ⟨((HB.out.cell (World.block_lt_of_cell? w _ hw232_0)).trans hw232_0), ((HB.out.cell (World.block_lt_of_cell? w _ hw232_1)).trans hw232_1), ((HB.out.cell (World.block_lt_of_cell? w _ hw232_2)).trans hw232_2), ((HB.out.cell (World.block_lt_of_cell? w _ hw233_0)).trans hw233_0), ((HB.out.cell (World.block_lt_of_cell? w _ hw233_1)).trans hw233_1), ((HB.out.cell (World.block_lt_of_cell? w _ hw233_2)).trans hw233_2), ((HB.out.cell (World.block_lt_of_cell? w _ hw234_0)).trans hw234_0), ((HB.out.cell (World.block_lt_of_cell? w _ hw234_1)).trans hw234_1), ((HB.out.cell (World.block_lt_of_cell? w _ hw234_2)).trans hw234_2), ((HB.out.cell (World.block_lt_of_cell? w _ hw235_0)).trans hw235_0), ((HB.out.cell (World.block_lt_of_cell? w _ hw235_1)).trans hw235_1), ((HB.out.cell (World.block_lt_of_cell? w _ hw235_2)).trans hw235_2)⟩ (fun hHeld => ?_); refine with_tabW reedpenlaw02_SpanSplit.tab10 reedpenlaw02_SpanSplit.bits10 (fun HT_ HW_ => ?_)
                                    generalize w72.drew = w73 at HO231 HB hx232_0 hx232_1 hx232_2 hx233_0 hx233_1 hx233_2 hx234_0 hx234_1 hx234_2 hx235_0 hx235_1 hx235_2 hHeld ⊢
                                    refine pure_ (i := 0) (N := some 57) (v := ?_) (a' := ?_) #[true, false, false, false, false, false, false, false, false, false, false, false, false, false, false, false, false, false, false, false, false, false, false, false, false, false, false, false, false] rfl rfl (any_of HT_.out (by kernel_rfl)) (fun _ _ _ h => h) (Or.inl ⟨by rfl, ?_⟩) ?_ ?_
                                    rotate_left
                                    · intro w'
                                      go_simp
                                      with_reducible rfl
                                    rotate_left
                                    · simp only [Act.put, List.setIfInBounds_toArray, List.set_cons_zero, List.set_cons_succ, i64_w, i32_w]
                                      rfl
                                    refine pure_ (i := 1) (N := some 58) (v := ?_) (a' := ?_) #[true, true, false, false, false, false, false, false, false, false, false, false, false, false, false, false, false, false, false, false, false, false, false, false, false, false, false, false, false] rfl rfl (any_of HT_.out (by kernel_rfl)) (fun _ _ _ h => h) (Or.inl ⟨by rfl, ?_⟩) ?_ ?_
                                    rotate_left
                                    · intro w'
                                      go_simp
                                      with_reducible rfl
                                    rotate_left
                                    · simp only [Act.put, List.setIfInBounds_toArray, List.set_cons_zero, List.set_cons_succ, i64_w, i32_w]
                                      rfl
                                    refine pure_ (i := 2) (N := some 59) (v := ?_) (a' := ?_) #[true, true, true, false, false, false, false, false, false, false, false, false, false, false, false, false, false, false, false, false, false, false, false, false, false, false, false, false, false] rfl rfl (any_of HT_.out (by kernel_rfl)) (fun _ _ _ h => h) (Or.inl ⟨by rfl, ?_⟩) ?_ ?_
                                    rotate_left
                                    · intro w'
                                      go_simp
                                      with_reducible rfl
                                    rotate_left
                                    · simp only [Act.put, List.setIfInBounds_toArray, List.set_cons_zero, List.set_cons_succ, i64_w, i32_w]
                                      rfl
                                    refine pure_ (i := 3) (N := some 60) (v := ?_) (a' := ?_) #[true, true, true, true, false, false, false, false, false, false, false, false, false, false, false, false, false, false, false, false, false, false, false, false, false, false, false, false, false] rfl rfl (any_of HT_.out (by kernel_rfl)) (fun _ _ _ h => h) (Or.inl ⟨by rfl, ?_⟩) ?_ ?_
                                    rotate_left
                                    · intro w'
                                      go_simp
                                      with_reducible rfl
                                    rotate_left
                                    · simp only [Act.put, List.setIfInBounds_toArray, List.set_cons_zero, List.set_cons_succ, i64_w, i32_w]
                                      rfl
                                    refine pure_ (i := 4) (N := some 61) (v := ?_) (a' := ?_) #[true, true, true, true, true, false, false, false, false, false, false, false, false, false, false, false, false, false, false, false, false, false, false, false, false, false, false, false, false] rfl rfl (any_of HT_.out (by kernel_rfl)) (fun _ _ _ h => h) (Or.inl ⟨by rfl, ?_⟩) ?_ ?_
                                    rotate_left
                                    · intro w'
                                      go_simp
                                      with_reducible rfl
                                    rotate_left
                                    · simp only [Act.put, List.setIfInBounds_toArray, List.set_cons_zero, List.set_cons_succ, i64_w, i32_w]
                                      rfl
                                    refine pure_ (i := 6) (N := some 63) (v := ?_) (a' := ?_) #[true, true, true, true, true, false, true, false, false, false, false, false, false, false, false, false, false, false, false, false, false, false, false, false, false, false, false, false, false] rfl rfl (any_of HT_.out (by kernel_rfl)) (fun _ _ _ h => h) (Or.inl ⟨by rfl, ?_⟩) ?_ ?_
                                    rotate_left
                                    · intro w'
                                      go_simp
                                      with_reducible rfl
                                    rotate_left
                                    · simp only [Act.put, List.setIfInBounds_toArray, List.set_cons_zero, List.set_cons_succ, i64_w, i32_w]
                                      rfl
                                    refine pure_ (i := 7) (N := some 64) (v := ?_) (a' := ?_) #[true, true, true, true, true, false, true, true, false, false, false, false, false, false, false, false, false, false, false, false, false, false, false, false, false, false, false, false, false] rfl rfl (any_of HT_.out (by kernel_rfl)) (fun _ _ _ h => h) (Or.inl ⟨by rfl, ?_⟩) ?_ ?_
                                    rotate_left
                                    · intro w'
                                      go_simp
                                      with_reducible rfl
                                    rotate_left
                                    · simp only [Act.put, List.setIfInBounds_toArray, List.set_cons_zero, List.set_cons_succ, i64_w, i32_w]
                                      rfl
                                    refine pure_ (i := 8) (N := some 65) (v := ?_) (a' := ?_) #[true, true, true, true, true, false, true, true, true, false, false, false, false, false, false, false, false, false, false, false, false, false, false, false, false, false, false, false, false] rfl rfl (any_of HT_.out (by kernel_rfl)) (fun _ _ _ h => h) (Or.inl ⟨by rfl, ?_⟩) ?_ ?_
                                    rotate_left
                                    · intro w'
                                      go_simp
                                      with_reducible rfl
                                    rotate_left
                                    · simp only [Act.put, List.setIfInBounds_toArray, List.set_cons_zero, List.set_cons_succ, i64_w, i32_w]
                                      rfl
                                    refine pure_ (i := 9) (N := some 66) (v := ?_) (a' := ?_) #[true, true, true, true, true, false, true, true, true, true, false, false, false, false, false, false, false, false, false, false, false, false, false, false, false, false, false, false, false] rfl rfl (any_of HT_.out (by kernel_rfl)) (fun _ _ _ h => h) (Or.inl ⟨by rfl, ?_⟩) ?_ ?_
                                    rotate_left
                                    · intro w'
                                      go_simp
                                      with_reducible rfl
                                    rotate_left
                                    · simp only [Act.put, List.setIfInBounds_toArray, List.set_cons_zero, List.set_cons_succ, i64_w, i32_w]
                                      rfl
                                    refine pure_ (i := 10) (N := some 67) (v := ?_) (a' := ?_) #[true, true, true, true, true, false, true, true, true, true, true, false, false, false, false, false, false, false, false, false, false, false, false, false, false, false, false, false, false] rfl rfl (any_of HT_.out (by kernel_rfl)) (fun _ _ _ h => h) (Or.inl ⟨by rfl, ?_⟩) ?_ ?_
                                    rotate_left
                                    · intro w'
                                      go_simp
                                      with_reducible rfl
                                    rotate_left
                                    · simp only [Act.put, List.setIfInBounds_toArray, List.set_cons_zero, List.set_cons_succ, i64_w, i32_w]
                                      rfl
                                    refine pure_ (i := 13) (N := some 70) (v := ?_) (a' := ?_) #[true, true, true, true, true, false, true, true, true, true, true, false, false, true, false, false, false, false, false, false, false, false, false, false, false, false, false, false, false] rfl rfl (any_of HT_.out (by kernel_rfl)) (fun _ _ _ h => h) (Or.inl ⟨by rfl, ?_⟩) ?_ ?_
                                    rotate_left
                                    · intro w'
                                      go_simp
                                      with_reducible rfl
                                    rotate_left
                                    · simp only [Act.put, List.setIfInBounds_toArray, List.set_cons_zero, List.set_cons_succ, i64_w, i32_w]
                                      rfl
                                    refine pure_ (i := 14) (N := some 71) (v := ?_) (a' := ?_) #[true, true, true, true, true, false, true, true, true, true, true, false, false, true, true, false, false, false, false, false, false, false, false, false, false, false, false, false, false] rfl rfl (any_of HT_.out (by kernel_rfl)) (fun _ _ _ h => h) (Or.inl ⟨by rfl, ?_⟩) ?_ ?_
                                    rotate_left
                                    · intro w'
                                      go_simp
                                      with_reducible rfl
                                    rotate_left
                                    · simp only [Act.put, List.setIfInBounds_toArray, List.set_cons_zero, List.set_cons_succ, i64_w, i32_w]
                                      rfl
                                    refine pure_ (i := 15) (N := some 72) (v := ?_) (a' := ?_) #[true, true, true, true, true, false, true, true, true, true, true, false, false, true, true, true, false, false, false, false, false, false, false, false, false, false, false, false, false] rfl rfl (any_of HT_.out (by kernel_rfl)) (fun _ _ _ h => h) (Or.inl ⟨by rfl, ?_⟩) ?_ ?_
                                    rotate_left
                                    · intro w'
                                      go_simp
                                      with_reducible rfl
                                    rotate_left
                                    · simp only [Act.put, List.setIfInBounds_toArray, List.set_cons_zero, List.set_cons_succ, i64_w, i32_w]
                                      rfl
                                    refine pure_ (i := 16) (N := some 73) (v := ?_) (a' := ?_) #[true, true, true, true, true, false, true, true, true, true, true, false, false, true, true, true, true, false, false, false, false, false, false, false, false, false, false, false, false] rfl rfl (any_of HT_.out (by kernel_rfl)) (fun _ _ _ h => h) (Or.inl ⟨by rfl, ?_⟩) ?_ ?_
                                    rotate_left
                                    · intro w'
                                      go_simp
                                      with_reducible rfl
                                    rotate_left
                                    · simp only [Act.put, List.setIfInBounds_toArray, List.set_cons_zero, List.set_cons_succ, i64_w, i32_w]
                                      rfl
                                    refine pure_ (i := 17) (N := some 74) (v := ?_) (a' := ?_) #[true, true, true, true, true, false, true, true, true, true, true, false, false, true, true, true, true, true, false, false, false, false, false, false, false, false, false, false, false] rfl rfl (any_of HT_.out (by kernel_rfl)) (fun _ _ _ h => h) (Or.inl ⟨by rfl, ?_⟩) ?_ ?_
                                    rotate_left
                                    · intro w'
                                      go_simp
                                      with_reducible rfl
                                    rotate_left
                                    · simp only [Act.put, List.setIfInBounds_toArray, List.set_cons_zero, List.set_cons_succ, i64_w, i32_w]
                                      rfl
                                    refine pure_ (i := 18) (N := some 75) (v := ?_) (a' := ?_) #[true, true, true, true, true, false, true, true, true, true, true, false, false, true, true, true, true, true, true, false, false, false, false, false, false, false, false, false, false] rfl rfl (any_of HT_.out (by kernel_rfl)) (fun _ _ _ h => h) (Or.inl ⟨by rfl, ?_⟩) ?_ ?_
                                    rotate_left
                                    · intro w'
                                      go_simp
                                      with_reducible rfl
                                    rotate_left
                                    · simp only [Act.put, List.setIfInBounds_toArray, List.set_cons_zero, List.set_cons_succ, i64_w, i32_w]
                                      rfl
                                    refine pure_ (i := 20) (N := some 77) (v := ?_) (a' := ?_) #[true, true, true, true, true, false, true, true, true, true, true, false, false, true, true, true, true, true, true, false, true, false, false, false, false, false, false, false, false] rfl rfl (any_of HT_.out (by kernel_rfl)) (fun _ _ _ h => h) (Or.inl ⟨by rfl, ?_⟩) ?_ ?_
                                    rotate_left
                                    · intro w'
                                      go_simp
                                      with_reducible rfl
                                    rotate_left
                                    · simp only [Act.put, List.setIfInBounds_toArray, List.set_cons_zero, List.set_cons_succ, i64_w, i32_w]
                                      rfl
                                    refine pure_ (i := 21) (N := some 78) (v := ?_) (a' := ?_) #[true, true, true, true, true, false, true, true, true, true, true, false, false, true, true, true, true, true, true, false, true, true, false, false, false, false, false, false, false] rfl rfl (any_of HT_.out (by kernel_rfl)) (fun _ _ _ h => h) (Or.inl ⟨by rfl, ?_⟩) ?_ ?_
                                    rotate_left
                                    · intro w'
                                      go_simp
                                      with_reducible rfl
                                    rotate_left
                                    · simp only [Act.put, List.setIfInBounds_toArray, List.set_cons_zero, List.set_cons_succ, i64_w, i32_w]
                                      rfl
                                    refine pure_ (i := 22) (N := some 79) (v := ?_) (a' := ?_) #[true, true, true, true, true, false, true, true, true, true, true, false, false, true, true, true, true, true, true, false, true, true, true, false, false, false, false, false, false] rfl rfl (any_of HT_.out (by kernel_rfl)) (fun _ _ _ h => h) (Or.inl ⟨by rfl, ?_⟩) ?_ ?_
                                    rotate_left
                                    · intro w'
                                      go_simp
                                      with_reducible rfl
                                    rotate_left
                                    · simp only [Act.put, List.setIfInBounds_toArray, List.set_cons_zero, List.set_cons_succ, i64_w, i32_w]
                                      rfl
                                    refine pure_ (i := 23) (N := some 80) (v := ?_) (a' := ?_) #[true, true, true, true, true, false, true, true, true, true, true, false, false, true, true, true, true, true, true, false, true, true, true, true, false, false, false, false, false] rfl rfl (any_of HT_.out (by kernel_rfl)) (fun _ _ _ h => h) (Or.inl ⟨by rfl, ?_⟩) ?_ ?_
                                    rotate_left
                                    · intro w'
                                      go_simp
                                      with_reducible rfl
                                    rotate_left
                                    · simp only [Act.put, List.setIfInBounds_toArray, List.set_cons_zero, List.set_cons_succ, i64_w, i32_w]
                                      rfl
                                    refine take_ (i := 5) (N := some 62) (v := ?_) (a' := ?_) #[true, true, true, true, true, true, true, true, true, true, true, false, false, true, true, true, true, true, true, false, true, true, true, true, false, false, false, false, false] rfl rfl (take_ofW HT_.out HW_.out (by kernel_rfl)) (fun _ _ _ h => h) (Or.inl ⟨by rfl, ?_⟩) hHeld ?_ ?_
                                    rotate_left
                                    · rintro w' ⟨s0, s1, s2, s3, s4, s5, s6, s7, s8, s9, s10, s11⟩
                                      go_simp
                                      with_reducible rfl
                                    rotate_left
                                    · simp only [Act.put, List.setIfInBounds_toArray, List.set_cons_zero, List.set_cons_succ, i64_w, i32_w]
                                      rfl
                                    refine take_ (i := 11) (N := some 68) (v := ?_) (a' := ?_) #[true, true, true, true, true, true, true, true, true, true, true, true, false, true, true, true, true, true, true, false, true, true, true, true, false, false, false, false, false] rfl rfl (take_ofW HT_.out HW_.out (by kernel_rfl)) (fun _ _ _ h => h) (Or.inl ⟨by rfl, ?_⟩) hHeld ?_ ?_
                                    rotate_left
                                    · rintro w' ⟨s0, s1, s2, s3, s4, s5, s6, s7, s8, s9, s10, s11⟩
                                      go_simp
                                      with_reducible rfl
                                    rotate_left
                                    · simp only [Act.put, List.setIfInBounds_toArray, List.set_cons_zero, List.set_cons_succ, i64_w, i32_w]
                                      rfl
                                    refine pure_ (i := 12) (N := some 69) (v := ?_) (a' := ?_) #[true, true, true, true, true, true, true, true, true, true, true, true, true, true, true, true, true, true, true, false, true, true, true, true, false, false, false, false, false] rfl rfl (any_of HT_.out (by kernel_rfl)) (fun _ _ _ h => h) (Or.inl ⟨by rfl, ?_⟩) ?_ ?_
                                    rotate_left
                                    · intro w'
                                      go_simp
                                      with_reducible rfl
                                    rotate_left
                                    · simp only [Act.put, List.setIfInBounds_toArray, List.set_cons_zero, List.set_cons_succ, i64_w, i32_w]
                                      rfl
                                    refine take_ (i := 19) (N := some 76) (v := ?_) (a' := ?_) #[true, true, true, true, true, true, true, true, true, true, true, true, true, true, true, true, true, true, true, true, true, true, true, true, false, false, false, false, false] rfl rfl (take_ofW HT_.out HW_.out (by kernel_rfl)) (fun _ _ _ h => h) (Or.inl ⟨by rfl, ?_⟩) hHeld ?_ ?_
                                    rotate_left
                                    · rintro w' ⟨s0, s1, s2, s3, s4, s5, s6, s7, s8, s9, s10, s11⟩
                                      go_simp
                                      with_reducible rfl
                                    rotate_left
                                    · simp only [Act.put, List.setIfInBounds_toArray, List.set_cons_zero, List.set_cons_succ, i64_w, i32_w]
                                      rfl
                                    refine take_ (i := 24) (N := some 81) (v := ?_) (a' := ?_) #[true, true, true, true, true, true, true, true, true, true, true, true, true, true, true, true, true, true, true, true, true, true, true, true, true, false, false, false, false] rfl rfl (take_ofW HT_.out HW_.out (by kernel_rfl)) (fun _ _ _ h => h) (Or.inl ⟨by rfl, ?_⟩) hHeld ?_ ?_
                                    rotate_left
                                    · rintro w' ⟨s0, s1, s2, s3, s4, s5, s6, s7, s8, s9, s10, s11⟩
                                      go_simp
                                      with_reducible rfl
                                    rotate_left
                                    · simp only [Act.put, List.setIfInBounds_toArray, List.set_cons_zero, List.set_cons_succ, i64_w, i32_w]
                                      rfl
                                    refine pure_ (i := 25) (N := some 82) (v := ?_) (a' := ?_) #[true, true, true, true, true, true, true, true, true, true, true, true, true, true, true, true, true, true, true, true, true, true, true, true, true, true, false, false, false] rfl rfl (any_of HT_.out (by kernel_rfl)) (fun _ _ _ h => h) (Or.inl ⟨by rfl, ?_⟩) ?_ ?_
                                    rotate_left
                                    · intro w'
                                      go_simp
                                      with_reducible rfl
                                    rotate_left
                                    · simp only [Act.put, List.setIfInBounds_toArray, List.set_cons_zero, List.set_cons_succ, i64_w, i32_w]
                                      rfl
                                    refine one_ (i := 26) (N := some 83) #[true, true, true, true, true, true, true, true, true, true, true, true, true, true, true, true, true, true, true, true, true, true, true, true, true, true, true, false, false] rfl rfl (one_of HT_.out (by kernel_rfl)) (by decide) (fun K hK => ?_)
                                    refine Kd.R_lit_step k45 _ 45 ?hg (N := 83) ?hd (xs := ([(⟨(rd_T45 l0 (ji20)).f0, a2, (rd_T45 l0 (ji20)).f2⟩ : S45), (⟨wrap32 (a2 + 1), (rd_T45 l0 (ji20)).f1, (rd_T45 l0 (ji20)).f2⟩ : S45)] : List (S45))) (inner := [.int .i32 ((rd_T45 l0 (ji20)).f0), .int .i32 a2, .int .i64 ((rd_T45 l0 (ji20)).f2), .int .i32 (wrap32 (a2 + 1)), .int .i32 ((rd_T45 l0 (ji20)).f1), .int .i64 ((rd_T45 l0 (ji20)).f2)]) (ok := fun _ => True) (okp := fun _ => True) ?hr ?hp (fun _ hk => hk) trivial (Below.refl _ _) (Nat.le_refl _) (by simp) ?_; (case hd => rfl); (case hg => rfl); (case hr => first | (go_simp; done) | (go_simp; rfl)); (case hp => exact (Reps.c3 (show Kd.M k45 _ _ _ (⟨(rd_T45 l0 (ji20)).f0, a2, (rd_T45 l0 (ji20)).f2⟩ : S45) [.int .i32 ((rd_T45 l0 (ji20)).f0), .int .i32 a2, .int .i64 ((rd_T45 l0 (ji20)).f2)] from (k45_mkM _ _ _ (⟨(rd_T45 l0 (ji20)).f0, a2, (rd_T45 l0 (ji20)).f2⟩ : S45) )) (Reps.c3 (show Kd.M k45 _ _ _ (⟨wrap32 (a2 + 1), (rd_T45 l0 (ji20)).f1, (rd_T45 l0 (ji20)).f2⟩ : S45) [.int .i32 (wrap32 (a2 + 1)), .int .i32 ((rd_T45 l0 (ji20)).f1), .int .i64 ((rd_T45 l0 (ji20)).f2)] from (k45_mkM _ _ _ (⟨wrap32 (a2 + 1), (rd_T45 l0 (ji20)).f1, (rd_T45 l0 (ji20)).f2⟩ : S45) )) (Reps.none _ _))))
                                    intro v237 w74 ho75 hb hg_ hnew_
                                    clear hg_ hnew_
                                    (first | rw [← Ny236.out] at ho75 | (simp only [Int.reduceToNat] at ho75; rw [← Ny236.out] at ho75))
                                    have n0_ := Aside0.mk (Kd.R_elder' (by (with_reducible repeat (first | apply Kd.R_alloc | apply Kd.R_drewN | apply Kd.R_drew)); exact HO231.out) (Kd.R_base ho75) hb)
                                    have n1_ := Aside0.mk (Kd.R_lower (Kd.R_new' ho75 (Kd.R_lt (by (with_reducible repeat (first | apply Kd.R_alloc | apply Kd.R_drewN | apply Kd.R_drew)); exact HO231.out))) (below_size (by repeat (first | (with_reducible first | exact HB.out | apply below_alloc | apply pw_below_drewN | apply below_drew1) | exact HB.out))))
                                    have n2_ := Aside0.mk (below_step (by repeat (first | (with_reducible first | exact HB.out | apply below_alloc | apply pw_below_drewN | apply below_drew1) | exact HB.out)) hb)
                                    clear HO231
                                    clear HB
                                    have HO231 := n0_
                                    have HO238 := n1_
                                    have HB := n2_
                                    clear n0_ n1_ n2_
                                    clear hb ho75
                                    obtain ⟨Ao77, co77, eo77⟩ := Kd.R_slice HO238.out
                                    (first | subst eo77 | (injection eo77 with f1_ f2_ f3_; have f4_ := f1_.symm; have f5_ := f3_.symm; clear f1_ f2_ f3_; subst f4_; subst f5_))
                                    refine hK.out _ _ ⟨((HB.out.cell (World.block_lt_of_cell? w _ hw232_0)).trans hw232_0), ((HB.out.cell (World.block_lt_of_cell? w _ hw232_1)).trans hw232_1), ((HB.out.cell (World.block_lt_of_cell? w _ hw232_2)).trans hw232_2), ((HB.out.cell (World.block_lt_of_cell? w _ hw233_0)).trans hw233_0), ((HB.out.cell (World.block_lt_of_cell? w _ hw233_1)).trans hw233_1), ((HB.out.cell (World.block_lt_of_cell? w _ hw233_2)).trans hw233_2), ((HB.out.cell (World.block_lt_of_cell? w _ hw234_0)).trans hw234_0), ((HB.out.cell (World.block_lt_of_cell? w _ hw234_1)).trans hw234_1), ((HB.out.cell (World.block_lt_of_cell? w _ hw234_2)).trans hw234_2), ((HB.out.cell (World.block_lt_of_cell? w _ hw235_0)).trans hw235_0), ((HB.out.cell (World.block_lt_of_cell? w _ hw235_1)).trans hw235_1), ((HB.out.cell (World.block_lt_of_cell? w _ hw235_2)).trans hw235_2)⟩ (fun hHeld => ?_)
                                    clear hK K
                                    refine norm_ (a' := ?_) ?_ ?_
                                    rotate_left
                                    · show Act.put _ (some 83) _ = _
                                      simp only [Act.put, List.setIfInBounds_toArray, List.set_cons_zero, List.set_cons_succ, i64_w, i32_w]
                                      rfl
                                    refine one_ (i := 27) (N := some 84) #[true, true, true, true, true, true, true, true, true, true, true, true, true, true, true, true, true, true, true, true, true, true, true, true, true, true, true, true, false] rfl rfl (one_of HT_.out (by kernel_rfl)) (by decide) (fun K hK => ?_)
                                    refine Kd.R_append_rows_step k45 (w0 := w) w.heap.size (by rfl) (.tmp 57) (.tmp 83) 40 45 (.agg #[(.int .i32 0), (.int .i32 0), (.int .i64 0)]) 16 rfl Try.underlying40 info45 rfl (by decide) (by omega) v230 y229 y236 _ _ _ (fun k_ => some k_ ≠ (.slice Ao77 y236.length co77 : Value).ownBlock) (fun _ => False) rfl rfl ?aO ?aR (fun _ _ h => h) (fun _ h => h.elim) ?aF ?aB ?aS ?aL ?_
                                    (case aR => repeat (first | exact (Kd.R_reads' HO238.out).2.2 | (with_reducible refine Kd.C_alloc ?_ _) | (with_reducible refine Kd.C_drewN ?_ _) | (with_reducible refine Kd.C_drew ?_)))
                                    (case aB => exact (by repeat (first | (with_reducible first | exact HB.out | apply below_alloc | apply pw_below_drewN | apply below_drew1) | exact HB.out)))
                                    (case aF => exact (fun k_ hk => Kd.fresh' (Kd.R_lt (by (with_reducible repeat (first | apply Kd.R_alloc | apply Kd.R_drewN | apply Kd.R_drew)); exact HO238.out)) k_ hk))
                                    (case aO => exact (by (with_reducible repeat (first | apply Kd.R_alloc | apply Kd.R_drewN | apply Kd.R_drew)); exact Kd.R_mono HO231.out (fun _ hk => hk.2)))
                                    (case aS => exact (below_size (by repeat (first | (with_reducible first | exact HB.out | apply below_alloc | apply pw_below_drewN | apply below_drew1) | exact HB.out))))
                                    (case aL => have := LMc25.out; omega)
                                    intro v240 w76 ho hb hg hat
                                    rw [← Ny239.out] at ho
                                    have n0_ := Aside0.mk (Kd.R_after (ok := (fun _ => True)) (by (with_reducible repeat (first | apply Kd.R_alloc | apply Kd.R_drewN | apply Kd.R_drew)); exact HO238.out) hg hat)
                                    have n1_ := Aside0.mk (hb)
                                    have n2_ := Aside0.mk (ho)
                                    clear HO238
                                    clear HB
                                    clear HO231
                                    have HO238 := n0_
                                    have HB := n1_
                                    have HO241 := n2_
                                    clear n0_ n1_ n2_
                                    clear ho hb hg hat
                                    refine hK.out _ _ ⟨((HB.out.cell (World.block_lt_of_cell? w _ hw232_0)).trans hw232_0), ((HB.out.cell (World.block_lt_of_cell? w _ hw232_1)).trans hw232_1), ((HB.out.cell (World.block_lt_of_cell? w _ hw232_2)).trans hw232_2), ((HB.out.cell (World.block_lt_of_cell? w _ hw233_0)).trans hw233_0), ((HB.out.cell (World.block_lt_of_cell? w _ hw233_1)).trans hw233_1), ((HB.out.cell (World.block_lt_of_cell? w _ hw233_2)).trans hw233_2), ((HB.out.cell (World.block_lt_of_cell? w _ hw234_0)).trans hw234_0), ((HB.out.cell (World.block_lt_of_cell? w _ hw234_1)).trans hw234_1), ((HB.out.cell (World.block_lt_of_cell? w _ hw234_2)).trans hw234_2), ((HB.out.cell (World.block_lt_of_cell? w _ hw235_0)).trans hw235_0), ((HB.out.cell (World.block_lt_of_cell? w _ hw235_1)).trans hw235_1), ((HB.out.cell (World.block_lt_of_cell? w _ hw235_2)).trans hw235_2)⟩ (fun hHeld => ?_)
                                    clear hK K
                                    refine norm_ (a' := ?_) ?_ ?_
                                    rotate_left
                                    · show Act.put _ (some 84) _ = _
                                      simp only [Act.put, List.setIfInBounds_toArray, List.set_cons_zero, List.set_cons_succ, i64_w, i32_w]
                                      rfl
                                    refine pure_ (i := 28) (N := some 8) (v := ?_) (a' := ?_) #[true, true, true, true, true, true, true, true, true, true, true, true, true, true, true, true, true, true, true, true, true, true, true, true, true, true, true, true, true] rfl rfl (any_of HT_.out (by kernel_rfl)) (fun _ _ _ h => h) (Or.inl ⟨by rfl, ?_⟩) ?_ ?_
                                    rotate_left
                                    · intro w'
                                      go_simp
                                      with_reducible rfl
                                    rotate_left
                                    · simp only [Act.put, List.setIfInBounds_toArray, List.set_cons_zero, List.set_cons_succ, i64_w, i32_w]
                                      rfl
                                    refine done_ (done_of HT_.out (by kernel_rfl)) ?_
                                    have q78 : ((ji26) : Int) ≤ ((l0.length : Int) : Int) := of_decide_eq_true (by first | (with_reducible assumption) | assumption)
                                    obtain ⟨i078, hi078, _, hsz78, _⟩ := info_parts info45
                                    have hroom78 : l0.length ≤ c0 := HC0.out
                                    have hC78 : Kd.C k45 _ (some ad232) l0.length l0 := HR0.out
                                    have q078 : (0 : Int) ≤ ((ji26) : Int) := of_decide_eq_true (by first | (with_reducible assumption) | assumption)
                                    have hcut78 := cut_from (P := Try.prog) 40 45 .i64 Try.underlying40 hi078 3 hsz78 (some ad232) l0.length c0 (ji26) q078 q78
                                    have hr78 := Kd.C_drop (m := ((ji26) : Int).toNat) (c := c0) hC78 (by omega) hroom78
                                    obtain ⟨A78, hA78⟩ : ∃ A1, A1 = (if c0 = ((ji26) : Int).toNat then (some ad232) else ((some ad232) : Option Addr).map (·.add (((ji26) : Int).toNat * 3))) := ⟨_, rfl⟩
                                    obtain ⟨c78, hc78⟩ : ∃ c1, c1 = c0 - ((ji26) : Int).toNat := ⟨_, rfl⟩
                                    have hy78 : y242.length = l0.length - ((ji26) : Int).toNat := (by rw [Ny242.out, List.length_drop] <;> omega)
                                    rw [show (l0).drop ((ji26) : Int).toNat = y242 from Ny242.out.symm] at hr78
                                    replace hr78 : Kd.C k45 _ A78 y242.length y242 := (by rw [hA78]; exact hr78)
                                    rw [← hy78, ← hA78, ← hc78] at hcut78
                                    have HR245 := Aside0.mk hr78
                                    have HC245 := Aside0.mk (show y242.length ≤ c78 from by rw [hy78, hc78]; exact Nat.sub_le_sub_right hroom78 _)
                                    clear hr78 hC78 hroom78 hi078 hsz78 hc78
                                    have KY78 := Aside0.mk hy78
                                    have KA78 := Aside0.mk hA78
                                    clear hy78 hA78
                                    replace q78 := eq_true q78
                                    try go_wp2_with (first | ((with_reducible refine gate_builtin (b := .append) (xs := #[.tmp 85, .tmp 89]) rfl ?_); (try (refine gate_guard (by rfl) ?_; dsimp only)); at_builtin; refine Kd.R_append_rows k45 (w0 := w) w.heap.size rfl (.tmp 85) (.tmp 89) 40 45 (.agg #[(.int .i32 0), (.int .i32 0), (.int .i64 0)]) 16 rfl Try.underlying40 info45 rfl (by decide) (by omega) v240 y239 y242 _ _ _ (fun k_ => some k_ ≠ (.slice Ao77 y236.length co77 : Value).ownBlock) (fun _ => False) rfl rfl ?aO ?aR (fun _ _ h => h) (fun _ h => h.elim) ?aF ?aB ?aS ?aL ?_; (case aR => repeat (first | exact (Kd.C_below HR245.out HB.out) | (with_reducible refine Kd.C_alloc ?_ _) | (with_reducible refine Kd.C_drewN ?_ _) | (with_reducible refine Kd.C_drew ?_))); (case aB => exact (by repeat (first | (with_reducible first | exact HB.out | apply below_alloc | apply pw_below_drewN | apply below_drew1) | exact HB.out))); (case aF => exact (fun k_ hk => Kd.fresh' (Kd.R_lt (by (with_reducible repeat (first | apply Kd.R_alloc | apply Kd.R_drewN | apply Kd.R_drew)); exact HO238.out)) k_ hk)); (case aO => exact (by (with_reducible repeat (first | apply Kd.R_alloc | apply Kd.R_drewN | apply Kd.R_drew)); exact HO241.out)); (case aS => exact (below_size (by repeat (first | (with_reducible first | exact HB.out | apply below_alloc | apply pw_below_drewN | apply below_drew1) | exact HB.out)))); (case aL => have := LMc29.out; omega); intro v247 w79 ho hb hg hat; rw [← Ny246.out] at ho; have n0_ := Aside0.mk (Kd.R_after (ok := (fun _ => True)) (by (with_reducible repeat (first | apply Kd.R_alloc | apply Kd.R_drewN | apply Kd.R_drew)); exact HO238.out) hg hat); have n1_ := Aside0.mk (hb); have n2_ := Aside0.mk (ho); clear HO238; clear HB; clear HO241; have HO238 := n0_; have HB := n1_; have HO248 := n2_; clear n0_ n1_ n2_; clear ho hb hg hat; obtain ⟨Ao80, co80, eo80⟩ := Kd.R_slice HO248.out; subst eo80) | ((with_reducible refine gate_callee (f := 34) rfl ?_); refine goesL_ (some 94) rfl rfl Try.func34 (by kernel_rfl) rfl #[.slice Ao80 y246.length co80, .int .i32 a2] rfl (by (try simp only [List.map_toArray, List.map_cons, List.map_nil]); first | done | rfl | (simp only [List.length_drop, List.length_take]; rfl)) ?_; (with_reducible refine (span_Find.calls _ _ y246 a2 t249 t250 _ ?side1 ?side2 A30.out).mono ?_); (case side1 => repeat (first | exact (Kd.R_reads' HO248.out).2.2 | (with_reducible refine Kd.C_alloc ?_ _) | (with_reducible refine Kd.C_drewN ?_ _) | (with_reducible refine Kd.C_drew ?_))); (case side2 => exact (Kd.R_reads' HO248.out).2.1); rintro e w81 ⟨rfl, hb⟩; refine ⟨_, rfl, ?_⟩; have n0_ := Aside0.mk (Kd.R_below (by (with_reducible repeat (first | apply Kd.R_alloc | apply Kd.R_drewN | apply Kd.R_drew)); exact HO238.out) hb); have n1_ := Aside0.mk (Kd.R_below (by (with_reducible repeat (first | apply Kd.R_alloc | apply Kd.R_drewN | apply Kd.R_drew)); exact HO248.out) hb); have n2_ := Aside0.mk (below_step (by repeat (first | (with_reducible first | exact HB.out | apply below_alloc | apply pw_below_drewN | apply below_drew1) | exact HB.out)) hb); clear HO238; clear HO248; clear HB; have HO238 := n0_; have HO248 := n1_; have HB := n2_; clear n0_ n1_ n2_; (try clear hb); (try clear hb2); (try clear hk); (try clear hi)) | ((with_reducible refine gate_callee (f := 34) rfl ?_); refine goesL_ (some 101) rfl rfl Try.func34 (by kernel_rfl) rfl #[.slice Ao80 y246.length co80, .int .i32 (wrap32 (a2 + 1))] rfl (by (try simp only [List.map_toArray, List.map_cons, List.map_nil]); first | done | rfl | (simp only [List.length_drop, List.length_take]; rfl)) ?_; (with_reducible refine (span_Find.calls _ _ y246 (wrap32 (a2 + 1)) t251 t252 _ ?side1 ?side2 A31.out).mono ?_); (case side1 => repeat (first | exact (Kd.R_reads' HO248.out).2.2 | (with_reducible refine Kd.C_alloc ?_ _) | (with_reducible refine Kd.C_drewN ?_ _) | (with_reducible refine Kd.C_drew ?_))); (case side2 => exact (Kd.R_reads' HO248.out).2.1); rintro e w82 ⟨rfl, hb⟩; refine ⟨_, rfl, ?_⟩; have n0_ := Aside0.mk (Kd.R_below (by (with_reducible repeat (first | apply Kd.R_alloc | apply Kd.R_drewN | apply Kd.R_drew)); exact HO238.out) hb); have n1_ := Aside0.mk (Kd.R_below (by (with_reducible repeat (first | apply Kd.R_alloc | apply Kd.R_drewN | apply Kd.R_drew)); exact HO248.out) hb); have n2_ := Aside0.mk (below_step (by repeat (first | (with_reducible first | exact HB.out | apply below_alloc | apply pw_below_drewN | apply below_drew1) | exact HB.out)) hb); clear HO238; clear HO248; clear HB; have HO238 := n0_; have HO248 := n1_; have HB := n2_; clear n0_ n1_ n2_; (try clear hb); (try clear hb2); (try clear hk); (try clear hi)) | ((with_reducible refine gate_callee (f := 36) rfl ?_); refine goesL_ (some 105) rfl rfl Try.func36 (by kernel_rfl) rfl #[.slice (some ad232) l0.length c0] rfl (by (try simp only [List.map_toArray, List.map_cons, List.map_nil]); first | done | rfl | (simp only [List.length_drop, List.length_take]; rfl)) ?_; (with_reducible refine (span_Join.calls kj13 _ _ l0 t253 _ ?side1 ?side2 A32.out).mono ?_); (case side1 => repeat (first | exact (Kd.C_below HR0.out HB.out) | (with_reducible refine Kd.C_alloc ?_ _) | (with_reducible refine Kd.C_drewN ?_ _) | (with_reducible refine Kd.C_drew ?_))); (case side2 => exact HC0.out); rintro e w83 ⟨v254, rfl, ho0, hb⟩; refine ⟨_, rfl, ?_⟩; have n0_ := Aside0.mk (Kd.R_elder' (by (with_reducible repeat (first | apply Kd.R_alloc | apply Kd.R_drewN | apply Kd.R_drew)); exact HO238.out) (Kd.R_base ho0) hb); have n1_ := Aside0.mk (Kd.R_elder' (by (with_reducible repeat (first | apply Kd.R_alloc | apply Kd.R_drewN | apply Kd.R_drew)); exact HO248.out) (Kd.R_base ho0) hb); have n2_ := Aside0.mk (Kd.R_lower (Kd.R_new' (Kd.R_new' ho0 (Kd.R_lt (by (with_reducible repeat (first | apply Kd.R_alloc | apply Kd.R_drewN | apply Kd.R_drew)); exact HO238.out))) (Kd.R_lt (by (with_reducible repeat (first | apply Kd.R_alloc | apply Kd.R_drewN | apply Kd.R_drew)); exact HO248.out))) (below_size (by repeat (first | (with_reducible first | exact HB.out | apply below_alloc | apply pw_below_drewN | apply below_drew1) | exact HB.out)))); have n3_ := Aside0.mk (below_step (by repeat (first | (with_reducible first | exact HB.out | apply below_alloc | apply pw_below_drewN | apply below_drew1) | exact HB.out)) hb); clear HO238; clear HO248; clear HB; have HO238 := n0_; have HO248 := n1_; have HO255 := n2_; have HB := n3_; clear n0_ n1_ n2_ n3_; (try clear hb); (try clear hb2); (try clear hk); (try clear hi); (try clear ho0)) | ((with_reducible refine gate_callee (f := 36) rfl ?_); refine goesL_ (some 107) rfl rfl Try.func36 (by kernel_rfl) rfl #[.slice Ao80 y246.length co80] rfl (by (try simp only [List.map_toArray, List.map_cons, List.map_nil]); first | done | rfl | (simp only [List.length_drop, List.length_take]; rfl)) ?_; (with_reducible refine (span_Join.calls kj13 _ _ y246 t256 _ ?side1 ?side2 A33.out).mono ?_); (case side1 => repeat (first | exact (Kd.R_reads' HO248.out).2.2 | (with_reducible refine Kd.C_alloc ?_ _) | (with_reducible refine Kd.C_drewN ?_ _) | (with_reducible refine Kd.C_drew ?_))); (case side2 => exact (Kd.R_reads' HO248.out).2.1); rintro e w84 ⟨v257, rfl, ho0, hb⟩; refine ⟨_, rfl, ?_⟩; have n0_ := Aside0.mk (Kd.R_elder' (by (with_reducible repeat (first | apply Kd.R_alloc | apply Kd.R_drewN | apply Kd.R_drew)); exact HO238.out) (Kd.R_base ho0) hb); have n1_ := Aside0.mk (Kd.R_elder' (by (with_reducible repeat (first | apply Kd.R_alloc | apply Kd.R_drewN | apply Kd.R_drew)); exact HO248.out) (Kd.R_base ho0) hb); have n2_ := Aside0.mk (Kd.R_elder' (by (with_reducible repeat (first | apply Kd.R_alloc | apply Kd.R_drewN | apply Kd.R_drew)); exact HO255.out) (Kd.R_base ho0) hb); have n3_ := Aside0.mk (Kd.R_lower (Kd.R_new' (Kd.R_new' (Kd.R_new' ho0 (Kd.R_lt (by (with_reducible repeat (first | apply Kd.R_alloc | apply Kd.R_drewN | apply Kd.R_drew)); exact HO238.out))) (Kd.R_lt (by (with_reducible repeat (first | apply Kd.R_alloc | apply Kd.R_drewN | apply Kd.R_drew)); exact HO248.out))) (Kd.R_lt (by (with_reducible repeat (first | apply Kd.R_alloc | apply Kd.R_drewN | apply Kd.R_drew)); exact HO255.out))) (below_size (by repeat (first | (with_reducible first | exact HB.out | apply below_alloc | apply pw_below_drewN | apply below_drew1) | exact HB.out)))); have n4_ := Aside0.mk (below_step (by repeat (first | (with_reducible first | exact HB.out | apply below_alloc | apply pw_below_drewN | apply below_drew1) | exact HB.out)) hb); clear HO238; clear HO248; clear HO255; clear HB; have HO238 := n0_; have HO248 := n1_; have HO255 := n2_; have HO258 := n3_; have HB := n4_; clear n0_ n1_ n2_ n3_ n4_; (try clear hb); (try clear hb2); (try clear hk); (try clear hi); (try clear ho0); obtain ⟨Ao85, co85, eo85⟩ := Kd.R_slice HO255.out; subst eo85; obtain ⟨Ao86, co86, eo86⟩ := Kd.R_slice HO258.out; subst eo86))
                                    go_ret
                                    exact ⟨by first | rfl | (simp [errW_none, errW_some] <;> rfl) | (simp only [← hji20, ← hji26]; first | rfl | (simp [errW_none, errW_some] <;> rfl)) | (simp [*, errW_none, errW_some] <;> rfl), by repeat (first | (with_reducible first | exact HB.out | apply below_alloc | apply pw_below_drewN | apply below_drew1) | exact HB.out)⟩
                                · rw [if_neg c29] at H
                                  exact absurd H (by simp)
                              · rw [if_neg c28] at H
                                exact absurd H (by simp)
                            · rw [if_neg c27] at H
                              exact absurd H (by simp)
                          · rw [if_neg c25] at H
                            exact absurd H (by simp)
                        · rw [if_neg c24] at H
                          exact absurd H (by simp)
                      · rw [if_neg c23] at H
                        exact absurd H (by simp)
                    · rw [if_neg c22] at H
                      exact absurd H (by simp)
                  · rw [if_neg c21] at H
                    exact absurd H (by simp)
  · replace c5 := Bool.eq_false_iff.mpr c5
    subst c5
    have H1 : (some false) = some r := by rw [if_neg (show ¬ (false = true) by decide)] at H; exact H
    clear H
    have H := H1
    clear H1
    obtain rfl := Option.some.inj H
    go_enter Try.func11, Try.ntmps11
    go_wp2_with (first | ((with_reducible refine gate_callee (f := 29) rfl ?_); refine goesL_ (some 16) rfl rfl Try.func29 (by kernel_rfl) rfl #[] rfl (by (try simp only [List.map_toArray, List.map_cons, List.map_nil]); first | done | rfl | (simp only [List.length_drop, List.length_take]; rfl)) ?_; (with_reducible refine (reedpenlaw02_alive.calls k  false _ A4.out).mono ?_); rintro e w87 ⟨rfl, hb⟩; refine ⟨_, rfl, ?_⟩; have n0_ := Aside0.mk (below_step (by repeat (first | (with_reducible first | exact HB.out | apply below_alloc | apply pw_below_drewN | apply below_drew1) | exact HB.out)) hb); clear HB; have HB := n0_; clear n0_; (try clear hb); (try clear hb2); (try clear hk); (try clear hi)))
    go_ret
    exact ⟨by first | rfl | (simp [errW_none, errW_some] <;> rfl) | (simp [*, errW_none, errW_some] <;> rfl), by repeat (first | (with_reducible first | exact HB.out | apply below_alloc | apply pw_below_drewN | apply below_drew1) | exact HB.out)⟩

end Go.Proofs.Ytahmicipakmbmaa.Z
