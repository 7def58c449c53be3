-- PRINTED BY mprint.py (a program of this session, over the kit's printer): Lean checks it
import Derived.Test.YtahmicipakmbmaaZ0
import Derived.Test.YtahmicipakmbmaaZ1
import Derived.Test.YtahmicipakmbmaaZ2
import Derived.Test.YtahmicipakmbmaaZ3
import Derived.Test.YtahmicipakmbmaaZ4
namespace Go.Proofs.Ytahmicipakmbmaa.Z
open Go.RowKit Go.Proofs.YtahmicipakmbmaaW.PrintWords Go.Proofs.YtahmicipakmbmaaW.PrintLast Go.Proofs.YtahmicipakmbmaaW.PrintMore
attribute [local go_sem] max2_int min2_int max_two min_two max_three min_three max_four min_four   -- for this text's walks alone
set_option linter.unusedVariables false
set_option linter.unusedSimpArgs false

attribute [local go_sem high] eqA45
/-! ### reedpenlaw02_SpanAgain: function 10 -/
mutual
def reedpenlaw02_SpanAgain.j0 : Nat → List (S45) → Int → Bool → Option (Bool)
  | 0, _, _, _ => none
  | k + 1, x0, x1, x21 => if x21 = true then (some true) else ((span_Join.f k x0).bind fun t202 => ((span_Join.f k t202).bind fun t205 => (if (t202.length : Int) = (t205.length : Int) then ((span_Right.f k t202 9223372036854775807).bind fun t208 => (if t208 = true then ((span_Count.f k t202).bind fun t209 => ((span_Count.f k x0).bind fun t210 => (reedpenlaw02_SpanAgain.j1 k x0 x1 t202 t205 (t209 != t210)))) else (reedpenlaw02_SpanAgain.j1 k x0 x1 t202 t205 true))) else (reedpenlaw02_SpanAgain.j1 k x0 x1 t202 t205 true))))
def reedpenlaw02_SpanAgain.j1 : Nat → List (S45) → Int → List (S45) → List (S45) → Bool → Option (Bool)
  | 0, _, _, _, _, _ => none
  | k + 1, x0, x1, x5, x6, x42 => if x42 = true then (some false) else (reedpenlaw02_SpanAgain.l0 k x0 x1 x5 x6 0)
def reedpenlaw02_SpanAgain.l0 : Nat → List (S45) → Int → List (S45) → List (S45) → Int → Option (Bool)
  | 0, _, _, _, _, _ => none
  | k + 1, x0, x1, x5, x6, x7 => if x7 < (x5.length : Int) then (if 0 ≤ x7 then (if x7 < (x6.length : Int) then (if (!(((rd_T45 x5 x7).f0) == ((rd_T45 x6 x7).f0)) || (!(((rd_T45 x5 x7).f1) == ((rd_T45 x6 x7).f1)) || (!(((rd_T45 x5 x7).f2) == ((rd_T45 x6 x7).f2))))) = true then (some false) else (if x7 > 0 then (if 0 ≤ (wrap64 (x7 - 1)) then (if (wrap64 (x7 - 1)) < (x5.length : Int) then (if (wrap32 (((rd_T45 x5 (wrap64 (x7 - 1))).f1) + 1)) = ((rd_T45 x5 x7).f0) then (if ((rd_T45 x5 (wrap64 (x7 - 1))).f2) = ((rd_T45 x5 x7).f2) then (some false) else (reedpenlaw02_SpanAgain.l0 k x0 x1 x5 x6 (wrap64 (x7 + 1)))) else (reedpenlaw02_SpanAgain.l0 k x0 x1 x5 x6 (wrap64 (x7 + 1)))) else (none)) else (none)) else (reedpenlaw02_SpanAgain.l0 k x0 x1 x5 x6 (wrap64 (x7 + 1))))) else (none)) else (none)) else ((span_Find.f x0 x1).bind fun bt217 => ((span_Find.f x5 x1).bind fun bt219 => (if bt217.1 = bt219.1 then (some (bt217.2 == bt219.2)) else (some false))))
end
def reedpenlaw02_SpanAgain.f (k : Nat) (l0 : List (S45)) (a1 : Int) : Option (Bool) := (reedpenlaw02_alive.f k).bind fun t200 => (if t200 = true then (if (l0.length : Int) > 1000 then (reedpenlaw02_SpanAgain.j0 k l0 a1 true) else ((span_Right.f k l0 9223372036854775807).bind fun t201 => (reedpenlaw02_SpanAgain.j0 k l0 a1 (!t201)))) else (some false))
theorem reedpenlaw02_SpanAgain.mono_l : ∀ k, (∀ y0 y1 y2, LeO (reedpenlaw02_SpanAgain.j0 k y0 y1 y2) (reedpenlaw02_SpanAgain.j0 (k + 1) y0 y1 y2)) ∧ (∀ y0 y1 y2 y3 y4, LeO (reedpenlaw02_SpanAgain.j1 k y0 y1 y2 y3 y4) (reedpenlaw02_SpanAgain.j1 (k + 1) y0 y1 y2 y3 y4)) ∧ (∀ y0 y1 y2 y3 y4, LeO (reedpenlaw02_SpanAgain.l0 k y0 y1 y2 y3 y4) (reedpenlaw02_SpanAgain.l0 (k + 1) y0 y1 y2 y3 y4))
  | 0 => ⟨fun _ _ _ r h => by simp [reedpenlaw02_SpanAgain.j0] at h, fun _ _ _ _ _ r h => by simp [reedpenlaw02_SpanAgain.j1] at h, fun _ _ _ _ _ r h => by simp [reedpenlaw02_SpanAgain.l0] at h⟩
  | k + 1 => by
    obtain ⟨ih0, ih1, ih2⟩ := reedpenlaw02_SpanAgain.mono_l k
    refine ⟨?_, ?_, ?_⟩
    · intro y0 y1 y2
      unfold reedpenlaw02_SpanAgain.j0
      repeat' first
      | (with_reducible exact ih0 _ _ _)
      | (with_reducible exact ih1 _ _ _ _ _)
      | (with_reducible exact ih2 _ _ _ _ _)
      | (with_reducible exact reedpenlaw02_alive.mono _)
      | (with_reducible exact span_Count.mono _ _)
      | (with_reducible exact span_Join.mono _ _)
      | (with_reducible exact span_Right.mono _ _ _)
      | (with_reducible exact LeO.refl _)
      | (with_reducible exact LeO.none _)
      | (with_reducible refine LeO.ite ?_ ?_)
      | (with_reducible refine LeO.bind ?_ (fun _ => ?_))
      | exact ih0 _ _ _
      | exact ih1 _ _ _ _ _
      | exact ih2 _ _ _ _ _
      | exact reedpenlaw02_alive.mono _
      | exact span_Count.mono _ _
      | exact span_Join.mono _ _
      | exact span_Right.mono _ _ _
      | exact LeO.none _
      | refine LeO.ite ?_ ?_
      | refine LeO.bind ?_ (fun _ => ?_)
    · intro y0 y1 y2 y3 y4
      unfold reedpenlaw02_SpanAgain.j1
      repeat' first
      | (with_reducible exact ih0 _ _ _)
      | (with_reducible exact ih1 _ _ _ _ _)
      | (with_reducible exact ih2 _ _ _ _ _)
      | (with_reducible exact reedpenlaw02_alive.mono _)
      | (with_reducible exact span_Count.mono _ _)
      | (with_reducible exact span_Join.mono _ _)
      | (with_reducible exact span_Right.mono _ _ _)
      | (with_reducible exact LeO.refl _)
      | (with_reducible exact LeO.none _)
      | (with_reducible refine LeO.ite ?_ ?_)
      | (with_reducible refine LeO.bind ?_ (fun _ => ?_))
      | exact ih0 _ _ _
      | exact ih1 _ _ _ _ _
      | exact ih2 _ _ _ _ _
      | exact reedpenlaw02_alive.mono _
      | exact span_Count.mono _ _
      | exact span_Join.mono _ _
      | exact span_Right.mono _ _ _
      | exact LeO.none _
      | refine LeO.ite ?_ ?_
      | refine LeO.bind ?_ (fun _ => ?_)
    · intro y0 y1 y2 y3 y4
      unfold reedpenlaw02_SpanAgain.l0
      repeat' first
      | (with_reducible exact ih0 _ _ _)
      | (with_reducible exact ih1 _ _ _ _ _)
      | (with_reducible exact ih2 _ _ _ _ _)
      | (with_reducible exact reedpenlaw02_alive.mono _)
      | (with_reducible exact span_Count.mono _ _)
      | (with_reducible exact span_Join.mono _ _)
      | (with_reducible exact span_Right.mono _ _ _)
      | (with_reducible exact LeO.refl _)
      | (with_reducible exact LeO.none _)
      | (with_reducible refine LeO.ite ?_ ?_)
      | (with_reducible refine LeO.bind ?_ (fun _ => ?_))
      | exact ih0 _ _ _
      | exact ih1 _ _ _ _ _
      | exact ih2 _ _ _ _ _
      | exact reedpenlaw02_alive.mono _
      | exact span_Count.mono _ _
      | exact span_Join.mono _ _
      | exact span_Right.mono _ _ _
      | exact LeO.none _
      | refine LeO.ite ?_ ?_
      | refine LeO.bind ?_ (fun _ => ?_)
theorem reedpenlaw02_SpanAgain.mono : ∀ a0 a1 k, LeO (reedpenlaw02_SpanAgain.f k a0 a1) (reedpenlaw02_SpanAgain.f (k + 1) a0 a1) := by
  intro a0 a1 k
  obtain ⟨ih0, ih1, ih2⟩ := reedpenlaw02_SpanAgain.mono_l k
  unfold reedpenlaw02_SpanAgain.f
  repeat' first
      | (with_reducible exact ih0 _ _ _)
      | (with_reducible exact ih1 _ _ _ _ _)
      | (with_reducible exact ih2 _ _ _ _ _)
      | (with_reducible exact reedpenlaw02_alive.mono _)
      | (with_reducible exact span_Count.mono _ _)
      | (with_reducible exact span_Join.mono _ _)
      | (with_reducible exact span_Right.mono _ _ _)
      | (with_reducible exact LeO.refl _)
      | (with_reducible exact LeO.none _)
      | (with_reducible refine LeO.ite ?_ ?_)
      | (with_reducible refine LeO.bind ?_ (fun _ => ?_))
      | exact ih0 _ _ _
      | exact ih1 _ _ _ _ _
      | exact ih2 _ _ _ _ _
      | exact reedpenlaw02_alive.mono _
      | exact span_Count.mono _ _
      | exact span_Join.mono _ _
      | exact span_Right.mono _ _ _
      | exact LeO.none _
      | refine LeO.ite ?_ ?_
      | refine LeO.bind ?_ (fun _ => ?_)
set_option maxHeartbeats 8000000 in
set_option maxRecDepth 100000 in
theorem reedpenlaw02_SpanAgain.calls (k : Nat) (A0 : Option Addr) (c0 : Nat) (l0 : List (S45)) (a1 : Int) (r : Bool) (w : World) (hr0 : Kd.C k45 w A0 l0.length l0) (hc0 : l0.length ≤ c0) (h : reedpenlaw02_SpanAgain.f k l0 a1 = some r) :
    Calls Try.prog 10 #[.slice A0 l0.length c0, .int .i32 a1] w fun e w' => e = .returned (.bool r) ∧ Below w.heap.size w w' := by
  have hu45 := Try.underlying45
  have HR0 := Aside0.mk hr0
  have HC0 := Aside0.mk hc0
  clear hr0 hc0
  have HB := Aside0.mk (Below.refl w.heap.size w)
  have H : ((reedpenlaw02_alive.f k).bind fun t200 => (if t200 = true then (if (l0.length : Int) > 1000 then (reedpenlaw02_SpanAgain.j0 k l0 a1 true) else ((span_Right.f k l0 9223372036854775807).bind fun t201 => (reedpenlaw02_SpanAgain.j0 k l0 a1 (!t201)))) else (some false))) = some r := h
  clear h
  replace H := Option.bind_eq_some_iff.mp H
  obtain ⟨t200, A30, H⟩ := H
  replace H : (if t200 = true then (if (l0.length : Int) > 1000 then (reedpenlaw02_SpanAgain.j0 k l0 a1 true) else ((span_Right.f k l0 9223372036854775807).bind fun t201 => (reedpenlaw02_SpanAgain.j0 k l0 a1 (!t201)))) else (some false)) = some r := H
  have A3 := Aside0.mk A30
  clear A30
  by_cases c4 : t200 = true
  · subst c4
    have H1 : (if (l0.length : Int) > 1000 then (reedpenlaw02_SpanAgain.j0 k l0 a1 true) else ((span_Right.f k l0 9223372036854775807).bind fun t201 => (reedpenlaw02_SpanAgain.j0 k l0 a1 (!t201)))) = some r := by rw [if_pos rfl] at H; exact H
    clear H
    have H := H1
    clear H1
    have HC5 := Aside0.mk H
    clear H
    go_enter Try.func10, Try.ntmps10
    go_upto_region 3 with (first | (go_at_call 29; (with_reducible refine (reedpenlaw02_alive.calls k  true _ A3.out).mono ?_); rintro e w6 ⟨rfl, hb⟩; have n0_ := Aside0.mk (below_step (by repeat (first | (with_reducible first | exact HB.out | apply below_alloc | apply pw_below_drewN | apply below_drew1) | exact HB.out)) hb); clear HB; have HB := n0_; clear n0_; (try clear hb); (try clear hb2); (try clear hk); (try clear hi)))
    repeat (go_quiet (first | (go_at_call 29; (with_reducible refine (reedpenlaw02_alive.calls k  true _ A3.out).mono ?_); rintro e w6 ⟨rfl, hb⟩; have n0_ := Aside0.mk (below_step (by repeat (first | (with_reducible first | exact HB.out | apply below_alloc | apply pw_below_drewN | apply below_drew1) | exact HB.out)) hb); clear HB; have HB := n0_; clear n0_; (try clear hb); (try clear hb2); (try clear hk); (try clear hi))); go_upto_region 3 with (first | (go_at_call 29; (with_reducible refine (reedpenlaw02_alive.calls k  true _ A3.out).mono ?_); rintro e w6 ⟨rfl, hb⟩; have n0_ := Aside0.mk (below_step (by repeat (first | (with_reducible first | exact HB.out | apply below_alloc | apply pw_below_drewN | apply below_drew1) | exact HB.out)) hb); clear HB; have HB := n0_; clear n0_; (try clear hb); (try clear hb2); (try clear hk); (try clear hi))))
    (try simp only [Act.put, List.setIfInBounds_toArray, List.set_cons_zero, List.set_cons_succ])
    go_cut [21] (fun v21 wc => ∃ (kq : Nat) (x21_4 : Bool), v21 = .bool x21_4 ∧ Aside0 (reedpenlaw02_SpanAgain.j0 kq l0 a1 x21_4 = some r) ∧ Aside0 (kq ≤ k) ∧ Aside0 (Below w.heap.size w wc))
    case first =>
      have H := HC5.out
      clear HC5
      by_cases c7 : (l0.length : Int) > 1000
      · rw [if_pos c7] at H
        have c7b0 : decide (1000 < (l0.length : Int)) = true := decide_eq_true c7
        have c7b1 : decide (1000 < l0.length) = true := decide_eq_true (by omega)
        clear c7
        (first | rw [c7b0] | (simp only [i64_w, i32_w]; rw [c7b0]) | skip)
        have H' := Aside0.mk H
        clear H
        go_wp2
        repeat (go_quiet (fail); try go_wp2)
        go_meet
        case rel => exact ⟨_, (true), (by first | rfl | (simp; done) | (simp [*]; done)), H', ⟨by first | omega | exact Nat.le_refl _⟩, ⟨by repeat (first | (with_reducible first | exact HB.out | apply below_alloc | apply pw_below_drewN | apply below_drew1) | exact HB.out)⟩⟩
      · rw [if_neg c7] at H
        have c7b0 : decide (1000 < (l0.length : Int)) = false := decide_eq_false c7
        have c7b1 : decide (1000 < l0.length) = false := decide_eq_false (by omega)
        clear c7
        (first | rw [c7b0] | (simp only [i64_w, i32_w]; rw [c7b0]) | skip)
        replace H := Option.bind_eq_some_iff.mp H
        obtain ⟨t201, A80, H⟩ := H
        replace H : (reedpenlaw02_SpanAgain.j0 k l0 a1 (!t201)) = some r := H
        have A8 := Aside0.mk A80
        clear A80
        have H' := Aside0.mk H
        clear H
        go_wp2_with (first | (go_at_call 32; (with_reducible refine (span_Right.calls k _ _ l0 9223372036854775807 t201 _ ?side1 ?side2 A8.out).mono ?_); (case side1 => repeat (first | exact (Kd.C_below HR0.out HB.out) | (with_reducible refine Kd.C_alloc ?_ _) | (with_reducible refine Kd.C_drewN ?_ _) | (with_reducible refine Kd.C_drew ?_))); (case side2 => exact HC0.out); rintro e w9 ⟨rfl, hb⟩; have n0_ := Aside0.mk (below_step (by repeat (first | (with_reducible first | exact HB.out | apply below_alloc | apply pw_below_drewN | apply below_drew1) | exact HB.out)) hb); clear HB; have HB := n0_; clear n0_; (try clear hb); (try clear hb2); (try clear hk); (try clear hi)))
        repeat (go_quiet (first | (go_at_call 32; (with_reducible refine (span_Right.calls k _ _ l0 9223372036854775807 t201 _ ?side1 ?side2 A8.out).mono ?_); (case side1 => repeat (first | exact (Kd.C_below HR0.out HB.out) | (with_reducible refine Kd.C_alloc ?_ _) | (with_reducible refine Kd.C_drewN ?_ _) | (with_reducible refine Kd.C_drew ?_))); (case side2 => exact HC0.out); rintro e w9 ⟨rfl, hb⟩; have n0_ := Aside0.mk (below_step (by repeat (first | (with_reducible first | exact HB.out | apply below_alloc | apply pw_below_drewN | apply below_drew1) | exact HB.out)) hb); clear HB; have HB := n0_; clear n0_; (try clear hb); (try clear hb2); (try clear hk); (try clear hi))); try go_wp2_with (first | (go_at_call 32; (with_reducible refine (span_Right.calls k _ _ l0 9223372036854775807 t201 _ ?side1 ?side2 A8.out).mono ?_); (case side1 => repeat (first | exact (Kd.C_below HR0.out HB.out) | (with_reducible refine Kd.C_alloc ?_ _) | (with_reducible refine Kd.C_drewN ?_ _) | (with_reducible refine Kd.C_drew ?_))); (case side2 => exact HC0.out); rintro e w9 ⟨rfl, hb⟩; have n0_ := Aside0.mk (below_step (by repeat (first | (with_reducible first | exact HB.out | apply below_alloc | apply pw_below_drewN | apply below_drew1) | exact HB.out)) hb); clear HB; have HB := n0_; clear n0_; (try clear hb); (try clear hb2); (try clear hk); (try clear hi))))
        go_meet
        case rel => exact ⟨_, (!t201), (by first | rfl | (simp; done) | (simp [*]; done)), H', ⟨by first | omega | exact Nat.le_refl _⟩, ⟨by repeat (first | (with_reducible first | exact HB.out | apply below_alloc | apply pw_below_drewN | apply below_drew1) | exact HB.out)⟩⟩
    case rest =>
      clear HC5
      try clear c1
      try clear p2
      try clear c4
      try clear c7
      try clear c7b0
      try clear c7b1
      obtain ⟨kq, x21_4, rfl, HA, HJ4, HB⟩ := hcut
      cases kq with
      | zero => exact absurd HA.out (by simp [reedpenlaw02_SpanAgain.j0])
      | succ kj4 =>
        have H := HA.out
        clear HA
        simp only [reedpenlaw02_SpanAgain.j0] at H
        by_cases c10 : x21_4 = true
        · subst c10
          have H1 : (some true) = some r := by rw [if_pos rfl] at H; exact H
          clear H
          have H := H1
          clear H1
          obtain rfl := Option.some.inj H
          go_wp2
          repeat (go_quiet (fail); try go_wp2)
          go_ret
          exact ⟨by first | rfl | (simp [errW_none, errW_some] <;> rfl) | (simp [*, errW_none, errW_some] <;> rfl), by repeat (first | (with_reducible first | exact HB.out | apply below_alloc | apply pw_below_drewN | apply below_drew1) | exact HB.out)⟩
        · replace c10 := Bool.eq_false_iff.mpr c10
          subst c10
          have H1 : ((span_Join.f kj4 l0).bind fun t202 => ((span_Join.f kj4 t202).bind fun t205 => (if (t202.length : Int) = (t205.length : Int) then ((span_Right.f kj4 t202 9223372036854775807).bind fun t208 => (if t208 = true then ((span_Count.f kj4 t202).bind fun t209 => ((span_Count.f kj4 l0).bind fun t210 => (reedpenlaw02_SpanAgain.j1 kj4 l0 a1 t202 t205 (t209 != t210)))) else (reedpenlaw02_SpanAgain.j1 kj4 l0 a1 t202 t205 true))) else (reedpenlaw02_SpanAgain.j1 kj4 l0 a1 t202 t205 true)))) = some r := by rw [if_neg (show ¬ (false = true) by decide)] at H; exact H
          clear H
          have H := H1
          clear H1
          replace H := Option.bind_eq_some_iff.mp H
          obtain ⟨t202, A110, H⟩ := H
          replace H : ((span_Join.f kj4 t202).bind fun t205 => (if (t202.length : Int) = (t205.length : Int) then ((span_Right.f kj4 t202 9223372036854775807).bind fun t208 => (if t208 = true then ((span_Count.f kj4 t202).bind fun t209 => ((span_Count.f kj4 l0).bind fun t210 => (reedpenlaw02_SpanAgain.j1 kj4 l0 a1 t202 t205 (t209 != t210)))) else (reedpenlaw02_SpanAgain.j1 kj4 l0 a1 t202 t205 true))) else (reedpenlaw02_SpanAgain.j1 kj4 l0 a1 t202 t205 true))) = some r := H
          have A11 := Aside0.mk A110
          clear A110
          replace H := Option.bind_eq_some_iff.mp H
          obtain ⟨t205, A120, H⟩ := H
          replace H : (if (t202.length : Int) = (t205.length : Int) then ((span_Right.f kj4 t202 9223372036854775807).bind fun t208 => (if t208 = true then ((span_Count.f kj4 t202).bind fun t209 => ((span_Count.f kj4 l0).bind fun t210 => (reedpenlaw02_SpanAgain.j1 kj4 l0 a1 t202 t205 (t209 != t210)))) else (reedpenlaw02_SpanAgain.j1 kj4 l0 a1 t202 t205 true))) else (reedpenlaw02_SpanAgain.j1 kj4 l0 a1 t202 t205 true)) = some r := H
          have A12 := Aside0.mk A120
          clear A120
          have HC13 := Aside0.mk H
          clear H
          go_upto_region 7 with (first | (go_at_call 36; (with_reducible refine (span_Join.calls kj4 _ _ l0 t202 _ ?side1 ?side2 A11.out).mono ?_); (case side1 => repeat (first | exact (Kd.C_below HR0.out HB.out) | (with_reducible refine Kd.C_alloc ?_ _) | (with_reducible refine Kd.C_drewN ?_ _) | (with_reducible refine Kd.C_drew ?_))); (case side2 => exact HC0.out); rintro e w14 ⟨v203, rfl, ho0, hb⟩; have n0_ := Aside0.mk (Kd.R_lower ho0 (below_size (by repeat (first | (with_reducible first | exact HB.out | apply below_alloc | apply pw_below_drewN | apply below_drew1) | exact HB.out)))); have n1_ := Aside0.mk (below_step (by repeat (first | (with_reducible first | exact HB.out | apply below_alloc | apply pw_below_drewN | apply below_drew1) | exact HB.out)) hb); clear HB; have HO204 := n0_; have HB := n1_; clear n0_ n1_; (try clear hb); (try clear hb2); (try clear hk); (try clear hi); (try clear ho0); obtain ⟨Ao15, co15, eo15⟩ := Kd.R_slice HO204.out; subst eo15) | (go_at_call 36; (with_reducible refine (span_Join.calls kj4 _ _ t202 t205 _ ?side1 ?side2 A12.out).mono ?_); (case side1 => repeat (first | exact (Kd.R_reads' HO204.out).2.2 | (with_reducible refine Kd.C_alloc ?_ _) | (with_reducible refine Kd.C_drewN ?_ _) | (with_reducible refine Kd.C_drew ?_))); (case side2 => exact (Kd.R_reads' HO204.out).2.1); rintro e w16 ⟨v206, rfl, ho0, hb⟩; have n0_ := Aside0.mk (Kd.R_elder' (by (with_reducible repeat (first | apply Kd.R_alloc | apply Kd.R_drewN | apply Kd.R_drew)); exact HO204.out) (Kd.R_base ho0) hb); have n1_ := Aside0.mk (Kd.R_lower (Kd.R_new' ho0 (Kd.R_lt (by (with_reducible repeat (first | apply Kd.R_alloc | apply Kd.R_drewN | apply Kd.R_drew)); exact HO204.out))) (below_size (by repeat (first | (with_reducible first | exact HB.out | apply below_alloc | apply pw_below_drewN | apply below_drew1) | exact HB.out)))); have n2_ := Aside0.mk (below_step (by repeat (first | (with_reducible first | exact HB.out | apply below_alloc | apply pw_below_drewN | apply below_drew1) | exact HB.out)) hb); clear HO204; clear HB; have HO204 := n0_; have HO207 := n1_; have HB := n2_; clear n0_ n1_ n2_; (try clear hb); (try clear hb2); (try clear hk); (try clear hi); (try clear ho0)))
          repeat (go_quiet (first | (go_at_call 36; (with_reducible refine (span_Join.calls kj4 _ _ l0 t202 _ ?side1 ?side2 A11.out).mono ?_); (case side1 => repeat (first | exact (Kd.C_below HR0.out HB.out) | (with_reducible refine Kd.C_alloc ?_ _) | (with_reducible refine Kd.C_drewN ?_ _) | (with_reducible refine Kd.C_drew ?_))); (case side2 => exact HC0.out); rintro e w14 ⟨v203, rfl, ho0, hb⟩; have n0_ := Aside0.mk (Kd.R_lower ho0 (below_size (by repeat (first | (with_reducible first | exact HB.out | apply below_alloc | apply pw_below_drewN | apply below_drew1) | exact HB.out)))); have n1_ := Aside0.mk (below_step (by repeat (first | (with_reducible first | exact HB.out | apply below_alloc | apply pw_below_drewN | apply below_drew1) | exact HB.out)) hb); clear HB; have HO204 := n0_; have HB := n1_; clear n0_ n1_; (try clear hb); (try clear hb2); (try clear hk); (try clear hi); (try clear ho0); obtain ⟨Ao15, co15, eo15⟩ := Kd.R_slice HO204.out; subst eo15) | (go_at_call 36; (with_reducible refine (span_Join.calls kj4 _ _ t202 t205 _ ?side1 ?side2 A12.out).mono ?_); (case side1 => repeat (first | exact (Kd.R_reads' HO204.out).2.2 | (with_reducible refine Kd.C_alloc ?_ _) | (with_reducible refine Kd.C_drewN ?_ _) | (with_reducible refine Kd.C_drew ?_))); (case side2 => exact (Kd.R_reads' HO204.out).2.1); rintro e w16 ⟨v206, rfl, ho0, hb⟩; have n0_ := Aside0.mk (Kd.R_elder' (by (with_reducible repeat (first | apply Kd.R_alloc | apply Kd.R_drewN | apply Kd.R_drew)); exact HO204.out) (Kd.R_base ho0) hb); have n1_ := Aside0.mk (Kd.R_lower (Kd.R_new' ho0 (Kd.R_lt (by (with_reducible repeat (first | apply Kd.R_alloc | apply Kd.R_drewN | apply Kd.R_drew)); exact HO204.out))) (below_size (by repeat (first | (with_reducible first | exact HB.out | apply below_alloc | apply pw_below_drewN | apply below_drew1) | exact HB.out)))); have n2_ := Aside0.mk (below_step (by repeat (first | (with_reducible first | exact HB.out | apply below_alloc | apply pw_below_drewN | apply below_drew1) | exact HB.out)) hb); clear HO204; clear HB; have HO204 := n0_; have HO207 := n1_; have HB := n2_; clear n0_ n1_ n2_; (try clear hb); (try clear hb2); (try clear hk); (try clear hi); (try clear ho0))); go_upto_region 7 with (first | (go_at_call 36; (with_reducible refine (span_Join.calls kj4 _ _ l0 t202 _ ?side1 ?side2 A11.out).mono ?_); (case side1 => repeat (first | exact (Kd.C_below HR0.out HB.out) | (with_reducible refine Kd.C_alloc ?_ _) | (with_reducible refine Kd.C_drewN ?_ _) | (with_reducible refine Kd.C_drew ?_))); (case side2 => exact HC0.out); rintro e w14 ⟨v203, rfl, ho0, hb⟩; have n0_ := Aside0.mk (Kd.R_lower ho0 (below_size (by repeat (first | (with_reducible first | exact HB.out | apply below_alloc | apply pw_below_drewN | apply below_drew1) | exact HB.out)))); have n1_ := Aside0.mk (below_step (by repeat (first | (with_reducible first | exact HB.out | apply below_alloc | apply pw_below_drewN | apply below_drew1) | exact HB.out)) hb); clear HB; have HO204 := n0_; have HB := n1_; clear n0_ n1_; (try clear hb); (try clear hb2); (try clear hk); (try clear hi); (try clear ho0); obtain ⟨Ao15, co15, eo15⟩ := Kd.R_slice HO204.out; subst eo15) | (go_at_call 36; (with_reducible refine (span_Join.calls kj4 _ _ t202 t205 _ ?side1 ?side2 A12.out).mono ?_); (case side1 => repeat (first | exact (Kd.R_reads' HO204.out).2.2 | (with_reducible refine Kd.C_alloc ?_ _) | (with_reducible refine Kd.C_drewN ?_ _) | (with_reducible refine Kd.C_drew ?_))); (case side2 => exact (Kd.R_reads' HO204.out).2.1); rintro e w16 ⟨v206, rfl, ho0, hb⟩; have n0_ := Aside0.mk (Kd.R_elder' (by (with_reducible repeat (first | apply Kd.R_alloc | apply Kd.R_drewN | apply Kd.R_drew)); exact HO204.out) (Kd.R_base ho0) hb); have n1_ := Aside0.mk (Kd.R_lower (Kd.R_new' ho0 (Kd.R_lt (by (with_reducible repeat (first | apply Kd.R_alloc | apply Kd.R_drewN | apply Kd.R_drew)); exact HO204.out))) (below_size (by repeat (first | (with_reducible first | exact HB.out | apply below_alloc | apply pw_below_drewN | apply below_drew1) | exact HB.out)))); have n2_ := Aside0.mk (below_step (by repeat (first | (with_reducible first | exact HB.out | apply below_alloc | apply pw_below_drewN | apply below_drew1) | exact HB.out)) hb); clear HO204; clear HB; have HO204 := n0_; have HO207 := n1_; have HB := n2_; clear n0_ n1_ n2_; (try clear hb); (try clear hb2); (try clear hk); (try clear hi); (try clear ho0))))
          (try simp only [Act.put, List.setIfInBounds_toArray, List.set_cons_zero, List.set_cons_succ])
          go_cut [42] (fun v42 wc => ∃ (kq : Nat) (x42_12 : Bool), v42 = .bool x42_12 ∧ Aside0 (reedpenlaw02_SpanAgain.j1 kq l0 a1 t202 t205 x42_12 = some r) ∧ Aside0 (kq ≤ kj4) ∧ Aside0 (Kd.R k45 45 wc w.heap.size (fun k_ => some k_ ≠ (v206 : Value).ownBlock) (.slice Ao15 t202.length co15) t202) ∧ Aside0 (Kd.R k45 45 wc w.heap.size (fun k_ => some k_ ≠ ((.slice Ao15 t202.length co15) : Value).ownBlock) v206 t205) ∧ Aside0 (Below w.heap.size w wc))
          case first =>
            have H := HC13.out
            clear HC13
            by_cases c17 : (t202.length : Int) = (t205.length : Int)
            · rw [if_pos c17] at H
              have c17b0 : ((t202.length : Int) == (t205.length : Int)) = true := beq_iff_eq.mpr c17
              have c17b1 : ((t202.length : Int) != (t205.length : Int)) = false := bne_eq_false_iff_eq.mpr c17
              have c17b2 : (t202.length == t205.length) = true := by first | simpa using c17 | (simp at c17 ⊢; omega)
              clear c17
              (first | rw [c17b0] | (simp only [i64_w, i32_w]; rw [c17b0]) | skip)
              replace H := Option.bind_eq_some_iff.mp H
              obtain ⟨t208, A180, H⟩ := H
              replace H : (if t208 = true then ((span_Count.f kj4 t202).bind fun t209 => ((span_Count.f kj4 l0).bind fun t210 => (reedpenlaw02_SpanAgain.j1 kj4 l0 a1 t202 t205 (t209 != t210)))) else (reedpenlaw02_SpanAgain.j1 kj4 l0 a1 t202 t205 true)) = some r := H
              have A18 := Aside0.mk A180
              clear A180
              by_cases c19 : t208 = true
              · subst c19
                have H1 : ((span_Count.f kj4 t202).bind fun t209 => ((span_Count.f kj4 l0).bind fun t210 => (reedpenlaw02_SpanAgain.j1 kj4 l0 a1 t202 t205 (t209 != t210)))) = some r := by rw [if_pos rfl] at H; exact H
                clear H
                have H := H1
                clear H1
                replace H := Option.bind_eq_some_iff.mp H
                obtain ⟨t209, A200, H⟩ := H
                replace H : ((span_Count.f kj4 l0).bind fun t210 => (reedpenlaw02_SpanAgain.j1 kj4 l0 a1 t202 t205 (t209 != t210))) = some r := H
                have A20 := Aside0.mk A200
                clear A200
                replace H := Option.bind_eq_some_iff.mp H
                obtain ⟨t210, A210, H⟩ := H
                replace H : (reedpenlaw02_SpanAgain.j1 kj4 l0 a1 t202 t205 (t209 != t210)) = some r := H
                have A21 := Aside0.mk A210
                clear A210
                have H' := Aside0.mk H
                clear H
                obtain ⟨Ao22, co22, eo22⟩ := Kd.R_slice HO207.out
                subst eo22
                go_wp2_with (first | (go_at_call 32; (with_reducible refine (span_Right.calls kj4 _ _ t202 9223372036854775807 true _ ?side1 ?side2 A18.out).mono ?_); (case side1 => repeat (first | exact (Kd.R_reads' HO204.out).2.2 | (with_reducible refine Kd.C_alloc ?_ _) | (with_reducible refine Kd.C_drewN ?_ _) | (with_reducible refine Kd.C_drew ?_))); (case side2 => exact (Kd.R_reads' HO204.out).2.1); rintro e w23 ⟨rfl, hb⟩; have n0_ := Aside0.mk (Kd.R_below (by (with_reducible repeat (first | apply Kd.R_alloc | apply Kd.R_drewN | apply Kd.R_drew)); exact HO204.out) hb); have n1_ := Aside0.mk (Kd.R_below (by (with_reducible repeat (first | apply Kd.R_alloc | apply Kd.R_drewN | apply Kd.R_drew)); exact HO207.out) hb); have n2_ := Aside0.mk (below_step (by repeat (first | (with_reducible first | exact HB.out | apply below_alloc | apply pw_below_drewN | apply below_drew1) | exact HB.out)) hb); clear HO204; clear HO207; clear HB; have HO204 := n0_; have HO207 := n1_; have HB := n2_; clear n0_ n1_ n2_; (try clear hb); (try clear hb2); (try clear hk); (try clear hi)) | (go_at_call 37; (with_reducible refine (span_Count.calls kj4 _ _ t202 t209 _ ?side1 ?side2 A20.out).mono ?_); (case side1 => repeat (first | exact (Kd.R_reads' HO204.out).2.2 | (with_reducible refine Kd.C_alloc ?_ _) | (with_reducible refine Kd.C_drewN ?_ _) | (with_reducible refine Kd.C_drew ?_))); (case side2 => exact (Kd.R_reads' HO204.out).2.1); rintro e w24 ⟨rfl, hb⟩; have n0_ := Aside0.mk (Kd.R_below (by (with_reducible repeat (first | apply Kd.R_alloc | apply Kd.R_drewN | apply Kd.R_drew)); exact HO204.out) hb); have n1_ := Aside0.mk (Kd.R_below (by (with_reducible repeat (first | apply Kd.R_alloc | apply Kd.R_drewN | apply Kd.R_drew)); exact HO207.out) hb); have n2_ := Aside0.mk (below_step (by repeat (first | (with_reducible first | exact HB.out | apply below_alloc | apply pw_below_drewN | apply below_drew1) | exact HB.out)) hb); clear HO204; clear HO207; clear HB; have HO204 := n0_; have HO207 := n1_; have HB := n2_; clear n0_ n1_ n2_; (try clear hb); (try clear hb2); (try clear hk); (try clear hi)) | (go_at_call 37; (with_reducible refine (span_Count.calls kj4 _ _ l0 t210 _ ?side1 ?side2 A21.out).mono ?_); (case side1 => repeat (first | exact (Kd.C_below HR0.out HB.out) | (with_reducible refine Kd.C_alloc ?_ _) | (with_reducible refine Kd.C_drewN ?_ _) | (with_reducible refine Kd.C_drew ?_))); (case side2 => exact HC0.out); rintro e w25 ⟨rfl, hb⟩; have n0_ := Aside0.mk (Kd.R_below (by (with_reducible repeat (first | apply Kd.R_alloc | apply Kd.R_drewN | apply Kd.R_drew)); exact HO204.out) hb); have n1_ := Aside0.mk (Kd.R_below (by (with_reducible repeat (first | apply Kd.R_alloc | apply Kd.R_drewN | apply Kd.R_drew)); exact HO207.out) hb); have n2_ := Aside0.mk (below_step (by repeat (first | (with_reducible first | exact HB.out | apply below_alloc | apply pw_below_drewN | apply below_drew1) | exact HB.out)) hb); clear HO204; clear HO207; clear HB; have HO204 := n0_; have HO207 := n1_; have HB := n2_; clear n0_ n1_ n2_; (try clear hb); (try clear hb2); (try clear hk); (try clear hi)))
                repeat (go_quiet (first | (go_at_call 32; (with_reducible refine (span_Right.calls kj4 _ _ t202 9223372036854775807 true _ ?side1 ?side2 A18.out).mono ?_); (case side1 => repeat (first | exact (Kd.R_reads' HO204.out).2.2 | (with_reducible refine Kd.C_alloc ?_ _) | (with_reducible refine Kd.C_drewN ?_ _) | (with_reducible refine Kd.C_drew ?_))); (case side2 => exact (Kd.R_reads' HO204.out).2.1); rintro e w23 ⟨rfl, hb⟩; have n0_ := Aside0.mk (Kd.R_below (by (with_reducible repeat (first | apply Kd.R_alloc | apply Kd.R_drewN | apply Kd.R_drew)); exact HO204.out) hb); have n1_ := Aside0.mk (Kd.R_below (by (with_reducible repeat (first | apply Kd.R_alloc | apply Kd.R_drewN | apply Kd.R_drew)); exact HO207.out) hb); have n2_ := Aside0.mk (below_step (by repeat (first | (with_reducible first | exact HB.out | apply below_alloc | apply pw_below_drewN | apply below_drew1) | exact HB.out)) hb); clear HO204; clear HO207; clear HB; have HO204 := n0_; have HO207 := n1_; have HB := n2_; clear n0_ n1_ n2_; (try clear hb); (try clear hb2); (try clear hk); (try clear hi)) | (go_at_call 37; (with_reducible refine (span_Count.calls kj4 _ _ t202 t209 _ ?side1 ?side2 A20.out).mono ?_); (case side1 => repeat (first | exact (Kd.R_reads' HO204.out).2.2 | (with_reducible refine Kd.C_alloc ?_ _) | (with_reducible refine Kd.C_drewN ?_ _) | (with_reducible refine Kd.C_drew ?_))); (case side2 => exact (Kd.R_reads' HO204.out).2.1); rintro e w24 ⟨rfl, hb⟩; have n0_ := Aside0.mk (Kd.R_below (by (with_reducible repeat (first | apply Kd.R_alloc | apply Kd.R_drewN | apply Kd.R_drew)); exact HO204.out) hb); have n1_ := Aside0.mk (Kd.R_below (by (with_reducible repeat (first | apply Kd.R_alloc | apply Kd.R_drewN | apply Kd.R_drew)); exact HO207.out) hb); have n2_ := Aside0.mk (below_step (by repeat (first | (with_reducible first | exact HB.out | apply below_alloc | apply pw_below_drewN | apply below_drew1) | exact HB.out)) hb); clear HO204; clear HO207; clear HB; have HO204 := n0_; have HO207 := n1_; have HB := n2_; clear n0_ n1_ n2_; (try clear hb); (try clear hb2); (try clear hk); (try clear hi)) | (go_at_call 37; (with_reducible refine (span_Count.calls kj4 _ _ l0 t210 _ ?side1 ?side2 A21.out).mono ?_); (case side1 => repeat (first | exact (Kd.C_below HR0.out HB.out) | (with_reducible refine Kd.C_alloc ?_ _) | (with_reducible refine Kd.C_drewN ?_ _) | (with_reducible refine Kd.C_drew ?_))); (case side2 => exact HC0.out); rintro e w25 ⟨rfl, hb⟩; have n0_ := Aside0.mk (Kd.R_below (by (with_reducible repeat (first | apply Kd.R_alloc | apply Kd.R_drewN | apply Kd.R_drew)); exact HO204.out) hb); have n1_ := Aside0.mk (Kd.R_below (by (with_reducible repeat (first | apply Kd.R_alloc | apply Kd.R_drewN | apply Kd.R_drew)); exact HO207.out) hb); have n2_ := Aside0.mk (below_step (by repeat (first | (with_reducible first | exact HB.out | apply below_alloc | apply pw_below_drewN | apply below_drew1) | exact HB.out)) hb); clear HO204; clear HO207; clear HB; have HO204 := n0_; have HO207 := n1_; have HB := n2_; clear n0_ n1_ n2_; (try clear hb); (try clear hb2); (try clear hk); (try clear hi))); try go_wp2_with (first | (go_at_call 32; (with_reducible refine (span_Right.calls kj4 _ _ t202 9223372036854775807 true _ ?side1 ?side2 A18.out).mono ?_); (case side1 => repeat (first | exact (Kd.R_reads' HO204.out).2.2 | (with_reducible refine Kd.C_alloc ?_ _) | (with_reducible refine Kd.C_drewN ?_ _) | (with_reducible refine Kd.C_drew ?_))); (case side2 => exact (Kd.R_reads' HO204.out).2.1); rintro e w23 ⟨rfl, hb⟩; have n0_ := Aside0.mk (Kd.R_below (by (with_reducible repeat (first | apply Kd.R_alloc | apply Kd.R_drewN | apply Kd.R_drew)); exact HO204.out) hb); have n1_ := Aside0.mk (Kd.R_below (by (with_reducible repeat (first | apply Kd.R_alloc | apply Kd.R_drewN | apply Kd.R_drew)); exact HO207.out) hb); have n2_ := Aside0.mk (below_step (by repeat (first | (with_reducible first | exact HB.out | apply below_alloc | apply pw_below_drewN | apply below_drew1) | exact HB.out)) hb); clear HO204; clear HO207; clear HB; have HO204 := n0_; have HO207 := n1_; have HB := n2_; clear n0_ n1_ n2_; (try clear hb); (try clear hb2); (try clear hk); (try clear hi)) | (go_at_call 37; (with_reducible refine (span_Count.calls kj4 _ _ t202 t209 _ ?side1 ?side2 A20.out).mono ?_); (case side1 => repeat (first | exact (Kd.R_reads' HO204.out).2.2 | (with_reducible refine Kd.C_alloc ?_ _) | (with_reducible refine Kd.C_drewN ?_ _) | (with_reducible refine Kd.C_drew ?_))); (case side2 => exact (Kd.R_reads' HO204.out).2.1); rintro e w24 ⟨rfl, hb⟩; have n0_ := Aside0.mk (Kd.R_below (by (with_reducible repeat (first | apply Kd.R_alloc | apply Kd.R_drewN | apply Kd.R_drew)); exact HO204.out) hb); have n1_ := Aside0.mk (Kd.R_below (by (with_reducible repeat (first | apply Kd.R_alloc | apply Kd.R_drewN | apply Kd.R_drew)); exact HO207.out) hb); have n2_ := Aside0.mk (below_step (by repeat (first | (with_reducible first | exact HB.out | apply below_alloc | apply pw_below_drewN | apply below_drew1) | exact HB.out)) hb); clear HO204; clear HO207; clear HB; have HO204 := n0_; have HO207 := n1_; have HB := n2_; clear n0_ n1_ n2_; (try clear hb); (try clear hb2); (try clear hk); (try clear hi)) | (go_at_call 37; (with_reducible refine (span_Count.calls kj4 _ _ l0 t210 _ ?side1 ?side2 A21.out).mono ?_); (case side1 => repeat (first | exact (Kd.C_below HR0.out HB.out) | (with_reducible refine Kd.C_alloc ?_ _) | (with_reducible refine Kd.C_drewN ?_ _) | (with_reducible refine Kd.C_drew ?_))); (case side2 => exact HC0.out); rintro e w25 ⟨rfl, hb⟩; have n0_ := Aside0.mk (Kd.R_below (by (with_reducible repeat (first | apply Kd.R_alloc | apply Kd.R_drewN | apply Kd.R_drew)); exact HO204.out) hb); have n1_ := Aside0.mk (Kd.R_below (by (with_reducible repeat (first | apply Kd.R_alloc | apply Kd.R_drewN | apply Kd.R_drew)); exact HO207.out) hb); have n2_ := Aside0.mk (below_step (by repeat (first | (with_reducible first | exact HB.out | apply below_alloc | apply pw_below_drewN | apply below_drew1) | exact HB.out)) hb); clear HO204; clear HO207; clear HB; have HO204 := n0_; have HO207 := n1_; have HB := n2_; clear n0_ n1_ n2_; (try clear hb); (try clear hb2); (try clear hk); (try clear hi))))
                go_meet
                case rel => exact ⟨_, ((t209 != t210)), (by first | rfl | (simp; done) | (simp [*]; done)), H', ⟨by have := HJ4.out; first | omega | exact Nat.le_refl _⟩, ⟨by (with_reducible repeat (first | apply Kd.R_alloc | apply Kd.R_drewN | apply Kd.R_drew)); exact Kd.R_mono HO204.out (fun _ hk => hk.2)⟩, ⟨by (with_reducible repeat (first | apply Kd.R_alloc | apply Kd.R_drewN | apply Kd.R_drew)); exact Kd.R_mono HO207.out (fun _ hk => hk.2)⟩, ⟨by repeat (first | (with_reducible first | exact HB.out | apply below_alloc | apply pw_below_drewN | apply below_drew1) | exact HB.out)⟩⟩
              · replace c19 := Bool.eq_false_iff.mpr c19
                subst c19
                have H1 : (reedpenlaw02_SpanAgain.j1 kj4 l0 a1 t202 t205 true) = some r := by rw [if_neg (show ¬ (false = true) by decide)] at H; exact H
                clear H
                have H := H1
                clear H1
                have H' := Aside0.mk H
                clear H
                obtain ⟨Ao26, co26, eo26⟩ := Kd.R_slice HO207.out
                subst eo26
                go_wp2_with (first | (go_at_call 32; (with_reducible refine (span_Right.calls kj4 _ _ t202 9223372036854775807 false _ ?side1 ?side2 A18.out).mono ?_); (case side1 => repeat (first | exact (Kd.R_reads' HO204.out).2.2 | (with_reducible refine Kd.C_alloc ?_ _) | (with_reducible refine Kd.C_drewN ?_ _) | (with_reducible refine Kd.C_drew ?_))); (case side2 => exact (Kd.R_reads' HO204.out).2.1); rintro e w27 ⟨rfl, hb⟩; have n0_ := Aside0.mk (Kd.R_below (by (with_reducible repeat (first | apply Kd.R_alloc | apply Kd.R_drewN | apply Kd.R_drew)); exact HO204.out) hb); have n1_ := Aside0.mk (Kd.R_below (by (with_reducible repeat (first | apply Kd.R_alloc | apply Kd.R_drewN | apply Kd.R_drew)); exact HO207.out) hb); have n2_ := Aside0.mk (below_step (by repeat (first | (with_reducible first | exact HB.out | apply below_alloc | apply pw_below_drewN | apply below_drew1) | exact HB.out)) hb); clear HO204; clear HO207; clear HB; have HO204 := n0_; have HO207 := n1_; have HB := n2_; clear n0_ n1_ n2_; (try clear hb); (try clear hb2); (try clear hk); (try clear hi)))
                repeat (go_quiet (first | (go_at_call 32; (with_reducible refine (span_Right.calls kj4 _ _ t202 9223372036854775807 false _ ?side1 ?side2 A18.out).mono ?_); (case side1 => repeat (first | exact (Kd.R_reads' HO204.out).2.2 | (with_reducible refine Kd.C_alloc ?_ _) | (with_reducible refine Kd.C_drewN ?_ _) | (with_reducible refine Kd.C_drew ?_))); (case side2 => exact (Kd.R_reads' HO204.out).2.1); rintro e w27 ⟨rfl, hb⟩; have n0_ := Aside0.mk (Kd.R_below (by (with_reducible repeat (first | apply Kd.R_alloc | apply Kd.R_drewN | apply Kd.R_drew)); exact HO204.out) hb); have n1_ := Aside0.mk (Kd.R_below (by (with_reducible repeat (first | apply Kd.R_alloc | apply Kd.R_drewN | apply Kd.R_drew)); exact HO207.out) hb); have n2_ := Aside0.mk (below_step (by repeat (first | (with_reducible first | exact HB.out | apply below_alloc | apply pw_below_drewN | apply below_drew1) | exact HB.out)) hb); clear HO204; clear HO207; clear HB; have HO204 := n0_; have HO207 := n1_; have HB := n2_; clear n0_ n1_ n2_; (try clear hb); (try clear hb2); (try clear hk); (try clear hi))); try go_wp2_with (first | (go_at_call 32; (with_reducible refine (span_Right.calls kj4 _ _ t202 9223372036854775807 false _ ?side1 ?side2 A18.out).mono ?_); (case side1 => repeat (first | exact (Kd.R_reads' HO204.out).2.2 | (with_reducible refine Kd.C_alloc ?_ _) | (with_reducible refine Kd.C_drewN ?_ _) | (with_reducible refine Kd.C_drew ?_))); (case side2 => exact (Kd.R_reads' HO204.out).2.1); rintro e w27 ⟨rfl, hb⟩; have n0_ := Aside0.mk (Kd.R_below (by (with_reducible repeat (first | apply Kd.R_alloc | apply Kd.R_drewN | apply Kd.R_drew)); exact HO204.out) hb); have n1_ := Aside0.mk (Kd.R_below (by (with_reducible repeat (first | apply Kd.R_alloc | apply Kd.R_drewN | apply Kd.R_drew)); exact HO207.out) hb); have n2_ := Aside0.mk (below_step (by repeat (first | (with_reducible first | exact HB.out | apply below_alloc | apply pw_below_drewN | apply below_drew1) | exact HB.out)) hb); clear HO204; clear HO207; clear HB; have HO204 := n0_; have HO207 := n1_; have HB := n2_; clear n0_ n1_ n2_; (try clear hb); (try clear hb2); (try clear hk); (try clear hi))))
                go_meet
                case rel => exact ⟨_, (true), (by first | rfl | (simp; done) | (simp [*]; done)), H', ⟨by have := HJ4.out; first | omega | exact Nat.le_refl _⟩, ⟨by (with_reducible repeat (first | apply Kd.R_alloc | apply Kd.R_drewN | apply Kd.R_drew)); exact Kd.R_mono HO204.out (fun _ hk => hk.2)⟩, ⟨by (with_reducible repeat (first | apply Kd.R_alloc | apply Kd.R_drewN | apply Kd.R_drew)); exact Kd.R_mono HO207.out (fun _ hk => hk.2)⟩, ⟨by repeat (first | (with_reducible first | exact HB.out | apply below_alloc | apply pw_below_drewN | apply below_drew1) | exact HB.out)⟩⟩
            · rw [if_neg c17] at H
              have c17b0 : ((t202.length : Int) == (t205.length : Int)) = false := beq_eq_false_iff_ne.mpr c17
              have c17b1 : ((t202.length : Int) != (t205.length : Int)) = true := bne_iff_ne.mpr c17
              have c17b2 : (t202.length == t205.length) = false := by first | simpa using c17 | (simp at c17 ⊢; omega)
              (first | rw [c17b0] | (simp only [i64_w, i32_w]; rw [c17b0]) | skip)
              have H' := Aside0.mk H
              clear H
              obtain ⟨Ao28, co28, eo28⟩ := Kd.R_slice HO207.out
              subst eo28
              go_wp2
              repeat (go_quiet (fail); try go_wp2)
              go_meet
              case rel => exact ⟨_, (true), (by first | rfl | (simp; done) | (simp [*]; done)), H', ⟨by have := HJ4.out; first | omega | exact Nat.le_refl _⟩, ⟨by (with_reducible repeat (first | apply Kd.R_alloc | apply Kd.R_drewN | apply Kd.R_drew)); exact Kd.R_mono HO204.out (fun _ hk => hk.2)⟩, ⟨by (with_reducible repeat (first | apply Kd.R_alloc | apply Kd.R_drewN | apply Kd.R_drew)); exact Kd.R_mono HO207.out (fun _ hk => hk.2)⟩, ⟨by repeat (first | (with_reducible first | exact HB.out | apply below_alloc | apply pw_below_drewN | apply below_drew1) | exact HB.out)⟩⟩
          case rest =>
            clear HC13
            try clear c1
            try clear p2
            try clear c4
            try clear c7
            try clear c7b0
            try clear c7b1
            try clear c10
            try clear c17
            try clear c17b0
            try clear c17b1
            try clear c17b2
            try clear c19
            try clear p2
            obtain ⟨kq, x42_12, rfl, HA, HJ12, HO_5, HO_6, HB⟩ := hcut
            cases kq with
            | zero => exact absurd HA.out (by simp [reedpenlaw02_SpanAgain.j1])
            | succ kj12 =>
              have H := HA.out
              clear HA
              simp only [reedpenlaw02_SpanAgain.j1] at H
              by_cases c29 : x42_12 = true
              · subst c29
                have H1 : (some false) = some r := by rw [if_pos rfl] at H; exact H
                clear H
                have H := H1
                clear H1
                obtain rfl := Option.some.inj H
                go_wp2
                repeat (go_quiet (fail); try go_wp2)
                go_ret
                exact ⟨by first | rfl | (simp [errW_none, errW_some] <;> rfl) | (simp [*, errW_none, errW_some] <;> rfl), by repeat (first | (with_reducible first | exact HB.out | apply below_alloc | apply pw_below_drewN | apply below_drew1) | exact HB.out)⟩
              · replace c29 := Bool.eq_false_iff.mpr c29
                subst c29
                have H1 : (reedpenlaw02_SpanAgain.l0 kj12 l0 a1 t202 t205 0) = some r := by rw [if_neg (show ¬ (false = true) by decide)] at H; exact H
                clear H
                have H := H1
                clear H1
                have H' := Aside0.mk H
                clear H
                go_wp2
                repeat (go_quiet (fail); try go_wp2)
                go_loopg [7] kj12 (fun kq v7 w' => ∃ (x7_3 : Int), v7 = .int .i64 x7_3 ∧ Aside0 (reedpenlaw02_SpanAgain.l0 kq l0 a1 t202 t205 x7_3 = some r) ∧ Aside0 (kq ≤ kj12) ∧ Aside0 (Kd.R k45 45 w' w.heap.size (fun k_ => some k_ ≠ (v206 : Value).ownBlock) (.slice Ao15 t202.length co15) t202) ∧ Aside0 (Kd.R k45 45 w' w.heap.size (fun k_ => some k_ ≠ ((.slice Ao15 t202.length co15) : Value).ownBlock) v206 t205) ∧ Aside0 (Below w.heap.size w w'))
                case atStart => exact ⟨(0), (by first | rfl | (simp; done) | (simp [*]; done)), H', ⟨Nat.le_refl _⟩, ⟨by (with_reducible repeat (first | apply Kd.R_alloc | apply Kd.R_drewN | apply Kd.R_drew)); exact HO_5.out⟩, ⟨by (with_reducible repeat (first | apply Kd.R_alloc | apply Kd.R_drewN | apply Kd.R_drew)); exact HO_6.out⟩, ⟨by repeat (first | (with_reducible first | exact HB.out | apply below_alloc | apply pw_below_drewN | apply below_drew1) | exact HB.out)⟩⟩
                case round =>
                  clear H'
                  try clear c1
                  try clear c2
                  try clear p2
                  try clear c4
                  try clear c7
                  try clear c7b0
                  try clear c7b1
                  try clear c10
                  try clear c17
                  try clear c17b0
                  try clear c17b1
                  try clear c17b2
                  try clear c19
                  try clear c29
                  try clear p2
                  obtain ⟨x7_3, rfl, HA, HK3, HO_5, HO_6, HB⟩ := hrel
                  cases gk with
                  | zero => exact absurd HA.out (by simp [reedpenlaw02_SpanAgain.l0])
                  | succ k3 =>
                    have H := HA.out
                    clear HA
                    simp only [reedpenlaw02_SpanAgain.l0] at H
                    by_cases c30 : x7_3 < (t202.length : Int)
                    · rw [if_pos c30] at H
                      have c30b0 : decide (x7_3 < (t202.length : Int)) = true := decide_eq_true c30
                      clear c30
                      by_cases c31 : 0 ≤ x7_3
                      · rw [if_pos c31] at H
                        have c31b0 : decide (0 ≤ x7_3) = true := decide_eq_true c31
                        clear c31
                        by_cases c32 : x7_3 < (t205.length : Int)
                        · rw [if_pos c32] at H
                          have c32b0 : decide (x7_3 < (t205.length : Int)) = true := decide_eq_true c32
                          clear c32
                          by_cases c33 : (!(((rd_T45 t202 x7_3).f0) == ((rd_T45 t205 x7_3).f0)) || (!(((rd_T45 t202 x7_3).f1) == ((rd_T45 t205 x7_3).f1)) || (!(((rd_T45 t202 x7_3).f2) == ((rd_T45 t205 x7_3).f2))))) = true
                          · rw [if_pos c33] at H
                            have c33b0 : (!(((rd_T45 t202 x7_3).f0) == ((rd_T45 t205 x7_3).f0)) || (!(((rd_T45 t202 x7_3).f1) == ((rd_T45 t205 x7_3).f1)) || (!(((rd_T45 t202 x7_3).f2) == ((rd_T45 t205 x7_3).f2))))) = true := c33
                            clear c33
                            obtain rfl := Option.some.inj H
                            have p211 : 0 ≤ (x7_3 : Int) := of_decide_eq_true (by first | (with_reducible assumption) | assumption)
                            have q211 : x7_3 < (t202.length : Int) := of_decide_eq_true (by first | (with_reducible assumption) | assumption)
                            obtain ⟨ad211, e211, hx211_0, hx211_1, hx211_2⟩ := at_T45 (Kd.R_reads' HO_5.out).2.2 x7_3 p211 q211
                            cases e211
                            replace p211 := eq_true p211
                            replace q211 := eq_true q211
                            obtain ⟨Ao34, co34, eo34⟩ := Kd.R_slice HO_6.out
                            subst eo34
                            have p212 : 0 ≤ (x7_3 : Int) := of_decide_eq_true (by first | (with_reducible assumption) | assumption)
                            have q212 : x7_3 < (t205.length : Int) := of_decide_eq_true (by first | (with_reducible assumption) | assumption)
                            obtain ⟨ad212, e212, hx212_0, hx212_1, hx212_2⟩ := at_T45 (Kd.R_reads' HO_6.out).2.2 x7_3 p212 q212
                            cases e212
                            replace p212 := eq_true p212
                            replace q212 := eq_true q212
                            go_wp2
                            repeat (go_quiet (fail); try go_wp2)
                            go_ret
                            exact ⟨by first | rfl | (simp [errW_none, errW_some] <;> rfl) | (simp [*, errW_none, errW_some] <;> rfl), by repeat (first | (with_reducible first | exact HB.out | apply below_alloc | apply pw_below_drewN | apply below_drew1) | exact HB.out)⟩
                          · rw [if_neg c33] at H
                            have c33b0 : (!(((rd_T45 t202 x7_3).f0) == ((rd_T45 t205 x7_3).f0)) || (!(((rd_T45 t202 x7_3).f1) == ((rd_T45 t205 x7_3).f1)) || (!(((rd_T45 t202 x7_3).f2) == ((rd_T45 t205 x7_3).f2))))) = false := by simpa using c33
                            clear c33
                            by_cases c35 : x7_3 > 0
                            · rw [if_pos c35] at H
                              have c35b0 : decide (0 < x7_3) = true := decide_eq_true c35
                              clear c35
                              obtain ⟨ji36, hji36⟩ : ∃ j_ : Int, (wrap64 (x7_3 - 1)) = j_ := ⟨_, rfl⟩
                              replace H : (if 0 ≤ (ji36) then (if (ji36) < (t202.length : Int) then (if (wrap32 (((rd_T45 t202 (ji36)).f1) + 1)) = ((rd_T45 t202 x7_3).f0) then (if ((rd_T45 t202 (ji36)).f2) = ((rd_T45 t202 x7_3).f2) then (some false) else (reedpenlaw02_SpanAgain.l0 k3 l0 a1 t202 t205 (wrap64 (x7_3 + 1)))) else (reedpenlaw02_SpanAgain.l0 k3 l0 a1 t202 t205 (wrap64 (x7_3 + 1)))) else (none)) else (none)) = some r := by first | (rw [hji36] at H; exact H) | (simp only [hji36] at H ⊢; exact H)
                              have hji36w : (IntKind.i64.wrap (x7_3 - 1)) = ji36 := (i64_w _).trans hji36
                              by_cases c37 : 0 ≤ (ji36)
                              · rw [if_pos c37] at H
                                have c37b0 : decide (0 ≤ (ji36)) = true := decide_eq_true c37
                                clear c37
                                by_cases c38 : (ji36) < (t202.length : Int)
                                · rw [if_pos c38] at H
                                  have c38b0 : decide ((ji36) < (t202.length : Int)) = true := decide_eq_true c38
                                  clear c38
                                  by_cases c39 : (wrap32 (((rd_T45 t202 (ji36)).f1) + 1)) = ((rd_T45 t202 x7_3).f0)
                                  · rw [if_pos c39] at H
                                    have c39b0 : ((wrap32 (((rd_T45 t202 (ji36)).f1) + 1)) == ((rd_T45 t202 x7_3).f0)) = true := beq_iff_eq.mpr c39
                                    have c39b1 : ((wrap32 (((rd_T45 t202 (ji36)).f1) + 1)) != ((rd_T45 t202 x7_3).f0)) = false := bne_eq_false_iff_eq.mpr c39
                                    clear c39
                                    by_cases c40 : ((rd_T45 t202 (ji36)).f2) = ((rd_T45 t202 x7_3).f2)
                                    · rw [if_pos c40] at H
                                      have c40b0 : (((rd_T45 t202 (ji36)).f2) == ((rd_T45 t202 x7_3).f2)) = true := beq_iff_eq.mpr c40
                                      have c40b1 : (((rd_T45 t202 (ji36)).f2) != ((rd_T45 t202 x7_3).f2)) = false := bne_eq_false_iff_eq.mpr c40
                                      clear c40
                                      obtain rfl := Option.some.inj H
                                      have p211 : 0 ≤ (x7_3 : Int) := of_decide_eq_true (by first | (with_reducible assumption) | assumption)
                                      have q211 : x7_3 < (t202.length : Int) := of_decide_eq_true (by first | (with_reducible assumption) | assumption)
                                      obtain ⟨ad211, e211, hx211_0, hx211_1, hx211_2⟩ := at_T45 (Kd.R_reads' HO_5.out).2.2 x7_3 p211 q211
                                      cases e211
                                      replace p211 := eq_true p211
                                      replace q211 := eq_true q211
                                      obtain ⟨Ao41, co41, eo41⟩ := Kd.R_slice HO_6.out
                                      subst eo41
                                      have p212 : 0 ≤ (x7_3 : Int) := of_decide_eq_true (by first | (with_reducible assumption) | assumption)
                                      have q212 : x7_3 < (t205.length : Int) := of_decide_eq_true (by first | (with_reducible assumption) | assumption)
                                      obtain ⟨ad212, e212, hx212_0, hx212_1, hx212_2⟩ := at_T45 (Kd.R_reads' HO_6.out).2.2 x7_3 p212 q212
                                      cases e212
                                      replace p212 := eq_true p212
                                      replace q212 := eq_true q212
                                      have p213 : 0 ≤ ((ji36) : Int) := of_decide_eq_true (by first | (with_reducible assumption) | assumption)
                                      have q213 : (ji36) < (t202.length : Int) := of_decide_eq_true (by first | (with_reducible assumption) | assumption)
                                      obtain ⟨ad213, e213, hx213_0, hx213_1, hx213_2⟩ := at_T45 (Kd.R_reads' HO_5.out).2.2 (ji36) p213 q213
                                      obtain rfl : ad211 = ad213 := (by injection e213)
                                      replace p213 := eq_true p213
                                      replace q213 := eq_true q213
                                      have p214 : 0 ≤ (x7_3 : Int) := of_decide_eq_true (by first | (with_reducible assumption) | assumption)
                                      have q214 : x7_3 < (t202.length : Int) := of_decide_eq_true (by first | (with_reducible assumption) | assumption)
                                      obtain ⟨ad214, e214, hx214_0, hx214_1, hx214_2⟩ := at_T45 (Kd.R_reads' HO_5.out).2.2 x7_3 p214 q214
                                      obtain rfl : ad211 = ad214 := (by injection e214)
                                      replace p214 := eq_true p214
                                      replace q214 := eq_true q214
                                      have p215 : 0 ≤ ((ji36) : Int) := of_decide_eq_true (by first | (with_reducible assumption) | assumption)
                                      have q215 : (ji36) < (t202.length : Int) := of_decide_eq_true (by first | (with_reducible assumption) | assumption)
                                      obtain ⟨ad215, e215, hx215_0, hx215_1, hx215_2⟩ := at_T45 (Kd.R_reads' HO_5.out).2.2 (ji36) p215 q215
                                      obtain rfl : ad211 = ad215 := (by injection e215)
                                      replace p215 := eq_true p215
                                      replace q215 := eq_true q215
                                      have p216 : 0 ≤ (x7_3 : Int) := of_decide_eq_true (by first | (with_reducible assumption) | assumption)
                                      have q216 : x7_3 < (t202.length : Int) := of_decide_eq_true (by first | (with_reducible assumption) | assumption)
                                      obtain ⟨ad216, e216, hx216_0, hx216_1, hx216_2⟩ := at_T45 (Kd.R_reads' HO_5.out).2.2 x7_3 p216 q216
                                      obtain rfl : ad211 = ad216 := (by injection e216)
                                      replace p216 := eq_true p216
                                      replace q216 := eq_true q216
                                      go_wp2
                                      repeat (go_quiet (fail); try go_wp2)
                                      go_ret
                                      exact ⟨by first | rfl | (simp [errW_none, errW_some] <;> rfl) | (simp only [← hji36]; first | rfl | (simp [errW_none, errW_some] <;> rfl)) | (simp [*, errW_none, errW_some] <;> rfl), by repeat (first | (with_reducible first | exact HB.out | apply below_alloc | apply pw_below_drewN | apply below_drew1) | exact HB.out)⟩
                                    · rw [if_neg c40] at H
                                      have c40b0 : (((rd_T45 t202 (ji36)).f2) == ((rd_T45 t202 x7_3).f2)) = false := beq_eq_false_iff_ne.mpr c40
                                      have c40b1 : (((rd_T45 t202 (ji36)).f2) != ((rd_T45 t202 x7_3).f2)) = true := bne_iff_ne.mpr c40
                                      have H' := Aside0.mk H
                                      clear H
                                      have p211 : 0 ≤ (x7_3 : Int) := of_decide_eq_true (by first | (with_reducible assumption) | assumption)
                                      have q211 : x7_3 < (t202.length : Int) := of_decide_eq_true (by first | (with_reducible assumption) | assumption)
                                      obtain ⟨ad211, e211, hx211_0, hx211_1, hx211_2⟩ := at_T45 (Kd.R_reads' HO_5.out).2.2 x7_3 p211 q211
                                      cases e211
                                      replace p211 := eq_true p211
                                      replace q211 := eq_true q211
                                      obtain ⟨Ao42, co42, eo42⟩ := Kd.R_slice HO_6.out
                                      subst eo42
                                      have p212 : 0 ≤ (x7_3 : Int) := of_decide_eq_true (by first | (with_reducible assumption) | assumption)
                                      have q212 : x7_3 < (t205.length : Int) := of_decide_eq_true (by first | (with_reducible assumption) | assumption)
                                      obtain ⟨ad212, e212, hx212_0, hx212_1, hx212_2⟩ := at_T45 (Kd.R_reads' HO_6.out).2.2 x7_3 p212 q212
                                      cases e212
                                      replace p212 := eq_true p212
                                      replace q212 := eq_true q212
                                      have p213 : 0 ≤ ((ji36) : Int) := of_decide_eq_true (by first | (with_reducible assumption) | assumption)
                                      have q213 : (ji36) < (t202.length : Int) := of_decide_eq_true (by first | (with_reducible assumption) | assumption)
                                      obtain ⟨ad213, e213, hx213_0, hx213_1, hx213_2⟩ := at_T45 (Kd.R_reads' HO_5.out).2.2 (ji36) p213 q213
                                      obtain rfl : ad211 = ad213 := (by injection e213)
                                      replace p213 := eq_true p213
                                      replace q213 := eq_true q213
                                      have p214 : 0 ≤ (x7_3 : Int) := of_decide_eq_true (by first | (with_reducible assumption) | assumption)
                                      have q214 : x7_3 < (t202.length : Int) := of_decide_eq_true (by first | (with_reducible assumption) | assumption)
                                      obtain ⟨ad214, e214, hx214_0, hx214_1, hx214_2⟩ := at_T45 (Kd.R_reads' HO_5.out).2.2 x7_3 p214 q214
                                      obtain rfl : ad211 = ad214 := (by injection e214)
                                      replace p214 := eq_true p214
                                      replace q214 := eq_true q214
                                      have p215 : 0 ≤ ((ji36) : Int) := of_decide_eq_true (by first | (with_reducible assumption) | assumption)
                                      have q215 : (ji36) < (t202.length : Int) := of_decide_eq_true (by first | (with_reducible assumption) | assumption)
                                      obtain ⟨ad215, e215, hx215_0, hx215_1, hx215_2⟩ := at_T45 (Kd.R_reads' HO_5.out).2.2 (ji36) p215 q215
                                      obtain rfl : ad211 = ad215 := (by injection e215)
                                      replace p215 := eq_true p215
                                      replace q215 := eq_true q215
                                      have p216 : 0 ≤ (x7_3 : Int) := of_decide_eq_true (by first | (with_reducible assumption) | assumption)
                                      have q216 : x7_3 < (t202.length : Int) := of_decide_eq_true (by first | (with_reducible assumption) | assumption)
                                      obtain ⟨ad216, e216, hx216_0, hx216_1, hx216_2⟩ := at_T45 (Kd.R_reads' HO_5.out).2.2 x7_3 p216 q216
                                      obtain rfl : ad211 = ad216 := (by injection e216)
                                      replace p216 := eq_true p216
                                      replace q216 := eq_true q216
                                      go_wp2
                                      repeat (go_quiet (fail); try go_wp2)
                                      go_roundg k3
                                      case measure => have := HJ4.out; have := HJ12.out; have := HK3.out; omega
                                      case rel => exact ⟨(wrap64 (x7_3 + 1)), (by first | rfl | (simp; done) | (simp [*]; done)), H', ⟨by have := HJ4.out; have := HJ12.out; have := HK3.out; omega⟩, ⟨by (with_reducible repeat (first | apply Kd.R_alloc | apply Kd.R_drewN | apply Kd.R_drew)); exact HO_5.out⟩, ⟨by (with_reducible repeat (first | apply Kd.R_alloc | apply Kd.R_drewN | apply Kd.R_drew)); exact HO_6.out⟩, ⟨by repeat (first | (with_reducible first | exact HB.out | apply below_alloc | apply pw_below_drewN | apply below_drew1) | exact HB.out)⟩⟩
                                  · rw [if_neg c39] at H
                                    have c39b0 : ((wrap32 (((rd_T45 t202 (ji36)).f1) + 1)) == ((rd_T45 t202 x7_3).f0)) = false := beq_eq_false_iff_ne.mpr c39
                                    have c39b1 : ((wrap32 (((rd_T45 t202 (ji36)).f1) + 1)) != ((rd_T45 t202 x7_3).f0)) = true := bne_iff_ne.mpr c39
                                    have H' := Aside0.mk H
                                    clear H
                                    have p211 : 0 ≤ (x7_3 : Int) := of_decide_eq_true (by first | (with_reducible assumption) | assumption)
                                    have q211 : x7_3 < (t202.length : Int) := of_decide_eq_true (by first | (with_reducible assumption) | assumption)
                                    obtain ⟨ad211, e211, hx211_0, hx211_1, hx211_2⟩ := at_T45 (Kd.R_reads' HO_5.out).2.2 x7_3 p211 q211
                                    cases e211
                                    replace p211 := eq_true p211
                                    replace q211 := eq_true q211
                                    obtain ⟨Ao43, co43, eo43⟩ := Kd.R_slice HO_6.out
                                    subst eo43
                                    have p212 : 0 ≤ (x7_3 : Int) := of_decide_eq_true (by first | (with_reducible assumption) | assumption)
                                    have q212 : x7_3 < (t205.length : Int) := of_decide_eq_true (by first | (with_reducible assumption) | assumption)
                                    obtain ⟨ad212, e212, hx212_0, hx212_1, hx212_2⟩ := at_T45 (Kd.R_reads' HO_6.out).2.2 x7_3 p212 q212
                                    cases e212
                                    replace p212 := eq_true p212
                                    replace q212 := eq_true q212
                                    have p213 : 0 ≤ ((ji36) : Int) := of_decide_eq_true (by first | (with_reducible assumption) | assumption)
                                    have q213 : (ji36) < (t202.length : Int) := of_decide_eq_true (by first | (with_reducible assumption) | assumption)
                                    obtain ⟨ad213, e213, hx213_0, hx213_1, hx213_2⟩ := at_T45 (Kd.R_reads' HO_5.out).2.2 (ji36) p213 q213
                                    obtain rfl : ad211 = ad213 := (by injection e213)
                                    replace p213 := eq_true p213
                                    replace q213 := eq_true q213
                                    have p214 : 0 ≤ (x7_3 : Int) := of_decide_eq_true (by first | (with_reducible assumption) | assumption)
                                    have q214 : x7_3 < (t202.length : Int) := of_decide_eq_true (by first | (with_reducible assumption) | assumption)
                                    obtain ⟨ad214, e214, hx214_0, hx214_1, hx214_2⟩ := at_T45 (Kd.R_reads' HO_5.out).2.2 x7_3 p214 q214
                                    obtain rfl : ad211 = ad214 := (by injection e214)
                                    replace p214 := eq_true p214
                                    replace q214 := eq_true q214
                                    go_wp2
                                    repeat (go_quiet (fail); try go_wp2)
                                    go_roundg k3
                                    case measure => have := HJ4.out; have := HJ12.out; have := HK3.out; omega
                                    case rel => exact ⟨(wrap64 (x7_3 + 1)), (by first | rfl | (simp; done) | (simp [*]; done)), H', ⟨by have := HJ4.out; have := HJ12.out; have := HK3.out; omega⟩, ⟨by (with_reducible repeat (first | apply Kd.R_alloc | apply Kd.R_drewN | apply Kd.R_drew)); exact HO_5.out⟩, ⟨by (with_reducible repeat (first | apply Kd.R_alloc | apply Kd.R_drewN | apply Kd.R_drew)); exact HO_6.out⟩, ⟨by repeat (first | (with_reducible first | exact HB.out | apply below_alloc | apply pw_below_drewN | apply below_drew1) | exact HB.out)⟩⟩
                                · rw [if_neg c38] at H
                                  exact absurd H (by simp)
                              · rw [if_neg c37] at H
                                exact absurd H (by simp)
                            · rw [if_neg c35] at H
                              have c35b0 : decide (0 < x7_3) = false := decide_eq_false c35
                              clear c35
                              have H' := Aside0.mk H
                              clear H
                              have p211 : 0 ≤ (x7_3 : Int) := of_decide_eq_true (by first | (with_reducible assumption) | assumption)
                              have q211 : x7_3 < (t202.length : Int) := of_decide_eq_true (by first | (with_reducible assumption) | assumption)
                              obtain ⟨ad211, e211, hx211_0, hx211_1, hx211_2⟩ := at_T45 (Kd.R_reads' HO_5.out).2.2 x7_3 p211 q211
                              cases e211
                              replace p211 := eq_true p211
                              replace q211 := eq_true q211
                              obtain ⟨Ao44, co44, eo44⟩ := Kd.R_slice HO_6.out
                              subst eo44
                              have p212 : 0 ≤ (x7_3 : Int) := of_decide_eq_true (by first | (with_reducible assumption) | assumption)
                              have q212 : x7_3 < (t205.length : Int) := of_decide_eq_true (by first | (with_reducible assumption) | assumption)
                              obtain ⟨ad212, e212, hx212_0, hx212_1, hx212_2⟩ := at_T45 (Kd.R_reads' HO_6.out).2.2 x7_3 p212 q212
                              cases e212
                              replace p212 := eq_true p212
                              replace q212 := eq_true q212
                              go_wp2
                              repeat (go_quiet (fail); try go_wp2)
                              go_roundg k3
                              case measure => have := HJ4.out; have := HJ12.out; have := HK3.out; omega
                              case rel => exact ⟨(wrap64 (x7_3 + 1)), (by first | rfl | (simp; done) | (simp [*]; done)), H', ⟨by have := HJ4.out; have := HJ12.out; have := HK3.out; omega⟩, ⟨by (with_reducible repeat (first | apply Kd.R_alloc | apply Kd.R_drewN | apply Kd.R_drew)); exact HO_5.out⟩, ⟨by (with_reducible repeat (first | apply Kd.R_alloc | apply Kd.R_drewN | apply Kd.R_drew)); exact HO_6.out⟩, ⟨by repeat (first | (with_reducible first | exact HB.out | apply below_alloc | apply pw_below_drewN | apply below_drew1) | exact HB.out)⟩⟩
                        · rw [if_neg c32] at H
                          exact absurd H (by simp)
                      · rw [if_neg c31] at H
                        exact absurd H (by simp)
                    · rw [if_neg c30] at H
                      have c30b0 : decide (x7_3 < (t202.length : Int)) = false := decide_eq_false c30
                      clear c30
                      replace H := Option.bind_eq_some_iff.mp H
                      obtain ⟨⟨t217, t218⟩, A450, H⟩ := H
                      replace H : ((span_Find.f t202 a1).bind fun bt219 => (if t217 = bt219.1 then (some (t218 == bt219.2)) else (some false))) = some r := H
                      have A45 := Aside0.mk A450
                      clear A450
                      replace H := Option.bind_eq_some_iff.mp H
                      obtain ⟨⟨t219, t220⟩, A460, H⟩ := H
                      replace H : (if t217 = t219 then (some (t218 == t220)) else (some false)) = some r := H
                      have A46 := Aside0.mk A460
                      clear A460
                      by_cases c47 : t217 = t219
                      · rw [if_pos c47] at H
                        have c47b0 : (t217 == t219) = true := beq_iff_eq.mpr c47
                        have c47b1 : (t217 != t219) = false := bne_eq_false_iff_eq.mpr c47
                        clear c47
                        obtain rfl := Option.some.inj H
                        go_wp2_with (first | (go_at_call 34; (with_reducible refine (span_Find.calls _ _ l0 a1 t217 t218 _ ?side1 ?side2 A45.out).mono ?_); (case side1 => repeat (first | exact (Kd.C_below HR0.out HB.out) | (with_reducible refine Kd.C_alloc ?_ _) | (with_reducible refine Kd.C_drewN ?_ _) | (with_reducible refine Kd.C_drew ?_))); (case side2 => exact HC0.out); rintro e w48 ⟨rfl, hb⟩; have n0_ := Aside0.mk (Kd.R_below (by (with_reducible repeat (first | apply Kd.R_alloc | apply Kd.R_drewN | apply Kd.R_drew)); exact HO_5.out) hb); have n1_ := Aside0.mk (Kd.R_below (by (with_reducible repeat (first | apply Kd.R_alloc | apply Kd.R_drewN | apply Kd.R_drew)); exact HO_6.out) hb); have n2_ := Aside0.mk (below_step (by repeat (first | (with_reducible first | exact HB.out | apply below_alloc | apply pw_below_drewN | apply below_drew1) | exact HB.out)) hb); clear HO_5; clear HO_6; clear HB; have HO_5 := n0_; have HO_6 := n1_; have HB := n2_; clear n0_ n1_ n2_; (try clear hb); (try clear hb2); (try clear hk); (try clear hi)) | (go_at_call 34; (with_reducible refine (span_Find.calls _ _ t202 a1 t219 t220 _ ?side1 ?side2 A46.out).mono ?_); (case side1 => repeat (first | exact (Kd.R_reads' HO_5.out).2.2 | (with_reducible refine Kd.C_alloc ?_ _) | (with_reducible refine Kd.C_drewN ?_ _) | (with_reducible refine Kd.C_drew ?_))); (case side2 => exact (Kd.R_reads' HO_5.out).2.1); rintro e w49 ⟨rfl, hb⟩; have n0_ := Aside0.mk (Kd.R_below (by (with_reducible repeat (first | apply Kd.R_alloc | apply Kd.R_drewN | apply Kd.R_drew)); exact HO_5.out) hb); have n1_ := Aside0.mk (Kd.R_below (by (with_reducible repeat (first | apply Kd.R_alloc | apply Kd.R_drewN | apply Kd.R_drew)); exact HO_6.out) hb); have n2_ := Aside0.mk (below_step (by repeat (first | (with_reducible first | exact HB.out | apply below_alloc | apply pw_below_drewN | apply below_drew1) | exact HB.out)) hb); clear HO_5; clear HO_6; clear HB; have HO_5 := n0_; have HO_6 := n1_; have HB := n2_; clear n0_ n1_ n2_; (try clear hb); (try clear hb2); (try clear hk); (try clear hi)))
                        repeat (go_quiet (first | (go_at_call 34; (with_reducible refine (span_Find.calls _ _ l0 a1 t217 t218 _ ?side1 ?side2 A45.out).mono ?_); (case side1 => repeat (first | exact (Kd.C_below HR0.out HB.out) | (with_reducible refine Kd.C_alloc ?_ _) | (with_reducible refine Kd.C_drewN ?_ _) | (with_reducible refine Kd.C_drew ?_))); (case side2 => exact HC0.out); rintro e w48 ⟨rfl, hb⟩; have n0_ := Aside0.mk (Kd.R_below (by (with_reducible repeat (first | apply Kd.R_alloc | apply Kd.R_drewN | apply Kd.R_drew)); exact HO_5.out) hb); have n1_ := Aside0.mk (Kd.R_below (by (with_reducible repeat (first | apply Kd.R_alloc | apply Kd.R_drewN | apply Kd.R_drew)); exact HO_6.out) hb); have n2_ := Aside0.mk (below_step (by repeat (first | (with_reducible first | exact HB.out | apply below_alloc | apply pw_below_drewN | apply below_drew1) | exact HB.out)) hb); clear HO_5; clear HO_6; clear HB; have HO_5 := n0_; have HO_6 := n1_; have HB := n2_; clear n0_ n1_ n2_; (try clear hb); (try clear hb2); (try clear hk); (try clear hi)) | (go_at_call 34; (with_reducible refine (span_Find.calls _ _ t202 a1 t219 t220 _ ?side1 ?side2 A46.out).mono ?_); (case side1 => repeat (first | exact (Kd.R_reads' HO_5.out).2.2 | (with_reducible refine Kd.C_alloc ?_ _) | (with_reducible refine Kd.C_drewN ?_ _) | (with_reducible refine Kd.C_drew ?_))); (case side2 => exact (Kd.R_reads' HO_5.out).2.1); rintro e w49 ⟨rfl, hb⟩; have n0_ := Aside0.mk (Kd.R_below (by (with_reducible repeat (first | apply Kd.R_alloc | apply Kd.R_drewN | apply Kd.R_drew)); exact HO_5.out) hb); have n1_ := Aside0.mk (Kd.R_below (by (with_reducible repeat (first | apply Kd.R_alloc | apply Kd.R_drewN | apply Kd.R_drew)); exact HO_6.out) hb); have n2_ := Aside0.mk (below_step (by repeat (first | (with_reducible first | exact HB.out | apply below_alloc | apply pw_below_drewN | apply below_drew1) | exact HB.out)) hb); clear HO_5; clear HO_6; clear HB; have HO_5 := n0_; have HO_6 := n1_; have HB := n2_; clear n0_ n1_ n2_; (try clear hb); (try clear hb2); (try clear hk); (try clear hi))); try go_wp2_with (first | (go_at_call 34; (with_reducible refine (span_Find.calls _ _ l0 a1 t217 t218 _ ?side1 ?side2 A45.out).mono ?_); (case side1 => repeat (first | exact (Kd.C_below HR0.out HB.out) | (with_reducible refine Kd.C_alloc ?_ _) | (with_reducible refine Kd.C_drewN ?_ _) | (with_reducible refine Kd.C_drew ?_))); (case side2 => exact HC0.out); rintro e w48 ⟨rfl, hb⟩; have n0_ := Aside0.mk (Kd.R_below (by (with_reducible repeat (first | apply Kd.R_alloc | apply Kd.R_drewN | apply Kd.R_drew)); exact HO_5.out) hb); have n1_ := Aside0.mk (Kd.R_below (by (with_reducible repeat (first | apply Kd.R_alloc | apply Kd.R_drewN | apply Kd.R_drew)); exact HO_6.out) hb); have n2_ := Aside0.mk (below_step (by repeat (first | (with_reducible first | exact HB.out | apply below_alloc | apply pw_below_drewN | apply below_drew1) | exact HB.out)) hb); clear HO_5; clear HO_6; clear HB; have HO_5 := n0_; have HO_6 := n1_; have HB := n2_; clear n0_ n1_ n2_; (try clear hb); (try clear hb2); (try clear hk); (try clear hi)) | (go_at_call 34; (with_reducible refine (span_Find.calls _ _ t202 a1 t219 t220 _ ?side1 ?side2 A46.out).mono ?_); (case side1 => repeat (first | exact (Kd.R_reads' HO_5.out).2.2 | (with_reducible refine Kd.C_alloc ?_ _) | (with_reducible refine Kd.C_drewN ?_ _) | (with_reducible refine Kd.C_drew ?_))); (case side2 => exact (Kd.R_reads' HO_5.out).2.1); rintro e w49 ⟨rfl, hb⟩; have n0_ := Aside0.mk (Kd.R_below (by (with_reducible repeat (first | apply Kd.R_alloc | apply Kd.R_drewN | apply Kd.R_drew)); exact HO_5.out) hb); have n1_ := Aside0.mk (Kd.R_below (by (with_reducible repeat (first | apply Kd.R_alloc | apply Kd.R_drewN | apply Kd.R_drew)); exact HO_6.out) hb); have n2_ := Aside0.mk (below_step (by repeat (first | (with_reducible first | exact HB.out | apply below_alloc | apply pw_below_drewN | apply below_drew1) | exact HB.out)) hb); clear HO_5; clear HO_6; clear HB; have HO_5 := n0_; have HO_6 := n1_; have HB := n2_; clear n0_ n1_ n2_; (try clear hb); (try clear hb2); (try clear hk); (try clear hi))))
                        go_ret
                        exact ⟨by first | rfl | (simp [errW_none, errW_some] <;> rfl) | (simp [*, errW_none, errW_some] <;> rfl), by repeat (first | (with_reducible first | exact HB.out | apply below_alloc | apply pw_below_drewN | apply below_drew1) | exact HB.out)⟩
                      · rw [if_neg c47] at H
                        have c47b0 : (t217 == t219) = false := beq_eq_false_iff_ne.mpr c47
                        have c47b1 : (t217 != t219) = true := bne_iff_ne.mpr c47
                        obtain rfl := Option.some.inj H
                        go_wp2_with (first | (go_at_call 34; (with_reducible refine (span_Find.calls _ _ l0 a1 t217 t218 _ ?side1 ?side2 A45.out).mono ?_); (case side1 => repeat (first | exact (Kd.C_below HR0.out HB.out) | (with_reducible refine Kd.C_alloc ?_ _) | (with_reducible refine Kd.C_drewN ?_ _) | (with_reducible refine Kd.C_drew ?_))); (case side2 => exact HC0.out); rintro e w50 ⟨rfl, hb⟩; have n0_ := Aside0.mk (Kd.R_below (by (with_reducible repeat (first | apply Kd.R_alloc | apply Kd.R_drewN | apply Kd.R_drew)); exact HO_5.out) hb); have n1_ := Aside0.mk (Kd.R_below (by (with_reducible repeat (first | apply Kd.R_alloc | apply Kd.R_drewN | apply Kd.R_drew)); exact HO_6.out) hb); have n2_ := Aside0.mk (below_step (by repeat (first | (with_reducible first | exact HB.out | apply below_alloc | apply pw_below_drewN | apply below_drew1) | exact HB.out)) hb); clear HO_5; clear HO_6; clear HB; have HO_5 := n0_; have HO_6 := n1_; have HB := n2_; clear n0_ n1_ n2_; (try clear hb); (try clear hb2); (try clear hk); (try clear hi)) | (go_at_call 34; (with_reducible refine (span_Find.calls _ _ t202 a1 t219 t220 _ ?side1 ?side2 A46.out).mono ?_); (case side1 => repeat (first | exact (Kd.R_reads' HO_5.out).2.2 | (with_reducible refine Kd.C_alloc ?_ _) | (with_reducible refine Kd.C_drewN ?_ _) | (with_reducible refine Kd.C_drew ?_))); (case side2 => exact (Kd.R_reads' HO_5.out).2.1); rintro e w51 ⟨rfl, hb⟩; have n0_ := Aside0.mk (Kd.R_below (by (with_reducible repeat (first | apply Kd.R_alloc | apply Kd.R_drewN | apply Kd.R_drew)); exact HO_5.out) hb); have n1_ := Aside0.mk (Kd.R_below (by (with_reducible repeat (first | apply Kd.R_alloc | apply Kd.R_drewN | apply Kd.R_drew)); exact HO_6.out) hb); have n2_ := Aside0.mk (below_step (by repeat (first | (with_reducible first | exact HB.out | apply below_alloc | apply pw_below_drewN | apply below_drew1) | exact HB.out)) hb); clear HO_5; clear HO_6; clear HB; have HO_5 := n0_; have HO_6 := n1_; have HB := n2_; clear n0_ n1_ n2_; (try clear hb); (try clear hb2); (try clear hk); (try clear hi)))
                        repeat (go_quiet (first | (go_at_call 34; (with_reducible refine (span_Find.calls _ _ l0 a1 t217 t218 _ ?side1 ?side2 A45.out).mono ?_); (case side1 => repeat (first | exact (Kd.C_below HR0.out HB.out) | (with_reducible refine Kd.C_alloc ?_ _) | (with_reducible refine Kd.C_drewN ?_ _) | (with_reducible refine Kd.C_drew ?_))); (case side2 => exact HC0.out); rintro e w50 ⟨rfl, hb⟩; have n0_ := Aside0.mk (Kd.R_below (by (with_reducible repeat (first | apply Kd.R_alloc | apply Kd.R_drewN | apply Kd.R_drew)); exact HO_5.out) hb); have n1_ := Aside0.mk (Kd.R_below (by (with_reducible repeat (first | apply Kd.R_alloc | apply Kd.R_drewN | apply Kd.R_drew)); exact HO_6.out) hb); have n2_ := Aside0.mk (below_step (by repeat (first | (with_reducible first | exact HB.out | apply below_alloc | apply pw_below_drewN | apply below_drew1) | exact HB.out)) hb); clear HO_5; clear HO_6; clear HB; have HO_5 := n0_; have HO_6 := n1_; have HB := n2_; clear n0_ n1_ n2_; (try clear hb); (try clear hb2); (try clear hk); (try clear hi)) | (go_at_call 34; (with_reducible refine (span_Find.calls _ _ t202 a1 t219 t220 _ ?side1 ?side2 A46.out).mono ?_); (case side1 => repeat (first | exact (Kd.R_reads' HO_5.out).2.2 | (with_reducible refine Kd.C_alloc ?_ _) | (with_reducible refine Kd.C_drewN ?_ _) | (with_reducible refine Kd.C_drew ?_))); (case side2 => exact (Kd.R_reads' HO_5.out).2.1); rintro e w51 ⟨rfl, hb⟩; have n0_ := Aside0.mk (Kd.R_below (by (with_reducible repeat (first | apply Kd.R_alloc | apply Kd.R_drewN | apply Kd.R_drew)); exact HO_5.out) hb); have n1_ := Aside0.mk (Kd.R_below (by (with_reducible repeat (first | apply Kd.R_alloc | apply Kd.R_drewN | apply Kd.R_drew)); exact HO_6.out) hb); have n2_ := Aside0.mk (below_step (by repeat (first | (with_reducible first | exact HB.out | apply below_alloc | apply pw_below_drewN | apply below_drew1) | exact HB.out)) hb); clear HO_5; clear HO_6; clear HB; have HO_5 := n0_; have HO_6 := n1_; have HB := n2_; clear n0_ n1_ n2_; (try clear hb); (try clear hb2); (try clear hk); (try clear hi))); try go_wp2_with (first | (go_at_call 34; (with_reducible refine (span_Find.calls _ _ l0 a1 t217 t218 _ ?side1 ?side2 A45.out).mono ?_); (case side1 => repeat (first | exact (Kd.C_below HR0.out HB.out) | (with_reducible refine Kd.C_alloc ?_ _) | (with_reducible refine Kd.C_drewN ?_ _) | (with_reducible refine Kd.C_drew ?_))); (case side2 => exact HC0.out); rintro e w50 ⟨rfl, hb⟩; have n0_ := Aside0.mk (Kd.R_below (by (with_reducible repeat (first | apply Kd.R_alloc | apply Kd.R_drewN | apply Kd.R_drew)); exact HO_5.out) hb); have n1_ := Aside0.mk (Kd.R_below (by (with_reducible repeat (first | apply Kd.R_alloc | apply Kd.R_drewN | apply Kd.R_drew)); exact HO_6.out) hb); have n2_ := Aside0.mk (below_step (by repeat (first | (with_reducible first | exact HB.out | apply below_alloc | apply pw_below_drewN | apply below_drew1) | exact HB.out)) hb); clear HO_5; clear HO_6; clear HB; have HO_5 := n0_; have HO_6 := n1_; have HB := n2_; clear n0_ n1_ n2_; (try clear hb); (try clear hb2); (try clear hk); (try clear hi)) | (go_at_call 34; (with_reducible refine (span_Find.calls _ _ t202 a1 t219 t220 _ ?side1 ?side2 A46.out).mono ?_); (case side1 => repeat (first | exact (Kd.R_reads' HO_5.out).2.2 | (with_reducible refine Kd.C_alloc ?_ _) | (with_reducible refine Kd.C_drewN ?_ _) | (with_reducible refine Kd.C_drew ?_))); (case side2 => exact (Kd.R_reads' HO_5.out).2.1); rintro e w51 ⟨rfl, hb⟩; have n0_ := Aside0.mk (Kd.R_below (by (with_reducible repeat (first | apply Kd.R_alloc | apply Kd.R_drewN | apply Kd.R_drew)); exact HO_5.out) hb); have n1_ := Aside0.mk (Kd.R_below (by (with_reducible repeat (first | apply Kd.R_alloc | apply Kd.R_drewN | apply Kd.R_drew)); exact HO_6.out) hb); have n2_ := Aside0.mk (below_step (by repeat (first | (with_reducible first | exact HB.out | apply below_alloc | apply pw_below_drewN | apply below_drew1) | exact HB.out)) hb); clear HO_5; clear HO_6; clear HB; have HO_5 := n0_; have HO_6 := n1_; have HB := n2_; clear n0_ n1_ n2_; (try clear hb); (try clear hb2); (try clear hk); (try clear hi))))
                        go_ret
                        exact ⟨by first | rfl | (simp [errW_none, errW_some] <;> rfl) | (simp [*, errW_none, errW_some] <;> rfl), by repeat (first | (with_reducible first | exact HB.out | apply below_alloc | apply pw_below_drewN | apply below_drew1) | exact HB.out)⟩
  · replace c4 := Bool.eq_false_iff.mpr c4
    subst c4
    have H1 : (some false) = some r := by rw [if_neg (show ¬ (false = true) by decide)] at H; exact H
    clear H
    have H := H1
    clear H1
    obtain rfl := Option.some.inj H
    go_enter Try.func10, Try.ntmps10
    go_wp2_with (first | (go_at_call 29; (with_reducible refine (reedpenlaw02_alive.calls k  false _ A3.out).mono ?_); rintro e w52 ⟨rfl, hb⟩; have n0_ := Aside0.mk (below_step (by repeat (first | (with_reducible first | exact HB.out | apply below_alloc | apply pw_below_drewN | apply below_drew1) | exact HB.out)) hb); clear HB; have HB := n0_; clear n0_; (try clear hb); (try clear hb2); (try clear hk); (try clear hi)))
    repeat (go_quiet (first | (go_at_call 29; (with_reducible refine (reedpenlaw02_alive.calls k  false _ A3.out).mono ?_); rintro e w52 ⟨rfl, hb⟩; have n0_ := Aside0.mk (below_step (by repeat (first | (with_reducible first | exact HB.out | apply below_alloc | apply pw_below_drewN | apply below_drew1) | exact HB.out)) hb); clear HB; have HB := n0_; clear n0_; (try clear hb); (try clear hb2); (try clear hk); (try clear hi))); try go_wp2_with (first | (go_at_call 29; (with_reducible refine (reedpenlaw02_alive.calls k  false _ A3.out).mono ?_); rintro e w52 ⟨rfl, hb⟩; have n0_ := Aside0.mk (below_step (by repeat (first | (with_reducible first | exact HB.out | apply below_alloc | apply pw_below_drewN | apply below_drew1) | exact HB.out)) hb); clear HB; have HB := n0_; clear n0_; (try clear hb); (try clear hb2); (try clear hk); (try clear hi))))
    go_ret
    exact ⟨by first | rfl | (simp [errW_none, errW_some] <;> rfl) | (simp [*, errW_none, errW_some] <;> rfl), by repeat (first | (with_reducible first | exact HB.out | apply below_alloc | apply pw_below_drewN | apply below_drew1) | exact HB.out)⟩

end Go.Proofs.Ytahmicipakmbmaa.Z
