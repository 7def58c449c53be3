-- PRINTED BY mprint.py (a program of this session, over the kit's printer): Lean checks it
import Derived.Test.YtlpikbkdlnocdaaK0
import Derived.Test.YtlpikbkdlnocdaaK2
namespace Go.Proofs.Ytlpikbkdlnocdaa.K
open Go.RowKit Go.Proofs.YtlpikbkdlnocdaaW.PrintWords Go.Proofs.YtlpikbkdlnocdaaW.PrintLast Go.Proofs.YtlpikbkdlnocdaaW.PrintMore
attribute [local go_sem] max2_int min2_int max_two min_two max_three min_three max_four min_four   -- for this text's walks alone
set_option linter.unusedVariables false
set_option linter.unusedSimpArgs false


-- STUB
/-! ### order_syllable_key: function 59 -/
/-- What no rule takes: ahead of the base, at it, or behind it. -/
def order_syllable_key.tail (base bases i : Int) : Int := if i < base then 2 else if i < bases then 3 else 5
/-- An item's key. -/
def order_syllable_key.f (a0_0 : Int) (a0_1 : ByteArray) (a0_2 : Bool) (a0_3 : Int) (l0_4 : List Int) (a0_5 a0_6 a0_7 a1 a2 : Int) : Option Int :=
  if a1 < a0_5 then (if a0_0 = 4 then some 4 else some 0)
  else if 0 ≤ a1 ∧ a1 < (l0_4.length : Int) then
    if rd l0_4 a1 = 5 then order_signKey.f a2
    else if rd l0_4 a1 = 6 then some 9
    else if rd l0_4 a1 = 13 then (if a2 = 1 then some 1 else if a1 ≥ a0_7 then some 4 else some (order_syllable_key.tail a0_6 a0_7 a1))
    else if rd l0_4 a1 = 12 ∨ rd l0_4 a1 = 15 then (if a1 ≥ a0_7 then some 4 else some (order_syllable_key.tail a0_6 a0_7 a1))
    else if rd l0_4 a1 = 11 ∨ rd l0_4 a1 = 7 then (if a0_0 = 3 then (order_subjoined.f l0_4 a1 a0_6).bind fun t => (if t = true then some 2 else some (order_syllable_key.tail a0_6 a0_7 a1)) else some (order_syllable_key.tail a0_6 a0_7 a1))
    else some (order_syllable_key.tail a0_6 a0_7 a1)
  else none
set_option maxHeartbeats 1000000 in
set_option maxRecDepth 100000 in
theorem order_syllable_key.calls (a0_0 : Int) (a0_1 : ByteArray) (a0_2 : Bool) (a0_3 : Int) (A0_4 : Option Addr) (c0_4 : Nat) (l0_4 : List Int) (a0_5 a0_6 a0_7 a1 a2 : Int) (r : Int) (w : World)
    (hr0_4 : Kd.C (Kd.int .i64) w A0_4 l0_4.length l0_4) (hc0_4 : l0_4.length ≤ c0_4) (h : order_syllable_key.f a0_0 a0_1 a0_2 a0_3 l0_4 a0_5 a0_6 a0_7 a1 a2 = some r) :
    Calls Try.prog 59 #[.agg #[.int .i64 a0_0, .string a0_1, .bool a0_2, .int .i64 a0_3, .slice A0_4 l0_4.length c0_4, .int .i64 a0_5, .int .i64 a0_6, .int .i64 a0_7], .int .i64 a1, .int .i64 a2] w
      fun e w' => e = .returned (.int .i64 r) ∧ Below w.heap.size w w' := by
  have HR0 := Aside0.mk hr0_4
  have HC0 := Aside0.mk hc0_4
  have HB := Aside0.mk (Below.refl w.heap.size w)
  unfold order_syllable_key.f at h
  by_cases h1 : a1 < a0_5
  · rw [if_pos h1] at h
    have b1 := decide_eq_true h1
    clear hr0_4 hc0_4
    by_cases h4 : a0_0 = 4
    · rw [if_pos h4] at h
      obtain rfl : 4 = r := by simpa using h
      have b4 : (a0_0 == 4) = true := by rw [beq_iff_eq]; exact h4
      clear h h1 h4
      go_enter Try.func59, Try.ntmps59
      go_wp2
      all_goals go_ret
      all_goals exact ⟨rfl, by repeat (first | (with_reducible first | exact HB.out | apply below_alloc | apply pw_below_drewN | apply below_drew1) | exact HB.out)⟩
    · rw [if_neg h4] at h
      obtain rfl : 0 = r := by simpa using h
      have b4 : (a0_0 == 4) = false := by rw [beq_eq_false_iff_ne]; exact h4
      clear h h1 h4
      go_enter Try.func59, Try.ntmps59
      go_wp2
      all_goals go_ret
      all_goals exact ⟨rfl, by repeat (first | (with_reducible first | exact HB.out | apply below_alloc | apply pw_below_drewN | apply below_drew1) | exact HB.out)⟩
  · rw [if_neg h1] at h
    have b1 := decide_eq_false h1
    by_cases hin : 0 ≤ a1 ∧ a1 < (l0_4.length : Int)
    · rw [if_pos hin] at h
      obtain ⟨ad, hA, hx⟩ := Kd.at_int hr0_4 a1 hin.1 hin.2
      subst hA
      have hx2 := fun o => pw_cell_below (below_alloc (Below.refl w.heap.size w) o) hx
      generalize rd l0_4 a1 = c at h hx2
      have p0 := eq_true hin.1
      have p1 := eq_true hin.2
      clear hx hin h1 hr0_4 hc0_4
      by_cases c5 : c = 5
      · subst c5
        rw [if_pos rfl] at h
        go_enter Try.func59, Try.ntmps59
        go_wp2_with (go_at_call 85; refine (order_signKey.calls _ _ _ h).mono ?_; rintro e w3 ⟨rfl, ⟨nd, rfl⟩⟩)
        all_goals go_ret
        all_goals exact ⟨rfl, by repeat (first | (with_reducible first | exact HB.out | apply below_alloc | apply pw_below_drewN | apply below_drew1) | exact HB.out)⟩
      rw [if_neg c5] at h
      by_cases c6 : c = 6
      · subst c6
        rw [if_pos rfl] at h
        obtain rfl : 9 = r := by simpa using h
        clear h
        go_enter Try.func59, Try.ntmps59
        go_wp2
        all_goals go_ret
        all_goals exact ⟨rfl, by repeat (first | (with_reducible first | exact HB.out | apply below_alloc | apply pw_below_drewN | apply below_drew1) | exact HB.out)⟩
      rw [if_neg c6] at h
      by_cases c13 : c = 13
      · subst c13
        rw [if_pos rfl] at h
        by_cases g : a2 = 1
        · rw [if_pos g] at h
          obtain rfl : 1 = r := by simpa using h
          subst g
          clear h
          go_enter Try.func59, Try.ntmps59
          go_wp2
          all_goals go_ret
          all_goals exact ⟨rfl, by repeat (first | (with_reducible first | exact HB.out | apply below_alloc | apply pw_below_drewN | apply below_drew1) | exact HB.out)⟩
        · rw [if_neg g] at h
          have b2 : (a2 == 1) = false := by rw [beq_eq_false_iff_ne]; exact g
          by_cases g0 : a1 ≥ a0_7
          · rw [if_pos g0] at h
            obtain rfl : 4 = r := by simpa using h
            have b5 := decide_eq_true g0
            clear h
            go_enter Try.func59, Try.ntmps59
            go_wp2
            all_goals go_ret
            all_goals exact ⟨rfl, by repeat (first | (with_reducible first | exact HB.out | apply below_alloc | apply pw_below_drewN | apply below_drew1) | exact HB.out)⟩
          · rw [if_neg g0] at h
            have b5 := decide_eq_false g0
            unfold order_syllable_key.tail at h
            by_cases g1 : a1 < a0_6
            · rw [if_pos g1] at h
              obtain rfl : 2 = r := by simpa using h
              have b6 := decide_eq_true g1
              clear h
              go_enter Try.func59, Try.ntmps59
              go_wp2
              all_goals go_ret
              all_goals exact ⟨rfl, by repeat (first | (with_reducible first | exact HB.out | apply below_alloc | apply pw_below_drewN | apply below_drew1) | exact HB.out)⟩
            · rw [if_neg g1] at h
              have b6 := decide_eq_false g1
              by_cases g2 : a1 < a0_7
              · rw [if_pos g2] at h
                obtain rfl : 3 = r := by simpa using h
                have b7 := decide_eq_true g2
                clear h
                go_enter Try.func59, Try.ntmps59
                go_wp2
                all_goals go_ret
                all_goals exact ⟨rfl, by repeat (first | (with_reducible first | exact HB.out | apply below_alloc | apply pw_below_drewN | apply below_drew1) | exact HB.out)⟩
              · exfalso; omega
      rw [if_neg c13] at h
      by_cases c12 : c = 12
      · subst c12
        rw [if_pos (Or.inl rfl)] at h
        by_cases g0 : a1 ≥ a0_7
        · rw [if_pos g0] at h
          obtain rfl : 4 = r := by simpa using h
          have b5 := decide_eq_true g0
          clear h
          go_enter Try.func59, Try.ntmps59
          go_wp2
          all_goals go_ret
          all_goals exact ⟨rfl, by repeat (first | (with_reducible first | exact HB.out | apply below_alloc | apply pw_below_drewN | apply below_drew1) | exact HB.out)⟩
        · rw [if_neg g0] at h
          have b5 := decide_eq_false g0
          unfold order_syllable_key.tail at h
          by_cases g1 : a1 < a0_6
          · rw [if_pos g1] at h
            obtain rfl : 2 = r := by simpa using h
            have b6 := decide_eq_true g1
            clear h
            go_enter Try.func59, Try.ntmps59
            go_wp2
            all_goals go_ret
            all_goals exact ⟨rfl, by repeat (first | (with_reducible first | exact HB.out | apply below_alloc | apply pw_below_drewN | apply below_drew1) | exact HB.out)⟩
          · rw [if_neg g1] at h
            have b6 := decide_eq_false g1
            by_cases g2 : a1 < a0_7
            · rw [if_pos g2] at h
              obtain rfl : 3 = r := by simpa using h
              have b7 := decide_eq_true g2
              clear h
              go_enter Try.func59, Try.ntmps59
              go_wp2
              all_goals go_ret
              all_goals exact ⟨rfl, by repeat (first | (with_reducible first | exact HB.out | apply below_alloc | apply pw_below_drewN | apply below_drew1) | exact HB.out)⟩
            · exfalso; omega
      by_cases c15 : c = 15
      · subst c15
        rw [if_pos (Or.inr rfl)] at h
        by_cases g0 : a1 ≥ a0_7
        · rw [if_pos g0] at h
          obtain rfl : 4 = r := by simpa using h
          have b5 := decide_eq_true g0
          clear h
          go_enter Try.func59, Try.ntmps59
          go_wp2
          all_goals go_ret
          all_goals exact ⟨rfl, by repeat (first | (with_reducible first | exact HB.out | apply below_alloc | apply pw_below_drewN | apply below_drew1) | exact HB.out)⟩
        · rw [if_neg g0] at h
          have b5 := decide_eq_false g0
          unfold order_syllable_key.tail at h
          by_cases g1 : a1 < a0_6
          · rw [if_pos g1] at h
            obtain rfl : 2 = r := by simpa using h
            have b6 := decide_eq_true g1
            clear h
            go_enter Try.func59, Try.ntmps59
            go_wp2
            all_goals go_ret
            all_goals exact ⟨rfl, by repeat (first | (with_reducible first | exact HB.out | apply below_alloc | apply pw_below_drewN | apply below_drew1) | exact HB.out)⟩
          · rw [if_neg g1] at h
            have b6 := decide_eq_false g1
            by_cases g2 : a1 < a0_7
            · rw [if_pos g2] at h
              obtain rfl : 3 = r := by simpa using h
              have b7 := decide_eq_true g2
              clear h
              go_enter Try.func59, Try.ntmps59
              go_wp2
              all_goals go_ret
              all_goals exact ⟨rfl, by repeat (first | (with_reducible first | exact HB.out | apply below_alloc | apply pw_below_drewN | apply below_drew1) | exact HB.out)⟩
            · exfalso; omega
      rw [if_neg (by omega)] at h
      by_cases c11 : c = 11
      · subst c11
        rw [if_pos (Or.inl rfl)] at h
        by_cases g3 : a0_0 = 3
        · rw [if_pos g3] at h
          subst g3
          cases hs : order_subjoined.f l0_4 a1 a0_6 with
          | none => rw [hs] at h; cases h
          | some t =>
            rw [hs] at h
            replace hs := Aside0.mk hs
            simp only [Option.bind_some] at h
            cases t with
            | true =>
              obtain rfl : 2 = r := by simpa using h
              clear h
              go_enter Try.func59, Try.ntmps59
              go_wp2_with (go_at_call 86; refine (order_subjoined.calls _ _ _ _ _ _ _ ?c1 HC0.out hs.out).mono ?_; (case c1 => repeat (first | exact HR0.out | (with_reducible refine Kd.C_alloc ?_ _) | (with_reducible refine Kd.C_drewN ?_ _) | (with_reducible refine Kd.C_drew ?_))); rintro e w3 ⟨rfl, ⟨nd, rfl⟩⟩)
              all_goals go_ret
              all_goals exact ⟨rfl, by repeat (first | (with_reducible first | exact HB.out | apply below_alloc | apply pw_below_drewN | apply below_drew1) | exact HB.out)⟩
            | false =>
              rw [if_neg (by decide)] at h
              unfold order_syllable_key.tail at h
              by_cases g1 : a1 < a0_6
              · rw [if_pos g1] at h
                obtain rfl : 2 = r := by simpa using h
                have b6 := decide_eq_true g1
                clear h
                go_enter Try.func59, Try.ntmps59
                go_wp2_with (go_at_call 86; refine (order_subjoined.calls _ _ _ _ _ _ _ ?c1 HC0.out hs.out).mono ?_; (case c1 => repeat (first | exact HR0.out | (with_reducible refine Kd.C_alloc ?_ _) | (with_reducible refine Kd.C_drewN ?_ _) | (with_reducible refine Kd.C_drew ?_))); rintro e w3 ⟨rfl, ⟨nd, rfl⟩⟩)
                all_goals go_ret
                all_goals exact ⟨rfl, by repeat (first | (with_reducible first | exact HB.out | apply below_alloc | apply pw_below_drewN | apply below_drew1) | exact HB.out)⟩
              · rw [if_neg g1] at h
                have b6 := decide_eq_false g1
                by_cases g2 : a1 < a0_7
                · rw [if_pos g2] at h
                  obtain rfl : 3 = r := by simpa using h
                  have b7 := decide_eq_true g2
                  clear h
                  go_enter Try.func59, Try.ntmps59
                  go_wp2_with (go_at_call 86; refine (order_subjoined.calls _ _ _ _ _ _ _ ?c1 HC0.out hs.out).mono ?_; (case c1 => repeat (first | exact HR0.out | (with_reducible refine Kd.C_alloc ?_ _) | (with_reducible refine Kd.C_drewN ?_ _) | (with_reducible refine Kd.C_drew ?_))); rintro e w3 ⟨rfl, ⟨nd, rfl⟩⟩)
                  all_goals go_ret
                  all_goals exact ⟨rfl, by repeat (first | (with_reducible first | exact HB.out | apply below_alloc | apply pw_below_drewN | apply below_drew1) | exact HB.out)⟩
                · rw [if_neg g2] at h
                  obtain rfl : 5 = r := by simpa using h
                  have b7 := decide_eq_false g2
                  clear h
                  go_enter Try.func59, Try.ntmps59
                  go_wp2_with (go_at_call 86; refine (order_subjoined.calls _ _ _ _ _ _ _ ?c1 HC0.out hs.out).mono ?_; (case c1 => repeat (first | exact HR0.out | (with_reducible refine Kd.C_alloc ?_ _) | (with_reducible refine Kd.C_drewN ?_ _) | (with_reducible refine Kd.C_drew ?_))); rintro e w3 ⟨rfl, ⟨nd, rfl⟩⟩)
                  all_goals go_ret
                  all_goals exact ⟨rfl, by repeat (first | (with_reducible first | exact HB.out | apply below_alloc | apply pw_below_drewN | apply below_drew1) | exact HB.out)⟩
        · rw [if_neg g3] at h
          have b3 : (a0_0 == 3) = false := by rw [beq_eq_false_iff_ne]; exact g3
          unfold order_syllable_key.tail at h
          by_cases g1 : a1 < a0_6
          · rw [if_pos g1] at h
            obtain rfl : 2 = r := by simpa using h
            have b6 := decide_eq_true g1
            clear h
            go_enter Try.func59, Try.ntmps59
            go_wp2
            all_goals go_ret
            all_goals exact ⟨rfl, by repeat (first | (with_reducible first | exact HB.out | apply below_alloc | apply pw_below_drewN | apply below_drew1) | exact HB.out)⟩
          · rw [if_neg g1] at h
            have b6 := decide_eq_false g1
            by_cases g2 : a1 < a0_7
            · rw [if_pos g2] at h
              obtain rfl : 3 = r := by simpa using h
              have b7 := decide_eq_true g2
              clear h
              go_enter Try.func59, Try.ntmps59
              go_wp2
              all_goals go_ret
              all_goals exact ⟨rfl, by repeat (first | (with_reducible first | exact HB.out | apply below_alloc | apply pw_below_drewN | apply below_drew1) | exact HB.out)⟩
            · rw [if_neg g2] at h
              obtain rfl : 5 = r := by simpa using h
              have b7 := decide_eq_false g2
              clear h
              go_enter Try.func59, Try.ntmps59
              go_wp2
              all_goals go_ret
              all_goals exact ⟨rfl, by repeat (first | (with_reducible first | exact HB.out | apply below_alloc | apply pw_below_drewN | apply below_drew1) | exact HB.out)⟩
      by_cases c7 : c = 7
      · subst c7
        rw [if_pos (Or.inr rfl)] at h
        by_cases g3 : a0_0 = 3
        · rw [if_pos g3] at h
          subst g3
          cases hs : order_subjoined.f l0_4 a1 a0_6 with
          | none => rw [hs] at h; cases h
          | some t =>
            rw [hs] at h
            replace hs := Aside0.mk hs
            simp only [Option.bind_some] at h
            cases t with
            | true =>
              obtain rfl : 2 = r := by simpa using h
              clear h
              go_enter Try.func59, Try.ntmps59
              go_wp2_with (go_at_call 86; refine (order_subjoined.calls _ _ _ _ _ _ _ ?c1 HC0.out hs.out).mono ?_; (case c1 => repeat (first | exact HR0.out | (with_reducible refine Kd.C_alloc ?_ _) | (with_reducible refine Kd.C_drewN ?_ _) | (with_reducible refine Kd.C_drew ?_))); rintro e w3 ⟨rfl, ⟨nd, rfl⟩⟩)
              all_goals go_ret
              all_goals exact ⟨rfl, by repeat (first | (with_reducible first | exact HB.out | apply below_alloc | apply pw_below_drewN | apply below_drew1) | exact HB.out)⟩
            | false =>
              rw [if_neg (by decide)] at h
              unfold order_syllable_key.tail at h
              by_cases g1 : a1 < a0_6
              · rw [if_pos g1] at h
                obtain rfl : 2 = r := by simpa using h
                have b6 := decide_eq_true g1
                clear h
                go_enter Try.func59, Try.ntmps59
                go_wp2_with (go_at_call 86; refine (order_subjoined.calls _ _ _ _ _ _ _ ?c1 HC0.out hs.out).mono ?_; (case c1 => repeat (first | exact HR0.out | (with_reducible refine Kd.C_alloc ?_ _) | (with_reducible refine Kd.C_drewN ?_ _) | (with_reducible refine Kd.C_drew ?_))); rintro e w3 ⟨rfl, ⟨nd, rfl⟩⟩)
                all_goals go_ret
                all_goals exact ⟨rfl, by repeat (first | (with_reducible first | exact HB.out | apply below_alloc | apply pw_below_drewN | apply below_drew1) | exact HB.out)⟩
              · rw [if_neg g1] at h
                have b6 := decide_eq_false g1
                by_cases g2 : a1 < a0_7
                · rw [if_pos g2] at h
                  obtain rfl : 3 = r := by simpa using h
                  have b7 := decide_eq_true g2
                  clear h
                  go_enter Try.func59, Try.ntmps59
                  go_wp2_with (go_at_call 86; refine (order_subjoined.calls _ _ _ _ _ _ _ ?c1 HC0.out hs.out).mono ?_; (case c1 => repeat (first | exact HR0.out | (with_reducible refine Kd.C_alloc ?_ _) | (with_reducible refine Kd.C_drewN ?_ _) | (with_reducible refine Kd.C_drew ?_))); rintro e w3 ⟨rfl, ⟨nd, rfl⟩⟩)
                  all_goals go_ret
                  all_goals exact ⟨rfl, by repeat (first | (with_reducible first | exact HB.out | apply below_alloc | apply pw_below_drewN | apply below_drew1) | exact HB.out)⟩
                · rw [if_neg g2] at h
                  obtain rfl : 5 = r := by simpa using h
                  have b7 := decide_eq_false g2
                  clear h
                  go_enter Try.func59, Try.ntmps59
                  go_wp2_with (go_at_call 86; refine (order_subjoined.calls _ _ _ _ _ _ _ ?c1 HC0.out hs.out).mono ?_; (case c1 => repeat (first | exact HR0.out | (with_reducible refine Kd.C_alloc ?_ _) | (with_reducible refine Kd.C_drewN ?_ _) | (with_reducible refine Kd.C_drew ?_))); rintro e w3 ⟨rfl, ⟨nd, rfl⟩⟩)
                  all_goals go_ret
                  all_goals exact ⟨rfl, by repeat (first | (with_reducible first | exact HB.out | apply below_alloc | apply pw_below_drewN | apply below_drew1) | exact HB.out)⟩
        · rw [if_neg g3] at h
          have b3 : (a0_0 == 3) = false := by rw [beq_eq_false_iff_ne]; exact g3
          unfold order_syllable_key.tail at h
          by_cases g1 : a1 < a0_6
          · rw [if_pos g1] at h
            obtain rfl : 2 = r := by simpa using h
            have b6 := decide_eq_true g1
            clear h
            go_enter Try.func59, Try.ntmps59
            go_wp2
            all_goals go_ret
            all_goals exact ⟨rfl, by repeat (first | (with_reducible first | exact HB.out | apply below_alloc | apply pw_below_drewN | apply below_drew1) | exact HB.out)⟩
          · rw [if_neg g1] at h
            have b6 := decide_eq_false g1
            by_cases g2 : a1 < a0_7
            · rw [if_pos g2] at h
              obtain rfl : 3 = r := by simpa using h
              have b7 := decide_eq_true g2
              clear h
              go_enter Try.func59, Try.ntmps59
              go_wp2
              all_goals go_ret
              all_goals exact ⟨rfl, by repeat (first | (with_reducible first | exact HB.out | apply below_alloc | apply pw_below_drewN | apply below_drew1) | exact HB.out)⟩
            · rw [if_neg g2] at h
              obtain rfl : 5 = r := by simpa using h
              have b7 := decide_eq_false g2
              clear h
              go_enter Try.func59, Try.ntmps59
              go_wp2
              all_goals go_ret
              all_goals exact ⟨rfl, by repeat (first | (with_reducible first | exact HB.out | apply below_alloc | apply pw_below_drewN | apply below_drew1) | exact HB.out)⟩
      rw [if_neg (by omega)] at h
      have k5 : (c == 5) = false := by rw [beq_eq_false_iff_ne]; exact c5
      have k6 : (c == 6) = false := by rw [beq_eq_false_iff_ne]; exact c6
      have k13 : (c == 13) = false := by rw [beq_eq_false_iff_ne]; exact c13
      have k12 : (c == 12) = false := by rw [beq_eq_false_iff_ne]; exact c12
      have k15 : (c == 15) = false := by rw [beq_eq_false_iff_ne]; exact c15
      have k11 : (c == 11) = false := by rw [beq_eq_false_iff_ne]; exact c11
      have k7 : (c == 7) = false := by rw [beq_eq_false_iff_ne]; exact c7
      clear c5 c6 c13 c12 c15 c11 c7
      unfold order_syllable_key.tail at h
      by_cases g1 : a1 < a0_6
      · rw [if_pos g1] at h
        obtain rfl : 2 = r := by simpa using h
        have b6 := decide_eq_true g1
        clear h
        go_enter Try.func59, Try.ntmps59
        go_wp2
        all_goals go_ret
        all_goals exact ⟨rfl, by repeat (first | (with_reducible first | exact HB.out | apply below_alloc | apply pw_below_drewN | apply below_drew1) | exact HB.out)⟩
      · rw [if_neg g1] at h
        have b6 := decide_eq_false g1
        by_cases g2 : a1 < a0_7
        · rw [if_pos g2] at h
          obtain rfl : 3 = r := by simpa using h
          have b7 := decide_eq_true g2
          clear h
          go_enter Try.func59, Try.ntmps59
          go_wp2
          all_goals go_ret
          all_goals exact ⟨rfl, by repeat (first | (with_reducible first | exact HB.out | apply below_alloc | apply pw_below_drewN | apply below_drew1) | exact HB.out)⟩
        · rw [if_neg g2] at h
          obtain rfl : 5 = r := by simpa using h
          have b7 := decide_eq_false g2
          clear h
          go_enter Try.func59, Try.ntmps59
          go_wp2
          all_goals go_ret
          all_goals exact ⟨rfl, by repeat (first | (with_reducible first | exact HB.out | apply below_alloc | apply pw_below_drewN | apply below_drew1) | exact HB.out)⟩
    · rw [if_neg hin] at h
      cases h

end Go.Proofs.Ytlpikbkdlnocdaa.K
