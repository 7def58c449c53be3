-- PRINTED BY mprint.py (a program of this session, over the kit's printer): Lean checks it
import Derived.Test.YtahmicipakmbmaaZ0
import Derived.Test.YtahmicipakmbmaaZ2
namespace Go.Proofs.Ytahmicipakmbmaa.Z
open Go.RowKit Go.Proofs.YtahmicipakmbmaaW.PrintWords Go.Proofs.YtahmicipakmbmaaW.PrintLast Go.Proofs.YtahmicipakmbmaaW.PrintMore
attribute [local go_sem] max2_int min2_int max_two min_two max_three min_three max_four min_four   -- for this text's walks alone
set_option linter.unusedVariables false
set_option linter.unusedSimpArgs false


-- STUB
/-! ### span_Find: function 34 -/
theorem find_rd (l : List S45) (j : Nat) (h : j < l.length) : rd_T45 l (j : Int) = l[j] := by
  unfold rd_T45
  rw [Int.toNat_natCast, List.getD_eq_getElem?_getD, List.getElem?_eq_getElem h]; rfl
/-- Whether ranges may be, from one on, behind a code. -/
def span_Right.go (m : Int) : Int → List S45 → Bool
  | _, [] => true
  | a, x :: xs => if x.f0 ≤ a then false else if x.f1 < x.f0 then false else if x.f1 > 1114111 then false else if x.f2 < 0 then false else if x.f2 > m then false else span_Right.go m x.f1 xs
def span_Right.v (l : List S45) (m : Int) : Bool := if (l.length : Int) > 5000 then false else span_Right.go m (-1) l
theorem span_Right.l0_v (l : List S45) (m : Int) (hl : l.length ≤ 5000) : ∀ (d j k : Nat) (a : Int), j + d = l.length → d < k → span_Right.l0 k m a l (l.length : Int) (j : Int) = some (span_Right.go m a (l.drop j)) := by
  intro d
  induction d with
  | zero =>
    intro j k a hj hk
    obtain ⟨k, rfl⟩ : ∃ q, k = q + 1 := ⟨k - 1, by omega⟩
    simp only [span_Right.l0]
    rw [if_neg (by omega), List.drop_of_length_le (by omega)]
    rfl
  | succ d ih =>
    intro j k a hj hk
    obtain ⟨k, rfl⟩ : ∃ q, k = q + 1 := ⟨k - 1, by omega⟩
    simp only [span_Right.l0]
    rw [if_pos (by omega), if_pos (by omega), if_pos (by omega), find_rd l j (by omega), List.drop_eq_getElem_cons (show j < l.length by omega)]
    have hw : wrap64 ((j : Int) + 1) = ((j + 1 : Nat) : Int) := by unfold wrap64; omega
    rw [hw, ih (j + 1) k _ (by omega) (by omega)]
    simp only [span_Right.go]
    repeat' split
    all_goals first | rfl | omega
theorem span_Right.f_v (l : List S45) (m : Int) (k : Nat) (hk : l.length < k) : span_Right.f k l m = some (span_Right.v l m) := by
  unfold span_Right.f span_Right.v
  by_cases h : (l.length : Int) > 5000
  · rw [if_pos h, if_pos h]
  · rw [if_neg h, if_neg h]
    have := span_Right.l0_v l m (by omega) l.length 0 k (-1) (by omega) hk
    simpa using this
/-- The halving: the least place from i on below j at which a range ends at c or behind it. -/
def span_Find.s (l : List S45) (c : Int) : Nat → Nat → Nat → Nat
  | 0, i, _ => i
  | k + 1, i, j => if i < j then (if c ≤ (l.getD ((i + j) / 2) z45).f1 then span_Find.s l c k i ((i + j) / 2) else span_Find.s l c k ((i + j) / 2 + 1) j) else i
/-- span.Find, without rounds. -/
def span_Find.f (l0 : List S45) (a1 : Int) : Option (Int × Bool) :=
  if span_Right.v l0 9223372036854775807 = true then
    if span_Find.s l0 a1 l0.length 0 l0.length = l0.length then some (0, false)
    else if a1 < (l0.getD (span_Find.s l0 a1 l0.length 0 l0.length) z45).f0 then some (0, false)
    else some ((l0.getD (span_Find.s l0 a1 l0.length 0 l0.length) z45).f2, true)
  else some (0, false)
theorem span_Find.s_le (l : List S45) (c : Int) : ∀ (k i j : Nat), i ≤ j → i ≤ span_Find.s l c k i j ∧ span_Find.s l c k i j ≤ j := by
  intro k
  induction k with
  | zero => intro i j h; exact ⟨Nat.le_refl _, h⟩
  | succ k ih =>
    intro i j h
    simp only [span_Find.s]
    split
    · split
      · have := ih i ((i + j) / 2) (by omega); omega
      · have := ih ((i + j) / 2 + 1) j (by omega); omega
    · omega
set_option maxHeartbeats 800000 in
set_option maxRecDepth 100000 in
theorem span_Find.closure (A0 : Option Addr) (c0 : Nat) (l0 : List S45) (c i : Int) (p1 p2 : Addr) (w : World) (hp1 : w.cell? p1 = some (.slice A0 l0.length c0)) (hp2 : w.cell? p2 = some (.int .i32 c))
    (hr0 : Kd.C k45 w A0 l0.length l0) (h0 : 0 ≤ i) (h1 : i < (l0.length : Int)) :
    Calls Try.prog 46 #[.int .i64 i, .pointer (some p1), .pointer (some p2)] w fun e w' => e = .returned (.bool (decide (c ≤ (rd_T45 l0 i).f1))) ∧ Drawn0 w w' := by
  obtain ⟨ad, rfl, hx0, hx1, hx2⟩ := at_T45 hr0 i h0 h1
  generalize (rd_T45 l0 i).f1 = y at hx1 ⊢
  clear hx0 hx2 hr0
  replace h0 := eq_true h0
  replace h1 := eq_true h1
  go_enter Try.func46, Try.ntmps46
  go_wp2
  go_quiet (fail)
  go_wp2
  go_ret
  exact ⟨rfl, by repeat (first | exact Drawn0.refl _ | apply Drawn0.step)⟩
set_option maxHeartbeats 800000 in
set_option maxRecDepth 100000 in
theorem span_Find.search (A0 : Option Addr) (c0 : Nat) (l0 : List S45) (c : Int) (p1 p2 : Addr) (w : World) (hp1 : w.cell? p1 = some (.slice A0 l0.length c0)) (hp2 : w.cell? p2 = some (.int .i32 c))
    (hr0 : Kd.C k45 w A0 l0.length l0) (hl : l0.length ≤ 5000) :
    Calls Try.prog 45 #[.int .i64 (l0.length : Int), .func (.func 46) #[] #[.pointer (some p1), .pointer (some p2)]] w fun e w' =>
      e = .returned (.int .i64 ((span_Find.s l0 c l0.length 0 l0.length : Nat) : Int)) ∧ Drawn0 w w' := by
  have HR0 := Aside0.mk hr0
  have HP1 := Aside0.mk hp1
  have HP2 := Aside0.mk hp2
  clear hr0 hp1 hp2
  obtain ⟨R, hR⟩ : ∃ R, span_Find.s l0 c l0.length 0 l0.length = R := ⟨_, rfl⟩
  rw [hR]
  have HR := Aside0.mk hR
  clear hR
  go_enter Try.func45, Try.ntmps45
  go_wp2
  go_loopg [5, 6] l0.length (fun kq v5 v6 w' => ∃ (i j : Nat), v5 = .int .i64 (i : Int) ∧ v6 = .int .i64 (j : Int) ∧ i ≤ j ∧ j ≤ l0.length ∧ j - i ≤ kq ∧ Aside0 (span_Find.s l0 c kq i j = R) ∧ Drawn0 w w')
  case atStart => exact ⟨0, l0.length, rfl, rfl, by omega, by omega, by omega, HR, Drawn0.refl _⟩
  case round =>
    obtain ⟨i, j, rfl, rfl, hij, hjn, hk, HS, ⟨m1, rfl⟩⟩ := hrel
    by_cases hlt : i < j
    · cases gk with
      | zero => exact absurd hk (by omega)
      | succ k1 =>
        have hs := HS.out
        simp only [span_Find.s, if_pos hlt] at hs
        have hc := fun (W : World) h1 h2 h3 => span_Find.closure A0 c0 l0 c (((i + j) / 2 : Nat) : Int) p1 p2 W h1 h2 h3 (by omega) (by omega)
        rw [show rd_T45 l0 (((i + j) / 2 : Nat) : Int) = l0.getD ((i + j) / 2) z45 from by unfold rd_T45; rw [Int.toNat_natCast]] at hc
        rw [show (((i + j) / 2 : Nat) : Int) = ((i : Int) + (j : Int)) / 2 by omega] at hc
        by_cases hy : c ≤ (l0.getD ((i + j) / 2) z45).f1
        · rw [if_pos hy] at hs
          rw [decide_eq_true hy] at hc
          replace hc := Aside0.mk hc
          replace hs := Aside0.mk hs
          clear hy HS
          go_wp2_with (go_at_call 46; refine (hc.out (w.drewN m1) HP1.out HP2.out (Kd.C_drewN HR0.out m1)).mono ?_; rintro e w' ⟨rfl, ⟨nd, rfl⟩⟩)
          go_roundg k1
          case measure => omega
          case rel => exact ⟨i, (i + j) / 2, rfl, by rw [show (((i + j) / 2 : Nat) : Int) = ((i : Int) + (j : Int)) / 2 by omega], by omega, by omega, by omega, hs, by repeat (first | exact Drawn0.refl _ | apply Drawn0.step)⟩
        · rw [if_neg hy] at hs
          rw [decide_eq_false hy] at hc
          replace hc := Aside0.mk hc
          replace hs := Aside0.mk hs
          clear hy HS
          go_wp2_with (go_at_call 46; refine (hc.out (w.drewN m1) HP1.out HP2.out (Kd.C_drewN HR0.out m1)).mono ?_; rintro e w' ⟨rfl, ⟨nd, rfl⟩⟩)
          go_roundg k1
          case measure => omega
          case rel => exact ⟨(i + j) / 2 + 1, j, by rw [show ((((i + j) / 2 + 1 : Nat)) : Int) = ((i : Int) + (j : Int)) / 2 + 1 by omega], rfl, by omega, by omega, by omega, hs, by repeat (first | exact Drawn0.refl _ | apply Drawn0.step)⟩
    · obtain rfl : i = j := by omega
      have hs := HS.out
      have he : span_Find.s l0 c gk i i = i := by
        cases gk with
        | zero => rfl
        | succ k1 => simp only [span_Find.s]; rw [if_neg (by omega)]
      rw [he] at hs
      subst hs
      go_wp2
      go_ret
      exact ⟨rfl, by repeat (first | exact Drawn0.refl _ | apply Drawn0.step)⟩
theorem span_Right.short {l : List S45} {m : Int} (h : span_Right.v l m = true) : l.length ≤ 5000 := by
  unfold span_Right.v at h
  by_cases h1 : (l.length : Int) > 5000
  · rw [if_pos h1] at h; cases h
  · omega
theorem find_box0 (w : World) (x y : Value) : ((w.alloc (.cells #[x] 40)).alloc (.cells #[y] 21)).cell? ⟨w.heap.size, 0, none⟩ = some x := by
  unfold World.cell? World.alloc
  simp [Array.getElem?_push]
theorem find_box1 (w : World) (x y : Value) : ((w.alloc (.cells #[x] 40)).alloc (.cells #[y] 21)).cell? ⟨w.heap.size + 1, 0, none⟩ = some y := by
  rw [show w.heap.size + 1 = (w.alloc (.cells #[x] 40)).heap.size from by simp, World.cell?_alloc_at _ _ _ _ (by simp)]
  rfl
set_option maxHeartbeats 800000 in
set_option maxRecDepth 100000 in
theorem span_Find.calls (A0 : Option Addr) (c0 : Nat) (l0 : List S45) (a1 : Int) (r1 : Int) (r2 : Bool) (w : World) (hr0 : Kd.C k45 w A0 l0.length l0) (hc0 : l0.length ≤ c0) (h : span_Find.f l0 a1 = some (r1, r2)) :
    Calls Try.prog 34 #[.slice A0 l0.length c0, .int .i32 a1] w fun e w' => e = .returned (.tuple #[.int .i64 r1, .bool r2]) ∧ Below w.heap.size w w' := by
  have HR0 := Aside0.mk hr0
  have HC0 := Aside0.mk hc0
  have HB := Aside0.mk (Below.refl w.heap.size w)
  clear hr0 hc0
  unfold span_Find.f at h
  obtain ⟨v, hv⟩ : ∃ v, span_Right.v l0 9223372036854775807 = v := ⟨_, rfl⟩
  have HV := Aside0.mk (span_Right.f_v l0 9223372036854775807 (l0.length + 1) (by omega))
  rw [hv] at h HV
  have hcr := fun (W : World) h1 h2 => span_Right.calls (l0.length + 1) A0 c0 l0 9223372036854775807 v W h1 h2 HV.out
  replace hcr := Aside0.mk hcr
  cases v with
  | false =>
    rw [if_neg (by decide)] at h
    simp only [Option.some.injEq, Prod.mk.injEq] at h
    obtain ⟨rfl, rfl⟩ := h
    clear hv
    go_enter Try.func34, Try.ntmps34
    go_wp2_with (go_at_call 32; refine (hcr.out _ ?c1 HC0.out).mono ?_; (case c1 => repeat (first | exact HR0.out | (with_reducible refine Kd.C_alloc ?_ _) | (with_reducible refine Kd.C_drewN ?_ _) | (with_reducible refine Kd.C_drew ?_))); rintro e w3 ⟨rfl, hb_⟩; have n0_ := Aside0.mk (below_step (by repeat (first | (with_reducible first | exact HB.out | apply below_alloc | apply pw_below_drewN | apply below_drew1) | exact HB.out)) hb_); have hk2 := pw_cell_below hb_ (find_box0 w _ _); have hk3 := pw_cell_below hb_ (find_box1 w _ _); clear HB hb_; have HB := n0_; clear n0_)
    go_ret2
    exact ⟨rfl, by repeat (first | (with_reducible first | exact HB.out | apply below_alloc | apply pw_below_drewN | apply below_drew1) | exact HB.out)⟩
  | true =>
    rw [if_pos rfl] at h
    have hl := span_Right.short hv
    have hsl := span_Find.s_le l0 a1 l0.length 0 l0.length (by omega)
    have hse := fun (W : World) p1 p2 h1 h2 h3 => span_Find.search A0 c0 l0 a1 p1 p2 W h1 h2 h3 hl
    generalize span_Find.s l0 a1 l0.length 0 l0.length = i at h hsl hse
    replace hse := Aside0.mk hse
    clear hv
    by_cases hi : i = l0.length
    · rw [if_pos hi] at h
      simp only [Option.some.injEq, Prod.mk.injEq] at h
      obtain ⟨rfl, rfl⟩ := h
      have hb : ((i : Int) == (l0.length : Int)) = true := beq_iff_eq.mpr (by omega)
      have hb2 : (i == l0.length) = true := beq_iff_eq.mpr hi
      clear hi
      go_enter Try.func34, Try.ntmps34
      go_wp2_with (first
        | (go_at_call 32; refine (hcr.out _ ?c1 HC0.out).mono ?_; (case c1 => repeat (first | exact HR0.out | (with_reducible refine Kd.C_alloc ?_ _) | (with_reducible refine Kd.C_drewN ?_ _) | (with_reducible refine Kd.C_drew ?_))); rintro e w3 ⟨rfl, hb_⟩; have n0_ := Aside0.mk (below_step (by repeat (first | (with_reducible first | exact HB.out | apply below_alloc | apply pw_below_drewN | apply below_drew1) | exact HB.out)) hb_); have hk2 := pw_cell_below hb_ (find_box0 w _ _); have hk3 := pw_cell_below hb_ (find_box1 w _ _); clear HB hb_; have HB := n0_; clear n0_)
        | (go_at_call 45; refine (hse.out _ _ _ ?d1 ?d2 ?d3).mono ?_; (case d1 => exact hk2); (case d2 => exact hk3); (case d3 => exact Kd.C_below HR0.out HB.out); rintro e w' ⟨rfl, ⟨nd2, rfl⟩⟩))
      go_quiet (fail)
      go_wp2
      go_ret2
      exact ⟨rfl, by repeat (first | (with_reducible first | exact HB.out | apply below_alloc | apply pw_below_drewN | apply below_drew1) | exact HB.out)⟩
    · rw [if_neg hi] at h
      obtain ⟨ad, had, hx0, hx1, hx2⟩ := at_T45 HR0.out (i : Int) (by omega) (by omega)
      subst had
      rw [show rd_T45 l0 (i : Int) = l0.getD i z45 from by unfold rd_T45; rw [Int.toNat_natCast]] at hx0 hx1 hx2
      rw [Int.toNat_natCast] at hx0 hx1 hx2
      have hb : ((i : Int) == (l0.length : Int)) = false := beq_eq_false_iff_ne.mpr (by omega)
      have hb2 : (i == l0.length) = false := beq_eq_false_iff_ne.mpr hi
      have hi0 : (0 : Int) ≤ (i : Int) := by omega
      have hi1 : ((i : Int) < (l0.length : Int)) := by omega
      have hi2 : i < l0.length := by omega
      generalize l0.getD i z45 = x at h hx0 hx1 hx2
      have HX0 := Aside0.mk hx0
      have HX2 := Aside0.mk hx2
      clear hi hx0 hx1 hx2
      by_cases hc : a1 < x.f0
      · rw [if_pos hc] at h
        simp only [Option.some.injEq, Prod.mk.injEq] at h
        obtain ⟨rfl, rfl⟩ := h
        have hd : decide (a1 < x.f0) = true := decide_eq_true hc
        clear hc
        go_enter Try.func34, Try.ntmps34
        go_wp2_with (first
          | (go_at_call 32; refine (hcr.out _ ?c1 HC0.out).mono ?_; (case c1 => repeat (first | exact HR0.out | (with_reducible refine Kd.C_alloc ?_ _) | (with_reducible refine Kd.C_drewN ?_ _) | (with_reducible refine Kd.C_drew ?_))); rintro e w3 ⟨rfl, hb_⟩; have n0_ := Aside0.mk (below_step (by repeat (first | (with_reducible first | exact HB.out | apply below_alloc | apply pw_below_drewN | apply below_drew1) | exact HB.out)) hb_); have hk2 := pw_cell_below hb_ (find_box0 w _ _); have hk3 := pw_cell_below hb_ (find_box1 w _ _); clear HB hb_; have HB := n0_; clear n0_; have hx0 := pw_cell_below HB.out HX0.out; have hx2 := pw_cell_below HB.out HX2.out)
          | (go_at_call 45; refine (hse.out _ _ _ ?d1 ?d2 ?d3).mono ?_; (case d1 => exact hk2); (case d2 => exact hk3); (case d3 => exact Kd.C_below HR0.out HB.out); rintro e w' ⟨rfl, ⟨nd2, rfl⟩⟩))
        go_quiet (fail)
        go_wp2
        go_ret2
        exact ⟨rfl, by repeat (first | (with_reducible first | exact HB.out | apply below_alloc | apply pw_below_drewN | apply below_drew1) | exact HB.out)⟩
      · rw [if_neg hc] at h
        simp only [Option.some.injEq, Prod.mk.injEq] at h
        obtain ⟨rfl, rfl⟩ := h
        have hd : decide (a1 < x.f0) = false := decide_eq_false hc
        clear hc
        go_enter Try.func34, Try.ntmps34
        go_wp2_with (first
          | (go_at_call 32; refine (hcr.out _ ?c1 HC0.out).mono ?_; (case c1 => repeat (first | exact HR0.out | (with_reducible refine Kd.C_alloc ?_ _) | (with_reducible refine Kd.C_drewN ?_ _) | (with_reducible refine Kd.C_drew ?_))); rintro e w3 ⟨rfl, hb_⟩; have n0_ := Aside0.mk (below_step (by repeat (first | (with_reducible first | exact HB.out | apply below_alloc | apply pw_below_drewN | apply below_drew1) | exact HB.out)) hb_); have hk2 := pw_cell_below hb_ (find_box0 w _ _); have hk3 := pw_cell_below hb_ (find_box1 w _ _); clear HB hb_; have HB := n0_; clear n0_; have hx0 := pw_cell_below HB.out HX0.out; have hx2 := pw_cell_below HB.out HX2.out)
          | (go_at_call 45; refine (hse.out _ _ _ ?d1 ?d2 ?d3).mono ?_; (case d1 => exact hk2); (case d2 => exact hk3); (case d3 => exact Kd.C_below HR0.out HB.out); rintro e w' ⟨rfl, ⟨nd2, rfl⟩⟩))
        go_quiet (fail)
        go_wp2
        go_ret2
        exact ⟨rfl, by repeat (first | (with_reducible first | exact HB.out | apply below_alloc | apply pw_below_drewN | apply below_drew1) | exact HB.out)⟩

end Go.Proofs.Ytahmicipakmbmaa.Z
