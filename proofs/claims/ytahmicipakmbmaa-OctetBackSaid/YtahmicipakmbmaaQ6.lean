-- PRINTED BY mprint.py (a program of this session, over the kit's printer): Lean checks it
import Derived.Test.YtahmicipakmbmaaQ0
import Derived.Test.YtahmicipakmbmaaQ1
namespace Go.Proofs.Ytahmicipakmbmaa.Q
open Go.RowKit Go.Proofs.YtahmicipakmbmaaW.PrintWords Go.Proofs.YtahmicipakmbmaaW.PrintLast Go.Proofs.YtahmicipakmbmaaW.PrintMore
attribute [local go_sem] max2_int min2_int max_two min_two max_three min_three max_four min_four   -- for this text's walks alone
set_option linter.unusedVariables false
set_option linter.unusedSimpArgs false


-- STUB
/-! ### octet_Row: function 28 -/
theorem row_info3 : (Try.prog.info? 3).map (fun i => (i.zero, i.size, i.bytes)) = some (some (.int .i64 0), 1, 8) := by kernel_rfl
theorem row_info5 : (Try.prog.info? 5).map (fun i => (i.zero, i.size, i.bytes)) = some (some (.int .u8 0), 1, 1) := by kernel_rfl
/-- The number of bytes, as the code reckons it. -/
def octet_number.v (xs : List Int) : Int := xs.foldl (fun n c => Go.bits .or .i64 (wrap64 (n * 256)) (wrap64 c)) 0
theorem octet_number.l0_v (xs : List Int) (hx : xs.length ≤ 9223372036854775807) : ∀ (d j k : Nat) (n : Int), j + d = xs.length → d < k →
    octet_number.l0 k n xs (xs.length : Int) (j : Int) = some ((xs.drop j).foldl (fun n c => Go.bits .or .i64 (wrap64 (n * 256)) (wrap64 c)) n) := by
  intro d
  induction d with
  | zero =>
    intro j k n hj hk
    obtain ⟨k, rfl⟩ : ∃ m, k = m + 1 := ⟨k - 1, by omega⟩
    simp only [octet_number.l0]
    rw [if_neg (by omega), List.drop_of_length_le (by omega)]
    rfl
  | succ d ih =>
    intro j k n hj hk
    obtain ⟨k, rfl⟩ : ∃ m, k = m + 1 := ⟨k - 1, by omega⟩
    simp only [octet_number.l0]
    rw [if_pos (by omega), if_pos (by omega), if_pos (by omega)]
    have hw : wrap64 ((j : Int) + 1) = ((j + 1 : Nat) : Int) := by unfold wrap64; omega
    rw [hw, ih (j + 1) k _ (by omega) (by omega), List.drop_eq_getElem_cons (show j < xs.length by omega)]
    simp only [List.foldl_cons]
    have hr : rd xs (j : Int) = xs[j]'(by omega) := by
      unfold rd; rw [Int.toNat_natCast, List.getD_eq_getElem?_getD, List.getElem?_eq_getElem (by omega)]; rfl
    rw [hr]
theorem octet_number.f_v (xs : List Int) (hx : xs.length ≤ 9223372036854775807) (k : Nat) (hk : xs.length < k) : octet_number.f k xs = some (octet_number.v xs) := by
  unfold octet_number.f
  have := octet_number.l0_v xs hx xs.length 0 k 0 (by omega) hk
  simpa [octet_number.v] using this
/-- The bytes of the i-th number of a row. -/
def octet_Row.lo (a1 a3 i : Int) : Int := wrap64 (a1 + wrap64 (i * a3))
def octet_Row.hi (a1 a3 i : Int) : Int := wrap64 (a1 + wrap64 (wrap64 (i + 1) * a3))
def octet_Row.piece (l0 : List Int) (a1 a3 i : Int) : List Int := (l0.take (octet_Row.hi a1 a3 i).toNat).drop (octet_Row.lo a1 a3 i).toNat
set_option maxHeartbeats 8000000 in
set_option maxRecDepth 100000 in
theorem octet_Row.closure (A0 : Option Addr) (c0 : Nat) (l0 : List Int) (a1 a3 i : Int) (p1 p2 p3 : Addr) (w : World) (hp1 : w.cell? p1 = some (.slice A0 l0.length c0)) (hp2 : w.cell? p2 = some (.int .i64 a1)) (hp3 : w.cell? p3 = some (.int .i64 a3))
    (hr0 : Kd.C (Kd.int .u8) w A0 l0.length l0) (hc0 : l0.length ≤ c0) (h0 : 0 ≤ octet_Row.lo a1 a3 i) (h1 : octet_Row.lo a1 a3 i ≤ octet_Row.hi a1 a3 i) (h2 : octet_Row.hi a1 a3 i ≤ (l0.length : Int)) :
    Calls Try.prog 43 #[.int .i64 i, .pointer (some p1), .pointer (some p2), .pointer (some p3)] w fun e w' => e = .returned (.int .i64 (octet_number.v (octet_Row.piece l0 a1 a3 i))) ∧ Drawn0 w w' := by
  have HR0 := Aside0.mk hr0
  have HC0 := Aside0.mk hc0
  have hmax : l0.length ≤ 9223372036854775807 := Kd.C_max hr0
  obtain ⟨lo, hlo⟩ : ∃ x, octet_Row.lo a1 a3 i = x := ⟨_, rfl⟩
  obtain ⟨hi, hhi⟩ : ∃ x, octet_Row.hi a1 a3 i = x := ⟨_, rfl⟩
  rw [hlo] at h0 h1
  rw [hhi] at h1 h2
  obtain ⟨pc, hpc⟩ : ∃ x, octet_Row.piece l0 a1 a3 i = x := ⟨_, rfl⟩
  have hpc' : (l0.take hi.toNat).drop lo.toNat = pc := by rw [← hpc, ← hlo, ← hhi]; rfl
  have hpl : pc.length ≤ 9223372036854775807 := by rw [← hpc']; simp only [List.length_drop, List.length_take]; omega
  have hN := Aside0.mk (octet_number.f_v pc hpl (pc.length + 1) (by omega))
  rw [hpc]
  clear hpc
  unfold octet_Row.lo at hlo
  unfold octet_Row.hi at hhi
  obtain ⟨i08, hi08, _, hsz8, _⟩ := info_parts row_info5
  obtain ⟨A8, hcut8, hA8, hC8⟩ := print_mid_of (P := Try.prog) (Value.int .u8) 0 26 5 .i64 .i64 Try.underlying26 hi08 hsz8 A0 c0 l0 lo hi h0 h1 h2 hc0
  have HR108 := Aside0.mk (Kd.C_of_reads (h1 := fun _ => rfl) (hA8 _ (Kd.reads_of_C HR0.out)))
  have HC108 := Aside0.mk hC8
  rw [hpc'] at HR108 HC108 hcut8
  have HPC := Aside0.mk hpc'
  clear hA8 hC8 hi08 hsz8 hr0 hc0 h0 h1 h2 hmax hpl hpc'
  go_enter Try.func43, Try.ntmps43
  go_wp2_with (go_at_call 44; (with_reducible refine (octet_number.calls (pc.length + 1) A8 _ pc (octet_number.v pc) _ ?c1 ?c2 hN.out).mono ?_); (case c1 => exact HR108.out); (case c2 => exact HC108.out); rintro e w' ⟨rfl, ⟨nd, rfl⟩⟩)
  go_ret
  exact ⟨rfl, by repeat (first | exact Drawn0.refl _ | apply Drawn0.step)⟩
/-- The first i numbers of a row. -/
def octet_Row.nums (l0 : List Int) (a1 a3 : Int) (i : Nat) : List Int := (List.range i).map fun (j : Nat) => octet_number.v (octet_Row.piece l0 a1 a3 (j : Int))
theorem octet_Row.nums_succ (l0 : List Int) (a1 a3 : Int) (i : Nat) : octet_Row.nums l0 a1 a3 (i + 1) = octet_Row.nums l0 a1 a3 i ++ [octet_number.v (octet_Row.piece l0 a1 a3 (i : Int))] := by
  simp [octet_Row.nums, List.range_succ]
set_option maxHeartbeats 8000000 in
set_option maxRecDepth 100000 in
theorem octet_Row.many (n : Nat) (a2 : Int) (ha2 : a2 = (n : Int)) (A0 : Option Addr) (c0 : Nat) (l0 : List Int) (a1 a3 : Int) (p1 p2 p3 : Addr) (w : World) (hp1 : w.cell? p1 = some (.slice A0 l0.length c0)) (hp2 : w.cell? p2 = some (.int .i64 a1)) (hp3 : w.cell? p3 = some (.int .i64 a3))
    (hr0 : Kd.C (Kd.int .u8) w A0 l0.length l0) (hc0 : l0.length ≤ c0) (hn : n < 17592186044416) (hin : ∀ i : Nat, i < n → 0 ≤ octet_Row.lo a1 a3 i ∧ octet_Row.lo a1 a3 i ≤ octet_Row.hi a1 a3 i ∧ octet_Row.hi a1 a3 i ≤ (l0.length : Int)) :
    Calls Try.prog 42 #[.int .i64 a2, .func (.func 43) #[] #[.pointer (some p1), .pointer (some p2), .pointer (some p3)]] w fun e w' =>
      ∃ v0_ : Value, e = .returned v0_ ∧ Kd.R (Kd.int .i64) 3 w' w.heap.size (fun _ => True) v0_ (octet_Row.nums l0 a1 a3 n) ∧ Below w.heap.size w w' := by
  have HR0 := Aside0.mk hr0
  have HC0 := Aside0.mk hc0
  have HP1 := Aside0.mk hp1
  have HP2 := Aside0.mk hp2
  have HP3 := Aside0.mk hp3
  have HIN := Aside0.mk hin
  clear hr0 hc0 hp1 hp2 hp3 hin
  subst ha2
  go_enter Try.func42, Try.ntmps42
  go_wp2
  go_loopg [5, 8] n (fun kq v5 v8 w' => ∃ i : Nat, v8 = .int .i64 (i : Int) ∧ i + kq = n ∧ Aside0 (Kd.R (Kd.int .i64) 3 w' w.heap.size (fun _ => True) v5 (octet_Row.nums l0 a1 a3 i)) ∧ Aside0 (Below w.heap.size w w'))
  case atStart => exact ⟨0, rfl, by omega, ⟨Kd.R_nil _ _ _ _ _⟩, ⟨Below.refl _ _⟩⟩
  case round =>
    obtain ⟨i, rfl, hi, HO, HB⟩ := hrel
    by_cases hlt : i < n
    · have hI := HIN.out i hlt
      have hlen : (octet_Row.nums l0 a1 a3 i).length = i := by simp [octet_Row.nums]
      have hsucc := Aside0.mk (octet_Row.nums_succ l0 a1 a3 i)
      generalize hz : octet_number.v (octet_Row.piece l0 a1 a3 (i : Int)) = z at hsucc
      have HZ := Aside0.mk hz
      have HL := Aside0.mk hlen
      have HI := Aside0.mk hI
      clear hz hlen hI
      go_wp2_with (first
        | (go_at_call 43; refine (octet_Row.closure A0 c0 l0 a1 a3 (i : Int) p1 p2 p3 _ (pw_cell_below HB.out HP1.out) (pw_cell_below HB.out HP2.out) (pw_cell_below HB.out HP3.out) (Kd.C_below HR0.out HB.out) HC0.out HI.out.1 HI.out.2.1 HI.out.2.2).mono ?_; rw [HZ.out]; rintro e w2 ⟨rfl, ⟨nd, rfl⟩⟩)
        | ((with_reducible refine gate_builtin (b := .append) (xs := #[.tmp 11, .tmp 15]) rfl ?_); at_builtin; refine Kd.R_append (Kd.int .i64) (w0 := w) w.heap.size rfl (.tmp 11) (.tmp 15) 36 3 (.int .i64 0) 8 rfl Try.underlying36 row_info3 rfl (by decide) (by omega) u5 (octet_Row.nums l0 a1 a3 i) z [.int .i64 z] (fun _ => True) (fun _ => False) rfl rfl ?aP (fun _ hk => hk.elim) ?aF ?aO ?aB ?aS ?aL ?_; (case aP => exact rfl); (case aB => exact (by repeat (first | (with_reducible first | exact HB.out | apply below_alloc | apply pw_below_drewN | apply below_drew1) | exact HB.out))); (case aF => exact (fun _ _ => trivial)); (case aO => exact (by (with_reducible repeat (first | apply Kd.R_alloc | apply Kd.R_drewN | apply Kd.R_drew)); exact HO.out)); (case aS => exact (below_size (by repeat (first | (with_reducible first | exact HB.out | apply below_alloc | apply pw_below_drewN | apply below_drew1) | exact HB.out)))); (case aL => have := HL.out; omega); intro v110 w9 ho hb hg hat; have n0_ := Aside0.mk hb; have n1_ := Aside0.mk ho; clear HB; clear HO; have HB := n0_; have HO111 := n1_; clear n0_ n1_; clear ho hb hg hat))
      go_roundg (n - (i + 1))
      case measure => omega
      case rel => exact ⟨i + 1, by go_num, by omega, ⟨by rw [hsucc.out]; exact HO111.out⟩, ⟨HB.out⟩⟩
    · obtain rfl : i = n := by omega
      go_wp2
      go_ret
      exact ⟨_, rfl, HO.out, HB.out⟩
/-- octet.Row, of fewer than 2^42 bytes. -/
def octet_Row.f (l0 : List Int) (a1 a2 a3 : Int) : Option (List Int × Bool) :=
  if a3 = 1 ∨ a3 = 2 ∨ a3 = 4 then
    if a2 < 0 then some ([], false) else if a2 > (l0.length : Int) then some ([], false) else if 4398046511104 ≤ l0.length then none
    else if 0 ≤ a1 ∧ a1 + a2 * a3 ≤ (l0.length : Int) then some (octet_Row.nums l0 a1 a3 a2.toNat, true) else some ([], false)
  else some ([], false)
theorem octet_Within.f_of (l0 : List Int) (a1 m : Int) (hl : l0.length ≤ 4398046511104) (hm : 0 ≤ m) : octet_Within.f l0 a1 m = some (decide (0 ≤ a1 ∧ a1 + m ≤ (l0.length : Int))) := by
  unfold octet_Within.f
  by_cases h1 : a1 ≥ 0
  · rw [if_pos h1, if_pos hm]
    by_cases h2 : m ≤ (l0.length : Int)
    · rw [if_pos h2]
      have : wrap64 ((l0.length : Int) - m) = (l0.length : Int) - m := by unfold wrap64; omega
      rw [this]
      congr 1
      rw [decide_eq_decide]
      omega
    · rw [if_neg h2]
      congr 1
      symm
      rw [decide_eq_false_iff_not]
      omega
  · rw [if_neg h1]
    congr 1
    symm
    rw [decide_eq_false_iff_not]
    omega
theorem octet_Row.in_ (l0 : List Int) (a1 a2 a3 : Int) (h3 : a3 = 1 ∨ a3 = 2 ∨ a3 = 4) (hl : l0.length < 4398046511104) (h2 : a2 ≤ (l0.length : Int)) (h1 : 0 ≤ a1) (h : a1 + a2 * a3 ≤ (l0.length : Int)) (i : Nat) (hi : (i : Int) < a2) :
    0 ≤ octet_Row.lo a1 a3 i ∧ octet_Row.lo a1 a3 i ≤ octet_Row.hi a1 a3 i ∧ octet_Row.hi a1 a3 i ≤ (l0.length : Int) := by
  unfold octet_Row.lo octet_Row.hi wrap64
  rcases h3 with rfl | rfl | rfl <;> omega
set_option maxHeartbeats 8000000 in
set_option maxRecDepth 100000 in
theorem octet_Row.calls (A0 : Option Addr) (c0 : Nat) (l0 : List Int) (a1 a2 a3 : Int) (r1 : List Int) (r2 : Bool) (w : World) (hr0 : Kd.C (Kd.int .u8) w A0 l0.length l0) (hc0 : l0.length ≤ c0) (h : octet_Row.f l0 a1 a2 a3 = some (r1, r2)) :
    Calls Try.prog 28 #[.slice A0 l0.length c0, .int .i64 a1, .int .i64 a2, .int .i64 a3] w fun e w' => ∃ v0_ : Value, e = .returned (.tuple #[v0_, .bool r2]) ∧ Kd.R (Kd.int .i64) 3 w' w.heap.size (fun _ => True) v0_ r1 ∧ Below w.heap.size w w' := by
  have HR0 := Aside0.mk hr0
  have HC0 := Aside0.mk hc0
  have HB := Aside0.mk (Below.refl w.heap.size w)
  clear hr0 hc0
  unfold octet_Row.f at h
  by_cases h3 : a3 = 1 ∨ a3 = 2 ∨ a3 = 4
  · rw [if_pos h3] at h
    have H3 := Aside0.mk h3
    have hs : ((a3 == 1) = true) ∨ ((a3 == 1) = false ∧ (a3 == 2) = true) ∨ ((a3 == 1) = false ∧ (a3 == 2) = false ∧ (a3 == 4) = true) := by
      rcases h3 with rfl | rfl | rfl <;> simp
    clear h3
    by_cases h2 : a2 < 0
    · rw [if_pos h2] at h
      simp only [Option.some.injEq, Prod.mk.injEq] at h
      obtain ⟨rfl, rfl⟩ := h
      have b2 : decide (a2 < 0) = true := decide_eq_true h2
      clear h2
      rcases hs with s1 | ⟨s1, s2⟩ | ⟨s1, s2, s3⟩
      all_goals
        go_enter Try.func28, Try.ntmps28
        go_wp2
        go_ret2
        exact ⟨_, rfl, Kd.R_nil _ _ _ _ _, by repeat (first | (with_reducible first | exact HB.out | apply below_alloc | apply pw_below_drewN | apply below_drew1) | exact HB.out)⟩
    · rw [if_neg h2] at h
      have b2 : decide (a2 < 0) = false := decide_eq_false h2
      by_cases h4 : a2 > (l0.length : Int)
      · rw [if_pos h4] at h
        simp only [Option.some.injEq, Prod.mk.injEq] at h
        obtain ⟨rfl, rfl⟩ := h
        have b4 : decide ((l0.length : Int) < a2) = true := decide_eq_true h4
        clear h2 h4
        rcases hs with s1 | ⟨s1, s2⟩ | ⟨s1, s2, s3⟩
        all_goals
          go_enter Try.func28, Try.ntmps28
          go_wp2
          go_ret2
          exact ⟨_, rfl, Kd.R_nil _ _ _ _ _, by repeat (first | (with_reducible first | exact HB.out | apply below_alloc | apply pw_below_drewN | apply below_drew1) | exact HB.out)⟩
      · rw [if_neg h4] at h
        have b4 : decide ((l0.length : Int) < a2) = false := decide_eq_false h4
        by_cases h5 : 4398046511104 ≤ l0.length
        · rw [if_pos h5] at h
          exact absurd h (by simp)
        · rw [if_neg h5] at h
          obtain ⟨m, hm⟩ : ∃ m, a2 * a3 = m := ⟨_, rfl⟩
          have hm0 : 0 ≤ m ∧ m ≤ 17592186044416 := by rw [← hm]; rcases H3.out with rfl | rfl | rfl <;> omega
          have hw : wrap64 (a2 * a3) = m := by rw [hm]; unfold wrap64; omega
          have hwi : IntKind.i64.wrap (a2 * a3) = m := (i64_w _).trans hw
          have hW := octet_Within.f_of l0 a1 m (by omega) hm0.1
          have H5 := Aside0.mk h5
          obtain ⟨n, hn⟩ : ∃ n : Nat, a2 = (n : Int) := ⟨a2.toNat, by omega⟩
          by_cases h6 : 0 ≤ a1 ∧ a1 + a2 * a3 ≤ (l0.length : Int)
          · rw [if_pos h6] at h
            simp only [Option.some.injEq, Prod.mk.injEq] at h
            obtain ⟨rfl, rfl⟩ := h
            rw [decide_eq_true (by omega)] at hW
            have HW := Aside0.mk hW
            have HIN := Aside0.mk (octet_Row.in_ l0 a1 a2 a3 H3.out (by omega) (by omega) h6.1 h6.2)
            have hn2 : n < 17592186044416 := by omega
            have hnt : a2.toNat = n := by omega
            rw [hnt]
            have HN := Aside0.mk hn
            clear hW h2 h4 h5 h6 hm hm0 hnt hw hn
            rcases hs with s1 | ⟨s1, s2⟩ | ⟨s1, s2, s3⟩
            all_goals
              go_enter Try.func28, Try.ntmps28
              go_wp2_with (first
                | (go_at_call 19; (with_reducible refine (octet_Within.calls A0 c0 l0 a1 m true _ ?c1 HC0.out HW.out).mono ?_); (case c1 => repeat (first | exact HR0.out | (with_reducible refine Kd.C_alloc ?_ _) | (with_reducible refine Kd.C_drewN ?_ _) | (with_reducible refine Kd.C_drew ?_))); rintro e w' ⟨rfl, ⟨nd, rfl⟩⟩)
                | (go_at_call 42; (with_reducible refine (octet_Row.many n a2 HN.out A0 c0 l0 a1 a3 _ _ _ _ ?d1 ?d2 ?d3 ?d4 HC0.out hn2 (fun i hi => HIN.out i (by have := HN.out; omega))).mono ?_); (case d1 => go_simp); (case d2 => go_simp); (case d3 => go_simp); (case d4 => repeat (first | exact HR0.out | (with_reducible refine Kd.C_alloc ?_ _) | (with_reducible refine Kd.C_drewN ?_ _) | (with_reducible refine Kd.C_drew ?_))); rintro e w9 ⟨v0_, rfl, ho_, hb_⟩; have HO := Aside0.mk ho_; have HB2 := Aside0.mk hb_; clear ho_ hb_))
              go_ret2
              exact ⟨_, rfl, Kd.R_lower HO.out (below_size (by repeat (first | (with_reducible first | exact HB.out | apply below_alloc | apply pw_below_drewN | apply below_drew1) | exact HB.out))), below_step (by repeat (first | (with_reducible first | exact HB.out | apply below_alloc | apply pw_below_drewN | apply below_drew1) | exact HB.out)) HB2.out⟩
          · rw [if_neg h6] at h
            simp only [Option.some.injEq, Prod.mk.injEq] at h
            obtain ⟨rfl, rfl⟩ := h
            rw [decide_eq_false (by omega)] at hW
            have HW := Aside0.mk hW
            clear hW h2 h4 h5 h6 hm hm0 hn hw
            rcases hs with s1 | ⟨s1, s2⟩ | ⟨s1, s2, s3⟩
            all_goals
              go_enter Try.func28, Try.ntmps28
              go_wp2_with (go_at_call 19; (with_reducible refine (octet_Within.calls A0 c0 l0 a1 m false _ ?c1 HC0.out HW.out).mono ?_); (case c1 => repeat (first | exact HR0.out | (with_reducible refine Kd.C_alloc ?_ _) | (with_reducible refine Kd.C_drewN ?_ _) | (with_reducible refine Kd.C_drew ?_))); rintro e w' ⟨rfl, ⟨nd, rfl⟩⟩)
              go_ret2
              exact ⟨_, rfl, Kd.R_nil _ _ _ _ _, by repeat (first | (with_reducible first | exact HB.out | apply below_alloc | apply pw_below_drewN | apply below_drew1) | exact HB.out)⟩
  · rw [if_neg h3] at h
    simp only [Option.some.injEq, Prod.mk.injEq] at h
    obtain ⟨rfl, rfl⟩ := h
    have s1 : (a3 == 1) = false := beq_eq_false_iff_ne.mpr (by omega)
    have s2 : (a3 == 2) = false := beq_eq_false_iff_ne.mpr (by omega)
    have s3 : (a3 == 4) = false := beq_eq_false_iff_ne.mpr (by omega)
    clear h3
    go_enter Try.func28, Try.ntmps28
    go_wp2
    go_ret2
    exact ⟨_, rfl, Kd.R_nil _ _ _ _ _, by repeat (first | (with_reducible first | exact HB.out | apply below_alloc | apply pw_below_drewN | apply below_drew1) | exact HB.out)⟩

end Go.Proofs.Ytahmicipakmbmaa.Q
