-- PRINTED BY mprint.py (a program of this session, over the kit's printer): Lean checks it
import Derived.Test.YtahmicipakmbmaaQ0
import Derived.Test.YtahmicipakmbmaaQ1
namespace Go.Proofs.Ytahmicipakmbmaa.Q
open Go.RowKit Go.Proofs.YtahmicipakmbmaaW.PrintWords Go.Proofs.YtahmicipakmbmaaW.PrintLast Go.Proofs.YtahmicipakmbmaaW.PrintMore
attribute [local go_sem] max2_int min2_int max_two min_two max_three min_three max_four min_four   -- for this text's walks alone
set_option linter.unusedVariables false
set_option linter.unusedSimpArgs false


-- STUB
/-! ### reedpenlaw01_alive: function 12 -/
def reedpenlaw01_alive.f : Option Bool := some true
theorem lit_C (W : World) (b n : Nat) (k : IntKind) (xs : List Int) (C : Array Value) (e : TypeId) (m : Nat × Nat) (hb : W.heap.size = b) (hC : C = (xs.map (Value.int k)).toArray) (hn : xs.length = n) (hl : n ≤ 9223372036854775807) : Kd.C (Kd.int k) (W.alloc (.cells C e m)) (some ⟨b, 0, none⟩) n xs := by
  subst hC hb hn
  refine Kd.C_of_reads (enc := Value.int k) (d := (0 : Int)) (h1 := fun _ => rfl) ⟨rfl, hl, fun _ => ⟨_, rfl, fun j hj => ?_⟩⟩
  rw [add_plain]
  unfold World.cell? World.alloc
  simp [List.getD_eq_getElem?_getD, hj]
set_option maxHeartbeats 400000 in
set_option maxRecDepth 100000 in
theorem reedpenlaw01_alive.calls (r : Bool) (w : World) (h : reedpenlaw01_alive.f = some r) : Calls Try.prog 12 #[] w fun e w' => e = .returned (.bool r) ∧ Below w.heap.size w w' := by
  obtain rfl := Option.some.inj h
  clear h
  have kc : ∀ (W : World) (b : Nat) (C : Array Value) (n c : Nat), W.heap.size = b → Sem.run Try.prog (convert 26 26 (.slice (some ⟨b, 0, none⟩) n c)) (W.alloc (.cells C 5)) = .ok (.slice (some ⟨b, 0, none⟩) n c) (W.alloc (.cells C 5 (C.size, C.size + 1))) :=
    fun W b C n c hb => by subst hb; exact Lib.run_convert_bytes_const (P := Try.prog) W 26 5 C n c Try.underlying26 Try.underlying5
  have HB := Aside0.mk (Below.refl w.heap.size w)
  have c21 : ∀ (A : Option Addr) (W : World), Kd.C (Kd.int .u8) W A 3 [1, 2, 3] → Calls Try.prog 21 #[.slice A 3 3, .int .i64 1] W fun e w' => e = .returned (.tuple #[.int .i64 515, .bool true]) ∧ Drawn0 W w' :=
    fun A W h => octet_U16.calls 20 A 3 [1, 2, 3] 1 515 true W h (by simp) (by decide +kernel)
  have c25 : ∀ (A : Option Addr) (W : World), Kd.C (Kd.int .u8) W A 4 [71, 83, 85, 66] → Calls Try.prog 25 #[.slice A 4 4, .int .i64 0] W fun e w' => e = .returned (.tuple #[.string ⟨#[71, 83, 85, 66]⟩, .bool true]) ∧ Drawn0 W w' :=
    fun A W h => octet_Tag.calls A 4 [71, 83, 85, 66] 0 _ true W h (by simp) (by decide +kernel)
  have c40 : ∀ (A : Option Addr) (W : World), Kd.C (Kd.int .u8) W A 1 [1] → Calls Try.prog 40 #[.slice A 1 1] W fun e w' => e = .returned (.int .i64 16777216) ∧ Drawn0 W w' :=
    fun A W h => octet_Sum.calls 20 A 1 [1] _ W h (by simp) (by decide +kernel)
  replace c21 := Aside0.mk c21
  replace c25 := Aside0.mk c25
  replace c40 := Aside0.mk c40
  go_enter Try.func12, Try.ntmps12
  go_wp2_with (first
    | (go_at_call 21; refine (c21.out _ _ (lit_C _ _ 3 .u8 [1, 2, 3] _ _ _ (by simp) rfl rfl (by omega))).mono ?_; rintro e w' ⟨rfl, ⟨nd, rfl⟩⟩)
    | (go_at_call 25; refine (c25.out _ _ (lit_C _ _ 4 .u8 [71, 83, 85, 66] _ _ _ (by simp) rfl rfl (by omega))).mono ?_; rintro e w' ⟨rfl, ⟨nd, rfl⟩⟩)
    | (go_at_call 13; (with_reducible refine (octet_Wrap.calls 2147483648 (-2147483648) _ (by decide +kernel)).mono ?_); rintro e w' ⟨rfl, ⟨nd, rfl⟩⟩)
    | (go_at_call 40; refine (c40.out _ _ (lit_C _ _ 1 .u8 [1] _ _ _ (by simp) rfl rfl (by omega))).mono ?_; rintro e w' ⟨rfl, ⟨nd, rfl⟩⟩)
    | (go_at_call 27; (with_reducible refine (octet_Put.calls 20 258 2 [1, 2] _ (by decide +kernel)).mono ?_); rintro e w' ⟨v0_, rfl, hr_, hb_⟩; obtain ⟨Ao, co, eo⟩ := Kd.R_slice hr_; subst eo; have hb2_ := Aside0.mk hb_; clear hb_ hr_))
  go_ret
  exact ⟨rfl, below_step (by repeat (first | (with_reducible first | exact HB.out | apply below_alloc | apply pw_below_drewN | apply below_drew1) | exact HB.out)) hb2_.out⟩

end Go.Proofs.Ytahmicipakmbmaa.Q
