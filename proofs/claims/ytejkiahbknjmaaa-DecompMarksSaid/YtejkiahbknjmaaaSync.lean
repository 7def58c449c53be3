/- The library's Once and atomic numbers, by one goroutine: contracts for the abstract machine. -/
import Derived.Test.YtejkiahbknjmaaaV1
import Derived.Test.YtejkiahbknjmaaaProg
import Derived.Tactics
import Derived.Tactics2
import Derived.Defers
import Derived.Laws.Pointers
import Derived.Laws.LoneSync
import Derived.RegionTactic
import Derived.RegionCalls
import Derived.ChangeAlike
set_option linter.unusedVariables false
set_option linter.unusedSimpArgs false
set_option maxRecDepth 100000
set_option maxHeartbeats 1600000
namespace Go.Proofs.Ytejkiahbknjmaaa.AI
open Go.Proofs
theorem sy_disable (w : World) : (callFunc 91 #[]).run Try.prog w = .ok (.value (.tuple #[])) w := run_call_mark0 Try.func91 (by kernel_rfl) (by kernel_rfl) (by kernel_rfl) .disable (by kernel_rfl) w
theorem sy_enable (w : World) : (callFunc 93 #[]).run Try.prog w = .ok (.value (.tuple #[])) w := run_call_mark0 Try.func93 (by kernel_rfl) (by kernel_rfl) (by kernel_rfl) .enable (by kernel_rfl) w
theorem sy_acquire (a : Addr) (w : World) : (callFunc 94 #[.pointer (some a)]).run Try.prog w = .ok (.value (.tuple #[])) w := run_call_marked Try.func94 (by kernel_rfl) (by kernel_rfl) (by kernel_rfl) .acquire (by kernel_rfl) a w
theorem sy_release (a : Addr) (w : World) : (callFunc 96 #[.pointer (some a)]).run Try.prog w = .ok (.value (.tuple #[])) w := run_call_marked Try.func96 (by kernel_rfl) (by kernel_rfl) (by kernel_rfl) .releaseMerge (by kernel_rfl) a w
theorem sy_store_d (a : Addr) (x : Value) (u : FrameMode) (w : World) (hc : w.cell? a = some x) (hz : w.frozen? a = false) :
    CallsD Try.prog 83 #[.pointer (some a), .bool true] u w fun e u' w' => u' = u ∧ (e = .returned (.tuple #[]) ∧ w' = w.drew.setCell a (.int .u32 1)) := by
  have hc' : w.drew.cell? a = some x := by go_simp
  have hz' : w.drew.frozen? a = false := by go_simp
  have hst := run_call_store (P := Try.prog) Try.func89 (by kernel_rfl) (by kernel_rfl) (by kernel_rfl) (by kernel_rfl) (k := .u32) (y := 1) hc' hz'
  go_enter_d Try.func83, Try.ntmps83
  go_wp2
  go_region_calls
  all_goals (go_end0; exact ⟨rfl, rfl⟩)
theorem sy_unlock_d (a : Addr) (u : FrameMode) (w : World) (hc : w.cell? a = some (.int .i32 1)) (hz : w.frozen? a = false) :
    CallsD Try.prog 82 #[.pointer (some a)] u w fun e u' w' => u' = u ∧ (e = .returned (.tuple #[]) ∧ w' = w.setCell a (.int .i32 0)) := by
  have hd := sy_disable
  have he := sy_enable
  have hr := sy_release
  have hadd := run_call_add (P := Try.prog) Try.func97 (by kernel_rfl) (by kernel_rfl) (by kernel_rfl) .i32 (by kernel_rfl) (y := -1) (s := 0) hc hz (by simp [go_sem]; rfl)
  have hcv := run_convert_to_unsafe (P := Try.prog) (src := 138) (dst := 142) Try.underlying138 Try.underlying142 (by kernel_rfl) hc
  go_enter_d Try.func82, Try.ntmps82
  go_wp2
  go_end0
  go_wp2
  go_end0
  exact ⟨rfl, rfl⟩
theorem sy_lock (a : Addr) (w : World) (hc : w.cell? a = some (.int .i32 0)) (hz : w.frozen? a = false) :
    Calls Try.prog 81 #[.pointer (some a)] w fun e w' => e = .returned (.tuple #[]) ∧ w' = w.setCell a (.int .i32 1) := by
  have hd := sy_disable
  have he := sy_enable
  have ha := sy_acquire
  have hcas := run_call_cas_hit (P := Try.prog) Try.func92 (by kernel_rfl) (by kernel_rfl) (by kernel_rfl) .i32 (by kernel_rfl) (y := 1) hc hz
  have hc' : (w.setCell a (.int .i32 1)).cell? a = some (.int .i32 1) := World.cell?_setCell_same w a _ hc
  have hcv := run_convert_to_unsafe (P := Try.prog) (src := 138) (dst := 142) Try.underlying138 Try.underlying142 (by kernel_rfl) hc'
  go_enter Try.func81, Try.ntmps81
  go_wp2
  first | go_end0 | (simp only [Exit.inBlock, Exit.then]; refine bodyPost_ret (results_none rfl _ _ _) rfl ?_) | refine bodyPost_ret (results_none rfl _ _ _) rfl ?_
  go_wp2
  go_end0
  exact ⟨rfl, rfl⟩
theorem sy_bload (a : Addr) (x : Int) (w : World) (hc : w.cell? a = some (.int .u32 x)) : Calls Try.prog 75 #[.pointer (some a)] w fun e w' => e = .returned (.bool (x != 0)) ∧ w' = w := by
  have hl := run_call_load (P := Try.prog) Try.func80 (by kernel_rfl) (by kernel_rfl) (by kernel_rfl) .u32 (by kernel_rfl) hc
  go_enter Try.func75, Try.ntmps75
  go_wp2
  go_ret
  exact ⟨rfl, rfl⟩
theorem sy_bstore (a : Addr) (x : Value) (w : World) (hc : w.cell? a = some x) (hz : w.frozen? a = false) :
    Calls Try.prog 83 #[.pointer (some a), .bool true] w fun e w' => e = .returned (.tuple #[]) ∧ w' = w.drew.setCell a (.int .u32 1) := by
  have hc' : w.drew.cell? a = some x := by go_simp
  have hz' : w.drew.frozen? a = false := by go_simp
  have hst := run_call_store (P := Try.prog) Try.func89 (by kernel_rfl) (by kernel_rfl) (by kernel_rfl) (by kernel_rfl) (k := .u32) (y := 1) hc' hz'
  go_enter Try.func83, Try.ntmps83
  go_wp2
  go_region_calls
  all_goals (go_end0; exact ⟨rfl, rfl⟩)
theorem sy_iadd (a : Addr) (x y : Int) (w : World) (hc : w.cell? a = some (.int .i64 x)) (hz : w.frozen? a = false) :
    Calls Try.prog 77 #[.pointer (some a), .int .i64 y] w fun e w' => e = .returned (.int .i64 (IntKind.i64.wrap (x + y))) ∧ w' = w.setCell a (.int .i64 (IntKind.i64.wrap (x + y))) := by
  have hadd := run_call_add (P := Try.prog) Try.func84 (by kernel_rfl) (by kernel_rfl) (by kernel_rfl) .i64 (by kernel_rfl) (y := y) (s := IntKind.i64.wrap (x + y)) hc hz (by simp [go_sem])
  go_enter Try.func77, Try.ntmps77
  go_wp2
  go_ret
  rw [IntWalk.i64_left]; exact ⟨rfl, rfl⟩
theorem sy_slow (b j : Nat) (p : Value) (w : World) (Rr : World → Prop)
    (h0 : w.cell? ⟨b, j, none⟩ = some (.int .u32 0)) (h1 : w.cell? ⟨b, j + 1, none⟩ = some (.int .i32 0)) (f0 : w.frozen? ⟨b, j, none⟩ = false) (f1 : w.frozen? ⟨b, j + 1, none⟩ = false)
    (hf : Calls Try.prog 78 #[p] (w.setCell ⟨b, j + 1, none⟩ (.int .i32 1)) fun e w' => e = .returned (.tuple #[]) ∧ Rr w')
    (hR : ∀ w', Rr w' → w'.cell? ⟨b, j, none⟩ = some (.int .u32 0) ∧ w'.cell? ⟨b, j + 1, none⟩ = some (.int .i32 1) ∧ w'.frozen? ⟨b, j, none⟩ = false ∧ w'.frozen? ⟨b, j + 1, none⟩ = false) :
    Calls Try.prog 76 #[.pointer (some ⟨b, j, none⟩), .func (.func 78) #[p] #[]] w fun e w'' => e = .returned (.tuple #[]) ∧
      ∃ w', Rr w' ∧ w'' = (w'.drew.setCell ⟨b, j, none⟩ (.int .u32 1)).setCell ⟨b, j + 1, none⟩ (.int .i32 0) := by
  have hl : (w.setCell ⟨b, j + 1, none⟩ (.int .i32 1)).cell? ⟨b, j, none⟩ = some (.int .u32 0) := (World.cell?_setCell_other _ ⟨b, j + 1, none⟩ ⟨b, j, none⟩ _ (by simp)).trans h0
  have hnot : ∀ (x : Bool) (w : World), (Op.unary .not (.bool x)).run Try.prog w = .ok (.bool (!x)) w := fun _ _ => rfl
  go_enter_defers Try.func76, Try.ntmps76
  go_wp2_with (first | (go_at_call 81; refine (sy_lock ⟨b, j + 1, none⟩ _ (by go_simp) (by go_simp)).mono ?_; rintro e w' ⟨rfl, rfl⟩) | (go_at_call 78; refine hf.mono ?_; rintro e w' ⟨rfl, hw⟩) | (go_at_call 75; refine (sy_bload ⟨b, j, none⟩ 0 _ hl).mono ?_; rintro e w' ⟨rfl, rfl⟩))
  obtain ⟨k0, k1, z0, z1⟩ := hR _ hw
  go_wp2
  refine leaves_cons (f := 83) (args := #[.pointer (some ⟨b, j, none⟩), .bool true]) (by simp) (by simp [go_sem]) ?_
  refine (sy_store_d ⟨b, j, none⟩ (.int .u32 0) .returning _ k0 z0).mono ?_
  rintro e u' w2 ⟨rfl, rfl, rfl⟩
  refine leaves_cons (f := 82) (args := #[.pointer (some ⟨b, j + 1, none⟩)]) (by simp [settle]) (by simp [go_sem]) ?_
  refine (sy_unlock_d ⟨b, j + 1, none⟩ _ _ ?_ (by simp [z1])).mono ?_
  · refine (World.cell?_setCell_other _ ⟨b, j, none⟩ ⟨b, j + 1, none⟩ _ (by simp)).trans ?_
    rw [World.cell?_drew]
    exact k1
  rintro e u' w3 ⟨rfl, rfl, rfl⟩
  simp only [Leaves, settle, results, Try.results76]
  exact ⟨.tuple #[], by simp, rfl, w', hw, rfl⟩
theorem sy_slow2 (b j : Nat) (p : Value) (w : World) (Rr : World → Prop)
    (h0 : w.cell? ⟨b, j, none⟩ = some (.int .u32 0)) (h1 : w.cell? ⟨b, j + 1, none⟩ = some (.int .i32 0)) (f0 : w.frozen? ⟨b, j, none⟩ = false) (f1 : w.frozen? ⟨b, j + 1, none⟩ = false)
    (hf : Calls Try.prog 65 #[p] (w.setCell ⟨b, j + 1, none⟩ (.int .i32 1)) fun e w' => e = .returned (.tuple #[]) ∧ Rr w')
    (hR : ∀ w', Rr w' → w'.cell? ⟨b, j, none⟩ = some (.int .u32 0) ∧ w'.cell? ⟨b, j + 1, none⟩ = some (.int .i32 1) ∧ w'.frozen? ⟨b, j, none⟩ = false ∧ w'.frozen? ⟨b, j + 1, none⟩ = false) :
    Calls Try.prog 76 #[.pointer (some ⟨b, j, none⟩), .func (.func 65) #[] #[p]] w fun e w'' => e = .returned (.tuple #[]) ∧
      ∃ w', Rr w' ∧ w'' = (w'.drew.setCell ⟨b, j, none⟩ (.int .u32 1)).setCell ⟨b, j + 1, none⟩ (.int .i32 0) := by
  have hl : (w.setCell ⟨b, j + 1, none⟩ (.int .i32 1)).cell? ⟨b, j, none⟩ = some (.int .u32 0) := (World.cell?_setCell_other _ ⟨b, j + 1, none⟩ ⟨b, j, none⟩ _ (by simp)).trans h0
  have hnot : ∀ (x : Bool) (w : World), (Op.unary .not (.bool x)).run Try.prog w = .ok (.bool (!x)) w := fun _ _ => rfl
  go_enter_defers Try.func76, Try.ntmps76
  go_wp2_with (first | (go_at_call 81; refine (sy_lock ⟨b, j + 1, none⟩ _ (by go_simp) (by go_simp)).mono ?_; rintro e w' ⟨rfl, rfl⟩) | (go_at_call 65; refine hf.mono ?_; rintro e w' ⟨rfl, hw⟩) | (go_at_call 75; refine (sy_bload ⟨b, j, none⟩ 0 _ hl).mono ?_; rintro e w' ⟨rfl, rfl⟩))
  obtain ⟨k0, k1, z0, z1⟩ := hR _ hw
  go_wp2
  refine leaves_cons (f := 83) (args := #[.pointer (some ⟨b, j, none⟩), .bool true]) (by simp) (by simp [go_sem]) ?_
  refine (sy_store_d ⟨b, j, none⟩ (.int .u32 0) .returning _ k0 z0).mono ?_
  rintro e u' w2 ⟨rfl, rfl, rfl⟩
  refine leaves_cons (f := 82) (args := #[.pointer (some ⟨b, j + 1, none⟩)]) (by simp [settle]) (by simp [go_sem]) ?_
  refine (sy_unlock_d ⟨b, j + 1, none⟩ _ _ ?_ (by simp [z1])).mono ?_
  · refine (World.cell?_setCell_other _ ⟨b, j, none⟩ ⟨b, j + 1, none⟩ _ (by simp)).trans ?_
    rw [World.cell?_drew]
    exact k1
  rintro e u' w3 ⟨rfl, rfl, rfl⟩
  simp only [Leaves, settle, results, Try.results76]
  exact ⟨.tuple #[], by simp, rfl, w', hw, rfl⟩
theorem sy_first (b j : Nat) (p : Value) (w : World) (Rr : World → Prop)
    (h0 : w.cell? ⟨b, j, none⟩ = some (.int .u32 0)) (h1 : w.cell? ⟨b, j + 1, none⟩ = some (.int .i32 0)) (f0 : w.frozen? ⟨b, j, none⟩ = false) (f1 : w.frozen? ⟨b, j + 1, none⟩ = false)
    (hf : Calls Try.prog 78 #[p] (w.setCell ⟨b, j + 1, none⟩ (.int .i32 1)) fun e w' => e = .returned (.tuple #[]) ∧ Rr w')
    (hR : ∀ w', Rr w' → w'.cell? ⟨b, j, none⟩ = some (.int .u32 0) ∧ w'.cell? ⟨b, j + 1, none⟩ = some (.int .i32 1) ∧ w'.frozen? ⟨b, j, none⟩ = false ∧ w'.frozen? ⟨b, j + 1, none⟩ = false) :
    Calls Try.prog 64 #[.pointer (some ⟨b, j, none⟩), .func (.func 78) #[p] #[]] w fun e w'' => e = .returned (.tuple #[]) ∧
      ∃ w', Rr w' ∧ w'' = (w'.drew.setCell ⟨b, j, none⟩ (.int .u32 1)).setCell ⟨b, j + 1, none⟩ (.int .i32 0) := by
  have hnot : ∀ (x : Bool) (w : World), (Op.unary .not (.bool x)).run Try.prog w = .ok (.bool (!x)) w := fun _ _ => rfl
  go_enter Try.func64, Try.ntmps64
  go_wp2_with (first | (go_at_call 76; refine (sy_slow b j p _ Rr h0 h1 f0 f1 hf hR).mono ?_; rintro e w2 ⟨rfl, hw2⟩) | (go_at_call 75; refine (sy_bload ⟨b, j, none⟩ 0 _ h0).mono ?_; rintro e w' ⟨rfl, rfl⟩))
  go_end0
  exact ⟨rfl, hw2⟩
theorem sy_first2 (b j : Nat) (p : Value) (w : World) (Rr : World → Prop)
    (h0 : w.cell? ⟨b, j, none⟩ = some (.int .u32 0)) (h1 : w.cell? ⟨b, j + 1, none⟩ = some (.int .i32 0)) (f0 : w.frozen? ⟨b, j, none⟩ = false) (f1 : w.frozen? ⟨b, j + 1, none⟩ = false)
    (hf : Calls Try.prog 65 #[p] (w.setCell ⟨b, j + 1, none⟩ (.int .i32 1)) fun e w' => e = .returned (.tuple #[]) ∧ Rr w')
    (hR : ∀ w', Rr w' → w'.cell? ⟨b, j, none⟩ = some (.int .u32 0) ∧ w'.cell? ⟨b, j + 1, none⟩ = some (.int .i32 1) ∧ w'.frozen? ⟨b, j, none⟩ = false ∧ w'.frozen? ⟨b, j + 1, none⟩ = false) :
    Calls Try.prog 64 #[.pointer (some ⟨b, j, none⟩), .func (.func 65) #[] #[p]] w fun e w'' => e = .returned (.tuple #[]) ∧
      ∃ w', Rr w' ∧ w'' = (w'.drew.setCell ⟨b, j, none⟩ (.int .u32 1)).setCell ⟨b, j + 1, none⟩ (.int .i32 0) := by
  have hnot : ∀ (x : Bool) (w : World), (Op.unary .not (.bool x)).run Try.prog w = .ok (.bool (!x)) w := fun _ _ => rfl
  go_enter Try.func64, Try.ntmps64
  go_wp2_with (first | (go_at_call 76; refine (sy_slow2 b j p _ Rr h0 h1 f0 f1 hf hR).mono ?_; rintro e w2 ⟨rfl, hw2⟩) | (go_at_call 75; refine (sy_bload ⟨b, j, none⟩ 0 _ h0).mono ?_; rintro e w' ⟨rfl, rfl⟩))
  go_end0
  exact ⟨rfl, hw2⟩
theorem sy_done (a : Addr) (d : Int) (hd : ¬ d = 0) (fv : Value) (w : World) (h0 : w.cell? a = some (.int .u32 d)) :
    Calls Try.prog 64 #[.pointer (some a), fv] w fun e w' => e = .returned (.tuple #[]) ∧ w' = w := by
  have hnot : ∀ (x : Bool) (w : World), (Op.unary .not (.bool x)).run Try.prog w = .ok (.bool (!x)) w := fun _ _ => rfl
  have hd' : (d != 0) = true := by simp [hd]
  go_enter Try.func64, Try.ntmps64
  go_wp2_with (go_at_call 75; refine (sy_bload a d _ h0).mono ?_; rintro e w' ⟨rfl, rfl⟩)
  go_end0
  exact ⟨rfl, rfl⟩
/-! ### the same, for the abstract machine -/
theorem setCell_heap {w : World} {b j : Nat} {c : Array Value} {t : TypeId} {f : Nat × Nat} {u : Value} (h : w.heap[b]? = some (.cells c t f)) : (w.setCell ⟨b, j, none⟩ u).heap[b]? = some (.cells (c.setIfInBounds j u) t f) := by
  simp only [World.setCell, Array.getElem?_modify, h]; simp
theorem setCell_off {w : World} {b j b' : Nat} {u : Value} (h : b' ≠ b) : (w.setCell ⟨b, j, none⟩ u).heap[b']? = w.heap[b']? := by
  simp only [World.setCell, Array.getElem?_modify]; rw [if_neg (fun e => h e.symm)]
section
variable {G : Gh} {K : (Nat → Option Obj)} {ρ : (Nat → Option Loc)} {H : List AObj} {w : World} {id : Nat} {cs : List AV} {t : TypeId} {l : Loc}
theorem Rel.box_at (hR : Rel G K ρ H w) (ho : H[id]? = some (.box cs t)) (hl : ρ id = some l) {j : Nat} {v : AV} (hj : cs[j]? = some v) :
    l.base = 0 ∧ w.frozen? ⟨l.block, j, Option.none⟩ = false ∧ ∃ u, w.cell? ⟨l.block, j, Option.none⟩ = some u ∧ VR K ρ v u := by
  obtain ⟨l', hl', c, h1, h2, h3, h4, h5⟩ := hR.objs id _ ho rfl
  rw [hl] at hl'
  obtain rfl := Option.some.inj hl'
  obtain ⟨u, hu, hv⟩ := h5 j v hj
  rw [Nat.zero_add] at hu
  refine ⟨h3, ?_, u, ?_, hv⟩
  · simp [World.frozen?, h1]
  · simp [World.cell?, h1, hu]
theorem Rel.cell_put (hR : Rel G K ρ H w) (ho : H[id]? = some (.box cs t)) (hl : ρ id = some l) {j : Nat} {v v' : AV} {u' : Value} (hj : cs[j]? = some v) (hv : VR K ρ v' u') (h1' : one u' = true) :
    Rel G K ρ (H.set id (.box (cs.set j v') t)) (w.setCell ⟨l.block, j, Option.none⟩ u') := by
  obtain ⟨l', hl', c, h1, h2, h3, h4, h5⟩ := hR.objs id _ ho rfl
  rw [hl] at hl'
  obtain rfl := Option.some.inj hl'
  have hjl := (List.getElem?_eq_some_iff.1 hj).1
  refine (hR.put (w' := w.setCell ⟨l.block, j, Option.none⟩ u') (.box (cs.set j v') t) ho hl rfl rfl rfl rfl (by simp) (fun b hb => setCell_off hb) ?_).rel
  refine ⟨_, setCell_heap h1, by simpa using h2, h3, fun u hu => ?_, fun i x hx => ?_⟩
  · obtain ⟨i, hi, rfl⟩ := Array.getElem_of_mem hu
    rw [Array.getElem_setIfInBounds (by simpa using hi)]
    split
    · exact h1'
    · exact h4 _ (Array.getElem_mem _)
  · rw [Nat.zero_add]
    by_cases e : i = j
    · subst e
      rw [List.getElem?_set_self hjl] at hx
      cases hx
      exact ⟨u', by rw [Array.getElem?_setIfInBounds_self_of_lt (by omega)], hv⟩
    · rw [List.getElem?_set_ne (Ne.symm e)] at hx
      obtain ⟨u, hu, hr⟩ := h5 i x hx
      rw [Nat.zero_add] at hu
      exact ⟨u, by rw [Array.getElem?_setIfInBounds_ne (Ne.symm e)]; exact hu, hr⟩
theorem Next.same (hR : Rel G K ρ H w) {H' : List AObj} {w' : World} (h : Rel G K ρ H' w') : Next G H.length K ρ K ρ H' w' := ⟨h, KLe.refl _, fun _ _ => rfl⟩
end
theorem ok_sy {f : FuncId} {fn : Func} (hf : Try.prog.funcs[f]? = some fn) (h1 : (fn.name == "runtime.NumGoroutine") = false) (h2 : fn.body.isNone = false) : OkF Try.prog f := ⟨fn, hf, h1, h2⟩
section
variable {H : List AObj} {id j : Nat} {cs : List AV} {t : TypeId} {Q : AEnd → List AObj → Prop}
theorem vrs2 {K : (Nat → Option Obj)} {ρ : (Nat → Option Loc)} {a b : AV} {us : Array Value} (h : VRs K ρ [a, b] us) : ∃ u v, us = #[u, v] ∧ VR K ρ a u ∧ VR K ρ b v := by
  obtain ⟨h1, h2⟩ := h
  obtain ⟨l⟩ := us
  match l, h1 with
  | [u, v], _ => exact ⟨u, v, rfl, h2 0 _ _ rfl rfl, h2 1 _ _ rfl rfl⟩
theorem vrs1 {K : (Nat → Option Obj)} {ρ : (Nat → Option Loc)} {a : AV} {us : Array Value} (h : VRs K ρ [a] us) : ∃ u, us = #[u] ∧ VR K ρ a u := by
  obtain ⟨h1, h2⟩ := h
  obtain ⟨l⟩ := us
  match l, h1 with
  | [u], _ => exact ⟨u, rfl, h2 0 _ _ rfl rfl⟩
theorem A_iadd {v y : Int} (ho : H[id]? = some (.box cs t)) (hj : cs[j]? = some (.int .i64 v)) (hr : Q (.ret (.int .i64 (IntKind.i64.wrap (v + y)))) (H.set id (.box (cs.set j (.int .i64 (IntKind.i64.wrap (v + y)))) t))) :
    ACalls Try.prog 77 [.ptr id 0 j, .int .i64 y] H Q := by
  refine ⟨ok_sy Try.func77 (by decide +kernel) (by kernel_rfl), fun G K ρ w us hR hV => ?_⟩
  obtain ⟨u, u2, rfl, hu, hu2⟩ := vrs2 hV
  obtain ⟨l, hl, rfl⟩ := inv_ptr hu
  obtain rfl := inv_int hu2
  obtain ⟨hb, hz, x, hc, hx⟩ := hR.box_at ho hl hj
  obtain rfl := inv_int hx
  rw [hb, Nat.zero_mul, Nat.zero_add]
  refine (sy_iadd _ v y w hc hz).mono ?_
  rintro e w' ⟨rfl, rfl⟩
  exact ⟨K, ρ, _, _, hr, .int, Next.same hR (hR.cell_put ho hl hj .int rfl)⟩
theorem A_bload {v : Int} (ho : H[id]? = some (.box cs t)) (hj : cs[j]? = some (.int .u32 v)) (hr : Q (.ret (.bool (decide (v ≠ 0)))) H) : ACalls Try.prog 75 [.ptr id 0 j] H Q := by
  refine ⟨ok_sy Try.func75 (by decide +kernel) (by kernel_rfl), fun G K ρ w us hR hV => ?_⟩
  obtain ⟨u, rfl, hu⟩ := vrs1 hV
  obtain ⟨l, hl, rfl⟩ := inv_ptr hu
  obtain ⟨hb, hz, x, hc, hx⟩ := hR.box_at ho hl hj
  obtain rfl := inv_int hx
  rw [hb, Nat.zero_mul, Nat.zero_add]
  refine (sy_bload _ v w hc).mono ?_
  rintro e w' ⟨rfl, rfl⟩
  refine ⟨K, ρ, _, _, hr, ?_, Next.refl hR⟩
  have : (v != 0) = decide (v ≠ 0) := by by_cases h : v = 0 <;> simp [h]
  rw [this]; exact .bool
theorem A_bstore {v : Int} (ho : H[id]? = some (.box cs t)) (hj : cs[j]? = some (.int .u32 v)) (hr : Q (.ret (.tup [])) (H.set id (.box (cs.set j (.int .u32 1)) t))) : ACalls Try.prog 83 [.ptr id 0 j, .bool true] H Q := by
  refine ⟨ok_sy Try.func83 (by decide +kernel) (by kernel_rfl), fun G K ρ w us hR hV => ?_⟩
  obtain ⟨u, u2, rfl, hu, hu2⟩ := vrs2 hV
  obtain ⟨l, hl, rfl⟩ := inv_ptr hu
  obtain rfl := inv_bool hu2
  obtain ⟨hb, hz, x, hc, hx⟩ := hR.box_at ho hl hj
  rw [hb, Nat.zero_mul, Nat.zero_add]
  refine (sy_bstore _ x w hc hz).mono ?_
  rintro e w' ⟨rfl, rfl⟩
  exact ⟨K, ρ, _, _, hr, .tup rfl (fun i v u h => by simp at h), Next.same hR ((hR.drawn _).cell_put ho hl hj .int rfl)⟩
theorem A_done {d : Int} {fv : AV} (ho : H[id]? = some (.box cs t)) (hj : cs[j]? = some (.int .u32 d)) (hd : ¬ d = 0) (hr : Q (.ret (.tup [])) H) : ACalls Try.prog 64 [.ptr id 0 j, fv] H Q := by
  refine ⟨ok_sy Try.func64 (by decide +kernel) (by kernel_rfl), fun G K ρ w us hR hV => ?_⟩
  obtain ⟨u, u2, rfl, hu, hu2⟩ := vrs2 hV
  obtain ⟨l, hl, rfl⟩ := inv_ptr hu
  obtain ⟨hb, hz, x, hc, hx⟩ := hR.box_at ho hl hj
  obtain rfl := inv_int hx
  rw [hb, Nat.zero_mul, Nat.zero_add]
  refine (sy_done _ d hd u2 w hc).mono ?_
  rintro e w' ⟨rfl, rfl⟩
  exact ⟨K, ρ, _, _, hr, .tup rfl (fun i v u h => by simp at h), Next.refl hR⟩
theorem A_first {p : AV} (ho : H[id]? = some (.box cs t)) (hj : cs[j]? = some (.int .u32 0)) (hj1 : cs[j + 1]? = some (.int .i32 0))
    (hf : ACalls Try.prog 78 [p] (H.set id (.box (cs.set (j + 1) (.int .i32 1)) t)) (fun e H' => e = .ret (.tup []) ∧ ∃ cs', H'[id]? = some (.box cs' t) ∧ cs'[j]? = some (.int .u32 0) ∧ cs'[j + 1]? = some (.int .i32 1) ∧ Q (.ret (.tup [])) (H'.set id (.box ((cs'.set j (.int .u32 1)).set (j + 1) (.int .i32 0)) t)))) :
    ACalls Try.prog 64 [.ptr id 0 j, .fn (.func 78) [p] []] H Q := by
  refine ⟨ok_sy Try.func64 (by decide +kernel) (by kernel_rfl), fun G K ρ w us hR hV => ?_⟩
  obtain ⟨u, u2, rfl, hu, hu2⟩ := vrs2 hV
  obtain ⟨l, hl, rfl⟩ := inv_ptr hu
  obtain ⟨x1, y1, rfl, hx1, hy1⟩ := inv_fn hu2
  obtain ⟨pv, rfl, hp⟩ := vrs1 hx1; have : y1 = #[] := Array.eq_empty_of_size_eq_zero hy1.1.symm; subst this
  obtain ⟨hb, hz, x, hc, hx⟩ := hR.box_at ho hl hj
  obtain rfl := inv_int hx
  obtain ⟨_, hz', x', hc', hx'⟩ := hR.box_at ho hl hj1
  obtain rfl := inv_int hx'
  have hid : id < H.length := (List.getElem?_eq_some_iff.1 ho).1
  have hR1 := hR.cell_put (v' := .int .i32 1) (u' := .int .i32 1) ho hl hj1 .int rfl
  rw [hb, Nat.zero_mul, Nat.zero_add]
  refine (sy_first l.block j pv w (fun w' => ∃ K' ρ' H' cs', H'[id]? = some (.box cs' t) ∧ cs'[j]? = some (.int .u32 0) ∧ cs'[j + 1]? = some (.int .i32 1) ∧ Q (.ret (.tup [])) (H'.set id (.box ((cs'.set j (.int .u32 1)).set (j + 1) (.int .i32 0)) t)) ∧ Next G H.length K ρ K' ρ' H' w') hc hc' hz hz' ?_ ?_).mono ?_
  · refine (hf.2 G K ρ _ #[pv] hR1 ?_).mono ?_
    · exact ⟨rfl, fun i v u h1 h2 => by
        cases i with
        | zero => simp at h1 h2; subst h1; subst h2; exact hp
        | succ i => simp at h1⟩
    · rintro e w' ⟨K', ρ', ae, H', ⟨rfl, cs', h1, h2, h3, h4⟩, hE, hN⟩
      rw [List.length_set] at hN
      cases e with
      | returned v =>
        obtain ⟨vs, rfl, hvs⟩ := inv_tup hE
        have : vs = #[] := by
          have := hvs.1
          simp at this
          exact Array.eq_empty_of_size_eq_zero this.symm
        subst this
        exact ⟨rfl, K', ρ', H', cs', h1, h2, h3, h4, hN⟩
      | panicked c => exact hE.elim
      | outgrown => exact hE.elim
  · rintro w' ⟨K', ρ', H', cs', h1, h2, h3, h4, hN⟩
    have hl' : ρ' id = some l := by rw [hN.low id hid]; exact hl
    obtain ⟨_, q1, x1, q2, q3⟩ := hN.rel.box_at h1 hl' h2
    obtain ⟨_, q4, x2, q5, q6⟩ := hN.rel.box_at h1 hl' h3
    obtain rfl := inv_int q3
    obtain rfl := inv_int q6
    exact ⟨q2, q5, q1, q4⟩
  · rintro e w2 ⟨rfl, w', ⟨K', ρ', H', cs', h1, h2, h3, h4, hN⟩, rfl⟩
    have hl' : ρ' id = some l := by rw [hN.low id hid]; exact hl
    have r1 := (hN.rel.drawn (w'.drawn + 1)).cell_put (v' := .int .u32 1) (u' := .int .u32 1) h1 hl' h2 .int rfl
    have hid' : id < H'.length := (List.getElem?_eq_some_iff.1 h1).1
    have h3' : (cs'.set j (.int .u32 1))[j + 1]? = some (.int .i32 1) := by rw [List.getElem?_set_ne (by omega)]; exact h3
    have r2 := r1.cell_put (cs := cs'.set j (.int .u32 1)) (t := t) (v' := .int .i32 0) (u' := .int .i32 0) (List.getElem?_set_self hid') hl' h3' .int rfl
    rw [List.set_set] at r2
    exact ⟨K', ρ', _, _, h4, .tup rfl (fun i v u h => by simp at h), ⟨r2, hN.keep, hN.low⟩⟩
theorem A_first2 {p : AV} (ho : H[id]? = some (.box cs t)) (hj : cs[j]? = some (.int .u32 0)) (hj1 : cs[j + 1]? = some (.int .i32 0))
    (hf : ACalls Try.prog 65 [p] (H.set id (.box (cs.set (j + 1) (.int .i32 1)) t)) (fun e H' => e = .ret (.tup []) ∧ ∃ cs', H'[id]? = some (.box cs' t) ∧ cs'[j]? = some (.int .u32 0) ∧ cs'[j + 1]? = some (.int .i32 1) ∧ Q (.ret (.tup [])) (H'.set id (.box ((cs'.set j (.int .u32 1)).set (j + 1) (.int .i32 0)) t)))) :
    ACalls Try.prog 64 [.ptr id 0 j, .fn (.func 65) [] [p]] H Q := by
  refine ⟨ok_sy Try.func64 (by decide +kernel) (by kernel_rfl), fun G K ρ w us hR hV => ?_⟩
  obtain ⟨u, u2, rfl, hu, hu2⟩ := vrs2 hV
  obtain ⟨l, hl, rfl⟩ := inv_ptr hu
  obtain ⟨x1, y1, rfl, hx1, hy1⟩ := inv_fn hu2
  obtain ⟨pv, rfl, hp⟩ := vrs1 hy1; have : x1 = #[] := Array.eq_empty_of_size_eq_zero hx1.1.symm; subst this
  obtain ⟨hb, hz, x, hc, hx⟩ := hR.box_at ho hl hj
  obtain rfl := inv_int hx
  obtain ⟨_, hz', x', hc', hx'⟩ := hR.box_at ho hl hj1
  obtain rfl := inv_int hx'
  have hid : id < H.length := (List.getElem?_eq_some_iff.1 ho).1
  have hR1 := hR.cell_put (v' := .int .i32 1) (u' := .int .i32 1) ho hl hj1 .int rfl
  rw [hb, Nat.zero_mul, Nat.zero_add]
  refine (sy_first2 l.block j pv w (fun w' => ∃ K' ρ' H' cs', H'[id]? = some (.box cs' t) ∧ cs'[j]? = some (.int .u32 0) ∧ cs'[j + 1]? = some (.int .i32 1) ∧ Q (.ret (.tup [])) (H'.set id (.box ((cs'.set j (.int .u32 1)).set (j + 1) (.int .i32 0)) t)) ∧ Next G H.length K ρ K' ρ' H' w') hc hc' hz hz' ?_ ?_).mono ?_
  · refine (hf.2 G K ρ _ #[pv] hR1 ?_).mono ?_
    · exact ⟨rfl, fun i v u h1 h2 => by
        cases i with
        | zero => simp at h1 h2; subst h1; subst h2; exact hp
        | succ i => simp at h1⟩
    · rintro e w' ⟨K', ρ', ae, H', ⟨rfl, cs', h1, h2, h3, h4⟩, hE, hN⟩
      rw [List.length_set] at hN
      cases e with
      | returned v =>
        obtain ⟨vs, rfl, hvs⟩ := inv_tup hE
        have : vs = #[] := by
          have := hvs.1
          simp at this
          exact Array.eq_empty_of_size_eq_zero this.symm
        subst this
        exact ⟨rfl, K', ρ', H', cs', h1, h2, h3, h4, hN⟩
      | panicked c => exact hE.elim
      | outgrown => exact hE.elim
  · rintro w' ⟨K', ρ', H', cs', h1, h2, h3, h4, hN⟩
    have hl' : ρ' id = some l := by rw [hN.low id hid]; exact hl
    obtain ⟨_, q1, x1, q2, q3⟩ := hN.rel.box_at h1 hl' h2
    obtain ⟨_, q4, x2, q5, q6⟩ := hN.rel.box_at h1 hl' h3
    obtain rfl := inv_int q3
    obtain rfl := inv_int q6
    exact ⟨q2, q5, q1, q4⟩
  · rintro e w2 ⟨rfl, w', ⟨K', ρ', H', cs', h1, h2, h3, h4, hN⟩, rfl⟩
    have hl' : ρ' id = some l := by rw [hN.low id hid]; exact hl
    have r1 := (hN.rel.drawn (w'.drawn + 1)).cell_put (v' := .int .u32 1) (u' := .int .u32 1) h1 hl' h2 .int rfl
    have hid' : id < H'.length := (List.getElem?_eq_some_iff.1 h1).1
    have h3' : (cs'.set j (.int .u32 1))[j + 1]? = some (.int .i32 1) := by rw [List.getElem?_set_ne (by omega)]; exact h3
    have r2 := r1.cell_put (cs := cs'.set j (.int .u32 1)) (t := t) (v' := .int .i32 0) (u' := .int .i32 0) (List.getElem?_set_self hid') hl' h3' .int rfl
    rw [List.set_set] at r2
    exact ⟨K', ρ', _, _, h4, .tup rfl (fun i v u h => by simp at h), ⟨r2, hN.keep, hN.low⟩⟩
end
end Go.Proofs.Ytejkiahbknjmaaa.AI
