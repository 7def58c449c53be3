import Derived.Test.YtcbhlpbkampfeaaA15
import Derived.ChangeArms
import Derived.OpenShut
import Derived.ChangeSame
import Derived.WideShapes
import Derived.DataReads
import Derived.Deep.Slices
import Derived.Below
import Derived.SizedLaws
import Derived.WalkKit
import Derived.ProofKit
/- Part of a proof. -/
set_option linter.unusedVariables false
set_option linter.unusedSimpArgs false
namespace Go.Proofs.Ytcbhlpbkampfeaa.AI
open Go.Deep Go.ChangeShapes Go.WideShapes Go.ChangeAt Go.RowKit

def allK (w : World) : (Nat → Option Obj) := fun b => w.heap[b]?
theorem kcell_all {w : World} {a : Addr} : kcell (allK w) a = w.cell? a := rfl

def RD (w : World) (vs : List AV) (cs : List Value) : Prop :=
 vs.length = cs.length ∧ (∀ u ∈ cs, one u = true) ∧ ∀ (j : Nat) (v : AV) (u : Value), vs[j]? = some v → cs[j]? = some u → VR (allK w) rnone v u

theorem RD.one {w : World} {v : AV} {u : Value} (h1 : AI.one u = true) (h : VR (allK w) rnone v u) : RD w [v] [u] := by
 refine ⟨rfl, by simpa using h1, fun j v' u' hv hu => ?_⟩
 cases j with
 | zero => simp at hv hu; subst hv hu; exact h
 | succ j => simp at hv
def Reads {α : Type} (P : Program) (t : TypeId) (e : α → List AV) (wf : α → Prop) : Prop :=
 ∀ (H : Type) (enc : TypeId × Value → H) (w : World) (base : Nat) (spare : Nat → Bool) (held : Bool) (fuel : Nat) (cs : List Value) (x : DataW H × List MemPlace),
  DataW.trod enc P w base spare held fuel t cs = some x → (∀ n ∈ x.1.weights P t, n ≤ reachBytes) → ∃ a : α, RD w (e a) cs ∧ wf a
theorem Reads.int {P : Program} {t : TypeId} {k : IntKind} (ht : P.underlying t = some (.int k)) : Reads P t (fun n => [.int k n]) (fun n => (Lit.int k n).wf = true) := by
 intro H enc w base spare held fuel cs x h _
 obtain ⟨n, rfl, _, hw⟩ := DataW.trod_int ht h
 exact ⟨n, RD.one rfl .int, hw⟩
theorem choose_lt {α : Type} [Inhabited α] {p : Nat → α → Prop} {n : Nat} (h : ∀ i, i < n → ∃ a, p i a) : ∃ f : Nat → α, ∀ i, i < n → p i (f i) :=
 ⟨fun i => if hi : i < n then (h i hi).choose else default, fun i hi => by simp only [dif_pos hi]; exact (h i hi).choose_spec⟩

theorem Xdy {H : Type} {P : Program} {e : TypeId} {d : DataW H} {n : Nat} : ∀ {l : List (DataW H)}, d ∈ l → n ∈ d.weights P e → n ∈ DataW.weightsAll P e l
 | x :: l, hd, hn => by
  simp only [DataW.weightsAll, List.mem_append]
  rcases List.mem_cons.1 hd with rfl | hd
  ·
   exact .inl hn
  ·
   exact .inr (Xdy hd hn)
theorem Reads.slice {α : Type} [Inhabited α] {P : Program} {t el : TypeId} {e : α → List AV} {wf : α → Prop} {B : Nat} (ht : P.underlying t = some (.slice el)) (hB : P.bytesOf el = B) (h : Reads P el e wf) :
  Reads P t (fun l : List α => [.vec false (l.map e)]) (fun l => l.length * B ≤ 140737488351232 ∧ ∀ x ∈ l, wf x) := by
 intro H enc w base spare held fuel cs x hx hz
 rcases open_slice ht hx with ⟨rfl, _⟩ | ⟨a, len, cap, m, n, D, Pl, rfl, hb, hl, hm, hmm, hxe, hi⟩
 ·
  refine ⟨[], RD.one rfl ?_, by simp, fun x hx => by simp at hx⟩
  exact VR.vec (K := allK w) (ρ := rnone) (cap := false) (es := []) (A := none) (c := 0) ⟨0, 0, none⟩ 0 (fun _ _ => .bool false) (by simp) (by simp) (.inl rfl) (by simp) (by simp) (fun _ _ => rfl) (by simp)
 ·
  have hlm : len ≤ m := by rw [hmm]; split <;> omega
  have hch : ∀ i, i < len → ∃ p : α × List Value, RD w (e p.1) p.2 ∧ wf p.1 ∧ p.2.length = P.cellsOf el ∧ ∀ j u, p.2[j]? = some u → w.cell? (a.add (i * P.cellsOf el + j)) = some u := by
   intro i hil
   obtain ⟨cs', hcs, htr⟩ := hi i (by omega)
   obtain ⟨v, hk, hw⟩ := h H enc w base spare held n cs' _ htr fun k hk => hz k (by rw [hxe]; simp only [DataW.weights, ht, List.mem_cons, List.mem_append]; exact .inr (.inl (Xdy (List.mem_map.2 ⟨i, List.mem_range.2 hil, rfl⟩) hk)))
   obtain ⟨_, hcl, hat⟩ := World.cells?_some hcs
   refine ⟨(v, cs'), hk, hw, hcl, fun j u hj => ?_⟩
   have hjl : j < P.cellsOf el := by
    rcases Nat.lt_or_ge j cs'.length with h' | h'
    ·
     omega
    ·
     simp only at hj; rw [List.getElem?_eq_none h'] at hj; cases hj
   rw [← Go.Deep.add_add]
   exact (hat j hjl).trans hj
  obtain ⟨V, hV⟩ := choose_lt hch
  have hlen : ((List.range len).map fun i => (V i).1).length = len := by simp
  refine ⟨(List.range len).map fun i => (V i).1, RD.one rfl ?_, ?_, fun x hx => ?_⟩
  ·
   have hv := VR.vec (K := allK w) (ρ := rnone) (cap := false) (es := ((List.range len).map fun i => (V i).1).map e) (A := some a) (c := cap) a (P.cellsOf el)
    (fun i j => if i < len then ((V i).2[j]?).getD (.bool false) else .bool false) (by simp) (by simpa using hl) (.inr rfl) ?_ ?_ ?_ ?_
   ·
    simpa using hv
   ·
    intro c hc
    simp only [List.map_map, List.mem_map, List.mem_range, Function.comp] at hc
    obtain ⟨i, hi, rfl⟩ := hc
    rw [(hV i hi).1.1, (hV i hi).2.2.1]
   ·
    intro i j hil hj
    have hil' : i < len := by simpa using hil
    rw [kcell_all, if_pos hil']
    have hjl : j < (V i).2.length := by rw [(hV i hil').2.2.1]; exact hj
    rw [List.getElem?_eq_getElem hjl]
    exact (hV i hil').2.2.2 j _ (List.getElem?_eq_getElem hjl)
   ·
    intro i j
    show AI.one (if i < len then _ else _) = true
    by_cases hil : i < len
    ·
     rw [if_pos hil]
     cases hc : (V i).2[j]? with
     | none => rfl
     | some u => exact (hV i hil).1.2.1 u (List.mem_of_getElem? hc)
    ·
     rw [if_neg hil]; rfl
   ·
    intro i j cl v hcl hv
    simp only [List.map_map, List.getElem?_map, Option.map_eq_some_iff, Function.comp] at hcl
    obtain ⟨k, hk, rfl⟩ := hcl
    have hil : i < len := by
     have := (List.getElem?_eq_some_iff.1 hk).1
     simpa using this
    have hki : k = i := by
     have := (List.getElem?_eq_some_iff.1 hk).2
     simpa using this.symm
    subst hki
    show VR _ _ v (if k < len then _ else _)
    rw [if_pos hil]
    have hjl : j < (V k).2.length := by
     have := (List.getElem?_eq_some_iff.1 hv).1
     rw [(hV k hil).1.1] at this
     exact this
    rw [List.getElem?_eq_getElem hjl]
    exact (hV k hil).1.2.2 j v _ hv (List.getElem?_eq_getElem hjl)
  ·
   have hw := hz ((len + (m - len)) * P.bytesOf el) (by rw [hxe]; simp [DataW.weights, ht])
   rw [hB] at hw
   have : len * B ≤ (len + (m - len)) * B := Nat.mul_le_mul_right _ (by omega)
   rw [hlen]
   exact Nat.le_trans this hw
  ·
   obtain ⟨i, hi', rfl⟩ := List.mem_map.1 hx
   exact (hV i (List.mem_range.1 hi')).2.1

theorem Xmy {H : Type} {P : Program} {ts : List TypeId} {ds : List (DataW H)} (h : (DataW.weightsEach P ts ds).all (· ≤ reachBytes) = true) {j : Nat} {t : TypeId} {d : DataW H} (ht : ts[j]? = some t) (hd : ds[j]? = some d) : ∀ n ∈ d.weights P t, n ≤ reachBytes := by
 intro n hn
 have := List.all_eq_true.1 h _ (DataW.weights_mem_each ht hd n hn)
 simpa using this

theorem RD.get1 {w : World} {v : AV} {u : Value} (h : RD w [v] [u]) : VR (allK w) rnone v u := h.2.2 0 v u rfl rfl
theorem vrs_nil {K : (Nat → Option Obj)} {ρ : (Nat → Option Loc)} : VRs K ρ [] (List.toArray []) := ⟨rfl, fun i v u h => by simp at h⟩
theorem Xkg {K : (Nat → Option Obj)} {ρ : (Nat → Option Loc)} {v : AV} {u : Value} {vs : List AV} {l : List Value} (h : VR K ρ v u) (hs : VRs K ρ vs (List.toArray l)) : VRs K ρ (v :: vs) (List.toArray (u :: l)) := by
 refine ⟨by have := hs.1; simp at this; simp [this], fun i v' u' hv hu => ?_⟩
 cases i with
 | zero => simp at hv hu; subst hv hu; exact h
 | succ i => exact hs.2 i v' u' (by simpa using hv) (by simpa using hu)

theorem Xa.below {P : Program} {f : FuncId} {args : List AV} (h : Xa P f args [] fun e H => e = .ret (.bool true)) {w : World} {us : Array Value} (hV : VRs (allK w) rnone args us) :
  Calls P f us w fun e w' => e = .returned (.bool true) ∧ Below w.heap.size w w' := by
 have hR : Rel ⟨w.os, w.tape, w.output, fun _ => none⟩ (allK w) rnone [] w :=
  ⟨rfl, rfl, rfl, fun b o h => h, fun b o h => (by cases h), fun b o h => (by cases h), fun id _ => rfl, fun id o h => (by simp at h), fun id o l h => (by simp at h), fun i j oi oj li lj h => (by simp at h)⟩
 refine (h.2 _ _ _ w us hR hV).mono ?_
 rintro e w' ⟨K', ρ', ae, H', rfl, hE, hN⟩
 cases e with
 | returned u =>
  have hu : VR K' ρ' (.bool true) u := hE
  cases hu
  have hb : ∀ k, k < w.heap.size → w'.heap[k]? = w.heap[k]? := by
   intro k hk
   have h1 : allK w k = some w.heap[k] := by simp [allK, hk]
   rw [hN.rel.keep _ _ (hN.keep _ _ h1)]
   simp [hk]
  refine ⟨rfl, hN.rel.os, hN.rel.tape, hN.rel.output, ?_, hb⟩
  rcases Nat.lt_or_ge w'.heap.size w.heap.size with hlt | hge
  ·
   have := hb w'.heap.size hlt
   simp at this
   omega
  ·
   exact hge
 | _ => exact hE.elim
end Go.Proofs.Ytcbhlpbkampfeaa.AI
