/- The abstract machine, part 16: what a statement's input is by sight. -/
import Derived.Test.YtejkiahbknjmaaaA15
import Derived.ChangeArms
import Derived.OpenShut
import Derived.ChangeSame
import Derived.WideShapes
import Derived.DataReads
import Derived.Deep.Slices
import Derived.Below
import Derived.SizedLaws
import Derived.WalkKit
import Derived.ProofKit
set_option linter.unusedVariables false
set_option linter.unusedSimpArgs false
namespace Go.Proofs.Ytejkiahbknjmaaa.AI
open Go.Deep Go.ChangeShapes Go.WideShapes Go.ChangeAt Go.RowKit

def allK (w : World) : (Nat → Option Obj) := fun b => w.heap[b]?
theorem kcell_all {w : World} {a : Addr} : kcell (allK w) a = w.cell? a := rfl

/-- Cells by sight. -/
def RD (w : World) (vs : List AV) (cs : List Value) : Prop :=
  vs.length = cs.length ∧ (∀ u ∈ cs, one u = true) ∧ ∀ (j : Nat) (v : AV) (u : Value), vs[j]? = some v → cs[j]? = some u → VR (allK w) rnone v u

theorem RD.one {w : World} {v : AV} {u : Value} (h1 : AI.one u = true) (h : VR (allK w) rnone v u) : RD w [v] [u] := by
  refine ⟨rfl, by simpa using h1, fun j v' u' hv hu => ?_⟩
  cases j with
  | zero => simp at hv hu; subst hv hu; exact h
  | succ j => simp at hv
theorem RD.append {w : World} {vs vs' : List AV} {cs cs' : List Value} (h : RD w vs cs) (h' : RD w vs' cs') : RD w (vs ++ vs') (cs ++ cs') := by
  refine ⟨by simp [h.1, h'.1], fun u hu => ?_, fun j v u hv hu => ?_⟩
  · rcases List.mem_append.1 hu with hu | hu
    · exact h.2.1 u hu
    · exact h'.2.1 u hu
  · by_cases hj : j < vs.length
    · rw [List.getElem?_append_left hj] at hv
      rw [List.getElem?_append_left (h.1 ▸ hj)] at hu
      exact h.2.2 j v u hv hu
    · rw [List.getElem?_append_right (by omega)] at hv
      rw [List.getElem?_append_right (by rw [← h.1]; omega), ← h.1] at hu
      exact h'.2.2 _ v u hv hu

theorem RD.vrs {w : World} {vs : List AV} {cs : List Value} (h : RD w vs cs) : VRs (allK w) rnone vs cs.toArray :=
  ⟨by simpa using h.1, fun i v u hv hu => h.2.2 i v u hv (by simpa using hu)⟩

/-- Whatever reads as data of this type is so by sight. -/
def Reads {α : Type} (P : Program) (t : TypeId) (e : α → List AV) (wf : α → Prop) : Prop :=
  ∀ (H : Type) (enc : TypeId × Value → H) (w : World) (base : Nat) (spare : Nat → Bool) (held : Bool) (fuel : Nat) (cs : List Value) (x : DataW H × List MemPlace),
    DataW.trod enc P w base spare held fuel t cs = some x → (∀ n ∈ x.1.weights P t, n ≤ reachBytes) → ∃ a : α, RD w (e a) cs ∧ wf a
theorem Reads.int {P : Program} {t : TypeId} {k : IntKind} (ht : P.underlying t = some (.int k)) : Reads P t (fun n => [.int k n]) (fun n => (Lit.int k n).wf = true) := by
  intro H enc w base spare held fuel cs x h _
  obtain ⟨n, rfl, _, hw⟩ := DataW.trod_int ht h
  exact ⟨n, RD.one rfl .int, hw⟩
theorem Reads.bool {P : Program} {t : TypeId} (ht : P.underlying t = some .bool) : Reads P t (fun b => [.bool b]) (fun _ => True) := by
  intro H enc w base spare held fuel cs x h _
  obtain ⟨n, rfl, _⟩ := DataW.trod_bool ht h
  exact ⟨n, RD.one rfl .bool, trivial⟩
theorem Reads.string {P : Program} {t : TypeId} (ht : P.underlying t = some .string) : Reads P t (fun s => [.str s]) (fun s => s.size ≤ maxLen) := by
  intro H enc w base spare held fuel cs x h _
  obtain ⟨s, rfl, _, hs⟩ := DataW.trod_string ht h
  exact ⟨s, RD.one rfl .str, hs⟩
/-- Told as a type of one's own. -/
theorem Reads.iso {α β : Type} {P : Program} {t : TypeId} {e : α → List AV} {wf : α → Prop} (h : Reads P t e wf) {e' : β → List AV} {wf' : β → Prop} (g : α → β) (he : ∀ a, e' (g a) = e a) (hw : ∀ a, wf a → wf' (g a)) : Reads P t e' wf' := by
  intro H enc w base spare held fuel cs x hx hz
  obtain ⟨a, h1, h2⟩ := h H enc w base spare held fuel cs x hx hz
  exact ⟨g a, by rw [he]; exact h1, hw a h2⟩
/-- A struct's fields from a place on. -/
def FReads {α : Type} (P : Program) (fs : List Field) (off n : Nat) (e : α → List AV) (wf : α → Prop) : Prop :=
  ∀ (H : Type) (enc : TypeId × Value → H) (w : World) (base : Nat) (spare : Nat → Bool) (held : Bool) (fuel : Nat) (cs : List Value) (xs : List (DataW H × List MemPlace)),
    cs.length = off + n → xs.length = fs.length → (∀ (i : Nat) (f : Field), fs[i]? = some f → DataW.trod enc P w base spare held fuel f.type ((cs.drop f.offset).take (P.cellsOf f.type)) = xs[i]?) →
    (∀ n ∈ DataW.weightsEach P (fs.map (·.type)) (xs.map (·.1)), n ≤ reachBytes) → ∃ a : α, RD w (e a) (cs.drop off) ∧ wf a
theorem FReads.last {α : Type} {P : Program} {f : Field} {off n : Nat} {e : α → List AV} {wf : α → Prop} (h : Reads P f.type e wf) (ho : f.offset = off) (hc : P.cellsOf f.type = n) : FReads P [f] off n e wf := by
  intro H enc w base spare held fuel cs xs hl hx hf hz
  match xs, hx with
  | [y], _ =>
    have h1 := hf 0 f rfl
    rw [ho, hc, List.take_of_length_le (by rw [List.length_drop]; omega)] at h1
    exact h H enc w base spare held fuel _ y h1 fun k hk => hz k (by simp [DataW.weightsEach, hk])
theorem FReads.cons {α β : Type} {P : Program} {f : Field} {fs : List Field} {off m n : Nat} {e : α → List AV} {e' : β → List AV} {wf : α → Prop} {wf' : β → Prop} (h : Reads P f.type e wf) (ho : f.offset = off) (hc : P.cellsOf f.type = m) (hr : FReads P fs (off + m) n e' wf') :
    FReads P (f :: fs) off (m + n) (fun p : α × β => e p.1 ++ e' p.2) (fun p => wf p.1 ∧ wf' p.2) := by
  intro H enc w base spare held fuel cs xs hl hx hf hz
  match xs, hx with
  | y :: ys, hx =>
    have h1 := hf 0 f rfl
    rw [ho, hc] at h1
    obtain ⟨a, hk, hw⟩ := h H enc w base spare held fuel _ y h1 fun k hk => hz k (by simp only [List.map_cons, DataW.weightsEach, List.mem_append]; exact .inl hk)
    obtain ⟨b, hk', hw'⟩ := hr H enc w base spare held fuel cs ys (by omega) (by simpa using hx) (fun i f' hi => by
      have := hf (i + 1) f' (by simpa using hi)
      simpa using this) fun k hk => hz k (by simp only [List.map_cons, DataW.weightsEach, List.mem_append]; exact .inr hk)
    refine ⟨(a, b), ?_, hw, hw'⟩
    have := hk.append hk'
    rwa [← List.drop_drop, List.take_append_drop] at this
theorem Reads.struct {α : Type} {P : Program} {t : TypeId} {fs : Array Field} {n : Nat} {e : α → List AV} {wf : α → Prop} (ht : P.underlying t = some (.struct fs)) (hc : P.cellsOf t = n) (h : FReads P fs.toList 0 n e wf) : Reads P t e wf := by
  intro H enc w base spare held fuel cs x hx hz
  obtain ⟨xs, m, _, hxe, hl, hxl, hf⟩ := DataW.trod_struct ht hx
  have := h H enc w base spare held m cs xs (by omega) (by simpa using hxl) (fun i f hi => hf i f (by simpa using hi)) fun k hk => hz k (by rw [hxe]; simp only [DataW.weights, ht]; exact hk)
  simpa using this

theorem choose_lt {α : Type} [Inhabited α] {p : Nat → α → Prop} {n : Nat} (h : ∀ i, i < n → ∃ a, p i a) : ∃ f : Nat → α, ∀ i, i < n → p i (f i) :=
  ⟨fun i => if hi : i < n then (h i hi).choose else default, fun i hi => by simp only [dif_pos hi]; exact (h i hi).choose_spec⟩

theorem weightsAll_mem {H : Type} {P : Program} {e : TypeId} {d : DataW H} {n : Nat} : ∀ {l : List (DataW H)}, d ∈ l → n ∈ d.weights P e → n ∈ DataW.weightsAll P e l
  | x :: l, hd, hn => by
    simp only [DataW.weightsAll, List.mem_append]
    rcases List.mem_cons.1 hd with rfl | hd
    · exact .inl hn
    · exact .inr (weightsAll_mem hd hn)
theorem Reads.slice {α : Type} [Inhabited α] {P : Program} {t el : TypeId} {e : α → List AV} {wf : α → Prop} {B : Nat} (ht : P.underlying t = some (.slice el)) (hB : P.bytesOf el = B) (h : Reads P el e wf) :
    Reads P t (fun l : List α => [.vec false (l.map e)]) (fun l => l.length * B ≤ 140737488351232 ∧ ∀ x ∈ l, wf x) := by
  intro H enc w base spare held fuel cs x hx hz
  rcases open_slice ht hx with ⟨rfl, _⟩ | ⟨a, len, cap, m, n, D, Pl, rfl, hb, hl, hm, hmm, hxe, hi⟩
  · refine ⟨[], RD.one rfl ?_, by simp, fun x hx => by simp at hx⟩
    exact VR.vec (K := allK w) (ρ := rnone) (cap := false) (es := []) (A := none) (c := 0) ⟨0, 0, none⟩ 0 (fun _ _ => .bool false) (by simp) (by simp) (.inl rfl) (by simp) (by simp) (fun _ _ => rfl) (by simp)
  · have hlm : len ≤ m := by rw [hmm]; split <;> omega
    have hch : ∀ i, i < len → ∃ p : α × List Value, RD w (e p.1) p.2 ∧ wf p.1 ∧ p.2.length = P.cellsOf el ∧ ∀ j u, p.2[j]? = some u → w.cell? (a.add (i * P.cellsOf el + j)) = some u := by
      intro i hil
      obtain ⟨cs', hcs, htr⟩ := hi i (by omega)
      obtain ⟨v, hk, hw⟩ := h H enc w base spare held n cs' _ htr fun k hk => hz k (by rw [hxe]; simp only [DataW.weights, ht, List.mem_cons, List.mem_append]; exact .inr (.inl (weightsAll_mem (List.mem_map.2 ⟨i, List.mem_range.2 hil, rfl⟩) hk)))
      obtain ⟨_, hcl, hat⟩ := World.cells?_some hcs
      refine ⟨(v, cs'), hk, hw, hcl, fun j u hj => ?_⟩
      have hjl : j < P.cellsOf el := by
        rcases Nat.lt_or_ge j cs'.length with h' | h'
        · omega
        · simp only at hj; rw [List.getElem?_eq_none h'] at hj; cases hj
      rw [← Go.Deep.add_add]
      exact (hat j hjl).trans hj
    obtain ⟨V, hV⟩ := choose_lt hch
    have hlen : ((List.range len).map fun i => (V i).1).length = len := by simp
    refine ⟨(List.range len).map fun i => (V i).1, RD.one rfl ?_, ?_, fun x hx => ?_⟩
    · have hv := VR.vec (K := allK w) (ρ := rnone) (cap := false) (es := ((List.range len).map fun i => (V i).1).map e) (A := some a) (c := cap) a (P.cellsOf el)
        (fun i j => if i < len then ((V i).2[j]?).getD (.bool false) else .bool false) (by simp) (by simpa using hl) (.inr rfl) ?_ ?_ ?_ ?_
      · simpa using hv
      · intro c hc
        simp only [List.map_map, List.mem_map, List.mem_range, Function.comp] at hc
        obtain ⟨i, hi, rfl⟩ := hc
        rw [(hV i hi).1.1, (hV i hi).2.2.1]
      · intro i j hil hj
        have hil' : i < len := by simpa using hil
        rw [kcell_all, if_pos hil']
        have hjl : j < (V i).2.length := by rw [(hV i hil').2.2.1]; exact hj
        rw [List.getElem?_eq_getElem hjl]
        exact (hV i hil').2.2.2 j _ (List.getElem?_eq_getElem hjl)
      · intro i j
        show AI.one (if i < len then _ else _) = true
        by_cases hil : i < len
        · rw [if_pos hil]
          cases hc : (V i).2[j]? with
          | none => rfl
          | some u => exact (hV i hil).1.2.1 u (List.mem_of_getElem? hc)
        · rw [if_neg hil]; rfl
      · intro i j cl v hcl hv
        simp only [List.map_map, List.getElem?_map, Option.map_eq_some_iff, Function.comp] at hcl
        obtain ⟨k, hk, rfl⟩ := hcl
        have hil : i < len := by
          have := (List.getElem?_eq_some_iff.1 hk).1
          simpa using this
        have hki : k = i := by
          have := (List.getElem?_eq_some_iff.1 hk).2
          simpa using this.symm
        subst hki
        show VR _ _ v (if k < len then _ else _)
        rw [if_pos hil]
        have hjl : j < (V k).2.length := by
          have := (List.getElem?_eq_some_iff.1 hv).1
          rw [(hV k hil).1.1] at this
          exact this
        rw [List.getElem?_eq_getElem hjl]
        exact (hV k hil).1.2.2 j v _ hv (List.getElem?_eq_getElem hjl)
    · have hw := hz ((len + (m - len)) * P.bytesOf el) (by rw [hxe]; simp [DataW.weights, ht])
      rw [hB] at hw
      have : len * B ≤ (len + (m - len)) * B := Nat.mul_le_mul_right _ (by omega)
      rw [hlen]
      exact Nat.le_trans this hw
    · obtain ⟨i, hi', rfl⟩ := List.mem_map.1 hx
      exact (hV i (List.mem_range.1 hi')).2.1

/-- An array of two. -/
theorem Reads.array2 {α : Type} {P : Program} {t el : TypeId} {n : Nat} {e : α → List AV} {wf : α → Prop} (ht : P.underlying t = some (.array 2 el)) (hn : P.cellsOf el = n) (hc : P.cellsOf t = n + n) (h : Reads P el e wf) :
    Reads P t (fun p : α × α => e p.1 ++ e p.2) (fun p => wf p.1 ∧ wf p.2) := by
  intro H enc w base spare held fuel cs x hx hz
  obtain ⟨xs, m, _, hxe, hl, hxl, hf⟩ := DataW.trod_array ht hx
  match xs, hxl with
  | [x0, x1], _ =>
    have h0 := hf 0 (by omega)
    have h1 := hf 1 (by omega)
    rw [hn, Nat.zero_mul, List.drop_zero] at h0
    rw [hn, Nat.one_mul, List.take_of_length_le (by rw [List.length_drop]; omega)] at h1
    obtain ⟨a, hk, hw⟩ := h H enc w base spare held m _ x0 h0 fun k hk => hz k (by rw [hxe]; simp only [DataW.weights, ht, List.map_cons, DataW.weightsAll, List.mem_append]; exact .inl hk)
    obtain ⟨b, hk', hw'⟩ := h H enc w base spare held m _ x1 h1 fun k hk => hz k (by rw [hxe]; simp only [DataW.weights, ht, List.map_cons, DataW.weightsAll, List.mem_append]; exact .inr (.inl hk))
    refine ⟨(a, b), ?_, hw, hw'⟩
    have := hk.append hk'
    rwa [List.take_append_drop] at this
/-- A parameter's share of what is known of all sizes. -/
theorem weights_arg {H : Type} {P : Program} {ts : List TypeId} {ds : List (DataW H)} (h : (DataW.weightsEach P ts ds).all (· ≤ reachBytes) = true) {j : Nat} {t : TypeId} {d : DataW H} (ht : ts[j]? = some t) (hd : ds[j]? = some d) : ∀ n ∈ d.weights P t, n ≤ reachBytes := by
  intro n hn
  have := List.all_eq_true.1 h _ (DataW.weights_mem_each ht hd n hn)
  simpa using this

/-- Arguments, one after another. -/
theorem RD.get1 {w : World} {v : AV} {u : Value} (h : RD w [v] [u]) : VR (allK w) rnone v u := h.2.2 0 v u rfl rfl
theorem RD.agg1 {w : World} {vs : List AV} {cs : Array Value} (h : RD w vs cs.toList) : VR (allK w) rnone (.agg vs) (.agg cs) :=
  .agg (by simpa using h.1) (fun u hu => h.2.1 u (by simpa using hu)) (fun i v u hv hu => h.2.2 i v u hv (by simpa using hu))
theorem vrs_nil {K : (Nat → Option Obj)} {ρ : (Nat → Option Loc)} : VRs K ρ [] (List.toArray []) := ⟨rfl, fun i v u h => by simp at h⟩
theorem vrs_cons {K : (Nat → Option Obj)} {ρ : (Nat → Option Loc)} {v : AV} {u : Value} {vs : List AV} {l : List Value} (h : VR K ρ v u) (hs : VRs K ρ vs (List.toArray l)) : VRs K ρ (v :: vs) (List.toArray (u :: l)) := by
  refine ⟨by have := hs.1; simp at this; simp [this], fun i v' u' hv hu => ?_⟩
  cases i with
  | zero => simp at hv hu; subst hv hu; exact h
  | succ i => exact hs.2 i v' u' (by simpa using hv) (by simpa using hu)

/-- What is run on all that there was leaves it as it was. -/
theorem ACalls.below {P : Program} {f : FuncId} {args : List AV} (h : ACalls P f args [] fun e H => e = .ret (.bool true)) {w : World} {us : Array Value} (hV : VRs (allK w) rnone args us) :
    Calls P f us w fun e w' => e = .returned (.bool true) ∧ Below w.heap.size w w' := by
  have hR : Rel ⟨w.os, w.tape, w.output, fun _ => none⟩ (allK w) rnone [] w :=
    ⟨rfl, rfl, rfl, fun b o h => h, fun b o h => (by cases h), fun b o h => (by cases h), fun id _ => rfl, fun id o h => (by simp at h), fun id o l h => (by simp at h), fun i j oi oj li lj h => (by simp at h)⟩
  refine (h.2 _ _ _ w us hR hV).mono ?_
  rintro e w' ⟨K', ρ', ae, H', rfl, hE, hN⟩
  cases e with
  | returned u =>
    have hu : VR K' ρ' (.bool true) u := hE
    cases hu
    have hb : ∀ k, k < w.heap.size → w'.heap[k]? = w.heap[k]? := by
      intro k hk
      have h1 : allK w k = some w.heap[k] := by simp [allK, hk]
      rw [hN.rel.keep _ _ (hN.keep _ _ h1)]
      simp [hk]
    refine ⟨rfl, hN.rel.os, hN.rel.tape, hN.rel.output, ?_, hb⟩
    rcases Nat.lt_or_ge w'.heap.size w.heap.size with hlt | hge
    · have := hb w'.heap.size hlt
      simp at this
      omega
    · exact hge
  | _ => exact hE.elim
end Go.Proofs.Ytejkiahbknjmaaa.AI
