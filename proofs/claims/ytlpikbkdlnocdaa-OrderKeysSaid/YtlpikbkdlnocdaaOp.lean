/- Arguments that read as data are told by the print's kinds: slices, structs and arrays of any depth. Conditions: the type's underlying description, its fields' places, its cells. -/
import Derived.Test.YtlpikbkdlnocdaaWWords
import Derived.Test.YtlpikbkdlnocdaaWLast
import Derived.ChangeArms
import Derived.OpenShut
import Derived.ChangeSame
import Derived.WideShapes
import Derived.DataReads
import Derived.Deep.Slices
import Derived.KernelRfl
namespace Go.Proofs.Ytlpikbkdlnocdaa.Op
open Go.RowKit Go.Proofs.YtlpikbkdlnocdaaW.PrintWords Go.Deep Go.ChangeShapes Go.WideShapes

/-- Whatever reads as data of this type is a value of this kind. -/
def Opens {α : Type} (P : Program) (t : TypeId) (d : Kd α) (wf : α → Prop) : Prop :=
  ∀ (H : Type) (enc : TypeId × Value → H) (w : World) (base : Nat) (spare : Nat → Bool) (held : Bool) (fuel : Nat) (cs : List Value) (x : DataW H × List MemPlace),
    DataW.trod enc P w base spare held fuel t cs = some x → ∃ a : α, d.K w a cs ∧ wf a
theorem Opens.int {P : Program} {t : TypeId} {k : IntKind} (ht : P.underlying t = some (.int k)) : Opens P t (Kd.int k) (fun n => (Lit.int k n).wf = true) := by
  intro H enc w base spare held fuel cs x h
  obtain ⟨n, rfl, _, hw⟩ := DataW.trod_int ht h
  exact ⟨n, rfl, hw⟩
theorem Opens.bool {P : Program} {t : TypeId} (ht : P.underlying t = some .bool) : Opens P t Kd.bool (fun _ => True) := by
  intro H enc w base spare held fuel cs x h
  obtain ⟨n, rfl, _⟩ := DataW.trod_bool ht h
  exact ⟨n, rfl, trivial⟩
theorem Opens.string {P : Program} {t : TypeId} (ht : P.underlying t = some .string) : Opens P t Kd.string (fun s => s.size ≤ maxLen) := by
  intro H enc w base spare held fuel cs x h
  obtain ⟨s, rfl, _, hs⟩ := DataW.trod_string ht h
  exact ⟨s, rfl, hs⟩
theorem Opens.iso {α β : Type} {P : Program} {t : TypeId} {d : Kd α} {wf : α → Prop} (h : Opens P t d wf) (f : β → α) (g : α → β) (hfg : ∀ a, f (g a) = a) : Opens P t (Kd.iso d f) (fun b => wf (f b)) := by
  intro H enc w base spare held fuel cs x hx
  obtain ⟨a, hk, hw⟩ := h H enc w base spare held fuel cs x hx
  refine ⟨g a, ?_, ?_⟩
  · show d.K w (f (g a)) cs
    rw [hfg]; exact hk
  · show wf (f (g a))
    rw [hfg]; exact hw
theorem Opens.imp {α : Type} {P : Program} {t : TypeId} {d : Kd α} {wf wf' : α → Prop} (h : Opens P t d wf) (hi : ∀ a, wf a → wf' a) : Opens P t d wf' := by
  intro H enc w base spare held fuel cs x hx
  obtain ⟨a, hk, hw⟩ := h H enc w base spare held fuel cs x hx
  exact ⟨a, hk, hi a hw⟩
/-- A struct's fields from a place on. -/
def FOpens {α : Type} (P : Program) (fs : List Field) (off : Nat) (d : Kd α) (wf : α → Prop) : Prop :=
  ∀ (H : Type) (enc : TypeId × Value → H) (w : World) (base : Nat) (spare : Nat → Bool) (held : Bool) (fuel : Nat) (cs : List Value) (xs : List (DataW H × List MemPlace)),
    cs.length = off + d.sz → xs.length = fs.length → (∀ (i : Nat) (f : Field), fs[i]? = some f → DataW.trod enc P w base spare held fuel f.type ((cs.drop f.offset).take (P.cellsOf f.type)) = xs[i]?) →
    ∃ a : α, d.K w a (cs.drop off) ∧ wf a
theorem FOpens.last {α : Type} {P : Program} {f : Field} {off : Nat} {d : Kd α} {wf : α → Prop} (h : Opens P f.type d wf) (ho : f.offset = off) (hc : P.cellsOf f.type = d.sz) : FOpens P [f] off d wf := by
  intro H enc w base spare held fuel cs xs hl hx hf
  match xs, hx with
  | [y], _ =>
    have h1 := hf 0 f rfl
    rw [ho, hc, List.take_of_length_le (by rw [List.length_drop]; omega)] at h1
    exact h H enc w base spare held fuel _ y h1
theorem FOpens.cons {α β : Type} {P : Program} {f : Field} {fs : List Field} {off : Nat} {d : Kd α} {d' : Kd β} {wf : α → Prop} {wf' : β → Prop} (h : Opens P f.type d wf) (ho : f.offset = off) (hc : P.cellsOf f.type = d.sz) (hr : FOpens P fs (off + d.sz) d' wf') :
    FOpens P (f :: fs) off (Kd.pair d d') (fun p => wf p.1 ∧ wf' p.2) := by
  intro H enc w base spare held fuel cs xs hl hx hf
  have hl' : cs.length = off + (d.sz + d'.sz) := hl
  match xs, hx with
  | y :: ys, hx =>
    have h1 := hf 0 f rfl
    rw [ho, hc] at h1
    obtain ⟨a, hk, hw⟩ := h H enc w base spare held fuel _ y h1
    obtain ⟨b, hk', hw'⟩ := hr H enc w base spare held fuel cs ys (by omega) (by simpa using hx) (fun i f' hi => by
      have := hf (i + 1) f' (by simpa using hi)
      simpa using this)
    refine ⟨(a, b), ⟨(cs.drop off).take d.sz, cs.drop (off + d.sz), ?_, hk, hk'⟩, hw, hw'⟩
    rw [← List.drop_drop, List.take_append_drop]
theorem Opens.struct {α : Type} {P : Program} {t : TypeId} {fs : Array Field} {d : Kd α} {wf : α → Prop} (ht : P.underlying t = some (.struct fs)) (hc : P.cellsOf t = d.sz) (h : FOpens P fs.toList 0 d wf) : Opens P t d wf := by
  intro H enc w base spare held fuel cs x hx
  obtain ⟨xs, n, _, _, hl, hxl, hf⟩ := DataW.trod_struct ht hx
  have := h H enc w base spare held n cs xs (by omega) (by simpa using hxl) (fun i f hi => hf i f (by simpa using hi))
  simpa using this
theorem Opens.slice {α : Type} [Inhabited α] {P : Program} {t e : TypeId} {d : Kd α} {wf : α → Prop} (ht : P.underlying t = some (.slice e)) (hc : P.cellsOf e = d.sz) (h : Opens P e d wf) : Opens P t (Kd.slice e d) (fun l => l.length ≤ maxLen ∧ ∀ x ∈ l, wf x) := by
  intro H enc w base spare held fuel cs x hx
  rcases open_slice ht hx with ⟨rfl, _⟩ | ⟨a, len, cap, m, n, D, Pl, rfl, hb, hl, hm, hmm, _, hi⟩
  · exact ⟨[], ⟨none, 0, rfl, Nat.le_refl _, rfl, by simp, fun h => absurd h (Nat.lt_irrefl 0)⟩, Nat.zero_le _, fun x hx => by simp at hx⟩
  · have hlm : len ≤ m := by rw [hmm]; split <;> omega
    have hch : ∀ i, i < len → ∃ v : α, (∃ c : List Value, c.length = d.sz ∧ d.K w v c ∧ ∀ j u, c[j]? = some u → w.cell? (a.add (i * d.sz + j)) = some u) ∧ wf v := by
      intro i hil
      obtain ⟨cs', hcs, htr⟩ := hi i (by omega)
      obtain ⟨v, hk, hw⟩ := h H enc w base spare held n cs' _ htr
      obtain ⟨_, hcl, hat⟩ := World.cells?_some hcs
      rw [hc] at hcl hat
      refine ⟨v, ⟨cs', hcl, hk, fun j u hj => ?_⟩, hw⟩
      have hjl : j < d.sz := by
        rcases Nat.lt_or_ge j cs'.length with h' | h'
        · omega
        · rw [List.getElem?_eq_none h'] at hj; cases hj
      rw [← Go.Deep.add_add]
      exact (hat j hjl).trans hj
    obtain ⟨V, hV⟩ := choose_lt hch
    have hml : maxLen = 9223372036854775807 := rfl
    refine ⟨(List.range len).map V, ⟨some a, cap, by simp, by simpa using hl, rfl, ?_, fun _ => ⟨a, rfl, fun j p hj => ?_⟩⟩, ?_, fun x hx => ?_⟩
    · simp; omega
    · obtain ⟨hjl, hp⟩ := List.getElem?_eq_some_iff.1 hj
      simp at hjl hp
      subst hp
      obtain ⟨c, h1, h2, h3⟩ := (hV j hjl).1
      exact ⟨c, h1, h2, h3⟩
    · simp; omega
    · obtain ⟨i, hi', rfl⟩ := List.mem_map.1 hx
      exact (hV i (List.mem_range.1 hi')).2
end Go.Proofs.Ytlpikbkdlnocdaa.Op
