import Derived.Test.YtcbhlpbkampfeaaA7
import Derived.Laws.Append
/- Part of a proof. -/
set_option linter.unusedVariables false
set_option linter.unusedSimpArgs false
namespace Go.Proofs.Ytcbhlpbkampfeaa.AI

structure RowR (K : (Nat → Option Obj)) (ρ : (Nat → Option Loc)) (s : Nat) (es : List (List AV)) (us : Array Value) : Prop where
 size : us.size = es.length * s
 one : ∀ u ∈ us, one u = true
 len : ∀ el ∈ es, el.length = s
 cells : ∀ (e : Nat) (el : List AV), es[e]? = some el → JJ K ρ us (e * s) el

theorem RowR.append {K : (Nat → Option Obj)} {ρ : (Nat → Option Loc)} {s : Nat} {es ys : List (List AV)} {us vs : Array Value} (h : RowR K ρ s es us) (h' : RowR K ρ s ys vs) : RowR K ρ s (es ++ ys) (us ++ vs) := by
 refine ⟨by rw [Array.size_append, h.size, h'.size, List.length_append, Nat.add_mul], ?_, ?_, ?_⟩
 ·
  intro u hu
  rcases Array.mem_append.1 hu with hu | hu
  ·
   exact h.one u hu
  ·
   exact h'.one u hu
 ·
  intro el hel
  rcases List.mem_append.1 hel with hel | hel
  ·
   exact h.len el hel
  ·
   exact h'.len el hel
 ·
  intro e el hel j v hv
  rcases Nat.lt_or_ge e es.length with he | he
  ·
   rw [List.getElem?_append_left he] at hel
   obtain ⟨u, hu, hr⟩ := h.cells e el hel j v hv
   exact ⟨u, by rw [Array.getElem?_append_left (Array.getElem?_eq_some_iff.1 hu).1]; exact hu, hr⟩
  ·
   rw [List.getElem?_append_right he] at hel
   obtain ⟨u, hu, hr⟩ := h'.cells _ el hel j v hv
   refine ⟨u, ?_, hr⟩
   have e1 : (e - es.length) * s + us.size = e * s := by rw [h.size, ← Nat.add_mul]; congr 1; omega
   rw [Array.getElem?_append_right (by omega)]
   rw [← hu]
   congr 1
   omega

theorem RowR.mono {K K' : (Nat → Option Obj)} {ρ ρ' : (Nat → Option Loc)} (hK : KLe K K') (hr : RLe ρ ρ') {s : Nat} {es : List (List AV)} {us : Array Value} (h : RowR K ρ s es us) : RowR K' ρ' s es us :=
 ⟨h.size, h.one, h.len, fun e el he => (h.cells e el he).mono hK hr⟩

section
variable {P : Program} {o : Oper} {a : Act} {w : World} {G : Gh} {K : (Nat → Option Obj)} {ρ : (Nat → Option Loc)} {H : List AObj}

theorem Xe5 (hR : Rel G K ρ H w) {y : AV} {u : Value} (hV : VR K ρ y u) {ys : List (List AV)} (h : Xge H y = some ys) {s : Nat} (hs : 0 < s) (hl : ∀ el ∈ ys, el.length = s) :
  ∃ A c us, u = .slice A ys.length c ∧ ys.length ≤ c ∧ (∀ n, (Builtin.firstCells s ys.length u).run P { w with drawn := n } = .ok us { w with drawn := n }) ∧ RowR K ρ s ys us ∧ (ys = [] ∨ ∃ ad, A = some ad ∧ ∀ i, i < ys.length * s → w.cell? (ad.add i) = us[i]?) := by
 cases hV with
 | row hlρ h1 h2 =>
  rename_i id l off len A c
  simp only [Xge] at h
  split at h
  case h_2 => cases h
  rename_i sz es t ho
  split at h
  case isFalse => cases h
  rename_i hc
  cases h
  have hlen : ((es.drop off).take len).length = len := by rw [List.length_take, List.length_drop]; omega
  obtain ⟨l', hl', hp, hls, hels, hO⟩ := hR.objs id _ ho rfl
  rw [hlρ] at hl'
  obtain rfl := Option.some.inj hl'
  rw [hlen]
  by_cases h0 : len = 0
  ·
   subst h0
   refine ⟨A, c, #[], rfl, h1, ?_, ⟨by simp, by simp, by simp, by simp⟩, .inl (by simp)⟩
   cases A <;> simp [Builtin.firstCells, loadCells, loadCellsFrom]
  ·
   rcases hO with ⟨_, rfl⟩ | ⟨cs, g3, g4, g5, g6, g7⟩
   ·
    simp at hc; omega
   ·
    rcases h2 with h2 | ⟨rfl, h2⟩
    ·
     omega
    have hget : ∀ (e : Nat) el, ((es.drop off).take len)[e]? = some el → e < len ∧ es[off + e]? = some el := by
     intro e el he
     rw [List.getElem?_take] at he
     split at he
     ·
      rw [List.getElem?_drop] at he; exact ⟨‹_›, he⟩
     ·
      cases he
    have hel : es[off]? = some (es[off]'(by omega)) := List.getElem?_eq_getElem _
    have hsz : sz = s := by
     have e1 := hels _ (List.mem_of_getElem? hel)
     have e2 : ((es.drop off).take len)[0]? = some (es[off]'(by omega)) := by
      rw [List.getElem?_take, if_pos (by omega), List.getElem?_drop]; exact hel
     have := hl _ (List.mem_of_getElem? e2)
     omega
    subst hsz
    have hb : (off + len) * sz ≤ es.length * sz := Nat.mul_le_mul_right _ hc
    rw [Nat.add_mul] at hb
    have hcell : ∀ i, i < len * sz → w.cell? ((⟨l.block, l.base + off * l.sz, none⟩ : Addr).add i) = cs[l.base + off * sz + i]? := by
     intro i hi
     rw [ZU, hls]
     simp [World.cell?, g3]
    let us := cs.extract (l.base + off * sz) (l.base + off * sz + len * sz)
    have hus : us.size = len * sz := by simp only [us, Array.size_extract]; omega
    have husg : ∀ i, i < len * sz → us[i]? = cs[l.base + off * sz + i]? := by
     intro i hi
     simp only [us]
     rw [Array.getElem?_extract, if_pos (by omega)]
    refine ⟨_, c, us, rfl, h1, ?_, ⟨?_, ?_, hl, ?_⟩, .inr ⟨_, rfl, fun i hi => (hcell i hi).trans (husg i hi).symm⟩⟩
    ·
     intro n
     have := run_loadCells_list (P := P) { w with drawn := n } ⟨l.block, l.base + off * l.sz, none⟩ us.toList (fun j v hv => by
      have hj : j < len * sz := by rw [← hus]; simpa using (List.getElem?_eq_some_iff.1 hv).1
      refine (hcell j hj).trans ?_
      rw [← husg j hj]
      simpa using hv)
     simp only [Builtin.firstCells]
     rw [show len * sz = us.toList.length by simp [hus], this]
    ·
     rw [hus, hlen]
    ·
     intro u hu
     obtain ⟨i, hi, rfl⟩ := Array.getElem_of_mem hu
     simp only [us, Array.getElem_extract]
     exact g6 _ (Array.getElem_mem _)
    ·
     intro e el he j v hv
     obtain ⟨he1, he2⟩ := hget e el he
     obtain ⟨u, hu, hr⟩ := g7 _ el he2 j v hv
     have hj : j < sz := by rw [← hels el (List.mem_of_getElem? he2)]; exact (List.getElem?_eq_some_iff.1 hv).1
     have hbe : (e + 1) * sz ≤ len * sz := Nat.mul_le_mul_right _ he1
     rw [Nat.add_mul, Nat.one_mul] at hbe
     refine ⟨u, ?_, hr⟩
     rw [husg _ (by omega), ← hu]
     congr 1
     rw [Nat.add_mul]
     omega
 | vec ad sz g h1 h2 h3 h4 h5 h6 h7 =>
  rename_i cap es A c
  simp only [Xge, Option.some.injEq] at h
  replace h := h.symm
  subst h
  by_cases h0 : ys = []
  ·
   subst h0
   refine ⟨A, c, #[], rfl, by simp, ?_, ⟨by simp, by simp, by simp, by simp⟩, .inl rfl⟩
   cases A <;> simp [Builtin.firstCells, loadCells, loadCellsFrom]
  ·
   obtain rfl := h3.resolve_left h0
   have hpos : 0 < ys.length := by cases ys with | nil => exact absurd rfl h0 | cons => simp
   have hy0 : ys[0]? = some (ys[0]'hpos) := List.getElem?_eq_getElem _
   have hsz : sz = s := by rw [← hl _ (List.mem_of_getElem? hy0)]; exact (h4 _ (List.mem_of_getElem? hy0)).symm
   subst hsz
   let us : Array Value := Array.ofFn (n := ys.length * sz) fun i => g (i / sz) (i % sz)
   have hus : us.size = ys.length * sz := by simp [us]
   have husg : ∀ i, i < ys.length * sz → us[i]? = some (g (i / sz) (i % sz)) := by
    intro i hi
    rw [Array.getElem?_eq_getElem (by omega)]
    simp [us]
   have hdm : ∀ i, i < ys.length * sz → i / sz < ys.length ∧ i % sz < sz ∧ i / sz * sz + i % sz = i := by
    intro i hi
    refine ⟨(Nat.div_lt_iff_lt_mul hs).2 hi, Nat.mod_lt _ hs, ?_⟩
    rw [Nat.mul_comm]; exact Nat.div_add_mod i sz
   have hcell : ∀ i, i < ys.length * sz → w.cell? (ad.add i) = us[i]? := by
    intro i hi
    obtain ⟨a1, a2, a3⟩ := hdm i hi
    have := Xjt hR (h5 (i / sz) (i % sz) a1 a2)
    rw [a3] at this
    rw [this, husg i hi]
   refine ⟨_, c, us, rfl, h2, ?_, ⟨hus, ?_, hl, ?_⟩, .inr ⟨_, rfl, hcell⟩⟩
   ·
    intro n
    have := run_loadCells_list (P := P) { w with drawn := n } ad us.toList (fun j v hv => by
     have hj : j < ys.length * sz := by rw [← hus]; simpa using (List.getElem?_eq_some_iff.1 hv).1
     refine (hcell j hj).trans ?_
     simpa using hv)
    simp only [Builtin.firstCells]
    rw [show ys.length * sz = us.toList.length by simp [hus], this]
   ·
    intro u hu
    obtain ⟨i, hi, rfl⟩ := Array.getElem_of_mem hu
    simp only [us, Array.getElem_ofFn]
    exact h6 _ _
   ·
    intro e el he j v hv
    have he1 : e < ys.length := (List.getElem?_eq_some_iff.1 he).1
    have hj : j < sz := by rw [← hl el (List.mem_of_getElem? he)]; exact (List.getElem?_eq_some_iff.1 hv).1
    have hbe : (e + 1) * sz ≤ ys.length * sz := Nat.mul_le_mul_right _ he1
    rw [Nat.add_mul, Nat.one_mul] at hbe
    refine ⟨g e j, ?_, (h7 e j el v he hv).mono (KLe.refl _) (RLe.none _)⟩
    rw [husg _ (by omega)]
    have e1 : (e * sz + j) / sz = e := by rw [Nat.mul_comm, Nat.mul_add_div hs, Nat.div_eq_of_lt hj]; rfl
    have e2 : (e * sz + j) % sz = j := by rw [Nat.mul_comm, Nat.mul_add_mod]; exact Nat.mod_eq_of_lt hj
    rw [e1, e2]
 | _ => simp [Xge] at h
end
end Go.Proofs.Ytcbhlpbkampfeaa.AI
