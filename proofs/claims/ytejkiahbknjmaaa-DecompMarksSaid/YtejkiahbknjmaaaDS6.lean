/- Plain law: what an order of marks is like. -/
import Derived.Test.YtejkiahbknjmaaaDS5
set_option linter.unusedVariables false
set_option linter.unusedSimpArgs false
set_option maxRecDepth 100000
namespace Go.Proofs.Ytejkiahbknjmaaa.AI
theorem Rr_asym {l : List Int} {u v : Int} (h : Rr l u v) (h' : Rr l v u) : False := by
  unfold Rr ltk at h h'; omega
theorem sorted_unique {l : List Int} : ∀ {a b : List Int}, a.Perm b → a.Pairwise (Rr l) → b.Pairwise (Rr l) → a = b
  | [], b, h, _, _ => by rw [List.nil_perm.1 h]
  | x :: a, [], h, _, _ => by have := h.length_eq; simp at this
  | x :: a, y :: b, h, ha, hb => by
    rw [List.pairwise_cons] at ha hb
    by_cases e : x = y
    · subst e
      rw [sorted_unique (List.Perm.cons_inv h) ha.2 hb.2]
    · have hx : x ∈ b := by
        have := h.mem_iff.1 (List.mem_cons_self (a := x) (l := a))
        rcases List.mem_cons.1 this with h | h
        · exact absurd h e
        · exact h
      have hy : y ∈ a := by
        have := h.mem_iff.2 (List.mem_cons_self (a := y) (l := b))
        rcases List.mem_cons.1 this with h | h
        · exact absurd h.symm e
        · exact h
      exact (Rr_asym (ha.1 y hy) (hb.1 x hx)).elim
theorem up_count {x : Nat} : ∀ {i d : Nat}, (up i d).countP (fun y => decide (y = (x : Int))) = if i ≤ x ∧ x < i + d then 1 else 0
  | i, 0 => by rw [if_neg (by omega)]; rfl
  | i, d + 1 => by
    simp only [up, List.countP_cons]
    rw [up_count (i := i + 1) (d := d)]
    by_cases e : (i : Int) = (x : Int)
    · rw [if_neg (by omega), decide_eq_true e, if_pos rfl, if_pos (by omega)]
    · rw [decide_eq_false e]
      by_cases g : i + 1 ≤ x ∧ x < i + 1 + d
      · rw [if_pos g, if_pos (show i ≤ x ∧ x < i + (d + 1) by omega)]; rfl
      · rw [if_neg g, if_neg (show ¬ (i ≤ x ∧ x < i + (d + 1)) by omega)]; rfl
theorem up_below {z : Nat} : ∀ {i d : Nat}, i ≤ z → z ≤ i + d → (up i d).countP (fun y => decide (y < (z : Int))) = z - i
  | i, 0, h1, h2 => by simp [up]; omega
  | i, d + 1, h1, h2 => by
    simp only [up, List.countP_cons]
    rcases Nat.eq_or_lt_of_le h1 with e | e
    · subst e
      rw [decide_eq_false (by omega), if_neg (by simp)]
      have : (up (i + 1) d).countP (fun y => decide (y < (i : Int))) = 0 := List.countP_eq_zero.2 fun y hy => by
        obtain ⟨k, k1, k2, rfl⟩ := up_mem.1 hy; simp; omega
      omega
    · rw [decide_eq_true (by omega), if_pos rfl, up_below (i := i + 1) (d := d) (by omega) (by omega)]; omega
/-- An order of marks. -/
structure Ord (l o : List Int) : Prop where
  perm : o.Perm (up 0 l.length)
  srt : o.Pairwise (Rr l)
theorem Ord.len {l o : List Int} (h : Ord l o) : o.length = l.length := by rw [h.perm.length_eq, up_len]
theorem Ord.mem {l o : List Int} (h : Ord l o) {x : Int} (hx : x ∈ o) : ∃ k : Nat, k < l.length ∧ x = (k : Int) := by
  obtain ⟨k, _, k2, rfl⟩ := up_mem.1 (h.perm.mem_iff.1 hx); exact ⟨k, by omega, rfl⟩
theorem Ord.rel {l o : List Int} (h : Ord l o) {i j : Nat} (hij : i < j) (hj : j < o.length) : Rr l (o[i]'(by omega)) o[j] := (List.pairwise_iff_getElem.1 h.srt) i j (by omega) hj hij
/-- A zero stands at its own place. -/
theorem Ord.zero {l o : List Int} (h : Ord l o) {z : Nat} (hz : z < l.length) (hk : kk l (z : Int) = 0) : ∃ hz' : z < o.length, o[z] = (z : Int) := by
  have hlen := h.len
  have hm : (z : Int) ∈ o := h.perm.mem_iff.2 (up_mem.2 ⟨z, by omega, by omega, rfl⟩)
  obtain ⟨p, hp, e⟩ := List.getElem_of_mem hm
  have hc : o.countP (fun y => decide (y < (z : Int))) = z := by rw [h.perm.countP_eq, up_below (by omega) (by omega)]; omega
  have hs : o = o.take p ++ o[p] :: o.drop (p + 1) := by rw [← List.drop_eq_getElem_cons hp, List.take_append_drop]
  rw [hs, List.countP_append, List.countP_cons, e, decide_eq_false (by omega), if_neg (by simp)] at hc
  have h1 : (o.take p).countP (fun y => decide (y < (z : Int))) = (o.take p).length := List.countP_eq_length.2 fun u hu => by
    obtain ⟨i, hi, rfl⟩ := List.getElem_of_mem hu
    rw [List.getElem_take]
    simp only [List.length_take] at hi
    have hr := h.rel (i := i) (j := p) (by omega) hp
    rw [e] at hr
    obtain ⟨k, k1, k2⟩ := h.mem (List.getElem_mem (l := o) (n := i) (by omega))
    rw [k2] at hr ⊢
    simp only [decide_eq_true_eq]
    rcases Nat.lt_trichotomy k z with q | q | q
    · omega
    · subst q; exact (Rr_asym hr hr).elim
    · exact (Rr_asym hr (.inl ((pc_lt q).2.1 hk))).elim
  have h2 : (o.drop (p + 1)).countP (fun y => decide (y < (z : Int))) = 0 := List.countP_eq_zero.2 fun u hu => by
    obtain ⟨i, hi, rfl⟩ := List.getElem_of_mem hu
    rw [List.getElem_drop]
    simp only [List.length_drop] at hi
    have hr := h.rel (i := p) (j := p + 1 + i) (by omega) (by omega)
    rw [e] at hr
    obtain ⟨k, k1, k2⟩ := h.mem (List.getElem_mem (l := o) (n := p + 1 + i) (by omega))
    rw [k2] at hr ⊢
    simp only [decide_eq_true_eq]
    rcases Nat.lt_trichotomy k z with q | q | q
    · exact (Rr_asym hr (.inl ((pc_lt q).2.2 hk))).elim
    · subst q; exact (Rr_asym hr hr).elim
    · omega
  rw [h1, h2, List.length_take] at hc
  have : p = z := by omega
  subst this
  exact ⟨hp, e⟩
theorem pc_zero {l : List Int} {u v : Nat} (h : pc l (u : Int) < pc l (v : Int)) (huv : u < v) (hu : kk l (u : Int) ≠ 0) (hv : kk l (v : Int) ≠ 0) : ∃ z : Nat, u < z ∧ z < v ∧ kk l (z : Int) = 0 := by
  refine Classical.byContradiction fun hn => ?_
  have : pc l (u : Int) = pc l (v : Int) := pc_same (Nat.le_of_lt huv) (fun w w1 w2 hw => by
    by_cases e1 : w = u
    · exact hu (e1 ▸ hw)
    by_cases e2 : w = v
    · exact hv (e2 ▸ hw)
    exact hn ⟨w, by omega, by omega, hw⟩)
  omega
/-- Of the same class, by place. -/
theorem Ord.same {l o : List Int} (h : Ord l o) {i j : Nat} (hij : i < j) (hj : j < o.length) (hk : kk l (o[i]'(by omega)) = kk l o[j]) : o[i]'(by omega) < o[j] := by
  have hr := h.rel hij hj
  obtain ⟨a, a1, a2⟩ := h.mem (List.getElem_mem (l := o) (n := i) (by omega))
  obtain ⟨b, b1, b2⟩ := h.mem (List.getElem_mem (l := o) (n := j) hj)
  rw [a2, b2] at hr hk ⊢
  rcases hr with hr | ⟨_, hr | hr⟩
  · rcases Nat.lt_or_ge a b with q | q
    · omega
    · rcases Nat.eq_or_lt_of_le q with e | e
      · subst e; omega
      · have := (pc_lt (l := l) e).1; omega
  · omega
  · exact hr.2
/-- Neighbours rise. -/
theorem Ord.adj {l o : List Int} (h : Ord l o) {p : Nat} (hp : p + 1 < o.length) (h1 : kk l (o[p]'(by omega)) ≠ 0) (h2 : kk l o[p + 1] ≠ 0) : kk l (o[p]'(by omega)) ≤ kk l o[p + 1] := by
  have hr := h.rel (i := p) (j := p + 1) (by omega) hp
  obtain ⟨a, a1, a2⟩ := h.mem (List.getElem_mem (l := o) (n := p) (by omega))
  obtain ⟨b, b1, b2⟩ := h.mem (List.getElem_mem (l := o) (n := p + 1) hp)
  rcases hr with hr | ⟨_, hr | hr⟩
  · rw [a2] at h1
    rw [b2] at h2
    rw [a2, b2] at hr
    have hab : a < b := by
      rcases Nat.lt_or_ge a b with q | q
      · exact q
      · rcases Nat.eq_or_lt_of_le q with e | e
        · subst e; omega
        · have := (pc_lt (l := l) e).1; omega
    obtain ⟨z, z1, z2, z3⟩ := pc_zero hr hab h1 h2
    obtain ⟨hz, e⟩ := h.zero (by omega) z3
    exfalso
    have r1 : Rr l (a : Int) (z : Int) := .inl ((pc_lt z1).2.2 z3)
    have r2 : Rr l (z : Int) (b : Int) := .inl ((pc_lt z2).2.1 z3)
    rcases Nat.lt_trichotomy z p with q | q | q
    · have := h.rel (i := z) (j := p) q (by omega)
      rw [e, a2] at this
      exact Rr_asym r1 this
    · subst q; rw [e] at a2; omega
    · rcases Nat.eq_or_lt_of_le (show p + 1 ≤ z by omega) with q2 | q2
      · subst q2; rw [e] at b2; omega
      · have := h.rel (i := p + 1) (j := z) q2 hz
        rw [e, b2] at this
        exact Rr_asym r2 this
  · omega
  · omega
/-- What is in order already stays. -/
theorem ord_up {l : List Int} (h : ∀ p : Nat, p + 1 < l.length → kk l (p : Int) ≠ 0 → kk l ((p + 1 : Nat) : Int) ≠ 0 → kk l (p : Int) ≤ kk l ((p + 1 : Nat) : Int)) : (up 0 l.length).Pairwise (Rr l) := by
  refine List.Pairwise.imp_of_mem (fun {u v} hu hv huv => ?_) (up_asc 0 l.length)
  obtain ⟨a, _, a2, rfl⟩ := up_mem.1 hu
  obtain ⟨b, _, b2, rfl⟩ := up_mem.1 hv
  have hab : a < b := by omega
  have h1 := pc_lt (l := l) hab
  by_cases e : pc l (a : Int) < pc l (b : Int)
  · exact .inl e
  have hz : ∀ w : Nat, a ≤ w → w ≤ b → kk l (w : Int) ≠ 0 := fun w w1 w2 hw => by
    rcases Nat.eq_or_lt_of_le w1 with q | q
    · subst q; exact e (h1.2.1 hw)
    rcases Nat.eq_or_lt_of_le w2 with q2 | q2
    · subst q2; exact e (h1.2.2 hw)
    have := (pc_lt (l := l) q).2.2 hw
    have := (pc_lt (l := l) q2).1
    omega
  have hle : ∀ w : Nat, a ≤ w → w ≤ b → kk l (a : Int) ≤ kk l (w : Int) := by
    intro w
    induction w with
    | zero => intro w1 w2; have : a = 0 := by omega
              subst this; exact Int.le_refl _
    | succ w ih =>
      intro w1 w2
      rcases Nat.eq_or_lt_of_le w1 with q | q
      · subst q; exact Int.le_refl _
      · have i1 := ih (by omega) (by omega)
        have i2 := h w (by omega) (hz w (by omega) (by omega)) (hz (w + 1) (by omega) (by omega))
        omega
  refine .inr ⟨by omega, ?_⟩
  have := hle b (by omega) (Nat.le_refl _)
  by_cases q : kk l (a : Int) < kk l (b : Int)
  · exact .inl q
  · exact .inr ⟨by omega, by omega⟩
end Go.Proofs.Ytejkiahbknjmaaa.AI
