/- Plain laws: the document's coverage. -/
import Derived.Test.YtakplhfiohjcmaaPU5
set_option linter.unusedVariables false
set_option linter.unusedSimpArgs false
namespace Go.Proofs.Ytakplhfiohjcmaa.AI

def bb (t : List Bool) (g : Int) : Bool := (t[g.toNat]?).getD false
theorem bb_at {b : List Bool} {i : Int} (h0 : 0 ≤ i) (h1 : i < (b.length : Int)) : atI b i = some (bb b i) := by
 have : i.toNat < b.length := by omega
 unfold atI
 rw [if_pos h0, bb, List.getElem?_eq_getElem this]; rfl
theorem bb_set {t : List Bool} {k g : Int} (hk : 0 ≤ k) (hk2 : k < (t.length : Int)) (hg : 0 ≤ g) (v : Bool) : bb (t.set k.toNat v) g = if g = k then v else bb t g := by
 unfold bb
 rw [List.getElem?_set]
 by_cases h : g = k
 ·
  subst h
  rw [if_pos rfl, if_pos rfl, if_pos (by omega)]; rfl
 ·
  rw [if_neg h, if_neg (by omega)]
theorem bb_out {t : List Bool} {g : Int} (h : (t.length : Int) ≤ g) : bb t g = false := by
 unfold bb
 rw [List.getElem?_eq_none (by omega)]; rfl
theorem bb_rep {n : Nat} {g : Int} : bb (List.replicate n false) g = false := by
 unfold bb
 cases h : (List.replicate n false)[g.toNat]? with
 | none => rfl
 | some x => have := List.mem_of_getElem? h; simp at this; simp [this]
theorem Spans_L3 {N : Nat} {t : List Bool} {i : Int} {s : List TSpan} (hl : t.length ≤ 1000000) : ∀ (d n : Nat) (k : Int), k + d = (t.length : Int) → d ≤ n → 0 < n → 0 ≤ k → k < (t.length : Int) →
  ∃ k', ref10_Spans_row_L3 N i t s n k = some k' ∧ k ≤ k' ∧ k' < (t.length : Int) ∧ (∀ j, k < j → j ≤ k' → bb t j = true) ∧ bb t (k' + 1) = false := by
 intro d
 induction d with
 | zero => intro n k hk hn hn0 h0 h1; omega
 | succ d ih =>
  intro n k hk hn hn0 h0 h1
  obtain ⟨n, rfl⟩ : ∃ x, n = x + 1 := ⟨n - 1, by omega⟩
  rw [ref10_Spans_row_L3, w64 (x := k + 1) (by omega) (by omega)]
  by_cases h2 : k + 1 < (t.length : Int)
  ·
   rw [if_pos h2, bb_at (by omega) h2, Option.bind_some]
   by_cases h3 : bb t (k + 1) = true
   ·
    rw [if_pos h3]
    obtain ⟨k', g1, g2, g3, g4, g5⟩ := ih n (k + 1) (by omega) (by omega) (by omega) (by omega) h2
    exact ⟨k', g1, by omega, g3, fun j hj hj2 => by
     by_cases e : j = k + 1
     ·
      rw [e]; exact h3
     ·
      exact g4 j (by omega) hj2, g5⟩
   ·
    rw [if_neg h3]
    exact ⟨k, rfl, Int.le_refl _, h1, fun j hj hj2 => by omega, by simpa using h3⟩
  ·
   rw [if_neg h2]
   exact ⟨k, rfl, Int.le_refl _, h1, fun j hj hj2 => by omega, bb_out (by omega)⟩
theorem Spans_L4 {N : Nat} (hN : 1000000000000 < N) {t : List Bool} (hl : t.length ≤ 65536) : ∀ (d n : Nat) (i : Int) (s : List TSpan), i + d = (t.length : Int) → d < n → 0 ≤ i → s.length ≤ 65536 → (s.length : Int) ≤ i → RL 0 s → (∀ x ∈ s, x.To < i) → (∀ x ∈ s, x.To + 1 = i → bb t i = false) → (∀ g, 0 ≤ g → g < i → (inn s g ↔ bb t g = true)) →
  ∃ m, ref10_Spans_row_L4 N t n i s = some m ∧ RL 0 m ∧ ∀ g, 0 ≤ g → (inn m g ↔ bb t g = true) := by
 intro d
 induction d using Nat.strongRecOn with
 | _ d ih =>
  intro n i s hi hn h0 hs hsi hr ht hlast hin
  obtain ⟨n, rfl⟩ : ∃ x, n = x + 1 := ⟨n - 1, by omega⟩
  rw [ref10_Spans_row_L4]
  by_cases h1 : i < (t.length : Int)
  ·
   rw [if_pos h1, bb_at h0 h1, Option.bind_some]
   by_cases h2 : bb t i = true
   ·
    rw [if_pos h2]
    obtain ⟨k', g1, g2, g3, g4, g5⟩ := Spans_L3 (N := N) (i := i) (s := s) (t := t) (by omega) d N i hi (by omega) (by omega) h0 h1
    rw [g1, Option.bind_some, if_pos (by omega), w64 (x := k' + 1) (by omega) (by omega)]
    have hgap : ∀ x ∈ s, x.To + 2 ≤ i := fun x hx => by
     have := ht x hx
     by_cases e : x.To + 1 = i
     ·
      have := hlast x hx e; rw [h2] at this; cases this
     ·
      omega
    refine ih (d - (k' + 1 - i).toNat) (by omega) n (k' + 1) (s ++ [⟨i, k'⟩]) (by omega) (by omega) (by omega) (by simp; omega) (by simp; omega) (RL.app hr hgap h0 g2 (by simp only; omega)) ?_ ?_ ?_
    ·
     intro x hx
     rcases List.mem_append.1 hx with hx | hx
     ·
      have := ht x hx; omega
     ·
      simp at hx; subst hx; simp only; omega
    ·
     intro x hx _; exact g5
    ·
     intro g hg hg2
     have e : inn (s ++ [⟨i, k'⟩]) g ↔ inn s g ∨ (i ≤ g ∧ g ≤ k') := by
      simp only [inn, List.mem_append, List.mem_singleton]
      constructor
      ·
       rintro ⟨y, hy | rfl, h3⟩
       ·
        exact .inl ⟨y, hy, h3⟩
       ·
        exact .inr h3
      ·
       rintro (⟨y, hy, h3⟩ | h3)
       ·
        exact ⟨y, .inl hy, h3⟩
       ·
        exact ⟨⟨i, k'⟩, .inr rfl, h3⟩
     rw [e]
     by_cases hgi : g < i
     ·
      rw [hin g hg hgi]
      constructor
      ·
       rintro (h | h)
       ·
        exact h
       ·
        omega
      ·
       exact .inl
     ·
      have hb : bb t g = true := by
       by_cases eg : g = i
       ·
        rw [eg]; exact h2
       ·
        exact g4 g (by omega) (by omega)
      simp only [hb, iff_true]
      exact .inr ⟨by omega, by omega⟩
   ·
    rw [if_neg h2, w64 (by omega) (by omega)]
    refine ih (d - 1) (by omega) n (i + 1) s (by omega) (by omega) (by omega) hs (by omega) hr (fun x hx => by have := ht x hx; omega) (fun x hx e => by have := ht x hx; omega) ?_
    intro g hg hg2
    by_cases eg : g = i
    ·
     subst eg
     have e0 : bb t g = false := by simpa using h2
     rw [e0]
     constructor
     ·
      rintro ⟨x, hx, h3, h4⟩
      have := ht x hx; omega
     ·
      intro h; cases h
    ·
     exact hin g hg (by omega)
  ·
   rw [if_neg h1]
   refine ⟨s, rfl, hr, fun g hg => ?_⟩
   by_cases hgi : g < i
   ·
    exact hin g hg hgi
   ·
    rw [bb_out (by omega)]
    simp only [Bool.false_eq_true, iff_false]
    rintro ⟨x, hx, h3, h4⟩
    have := ht x hx; omega
theorem Spans_eq {N : Nat} (hN : 1000000000000 < N) {t : List Bool} (hl : t.length ≤ 65536) : ∃ m, ref10_Spans_row N t = some m ∧ RL 0 m ∧ ∀ g, 0 ≤ g → (inn m g ↔ bb t g = true) := by
 obtain ⟨m, h1, h2⟩ := Spans_L4 hN hl t.length N 0 [] (by omega) (by omega) (by omega) (by simp) (by simp) trivial (by simp) (by simp) (fun g _ _ => by omega)
 exact ⟨m, by unfold ref10_Spans_row; rw [h1]; rfl, h2⟩

theorem Same_eq {N : Nat} (hN : 1000000000000 < N) {l m : List TSpan} (hl : l.length ≤ 1000000000) : ref10_Same N l m = some (decide (l = m)) := by
 have key : ∀ (d k n : Nat), k + d = l.length → d < n → l.length = m.length → (∀ j, j < k → l[j]? = m[j]?) → ref10_Same_L1 N l m n k = some (if l = m then .inl () else .inr ()) := by
  intro d
  induction d with
  | zero =>
   intro k n hk hn hlen hp
   obtain ⟨n, rfl⟩ : ∃ x, n = x + 1 := ⟨n - 1, by omega⟩
   have e : l = m := List.ext_getElem? fun j => by
    by_cases hj : j < k
    ·
     exact hp j hj
    ·
     rw [List.getElem?_eq_none (by omega), List.getElem?_eq_none (by omega)]
   rw [ref10_Same_L1, if_neg (by omega), if_pos e]
  | succ d ih =>
   intro k n hk hn hlen hp
   obtain ⟨n, rfl⟩ : ∃ x, n = x + 1 := ⟨n - 1, by omega⟩
   have hx := List.getElem?_eq_getElem (l := l) (i := k) (by omega)
   have hy := List.getElem?_eq_getElem (l := m) (i := k) (by omega)
   rw [ref10_Same_L1, if_pos (by omega), atI_at hx, Option.bind_some, atI_at hy, Option.bind_some, w64 (by omega) (by omega)]
   by_cases e1 : l[k].From = m[k].From
   ·
    by_cases e2 : l[k].To = m[k].To
    ·
     rw [if_pos e1, if_pos e2]
     have := ih (k + 1) n (by omega) (by omega) hlen (fun j hj => by
      by_cases e : j = k
      ·
       subst e; rw [hx, hy]; congr 1
       cases hlx : l[j]; cases hmx : m[j]; rw [hlx, hmx] at e1 e2; simp at e1 e2; simp [e1, e2]
      ·
       exact hp j (by omega))
     rw [show ((k + 1 : Nat) : Int) = (k : Int) + 1 by omega] at this
     exact this
    ·
     rw [if_pos e1, if_neg e2, if_neg (fun e => e2 (by subst e; rfl))]
   ·
    rw [if_neg e1, if_neg (fun e => e1 (by subst e; rfl))]
 unfold ref10_Same
 by_cases hlen : l.length = m.length
 ·
  have h := key l.length 0 N (by omega) (by omega) hlen (by simp)
  rw [show ((0 : Nat) : Int) = 0 from rfl] at h
  rw [if_pos (by omega), h, Option.bind_some]
  by_cases e : l = m
  ·
   simp [e]
  ·
   simp [e]
 ·
  rw [if_neg (by omega), decide_eq_false (fun e => hlen (by rw [e]))]
end Go.Proofs.Ytakplhfiohjcmaa.AI
