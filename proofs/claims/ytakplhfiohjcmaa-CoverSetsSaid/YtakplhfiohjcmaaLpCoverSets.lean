/- Plain law of CoverSets. -/
import Derived.Test.YtakplhfiohjcmaaCX3
import Derived.Test.YtakplhfiohjcmaaPU6
import Derived.Test.YtakplhfiohjcmaaPU11R
set_option linter.unusedVariables false
set_option linter.unusedSimpArgs false
set_option maxRecDepth 100000
namespace Go.Proofs.Ytakplhfiohjcmaa.AI
theorem RL.adj : ∀ {l : List TSpan} {lo : Int} {j : Nat} {p s : TSpan}, RL lo l → l[j]? = some p → l[j + 1]? = some s → p.To + 2 ≤ s.From
 | [], lo, j, p, s, _, h, _ => by simp at h
 | x :: r, lo, 0, p, s, h, h1, h2 => by
  simp only [List.getElem?_cons_zero, Option.some.injEq] at h1
  subst h1
  obtain ⟨_, _, _, h4⟩ := h
  have : s ∈ r := List.mem_of_getElem? (by simpa using h2)
  exact (RL.lows h4 s this).1
 | x :: r, lo, j + 1, p, s, h, h1, h2 => RL.adj h.2.2.2 (by simpa using h1) (by simpa using h2)
theorem RightT {N : Nat} (hN : 1000000000000 < N) {l : List TSpan} (h : RL 0 l) (hl : l.length ≤ 5000) : ref10_Right N l = some true := by
 have key : ∀ (d k n : Nat), k + d = l.length → d < n → ref10_Right_L1 N l n k = some (.inl ()) := by
  intro d
  induction d with
  | zero =>
   intro k n hk hn
   obtain ⟨n, rfl⟩ : ∃ x, n = x + 1 := ⟨n - 1, by omega⟩
   rw [ref10_Right_L1, if_neg (by omega)]
  | succ d ih =>
   intro k n hk hn
   obtain ⟨n, rfl⟩ : ∃ x, n = x + 1 := ⟨n - 1, by omega⟩
   have hkl : k < l.length := by omega
   have hx := RL.lows h l[k] (List.getElem_mem hkl)
   have hi := ih (k + 1) n (by omega) (by omega)
   rw [ref10_Right_L1, if_pos (by omega), atI_at (List.getElem?_eq_getElem hkl), Option.bind_some, if_neg (by omega), if_neg (by omega), if_neg (by omega), w64 (x := (k : Int) + 1) (by omega) (by omega), show (k : Int) + 1 = ((k + 1 : Nat) : Int) by omega]
   by_cases h0 : 0 < (k : Int)
   ·
    have hp := List.getElem?_eq_getElem (l := l) (i := k - 1) (by omega)
    have ha := RL.adj h hp (s := l[k]) (by rw [show k - 1 + 1 = k by omega]; exact List.getElem?_eq_getElem hkl)
    rw [if_pos h0, w64 (x := (k : Int) - 1) (by omega) (by omega), show (k : Int) - 1 = ((k - 1 : Nat) : Int) by omega, atI_at hp, Option.bind_some, w64 (x := l[k].From - 1) (by omega) (by omega), if_neg (by omega)]
    exact hi
   ·
    rw [if_neg h0]; exact hi
 unfold ref10_Right
 rw [show ref10_Right_L1 N l N 0 = _ from key l.length 0 N (by omega) (by omega), Option.bind_some]
 simp only [show (l.length : Int) ≤ 5000 by omega, decide_true]
def CKo (l : List TClass) (j : Nat) : Prop := ∀ x, l[j]? = some x → 0 ≤ x.From ∧ x.From ≤ x.To ∧ x.To ≤ 65535 ∧ 1 ≤ x.Class ∧ ∀ p, 0 < j → l[j - 1]? = some p → p.To < x.From
theorem RightK_L1 {N : Nat} {l : List TClass} (hl : l.length ≤ 9223372036854775807) : ∀ (d k n : Nat), k + d = l.length → d < n →
  (ref10_RightClasses_L1 N l n k = some (.inl ()) ∧ ∀ j, k ≤ j → j < l.length → CKo l j) ∨ ref10_RightClasses_L1 N l n k = some (.inr ()) := by
 intro d
 induction d with
 | zero =>
  intro k n hk hn
  obtain ⟨n, rfl⟩ : ∃ x, n = x + 1 := ⟨n - 1, by omega⟩
  left
  rw [ref10_RightClasses_L1, if_neg (by omega)]
  exact ⟨rfl, fun j h1 h2 => by omega⟩
 | succ d ih =>
  intro k n hk hn
  obtain ⟨n, rfl⟩ : ∃ x, n = x + 1 := ⟨n - 1, by omega⟩
  have hkl : k < l.length := by omega
  have hx := List.getElem?_eq_getElem hkl
  generalize l[k] = x at hx
  rw [ref10_RightClasses_L1, if_pos (by omega), at0 hx, Option.bind_some]
  by_cases h1 : x.From < 0
  ·
   right; rw [if_pos h1]
  rw [if_neg h1]
  by_cases h2 : 65535 < x.To
  ·
   right; rw [if_pos h2]
  rw [if_neg h2]
  by_cases h3 : x.To < x.From
  ·
   right; rw [if_pos h3]
  rw [if_neg h3]
  by_cases h4 : x.Class < 1
  ·
   right; rw [if_pos h4]
  rw [if_neg h4]
  by_cases h5 : 65535 < x.Class
  ·
   right; rw [if_pos h5]
  rw [if_neg h5, v64 (x := (k : Int) + 1) (by omega) (by omega)]
  have hi := ih (k + 1) n (by omega) (by omega)
  rw [show ((k + 1 : Nat) : Int) = (k : Int) + 1 by omega] at hi
  have fin : (∀ p, 0 < k → l[k - 1]? = some p → p.To < x.From) → (ref10_RightClasses_L1 N l n ((k : Int) + 1) = some (.inl ()) ∧ ∀ j, k ≤ j → j < l.length → CKo l j) ∨ ref10_RightClasses_L1 N l n ((k : Int) + 1) = some (.inr ()) := by
   intro hp
   rcases hi with ⟨h4, h5⟩ | h4
   ·
    refine .inl ⟨h4, fun j hj hjl => ?_⟩
    rcases Nat.lt_or_ge k j with hh | hh
    ·
     exact h5 j hh hjl
    ·
     have : j = k := by omega
     subst this
     intro s hs
     rw [hx] at hs
     cases hs
     exact ⟨by omega, by omega, by omega, by omega, hp⟩
   ·
    exact .inr h4
  by_cases h6 : 0 < (k : Int)
  ·
   rw [if_pos h6]
   have hp := List.getElem?_eq_getElem (l := l) (i := k - 1) (by omega)
   rw [v64 (x := (k : Int) - 1) (by omega) (by omega), show (k : Int) - 1 = ((k - 1 : Nat) : Int) by omega, at0 hp, Option.bind_some]
   by_cases h7 : x.From ≤ l[k - 1].To
   ·
    right; rw [if_pos h7]
   rw [if_neg h7]
   have f := fin fun p _ hp' => by rw [hp] at hp'; cases hp'; omega
   split
   ·
    split
    ·
     right; rfl
    ·
     exact f
   ·
    exact f
  ·
   rw [if_neg h6]
   exact fin fun p h0 _ => by omega
theorem RightK_eq {N : Nat} (hB : 9223372036854775808 < N) {l : List TClass} (hl : l.length ≤ 9223372036854775807) : ref10_RightClasses N l = some false ∨ (ref10_RightClasses N l = some true ∧ CL 0 l) := by
 have h := RightK_L1 (N := N) hl l.length 0 N (by omega) (by omega)
 rw [show ((0 : Nat) : Int) = 0 from rfl] at h
 unfold ref10_RightClasses
 rcases h with ⟨h1, h2⟩ | h1
 ·
  rw [h1, Option.bind_some]
  by_cases h3 : (l.length : Int) ≤ 5000
  ·
   right
   refine ⟨by simp only [h3, decide_true], ?_⟩
   have : ∀ (d i : Nat) (lo : Int), i + d = l.length → (∀ s, l[i]? = some s → lo ≤ s.From) → CL lo (l.drop i) := by
    intro d
    induction d with
    | zero => intro i lo hi _; rw [List.drop_eq_nil_of_le (by omega)]; trivial
    | succ d ih =>
     intro i lo hi hlo
     have hil : i < l.length := by omega
     have hx := List.getElem?_eq_getElem hil
     have ck := h2 i (Nat.zero_le _) hil _ hx
     rw [List.drop_eq_getElem_cons hil]
     refine ⟨hlo _ hx, ck.2.1, ck.2.2.1, ck.2.2.2.1, ih (i + 1) _ (by omega) fun s hs => ?_⟩
     have hs1 : i + 1 < l.length := (List.getElem?_eq_some_iff.1 hs).1
     have := (h2 (i + 1) (Nat.zero_le _) hs1 s hs).2.2.2.2 _ (by omega) (by rw [Nat.add_sub_cancel]; exact hx)
     omega
   have h0 := this l.length 0 0 (by omega) (fun s hs => (h2 0 (Nat.zero_le _) (List.getElem?_eq_some_iff.1 hs).1 s hs).1)
   rwa [List.drop_zero] at h0
  ·
   left; simp only [h3, decide_false]
 ·
  left; rw [h1, Option.bind_some]
def FR (cand : List Int) (o : List TSpan) : Prop := ∀ z ∈ o, z.From ∈ cand
theorem jn_fr {cand : List Int} {o : List TSpan} {s : TSpan} (h : FR cand o) (hs : s.From ∈ cand) : FR cand (jn o s) := by
 unfold jn
 cases hg : o.getLast? with
 | none => intro z hz; rw [List.mem_singleton.1 hz]; exact hs
 | some x =>
  have hx : x ∈ o := by have := split_last hg; rw [this]; simp
  dsimp only
  split
  ·
   intro z hz
   rcases List.mem_append.1 hz with hz | hz
   ·
    exact h z (List.dropLast_subset _ hz)
   ·
    rw [List.mem_singleton.1 hz]; exact h x hx
  ·
   intro z hz
   rcases List.mem_append.1 hz with hz | hz
   ·
    exact h z hz
   ·
    rw [List.mem_singleton.1 hz]; exact hs
theorem pt_fr {cand : List Int} {o : List TSpan} {a b : Int} (h : FR cand o) (hs : a ∈ cand) : FR cand (pt o a b) := by
  unfold pt
  split
  · exact jn_fr h hs
  · exact h
theorem stY_fr {cand : List Int} {nt : Bool} {x y : TSpan} {p : List TSpan × Int} (h : FR cand p.1) (ha : p.2 ∈ cand) (hy : y.From ∈ cand) (hy2 : y.To + 1 ∈ cand) : FR cand (stY nt x p y).1 ∧ (stY nt x p y).2 ∈ cand := by
 unfold stY
 split
 ·
  exact ⟨h, ha⟩
 ·
  refine ⟨?_, hy2⟩
  cases nt with
  | true => exact pt_fr h ha
  | false =>
   refine pt_fr h ?_
   rcases Int.le_total p.2 y.From with g | g
   ·
    rw [Int.max_eq_right g]; exact hy
   ·
    rw [Int.max_eq_left g]; exact ha
theorem inB_fr {cand : List Int} {nt : Bool} {x : TSpan} : ∀ {ys : List TSpan} {p : List TSpan × Int}, FR cand p.1 → p.2 ∈ cand → (∀ y ∈ ys, y.From ∈ cand ∧ y.To + 1 ∈ cand) → FR cand (inB nt x ys p).1 ∧ (inB nt x ys p).2 ∈ cand
 | [], p, h, ha, _ => ⟨h, ha⟩
 | y :: r, p, h, ha, hy => by
  have s := stY_fr (nt := nt) (x := x) h ha (hy y (by simp)).1 (hy y (by simp)).2
  exact inB_fr (p := stY nt x p y) s.1 s.2 fun z hz => hy z (by simp [hz])
theorem ouB_fr {cand : List Int} {nt : Bool} {ys : List TSpan} (hy : ∀ y ∈ ys, y.From ∈ cand ∧ y.To + 1 ∈ cand) : ∀ {l o : List TSpan}, FR cand o → (∀ x ∈ l, x.From ∈ cand) → FR cand (ouB nt ys l o)
 | [], o, h, _ => h
 | x :: r, o, h, hx => by
  refine ouB_fr (o := stX nt ys o x) hy ?_ fun z hz => hx z (by simp [hz])
  have s := inB_fr (nt := nt) (x := x) (p := (o, x.From)) h (hx x (by simp)) hy
  cases nt with
  | true => exact pt_fr s.1 s.2
  | false => exact s.1
theorem nodup_len : ∀ (l m : List Int), l.Nodup → (∀ x ∈ l, x ∈ m) → l.length ≤ m.length
 | [], m, _, _ => Nat.zero_le _
 | x :: l, m, h, hs => by
  have hx : x ∈ m := hs x (by simp)
  have h' := List.nodup_cons.1 h
  have := nodup_len l (m.erase x) h'.2 fun y hy => by
   have hne : y ≠ x := fun e => h'.1 (e ▸ hy)
   exact (List.mem_erase_of_ne hne).2 (hs y (by simp [hy]))
  rw [List.length_erase_of_mem hx] at this
  have : 0 < m.length := List.length_pos_of_mem hx
  simp only [List.length_cons]
  omega
theorem RL.nodup : ∀ {l : List TSpan} {lo : Int}, RL lo l → (l.map (·.From)).Nodup
 | [], _, _ => List.nodup_nil
 | x :: r, lo, h => by
  refine List.nodup_cons.2 ⟨fun hh => ?_, RL.nodup h.2.2.2⟩
  obtain ⟨y, hy, e⟩ := List.mem_map.1 hh
  have := RL.lows h.2.2.2 y hy
  have := h.2.1
  dsimp only at e
  omega
theorem ouB_len {nt : Bool} {l ys : List TSpan} (hl : RL 0 l) (hy : RL 0 ys) : (ouB nt ys l []).length ≤ l.length + ys.length + ys.length := by
 have hr := (ouB_spec (nt := nt) hy hl (Int.le_refl _) trivial (o := []) (by simp)).1
 have hf := ouB_fr (cand := l.map (·.From) ++ ys.map (·.From) ++ ys.map (fun y => y.To + 1)) (nt := nt) (ys := ys) (fun y h => ⟨by simp only [List.mem_append, List.mem_map]; exact .inl (.inr ⟨y, h, rfl⟩), by simp only [List.mem_append, List.mem_map]; exact .inr ⟨y, h, rfl⟩⟩) (l := l) (o := []) (by intro z hz; cases hz) (fun x h => by simp only [List.mem_append, List.mem_map]; exact .inl (.inl ⟨x, h, rfl⟩))
 have := nodup_len _ (l.map (·.From) ++ ys.map (·.From) ++ ys.map (fun y => y.To + 1)) (RL.nodup hr) fun x hx => by
  obtain ⟨z, hz, rfl⟩ := List.mem_map.1 hx
  exact hf z hz
 simp only [List.length_map, List.length_append] at this
 exact this
section
variable {N : Nat} {l : List TSpan} {c : List TClass} {a : Int} {b2 y : List TSpan} {nt : Bool}
theorem cs_L2 {i : Nat} {x : TClass} (hi : c[i]? = some x) (hx : x.To ≤ 65535) : ∀ (d n : Nat) (k : Int) (t : List Bool), (x.To - k + 1).toNat = d → d < n → 0 ≤ k → t.length = 65536 →
  ∃ t', law10_CoverSets_L2 N l c a b2 (i : Int) y nt n k t = some t' ∧ t'.length = 65536 ∧ ∀ g, 0 ≤ g → (bb t' g = if k ≤ g ∧ g ≤ x.To then decide (a = 0 ∨ x.Class = a) else bb t g) := by
 intro d
 induction d with
 | zero =>
  intro n k t hk hn h0 ht
  obtain ⟨n, rfl⟩ : ∃ x, n = x + 1 := ⟨n - 1, by omega⟩
  rw [law10_CoverSets_L2, atI_at hi, Option.bind_some, if_neg (by omega)]
  exact ⟨t, rfl, ht, fun g hg => by rw [if_neg (by omega)]⟩
 | succ d ih =>
  intro n k t hk hn h0 ht
  obtain ⟨n, rfl⟩ : ∃ x, n = x + 1 := ⟨n - 1, by omega⟩
  rw [law10_CoverSets_L2, atI_at hi, Option.bind_some, if_pos (by omega), bb_at (by omega) (by omega), Option.bind_some, w64 (x := k + 1) (by omega) (by omega)]
  have step : ∀ v : Bool, v = decide (a = 0 ∨ x.Class = a) → ∃ t', law10_CoverSets_L2 N l c a b2 (i : Int) y nt n (k + 1) (List.set t k.toNat v) = some t' ∧ t'.length = 65536 ∧ ∀ g, 0 ≤ g → (bb t' g = if k ≤ g ∧ g ≤ x.To then decide (a = 0 ∨ x.Class = a) else bb t g) := fun v hv => by
   obtain ⟨t', e, hl, hg⟩ := ih n (k + 1) (List.set t k.toNat v) (by omega) (by omega) (by omega) (by simp [ht])
   refine ⟨t', e, hl, fun g h => ?_⟩
   rw [hg g h, bb_set (by omega) (by omega) h]
   by_cases hk2 : g = k
   ·
    rw [if_neg (by omega), if_pos hk2, if_pos (by omega), hv]
   ·
    rw [if_neg hk2]
    by_cases h3 : k ≤ g ∧ g ≤ x.To
    ·
     rw [if_pos (by omega), if_pos h3]
    ·
     rw [if_neg (by omega), if_neg h3]
  by_cases h1 : a = 0
  ·
   simp only [if_pos h1]
   exact step true (by simp [h1])
  ·
   simp only [if_neg h1, Option.bind_some]
   exact step _ (by simp [h1])
theorem cs_L3 (hN : 1000000000000 < N) (hc : CB c) : ∀ (d k n : Nat) (t : List Bool), k + d = c.length → d < n → t.length = 65536 →
  ∃ t', law10_CoverSets_L3 N l c a b2 y nt n k t = some t' ∧ t'.length = 65536 ∧ ∀ g, 0 ≤ g → (∀ x ∈ c.drop k, x.From ≤ g → g ≤ x.To → bb t' g = decide (a = 0 ∨ x.Class = a)) ∧ ((∀ x ∈ c.drop k, ¬ (x.From ≤ g ∧ g ≤ x.To)) → bb t' g = bb t g) := by
 intro d
 induction d with
 | zero =>
  intro k n t hk hn ht
  obtain ⟨n, rfl⟩ : ∃ x, n = x + 1 := ⟨n - 1, by omega⟩
  rw [law10_CoverSets_L3, if_neg (by omega), List.drop_eq_nil_of_le (by omega)]
  exact ⟨t, rfl, ht, fun g hg => ⟨by simp, fun _ => rfl⟩⟩
 | succ d ih =>
  intro k n t hk hn ht
  obtain ⟨n, rfl⟩ : ∃ x, n = x + 1 := ⟨n - 1, by omega⟩
  have hkl : k < c.length := by omega
  have hx := CL.low hc.1 c[k] (List.getElem_mem hkl)
  have hcl := hc.2
  obtain ⟨t1, e1, l1, g1⟩ := cs_L2 (N := N) (l := l) (a := a) (b2 := b2) (y := y) (nt := nt) (List.getElem?_eq_getElem hkl) hx.2.2.1 _ N c[k].From t rfl (by omega) (by omega) ht
  rw [law10_CoverSets_L3, if_pos (by omega), atI_at (List.getElem?_eq_getElem hkl), Option.bind_some, e1, Option.bind_some, w64 (x := (k : Int) + 1) (by omega) (by omega), show (k : Int) + 1 = ((k + 1 : Nat) : Int) by omega, List.drop_eq_getElem_cons hkl]
  obtain ⟨t2, e2, l2, g2⟩ := ih (k + 1) n t1 (by omega) (by omega) l1
  refine ⟨t2, e2, l2, fun g hg => ⟨fun x hx' h1 h2 => ?_, fun hno => ?_⟩⟩
  ·
   rcases List.mem_cons.1 hx' with rfl | hx'
   ·
    have hafter : ∀ z ∈ c.drop (k + 1), ¬ (z.From ≤ g ∧ g ≤ z.To) := by
     obtain ⟨lo, hlo⟩ : ∃ lo, CL lo (c.drop k) := by
      have : ∀ (j : Nat) (m : List TClass) (lo : Int), CL lo m → ∃ lo', CL lo' (m.drop j) := by
       intro j
       induction j with
       | zero => intro m lo h; exact ⟨lo, h⟩
       | succ j ihj =>
        intro m lo h
        cases m with
        | nil => exact ⟨0, trivial⟩
        | cons z m => exact ihj m _ h.2.2.2.2
      exact this k c 0 hc.1
     rw [List.drop_eq_getElem_cons hkl] at hlo
     intro z hz hh
     have := CL.low hlo.2.2.2.2 z hz
     omega
    rw [(g2 g hg).2 hafter, g1 g hg, if_pos ⟨h1, h2⟩]
   ·
    exact (g2 g hg).1 x hx' h1 h2
  ·
   rw [(g2 g hg).2 fun z hz => hno z (List.mem_cons_of_mem _ hz), g1 g hg, if_neg (hno _ List.mem_cons_self)]
theorem cs_L5 {t0 : List Bool} (h0t : t0.length = 65536) {i : Nat} {x : TSpan} (hi : l[i]? = some x) (hx : x.To ≤ 65535) : ∀ (d n : Nat) (k : Int) (t : List Bool), (x.To - k + 1).toNat = d → d < n → 0 ≤ k → t.length = 65536 →
  ∃ t', law10_CoverSets_L5 N l a b2 (i : Int) y nt t0 n k t = some t' ∧ t'.length = 65536 ∧ ∀ g, 0 ≤ g → (bb t' g = if k ≤ g ∧ g ≤ x.To then ((bb t0 g == decide (a = 0)) != true) else bb t g) := by
 intro d
 induction d with
 | zero =>
  intro n k t hk hn h0 ht
  obtain ⟨n, rfl⟩ : ∃ x, n = x + 1 := ⟨n - 1, by omega⟩
  rw [law10_CoverSets_L5, atI_at hi, Option.bind_some, if_neg (by omega)]
  exact ⟨t, rfl, ht, fun g hg => by rw [if_neg (by omega)]⟩
 | succ d ih =>
  intro n k t hk hn h0 ht
  obtain ⟨n, rfl⟩ : ∃ x, n = x + 1 := ⟨n - 1, by omega⟩
  rw [law10_CoverSets_L5, atI_at hi, Option.bind_some, if_pos (by omega), bb_at (by omega) (by omega), Option.bind_some, bb_at (by omega) (by omega), Option.bind_some, w64 (x := k + 1) (by omega) (by omega)]
  obtain ⟨t', e, hl, hg⟩ := ih n (k + 1) (List.set t k.toNat ((bb t0 k == decide (a = 0)) != true)) (by omega) (by omega) (by omega) (by simp [ht])
  refine ⟨t', e, hl, fun g h => ?_⟩
  rw [hg g h, bb_set (by omega) (by omega) h]
  by_cases hk2 : g = k
  ·
   rw [if_neg (by omega), if_pos hk2, if_pos (by omega), hk2]
  ·
   rw [if_neg hk2]
   by_cases h3 : k ≤ g ∧ g ≤ x.To
   ·
    rw [if_pos (by omega), if_pos h3]
   ·
    rw [if_neg (by omega), if_neg h3]
theorem cs_L6 (hN : 1000000000000 < N) {t0 : List Bool} (h0t : t0.length = 65536) (hl : RL 0 l) (hll : l.length ≤ 5000) : ∀ (d k n : Nat) (t : List Bool), k + d = l.length → d < n → t.length = 65536 →
  ∃ t', law10_CoverSets_L6 N l a b2 y nt t0 n k t = some t' ∧ t'.length = 65536 ∧ ∀ g, 0 ≤ g → (inn (l.drop k) g → bb t' g = ((bb t0 g == decide (a = 0)) != true)) ∧ (¬ inn (l.drop k) g → bb t' g = bb t g) := by
 intro d
 induction d with
 | zero =>
  intro k n t hk hn ht
  obtain ⟨n, rfl⟩ : ∃ x, n = x + 1 := ⟨n - 1, by omega⟩
  rw [law10_CoverSets_L6, if_neg (by omega), List.drop_eq_nil_of_le (by omega)]
  exact ⟨t, rfl, ht, fun g hg => ⟨(fun h => by obtain ⟨s, hs, _⟩ := h; cases hs), fun _ => rfl⟩⟩
 | succ d ih =>
  intro k n t hk hn ht
  obtain ⟨n, rfl⟩ : ∃ x, n = x + 1 := ⟨n - 1, by omega⟩
  have hkl : k < l.length := by omega
  have hx := RL.lows hl l[k] (List.getElem_mem hkl)
  obtain ⟨t1, e1, l1, g1⟩ := cs_L5 (N := N) (a := a) (b2 := b2) (y := y) (nt := nt) h0t (List.getElem?_eq_getElem hkl) hx.2.2 _ N l[k].From t rfl (by omega) (by omega) ht
  rw [law10_CoverSets_L6, if_pos (by omega), atI_at (List.getElem?_eq_getElem hkl), Option.bind_some, e1, Option.bind_some, w64 (x := (k : Int) + 1) (by omega) (by omega), show (k : Int) + 1 = ((k + 1 : Nat) : Int) by omega, List.drop_eq_getElem_cons hkl]
  obtain ⟨t2, e2, l2, g2⟩ := ih (k + 1) n t1 (by omega) (by omega) l1
  refine ⟨t2, e2, l2, fun g hg => ⟨fun hh => ?_, fun hh => ?_⟩⟩
  ·
   by_cases h2 : inn (l.drop (k + 1)) g
   ·
    exact (g2 g hg).1 h2
   ·
    rw [(g2 g hg).2 h2, g1 g hg, if_pos ((inn_cons.1 hh).resolve_right h2)]
  ·
   have h2 : ¬ inn (l.drop (k + 1)) g := fun h => hh (inn_cons.2 (.inr h))
   rw [(g2 g hg).2 h2, g1 g hg, if_neg fun h => hh (inn_cons.2 (.inl h))]
end
theorem inn_ge {l : List TSpan} (h : RL 0 l) {g : Int} (hg : g < 0) : ¬ inn l g := fun hh => by
 have := inn_low h hh
 omega
theorem CoverSets_plain {N : Nat} (hB : 9223372036854775808 < N) {l : List TSpan} {c : List TClass} (a : Int) (hll : l.length ≤ 9223372036854775807) (hcl : c.length ≤ 9223372036854775807) (hw : ∀ x ∈ l, -9223372036854775808 ≤ x.From ∧ x.From ≤ 9223372036854775807) : law10_CoverSets N l c a = some true := by
 have hN : 1000000000000 < N := by omega
 unfold law10_CoverSets
 rcases Right_eq hB hll hw with e | ⟨e, hl, hl5⟩
 ·
  rw [e, Option.bind_some, if_neg (by simp)]
 rw [e, Option.bind_some, if_pos rfl]
 rcases RightK_eq hB hcl with e2 | ⟨e2, hc⟩
 ·
  rw [e2, Option.bind_some, if_neg (by simp)]
 rw [e2, Option.bind_some, if_pos rfl]
 by_cases g1 : 100 < (l.length : Int)
 ·
  rw [if_pos g1]
 rw [if_neg g1]
 by_cases g2 : 100 < (c.length : Int)
 ·
  rw [if_pos g2]
 rw [if_neg g2]
 have hcb : CB c := ⟨hc, by omega⟩
 obtain ⟨wr, wi, wl⟩ := wth_spec (k := a) (m := c) (lo := 0) (o := []) hc (Int.le_refl _) trivial (by simp)
 have wl' : (wth a c []).length ≤ 100 := by simp only [List.length_nil] at wl; omega
 rw [With_eq hN hcb a]
 simp only [Option.bind_some]
 rw [Both_eq hN hl wr (by omega) (by omega), Option.bind_some, RightT hN wr (by omega), Option.bind_some, if_pos rfl]
 obtain ⟨or_, _, oi⟩ := ouB_spec (nt := decide (a = 0)) wr hl (Int.le_refl _) trivial (o := []) (by simp)
 have ol := ouB_len (nt := decide (a = 0)) hl wr
 rw [RightT hN or_ (by omega), Option.bind_some, if_pos rfl]
 obtain ⟨t1, f1, k1, p1⟩ := cs_L3 (N := N) (l := l) (c := c) (a := a) (b2 := ouB (decide (a = 0)) (wth a c []) l []) (y := wth a c []) (nt := decide (a = 0)) hN hcb c.length 0 N (List.replicate 65536 false) (by omega) (by omega) (by rw [List.length_replicate])
 obtain ⟨t2, f2, k2, p2⟩ := cs_L6 (N := N) (l := l) (a := a) (b2 := ouB (decide (a = 0)) (wth a c []) l []) (y := wth a c []) (nt := decide (a = 0)) hN k1 hl (by omega) l.length 0 N (List.replicate 65536 false) (by omega) (by omega) (by rw [List.length_replicate])
 rw [List.drop_zero] at p1 p2
 have q1 : ∀ g, 0 ≤ g → (bb t1 g = true ↔ inn (wth a c []) g) := by
  intro g hg
  rw [wi g]
  constructor
  ·
   intro h
   by_cases hex : ∃ x ∈ c, x.From ≤ g ∧ g ≤ x.To
   ·
    obtain ⟨x, hx, h1, h2⟩ := hex
    rw [(p1 g hg).1 x hx h1 h2] at h
    exact .inr ⟨x, hx, of_decide_eq_true h, h1, h2⟩
   ·
    rw [(p1 g hg).2 fun x hx hh => hex ⟨x, hx, hh⟩, bb_rep] at h
    cases h
  ·
   rintro (h | ⟨x, hx, h0, h1, h2⟩)
   ·
    obtain ⟨s, hs, _⟩ := h; cases hs
   ·
    rw [(p1 g hg).1 x hx h1 h2]; exact decide_eq_true h0
 have q2 : ∀ g, 0 ≤ g → (bb t2 g = true ↔ inn (ouB (decide (a = 0)) (wth a c []) l []) g) := by
  intro g hg
  rw [oi g]
  have nn0 : ¬ inn ([] : List TSpan) g := fun h => by obtain ⟨s, hs, _⟩ := h; cases hs
  by_cases hl' : inn l g
  ·
   rw [(p2 g hg).1 hl']
   have := q1 g hg
   clear p1 p2 f1 f2 q1
   by_cases h0 : a = 0
   ·
    rw [decide_eq_true h0]
    cases hb : bb t1 g with
    | true =>
     rw [hb] at this
     refine ⟨(fun h => by cases h), fun h => ?_⟩
     rcases h with h | ⟨_, h⟩
     ·
      exact (nn0 h).elim
     ·
      have := h.1 (this.1 rfl); cases this
    | false =>
     rw [hb] at this
     exact ⟨fun _ => .inr ⟨hl', fun hi => absurd (this.2 hi) (by decide), fun h => by cases h⟩, fun _ => rfl⟩
   ·
    rw [decide_eq_false h0]
    cases hb : bb t1 g with
    | true =>
     rw [hb] at this
     exact ⟨fun _ => .inr ⟨hl', fun _ => rfl, fun _ => this.1 rfl⟩, fun _ => rfl⟩
    | false =>
     rw [hb] at this
     refine ⟨(fun h => by cases h), fun h => ?_⟩
     rcases h with h | ⟨_, h⟩
     ·
      exact (nn0 h).elim
     ·
      have := this.2 (h.2 rfl); cases this
  ·
   rw [(p2 g hg).2 hl', bb_rep]
   refine ⟨(fun h => by cases h), fun h => ?_⟩
   rcases h with h | ⟨h, _⟩
   ·
    exact (nn0 h).elim
   ·
    exact (hl' h).elim
 obtain ⟨m1, e3, r3, i3⟩ := Spans_eq hN (t := t1) (by omega)
 obtain ⟨m2, e4, r4, i4⟩ := Spans_eq hN (t := t2) (by omega)
 have m1e : wth a c [] = m1 := RL.uniq wr r3 fun x => by
  by_cases hx : 0 ≤ x
  ·
   rw [i3 x hx, q1 x hx]
  ·
   exact ⟨fun h => (inn_ge wr (by omega) h).elim, fun h => (inn_ge r3 (by omega) h).elim⟩
 have m2e : ouB (decide (a = 0)) (wth a c []) l [] = m2 := RL.uniq or_ r4 fun x => by
  by_cases hx : 0 ≤ x
  ·
   rw [i4 x hx, q2 x hx]
  ·
   exact ⟨fun h => (inn_ge or_ (by omega) h).elim, fun h => (inn_ge r4 (by omega) h).elim⟩
 have fin : ((law10_CoverSets_L3 N l c a (ouB (decide (a = 0)) (wth a c []) l []) (wth a c []) (decide (a = 0)) N 0 (List.replicate 65536 false)).bind fun y_1033 => (law10_CoverSets_L6 N l a (ouB (decide (a = 0)) (wth a c []) l []) (wth a c []) (decide (a = 0)) y_1033 N 0 (List.replicate 65536 false)).bind fun y_2035 => (ref10_Spans_row N y_1033).bind fun y_2036 => (ref10_Same N (wth a c []) y_2036).bind fun y_2038 => if y_2038 = true then ((ref10_Spans_row N y_2035).bind fun y_2042 => (ref10_Same N (ouB (decide (a = 0)) (wth a c []) l []) y_2042).bind fun y_2044 => some y_2044) else some false) = some true := by
  rw [show law10_CoverSets_L3 N l c a (ouB (decide (a = 0)) (wth a c []) l []) (wth a c []) (decide (a = 0)) N 0 (List.replicate 65536 false) = some t1 from f1, Option.bind_some, show law10_CoverSets_L6 N l a (ouB (decide (a = 0)) (wth a c []) l []) (wth a c []) (decide (a = 0)) t1 N 0 (List.replicate 65536 false) = some t2 from f2, Option.bind_some, e3, Option.bind_some, Same_eq hN (by omega), Option.bind_some, if_pos (decide_eq_true m1e), e4, Option.bind_some, Same_eq hN (by omega), Option.bind_some, decide_eq_true m2e]
 by_cases h0 : a = 0
 ·
  rw [if_pos (decide_eq_true h0), if_pos h0]; exact fin
 ·
  rw [if_neg (by simp [h0]), if_neg h0]; exact fin
end Go.Proofs.Ytakplhfiohjcmaa.AI
