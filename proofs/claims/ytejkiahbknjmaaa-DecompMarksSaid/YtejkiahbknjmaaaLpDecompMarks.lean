/- Plain law: DecompMarks. -/
import Derived.Test.YtejkiahbknjmaaaDS6
import Derived.Test.YtejkiahbknjmaaaDM3
set_option linter.unusedVariables false
set_option linter.unusedSimpArgs false
set_option maxRecDepth 100000
namespace Go.Proofs.Ytejkiahbknjmaaa.AI
/-! ### a code's class -/
theorem fsearch_L1 {N : Nat} {l : List TRange} (hp : l.Pairwise fun p q => p.To < q.To) (hl : l.length ≤ 5000) {c : Int} : ∀ (d n lo hi : Nat), hi - lo < d → d ≤ n → lo ≤ hi → hi ≤ l.length →
    (∀ (j : Nat) (p : TRange), j < lo → l[j]? = some p → p.To < c) → (∀ p, l[hi]? = some p → c ≤ p.To) →
    ∃ i : Nat, sort_Search_v2_L1 N l c n lo hi = some (i : Int) ∧ i ≤ l.length ∧ (∀ (j : Nat) (p : TRange), j < i → l[j]? = some p → p.To < c) ∧ (∀ p, l[i]? = some p → c ≤ p.To) := by
  intro d
  induction d with
  | zero => intro n lo hi h1 h2; omega
  | succ d ih =>
    intro n lo hi h1 h2 h3 h4 h5 h6
    obtain ⟨n, rfl⟩ : ∃ x, n = x + 1 := ⟨n - 1, by omega⟩
    rw [sort_Search_v2_L1]
    by_cases g : (lo : Int) < (hi : Int)
    · rw [if_pos g, mid_eq (by omega)]
      have hm : (lo + hi) / 2 < l.length := by omega
      unfold span_Find_1
      rw [atI_get hm, Option.bind_some, Option.bind_some]
      by_cases g2 : c ≤ l[(lo + hi) / 2].To
      · rw [decide_eq_true g2, if_pos rfl]
        exact ih n lo ((lo + hi) / 2) (by omega) (by omega) (by omega) (by omega) h5 (fun p h => by rw [List.getElem?_eq_getElem hm] at h; rw [← Option.some.inj h]; exact g2)
      · rw [decide_eq_false g2, if_neg (by simp), wk (by omega)]
        refine ih n ((lo + hi) / 2 + 1) hi (by omega) (by omega) (by omega) (by omega) (fun j p hj h => ?_) h6
        obtain ⟨hj', rfl⟩ := List.getElem?_eq_some_iff.1 h
        rcases Nat.lt_or_ge j ((lo + hi) / 2) with g3 | g3
        · have := (List.pairwise_iff_getElem.1 hp) j ((lo + hi) / 2) hj' hm g3
          omega
        · have : j = (lo + hi) / 2 := by omega
          subst this; omega
    · rw [if_neg g]
      have : lo = hi := by omega
      subst this
      exact ⟨lo, rfl, h4, h5, h6⟩
theorem chR_pw {m : Int} : ∀ {l : List TRange} {a : Int}, chR m a l → l.Pairwise fun p q => p.To < q.From ∧ p.To < q.To
  | [], _, _ => List.Pairwise.nil
  | x :: l, a, h => List.Pairwise.cons (fun q hq => by
      have := chR_mem h.2.2 q hq
      have := this.2.1
      omega) (chR_pw h.2.2)
theorem find_eq {N : Nat} (hN : 1000000000000 < N) {m : Int} (hm : m ≤ 9223372036854775807) {l : List TRange} (hl : Rt m l) (c : Int) : ∃ b, span_Find N l c = some ((fnd l c).getD 0, b) := by
  obtain ⟨b, e, hb⟩ := sright_eq hN l 9223372036854775807
  have hpw := chR_pw hl.2
  obtain ⟨i, e2, i1, i2, i3⟩ := fsearch_L1 (N := N) (hpw.imp fun h => h.2) hl.1 (c := c) (l.length + 1) N 0 l.length (by have := hl.1; omega) (by have := hl.1; omega) (by omega) (Nat.le_refl _) (fun j p hj => by omega) (fun p h => by simp at h)
  unfold span_Find sort_Search_v2
  rw [e, Option.bind_some, if_pos (hb.2 (Rt_mono hm hl)), show sort_Search_v2_L1 N l c N 0 (l.length : Int) = _ from e2, Option.bind_some, Option.bind_some]
  have hleft : ∀ r ∈ l.take i, r.To < c := fun r hr => by
    obtain ⟨j, hj, rfl⟩ := List.getElem_of_mem hr
    simp only [List.length_take] at hj
    rw [List.getElem_take]
    exact i2 j _ (by omega) (List.getElem?_eq_getElem (by omega))
  by_cases g : (i : Int) = (l.length : Int)
  · rw [if_pos g]
    have : l.take i = l := List.take_of_length_le (by omega)
    rw [this] at hleft
    rw [fnd_left hleft]
    exact ⟨_, rfl⟩
  · have hil : i < l.length := by omega
    have hc := i3 l[i] (List.getElem?_eq_getElem hil)
    have hs : l = l.take i ++ l[i] :: l.drop (i + 1) := by rw [← List.drop_eq_getElem_cons hil, List.take_append_drop]
    have hright : ∀ r ∈ l.drop (i + 1), c < r.From := fun r hr => by
      rw [hs] at hpw
      have := (List.pairwise_cons.1 (List.pairwise_append.1 hpw).2.1).1 r hr
      omega
    have hf : fnd l c = if l[i].From ≤ c ∧ c ≤ l[i].To then some l[i].Val else none := by
      conv => lhs; rw [hs]
      rw [fnd_app, fnd_left hleft]
      simp only [fnd]
      rw [fnd_right hright]
    rw [if_neg g, atI_get hil, Option.bind_some, hf]
    by_cases g2 : c < l[i].From
    · rw [if_pos g2, if_neg (by omega)]; exact ⟨_, rfl⟩
    · rw [if_neg g2, if_pos ⟨by omega, hc⟩]; exact ⟨_, rfl⟩
theorem class_eq {N : Nat} (hN : 1000000000000 < N) {l : List TRange} (hl : Rt 254 l) (c : Int) : decomp_Class N l c = some (valc l c) := by
  obtain ⟨b, e, hb⟩ := sright_eq hN l 254
  obtain ⟨b2, e2⟩ := find_eq hN (by omega) hl c
  unfold decomp_Class valc
  rw [e, Option.bind_some, if_pos (hb.2 hl), svalid_eq, Option.bind_some]
  by_cases g : vld c = true
  · rw [if_pos g, if_pos g, e2, Option.bind_some]
  · rw [if_neg g, if_neg g]
theorem class_bad {N : Nat} (hN : 1000000000000 < N) {l : List TRange} (hl : ¬ Rt 254 l) (c : Int) : decomp_Class N l c = some 0 := by
  obtain ⟨b, e, hb⟩ := sright_eq hN l 254
  unfold decomp_Class
  rw [e, Option.bind_some, if_neg (fun q => hl (hb.1 q))]
/-! ### the document's order -/
theorem rmarks_L3 {N : Nat} {l s : List Int} (hl : l.length ≤ 1000) {i : Nat} (hi : i < l.length) (hs : inr l s) (hsl : s.length ≤ 1000) : ∀ (k n : Nat), k ≤ s.length → k < n → ∃ j : Nat, ref21_Marks_L3 N l i s n k = some (j : Int) ∧ j ≤ k ∧
    (∀ p : Nat, j ≤ p → p < k → ∀ x, s[p]? = some x → kk l (i : Int) ≠ 0 ∧ kk l x ≠ 0 ∧ kk l (i : Int) < kk l x) ∧ (∀ x, 0 < j → s[j - 1]? = some x → kk l (i : Int) = 0 ∨ kk l x = 0 ∨ kk l x ≤ kk l (i : Int)) := by
  intro k
  induction k with
  | zero =>
    intro n h1 h2
    obtain ⟨n, rfl⟩ : ∃ x, n = x + 1 := ⟨n - 1, by omega⟩
    rw [ref21_Marks_L3, if_neg (by omega)]
    exact ⟨0, rfl, Nat.le_refl _, fun p h1 h2 => by omega, fun x h => by omega⟩
  | succ k ih =>
    intro n h1 h2
    obtain ⟨n, rfl⟩ : ∃ x, n = x + 1 := ⟨n - 1, by omega⟩
    have hk : k < s.length := by omega
    have hx := hs s[k] (List.getElem_mem hk)
    have hsk : ∀ x, s[k + 1 - 1]? = some x → x = s[k] := fun x h => by
      rw [Nat.add_sub_cancel, List.getElem?_eq_getElem hk] at h; exact (Option.some.inj h).symm
    rw [ref21_Marks_L3, if_pos (by omega), atI_kk (e := (i : Int)) (by omega), Option.bind_some]
    by_cases g1 : kk l (i : Int) = 0
    · rw [if_pos g1]; exact ⟨k + 1, rfl, Nat.le_refl _, fun p h1 h2 => by omega, fun x _ _ => .inl g1⟩
    rw [if_neg g1, wpre (a := k + 1) (by omega) (by omega), Nat.add_sub_cancel, atI_get hk, Option.bind_some, atI_kk hx, Option.bind_some]
    by_cases g2 : kk l s[k] = 0
    · rw [if_pos g2]; exact ⟨k + 1, rfl, Nat.le_refl _, fun p h1 h2 => by omega, fun x _ h => .inr (.inl (by rw [hsk x h]; exact g2))⟩
    rw [if_neg g2]
    by_cases g3 : kk l (i : Int) < kk l s[k]
    · rw [if_pos g3]
      obtain ⟨j, e, j1, j2, j3⟩ := ih n (by omega) (by omega)
      refine ⟨j, e, by omega, fun p p1 p2 x hx2 => ?_, j3⟩
      rcases Nat.lt_or_ge p k with q | q
      · exact j2 p p1 q x hx2
      · have : p = k := by omega
        subst this
        rw [List.getElem?_eq_getElem hk] at hx2
        rw [← Option.some.inj hx2]
        exact ⟨g1, g2, g3⟩
    · rw [if_neg g3]; exact ⟨k + 1, rfl, Nat.le_refl _, fun p h1 h2 => by omega, fun x _ h => .inr (.inr (by rw [hsk x h]; omega))⟩
/-- An item put into its place. -/
theorem ins_ord {l A B : List Int} {i : Nat} (hp : (A ++ B).Perm (up 0 i)) (hs : (A ++ B).Pairwise (Rr l)) (hB : ∀ b ∈ B, kk l (i : Int) ≠ 0 ∧ kk l b ≠ 0 ∧ kk l (i : Int) < kk l b)
    (hA : ∀ a, A.getLast? = some a → kk l (i : Int) = 0 ∨ kk l a = 0 ∨ kk l a ≤ kk l (i : Int)) : (A ++ (i : Int) :: B).Pairwise (Rr l) ∧ (A ++ (i : Int) :: B).Perm (up 0 (i + 1)) := by
  have hmem : ∀ x ∈ A ++ B, ∃ k : Nat, k < i ∧ x = (k : Int) := fun x hx => by
    obtain ⟨k, _, k2, rfl⟩ := up_mem.1 (hp.mem_iff.1 hx); exact ⟨k, by omega, rfl⟩
  obtain ⟨sA, sB, sAB⟩ := List.pairwise_append.1 hs
  constructor
  · refine List.pairwise_append.2 ⟨sA, List.Pairwise.cons (fun b hb => ?_) sB, fun a ha b hb => ?_⟩
    · obtain ⟨k, k1, rfl⟩ := hmem b (by simp [hb])
      obtain ⟨b1, b2, b3⟩ := hB _ hb
      have hle := (pc_lt (l := l) k1).1
      by_cases e : pc l (k : Int) < pc l (i : Int)
      · obtain ⟨z, z1, z2, z3⟩ := pc_zero e k1 b2 b1
        have hz : (z : Int) ∈ A ++ B := hp.mem_iff.2 (up_mem.2 ⟨z, by omega, by omega, rfl⟩)
        rcases List.mem_append.1 hz with hz | hz
        · exact (Rr_asym (sAB _ hz _ hb) (.inl ((pc_lt z1).2.2 z3))).elim
        · exact absurd z3 (hB _ hz).2.1
      · exact .inr ⟨by omega, .inl b3⟩
    · rcases List.mem_cons.1 hb with rfl | hb
      · obtain ⟨k, k1, rfl⟩ := hmem a (by simp [ha])
        have hle := (pc_lt (l := l) k1)
        by_cases e : pc l (k : Int) < pc l (i : Int)
        · exact .inl e
        have hk0 : kk l (k : Int) ≠ 0 := fun q => e (hle.2.1 q)
        have hi0 : kk l (i : Int) ≠ 0 := fun q => e (hle.2.2 q)
        have hkey : kk l (k : Int) ≤ kk l (i : Int) := by
          have hne : A ≠ [] := List.ne_nil_of_mem ha
          have hgl := hA (A.getLast hne) (List.getLast?_eq_some_getLast hne)
          obtain ⟨q, q1, q2⟩ := hmem (A.getLast hne) (by simp [List.getLast_mem hne])
          rw [q2] at hgl
          have hpq := (pc_lt (l := l) q1)
          have hrel : (k : Int) = (q : Int) ∨ Rr l (k : Int) (q : Int) := by
            have hdl := List.dropLast_concat_getLast hne
            rw [← hdl] at ha sA
            rcases List.mem_append.1 ha with ha | ha
            · have := (List.pairwise_append.1 sA).2.2 _ ha (A.getLast hne) (by simp)
              rw [q2] at this; exact .inr this
            · rw [List.mem_singleton.1 ha] at *; exact .inl q2
          rcases hrel with hrel | hrel
          · rw [← hrel] at hgl
            rcases hgl with h | h | h
            · exact absurd h hi0
            · exact absurd h hk0
            · exact h
          · unfold Rr ltk at hrel
            have hq0 : kk l (q : Int) ≠ 0 := fun z => by have := hpq.2.1 z; omega
            rcases hgl with h | h | h
            · exact absurd h hi0
            · exact absurd h hq0
            · have := hpq.1; omega
        by_cases q : kk l (k : Int) < kk l (i : Int)
        · exact .inr ⟨by omega, .inl q⟩
        · exact .inr ⟨by omega, .inr ⟨by omega, by omega⟩⟩
      · exact sAB a ha b hb
  · rw [up_app 0 i 1, Nat.zero_add]
    refine List.perm_middle.trans ?_
    have := List.Perm.cons (i : Int) hp
    refine this.trans ?_
    exact (List.perm_append_comm (l₁ := up 0 i) (l₂ := [(i : Int)])).symm
theorem rmarks_L4 {N : Nat} (hN : 1000000000000 < N) {l : List Int} (hl : l.length ≤ 1000) : ∀ (d i n : Nat) (s : List Int), i + d = l.length → d < n → s.Perm (up 0 i) → s.Pairwise (Rr l) → ∃ o, ref21_Marks_L4 N l n i s = some o ∧ Ord l o := by
  intro d
  induction d with
  | zero =>
    intro i n s hi hn hp hs
    obtain ⟨n, rfl⟩ : ∃ x, n = x + 1 := ⟨n - 1, by omega⟩
    rw [ref21_Marks_L4, if_neg (by omega)]
    have : i = l.length := by omega
    subst this
    exact ⟨s, rfl, ⟨hp, hs⟩⟩
  | succ d ih =>
    intro i n s hi hn hp hs
    obtain ⟨n, rfl⟩ : ∃ x, n = x + 1 := ⟨n - 1, by omega⟩
    have hsl := hp.length_eq
    rw [up_len] at hsl
    have hin : inr l s := fun e he => by obtain ⟨k, _, k2, rfl⟩ := up_mem.1 (hp.mem_iff.1 he); omega
    obtain ⟨j, e, j1, j2, j3⟩ := rmarks_L3 (N := N) hl (i := i) (by omega) hin (by omega) s.length N (Nat.le_refl _) (by omega)
    have t1 : slI s 0 (j : Int) = s.take j := by unfold slI; simp
    have t2 : slI s (j : Int) (s.length : Int) = s.drop j := by unfold slI; rw [Int.toNat_natCast, Int.toNat_natCast]; exact List.take_of_length_le (by simp)
    have hcat : s.take j ++ s.drop j = s := List.take_append_drop j s
    obtain ⟨o1, o2⟩ := ins_ord (l := l) (A := s.take j) (B := s.drop j) (i := i) (by rw [hcat]; exact hp) (by rw [hcat]; exact hs) (fun b hb => by
      obtain ⟨q, hq, rfl⟩ := List.getElem_of_mem hb
      simp only [List.length_drop] at hq
      rw [List.getElem_drop]
      exact j2 (j + q) (by omega) (by omega) _ (List.getElem?_eq_getElem (by omega))) (fun a ha => by
      rw [List.getLast?_eq_getElem?, List.length_take, List.getElem?_take] at ha
      by_cases g : 0 < j
      · rw [if_pos (by omega), show min j s.length - 1 = j - 1 by omega] at ha
        exact j3 a g ha
      · rw [if_neg (by omega)] at ha; cases ha)
    rw [ref21_Marks_L4, if_pos (by omega), e, Option.bind_some, if_pos (by omega), if_pos (by omega), t1, t2, if_pos (by simp; omega), if_pos (by simp; omega), if_pos (by simp; omega), wk (by omega), show s.take j ++ [(i : Int)] ++ s.drop j = s.take j ++ (i : Int) :: s.drop j by simp]
    exact ih (i + 1) n _ (by omega) (by omega) o2 o1
theorem rmarks_eq {N : Nat} (hN : 1000000000000 < N) {l : List Int} (hl : l.length ≤ 1000) : ∃ o, ref21_Marks N l = some o ∧ Ord l o := by
  obtain ⟨o, e, h⟩ := rmarks_L4 hN hl l.length 0 N [] (by omega) (by omega) (List.Perm.refl _) List.Pairwise.nil
  unfold ref21_Marks
  rw [show ref21_Marks_L4 N l N 0 [] = _ from e, Option.bind_some]
  exact ⟨o, rfl, h⟩
theorem ints_L1 {N : Nat} {x : List Int} (hx : x.length ≤ 1000000) : ∀ (d k n : Nat), k + d = x.length → d < n → ref01_Ints_L1 N x x n k = some (.inl ()) := by
  intro d
  induction d with
  | zero =>
    intro k n hk hn
    obtain ⟨n, rfl⟩ : ∃ x, n = x + 1 := ⟨n - 1, by omega⟩
    rw [ref01_Ints_L1, if_neg (by omega)]
  | succ d ih =>
    intro k n hk hn
    obtain ⟨n, rfl⟩ : ∃ x, n = x + 1 := ⟨n - 1, by omega⟩
    have hkl : k < x.length := by omega
    rw [ref01_Ints_L1, if_pos (by omega), atI_get hkl, Option.bind_some, Option.bind_some, if_pos rfl, wk (by omega)]
    exact ih (k + 1) n (by omega) (by omega)
theorem ints_eq {N : Nat} (hN : 1000000000000 < N) {x : List Int} (hx : x.length ≤ 1000000) : ref01_Ints N x x = some true := by
  unfold ref01_Ints
  rw [if_pos rfl, show ref01_Ints_L1 N x x N 0 = _ from ints_L1 hx x.length 0 N (by omega) (by omega), Option.bind_some]
theorem decompMarks_plain {N : Nat} (hN : 1000000000000 < N) (r : List TRange) (c : Int) (l : List Int) : law21_DecompMarks N r c l = some true := by
  unfold law21_DecompMarks
  rw [alive21 hN, Option.bind_some, if_pos rfl]
  by_cases g : 200 < (r.length : Int)
  · rw [if_pos g]
  rw [if_neg g]
  by_cases g2 : 200 < (l.length : Int)
  · rw [if_pos g2]
  rw [if_neg g2]
  have hl : l.length ≤ 1000 := by omega
  obtain ⟨o, e, p, s⟩ := marks_eq hN hl
  obtain ⟨o2, e2, h2⟩ := rmarks_eq hN hl
  have : o = o2 := sorted_unique (p.trans h2.perm.symm) s h2.srt
  subst this
  have hol := h2.len
  obtain ⟨b, e3, hb⟩ := rright_eq hN r 254
  rw [e3, Option.bind_some]
  by_cases hr : Rt 254 r
  · rw [if_pos (hb.2 hr), get21 hN hr.1, Option.bind_some, class_eq hN hr, Option.bind_some, if_pos rfl, e, Option.bind_some, e2, Option.bind_some, ints_eq hN (by omega), Option.bind_some]
  · rw [if_neg (fun q => hr (hb.1 q)), class_bad hN hr, Option.bind_some, if_pos rfl, e, Option.bind_some, e2, Option.bind_some, ints_eq hN (by omega), Option.bind_some]
end Go.Proofs.Ytejkiahbknjmaaa.AI
