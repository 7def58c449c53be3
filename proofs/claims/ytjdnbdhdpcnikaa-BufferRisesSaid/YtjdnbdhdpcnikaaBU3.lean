/- Plain laws: orders, their blocks, and runs moved by them. -/
import Derived.Test.YtjdnbdhdpcnikaaBU2
set_option linter.unusedVariables false
set_option linter.unusedSimpArgs false
namespace Go.Proofs.Ytjdnbdhdpcnikaa.AI
/-- More unlike things do not go into fewer places. -/
theorem php {α : Type} [DecidableEq α] : ∀ {A B : List α}, A.Nodup → (∀ a ∈ A, a ∈ B) → A.length ≤ B.length
  | [], B, _, _ => Nat.zero_le _
  | a :: A, B, h, hs => by
    have h1 := List.nodup_cons.1 h
    have h2 : a ∈ B := hs a List.mem_cons_self
    have := php (A := A) (B := B.erase a) h1.2 fun x hx => (List.mem_erase_of_ne (by rintro rfl; exact h1.1 hx)).2 (hs x (List.mem_cons_of_mem _ hx))
    rw [List.length_erase_of_mem h2] at this
    have : 0 < B.length := List.length_pos_of_mem h2
    simp only [List.length_cons]; omega
def upto (n : Nat) : List Int := (List.range n).map (fun (k : Nat) => (k : Int))
theorem upto_mem {n : Nat} {x : Int} : x ∈ upto n ↔ 0 ≤ x ∧ x < n := by
  simp only [upto, List.mem_map, List.mem_range]
  constructor
  · rintro ⟨k, h, rfl⟩; omega
  · rintro ⟨h1, h2⟩; exact ⟨x.toNat, by omega, by omega⟩
theorem upto_len (n : Nat) : (upto n).length = n := by simp [upto]
theorem upto_nodup : ∀ n, (upto n).Nodup
  | 0 => by simp [upto]
  | n + 1 => by
    have h := upto_nodup n
    have e : upto (n + 1) = upto n ++ [(n : Int)] := by simp [upto, List.range_succ]
    rw [e, List.nodup_append]
    refine ⟨h, by simp, fun a ha b hb => ?_⟩
    have := upto_mem.1 ha
    simp at hb
    omega
/-- An order of n things: each place once. -/
def Prm (l : List Int) : Prop := l.Nodup ∧ ∀ x ∈ l, 0 ≤ x ∧ x < (l.length : Int)
theorem Prm.all {l : List Int} (h : Prm l) {x : Int} (h0 : 0 ≤ x) (h1 : x < (l.length : Int)) : x ∈ l := by
  apply Classical.byContradiction
  intro hx
  have := php (A := x :: l) (B := upto l.length) (List.nodup_cons.2 ⟨hx, h.1⟩) fun a ha => by
    rcases List.mem_cons.1 ha with rfl | ha
    · exact upto_mem.2 ⟨h0, h1⟩
    · exact upto_mem.2 (h.2 a ha)
  rw [upto_len] at this
  simp only [List.length_cons] at this
  omega
/-- What stands at a place of an order. -/
def o (l : List Int) (i : Nat) : Int := l[i]?.getD 0
theorem o_at {l : List Int} {i : Nat} {x : Int} (h : l[i]? = some x) : o l i = x := by unfold o; rw [h]; rfl
theorem o_get {l : List Int} {i : Nat} (h : i < l.length) : l[i]? = some (o l i) := by unfold o; rw [List.getElem?_eq_getElem h]; rfl
theorem o_mem {l : List Int} {i : Nat} (h : i < l.length) : o l i ∈ l := List.mem_of_getElem? (o_get h)
/-- The first e are the first e. -/
def CP (l : List Int) (e : Int) : Prop := ∀ i : Nat, (i : Int) < e → i < l.length → o l i < e
theorem CP.ge {l : List Int} (hp : Prm l) {e : Int} (h : CP l e) (he : e ≤ (l.length : Int)) {k : Nat} (hk : e ≤ (k : Int)) (hkl : k < l.length) : e ≤ o l k := by
  apply Classical.byContradiction
  intro hc
  have he0 : 0 ≤ e := by have := hp.2 _ (o_mem hkl); omega
  have nd : (o l k :: l.take e.toNat).Nodup := by
    refine List.nodup_cons.2 ⟨fun hm => ?_, List.Sublist.nodup (List.take_sublist _ _) hp.1⟩
    obtain ⟨i, hi⟩ := List.getElem?_of_mem hm
    rw [List.getElem?_take] at hi
    split at hi
    · rename_i hlt
      have h1 := o_get hkl
      have hil := (List.getElem?_eq_some_iff.1 hi).1
      have := (List.getElem?_inj (i := i) (j := k) hil hp.1).1 (hi.trans h1.symm)
      omega
    · cases hi
  have := php nd (B := upto e.toNat) fun a ha => by
    rcases List.mem_cons.1 ha with rfl | ha
    · have := hp.2 _ (o_mem hkl); exact upto_mem.2 (by omega)
    · obtain ⟨i, hi⟩ := List.getElem?_of_mem ha
      rw [List.getElem?_take] at hi
      split at hi
      · rename_i hlt
        have hil := (List.getElem?_eq_some_iff.1 hi).1
        have h2 := h i (by omega) hil
        rw [o_at hi] at h2
        have := hp.2 a (List.mem_of_mem_take ha)
        exact upto_mem.2 (by omega)
      · cases hi
  rw [upto_len] at this
  simp at this
  omega
/-- Blocks, one behind another. -/
def BC (l : List Int) : Int → List TArr2_I64 → Int → Prop
  | lo, [], hi => lo = hi
  | lo, b :: r, hi => b.e0 = lo ∧ lo < b.e1 ∧ b.e1 ≤ hi ∧ CP l b.e1 ∧ BC l b.e1 r hi
theorem BC.le {l : List Int} : ∀ {r : List TArr2_I64} {lo hi : Int}, BC l lo r hi → lo ≤ hi
  | [], lo, hi, h => by have : lo = hi := h; omega
  | b :: r, lo, hi, h => by obtain ⟨h1, h2, h3, _⟩ := h; omega
theorem BC.snoc {l : List Int} {a c : Int} (hac : a < c) (hc : CP l c) : ∀ {r : List TArr2_I64} {lo : Int}, BC l lo r a → BC l lo (r ++ [⟨a, c⟩]) c
  | [], lo, h => by
    have : lo = a := h
    subst this
    exact ⟨rfl, hac, Int.le_refl _, hc, rfl⟩
  | b :: r, lo, h => by
    obtain ⟨h1, h2, h3, h4, h5⟩ := h
    have := BC.le h5
    exact ⟨h1, h2, by omega, h4, BC.snoc hac hc h5⟩
theorem Bl_L1 {N : Nat} {l : List Int} (hl : l.length ≤ 1000000) : ∀ (d k n : Nat) (s : List Bool), k + d = l.length → d < n → s.length = l.length → (l.take k).Nodup → (∀ x ∈ l.take k, 0 ≤ x ∧ x < (l.length : Int)) → (∀ v : Nat, v < l.length → s[v]? = some (decide ((v : Int) ∈ l.take k))) →
    (buffer_Blocks_L1 N l n k s = some (.inl ()) ∧ Prm l) ∨ (buffer_Blocks_L1 N l n k s = some (.inr ()) ∧ ¬ Prm l) := by
  intro d
  induction d with
  | zero =>
    intro k n s hk hn hs hnd hr hm
    obtain ⟨n, rfl⟩ : ∃ x, n = x + 1 := ⟨n - 1, by omega⟩
    left
    rw [List.take_of_length_le (by omega)] at hnd hr
    rw [buffer_Blocks_L1, if_neg (by omega)]
    exact ⟨rfl, hnd, hr⟩
  | succ d ih =>
    intro k n s hk hn hs hnd hr hm
    obtain ⟨n, rfl⟩ : ∃ x, n = x + 1 := ⟨n - 1, by omega⟩
    obtain ⟨x, hx, hd⟩ := drop_cons hk
    have hxm := List.mem_of_getElem? hx
    have ht : l.take (k + 1) = l.take k ++ [x] := by rw [List.take_add_one, hx]; rfl
    rw [buffer_Blocks_L1, if_pos (by omega), at0 hx, Option.bind_some]
    by_cases h1 : x < 0
    · right; rw [if_pos h1]; exact ⟨rfl, fun h => by have := h.2 x hxm; omega⟩
    rw [if_neg h1]
    by_cases h2 : (l.length : Int) ≤ x
    · right; rw [if_pos h2]; exact ⟨rfl, fun h => by have := h.2 x hxm; omega⟩
    rw [if_neg h2]
    obtain ⟨X, rfl⟩ := Int.eq_ofNat_of_zero_le (show 0 ≤ x by omega)
    rw [at0 (hm X (by omega)), Option.bind_some]
    by_cases h3 : (X : Int) ∈ l.take k
    · right
      rw [if_pos (decide_eq_true h3)]
      refine ⟨rfl, fun h => ?_⟩
      have : (l.take (k + 1)).Nodup := List.Sublist.nodup (List.take_sublist _ _) h.1
      rw [ht, List.nodup_append] at this
      exact this.2.2 _ h3 _ (by simp) rfl
    · rw [if_neg (by rw [decide_eq_true_eq]; exact h3), w64 (by omega) (by omega), show (k : Int) + 1 = ((k + 1 : Nat) : Int) by omega, Int.toNat_natCast]
      refine ih (k + 1) n _ (by omega) (by omega) (by rw [List.length_set]; exact hs) ?_ ?_ ?_
      · rw [ht, List.nodup_append]
        exact ⟨hnd, by simp, fun a ha b hb => by simp at hb; subst hb; intro e; subst e; exact h3 ha⟩
      · intro y hy
        rw [ht] at hy
        rcases List.mem_append.1 hy with hy | hy
        · exact hr y hy
        · simp at hy; subst hy; omega
      · intro v hv
        rw [ht]
        by_cases e : v = X
        · subst e
          rw [List.getElem?_set_self (by omega), decide_eq_true (by simp)]
        · rw [List.getElem?_set_ne (Ne.symm e), hm v hv]
          congr 1
          refine decide_eq_decide.2 ⟨fun h => List.mem_append_left _ h, fun h => ?_⟩
          rcases List.mem_append.1 h with h | h
          · exact h
          · simp at h; omega
theorem Bl_L2 {N : Nat} {l : List Int} (hl : l.length ≤ 1000000) (hp : Prm l) : ∀ (d k n : Nat) (lo far : Int) (s : List TArr2_I64), k + d = l.length → d < n → lo ≤ (k : Int) → 0 ≤ lo → s.length ≤ k → BC l 0 s lo → far < (l.length : Int) → (∀ j : Nat, j < k → o l j ≤ far) → (k = l.length → lo = (l.length : Int)) →
    ∃ b, buffer_Blocks_L2 N l n lo far k s = some b ∧ BC l 0 b (l.length : Int) := by
  intro d
  induction d with
  | zero =>
    intro k n lo far s hk hn hlo h0 hs hb hf hj he
    obtain ⟨n, rfl⟩ : ∃ x, n = x + 1 := ⟨n - 1, by omega⟩
    rw [buffer_Blocks_L2, if_neg (by omega)]
    rw [he (by omega)] at hb
    exact ⟨s, rfl, hb⟩
  | succ d ih =>
    intro k n lo far s hk hn hlo h0 hs hb hf hj he
    obtain ⟨n, rfl⟩ : ∃ x, n = x + 1 := ⟨n - 1, by omega⟩
    have hx := o_get (l := l) (i := k) (by omega)
    have hxr := hp.2 _ (o_mem (l := l) (i := k) (by omega))
    rw [buffer_Blocks_L2, if_pos (by omega), at0 hx, Option.bind_some, w64 (x := (k : Int) + 1) (by omega) (by omega), show (k : Int) + 1 = ((k + 1 : Nat) : Int) by omega]
    have hj' : ∀ j : Nat, j < k + 1 → o l j ≤ max far (o l k) := by
      intro j hjk
      rcases Nat.lt_or_ge j k with hh | hh
      · have := hj j hh; omega
      · have : j = k := by omega
        subst this; omega
    by_cases h1 : max far (o l k) = (k : Int)
    · rw [if_pos h1, if_pos (by omega)]
      have hc : CP l ((k + 1 : Nat) : Int) := fun i hi hil => by have := hj' i (by omega); omega
      exact ih (k + 1) n _ _ _ (by omega) (by omega) (by omega) (by omega) (by simp; omega) (hb.snoc (by omega) hc) (by omega) hj' (fun h => by omega)
    · rw [if_neg h1]
      refine ih (k + 1) n _ _ _ (by omega) (by omega) (by omega) (by omega) (by omega) hb (by omega) hj' (fun h => ?_)
      -- the last one: all values stand there
      exfalso
      have : ((l.length - 1 : Nat) : Int) ∈ l := hp.all (by omega) (by omega)
      obtain ⟨i, hi⟩ := List.getElem?_of_mem this
      have hil := (List.getElem?_eq_some_iff.1 hi).1
      have := hj' i (by omega)
      rw [o_at hi] at this
      omega
theorem Blocks_eq {N : Nat} (hN : 1000000000000 < N) {l : List Int} (hl : l.length ≤ 1000000) : (∃ b, buffer_Blocks N l = some b ∧ Prm l ∧ BC l 0 b (l.length : Int)) ∨ (buffer_Blocks N l = some [] ∧ ¬ Prm l) := by
  unfold buffer_Blocks
  rw [if_pos (by omega), if_pos (by omega)]
  have h := Bl_L1 (N := N) hl l.length 0 N (List.replicate l.length false) (by omega) (by omega) (by simp) (by simp) (by simp) (fun v hv => by rw [List.getElem?_replicate, if_pos hv]; simp)
  rw [show ((0 : Nat) : Int) = 0 from rfl] at h
  rcases h with ⟨h1, h2⟩ | ⟨h1, h2⟩
  · left
    obtain ⟨b, h3, h4⟩ := Bl_L2 (N := N) hl h2 l.length 0 N 0 (-1) [] (by omega) (by omega) (by omega) (by omega) (by simp) rfl (by omega) (fun j hj => by omega) (fun h => by omega)
    rw [show ((0 : Nat) : Int) = 0 from rfl] at h3
    exact ⟨b, by rw [h1, Option.bind_some]; simp only [h3, Option.bind_some], h2, h4⟩
  · right
    rw [h1, Option.bind_some]
    exact ⟨rfl, h2⟩
/-! ### runs that are moved -/
theorem CloneR_eq {N : Nat} {l : List TGlyph} (hl : l.length ≤ 1000000) : slices_Clone_apiGlyphapiGlyph_row N l = some l := by
  unfold slices_Clone_apiGlyphapiGlyph_row
  by_cases h : l = []
  · rw [if_pos h, h]
  · rw [if_neg h, if_pos (by omega)]
theorem MR_L1 {N : Nat} {l : List TGlyph} {f t : Int} {y y' : List TGlyph} (h : (slI l f t).length = t.toNat - f.toNat) : ∀ (n : Nat) (c k : Int), buffer_Merge_row_L1 N f t l y n c k = buffer_Merge_L1 N l f t y' n c k := by
  intro n
  induction n with
  | zero => intro c k; rfl
  | succ n ih => intro c k; simp only [buffer_Merge_row_L1, buffer_Merge_L1, ih, h]
theorem MR_L2 {N : Nat} {l : List TGlyph} {f t z : Int} {y y' : List TGlyph} : ∀ (n : Nat) (k : Int), buffer_Merge_row_L2 N f t z l y n k = buffer_Merge_L2 N l f t z y' n k := by
  intro n
  induction n with
  | zero => intro k; rfl
  | succ n ih => intro k; simp only [buffer_Merge_row_L2, buffer_Merge_L2, ih]
theorem MR_L3 {N : Nat} {l : List TGlyph} {t z w : Int} {y y' : List TGlyph} : ∀ (n : Nat) (k : Int), buffer_Merge_row_L3 N t z w l y n k = buffer_Merge_L3 N l t z w y' n k := by
  intro n
  induction n with
  | zero => intro k; rfl
  | succ n ih => intro k; simp only [buffer_Merge_row_L3, buffer_Merge_L3, ih]
theorem MR_L4 {N : Nat} {l : List TGlyph} {z w : Int} : ∀ (n : Nat) (k : Int) (s : List TGlyph), buffer_Merge_row_L4 N z w l n k s = buffer_Merge_L4 N z w n k s := by
  intro n
  induction n with
  | zero => intro k s; rfl
  | succ n ih => intro k s; simp only [buffer_Merge_row_L4, buffer_Merge_L4, ih]
theorem MR_eq {N : Nat} {l : List TGlyph} (hl : l.length ≤ 1000000) (f t : Int) : buffer_Merge_row N l f t = buffer_Merge N l f t := by
  unfold buffer_Merge_row buffer_Merge
  rw [CloneR_eq hl, Clone_eq hl, Option.bind_some, Option.bind_some]
  by_cases h1 : f < 0
  · rw [if_pos h1, if_pos h1]
  by_cases h2 : (l.length : Int) < t
  · rw [if_neg h1, if_neg h1, if_pos h2, if_pos h2]
  have h : (slI l f t).length = t.toNat - f.toNat := by simp [slI]; omega
  simp only [MR_L1 (y' := l) h, MR_L2 (y' := l), MR_L3 (y' := l), MR_L4]
/-- What is moved so far has one cluster with what it is moved across. -/
def Uni (l : List Int) (f : Nat) (s : List TGlyph) (lo : Int) : Prop :=
  (∀ i : Nat, (i : Int) < lo → cl s (f + (o l i).toNat) = cl s (f + i)) ∧ ∀ i k : Nat, i < k → (k : Int) < lo → o l k < o l i → cl s (f + i) = cl s (f + k)
theorem Ord_L1 {N : Nat} (hN : 1000000000000 < N) {l : List Int} (hl : l.length ≤ 1000) (hp : Prm l) {f : Nat} {b : List TArr2_I64} (hbl : b.length ≤ 1000000) : ∀ (d k n : Nat) (lo : Int) (s : List TGlyph), k + d = b.length → d < n → BC l lo (b.drop k) (l.length : Int) → 0 ≤ lo → CP l lo → rs s → f + l.length ≤ s.length → s.length ≤ 1000 → Uni l f s lo →
    ∃ r, buffer_Order_L1 N f l b n k s = some r ∧ rs r ∧ r.length = s.length ∧ (0 < s.length → cl r 0 = cl s 0) ∧ Uni l f r (l.length : Int) := by
  intro d
  induction d with
  | zero =>
    intro k n lo s hk hn hb h0 hc hs hfl hsl hu
    obtain ⟨n, rfl⟩ : ∃ x, n = x + 1 := ⟨n - 1, by omega⟩
    rw [List.drop_eq_nil_of_le (by omega)] at hb
    have : lo = (l.length : Int) := hb
    rw [buffer_Order_L1, if_neg (by omega)]
    exact ⟨s, rfl, hs, rfl, fun _ => rfl, this ▸ hu⟩
  | succ d ih =>
    intro k n lo s hk hn hb h0 hc hs hfl hsl hu
    obtain ⟨n, rfl⟩ : ∃ x, n = x + 1 := ⟨n - 1, by omega⟩
    obtain ⟨x, hx, hd⟩ := drop_cons hk
    rw [hd] at hb
    obtain ⟨b1, b2, b3, b4, b5⟩ := hb
    rw [buffer_Order_L1, if_pos (by omega), at0 hx, Option.bind_some, b1, w64 (x := x.e1 - lo) (by omega) (by omega), w64 (x := (k : Int) + 1) (by omega) (by omega), show (k : Int) + 1 = ((k + 1 : Nat) : Int) by omega]
    -- what stands in the block stays in it
    have inb : ∀ i : Nat, lo ≤ (i : Int) → (i : Int) < x.e1 → lo ≤ o l i ∧ o l i < x.e1 := fun i h1 h2 => ⟨hc.ge hp (by omega) h1 (by omega), b4 i h2 (by omega)⟩
    by_cases h1 : 1 < x.e1 - lo
    · rw [if_pos h1, w64 (x := (f : Int) + lo) (by omega) (by omega), w64 (x := (f : Int) + x.e1) (by omega) (by omega), MR_eq (by omega)]
      obtain ⟨m, m1, m2, m3, m4, m5, m6⟩ := Merge_rs hN (by omega : s.length ≤ 1000000) ((f : Int) + lo) ((f : Int) + x.e1) hs
      rw [m1, Option.bind_some]
      have low : ∀ j : Nat, (j : Int) < lo → cl m (f + j) = cl s (f + j) := fun j hj => m5 (f + j) (by omega) (by omega)
      have one : ∀ j : Nat, lo ≤ (j : Int) → (j : Int) < x.e1 → cl m (f + j) = cl s ((f : Int) + lo).toNat := fun j h2 h3 => m6 (by omega) (by omega) (f + j) (by omega) (by omega)
      have hu' : Uni l f m x.e1 := by
        refine ⟨fun i hi => ?_, fun i k hik hk ho => ?_⟩
        · rcases Int.lt_or_le (i : Int) lo with hh | hh
          · have := hc i hh (by omega)
            have h3 := hp.2 _ (o_mem (l := l) (i := i) (by omega))
            rw [low i hh, low _ (by omega)]
            exact hu.1 i hh
          · have := inb i hh hi
            rw [one i hh hi, one _ (by omega) (by omega)]
        · rcases Int.lt_or_le (k : Int) lo with hh | hh
          · rw [low i (by omega), low k hh]; exact hu.2 i k hik hh ho
          · have h3 := inb k hh hk
            rcases Int.lt_or_le (i : Int) lo with h4 | h4
            · have := hc i h4 (by omega); omega
            · rw [one i h4 (by omega), one k hh hk]
      obtain ⟨r, r1, r2, r3, r4, r5⟩ := ih (k + 1) n x.e1 m (by omega) (by omega) b5 (by omega) b4 m3 (by omega) (by omega) hu'
      exact ⟨r, r1, r2, by omega, fun h => by rw [r4 (by omega), m4 h], r5⟩
    · rw [if_neg h1]
      have e : x.e1 = lo + 1 := by omega
      have hu' : Uni l f s x.e1 := by
        refine ⟨fun i hi => ?_, fun i k hik hk ho => ?_⟩
        · rcases Int.lt_or_le (i : Int) lo with hh | hh
          · exact hu.1 i hh
          · have := inb i hh hi
            rw [show (o l i).toNat = i by omega]
        · rcases Int.lt_or_le (k : Int) lo with hh | hh
          · exact hu.2 i k hik hh ho
          · have h3 := inb k hh hk
            have := hc i (by omega) (by omega); omega
      exact ih (k + 1) n x.e1 s (by omega) (by omega) b5 (by omega) b4 hs hfl hsl hu'
theorem Ord_L2 {N : Nat} {l : List Int} (hl : l.length ≤ 1000) (hp : Prm l) {f : Nat} {y : List TGlyph} (hfl : f + l.length ≤ y.length) (hyl : y.length ≤ 1000) (hu : Uni l f y (l.length : Int)) : ∀ (d k n : Nat) (s : List TGlyph), k + d = l.length → d < n → s.length = y.length → (∀ j, cl s j = cl y j) →
    ∃ r, buffer_Order_L2 N f l y n k s = some r ∧ r.length = y.length ∧ ∀ j, cl r j = cl y j := by
  intro d
  induction d with
  | zero =>
    intro k n s hk hn hs hc
    obtain ⟨n, rfl⟩ : ∃ x, n = x + 1 := ⟨n - 1, by omega⟩
    rw [buffer_Order_L2, if_neg (by omega)]
    exact ⟨s, rfl, hs, hc⟩
  | succ d ih =>
    intro k n s hk hn hs hc
    obtain ⟨n, rfl⟩ : ∃ x, n = x + 1 := ⟨n - 1, by omega⟩
    have hx := o_get (l := l) (i := k) (by omega)
    have hxr := hp.2 _ (o_mem (l := l) (i := k) (by omega))
    obtain ⟨u, hu2⟩ := getl (l := y) (show f + (o l k).toNat < y.length by omega)
    obtain ⟨v, hv⟩ := getl (l := s) (show f + k < s.length by omega)
    rw [buffer_Order_L2, if_pos (by omega), at0 hx, Option.bind_some, w64 (x := (f : Int) + o l k) (by omega) (by omega), at1 (k := f + (o l k).toNat) (by omega) hu2, Option.bind_some, w64 (x := (f : Int) + (k : Int)) (by omega) (by omega), at1 (k := f + k) (by omega) hv, Option.bind_some, w64 (x := (k : Int) + 1) (by omega) (by omega), show (k : Int) + 1 = ((k + 1 : Nat) : Int) by omega, show ((f : Int) + (k : Int)).toNat = f + k by omega]
    refine ih (k + 1) n _ (by omega) (by omega) (by rw [List.length_set]; exact hs) fun j => ?_
    by_cases e : j = f + k
    · subst e
      unfold cl
      rw [List.getElem?_set_self (by omega)]
      have := hu.1 k (by omega)
      rw [cl_at hu2] at this
      exact this
    · have := hc j
      unfold cl at this ⊢
      rw [List.getElem?_set_ne (Ne.symm e)]; exact this
theorem rs_cl {l m : List TGlyph} (h : rs l) (hl : m.length = l.length) (hc : ∀ j, cl m j = cl l j) : rs m := fun i hi => by rw [hc, hc]; exact h i (by omega)
theorem Order_rs {N : Nat} (hN : 1000000000000 < N) {y : List TGlyph} (h : rs y) (hl : y.length ≤ 1000) {a : Int} {l : List Int} (hll : l.length ≤ 1000) : ∃ r, buffer_Order N y a l = some r ∧ rs r ∧ r.length = y.length ∧ (0 < y.length → cl r 0 = cl y 0) ∧
    (0 ≤ a → a + (l.length : Int) ≤ (y.length : Int) → Prm l → ∀ i k : Nat, i < k → k < l.length → o l k < o l i → cl r (a.toNat + i) = cl r (a.toNat + k)) := by
  unfold buffer_Order
  rw [Clone_eq (by omega)]
  have stay : ∀ {P : Prop}, (P → False) → ∃ r, some y = some r ∧ rs r ∧ r.length = y.length ∧ (0 < y.length → cl r 0 = cl y 0) ∧ (0 ≤ a → a + (l.length : Int) ≤ (y.length : Int) → P → ∀ i k : Nat, i < k → k < l.length → o l k < o l i → cl r (a.toNat + i) = cl r (a.toNat + k)) :=
    fun hP => ⟨y, rfl, h, rfl, fun _ => rfl, fun _ _ p => (hP p).elim⟩
  rcases Blocks_eq hN (l := l) (by omega) with ⟨b, b1, hp, b2⟩ | ⟨b1, hp⟩
  · rw [b1, Option.bind_some, Option.bind_some]
    have no : ¬ (0 ≤ a ∧ a + (l.length : Int) ≤ (y.length : Int)) ∨ l.length = 0 → ∃ r, some y = some r ∧ rs r ∧ r.length = y.length ∧ (0 < y.length → cl r 0 = cl y 0) ∧
      (0 ≤ a → a + (l.length : Int) ≤ (y.length : Int) → Prm l → ∀ i k : Nat, i < k → k < l.length → o l k < o l i → cl r (a.toNat + i) = cl r (a.toNat + k)) := fun hh =>
      ⟨y, rfl, h, rfl, fun _ => rfl, fun h1 h2 _ i k h3 h4 => by rcases hh with hh | hh; exact absurd ⟨h1, h2⟩ hh; omega⟩
    by_cases h1 : a < 0
    · rw [if_pos h1]; exact no (.inl (by omega))
    by_cases h2 : (y.length : Int) < (l.length : Int)
    · rw [if_neg h1, if_pos h2]; exact no (.inl (by omega))
    rw [if_neg h1, if_neg h2, w64 (by omega) (by omega)]
    by_cases h3 : (y.length : Int) - (l.length : Int) < a
    · rw [if_pos h3]; exact no (.inl (by omega))
    rw [if_neg h3]
    by_cases h4 : (b.length : Int) = 0
    · rw [if_pos h4]
      have : b = [] := List.eq_nil_of_length_eq_zero (by omega)
      subst this
      have : (0 : Int) = (l.length : Int) := b2
      exact no (.inr (by omega))
    rw [if_neg h4]
    obtain ⟨f, rfl⟩ := Int.eq_ofNat_of_zero_le (show 0 ≤ a by omega)
    have hbl : (b.length : Int) ≤ (l.length : Int) := by
      have : ∀ (r : List TArr2_I64) (lo hi : Int), BC l lo r hi → (r.length : Int) ≤ hi - lo := by
        intro r
        induction r with
        | nil => intro lo hi h; have : lo = hi := h; simp; omega
        | cons x r ih => intro lo hi h; obtain ⟨g1, g2, g3, g4, g5⟩ := h; have := ih _ _ g5; simp; omega
      have := this b 0 _ b2; omega
    obtain ⟨r, r1, r2, r3, r4, r5⟩ := Ord_L1 hN hll hp (f := f) (b := b) (by omega) b.length 0 N 0 y (by omega) (by omega) (by simpa using b2) (by omega) (fun i hi => by omega) h (by omega) hl ⟨fun i hi => by omega, fun i k _ hk => by omega⟩
    obtain ⟨z, z1, z2, z3⟩ := Ord_L2 (N := N) hll hp (f := f) (y := r) (by omega) (by omega) r5 l.length 0 N r (by omega) (by omega) rfl (fun _ => rfl)
    rw [show ((0 : Nat) : Int) = 0 from rfl] at r1 z1
    refine ⟨z, ?_, rs_cl r2 z2 z3, by omega, fun h0 => by rw [z3, r4 h0], fun _ _ _ i k h5 h6 h7 => by rw [z3, z3, Int.toNat_natCast]; exact r5.2 i k h5 (by omega) h7⟩
    simp only [r1, Option.bind_some, CloneR_eq (show r.length ≤ 1000000 by omega), z1]
  · rw [b1, Option.bind_some, Option.bind_some]
    simp only [List.length_nil, Int.natCast_zero, if_true]
    split
    · exact stay hp
    · split
      · exact stay hp
      · split <;> exact stay hp
end Go.Proofs.Ytjdnbdhdpcnikaa.AI
