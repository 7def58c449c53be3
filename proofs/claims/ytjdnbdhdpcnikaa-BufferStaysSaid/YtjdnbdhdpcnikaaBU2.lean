/- Plain laws: runs whose clusters rise: merging, putting others in place. -/
import Derived.Test.YtjdnbdhdpcnikaaBU1
set_option linter.unusedVariables false
set_option linter.unusedSimpArgs false
namespace Go.Proofs.Ytjdnbdhdpcnikaa.AI
theorem rs.mono {l : List TGlyph} (h : rs l) : ∀ {i j : Nat}, i ≤ j → j < l.length → cl l i ≤ cl l j := by
  intro i j hij hj
  induction j with
  | zero => have : i = 0 := by omega
            subst this; exact Int.le_refl _
  | succ j ih =>
    rcases Nat.lt_or_ge j i with hh | hh
    · have : i = j + 1 := by omega
      subst this; exact Int.le_refl _
    · exact Int.le_trans (ih hh (by omega)) (h j hj)
theorem rs_of {l : List TGlyph} (h : ∀ i j, i ≤ j → j < l.length → cl l i ≤ cl l j) : rs l := fun i hi => h i (i + 1) (by omega) hi
theorem cl_get {l : List TGlyph} {j : Nat} (h : j < l.length) : ∃ x, l[j]? = some x ∧ cl l j = x.Cluster := by
  obtain ⟨x, hx⟩ := getl h
  exact ⟨x, hx, cl_at hx⟩
theorem mnL_ge {c : Int} : ∀ {s : List TGlyph}, (∀ x ∈ s, c ≤ x.Cluster) → mnL c s = c
  | [], _ => rfl
  | x :: r, h => by
    simp only [mnL]
    rw [Int.min_eq_left (h x List.mem_cons_self)]
    exact mnL_ge fun y hy => h y (List.mem_cons_of_mem _ hy)
theorem dn_eq (l : List TGlyph) (c : Int) : ∀ k j, dn l c k ≤ j → j < k → cl l j = c
  | 0, j, _, h => by omega
  | k + 1, j, h1, h2 => by
    simp only [dn] at h1
    split at h1
    · rename_i h
      rcases Nat.lt_or_ge j k with hh | hh
      · exact dn_eq l c k j h1 hh
      · have : j = k := by omega
        subst this; exact h
    · omega
theorem up_eq (l : List TGlyph) (c : Int) : ∀ d k j, k ≤ j → j < up l c d k → cl l j = c
  | 0, k, j, h1, h2 => by simp only [up] at h2; omega
  | d + 1, k, j, h1, h2 => by
    simp only [up] at h2
    split at h2
    · rename_i h
      rcases Nat.lt_or_ge k j with hh | hh
      · exact up_eq l c d (k + 1) j hh h2
      · have : j = k := by omega
        subst this; exact h
    · omega
theorem Mg.cl {l m : List TGlyph} {c : Int} {a b : Nat} (h : Mg l c a b m) {j : Nat} (hj : j < l.length) : cl m j = if a ≤ j ∧ j < b then c else cl l j := by
  obtain ⟨x, hx⟩ := getl hj
  have := h.at_ j
  by_cases hc : a ≤ j ∧ j < b
  · rw [if_pos hc, hx] at this
    rw [if_pos hc, cl_at this]
  · rw [if_neg hc, hx] at this
    rw [if_neg hc, cl_at this, cl_at hx]
/-- Merging a run that rises. -/
theorem Merge_rs {N : Nat} (hN : 1000000000000 < N) {l : List TGlyph} (hl : l.length ≤ 1000000) (f t : Int) (h : rs l) : ∃ m, buffer_Merge N l f t = some m ∧ m.length = l.length ∧ rs m ∧ (0 < l.length → cl m 0 = cl l 0) ∧
    (∀ j : Nat, (j : Int) < f → j < l.length → cl m j = cl l j) ∧ (0 ≤ f → t ≤ (l.length : Int) → ∀ j : Nat, f ≤ (j : Int) → (j : Int) < t → cl m j = cl l f.toNat) := by
  obtain ⟨m, m1, _, m3, m4, m5⟩ := Merge_eq hN hl f t
  by_cases hc : f < 0 ∨ (l.length : Int) < t ∨ t ≤ f
  · rw [m4 hc] at m1
    exact ⟨l, m1, rfl, h, fun _ => rfl, fun _ _ _ => rfl, fun h1 h2 j h3 h4 => by omega⟩
  obtain ⟨F, rfl⟩ := Int.eq_ofNat_of_zero_le (show 0 ≤ f by omega)
  obtain ⟨T, rfl⟩ := Int.eq_ofNat_of_zero_le (show 0 ≤ t by omega)
  have g := m5 (by omega) (by omega) (by omega)
  simp only [Int.toNat_natCast] at g
  have hmn : mnL (cl l F) (slI l (F : Int) (T : Int)) = cl l F := mnL_ge fun x hx => by
    obtain ⟨i, hi⟩ := List.getElem?_of_mem hx
    obtain ⟨h1, h2, h3⟩ := slI_get (show atI (slI l (F : Int) (T : Int)) (i : Int) = some x from at0 hi)
    simp only [Int.toNat_natCast] at h3
    rw [← cl_at h3]
    exact h.mono (by omega) (List.getElem?_eq_some_iff.1 h3).1
  rw [hmn] at g
  have hd := dn_le l (cl l F) F; have hu := up_le l (cl l (T - 1)) (l.length - T) T
  have hde := dn_eq l (cl l F) F; have hue := up_eq l (cl l (T - 1)) (l.length - T) T
  have key : ∀ j, j < l.length → cl m j = if dn l (cl l F) F ≤ j ∧ j < up l (cl l (T - 1)) (l.length - T) T then cl l F else cl l j := fun j hj => g.cl hj
  have low : ∀ j, j < l.length → cl m j ≤ cl l j := by
    intro j hj
    rw [key j hj]
    split
    · rename_i hc
      rcases Nat.lt_or_ge j F with hh | hh
      · rw [hde j hc.1 hh]; exact Int.le_refl _
      · exact h.mono hh hj
    · exact Int.le_refl _
  refine ⟨m, m1, m3, rs_of fun i j hij hj => ?_, fun h0 => ?_, fun j hj hjl => ?_, fun h1 h2 j h3 h4 => ?_⟩
  · rw [m3] at hj
    rw [key i (by omega), key j hj]
    by_cases c1 : dn l (cl l F) F ≤ i ∧ i < up l (cl l (T - 1)) (l.length - T) T
    · rw [if_pos c1]
      by_cases c2 : dn l (cl l F) F ≤ j ∧ j < up l (cl l (T - 1)) (l.length - T) T
      · rw [if_pos c2]; exact Int.le_refl _
      · rw [if_neg c2]; exact h.mono (by omega) hj
    · rw [if_neg c1]
      by_cases c2 : dn l (cl l F) F ≤ j ∧ j < up l (cl l (T - 1)) (l.length - T) T
      · rw [if_pos c2]; exact h.mono (by omega) (by omega)
      · rw [if_neg c2]; exact h.mono hij hj
  · rw [key 0 h0]
    split
    · rename_i hc
      by_cases hF : F = 0
      · rw [hF]
      · rw [hde 0 hc.1 (by omega)]
    · rfl
  · rw [key j hjl]
    split
    · rename_i hc; rw [hde j hc.1 (by omega)]
    · rfl
  · rw [key j (by omega), if_pos (by omega), Int.toNat_natCast]
/-! ### putting others in place -/
def withId (x : TGlyph) (i : Int) : TGlyph := { x with Id := i }
theorem Rep_L1 {N : Nat} {y : List TGlyph} {a b : Int} {l : List Int} {x : TGlyph} (hl : l.length ≤ 1000000) : ∀ (d k n : Nat) (s : List TGlyph), k + d = l.length → d < n → s.length ≤ 1000000 + k → buffer_Replace_L1 N y a b l x n k s = some (s ++ (l.drop k).map (withId x)) := by
  intro d
  induction d with
  | zero =>
    intro k n s hk hn hs
    obtain ⟨n, rfl⟩ : ∃ x, n = x + 1 := ⟨n - 1, by omega⟩
    rw [buffer_Replace_L1, if_neg (by omega), List.drop_eq_nil_of_le (by omega)]; simp
  | succ d ih =>
    intro k n s hk hn hs
    obtain ⟨n, rfl⟩ : ∃ x, n = x + 1 := ⟨n - 1, by omega⟩
    obtain ⟨u, hu, hd⟩ := drop_cons hk
    rw [buffer_Replace_L1, if_pos (by omega), at0 hu, Option.bind_some, if_pos (by omega), w64 (by omega) (by omega), show (k : Int) + 1 = ((k + 1 : Nat) : Int) by omega, ih (k + 1) n _ (by omega) (by omega) (by simp; omega), hd]
    simp [withId]
theorem Rep_L3 {N : Nat} {y : List TGlyph} {a b : Int} {l : List Int} {x : TGlyph} : ∀ (n : Nat) (k : Int) (s : List TGlyph), buffer_Replace_L3 N y a b l x n k s = buffer_Replace_L1 N y a b l x n k s := by
  intro n
  induction n with
  | zero => intro k s; rfl
  | succ n ih => intro k s; simp only [buffer_Replace_L3, buffer_Replace_L1, ih]
theorem Rep_L2 {N : Nat} {s0 : List TGlyph} {z x : TGlyph} (hl : s0.length ≤ 1000000) : ∀ (d k n : Nat) (s : List TGlyph), k + d = s0.length → d < n → Mg s0 x.Cluster 0 k s → (∀ j, j < k → cl s0 j = z.Cluster) →
    ∃ b r, buffer_Replace_L2 N z x n k s = some r ∧ k ≤ b ∧ b ≤ s0.length ∧ Mg s0 x.Cluster 0 b r ∧ (∀ j, j < b → cl s0 j = z.Cluster) ∧ (b < s0.length → cl s0 b ≠ z.Cluster) := by
  intro d
  induction d with
  | zero =>
    intro k n s hk hn hs hp
    obtain ⟨n, rfl⟩ : ∃ x, n = x + 1 := ⟨n - 1, by omega⟩
    have := hs.len
    rw [buffer_Replace_L2, if_neg (by omega)]
    exact ⟨k, s, rfl, Nat.le_refl _, by omega, hs, hp, fun h => by omega⟩
  | succ d ih =>
    intro k n s hk hn hs hp
    obtain ⟨n, rfl⟩ : ∃ x, n = x + 1 := ⟨n - 1, by omega⟩
    have hlen := hs.len
    obtain ⟨u, hu⟩ := getl (show k < s.length by omega)
    have hc := hs.cl (show k < s0.length by omega)
    rw [if_neg (by omega), cl_at hu] at hc
    rw [buffer_Replace_L2, if_pos (by omega), at0 hu, Option.bind_some]
    by_cases h : u.Cluster = z.Cluster
    · rw [if_pos h, w64 (by omega) (by omega), show (k : Int) + 1 = ((k + 1 : Nat) : Int) by omega, Int.toNat_natCast]
      obtain ⟨b, r, h1, h2, h3⟩ := ih (k + 1) n _ (by omega) (by omega) (hs.step (Nat.zero_le _) hu) (fun j hj => by
        rcases Nat.lt_or_ge j k with hh | hh
        · exact hp j hh
        · have : j = k := by omega
          subst this; rw [← hc]; exact h)
      exact ⟨b, r, h1, by omega, h3⟩
    · rw [if_neg h]
      exact ⟨k, s, rfl, Nat.le_refl _, by omega, hs, hp, fun _ => by rw [← hc]; exact h⟩
/-- What stands in place. -/
def inPlace (y : List TGlyph) (a n : Nat) (l : List Int) (x : TGlyph) : List TGlyph := (y.take a ++ l.map (withId x)) ++ y.drop (a + n)
theorem inPlace_cl {y : List TGlyph} {a n : Nat} {l : List Int} {x : TGlyph} (ha : a ≤ y.length) (han : a + n ≤ y.length) {j : Nat} (hj : j < (inPlace y a n l x).length) :
    cl (inPlace y a n l x) j = if j < a then cl y j else if j < a + l.length then x.Cluster else cl y (j - l.length + n) := by
  have hlen : (inPlace y a n l x).length = a + l.length + (y.length - (a + n)) := by simp [inPlace]; omega
  by_cases h1 : j < a
  · rw [if_pos h1]
    unfold cl inPlace
    rw [List.getElem?_append_left (by simp; omega), List.getElem?_append_left (by simp; omega), List.getElem?_take, if_pos h1]
  · rw [if_neg h1]
    by_cases h2 : j < a + l.length
    · rw [if_pos h2]
      unfold cl inPlace
      rw [List.getElem?_append_left (by simp; omega), List.getElem?_append_right (by simp; omega), List.getElem?_map, List.length_take, show min a y.length = a by omega, List.getElem?_eq_getElem (by omega)]
      rfl
    · rw [if_neg h2]
      unfold cl inPlace
      rw [List.getElem?_append_right (by simp; omega), List.getElem?_drop]
      congr 3
      simp
      omega
theorem inPlace_rs {y : List TGlyph} (h : rs y) {a n : Nat} {l : List Int} {x : TGlyph} (hn : 1 ≤ n) (han : a + n ≤ y.length) (hx : y[a]? = some x) : rs (inPlace y a n l x) := by
  have hlen : (inPlace y a n l x).length = a + l.length + (y.length - (a + n)) := by simp [inPlace]; omega
  have hxa := cl_at hx
  refine rs_of fun i j hij hj => ?_
  rw [inPlace_cl (by omega) han hj, inPlace_cl (by omega) han (by omega)]
  by_cases i1 : i < a
  · rw [if_pos i1]
    by_cases j1 : j < a
    · rw [if_pos j1]; exact h.mono hij (by omega)
    · rw [if_neg j1]
      split
      · rw [← hxa]; exact h.mono (by omega) (by omega)
      · exact h.mono (by omega) (by omega)
  · rw [if_neg i1, if_neg (by omega : ¬ j < a)]
    by_cases i2 : i < a + l.length
    · rw [if_pos i2]
      split
      · exact Int.le_refl _
      · rw [← hxa]; exact h.mono (by omega) (by omega)
    · rw [if_neg i2, if_neg (by omega)]; exact h.mono (by omega) (by omega)
theorem sl0 {y : List TGlyph} {a : Nat} : slI y 0 (a : Int) = y.take a := by simp [slI]
theorem slEnd {y : List TGlyph} {a : Nat} : slI y (a : Int) (y.length : Int) = y.drop a := by
  rw [slI]; simp only [Int.toNat_natCast]; exact List.take_of_length_le (by simp)
/-- The end of it, once it is known what is replaced. -/
theorem rep_tail {N : Nat} (hN : 1000000000000 < N) {y : List TGlyph} (h : rs y) (hl : y.length ≤ 1000000) {a n : Nat} {l : List Int} {x : TGlyph} (hll : l.length ≤ 1000000) (hn : 1 ≤ n) (han : a + n ≤ y.length) (hx : y[a]? = some x) :
    ∃ r, (if ((a : Int)) = 0 then (
            if (l.length : Int) = 0 then (
              if 0 < (((y.take a ++ l.map (withId x)).length + (y.drop (a + n)).length : Nat) : Int) then (
                (atI ((y.take a ++ l.map (withId x)) ++ (y.drop (a + n))) 0).bind fun z =>
                (buffer_Replace_L2 N z x N 0 ((y.take a ++ l.map (withId x)) ++ (y.drop (a + n)))).bind fun u => some u
              ) else some ((y.take a ++ l.map (withId x)) ++ (y.drop (a + n)))
            ) else some ((y.take a ++ l.map (withId x)) ++ (y.drop (a + n)))
          ) else some ((y.take a ++ l.map (withId x)) ++ (y.drop (a + n)))) = some r ∧ rs r ∧ (0 < r.length → cl r 0 = cl y 0) ∧ r.length ≤ y.length + l.length := by
  have hlen : (inPlace y a n l x).length = a + l.length + (y.length - (a + n)) := by simp [inPlace]; omega
  have hr := inPlace_rs (l := l) h hn han hx
  have hc0 := @inPlace_cl y a n l x (by omega) han 0
  have hxa := cl_at hx
  change ∃ r, (if ((a : Int)) = 0 then (
            if (l.length : Int) = 0 then (
              if 0 < (((y.take a ++ l.map (withId x)).length + (y.drop (a + n)).length : Nat) : Int) then (
                (atI (inPlace y a n l x) 0).bind fun z =>
                (buffer_Replace_L2 N z x N 0 (inPlace y a n l x)).bind fun u => some u
              ) else some (inPlace y a n l x)
            ) else some (inPlace y a n l x)
          ) else some (inPlace y a n l x)) = some r ∧ rs r ∧ (0 < r.length → cl r 0 = cl y 0) ∧ r.length ≤ y.length + l.length
  by_cases h1 : (a : Int) = 0
  · rw [if_pos h1]
    have ha : a = 0 := by omega
    by_cases h2 : (l.length : Int) = 0
    · rw [if_pos h2]
      by_cases h3 : 0 < (((y.take a ++ l.map (withId x)).length + (y.drop (a + n)).length : Nat) : Int)
      · rw [if_pos h3]
        have h3' : 0 < (inPlace y a n l x).length := by simp only [inPlace, List.length_append] at h3 ⊢; omega
        obtain ⟨z, hz⟩ := getl h3'
        rw [show atI (inPlace y a n l x) 0 = some z from at0 hz, Option.bind_some]
        obtain ⟨b, r, r1, _, r2, r3, r4, r5⟩ := Rep_L2 (N := N) (s0 := inPlace y a n l x) (z := z) (x := x) (by omega) (inPlace y a n l x).length 0 N _ (by omega) (by omega) Mg.zero (fun j hj => by omega)
        rw [show ((0 : Nat) : Int) = 0 from rfl] at r1
        have hb : 0 < b := by
          rcases Nat.eq_zero_or_pos b with hb | hb
          · subst hb; exact absurd (cl_at hz) (r5 (by omega))
          · exact hb
        have hxle : ∀ j, j < (inPlace y a n l x).length → x.Cluster ≤ cl (inPlace y a n l x) j := by
          intro j hj
          rw [inPlace_cl (by omega) han hj, if_neg (by omega), if_neg (by omega), ← hxa]
          exact h.mono (by omega) (by omega)
        refine ⟨r, by rw [r1]; rfl, rs_of fun i j hij hj => ?_, fun h0 => ?_, by rw [r3.len]; omega⟩
        · rw [r3.len] at hj
          rw [r3.cl (by omega), r3.cl hj]
          by_cases c1 : 0 ≤ i ∧ i < b
          · rw [if_pos c1]
            split
            · exact Int.le_refl _
            · exact hxle j hj
          · rw [if_neg c1, if_neg (by omega)]; exact hr.mono hij hj
        · rw [r3.cl (by omega), if_pos (by omega), ← hxa, ha]
      · rw [if_neg h3]
        have h3' : ¬ 0 < (inPlace y a n l x).length := by simp only [inPlace, List.length_append] at h3 ⊢; omega
        exact ⟨_, rfl, hr, fun h0 => absurd h0 h3', by omega⟩
    · rw [if_neg h2]
      exact ⟨_, rfl, hr, fun h0 => by rw [hc0 h0, if_neg (by omega), if_pos (by omega), ← hxa, ha], by omega⟩
  · rw [if_neg h1]
    exact ⟨_, rfl, hr, fun h0 => by rw [hc0 h0, if_pos (by omega)], by omega⟩
theorem Replace_rs {N : Nat} (hN : 1000000000000 < N) {l : List TGlyph} (h : rs l) (hl : l.length ≤ 1000) {a n : Int} {ids : List Int} (hi : ids.length ≤ 1000) : ∃ r, buffer_Replace N l a n ids = some r ∧ rs r ∧ (0 < r.length → 0 < l.length → cl r 0 = cl l 0) ∧ r.length ≤ 10000 := by
  have stay : ∃ r, ((slices_Clone_apiGlyphapiGlyph N l).bind fun y => some y) = some r ∧ rs r ∧ (0 < r.length → 0 < l.length → cl r 0 = cl l 0) ∧ r.length ≤ 10000 := ⟨l, by rw [Clone_eq (by omega)]; rfl, h, fun _ _ => rfl, by omega⟩
  unfold buffer_Replace
  by_cases h1 : a < 0
  · rw [if_pos h1]; exact stay
  by_cases h2 : n < 1
  · rw [if_neg h1, if_pos h2]; exact stay
  by_cases h3 : (l.length : Int) < n
  · rw [if_neg h1, if_neg h2, if_pos h3]; exact stay
  rw [if_neg h1, if_neg h2, if_neg h3, w64 (x := (l.length : Int) - n) (by omega) (by omega)]
  by_cases h4 : (l.length : Int) - n < a
  · rw [if_pos h4]; exact stay
  rw [if_neg h4]
  obtain ⟨A, rfl⟩ := Int.eq_ofNat_of_zero_le (show 0 ≤ a by omega)
  obtain ⟨K, rfl⟩ := Int.eq_ofNat_of_zero_le (show 0 ≤ n by omega)
  rw [w64 (x := (A : Int) + (K : Int)) (by omega) (by omega), show (A : Int) + (K : Int) = ((A + K : Nat) : Int) by omega]
  by_cases h5 : 1 < (K : Int)
  · rw [if_pos h5]
    obtain ⟨y, m1, m2, m3, m4, m5, m6⟩ := Merge_rs hN (by omega : l.length ≤ 1000000) (A : Int) ((A + K : Nat) : Int) h
    obtain ⟨x, hx⟩ := getl (l := y) (show A < y.length by omega)
    rw [m1, Option.bind_some, at0 hx, Option.bind_some, if_pos (by omega), if_pos (by omega), sl0, Clone_eq (by simp; omega), Option.bind_some]
    rw [show ((0 : Int)) = ((0 : Nat) : Int) from rfl, Rep_L1 (by omega) ids.length 0 N _ (by omega) (by omega) (by simp; omega), Option.bind_some, if_pos (by omega), if_pos (by omega), slEnd, List.drop_zero, if_pos (by simp; omega)]
    obtain ⟨r, r1, r2, r3, r4⟩ := rep_tail hN m3 (by omega) (l := ids) (by omega) (show 1 ≤ K by omega) (by omega) hx
    exact ⟨r, r1, r2, fun h0 h0' => by rw [r3 h0, m4 h0'], by omega⟩
  · rw [if_neg h5]
    obtain ⟨x, hx⟩ := getl (l := l) (show A < l.length by omega)
    rw [at0 hx, Option.bind_some, if_pos (by omega), if_pos (by omega), sl0, Clone_eq (by simp; omega), Option.bind_some]
    rw [show ((0 : Int)) = ((0 : Nat) : Int) from rfl, Rep_L3, Rep_L1 (by omega) ids.length 0 N _ (by omega) (by omega) (by simp; omega), Option.bind_some, if_pos (by omega), if_pos (by omega), slEnd, List.drop_zero, if_pos (by simp; omega)]
    obtain ⟨r, r1, r2, r3, r4⟩ := rep_tail hN h (by omega) (l := ids) (by omega) (show 1 ≤ K by omega) (by omega) hx
    exact ⟨r, r1, r2, fun h0 h0' => r3 h0, by omega⟩
end Go.Proofs.Ytjdnbdhdpcnikaa.AI
