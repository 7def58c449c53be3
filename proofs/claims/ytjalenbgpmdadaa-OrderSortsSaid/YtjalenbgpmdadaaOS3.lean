/- Part of a proof. -/
import Derived.Test.YtjalenbgpmdadaaOS2
set_option linter.unusedVariables false
set_option linter.unusedSimpArgs false
set_option maxRecDepth 100000
namespace Go.Proofs.Ytjalenbgpmdadaa.AI
def gp (s : List Int) (F p : Nat) : Int := (s[F + p]?).getD 0
theorem at_g {s : List Int} {F T p : Nat} (hs : T ≤ s.length) (hp : F + p < T) : atI (slI s (F : Int) (T : Int)) (p : Int) = some (gp s F p) := by
 have h : F + p < s.length := by omega
 rw [at_s (x := s[F + p]) hp (List.getElem?_eq_getElem h)]
 unfold gp
 rw [List.getElem?_eq_getElem h]; rfl
theorem bs_L1 {N : Nat} {l s : List Int} {F T a lo hi : Nat} (hs : T ≤ s.length) (hT : T ≤ 100000) (hI : ∀ p, lo ≤ p → p < hi → 0 ≤ gp s F p ∧ gp s F p < (l.length : Int)) (hhi : F + hi ≤ T) (ha : F + a < T) (hA : 0 ≤ gp s F a ∧ gp s F a < (l.length : Int))
  (mono : ∀ p q, lo ≤ p → p ≤ q → q < hi → (kk l (gp s F q) < kk l (gp s F a)) → (kk l (gp s F p) < kk l (gp s F a))) : ∀ (d n i j : Nat), j - i < d → d ≤ n → lo ≤ i → i ≤ j → j ≤ hi → (∀ p, lo ≤ p → p < i → (kk l (gp s F p) < kk l (gp s F a))) → (∀ p, j ≤ p → p < hi → ¬ (kk l (gp s F p) < kk l (gp s F a))) →
  ∃ r : Nat, slices_symMergeCmpFunc_int_row_L1 N F T a s l n i j = some (r : Int) ∧ i ≤ r ∧ r ≤ j ∧ (∀ p, lo ≤ p → p < r → (kk l (gp s F p) < kk l (gp s F a))) ∧ (∀ p, r ≤ p → p < hi → ¬ (kk l (gp s F p) < kk l (gp s F a))) := by
 intro d
 induction d with
 | zero => intro n i j h1; omega
 | succ d ih =>
  intro n i j h1 h2 h3 h4 h5 h6 h7
  obtain ⟨n, rfl⟩ : ∃ x, n = x + 1 := ⟨n - 1, by omega⟩
  rw [slices_symMergeCmpFunc_int_row_L1]
  by_cases g : (i : Int) < (j : Int)
  ·
   have hm1 : i ≤ (i + j) / 2 := by omega
   have hm2 : (i + j) / 2 < j := by omega
   rw [if_pos g, midS (a := i) (b := j) (by omega)]
   generalize (i + j) / 2 = h at hm1 hm2 ⊢
   have hh := hI h (by omega) (by omega)
   rw [at_g hs (by omega), Option.bind_some, at_g hs ha, Option.bind_some]
   obtain ⟨c, ec, hc⟩ := cmp_eq (N := N) hh hA
   rw [ec, Option.bind_some]
   by_cases g2 : c < 0
   ·
    rw [if_pos g2]
    rw [wk (by omega)]
    obtain ⟨r, e, r1, r2, r3, r4⟩ := ih n (h + 1) j (by omega) (by omega) (by omega) (by omega) h5 (fun p p1 p2 => mono p h p1 (by omega) (by omega) (hc.1 g2)) h7
    exact ⟨r, e, by omega, r2, r3, r4⟩
   ·
    rw [if_neg g2]
    obtain ⟨r, e, r1, r2, r3, r4⟩ := ih n i h (by omega) (by omega) h3 (by omega) (by omega) h6 (fun p p1 p2 q => (fun q => g2 (hc.2 q)) (mono h p (by omega) p1 p2 q))
    exact ⟨r, e, r1, by omega, r3, r4⟩
  ·
   rw [if_neg g]
   have : i = j := by omega
   subst this
   exact ⟨i, rfl, Nat.le_refl _, Nat.le_refl _, h6, h7⟩
theorem bs_L3 {N : Nat} {l s : List Int} {F T m lo hi : Nat} (hs : T ≤ s.length) (hT : T ≤ 100000) (hI : ∀ p, lo ≤ p → p < hi → 0 ≤ gp s F p ∧ gp s F p < (l.length : Int)) (hhi : F + hi ≤ T) (ha : F + m < T) (hA : 0 ≤ gp s F m ∧ gp s F m < (l.length : Int))
  (mono : ∀ p q, lo ≤ p → p ≤ q → q < hi → (¬ kk l (gp s F m) < kk l (gp s F q)) → (¬ kk l (gp s F m) < kk l (gp s F p))) : ∀ (d n i j : Nat), j - i < d → d ≤ n → lo ≤ i → i ≤ j → j ≤ hi → (∀ p, lo ≤ p → p < i → (¬ kk l (gp s F m) < kk l (gp s F p))) → (∀ p, j ≤ p → p < hi → ¬ (¬ kk l (gp s F m) < kk l (gp s F p))) →
  ∃ r : Nat, slices_symMergeCmpFunc_int_row_L3 N F T m s l n i j = some (r : Int) ∧ i ≤ r ∧ r ≤ j ∧ (∀ p, lo ≤ p → p < r → (¬ kk l (gp s F m) < kk l (gp s F p))) ∧ (∀ p, r ≤ p → p < hi → ¬ (¬ kk l (gp s F m) < kk l (gp s F p))) := by
 intro d
 induction d with
 | zero => intro n i j h1; omega
 | succ d ih =>
  intro n i j h1 h2 h3 h4 h5 h6 h7
  obtain ⟨n, rfl⟩ : ∃ x, n = x + 1 := ⟨n - 1, by omega⟩
  rw [slices_symMergeCmpFunc_int_row_L3]
  by_cases g : (i : Int) < (j : Int)
  ·
   have hm1 : i ≤ (i + j) / 2 := by omega
   have hm2 : (i + j) / 2 < j := by omega
   rw [if_pos g, midS (a := i) (b := j) (by omega)]
   generalize (i + j) / 2 = h at hm1 hm2 ⊢
   have hh := hI h (by omega) (by omega)
   rw [at_g hs ha, Option.bind_some, at_g hs (by omega), Option.bind_some]
   obtain ⟨c, ec, hc⟩ := cmp_eq (N := N) hA hh
   rw [ec, Option.bind_some]
   by_cases g2 : c < 0
   ·
    rw [if_pos g2]
    obtain ⟨r, e, r1, r2, r3, r4⟩ := ih n i h (by omega) (by omega) h3 (by omega) (by omega) h6 (fun p p1 p2 q => (fun q => q (hc.1 g2)) (mono h p (by omega) p1 p2 q))
    exact ⟨r, e, r1, by omega, r3, r4⟩
   ·
    rw [if_neg g2]
    rw [wk (by omega)]
    obtain ⟨r, e, r1, r2, r3, r4⟩ := ih n (h + 1) j (by omega) (by omega) (by omega) (by omega) h5 (fun p p1 p2 => mono p h p1 (by omega) (by omega) (fun q => g2 (hc.2 q))) h7
    exact ⟨r, e, by omega, r2, r3, r4⟩
  ·
   rw [if_neg g]
   have : i = j := by omega
   subst this
   exact ⟨i, rfl, Nat.le_refl _, Nat.le_refl _, h6, h7⟩
theorem bs_L5 {N : Nat} {l s : List Int} {F T a m b lo hi : Nat} (hs : T ≤ s.length) (hT : T ≤ 100000) (hI : ∀ p, lo ≤ p → p < hi → 0 ≤ gp s F p ∧ gp s F p < (l.length : Int)) (hhi : F + hi ≤ T) (hab : a + b ≤ 200000) (hm : 1 ≤ m) (hmT : m ≤ 100000) (hJ : ∀ p, lo ≤ p → p < hi → p ≤ (a + b) / 2 + m - 1 ∧ F + ((a + b) / 2 + m - 1 - p) < T ∧ 0 ≤ gp s F ((a + b) / 2 + m - 1 - p) ∧ gp s F ((a + b) / 2 + m - 1 - p) < (l.length : Int))
  (mono : ∀ p q, lo ≤ p → p ≤ q → q < hi → (¬ kk l (gp s F ((a + b) / 2 + m - 1 - q)) < kk l (gp s F q)) → (¬ kk l (gp s F ((a + b) / 2 + m - 1 - p)) < kk l (gp s F p))) : ∀ (d n i j : Nat), j - i < d → d ≤ n → lo ≤ i → i ≤ j → j ≤ hi → (∀ p, lo ≤ p → p < i → (¬ kk l (gp s F ((a + b) / 2 + m - 1 - p)) < kk l (gp s F p))) → (∀ p, j ≤ p → p < hi → ¬ (¬ kk l (gp s F ((a + b) / 2 + m - 1 - p)) < kk l (gp s F p))) →
  ∃ r : Nat, slices_symMergeCmpFunc_int_row_L5 N F T a m b s l n i j = some (r : Int) ∧ i ≤ r ∧ r ≤ j ∧ (∀ p, lo ≤ p → p < r → (¬ kk l (gp s F ((a + b) / 2 + m - 1 - p)) < kk l (gp s F p))) ∧ (∀ p, r ≤ p → p < hi → ¬ (¬ kk l (gp s F ((a + b) / 2 + m - 1 - p)) < kk l (gp s F p))) := by
 intro d
 induction d with
 | zero => intro n i j h1; omega
 | succ d ih =>
  intro n i j h1 h2 h3 h4 h5 h6 h7
  obtain ⟨n, rfl⟩ : ∃ x, n = x + 1 := ⟨n - 1, by omega⟩
  rw [slices_symMergeCmpFunc_int_row_L5]
  by_cases g : (i : Int) < (j : Int)
  ·
   have hm1 : i ≤ (i + j) / 2 := by omega
   have hm2 : (i + j) / 2 < j := by omega
   rw [if_pos g, midS (a := i) (b := j) (by omega)]
   generalize (i + j) / 2 = h at hm1 hm2 ⊢
   have hh := hI h (by omega) (by omega)
   obtain ⟨j1, j2, j3⟩ := hJ h (by omega) (by omega)
   rw [midS (a := a) (b := b) (by omega), wadd (a := (a + b) / 2) (b := m) (by omega) (by omega), wpre (a := (a + b) / 2 + m) (by omega) (by omega), wsub (a := (a + b) / 2 + m - 1) (b := h) (by omega) j1]
   rw [at_g hs j2, Option.bind_some, at_g hs (by omega), Option.bind_some]
   obtain ⟨c, ec, hc⟩ := cmp_eq (N := N) j3 hh
   rw [ec, Option.bind_some]
   by_cases g2 : c < 0
   ·
    rw [if_pos g2]
    obtain ⟨r, e, r1, r2, r3, r4⟩ := ih n i h (by omega) (by omega) h3 (by omega) (by omega) h6 (fun p p1 p2 q => (fun q => q (hc.1 g2)) (mono h p (by omega) p1 p2 q))
    exact ⟨r, e, r1, by omega, r3, r4⟩
   ·
    rw [if_neg g2]
    rw [wk (by omega)]
    obtain ⟨r, e, r1, r2, r3, r4⟩ := ih n (h + 1) j (by omega) (by omega) (by omega) (by omega) h5 (fun p p1 p2 => mono p h p1 (by omega) (by omega) (fun q => g2 (hc.2 q))) h7
    exact ⟨r, e, by omega, r2, r3, r4⟩
  ·
   rw [if_neg g]
   have : i = j := by omega
   subst this
   exact ⟨i, rfl, Nat.le_refl _, Nat.le_refl _, h6, h7⟩
theorem sy_T2 {N n : Nat} {s S3 l : List Int} {F T mid en b : Int} (rgt : mid < en → en < b → slices_symMergeCmpFunc_int_row N n s F T mid en b l = some S3) (non : ¬ (mid < en ∧ en < b) → s = S3) : (if mid < en then (if en < b then ((slices_symMergeCmpFunc_int_row N n s F T mid en b l).bind fun y => some y) else some s) else some s) = some S3 := by
  by_cases c1 : mid < en
  · rw [if_pos c1]
    by_cases c2 : en < b
    · rw [if_pos c2, rgt c1 c2, Option.bind_some]
    · rw [if_neg c2, non (fun h => c2 h.2)]
  · rw [if_neg c1, non (fun h => c1 h.1)]
theorem sy_T1 {N n : Nat} {s S2 S3 l : List Int} {F T a st mid en b : Int} (lft : a < st → st < mid → slices_symMergeCmpFunc_int_row N n s F T a st mid l = some S2) (nol : ¬ (a < st ∧ st < mid) → s = S2) (rgt : mid < en → en < b → slices_symMergeCmpFunc_int_row N n S2 F T mid en b l = some S3) (non : ¬ (mid < en ∧ en < b) → S2 = S3) : (if a < st then (if st < mid then ((slices_symMergeCmpFunc_int_row N n s F T a st mid l).bind fun y1 => (if mid < en then (if en < b then ((slices_symMergeCmpFunc_int_row N n y1 F T mid en b l).bind fun y => some y) else some y1) else some y1)) else (if mid < en then (if en < b then ((slices_symMergeCmpFunc_int_row N n s F T mid en b l).bind fun y => some y) else some s) else some s)) else (if mid < en then (if en < b then ((slices_symMergeCmpFunc_int_row N n s F T mid en b l).bind fun y => some y) else some s) else some s)) = some S3 := by
  by_cases c1 : a < st
  · rw [if_pos c1]
    by_cases c2 : st < mid
    · rw [if_pos c2, lft c1 c2, Option.bind_some]; exact sy_T2 rgt non
    · rw [if_neg c2, nol (fun h => c2 h.2)]; exact sy_T2 rgt non
  · rw [if_neg c1, nol (fun h => c1 h.1)]; exact sy_T2 rgt non
theorem sy_T0 {N n : Nat} {s S1 S2 S3 l : List Int} {F T a st m mid en b : Int} (rot : st < m → m < en → slices_rotateCmpFunc_int_row N s F T st m en l = some S1) (nor : ¬ (st < m ∧ m < en) → s = S1) (lft : a < st → st < mid → slices_symMergeCmpFunc_int_row N n S1 F T a st mid l = some S2) (nol : ¬ (a < st ∧ st < mid) → S1 = S2) (rgt : mid < en → en < b → slices_symMergeCmpFunc_int_row N n S2 F T mid en b l = some S3) (non : ¬ (mid < en ∧ en < b) → S2 = S3) : (if st < m then (if m < en then ((slices_rotateCmpFunc_int_row N s F T st m en l).bind fun y0 => (if a < st then (if st < mid then ((slices_symMergeCmpFunc_int_row N n y0 F T a st mid l).bind fun y1 => (if mid < en then (if en < b then ((slices_symMergeCmpFunc_int_row N n y1 F T mid en b l).bind fun y => some y) else some y1) else some y1)) else (if mid < en then (if en < b then ((slices_symMergeCmpFunc_int_row N n y0 F T mid en b l).bind fun y => some y) else some y0) else some y0)) else (if mid < en then (if en < b then ((slices_symMergeCmpFunc_int_row N n y0 F T mid en b l).bind fun y => some y) else some y0) else some y0))) else (if a < st then (if st < mid then ((slices_symMergeCmpFunc_int_row N n s F T a st mid l).bind fun y1 => (if mid < en then (if en < b then ((slices_symMergeCmpFunc_int_row N n y1 F T mid en b l).bind fun y => some y) else some y1) else some y1)) else (if mid < en then (if en < b then ((slices_symMergeCmpFunc_int_row N n s F T mid en b l).bind fun y => some y) else some s) else some s)) else (if mid < en then (if en < b then ((slices_symMergeCmpFunc_int_row N n s F T mid en b l).bind fun y => some y) else some s) else some s))) else (if a < st then (if st < mid then ((slices_symMergeCmpFunc_int_row N n s F T a st mid l).bind fun y1 => (if mid < en then (if en < b then ((slices_symMergeCmpFunc_int_row N n y1 F T mid en b l).bind fun y => some y) else some y1) else some y1)) else (if mid < en then (if en < b then ((slices_symMergeCmpFunc_int_row N n s F T mid en b l).bind fun y => some y) else some s) else some s)) else (if mid < en then (if en < b then ((slices_symMergeCmpFunc_int_row N n s F T mid en b l).bind fun y => some y) else some s) else some s))) = some S3 := by
  by_cases c1 : st < m
  · rw [if_pos c1]
    by_cases c2 : m < en
    · rw [if_pos c2, rot c1 c2, Option.bind_some]; exact sy_T1 lft nol rgt non
    · rw [if_neg c2, nor (fun h => c2 h.2)]; exact sy_T1 lft nol rgt non
  · rw [if_neg c1, nor (fun h => c1 h.1)]; exact sy_T1 lft nol rgt non
theorem srt_mono {l X : List Int} (h : srt l X) {i j : Nat} (hij : i ≤ j) (hj : j < X.length) : kk l (X[i]'(by omega)) ≤ kk l X[j] := by
 rcases Nat.eq_or_lt_of_le hij with e | e
 ·
  subst e; exact Int.le_refl _
 ·
  have := (List.pairwise_iff_getElem.1 h) i j (by omega) hj e
  rcases this with h | h <;> omega
theorem gp_X {L X Y R : List Int} {F a p : Nat} (hL : L.length = F + a) (h1 : a ≤ p) (h2 : p - a < X.length) : gp (L ++ X ++ Y ++ R) F p = X[p - a] := by
 unfold gp
 rw [show L ++ X ++ Y ++ R = L ++ (X ++ (Y ++ R)) by simp, List.getElem?_append_right (by omega), List.getElem?_append_left (by omega), show F + p - L.length = p - a by omega, List.getElem?_eq_getElem h2]; rfl
theorem gp_Y {L X Y R : List Int} {F m p : Nat} (hL : L.length + X.length = F + m) (h1 : m ≤ p) (h2 : p - m < Y.length) : gp (L ++ X ++ Y ++ R) F p = Y[p - m] := by
 unfold gp
 rw [show L ++ X ++ Y ++ R = (L ++ X) ++ (Y ++ R) by simp, List.getElem?_append_right (by simp; omega), List.getElem?_append_left (by simp; omega), show F + p - (L ++ X).length = p - m by simp; omega, List.getElem?_eq_getElem h2]; rfl
theorem gp_at {P A Q : List Int} {F p i : Nat} (h : P.length + i = F + p) (hi : i < A.length) : gp (P ++ (A ++ Q)) F p = A[i] := by
 unfold gp
 rw [List.getElem?_append_right (by omega), List.getElem?_append_left (by omega), show F + p - P.length = i by omega, List.getElem?_eq_getElem hi]; rfl
theorem cr_le {l A B : List Int} (hA : srt l A) (hB : srt l B) (hlt : ∀ u ∈ A, ∀ v ∈ B, u < v) (h : ∀ (h1 : 0 < A.length) (h2 : 0 < B.length), kk l (A[A.length - 1]'(by omega)) ≤ kk l B[0]) : ∀ u ∈ A, ∀ v ∈ B, ltk l u v := by
 intro u hu v hv
 have hl := hlt u hu v hv
 obtain ⟨i, hi, rfl⟩ := List.getElem_of_mem hu
 obtain ⟨j, hj, rfl⟩ := List.getElem_of_mem hv
 have q1 := srt_mono hA (i := i) (j := A.length - 1) (by omega) (by omega)
 have q2 := srt_mono hB (i := 0) (j := j) (by omega) hj
 have q3 := h (by omega) (by omega)
 by_cases z : kk l A[i] < kk l B[j]
 ·
  exact .inl z
 ·
  exact .inr ⟨by omega, hl⟩
theorem cr_lt {l A B : List Int} (hA : srt l A) (hB : srt l B) (h : ∀ (h1 : 0 < A.length) (h2 : 0 < B.length), kk l (A[A.length - 1]'(by omega)) < kk l B[0]) : ∀ u ∈ A, ∀ v ∈ B, ltk l u v := by
 intro u hu v hv
 obtain ⟨i, hi, rfl⟩ := List.getElem_of_mem hu
 obtain ⟨j, hj, rfl⟩ := List.getElem_of_mem hv
 have q1 := srt_mono hA (i := i) (j := A.length - 1) (by omega) (by omega)
 have q2 := srt_mono hB (i := 0) (j := j) (by omega) hj
 have q3 := h (by omega) (by omega)
 exact .inl (by omega)
theorem srt_app {l A B : List Int} (h : srt l (A ++ B)) : srt l A ∧ srt l B ∧ ∀ u ∈ A, ∀ v ∈ B, ltk l u v := List.pairwise_append.1 h
set_option maxHeartbeats 4000000 in
theorem sym_eq {N : Nat} (hN : 1000000000000 < N) {l : List Int} {F T : Nat} (hT : T ≤ 100000) : ∀ (d n : Nat) (X Y L R : List Int) (a m b : Nat), b - a < d → d ≤ n → X.length = m - a → Y.length = b - m → a < m → m < b → L.length = F + a → F + b ≤ T → T ≤ (L ++ X ++ Y ++ R).length → inr l X → inr l Y → srt l X → srt l Y → (∀ x ∈ X, ∀ y ∈ Y, x < y) →
  ∃ Z, slices_symMergeCmpFunc_int_row N n (L ++ X ++ Y ++ R) F T a m b l = some (L ++ Z ++ R) ∧ Z.Perm (X ++ Y) ∧ srt l Z := by
 intro d
 induction d with
 | zero => intro n X Y L R a m b h; omega
 | succ d ih =>
  intro n X Y L R a m b hd hn hX hY ham hmb hL hbT hlen iX iY sX sY hxy
  obtain ⟨n, rfl⟩ : ∃ x, n = x + 1 := ⟨n - 1, by omega⟩
  have gx : ∀ p, a ≤ p → (h : p - a < X.length) → gp (L ++ X ++ Y ++ R) F p = X[p - a] := fun p h1 h2 => gp_X hL h1 h2
  have gy : ∀ p, m ≤ p → (h : p - m < Y.length) → gp (L ++ X ++ Y ++ R) F p = Y[p - m] := fun p h1 h2 => gp_Y (by omega) h1 h2
  have ix : ∀ p, a ≤ p → p < m → 0 ≤ gp (L ++ X ++ Y ++ R) F p ∧ gp (L ++ X ++ Y ++ R) F p < (l.length : Int) := fun p h1 h2 => by rw [gx p h1 (by omega)]; exact iX _ (List.getElem_mem _)
  have iy : ∀ p, m ≤ p → p < b → 0 ≤ gp (L ++ X ++ Y ++ R) F p ∧ gp (L ++ X ++ Y ++ R) F p < (l.length : Int) := fun p h1 h2 => by rw [gy p h1 (by omega)]; exact iY _ (List.getElem_mem _)
  have mx : ∀ p q, a ≤ p → p ≤ q → q < m → kk l (gp (L ++ X ++ Y ++ R) F p) ≤ kk l (gp (L ++ X ++ Y ++ R) F q) := fun p q h1 h2 h3 => by
   rw [gx p h1 (by omega), gx q (by omega) (by omega)]; exact srt_mono sX (by omega) (by omega)
  have my : ∀ p q, m ≤ p → p ≤ q → q < b → kk l (gp (L ++ X ++ Y ++ R) F p) ≤ kk l (gp (L ++ X ++ Y ++ R) F q) := fun p q h1 h2 h3 => by
   rw [gy p h1 (by omega), gy q (by omega) (by omega)]; exact srt_mono sY (by omega) (by omega)
  rw [slices_symMergeCmpFunc_int_row, wsub (a := m) (b := a) (by omega) (by omega), wsub (a := b) (b := m) (by omega) (by omega)]
  by_cases c1 : ((m - a : Nat) : Int) = 1
  ·
   rw [if_pos c1]
   obtain ⟨x, rfl⟩ := List.length_eq_one_iff.1 (show X.length = 1 by omega)
   have ga : gp (L ++ [x] ++ Y ++ R) F a = x := by rw [gx a (by omega) (by simp)]; simp
   obtain ⟨r, e, r1, r2, r3, r4⟩ := bs_L1 (N := N) (l := l) (s := L ++ [x] ++ Y ++ R) (F := F) (T := T) (a := a) (lo := m) (hi := b) hlen hT iy hbT (by omega) (ix a (by omega) ham) (fun p q p1 p2 p3 h => by have := my p q p1 p2 p3; omega) (b - m + 1) N m b (by omega) (by omega) (Nat.le_refl _) (by omega) (Nat.le_refl _) (fun p p1 p2 => by omega) (fun p p1 p2 => by omega)
   rw [e, Option.bind_some]
   obtain ⟨Y1, Y2, rfl, hY1, hY2⟩ := take_split (X := Y) (k := r - m) (by omega)
   rw [show L ++ [x] ++ (Y1 ++ Y2) ++ R = L ++ x :: (Y1 ++ (Y2 ++ R)) by simp, up_L2 (l := l) hT (by omega) Y1 L a N hL (by omega) (by omega), Option.bind_some]
   obtain ⟨s1, s2, s3⟩ := srt_app sY
   refine ⟨Y1 ++ x :: Y2, by simp, by simp [List.perm_middle], ?_⟩
   refine List.pairwise_append.2 ⟨s1, List.Pairwise.cons (fun y hy => ?_) s2, fun u hu v hv => ?_⟩
   ·
    have hlt := hxy x (by simp) y (by simp [hy])
    obtain ⟨i, hi, rfl⟩ := List.getElem_of_mem hy
    have q := r4 (r + i) (by omega) (by omega)
    rw [ga, gy (r + i) (by omega) (by simp; omega), List.getElem_append_right (by omega)] at q
    simp only [show r + i - m - Y1.length = i by omega] at q
    by_cases z : kk l x < kk l Y2[i]
    ·
     exact .inl z
    ·
     exact .inr ⟨by omega, hlt⟩
   ·
    rcases List.mem_cons.1 hv with rfl | hv
    ·
     obtain ⟨i, hi, rfl⟩ := List.getElem_of_mem hu
     have q := r3 (m + i) (by omega) (by omega)
     rw [ga, gy (m + i) (by omega) (by simp; omega), List.getElem_append_left (by omega)] at q
     simp only [show m + i - m = i by omega] at q
     exact .inl q
    ·
     exact s3 u hu v hv
  rw [if_neg c1]
  by_cases c2 : ((b - m : Nat) : Int) = 1
  ·
   rw [if_pos c2]
   obtain ⟨y, rfl⟩ := List.length_eq_one_iff.1 (show Y.length = 1 by omega)
   have gm : gp (L ++ X ++ [y] ++ R) F m = y := by rw [gy m (by omega) (by simp)]; simp
   obtain ⟨r, e, r1, r2, r3, r4⟩ := bs_L3 (N := N) (l := l) (s := L ++ X ++ [y] ++ R) (F := F) (T := T) (m := m) (lo := a) (hi := m) hlen hT ix (by omega) (by omega) (iy m (by omega) hmb) (fun p q p1 p2 p3 h => by have := mx p q p1 p2 p3; omega) (m - a + 1) N a m (by omega) (by omega) (Nat.le_refl _) (by omega) (Nat.le_refl _) (fun p p1 p2 => by omega) (fun p p1 p2 => by omega)
   rw [e, Option.bind_some]
   obtain ⟨X1, X2, rfl, hX1, hX2⟩ := take_split (X := X) (k := r - a) (by omega)
   rw [show L ++ (X1 ++ X2) ++ [y] ++ R = (L ++ X1) ++ X2 ++ y :: R by simp, down_L4 (l := l) (F := F) (T := T) hT X2.length X2 (L ++ X1) R m N rfl (by simp; omega) (by omega) (by omega) (by omega), Option.bind_some]
   obtain ⟨s1, s2, s3⟩ := srt_app sX
   refine ⟨X1 ++ y :: X2, by simp, ?_, ?_⟩
   ·
    refine List.perm_middle.trans ?_
    exact (List.perm_append_comm (l₁ := X1 ++ X2) (l₂ := [y])).symm
   refine List.pairwise_append.2 ⟨s1, List.Pairwise.cons (fun x hx => ?_) s2, fun u hu v hv => ?_⟩
   ·
    obtain ⟨i, hi, rfl⟩ := List.getElem_of_mem hx
    have q := r4 (r + i) (by omega) (by omega)
    rw [gm, gx (r + i) (by omega) (by simp; omega), List.getElem_append_right (by omega)] at q
    simp only [show r + i - a - X1.length = i by omega] at q
    exact .inl (Classical.not_not.1 q)
   ·
    rcases List.mem_cons.1 hv with rfl | hv
    ·
     have hlt := hxy u (by simp [hu]) v (by simp)
     obtain ⟨i, hi, rfl⟩ := List.getElem_of_mem hu
     have q := r3 (a + i) (by omega) (by omega)
     rw [gm, gx (a + i) (by omega) (by simp; omega), List.getElem_append_left (by omega)] at q
     simp only [show a + i - a = i by omega] at q
     by_cases z : kk l X1[i] < kk l v
     ·
      exact .inl z
     ·
      exact .inr ⟨by omega, hlt⟩
    ·
     exact s3 u hu v hv
  rw [if_neg c2, midS (a := a) (b := b) (by omega), wadd (a := (a + b) / 2) (b := m) (by omega) (by omega)]
  -- the search
  have hsr : ∃ st : Nat, a ≤ st ∧ st ≤ m ∧ st ≤ (a + b) / 2 ∧ (a + b) / 2 + m - st ≤ b ∧ (a < st → (a + b) / 2 + m - st < b → ¬ kk l (gp (L ++ X ++ Y ++ R) F ((a + b) / 2 + m - st)) < kk l (gp (L ++ X ++ Y ++ R) F (st - 1))) ∧ (st < m → st < (a + b) / 2 → kk l (gp (L ++ X ++ Y ++ R) F ((a + b) / 2 + m - 1 - st)) < kk l (gp (L ++ X ++ Y ++ R) F st)) ∧
    ((((a + b) / 2 : Nat) : Int) < (m : Int) → slices_symMergeCmpFunc_int_row_L5 N F T a m b (L ++ X ++ Y ++ R) l N (IntKind.i64.wrap ((((a + b) / 2 + m : Nat) : Int) - (b : Int))) (((a + b) / 2 : Nat) : Int) = some (st : Int)) ∧ (¬ (((a + b) / 2 : Nat) : Int) < (m : Int) → slices_symMergeCmpFunc_int_row_L5 N F T a m b (L ++ X ++ Y ++ R) l N a m = some (st : Int)) := by
   by_cases g : (((a + b) / 2 : Nat) : Int) < (m : Int)
   ·
    rw [wsub (a := (a + b) / 2 + m) (b := b) (by omega) (by omega)]
    obtain ⟨r, e, r1, r2, r3, r4⟩ := bs_L5 (N := N) (l := l) (s := L ++ X ++ Y ++ R) (F := F) (T := T) (a := a) (m := m) (b := b) (lo := (a + b) / 2 + m - b) (hi := (a + b) / 2) hlen hT (fun p p1 p2 => ix p (by omega) (by omega)) (by omega) (by omega) (by omega) (by omega) (fun p p1 p2 => ⟨by omega, by omega, iy _ (by omega) (by omega)⟩) (fun p q p1 p2 p3 h => by
     have h1 := mx p q (by omega) p2 (by omega)
     have h2 := my ((a + b) / 2 + m - 1 - q) ((a + b) / 2 + m - 1 - p) (by omega) (by omega) (by omega)
     omega) (b + 1) N ((a + b) / 2 + m - b) ((a + b) / 2) (by omega) (by omega) (Nat.le_refl _) (by omega) (Nat.le_refl _) (fun p p1 p2 => by omega) (fun p p1 p2 => by omega)
    refine ⟨r, by omega, by omega, by omega, by omega, fun k1 k2 => ?_, fun k1 k2 => Classical.not_not.1 (r4 r (Nat.le_refl _) k2), fun _ => e, fun q => absurd g q⟩
    have := r3 (r - 1) (by omega) (by omega)
    rw [show (a + b) / 2 + m - 1 - (r - 1) = (a + b) / 2 + m - r by omega] at this
    exact this
   ·
    obtain ⟨r, e, r1, r2, r3, r4⟩ := bs_L5 (N := N) (l := l) (s := L ++ X ++ Y ++ R) (F := F) (T := T) (a := a) (m := m) (b := b) (lo := a) (hi := m) hlen hT (fun p p1 p2 => ix p (by omega) (by omega)) (by omega) (by omega) (by omega) (by omega) (fun p p1 p2 => ⟨by omega, by omega, iy _ (by omega) (by omega)⟩) (fun p q p1 p2 p3 h => by
     have h1 := mx p q (by omega) p2 (by omega)
     have h2 := my ((a + b) / 2 + m - 1 - q) ((a + b) / 2 + m - 1 - p) (by omega) (by omega) (by omega)
     omega) (b + 1) N a m (by omega) (by omega) (Nat.le_refl _) (by omega) (Nat.le_refl _) (fun p p1 p2 => by omega) (fun p p1 p2 => by omega)
    refine ⟨r, by omega, by omega, by omega, by omega, fun k1 k2 => ?_, fun k1 k2 => Classical.not_not.1 (r4 r (Nat.le_refl _) k1), fun q => absurd q g, fun _ => e⟩
    have := r3 (r - 1) (by omega) (by omega)
    rw [show (a + b) / 2 + m - 1 - (r - 1) = (a + b) / 2 + m - r by omega] at this
    exact this
  obtain ⟨st, t1, t2, t3, t4, t5, t6, t7, t8⟩ := hsr
  generalize hmid : (a + b) / 2 = mid at t3 t4 t5 t6 t7 t8 ⊢
  replace t5 : Unit → _ := fun _ => t5
  replace t6 : Unit → _ := fun _ => t6
  replace t7 : Unit → _ := fun _ => t7
  replace t8 : Unit → _ := fun _ => t8
  have hma : a < mid := by omega
  have hmb2 : mid < b := by omega
  obtain ⟨X1, X2, rfl, hX1, hX2⟩ := take_split (X := X) (k := st - a) (by omega)
  obtain ⟨Y1, Y2, rfl, hY1, hY2⟩ := take_split (X := Y) (k := mid - st) (by omega)
  obtain ⟨x1, x2, x3⟩ := srt_app sX
  obtain ⟨y1, y2, y3⟩ := srt_app sY
  have hlen1 : L.length + X1.length + Y1.length + X2.length + Y2.length + R.length = (L ++ (X1 ++ X2) ++ (Y1 ++ Y2) ++ R).length := by simp; omega
  simp only [List.length_append] at hX hY
  -- the parts
  have hZ1 : ∃ Z1, (a < st → st < mid → slices_symMergeCmpFunc_int_row N n (L ++ (X1 ++ Y1) ++ (X2 ++ Y2) ++ R) F T a st mid l = some (L ++ Z1 ++ (X2 ++ Y2) ++ R)) ∧ (¬ (a < st ∧ st < mid) → Z1 = X1 ++ Y1) ∧ Z1.Perm (X1 ++ Y1) ∧ srt l Z1 := by
   by_cases g : a < st ∧ st < mid
   ·
    obtain ⟨Z, e, p, s⟩ := ih n X1 Y1 L (X2 ++ Y2 ++ R) a st mid (by omega) (by omega) (by omega) (by omega) g.1 g.2 hL (by omega) (by simp; omega) (fun e he => iX e (by simp [he])) (fun e he => iY e (by simp [he])) x1 y1 (fun x hx y hy => hxy x (by simp [hx]) y (by simp [hy]))
    exact ⟨Z, fun _ _ => by rw [show L ++ (X1 ++ Y1) ++ (X2 ++ Y2) ++ R = L ++ X1 ++ Y1 ++ (X2 ++ Y2 ++ R) by simp, e]; simp, fun h => absurd g h, p, s⟩
   ·
    refine ⟨X1 ++ Y1, fun h1 h2 => absurd ⟨h1, h2⟩ g, fun _ => rfl, List.Perm.refl _, ?_⟩
    by_cases g1 : a < st
    ·
     have : Y1 = [] := List.eq_nil_of_length_eq_zero (by omega)
     rw [this, List.append_nil]; exact x1
    ·
     have : X1 = [] := List.eq_nil_of_length_eq_zero (by omega)
     rw [this, List.nil_append]; exact y1
  obtain ⟨Z1, z1, z2, z3, z4⟩ := hZ1
  have hl1 := z3.length_eq
  simp only [List.length_append] at hl1
  have hZ2 : ∃ Z2, (mid < mid + m - st → mid + m - st < b → slices_symMergeCmpFunc_int_row N n (L ++ Z1 ++ (X2 ++ Y2) ++ R) F T mid (mid + m - st : Nat) b l = some (L ++ Z1 ++ Z2 ++ R)) ∧ (¬ (mid < mid + m - st ∧ mid + m - st < b) → Z2 = X2 ++ Y2) ∧ Z2.Perm (X2 ++ Y2) ∧ srt l Z2 := by
   by_cases g : mid < mid + m - st ∧ mid + m - st < b
   ·
    obtain ⟨Z, e, p, s⟩ := ih n X2 Y2 (L ++ Z1) R mid (mid + m - st) b (by omega) (by omega) (by omega) (by omega) g.1 g.2 (by simp; omega) (by omega) (by simp; omega) (fun e he => iX e (by simp [he])) (fun e he => iY e (by simp [he])) x2 y2 (fun x hx y hy => hxy x (by simp [hx]) y (by simp [hy]))
    exact ⟨Z, fun _ _ => by rw [show L ++ Z1 ++ (X2 ++ Y2) ++ R = L ++ Z1 ++ X2 ++ Y2 ++ R by simp, e], fun h => absurd g h, p, s⟩
   ·
    refine ⟨X2 ++ Y2, fun h1 h2 => absurd ⟨h1, h2⟩ g, fun _ => rfl, List.Perm.refl _, ?_⟩
    by_cases g1 : mid < mid + m - st
    ·
     have : Y2 = [] := List.eq_nil_of_length_eq_zero (by omega)
     rw [this, List.append_nil]; exact x2
    ·
     have : X2 = [] := List.eq_nil_of_length_eq_zero (by omega)
     rw [this, List.nil_append]; exact y2
  obtain ⟨Z2, w1, w2, w3, w4⟩ := hZ2
  -- what is ahead is less
  have hcross : ∀ u ∈ X1 ++ Y1, ∀ v ∈ X2 ++ Y2, ltk l u v := by
   clear mx my gx gy ix iy z1 w1 z2 w2 ih hlen1
   have k1 := cr_le (l := l) x1 y2 (fun u hu v hv => hxy u (by simp [hu]) v (by simp [hv])) (fun h1 h2 => by
    have e1 : gp (L ++ (X1 ++ X2) ++ (Y1 ++ Y2) ++ R) F (st - 1) = X1[X1.length - 1] := (congrArg (fun s => gp s F (st - 1)) (show L ++ (X1 ++ X2) ++ (Y1 ++ Y2) ++ R = L ++ (X1 ++ (X2 ++ (Y1 ++ Y2) ++ R)) by simp)).trans (gp_at (by omega) (by omega))
    have e2 : gp (L ++ (X1 ++ X2) ++ (Y1 ++ Y2) ++ R) F (mid + m - st) = Y2[0] := (congrArg (fun s => gp s F (mid + m - st)) (show L ++ (X1 ++ X2) ++ (Y1 ++ Y2) ++ R = (L ++ (X1 ++ X2) ++ Y1) ++ (Y2 ++ R) by simp)).trans (gp_at (by simp; omega) (by omega))
    have q := t5 () (by omega) (by omega)
    rw [e1, e2] at q
    exact Int.not_lt.1 q)
   have k2 := cr_lt (l := l) y1 x2 (fun h1 h2 => by
    have e1 : gp (L ++ (X1 ++ X2) ++ (Y1 ++ Y2) ++ R) F (mid + m - 1 - st) = Y1[Y1.length - 1] := (congrArg (fun s => gp s F (mid + m - 1 - st)) (show L ++ (X1 ++ X2) ++ (Y1 ++ Y2) ++ R = (L ++ (X1 ++ X2)) ++ (Y1 ++ (Y2 ++ R)) by simp)).trans (gp_at (by simp; omega) (by omega))
    have e2 : gp (L ++ (X1 ++ X2) ++ (Y1 ++ Y2) ++ R) F st = X2[0] := (congrArg (fun s => gp s F st) (show L ++ (X1 ++ X2) ++ (Y1 ++ Y2) ++ R = (L ++ X1) ++ (X2 ++ ((Y1 ++ Y2) ++ R)) by simp)).trans (gp_at (by simp; omega) (by omega))
    have q := t6 () (by omega) (by omega)
    rw [e1, e2] at q
    exact q)
   intro u hu v hv
   rcases List.mem_append.1 hu with hu | hu <;> rcases List.mem_append.1 hv with hv | hv
   ·
    exact x3 u hu v hv
   ·
    exact k1 u hu v hv
   ·
    exact k2 u hu v hv
   ·
    exact y3 u hu v hv
  have hfin : (Z1 ++ Z2).Perm (X1 ++ X2 ++ (Y1 ++ Y2)) ∧ srt l (Z1 ++ Z2) := by
   refine ⟨(List.Perm.append z3 w3).trans ?_, List.pairwise_append.2 ⟨z4, w4, fun u hu v hv => hcross u (z3.mem_iff.1 hu) v (w3.mem_iff.1 hv)⟩⟩
   rw [show X1 ++ Y1 ++ (X2 ++ Y2) = X1 ++ (Y1 ++ X2) ++ Y2 by simp, show X1 ++ X2 ++ (Y1 ++ Y2) = X1 ++ (X2 ++ Y1) ++ Y2 by simp]
   exact (List.Perm.append_left _ List.perm_append_comm).append_right _
  have hen : IntKind.i64.wrap (((mid + m : Nat) : Int) - (st : Int)) = ((mid + m - st : Nat) : Int) := wsub (by omega) (by omega)
  refine ⟨Z1 ++ Z2, ?_, hfin.1, hfin.2⟩
  have hT0 := sy_T0 (N := N) (n := n) (s := L ++ (X1 ++ X2) ++ (Y1 ++ Y2) ++ R) (S1 := L ++ (X1 ++ Y1) ++ (X2 ++ Y2) ++ R) (S2 := L ++ Z1 ++ (X2 ++ Y2) ++ R) (S3 := L ++ (Z1 ++ Z2) ++ R) (l := l) (F := F) (T := T) (a := a) (st := st) (m := m) (mid := mid) (en := ((mid + m - st : Nat) : Int)) (b := b)
   (fun k1 k2 => by
    rw [show L ++ (X1 ++ X2) ++ (Y1 ++ Y2) ++ R = (L ++ X1) ++ X2 ++ Y1 ++ (Y2 ++ R) by simp, rot_eq hN hT (by omega) (by omega) (by omega) (by omega) (by simp; omega) (by omega)]; simp)
   (fun k => by
    by_cases g : st < m
    ·
     have : Y1 = [] := List.eq_nil_of_length_eq_zero (by omega)
     rw [this]; simp
    ·
     have : X2 = [] := List.eq_nil_of_length_eq_zero (by omega)
     rw [this]; simp)
   (fun k1 k2 => z1 (by omega) (by omega))
   (fun k => by rw [z2 (by omega)])
   (fun k1 k2 => by rw [w1 (by omega) (by omega)]; simp)
   (fun k => by rw [w2 (by omega)]; simp)
  by_cases g : ((mid : Nat) : Int) < (m : Int)
  ·
   rw [if_pos g, t7 () g, Option.bind_some, hen]
   exact hT0
  ·
   rw [if_neg g, t8 () g, Option.bind_some, hen]
   exact hT0
end Go.Proofs.Ytjalenbgpmdadaa.AI
