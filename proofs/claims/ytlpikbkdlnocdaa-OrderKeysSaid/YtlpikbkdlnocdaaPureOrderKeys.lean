/- The keys of all items are the document's: the plain law behind OrderKeys. Conditions: none but that all numbers are whole numbers of 64 bits. -/
import Derived.Test.YtlpikbkdlnocdaaSayOrderKeys
import Derived.Test.YtlpikbkdlnocdaaB2
namespace Go.Proofs.Ytlpikbkdlnocdaa.Pure
open Go.RowKit Go.Proofs.Ytlpikbkdlnocdaa.K Go.Proofs.YtlpikbkdlnocdaaW.PrintWords Go.Proofs.YtlpikbkdlnocdaaW.PrintLast

def KS (f : Nat → Int) (n : Nat) : List Int := (List.range n).map f
theorem KS_succ (f : Nat → Int) (n : Nat) : KS f (n + 1) = KS f n ++ [f n] := by unfold KS; rw [List.range_succ, List.map_append]; rfl
theorem KS_len (f : Nat → Int) (n : Nat) : (KS f n).length = n := by unfold KS; simp
/-! ### N behind the base -/
def allN (l : List Int) : Nat → Nat → Bool
  | _, 0 => true
  | q, e + 1 => rd l (q : Int) == 3 && allN l (q + 1) e
theorem allN_nb (l : List Int) (i : Nat) (hi : i < l.length) : ∀ (d q : Nat), q + d = l.length → q ≤ i + 1 → allN l q (i + 1 - q) = decide (i < nb l d) := by
  intro d
  induction d with
  | zero =>
    intro q hq h
    have e : i + 1 - q = 0 := by omega
    rw [e]
    simp [allN, nb, hi]
  | succ d ih =>
    intro q hq h
    have hp : l.length - (d + 1) = q := by omega
    have hn := nb_le l d
    rcases Nat.lt_or_ge i q with h1 | h1
    · have e : i + 1 - q = 0 := by omega
      rw [e]
      simp only [allN, nb, hp]
      split <;> (rw [decide_eq_true (by omega)])
    · have e : i + 1 - q = (i + 1 - (q + 1)) + 1 := by omega
      rw [e]
      simp only [allN, nb, hp]
      rw [ih (q + 1) (by omega) (by omega)]
      by_cases h3 : rd l (q : Int) = 3
      · rw [if_pos h3, h3]; simp
      · rw [if_neg h3, decide_eq_false (show ¬ i < q by omega)]; simp [h3]
section
variable {p : List Int} {first : Int} {l : List Int} {acc : List Int} {i : Nat} {kd : Int} {s : ByteArray} {la : Bool} {v : Int} {r : List Int} {K : Nat} {b : Nat}
theorem ref_l1 (pos : Int) (hl : l.length ≤ 1000) (hil : i < l.length) (hacc : acc.length < 17592186044416) (hi : wrap64 ((i : Int) + 1) = ((i + 1 : Nat) : Int)) : ∀ (e q : Nat) (flag : Bool), i + 1 - q = e → q ≤ l.length →
    (∀ k, K ≤ k → reedpenref26_Keys.l0 k p first (b : Int) (str l) (acc ++ [fin1 kd first i (key8 (rd l (i : Int)) pos (key7 (kd == 3 && subj l (b : Int) i) (if (flag && allN l q e) = true then 3 else if (i : Int) < (b : Int) then 2 else if tgx (rd l (i : Int)) = true then 4 else 5)))]) ((i + 1 : Nat) : Int) kd s la v = some r) →
    ∀ k, K + e + 20 ≤ k → reedpenref26_Keys.l1 k p first (b : Int) (str l) acc (i : Int) pos flag (q : Int) kd s la v = some r := by
  intro e
  induction e with
  | zero =>
    intro q flag hq hql E k hk
    obtain ⟨k, rfl⟩ : ∃ q, k = q + 1 := ⟨k - 1, by omega⟩
    simp only [allN, Bool.and_true] at E
    simp only [reedpenref26_Keys.l1]
    rw [if_neg (by omega), inTgx l i hil k (by omega)]
    simp only [Option.bind_some]
    by_cases ht : tgx (rd l (i : Int)) = true
    · simp only [if_pos ht] at E ⊢; exact r4 _ _ _ (by omega) hl hil hacc hi E k (by omega)
    · simp only [if_neg ht] at E ⊢; exact r4 _ _ _ (by omega) hl hil hacc hi E k (by omega)
  | succ e ih =>
    intro q flag hq hql E k hk
    obtain ⟨k, rfl⟩ : ∃ q, k = q + 1 := ⟨k - 1, by omega⟩
    have hw : wrap64 ((q : Int) + 1) = ((q + 1 : Nat) : Int) := by rw [wid (by omega) (by omega)]; omega
    simp only [reedpenref26_Keys.l1]
    rw [if_pos (by omega), hw]
    cases flag with
    | false =>
      rw [if_neg (by decide)]
      exact ih (q + 1) false (by omega) (by omega) (by simpa using E) k (by omega)
    | true =>
      rw [if_pos rfl, if_pos (by omega), if_pos (by rw [str_size]; omega)]
      have hb : (bt (str l) (q : Int) == 78) = (rd l (q : Int) == 3) := by rw [Bool.eq_iff_iff, beq_iff_eq, beq_iff_eq]; exact bN l q (by omega)
      rw [hb]
      exact ih (q + 1) _ (by omega) (by omega) (by simpa [allN] using E) k (by omega)
end
theorem own_flag (l : List Int) (b i : Nat) (hb : b < l.length) (hi : i < l.length) : (decide ((i : Int) ≥ (b : Int)) && allN l (b + 1) (i + 1 - (b + 1))) = ownAt l b i := by
  unfold ownAt
  by_cases h : b ≤ i
  · rw [decide_eq_true (show (i : Int) ≥ (b : Int) by omega), decide_eq_true h, allN_nb l i hi (l.length - (b + 1)) (b + 1) (by omega) (by omega)]
  · rw [decide_eq_false (show ¬ (i : Int) ≥ (b : Int) by omega), decide_eq_false h]; rfl
/-- The keys of all items: of a base that is none, and of one. -/
def keyAll (kd first b : Int) (l p : List Int) (i : Nat) : Int := if b < 0 ∨ b ≥ (l.length : Int) then 3 else keyRef kd first b l p i (ownAt l b.toNat i)
theorem ref_go (kd first b : Int) (l p : List Int) (s : ByteArray) (la : Bool) (v : Int) (hl : l.length ≤ 1000) : ∀ (d i k : Nat), i + d = l.length → d * (l.length + 40) < k →
    reedpenref26_Keys.l0 k p first b (str l) (KS (keyAll kd first b l p) i) (i : Int) kd s la v = some (KS (keyAll kd first b l p) l.length) := by
  intro d
  induction d with
  | zero =>
    intro i k hi hk
    obtain ⟨k, rfl⟩ : ∃ q, k = q + 1 := ⟨k - 1, by omega⟩
    have hil : i = l.length := by omega
    subst hil
    simp only [reedpenref26_Keys.l0]
    rw [if_neg (by rw [str_size]; omega)]
  | succ d ih =>
    intro i k hi hk
    have hmul : (d + 1) * (l.length + 40) = d * (l.length + 40) + l.length + 40 := by rw [Nat.succ_mul]; omega
    obtain ⟨k, rfl⟩ : ∃ q, k = q + 3 := ⟨k - 3, by omega⟩
    have hw : wrap64 ((i : Int) + 1) = ((i + 1 : Nat) : Int) := by rw [wid (by omega) (by omega)]; omega
    have hacc : (KS (keyAll kd first b l p) i).length < 17592186044416 := by rw [KS_len]; omega
    have E := fun k hk => ih (i + 1) k (by omega) hk
    rw [KS_succ] at E
    have key : reedpenref26_Keys.j1 (k + 2) p first b (str l) (KS (keyAll kd first b l p) i) (i : Int) (posOf p i) kd s la v = some (KS (keyAll kd first b l p) l.length) := by
      simp only [reedpenref26_Keys.j1, reedpenref26_Keys.j2, str_size]
      by_cases h0 : b < 0
      · rw [if_pos h0, if_pos trivial, if_pos hacc, hw]
        have hk3 : keyAll kd first b l p i = 3 := by unfold keyAll; rw [if_pos (Or.inl h0)]
        rw [hk3] at E
        exact E k (by omega)
      · rw [if_neg h0]
        by_cases h1 : b ≥ (l.length : Int)
        · rw [decide_eq_true h1, if_pos rfl, if_pos hacc, hw]
          have hk3 : keyAll kd first b l p i = 3 := by unfold keyAll; rw [if_pos (Or.inr h1)]
          rw [hk3] at E
          exact E k (by omega)
        · rw [decide_eq_false h1, if_neg (by decide)]
          obtain ⟨n, rfl⟩ := Int.eq_ofNat_of_zero_le (Int.not_lt.1 h0)
          have hwb : wrap64 ((n : Int) + 1) = ((n + 1 : Nat) : Int) := by rw [wid (by omega) (by omega)]; omega
          rw [hwb]
          refine ref_l1 (K := d * (l.length + 40) + 1) (posOf p i) hl (by omega) hacc hw (i + 1 - (n + 1)) (n + 1) _ rfl (by omega) ?_ k (by omega)
          intro k' hk'
          rw [own_flag l n i (by omega) (by omega)]
          have hkk : keyAll kd first (n : Int) l p i = keyRef kd first (n : Int) l p i (ownAt l n i) := by unfold keyAll; rw [if_neg (by omega), Int.toNat_natCast]
          have e := E k' (by omega)
          rw [hkk] at e
          exact e
    simp only [reedpenref26_Keys.l0]
    rw [if_pos (by rw [str_size]; omega), if_pos (show (0 : Int) ≤ (i : Int) by omega)]
    unfold posOf at key
    by_cases hp : (i : Int) < (p.length : Int)
    · rw [if_pos hp] at key ⊢; exact key
    · rw [if_neg hp] at key ⊢; exact key
theorem ref_keys (kd first b : Int) (l p : List Int) (s : ByteArray) (la : Bool) (v : Int) (hl : l.length ≤ 1000) (k : Nat) (hk : l.length * (l.length + 40) + 100 < k) :
    reedpenref26_Keys.f k kd s la v l p first b = some (KS (keyAll kd first b l p) l.length) := by
  have h0 : l.length ≤ l.length * (l.length + 40) := Nat.le_mul_of_pos_right _ (by omega)
  unfold reedpenref26_Keys.f
  rw [letters_f l hl k (by omega)]
  exact ref_go kd first b l p s la v hl l.length 0 k (by omega) (by omega)
/-! ### the program -/
theorem own_subj (l : List Int) (b i : Nat) (hl : l.length ≤ 1000) (hi : i < l.length) : order_subjoined.f l (i : Int) (b : Int) = some (subj l (b : Int) i) := by
  have hw : wrap64 ((i : Int) + 1) = ((i + 1 : Nat) : Int) := by rw [wid (by omega) (by omega)]; omega
  have hm : wrap64 ((i : Int) - 1) = (i : Int) - 1 := wid (by omega) (by omega)
  unfold order_subjoined.f
  rw [hw, hm, if_pos (by omega), if_pos (by omega)]
  unfold subj
  have hc : ((i : Int) + 1 < (l.length : Int)) ↔ (((i + 1 : Nat) : Int) < (l.length : Int)) := by omega
  by_cases h11 : rd l (i : Int) = 11
  · rw [if_pos h11]
    have h7 : (rd l (i : Int) == 7) = false := by rw [h11]; decide
    rw [h7, h11]
    by_cases h1 : (i : Int) > (b : Int)
    · rw [if_pos h1]
      by_cases h2 : ((i + 1 : Nat) : Int) < (l.length : Int)
      · rw [if_pos h2, if_pos (by omega)]
        simp only [decide_eq_true h1, decide_eq_true (hc.2 h2)]
        simp
      · rw [if_neg h2]
        simp only [decide_eq_false (fun h => h2 (hc.1 h))]
        simp
    · rw [if_neg h1]
      simp only [decide_eq_false h1]
      simp
  · rw [if_neg h11]
    have h11' : (rd l (i : Int) == 11) = false := by rw [beq_eq_false_iff_ne]; exact h11
    rw [h11']
    by_cases h7 : rd l (i : Int) = 7
    · rw [if_pos h7, h7]
      by_cases h1 : (i : Int) - 1 > (b : Int)
      · rw [if_pos h1, if_pos (by omega), if_pos (by omega)]
        simp only [decide_eq_true h1]
        simp
      · rw [if_neg h1]
        simp only [decide_eq_false h1]
        simp
    · rw [if_neg h7]
      have h7' : (rd l (i : Int) == 7) = false := by rw [beq_eq_false_iff_ne]; exact h7
      rw [h7']; simp
theorem own_key (kd first : Int) (l p : List Int) (s : ByteArray) (la : Bool) (v : Int) (b i : Nat) (hl : l.length ≤ 1000) (hb : b < l.length) (hi : i < l.length) :
    order_syllable_key.f kd s la v l first (b : Int) ((nb l (l.length - (b + 1)) : Nat) : Int) (i : Int) (posOf p i) = some (keyRef kd first (b : Int) l p i (ownAt l b i)) := by
  unfold order_syllable_key.f keyRef fin1
  by_cases hf : (i : Int) < first
  · rw [if_pos hf, if_pos hf]; split <;> rfl
  · rw [if_neg hf, if_neg hf, if_pos (by omega), own_subj l b i hl hi]
    have hs : subj l (b : Int) i = true → rd l (i : Int) = 11 ∨ rd l (i : Int) = 7 := by
      unfold subj
      intro h
      by_cases h1 : rd l (i : Int) = 11
      · exact Or.inl h1
      · by_cases h2 : rd l (i : Int) = 7
        · exact Or.inr h2
        · simp [h1, h2] at h
    unfold ownAt
    generalize subj l (b : Int) i = sj at hs ⊢
    have hn := (nb_le l (l.length - (b + 1))).2
    replace hn : b < nb l (l.length - (b + 1)) := by omega
    generalize nb l (l.length - (b + 1)) = n at hn ⊢
    generalize posOf p i = pos
    generalize rd l (i : Int) = c at hs ⊢
    clear hf hi hl hb
    have ho : (decide (b ≤ i) && decide (i < n)) = (!decide ((i : Int) < (b : Int)) && decide ((i : Int) < (n : Int))) := by
      rw [Bool.eq_iff_iff]; simp
    rw [ho]
    clear ho
    have hge : ((i : Int) ≥ (n : Int)) = ¬ ((i : Int) < (n : Int)) := by rw [ge_iff_le, Int.not_lt]
    have tl : order_syllable_key.tail (b : Int) (n : Int) (i : Int) = if (i : Int) < (b : Int) then 2 else if (i : Int) < (n : Int) then 3 else 5 := rfl
    rw [tl]
    simp only [hge]
    unfold key8 key7 key9 key10 order_signKey.f tgx
    by_cases gA : (i : Int) < (b : Int) <;> by_cases gB : (i : Int) < (n : Int) <;> simp only [gA, gB, decide_true, decide_false, if_true, if_false, Bool.not_true, Bool.not_false, Bool.and_true, Bool.and_false, not_true, not_false_iff, Bool.false_eq_true]
    rotate_left
    · exfalso; omega
    all_goals clear gA gB hge tl hn
    all_goals
      by_cases c5 : c = 5
      · subst c5
        by_cases p1 : pos = 1
        · subst p1; simp
        · by_cases p2 : pos = 2
          · subst p2; simp
          · by_cases p3 : pos = 3
            · subst p3; simp
            · simp [p1, p2, p3]
      by_cases c6 : c = 6
      · subst c6; simp
      by_cases c13 : c = 13
      · subst c13
        by_cases p1 : pos = 1
        · subst p1; simp
        · obtain rfl : sj = false := by cases sj with
            | false => rfl
            | true => exact absurd (hs rfl) (by decide)
          by_cases k3 : kd = 3 <;> simp [p1, k3]
      by_cases c12 : c = 12
      · subst c12
        obtain rfl : sj = false := by cases sj with
          | false => rfl
          | true => exact absurd (hs rfl) (by decide)
        by_cases k3 : kd = 3 <;> simp [k3]
      by_cases c15 : c = 15
      · subst c15
        obtain rfl : sj = false := by cases sj with
          | false => rfl
          | true => exact absurd (hs rfl) (by decide)
        by_cases k3 : kd = 3 <;> simp [k3]
      by_cases c11 : c = 11
      · subst c11; by_cases k3 : kd = 3 <;> cases sj <;> simp [k3]
      by_cases c7 : c = 7
      · subst c7; by_cases k3 : kd = 3 <;> cases sj <;> simp [k3]
      obtain rfl : sj = false := by cases sj with
        | false => rfl
        | true => exact absurd (hs rfl) (by omega)
      by_cases k3 : kd = 3 <;> simp [c5, c6, c13, c12, c15, c11, c7, k3]
theorem nuk_go (kd first : Int) (l p : List Int) (s : ByteArray) (la : Bool) (v : Int) (b : Nat) (hl : l.length ≤ 1000) {r : List Int} {K : Nat} : ∀ (d q : Nat), q + d = l.length →
    (∀ k, K ≤ k → order_Keys.l1 k p false [] (l.length : Int) 0 kd s la v l first (b : Int) ((nb l d : Nat) : Int) = some r) →
    ∀ k, K + d + 2 ≤ k → order_Keys.l0 k l p false kd s la v l first (b : Int) (q : Int) = some r := by
  intro d
  induction d with
  | zero =>
    intro q hq E k hk
    obtain ⟨k, rfl⟩ : ∃ q, k = q + 2 := ⟨k - 2, by omega⟩
    have hql : q = l.length := by omega
    subst hql
    simp only [order_Keys.l0, order_Keys.j2]
    rw [if_neg (by decide), if_neg (by omega)]
    exact E k (by omega)
  | succ d ih =>
    intro q hq E k hk
    obtain ⟨k, rfl⟩ : ∃ q, k = q + 2 := ⟨k - 2, by omega⟩
    have hp : l.length - (d + 1) = q := by omega
    have hw : wrap64 ((q : Int) + 1) = ((q + 1 : Nat) : Int) := by rw [wid (by omega) (by omega)]; omega
    simp only [nb, hp] at E
    rw [order_Keys.l0, if_neg (by decide), if_pos (by omega), if_pos (by omega), hw]
    by_cases h3 : rd l (q : Int) = 3
    · rw [if_pos h3] at E ⊢
      exact ih (q + 1) (by omega) E (k + 1) (by omega)
    · rw [if_neg h3] at E ⊢
      simp only [order_Keys.j2]
      exact E k (by omega)
theorem own_none (kd first b bs : Int) (l p : List Int) (s : ByteArray) (la : Bool) (v : Int) (n : Nat) (hn : n ≤ 1000) (f : Nat → Int) (hf : ∀ i, f i = 3) : ∀ (d i k : Nat), i + d = n → d < k →
    order_Keys.l1 k p true (KS f i) (n : Int) (i : Int) kd s la v l first b bs = some (KS f n) := by
  intro d
  induction d with
  | zero =>
    intro i k hi hk
    obtain ⟨k, rfl⟩ : ∃ q, k = q + 1 := ⟨k - 1, by omega⟩
    have : i = n := by omega
    subst this
    simp only [order_Keys.l1]
    rw [if_neg (by omega)]
  | succ d ih =>
    intro i k hi hk
    obtain ⟨k, rfl⟩ : ∃ q, k = q + 1 := ⟨k - 1, by omega⟩
    have hw : wrap64 ((i : Int) + 1) = ((i + 1 : Nat) : Int) := by rw [wid (by omega) (by omega)]; omega
    have hacc : (KS f i).length < 17592186044416 := by rw [KS_len]; omega
    have e := ih (i + 1) k (by omega) (by omega)
    rw [KS_succ, hf] at e
    simp only [order_Keys.l1]
    rw [hw, if_pos (by omega), if_pos hacc, e]
    simp
theorem own_some (kd first : Int) (l p : List Int) (s : ByteArray) (la : Bool) (v : Int) (b : Nat) (hl : l.length ≤ 1000) (hb : b < l.length) (f : Nat → Int) (hf : ∀ i, f i = keyRef kd first (b : Int) l p i (ownAt l b i)) : ∀ (d i k : Nat), i + d = l.length → d < k →
    order_Keys.l1 k p false (KS f i) (l.length : Int) (i : Int) kd s la v l first (b : Int) ((nb l (l.length - (b + 1)) : Nat) : Int) = some (KS f l.length) := by
  intro d
  induction d with
  | zero =>
    intro i k hi hk
    obtain ⟨k, rfl⟩ : ∃ q, k = q + 1 := ⟨k - 1, by omega⟩
    have : i = l.length := by omega
    subst this
    simp only [order_Keys.l1]
    rw [if_neg (by omega)]
  | succ d ih =>
    intro i k hi hk
    obtain ⟨k, rfl⟩ : ∃ q, k = q + 1 := ⟨k - 1, by omega⟩
    have hw : wrap64 ((i : Int) + 1) = ((i + 1 : Nat) : Int) := by rw [wid (by omega) (by omega)]; omega
    have hacc : (KS f i).length < 17592186044416 := by rw [KS_len]; omega
    have e := ih (i + 1) k (by omega) (by omega)
    rw [KS_succ, hf] at e
    have ok := own_key kd first l p s la v b i hl hb (by omega)
    simp only [order_Keys.l1]
    rw [hw, if_pos (by omega)]
    unfold posOf at ok
    by_cases hp : (i : Int) < (p.length : Int)
    · rw [if_pos hp] at ok ⊢
      rw [if_pos (by omega), if_neg (by decide), ok]
      simp only [Option.bind_some]
      rw [if_pos hacc, e]
    · rw [if_neg hp] at ok ⊢
      rw [if_neg (by decide), ok]
      simp only [Option.bind_some]
      rw [if_pos hacc, e]
theorem own_keys (kd first b : Int) (l p : List Int) (s : ByteArray) (la : Bool) (v : Int) (hl : l.length ≤ 1000) (k : Nat) (hk : 2 * l.length + 100 < k) (hb : -9223372036854775808 ≤ b ∧ b ≤ 9223372036854775807) :
    order_Keys.f k kd s la v l p first b = some (KS (keyAll kd first b l p) l.length) := by
  obtain ⟨k, rfl⟩ : ∃ q, k = q + 3 := ⟨k - 3, by omega⟩
  unfold order_Keys.f
  have nn : ∀ bs : Int, (b < 0 ∨ b ≥ (l.length : Int)) → order_Keys.j0 (k + 3) l p true kd s la v l first b bs = some (KS (keyAll kd first b l p) l.length) := by
    intro bs hn
    simp only [order_Keys.j0]
    rw [order_Keys.l0, if_pos rfl]
    simp only [order_Keys.j2]
    exact own_none kd first b bs l p s la v l.length hl _ (fun i => by unfold keyAll; rw [if_pos hn]) l.length 0 k (by omega) (by omega)
  by_cases h0 : b < 0
  · rw [if_pos h0]; exact nn _ (Or.inl h0)
  · rw [if_neg h0]
    by_cases h1 : b ≥ (l.length : Int)
    · rw [decide_eq_true h1]; exact nn _ (Or.inr h1)
    · rw [decide_eq_false h1]
      obtain ⟨n, rfl⟩ := Int.eq_ofNat_of_zero_le (Int.not_lt.1 h0)
      have hwb : wrap64 ((n : Int) + 1) = ((n + 1 : Nat) : Int) := by rw [wid (by omega) (by omega)]; omega
      rw [hwb]
      simp only [order_Keys.j0]
      refine nuk_go (K := l.length + 2) kd first l p s la v n hl (l.length - (n + 1)) (n + 1) (by omega) ?_ (k + 2) (by omega)
      intro k' hk'
      exact own_some kd first l p s la v n hl (by omega) _ (fun i => by unfold keyAll; rw [if_neg (by omega), Int.toNat_natCast]) l.length 0 k' (by omega) (by omega)
theorem law_go (m : List Int) (kd : Int) (s : ByteArray) (la : Bool) (v : Int) (hm : m.length ≤ 1000) : ∀ (d i k : Nat), i + d = m.length → d < k → reedpenlaw26_OrderKeys.l0 k m (fin v m) (i : Int) kd s la v = some true := by
  have hf := fin_len v m
  intro d
  induction d with
  | zero =>
    intro i k hi hk
    obtain ⟨k, rfl⟩ : ∃ q, k = q + 1 := ⟨k - 1, by omega⟩
    simp only [reedpenlaw26_OrderKeys.l0]
    rw [if_neg (by omega)]
  | succ d ih =>
    intro i k hi hk
    obtain ⟨k, rfl⟩ : ∃ q, k = q + 1 := ⟨k - 1, by omega⟩
    have hw : wrap64 ((i : Int) + 1) = ((i + 1 : Nat) : Int) := by rw [wid (by omega) (by omega)]; omega
    have e := ih (i + 1) k (by omega) (by omega)
    have hv : rd (fin v m) (i : Int) = if rd m (i : Int) = 0 then v else rd m (i : Int) := by
      rw [rd_val _ i (by omega), rd_val m i (by omega)]
      unfold fin
      rw [List.getElem_map]
    simp only [reedpenlaw26_OrderKeys.l0]
    rw [hw, if_pos (by omega), if_pos (by omega), hv]
    by_cases h0 : rd m (i : Int) = 0
    · rw [if_pos h0, if_pos h0, if_pos (by omega), if_pos rfl, e]
    · rw [if_neg h0, if_neg h0, if_pos (by omega), if_pos rfl, e]
theorem i64_of {a : Int} (h : (Lit.int .i64 a).wf = true) : -9223372036854775808 ≤ a ∧ a ≤ 9223372036854775807 := by
  simp only [Lit.wf, IntKind.min, IntKind.max, IntKind.signed, IntKind.bits, Bool.and_eq_true, decide_eq_true_eq, if_true] at h
  omega
theorem OrderKeys : reedpenlaw26_OrderKeys.Pure := by
  intro x l p first b _ _ _ _ hb
  refine ⟨l.length * (l.length + 40) + 2 * l.length + 203, ?_⟩
  unfold reedpenlaw26_OrderKeys.f
  rw [alive26 _ (by omega)]
  simp only [Option.bind_some, if_true]
  by_cases hl : (l.length : Int) > 200
  · rw [if_pos hl]; simp only [reedpenlaw26_OrderKeys.j0, if_true]
  · rw [if_neg hl]
    simp only [reedpenlaw26_OrderKeys.j0]
    by_cases hm : (p.length : Int) > 300
    · rw [decide_eq_true hm, if_pos rfl]
    · rw [decide_eq_false hm, if_neg (by decide)]
      rw [own_keys x.f0 first b l p x.f1 x.f2 x.f3 (by omega) _ (by omega) (i64_of hb)]
      simp only [Option.bind_some]
      have hk := KS_len (keyAll x.f0 first b l p) l.length
      rw [ref_keys x.f0 first b l p x.f1 x.f2 x.f3 (by omega) _ (by omega)]
      generalize KS (keyAll x.f0 first b l p) l.length = m at hk ⊢
      rw [final_f m _ _ _ _ (by omega) _ (by omega)]
      simp only [Option.bind_some]
      rw [ints_f m (by omega) _ (by omega)]
      simp only [Option.bind_some, if_true, reedpenlaw26_OrderKeys.j1]
      have hne : (((fin x.f3 m).length : Int) != (m.length : Int)) = false := by rw [fin_len]; simp
      rw [hne, if_neg (by decide)]
      exact law_go m _ _ _ _ (by omega) m.length 0 _ (by omega) (by omega)
end Go.Proofs.Ytlpikbkdlnocdaa.Pure
