/- Plain laws of layer 26: keys of items, by the program and by the reference. Conditions: at most 1000 categories. -/
import Derived.Test.YtlpikbkdlnocdaaB1
import Derived.Test.YtlpikbkdlnocdaaK7
namespace Go.Proofs.Ytlpikbkdlnocdaa.Pure
open Go.RowKit Go.Proofs.Ytlpikbkdlnocdaa.K Go.Proofs.YtlpikbkdlnocdaaW.PrintWords Go.Proofs.YtlpikbkdlnocdaaW.PrintLast

/-! ### letters as numbers -/
theorem lcn {c : Int} (m : Nat) (hm : m < 16) : (((lc c).toNat : Nat) : Int) = (((lc (m : Int)).toNat : Nat) : Int) ↔ c = (m : Int) := by
  rw [← lc_inj hm]
  constructor
  · intro h; exact UInt8.toNat_inj.1 (by omega)
  · intro h; rw [h]
theorem bK (l : List Int) (i : Nat) (h : i < l.length) : bt (str l) (i : Int) = 75 ↔ rd l (i : Int) = 11 := by rw [bt_str l i h]; exact lcn 11 (by decide)
theorem bR (l : List Int) (i : Nat) (h : i < l.length) : bt (str l) (i : Int) = 82 ↔ rd l (i : Int) = 7 := by rw [bt_str l i h]; exact lcn 7 (by decide)
theorem bS (l : List Int) (i : Nat) (h : i < l.length) : bt (str l) (i : Int) = 83 ↔ rd l (i : Int) = 6 := by rw [bt_str l i h]; exact lcn 6 (by decide)
theorem bM (l : List Int) (i : Nat) (h : i < l.length) : bt (str l) (i : Int) = 77 ↔ rd l (i : Int) = 5 := by rw [bt_str l i h]; exact lcn 5 (by decide)
theorem bT (l : List Int) (i : Nat) (h : i < l.length) : bt (str l) (i : Int) = 84 ↔ rd l (i : Int) = 13 := by rw [bt_str l i h]; exact lcn 13 (by decide)
theorem bN (l : List Int) (i : Nat) (h : i < l.length) : bt (str l) (i : Int) = 78 ↔ rd l (i : Int) = 3 := by rw [bt_str l i h]; exact lcn 3 (by decide)
def tgx (c : Int) : Bool := c == 13 || c == 12 || c == 15
theorem tgx_tab : ∀ n : Fin 16, ([84, 71, 88] : List Int).any (fun b => b == ((lc (n.val : Int)).toNat : Int)) = tgx (n.val : Int) := by decide +kernel
theorem in_tgx (c : Int) : ([84, 71, 88] : List Int).any (fun b => b == ((lc c).toNat : Int)) = tgx c := by
  by_cases h : 0 ≤ c ∧ c < 16
  · obtain ⟨n, rfl⟩ := Int.eq_ofNat_of_zero_le h.1
    exact tgx_tab ⟨n, by omega⟩
  · rw [lc_out (by omega)]
    have : tgx c = false := by unfold tgx; simp; omega
    rw [this]; decide
theorem inTgx (l : List Int) (i : Nat) (h : i < l.length) (k : Nat) (hk : 10 ≤ k) : reedpenref26_In.f k (str l) (i : Int) (⟨#[84, 71, 88]⟩ : ByteArray) = some (tgx (rd l (i : Int))) := by
  rw [in_f _ _ _ (by omega) (by rw [str_size]; omega) (by decide) k (by show 3 < k; omega), bt_str l i h]
  exact congrArg some (in_tgx _)

/-! ### where the base ends -/
/-- The first place among the last d where no N stands. -/
def nb (l : List Int) : Nat → Nat
  | 0 => l.length
  | d + 1 => if rd l ((l.length - (d + 1) : Nat) : Int) = 3 then nb l d else l.length - (d + 1)
theorem nb_le (l : List Int) : ∀ d, nb l d ≤ l.length ∧ l.length - d ≤ nb l d := by
  intro d
  induction d with
  | zero => exact ⟨Nat.le_refl _, by simp [nb]⟩
  | succ d ih => simp only [nb]; split <;> omega

/-! ### an item's key -/
def posOf (p : List Int) (i : Nat) : Int := if (i : Int) < (p.length : Int) then rd p (i : Int) else 0
def subj (l : List Int) (b : Int) (i : Nat) : Bool :=
  (rd l (i : Int) == 11 && decide ((i : Int) > b) && decide ((i : Int) + 1 < (l.length : Int)) && rd l (i + 1 : Nat) == 7) || (rd l (i : Int) == 7 && decide ((i : Int) - 1 > b) && rd l ((i : Int) - 1) == 11)
def fin1 (kd first : Int) (i : Nat) (key : Int) : Int := if (i : Int) < first then (if kd = 4 then 4 else 0) else key
def key10 (pos key : Int) : Int := if pos = 2 then (if pos = 3 then 7 else 6) else if pos = 3 then 7 else key
def key9 (b : Bool) (pos key : Int) : Int := if b = true then (if pos = 1 then key10 pos 1 else key10 pos 8) else key
def key8 (c pos key : Int) : Int := if c = 6 then 9 else if c = 5 then key9 true pos key else if c = 13 then key9 (pos == 1) pos key else key9 false pos key
def key7 (b : Bool) (key : Int) : Int := if b = true then 2 else key
def keyRef (kd first b : Int) (l p : List Int) (i : Nat) (own : Bool) : Int :=
  fin1 kd first i (key8 (rd l (i : Int)) (posOf p i) (key7 (kd == 3 && subj l b i) (if own = true then 3 else if (i : Int) < b then 2 else if tgx (rd l (i : Int)) = true then 4 else 5)))
/-- A base of n items has own items from it to where they end. -/
def ownAt (l : List Int) (b i : Nat) : Bool := decide (b ≤ i) && decide (i < nb l (l.length - (b + 1)))

/-! ### the reference -/
section
variable {p : List Int} {first : Int} {b : Int} {l : List Int} {acc : List Int} {i : Nat} {kd : Int} {s : ByteArray} {la : Bool} {v : Int} {r : List Int} {K : Nat}
theorem r11 (key : Int) (hacc : acc.length < 17592186044416) (hi : wrap64 ((i : Int) + 1) = ((i + 1 : Nat) : Int))
    (E : ∀ k, K ≤ k → reedpenref26_Keys.l0 k p first b (str l) (acc ++ [fin1 kd first i key]) ((i + 1 : Nat) : Int) kd s la v = some r) (k : Nat) (hk : K + 1 ≤ k) :
    reedpenref26_Keys.j11 k p first b (str l) acc (i : Int) key kd s la v = some r := by
  obtain ⟨k, rfl⟩ : ∃ q, k = q + 1 := ⟨k - 1, by omega⟩
  have e := E k (by omega)
  unfold fin1 at e
  simp only [reedpenref26_Keys.j11]
  rw [hi, if_pos hacc, if_pos hacc, if_pos hacc]
  by_cases h1 : (i : Int) < first
  · rw [if_pos h1] at e ⊢
    by_cases h2 : kd = 4
    · rw [if_pos h2] at e ⊢; exact e
    · rw [if_neg h2] at e ⊢; exact e
  · rw [if_neg h1] at e ⊢; exact e
theorem r10 (pos key : Int) (hacc : acc.length < 17592186044416) (hi : wrap64 ((i : Int) + 1) = ((i + 1 : Nat) : Int))
    (E : ∀ k, K ≤ k → reedpenref26_Keys.l0 k p first b (str l) (acc ++ [fin1 kd first i (key10 pos key)]) ((i + 1 : Nat) : Int) kd s la v = some r) (k : Nat) (hk : K + 2 ≤ k) :
    reedpenref26_Keys.j10 k p first b (str l) acc (i : Int) pos key kd s la v = some r := by
  obtain ⟨k, rfl⟩ : ∃ q, k = q + 1 := ⟨k - 1, by omega⟩
  unfold key10 at E
  simp only [reedpenref26_Keys.j10]
  by_cases h2 : pos = 2
  · rw [if_pos h2] at E ⊢
    by_cases h3 : pos = 3
    · rw [if_pos h3] at E ⊢; exact r11 _ hacc hi E k (by omega)
    · rw [if_neg h3] at E ⊢; exact r11 _ hacc hi E k (by omega)
  · rw [if_neg h2] at E ⊢
    by_cases h3 : pos = 3
    · rw [if_pos h3] at E ⊢; exact r11 _ hacc hi E k (by omega)
    · rw [if_neg h3] at E ⊢; exact r11 _ hacc hi E k (by omega)
theorem r9 (x : Bool) (pos key : Int) (hacc : acc.length < 17592186044416) (hi : wrap64 ((i : Int) + 1) = ((i + 1 : Nat) : Int))
    (E : ∀ k, K ≤ k → reedpenref26_Keys.l0 k p first b (str l) (acc ++ [fin1 kd first i (key9 x pos key)]) ((i + 1 : Nat) : Int) kd s la v = some r) (k : Nat) (hk : K + 3 ≤ k) :
    reedpenref26_Keys.j9 k p first b (str l) acc (i : Int) pos key x kd s la v = some r := by
  obtain ⟨k, rfl⟩ : ∃ q, k = q + 1 := ⟨k - 1, by omega⟩
  unfold key9 at E
  simp only [reedpenref26_Keys.j9]
  by_cases hx : x = true
  · rw [if_pos hx] at E ⊢
    by_cases h1 : pos = 1
    · rw [if_pos h1] at E ⊢; exact r10 _ _ hacc hi E k (by omega)
    · rw [if_neg h1] at E ⊢; exact r10 _ _ hacc hi E k (by omega)
  · rw [if_neg hx] at E ⊢; exact r11 _ hacc hi E k (by omega)
theorem r8 (pos key : Int) (hil : i < l.length) (hacc : acc.length < 17592186044416) (hi : wrap64 ((i : Int) + 1) = ((i + 1 : Nat) : Int))
    (E : ∀ k, K ≤ k → reedpenref26_Keys.l0 k p first b (str l) (acc ++ [fin1 kd first i (key8 (rd l (i : Int)) pos key)]) ((i + 1 : Nat) : Int) kd s la v = some r) (k : Nat) (hk : K + 4 ≤ k) :
    reedpenref26_Keys.j8 k p first b (str l) acc (i : Int) pos key kd s la v = some r := by
  obtain ⟨k, rfl⟩ : ∃ q, k = q + 1 := ⟨k - 1, by omega⟩
  unfold key8 at E
  simp only [reedpenref26_Keys.j8]
  rw [if_pos (by omega), if_pos (by rw [str_size]; omega)]
  simp only [bS l i hil, bM l i hil, bT l i hil]
  by_cases h6 : rd l (i : Int) = 6
  · rw [if_pos h6] at E ⊢; exact r11 _ hacc hi E k (by omega)
  · rw [if_neg h6] at E ⊢
    by_cases h5 : rd l (i : Int) = 5
    · rw [if_pos h5] at E ⊢; exact r9 _ _ _ hacc hi E k (by omega)
    · rw [if_neg h5] at E ⊢
      by_cases h13 : rd l (i : Int) = 13
      · rw [if_pos h13] at E ⊢; exact r9 _ _ _ hacc hi E k (by omega)
      · rw [if_neg h13] at E ⊢; exact r9 _ _ _ hacc hi E k (by omega)
theorem r7 (x : Bool) (pos key : Int) (hil : i < l.length) (hacc : acc.length < 17592186044416) (hi : wrap64 ((i : Int) + 1) = ((i + 1 : Nat) : Int))
    (E : ∀ k, K ≤ k → reedpenref26_Keys.l0 k p first b (str l) (acc ++ [fin1 kd first i (key8 (rd l (i : Int)) pos (key7 x key))]) ((i + 1 : Nat) : Int) kd s la v = some r) (k : Nat) (hk : K + 5 ≤ k) :
    reedpenref26_Keys.j7 k p first b (str l) acc (i : Int) pos key x kd s la v = some r := by
  obtain ⟨k, rfl⟩ : ∃ q, k = q + 1 := ⟨k - 1, by omega⟩
  unfold key7 at E
  simp only [reedpenref26_Keys.j7]
  by_cases hx : x = true
  · rw [if_pos hx] at E ⊢; exact r8 _ _ hil hacc hi E k (by omega)
  · rw [if_neg hx] at E ⊢; exact r8 _ _ hil hacc hi E k (by omega)
theorem r6 (pos key : Int) (b0 : 0 ≤ b) (hl : l.length ≤ 1000) (hil : i < l.length) (hacc : acc.length < 17592186044416) (hi : wrap64 ((i : Int) + 1) = ((i + 1 : Nat) : Int))
    (E : ∀ k, K ≤ k → reedpenref26_Keys.l0 k p first b (str l) (acc ++ [fin1 kd first i (key8 (rd l (i : Int)) pos (key7 (kd == 3 && subj l b i) key))]) ((i + 1 : Nat) : Int) kd s la v = some r) (k : Nat) (hk : K + 6 ≤ k) :
    reedpenref26_Keys.j6 k p first b (str l) acc (i : Int) pos key kd s la v = some r := by
  obtain ⟨k, rfl⟩ : ∃ q, k = q + 1 := ⟨k - 1, by omega⟩
  have hm : wrap64 ((i : Int) - 1) = (i : Int) - 1 := wid (by omega) (by omega)
  simp only [reedpenref26_Keys.j6]
  rw [hi, hm]
  by_cases hkd : kd = 3
  · have e3 : (kd == 3) = true := by rw [beq_iff_eq]; exact hkd
    rw [e3, Bool.true_and] at E
    rw [if_pos hkd, if_pos (show (0 : Int) ≤ (i : Int) by omega), if_pos (show (i : Int) < ((str l).size : Int) by rw [str_size]; omega)]
    simp only [bK l i hil, bR l i hil, str_size]
    by_cases hK : rd l (i : Int) = 11
    · have h7 : ¬ rd l (i : Int) = 7 := by omega
      simp only [if_pos hK, if_neg h7]
      by_cases h1 : (i : Int) > b
      · rw [if_pos h1]
        by_cases h2 : ((i + 1 : Nat) : Int) < (l.length : Int)
        · rw [if_pos h2, if_pos (show (0 : Int) ≤ ((i + 1 : Nat) : Int) by omega)]
          have h3 := bR l (i + 1) (by omega)
          by_cases h4 : rd l ((i + 1 : Nat) : Int) = 7
          · rw [if_pos (h3.2 h4)]
            have h4' : rd l ((i : Int) + 1) = 7 := by simpa using h4
            have : subj l b i = true := by unfold subj; simp [hK, h4']; omega
            rw [this] at E
            exact r7 _ _ _ hil hacc hi E k (by omega)
          · rw [if_neg (fun h => h4 (h3.1 h))]
            have : subj l b i = false := by unfold subj; simp [hK]; intro _ _; simpa using h4
            rw [this] at E
            exact r7 _ _ _ hil hacc hi E k (by omega)
        · rw [if_neg h2]
          have : subj l b i = false := by unfold subj; simp [hK]; intro _ _; omega
          rw [this] at E
          exact r7 _ _ _ hil hacc hi E k (by omega)
      · rw [if_neg h1]
        have : subj l b i = false := by unfold subj; simp [hK]; intro _; omega
        rw [this] at E
        exact r7 _ _ _ hil hacc hi E k (by omega)
    · rw [if_neg hK]
      by_cases h7 : rd l (i : Int) = 7
      · rw [if_pos h7]
        by_cases h1 : (i : Int) - 1 > b
        · obtain ⟨j, hj⟩ : ∃ j : Nat, (i : Int) - 1 = (j : Int) := ⟨i - 1, by omega⟩
          rw [if_pos h1, if_pos (by omega), if_pos (by omega)]
          have h3 := bK l j (by omega)
          rw [hj]
          have : (bt (str l) (j : Int) == 75) = subj l b i := by
            unfold subj
            rw [hj, Bool.eq_iff_iff]
            have h1' : b < (j : Int) := by omega
            simp [h7, h1', h3]
          rw [this]
          exact r7 _ _ _ hil hacc hi E k (by omega)
        · rw [if_neg h1]
          have : subj l b i = false := by unfold subj; simp [h7]; intro _; omega
          rw [this] at E
          exact r7 _ _ _ hil hacc hi E k (by omega)
      · rw [if_neg h7]
        have : subj l b i = false := by unfold subj; simp [h7, hK]
        rw [this] at E
        exact r7 _ _ _ hil hacc hi E k (by omega)
  · have e3 : (kd == 3) = false := by rw [beq_eq_false_iff_ne]; exact hkd
    rw [e3, Bool.false_and] at E
    rw [if_neg hkd]
    exact r7 _ _ _ hil hacc hi E k (by omega)
theorem r4 (pos key : Int) (own : Bool) (b0 : 0 ≤ b) (hl : l.length ≤ 1000) (hil : i < l.length) (hacc : acc.length < 17592186044416) (hi : wrap64 ((i : Int) + 1) = ((i + 1 : Nat) : Int))
    (E : ∀ k, K ≤ k → reedpenref26_Keys.l0 k p first b (str l) (acc ++ [fin1 kd first i (key8 (rd l (i : Int)) pos (key7 (kd == 3 && subj l b i) (if own = true then 3 else if (i : Int) < b then 2 else key)))]) ((i + 1 : Nat) : Int) kd s la v = some r) (k : Nat) (hk : K + 8 ≤ k) :
    reedpenref26_Keys.j4 k p first b (str l) acc (i : Int) pos own key kd s la v = some r := by
  obtain ⟨k, rfl⟩ : ∃ q, k = q + 2 := ⟨k - 2, by omega⟩
  simp only [reedpenref26_Keys.j4, reedpenref26_Keys.j5]
  by_cases ho : own = true
  · simp only [if_pos ho] at E ⊢
    split <;> exact r6 _ _ b0 hl hil hacc hi E k (by omega)
  · simp only [if_neg ho] at E ⊢
    by_cases h2 : (i : Int) < b
    · rw [if_pos h2] at E ⊢; exact r6 _ _ b0 hl hil hacc hi E k (by omega)
    · rw [if_neg h2] at E ⊢; exact r6 _ _ b0 hl hil hacc hi E k (by omega)
end
end Go.Proofs.Ytlpikbkdlnocdaa.Pure
