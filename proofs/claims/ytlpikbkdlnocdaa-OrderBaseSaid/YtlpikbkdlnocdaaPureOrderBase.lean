/- The base of a syllable is the document's: the plain law behind OrderBase. Conditions: none but that categories and the first place are whole numbers. -/
import Derived.Test.YtlpikbkdlnocdaaSayOrderBase
import Derived.Test.YtlpikbkdlnocdaaA1
namespace Go.Proofs.Ytlpikbkdlnocdaa.Pure
open Go.RowKit Go.Proofs.Ytlpikbkdlnocdaa.Y Go.Proofs.YtlpikbkdlnocdaaW.PrintWords Go.Proofs.YtlpikbkdlnocdaaW.PrintLast

/-- The first that may be a base, of the last d. -/
def fb (l : List Int) : Nat → Int
  | 0 => -1
  | d + 1 => if brs (rd l ((l.length - (d + 1) : Nat) : Int)) = true then ((l.length - (d + 1) : Nat) : Int) else fb l d
def toldOf (m : List Bool) (i : Int) : Bool := decide (i < (m.length : Int)) && rdOf false m i
/-- The last of the last d that may be one and is not told. -/
def lb (l : List Int) (m : List Bool) : Nat → Int
  | 0 => -1
  | d + 1 => if 0 ≤ lb l m d then lb l m d else if brs (rd l ((l.length - (d + 1) : Nat) : Int)) = true ∧ toldOf m ((l.length - (d + 1) : Nat) : Int) = false then ((l.length - (d + 1) : Nat) : Int) else -1
theorem own_first (l : List Int) (m : List Bool) (kd : Int) (s : ByteArray) (v : Int) (hl : l.length ≤ 1000) : ∀ (d i k : Nat), i + d = l.length → d < k → order_Base.l0 k l m (-1) (i : Int) kd s false v = some (fb l d) := by
  intro d
  induction d with
  | zero =>
    intro i k hi hk
    obtain ⟨k, rfl⟩ : ∃ q, k = q + 1 := ⟨k - 1, by omega⟩
    simp only [order_Base.l0]
    rw [if_neg (by omega)]
    rfl
  | succ d ih =>
    intro i k hi hk
    obtain ⟨k, rfl⟩ : ∃ q, k = q + 1 := ⟨k - 1, by omega⟩
    have e := ih (i + 1) k (by omega) (by omega)
    have hw : wrap64 ((i : Int) + 1) = ((i + 1 : Nat) : Int) := by rw [wid (by omega) (by omega)]; omega
    have hp : l.length - (d + 1) = i := by omega
    simp only [order_Base.l0, fb, hp]
    rw [hw, if_pos (by omega), if_pos (by omega), bears_f, e]
    simp only [Option.bind_some]
    cases brs (rd l (i : Int)) <;> simp
theorem own_last (l : List Int) (m : List Bool) (kd : Int) (s : ByteArray) (v : Int) (hl : l.length ≤ 1000) : ∀ (d i k : Nat) (out : Int), i + d = l.length → d < k → order_Base.l0 k l m out (i : Int) kd s true v = some (if 0 ≤ lb l m d then lb l m d else if out < 0 then (if 0 ≤ fb l d then fb l d else out) else out) := by
  intro d
  induction d with
  | zero =>
    intro i k out hi hk
    obtain ⟨k, rfl⟩ : ∃ q, k = q + 1 := ⟨k - 1, by omega⟩
    simp only [order_Base.l0]
    rw [if_neg (by omega)]
    simp [lb, fb]
  | succ d ih =>
    intro i k out hi hk
    obtain ⟨k, rfl⟩ : ∃ q, k = q + 1 := ⟨k - 1, by omega⟩
    have e := fun out => ih (i + 1) k out (by omega) (by omega)
    have hw : wrap64 ((i : Int) + 1) = ((i + 1 : Nat) : Int) := by rw [wid (by omega) (by omega)]; omega
    have hp : l.length - (d + 1) = i := by omega
    simp only [order_Base.l0, fb, lb, hp, toldOf]
    rw [hw, if_pos (by omega), if_pos (by omega), bears_f]
    simp only [Option.bind_some, e, if_true]
    clear e ih hw
    generalize lb l m d = L
    generalize fb l d = F
    have i0 : (0 : Int) ≤ (i : Int) := by omega
    have i1 : ¬ (i : Int) < 0 := by omega
    cases brs (rd l (i : Int)) with
    | false => by_cases h0 : 0 ≤ L <;> by_cases h1 : out < 0 <;> by_cases h2 : 0 ≤ F <;> simp [h0, h1, h2]
    | true =>
      cases rdOf false m (i : Int) <;> by_cases h0 : 0 ≤ L <;> by_cases h1 : out < 0 <;> by_cases h2 : (i : Int) < (m.length : Int) <;> simp [h0, h1, h2, i0, i1] <;> omega
theorem ref_go (l : List Int) (m : List Bool) (kd : Int) (s : ByteArray) (b : Bool) (v : Int) (hl : l.length ≤ 1000) (first : Nat) : ∀ (n d k : Nat), first + n + d = l.length → n + 12 < k →
    reedpenref26_Base.l0 k (first : Int) m (str l) (fb l d) (lb l m d) ((first : Int) + (n : Int) - 1) kd s b v = some (if b = true then (if 0 ≤ lb l m (n + d) then lb l m (n + d) else fb l (n + d)) else fb l (n + d)) := by
  intro n
  induction n with
  | zero =>
    intro d k hi hk
    obtain ⟨k, rfl⟩ : ∃ q, k = q + 1 := ⟨k - 1, by omega⟩
    simp only [reedpenref26_Base.l0]
    rw [if_neg (by omega)]
    simp only [Nat.zero_add]
    by_cases h : b = true
    · rw [if_pos h, if_pos h]
      by_cases h0 : 0 ≤ lb l m d
      · rw [if_pos h0, if_pos h0]
      · rw [if_neg h0, if_neg h0]
    · rw [if_neg h, if_neg h]
  | succ n ih =>
    intro d k hi hk
    obtain ⟨k, rfl⟩ : ∃ q, k = q + 1 := ⟨k - 1, by omega⟩
    have e := ih (d + 1) k (by omega) (by omega)
    have hx : ((first : Int) + ((n + 1 : Nat) : Int) - 1) = ((first + n : Nat) : Int) := by omega
    have hw : wrap64 (((first + n : Nat) : Int) - 1) = (first : Int) + (n : Int) - 1 := by rw [wid (by omega) (by omega)]; omega
    have hp : l.length - (d + 1) = first + n := by omega
    have hq : n + 1 + d = n + (d + 1) := by omega
    rw [hx, hq]
    simp only [reedpenref26_Base.l0]
    rw [hw, if_pos (by omega), inBrs l (first + n) (by omega) k (by omega)]
    simp only [Option.bind_some]
    rw [← e]
    clear e ih hw hx
    simp only [fb, lb, hp, toldOf]
    generalize first + n = i at *
    have i0 : (0 : Int) ≤ (i : Int) := by omega
    have i1 : ¬ (i : Int) < 0 := by omega
    have lbn : ∀ d, lb l m d = -1 ∨ 0 ≤ lb l m d := by
      intro d
      induction d with
      | zero => exact Or.inl rfl
      | succ d ih =>
        simp only [lb]
        rcases ih with h | h
        · rw [if_neg (by omega)]; split <;> omega
        · rw [if_pos h]; exact Or.inr h
    have hL := lbn d
    generalize lb l m d = L at *
    generalize fb l d = F
    cases brs (rd l (i : Int)) with
    | false =>
      rcases hL with h | h
      · subst h; simp
      · have h' : ¬ L < 0 := by omega
        simp [h]
    | true =>
      rcases hL with h | h
      · subst h
        cases rdOf false m (i : Int) <;> by_cases h2 : (i : Int) < (m.length : Int) <;> simp [h2, i0]
      · have h' : ¬ L < 0 := by omega
        cases rdOf false m (i : Int) <;> by_cases h2 : (i : Int) < (m.length : Int) <;> simp [h, h', h2, i0]
theorem lb_fb (l : List Int) : ∀ d, 0 ≤ fb l d ∨ fb l d = -1 := by
  intro d
  induction d with
  | zero => exact Or.inr rfl
  | succ d ih => simp only [fb]; split <;> omega
theorem base_eq (l : List Int) (m : List Bool) (kd : Int) (s : ByteArray) (b : Bool) (v : Int) (first : Int) (hl : l.length ≤ 300) (k : Nat) (hk : l.length + 90 < k) :
    ∃ r, order_Base.f k kd s b v l first m = some r ∧ reedpenref26_Base.f k kd s b v l first m = some r := by
  obtain ⟨k, rfl⟩ : ∃ q, k = q + 1 := ⟨k - 1, by omega⟩
  unfold order_Base.f reedpenref26_Base.f
  rw [letters_f l (by omega) _ (by omega)]
  simp only [Option.bind_some, str_size]
  by_cases h0 : first < 0
  · rw [if_pos h0, if_pos h0]
    exact ⟨-1, rfl, by simp [reedpenref26_Base.j0]⟩
  · rw [if_neg h0, if_neg h0]
    by_cases h1 : first > (l.length : Int)
    · rw [if_pos h1]
      exact ⟨-1, rfl, by simp [reedpenref26_Base.j0, h1]⟩
    · rw [if_neg h1, decide_eq_false h1]
      obtain ⟨n, rfl⟩ := Int.eq_ofNat_of_zero_le (Int.not_lt.1 h0)
      have hw : wrap64 ((l.length : Int) - 1) = (n : Int) + ((l.length - n : Nat) : Int) - 1 := by rw [wid (by omega) (by omega)]; omega
      have e := ref_go l m kd s b v (by omega) n (l.length - n) 0 k (by omega) (by omega)
      have e' : reedpenref26_Base.l0 k (n : Int) m (str l) (-1) (-1) ((n : Int) + ((l.length - n : Nat) : Int) - 1) kd s b v = _ := e
      refine ⟨if b = true then (if 0 ≤ lb l m (l.length - n + 0) then lb l m (l.length - n + 0) else fb l (l.length - n + 0)) else fb l (l.length - n + 0), ?_, ?_⟩
      rotate_left
      · simp only [reedpenref26_Base.j0, str_size, Bool.false_eq_true, if_false]
        rw [hw, e']
      · cases b with
        | false =>
          rw [own_first l m kd s v (by omega) (l.length - n) n (k + 1) (by omega) (by omega)]
          simp
        | true =>
          rw [own_last l m kd s v (by omega) (l.length - n) n (k + 1) (-1) (by omega) (by omega)]
          simp only [Nat.add_zero, if_true]
          by_cases hL : 0 ≤ lb l m (l.length - n)
          · rw [if_pos hL, if_pos hL]
          · rw [if_neg hL, if_neg hL, if_pos (by omega)]
            rcases lb_fb l (l.length - n) with h | h
            · rw [if_pos h]
            · rw [if_neg (by omega), h]
theorem OrderBase : reedpenlaw26_OrderBase.Pure := by
  intro x l first m _ _ _ _
  refine ⟨l.length + 101, ?_⟩
  unfold reedpenlaw26_OrderBase.f
  rw [alive26 _ (by omega)]
  simp only [Option.bind_some, if_true]
  by_cases hl : (l.length : Int) > 200
  · rw [if_pos hl]; simp only [reedpenlaw26_OrderBase.j0, if_true]
  · rw [if_neg hl]
    simp only [reedpenlaw26_OrderBase.j0]
    by_cases hm : (m.length : Int) > 300
    · rw [decide_eq_true hm, if_pos rfl]
    · rw [decide_eq_false hm, if_neg (by decide)]
      obtain ⟨r, h1, h2⟩ := base_eq l m x.f0 x.f1 x.f2 x.f3 first (by omega) (l.length + 100) (by omega)
      rw [h1, h2]
      simp
end Go.Proofs.Ytlpikbkdlnocdaa.Pure
