/- How many items go elsewhere is the document's: the plain law behind OrderFirst. Conditions: none but that categories are whole numbers. -/
import Derived.Test.YtlpikbkdlnocdaaSayOrderFirst
import Derived.Test.YtlpikbkdlnocdaaA1
namespace Go.Proofs.Ytlpikbkdlnocdaa.Pure
open Go.RowKit Go.Proofs.Ytlpikbkdlnocdaa.Y Go.Proofs.YtlpikbkdlnocdaaW.PrintWords Go.Proofs.YtlpikbkdlnocdaaW.PrintLast

def ahead2 (l : List Int) : Bool := match l with | a :: b :: _ :: _ => a == 7 && b == 4 | _ => false
def ahead3 (l : List Int) : Bool := match l with | a :: b :: c :: _ :: _ => a == 7 && b == 12 && c == 11 | _ => false
def elsew (kd : Int) (l : List Int) (w : Bool) : Int :=
  if kd = 4 then (if ahead3 l = true then 3 else 0)
  else if kd = 1 ∨ kd = 2 then (if w = true ∧ ahead2 l = true ∧ (l.drop 2).any crv = true then 2 else 0) else 0
theorem w01 : wrap64 (0 + 1) = 1 := by decide +kernel
theorem w12 : wrap64 (1 + 1) = 2 := by decide +kernel
theorem w23 : wrap64 (2 + 1) = 3 := by decide +kernel
theorem rd0 (a : Int) (l : List Int) : rd (a :: l) 0 = a := rfl
theorem rd1 (a b : Int) (l : List Int) : rd (a :: b :: l) 1 = b := rfl
theorem rd2 (a b c : Int) (l : List Int) : rd (a :: b :: c :: l) 2 = c := rfl
theorem begins3 (l : List Int) (k : Nat) (hk : 5 ≤ k) : order_begins.f k l [7, 12, 11] = some (ahead3 l) := by
  obtain ⟨k, rfl⟩ : ∃ q, k = q + 4 := ⟨k - 4, by omega⟩
  unfold order_begins.f
  have hm : ((([7, 12, 11] : List Int).length : Nat) : Int) = 3 := rfl
  rw [hm]
  match l with
  | [] => rfl
  | [a] => rfl
  | [a, b] => rfl
  | [a, b, c] => rfl
  | a :: b :: c :: d :: r =>
    have hl : ((a :: b :: c :: d :: r).length : Int) = (r.length : Int) + 4 := by simp; omega
    rw [if_neg (by rw [hl]; omega)]
    simp only [order_begins.l0, w01, w12, w23, rd0, rd1, rd2, hm]
    rw [if_pos (by decide), if_pos (by decide), if_pos (by decide), if_pos (by rw [hl]; omega)]
    by_cases h0 : a = 7
    · rw [if_pos h0, if_pos (by decide), if_pos (by decide), if_pos (by decide), if_pos (by rw [hl]; omega)]
      by_cases h1 : b = 12
      · rw [if_pos h1, if_pos (by decide), if_pos (by decide), if_pos (by decide), if_pos (by rw [hl]; omega)]
        by_cases h2 : c = 11
        · rw [if_pos h2, if_neg (by decide)]; simp [ahead3, h0, h1, h2]
        · rw [if_neg h2]; simp [ahead3, h2]
      · rw [if_neg h1]; simp [ahead3, h1]
    · rw [if_neg h0]; simp [ahead3, h0]
theorem begins2 (l : List Int) (k : Nat) (hk : 5 ≤ k) : order_begins.f k l [7, 4] = some (ahead2 l) := by
  obtain ⟨k, rfl⟩ : ∃ q, k = q + 4 := ⟨k - 4, by omega⟩
  unfold order_begins.f
  have hm : ((([7, 4] : List Int).length : Nat) : Int) = 2 := rfl
  rw [hm]
  match l with
  | [] => rfl
  | [a] => rfl
  | [a, b] => rfl
  | a :: b :: c :: r =>
    have hl : ((a :: b :: c :: r).length : Int) = (r.length : Int) + 3 := by simp; omega
    rw [if_neg (by rw [hl]; omega)]
    simp only [order_begins.l0, w01, w12, rd0, rd1, hm]
    rw [if_pos (by decide), if_pos (by decide), if_pos (by decide), if_pos (by rw [hl]; omega)]
    by_cases h0 : a = 7
    · rw [if_pos h0, if_pos (by decide), if_pos (by decide), if_pos (by decide), if_pos (by rw [hl]; omega)]
      by_cases h1 : b = 4
      · rw [if_pos h1, if_neg (by decide)]; simp [ahead2, h0, h1]
      · rw [if_neg h1]; simp [ahead2, h1]
    · rw [if_neg h0]; simp [ahead2, h0]
theorem rd_nat (l : List Int) (i : Nat) (h : i < l.length) : rd l (i : Int) = l[i] := by unfold rd; rw [Int.toNat_natCast, List.getD_eq_getElem?_getD, List.getElem?_eq_getElem h]; rfl
theorem own_scan (m : List Int) (hm : m.length ≤ 1000) : ∀ (d j k : Nat), j + d = m.length → d < k → order_Elsewhere.l0 k m (m.length : Int) (j : Int) = some (if (m.drop j).any crv = true then 2 else 0) := by
  intro d
  induction d with
  | zero =>
    intro j k hj hk
    obtain ⟨k, rfl⟩ : ∃ q, k = q + 1 := ⟨k - 1, by omega⟩
    simp only [order_Elsewhere.l0]
    rw [if_neg (by omega), List.drop_eq_nil_of_le (by omega)]
    rfl
  | succ d ih =>
    intro j k hj hk
    obtain ⟨k, rfl⟩ : ∃ q, k = q + 1 := ⟨k - 1, by omega⟩
    have e := ih (j + 1) k (by omega) (by omega)
    have hlt : j < m.length := by omega
    have hw : wrap64 ((j : Int) + 1) = ((j + 1 : Nat) : Int) := by rw [wid (by omega) (by omega)]; omega
    simp only [order_Elsewhere.l0]
    rw [hw, if_pos (by omega), if_pos (by omega), if_pos (by omega), e, rd_nat m j hlt, List.drop_eq_getElem_cons hlt, List.any_cons]
    clear ih e
    generalize (m.drop (j + 1)).any crv = z
    unfold crv
    by_cases h1 : m[j] = 1
    · simp [h1]
    · by_cases h7 : m[j] = 7
      · simp [h7]
      · by_cases h2 : m[j] = 2
        · simp [h2]
        · simp [h1, h7, h2]
theorem ref_scan (l : List Int) (hl : l.length ≤ 1000) : ∀ (d j k : Nat), j + d = l.length → d + 12 < k → reedpenref26_Elsewhere.l0 k (str l) (j : Int) = some (if (l.drop j).any crv = true then 2 else 0) := by
  intro d
  induction d with
  | zero =>
    intro j k hj hk
    obtain ⟨k, rfl⟩ : ∃ q, k = q + 1 := ⟨k - 1, by omega⟩
    simp only [reedpenref26_Elsewhere.l0]
    rw [if_neg (by rw [str_size]; omega), List.drop_eq_nil_of_le (by omega)]
    rfl
  | succ d ih =>
    intro j k hj hk
    obtain ⟨k, rfl⟩ : ∃ q, k = q + 1 := ⟨k - 1, by omega⟩
    have e := ih (j + 1) k (by omega) (by omega)
    have hlt : j < l.length := by omega
    have hw : wrap64 ((j : Int) + 1) = ((j + 1 : Nat) : Int) := by rw [wid (by omega) (by omega)]; omega
    simp only [reedpenref26_Elsewhere.l0]
    rw [hw, if_pos (by rw [str_size]; omega), inCrv l j hlt k (by omega), e, rd_nat l j hlt, List.drop_eq_getElem_cons hlt, List.any_cons]
    simp only [Option.bind_some]
    cases crv l[j] <;> simp
theorem lc7 (a : Int) : lc a = 82 ↔ a = 7 := by rw [show (82 : UInt8) = lc ((7 : Nat) : Int) by decide]; exact lc_inj (by decide)
theorem lc12 (a : Int) : lc a = 71 ↔ a = 12 := by rw [show (71 : UInt8) = lc ((12 : Nat) : Int) by decide]; exact lc_inj (by decide)
theorem lc11 (a : Int) : lc a = 75 ↔ a = 11 := by rw [show (75 : UInt8) = lc ((11 : Nat) : Int) by decide]; exact lc_inj (by decide)
theorem lc4 (a : Int) : lc a = 72 ↔ a = 4 := by rw [show (72 : UInt8) = lc ((4 : Nat) : Int) by decide]; exact lc_inj (by decide)
theorem pre3 (a b c : Int) (r : List Int) : (((str (a :: b :: c :: r)).extract 0 3).toList == ([82, 71, 75] : List UInt8)) = (a == 7 && b == 12 && c == 11) := by
  have h : ((str (a :: b :: c :: r)).extract 0 3).toList = [lc a, lc b, lc c] := by rw [ByteArray.toList_eq, ByteArray.data_extract]; simp [str]
  rw [h, Bool.eq_iff_iff]
  simp [lc7, lc12, lc11, and_assoc]
theorem pre2 (a b : Int) (r : List Int) : (((str (a :: b :: r)).extract 0 2).toList != ([82, 72] : List UInt8)) = !(a == 7 && b == 4) := by
  have h : ((str (a :: b :: r)).extract 0 2).toList = [lc a, lc b] := by rw [ByteArray.toList_eq, ByteArray.data_extract]; simp [str]
  rw [h, bne]
  congr 1
  rw [Bool.eq_iff_iff]
  simp [lc7, lc4]
theorem ownElse (kd : Int) (s : ByteArray) (b : Bool) (v : Int) (l : List Int) (w : Bool) (hl : l.length ≤ 500) (k : Nat) (hk : l.length + 20 < k) : order_Elsewhere.f k kd s b v l w = some (elsew kd l w) := by
  obtain ⟨k, rfl⟩ : ∃ q, k = q + 3 := ⟨k - 3, by omega⟩
  unfold order_Elsewhere.f elsew
  by_cases h4 : kd = 4
  · rw [if_pos h4, if_pos h4, begins3 l _ (by omega)]
    cases ahead3 l <;> rfl
  · rw [if_neg h4, if_neg h4]
    have key : ∀ t : Bool, order_Elsewhere.j0 (k + 3) l w t = some (if t = true ∧ w = true ∧ ahead2 l = true ∧ (l.drop 2).any crv = true then 2 else 0) := by
      intro t
      simp only [order_Elsewhere.j0]
      cases t with
      | false => simp
      | true =>
        cases w with
        | false => simp [order_Elsewhere.j1]
        | true =>
          rw [if_pos rfl, if_pos rfl, begins2 l _ (by omega)]
          simp only [Option.bind_some, order_Elsewhere.j1]
          match l, hl, hk with
          | [], _, _ => rfl
          | [a], _, _ => rfl
          | [a, b], _, _ => rfl
          | a :: b :: c :: r, hl, hk =>
            have hl2 : (2 : Int) ≤ ((a :: b :: c :: r).length : Int) := by simp; omega
            have hd : (a :: b :: c :: r).drop 2 = c :: r := rfl
            have e := own_scan (c :: r) (by simp at hl ⊢; omega) (c :: r).length 0 (k + 1) (by omega) (by simp at hk ⊢; omega)
            rw [hd]
            rw [if_pos hl2]
            have e' : order_Elsewhere.l0 (k + 1) (c :: r) ((c :: r).length : Int) 0 = some (if ((c :: r).drop 0).any crv = true then 2 else 0) := e
            rw [e', List.drop_zero]
            cases ahead2 (a :: b :: c :: r) <;> simp
    by_cases h2 : kd = 2
    · rw [if_pos h2, key, h2]; simp
    · rw [if_neg h2, key]
      by_cases h1 : kd = 1
      · rw [h1]; simp
      · have : (kd == 1) = false := by rw [beq_eq_false_iff_ne]; exact h1
        rw [this, if_neg (show ¬ (kd = 1 ∨ kd = 2) by omega)]; simp
theorem refElse (kd : Int) (s : ByteArray) (b : Bool) (v : Int) (l : List Int) (w : Bool) (hl : l.length ≤ 500) (k : Nat) (hk : l.length + 90 < k) : reedpenref26_Elsewhere.f k kd s b v l w = some (elsew kd l w) := by
  obtain ⟨k, rfl⟩ : ∃ q, k = q + 3 := ⟨k - 3, by omega⟩
  unfold reedpenref26_Elsewhere.f elsew
  rw [letters_f l (by omega) _ (by omega)]
  simp only [Option.bind_some, str_size]
  have done1 : ∀ x, reedpenref26_Elsewhere.j1 (k + 2) x true = some 0 := fun x => by simp [reedpenref26_Elsewhere.j1]
  by_cases h4 : kd = 4
  · subst h4
    rw [if_pos rfl, if_pos rfl]
    have j0f : ∀ x, reedpenref26_Elsewhere.j0 (k + 3) w x false 4 s b v = some 0 := fun x => by
      simp only [reedpenref26_Elsewhere.j0]
      rw [if_neg (by decide), if_neg (by decide), if_neg (by decide), done1]
    match l with
    | [] => rw [if_neg (by simp), j0f]; rfl
    | [a] => rw [if_neg (by simp), j0f]; rfl
    | [a, b'] => rw [if_neg (by simp), j0f]; rfl
    | [a, b', c] => rw [if_neg (by simp), j0f]; rfl
    | a :: b' :: c :: d :: r =>
      rw [if_pos (by simp; omega), if_pos (by decide), if_pos (by simp; omega), pre3]
      cases h : (a == 7 && b' == 12 && c == 11) with
      | false => rw [j0f]; simp only [ahead3, h]; rfl
      | true => simp only [ahead3, h, reedpenref26_Elsewhere.j0]; rfl
  · rw [if_neg h4, if_neg h4]
    have key : (if w = true then (if (l.length : Int) < 3 then (reedpenref26_Elsewhere.j1 (k + 2) (str l) true) else (if 0 ≤ 2 then (if 2 ≤ (l.length : Int) then (reedpenref26_Elsewhere.j1 (k + 2) (str l) (((str l).extract 0 2).toList != ([82, 72] : List UInt8))) else (none)) else (none))) else (reedpenref26_Elsewhere.j1 (k + 2) (str l) true)) = some (if w = true ∧ ahead2 l = true ∧ (l.drop 2).any crv = true then 2 else 0) := by
      cases w with
      | false => rw [if_neg (by decide), done1]; simp
      | true =>
        rw [if_pos rfl]
        match l, hl, hk with
        | [], _, _ => rw [if_pos (by simp), done1]; rfl
        | [a], _, _ => rw [if_pos (by simp), done1]; rfl
        | [a, b'], _, _ => rw [if_pos (by simp), done1]; simp [ahead2]
        | a :: b' :: c :: r, hl, hk =>
          rw [if_neg (by simp; omega), if_pos (by decide), if_pos (by simp; omega), pre2]
          have e := ref_scan (a :: b' :: c :: r) (by omega) (c :: r).length 2 (k + 1) (by simp; omega) (by simp at hk ⊢; omega)
          have e' : reedpenref26_Elsewhere.l0 (k + 1) (str (a :: b' :: c :: r)) 2 = some (if ((a :: b' :: c :: r).drop 2).any crv = true then 2 else 0) := e
          simp only [reedpenref26_Elsewhere.j1]
          rw [e']
          simp only [ahead2]
          generalize (List.drop 2 (a :: b' :: c :: r)).any crv = z
          by_cases ha : a = 7 <;> by_cases hb : b' = 4 <;> simp [ha, hb]
    simp only [reedpenref26_Elsewhere.j0, str_size]
    rw [if_neg (by decide), key, done1]
    by_cases h1 : kd = 1
    · rw [if_pos h1, if_pos (Or.inl h1)]
    · by_cases h2 : kd = 2
      · rw [if_neg h1, if_pos h2, if_pos (Or.inr h2)]
      · rw [if_neg h1, if_neg h2, if_neg (by omega)]
theorem OrderFirst : reedpenlaw26_OrderFirst.Pure := by
  intro x l w _ _
  refine ⟨l.length + 100, ?_⟩
  unfold reedpenlaw26_OrderFirst.f
  rw [alive26 _ (by omega)]
  simp only [Option.bind_some, if_true]
  by_cases hl : (l.length : Int) > 200
  · rw [if_pos hl]
  · rw [if_neg hl, ownElse _ _ _ _ l w (by omega) _ (by omega), refElse _ _ _ _ l w (by omega) _ (by omega)]
    simp
end Go.Proofs.Ytlpikbkdlnocdaa.Pure
