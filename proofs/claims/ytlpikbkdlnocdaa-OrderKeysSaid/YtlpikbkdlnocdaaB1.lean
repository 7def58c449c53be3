/- Plain laws of layer 26: categories as letters. Conditions: at most 1000 categories. -/
import Derived.Test.YtlpikbkdlnocdaaK5
import Derived.Test.YtlpikbkdlnocdaaK6
namespace Go.Proofs.Ytlpikbkdlnocdaa.Pure
open Go.RowKit Go.Proofs.Ytlpikbkdlnocdaa.K Go.Proofs.YtlpikbkdlnocdaaW.PrintWords Go.Proofs.YtlpikbkdlnocdaaW.PrintLast

theorem wid {n : Int} (h0 : -9223372036854775808 ≤ n) (h1 : n ≤ 9223372036854775807) : wrap64 n = n := by unfold wrap64; omega
theorem wid32 {n : Int} (h0 : -2147483648 ≤ n) (h1 : n ≤ 2147483647) : wrap32 n = n := by unfold wrap32; omega
def tab : List UInt8 := [79, 67, 86, 78, 72, 77, 83, 82, 74, 87, 68, 75, 71, 84, 81, 88]
def lc (c : Int) : UInt8 := if 0 ≤ c ∧ c < 16 then tab.getD c.toNat 45 else 45
def catOf (n : Nat) : Int := match reedpenref05_Category.f 20 (65 + (n : Int)) with | some r => r | none => 99
theorem cat_val : ∀ n : Fin 26, reedpenref05_Category.f 20 (65 + (n.val : Int)) = some (catOf n.val) ∧ -1 ≤ catOf n.val ∧ catOf n.val < 16 := by decide +kernel
theorem cat_at (n k : Nat) (hn : n < 26) (hk : 20 ≤ k) : reedpenref05_Category.f k (65 + (n : Int)) = some (catOf n) :=
  at_rounds (reedpenref05_Category.mono _) hk (cat_val ⟨n, hn⟩).1
theorem letter_out (c : Int) (hc : c < 0 ∨ 16 ≤ c) : ∀ (d n k : Nat), n + d = 26 → d + 20 < k → reedpenref05_Letter.l0 k c (65 + (n : Int)) = some (⟨#[]⟩ : ByteArray) := by
  intro d
  induction d with
  | zero =>
    intro n k hn hk
    obtain ⟨k, rfl⟩ : ∃ q, k = q + 1 := ⟨k - 1, by omega⟩
    simp only [reedpenref05_Letter.l0]
    rw [if_neg (by omega)]
  | succ d ih =>
    intro n k hn hk
    obtain ⟨k, rfl⟩ : ∃ q, k = q + 1 := ⟨k - 1, by omega⟩
    have e := ih (n + 1) k (by omega) (by omega)
    have hw : wrap32 (65 + (n : Int) + 1) = 65 + ((n + 1 : Nat) : Int) := by rw [wid32 (by omega) (by omega)]; omega
    have hm : (65 + (n : Int)) % 256 = 65 + (n : Int) := by omega
    simp only [reedpenref05_Letter.l0]
    rw [if_pos (by omega), hw, e, hm, cat_at n k (by omega) (by omega)]
    have h := (cat_val ⟨n, by omega⟩).2
    simp only [Option.bind_some]
    by_cases h0 : c ≥ 0
    · rw [if_pos h0, if_neg (by simp at h; omega)]
    · rw [if_neg h0]
theorem letter_val : ∀ n : Fin 16, (reedpenref05_Letter.f 60 (n.val : Int)).map (fun s => s.data.toList) = some [lc (n.val : Int)] ∧ lc (n.val : Int) ≠ 45 := by decide +kernel
theorem letter_in (c : Int) (h0 : 0 ≤ c) (h1 : c < 16) (k : Nat) (hk : 60 ≤ k) : reedpenref05_Letter.f k c = some (⟨#[lc c]⟩ : ByteArray) := by
  obtain ⟨n, rfl⟩ := Int.eq_ofNat_of_zero_le h0
  have h := (letter_val ⟨n, by omega⟩).1
  refine at_rounds (reedpenref05_Letter.mono _) hk ?_
  obtain ⟨s, hs, he⟩ := Option.map_eq_some_iff.1 h
  rw [hs]
  congr 1
  apply ByteArray.ext
  apply Array.toList_inj.1
  simpa using he
def str (l : List Int) : ByteArray := ⟨(l.map lc).toArray⟩
theorem str_size (l : List Int) : (str l).size = l.length := by simp [str, ByteArray.size]
theorem str_append (l m : List Int) : str l ++ str m = str (l ++ m) := by
  apply ByteArray.ext
  rw [ByteArray.data_append]
  simp [str]
theorem lc_out {c : Int} (h : c < 0 ∨ 16 ≤ c) : lc c = 45 := by unfold lc; rw [if_neg (by omega)]
theorem letters_go (l : List Int) (hl : l.length ≤ 1000) : ∀ (d i k : Nat), i + d = l.length → d + 70 < k → reedpenref26_Letters.l0 k l (str (l.take i)) (i : Int) = some (str l) := by
  intro d
  induction d with
  | zero =>
    intro i k hi hk
    obtain ⟨k, rfl⟩ : ∃ q, k = q + 1 := ⟨k - 1, by omega⟩
    simp only [reedpenref26_Letters.l0]
    rw [if_neg (by omega), List.take_of_length_le (by omega)]
  | succ d ih =>
    intro i k hi hk
    obtain ⟨k, rfl⟩ : ∃ q, k = q + 1 := ⟨k - 1, by omega⟩
    have e := ih (i + 1) k (by omega) (by omega)
    have hw : wrap64 ((i : Int) + 1) = ((i + 1 : Nat) : Int) := by rw [wid (by omega) (by omega)]; omega
    have hlt : i < l.length := by omega
    have hr : rd l (i : Int) = l[i] := by unfold rd; rw [Int.toNat_natCast, List.getD_eq_getElem?_getD, List.getElem?_eq_getElem hlt]; rfl
    have hs : str (l.take i) ++ str [l[i]] = str (l.take (i + 1)) := by rw [str_append, List.take_append_getElem hlt]
    have hz : (str (l.take i)).size + 1 ≤ 9223372036854775807 := by rw [str_size, List.length_take]; omega
    simp only [reedpenref26_Letters.l0]
    rw [hw, if_pos (by omega), if_pos (by omega), hr]
    by_cases hc : 0 ≤ l[i] ∧ l[i] < 16
    · rw [letter_in _ hc.1 hc.2 k (by omega)]
      simp only [Option.bind_some]
      rw [if_neg (by rw [ByteArray.toList_eq]; simp), if_pos (by exact hz)]
      have : (⟨#[lc l[i]]⟩ : ByteArray) = str [l[i]] := rfl
      rw [this, hs, e]
    · have h1 := letter_out l[i] (by omega) 26 0 k (by omega) (by omega)
      have h2 : reedpenref05_Letter.f k l[i] = some (⟨#[]⟩ : ByteArray) := h1
      rw [h2]
      simp only [Option.bind_some]
      rw [if_pos (by rw [ByteArray.toList_eq]), if_pos hz]
      have : (⟨#[45]⟩ : ByteArray) = str [l[i]] := by unfold str; rw [List.map_cons, lc_out (by omega)]; rfl
      rw [this, hs, e]
theorem letters_f (l : List Int) (hl : l.length ≤ 1000) (k : Nat) (hk : l.length + 70 < k) : reedpenref26_Letters.f k l = some (str l) :=
  letters_go l hl l.length 0 k (by omega) hk
theorem bt_str (l : List Int) (i : Nat) (h : i < l.length) : bt (str l) (i : Int) = ((lc (rd l (i : Int))).toNat : Int) := by
  have hr : rd l (i : Int) = l[i] := by unfold rd; rw [Int.toNat_natCast, List.getD_eq_getElem?_getD, List.getElem?_eq_getElem h]; rfl
  rw [hr]
  unfold bt
  rw [dif_pos (by rw [str_size]; exact h)]
  have : ∀ h', (str l)[(i : Int).toNat]'h' = lc l[i] := by
    intro h'
    show (str l).data[i]'(by simpa [str] using h) = lc l[i]
    simp [str]
  rw [this]
theorem in_go (s t : ByteArray) (i : Int) (h0 : 0 ≤ i) (h1 : i < (s.size : Int)) (ht : t.size ≤ 1000) : ∀ (d j k : Nat), j + d = t.size → d < k → reedpenref26_In.l0 k s i t (j : Int) = some (((bytesOf t).drop j).any fun b => b == bt s i) := by
  intro d
  induction d with
  | zero =>
    intro j k hj hk
    obtain ⟨k, rfl⟩ : ∃ q, k = q + 1 := ⟨k - 1, by omega⟩
    simp only [reedpenref26_In.l0]
    rw [if_neg (by omega), List.drop_eq_nil_of_le (by rw [bytesOf_length]; omega)]
    rfl
  | succ d ih =>
    intro j k hj hk
    obtain ⟨k, rfl⟩ : ∃ q, k = q + 1 := ⟨k - 1, by omega⟩
    have e := ih (j + 1) k (by omega) (by omega)
    have hw : wrap64 ((j : Int) + 1) = ((j + 1 : Nat) : Int) := by rw [wid (by omega) (by omega)]; omega
    have hlt : j < (bytesOf t).length := by rw [bytesOf_length]; omega
    have hr : bt t (j : Int) = (bytesOf t)[j] := by rw [← rd_bytesOf]; unfold rd; rw [Int.toNat_natCast, List.getD_eq_getElem?_getD, List.getElem?_eq_getElem hlt]; rfl
    simp only [reedpenref26_In.l0]
    rw [hw, if_pos (by omega), if_pos (by omega), if_pos h0, if_pos h1, e, hr, List.drop_eq_getElem_cons hlt, List.any_cons]
    by_cases hb : (bytesOf t)[j] = bt s i
    · rw [if_pos hb, hb]; simp
    · rw [if_neg hb]; simp [hb]
theorem in_f (s t : ByteArray) (i : Int) (h0 : 0 ≤ i) (h1 : i < (s.size : Int)) (ht : t.size ≤ 1000) (k : Nat) (hk : t.size < k) : reedpenref26_In.f k s i t = some ((bytesOf t).any fun b => b == bt s i) :=
  in_go s t i h0 h1 ht t.size 0 k (by omega) hk
/-- What may be a base. -/
def brs (c : Int) : Bool := c == 1 || c == 7 || c == 2 || c == 10 || c == 14
/-- What stands behind an R that goes elsewhere. -/
def crv (c : Int) : Bool := c == 1 || c == 7 || c == 2
theorem in_tab : ∀ n : Fin 16, ([67, 82, 86, 68, 81] : List Int).any (fun b => b == ((lc (n.val : Int)).toNat : Int)) = brs (n.val : Int) ∧ ([67, 82, 86] : List Int).any (fun b => b == ((lc (n.val : Int)).toNat : Int)) = crv (n.val : Int) := by decide +kernel
theorem in_brs (c : Int) : ([67, 82, 86, 68, 81] : List Int).any (fun b => b == ((lc c).toNat : Int)) = brs c := by
  by_cases h : 0 ≤ c ∧ c < 16
  · obtain ⟨n, rfl⟩ := Int.eq_ofNat_of_zero_le h.1
    exact (in_tab ⟨n, by omega⟩).1
  · rw [lc_out (by omega)]
    have : brs c = false := by unfold brs; simp; omega
    rw [this]; decide
theorem in_crv (c : Int) : ([67, 82, 86] : List Int).any (fun b => b == ((lc c).toNat : Int)) = crv c := by
  by_cases h : 0 ≤ c ∧ c < 16
  · obtain ⟨n, rfl⟩ := Int.eq_ofNat_of_zero_le h.1
    exact (in_tab ⟨n, by omega⟩).2
  · rw [lc_out (by omega)]
    have : crv c = false := by unfold crv; simp; omega
    rw [this]; decide
theorem inBrs (l : List Int) (i : Nat) (h : i < l.length) (k : Nat) (hk : 10 ≤ k) : reedpenref26_In.f k (str l) (i : Int) (⟨#[67, 82, 86, 68, 81]⟩ : ByteArray) = some (brs (rd l (i : Int))) := by
  rw [in_f _ _ _ (by omega) (by rw [str_size]; omega) (by decide) k (by show 5 < k; omega), bt_str l i h]
  exact congrArg some (in_brs _)
theorem inCrv (l : List Int) (i : Nat) (h : i < l.length) (k : Nat) (hk : 10 ≤ k) : reedpenref26_In.f k (str l) (i : Int) (⟨#[67, 82, 86]⟩ : ByteArray) = some (crv (rd l (i : Int))) := by
  rw [in_f _ _ _ (by omega) (by rw [str_size]; omega) (by decide) k (by show 3 < k; omega), bt_str l i h]
  exact congrArg some (in_crv _)
theorem bears_f (c : Int) : order_bears.f c = some (brs c) := by
  unfold order_bears.f brs
  repeat' split
  all_goals simp_all
theorem lc_code : ∀ n : Fin 16, ∀ m : Fin 16, lc (n.val : Int) = lc (m.val : Int) → n = m := by decide +kernel
theorem lc_inj {c : Int} {m : Nat} (hm : m < 16) : lc c = lc (m : Int) ↔ c = (m : Int) := by
  constructor
  · intro h
    by_cases hc : 0 ≤ c ∧ c < 16
    · obtain ⟨n, rfl⟩ := Int.eq_ofNat_of_zero_le hc.1
      have := lc_code ⟨n, by omega⟩ ⟨m, hm⟩ h
      have := congrArg Fin.val this
      simp at this
      omega
    · rw [lc_out (by omega)] at h
      exact absurd h.symm (letter_val ⟨m, hm⟩).2
  · rintro rfl; rfl
theorem alive26 (k : Nat) (hk : 60 ≤ k) : reedpenlaw26_alive.f k = some true :=
  at_rounds reedpenlaw26_alive.mono hk (by decide +kernel)
def fin (v : Int) (l : List Int) : List Int := l.map fun x => if x = 0 then v else x
theorem rd_val (l : List Int) (i : Nat) (h : i < l.length) : rd l (i : Int) = l[i] := by unfold rd; rw [Int.toNat_natCast, List.getD_eq_getElem?_getD, List.getElem?_eq_getElem h]; rfl
theorem final_go (l : List Int) (kd : Int) (s : ByteArray) (b : Bool) (v : Int) (hl : l.length ≤ 1000) : ∀ (d i k : Nat), i + d = l.length → d < k → order_Final.l0 k (fin v (l.take i)) l (l.length : Int) (i : Int) kd s b v = some (fin v l) := by
  intro d
  induction d with
  | zero =>
    intro i k hi hk
    obtain ⟨k, rfl⟩ : ∃ q, k = q + 1 := ⟨k - 1, by omega⟩
    simp only [order_Final.l0]
    rw [if_neg (by omega), List.take_of_length_le (by omega)]
  | succ d ih =>
    intro i k hi hk
    obtain ⟨k, rfl⟩ : ∃ q, k = q + 1 := ⟨k - 1, by omega⟩
    have e := ih (i + 1) k (by omega) (by omega)
    have hw : wrap64 ((i : Int) + 1) = ((i + 1 : Nat) : Int) := by rw [wid (by omega) (by omega)]; omega
    have hlt : i < l.length := by omega
    have hz : (fin v (l.take i)).length < 17592186044416 := by unfold fin; rw [List.length_map, List.length_take]; omega
    have ht : fin v (l.take (i + 1)) = fin v (l.take i) ++ [if l[i] = 0 then v else l[i]] := by unfold fin; rw [← List.take_append_getElem hlt, List.map_append]; rfl
    rw [ht] at e
    simp only [order_Final.l0]
    rw [hw, if_pos (by omega), if_pos (by omega), if_pos (by omega), rd_val l i hlt, if_pos hz, if_pos hz]
    by_cases h0 : l[i] = 0
    · rw [if_pos h0] at e ⊢; exact e
    · rw [if_neg h0] at e ⊢; exact e
theorem final_f (l : List Int) (kd : Int) (s : ByteArray) (b : Bool) (v : Int) (hl : l.length ≤ 1000) (k : Nat) (hk : l.length < k) : order_Final.f k kd s b v l = some (fin v l) :=
  final_go l kd s b v hl l.length 0 k (by omega) hk
theorem ints_go (l : List Int) (hl : l.length ≤ 1000) : ∀ (d i k : Nat), i + d = l.length → d < k → reedpenref01_Ints.l0 k l l (i : Int) = some true := by
  intro d
  induction d with
  | zero =>
    intro i k hi hk
    obtain ⟨k, rfl⟩ : ∃ q, k = q + 1 := ⟨k - 1, by omega⟩
    simp only [reedpenref01_Ints.l0]
    rw [if_neg (by omega)]
  | succ d ih =>
    intro i k hi hk
    obtain ⟨k, rfl⟩ : ∃ q, k = q + 1 := ⟨k - 1, by omega⟩
    have e := ih (i + 1) k (by omega) (by omega)
    have hw : wrap64 ((i : Int) + 1) = ((i + 1 : Nat) : Int) := by rw [wid (by omega) (by omega)]; omega
    simp only [reedpenref01_Ints.l0]
    rw [hw, if_pos (by omega), if_pos (by omega), if_pos (by omega), if_pos trivial, e]
theorem ints_f (l : List Int) (hl : l.length ≤ 1000) (k : Nat) (hk : l.length < k) : reedpenref01_Ints.f k l l = some true := by
  unfold reedpenref01_Ints.f
  rw [if_pos rfl]
  exact ints_go l hl l.length 0 k (by omega) hk
theorem fin_len (v : Int) (l : List Int) : (fin v l).length = l.length := by unfold fin; rw [List.length_map]
end Go.Proofs.Ytlpikbkdlnocdaa.Pure
