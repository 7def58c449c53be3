/- In the end nothing has the key of what goes elsewhere: the plain law behind OrderEnds. Conditions: none but that keys are whole numbers. -/
import Derived.Test.YtlpikbkdlnocdaaY10
import Derived.Test.YtlpikbkdlnocdaaA1
namespace Go.Proofs.Ytlpikbkdlnocdaa.Pure
open Go.RowKit Go.Proofs.Ytlpikbkdlnocdaa.Y Go.Proofs.YtlpikbkdlnocdaaW.PrintWords Go.Proofs.YtlpikbkdlnocdaaW.PrintLast

def fin (v : Int) (l : List Int) : List Int := l.map fun x => if x = 0 then v else x
theorem rd_val (l : List Int) (i : Nat) (h : i < l.length) : rd l (i : Int) = l[i] := by unfold rd; rw [Int.toNat_natCast, List.getD_eq_getElem?_getD, List.getElem?_eq_getElem h]; rfl
theorem final_go (l : List Int) (kd : Int) (s : ByteArray) (b : Bool) (v : Int) (hl : l.length ≤ 1000) : ∀ (d i k : Nat), i + d = l.length → d < k → order_Final.l0 k (fin v (l.take i)) l (l.length : Int) (i : Int) kd s b v = some (fin v l) := by
  intro d
  induction d with
  | zero =>
    intro i k hi hk
    obtain ⟨k, rfl⟩ : ∃ q, k = q + 1 := ⟨k - 1, by omega⟩
    simp only [order_Final.l0]
    rw [if_neg (by omega), List.take_of_length_le (by omega)]
  | succ d ih =>
    intro i k hi hk
    obtain ⟨k, rfl⟩ : ∃ q, k = q + 1 := ⟨k - 1, by omega⟩
    have e := ih (i + 1) k (by omega) (by omega)
    have hw : wrap64 ((i : Int) + 1) = ((i + 1 : Nat) : Int) := by rw [wid (by omega) (by omega)]; omega
    have hlt : i < l.length := by omega
    have hz : (fin v (l.take i)).length < 17592186044416 := by unfold fin; rw [List.length_map, List.length_take]; omega
    have ht : fin v (l.take (i + 1)) = fin v (l.take i) ++ [if l[i] = 0 then v else l[i]] := by unfold fin; rw [← List.take_append_getElem hlt, List.map_append]; rfl
    rw [ht] at e
    simp only [order_Final.l0]
    rw [hw, if_pos (by omega), if_pos (by omega), if_pos (by omega), rd_val l i hlt, if_pos hz, if_pos hz]
    by_cases h0 : l[i] = 0
    · rw [if_pos h0] at e ⊢; exact e
    · rw [if_neg h0] at e ⊢; exact e
theorem final_f (l : List Int) (kd : Int) (s : ByteArray) (b : Bool) (v : Int) (hl : l.length ≤ 1000) (k : Nat) (hk : l.length < k) : order_Final.f k kd s b v l = some (fin v l) :=
  final_go l kd s b v hl l.length 0 k (by omega) hk
theorem ints_go (l : List Int) (hl : l.length ≤ 1000) : ∀ (d i k : Nat), i + d = l.length → d < k → reedpenref01_Ints.l0 k l l (i : Int) = some true := by
  intro d
  induction d with
  | zero =>
    intro i k hi hk
    obtain ⟨k, rfl⟩ : ∃ q, k = q + 1 := ⟨k - 1, by omega⟩
    simp only [reedpenref01_Ints.l0]
    rw [if_neg (by omega)]
  | succ d ih =>
    intro i k hi hk
    obtain ⟨k, rfl⟩ : ∃ q, k = q + 1 := ⟨k - 1, by omega⟩
    have e := ih (i + 1) k (by omega) (by omega)
    have hw : wrap64 ((i : Int) + 1) = ((i + 1 : Nat) : Int) := by rw [wid (by omega) (by omega)]; omega
    simp only [reedpenref01_Ints.l0]
    rw [hw, if_pos (by omega), if_pos (by omega), if_pos (by omega), if_pos trivial, e]
theorem ints_f (l : List Int) (hl : l.length ≤ 1000) (k : Nat) (hk : l.length < k) : reedpenref01_Ints.f k l l = some true := by
  unfold reedpenref01_Ints.f
  rw [if_pos rfl]
  exact ints_go l hl l.length 0 k (by omega) hk
theorem fin_len (v : Int) (l : List Int) : (fin v l).length = l.length := by unfold fin; rw [List.length_map]
theorem fin_ne {v : Int} (hv : v ≠ 0) (l : List Int) : ∀ x ∈ fin v l, x ≠ 0 := by
  intro x hx
  obtain ⟨y, _, rfl⟩ := List.mem_map.1 hx
  split <;> assumption
theorem fin_fin {v : Int} (hv : v ≠ 0) (l : List Int) : fin v (fin v l) = fin v l := by
  have h := fin_ne hv l
  unfold fin at h ⊢
  generalize l.map (fun x => if x = 0 then v else x) = m at h ⊢
  induction m with
  | nil => rfl
  | cons a m ih =>
    rw [List.map_cons, if_neg (h a (by simp)), ih (fun x hx => h x (by simp [hx]))]
theorem ends_go (l : List Int) (kd : Int) (s : ByteArray) (b : Bool) {v : Int} (hv : v ≠ 0) (hl : l.length ≤ 1000) : ∀ (d i k : Nat), i + d = l.length → d + l.length + 3 < k → reedpenlaw26_OrderEnds.l0 k l (fin v l) (i : Int) kd s b v = some true := by
  have hf := fin_len v l
  intro d
  induction d with
  | zero =>
    intro i k hi hk
    obtain ⟨k, rfl⟩ : ∃ q, k = q + 1 := ⟨k - 1, by omega⟩
    simp only [reedpenlaw26_OrderEnds.l0]
    rw [if_neg (by omega), if_pos (by omega), final_f _ _ _ _ _ (by omega) k (by omega), fin_fin hv]
    simp only [Option.bind_some]
    rw [ints_f _ (by omega) k (by omega)]
    rfl
  | succ d ih =>
    intro i k hi hk
    obtain ⟨k, rfl⟩ : ∃ q, k = q + 1 := ⟨k - 1, by omega⟩
    have e := ih (i + 1) k (by omega) (by omega)
    have hw : wrap64 ((i : Int) + 1) = ((i + 1 : Nat) : Int) := by rw [wid (by omega) (by omega)]; omega
    have hlt : i < (fin v l).length := by omega
    simp only [reedpenlaw26_OrderEnds.l0]
    rw [hw, if_pos (by omega), if_pos (by omega), rd_val _ i hlt, if_neg (fin_ne hv l _ (List.getElem_mem hlt)), e]
theorem of_go (s : ByteArray) (t : List ByteArray) (ht : t.length = 22) : ∀ (d i k : Nat) (at_ : Int), i + d = 22 → d < k → -1 ≤ at_ → at_ < 22 → ∃ r : Int × ByteArray × Bool × Int, reedpenref25_Of.l0 k s t at_ (i : Int) 0 s false 0 = some r ∧ (1 ≤ r.1 → r.1 ≤ 4 → r.2.2.2 ≠ 0) := by
  intro d
  induction d with
  | zero =>
    intro i k at_ hi hk h0 h1
    obtain ⟨k, rfl⟩ : ∃ q, k = q + 1 := ⟨k - 1, by omega⟩
    simp only [reedpenref25_Of.l0]
    rw [if_neg (by omega)]
    simp only [Option.bind_some]
    by_cases c0 : at_ < 0
    · rw [if_pos c0]; exact ⟨_, rfl, by simp⟩
    rw [if_neg c0]
    by_cases c9 : at_ < 9
    · rw [if_pos c9, if_pos (by omega), if_pos (by simp; omega)]
      refine ⟨_, rfl, fun _ _ => ?_⟩
      obtain ⟨n, rfl⟩ := Int.eq_ofNat_of_zero_le (Int.not_lt.1 c0)
      have : ∀ n : Fin 9, rd [8, 5, 5, 8, 4, 9, 9, 9, 4] (n.val : Int) ≠ 0 := by decide +kernel
      exact this ⟨n, by omega⟩
    rw [if_neg c9]
    by_cases c15 : at_ < 15
    · rw [if_pos c15]; exact ⟨_, rfl, by simp⟩
    rw [if_neg c15]
    by_cases d15 : at_ = 15
    · rw [if_pos d15]; exact ⟨_, rfl, by simp⟩
    rw [if_neg d15]
    by_cases d16 : at_ = 16
    · rw [if_pos d16]; exact ⟨_, rfl, by simp⟩
    rw [if_neg d16]
    by_cases c21 : at_ < 21
    · rw [if_pos c21]; exact ⟨_, rfl, by simp⟩
    rw [if_neg c21]; exact ⟨_, rfl, by simp⟩
  | succ d ih =>
    intro i k at_ hi hk h0 h1
    obtain ⟨k, rfl⟩ : ∃ q, k = q + 1 := ⟨k - 1, by omega⟩
    have hw : wrap64 ((i : Int) + 1) = ((i + 1 : Nat) : Int) := by rw [wid (by omega) (by omega)]; omega
    simp only [reedpenref25_Of.l0]
    rw [hw, if_pos (by omega), if_pos (by omega)]
    by_cases h : (rdOf ByteArray.empty t (i : Int)).toList = s.toList
    · rw [if_pos h]; exact ih (i + 1) k i (by omega) (by omega) (by omega) (by omega)
    · rw [if_neg h]; exact ih (i + 1) k at_ (by omega) (by omega) h0 h1
theorem split_len (s : ByteArray) (c : Int) (hs : s.size ≤ 1000) : ∀ (d i k f : Nat) (acc : List ByteArray), i + d = s.size → d < k → f ≤ i → acc.length ≤ i →
    ∃ t, reedpenref05_Split.l0 k s c acc (f : Int) (i : Int) = some t ∧ t.length = acc.length + 1 + ((bytesOf s).drop i).countP (fun b => b == c) := by
  intro d
  induction d with
  | zero =>
    intro i k f acc hi hk hf ha
    obtain ⟨k, rfl⟩ : ∃ q, k = q + 1 := ⟨k - 1, by omega⟩
    simp only [reedpenref05_Split.l0]
    rw [if_neg (by omega), if_pos (by omega), if_pos (by omega), if_pos (by omega), List.drop_eq_nil_of_le (by rw [bytesOf_length]; omega)]
    exact ⟨_, rfl, by simp⟩
  | succ d ih =>
    intro i k f acc hi hk hf ha
    obtain ⟨k, rfl⟩ : ∃ q, k = q + 1 := ⟨k - 1, by omega⟩
    have hw : wrap64 ((i : Int) + 1) = ((i + 1 : Nat) : Int) := by rw [wid (by omega) (by omega)]; omega
    have hlt : i < (bytesOf s).length := by rw [bytesOf_length]; omega
    have hr : bt s (i : Int) = (bytesOf s)[i] := by rw [← rd_bytesOf]; exact rd_val _ i hlt
    simp only [reedpenref05_Split.l0]
    rw [hw, if_pos (by omega), if_pos (by omega), hr, List.drop_eq_getElem_cons hlt, List.countP_cons]
    by_cases h : (bytesOf s)[i] = c
    · rw [if_pos h, if_pos (by omega), if_pos (by omega), if_pos (by omega), if_pos (by omega)]
      obtain ⟨t, h1, h2⟩ := ih (i + 1) k (i + 1) (acc ++ [s.extract (f : Int).toNat (i : Int).toNat]) (by omega) (by omega) (by omega) (by simp; omega)
      refine ⟨t, h1, ?_⟩
      rw [h2, h]
      simp
      omega
    · rw [if_neg h]
      obtain ⟨t, h1, h2⟩ := ih (i + 1) k f acc (by omega) (by omega) (by omega) (by omega)
      refine ⟨t, h1, ?_⟩
      rw [h2]
      simp [h]
theorem tags_len (k : Nat) (hk : 200 ≤ k) : ∃ t, reedpenref25_Tags.f k = some t ∧ t.length = 22 := by
  unfold reedpenref25_Tags.f reedpenref05_Split.f
  obtain ⟨t, h1, h2⟩ := split_len (⟨#[100, 101, 118, 97, 32, 98, 101, 110, 103, 32, 103, 117, 114, 117, 32, 103, 117, 106, 114, 32, 111, 114, 121, 97, 32, 116, 97, 109, 108, 32, 116, 101, 108, 117, 32, 107, 110, 100, 97, 32, 109, 108, 121, 109, 32, 115, 105, 110, 104, 32, 106, 97, 118, 97, 32, 98, 97, 108, 105, 32, 99, 104, 97, 109, 32, 108, 97, 110, 97, 32, 116, 105, 98, 116, 32, 107, 104, 109, 114, 32, 109, 121, 109, 114, 32, 97, 114, 97, 98, 32, 115, 121, 114, 99, 32, 109, 111, 110, 103, 32, 116, 104, 97, 97, 32, 104, 97, 110, 103]⟩ : ByteArray) 32 (by decide +kernel) 109 0 k 0 [] (by decide +kernel) (by omega) (by omega) (by simp)
  refine ⟨t, ?_, ?_⟩
  · have h1' : reedpenref05_Split.l0 k _ 32 [] 0 0 = some t := h1
    rw [h1']
    rfl
  · rw [h2]
    decide +kernel
theorem of_f (s : ByteArray) (k : Nat) (hk : 200 ≤ k) : ∃ r : Int × ByteArray × Bool × Int, reedpenref25_Of.f k s = some r ∧ (1 ≤ r.1 → r.1 ≤ 4 → r.2.2.2 ≠ 0) := by
  obtain ⟨t, h1, h2⟩ := tags_len k hk
  unfold reedpenref25_Of.f
  rw [h1]
  exact of_go s t h2 22 0 k (-1) (by omega) (by omega) (by omega) (by omega)
theorem OrderEnds : reedpenlaw26_OrderEnds.Pure := by
  intro s l _ _ _ _
  refine ⟨2 * l.length + 300, ?_⟩
  unfold reedpenlaw26_OrderEnds.f
  rw [alive26 _ (by omega)]
  simp only [Option.bind_some, if_true]
  by_cases hl : (l.length : Int) > 100
  · rw [if_pos hl]
  · rw [if_neg hl]
    obtain ⟨r, h1, h2⟩ := of_f s (2 * l.length + 300) (by omega)
    rw [h1]
    simp only [Option.bind_some, reedpenlaw26_OrderEnds.j0]
    by_cases h3 : r.1 < 1
    · rw [if_pos h3, if_pos trivial]
    · rw [if_neg h3]
      by_cases h4 : r.1 > 4
      · rw [decide_eq_true h4, if_pos rfl]
      · rw [decide_eq_false h4, if_neg (by decide), final_f l _ _ _ _ (by omega) _ (by omega)]
        simp only [Option.bind_some]
        exact ends_go l _ _ _ (h2 (by omega) (by omega)) (by omega) l.length 0 _ (by omega) (by omega)
end Go.Proofs.Ytlpikbkdlnocdaa.Pure
