/- Plain laws: bytes behind turn nothing: the groups of the table cmap. -/
import Derived.Test.YtakplhfiohjcmaaPU13
import Derived.Test.YtakplhfiohjcmaaPU14
set_option linter.unusedVariables false
set_option linter.unusedSimpArgs false
namespace Go.Proofs.Ytakplhfiohjcmaa.AI
theorem U16_all {N : Nat} (hN : 1000000000000 < N) {b : List Int} (hb : Bytes b) (hl : b.length ≤ 1000000000) (i : Int) : octet_U16 N b i = some (if u16 b i < 0 then (0, false) else (u16 b i, true)) := by
  by_cases h : i ≤ 1000000000000
  · exact U16_eq hN hb hl i h
  · unfold octet_U16 octet_read
    have hn : u16 b i < 0 := (u16_neg hb).2 (by omega)
    rw [within_eq hl, Option.bind_some, if_neg (by simp; omega), if_pos hn]
    rfl
theorem U32_all {N : Nat} (hN : 1000000000000 < N) {b : List Int} (hb : Bytes b) (hl : b.length ≤ 1000000000) (i : Int) : octet_U32 N b i = some (if u32 b i < 0 then (0, false) else (u32 b i, true)) := by
  by_cases h : i ≤ 1000000000000
  · exact U32_eq hN hb hl i h
  · unfold octet_U32 octet_read
    have hn : u32 b i < 0 := (u32_neg hb).2 (by omega)
    rw [within_eq hl, Option.bind_some, if_neg (by simp; omega), if_pos hn]
    rfl
theorem U16_T {N : Nat} (hN : 1000000000000 < N) {b m : List Int} (hb : Bytes b) (hm : Bytes m) (hl : (b ++ m).length ≤ 1000000000) {i v : Int} (h : octet_U16 N b i = some (v, true)) : octet_U16 N (b ++ m) i = some (v, true) := by
  have hl1 : b.length ≤ 1000000000 := by simp at hl; omega
  rw [U16_all hN hb hl1] at h
  by_cases hn : u16 b i < 0
  · rw [if_pos hn] at h; cases h
  · rw [if_neg hn] at h; cases h
    rw [U16_all hN (hb.app hm) hl, u16_app hb (by omega), if_neg hn]
theorem U32_T {N : Nat} (hN : 1000000000000 < N) {b m : List Int} (hb : Bytes b) (hm : Bytes m) (hl : (b ++ m).length ≤ 1000000000) {i v : Int} (h : octet_U32 N b i = some (v, true)) : octet_U32 N (b ++ m) i = some (v, true) := by
  have hl1 : b.length ≤ 1000000000 := by simp at hl; omega
  rw [U32_all hN hb hl1] at h
  by_cases hn : u32 b i < 0
  · rw [if_pos hn] at h; cases h
  · rw [if_neg hn] at h; cases h
    rw [U32_all hN (hb.app hm) hl, u32_app hb (by omega), if_neg hn]
theorem Row_T {N : Nat} (hN : 1000000000000 < N) {b m : List Int} (hb : Bytes b) (hm : Bytes m) (hl : (b ++ m).length ≤ 1000000000) {i n : Int} (hi : i ≤ 1000000000000) (hn : n ≤ 1000000000000) {v : List Int} (h : octet_Row N b i n 2 = some (v, true)) : octet_Row N (b ++ m) i n 2 = some (v, true) := by
  have hl1 : b.length ≤ 1000000000 := by simp at hl; omega
  rw [Row_eq hN hb hl1 _ _ hi hn] at h
  rw [Row_eq hN (hb.app hm) hl _ _ hi hn]
  by_cases hc : 0 ≤ n ∧ 0 ≤ i ∧ i + 2 * n ≤ (b.length : Int)
  · rw [if_pos hc] at h
    rw [if_pos (by simp only [List.length_append]; omega), row16_app hb (fun x hx => (row16_in hb (by omega) (by omega) x hx).1)]
    exact h
  · rw [if_neg hc] at h; cases h
theorem Row4_T {N : Nat} (hN : 1000000000000 < N) {b m : List Int} (hb : Bytes b) (hm : Bytes m) (hl : (b ++ m).length ≤ 1000000000) {i n : Int} (hi : i ≤ 1000000000000) (hn : n ≤ 1000000000000) {v : List Int} (h : octet_Row N b i n 4 = some (v, true)) : octet_Row N (b ++ m) i n 4 = some (v, true) := by
  have hl1 : b.length ≤ 1000000000 := by simp at hl; omega
  rw [Row_eq4 hN hb hl1 _ _ hi hn] at h
  rw [Row_eq4 hN (hb.app hm) hl _ _ hi hn]
  by_cases hc : 0 ≤ n ∧ 0 ≤ i ∧ i + 4 * n ≤ (b.length : Int)
  · rw [if_pos hc] at h
    rw [if_pos (by simp only [List.length_append]; omega), row32_app hb (fun x hx => ?_)]
    · exact h
    · obtain ⟨k, hk, rfl⟩ := List.mem_map.1 hx
      have hk := List.mem_range.1 hk
      have r2 := (not_congr (u32_neg hb (i := i + 4 * (k : Int)))).2 (by omega)
      omega
  · rw [if_neg hc] at h; cases h
theorem narrow_T {N : Nat} (hN : 1000000000000 < N) {b m : List Int} (hb : Bytes b) (hm : Bytes m) (hl : (b ++ m).length ≤ 1000000000) {g f t u o p : Int} : ∀ (n : Nat) (c : Int) (s r : List TGroup), gdef_list_narrow_row_L1 N b g f t u o p n c s = some (.inl r) → gdef_list_narrow_row_L1 N (b ++ m) g f t u o p n c s = some (.inl r) := by
  intro n
  induction n with
  | zero => intro c s r h; cases h
  | succ n ih =>
    intro c s r h
    rw [gdef_list_narrow_row_L1] at h ⊢
    by_cases h1 : c ≤ t
    · rw [if_pos h1] at h ⊢
      by_cases h2 : o = 0
      · rw [if_pos h2] at h ⊢
        split at h
        · rename_i h3; rw [if_pos h3]; exact ih _ _ _ h
        · rename_i h3
          rw [if_neg h3]
          obtain ⟨y, h4, h5⟩ := bindS h
          rw [h4, Option.bind_some]; exact ih _ _ _ h5
      · rw [if_neg h2] at h ⊢
        obtain ⟨⟨v, ok⟩, h3, h4⟩ := bindS h
        cases ok with
        | false => simp at h4
        | true =>
          rw [U16_T hN hb hm hl h3, Option.bind_some]
          simp only [if_true] at h4 ⊢
          by_cases h5 : v = 0
          · rw [if_pos h5] at h4 ⊢; exact ih _ _ _ h4
          · rw [if_neg h5] at h4 ⊢
            split at h4
            · rename_i h6; rw [if_pos h6]; exact ih _ _ _ h4
            · rename_i h6
              rw [if_neg h6]
              obtain ⟨y, h7, h8⟩ := bindS h4
              rw [h7, Option.bind_some]; exact ih _ _ _ h8
    · rw [if_neg h1] at h ⊢; exact h
theorem narrow_T' {N : Nat} (hN : 1000000000000 < N) {b m : List Int} (hb : Bytes b) (hm : Bytes m) (hl : (b ++ m).length ≤ 1000000000) {g f t u o p : Int} {s r : List TGroup} (h : gdef_list_narrow_row N s g b f t u o p = some (true, r)) : gdef_list_narrow_row N s g (b ++ m) f t u o p = some (true, r) := by
  unfold gdef_list_narrow_row at h ⊢
  obtain ⟨o, h1, h2⟩ := bindS h
  cases o with
  | inl y => rw [narrow_T hN hb hm hl _ _ _ _ h1]; exact h2
  | inr y => cases h2
theorem segments_T {N : Nat} (hN : 1000000000000 < N) {b m : List Int} (hb : Bytes b) (hm : Bytes m) (hl : (b ++ m).length ≤ 1000000000) {g i y : Int} {l q : List Int} : ∀ (n : Nat) (e k : Int) (s r : List TGroup), gdef_list_segments_nil_L1 N b i y l q g n e k s = some (.inl r) → gdef_list_segments_nil_L1 N (b ++ m) i y l q g n e k s = some (.inl r) := by
  intro n
  induction n with
  | zero => intro e k s r h; cases h
  | succ n ih =>
    intro e k s r h
    rw [gdef_list_segments_nil_L1] at h ⊢
    by_cases h1 : k < IntKind.i64.wrap (y.tdiv 2)
    · rw [if_pos h1] at h ⊢
      obtain ⟨x0, e0, h⟩ := bindS h
      obtain ⟨x1, e1, h⟩ := bindS h
      obtain ⟨x2, e2, h⟩ := bindS h
      obtain ⟨x3, e3, h⟩ := bindS h
      rw [e0, Option.bind_some, e1, Option.bind_some, e2, Option.bind_some, e3, Option.bind_some]
      by_cases h2 : x0 ≤ e
      · rw [if_pos h2] at h; cases h
      by_cases h3 : x1 < x0
      · rw [if_neg h2, if_pos h3] at h; cases h
      rw [if_neg h2, if_neg h3] at h ⊢
      obtain ⟨⟨ok, z⟩, h4, h⟩ := bindS h
      cases ok with
      | false => simp at h
      | true =>
        rw [narrow_T' hN hb hm hl h4, Option.bind_some]
        simp only [if_true] at h ⊢
        exact ih _ _ _ _ h
    · rw [if_neg h1] at h ⊢; exact h
theorem segments_T' {N : Nat} (hN : 1000000000000 < N) {b m : List Int} (hb : Bytes b) (hm : Bytes m) (hl : (b ++ m).length ≤ 1000000000) {g i : Int} (hi : i ≤ 100000000000) (hi' : -100000000000 ≤ i) {r : List TGroup} (h : gdef_list_segments_nil N g b i = some (true, r)) : gdef_list_segments_nil N g (b ++ m) i = some (true, r) := by
  have hl1 : b.length ≤ 1000000000 := by simp at hl; omega
  unfold gdef_list_segments_nil at h ⊢
  obtain ⟨⟨v, ok⟩, h1, h⟩ := bindS h
  cases ok with
  | false => simp at h
  | true =>
    rw [U16_T hN hb hm hl h1, Option.bind_some]
    simp only [if_true] at h ⊢
    have hv : 0 ≤ v ∧ v < 65536 := by
      have ur := u16_range hb (IntKind.i64.wrap (i + 6))
      rw [U16_all hN hb hl1] at h1
      by_cases hn : u16 b (IntKind.i64.wrap (i + 6)) < 0
      · rw [if_pos hn] at h1; cases h1
      · rw [if_neg hn] at h1; cases h1; omega
    by_cases h2 : v.tmod 2 = 0
    · rw [if_pos h2] at h ⊢
      obtain ⟨⟨l, ok1⟩, h3, h⟩ := bindS h
      obtain ⟨⟨q, ok2⟩, h4, h⟩ := bindS h
      cases ok2 with
      | false => simp at h
      | true =>
        simp only [if_true] at h
        have hseg := h
        have hd : IntKind.i64.wrap (v.tdiv 2) = v / 2 := by rw [Int.tdiv_eq_ediv_of_nonneg (by omega), w64 (by omega) (by omega)]
        have h4' := h4
        rw [hd, w64 (x := i + 16) (by omega) (by omega), w64 (x := 2 * (v / 2)) (by omega) (by omega), w64 (x := i + 16 + 2 * (v / 2)) (by omega) (by omega), w64 (x := 3 * (v / 2)) (by omega) (by omega)] at h4
        have h5 := Row_T hN hb hm hl (by omega) (by omega) h4
        have hin : (0 : Int) ≤ 3 * (v / 2) ∧ 0 ≤ i + 16 + 2 * (v / 2) ∧ i + 16 + 2 * (v / 2) + 2 * (3 * (v / 2)) ≤ (b.length : Int) := by
          rw [Row_eq hN hb hl1 _ _ (by omega) (by omega)] at h4
          by_cases hc : (0 : Int) ≤ 3 * (v / 2) ∧ 0 ≤ i + 16 + 2 * (v / 2) ∧ i + 16 + 2 * (v / 2) + 2 * (3 * (v / 2)) ≤ (b.length : Int)
          · exact hc
          · rw [if_neg hc] at h4; cases h4
        have h0 : 0 ≤ i + 6 := by
          rw [U16_all hN hb hl1] at h1
          by_cases hn : u16 b (IntKind.i64.wrap (i + 6)) < 0
          · rw [if_pos hn] at h1; cases h1
          · have := (not_congr (u16_neg hb)).1 hn
            rw [w64 (x := i + 6) (by omega) (by omega)] at this
            omega
        rw [hd, w64 (x := i + 14) (by omega) (by omega)] at h3
        have ok1t : ok1 = true := by
          rw [Row_eq hN hb hl1 _ _ (by omega) (by omega), if_pos (by omega)] at h3
          cases h3; rfl
        subst ok1t
        have h6 := Row_T hN hb hm hl (by omega) (by omega) h3
        rw [hd, w64 (x := i + 14) (by omega) (by omega), h6, Option.bind_some]
        simp only
        rw [w64 (x := i + 16) (by omega) (by omega), w64 (x := 2 * (v / 2)) (by omega) (by omega), w64 (x := i + 16 + 2 * (v / 2)) (by omega) (by omega), w64 (x := 3 * (v / 2)) (by omega) (by omega), h5, Option.bind_some]
        simp only [if_true]
        obtain ⟨o, h7, h8⟩ := bindS hseg
        cases o with
        | inl z => rw [segments_T hN hb hm hl _ _ _ _ _ h7]; exact h8
        | inr z => cases h8
    · rw [if_neg h2] at h; cases h
theorem wide_T' {N : Nat} (hN : 1000000000000 < N) {b m : List Int} (hb : Bytes b) (hm : Bytes m) (hl : (b ++ m).length ≤ 1000000000) {g i : Int} (hi : i ≤ 100000000000) (hi' : -100000000000 ≤ i) {r : List TGroup} (h : gdef_list_wide_nil N g b i = some (true, r)) : gdef_list_wide_nil N g (b ++ m) i = some (true, r) := by
  have hl1 : b.length ≤ 1000000000 := by simp at hl; omega
  unfold gdef_list_wide_nil at h ⊢
  obtain ⟨⟨v, ok⟩, h1, h⟩ := bindS h
  cases ok with
  | false => simp at h
  | true =>
    have hv : 0 ≤ v ∧ v < 4294967296 := by
      have ur := u32_range hb (IntKind.i64.wrap (i + 12))
      rw [U32_all hN hb hl1] at h1
      by_cases hn : u32 b (IntKind.i64.wrap (i + 12)) < 0
      · rw [if_pos hn] at h1; cases h1
      · rw [if_neg hn] at h1; cases h1; omega
    rw [U32_T hN hb hm hl h1, Option.bind_some]
    simp only [if_true] at h ⊢
    by_cases h2 : 5000 < v
    · rw [if_pos h2] at h; cases h
    rw [if_neg h2] at h ⊢
    obtain ⟨⟨l, ok2⟩, h3, h⟩ := bindS h
    have ok2t : ok2 = true := by
      simp only at h
      obtain ⟨o, h7, h8⟩ := bindS h
      cases o with
      | inl z => cases h8; rfl
      | inr z => cases h8
    subst ok2t
    rw [w64 (x := i + 16) (by omega) (by omega), w64 (x := 3 * v) (by omega) (by omega)] at h3 ⊢
    rw [Row4_T hN hb hm hl (by omega) (by omega) h3, Option.bind_some]
    exact h
theorem Codes_L1_T {N : Nat} (hN : 1000000000000 < N) {b m : List Int} (hb : Bytes b) (hm : Bytes m) (hl : (b ++ m).length ≤ 1000000000) {i g y : Int} : ∀ (n : Nat) (k p q : Int) (r : Int × Int), gdef_Codes_L1 N b i g y n k p q = some (.inl r) → gdef_Codes_L1 N (b ++ m) i g y n k p q = some (.inl r) := by
  intro n
  induction n with
  | zero => intro k p q r h; cases h
  | succ n ih =>
    intro k p q r h
    rw [gdef_Codes_L1] at h ⊢
    by_cases h1 : k < y
    · rw [if_pos h1] at h ⊢
      obtain ⟨⟨o, ok⟩, h2, h⟩ := bindS h
      cases ok with
      | false => simp at h
      | true =>
        rw [U32_T hN hb hm hl h2, Option.bind_some]
        simp only [if_true] at h ⊢
        by_cases h3 : (b.length : Int) < o
        · rw [if_pos h3] at h; cases h
        rw [if_neg h3] at h
        rw [if_neg (by simp only [List.length_append]; omega)]
        obtain ⟨⟨v, ok⟩, h4, h⟩ := bindS h
        cases ok with
        | false => simp at h
        | true =>
          rw [U16_T hN hb hm hl h4, Option.bind_some]
          simp only [if_true] at h ⊢
          repeat' (split at h)
          all_goals (simp only [*, if_true, if_false]; first | exact ih _ _ _ _ h | skip)
    · rw [if_neg h1] at h ⊢; exact h
theorem Codes_T {N : Nat} (hN : 1000000000000 < N) {b m : List Int} (hb : Bytes b) (hm : Bytes m) (hl : (b ++ m).length ≤ 1000000000) {i g : Int} (hi : i ≤ 1000000000) (hi' : -1000000000 ≤ i) {r : List TGroup} (h : gdef_Codes N b i g = some (r, true)) : gdef_Codes N (b ++ m) i g = some (r, true) := by
  have hl1 : b.length ≤ 1000000000 := by simp at hl; omega
  unfold gdef_Codes at h ⊢
  by_cases h1 : g < 0
  · rw [if_pos h1] at h; cases h
  by_cases h2 : 65536 < g
  · rw [if_neg h1, if_pos h2] at h; cases h
  rw [if_neg h1, if_neg h2] at h ⊢
  obtain ⟨⟨v, ok1⟩, h3, h⟩ := bindS h
  obtain ⟨⟨w, ok2⟩, h4, h⟩ := bindS h
  cases ok2 with
  | false => simp at h
  | true =>
    have hw := h4
    rw [U16_all hN hb hl1] at hw
    have hin : 0 ≤ u16 b (IntKind.i64.wrap (i + 2)) ∧ w = u16 b (IntKind.i64.wrap (i + 2)) := by
      by_cases hn : u16 b (IntKind.i64.wrap (i + 2)) < 0
      · rw [if_pos hn] at hw; cases hw
      · rw [if_neg hn] at hw; cases hw; exact ⟨by omega, rfl⟩
    rw [w64 (x := i + 2) (by omega) (by omega)] at hin
    simp only [if_true] at h
    by_cases h5 : v = 0
    · rw [if_pos h5] at h
      by_cases h6 : 64 < w
      · rw [if_pos h6] at h; cases h
      rw [if_neg h6] at h
      have hv : octet_U16 N (b ++ m) i = some (v, ok1) := by
        rw [U16_all hN hb hl1] at h3
        rw [U16_all hN (hb.app hm) hl]
        have n2 := (not_congr (u16_neg hb (i := i + 2))).1 (by omega)
        by_cases hn : u16 b i < 0
        · have n1 := (u16_neg hb (i := i)).1 hn
          have n3 := (u16_neg (hb.app hm) (i := i)).2 (by omega)
          rw [if_pos hn] at h3
          rw [if_pos n3]; exact h3
        · rw [u16_app hb (by omega)]; exact h3
      rw [hv, Option.bind_some]
      simp only
      rw [U16_T hN hb hm hl h4, Option.bind_some]
      simp only [if_true]
      rw [if_pos h5, if_neg h6]
      obtain ⟨o, h7, h⟩ := bindS h
      cases o with
      | inr z => cases h
      | inl pq =>
        obtain ⟨p, q⟩ := pq
        rw [Codes_L1_T hN hb hm hl _ _ _ _ _ h7, Option.bind_some]
        obtain ⟨rr, k1, k2⟩ := Codes_L1s hN hb hl1 (i := i) (g := g) (m := w) hi hi' (by omega) N 0 (-1) (-1) (by omega) (by omega) (by omega) (by omega) (by omega) (by omega) (by omega)
        rw [k1] at h7
        cases h7
        obtain ⟨p1, p2, q1, q2⟩ := k2 _ rfl
        simp only at p1 p2 q1 q2 h ⊢
        by_cases h8 : 0 ≤ p
        · rw [if_pos h8] at h ⊢
          obtain ⟨⟨ok, z⟩, h9, h⟩ := bindS h
          cases ok with
          | false => simp at h
          | true => rw [wide_T' hN hb hm hl (by omega) (by omega) h9]; exact h
        rw [if_neg h8] at h ⊢
        by_cases h9 : 0 ≤ q
        · rw [if_pos h9] at h ⊢
          obtain ⟨⟨ok, z⟩, h9, h⟩ := bindS h
          cases ok with
          | false => simp at h
          | true => rw [segments_T' hN hb hm hl (by omega) (by omega) h9]; exact h
        · rw [if_neg h9] at h ⊢; exact h
    · rw [if_neg h5] at h; cases h
theorem Groups_eq {N : Nat} (hN : 1000000000000 < N) {l : List TGroup} (hl : l.length ≤ 1000000000) : ref15_Groups N l l = some true := by
  have key : ∀ (d k n : Nat), k + d = l.length → d < n → ref15_Groups_L1 N l l n k = some (.inl ()) := by
    intro d
    induction d with
    | zero =>
      intro k n hk hn
      obtain ⟨n, rfl⟩ : ∃ x, n = x + 1 := ⟨n - 1, by omega⟩
      rw [ref15_Groups_L1, if_neg (by omega)]
    | succ d ih =>
      intro k n hk hn
      obtain ⟨n, rfl⟩ : ∃ x, n = x + 1 := ⟨n - 1, by omega⟩
      have hx := List.getElem?_eq_getElem (l := l) (i := k) (by omega)
      have := ih (k + 1) n (by omega) (by omega)
      rw [show ((k + 1 : Nat) : Int) = (k : Int) + 1 by omega] at this
      rw [ref15_Groups_L1, if_pos (by omega), atI_at hx, Option.bind_some, Option.bind_some, if_pos rfl, if_pos rfl, if_pos rfl, w64 (by omega) (by omega)]
      exact this
  have h := key l.length 0 N (by omega) (by omega)
  rw [show ((0 : Nat) : Int) = 0 from rfl] at h
  unfold ref15_Groups
  rw [if_pos rfl, h]
  rfl
end Go.Proofs.Ytakplhfiohjcmaa.AI
