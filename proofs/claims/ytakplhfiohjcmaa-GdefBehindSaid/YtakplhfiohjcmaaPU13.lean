/- Plain laws: the groups of the table cmap, further. -/
import Derived.Test.YtakplhfiohjcmaaPU12
set_option linter.unusedVariables false
set_option linter.unusedSimpArgs false
namespace Go.Proofs.Ytakplhfiohjcmaa.AI
theorem tmodB {x : Int} (h : 0 ≤ x) : 0 ≤ x.tmod 65536 ∧ x.tmod 65536 < 65536 := ⟨Int.tmod_nonneg _ h, Int.tmod_lt_of_pos _ (by decide)⟩
theorem narrow_L1 {N : Nat} (hN : 1000000000000 < N) {b : List Int} (hb : Bytes b) (hl : b.length ≤ 1000000000) {g f t u o p : Int} (hg0 : 0 ≤ g) (hg : g ≤ 65536) (hf : 0 ≤ f) (ht : t ≤ 65535) (hu : 0 ≤ u) (hu2 : u ≤ 65535) (ho : 0 ≤ o) (ho2 : o ≤ 65535) (hp : -200000000000 ≤ p) (hp2 : p ≤ 200000000000) :
    ∀ (n : Nat) (c : Int) (s : List TGroup), t + 1 - c < n → f ≤ c → c ≤ t + 1 → GInv g s (c - 1) → ∃ r, gdef_list_narrow_row_L1 N b g f t u o p n c s = some r ∧ ∀ m, r = .inl m → GInv g m t := by
  intro n
  induction n with
  | zero => intro c s hn; omega
  | succ n ih =>
    intro c s hn hfc hct hs
    rw [gdef_list_narrow_row_L1]
    by_cases h1 : c ≤ t
    · rw [if_pos h1, w64 (x := c + 1) (by omega) (by omega)]
      have skip : ∃ r, gdef_list_narrow_row_L1 N b g f t u o p n (c + 1) s = some r ∧ ∀ m, r = .inl m → GInv g m t := ih (c + 1) s (by omega) (by omega) (by omega) (hs.mono (by omega))
      have put : ∀ k, 0 ≤ k → k ≤ 65536 → ∃ r, ((gdef_list_add_row N s g c c k).bind fun y => gdef_list_narrow_row_L1 N b g f t u o p n (c + 1) y) = some r ∧ ∀ m, r = .inl m → GInv g m t := by
        intro k hk hk2
        obtain ⟨m, hm, hi⟩ := add_spec (N := N) hs (by omega) (show c - 1 < c by omega) (Int.le_refl c) (by omega) hk (by omega) hg0 hg
        rw [hm, Option.bind_some]
        exact ih (c + 1) m (by omega) (by omega) (by omega) (by rw [show c + 1 - 1 = c by omega]; exact hi)
      by_cases h2 : o = 0
      · rw [if_pos h2, w64 (x := c + u) (by omega) (by omega)]
        have tm := tmodB (show 0 ≤ c + u by omega)
        split
        · exact skip
        · exact put _ tm.1 (by omega)
      · rw [if_neg h2, w64 (x := p + o) (by omega) (by omega), w64 (x := c - f) (by omega) (by omega), w64 (x := 2 * (c - f)) (by omega) (by omega), w64 (x := p + o + 2 * (c - f)) (by omega) (by omega), U16_eq hN hb hl _ (by omega), Option.bind_some]
        have ur := u16_range hb (p + o + 2 * (c - f))
        by_cases h3 : u16 b (p + o + 2 * (c - f)) < 0
        · simp only [h3, if_true, Bool.false_eq_true, if_false]
          exact ⟨_, rfl, fun m h => by cases h⟩
        · simp only [h3, if_true, if_false]
          by_cases h4 : u16 b (p + o + 2 * (c - f)) = 0
          · rw [if_pos h4]; exact skip
          · have tm := tmodB (show 0 ≤ u16 b (p + o + 2 * (c - f)) + u by omega)
            rw [if_neg h4, w64 (x := u16 b (p + o + 2 * (c - f)) + u) (by omega) (by omega)]
            split
            · exact skip
            · exact put _ tm.1 (by omega)
    · rw [if_neg h1]
      exact ⟨_, rfl, fun m h => by cases h; exact hs.mono (by omega)⟩
theorem narrow_spec {N : Nat} (hN : 1000000000000 < N) {b : List Int} (hb : Bytes b) (hl : b.length ≤ 1000000000) {g f t u o p e : Int} {s : List TGroup} (hs : GInv g s e) (he : -1 ≤ e) (hef : e < f) (hft : f ≤ t) (hg0 : 0 ≤ g) (hg : g ≤ 65536) (ht : t ≤ 65535) (hu : 0 ≤ u) (hu2 : u ≤ 65535) (ho : 0 ≤ o) (ho2 : o ≤ 65535) (hp : -200000000000 ≤ p) (hp2 : p ≤ 200000000000) :
    ∃ r, gdef_list_narrow_row N s g b f t u o p = some r ∧ (r.1 = true → GInv g r.2 t) := by
  obtain ⟨r, h1, h2⟩ := narrow_L1 hN hb hl hg0 hg (by omega : 0 ≤ f) ht hu hu2 ho ho2 hp hp2 N f s (by omega) (by omega) (by omega) (hs.mono (by omega))
  unfold gdef_list_narrow_row
  rw [h1, Option.bind_some]
  cases r with
  | inl m => exact ⟨_, rfl, fun _ => h2 m rfl⟩
  | inr m => exact ⟨_, rfl, fun h => by cases h⟩
theorem segments_L1 {N : Nat} (hN : 1000000000000 < N) {b : List Int} (hb : Bytes b) (hl : b.length ≤ 1000000000) {g i m : Int} {y : Int} (hg0 : 0 ≤ g) (hg : g ≤ 65536) (hi : i ≤ 100000000000) (hi' : -100000000000 ≤ i) (hm0 : 0 ≤ m) (hm2 : m ≤ 65535) (hy : IntKind.i64.wrap (y.tdiv 2) = m)
    {l q : List Int} (hll : (l.length : Int) = m) (hql : (q.length : Int) = 3 * m) (hx : ∀ x ∈ l, 0 ≤ x ∧ x ≤ 65535) (hq : ∀ x ∈ q, 0 ≤ x ∧ x ≤ 65535) :
    ∀ (n k : Nat) (e : Int) (s : List TGroup), m - k < n → (k : Int) ≤ m → GInv g s e → -1 ≤ e → e ≤ 1114111 → ∃ r, gdef_list_segments_nil_L1 N b i y l q g n e k s = some r ∧ ∀ m, r = .inl m → ∃ e', e' ≤ 1114111 ∧ GInv g m e' := by
  intro n
  induction n with
  | zero => intro k e s hn hkm; omega
  | succ n ih =>
    intro k e s hn hkm hs he he2
    rw [gdef_list_segments_nil_L1, hy]
    by_cases h1 : (k : Int) < m
    · obtain ⟨M, rfl⟩ := Int.eq_ofNat_of_zero_le hm0
      have g0 := List.getElem?_eq_getElem (l := q) (i := k) (by omega)
      have g1 := List.getElem?_eq_getElem (l := l) (i := k) (by omega)
      have g2 := List.getElem?_eq_getElem (l := q) (i := M + k) (by omega)
      have g3 := List.getElem?_eq_getElem (l := q) (i := 2 * M + k) (by omega)
      generalize q[k]'(by omega) = x0 at g0
      generalize l[k]'(by omega) = x1 at g1
      generalize q[M + k]'(by omega) = x2 at g2
      generalize q[2 * M + k]'(by omega) = x3 at g3
      have b0 := hq x0 (List.mem_of_getElem? g0); have b1 := hx x1 (List.mem_of_getElem? g1); have b2 := hq x2 (List.mem_of_getElem? g2); have b3 := hq x3 (List.mem_of_getElem? g3)
      rw [if_pos h1, atI_at g0, Option.bind_some, atI_at g1, Option.bind_some, w64 (x := (M : Int) + (k : Int)) (by omega) (by omega), atI_of (k := M + k) (by omega) g2, Option.bind_some,
        w64 (x := 2 * (M : Int)) (by omega) (by omega), w64 (x := 2 * (M : Int) + (k : Int)) (by omega) (by omega), atI_of (k := 2 * M + k) (by omega) g3, Option.bind_some]
      by_cases h2 : x0 ≤ e
      · rw [if_pos h2]; exact ⟨_, rfl, fun m h => by cases h⟩
      rw [if_neg h2]
      by_cases h3 : x1 < x0
      · rw [if_pos h3]; exact ⟨_, rfl, fun m h => by cases h⟩
      rw [if_neg h3, w64 (x := i + 16) (by omega) (by omega), w64 (x := 3 * (M : Int)) (by omega) (by omega), w64 (x := 3 * (M : Int) + (k : Int)) (by omega) (by omega), w64 (x := 2 * (3 * (M : Int) + (k : Int))) (by omega) (by omega), w64 (x := i + 16 + 2 * (3 * (M : Int) + (k : Int))) (by omega) (by omega)]
      obtain ⟨⟨r1, r2⟩, h4, h5⟩ := narrow_spec hN hb hl (g := g) (f := x0) (t := x1) (u := x2) (o := x3) (p := i + 16 + 2 * (3 * (M : Int) + (k : Int))) hs he (by omega) (by omega) hg0 hg b1.2 b2.1 b2.2 b3.1 b3.2 (by omega) (by omega)
      rw [h4, Option.bind_some]
      cases r1 with
      | true =>
        simp only [if_true]
        rw [w64 (x := (k : Int) + 1) (by omega) (by omega), show (k : Int) + 1 = ((k + 1 : Nat) : Int) by omega]
        exact ih (k + 1) x1 r2 (by omega) (by omega) (h5 rfl) (by omega) (by omega)
      | false => simp only [Bool.false_eq_true, if_false]; exact ⟨_, rfl, fun m h => by cases h⟩
    · rw [if_neg h1]; exact ⟨_, rfl, fun m h => by cases h; exact ⟨e, he2, hs⟩⟩
theorem row16_in {b : List Int} (hb : Bytes b) {i : Int} {n : Nat} (h0 : 0 ≤ i) (h1 : i + 2 * (n : Int) ≤ (b.length : Int)) : ∀ x ∈ row16 b i n, 0 ≤ x ∧ x ≤ 65535 := by
  intro x hx
  obtain ⟨k, hk, rfl⟩ := List.mem_map.1 hx
  have hk := List.mem_range.1 hk
  have r1 := u16_range hb (i + 2 * (k : Int)); have r2 := (not_congr (u16_neg hb (i := i + 2 * (k : Int)))).2 (by omega)
  omega
theorem segments_spec {N : Nat} (hN : 1000000000000 < N) {b : List Int} (hb : Bytes b) (hl : b.length ≤ 1000000000) {g i : Int} (hg0 : 0 ≤ g) (hg : g ≤ 65536) (hi : i ≤ 100000000000) (hi' : -100000000000 ≤ i) :
    ∃ r, gdef_list_segments_nil N g b i = some r ∧ (r.1 = true → ∃ e, e ≤ 1114111 ∧ GInv g r.2 e) := by
  have hu := u16_range hb (i + 6)
  unfold gdef_list_segments_nil
  rw [w64 (x := i + 6) (by omega) (by omega), w64 (x := i + 14) (by omega) (by omega), w64 (x := i + 16) (by omega) (by omega), U16_eq hN hb hl _ (by omega), Option.bind_some]
  by_cases h1 : u16 b (i + 6) < 0
  · simp only [h1, if_true, Bool.false_eq_true, if_false]
    exact ⟨_, rfl, fun h => by cases h⟩
  simp only [h1, if_false, if_true]
  by_cases h2 : (u16 b (i + 6)).tmod 2 = 0
  · simp only [h2, if_true]
    have hd : IntKind.i64.wrap ((u16 b (i + 6)).tdiv 2) = u16 b (i + 6) / 2 := by rw [Int.tdiv_eq_ediv_of_nonneg (by omega), w64 (by omega) (by omega)]
    rw [hd]
    generalize hm : u16 b (i + 6) / 2 = m at hd
    have m0 : 0 ≤ m := by omega
    have m1 : m ≤ 65535 := by omega
    rw [w64 (x := 2 * m) (by omega) (by omega), w64 (x := i + 16 + 2 * m) (by omega) (by omega), w64 (x := 3 * m) (by omega) (by omega), Row_eq hN hb hl _ _ (by omega) (by omega), Option.bind_some, Row_eq hN hb hl _ _ (by omega) (by omega)]
    by_cases h3 : (0 : Int) ≤ 3 * m ∧ 0 ≤ i + 16 + 2 * m ∧ i + 16 + 2 * m + 2 * (3 * m) ≤ (b.length : Int)
    · rw [if_pos h3]
      simp only [Option.bind_some, if_true]
      by_cases h4 : (0 : Int) ≤ m ∧ 0 ≤ i + 14 ∧ i + 14 + 2 * m ≤ (b.length : Int)
      · rw [if_pos h4]
        simp only
        obtain ⟨r, h5, h6⟩ := segments_L1 hN hb hl (g := g) (i := i) (m := m) (y := u16 b (i + 6)) hg0 hg hi hi' m0 m1 hd (l := row16 b (i + 14) m.toNat) (q := row16 b (i + 16 + 2 * m) (3 * m).toNat) (by rw [row16_len]; omega) (by rw [row16_len]; omega)
          (row16_in hb (by omega) (by omega)) (row16_in hb (by omega) (by omega)) N 0 (-1) [] (by omega) (by omega) GInv.nil (by omega) (by omega)
        rw [show ((0 : Nat) : Int) = 0 from rfl] at h5
        rw [h5, Option.bind_some]
        cases r with
        | inl m => exact ⟨_, rfl, fun _ => h6 m rfl⟩
        | inr m => exact ⟨_, rfl, fun h => by cases h⟩
      · -- the ends begin ahead of all bytes: there are no segments
        by_cases h5 : m = 0
        · subst h5
          rw [if_neg h4]
          simp only
          obtain ⟨r, h7, h6⟩ := segments_L1 hN hb hl (g := g) (i := i) (m := 0) (y := u16 b (i + 6)) hg0 hg hi hi' m0 m1 hd (l := []) (q := row16 b (i + 16 + 2 * 0) (3 * 0 : Int).toNat) (by simp) (by rw [row16_len]; omega)
            (by simp) (row16_in hb (by omega) (by omega)) N 0 (-1) [] (by omega) (by omega) GInv.nil (by omega) (by omega)
          rw [show ((0 : Nat) : Int) = 0 from rfl] at h7
          rw [h7, Option.bind_some]
          cases r with
          | inl m => exact ⟨_, rfl, fun _ => h6 m rfl⟩
          | inr m => exact ⟨_, rfl, fun h => by cases h⟩
        · exact absurd ((not_congr (u16_neg hb (i := i + 6))).1 h1) (by omega)
    · rw [if_neg h3]
      simp only [Option.bind_some, Bool.false_eq_true, if_false]
      exact ⟨_, rfl, fun h => by cases h⟩
  · simp only [h2, if_false]
    exact ⟨_, rfl, fun h => by cases h⟩
theorem Codes_L1s {N : Nat} (hN : 1000000000000 < N) {b : List Int} (hb : Bytes b) (hl : b.length ≤ 1000000000) {i g m : Int} (hi : i ≤ 1000000000) (hi' : -1000000000 ≤ i) (hm : m ≤ 64) : ∀ (n : Nat) (k p q : Int), 0 ≤ k → k ≤ 65 → 65 - k < n → -10000000000 ≤ p → p ≤ 10000000000 → -10000000000 ≤ q → q ≤ 10000000000 →
    ∃ r, gdef_Codes_L1 N b i g m n k p q = some r ∧ ∀ s, r = .inl s → -10000000000 ≤ s.1 ∧ s.1 ≤ 10000000000 ∧ -10000000000 ≤ s.2 ∧ s.2 ≤ 10000000000 := by
  intro n
  induction n with
  | zero => intro k p q h0 h1 h2; omega
  | succ n ih =>
    intro k p q h0 h1 h2 p1 p2 q1 q2
    rw [gdef_Codes_L1]
    by_cases h3 : k < m
    · rw [if_pos h3, w64 (x := i + 4) (by omega) (by omega), w64 (x := 8 * k) (by omega) (by omega), w64 (x := i + 4 + 8 * k) (by omega) (by omega), w64 (x := i + 4 + 8 * k + 4) (by omega) (by omega), w64 (x := k + 1) (by omega) (by omega), U32_eq hN hb hl _ (by omega), Option.bind_some]
      have ur := u32_range hb (i + 4 + 8 * k + 4)
      generalize u32 b (i + 4 + 8 * k + 4) = o at ur
      by_cases h4 : o < 0
      · simp only [h4, if_true, Bool.false_eq_true, if_false]
        exact ⟨_, rfl, fun m h => by cases h⟩
      simp only [h4, if_true, if_false]
      by_cases h5 : (b.length : Int) < o
      · rw [if_pos h5]; exact ⟨_, rfl, fun m h => by cases h⟩
      rw [if_neg h5, w64 (x := i + o) (by omega) (by omega), U16_eq hN hb hl _ (by omega), Option.bind_some]
      generalize u16 b (i + o) = v
      by_cases h6 : v < 0
      · simp only [h6, if_true, Bool.false_eq_true, if_false]
        exact ⟨_, rfl, fun m h => by cases h⟩
      simp only [h6, if_true, if_false]
      have nx := fun p q p1 p2 q1 q2 => ih (k + 1) p q (by omega) (by omega) (by omega) p1 p2 q1 q2
      repeat' split
      all_goals first | exact nx _ _ (by omega) (by omega) (by omega) (by omega)
    · rw [if_neg h3]
      exact ⟨_, rfl, fun s h => by cases h; exact ⟨p1, p2, q1, q2⟩⟩
theorem Codes_spec {N : Nat} (hN : 1000000000000 < N) {b : List Int} (hb : Bytes b) (hl : b.length ≤ 1000000000) {i g : Int} (hi : i ≤ 1000000000) (hi' : -1000000000 ≤ i) :
    ∃ r, gdef_Codes N b i g = some r ∧ (r.2 = false → r.1 = []) ∧ ∃ e, e ≤ 1114111 ∧ GInv g r.1 e := by
  have no : ∃ r, some (([] : List TGroup), false) = some r ∧ (r.2 = false → r.1 = []) ∧ ∃ e, e ≤ 1114111 ∧ GInv g r.1 e := ⟨_, rfl, fun _ => rfl, _, (by decide), GInv.nil⟩
  unfold gdef_Codes
  by_cases h1 : g < 0
  · rw [if_pos h1]; exact no
  rw [if_neg h1]
  by_cases h2 : 65536 < g
  · rw [if_pos h2]; exact no
  rw [if_neg h2, w64 (x := i + 2) (by omega) (by omega), U16_eq hN hb hl _ (by omega), U16_eq hN hb hl _ (by omega)]
  have tail : ∀ (p : Int × Bool), ∃ r, ((some p).bind fun (y_5, y_6) => (some (if u16 b (i + 2) < 0 then ((0 : Int), false) else (u16 b (i + 2), true))).bind fun (y_8, y_9) =>
      if y_9 = true then (
        if y_5 = 0 then (
          if 64 < y_8 then (
            some (([] : List TGroup), false)
          ) else (
            (gdef_Codes_L1 N b i g y_8 N 0 (-1) (-1)).bind fun o_1020 => match o_1020 with
            | .inl (y_1018, y_1019) => (
              if 0 ≤ y_1018 then (
                (gdef_list_wide_nil N g b y_1018).bind fun (y_1023, y_1024) =>
                if y_1023 = true then (
                  some (y_1024, true)
                ) else (
                  some ([], false)
                )
              ) else (
                if 0 ≤ y_1019 then (
                  (gdef_list_segments_nil N g b y_1019).bind fun (y_1030, y_1031) =>
                  if y_1030 = true then (
                    some (y_1031, true)
                  ) else (
                    some ([], false)
                  )
                ) else (
                  some ([], true)
                )
              )
            )
            | .inr (_) => (
              some ([], false)
            )
          )
        ) else (
          some ([], false)
        )
      ) else (
        some ([], false)
      )) = some r ∧ (r.2 = false → r.1 = []) ∧ ∃ e, e ≤ 1114111 ∧ GInv g r.1 e := by
    rintro ⟨y5, y6⟩
    simp only [Option.bind_some]
    by_cases h3 : u16 b (i + 2) < 0
    · simp only [h3, if_true, Bool.false_eq_true, if_false]
      exact no
    simp only [h3, if_false, if_true]
    by_cases h4 : y5 = 0
    · rw [if_pos h4]
      by_cases h5 : 64 < u16 b (i + 2)
      · rw [if_pos h5]; exact no
      rw [if_neg h5]
      obtain ⟨r, h6, h7⟩ := Codes_L1s hN hb hl (i := i) (g := g) (m := u16 b (i + 2)) hi hi' (by omega) N 0 (-1) (-1) (by omega) (by omega) (by omega) (by omega) (by omega) (by omega) (by omega)
      rw [h6, Option.bind_some]
      cases r with
      | inr _ => exact no
      | inl pq =>
        obtain ⟨p, q⟩ := pq
        obtain ⟨p1, p2, q1, q2⟩ := h7 _ rfl
        simp only at p1 p2 q1 q2
        simp only
        by_cases h8 : 0 ≤ p
        · rw [if_pos h8]
          obtain ⟨⟨r1, r2⟩, h9, h10⟩ := wide_spec hN hb hl (g := g) (i := p) (by omega) (by omega) (by omega) (by omega)
          rw [h9, Option.bind_some]
          cases r1 with
          | true => exact ⟨_, rfl, (fun h => by cases h), h10 rfl⟩
          | false => exact no
        rw [if_neg h8]
        by_cases h9 : 0 ≤ q
        · rw [if_pos h9]
          obtain ⟨⟨r1, r2⟩, h10, h11⟩ := segments_spec hN hb hl (g := g) (i := q) (by omega) (by omega) (by omega) (by omega)
          rw [h10, Option.bind_some]
          cases r1 with
          | true => exact ⟨_, rfl, (fun h => by cases h), h11 rfl⟩
          | false => exact no
        · rw [if_neg h9]
          exact ⟨_, rfl, (fun h => by cases h), _, (by decide), GInv.nil⟩
    · rw [if_neg h4]; exact no
  exact tail _
end Go.Proofs.Ytakplhfiohjcmaa.AI
