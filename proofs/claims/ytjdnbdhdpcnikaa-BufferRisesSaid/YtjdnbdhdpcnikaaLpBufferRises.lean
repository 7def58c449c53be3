/- The plain law of BufferRises. -/
import Derived.Test.YtjdnbdhdpcnikaaBU3
set_option linter.unusedVariables false
set_option linter.unusedSimpArgs false
namespace Go.Proofs.Ytjdnbdhdpcnikaa.AI
theorem Each_L2 {N : Nat} {l : List Int} (hl : l.length ≤ 1000) {v : Int} : ∀ (d k n : Nat) (c : Nat), k + d = l.length → d < n → c ≤ k → ref17_Each_L2 N l v n c k = some ((c + (l.drop k).count v : Nat) : Int) := by
  intro d
  induction d with
  | zero =>
    intro k n c hk hn hc
    obtain ⟨n, rfl⟩ : ∃ x, n = x + 1 := ⟨n - 1, by omega⟩
    rw [ref17_Each_L2, if_neg (by omega), List.drop_eq_nil_of_le (by omega)]; simp
  | succ d ih =>
    intro k n c hk hn hc
    obtain ⟨n, rfl⟩ : ∃ x, n = x + 1 := ⟨n - 1, by omega⟩
    obtain ⟨x, hx, hd⟩ := drop_cons hk
    rw [ref17_Each_L2, if_pos (by omega), at0 hx, Option.bind_some, w64 (x := (k : Int) + 1) (by omega) (by omega), w64 (x := (c : Int) + 1) (by omega) (by omega), hd, List.count_cons, show (k : Int) + 1 = ((k + 1 : Nat) : Int) by omega, show (c : Int) + 1 = ((c + 1 : Nat) : Int) by omega]
    by_cases h : x = v
    · rw [if_pos h, ih (k + 1) n (c + 1) (by omega) (by omega) (by omega), if_pos (by simp [h])]
      congr 2; omega
    · rw [if_neg h, ih (k + 1) n c (by omega) (by omega) (by omega), if_neg (by simp [h])]
      simp
theorem Each_L3 {N : Nat} (hN : 1000000000000 < N) {l : List Int} (hl : l.length ≤ 1000) : ∀ (d k n : Nat), k + d = l.length → d < n → (ref17_Each_L3 N l n k = some (.inl ()) ∧ ∀ i : Nat, k ≤ i → i < l.length → l.count (i : Int) = 1) ∨ ref17_Each_L3 N l n k = some (.inr ()) := by
  intro d
  induction d with
  | zero =>
    intro k n hk hn
    obtain ⟨n, rfl⟩ : ∃ x, n = x + 1 := ⟨n - 1, by omega⟩
    left
    rw [ref17_Each_L3, if_neg (by omega)]
    exact ⟨rfl, fun i h1 h2 => by omega⟩
  | succ d ih =>
    intro k n hk hn
    obtain ⟨n, rfl⟩ : ∃ x, n = x + 1 := ⟨n - 1, by omega⟩
    have h2 := Each_L2 (N := N) hl (v := (k : Int)) l.length 0 N 0 (by omega) (by omega) (by omega)
    rw [show ((0 : Nat) : Int) = 0 from rfl, List.drop_zero, Nat.zero_add] at h2
    rw [ref17_Each_L3, if_pos (by omega), h2, Option.bind_some]
    by_cases h : ((l.count (k : Int) : Nat) : Int) = 1
    · rw [if_pos h, w64 (by omega) (by omega), show (k : Int) + 1 = ((k + 1 : Nat) : Int) by omega]
      rcases ih (k + 1) n (by omega) (by omega) with ⟨h3, h4⟩ | h3
      · refine .inl ⟨h3, fun i hi hil => ?_⟩
        rcases Nat.lt_or_ge k i with hh | hh
        · exact h4 i hh hil
        · have : i = k := by omega
          subst this; omega
      · exact .inr h3
    · right; rw [if_neg h]
theorem Each_prm {l : List Int} (h : ∀ i : Nat, i < l.length → l.count (i : Int) = 1) : Prm l := by
  have hin : ∀ x ∈ l, 0 ≤ x ∧ x < (l.length : Int) := by
    intro x hx
    apply Classical.byContradiction
    intro hc
    have := php (A := upto l.length) (B := l.erase x) (upto_nodup _) fun a ha => by
      have h1 := upto_mem.1 ha
      have h2 := h a.toNat (by omega)
      rw [show ((a.toNat : Nat) : Int) = a by omega] at h2
      exact (List.mem_erase_of_ne (by rintro rfl; exact hc h1)).2 (List.count_pos_iff.1 (by omega))
    rw [upto_len, List.length_erase_of_mem hx] at this
    have : 0 < l.length := List.length_pos_of_mem hx
    omega
  refine ⟨List.nodup_iff_count.2 fun a => ?_, hin⟩
  by_cases ha : a ∈ l
  · have h1 := hin a ha
    have h2 := h a.toNat (by omega)
    rw [show ((a.toNat : Nat) : Int) = a by omega] at h2
    omega
  · rw [List.count_eq_zero_of_not_mem ha]; omega
theorem Each_eq {N : Nat} (hN : 1000000000000 < N) {l : List Int} (hl : l.length ≤ 1000) : (ref17_Each N l = some true ∧ Prm l) ∨ ref17_Each N l = some false := by
  have h := Each_L3 (N := N) hN hl l.length 0 N (by omega) (by omega)
  rw [show ((0 : Nat) : Int) = 0 from rfl] at h
  unfold ref17_Each
  rcases h with ⟨h1, h2⟩ | h1
  · left; rw [h1]; exact ⟨rfl, Each_prm fun i hi => h2 i (Nat.zero_le _) hi⟩
  · right; rw [h1]; rfl
theorem Ri_L2 {N : Nat} {l : List Int} (hl : l.length ≤ 1000) {f : Nat} {y : List TGlyph} (hfl : f + l.length ≤ y.length) (hyl : y.length ≤ 1000) (h : ∀ i k : Nat, i < k → k < l.length → o l k < o l i → cl y (f + i) = cl y (f + k)) {i : Nat} (hi : i < l.length) : ∀ (d k n : Nat), k + d = l.length → d < n → i < k → law17_BufferRises_L2 N f l y i n k = some (.inl ()) := by
  intro d
  induction d with
  | zero =>
    intro k n hk hn hik
    obtain ⟨n, rfl⟩ : ∃ x, n = x + 1 := ⟨n - 1, by omega⟩
    rw [law17_BufferRises_L2, if_neg (by omega)]
  | succ d ih =>
    intro k n hk hn hik
    obtain ⟨n, rfl⟩ : ∃ x, n = x + 1 := ⟨n - 1, by omega⟩
    obtain ⟨u, hu⟩ := getl (l := y) (show f + i < y.length by omega)
    obtain ⟨v, hv⟩ := getl (l := y) (show f + k < y.length by omega)
    have nx := ih (k + 1) n (by omega) (by omega) (by omega)
    rw [show ((k + 1 : Nat) : Int) = (k : Int) + 1 by omega] at nx
    rw [law17_BufferRises_L2, if_pos (by omega), at0 (o_get hi), Option.bind_some, at0 (o_get (show k < l.length by omega)), Option.bind_some, w64 (x := (k : Int) + 1) (by omega) (by omega)]
    by_cases h1 : o l k < o l i
    · rw [if_pos h1, w64 (x := (f : Int) + (i : Int)) (by omega) (by omega), w64 (x := (f : Int) + (k : Int)) (by omega) (by omega), at1 (k := f + i) (by omega) hu, Option.bind_some, at1 (k := f + k) (by omega) hv, Option.bind_some]
      have := h i k hik (by omega) h1
      rw [cl_at hu, cl_at hv] at this
      rw [if_pos this]; exact nx
    · rw [if_neg h1]; exact nx
theorem Ri_L3 {N : Nat} (hN : 1000000000000 < N) {l : List Int} (hl : l.length ≤ 1000) {f : Nat} {y : List TGlyph} (hfl : f + l.length ≤ y.length) (hyl : y.length ≤ 1000) (h : ∀ i k : Nat, i < k → k < l.length → o l k < o l i → cl y (f + i) = cl y (f + k)) : ∀ (d k n : Nat), k + d = l.length → d < n → law17_BufferRises_L3 N f l y n k = some (.inl ()) := by
  intro d
  induction d with
  | zero =>
    intro k n hk hn
    obtain ⟨n, rfl⟩ : ∃ x, n = x + 1 := ⟨n - 1, by omega⟩
    rw [law17_BufferRises_L3, if_neg (by omega)]
  | succ d ih =>
    intro k n hk hn
    obtain ⟨n, rfl⟩ : ∃ x, n = x + 1 := ⟨n - 1, by omega⟩
    have h2 := Ri_L2 (N := N) hl hfl hyl h (show k < l.length by omega) (l.length - (k + 1)) (k + 1) N (by omega) (by omega) (by omega)
    rw [law17_BufferRises_L3, if_pos (by omega), w64 (x := (k : Int) + 1) (by omega) (by omega), show (k : Int) + 1 = ((k + 1 : Nat) : Int) by omega, h2, Option.bind_some]
    exact ih (k + 1) n (by omega) (by omega)
theorem BufferRises_plain {N : Nat} (hN : 1000000000000 < N) {l : List TGlyph} {a n : Int} {ids od : List Int} : law17_BufferRises N l a n ids od = some true := by
  unfold law17_BufferRises
  by_cases h1 : 100 < (l.length : Int)
  · rw [if_pos h1]
  by_cases h2 : 100 < (ids.length : Int)
  · rw [if_neg h1, if_pos h2]
  by_cases h3 : 100 < (od.length : Int)
  · rw [if_neg h1, if_neg h2, if_pos h3]
  rw [if_neg h1, if_neg h2, if_neg h3]
  rcases Rise_eq hN (show l.length ≤ 1000000 by omega) with ⟨h4, hr⟩ | ⟨h4, _⟩
  · rw [h4, Option.bind_some, if_pos rfl]
    by_cases h5 : (l.length : Int) = 0
    · rw [if_pos h5]
    rw [if_neg h5]
    obtain ⟨m, m1, m2, m3, m4, _⟩ := Merge_rs hN (by omega : l.length ≤ 1000000) a n hr
    obtain ⟨p, p1, p2, p3, p4⟩ := Replace_rs hN hr (by omega) (a := a) (n := n) (ids := ids) (by omega)
    obtain ⟨q, q1, q2, q3, q4, q5⟩ := Order_rs hN hr (by omega) (a := a) (l := od) (by omega)
    have hpl : p.length ≤ 1000000 := by omega
    rw [m1, Option.bind_some, p1, Option.bind_some, q1, Option.bind_some]
    have rt : ∀ {y : List TGlyph}, y.length ≤ 1000000 → rs y → buffer_Rise N y = some true := fun hy hry => by
      rcases Rise_eq hN hy with ⟨h, _⟩ | ⟨_, h⟩
      · exact h
      · exact absurd hry h
    rw [rt (by omega) m3, Option.bind_some, if_pos rfl, rt hpl p2, Option.bind_some, if_pos rfl, rt (by omega) q2, Option.bind_some, if_pos rfl]
    obtain ⟨x0, hx0⟩ := getl (l := l) (show 0 < l.length by omega)
    obtain ⟨y0, hy0⟩ := getl (l := m) (show 0 < m.length by omega)
    obtain ⟨z0, hz0⟩ := getl (l := q) (show 0 < q.length by omega)
    have c1 := m4 (by omega); have c2 := q4 (by omega)
    rw [cl_at hy0, cl_at hx0] at c1
    rw [cl_at hz0, cl_at hx0] at c2
    have tail : (if (q.length : Int) = (l.length : Int) then (
                            (ref17_Each N od).bind fun y_57 =>
                            if y_57 = true then (
                              if a < 0 then (
                                some true
                              ) else (
                                if (l.length : Int) < a then (
                                  some true
                                ) else (
                                  if IntKind.i64.wrap ((l.length : Int) - a) < (od.length : Int) then (
                                    some true
                                  ) else (
                                    (law17_BufferRises_L3 N a od q N 0).bind fun o_1068 => match o_1068 with
                                    | .inl _ => (
                                      some true
                                    )
                                    | .inr (_) => (
                                      some false
                                    )
                                  )
                                )
                              )
                            ) else (
                              some true
                            )
                          ) else (
                            some false
                          )) = some true := by
      rw [if_pos (by omega)]
      rcases Each_eq hN (show od.length ≤ 1000 by omega) with ⟨e1, e2⟩ | e1
      · rw [e1, Option.bind_some, if_pos rfl]
        by_cases g1 : a < 0
        · rw [if_pos g1]
        by_cases g2 : (l.length : Int) < a
        · rw [if_neg g1, if_pos g2]
        rw [if_neg g1, if_neg g2, w64 (by omega) (by omega)]
        by_cases g3 : (l.length : Int) - a < (od.length : Int)
        · rw [if_pos g3]
        rw [if_neg g3]
        obtain ⟨f, rfl⟩ := Int.eq_ofNat_of_zero_le (show 0 ≤ a by omega)
        have := q5 (by omega) (by omega) e2
        rw [Int.toNat_natCast] at this
        have h3 := Ri_L3 hN (show od.length ≤ 1000 by omega) (f := f) (y := q) (by omega) (by omega) this od.length 0 N (by omega) (by omega)
        rw [show ((0 : Nat) : Int) = 0 from rfl] at h3
        rw [h3]; rfl
      · rw [e1]; rfl
    rw [show atI m 0 = some y0 from at0 hy0, Option.bind_some, show atI l 0 = some x0 from at0 hx0, Option.bind_some, if_pos c1, show atI q 0 = some z0 from at0 hz0]
    by_cases h6 : 0 < (p.length : Int)
    · obtain ⟨u0, hu0⟩ := getl (l := p) (show 0 < p.length by omega)
      have c3 := p3 (by omega) (by omega)
      rw [cl_at hu0, cl_at hx0] at c3
      rw [if_pos h6, show atI p 0 = some u0 from at0 hu0, Option.bind_some, if_pos c3, Option.bind_some, if_pos c2]
      exact tail
    · rw [if_neg h6, Option.bind_some, if_pos c2]
      exact tail
  · rw [h4]; rfl
end Go.Proofs.Ytjdnbdhdpcnikaa.AI
