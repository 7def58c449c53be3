/- Plain law of GposMay. -/
import Derived.Test.YtfacmhngbaboiaaHP4
set_option linter.unusedVariables false
set_option linter.unusedSimpArgs false
set_option maxRecDepth 100000
namespace Go.Proofs.Ytfacmhngbaboiaa.AI
theorem pCount_L1 {N : Nat} {l : List TSpan} (hR : RL 0 l) (hl : l.length ≤ 65536) : ∀ (d k n : Nat) (c : Int), k + d = l.length → d < n → 0 ≤ c → c + cnt (l.drop k) ≤ 1000000 →
  ref12_Count_L1 N l n c k = some (c + cnt (l.drop k)) := by
 intro d
 induction d with
 | zero =>
  intro k n c hk hn h0 hs
  obtain ⟨n, rfl⟩ : ∃ x, n = x + 1 := ⟨n - 1, by omega⟩
  rw [ref12_Count_L1, if_neg (by omega), List.drop_eq_nil_of_le (by omega)]; simp [cnt]
 | succ d ih =>
  intro k n c hk hn h0 hs
  obtain ⟨n, rfl⟩ : ∃ x, n = x + 1 := ⟨n - 1, by omega⟩
  have hkl : k < l.length := by omega
  have hx := RL.lows hR l[k] (List.getElem_mem hkl)
  have hc := cnt_parts hR (k + 1)
  rw [ref12_Count_L1, if_pos (by omega), atI_at (List.getElem?_eq_getElem hkl), Option.bind_some]
  rw [List.drop_eq_getElem_cons hkl] at hs ⊢
  simp only [cnt] at hs ⊢
  rw [w64 (x := c + l[k].To) (by omega) (by omega), w64 (x := c + l[k].To - l[k].From) (by omega) (by omega), w64 (x := c + l[k].To - l[k].From + 1) (by omega) (by omega), w64 (x := (k : Int) + 1) (by omega) (by omega), show (k : Int) + 1 = ((k + 1 : Nat) : Int) by omega,
   ih (k + 1) n _ (by omega) (by omega) (by omega) (by omega)]
  exact congrArg some (by omega)
theorem pCount_eq {N : Nat} (hN : 1000000000000 < N) {l : List TSpan} (hR : RL 0 l) : ref12_Count N l = some (cnt l) := by
 unfold ref12_Count
 have hc := cnt_parts hR 0
 have hl := hR.l6
 have h := pCount_L1 (N := N) hR hl l.length 0 N 0 (by omega) (by omega) (by omega) (by rw [List.drop_zero]; omega)
 rw [List.drop_zero] at h
 rw [show ref12_Count_L1 N l N 0 0 = _ from h, Option.bind_some]
 exact congrArg some (by omega)
section
variable {N : Nat} {k dd : Int} {c base : List TSpan} {al : Bool} {o : List (List Int)} {l : List (List TLig)} {r : List TCtx} {vals : List TValue} {pairs grid : List (List TTwo)} {first second : List TClass} {curs : List TArr2_TAnchor} {marks : List TMark} {bases : List (List (List TAnchor))}
theorem hm_L1 {w : Int} (h1 : 1 ≤ w) (h2 : w ≤ 64) (hl : grid.length ≤ 1000) (hg : ∀ x ∈ grid, (x.length : Int) = w) : ∀ (d i n : Nat), i + d = grid.length → d < n → law13_GposMay_L1 N k c al dd o l r vals pairs first second grid curs marks base bases n i = some (.inl ()) := by
 intro d
 induction d with
 | zero =>
  intro i n hi hn
  obtain ⟨n, rfl⟩ : ∃ x, n = x + 1 := ⟨n - 1, by omega⟩
  rw [law13_GposMay_L1, if_neg (by omega)]
 | succ d ih =>
  intro i n hi hn
  obtain ⟨n, rfl⟩ : ∃ x, n = x + 1 := ⟨n - 1, by omega⟩
  have hil : i < grid.length := by omega
  have a0 : atI grid 0 = some (grid[0]'(by omega)) := atI_at (k := 0) (List.getElem?_eq_getElem (by omega))
  have e1 := hg grid[i] (List.getElem_mem hil)
  have e2 := hg (grid[0]'(by omega)) (List.getElem_mem _)
  rw [law13_GposMay_L1, if_pos (by omega), atI_at (List.getElem?_eq_getElem hil), Option.bind_some, a0, Option.bind_some, if_pos (by omega), if_neg (by omega), if_neg (by omega), w64 (x := (i : Int) + 1) (by omega) (by omega), show (i : Int) + 1 = ((i + 1 : Nat) : Int) by omega]
  exact ih (i + 1) n (by omega) (by omega)
theorem hm_L6 {i j : Nat} {x : List (List TAnchor)} {y : List TAnchor} (hx : bases[i]? = some x) (hy : x[j]? = some y) (hl : marks.length ≤ 1000000) (hm : ∀ z ∈ marks, 0 ≤ z.Class ∧ z.Class < (y.length : Int) ∧ z.At.Is = true) : ∀ (d q n : Nat), q + d = marks.length → d < n → law13_GposMay_L6 N (i : Int) (j : Int) k c al dd o l r vals pairs first second grid curs marks base bases n q = some (.inl ()) := by
 intro d
 induction d with
 | zero =>
  intro q n hi hn
  obtain ⟨n, rfl⟩ : ∃ x, n = x + 1 := ⟨n - 1, by omega⟩
  rw [law13_GposMay_L6, if_neg (by omega)]
 | succ d ih =>
  intro q n hi hn
  obtain ⟨n, rfl⟩ : ∃ x, n = x + 1 := ⟨n - 1, by omega⟩
  have hql : q < marks.length := by omega
  have e := hm marks[q] (List.getElem_mem hql)
  rw [law13_GposMay_L6, if_pos (by omega), atI_at (List.getElem?_eq_getElem hql), Option.bind_some, if_neg (by omega), atI_at hx, Option.bind_some, atI_at hy, Option.bind_some, if_neg (by omega), if_pos e.2.2, w64 (x := (q : Int) + 1) (by omega) (by omega), show (q : Int) + 1 = ((q + 1 : Nat) : Int) by omega]
  exact ih (q + 1) n (by omega) (by omega)
theorem hm_L7 (hN : 1000000000000 < N) {i : Nat} {x : List (List TAnchor)} {w : Int} (hx : bases[i]? = some x) (hxl : x.length ≤ 1000) (hy : ∀ y ∈ x, (y.length : Int) = w) (hl : marks.length ≤ 1000000) (hm : ∀ z ∈ marks, 0 ≤ z.Class ∧ z.Class < w ∧ z.At.Is = true) : ∀ (d j n : Nat), j + d = x.length → d < n → law13_GposMay_L7 N (i : Int) k c al dd o l r vals pairs first second grid curs marks base bases n j = some (.inl ()) := by
 intro d
 induction d with
 | zero =>
  intro j n hi hn
  obtain ⟨n, rfl⟩ : ∃ x, n = x + 1 := ⟨n - 1, by omega⟩
  rw [law13_GposMay_L7, atI_at hx, Option.bind_some, if_neg (by omega)]
 | succ d ih =>
  intro j n hi hn
  obtain ⟨n, rfl⟩ : ∃ x, n = x + 1 := ⟨n - 1, by omega⟩
  have hjl : j < x.length := by omega
  have e := hy x[j] (List.getElem_mem hjl)
  rw [law13_GposMay_L7, atI_at hx, Option.bind_some, if_pos (by omega)]
  have h6 := hm_L6 (N := N) (k := k) (dd := dd) (c := c) (base := base) (al := al) (o := o) (l := l) (r := r) (vals := vals) (pairs := pairs) (grid := grid) (first := first) (second := second) (curs := curs) hx (List.getElem?_eq_getElem hjl) hl (fun z hz => by rw [e]; exact hm z hz) marks.length 0 N (by omega) (by omega)
  rw [show law13_GposMay_L6 N (i : Int) (j : Int) k c al dd o l r vals pairs first second grid curs marks base bases N 0 = _ from h6, Option.bind_some]
  dsimp only
  rw [w64 (x := (j : Int) + 1) (by omega) (by omega), show (j : Int) + 1 = ((j + 1 : Nat) : Int) by omega]
  exact ih (j + 1) n (by omega) (by omega)
theorem hm_L8 (hN : 1000000000000 < N) {w : Int} (hbl : bases.length ≤ 1000000) (hb : ∀ x ∈ bases, x.length ≤ 16 ∧ 1 ≤ x.length ∧ (k ≠ 15 → x.length = 1) ∧ ∀ y ∈ x, (y.length : Int) = w) (hl : marks.length ≤ 1000000) (hm : ∀ z ∈ marks, 0 ≤ z.Class ∧ z.Class < w ∧ z.At.Is = true) : ∀ (d i n : Nat), i + d = bases.length → d < n → law13_GposMay_L8 N k c al dd o l r vals pairs first second grid curs marks base bases n i = some (.inl ()) := by
 intro d
 induction d with
 | zero =>
  intro i n hi hn
  obtain ⟨n, rfl⟩ : ∃ x, n = x + 1 := ⟨n - 1, by omega⟩
  rw [law13_GposMay_L8, if_neg (by omega)]
 | succ d ih =>
  intro i n hi hn
  obtain ⟨n, rfl⟩ : ∃ x, n = x + 1 := ⟨n - 1, by omega⟩
  have hil : i < bases.length := by omega
  have e := hb bases[i] (List.getElem_mem hil)
  have h7 := hm_L7 (N := N) (k := k) (dd := dd) (c := c) (base := base) (al := al) (o := o) (l := l) (r := r) (vals := vals) (pairs := pairs) (grid := grid) (first := first) (second := second) (curs := curs) hN (List.getElem?_eq_getElem hil) (by omega) e.2.2.2 hl hm bases[i].length 0 N (by omega) (by omega)
  have h7' : law13_GposMay_L7 N (i : Int) k c al dd o l r vals pairs first second grid curs marks base bases N 0 = some (.inl ()) := h7
  rw [law13_GposMay_L8, if_pos (by omega), atI_at (List.getElem?_eq_getElem hil), Option.bind_some, if_neg (by omega), if_neg (by omega)]
  have nx : law13_GposMay_L8 N k c al dd o l r vals pairs first second grid curs marks base bases n (IntKind.i64.wrap ((i : Int) + 1)) = some (.inl ()) := by
   rw [w64 (x := (i : Int) + 1) (by omega) (by omega), show (i : Int) + 1 = ((i + 1 : Nat) : Int) by omega]
   exact ih (i + 1) n (by omega) (by omega)
  by_cases h15 : k = 15
  ·
   rw [if_pos h15, h7', Option.bind_some]; exact nx
  ·
   rw [if_neg h15, if_pos (by have := e.2.2.1 h15; omega), h7', Option.bind_some]; exact nx
end
theorem gposMay_plain {N : Nat} (hN : 1000000000000 < N) {b : List Int} (hb : Bytes b) (p k0 : Int) : law13_GposMay N b p k0 = some true := by
 unfold law13_GposMay
 by_cases g1 : 800 < (b.length : Int)
 ·
  rw [if_pos g1]
 by_cases g2 : 800 < p
 ·
  rw [if_neg g1, if_pos g2]
 by_cases g3 : p < -800
 ·
  rw [if_neg g1, if_neg g2, if_pos g3]
 rw [if_neg g1, if_neg g2, if_neg g3]
 obtain ⟨t, t', e1, e2, h1, h2⟩ := Read_2 hN hb (m := []) (by intro x hx; cases hx) (by simp only [List.append_nil]; omega) (a := p) (kd := k0) (by omega) (by omega)
 cases t with
 | none => rw [e1]; rfl
 | some y =>
  have hg := h2 y (h1 y rfl)
  obtain ⟨k, c, al, dd, o, l, r, vals, pairs, first, second, grid, curs, marks, base, bases⟩ := y
  have hg : GP k c al dd o l r vals pairs first second grid curs marks base bases := hg
  have e1' : gpos_Read N b p k0 = some (k, c, al, dd, o, l, r, vals, pairs, first, second, grid, curs, marks, base, bases, true) := e1
  rw [e1', Option.bind_some]
  simp only [if_true]
  rw [pCount_eq hN hg.rc, Option.bind_some, pCount_eq hN hg.rb, Option.bind_some]
  rcases hg.may with ⟨rfl, h | h⟩ | ⟨rfl, ⟨rfl, h⟩ | ⟨rfl, h, w, w1, w2, w3⟩⟩ | ⟨rfl, h⟩ | ⟨h, rfl⟩ | ⟨h, m1, m2, w, m3, m4⟩
  ·
   rw [if_pos rfl, if_pos h]
  ·
   rw [if_pos rfl]
   by_cases q : (vals.length : Int) = cnt c
   ·
    rw [if_pos q]
   ·
    rw [if_neg q, decide_eq_true (by omega)]
  ·
   rw [if_neg (by omega), if_pos rfl, if_pos (by rfl), decide_eq_true h]
  ·
   have hL : law13_GposMay_L1 N 12 c al dd o l r vals [] first second grid curs marks base bases N 0 = some (.inl ()) := hm_L1 w1 w2 (by have := hg.n4.1; omega) w3 grid.length 0 N (by omega) (by have := hg.n4.1; omega)
   rw [if_neg (by omega), if_pos rfl, if_neg (by omega), hL, Option.bind_some]
   dsimp only
   rw [if_pos (by rfl), decide_eq_true (by have := hg.n4.1; omega)]
  ·
   rw [if_neg (by omega), if_neg (by omega), if_pos rfl, decide_eq_true h]
  ·
   rcases h with rfl | rfl
   ·
    rfl
   ·
    rfl
  ·
   have hb6 : ∀ x ∈ bases, x.length ≤ 16 ∧ 1 ≤ x.length ∧ (k ≠ 15 → x.length = 1) ∧ ∀ y ∈ x, (y.length : Int) = w := fun x hx => ⟨(hg.n6 x hx).1, m3 x hx⟩
   have hL : law13_GposMay_L8 N k c al dd o l r vals pairs first second grid curs marks base bases N 0 = some (.inl ()) := hm_L8 hN (by have := hg.n5; omega) hb6 (by have := hg.n5; omega) m4 bases.length 0 N (by omega) (by have := hg.n5; omega)
   rcases h with rfl | rfl | rfl
   ·
    rw [if_neg (by omega), if_neg (by omega), if_neg (by omega), if_neg (by omega), if_neg (by omega), if_pos rfl, if_pos m1, if_pos m2, hL, Option.bind_some]
   ·
    rw [if_neg (by omega), if_neg (by omega), if_neg (by omega), if_neg (by omega), if_neg (by omega), if_neg (by omega), if_pos rfl, if_pos m1, if_pos m2, hL, Option.bind_some]
   ·
    rw [if_neg (by omega), if_neg (by omega), if_neg (by omega), if_neg (by omega), if_neg (by omega), if_neg (by omega), if_neg (by omega), if_pos rfl, if_pos m1, if_pos m2, hL, Option.bind_some]
end Go.Proofs.Ytfacmhngbaboiaa.AI
