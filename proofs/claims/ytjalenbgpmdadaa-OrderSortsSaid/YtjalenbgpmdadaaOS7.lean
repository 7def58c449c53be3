/- Part of a proof. -/
import Derived.Test.YtjalenbgpmdadaaOS6
set_option linter.unusedVariables false
set_option linter.unusedSimpArgs false
set_option maxRecDepth 100000
namespace Go.Proofs.Ytjalenbgpmdadaa.AI
def Pm (n : Nat) (Z : List Int) : Prop := Z.length = n ∧ Z.Nodup ∧ (∀ x ∈ Z, 0 ≤ x ∧ x < (n : Int)) ∧ ∀ k : Nat, k < n → (k : Int) ∈ Z
theorem blk_L1 {N : Nat} {Z : List Int} {n : Nat} (hn0 : n ≤ 1000) (hZ : Pm n Z) : ∀ (d k m : Nat) (s : List Bool), k + d = n → d < m → s.length = n → (∀ x ∈ Z.drop k, s[x.toNat]? = some false) → buffer_Blocks_row_L1 N Z m k s = some (.inl ()) := by
 intro d
 induction d with
 | zero =>
  intro k m s hk hm hs h
  obtain ⟨m, rfl⟩ : ∃ x, m = x + 1 := ⟨m - 1, by omega⟩
  have := hZ.1
  rw [buffer_Blocks_row_L1, if_neg (by omega)]
 | succ d ih =>
  intro k m s hk hm hs h
  obtain ⟨m, rfl⟩ : ∃ x, m = x + 1 := ⟨m - 1, by omega⟩
  have hl := hZ.1
  have hkl : k < Z.length := by omega
  have hx : Z[k]? = some Z[k] := List.getElem?_eq_getElem hkl
  have hd : Z.drop k = Z[k] :: Z.drop (k + 1) := List.drop_eq_getElem_cons hkl
  rw [hd] at h
  have hnd : (Z[k] :: Z.drop (k + 1)).Nodup := by rw [← hd]; exact hZ.2.1.sublist (List.drop_sublist _ _)
  generalize hz : Z[k] = z at *
  obtain ⟨h0, h1⟩ := hZ.2.2.1 z (List.mem_of_getElem? hx)
  obtain ⟨e, rfl⟩ := Int.eq_ofNat_of_zero_le h0
  have hf := h e (by simp)
  rw [Int.toNat_natCast] at hf
  rw [buffer_Blocks_row_L1, if_pos (by omega), atI_at hx, Option.bind_some, if_neg (by omega), if_neg (by omega), atI_at hf, Option.bind_some, if_neg (by simp), wk (by omega), Int.toNat_natCast]
  refine ih (k + 1) m _ (by omega) (by omega) (by simpa using hs) (fun x hx => ?_)
  have hne : (e : Int) ≠ x := fun q => (List.nodup_cons.1 hnd).1 (q ▸ hx)
  have hx0 := (hZ.2.2.1 x (List.mem_of_mem_drop hx)).1
  rw [List.getElem?_set_ne (by omega)]
  exact h x (by simp [hx])
theorem blk_L2 {N : Nat} {Z : List Int} {n : Nat} (hn0 : n ≤ 1000) (hZ : Pm n Z) : ∀ (d k m : Nat) (a far : Int) (s : List TArr2_I64), k + d = n → d < m → s.length ≤ k → far < (n : Int) → (∀ x ∈ Z.take k, x ≤ far) → ∃ r, buffer_Blocks_row_L2 N Z m a far k s = some r ∧ r.length ≤ n ∧ s.length ≤ r.length ∧ (d ≠ 0 → r.length ≠ 0) := by
 intro d
 induction d with
 | zero =>
  intro k m a far s hk hm hs h1 h2
  obtain ⟨m, rfl⟩ : ∃ x, m = x + 1 := ⟨m - 1, by omega⟩
  have := hZ.1
  rw [buffer_Blocks_row_L2, if_neg (by omega)]
  exact ⟨s, rfl, by omega, by omega, fun h => absurd rfl h⟩
 | succ d ih =>
  intro k m a far s hk hm hs h1 h2
  obtain ⟨m, rfl⟩ : ∃ x, m = x + 1 := ⟨m - 1, by omega⟩
  have hl := hZ.1
  have hkl : k < Z.length := by omega
  have hx : Z[k]? = some Z[k] := List.getElem?_eq_getElem hkl
  have ht : Z.take (k + 1) = Z.take k ++ [Z[k]] := (List.take_append_getElem hkl).symm
  generalize hz : Z[k] = z at *
  obtain ⟨h0, h1'⟩ := hZ.2.2.1 z (List.mem_of_getElem? hx)
  have h2' : ∀ x ∈ Z.take (k + 1), x ≤ max far z := by
   intro x hx
   rw [ht] at hx
   rcases List.mem_append.1 hx with hx | hx
   ·
    have := h2 x hx; omega
   ·
    have := List.mem_singleton.1 hx; omega
  rw [buffer_Blocks_row_L2, if_pos (by omega), atI_at hx, Option.bind_some, wk (by omega)]
  by_cases g : max far z = (k : Int)
  ·
   rw [if_pos g, if_pos (by omega)]
   obtain ⟨r, e, r1, r2, r3⟩ := ih (k + 1) m ((k + 1 : Nat) : Int) (max far z) (s ++ [TArr2_I64.mk a ((k + 1 : Nat) : Int)]) (by omega) (by omega) (by simp; omega) (by omega) h2'
   simp only [List.length_append, List.length_cons, List.length_nil] at r2
   exact ⟨r, e, r1, by omega, fun _ => by omega⟩
  ·
   rw [if_neg g]
   obtain ⟨r, e, r1, r2, r3⟩ := ih (k + 1) m a (max far z) s (by omega) (by omega) (by omega) (by omega) h2'
   refine ⟨r, e, r1, r2, fun _ => ?_⟩
   by_cases hd : d = 0
   ·
    have hm' := hZ.2.2.2 k (by omega)
    have hall : Z.take (k + 1) = Z := List.take_of_length_le (by omega)
    rw [hall] at h2'
    have := h2' _ hm'
    omega
   ·
    exact r3 hd
theorem blocks_eq {N : Nat} (hN : 1000000000000 < N) {Z : List Int} {n : Nat} (hn0 : n ≤ 1000) (hZ : Pm n Z) : ∃ r, buffer_Blocks_row N Z = some r ∧ r.length ≤ n ∧ (n ≠ 0 → r.length ≠ 0) := by
 have hl := hZ.1
 unfold buffer_Blocks_row
 rw [if_pos (by omega), if_pos (by omega), show buffer_Blocks_row_L1 N Z N 0 (List.replicate Z.length false) = some (.inl ()) from blk_L1 hn0 hZ n 0 N _ (by omega) (by omega) (by simp [hl]) (fun x hx => by
  have := hZ.2.2.1 x (by simpa using hx)
  rw [List.getElem?_replicate, if_pos (by omega)]), Option.bind_some]
 obtain ⟨r, e, r1, r2, r3⟩ := blk_L2 (N := N) hn0 hZ n 0 N 0 (-1) [] (by omega) (by omega) (by simp) (by omega) (by simp)
 simp only
 rw [show buffer_Blocks_row_L2 N Z N 0 (-1) 0 [] = some r from e]
 exact ⟨r, rfl, r1, r3⟩
theorem ord_L1 {N : Nat} (hN : 1000000000000 < N) {b : List TArr2_I64} {l0 l : List TGlyph} {Z : List Int} (hl : l.length ≤ 1000) (hb : b.length ≤ 1000) : ∀ (d k n : Nat) (s : List TGlyph), k + d = b.length → d < n → Sm l s → ∃ r, buffer_Order_row_L1 N 0 b l0 Z n k s = some r ∧ Sm l r := by
 intro d
 induction d with
 | zero =>
  intro k n s hk hn hs
  obtain ⟨n, rfl⟩ : ∃ x, n = x + 1 := ⟨n - 1, by omega⟩
  rw [buffer_Order_row_L1, if_neg (by omega)]
  exact ⟨s, rfl, hs⟩
 | succ d ih =>
  intro k n s hk hn hs
  obtain ⟨n, rfl⟩ : ∃ x, n = x + 1 := ⟨n - 1, by omega⟩
  obtain ⟨x, hx⟩ := getl (show k < b.length by omega)
  rw [buffer_Order_row_L1, if_pos (by omega), atI_at hx, Option.bind_some, wk (by omega)]
  split
  ·
   obtain ⟨m, e, hm⟩ := merge_sm hN (l := s) (by have := hs.1; omega) (IntKind.i64.wrap (0 + x.e0)) (IntKind.i64.wrap (0 + x.e1))
   rw [e, Option.bind_some]
   exact ih (k + 1) n m (by omega) (by omega) (hs.trans hm)
  ·
   exact ih (k + 1) n s (by omega) (by omega) hs
theorem ord_L2 {N : Nat} {Z : List Int} {l0 y : List TGlyph} {n : Nat} (hn0 : n ≤ 1000) (hZ : Pm n Z) (hy : y.length = n) : ∀ (d k m : Nat) (s : List TGlyph), k + d = n → d < m → s.length = n → (∀ (j : Nat) (z : Int), j < k → Z[j]? = some z → s[j]? = y[z.toNat]?) → ∃ r, buffer_Order_row_L2 N 0 Z l0 y m k s = some r ∧ r.length = n ∧ ∀ (j : Nat) (z : Int), Z[j]? = some z → r[j]? = y[z.toNat]? := by
 intro d
 induction d with
 | zero =>
  intro k m s hk hm hs h
  obtain ⟨m, rfl⟩ : ∃ x, m = x + 1 := ⟨m - 1, by omega⟩
  have := hZ.1
  rw [buffer_Order_row_L2, if_neg (by omega)]
  exact ⟨s, rfl, hs, fun j z hz => h j z (by have := (List.getElem?_eq_some_iff.1 hz).1; omega) hz⟩
 | succ d ih =>
  intro k m s hk hm hs h
  obtain ⟨m, rfl⟩ : ∃ x, m = x + 1 := ⟨m - 1, by omega⟩
  have hl := hZ.1
  obtain ⟨z, hz⟩ := getl (show k < Z.length by omega)
  obtain ⟨h0, h1⟩ := hZ.2.2.1 z (List.mem_of_getElem? hz)
  obtain ⟨e, rfl⟩ := Int.eq_ofNat_of_zero_le h0
  obtain ⟨x, hx⟩ := getl (show e < y.length by omega)
  obtain ⟨x2, hx2⟩ := getl (show k < s.length by omega)
  rw [buffer_Order_row_L2, if_pos (by omega), atI_at hz, Option.bind_some, w64 (x := 0 + (e : Int)) (by omega) (by omega), Int.zero_add, atI_at hx, Option.bind_some, w64 (x := 0 + (k : Int)) (by omega) (by omega), Int.zero_add, atI_at hx2, Option.bind_some, wk (by omega), Int.toNat_natCast]
  refine ih (k + 1) m _ (by omega) (by omega) (by simpa using hs) (fun j z hj hz' => ?_)
  by_cases g : j = k
  ·
   subst g
   rw [hz] at hz'; cases hz'
   rw [List.getElem?_set_self (by omega), Int.toNat_natCast, hx]
  ·
   rw [List.getElem?_set_ne (fun q => g q.symm)]
   exact h j z (by omega) hz'
theorem order_eq {N : Nat} (hN : 1000000000000 < N) {l : List TGlyph} {Z : List Int} {n : Nat} (hn0 : n ≤ 1000) (hl : l.length = n) (hZ : Pm n Z) : ∃ r y, buffer_Order_row N l 0 Z = some r ∧ r.length = n ∧ Sm l y ∧ ∀ (j : Nat) (z : Int), Z[j]? = some z → r[j]? = y[z.toNat]? := by
 have hzl := hZ.1
 unfold buffer_Order_row
 obtain ⟨b, eb, b1, b2⟩ := blocks_eq hN hn0 hZ
 rw [eb, Option.bind_some, cloneG (by omega), Option.bind_some, if_neg (by omega), if_neg (by omega), w64 (by omega) (by omega), if_neg (by omega)]
 by_cases g : n = 0
 ·
  have : Z = [] := List.eq_nil_of_length_eq_zero (by omega)
  subst this
  have : b = [] := List.eq_nil_of_length_eq_zero (by omega)
  subst this
  rw [if_pos (by simp)]
  exact ⟨l, l, rfl, hl, Sm.refl l, fun j z h => by simp at h⟩
 ·
  have := b2 g
  rw [if_neg (by omega)]
  obtain ⟨y, e1, hy⟩ := ord_L1 hN (b := b) (l0 := l) (l := l) (Z := Z) (by omega) (by omega) b.length 0 N l (by omega) (by omega) (Sm.refl l)
  have hyl := hy.1
  obtain ⟨r, e2, hr, h⟩ := ord_L2 (N := N) (l0 := l) (y := y) hn0 hZ (by omega) n 0 N y (by omega) (by omega) (by omega) (fun j z hj => by omega)
  rw [show buffer_Order_row_L1 N 0 b l Z N 0 l = some y from e1, Option.bind_some, cloneG (by omega), Option.bind_some, show buffer_Order_row_L2 N 0 Z l y N 0 y = some r from e2]
  exact ⟨r, y, rfl, hr, hy, h⟩
def ups (n : Nat) : List Int := (List.range n).map (fun (k : Nat) => (k : Int))
theorem ups_len (n : Nat) : (ups n).length = n := by simp [ups]
theorem ups_succ (n : Nat) : ups (n + 1) = ups n ++ [(n : Int)] := by simp [ups, List.range_succ]
theorem ups_mem {n : Nat} {x : Int} : x ∈ ups n ↔ 0 ≤ x ∧ x < (n : Int) := by
 unfold ups
 rw [List.mem_map]
 constructor
 ·
  rintro ⟨k, hk, rfl⟩
  have := List.mem_range.1 hk
  omega
 ·
  rintro ⟨h0, h1⟩
  exact ⟨x.toNat, List.mem_range.2 (by omega), by omega⟩
theorem ups_asc (n : Nat) : asc (ups n) := by
 unfold asc
 induction n with
 | zero => simp [ups]
 | succ n ih =>
  rw [ups_succ, List.pairwise_append]
  refine ⟨ih, by simp, fun a ha b hb => ?_⟩
  have := ups_mem.1 ha
  have := List.mem_singleton.1 hb
  omega
theorem sort_L1 {N : Nat} {l : List TGlyph} {a : Int} {ks : List Int} (hl : ks.length ≤ 1000) : ∀ (d n k : Nat), k + d = ks.length → d < n → buffer_Sort_row_L1 N a ks l n k (ups k) = some (ups ks.length) := by
 intro d
 induction d with
 | zero =>
  intro n k hk hn
  obtain ⟨n, rfl⟩ : ∃ x, n = x + 1 := ⟨n - 1, by omega⟩
  rw [buffer_Sort_row_L1, if_neg (by omega), show k = ks.length by omega]
 | succ d ih =>
  intro n k hk hn
  obtain ⟨n, rfl⟩ : ∃ x, n = x + 1 := ⟨n - 1, by omega⟩
  rw [buffer_Sort_row_L1, if_pos (by omega), if_pos (by rw [ups_len]; omega), wk (by omega), ← ups_succ]
  exact ih n (k + 1) (by omega) (by omega)
theorem pm_of {n : Nat} {Z : List Int} (h : Z.Perm (ups n)) : Pm n Z := by
 refine ⟨by rw [h.length_eq, ups_len], ?_, fun x hx => ups_mem.1 (h.mem_iff.1 hx), fun k hk => h.mem_iff.2 (ups_mem.2 ⟨by omega, by omega⟩)⟩
 have hn : (ups n).Nodup := (ups_asc n).imp fun h => by omega
 exact h.nodup_iff.2 hn
theorem gsort_eq {N : Nat} (hN : 1000000000000 < N) {l : List TGlyph} {ks : List Int} (hl : l.length ≤ 1000) (hk : ks.length = l.length) : ∃ r y Z, buffer_Sort_row N l 0 (l.length : Int) ks = some r ∧ r.length = l.length ∧ Sm l y ∧ Pm l.length Z ∧ srt ks Z ∧ ∀ (j : Nat) (z : Int), Z[j]? = some z → r[j]? = y[z.toNat]? := by
 unfold buffer_Sort_row
 have e1 : buffer_Sort_row_L1 N 0 ks l N 0 [] = some (ups ks.length) := sort_L1 (by omega) ks.length N 0 (by omega) (by omega)
 obtain ⟨Z, e2, hp, hs⟩ := sort_eq hN (l := ks) (D := ups ks.length) (L := []) (R := []) (F := 0) (T := ks.length) (by omega) rfl (by simp [ups_len]) (fun e he => ups_mem.1 he) (ups_asc _)
 have hz := hp.length_eq
 rw [ups_len] at hz
 have hP := pm_of hp
 rw [hk] at hP
 obtain ⟨r, y, e3, hr, hy, h⟩ := order_eq hN (l := l) (by omega) rfl hP
 have e2' : slices_SortStableFunc_intint_row N (ups ks.length) 0 ((ups ks.length).length : Int) ks = some Z := by
  rw [ups_len]
  simpa using e2
 rw [if_neg (by omega), if_neg (by omega), if_neg (by omega), w64 (by omega) (by omega), if_pos (by omega), e1, Option.bind_some, e2', Option.bind_some, if_pos (by rw [ups_len]; omega), e3]
 exact ⟨r, y, Z, rfl, hr, hy, hP, hs, h⟩
end Go.Proofs.Ytjalenbgpmdadaa.AI
