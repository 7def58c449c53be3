/- Part of a proof. -/
import Derived.Test.YtjalenbgpmdadaaOS5
set_option linter.unusedVariables false
set_option linter.unusedSimpArgs false
set_option maxRecDepth 100000
namespace Go.Proofs.Ytjalenbgpmdadaa.AI
theorem split_L1 {N : Nat} {w : ByteArray} {c : Int} (hw : w.size ≤ 1000) : ∀ (d k n f : Nat) (s : List ByteArray), k + d = w.size → d < n → f ≤ k → s.length ≤ k → ∃ (f' : Nat) (r : List ByteArray), ref05_Split_L1 N w c n f k s = some ((f' : Int), r) ∧ f' ≤ w.size ∧ r.length ≤ w.size := by
 intro d
 induction d with
 | zero =>
  intro k n f s hk hn hf hs
  obtain ⟨n, rfl⟩ : ∃ x, n = x + 1 := ⟨n - 1, by omega⟩
  rw [ref05_Split_L1, if_neg (by omega)]
  exact ⟨f, s, rfl, by omega, by omega⟩
 | succ d ih =>
  intro k n f s hk hn hf hs
  obtain ⟨n, rfl⟩ : ∃ x, n = x + 1 := ⟨n - 1, by omega⟩
  have hb : w.data[(k : Int).toNat]? = some (w.data[k]'(show k < w.data.size from by have : w.data.size = w.size := rfl; omega)) := by rw [Int.toNat_natCast]; exact Array.getElem?_eq_getElem _
  rw [ref05_Split_L1, if_pos (by omega), if_pos (by omega), hb, Option.bind_some, wk (by omega)]
  split
  ·
   rw [if_pos (by omega), if_pos (by omega), if_pos (by omega), if_pos (by omega)]
   exact ih (k + 1) n (k + 1) _ (by omega) (by omega) (by omega) (by simp; omega)
  ·
   exact ih (k + 1) n f s (by omega) (by omega) (by omega) (by omega)
theorem split_tot {N : Nat} (hN : 1000000000000 < N) {w : ByteArray} (c : Int) (hw : w.size ≤ 1000) : ∃ r, ref05_Split N w c = some r ∧ r.length ≤ 1001 := by
 unfold ref05_Split
 obtain ⟨f, r, e, h1, h2⟩ := split_L1 (N := N) (c := c) hw w.size 0 N 0 [] (by omega) (by omega) (by omega) (by simp)
 rw [show ref05_Split_L1 N w c N 0 0 [] = some ((f : Int), r) from e, Option.bind_some]
 simp only
 rw [if_pos (by omega), if_pos (by omega), if_pos (by omega)]
 exact ⟨_, rfl, by simp; omega⟩
theorem of_L1 {N : Nat} {w : ByteArray} {y : List ByteArray} (hy : y.length ≤ 2000) : ∀ (d k n : Nat) (a : Int), k + d = y.length → d < n → ∃ b, ref25_Of_L1 N w y n a k = some b := by
 intro d
 induction d with
 | zero =>
  intro k n a hk hn
  obtain ⟨n, rfl⟩ : ∃ x, n = x + 1 := ⟨n - 1, by omega⟩
  rw [ref25_Of_L1, if_neg (by omega)]
  exact ⟨_, rfl⟩
 | succ d ih =>
  intro k n a hk hn
  obtain ⟨n, rfl⟩ : ∃ x, n = x + 1 := ⟨n - 1, by omega⟩
  obtain ⟨x, hx⟩ := getl (show k < y.length by omega)
  rw [ref25_Of_L1, if_pos (by omega), atI_at hx, Option.bind_some, wk (by omega)]
  split
  ·
   exact ih (k + 1) n _ (by omega) (by omega)
  ·
   exact ih (k + 1) n _ (by omega) (by omega)
theorem of_tot {N : Nat} (hN : 1000000000000 < N) (w : ByteArray) : ∃ k s l r, ref25_Of N w = some (k, s, l, r) := by
 unfold ref25_Of ref25_Tags
 generalize hq : (⟨#[100, 101, 118, 97, 32, 98, 101, 110, 103, 32, 103, 117, 114, 117, 32, 103, 117, 106, 114, 32, 111, 114, 121, 97, 32, 116, 97, 109, 108, 32, 116, 101, 108, 117, 32, 107, 110, 100, 97, 32, 109, 108, 121, 109, 32, 115, 105, 110, 104, 32, 106, 97, 118, 97, 32, 98, 97, 108, 105, 32, 99, 104, 97, 109, 32, 108, 97, 110, 97, 32, 116, 105, 98, 116, 32, 107, 104, 109, 114, 32, 109, 121, 109, 114, 32, 97, 114, 97, 98, 32, 115, 121, 114, 99, 32, 109, 111, 110, 103, 32, 116, 104, 97, 97, 32, 104, 97, 110, 103]⟩ : ByteArray) = t
 have ht : t.size ≤ 1000 := by subst hq; decide
 obtain ⟨y, ey, hy⟩ := split_tot hN 32 ht
 obtain ⟨a, ea⟩ := of_L1 (N := N) (w := w) (y := y) (by omega) y.length 0 N (-1) (by omega) (by omega)
 rw [ey, Option.bind_some, Option.bind_some, show ref25_Of_L1 N w y N (-1) 0 = some a from ea, Option.bind_some]
 by_cases g : a < 0
 ·
  rw [if_pos g]; exact ⟨_, _, _, _, rfl⟩
 ·
  rw [if_neg g]
  by_cases g9 : a < 9
  ·
   rw [if_pos g9]
   obtain ⟨k, rfl⟩ := Int.eq_ofNat_of_zero_le (show 0 ≤ a by omega)
   obtain ⟨x, hx⟩ := getl (l := ([8, 5, 5, 8, 4, 9, 9, 9, 4] : List Int)) (k := k) (by simp; omega)
   rw [atI_at hx, Option.bind_some]; exact ⟨_, _, _, _, rfl⟩
  ·
   rw [if_neg g9]
   repeat (split; · exact ⟨_, _, _, _, rfl⟩)
   exact ⟨_, _, _, _, rfl⟩
def Rn (l q : List Int) (s : List TGlyph) : Prop := ∀ (j : Nat) (x : TGlyph), s[j]? = some x → x.Id = (j : Int) ∧ l[j]? = some x.Cat ∧ x.Pos = (q[j]?).getD 0
theorem Rn.snoc {l q : List Int} {s : List TGlyph} (h : Rn l q s) {x : TGlyph} (hx : x.Id = (s.length : Int) ∧ l[s.length]? = some x.Cat ∧ x.Pos = (q[s.length]?).getD 0) : Rn l q (s ++ [x]) := by
 intro i y hy
 by_cases g : i < s.length
 ·
  rw [List.getElem?_append_left g] at hy; exact h i y hy
 ·
  have : i = s.length := by have := (List.getElem?_eq_some_iff.1 hy).1; simp at this; omega
  subst this
  simp at hy
  subst hy; exact hx
theorem run_L1 {N : Nat} {l q ks : List Int} {f b : Int} (hl : l.length ≤ 100) (hk : ks.length = l.length) (hks : ∀ (i : Nat) (k : Int), ks[i]? = some k → 0 ≤ k ∧ k ≤ 9) : ∀ (d n : Nat) (s : List TGlyph), s.length + d = l.length → d < n → Rn l q s → ∃ r, law26_OrderSorts_L1 N l q f b ks n s.length s = some (.inl r) ∧ r.length = l.length ∧ Rn l q r := by
 intro d
 induction d with
 | zero =>
  intro n s hs hn h
  obtain ⟨n, rfl⟩ : ∃ x, n = x + 1 := ⟨n - 1, by omega⟩
  rw [law26_OrderSorts_L1, if_neg (by omega)]
  exact ⟨s, rfl, by omega, h⟩
 | succ d ih =>
  intro n s hs hn h
  obtain ⟨n, rfl⟩ : ∃ x, n = x + 1 := ⟨n - 1, by omega⟩
  obtain ⟨k, hk'⟩ := getl (show s.length < ks.length by omega)
  obtain ⟨c, hc⟩ := getl (show s.length < l.length by omega)
  obtain ⟨h0, h9⟩ := hks _ _ hk'
  rw [law26_OrderSorts_L1, if_pos (by omega), atI_at hk', Option.bind_some, if_neg (by omega), if_neg (by omega), atI_at hc, Option.bind_some, wk (by omega)]
  by_cases g : (s.length : Int) < (q.length : Int)
  ·
   obtain ⟨x, hx⟩ := getl (show s.length < q.length by omega)
   rw [if_pos g, atI_at hx, Option.bind_some, if_pos (by omega)]
   have := ih n (s ++ [TGlyph.mk s.length s.length 0 0 0 c x 0 0 0 0 0 0 0]) (by simp; omega) (by omega) (h.snoc ⟨rfl, hc, by rw [hx]; rfl⟩)
   rw [List.length_append] at this
   exact this
  ·
   rw [if_neg g, if_pos (by omega)]
   have := ih n (s ++ [TGlyph.mk s.length s.length 0 0 0 c 0 0 0 0 0 0 0 0]) (by simp; omega) (by omega) (h.snoc ⟨rfl, hc, by rw [List.getElem?_eq_none (by omega)]; rfl⟩)
   rw [List.length_append] at this
   exact this
def Sm (l m : List TGlyph) : Prop := m.length = l.length ∧ ∀ (j : Nat) (y : TGlyph), m[j]? = some y → ∃ x, l[j]? = some x ∧ y.Id = x.Id ∧ y.Cat = x.Cat ∧ y.Pos = x.Pos
theorem Sm.refl (l : List TGlyph) : Sm l l := ⟨rfl, fun j y h => ⟨y, h, rfl, rfl, rfl⟩⟩
theorem Sm.trans {l m o : List TGlyph} (h : Sm l m) (h' : Sm m o) : Sm l o := ⟨h'.1.trans h.1, fun j y hy => by
 obtain ⟨x, hx, a, b, c⟩ := h'.2 j y hy
 obtain ⟨z, hz, a', b', c'⟩ := h.2 j x hx
 exact ⟨z, hz, a.trans a', b.trans b', c.trans c'⟩⟩
theorem Sm.set {l m : List TGlyph} (h : Sm l m) {k : Nat} {x y : TGlyph} (hx : m[k]? = some x) (e : y.Id = x.Id ∧ y.Cat = x.Cat ∧ y.Pos = x.Pos) : Sm l (m.set k y) := by
 refine ⟨by rw [List.length_set]; exact h.1, fun j z hz => ?_⟩
 by_cases g : j = k
 ·
  subst g
  rw [List.getElem?_set_self (List.getElem?_eq_some_iff.1 hx).1] at hz
  cases hz
  obtain ⟨w, hw, a, b, c⟩ := h.2 j x hx
  exact ⟨w, hw, e.1.trans a, e.2.1.trans b, e.2.2.trans c⟩
 ·
  rw [List.getElem?_set_ne (fun q => g q.symm)] at hz; exact h.2 j z hz
theorem mg_L1 {N : Nat} {l s : List TGlyph} {f t : Int} {y : List TGlyph} (hs : slI l f t = s) (hsl : s.length = t.toNat - f.toNat) (hl : s.length ≤ 1000) : ∀ (d k n : Nat) (c : Int), k + d = s.length → d < n → ∃ r, buffer_Merge_row_L1 N f t l y n c k = some r := by
 intro d
 induction d with
 | zero =>
  intro k n c hk hn
  obtain ⟨n, rfl⟩ : ∃ x, n = x + 1 := ⟨n - 1, by omega⟩
  rw [buffer_Merge_row_L1, if_neg (by omega)]
  exact ⟨_, rfl⟩
 | succ d ih =>
  intro k n c hk hn
  obtain ⟨n, rfl⟩ : ∃ x, n = x + 1 := ⟨n - 1, by omega⟩
  obtain ⟨x, hx⟩ := getl (show k < s.length by omega)
  rw [buffer_Merge_row_L1, if_pos (by omega), hs, atI_at hx, Option.bind_some, wk (by omega)]
  exact ih (k + 1) n _ (by omega) (by omega)
theorem mg_L2 {N : Nat} {l y : List TGlyph} {f : Nat} {t z : Int} (hl : l.length ≤ 1000) (hf : f < l.length) : ∀ (k n : Nat), k ≤ f → k < n → ∃ r : Nat, buffer_Merge_row_L2 N f t z l y n k = some (r : Int) ∧ r ≤ f := by
 intro k
 induction k with
 | zero =>
  intro n hk hn
  obtain ⟨n, rfl⟩ : ∃ x, n = x + 1 := ⟨n - 1, by omega⟩
  rw [buffer_Merge_row_L2, if_neg (by omega)]
  exact ⟨0, rfl, by omega⟩
 | succ k ih =>
  intro n hk hn
  obtain ⟨n, rfl⟩ : ∃ x, n = x + 1 := ⟨n - 1, by omega⟩
  obtain ⟨x, hx⟩ := getl (show k < l.length by omega)
  obtain ⟨x2, hx2⟩ := getl hf
  rw [buffer_Merge_row_L2, if_pos (by omega), w64 (by omega) (by omega), show ((k + 1 : Nat) : Int) - 1 = (k : Int) by omega, atI_at hx, Option.bind_some, atI_at hx2, Option.bind_some]
  split
  ·
   exact ih n (by omega) (by omega)
  ·
   exact ⟨k + 1, rfl, hk⟩
theorem mg_L3 {N : Nat} {l y : List TGlyph} {t : Nat} {z w : Int} (hl : l.length ≤ 1000) (ht : 0 < t) (ht2 : t ≤ l.length) : ∀ (d k n : Nat), k + d = l.length → d < n → ∃ r : Nat, buffer_Merge_row_L3 N t z w l y n k = some (r : Int) ∧ r ≤ l.length := by
 intro d
 induction d with
 | zero =>
  intro k n hk hn
  obtain ⟨n, rfl⟩ : ∃ x, n = x + 1 := ⟨n - 1, by omega⟩
  rw [buffer_Merge_row_L3, if_neg (by omega)]
  exact ⟨k, rfl, by omega⟩
 | succ d ih =>
  intro k n hk hn
  obtain ⟨n, rfl⟩ : ∃ x, n = x + 1 := ⟨n - 1, by omega⟩
  obtain ⟨x, hx⟩ := getl (show k < l.length by omega)
  obtain ⟨x2, hx2⟩ := getl (show t - 1 < l.length by omega)
  rw [buffer_Merge_row_L3, if_pos (by omega), atI_at hx, Option.bind_some, w64 (x := (t : Int) - 1) (by omega) (by omega), show (t : Int) - 1 = ((t - 1 : Nat) : Int) by omega, atI_at hx2, Option.bind_some, wk (by omega)]
  split
  ·
   exact ih (k + 1) n (by omega) (by omega)
  ·
   exact ⟨k, rfl, by omega⟩
theorem mg_L4 {N : Nat} {l : List TGlyph} {c : Int} {b : Nat} (hl : l.length ≤ 1000) (hb : b ≤ l.length) : ∀ (d k n : Nat) (s : List TGlyph), b ≤ k + d → d < n → Sm l s → ∃ m, buffer_Merge_row_L4 N c b l n k s = some m ∧ Sm l m := by
 intro d
 induction d with
 | zero =>
  intro k n s hk hn hs
  obtain ⟨n, rfl⟩ : ∃ x, n = x + 1 := ⟨n - 1, by omega⟩
  rw [buffer_Merge_row_L4, if_neg (by omega)]
  exact ⟨s, rfl, hs⟩
 | succ d ih =>
  intro k n s hk hn hs
  obtain ⟨n, rfl⟩ : ∃ x, n = x + 1 := ⟨n - 1, by omega⟩
  rw [buffer_Merge_row_L4]
  by_cases g : (k : Int) < (b : Int)
  ·
   obtain ⟨x, hx⟩ := getl (show k < s.length by have := hs.1; omega)
   rw [if_pos g, atI_at hx, Option.bind_some, wk (by omega), Int.toNat_natCast]
   exact ih (k + 1) n _ (by omega) (by omega) (hs.set hx ⟨rfl, rfl, rfl⟩)
  ·
   rw [if_neg g]; exact ⟨s, rfl, hs⟩
theorem cloneG {N : Nat} {l : List TGlyph} (hl : l.length ≤ 1000000) : slices_Clone_apiGlyphapiGlyph_row N l = some l := by
  unfold slices_Clone_apiGlyphapiGlyph_row
  by_cases g : l = []
  · rw [if_pos g, g]
  · rw [if_neg g, if_pos (by omega)]
theorem merge_sm {N : Nat} (hN : 1000000000000 < N) {l : List TGlyph} (hl : l.length ≤ 1000) (f t : Int) : ∃ m, buffer_Merge_row N l f t = some m ∧ Sm l m := by
 unfold buffer_Merge_row
 rw [cloneG (by omega), Option.bind_some]
 by_cases g1 : f < 0
 ·
  rw [if_pos g1]; exact ⟨l, rfl, Sm.refl l⟩
 rw [if_neg g1]
 by_cases g2 : (l.length : Int) < t
 ·
  rw [if_pos g2]; exact ⟨l, rfl, Sm.refl l⟩
 rw [if_neg g2]
 by_cases g3 : t ≤ f
 ·
  rw [if_pos g3]; exact ⟨l, rfl, Sm.refl l⟩
 rw [if_neg g3]
 obtain ⟨a, rfl⟩ := Int.eq_ofNat_of_zero_le (show 0 ≤ f by omega)
 obtain ⟨b, rfl⟩ := Int.eq_ofNat_of_zero_le (show 0 ≤ t by omega)
 obtain ⟨x, hx⟩ := getl (show a < l.length by omega)
 have hsl : (slI l (a : Int) (b : Int)).length = (b : Int).toNat - (a : Int).toNat := by simp [slI]; omega
 obtain ⟨r1, e1⟩ := mg_L1 (N := N) (y := l) rfl hsl (by rw [hsl]; omega) _ 0 N x.Cluster (Nat.zero_add _) (by rw [hsl]; omega)
 obtain ⟨r2, e2, h2⟩ := mg_L2 (N := N) (y := l) (t := (b : Int)) (z := r1) hl (show a < l.length by omega) a N (by omega) (by omega)
 obtain ⟨r3, e3, h3⟩ := mg_L3 (N := N) (y := l) (z := r1) (w := (r2 : Int)) hl (show 0 < b by omega) (by omega) (l.length - b) b N (by omega) (by omega)
 obtain ⟨m, e4, h4⟩ := mg_L4 (N := N) (c := r1) hl h3 r3 r2 N l (by omega) (by omega) (Sm.refl l)
 rw [atI_at hx, Option.bind_some, if_pos (by omega), if_pos (by omega), if_pos (by omega), show buffer_Merge_row_L1 N a b l l N x.Cluster 0 = some r1 from e1, Option.bind_some, e2, Option.bind_some, e3, Option.bind_some, e4]
 exact ⟨m, rfl, h4⟩
end Go.Proofs.Ytjalenbgpmdadaa.AI
