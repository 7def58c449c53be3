/- Part of a proof. -/
import Derived.Test.YtakplhfiohjcmaaPU1
import Derived.Test.YtakplhfiohjcmaaPU2
set_option linter.unusedVariables false
set_option linter.unusedSimpArgs false
namespace Go.Proofs.Ytakplhfiohjcmaa.AI

def row16 (b : List Int) (i : Int) (n : Nat) : List Int := (List.range n).map fun (k : Nat) => u16 b (i + 2 * (k : Int))
theorem row16_len (b : List Int) (i : Int) (n : Nat) : (row16 b i n).length = n := by simp [row16]
theorem row16_succ (b : List Int) (i : Int) (n : Nat) : row16 b i (n + 1) = row16 b i n ++ [u16 b (i + 2 * (n : Int))] := by simp [row16, List.range_succ]
theorem row16_at {b : List Int} {i : Int} {n k : Nat} (h : k < n) : (row16 b i n)[k]? = some (u16 b (i + 2 * (k : Int))) := by simp [row16, h]
theorem Row1_eq {N : Nat} (hN : 1000000000000 < N) {b : List Int} (hb : Bytes b) (hl : b.length ≤ 1000000000) {i k : Int} (h0 : 0 ≤ i) (hk : 0 ≤ k) (h1 : i + 2 * k + 2 ≤ (b.length : Int)) : octet_Row_1 N k b i 2 = some (u16 b (i + 2 * k)) := by
 unfold octet_Row_1
 have hx := gb_range hb (i + 2 * k); have hy := gb_range hb (i + 2 * k + 1)
 rw [w64 (x := k * 2) (by omega) (by omega), w64 (x := k + 1) (by omega) (by omega), w64 (x := (k + 1) * 2) (by omega) (by omega), w64 (x := i + k * 2) (by omega) (by omega), w64 (x := i + (k + 1) * 2) (by omega) (by omega)]
 rw [if_pos (by omega), if_pos (by omega), if_pos (by omega), show i + (k + 1) * 2 = (i + 2 * k) + 2 by omega, show i + k * 2 = i + 2 * k by omega, slI2 (by omega) h1, number2 hN hx hy, u16, if_pos ⟨by omega, h1⟩]
 rfl
theorem many_eq {N : Nat} (hN : 1000000000000 < N) {b : List Int} (hb : Bytes b) (hl : b.length ≤ 1000000000) {i : Int} (h0 : 0 ≤ i) {m : Nat} (h1 : i + 2 * (m : Int) ≤ (b.length : Int)) : octet_many_int N m b i 2 = some (row16 b i m) := by
 have key : ∀ (d k n : Nat), k + d = m → d < n → octet_many_int_L1 N m b i 2 n k (row16 b i k) = some (row16 b i m) := by
  intro d
  induction d with
  | zero =>
   intro k n hk hn
   obtain ⟨n, rfl⟩ : ∃ x, n = x + 1 := ⟨n - 1, by omega⟩
   rw [octet_many_int_L1, if_neg (by omega), show k = m by omega]
  | succ d ih =>
   intro k n hk hn
   obtain ⟨n, rfl⟩ : ∃ x, n = x + 1 := ⟨n - 1, by omega⟩
   rw [octet_many_int_L1, if_pos (by omega), Row1_eq hN hb hl h0 (by omega) (by omega), Option.bind_some, if_pos (by rw [row16_len]; omega), w64 (by omega) (by omega), ← row16_succ]
   exact ih (k + 1) n (by omega) (by omega)
 have h2 := key m 0 N (by omega) (by omega)
 unfold octet_many_int
 rw [show octet_many_int_L1 N m b i 2 N 0 [] = some (row16 b i m) from h2]
 rfl
theorem Row_eq {N : Nat} (hN : 1000000000000 < N) {b : List Int} (hb : Bytes b) (hl : b.length ≤ 1000000000) (i n : Int) (hi : i ≤ 1000000000000) (hn : n ≤ 1000000000000) :
  octet_Row N b i n 2 = some (if 0 ≤ n ∧ 0 ≤ i ∧ i + 2 * n ≤ (b.length : Int) then (row16 b i n.toNat, true) else ([], false)) := by
 unfold octet_Row
 rw [if_neg (by decide), if_pos rfl]
 by_cases h1 : n < 0
 ·
  rw [if_pos h1, if_neg (by omega)]
 ·
  rw [if_neg h1]
  by_cases h2 : (b.length : Int) < n
  ·
   rw [if_pos h2, if_neg (by omega)]
  ·
   rw [if_neg h2, w64 (x := n * 2) (by omega) (by omega), within_eq hl, Option.bind_some]
   by_cases h3 : 0 ≤ i ∧ i + 2 * n ≤ (b.length : Int)
   ·
    obtain ⟨m, rfl⟩ := Int.eq_ofNat_of_zero_le (show 0 ≤ n by omega)
    rw [if_pos (by simp; omega), if_pos (by omega), many_eq hN hb hl h3.1 h3.2]
    rfl
   ·
    rw [if_neg (by simp; omega), if_neg (by omega)]

theorem joined_eq {N : Nat} {l : List TSpan} {a c : Int} (hl : l.length ≤ 1000000000000) (ht : ∀ x ∈ l, 0 ≤ x.To ∧ x.To ≤ 65535) : cover_joined_row N l a c = some (jn l ⟨a, c⟩) := by
 unfold cover_joined_row jn
 cases hg : l.getLast? with
 | none =>
  have : l = [] := by simpa using hg
  subst this
  rfl
 | some x =>
  obtain ⟨h0, hx⟩ := getLast_at hg
  have hxt := ht x (List.mem_of_getLast? hg)
  have e : IntKind.i64.wrap ((l.length : Int) - 1) = ((l.length - 1 : Nat) : Int) := by rw [w64 (by omega) (by omega)]; omega
  rw [if_pos (by omega), e, atI_at hx, Option.bind_some, w64 (x := x.To + 1) (by omega) (by omega)]
  by_cases h : x.To + 1 = a
  ·
   rw [if_pos h]
   simp only [h, if_true]
   congr 1
   have hs := split_last hg
   have e2 : (((l.length - 1 : Nat) : Int)).toNat = l.dropLast.length := by simp
   rw [e2]
   conv => lhs; rw [hs]
   rw [List.dropLast_concat, List.set_append_right _ _ (Nat.le_refl _)]
   simp
  ·
   rw [if_neg h, if_pos (by omega)]
   simp only [h, if_false]

def rise : Int → List Int → Bool
 | _, [] => true
 | a, g :: r => decide (a < g) && rise g r
def gls : List TSpan → List Int → List TSpan
 | s, [] => s
 | s, g :: r => gls (jn s ⟨g, g⟩) r
theorem glyphs_L1 {N : Nat} {l : List Int} (hl : l.length ≤ 70000) (hb : ∀ x ∈ l, x ≤ 65535) : ∀ (d k n : Nat) (a : Int) (s : List TSpan), k + d = l.length → d < n → -1 ≤ a → s.length ≤ k → (∀ x ∈ s, 0 ≤ x.To ∧ x.To ≤ 65535) →
  cover_glyphs_L1 N l n a k s = some (if rise a (l.drop k) = true then .inl (gls s (l.drop k)) else .inr ()) := by
 intro d
 induction d with
 | zero =>
  intro k n a s hk hn ha hs ht
  obtain ⟨n, rfl⟩ : ∃ x, n = x + 1 := ⟨n - 1, by omega⟩
  rw [cover_glyphs_L1, if_neg (by omega), List.drop_eq_nil_of_le (by omega)]
  rfl
 | succ d ih =>
  intro k n a s hk hn ha hs ht
  obtain ⟨n, rfl⟩ : ∃ x, n = x + 1 := ⟨n - 1, by omega⟩
  obtain ⟨g, hg, hd⟩ := drop_cons hk
  have hgb := hb g (List.mem_of_getElem? hg)
  rw [cover_glyphs_L1, if_pos (by omega), atI_at hg, Option.bind_some, hd]
  by_cases h : g ≤ a
  ·
   rw [if_pos h, if_neg (by simp [rise]; omega)]
  ·
   rw [if_neg h, joined_eq (by omega) ht, Option.bind_some, w64 (by omega) (by omega)]
   have := ih (k + 1) n g (jn s ⟨g, g⟩) (by omega) (by omega) (by omega) (by have := jn_len s ⟨g, g⟩; omega) (jn_b ht ⟨by simp only; omega, by simp only; omega⟩)
   rw [show ((k + 1 : Nat) : Int) = (k : Int) + 1 by omega] at this
   rw [this]
   have e : rise a (g :: l.drop (k + 1)) = rise g (l.drop (k + 1)) := by simp [rise]; omega
   rw [e]
   rfl
theorem gls_spec : ∀ {l : List Int} {s : List TSpan} {a : Int}, rise a l = true → -1 ≤ a → (∀ x ∈ l, x ≤ 65535) → RL 0 s → (∀ x ∈ s, x.To ≤ a) → RL 0 (gls s l) ∧ ∀ g, inn (gls s l) g ↔ inn s g ∨ g ∈ l
 | [], s, a, _, _, _, hs, _ => ⟨hs, fun g => by simp [gls]⟩
 | x :: r, s, a, h, ha, hb, hs, ht => by
  simp only [rise, Bool.and_eq_true, decide_eq_true_eq] at h
  have hx := hb x List.mem_cons_self
  obtain ⟨g1, g2, g3, g4, g5⟩ := jn_spec (s := ⟨x, x⟩) hs (fun y hy => by have := ht y hy; simp only; omega) (by simp only; omega) (Int.le_refl _) hx
  obtain ⟨k1, k2⟩ := gls_spec h.2 (by omega) (fun y hy => hb y (List.mem_cons_of_mem _ hy)) g1 (fun y hy => g2 y hy)
  refine ⟨k1, fun g => ?_⟩
  simp only [gls]
  rw [k2, g4]
  simp only [List.mem_cons]
  constructor
  ·
   rintro ((h | h) | h)
   ·
    exact .inl h
   ·
    exact .inr (.inl (by omega))
   ·
    exact .inr (.inr h)
  ·
   rintro (h | h | h)
   ·
    exact .inl (.inl h)
   ·
    exact .inl (.inr (by omega))
   ·
    exact .inr h

def trip (b : List Int) (i : Int) (k : Nat) : TArr3_I64 := ⟨u16 b (i + 6 * (k : Int)), u16 b (i + 6 * (k : Int) + 2), u16 b (i + 6 * (k : Int) + 4)⟩
def trips (b : List Int) (i : Int) (n : Nat) : List TArr3_I64 := (List.range n).map (trip b i)
def riseT : Int → List TArr3_I64 → Bool
 | _, [] => true
 | a, x :: r => decide (a < x.e0) && decide (x.e0 ≤ x.e1) && riseT x.e1 r
theorem trips_len (b : List Int) (i : Int) (n : Nat) : (trips b i n).length = n := by simp [trips]
theorem trips_at {b : List Int} {i : Int} {n k : Nat} (h : k < n) : (trips b i n)[k]? = some (trip b i k) := by simp [trips, h]
theorem triples_L1 {N : Nat} {b : List Int} {i : Int} {m : Nat} (hm : m ≤ 70000) (hb : Bytes b) : ∀ (d k n : Nat) (a : Int), k + d = m → d < n →
  cover_triples_L1 N (row16 b i (3 * m)) n a ((3 * k : Nat) : Int) ((trips b i m).take k) = some (if riseT a ((trips b i m).drop k) = true then .inl (trips b i m) else .inr ()) := by
 intro d
 induction d with
 | zero =>
  intro k n a hk hn
  obtain ⟨n, rfl⟩ : ∃ x, n = x + 1 := ⟨n - 1, by omega⟩
  rw [cover_triples_L1, row16_len, if_neg (by omega), List.drop_eq_nil_of_le (by rw [trips_len]; omega), List.take_of_length_le (by rw [trips_len]; omega)]
  rfl
 | succ d ih =>
  intro k n a hk hn
  obtain ⟨n, rfl⟩ : ∃ x, n = x + 1 := ⟨n - 1, by omega⟩
  have hx := trips_at (b := b) (i := i) (show k < m by omega)
  have hd : (trips b i m).drop k = trip b i k :: (trips b i m).drop (k + 1) := by
   obtain ⟨hlt, e⟩ := List.getElem?_eq_some_iff.1 hx
   rw [List.drop_eq_getElem_cons hlt, e]
  have ht : (trips b i m).take (k + 1) = (trips b i m).take k ++ [trip b i k] := by rw [List.take_add_one, hx]; rfl
  have h1 : (row16 b i (3 * m))[3 * k]? = some (trip b i k).e0 := by rw [row16_at (by omega)]; simp only [trip]; congr 2; omega
  have h2 : (row16 b i (3 * m))[3 * k + 1]? = some (trip b i k).e1 := by rw [row16_at (by omega)]; simp only [trip]; congr 2; omega
  have h3 : (row16 b i (3 * m))[3 * k + 2]? = some (trip b i k).e2 := by rw [row16_at (by omega)]; simp only [trip]; congr 2; omega
  rw [cover_triples_L1, row16_len, if_pos (by omega), atI_at h1, Option.bind_some, w64 (x := ((3 * k : Nat) : Int) + 1) (by omega) (by omega), show ((3 * k : Nat) : Int) + 1 = ((3 * k + 1 : Nat) : Int) by omega, atI_at h2, Option.bind_some,
   w64 (x := ((3 * k : Nat) : Int) + 2) (by omega) (by omega), show ((3 * k : Nat) : Int) + 2 = ((3 * k + 2 : Nat) : Int) by omega, atI_at h3, Option.bind_some, hd]
  by_cases h4 : (trip b i k).e0 ≤ a
  ·
   rw [if_pos h4, if_neg (by simp [riseT]; omega)]
  ·
   rw [if_neg h4]
   by_cases h5 : (trip b i k).e1 < (trip b i k).e0
   ·
    rw [if_pos h5, if_neg (by simp [riseT]; omega)]
   ·
    rw [if_neg h5, if_pos (by rw [List.length_take]; omega), w64 (by omega) (by omega), show ((3 * k : Nat) : Int) + 3 = ((3 * (k + 1) : Nat) : Int) by omega]
    have := ih (k + 1) n (trip b i k).e1 (by omega) (by omega)
    rw [ht] at this
    have e : riseT a (trip b i k :: (trips b i m).drop (k + 1)) = riseT (trip b i k).e1 ((trips b i m).drop (k + 1)) := by
     simp only [riseT]
     rw [decide_eq_true (by omega : a < (trip b i k).e0), decide_eq_true (by omega : (trip b i k).e0 ≤ (trip b i k).e1)]
     rfl
    rw [e, ← this]
end Go.Proofs.Ytakplhfiohjcmaa.AI
