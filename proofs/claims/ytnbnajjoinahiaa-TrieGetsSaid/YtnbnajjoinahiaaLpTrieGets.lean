/- Plain law of TrieGets. -/
import Derived.Test.YtnbnajjoinahiaaTR3
set_option linter.unusedVariables false
set_option linter.unusedSimpArgs false
set_option maxRecDepth 100000
namespace Go.Proofs.Ytnbnajjoinahiaa.AI
theorem tg_L1 {N : Nat} (hN : 1000000000000 < N) {l : List TRange} (hl : Rt 255 l) {cs : List Int} (hm : cs.length ≤ 1000) : ∀ (d k n : Nat) (x b : Int) (idx : List Int) (bl : List (Vector Int 128)), k + d = cs.length → d < n → Hd l x b idx bl →
  ∃ x' b' idx' bl', law03_TrieGets_L1 N l cs l n k x b k idx bl = some (.inl (x', b', (cs.length : Int), idx', bl')) ∧ Hd l x' b' idx' bl' := by
 intro d
 induction d with
 | zero =>
  intro k n x b idx bl hk hn h
  obtain ⟨n, rfl⟩ : ∃ x, n = x + 1 := ⟨n - 1, by omega⟩
  rw [law03_TrieGets_L1, if_neg (by omega), show k = cs.length by omega]
  exact ⟨x, b, idx, bl, rfl, h⟩
 | succ d ih =>
  intro k n x b idx bl hk hn h
  obtain ⟨n, rfl⟩ : ∃ x, n = x + 1 := ⟨n - 1, by omega⟩
  have hkc : k < cs.length := by omega
  obtain ⟨i1, b1, e1, t1⟩ := get_eq hN hl (st := 0) (as := (k : Int)) h cs[k]
  rw [law03_TrieGets_L1, if_pos (by omega), atI_get hkc, Option.bind_some, e1, Option.bind_some]
  simp only
  rw [rget_eq hN hl.1, Option.bind_some, if_pos rfl]
  unfold trie_Trie_Asked_row trie_Trie_Built_row
  rw [Option.bind_some, if_pos rfl, Option.bind_some, if_pos (by decide), wk (by omega)]
  exact ih (k + 1) n 1 1 i1 b1 (by omega) (by omega) t1.hd
theorem tg_L3 {N : Nat} (hN : 1000000000000 < N) {l : List TRange} (hl : Rt 255 l) {i : Nat} (hi : i < l.length) : ∀ (d n : Nat) (k a x b : Int) (idx : List Int) (bl : List (Vector Int 128)), 2 - k ≤ (d : Int) → -1 ≤ k → k ≤ 2 → d < n → 0 ≤ a → a + 2 * (2 - k) ≤ 1000000 → Hd l x b idx bl →
  ∃ x' b' idx' bl', law03_TrieGets_L3 N l i l n a k x b a idx bl = some (.inl (a + 2 * (2 - k), x', b', a + 2 * (2 - k), idx', bl')) ∧ Hd l x' b' idx' bl' := by
 intro d
 induction d with
 | zero =>
  intro n k a x b idx bl hk hk1 hk2 hn ha ha' h
  obtain ⟨n, rfl⟩ : ∃ x, n = x + 1 := ⟨n - 1, by omega⟩
  rw [law03_TrieGets_L3, if_neg (by omega), show a + 2 * (2 - k) = a by omega]
  exact ⟨x, b, idx, bl, rfl, h⟩
 | succ d ih =>
  intro n k a x b idx bl hk hk1 hk2 hn ha ha' h
  obtain ⟨n, rfl⟩ : ∃ x, n = x + 1 := ⟨n - 1, by omega⟩
  by_cases g : k < 2
  ·
   obtain ⟨i1, b1, e1, t1⟩ := get_eq hN hl (st := 0) (as := a) h (IntKind.i32.wrap (l[i].From + k))
   obtain ⟨i2, b2, e2, t2⟩ := get_eq hN hl (st := 0) (as := IntKind.i64.wrap (a + 1)) t1.hd (IntKind.i32.wrap (l[i].To + k))
   have w1 : IntKind.i64.wrap (IntKind.i64.wrap (a + 1) + 1) = a + 2 := by rw [w64 (x := a + 1) (by omega) (by omega), w64 (by omega) (by omega)]; omega
   have w2 : IntKind.i64.wrap (a + 2) = a + 2 := w64 (by omega) (by omega)
   have w3 : IntKind.i32.wrap (k + 1) = k + 1 := w32 (by omega) (by omega)
   rw [law03_TrieGets_L3, if_pos g, atI_get hi, Option.bind_some, e1, Option.bind_some]
   simp only
   rw [rget_eq hN hl.1, Option.bind_some, if_pos rfl, e2, Option.bind_some]
   simp only
   rw [rget_eq hN hl.1, Option.bind_some, if_pos rfl, w1, w2, w3]
   obtain ⟨x', b', idx', bl', e, h'⟩ := ih n (k + 1) (a + 2) 1 1 i2 b2 (by omega) (by omega) (by omega) (by omega) (by omega) (by omega) t2.hd
   refine ⟨x', b', idx', bl', ?_, h'⟩
   rw [e, show a + 2 + 2 * (2 - (k + 1)) = a + 2 * (2 - k) by omega]
  ·
   rw [law03_TrieGets_L3, if_neg g, show a + 2 * (2 - k) = a by omega]
   exact ⟨x, b, idx, bl, rfl, h⟩
theorem tg_L4 {N : Nat} (hN : 1000000000000 < N) {l : List TRange} (hl : Rt 255 l) (hm : l.length ≤ 1000) : ∀ (d i n : Nat) (a x b : Int) (idx : List Int) (bl : List (Vector Int 128)), i + d = l.length → d < n → 0 ≤ a → a ≤ 1000 + 6 * (i : Int) → Hd l x b idx bl →
  ∃ a' x' b' idx' bl', law03_TrieGets_L4 N l l n a i x b a idx bl = some (.inl (a', x', b', a', idx', bl')) ∧ Hd l x' b' idx' bl' := by
 intro d
 induction d with
 | zero =>
  intro i n a x b idx bl hi hn ha ha' h
  obtain ⟨n, rfl⟩ : ∃ x, n = x + 1 := ⟨n - 1, by omega⟩
  rw [law03_TrieGets_L4, if_neg (by omega)]
  exact ⟨a, x, b, idx, bl, rfl, h⟩
 | succ d ih =>
  intro i n a x b idx bl hi hn ha ha' h
  obtain ⟨n, rfl⟩ : ∃ x, n = x + 1 := ⟨n - 1, by omega⟩
  obtain ⟨x', b', idx', bl', e, h'⟩ := tg_L3 hN hl (show i < l.length by omega) 10 N (-1) a x b idx bl (by omega) (by omega) (by omega) (by omega) ha (by omega) h
  rw [law03_TrieGets_L4, if_pos (by omega), e, Option.bind_some]
  simp only
  rw [wk (by omega)]
  exact ih (i + 1) n _ x' b' idx' bl' (by omega) (by omega) (by omega) (by omega) h'
theorem trieGets_plain {N : Nat} (hN : 1000000000000 < N) (l : List TRange) (cs : List Int) : law03_TrieGets N l cs = some true := by
 unfold law03_TrieGets
 rw [alive03 hN, Option.bind_some, if_pos rfl]
 by_cases g1 : 100 < (l.length : Int)
 ·
  rw [if_pos g1]
 rw [if_neg g1]
 by_cases g2 : 100 < (cs.length : Int)
 ·
  rw [if_pos g2]
 rw [if_neg g2]
 obtain ⟨b, eb, hb⟩ := rright_eq hN l 255
 by_cases g : Rt 255 l
 ·
  rw [(new_eq hN l (by omega)).1 g, Option.bind_some]
  simp only
  rw [eb, Option.bind_some, if_pos (hb.2 g)]
  unfold trie_Trie_Built_row
  rw [Option.bind_some, if_neg (by decide)]
  obtain ⟨x', b', idx', bl', e, h⟩ := tg_L1 hN g (cs := cs) (by omega) cs.length 0 N 0 0 [] [] (by omega) (by omega) (.inl ⟨rfl, rfl, rfl, rfl⟩)
  rw [show law03_TrieGets_L1 N l cs l N 0 0 0 0 [] [] = _ from e, Option.bind_some]
  simp only
  obtain ⟨a', x2, b2, idx2, bl2, e2, h2⟩ := tg_L4 hN g (by omega) l.length 0 N (cs.length : Int) x' b' idx' bl' (by omega) (by omega) (by omega) (by omega) h
  rw [show law03_TrieGets_L4 N l l N (cs.length : Int) 0 x' b' (cs.length : Int) idx' bl' = _ from e2, Option.bind_some]
  simp only
  unfold trie_Trie_Asked_row
  rw [Option.bind_some]
  simp
 ·
  rw [(new_eq hN l (by omega)).2 g, Option.bind_some]
  simp only
  rw [eb, Option.bind_some, if_neg (fun h => g (hb.1 h))]
  rfl
end Go.Proofs.Ytnbnajjoinahiaa.AI
