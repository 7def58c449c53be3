/- Plain law of TrieSame. -/
import Derived.Test.YtnbnajjoinahiaaTR2
set_option linter.unusedVariables false
set_option linter.unusedSimpArgs false
set_option maxRecDepth 100000
namespace Go.Proofs.Ytnbnajjoinahiaa.AI
theorem okV_mono {m m' : Int} (h : m ≤ m') {r : TRange} (hr : okV m r) : okV m' r := ⟨hr.1, hr.2.1, hr.2.2.1, by have := hr.2.2.2; omega⟩
theorem chR_most {m m' : Int} (h : m ≤ m') : ∀ {l : List TRange} {a : Int}, chR m a l → chR m' a l
 | [], _, _ => trivial
 | r :: l, a, hc => ⟨hc.1, okV_mono h hc.2.1, chR_most h hc.2.2⟩
theorem search_L1 {N : Nat} {l : List TRange} {a m c : Int} (hl : chR m a l) (hm : l.length ≤ 5000) : ∀ (d i j n : Nat), j - i ≤ d → d < n → i ≤ j → j ≤ l.length → (∀ (k : Nat) r, k < i → l[k]? = some r → r.To < c) → (∀ (k : Nat) r, j ≤ k → l[k]? = some r → c ≤ r.To) →
  ∃ p : Nat, sort_Search_L1 N l c n i j = some (p : Int) ∧ p ≤ l.length ∧ (∀ (k : Nat) r, k < p → l[k]? = some r → r.To < c) ∧ ∀ (k : Nat) r, p ≤ k → l[k]? = some r → c ≤ r.To := by
 have mono : ∀ (i k : Nat) r x, i ≤ k → l[i]? = some r → l[k]? = some x → r.To ≤ x.To := fun i k r x hik hr hx => by
  rcases Nat.eq_or_lt_of_le hik with rfl | h
  ·
   rw [hr] at hx; cases hx; exact Int.le_refl _
  ·
   have hi := (List.getElem?_eq_some_iff.1 hr).1
   have hs : l.take (i + 1) ++ l.drop (i + 1) = l := List.take_append_drop _ _
   have hch := hl
   rw [← hs] at hch
   obtain ⟨b, _, hb, hA⟩ := chR_app hch
   have h1 := hA r (by rw [List.take_succ_eq_append_getElem hi]; rw [List.getElem?_eq_getElem hi] at hr; cases hr; exact List.mem_append_right _ (List.mem_singleton.2 rfl))
   have h2 := chR_mem hb x (by
    have : (l.drop (i + 1))[k - (i + 1)]? = some x := by rw [List.getElem?_drop, show i + 1 + (k - (i + 1)) = k by omega]; exact hx
    exact List.mem_of_getElem? this)
   have := h2.2.1
   omega
 intro d
 induction d with
 | zero =>
  intro i j n hd hn hij hj h1 h2
  obtain ⟨n, rfl⟩ : ∃ x, n = x + 1 := ⟨n - 1, by omega⟩
  rw [sort_Search_L1, if_neg (by omega)]
  have : i = j := by omega
  subst this
  exact ⟨i, rfl, hj, h1, h2⟩
 | succ d ih =>
  intro i j n hd hn hij hj h1 h2
  obtain ⟨n, rfl⟩ : ∃ x, n = x + 1 := ⟨n - 1, by omega⟩
  rw [sort_Search_L1]
  by_cases g : (i : Int) < (j : Int)
  ·
   have hh : IntKind.i64.wrap ((IntKind.u64.wrap (IntKind.i64.wrap ((i : Int) + (j : Int)))).fdiv (2 ^ 1)) = (((i + j) / 2 : Nat) : Int) := by
    rw [w64 (x := (i : Int) + (j : Int)) (by omega) (by omega), IntWalk.u64_in _ ⟨by omega, by omega⟩, Int.fdiv_eq_ediv_of_nonneg _ (by omega), w64 (by omega) (by omega)]
    omega
   have hlt : (i + j) / 2 < l.length := by omega
   have hat : l[(i + j) / 2]? = some l[(i + j) / 2] := List.getElem?_eq_getElem hlt
   rw [if_pos g, hh]
   unfold span_Find_1
   rw [atI_get hlt, Option.bind_some, Option.bind_some]
   by_cases g2 : c ≤ l[(i + j) / 2].To
   ·
    rw [if_pos (decide_eq_true g2)]
    refine ih i ((i + j) / 2) n (by omega) (by omega) (by omega) (by omega) h1 fun k r hk hr => ?_
    have := mono _ _ _ _ hk hat hr
    omega
   ·
    rw [if_neg (by simpa using g2), wk (by omega)]
    refine ih ((i + j) / 2 + 1) j n (by omega) (by omega) (by omega) (by omega) (fun k r hk hr => ?_) h2
    have := mono _ _ _ _ (show k ≤ (i + j) / 2 by omega) hr hat
    omega
  ·
   rw [if_neg g]
   have : i = j := by omega
   subst this
   exact ⟨i, rfl, hj, h1, h2⟩
theorem sfind_eq {N : Nat} (hN : 1000000000000 < N) {l : List TRange} (hl : Rt 255 l) (c : Int) : ∃ b, span_Find N l c = some ((fnd l c).getD 0, b) := by
 obtain ⟨b, e, hb⟩ := sright_eq hN l 9223372036854775807
 have hR : Rt 9223372036854775807 l := ⟨hl.1, chR_most (by omega) hl.2⟩
 obtain ⟨p, e2, hp, h1, h2⟩ := search_L1 (N := N) (c := c) hl.2 hl.1 l.length 0 l.length N (by omega) (by have := hl.1; omega) (by omega) (Nat.le_refl _) (fun k r hk => by omega) (fun k r hk hr => by rw [List.getElem?_eq_none hk] at hr; cases hr)
 unfold span_Find sort_Search
 rw [e, Option.bind_some, if_pos (hb.2 hR), show sort_Search_L1 N l c N 0 (l.length : Int) = _ from e2, Option.bind_some, Option.bind_some]
 have hleft : ∀ r ∈ l.take p, r.To < c := fun r hr => by
  obtain ⟨k, hk, rfl⟩ := List.getElem_of_mem hr
  have hkp : k < p := by simp at hk; omega
  rw [List.getElem_take]
  exact h1 k _ hkp (List.getElem?_eq_getElem _)
 by_cases g : p = l.length
 ·
  rw [if_pos (by omega)]
  have : fnd l c = none := by
   rw [g, List.take_of_length_le (Nat.le_refl _)] at hleft
   exact fnd_left hleft
  rw [this]; exact ⟨_, rfl⟩
 have hpl : p < l.length := by omega
 rw [if_neg (by omega), atI_get hpl, Option.bind_some]
 have hsplit : l.take p ++ l[p] :: l.drop (p + 1) = l := by rw [← List.drop_eq_getElem_cons hpl, List.take_append_drop]
 have hto := h2 p l[p] (Nat.le_refl _) (List.getElem?_eq_getElem hpl)
 have hf : fnd l c = fnd (l[p] :: l.drop (p + 1)) c := by
  conv => lhs; rw [← hsplit]
  rw [fnd_app, fnd_left hleft]
 by_cases g2 : c < l[p].From
 ·
  rw [if_pos g2]
  have hch := hl.2
  rw [← hsplit] at hch
  obtain ⟨b', _, hb', _⟩ := chR_app hch
  have : fnd l c = none := by
   rw [hf]
   refine fnd_right fun r hr => ?_
   rcases List.mem_cons.1 hr with rfl | hr
   ·
    exact g2
   ·
    have := (chR_mem hb'.2.2 r hr).1
    have := hb'.2.1.1
    omega
  rw [this]; exact ⟨_, rfl⟩
 ·
  rw [if_neg g2, hf]
  simp only [fnd]
  rw [if_pos ⟨by omega, hto⟩]
  exact ⟨_, rfl⟩
theorem ts_L1 {N : Nat} (hN : 1000000000000 < N) {l : List TRange} (hl : Rt 255 l) {cs : List Int} (hm : cs.length ≤ 1000) (y : Int) : ∀ (d k n : Nat) (x b : Int) (idx : List Int) (bl : List (Vector Int 128)), k + d = cs.length → d < n → Hd l x b idx bl →
  ∃ x' b' idx' bl', law03_TrieSame_L1 N l cs y l n k x b (2 * (k : Int)) idx bl = some (.inl (x', b', 2 * (cs.length : Int), idx', bl')) ∧ Hd l x' b' idx' bl' := by
 intro d
 induction d with
 | zero =>
  intro k n x b idx bl hk hn h
  obtain ⟨n, rfl⟩ : ∃ x, n = x + 1 := ⟨n - 1, by omega⟩
  rw [law03_TrieSame_L1, if_neg (by omega), show k = cs.length by omega]
  exact ⟨x, b, idx, bl, rfl, h⟩
 | succ d ih =>
  intro k n x b idx bl hk hn h
  obtain ⟨n, rfl⟩ : ∃ x, n = x + 1 := ⟨n - 1, by omega⟩
  have hkc : k < cs.length := by omega
  obtain ⟨i1, b1, e1, t1⟩ := get_eq hN hl (st := 0) (as := 2 * (k : Int)) h cs[k]
  obtain ⟨i2, b2, e2, t2⟩ := get_eq hN hl (st := 0) (as := IntKind.i64.wrap (2 * (k : Int) + 1)) t1.hd cs[k]
  obtain ⟨q, e3⟩ := sfind_eq hN hl cs[k]
  have w1 : IntKind.i64.wrap (IntKind.i64.wrap (2 * (k : Int) + 1) + 1) = 2 * ((k + 1 : Nat) : Int) := by rw [w64 (x := 2 * (k : Int) + 1) (by omega) (by omega), w64 (by omega) (by omega)]; omega
  rw [law03_TrieSame_L1, if_pos (by omega), atI_get hkc, Option.bind_some, e3, Option.bind_some]
  simp only
  rw [svalid_eq, Option.bind_some]
  have hi := ih (k + 1) n 1 1 i2 b2 (by omega) (by omega) t2.hd
  by_cases g : vld cs[k] = true
  ·
   have hv : valc l cs[k] = (fnd l cs[k]).getD 0 := by unfold valc; rw [if_pos g]
   rw [hv] at e1 e2
   rw [if_pos g, e1, Option.bind_some]
   simp only
   rw [if_pos trivial, e2, Option.bind_some]
   simp only
   rw [if_pos trivial, wk (by omega), w1]
   exact hi
  ·
   have hv : valc l cs[k] = 0 := by unfold valc; rw [if_neg g]
   rw [hv] at e1 e2
   rw [if_neg g, e1, Option.bind_some]
   simp only
   rw [if_pos trivial, e2, Option.bind_some]
   simp only
   rw [if_pos trivial, wk (by omega), w1]
   exact hi
theorem trieSame_plain {N : Nat} (hN : 1000000000000 < N) (l : List TRange) (cs : List Int) : law03_TrieSame N l cs = some true := by
 unfold law03_TrieSame
 rw [alive03 hN, Option.bind_some, if_pos rfl]
 by_cases g1 : 100 < (l.length : Int)
 ·
  rw [if_pos g1]
 rw [if_neg g1]
 by_cases g2 : 100 < (cs.length : Int)
 ·
  rw [if_pos g2]
 rw [if_neg g2]
 obtain ⟨b, eb, hb⟩ := sright_eq hN l 255
 rw [eb, Option.bind_some]
 by_cases g : Rt 255 l
 ·
  rw [if_pos (hb.2 g), (new_eq hN l (by omega)).1 g, Option.bind_some]
  simp only
  obtain ⟨i0, b0, e0, t0⟩ := blocks_eq hN g (st := 0) (as := 0) (.inl ⟨rfl, rfl, rfl, rfl⟩)
  rw [e0, Option.bind_some]
  simp only
  obtain ⟨x', b', idx', bl', e, h⟩ := ts_L1 hN g (cs := cs) (by omega) (b0.length : Int) cs.length 0 N 1 1 i0 b0 (by omega) (by omega) t0.hd
  rw [show law03_TrieSame_L1 N l cs (b0.length : Int) l N 0 1 1 0 i0 b0 = _ from e, Option.bind_some]
  simp only
  obtain ⟨i3, b3, e3, t3⟩ := blocks_eq hN g (st := 0) (as := 2 * (cs.length : Int)) h
  rw [e3, Option.bind_some]
  simp only
  rw [t3.same (fun _ => rfl) t0, if_pos rfl]
  unfold trie_Trie_Asked_row
  rw [Option.bind_some, w64 (by omega) (by omega)]
  simp
 ·
  rw [if_neg (fun h => g (hb.1 h))]
end Go.Proofs.Ytnbnajjoinahiaa.AI
