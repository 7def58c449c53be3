/- Plain law of TrieJoins. -/
import Derived.Test.YtnbnajjoinahiaaTR2
set_option linter.unusedVariables false
set_option linter.unusedSimpArgs false
set_option maxRecDepth 100000
namespace Go.Proofs.Ytnbnajjoinahiaa.AI
theorem okV_mono {m m' : Int} (h : m ≤ m') {r : TRange} (hr : okV m r) : okV m' r := ⟨hr.1, hr.2.1, hr.2.2.1, by have := hr.2.2.2; omega⟩
theorem chR_most {m m' : Int} (h : m ≤ m') : ∀ {l : List TRange} {a : Int}, chR m a l → chR m' a l
 | [], _, _ => trivial
 | r :: l, a, hc => ⟨hc.1, okV_mono h hc.2.1, chR_most h hc.2.2⟩
theorem chR_snoc {m : Int} {r : TRange} : ∀ {A : List TRange} {a : Int}, chR m a A → (∀ x ∈ A, x.To < r.From) → a < r.From → okV m r → chR m a (A ++ [r])
 | [], a, _, _, h, hr => ⟨h, hr, trivial⟩
 | x :: A, a, hA, hx, h, hr => ⟨hA.1, hA.2.1, chR_snoc hA.2.2 (fun y hy => hx y (List.mem_cons_of_mem _ hy)) (hx x List.mem_cons_self) hr⟩
theorem join_L1 {N : Nat} {l : List TRange} (hl : Rt 255 l) : ∀ (d i n : Nat) (s : List TRange), i + d = l.length → d < n → s.length ≤ i → chR 255 (-1) s → (∀ x ∈ s, ∀ r ∈ l.drop i, x.To < r.From) → (∀ c, fnd s c = fnd (l.take i) c) →
  ∃ o, span_Join_L1 N l n i s = some o ∧ o.length ≤ l.length ∧ chR 255 (-1) o ∧ ∀ c, fnd o c = fnd l c := by
 obtain ⟨hll, hch⟩ := hl
 intro d
 induction d with
 | zero =>
  intro i n s hi hn hs hc ht hf
  obtain ⟨n, rfl⟩ : ∃ x, n = x + 1 := ⟨n - 1, by omega⟩
  rw [span_Join_L1, if_neg (by omega)]
  rw [List.take_of_length_le (by omega)] at hf
  exact ⟨s, rfl, by omega, hc, hf⟩
 | succ d ih =>
  intro i n s hi hn hs hc ht hf
  obtain ⟨n, rfl⟩ : ∃ x, n = x + 1 := ⟨n - 1, by omega⟩
  have hil : i < l.length := by omega
  have hsplit : l.take i ++ l[i] :: l.drop (i + 1) = l := by rw [← List.drop_eq_getElem_cons hil, List.take_append_drop]
  have hx := chR_mem hch _ (List.getElem_mem hil)
  have hch' := hch
  rw [← hsplit] at hch'
  obtain ⟨b, _, hb, hA⟩ := chR_app hch'
  have hrest : ∀ r ∈ l.drop (i + 1), l[i].To < r.From := fun r hr => (chR_mem hb.2.2 r hr).1
  have hsx : ∀ x ∈ s, x.To < l[i].From := fun x hx' => ht x hx' l[i] (by rw [List.drop_eq_getElem_cons hil]; exact List.mem_cons_self)
  obtain ⟨o1, o2, o3, o4⟩ := id hx.2
  have hfx : ∀ c, fnd (l.take (i + 1)) c = match fnd s c with | some v => some v | none => fnd [l[i]] c := fun c => by
   rw [List.take_succ_eq_append_getElem hil, fnd_app, hf]; cases fnd (l.take i) c <;> rfl
  -- it is put behind
  have snoc : ∃ o, span_Join_L1 N l n ((i + 1 : Nat) : Int) (s ++ [l[i]]) = some o ∧ o.length ≤ l.length ∧ chR 255 (-1) o ∧ ∀ c, fnd o c = fnd l c := by
   refine ih (i + 1) n (s ++ [l[i]]) (by omega) (by omega) (by simp; omega) (chR_snoc hc hsx hx.1 hx.2) (fun x hx' r hr => ?_) (fun c => by rw [hfx, fnd_app]; cases fnd s c <;> rfl)
   rcases List.mem_append.1 hx' with hx' | hx'
   ·
    have := hsx x hx'
    have := hrest r hr
    omega
   ·
    rw [List.mem_singleton.1 hx']; exact hrest r hr
  have hgd : (s.length + 1) * 16 ≤ 140737488355328 := by omega
  rw [span_Join_L1, if_pos (by omega), atI_get hil, Option.bind_some, wk (by omega)]
  by_cases g : 0 < (s.length : Int)
  ·
   obtain ⟨p, hp⟩ : ∃ p, s.length = p + 1 := ⟨s.length - 1, by omega⟩
   have hps : p < s.length := by omega
   have hpi : IntKind.i64.wrap ((s.length : Int) - 1) = (p : Int) := by rw [w64 (by omega) (by omega)]; omega
   rw [if_pos g, hpi, atI_get hps, Option.bind_some, Int.toNat_natCast]
   have hsp : s.take p ++ [s[p]] = s := by
    rw [← List.take_succ_eq_append_getElem hps, List.take_of_length_le (by omega)]
   by_cases g2 : s[p].Val = l[i].Val
   ·
    rw [if_pos g2]
    have hsm := chR_mem hc _ (List.getElem_mem hps)
    have hw : IntKind.i32.wrap (s[p].To + 1) = s[p].To + 1 := by
     have := hsm.2.2.1
     have := hsm.1
     have := hsm.2.1
     exact w32 (by omega) (by omega)
    rw [hw]
    by_cases g3 : s[p].To + 1 = l[i].From
    ·
     rw [if_pos g3]
     have hset : s.set p (TRange.mk s[p].From l[i].To s[p].Val) = s.take p ++ [TRange.mk s[p].From l[i].To s[p].Val] := by
      rw [List.set_eq_take_append_cons_drop, if_pos hps, List.drop_eq_nil_of_le (by omega)]
     rw [hset]
     have hc' := hc
     rw [← hsp] at hc'
     have hcA := chR_pre hc'
     obtain ⟨b', hb'1, hb', hA'⟩ := chR_app hc'
     have hAs : ∀ x ∈ s.take p, x.To < s[p].From := fun x hx' => by have := hA' x hx'; have := hb'.1; omega
     refine ih (i + 1) n _ (by omega) (by omega) (by simp; omega) (chR_snoc hcA hAs hsm.1 ⟨by have := hsm.2.1; simp; omega, o2, by simp; exact hsm.2.2.2.1, by simp; exact hsm.2.2.2.2⟩) (fun x hx' r hr => ?_) (fun c => ?_)
     ·
      rcases List.mem_append.1 hx' with hx' | hx'
      ·
       have := hAs x hx'
       have := hsx _ (List.getElem_mem hps)
       have := hsm.2.1
       have := hrest r hr
       omega
      ·
       rw [List.mem_singleton.1 hx']; exact hrest r hr
     ·
      rw [hfx]
      conv => rhs; rw [← hsp]
      rw [fnd_app, fnd_app]
      cases fnd (s.take p) c with
      | some v => rfl
      | none =>
       have := hsm.2.1
       simp only [fnd]
       by_cases q1 : s[p].From ≤ c ∧ c ≤ s[p].To
       ·
        rw [if_pos ⟨q1.1, by omega⟩, if_pos q1]
       ·
        rw [if_neg q1]
        by_cases q2 : l[i].From ≤ c ∧ c ≤ l[i].To
        ·
         rw [if_pos ⟨by omega, q2.2⟩]; simp only; rw [if_pos q2, g2]
        ·
         rw [if_neg (by omega)]; simp only; rw [if_neg q2]
    ·
     rw [if_neg g3, if_pos hgd]
     exact snoc
   ·
    rw [if_neg g2, if_pos hgd]
    exact snoc
  ·
   rw [if_neg g, if_pos hgd]
   exact snoc
theorem tj_L1 {N : Nat} (hN : 1000000000000 < N) {l l' : List TRange} (hl : Rt 255 l) (hl' : Rt 255 l') (hv : ∀ c, valc l c = valc l' c) {cs : List Int} (hm : cs.length ≤ 1000) : ∀ (d k n : Nat) (x b : Int) (idx : List Int) (bl : List (Vector Int 128)) (x2 b2 : Int) (idx2 : List Int) (bl2 : List (Vector Int 128)), k + d = cs.length → d < n → Hd l x b idx bl → Hd l' x2 b2 idx2 bl2 →
  ∃ x' b' idx' bl' x2' b2' idx2' bl2', law03_TrieJoins_L1 N cs l l' n k x b k idx bl x2 b2 k idx2 bl2 = some (.inl (x', b', (cs.length : Int), idx', bl', x2', b2', (cs.length : Int), idx2', bl2')) ∧ Hd l x' b' idx' bl' ∧ Hd l' x2' b2' idx2' bl2' := by
 intro d
 induction d with
 | zero =>
  intro k n x b idx bl x2 b2 idx2 bl2 hk hn h h2
  obtain ⟨n, rfl⟩ : ∃ x, n = x + 1 := ⟨n - 1, by omega⟩
  rw [law03_TrieJoins_L1, if_neg (by omega), show k = cs.length by omega]
  exact ⟨x, b, idx, bl, x2, b2, idx2, bl2, rfl, h, h2⟩
 | succ d ih =>
  intro k n x b idx bl x2 b2 idx2 bl2 hk hn h h2
  obtain ⟨n, rfl⟩ : ∃ x, n = x + 1 := ⟨n - 1, by omega⟩
  have hkc : k < cs.length := by omega
  obtain ⟨i1, b1, e1, t1⟩ := get_eq hN hl (st := 0) (as := (k : Int)) h cs[k]
  obtain ⟨i3, b3, e3, t3⟩ := get_eq hN hl' (st := 0) (as := (k : Int)) h2 cs[k]
  rw [law03_TrieJoins_L1, if_pos (by omega), atI_get hkc, Option.bind_some, e1, Option.bind_some]
  simp only
  rw [e3, Option.bind_some]
  simp only
  rw [hv, if_pos rfl, wk (by omega)]
  exact ih (k + 1) n 1 1 i1 b1 1 1 i3 b3 (by omega) (by omega) t1.hd t3.hd
theorem trieJoins_plain {N : Nat} (hN : 1000000000000 < N) (l : List TRange) (cs : List Int) : law03_TrieJoins N l cs = some true := by
 unfold law03_TrieJoins
 rw [alive03 hN, Option.bind_some, if_pos rfl]
 by_cases g1 : 100 < (l.length : Int)
 ·
  rw [if_pos g1]
 rw [if_neg g1]
 by_cases g2 : 100 < (cs.length : Int)
 ·
  rw [if_pos g2]
 rw [if_neg g2]
 obtain ⟨b, eb, hb⟩ := sright_eq hN l 255
 rw [eb, Option.bind_some]
 by_cases g : Rt 255 l
 ·
  obtain ⟨bm, em, hbm⟩ := sright_eq hN l 9223372036854775807
  have hR : Rt 9223372036854775807 l := ⟨g.1, chR_most (by omega) g.2⟩
  obtain ⟨o, ej, hol, hoc, hof⟩ := join_L1 (N := N) g l.length 0 N [] (by omega) (by omega) (by simp) trivial (by simp) (fun c => rfl)
  have hj : span_Join N l = some o := by
   unfold span_Join
   rw [em, Option.bind_some, if_pos (hbm.2 hR), show span_Join_L1 N l N 0 [] = _ from ej, Option.bind_some]
  have g' : Rt 255 o := ⟨by omega, hoc⟩
  have hv : ∀ c, valc l c = valc o c := fun c => by unfold valc; rw [hof]
  rw [if_pos (hb.2 g), (new_eq hN l (by omega)).1 g, Option.bind_some]
  simp only
  rw [hj, Option.bind_some, (new_eq hN o (by omega)).1 g', Option.bind_some]
  simp only
  obtain ⟨x', b', idx', bl', x2', b2', idx2', bl2', e, h, h'⟩ := tj_L1 hN g g' hv (cs := cs) (by omega) cs.length 0 N 0 0 [] [] 0 0 [] [] (by omega) (by omega) (.inl ⟨rfl, rfl, rfl, rfl⟩) (.inl ⟨rfl, rfl, rfl, rfl⟩)
  rw [show law03_TrieJoins_L1 N cs l o N 0 0 0 0 [] [] 0 0 0 [] [] = _ from e, Option.bind_some]
  simp only
  obtain ⟨i3, b3, e3, t3⟩ := blocks_eq hN g (st := 0) (as := (cs.length : Int)) h
  obtain ⟨i4, b4, e4, t4⟩ := blocks_eq hN g' (st := 0) (as := (cs.length : Int)) h'
  rw [e3, Option.bind_some]
  simp only
  rw [e4, Option.bind_some]
  simp only
  rw [t3.same hv t4, if_pos rfl]
  unfold trie_Trie_Asked_row
  rw [Option.bind_some, Option.bind_some]
  simp
 ·
  rw [if_neg (fun h => g (hb.1 h))]
end Go.Proofs.Ytnbnajjoinahiaa.AI
