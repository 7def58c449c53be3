/- Part of a proof. -/
import Derived.Test.YtakplhfiohjcmaaCX7
set_option linter.unusedVariables false
set_option linter.unusedSimpArgs false
set_option maxRecDepth 100000
namespace Go.Proofs.Ytakplhfiohjcmaa.AI
def SetOk (s : TSet) : Prop := s.Spans.length ≤ 1000000
def CtxOk (c : TCtx) : Prop := c.Back.length ≤ 16 ∧ c.In.length ≤ 16 ∧ c.Ahead.length ≤ 16 ∧ c.Acts.length ≤ 16 ∧ (∀ s ∈ c.Back, SetOk s) ∧ (∀ s ∈ c.In, SetOk s) ∧ ∀ s ∈ c.Ahead, SetOk s
theorem SameSp_L1 {N : Nat} {l : List TSpan} (hl : l.length ≤ 1000000) : ∀ (d k n : Nat), k + d = l.length → d < n → ref10_Same_L1 N l l n k = some (.inl ()) := by
 intro d
 induction d with
 | zero =>
  intro k n hk hn
  obtain ⟨n, rfl⟩ : ∃ x, n = x + 1 := ⟨n - 1, by omega⟩
  rw [ref10_Same_L1, if_neg (by omega)]
 | succ d ih =>
  intro k n hk hn
  obtain ⟨n, rfl⟩ : ∃ x, n = x + 1 := ⟨n - 1, by omega⟩
  have hkl : k < l.length := by omega
  rw [ref10_Same_L1, if_pos (by omega), atI_at (List.getElem?_eq_getElem hkl), Option.bind_some, Option.bind_some, if_pos rfl, if_pos rfl, w64 (x := (k : Int) + 1) (by omega) (by omega), show (k : Int) + 1 = ((k + 1 : Nat) : Int) by omega]
  exact ih (k + 1) n (by omega) (by omega)
theorem SameSp {N : Nat} (hN : 1000000000000 < N) {l : List TSpan} (hl : l.length ≤ 1000000) : ref10_Same N l l = some true := by
 unfold ref10_Same
 rw [if_pos rfl, show ref10_Same_L1 N l l N 0 = _ from SameSp_L1 hl l.length 0 N (by omega) (by omega)]
 rfl
theorem SameSt_L1 {N : Nat} (hN : 1000000000000 < N) {l : List TSet} (hl : l.length ≤ 1000000) (hs : ∀ s ∈ l, SetOk s) : ∀ (d k n : Nat), k + d = l.length → d < n → ref11_SameSets_L1 N l l n k = some (.inl ()) := by
 intro d
 induction d with
 | zero =>
  intro k n hk hn
  obtain ⟨n, rfl⟩ : ∃ x, n = x + 1 := ⟨n - 1, by omega⟩
  rw [ref11_SameSets_L1, if_neg (by omega)]
 | succ d ih =>
  intro k n hk hn
  obtain ⟨n, rfl⟩ : ∃ x, n = x + 1 := ⟨n - 1, by omega⟩
  have hkl : k < l.length := by omega
  have hsp := SameSp hN (hs l[k] (List.getElem_mem hkl))
  rw [ref11_SameSets_L1, if_pos (by omega), atI_at (List.getElem?_eq_getElem hkl), Option.bind_some, Option.bind_some, hsp, Option.bind_some, if_pos rfl, w64 (x := (k : Int) + 1) (by omega) (by omega), show (k : Int) + 1 = ((k + 1 : Nat) : Int) by omega, ih (k + 1) n (by omega) (by omega)]
  by_cases hn : l[k].Not = true
  ·
   rw [if_pos hn, if_pos hn]
  ·
   rw [if_neg hn, if_neg hn]
theorem SameSt {N : Nat} (hN : 1000000000000 < N) {l : List TSet} (hl : l.length ≤ 16) (hs : ∀ s ∈ l, SetOk s) : ref11_SameSets N l l = some true := by
 unfold ref11_SameSets
 rw [if_pos rfl, show ref11_SameSets_L1 N l l N 0 = _ from SameSt_L1 hN (by omega) hs l.length 0 N (by omega) (by omega)]
 rfl
theorem Same_L2 {N : Nat} {l : List TCtx} {i : Nat} {c : TCtx} (hi : l[i]? = some c) (hc : c.Acts.length ≤ 16) : ∀ (d k n : Nat), k + d = c.Acts.length → d < n → ref11_Same_L2 N l l (i : Int) n k = some (.inl ()) := by
 intro d
 induction d with
 | zero =>
  intro k n hk hn
  obtain ⟨n, rfl⟩ : ∃ x, n = x + 1 := ⟨n - 1, by omega⟩
  rw [ref11_Same_L2, atI_at hi, Option.bind_some, if_neg (by omega)]
 | succ d ih =>
  intro k n hk hn
  obtain ⟨n, rfl⟩ : ∃ x, n = x + 1 := ⟨n - 1, by omega⟩
  have hkl : k < c.Acts.length := by omega
  have e := atI_at (List.getElem?_eq_getElem hkl)
  rw [ref11_Same_L2, atI_at hi, Option.bind_some, if_pos (by omega), e, Option.bind_some, Option.bind_some, e, Option.bind_some, if_pos rfl, if_pos rfl, w64 (x := (k : Int) + 1) (by omega) (by omega), show (k : Int) + 1 = ((k + 1 : Nat) : Int) by omega]
  exact ih (k + 1) n (by omega) (by omega)
theorem Same_L3 {N : Nat} (hN : 1000000000000 < N) {l : List TCtx} (hl : l.length ≤ 1000000) (hs : ∀ c ∈ l, CtxOk c) : ∀ (d k n : Nat), k + d = l.length → d < n → ref11_Same_L3 N l l n k = some (.inl ()) := by
 intro d
 induction d with
 | zero =>
  intro k n hk hn
  obtain ⟨n, rfl⟩ : ∃ x, n = x + 1 := ⟨n - 1, by omega⟩
  rw [ref11_Same_L3, if_neg (by omega)]
 | succ d ih =>
  intro k n hk hn
  obtain ⟨n, rfl⟩ : ∃ x, n = x + 1 := ⟨n - 1, by omega⟩
  have hkl : k < l.length := by omega
  obtain ⟨c1, c2, c3, c4, c5, c6, c7⟩ := hs l[k] (List.getElem_mem hkl)
  rw [ref11_Same_L3, if_pos (by omega), atI_at (List.getElem?_eq_getElem hkl), Option.bind_some, Option.bind_some, SameSt hN c1 c5, Option.bind_some, if_pos rfl, SameSt hN c2 c6, Option.bind_some, if_pos rfl, SameSt hN c3 c7, Option.bind_some, if_pos rfl, if_pos rfl,
   show ref11_Same_L2 N l l (k : Int) N 0 = _ from Same_L2 (List.getElem?_eq_getElem hkl) c4 l[k].Acts.length 0 N (by omega) (by omega), Option.bind_some, w64 (x := (k : Int) + 1) (by omega) (by omega), show (k : Int) + 1 = ((k + 1 : Nat) : Int) by omega]
  exact ih (k + 1) n (by omega) (by omega)
theorem Same_refl {N : Nat} (hN : 1000000000000 < N) {l : List TCtx} (hl : l.length ≤ 64) (hs : ∀ c ∈ l, CtxOk c) : ref11_Same N l l = some true := by
 unfold ref11_Same
 rw [if_pos rfl, show ref11_Same_L3 N l l N 0 = _ from Same_L3 hN (by omega) hs l.length 0 N (by omega) (by omega)]
 rfl
theorem ruleM_sets {b : List Int} {f g h : Int → TSet} {t : TSet} {ch : Bool} {p : Int} (hf : ∀ x, SetOk (f x)) (hg : ∀ x, SetOk (g x)) (hh : ∀ x, SetOk (h x)) (ht : SetOk t) {r : TR} (hr : ruleM b (List.map f) (List.map g) (List.map h) t ch p = some r) : (∀ s ∈ r.1, SetOk s) ∧ (∀ s ∈ r.2.1, SetOk s) ∧ ∀ s ∈ r.2.2.1, SetOk s := by
 have key : ∀ {f : Int → TSet} {l : List Int}, (∀ x, SetOk (f x)) → ∀ s ∈ List.map f l, SetOk s := fun hf s hs => by
  obtain ⟨x, _, rfl⟩ := List.mem_map.1 hs
  exact hf x
 have key2 : ∀ {f : Int → TSet} {l : List Int}, (∀ x, SetOk (f x)) → ∀ s ∈ t :: List.map f l, SetOk s := fun hf s hs => by
  rcases List.mem_cons.1 hs with rfl | hs
  ·
   exact ht
  ·
   exact key hf s hs
 unfold ruleM at hr
 split at hr
 ·
  obtain ⟨n1, e1, hr⟩ := Option.bind_eq_some_iff.1 hr
  obtain ⟨l1, e2, hr⟩ := Option.bind_eq_some_iff.1 hr
  obtain ⟨n2, e3, hr⟩ := Option.bind_eq_some_iff.1 hr
  obtain ⟨l2, e4, hr⟩ := Option.bind_eq_some_iff.1 hr
  obtain ⟨n3, e5, hr⟩ := Option.bind_eq_some_iff.1 hr
  obtain ⟨l3, e6, hr⟩ := Option.bind_eq_some_iff.1 hr
  obtain ⟨n4, e7, hr⟩ := Option.bind_eq_some_iff.1 hr
  obtain ⟨⟨l, q⟩, e8, hr⟩ := Option.bind_eq_some_iff.1 hr
  cases hr
  exact ⟨key hf, key2 hg, key hh⟩
 ·
  obtain ⟨n2, e3, hr⟩ := Option.bind_eq_some_iff.1 hr
  obtain ⟨n4, e7, hr⟩ := Option.bind_eq_some_iff.1 hr
  obtain ⟨l2, e4, hr⟩ := Option.bind_eq_some_iff.1 hr
  obtain ⟨⟨l, q⟩, e8, hr⟩ := Option.bind_eq_some_iff.1 hr
  cases hr
  exact ⟨by simp, key2 hg, by simp⟩
theorem RL.l6 {l : List TSpan} (h : RL 0 l) : l.length ≤ 65536 := by
  rcases RL.len h (Int.le_refl 0) with h | h
  · omega
  · rw [h]; simp
theorem clR_ok {b : List Int} (hb : Bytes b) {ch : Bool} {sp : List TSpan} {c0 c1 c2 c3 : List TClass} (hsp : RL 0 sp) (g0 : CB c0) (g1 : CB c1) (g2 : CB c2) (g3 : CB c3) (i : Nat) (p : Int) (r : TR) (hr : clR b ch sp c0 c1 c2 c3 i p = some r) : CtxOk ⟨r.1, r.2.1, r.2.2.1, r.2.2.2.1⟩ := by
 have k : ∀ {c : List TClass}, CB c → ∀ x, SetOk (setC c x) := fun hc x => by have := (wth_rl hc x).2; unfold SetOk setC; simp only; omega
 have hs := ruleM_sets (k g1) (k g2) (k g3) (by
  have := (ouB_spec (nt := decide ((i : Int) = 0)) (wth_rl g0 i).1 hsp (Int.le_refl 0) (o := []) trivial (by simp)).1.l6
  unfold SetOk; simp only; omega) hr
 have hg := ruleM_good hb hr
 exact ⟨hg.2.2.1, hg.2.1, hg.2.2.2.1, hg.2.2.2.2.1, hs⟩
theorem glR_ok {N : Nat} {b : List Int} (hb : Bytes b) {ch : Bool} {gl : List Int} (i : Nat) (p : Int) (r : TR) (hr : glR N b ch gl i p = some r) : CtxOk ⟨r.1, r.2.1, r.2.2.1, r.2.2.2.1⟩ := by
 have k : ∀ x, SetOk (glyphT x) := fun x => by unfold SetOk glyphT; simp
 have hs := ruleM_sets k k k (k _) hr
 have hg := ruleM_good hb hr
 exact ⟨hg.2.2.1, hg.2.1, hg.2.2.2.1, hg.2.2.2.2.1, hs⟩
theorem firstC_rl : ∀ {r : List TSet}, (∀ x ∈ r, RL 0 x.Spans ∧ x.Spans.length ≤ 65536) → RL 0 (firstC r)
 | [], _ => trivial
 | c :: _, h => (h c (by simp)).1
def OkT (r : List TCtx × Int) : Prop := r.1.length ≤ 64 ∧ ∀ c ∈ r.1, CtxOk c
section
variable {N : Nat} (hN : 1000000000000 < N) {b : List Int} (hb : Bytes b) (hb1 : b.length ≤ 1000000)
include hN hb hb1
theorem singleM_ok {base p : Int} {ch : Bool} (h0 : -1000000 ≤ base) (h1 : base ≤ 1000000) {r : List TCtx × Int} (h : singleM N b p base ch = some r) : OkT r := by
 unfold singleM at h
 obtain ⟨l, e1, h⟩ := Option.bind_eq_some_iff.1 h
 have lb := row_some hb e1
 obtain ⟨r0, e2, h⟩ := Option.bind_eq_some_iff.1 h
 have r0l := covs_len e2
 have r0r := covs_rl hN hb hb1 h0 h1 lb.2.2.2.2.2 e2
 obtain ⟨n, e3, h⟩ := Option.bind_eq_some_iff.1 h
 have nb := num_some hb e3
 split at h
 ·
  rename_i hc
  obtain ⟨l2, e5, h⟩ := Option.bind_eq_some_iff.1 h
  have l2b := row_some hb e5
  obtain ⟨s, e6, h⟩ := Option.bind_eq_some_iff.1 h
  cases h
  exact listM_all (P := CtxOk) (glR_ok hb) e6 (by simp) (by simp)
 ·
  cases h
theorem classedM_ok {base p : Int} {ch : Bool} (h0 : -1000000 ≤ base) (h1 : base ≤ 1000000) {r : List TCtx × Int} (h : classedM N b p base ch = some r) : OkT r := by
 unfold classedM at h
 obtain ⟨l, e1, h⟩ := Option.bind_eq_some_iff.1 h
 have lb := row_some hb e1
 obtain ⟨r0, e2, h⟩ := Option.bind_eq_some_iff.1 h
 have r0l := covs_len e2
 have r0r := covs_rl hN hb hb1 h0 h1 lb.2.2.2.2.2 e2
 split at h
 ·
  rename_i hc
  obtain ⟨o1, e3, h⟩ := Option.bind_eq_some_iff.1 h
  have o1b := num_some hb e3
  obtain ⟨c1, e4, h⟩ := Option.bind_eq_some_iff.1 h
  have c1b := classesM_cb hN hb hb1 (by omega) (by omega) (by omega) (by omega) e4
  obtain ⟨o2, e5, h⟩ := Option.bind_eq_some_iff.1 h
  have o2b := num_some hb e5
  obtain ⟨c2, e6, h⟩ := Option.bind_eq_some_iff.1 h
  have c2b := classesM_cb hN hb hb1 (by omega) (by omega) (by omega) (by omega) e6
  obtain ⟨o3, e7, h⟩ := Option.bind_eq_some_iff.1 h
  have o3b := num_some hb e7
  obtain ⟨c3, e8, h⟩ := Option.bind_eq_some_iff.1 h
  have c3b := classesM_cb hN hb hb1 (by omega) (by omega) (by omega) (by omega) e8
  obtain ⟨n, e9, h⟩ := Option.bind_eq_some_iff.1 h
  have nb := num_some hb e9
  obtain ⟨l2, e10, h⟩ := Option.bind_eq_some_iff.1 h
  have l2b := row_some hb e10
  obtain ⟨s, e11, h⟩ := Option.bind_eq_some_iff.1 h
  cases h
  exact listM_all (P := CtxOk) (clR_ok hb (firstC_rl r0r) c2b c1b c2b c3b) e11 (by simp) (by simp)
 ·
  rename_i hc
  obtain ⟨o2, e5, h⟩ := Option.bind_eq_some_iff.1 h
  have o2b := num_some hb e5
  obtain ⟨c2, e6, h⟩ := Option.bind_eq_some_iff.1 h
  have c2b := classesM_cb hN hb hb1 (by omega) (by omega) (by omega) (by omega) e6
  obtain ⟨n, e9, h⟩ := Option.bind_eq_some_iff.1 h
  have nb := num_some hb e9
  obtain ⟨l2, e10, h⟩ := Option.bind_eq_some_iff.1 h
  have l2b := row_some hb e10
  obtain ⟨s, e11, h⟩ := Option.bind_eq_some_iff.1 h
  cases h
  exact listM_all (P := CtxOk) (clR_ok hb (firstC_rl r0r) c2b CB.nil c2b CB.nil) e11 (by simp) (by simp)
theorem coveredM_ok {base p : Int} {ch : Bool} (h0 : -1000000 ≤ base) (h1 : base ≤ 1000000) {r : List TCtx × Int} (h : coveredM N b p base ch = some r) : OkT r := by
 unfold coveredM at h
 split at h
 ·
  rename_i hc
  obtain ⟨n1, e1, h⟩ := Option.bind_eq_some_iff.1 h
  have n1b := cntr_some hb e1
  obtain ⟨l1, e2, h⟩ := Option.bind_eq_some_iff.1 h
  have l1b := row_some hb e2
  obtain ⟨s1, e3, h⟩ := Option.bind_eq_some_iff.1 h
  have s1l := covs_len e3
  have s1r := covs_rl hN hb hb1 h0 h1 l1b.2.2.2.2.2 e3
  obtain ⟨n2, e4, h⟩ := Option.bind_eq_some_iff.1 h
  have n2b := cntr_some hb e4
  obtain ⟨l2, e5, h⟩ := Option.bind_eq_some_iff.1 h
  have l2b := row_some hb e5
  obtain ⟨s2, e6, h⟩ := Option.bind_eq_some_iff.1 h
  have s2l := covs_len e6
  have s2r := covs_rl hN hb hb1 h0 h1 l2b.2.2.2.2.2 e6
  obtain ⟨n3, e7, h⟩ := Option.bind_eq_some_iff.1 h
  have n3b := cntr_some hb e7
  obtain ⟨l3, e8, h⟩ := Option.bind_eq_some_iff.1 h
  have l3b := row_some hb e8
  obtain ⟨s3, e9, h⟩ := Option.bind_eq_some_iff.1 h
  have s3l := covs_len e9
  have s3r := covs_rl hN hb hb1 h0 h1 l3b.2.2.2.2.2 e9
  obtain ⟨n4, e10, h⟩ := Option.bind_eq_some_iff.1 h
  have n4b := cntr_some hb e10
  obtain ⟨q, e11, h⟩ := Option.bind_eq_some_iff.1 h
  have qb := acts_some hb (l := q.1) (q := q.2) e11
  cases h
  refine ⟨by simp, fun c hc2 => ?_⟩
  rw [List.mem_singleton.1 hc2]
  exact ⟨by simp only; omega, by simp only; omega, by simp only; omega, by simp only; omega, fun s hs => by have := (s1r s hs).2; unfold SetOk; omega, fun s hs => by have := (s2r s hs).2; unfold SetOk; omega, fun s hs => by have := (s3r s hs).2; unfold SetOk; omega⟩
 ·
  rename_i hc
  obtain ⟨n2, e4, h⟩ := Option.bind_eq_some_iff.1 h
  have n2b := cntr_some hb e4
  obtain ⟨n4, e10, h⟩ := Option.bind_eq_some_iff.1 h
  have n4b := cntr_some hb e10
  obtain ⟨l2, e5, h⟩ := Option.bind_eq_some_iff.1 h
  have l2b := row_some hb e5
  obtain ⟨s2, e6, h⟩ := Option.bind_eq_some_iff.1 h
  have s2l := covs_len e6
  have s2r := covs_rl hN hb hb1 h0 h1 l2b.2.2.2.2.2 e6
  obtain ⟨q, e11, h⟩ := Option.bind_eq_some_iff.1 h
  have qb := acts_some hb (l := q.1) (q := q.2) e11
  cases h
  refine ⟨by simp, fun c hc2 => ?_⟩
  rw [List.mem_singleton.1 hc2]
  exact ⟨by simp, by simp only; omega, by simp, by simp only; omega, by simp, fun s hs => by have := (s2r s hs).2; unfold SetOk; omega, by simp⟩
theorem tableM_ok {p : Int} {ch : Bool} (h0 : -1000000 ≤ p) (h1 : p ≤ 1000000) {r : List TCtx × Int} (h : tableM N b p ch = some r) : OkT r := by
  unfold tableM at h
  obtain ⟨f, e1, h⟩ := Option.bind_eq_some_iff.1 h
  split at h
  · exact singleM_ok hN hb hb1 h0 h1 h
  · split at h
    · exact classedM_ok hN hb hb1 h0 h1 h
    · split at h
      · exact coveredM_ok hN hb hb1 h0 h1 h
      · cases h
end
section
variable {N : Nat} (hN : 1000000000000 < N) {b m : List Int} (hb : Bytes b) (hm : Bytes m) (hl : (b ++ m).length ≤ 1000000)
include hN hb hm hl
end
end Go.Proofs.Ytakplhfiohjcmaa.AI
