/- Part of a proof. -/
import Derived.Test.YtfacmhngbaboiaaCX7
set_option linter.unusedVariables false
set_option linter.unusedSimpArgs false
set_option maxRecDepth 100000
namespace Go.Proofs.Ytfacmhngbaboiaa.AI
def SetOk (s : TSet) : Prop := s.Spans.length ≤ 1000000
def CtxOk (c : TCtx) : Prop := c.Back.length ≤ 16 ∧ c.In.length ≤ 16 ∧ c.Ahead.length ≤ 16 ∧ c.Acts.length ≤ 16 ∧ (∀ s ∈ c.Back, SetOk s) ∧ (∀ s ∈ c.In, SetOk s) ∧ ∀ s ∈ c.Ahead, SetOk s
theorem ruleM_sets {b : List Int} {f g h : Int → TSet} {t : TSet} {ch : Bool} {p : Int} (hf : ∀ x, SetOk (f x)) (hg : ∀ x, SetOk (g x)) (hh : ∀ x, SetOk (h x)) (ht : SetOk t) {r : TR} (hr : ruleM b (List.map f) (List.map g) (List.map h) t ch p = some r) : (∀ s ∈ r.1, SetOk s) ∧ (∀ s ∈ r.2.1, SetOk s) ∧ ∀ s ∈ r.2.2.1, SetOk s := by
 have key : ∀ {f : Int → TSet} {l : List Int}, (∀ x, SetOk (f x)) → ∀ s ∈ List.map f l, SetOk s := fun hf s hs => by
  obtain ⟨x, _, rfl⟩ := List.mem_map.1 hs
  exact hf x
 have key2 : ∀ {f : Int → TSet} {l : List Int}, (∀ x, SetOk (f x)) → ∀ s ∈ t :: List.map f l, SetOk s := fun hf s hs => by
  rcases List.mem_cons.1 hs with rfl | hs
  ·
   exact ht
  ·
   exact key hf s hs
 unfold ruleM at hr
 split at hr
 ·
  obtain ⟨n1, e1, hr⟩ := Option.bind_eq_some_iff.1 hr
  obtain ⟨l1, e2, hr⟩ := Option.bind_eq_some_iff.1 hr
  obtain ⟨n2, e3, hr⟩ := Option.bind_eq_some_iff.1 hr
  obtain ⟨l2, e4, hr⟩ := Option.bind_eq_some_iff.1 hr
  obtain ⟨n3, e5, hr⟩ := Option.bind_eq_some_iff.1 hr
  obtain ⟨l3, e6, hr⟩ := Option.bind_eq_some_iff.1 hr
  obtain ⟨n4, e7, hr⟩ := Option.bind_eq_some_iff.1 hr
  obtain ⟨⟨l, q⟩, e8, hr⟩ := Option.bind_eq_some_iff.1 hr
  cases hr
  exact ⟨key hf, key2 hg, key hh⟩
 ·
  obtain ⟨n2, e3, hr⟩ := Option.bind_eq_some_iff.1 hr
  obtain ⟨n4, e7, hr⟩ := Option.bind_eq_some_iff.1 hr
  obtain ⟨l2, e4, hr⟩ := Option.bind_eq_some_iff.1 hr
  obtain ⟨⟨l, q⟩, e8, hr⟩ := Option.bind_eq_some_iff.1 hr
  cases hr
  exact ⟨by simp, key2 hg, by simp⟩
theorem RL.l6 {l : List TSpan} (h : RL 0 l) : l.length ≤ 65536 := by
  rcases RL.len h (Int.le_refl 0) with h | h
  · omega
  · rw [h]; simp
theorem clR_ok {b : List Int} (hb : Bytes b) {ch : Bool} {sp : List TSpan} {c0 c1 c2 c3 : List TClass} (hsp : RL 0 sp) (g0 : CB c0) (g1 : CB c1) (g2 : CB c2) (g3 : CB c3) (i : Nat) (p : Int) (r : TR) (hr : clR b ch sp c0 c1 c2 c3 i p = some r) : CtxOk ⟨r.1, r.2.1, r.2.2.1, r.2.2.2.1⟩ := by
 have k : ∀ {c : List TClass}, CB c → ∀ x, SetOk (setC c x) := fun hc x => by have := (wth_rl hc x).2; unfold SetOk setC; simp only; omega
 have hs := ruleM_sets (k g1) (k g2) (k g3) (by
  have := (ouB_spec (nt := decide ((i : Int) = 0)) (wth_rl g0 i).1 hsp (Int.le_refl 0) (o := []) trivial (by simp)).1.l6
  unfold SetOk; simp only; omega) hr
 have hg := ruleM_good hb hr
 exact ⟨hg.2.2.1, hg.2.1, hg.2.2.2.1, hg.2.2.2.2.1, hs⟩
theorem glR_ok {N : Nat} {b : List Int} (hb : Bytes b) {ch : Bool} {gl : List Int} (i : Nat) (p : Int) (r : TR) (hr : glR N b ch gl i p = some r) : CtxOk ⟨r.1, r.2.1, r.2.2.1, r.2.2.2.1⟩ := by
 have k : ∀ x, SetOk (glyphT x) := fun x => by unfold SetOk glyphT; simp
 have hs := ruleM_sets k k k (k _) hr
 have hg := ruleM_good hb hr
 exact ⟨hg.2.2.1, hg.2.1, hg.2.2.2.1, hg.2.2.2.2.1, hs⟩
theorem firstC_rl : ∀ {r : List TSet}, (∀ x ∈ r, RL 0 x.Spans ∧ x.Spans.length ≤ 65536) → RL 0 (firstC r)
 | [], _ => trivial
 | c :: _, h => (h c (by simp)).1
theorem num_app {b m : List Int} (hb : Bytes b) {p x : Int} (h : num b p = some x) : num (b ++ m) p = some x := by
 have h1 := num_some hb h
 have e := u16_app (m := m) hb (i := p) (by omega)
 unfold num at h ⊢
 rw [e]; exact h
theorem cntr_app {b m : List Int} (hb : Bytes b) {p lo hi x : Int} (h : cntr b p lo hi = some x) : cntr (b ++ m) p lo hi = some x := by
 unfold cntr at h ⊢
 obtain ⟨n, h1, h2⟩ := Option.bind_eq_some_iff.1 h
 rw [num_app hb h1]; exact h2
theorem row_app {b m : List Int} (hb : Bytes b) {p n : Int} {l : List Int} (h : row b p n = some l) : row (b ++ m) p n = some l := by
 obtain ⟨h1, h2, h3, h4, h5, h6⟩ := row_some hb h
 unfold row
 rw [if_pos (by simp only [List.length_append]; omega), row16_app hb (by rw [← h1]; exact fun x hx => (h6 x hx).1), h1]
theorem acts_app {b m : List Int} (hb : Bytes b) {long : Int} : ∀ {n : Nat} {p : Int} {r : List TAct × Int}, acts b long n p = some r → acts (b ++ m) long n p = some r
 | 0, p, r, h => h
 | n + 1, p, r, h => by
  simp only [acts] at h ⊢
  obtain ⟨x, h1, h2⟩ := Option.bind_eq_some_iff.1 h
  obtain ⟨y, h3, h4⟩ := Option.bind_eq_some_iff.1 h2
  rw [num_app hb h1, Option.bind_some, num_app hb h3, Option.bind_some]
  split at h4
  ·
   rename_i hlt
   obtain ⟨r2, h5, h6⟩ := Option.bind_eq_some_iff.1 h4
   rw [if_pos hlt, acts_app hb h5, Option.bind_some]; exact h6
  ·
   cases h4
theorem ruleM_app {b m : List Int} (hb : Bytes b) {mb mi ma : List Int → List TSet} {t : TSet} {ch : Bool} {p : Int} {r : TR} (h : ruleM b mb mi ma t ch p = some r) : ruleM (b ++ m) mb mi ma t ch p = some r := by
 unfold ruleM at h ⊢
 split at h
 ·
  rename_i hc
  obtain ⟨n1, e1, h⟩ := Option.bind_eq_some_iff.1 h
  obtain ⟨l1, e2, h⟩ := Option.bind_eq_some_iff.1 h
  obtain ⟨n2, e3, h⟩ := Option.bind_eq_some_iff.1 h
  obtain ⟨l2, e4, h⟩ := Option.bind_eq_some_iff.1 h
  obtain ⟨n3, e5, h⟩ := Option.bind_eq_some_iff.1 h
  obtain ⟨l3, e6, h⟩ := Option.bind_eq_some_iff.1 h
  obtain ⟨n4, e7, h⟩ := Option.bind_eq_some_iff.1 h
  obtain ⟨q, e8, h⟩ := Option.bind_eq_some_iff.1 h
  rw [if_pos hc, cntr_app hb e1, Option.bind_some, row_app hb e2, Option.bind_some, cntr_app hb e3, Option.bind_some, row_app hb e4, Option.bind_some, cntr_app hb e5, Option.bind_some, row_app hb e6, Option.bind_some, cntr_app hb e7, Option.bind_some, acts_app hb e8]
  exact h
 ·
  rename_i hc
  obtain ⟨n2, e3, h⟩ := Option.bind_eq_some_iff.1 h
  obtain ⟨n4, e7, h⟩ := Option.bind_eq_some_iff.1 h
  obtain ⟨l2, e4, h⟩ := Option.bind_eq_some_iff.1 h
  obtain ⟨q, e8, h⟩ := Option.bind_eq_some_iff.1 h
  rw [if_neg hc, cntr_app hb e3, Option.bind_some, cntr_app hb e7, Option.bind_some, row_app hb e4, Option.bind_some, acts_app hb e8]
  exact h
theorem rulesM_app {rl rl2 : Int → Option TR} (hr : ∀ p r, rl p = some r → rl2 p = some r) {base : Int} : ∀ {l : List Int} {s t : List TCtx}, rulesM rl base l s = some t → rulesM rl2 base l s = some t
 | [], s, t, h => h
 | o :: r, s, t, h => by
  simp only [rulesM] at h ⊢
  obtain ⟨q, h1, h2⟩ := Option.bind_eq_some_iff.1 h
  rw [hr _ _ h1, Option.bind_some]
  split at h2
  ·
   rename_i hl
   rw [if_pos hl]
   exact rulesM_app hr h2
  ·
   cases h2
theorem listM_app {b m : List Int} (hb : Bytes b) {rl rl2 : Nat → Int → Option TR} (hr : ∀ i p r, rl i p = some r → rl2 i p = some r) {base : Int} : ∀ {l : List Int} {i : Nat} {s t : List TCtx}, listM b rl base i l s = some t → listM (b ++ m) rl2 base i l s = some t
 | [], i, s, t, h => h
 | o :: r, i, s, t, h => by
  simp only [listM] at h ⊢
  split at h
  ·
   rename_i hz
   rw [if_pos hz]
   exact listM_app hb hr h
  ·
   rename_i hz
   rw [if_neg hz]
   obtain ⟨n, h1, h⟩ := Option.bind_eq_some_iff.1 h
   rw [num_app hb h1, Option.bind_some]
   split at h
   ·
    rename_i h64
    obtain ⟨l, h2, h⟩ := Option.bind_eq_some_iff.1 h
    obtain ⟨s2, h3, h⟩ := Option.bind_eq_some_iff.1 h
    rw [if_pos h64, row_app hb h2, Option.bind_some, rulesM_app (hr i) h3, Option.bind_some]
    exact listM_app hb hr h
   ·
    cases h
def OkT (r : List TCtx × Int) : Prop := r.1.length ≤ 64 ∧ ∀ c ∈ r.1, CtxOk c
section
variable {N : Nat} (hN : 1000000000000 < N) {b : List Int} (hb : Bytes b) (hb1 : b.length ≤ 1000000)
include hN hb hb1
theorem singleM_ok {base p : Int} {ch : Bool} (h0 : -1000000 ≤ base) (h1 : base ≤ 1000000) {r : List TCtx × Int} (h : singleM N b p base ch = some r) : OkT r := by
 unfold singleM at h
 obtain ⟨l, e1, h⟩ := Option.bind_eq_some_iff.1 h
 have lb := row_some hb e1
 obtain ⟨r0, e2, h⟩ := Option.bind_eq_some_iff.1 h
 have r0l := covs_len e2
 have r0r := covs_rl hN hb hb1 h0 h1 lb.2.2.2.2.2 e2
 obtain ⟨n, e3, h⟩ := Option.bind_eq_some_iff.1 h
 have nb := num_some hb e3
 split at h
 ·
  rename_i hc
  obtain ⟨l2, e5, h⟩ := Option.bind_eq_some_iff.1 h
  have l2b := row_some hb e5
  obtain ⟨s, e6, h⟩ := Option.bind_eq_some_iff.1 h
  cases h
  exact listM_all (P := CtxOk) (glR_ok hb) e6 (by simp) (by simp)
 ·
  cases h
theorem classedM_ok {base p : Int} {ch : Bool} (h0 : -1000000 ≤ base) (h1 : base ≤ 1000000) {r : List TCtx × Int} (h : classedM N b p base ch = some r) : OkT r := by
 unfold classedM at h
 obtain ⟨l, e1, h⟩ := Option.bind_eq_some_iff.1 h
 have lb := row_some hb e1
 obtain ⟨r0, e2, h⟩ := Option.bind_eq_some_iff.1 h
 have r0l := covs_len e2
 have r0r := covs_rl hN hb hb1 h0 h1 lb.2.2.2.2.2 e2
 split at h
 ·
  rename_i hc
  obtain ⟨o1, e3, h⟩ := Option.bind_eq_some_iff.1 h
  have o1b := num_some hb e3
  obtain ⟨c1, e4, h⟩ := Option.bind_eq_some_iff.1 h
  have c1b := classesM_cb hN hb hb1 (by omega) (by omega) (by omega) (by omega) e4
  obtain ⟨o2, e5, h⟩ := Option.bind_eq_some_iff.1 h
  have o2b := num_some hb e5
  obtain ⟨c2, e6, h⟩ := Option.bind_eq_some_iff.1 h
  have c2b := classesM_cb hN hb hb1 (by omega) (by omega) (by omega) (by omega) e6
  obtain ⟨o3, e7, h⟩ := Option.bind_eq_some_iff.1 h
  have o3b := num_some hb e7
  obtain ⟨c3, e8, h⟩ := Option.bind_eq_some_iff.1 h
  have c3b := classesM_cb hN hb hb1 (by omega) (by omega) (by omega) (by omega) e8
  obtain ⟨n, e9, h⟩ := Option.bind_eq_some_iff.1 h
  have nb := num_some hb e9
  obtain ⟨l2, e10, h⟩ := Option.bind_eq_some_iff.1 h
  have l2b := row_some hb e10
  obtain ⟨s, e11, h⟩ := Option.bind_eq_some_iff.1 h
  cases h
  exact listM_all (P := CtxOk) (clR_ok hb (firstC_rl r0r) c2b c1b c2b c3b) e11 (by simp) (by simp)
 ·
  rename_i hc
  obtain ⟨o2, e5, h⟩ := Option.bind_eq_some_iff.1 h
  have o2b := num_some hb e5
  obtain ⟨c2, e6, h⟩ := Option.bind_eq_some_iff.1 h
  have c2b := classesM_cb hN hb hb1 (by omega) (by omega) (by omega) (by omega) e6
  obtain ⟨n, e9, h⟩ := Option.bind_eq_some_iff.1 h
  have nb := num_some hb e9
  obtain ⟨l2, e10, h⟩ := Option.bind_eq_some_iff.1 h
  have l2b := row_some hb e10
  obtain ⟨s, e11, h⟩ := Option.bind_eq_some_iff.1 h
  cases h
  exact listM_all (P := CtxOk) (clR_ok hb (firstC_rl r0r) c2b CB.nil c2b CB.nil) e11 (by simp) (by simp)
theorem coveredM_ok {base p : Int} {ch : Bool} (h0 : -1000000 ≤ base) (h1 : base ≤ 1000000) {r : List TCtx × Int} (h : coveredM N b p base ch = some r) : OkT r := by
 unfold coveredM at h
 split at h
 ·
  rename_i hc
  obtain ⟨n1, e1, h⟩ := Option.bind_eq_some_iff.1 h
  have n1b := cntr_some hb e1
  obtain ⟨l1, e2, h⟩ := Option.bind_eq_some_iff.1 h
  have l1b := row_some hb e2
  obtain ⟨s1, e3, h⟩ := Option.bind_eq_some_iff.1 h
  have s1l := covs_len e3
  have s1r := covs_rl hN hb hb1 h0 h1 l1b.2.2.2.2.2 e3
  obtain ⟨n2, e4, h⟩ := Option.bind_eq_some_iff.1 h
  have n2b := cntr_some hb e4
  obtain ⟨l2, e5, h⟩ := Option.bind_eq_some_iff.1 h
  have l2b := row_some hb e5
  obtain ⟨s2, e6, h⟩ := Option.bind_eq_some_iff.1 h
  have s2l := covs_len e6
  have s2r := covs_rl hN hb hb1 h0 h1 l2b.2.2.2.2.2 e6
  obtain ⟨n3, e7, h⟩ := Option.bind_eq_some_iff.1 h
  have n3b := cntr_some hb e7
  obtain ⟨l3, e8, h⟩ := Option.bind_eq_some_iff.1 h
  have l3b := row_some hb e8
  obtain ⟨s3, e9, h⟩ := Option.bind_eq_some_iff.1 h
  have s3l := covs_len e9
  have s3r := covs_rl hN hb hb1 h0 h1 l3b.2.2.2.2.2 e9
  obtain ⟨n4, e10, h⟩ := Option.bind_eq_some_iff.1 h
  have n4b := cntr_some hb e10
  obtain ⟨q, e11, h⟩ := Option.bind_eq_some_iff.1 h
  have qb := acts_some hb (l := q.1) (q := q.2) e11
  cases h
  refine ⟨by simp, fun c hc2 => ?_⟩
  rw [List.mem_singleton.1 hc2]
  exact ⟨by simp only; omega, by simp only; omega, by simp only; omega, by simp only; omega, fun s hs => by have := (s1r s hs).2; unfold SetOk; omega, fun s hs => by have := (s2r s hs).2; unfold SetOk; omega, fun s hs => by have := (s3r s hs).2; unfold SetOk; omega⟩
 ·
  rename_i hc
  obtain ⟨n2, e4, h⟩ := Option.bind_eq_some_iff.1 h
  have n2b := cntr_some hb e4
  obtain ⟨n4, e10, h⟩ := Option.bind_eq_some_iff.1 h
  have n4b := cntr_some hb e10
  obtain ⟨l2, e5, h⟩ := Option.bind_eq_some_iff.1 h
  have l2b := row_some hb e5
  obtain ⟨s2, e6, h⟩ := Option.bind_eq_some_iff.1 h
  have s2l := covs_len e6
  have s2r := covs_rl hN hb hb1 h0 h1 l2b.2.2.2.2.2 e6
  obtain ⟨q, e11, h⟩ := Option.bind_eq_some_iff.1 h
  have qb := acts_some hb (l := q.1) (q := q.2) e11
  cases h
  refine ⟨by simp, fun c hc2 => ?_⟩
  rw [List.mem_singleton.1 hc2]
  exact ⟨by simp, by simp only; omega, by simp, by simp only; omega, by simp, fun s hs => by have := (s2r s hs).2; unfold SetOk; omega, by simp⟩
theorem tableM_ok {p : Int} {ch : Bool} (h0 : -1000000 ≤ p) (h1 : p ≤ 1000000) {r : List TCtx × Int} (h : tableM N b p ch = some r) : OkT r := by
  unfold tableM at h
  obtain ⟨f, e1, h⟩ := Option.bind_eq_some_iff.1 h
  split at h
  · exact singleM_ok hN hb hb1 h0 h1 h
  · split at h
    · exact classedM_ok hN hb hb1 h0 h1 h
    · split at h
      · exact coveredM_ok hN hb hb1 h0 h1 h
      · cases h
end
section
variable {N : Nat} (hN : 1000000000000 < N) {b m : List Int} (hb : Bytes b) (hm : Bytes m) (hl : (b ++ m).length ≤ 1000000)
include hN hb hm hl
theorem covs_app {base : Int} (h0 : -1000000 ≤ base) (h1 : base ≤ 1000000) : ∀ {l : List Int} {r : List TSet}, (∀ x ∈ l, 0 ≤ x ∧ x ≤ 65535) → covs N b base l = some r → covs N (b ++ m) base l = some r
 | [], r, _, h => h
 | o :: l, r, hx, h => by
  simp only [covs] at h ⊢
  obtain ⟨s, h2, h3⟩ := Option.bind_eq_some_iff.1 h
  obtain ⟨q, h4, h5⟩ := Option.bind_eq_some_iff.1 h3
  have ho := hx o (by simp)
  have e : cov N (b ++ m) (base + o) = some s := by
   unfold cov at h2 ⊢
   split at h2
   ·
    rename_i hc
    obtain ⟨g1, g2⟩ := covL_app hN hb hm (by omega) (base + o) (by omega) (by omega) hc
    rw [if_pos g1, g2]; exact h2
   ·
    cases h2
  rw [e, Option.bind_some, covs_app h0 h1 (fun y hy => hx y (List.mem_cons_of_mem _ hy)) h4]
  exact h5
theorem classesM_app {base off : Int} (h0 : -1000000000 ≤ base) (h1 : base ≤ 1000000000) (h2 : 0 ≤ off) (h3 : off ≤ 65535) {c : List TClass} (h : classesM N b base off = some c) : classesM N (b ++ m) base off = some c := by
 unfold classesM at h ⊢
 split at h
 ·
  rename_i hz; rw [if_pos hz]; exact h
 ·
  rename_i hz
  rw [if_neg hz]
  unfold clsO at h ⊢
  split at h
  ·
   rename_i hc
   obtain ⟨g1, g2⟩ := clsL_app hN hb hm (by omega) (base + off) (by omega) (by omega) hc
   rw [if_pos g1, g2]; exact h
  ·
   cases h
theorem singleM_app {base p : Int} {ch : Bool} (h0 : -1000000 ≤ base) (h1 : base ≤ 1000000) {r : List TCtx × Int} (h : singleM N b p base ch = some r) : singleM N (b ++ m) p base ch = some r := by
 have hb1 : b.length ≤ 1000000 := by simp only [List.length_append] at hl; omega
 unfold singleM at h ⊢
 obtain ⟨l, e1, h⟩ := Option.bind_eq_some_iff.1 h
 have lb := row_some hb e1
 rw [row_app hb e1, Option.bind_some]
 obtain ⟨r0, e2, h⟩ := Option.bind_eq_some_iff.1 h
 have r0l := covs_len e2
 have r0r := covs_rl hN hb hb1 h0 h1 lb.2.2.2.2.2 e2
 rw [covs_app hN hb hm hl h0 h1 lb.2.2.2.2.2 e2, Option.bind_some]
 obtain ⟨n, e3, h⟩ := Option.bind_eq_some_iff.1 h
 have nb := num_some hb e3
 rw [num_app hb e3, Option.bind_some]
 split at h
 ·
  rename_i hc
  rw [if_pos hc]
  obtain ⟨l2, e5, h⟩ := Option.bind_eq_some_iff.1 h
  have l2b := row_some hb e5
  rw [row_app hb e5, Option.bind_some]
  obtain ⟨s, e6, h⟩ := Option.bind_eq_some_iff.1 h
  rw [listM_app (m := m) (rl2 := glR N (b ++ m) ch (glO (firstC r0))) hb (fun i p r hr => ruleM_app hb hr) e6, Option.bind_some]
  exact h
 ·
  cases h
theorem classedM_app {base p : Int} {ch : Bool} (h0 : -1000000 ≤ base) (h1 : base ≤ 1000000) {r : List TCtx × Int} (h : classedM N b p base ch = some r) : classedM N (b ++ m) p base ch = some r := by
 have hb1 : b.length ≤ 1000000 := by simp only [List.length_append] at hl; omega
 unfold classedM at h ⊢
 obtain ⟨l, e1, h⟩ := Option.bind_eq_some_iff.1 h
 have lb := row_some hb e1
 rw [row_app hb e1, Option.bind_some]
 obtain ⟨r0, e2, h⟩ := Option.bind_eq_some_iff.1 h
 have r0l := covs_len e2
 have r0r := covs_rl hN hb hb1 h0 h1 lb.2.2.2.2.2 e2
 rw [covs_app hN hb hm hl h0 h1 lb.2.2.2.2.2 e2, Option.bind_some]
 split at h
 ·
  rename_i hc
  rw [if_pos hc]
  obtain ⟨o1, e3, h⟩ := Option.bind_eq_some_iff.1 h
  have o1b := num_some hb e3
  rw [num_app hb e3, Option.bind_some]
  obtain ⟨c1, e4, h⟩ := Option.bind_eq_some_iff.1 h
  have c1b := classesM_cb hN hb hb1 (by omega) (by omega) (by omega) (by omega) e4
  rw [classesM_app hN hb hm hl (by omega) (by omega) (by omega) (by omega) e4, Option.bind_some]
  obtain ⟨o2, e5, h⟩ := Option.bind_eq_some_iff.1 h
  have o2b := num_some hb e5
  rw [num_app hb e5, Option.bind_some]
  obtain ⟨c2, e6, h⟩ := Option.bind_eq_some_iff.1 h
  have c2b := classesM_cb hN hb hb1 (by omega) (by omega) (by omega) (by omega) e6
  rw [classesM_app hN hb hm hl (by omega) (by omega) (by omega) (by omega) e6, Option.bind_some]
  obtain ⟨o3, e7, h⟩ := Option.bind_eq_some_iff.1 h
  have o3b := num_some hb e7
  rw [num_app hb e7, Option.bind_some]
  obtain ⟨c3, e8, h⟩ := Option.bind_eq_some_iff.1 h
  have c3b := classesM_cb hN hb hb1 (by omega) (by omega) (by omega) (by omega) e8
  rw [classesM_app hN hb hm hl (by omega) (by omega) (by omega) (by omega) e8, Option.bind_some]
  obtain ⟨n, e9, h⟩ := Option.bind_eq_some_iff.1 h
  have nb := num_some hb e9
  rw [num_app hb e9, Option.bind_some]
  obtain ⟨l2, e10, h⟩ := Option.bind_eq_some_iff.1 h
  have l2b := row_some hb e10
  rw [row_app hb e10, Option.bind_some]
  obtain ⟨s, e11, h⟩ := Option.bind_eq_some_iff.1 h
  rw [listM_app (m := m) (rl2 := clR (b ++ m) true (firstC r0) c2 c1 c2 c3) hb (fun i p r hr => ruleM_app hb hr) e11, Option.bind_some]
  exact h
 ·
  rename_i hc
  rw [if_neg hc]
  obtain ⟨o2, e5, h⟩ := Option.bind_eq_some_iff.1 h
  have o2b := num_some hb e5
  rw [num_app hb e5, Option.bind_some]
  obtain ⟨c2, e6, h⟩ := Option.bind_eq_some_iff.1 h
  have c2b := classesM_cb hN hb hb1 (by omega) (by omega) (by omega) (by omega) e6
  rw [classesM_app hN hb hm hl (by omega) (by omega) (by omega) (by omega) e6, Option.bind_some]
  obtain ⟨n, e9, h⟩ := Option.bind_eq_some_iff.1 h
  have nb := num_some hb e9
  rw [num_app hb e9, Option.bind_some]
  obtain ⟨l2, e10, h⟩ := Option.bind_eq_some_iff.1 h
  have l2b := row_some hb e10
  rw [row_app hb e10, Option.bind_some]
  obtain ⟨s, e11, h⟩ := Option.bind_eq_some_iff.1 h
  rw [listM_app (m := m) (rl2 := clR (b ++ m) false (firstC r0) c2 [] c2 []) hb (fun i p r hr => ruleM_app hb hr) e11, Option.bind_some]
  exact h
theorem coveredM_app {base p : Int} {ch : Bool} (h0 : -1000000 ≤ base) (h1 : base ≤ 1000000) {r : List TCtx × Int} (h : coveredM N b p base ch = some r) : coveredM N (b ++ m) p base ch = some r := by
 have hb1 : b.length ≤ 1000000 := by simp only [List.length_append] at hl; omega
 unfold coveredM at h ⊢
 split at h
 ·
  rename_i hc
  rw [if_pos hc]
  obtain ⟨n1, e1, h⟩ := Option.bind_eq_some_iff.1 h
  have n1b := cntr_some hb e1
  rw [cntr_app hb e1, Option.bind_some]
  obtain ⟨l1, e2, h⟩ := Option.bind_eq_some_iff.1 h
  have l1b := row_some hb e2
  rw [row_app hb e2, Option.bind_some]
  obtain ⟨s1, e3, h⟩ := Option.bind_eq_some_iff.1 h
  have s1l := covs_len e3
  have s1r := covs_rl hN hb hb1 h0 h1 l1b.2.2.2.2.2 e3
  rw [covs_app hN hb hm hl h0 h1 l1b.2.2.2.2.2 e3, Option.bind_some]
  obtain ⟨n2, e4, h⟩ := Option.bind_eq_some_iff.1 h
  have n2b := cntr_some hb e4
  rw [cntr_app hb e4, Option.bind_some]
  obtain ⟨l2, e5, h⟩ := Option.bind_eq_some_iff.1 h
  have l2b := row_some hb e5
  rw [row_app hb e5, Option.bind_some]
  obtain ⟨s2, e6, h⟩ := Option.bind_eq_some_iff.1 h
  have s2l := covs_len e6
  have s2r := covs_rl hN hb hb1 h0 h1 l2b.2.2.2.2.2 e6
  rw [covs_app hN hb hm hl h0 h1 l2b.2.2.2.2.2 e6, Option.bind_some]
  obtain ⟨n3, e7, h⟩ := Option.bind_eq_some_iff.1 h
  have n3b := cntr_some hb e7
  rw [cntr_app hb e7, Option.bind_some]
  obtain ⟨l3, e8, h⟩ := Option.bind_eq_some_iff.1 h
  have l3b := row_some hb e8
  rw [row_app hb e8, Option.bind_some]
  obtain ⟨s3, e9, h⟩ := Option.bind_eq_some_iff.1 h
  have s3l := covs_len e9
  have s3r := covs_rl hN hb hb1 h0 h1 l3b.2.2.2.2.2 e9
  rw [covs_app hN hb hm hl h0 h1 l3b.2.2.2.2.2 e9, Option.bind_some]
  obtain ⟨n4, e10, h⟩ := Option.bind_eq_some_iff.1 h
  have n4b := cntr_some hb e10
  rw [cntr_app hb e10, Option.bind_some]
  obtain ⟨q, e11, h⟩ := Option.bind_eq_some_iff.1 h
  rw [acts_app hb e11, Option.bind_some]
  exact h
 ·
  rename_i hc
  rw [if_neg hc]
  obtain ⟨n2, e4, h⟩ := Option.bind_eq_some_iff.1 h
  have n2b := cntr_some hb e4
  rw [cntr_app hb e4, Option.bind_some]
  obtain ⟨n4, e10, h⟩ := Option.bind_eq_some_iff.1 h
  have n4b := cntr_some hb e10
  rw [cntr_app hb e10, Option.bind_some]
  obtain ⟨l2, e5, h⟩ := Option.bind_eq_some_iff.1 h
  have l2b := row_some hb e5
  rw [row_app hb e5, Option.bind_some]
  obtain ⟨s2, e6, h⟩ := Option.bind_eq_some_iff.1 h
  have s2l := covs_len e6
  have s2r := covs_rl hN hb hb1 h0 h1 l2b.2.2.2.2.2 e6
  rw [covs_app hN hb hm hl h0 h1 l2b.2.2.2.2.2 e6, Option.bind_some]
  obtain ⟨q, e11, h⟩ := Option.bind_eq_some_iff.1 h
  rw [acts_app hb e11, Option.bind_some]
  exact h
theorem tableM_app {p : Int} {ch : Bool} (h0 : -1000000 ≤ p) (h1 : p ≤ 1000000) {r : List TCtx × Int} (h : tableM N b p ch = some r) : tableM N (b ++ m) p ch = some r := by
 unfold tableM at h ⊢
 obtain ⟨f, e1, h⟩ := Option.bind_eq_some_iff.1 h
 rw [num_app hb e1, Option.bind_some]
 split at h
 ·
  rename_i g1
  rw [if_pos g1]; exact singleM_app hN hb hm hl h0 h1 h
 ·
  rename_i g1
  rw [if_neg g1]
  split at h
  ·
   rename_i g2
   rw [if_pos g2]; exact classedM_app hN hb hm hl h0 h1 h
  ·
   rename_i g2
   rw [if_neg g2]
   split at h
   ·
    rename_i g3
    rw [if_pos g3]; exact coveredM_app hN hb hm hl h0 h1 h
   ·
    cases h
end
end Go.Proofs.Ytfacmhngbaboiaa.AI
