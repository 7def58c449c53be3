/- Plain laws of layer 11: the law of ContextMay. -/
import Derived.Test.YtakplhfiohjcmaaCX6
set_option linter.unusedVariables false
set_option linter.unusedSimpArgs false
set_option maxRecDepth 100000
namespace Go.Proofs.Ytakplhfiohjcmaa.AI
theorem alive11_go (M : Nat) : law11_alive (M + 40) = some true := by rfl
theorem alive11 {N : Nat} (hN : 1000000000000 < N) : law11_alive N = some true := by
  obtain ⟨M, rfl⟩ : ∃ M, N = M + 40 := ⟨N - 40, by omega⟩
  exact alive11_go M
def GoodC (ch : Bool) (c : TCtx) : Prop := 1 ≤ c.In.length ∧ c.In.length ≤ 16 ∧ c.Back.length ≤ 16 ∧ c.Ahead.length ≤ 16 ∧ c.Acts.length ≤ 16 ∧ (∀ x ∈ c.Acts, 0 ≤ x.At ∧ x.At < (c.In.length : Int)) ∧ (ch = false → c.Back = [] ∧ c.Ahead = [])
theorem ruleM_good {b : List Int} (hb : Bytes b) {f g h : Int → TSet} {t : TSet} {ch : Bool} {p : Int} {r : TR} (hr : ruleM b (List.map f) (List.map g) (List.map h) t ch p = some r) : GoodC ch ⟨r.1, r.2.1, r.2.2.1, r.2.2.2.1⟩ := by
  unfold ruleM at hr
  split at hr
  · rename_i hc
    obtain ⟨n1, e1, hr⟩ := Option.bind_eq_some_iff.1 hr
    obtain ⟨l1, e2, hr⟩ := Option.bind_eq_some_iff.1 hr
    obtain ⟨n2, e3, hr⟩ := Option.bind_eq_some_iff.1 hr
    obtain ⟨l2, e4, hr⟩ := Option.bind_eq_some_iff.1 hr
    obtain ⟨n3, e5, hr⟩ := Option.bind_eq_some_iff.1 hr
    obtain ⟨l3, e6, hr⟩ := Option.bind_eq_some_iff.1 hr
    obtain ⟨n4, e7, hr⟩ := Option.bind_eq_some_iff.1 hr
    obtain ⟨⟨l, q⟩, e8, hr⟩ := Option.bind_eq_some_iff.1 hr
    cases hr
    have c1 := cntr_some hb e1; have c2 := cntr_some hb e3; have c3 := cntr_some hb e5; have c4 := cntr_some hb e7
    have r1 := row_some hb e2; have r2 := row_some hb e4; have r3 := row_some hb e6
    have a := acts_some hb e8
    refine ⟨by simp, by simp only [List.length_cons, List.length_map]; omega, by simp only [List.length_map]; omega, by simp only [List.length_map]; omega, by simp only; omega, fun x hx => ?_, fun h => by rw [hc] at h; cases h⟩
    have := a.2.2.1 x hx
    simp only [List.length_cons, List.length_map]; omega
  · rename_i hc
    obtain ⟨n2, e3, hr⟩ := Option.bind_eq_some_iff.1 hr
    obtain ⟨n4, e7, hr⟩ := Option.bind_eq_some_iff.1 hr
    obtain ⟨l2, e4, hr⟩ := Option.bind_eq_some_iff.1 hr
    obtain ⟨⟨l, q⟩, e8, hr⟩ := Option.bind_eq_some_iff.1 hr
    cases hr
    have c2 := cntr_some hb e3; have c4 := cntr_some hb e7
    have r2 := row_some hb e4
    have a := acts_some hb e8
    refine ⟨by simp, by simp only [List.length_cons, List.length_map]; omega, by simp, by simp, by simp only; omega, fun x hx => ?_, fun h => ⟨rfl, rfl⟩⟩
    have := a.2.2.1 x hx
    simp only [List.length_cons, List.length_map]; omega
theorem rulesM_all {P : TCtx → Prop} {rl : Int → Option TR} (hr : ∀ p r, rl p = some r → P ⟨r.1, r.2.1, r.2.2.1, r.2.2.2.1⟩) {base : Int} : ∀ {l : List Int} {s t : List TCtx}, rulesM rl base l s = some t → (∀ c ∈ s, P c) → ∀ c ∈ t, P c
  | [], s, t, h, hs => by cases h; exact hs
  | o :: r, s, t, h, hs => by
    simp only [rulesM] at h
    obtain ⟨q, h1, h2⟩ := Option.bind_eq_some_iff.1 h
    split at h2
    · refine rulesM_all hr h2 fun c hc => ?_
      rcases List.mem_append.1 hc with hc | hc
      · exact hs c hc
      · rw [List.mem_singleton.1 hc]; exact hr _ _ h1
    · cases h2
theorem listM_all {P : TCtx → Prop} {b : List Int} {rl : Nat → Int → Option TR} (hr : ∀ i p r, rl i p = some r → P ⟨r.1, r.2.1, r.2.2.1, r.2.2.2.1⟩) {base : Int} : ∀ {l : List Int} {i : Nat} {s t : List TCtx}, listM b rl base i l s = some t → s.length ≤ 64 → (∀ c ∈ s, P c) → t.length ≤ 64 ∧ ∀ c ∈ t, P c
  | [], i, s, t, h, hl, hs => by cases h; exact ⟨hl, hs⟩
  | o :: r, i, s, t, h, hl, hs => by
    simp only [listM] at h
    split at h
    · exact listM_all hr h hl hs
    · obtain ⟨n, h1, h⟩ := Option.bind_eq_some_iff.1 h
      split at h
      · obtain ⟨l, h2, h⟩ := Option.bind_eq_some_iff.1 h
        obtain ⟨s2, h3, h⟩ := Option.bind_eq_some_iff.1 h
        exact listM_all hr h (rulesM_len h3 hl) (rulesM_all (hr i) h3 hs)
      · cases h
theorem tableM_good {N : Nat} {b : List Int} (hb : Bytes b) {p : Int} {ch : Bool} {r : List TCtx × Int} (h : tableM N b p ch = some r) : r.1.length ≤ 64 ∧ ∀ c ∈ r.1, GoodC ch c := by
  unfold tableM at h
  obtain ⟨f, e1, h⟩ := Option.bind_eq_some_iff.1 h
  split at h
  · unfold singleM at h
    obtain ⟨l, e2, h⟩ := Option.bind_eq_some_iff.1 h
    obtain ⟨r, e3, h⟩ := Option.bind_eq_some_iff.1 h
    obtain ⟨n, e4, h⟩ := Option.bind_eq_some_iff.1 h
    split at h
    · obtain ⟨l2, e5, h⟩ := Option.bind_eq_some_iff.1 h
      obtain ⟨s, e6, h⟩ := Option.bind_eq_some_iff.1 h
      cases h
      exact listM_all (P := GoodC ch) (fun i p r hr => ruleM_good hb hr) e6 (by simp) (by simp)
    · cases h
  · split at h
    · unfold classedM at h
      obtain ⟨l, e2, h⟩ := Option.bind_eq_some_iff.1 h
      obtain ⟨r, e3, h⟩ := Option.bind_eq_some_iff.1 h
      split at h
      · rename_i hc
        obtain ⟨o1, e4, h⟩ := Option.bind_eq_some_iff.1 h
        obtain ⟨c1, e5, h⟩ := Option.bind_eq_some_iff.1 h
        obtain ⟨o2, e6, h⟩ := Option.bind_eq_some_iff.1 h
        obtain ⟨c2, e7, h⟩ := Option.bind_eq_some_iff.1 h
        obtain ⟨o3, e8, h⟩ := Option.bind_eq_some_iff.1 h
        obtain ⟨c3, e9, h⟩ := Option.bind_eq_some_iff.1 h
        obtain ⟨n, e10, h⟩ := Option.bind_eq_some_iff.1 h
        obtain ⟨l2, e11, h⟩ := Option.bind_eq_some_iff.1 h
        obtain ⟨s, e12, h⟩ := Option.bind_eq_some_iff.1 h
        cases h
        rw [hc]
        exact listM_all (P := GoodC true) (fun i p r hr => ruleM_good hb hr) e12 (by simp) (by simp)
      · rename_i hc
        have hc : ch = false := by simpa using hc
        obtain ⟨o2, e6, h⟩ := Option.bind_eq_some_iff.1 h
        obtain ⟨c2, e7, h⟩ := Option.bind_eq_some_iff.1 h
        obtain ⟨n, e10, h⟩ := Option.bind_eq_some_iff.1 h
        obtain ⟨l2, e11, h⟩ := Option.bind_eq_some_iff.1 h
        obtain ⟨s, e12, h⟩ := Option.bind_eq_some_iff.1 h
        cases h
        rw [hc]
        exact listM_all (P := GoodC false) (fun i p r hr => ruleM_good hb hr) e12 (by simp) (by simp)
    · split at h
      · unfold coveredM at h
        split at h
        · rename_i hc
          obtain ⟨n1, e1, h⟩ := Option.bind_eq_some_iff.1 h
          obtain ⟨l1, e2, h⟩ := Option.bind_eq_some_iff.1 h
          obtain ⟨s1, e3, h⟩ := Option.bind_eq_some_iff.1 h
          obtain ⟨n2, e4, h⟩ := Option.bind_eq_some_iff.1 h
          obtain ⟨l2, e5, h⟩ := Option.bind_eq_some_iff.1 h
          obtain ⟨s2, e6, h⟩ := Option.bind_eq_some_iff.1 h
          obtain ⟨n3, e7, h⟩ := Option.bind_eq_some_iff.1 h
          obtain ⟨l3, e8, h⟩ := Option.bind_eq_some_iff.1 h
          obtain ⟨s3, e9, h⟩ := Option.bind_eq_some_iff.1 h
          obtain ⟨n4, e10, h⟩ := Option.bind_eq_some_iff.1 h
          obtain ⟨⟨a, q⟩, e11, h⟩ := Option.bind_eq_some_iff.1 h
          cases h
          have c1 := cntr_some hb e1; have c2 := cntr_some hb e4; have c3 := cntr_some hb e7; have c4 := cntr_some hb e10
          have r1 := row_some hb e2; have r2 := row_some hb e5; have r3 := row_some hb e8
          have l1 := covs_len e3; have l2 := covs_len e6; have l3 := covs_len e9
          have aa := acts_some hb e11
          refine ⟨by simp, fun c hc2 => ?_⟩
          rw [List.mem_singleton.1 hc2]
          refine ⟨by simp only; omega, by simp only; omega, by simp only; omega, by simp only; omega, by simp only; omega, fun x hx => ?_, fun h => by rw [hc] at h; cases h⟩
          have := aa.2.2.1 x hx
          simp only; omega
        · obtain ⟨n2, e4, h⟩ := Option.bind_eq_some_iff.1 h
          obtain ⟨n4, e10, h⟩ := Option.bind_eq_some_iff.1 h
          obtain ⟨l2, e5, h⟩ := Option.bind_eq_some_iff.1 h
          obtain ⟨s2, e6, h⟩ := Option.bind_eq_some_iff.1 h
          obtain ⟨⟨a, q⟩, e11, h⟩ := Option.bind_eq_some_iff.1 h
          cases h
          have c2 := cntr_some hb e4; have c4 := cntr_some hb e10
          have r2 := row_some hb e5
          have l2 := covs_len e6
          have aa := acts_some hb e11
          refine ⟨by simp, fun c hc2 => ?_⟩
          rw [List.mem_singleton.1 hc2]
          refine ⟨by simp only; omega, by simp only; omega, by simp, by simp, by simp only; omega, fun x hx => ?_, fun _ => ⟨rfl, rfl⟩⟩
          have := aa.2.2.1 x hx
          simp only; omega
      · cases h
theorem May_L2 {N : Nat} {ch : Bool} {y : List TCtx} {i : Nat} {c : TCtx} (hi : y[i]? = some c) (hc : GoodC ch c) : ∀ (d k n : Nat), k + d = c.Acts.length → d < n → law11_ContextMay_L2 N ch y (i : Int) n k = some (.inl ()) := by
  intro d
  induction d with
  | zero =>
    intro k n hk hn
    obtain ⟨n, rfl⟩ : ∃ x, n = x + 1 := ⟨n - 1, by omega⟩
    rw [law11_ContextMay_L2, atI_at hi, Option.bind_some, if_neg (by omega)]
  | succ d ih =>
    intro k n hk hn
    obtain ⟨n, rfl⟩ : ∃ x, n = x + 1 := ⟨n - 1, by omega⟩
    have hkl : k < c.Acts.length := by omega
    have hx := hc.2.2.2.2.2.1 c.Acts[k] (List.getElem_mem hkl)
    have h16 := hc.2.2.2.2.1
    rw [law11_ContextMay_L2, atI_at hi, Option.bind_some, if_pos (by omega), atI_at (List.getElem?_eq_getElem hkl), Option.bind_some, if_neg (by omega), if_neg (by omega), w64 (x := (k : Int) + 1) (by omega) (by omega), show (k : Int) + 1 = ((k + 1 : Nat) : Int) by omega, ih (k + 1) n (by omega) (by omega)]
theorem May_L3 {N : Nat} (hN : 1000000000000 < N) {ch : Bool} {y : List TCtx} (hl : y.length ≤ 64) (hy : ∀ c ∈ y, GoodC ch c) : ∀ (d k n : Nat), k + d = y.length → d < n → law11_ContextMay_L3 N ch y n k = some (.inl ()) := by
  intro d
  induction d with
  | zero =>
    intro k n hk hn
    obtain ⟨n, rfl⟩ : ∃ x, n = x + 1 := ⟨n - 1, by omega⟩
    rw [law11_ContextMay_L3, if_neg (by omega)]
  | succ d ih =>
    intro k n hk hn
    obtain ⟨n, rfl⟩ : ∃ x, n = x + 1 := ⟨n - 1, by omega⟩
    have hkl : k < y.length := by omega
    have hc := hy y[k] (List.getElem_mem hkl)
    have h2 := May_L2 (N := N) (List.getElem?_eq_getElem hkl) hc y[k].Acts.length 0 N (by omega) (by have := hc.2.2.2.2.1; omega)
    obtain ⟨c1, c2, c3, c4, c5, c6, c7⟩ := hc
    rw [law11_ContextMay_L3, if_pos (by omega), atI_at (List.getElem?_eq_getElem hkl), Option.bind_some, if_neg (by omega), if_neg (by omega), if_neg (by omega), if_neg (by omega), if_neg (by omega), w64 (x := (k : Int) + 1) (by omega) (by omega), show (k : Int) + 1 = ((k + 1 : Nat) : Int) by omega,
      show law11_ContextMay_L2 N ch y (k : Int) N 0 = _ from h2]
    cases ch with
    | true => rw [if_pos rfl, Option.bind_some]; exact ih (k + 1) n (by omega) (by omega)
    | false =>
      obtain ⟨e1, e2⟩ := c7 rfl
      rw [if_neg (by decide), e1, e2, if_neg (by decide), Option.bind_some]
      exact ih (k + 1) n (by omega) (by omega)
theorem May_all {N : Nat} (hN : 1000000000000 < N) {ch : Bool} {y : List TCtx} (hl : y.length ≤ 64) (hy : ∀ c ∈ y, GoodC ch c) : law11_ContextMay_L3 N ch y N 0 = some (.inl ()) := May_L3 hN hl hy y.length 0 N (by omega) (by omega)
theorem contextMay_plain {N : Nat} (hN : 1000000000000 < N) {b : List Int} (hb : Bytes b) (p : Int) (ch : Bool) : law11_ContextMay N b p ch = some true := by
  unfold law11_ContextMay
  rw [alive11 hN, Option.bind_some, if_pos rfl]
  by_cases g1 : 1000 < (b.length : Int)
  · rw [if_pos g1]
  by_cases g2 : 1000 < p
  · rw [if_neg g1, if_pos g2]
  by_cases g3 : p < -1000
  · rw [if_neg g1, if_neg g2, if_pos g3]
  rw [if_neg g1, if_neg g2, if_neg g3]
  unfold context_Context context_Chain
  rw [table_eq hN hb (by omega) (by omega) (by omega), table_eq hN hb (by omega) (by omega) (by omega), Option.bind_some, Option.bind_some]
  cases ch with
  | true =>
    simp only [if_true, Option.bind_some]
    cases e : tableM N b p true with
    | none =>
      have := May_all hN (ch := true) (y := []) (by simp) (by simp)
      simp [this]
    | some r =>
      have hg := tableM_good hb e
      have := May_all hN hg.1 hg.2
      simp only [Option.bind_some, if_true, this]
      rw [if_neg (by omega)]
  | false =>
    simp only [Bool.false_eq_true, if_false, Option.bind_some]
    cases e : tableM N b p false with
    | none =>
      have := May_all hN (ch := false) (y := []) (by simp) (by simp)
      simp [this]
    | some r =>
      have hg := tableM_good hb e
      have := May_all hN hg.1 hg.2
      simp only [Option.bind_some, if_true, this]
      rw [if_neg (by omega)]
end Go.Proofs.Ytakplhfiohjcmaa.AI
