/- Plain laws of layer 11: what tables hold. -/
import Derived.Test.YtakplhfiohjcmaaCX6
set_option linter.unusedVariables false
set_option linter.unusedSimpArgs false
set_option maxRecDepth 100000
namespace Go.Proofs.Ytakplhfiohjcmaa.AI
def GoodC (ch : Bool) (c : TCtx) : Prop := 1 ≤ c.In.length ∧ c.In.length ≤ 16 ∧ c.Back.length ≤ 16 ∧ c.Ahead.length ≤ 16 ∧ c.Acts.length ≤ 16 ∧ (∀ x ∈ c.Acts, 0 ≤ x.At ∧ x.At < (c.In.length : Int)) ∧ (ch = false → c.Back = [] ∧ c.Ahead = [])
theorem ruleM_good {b : List Int} (hb : Bytes b) {f g h : Int → TSet} {t : TSet} {ch : Bool} {p : Int} {r : TR} (hr : ruleM b (List.map f) (List.map g) (List.map h) t ch p = some r) : GoodC ch ⟨r.1, r.2.1, r.2.2.1, r.2.2.2.1⟩ := by
 unfold ruleM at hr
 split at hr
 ·
  rename_i hc
  obtain ⟨n1, e1, hr⟩ := Option.bind_eq_some_iff.1 hr
  obtain ⟨l1, e2, hr⟩ := Option.bind_eq_some_iff.1 hr
  obtain ⟨n2, e3, hr⟩ := Option.bind_eq_some_iff.1 hr
  obtain ⟨l2, e4, hr⟩ := Option.bind_eq_some_iff.1 hr
  obtain ⟨n3, e5, hr⟩ := Option.bind_eq_some_iff.1 hr
  obtain ⟨l3, e6, hr⟩ := Option.bind_eq_some_iff.1 hr
  obtain ⟨n4, e7, hr⟩ := Option.bind_eq_some_iff.1 hr
  obtain ⟨⟨l, q⟩, e8, hr⟩ := Option.bind_eq_some_iff.1 hr
  cases hr
  have c1 := cntr_some hb e1; have c2 := cntr_some hb e3; have c3 := cntr_some hb e5; have c4 := cntr_some hb e7
  have r1 := row_some hb e2; have r2 := row_some hb e4; have r3 := row_some hb e6
  have a := acts_some hb e8
  refine ⟨by simp, by simp only [List.length_cons, List.length_map]; omega, by simp only [List.length_map]; omega, by simp only [List.length_map]; omega, by simp only; omega, fun x hx => ?_, fun h => by rw [hc] at h; cases h⟩
  have := a.2.2.1 x hx
  simp only [List.length_cons, List.length_map]; omega
 ·
  rename_i hc
  obtain ⟨n2, e3, hr⟩ := Option.bind_eq_some_iff.1 hr
  obtain ⟨n4, e7, hr⟩ := Option.bind_eq_some_iff.1 hr
  obtain ⟨l2, e4, hr⟩ := Option.bind_eq_some_iff.1 hr
  obtain ⟨⟨l, q⟩, e8, hr⟩ := Option.bind_eq_some_iff.1 hr
  cases hr
  have c2 := cntr_some hb e3; have c4 := cntr_some hb e7
  have r2 := row_some hb e4
  have a := acts_some hb e8
  refine ⟨by simp, by simp only [List.length_cons, List.length_map]; omega, by simp, by simp, by simp only; omega, fun x hx => ?_, fun h => ⟨rfl, rfl⟩⟩
  have := a.2.2.1 x hx
  simp only [List.length_cons, List.length_map]; omega
theorem rulesM_all {P : TCtx → Prop} {rl : Int → Option TR} (hr : ∀ p r, rl p = some r → P ⟨r.1, r.2.1, r.2.2.1, r.2.2.2.1⟩) {base : Int} : ∀ {l : List Int} {s t : List TCtx}, rulesM rl base l s = some t → (∀ c ∈ s, P c) → ∀ c ∈ t, P c
 | [], s, t, h, hs => by cases h; exact hs
 | o :: r, s, t, h, hs => by
  simp only [rulesM] at h
  obtain ⟨q, h1, h2⟩ := Option.bind_eq_some_iff.1 h
  split at h2
  ·
   refine rulesM_all hr h2 fun c hc => ?_
   rcases List.mem_append.1 hc with hc | hc
   ·
    exact hs c hc
   ·
    rw [List.mem_singleton.1 hc]; exact hr _ _ h1
  ·
   cases h2
theorem listM_all {P : TCtx → Prop} {b : List Int} {rl : Nat → Int → Option TR} (hr : ∀ i p r, rl i p = some r → P ⟨r.1, r.2.1, r.2.2.1, r.2.2.2.1⟩) {base : Int} : ∀ {l : List Int} {i : Nat} {s t : List TCtx}, listM b rl base i l s = some t → s.length ≤ 64 → (∀ c ∈ s, P c) → t.length ≤ 64 ∧ ∀ c ∈ t, P c
 | [], i, s, t, h, hl, hs => by cases h; exact ⟨hl, hs⟩
 | o :: r, i, s, t, h, hl, hs => by
  simp only [listM] at h
  split at h
  ·
   exact listM_all hr h hl hs
  ·
   obtain ⟨n, h1, h⟩ := Option.bind_eq_some_iff.1 h
   split at h
   ·
    obtain ⟨l, h2, h⟩ := Option.bind_eq_some_iff.1 h
    obtain ⟨s2, h3, h⟩ := Option.bind_eq_some_iff.1 h
    exact listM_all hr h (rulesM_len h3 hl) (rulesM_all (hr i) h3 hs)
   ·
    cases h
end Go.Proofs.Ytakplhfiohjcmaa.AI
