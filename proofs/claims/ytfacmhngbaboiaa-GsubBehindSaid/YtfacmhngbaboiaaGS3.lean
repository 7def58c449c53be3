/- Part of a proof. -/
import Derived.Test.YtfacmhngbaboiaaGS2
import Derived.Test.YtfacmhngbaboiaaGTS
set_option linter.unusedVariables false
set_option linter.unusedSimpArgs false
set_option maxRecDepth 100000
namespace Go.Proofs.Ytfacmhngbaboiaa.AI
structure GoodG (g : G7) : Prop where
 s : Small g.o g.l g.r
 d : 0 ≤ g.d ∧ g.d ≤ 65535
 v : ∀ x ∈ g.o, ∀ y ∈ x, 0 ≤ y ∧ y ≤ 65535
 c : RL 0 g.c
 k : (g.k = 1 ∧ ((g.all = true ∧ g.o = []) ∨ (g.all = false ∧ (g.o.length : Int) = cnt g.c))) ∨ ((g.k = 2 ∨ g.k = 3 ∨ g.k = 8) ∧ (g.o.length : Int) = cnt g.c) ∨ (g.k = 4 ∧ (g.l.length : Int) = cnt g.c) ∨ g.k = 5 ∨ g.k = 6
 i : ∀ x ∈ g.o, x.length ≤ 16
 m : (g.k = 1 ∧ g.l = [] ∧ g.r = []) ∨ ((g.k = 2 ∨ g.k = 3) ∧ g.l = [] ∧ g.r = []) ∨ g.k = 4 ∨ g.k = 5 ∨ g.k = 6 ∨ g.k = 8
theorem onesM_mem {l : List Int} (h : ∀ x ∈ l, 0 ≤ x ∧ x ≤ 65535) : ∀ x ∈ onesM l, x.length = 1 ∧ ∀ y ∈ x, 0 ≤ y ∧ y ≤ 65535 := fun x hx => by
 obtain ⟨y, hy, rfl⟩ := List.mem_map.1 hx
 exact ⟨rfl, fun z hz => by rw [List.mem_singleton.1 hz]; exact h y hy⟩
theorem seqs_mem {b : List Int} (hb : Bytes b) {base lo : Int} (h0 : 0 ≤ lo) : ∀ {l : List Int} {t : List (List Int)}, seqs b base lo l = some t → t.length = l.length ∧ ∀ x ∈ t, x.length ≤ 16 ∧ ∀ y ∈ x, 0 ≤ y ∧ y ≤ 65535
 | [], t, h => by cases h; simp
 | x :: r, t, h => by
  simp only [seqs] at h
  obtain ⟨⟨q, e⟩, e1, h⟩ := Option.bind_eq_some_iff.1 h
  obtain ⟨t2, e2, h⟩ := Option.bind_eq_some_iff.1 h
  cases h
  obtain ⟨n, c1, c2, c3, c4, c5, _⟩ := seqM_some hb e1 (by omega) (by omega)
  obtain ⟨g1, g2⟩ := seqs_mem hb h0 e2
  refine ⟨by simp [g1], fun x hx => ?_⟩
  rcases List.mem_cons.1 hx with rfl | hx
  ·
   exact ⟨c5, c4⟩
  ·
   exact g2 x hx
theorem ligs1_mem {b : List Int} (hb : Bytes b) {P : Int} : ∀ {l : List Int} {t : List TLig}, ligs1 b P l = some t → t.length = l.length ∧ ∀ x ∈ t, x.Parts.length ≤ 16
 | [], t, h => by cases h; simp
 | x :: r, t, h => by
  simp only [ligs1] at h
  obtain ⟨g, e0, h⟩ := Option.bind_eq_some_iff.1 h
  obtain ⟨⟨q, e⟩, e1, h⟩ := Option.bind_eq_some_iff.1 h
  obtain ⟨t2, e2, h⟩ := Option.bind_eq_some_iff.1 h
  cases h
  obtain ⟨n, c1, c2, c3, c4, c5, _⟩ := seqM_some hb e1 (by omega) (by omega)
  obtain ⟨g1, g2⟩ := ligs1_mem hb e2
  refine ⟨by simp [g1], fun x hx => ?_⟩
  rcases List.mem_cons.1 hx with rfl | hx
  ·
   exact c5
  ·
   exact g2 x hx
theorem ligsM_mem {b : List Int} (hb : Bytes b) {base : Int} : ∀ {l : List Int} {tot : Int} {t : List (List TLig)}, 0 ≤ tot → ligsM b base tot l = some t → t.length = l.length ∧ ∀ x ∈ t, x.length ≤ 256 ∧ ∀ y ∈ x, y.Parts.length ≤ 16
 | [], tot, t, _, h => by cases h; simp
 | x :: r, tot, t, h0, h => by
  simp only [ligsM] at h
  obtain ⟨n, e0, h⟩ := Option.bind_eq_some_iff.1 h
  split at h
  ·
   rename_i hle
   obtain ⟨l, e1, h⟩ := Option.bind_eq_some_iff.1 h
   obtain ⟨q, e2, h⟩ := Option.bind_eq_some_iff.1 h
   obtain ⟨t2, e3, h⟩ := Option.bind_eq_some_iff.1 h
   cases h
   have c := num_some hb e0
   have rr := row_some hb e1
   obtain ⟨g1, g2⟩ := ligs1_mem hb e2
   obtain ⟨g3, g4⟩ := ligsM_mem hb (tot := tot + n) (by omega) e3
   refine ⟨by simp [g3], fun x hx => ?_⟩
   rcases List.mem_cons.1 hx with rfl | hx
   ·
    exact ⟨by omega, g2⟩
   ·
    exact g4 x hx
  ·
   cases h
theorem R_val : R = 140737488351232 := rfl
theorem small_o {o : List (List Int)} (h : o.length ≤ 500) (h1 : ∀ x ∈ o, x.length ≤ 16) : Small o [] [] :=
 ⟨h, fun x hx => by have := h1 x hx; have := R_val; omega, by simp, by simp, by simp, by simp, by simp, by simp⟩
theorem small_r {o : List (List Int)} {r : List TCtx} (h : o.length ≤ 500) (h1 : ∀ x ∈ o, x.length ≤ 16) (hr : r.length ≤ 64) (hc : ∀ c ∈ r, CtxOk c) : Small o [] r :=
 ⟨h, fun x hx => by have := h1 x hx; have := R_val; omega, by simp, by simp, by simp, by omega, fun c h => by have := hc c h; exact ⟨by have := this.1; omega, by have := this.2.1; omega, by have := this.2.2.1; omega, by have := this.2.2.2.1; have := R_val; omega⟩,
  fun c h => ⟨fun s hs => by have := (hc c h).2.2.2.2.1 s hs; unfold SetOk at this; have := R_val; omega, fun s hs => by have := (hc c h).2.2.2.2.2.1 s hs; unfold SetOk at this; have := R_val; omega, fun s hs => by have := (hc c h).2.2.2.2.2.2 s hs; unfold SetOk at this; have := R_val; omega⟩⟩
section
variable {N : Nat} (hN : 1000000000000 < N) {b : List Int} (hb : Bytes b) (hl : b.length ≤ 1000)
include hN hb hl
theorem gSingle_good {base p f : Int} (h0 : -700000 ≤ base) (h1 : base ≤ 700000) {r : G7 × Int} (h : gSingle N b base p f = some r) : GoodG r.1 := by
 unfold gSingle at h
 obtain ⟨o, e1, h⟩ := Option.bind_eq_some_iff.1 h
 obtain ⟨c, e2, h⟩ := Option.bind_eq_some_iff.1 h
 have oo := num_some hb e1
 have cr := cov_rl hN hb (by omega) (by omega) (by omega) e2
 split at h
 ·
  obtain ⟨d, e3, h⟩ := Option.bind_eq_some_iff.1 h
  cases h
  have dd := num_some hb e3
  exact ⟨small_o (by simp) (by simp), ⟨dd.2.1, dd.2.2.1⟩, by simp, cr.1, .inl ⟨rfl, .inl ⟨rfl, rfl⟩⟩, by simp, .inl ⟨rfl, rfl, rfl⟩⟩
 ·
  split at h
  ·
   obtain ⟨⟨l, q⟩, e3, h⟩ := Option.bind_eq_some_iff.1 h
   cases h
   have er := eachM_some hb e3
   have om := onesM_mem er.2.1
   have ol : (onesM l).length = l.length := by simp [onesM]
   exact ⟨small_o (by simp only; omega) (fun x hx => by have := (om x hx).1; omega), by simp, fun x hx => (om x hx).2, cr.1, .inl ⟨rfl, .inr ⟨rfl, by simp only; omega⟩⟩, fun x hx => by have := (om x hx).1; omega, .inl ⟨rfl, rfl, rfl⟩⟩
  ·
   cases h
theorem gSeveral_good {base p k lo : Int} (h0 : -700000 ≤ base) (h1 : base ≤ 700000) (hk : k = 2 ∨ k = 3) (hlo : 0 ≤ lo) {r : G7 × Int} (h : gSeveral N b base p k lo = some r) : GoodG r.1 := by
 unfold gSeveral at h
 obtain ⟨o, e1, h⟩ := Option.bind_eq_some_iff.1 h
 obtain ⟨c, e2, h⟩ := Option.bind_eq_some_iff.1 h
 obtain ⟨⟨l, q⟩, e3, h⟩ := Option.bind_eq_some_iff.1 h
 obtain ⟨s, e4, h⟩ := Option.bind_eq_some_iff.1 h
 cases h
 have oo := num_some hb e1
 have cr := cov_rl hN hb (by omega) (by omega) (by omega) e2
 have er := eachM_some hb e3
 obtain ⟨s1, s2⟩ := seqs_mem hb hlo e4
 exact ⟨small_o (by simp only at *; omega) (fun x hx => (s2 x hx).1), by simp, fun x hx => (s2 x hx).2, cr.1, .inr (.inl ⟨by rcases hk with h | h <;> simp [h], by simp only at *; omega⟩), fun x hx => (s2 x hx).1, .inr (.inl ⟨hk, rfl, rfl⟩)⟩
theorem gLigs_good {base p : Int} (h0 : -700000 ≤ base) (h1 : base ≤ 700000) {r : G7 × Int} (h : gLigs N b base p = some r) : GoodG r.1 := by
 unfold gLigs at h
 obtain ⟨o, e1, h⟩ := Option.bind_eq_some_iff.1 h
 obtain ⟨c, e2, h⟩ := Option.bind_eq_some_iff.1 h
 obtain ⟨⟨l, q⟩, e3, h⟩ := Option.bind_eq_some_iff.1 h
 obtain ⟨s, e4, h⟩ := Option.bind_eq_some_iff.1 h
 cases h
 have oo := num_some hb e1
 have cr := cov_rl hN hb (by omega) (by omega) (by omega) e2
 have er := eachM_some hb e3
 obtain ⟨s1, s2⟩ := ligsM_mem hb (Int.le_refl 0) e4
 exact ⟨⟨by simp, by simp, by simp only at *; omega, fun x hx => by have := (s2 x hx).1; omega, fun x hx y hy => by have := (s2 x hx).2 y hy; have := R_val; omega, by simp, by simp, by simp⟩, by simp, by simp, cr.1, .inr (.inr (.inl ⟨rfl, by simp only at *; omega⟩)), by simp, .inr (.inr (.inl rfl))⟩
theorem gSets_ok {base p : Int} (h0 : -700000 ≤ base) (h1 : base ≤ 700000) {s : List TSet} {q : Int} (h : gSets N b base p = some (s, q)) : s.length ≤ 16 ∧ ∀ x ∈ s, SetOk x := by
 unfold gSets at h
 obtain ⟨⟨l, q'⟩, e1, h⟩ := Option.bind_eq_some_iff.1 h
 obtain ⟨t, e2, h⟩ := Option.bind_eq_some_iff.1 h
 cases h
 obtain ⟨n, c1, c2, c3, c4, c5, _⟩ := seqM_some hb e1 (by omega) (by omega)
 have l1 : s.length = l.length := covs_len e2
 have l2 := covs_rl hN hb (by omega) (by omega) (by omega) c4 e2
 exact ⟨by omega, fun x hx => by have := (l2 x hx).2; unfold SetOk; omega⟩
theorem gReverse_good {base p : Int} (h0 : -700000 ≤ base) (h1 : base ≤ 700000) {r : G7 × Int} (h : gReverse N b base p = some r) : GoodG r.1 := by
 unfold gReverse at h
 obtain ⟨o, e1, h⟩ := Option.bind_eq_some_iff.1 h
 obtain ⟨c, e2, h⟩ := Option.bind_eq_some_iff.1 h
 obtain ⟨⟨s1, q1⟩, e3, h⟩ := Option.bind_eq_some_iff.1 h
 obtain ⟨⟨s2, q2⟩, e4, h⟩ := Option.bind_eq_some_iff.1 h
 obtain ⟨⟨l, q⟩, e5, h⟩ := Option.bind_eq_some_iff.1 h
 cases h
 have oo := num_some hb e1
 have cr := cov_rl hN hb (by omega) (by omega) (by omega) e2
 have er := eachM_some hb e5
 have om := onesM_mem er.2.1
 have ol : (onesM l).length = l.length := by simp [onesM]
 have a1 := gSets_ok hN hb hl h0 h1 e3
 have a2 := gSets_ok hN hb hl h0 h1 e4
 exact ⟨small_r (by simp only; omega) (fun x hx => by have := (om x hx).1; omega) (by simp) (fun x hx => by rw [List.mem_singleton.1 hx]; exact ⟨a1.1, by simp, a2.1, by simp, a1.2, by simp, a2.2⟩), by simp, fun x hx => (om x hx).2, cr.1, .inr (.inl ⟨.inr (.inr rfl), by simp only; omega⟩), fun x hx => by have := (om x hx).1; omega, .inr (.inr (.inr (.inr (.inr rfl))))⟩
theorem gTable_good {p k : Int} {ch : Bool} (h0 : -700000 ≤ p) (h1 : p ≤ 700000) (hk : k = 5 ∨ k = 6) {r : List TCtx × Int} (h : tableM N b p ch = some r) : GoodG ⟨k, [], false, 0, [], [], r.1⟩ := by
 have ok := tableM_ok hN hb (by omega) (by omega) (by omega) h
 exact ⟨small_r (by simp) (by simp) ok.1 ok.2, by simp, by simp, trivial, .inr (.inr (.inr hk)), by simp, .inr (.inr (.inr (by rcases hk with h | h; exact .inl h; exact .inr (.inl h))))⟩
theorem gKind_good {p k : Int} {x : Option G7} (h0 : -700000 ≤ p) (h1 : p ≤ 700000) (hx : ∀ g, x = some g → GoodG g) {g : G7} (h : gKind N b p k x = some g) : GoodG g := by
 unfold gKind at h
 split at h
 ·
  obtain ⟨r, e, rfl⟩ := Option.map_eq_some_iff.1 h
  exact gTable_good hN hb hl h0 h1 (.inl rfl) e
 split at h
 ·
  obtain ⟨r, e, rfl⟩ := Option.map_eq_some_iff.1 h
  exact gTable_good hN hb hl h0 h1 (.inr rfl) e
 split at h
 ·
  obtain ⟨f, e1, h⟩ := Option.bind_eq_some_iff.1 h
  split at h
  ·
   split at h
   ·
    obtain ⟨r, e, rfl⟩ := Option.map_eq_some_iff.1 h
    exact gSingle_good hN hb hl h0 h1 e
   split at h
   ·
    obtain ⟨r, e, rfl⟩ := Option.map_eq_some_iff.1 h
    exact gSeveral_good hN hb hl h0 h1 (.inl rfl) (by omega) e
   split at h
   ·
    obtain ⟨r, e, rfl⟩ := Option.map_eq_some_iff.1 h
    exact gSeveral_good hN hb hl h0 h1 (.inr rfl) (by omega) e
   split at h
   ·
    obtain ⟨r, e, rfl⟩ := Option.map_eq_some_iff.1 h
    exact gLigs_good hN hb hl h0 h1 e
   split at h
   ·
    exact hx g h
   ·
    obtain ⟨r, e, rfl⟩ := Option.map_eq_some_iff.1 h
    exact gReverse_good hN hb hl h0 h1 e
  ·
   cases h
 ·
  cases h
theorem gRead_good {p k : Int} (h0 : -300000 ≤ p) (h1 : p ≤ 300000) {g : G7} (h : gRead N b p k = some g) : GoodG g := by
 refine gKind_good hN hb hl (by omega) (by omega) (fun g h => ?_) h
 unfold gElse at h
 obtain ⟨k2, e1, h⟩ := Option.bind_eq_some_iff.1 h
 split at h
 ·
  exact gKind_good hN hb hl (by omega) (by omega) (fun g h => by cases h) h
 ·
  cases h
end
end Go.Proofs.Ytfacmhngbaboiaa.AI
