/- Part of a proof. -/
import Derived.Test.YtfacmhngbaboiaaGS4
set_option linter.unusedVariables false
set_option linter.unusedSimpArgs false
set_option maxRecDepth 100000
namespace Go.Proofs.Ytfacmhngbaboiaa.AI
structure Fine (g : G7) : Prop where
 r : g.r.length ≤ 64
 c : ∀ c ∈ g.r, CtxOk c
 l : ∀ x ∈ g.l, x.length ≤ 256 ∧ ∀ y ∈ x, y.Parts.length ≤ 16
theorem Fine.none {k d : Int} {c : List TSpan} {a : Bool} {o : List (List Int)} : Fine ⟨k, c, a, d, o, [], []⟩ := ⟨by simp, by simp, by simp⟩
section
variable {N : Nat} (hN : 1000000000000 < N) {b : List Int} (hb : Bytes b) (hl : b.length ≤ 1000)
include hN hb hl
theorem gKind_fine {p k : Int} {x : Option G7} (h0 : -700000 ≤ p) (h1 : p ≤ 700000) (hx : ∀ g, x = some g → Fine g) {g : G7} (h : gKind N b p k x = some g) : Fine g := by
 have tab : ∀ {ch : Bool} {r : List TCtx × Int} {k : Int}, tableM N b p ch = some r → Fine ⟨k, [], false, 0, [], [], r.1⟩ := fun h => by
  have ok := tableM_ok hN hb (by omega) (by omega) (by omega) h
  exact ⟨ok.1, ok.2, by simp⟩
 have sev : ∀ {q k lo : Int} {r : G7 × Int}, gSeveral N b p q k lo = some r → Fine r.1 := fun h => by
  unfold gSeveral at h
  obtain ⟨o, e1, h⟩ := Option.bind_eq_some_iff.1 h
  obtain ⟨c, e2, h⟩ := Option.bind_eq_some_iff.1 h
  obtain ⟨q, e3, h⟩ := Option.bind_eq_some_iff.1 h
  obtain ⟨s, e4, h⟩ := Option.bind_eq_some_iff.1 h
  cases h
  exact Fine.none
 unfold gKind at h
 split at h
 ·
  obtain ⟨r, e, rfl⟩ := Option.map_eq_some_iff.1 h
  exact tab e
 split at h
 ·
  obtain ⟨r, e, rfl⟩ := Option.map_eq_some_iff.1 h
  exact tab e
 split at h
 ·
  obtain ⟨f, e1, h⟩ := Option.bind_eq_some_iff.1 h
  split at h
  ·
   split at h
   ·
    obtain ⟨r, e, rfl⟩ := Option.map_eq_some_iff.1 h
    unfold gSingle at e
    obtain ⟨o, e1, e⟩ := Option.bind_eq_some_iff.1 e
    obtain ⟨c, e2, e⟩ := Option.bind_eq_some_iff.1 e
    split at e
    ·
     obtain ⟨d, e3, e⟩ := Option.bind_eq_some_iff.1 e
     cases e; exact Fine.none
    ·
     split at e
     ·
      obtain ⟨q, e3, e⟩ := Option.bind_eq_some_iff.1 e
      cases e; exact Fine.none
     ·
      cases e
   split at h
   ·
    obtain ⟨r, e, rfl⟩ := Option.map_eq_some_iff.1 h
    exact sev e
   split at h
   ·
    obtain ⟨r, e, rfl⟩ := Option.map_eq_some_iff.1 h
    exact sev e
   split at h
   ·
    obtain ⟨r, e, rfl⟩ := Option.map_eq_some_iff.1 h
    unfold gLigs at e
    obtain ⟨o, e1, e⟩ := Option.bind_eq_some_iff.1 e
    obtain ⟨c, e2, e⟩ := Option.bind_eq_some_iff.1 e
    obtain ⟨q, e3, e⟩ := Option.bind_eq_some_iff.1 e
    obtain ⟨s, e4, e⟩ := Option.bind_eq_some_iff.1 e
    cases e
    exact ⟨by simp, by simp, (ligsM_mem hb (Int.le_refl 0) e4).2⟩
   split at h
   ·
    exact hx g h
   ·
    obtain ⟨r, e, rfl⟩ := Option.map_eq_some_iff.1 h
    unfold gReverse at e
    obtain ⟨o, e1, e⟩ := Option.bind_eq_some_iff.1 e
    obtain ⟨c, e2, e⟩ := Option.bind_eq_some_iff.1 e
    obtain ⟨⟨s1, q1⟩, e3, e⟩ := Option.bind_eq_some_iff.1 e
    obtain ⟨⟨s2, q2⟩, e4, e⟩ := Option.bind_eq_some_iff.1 e
    obtain ⟨q, e5, e⟩ := Option.bind_eq_some_iff.1 e
    cases e
    have a1 := gSets_ok hN hb hl h0 h1 e3
    have a2 := gSets_ok hN hb hl h0 h1 e4
    exact ⟨by simp, fun x hx => by rw [List.mem_singleton.1 hx]; exact ⟨a1.1, by simp, a2.1, by simp, a1.2, by simp, a2.2⟩, by simp⟩
  ·
   cases h
 ·
  cases h
theorem gRead_fine {p k : Int} (h0 : -300000 ≤ p) (h1 : p ≤ 300000) {g : G7} (h : gRead N b p k = some g) : Fine g := by
 refine gKind_fine hN hb hl (by omega) (by omega) (fun g h => ?_) h
 unfold gElse at h
 obtain ⟨k2, e1, h⟩ := Option.bind_eq_some_iff.1 h
 split at h
 ·
  exact gKind_fine hN hb hl (by omega) (by omega) (fun g h => by cases h) h
 ·
  cases h
end
theorem Ints_L1 {N : Nat} {l : List Int} (hl : l.length ≤ 1000000) : ∀ (d k n : Nat), k + d = l.length → d < n → ref01_Ints_L1 N l l n k = some (.inl ()) := by
 intro d
 induction d with
 | zero =>
  intro k n hk hn
  obtain ⟨n, rfl⟩ : ∃ x, n = x + 1 := ⟨n - 1, by omega⟩
  rw [ref01_Ints_L1, if_neg (by omega)]
 | succ d ih =>
  intro k n hk hn
  obtain ⟨n, rfl⟩ : ∃ x, n = x + 1 := ⟨n - 1, by omega⟩
  have hkl : k < l.length := by omega
  rw [ref01_Ints_L1, if_pos (by omega), atI_at (List.getElem?_eq_getElem hkl), Option.bind_some, Option.bind_some, if_pos rfl, w64 (x := (k : Int) + 1) (by omega) (by omega), show (k : Int) + 1 = ((k + 1 : Nat) : Int) by omega]
  exact ih (k + 1) n (by omega) (by omega)
theorem Ints_refl {N : Nat} (hN : 1000000000000 < N) {l : List Int} (hl : l.length ≤ 1000000) : ref01_Ints N l l = some true := by
 unfold ref01_Ints
 rw [if_pos rfl, show ref01_Ints_L1 N l l N 0 = _ from Ints_L1 hl l.length 0 N (by omega) (by omega)]
 rfl
theorem Lists_L1 {N : Nat} (hN : 1000000000000 < N) {l : List (List Int)} (hl : l.length ≤ 1000000) (h : ∀ x ∈ l, x.length ≤ 1000000) : ∀ (d k n : Nat), k + d = l.length → d < n → ref12_Lists_L1 N l l n k = some (.inl ()) := by
 intro d
 induction d with
 | zero =>
  intro k n hk hn
  obtain ⟨n, rfl⟩ : ∃ x, n = x + 1 := ⟨n - 1, by omega⟩
  rw [ref12_Lists_L1, if_neg (by omega)]
 | succ d ih =>
  intro k n hk hn
  obtain ⟨n, rfl⟩ : ∃ x, n = x + 1 := ⟨n - 1, by omega⟩
  have hkl : k < l.length := by omega
  rw [ref12_Lists_L1, if_pos (by omega), atI_at (List.getElem?_eq_getElem hkl), Option.bind_some, Option.bind_some, Ints_refl hN (h _ (List.getElem_mem hkl)), Option.bind_some, if_pos rfl, w64 (x := (k : Int) + 1) (by omega) (by omega), show (k : Int) + 1 = ((k + 1 : Nat) : Int) by omega]
  exact ih (k + 1) n (by omega) (by omega)
theorem Lists_refl {N : Nat} (hN : 1000000000000 < N) {l : List (List Int)} (hl : l.length ≤ 1000000) (h : ∀ x ∈ l, x.length ≤ 1000000) : ref12_Lists N l l = some true := by
 unfold ref12_Lists
 rw [if_pos rfl, show ref12_Lists_L1 N l l N 0 = _ from Lists_L1 hN hl h l.length 0 N (by omega) (by omega)]
 rfl
theorem LigsS_L2 {N : Nat} (hN : 1000000000000 < N) {l : List (List TLig)} {i : Nat} {x : List TLig} (hi : l[i]? = some x) (hl : x.length ≤ 1000000) (h : ∀ y ∈ x, y.Parts.length ≤ 16) : ∀ (d k n : Nat), k + d = x.length → d < n → ref12_Ligs_L2 N l l (i : Int) n k = some (.inl ()) := by
 intro d
 induction d with
 | zero =>
  intro k n hk hn
  obtain ⟨n, rfl⟩ : ∃ x, n = x + 1 := ⟨n - 1, by omega⟩
  rw [ref12_Ligs_L2, atI_at hi, Option.bind_some, if_neg (by omega)]
 | succ d ih =>
  intro k n hk hn
  obtain ⟨n, rfl⟩ : ∃ x, n = x + 1 := ⟨n - 1, by omega⟩
  have hkl : k < x.length := by omega
  have e := atI_at (List.getElem?_eq_getElem hkl)
  rw [ref12_Ligs_L2, atI_at hi, Option.bind_some, if_pos (by omega), e, Option.bind_some, Option.bind_some, e, Option.bind_some, if_pos rfl, Ints_refl hN (by have := h _ (List.getElem_mem hkl); omega), Option.bind_some, if_pos rfl, w64 (x := (k : Int) + 1) (by omega) (by omega), show (k : Int) + 1 = ((k + 1 : Nat) : Int) by omega]
  exact ih (k + 1) n (by omega) (by omega)
theorem LigsS_L3 {N : Nat} (hN : 1000000000000 < N) {l : List (List TLig)} (hl : l.length ≤ 1000000) (h : ∀ x ∈ l, x.length ≤ 256 ∧ ∀ y ∈ x, y.Parts.length ≤ 16) : ∀ (d k n : Nat), k + d = l.length → d < n → ref12_Ligs_L3 N l l n k = some (.inl ()) := by
 intro d
 induction d with
 | zero =>
  intro k n hk hn
  obtain ⟨n, rfl⟩ : ∃ x, n = x + 1 := ⟨n - 1, by omega⟩
  rw [ref12_Ligs_L3, if_neg (by omega)]
 | succ d ih =>
  intro k n hk hn
  obtain ⟨n, rfl⟩ : ∃ x, n = x + 1 := ⟨n - 1, by omega⟩
  have hkl : k < l.length := by omega
  have hx := h _ (List.getElem_mem hkl)
  rw [ref12_Ligs_L3, if_pos (by omega), atI_at (List.getElem?_eq_getElem hkl), Option.bind_some, Option.bind_some, if_pos rfl, show ref12_Ligs_L2 N l l (k : Int) N 0 = _ from LigsS_L2 hN (List.getElem?_eq_getElem hkl) (by omega) hx.2 l[k].length 0 N (by omega) (by omega), Option.bind_some, w64 (x := (k : Int) + 1) (by omega) (by omega), show (k : Int) + 1 = ((k + 1 : Nat) : Int) by omega]
  exact ih (k + 1) n (by omega) (by omega)
theorem LigsS_refl {N : Nat} (hN : 1000000000000 < N) {l : List (List TLig)} (hl : l.length ≤ 1000000) (h : ∀ x ∈ l, x.length ≤ 256 ∧ ∀ y ∈ x, y.Parts.length ≤ 16) : ref12_Ligs N l l = some true := by
 unfold ref12_Ligs
 rw [if_pos rfl, show ref12_Ligs_L3 N l l N 0 = _ from LigsS_L3 hN hl h l.length 0 N (by omega) (by omega)]
 rfl
theorem gSame_refl {N : Nat} (hN : 1000000000000 < N) {g : G7} (hg : GoodG g) (hf : Fine g) : ref12_Same N g.k g.c g.all g.d g.o g.l g.r [] [] [] [] [] [] [] [] [] g.k g.c g.all g.d g.o g.l g.r [] [] [] [] [] [] [] [] [] = some true := by
 unfold ref12_Same
 have ho := hg.s.t
 have hgl := hg.s.g
 have hc := hg.c.l6
 rw [if_pos rfl, SameSp hN (by omega), Option.bind_some, if_pos rfl, if_pos rfl, Lists_refl hN (by omega) (fun x hx => by have := hg.i x hx; omega), Option.bind_some, if_pos rfl, LigsS_refl hN (by omega) hf.l, Option.bind_some, if_pos rfl, Same_refl hN hf.r hf.c]
 cases g.all <;> rfl
end Go.Proofs.Ytfacmhngbaboiaa.AI
