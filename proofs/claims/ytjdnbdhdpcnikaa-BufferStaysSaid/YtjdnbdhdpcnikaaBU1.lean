/- Plain laws: runs of glyphs: whether clusters rise, merging. -/
import Derived.Test.YtjdnbdhdpcnikaabmP
import Derived.IntWalk
set_option linter.unusedVariables false
set_option linter.unusedSimpArgs false
namespace Go.Proofs.Ytjdnbdhdpcnikaa.AI
theorem w64 {x : Int} (h : -4611686018427387904 ≤ x) (h' : x ≤ 4611686018427387904) : IntKind.i64.wrap x = x := IntWalk.i64_in _ ⟨by omega, by omega⟩
theorem at0 {α : Type} {l : List α} {k : Nat} {x : α} (h : l[k]? = some x) : atI l (k : Int) = some x := by rw [atI_nat, h]
theorem at1 {α : Type} {l : List α} {i : Int} {k : Nat} {x : α} (hi : i = (k : Int)) (h : l[k]? = some x) : atI l i = some x := by rw [hi, atI_nat, h]
theorem getl {α : Type} {l : List α} {k : Nat} (h : k < l.length) : ∃ x, l[k]? = some x := ⟨l[k], List.getElem?_eq_getElem h⟩
def cl (l : List TGlyph) (j : Nat) : Int := (l[j]?.getD default).Cluster
theorem cl_at {l : List TGlyph} {j : Nat} {x : TGlyph} (h : l[j]? = some x) : cl l j = x.Cluster := by unfold cl; rw [h]; rfl
/-- Do clusters rise, up to a place? -/
def rs (l : List TGlyph) : Prop := ∀ i, i + 1 < l.length → cl l i ≤ cl l (i + 1)
theorem bRise_L1 {N : Nat} {l : List TGlyph} (hl : l.length ≤ 1000000) : ∀ (k n : Nat), k < l.length → k < n →
    (slices_IsSortedFunc_apiGlyphapiGlyph_L1 N l n k = some (.inl ()) ∧ ∀ i, i < k → cl l i ≤ cl l (i + 1)) ∨ (slices_IsSortedFunc_apiGlyphapiGlyph_L1 N l n k = some (.inr ()) ∧ ¬ ∀ i, i < k → cl l i ≤ cl l (i + 1)) := by
  intro k
  induction k with
  | zero =>
    intro n hk hn
    obtain ⟨n, rfl⟩ : ∃ x, n = x + 1 := ⟨n - 1, by omega⟩
    left
    rw [slices_IsSortedFunc_apiGlyphapiGlyph_L1, if_neg (by omega)]
    exact ⟨rfl, fun i h => by omega⟩
  | succ k ih =>
    intro n hk hn
    obtain ⟨n, rfl⟩ : ∃ x, n = x + 1 := ⟨n - 1, by omega⟩
    obtain ⟨x, hx⟩ := getl hk
    obtain ⟨y, hy⟩ := getl (show k < l.length by omega)
    have c1 := cl_at hx; have c2 := cl_at hy
    rw [slices_IsSortedFunc_apiGlyphapiGlyph_L1, if_pos (by omega), at0 hx, Option.bind_some, w64 (x := ((k + 1 : Nat) : Int) - 1) (by omega) (by omega), at1 (k := k) (by omega) hy, Option.bind_some]
    unfold buffer_Rise_1
    by_cases h1 : x.Cluster < y.Cluster
    · right
      rw [if_pos h1, Option.bind_some, if_pos (by decide)]
      exact ⟨rfl, fun h => by have := h k (by omega); omega⟩
    · have e : ((if x.Cluster < y.Cluster then some (-1) else if y.Cluster < x.Cluster then some 1 else some (0 : Int)).bind fun y_14 => if y_14 < 0 then some (.inr ()) else slices_IsSortedFunc_apiGlyphapiGlyph_L1 N l n (((k + 1 : Nat) : Int) - 1)) = slices_IsSortedFunc_apiGlyphapiGlyph_L1 N l n (k : Int) := by
        rw [if_neg h1, show ((k + 1 : Nat) : Int) - 1 = (k : Int) by omega]
        split <;> rw [Option.bind_some, if_neg (by decide)]
      rw [e]
      rcases ih n (by omega) (by omega) with ⟨h2, h3⟩ | ⟨h2, h3⟩
      · refine .inl ⟨h2, fun i hi => ?_⟩
        rcases Nat.lt_or_ge i k with hh | hh
        · exact h3 i hh
        · have : i = k := by omega
          subst this; omega
      · exact .inr ⟨h2, fun h => h3 fun i hi => h i (by omega)⟩
theorem Rise_eq {N : Nat} (hN : 1000000000000 < N) {l : List TGlyph} (hl : l.length ≤ 1000000) : (buffer_Rise N l = some true ∧ rs l) ∨ (buffer_Rise N l = some false ∧ ¬ rs l) := by
  unfold buffer_Rise slices_IsSortedFunc_apiGlyphapiGlyph
  rw [w64 (by omega) (by omega)]
  by_cases h0 : l.length = 0
  · left
    obtain ⟨n, hn⟩ : ∃ x, N = x + 1 := ⟨N - 1, by omega⟩
    have : slices_IsSortedFunc_apiGlyphapiGlyph_L1 N l N ((l.length : Int) - 1) = some (.inl ()) := by
      rw [show slices_IsSortedFunc_apiGlyphapiGlyph_L1 N l N ((l.length : Int) - 1) = slices_IsSortedFunc_apiGlyphapiGlyph_L1 N l (n + 1) ((l.length : Int) - 1) by rw [← hn]]
      rw [slices_IsSortedFunc_apiGlyphapiGlyph_L1, if_neg (by omega)]
    rw [this]
    exact ⟨rfl, fun i hi => by omega⟩
  · have h := bRise_L1 (N := N) hl (l.length - 1) N (by omega) (by omega)
    rw [show ((l.length - 1 : Nat) : Int) = (l.length : Int) - 1 by omega] at h
    rcases h with ⟨h1, h2⟩ | ⟨h1, h2⟩
    · left; rw [h1]; exact ⟨rfl, fun i hi => h2 i (by omega)⟩
    · right; rw [h1]; exact ⟨rfl, fun h => h2 fun i hi => h i (by omega)⟩
theorem rRise_L1 {N : Nat} {l : List TGlyph} (hl : l.length ≤ 1000000) : ∀ (d k n : Nat), k + d = l.length → d < n → 0 < k →
    (ref17_Rise_L1 N l n k = some (.inl ()) ∧ ∀ i, k ≤ i + 1 → i + 1 < l.length → cl l i ≤ cl l (i + 1)) ∨ (ref17_Rise_L1 N l n k = some (.inr ()) ∧ ¬ rs l) := by
  intro d
  induction d with
  | zero =>
    intro k n hk hn h0
    obtain ⟨n, rfl⟩ : ∃ x, n = x + 1 := ⟨n - 1, by omega⟩
    left
    rw [ref17_Rise_L1, if_neg (by omega)]
    exact ⟨rfl, fun i h => by omega⟩
  | succ d ih =>
    intro k n hk hn h0
    obtain ⟨n, rfl⟩ : ∃ x, n = x + 1 := ⟨n - 1, by omega⟩
    obtain ⟨x, hx⟩ := getl (show k < l.length by omega)
    obtain ⟨y, hy⟩ := getl (show k - 1 < l.length by omega)
    have c1 := cl_at hx; have c2 := cl_at hy
    rw [ref17_Rise_L1, if_pos (by omega), w64 (x := (k : Int) - 1) (by omega) (by omega), at1 (k := k - 1) (by omega) hy, Option.bind_some, at0 hx, Option.bind_some]
    by_cases h1 : x.Cluster < y.Cluster
    · right
      rw [if_pos h1]
      exact ⟨rfl, fun h => by have := h (k - 1) (by omega); rw [show k - 1 + 1 = k by omega] at this; omega⟩
    · rw [if_neg h1, w64 (x := (k : Int) + 1) (by omega) (by omega), show (k : Int) + 1 = ((k + 1 : Nat) : Int) by omega]
      rcases ih (k + 1) n (by omega) (by omega) (by omega) with ⟨h2, h3⟩ | ⟨h2, h3⟩
      · refine .inl ⟨h2, fun i hi hil => ?_⟩
        rcases Nat.lt_or_ge k (i + 1) with hh | hh
        · exact h3 i (by omega) hil
        · have : i = k - 1 := by omega
          subst this; rw [show k - 1 + 1 = k by omega]; omega
      · exact .inr ⟨h2, h3⟩
theorem rRise_eq {N : Nat} (hN : 1000000000000 < N) {l : List TGlyph} (hl : l.length ≤ 1000000) : (ref17_Rise N l = some true ∧ rs l) ∨ (ref17_Rise N l = some false ∧ ¬ rs l) := by
  unfold ref17_Rise
  by_cases h0 : l.length = 0
  · left
    obtain ⟨n, hn⟩ : ∃ x, N = x + 1 := ⟨N - 1, by omega⟩
    have : ref17_Rise_L1 N l N 1 = some (.inl ()) := by
      rw [show ref17_Rise_L1 N l N 1 = ref17_Rise_L1 N l (n + 1) 1 by rw [← hn]]
      rw [ref17_Rise_L1, if_neg (by omega)]
    rw [this]
    exact ⟨rfl, fun i hi => by omega⟩
  · have h := rRise_L1 (N := N) hl (l.length - 1) 1 N (by omega) (by omega) (by omega)
    rw [show ((1 : Nat) : Int) = 1 from rfl] at h
    rcases h with ⟨h1, h2⟩ | ⟨h1, h2⟩
    · left; rw [h1]; exact ⟨rfl, fun i hi => h2 i (by omega) hi⟩
    · right; rw [h1]; exact ⟨rfl, h2⟩
theorem Clone_eq {N : Nat} {l : List TGlyph} (hl : l.length ≤ 1000000) : slices_Clone_apiGlyphapiGlyph N l = some l := by
  unfold slices_Clone_apiGlyphapiGlyph
  by_cases h : l = []
  · rw [if_pos h, h]
  · rw [if_neg h, if_pos (by omega)]
theorem Copy_eq {N : Nat} {l : List TGlyph} (hl : l.length ≤ 1000000) : ref17_Copy N l = some () := by
  unfold ref17_Copy
  rw [if_pos (by omega)]
def mnL : Int → List TGlyph → Int
  | c, [] => c
  | c, x :: r => mnL (min c x.Cluster) r
/-- Where the same cluster begins, behind; where it ends, ahead. -/
def dn (l : List TGlyph) (c : Int) : Nat → Nat
  | 0 => 0
  | k + 1 => if cl l k = c then dn l c k else k + 1
def up (l : List TGlyph) (c : Int) : Nat → Nat → Nat
  | 0, k => k
  | d + 1, k => if cl l k = c then up l c d (k + 1) else k
theorem dn_le (l : List TGlyph) (c : Int) : ∀ k, dn l c k ≤ k
  | 0 => Nat.le_refl 0
  | k + 1 => by simp only [dn]; split; exact Nat.le_succ_of_le (dn_le l c k); exact Nat.le_refl _
theorem up_le (l : List TGlyph) (c : Int) : ∀ d k, k ≤ up l c d k ∧ up l c d k ≤ k + d
  | 0, k => ⟨Nat.le_refl k, Nat.le_refl k⟩
  | d + 1, k => by
    simp only [up]
    have := up_le l c d (k + 1)
    split <;> omega
/-- A run with one cluster from a place to another. -/
structure Mg (l : List TGlyph) (c : Int) (a b : Nat) (m : List TGlyph) : Prop where
  len : m.length = l.length
  at_ : ∀ j, m[j]? = if a ≤ j ∧ j < b then (l[j]?).map (fun x => { x with Cluster := c }) else l[j]?
theorem Mg.uniq {l : List TGlyph} {c : Int} {a b : Nat} {m m' : List TGlyph} (h : Mg l c a b m) (h' : Mg l c a b m') : m = m' :=
  List.ext_getElem? fun j => by rw [h.at_ j, h'.at_ j]
theorem Mg.zero {l : List TGlyph} {c : Int} {a : Nat} : Mg l c a a l := ⟨rfl, fun j => by rw [if_neg (by omega)]⟩
theorem Mg.step {l : List TGlyph} {c : Int} {a b : Nat} {m : List TGlyph} (h : Mg l c a b m) (hab : a ≤ b) {x : TGlyph} (hx : m[b]? = some x) : Mg l c a (b + 1) (m.set b { x with Cluster := c }) := by
  have hb : b < m.length := (List.getElem?_eq_some_iff.1 hx).1
  refine ⟨by rw [List.length_set]; exact h.len, fun j => ?_⟩
  by_cases hj : j = b
  · subst hj
    rw [List.getElem?_set_self hb, if_pos (by omega)]
    have := h.at_ j
    rw [if_neg (by omega), hx] at this
    rw [← this]; rfl
  · rw [List.getElem?_set_ne (by omega), h.at_ j]
    by_cases hh : a ≤ j ∧ j < b
    · rw [if_pos hh, if_pos (by omega)]
    · rw [if_neg hh, if_neg (by omega)]
theorem bM_L1 {N : Nat} {l s : List TGlyph} {f t : Int} {y : List TGlyph} (hs : slI l f t = s) (hl : s.length ≤ 1000000) : ∀ (d k n : Nat) (c : Int), k + d = s.length → d < n → buffer_Merge_L1 N l f t y n c k = some (mnL c (s.drop k)) := by
  intro d
  induction d with
  | zero =>
    intro k n c hk hn
    obtain ⟨n, rfl⟩ : ∃ x, n = x + 1 := ⟨n - 1, by omega⟩
    rw [buffer_Merge_L1, hs, if_neg (by omega), List.drop_eq_nil_of_le (by omega)]
    rfl
  | succ d ih =>
    intro k n c hk hn
    obtain ⟨n, rfl⟩ : ∃ x, n = x + 1 := ⟨n - 1, by omega⟩
    obtain ⟨x, hx, hd⟩ := drop_cons hk
    rw [buffer_Merge_L1, hs, if_pos (by omega), at0 hx, Option.bind_some, w64 (by omega) (by omega), hd, show (k : Int) + 1 = ((k + 1 : Nat) : Int) by omega, ih (k + 1) n _ (by omega) (by omega)]
    rfl
theorem rM_L1 {N : Nat} {l : List TGlyph} {f : Int} {t : Nat} (hl : l.length ≤ 1000000) (ht : t ≤ l.length) : ∀ (d k n : Nat) (c : Int), k + d = t → d < n → ref17_Merge_L1 N l f t n c k = some (mnL c ((l.drop k).take d)) := by
  intro d
  induction d with
  | zero =>
    intro k n c hk hn
    obtain ⟨n, rfl⟩ : ∃ x, n = x + 1 := ⟨n - 1, by omega⟩
    rw [ref17_Merge_L1, if_neg (by omega), List.take_zero]
    rfl
  | succ d ih =>
    intro k n c hk hn
    obtain ⟨n, rfl⟩ : ∃ x, n = x + 1 := ⟨n - 1, by omega⟩
    obtain ⟨x, hx, hd⟩ := drop_cons (l := l) (i := k) (d := l.length - (k + 1)) (by omega)
    rw [ref17_Merge_L1, if_pos (by omega), at0 hx, Option.bind_some, w64 (by omega) (by omega), hd, List.take_succ_cons, show (k : Int) + 1 = ((k + 1 : Nat) : Int) by omega, ih (k + 1) n _ (by omega) (by omega), ih (k + 1) n _ (by omega) (by omega)]
    simp only [mnL]
    by_cases h : x.Cluster < c
    · rw [if_pos h, Int.min_eq_right (by omega)]
    · rw [if_neg h, Int.min_eq_left (by omega)]
theorem bM_L2 {N : Nat} {l y : List TGlyph} {f : Nat} {t z : Int} {xf : TGlyph} (hl : l.length ≤ 1000000) (hf : l[f]? = some xf) : ∀ (k n : Nat), k ≤ f → k < n → buffer_Merge_L2 N l f t z y n k = some (dn l xf.Cluster k : Int) := by
  have hfl := (List.getElem?_eq_some_iff.1 hf).1
  intro k
  induction k with
  | zero =>
    intro n hk hn
    obtain ⟨n, rfl⟩ : ∃ x, n = x + 1 := ⟨n - 1, by omega⟩
    rw [buffer_Merge_L2, if_neg (by omega)]; rfl
  | succ k ih =>
    intro n hk hn
    obtain ⟨n, rfl⟩ : ∃ x, n = x + 1 := ⟨n - 1, by omega⟩
    obtain ⟨x, hx⟩ := getl (show k < l.length by omega)
    rw [buffer_Merge_L2, if_pos (by omega), w64 (by omega) (by omega), at1 (k := k) (by omega) hx, Option.bind_some, at0 hf, Option.bind_some, show ((k + 1 : Nat) : Int) - 1 = (k : Int) by omega, ih n (by omega) (by omega)]
    simp only [dn, cl_at hx]
    split <;> rfl
theorem bM_L3 {N : Nat} {l y : List TGlyph} {t : Nat} {z w : Int} {xt : TGlyph} (hl : l.length ≤ 1000000) (ht : 0 < t) (hf : l[t - 1]? = some xt) : ∀ (d k n : Nat), k + d = l.length → d < n → buffer_Merge_L3 N l t z w y n k = some (up l xt.Cluster d k : Int) := by
  have hfl := (List.getElem?_eq_some_iff.1 hf).1
  intro d
  induction d with
  | zero =>
    intro k n hk hn
    obtain ⟨n, rfl⟩ : ∃ x, n = x + 1 := ⟨n - 1, by omega⟩
    rw [buffer_Merge_L3, if_neg (by omega)]; rfl
  | succ d ih =>
    intro k n hk hn
    obtain ⟨n, rfl⟩ : ∃ x, n = x + 1 := ⟨n - 1, by omega⟩
    obtain ⟨x, hx⟩ := getl (show k < l.length by omega)
    rw [buffer_Merge_L3, if_pos (by omega), at0 hx, Option.bind_some, w64 (x := (t : Int) - 1) (by omega) (by omega), at1 (k := t - 1) (by omega) hf, Option.bind_some, w64 (by omega) (by omega), show (k : Int) + 1 = ((k + 1 : Nat) : Int) by omega, ih (k + 1) n (by omega) (by omega)]
    simp only [up, cl_at hx]
    split <;> rfl
theorem bM_L4 {N : Nat} {l : List TGlyph} {c : Int} {a b : Nat} (hl : l.length ≤ 1000000) (hb : b ≤ l.length) : ∀ (d k n : Nat) (s : List TGlyph), k + d = b → d < n → a ≤ k → Mg l c a k s → ∃ m, buffer_Merge_L4 N c b n k s = some m ∧ Mg l c a b m := by
  intro d
  induction d with
  | zero =>
    intro k n s hk hn hak hs
    obtain ⟨n, rfl⟩ : ∃ x, n = x + 1 := ⟨n - 1, by omega⟩
    rw [buffer_Merge_L4, if_neg (by omega)]
    have : k = b := by omega
    subst this
    exact ⟨_, rfl, hs⟩
  | succ d ih =>
    intro k n s hk hn hak hs
    obtain ⟨n, rfl⟩ : ∃ x, n = x + 1 := ⟨n - 1, by omega⟩
    have hlen := hs.len
    obtain ⟨x, hx⟩ := getl (show k < s.length by omega)
    rw [buffer_Merge_L4, if_pos (by omega), at0 hx, Option.bind_some, w64 (by omega) (by omega), show (k : Int) + 1 = ((k + 1 : Nat) : Int) by omega, Int.toNat_natCast]
    exact ih (k + 1) n _ (by omega) (by omega) (by omega) (hs.step hak hx)
/-- Which places are in. -/
structure Mk (n a b : Nat) (s : List Bool) : Prop where
  len : s.length = n
  at_ : ∀ j, j < n → s[j]? = some (decide (a ≤ j ∧ j < b))
theorem Mk.set {n a b a' b' : Nat} {s : List Bool} (h : Mk n a b s) {j : Nat} (hj : j < n) {v : Bool} (hv : v = decide (a' ≤ j ∧ j < b')) (ho : ∀ i, i < n → i ≠ j → (a ≤ i ∧ i < b ↔ a' ≤ i ∧ i < b')) : Mk n a' b' (s.set j v) := by
  refine ⟨by rw [List.length_set]; exact h.len, fun i hi => ?_⟩
  by_cases e : i = j
  · subst e
    rw [List.getElem?_set_self (by rw [h.len]; exact hi), hv]
  · rw [List.getElem?_set_ne (Ne.symm e), h.at_ i hi]
    congr 1
    exact decide_eq_decide.2 (ho i hi e)
theorem rM_L2 {N : Nat} {l : List TGlyph} {f t : Nat} {z : Int} (hl : l.length ≤ 1000000) (ht : t ≤ l.length) : ∀ (d k n : Nat) (s : List Bool), k + d = t → d < n → f ≤ k → Mk l.length f k s → ∃ m, ref17_Merge_L2 N l f t z n k s = some m ∧ Mk l.length f t m := by
  intro d
  induction d with
  | zero =>
    intro k n s hk hn hfk hs
    obtain ⟨n, rfl⟩ : ∃ x, n = x + 1 := ⟨n - 1, by omega⟩
    rw [ref17_Merge_L2, if_neg (by omega)]
    have : k = t := by omega
    subst this
    exact ⟨_, rfl, hs⟩
  | succ d ih =>
    intro k n s hk hn hfk hs
    obtain ⟨n, rfl⟩ : ∃ x, n = x + 1 := ⟨n - 1, by omega⟩
    rw [ref17_Merge_L2, if_pos (by omega), at0 (hs.at_ k (by omega)), Option.bind_some, w64 (by omega) (by omega), show (k : Int) + 1 = ((k + 1 : Nat) : Int) by omega, Int.toNat_natCast]
    exact ih (k + 1) n _ (by omega) (by omega) (by omega) (hs.set (by omega) (decide_eq_true (by omega)).symm (fun i hi he => by omega))
theorem rM_L3 {N : Nat} {l : List TGlyph} {f t : Nat} {z : Int} {xf : TGlyph} (hl : l.length ≤ 1000000) (hft : f < t) (ht : t ≤ l.length) (hf : l[f]? = some xf) : ∀ (k n : Nat) (s : List Bool), k ≤ f → k + 1 < n → Mk l.length k t s → ∃ m, ref17_Merge_L3 N l f t z n ((k : Int) - 1) s = some m ∧ Mk l.length (dn l xf.Cluster k) t m := by
  intro k
  induction k with
  | zero =>
    intro n s hk hn hs
    obtain ⟨n, rfl⟩ : ∃ x, n = x + 1 := ⟨n - 1, by omega⟩
    rw [ref17_Merge_L3, if_neg (by omega)]
    exact ⟨_, rfl, hs⟩
  | succ k ih =>
    intro n s hk hn hs
    obtain ⟨n, rfl⟩ : ∃ x, n = x + 1 := ⟨n - 1, by omega⟩
    obtain ⟨x, hx⟩ := getl (show k < l.length by omega)
    rw [show ((k + 1 : Nat) : Int) - 1 = (k : Int) by omega, ref17_Merge_L3, if_pos (by omega), w64 (x := (k : Int) + 1) (by omega) (by omega), at1 (k := k + 1) (by omega) (hs.at_ (k + 1) (by omega)), Option.bind_some, if_pos (by rw [decide_eq_true_eq]; omega), at0 hx, Option.bind_some, at0 hf, Option.bind_some, at0 (hs.at_ k (by omega)), Option.bind_some, w64 (x := (k : Int) - 1) (by omega) (by omega), Int.toNat_natCast]
    simp only [dn, cl_at hx]
    by_cases h : x.Cluster = xf.Cluster
    · rw [if_pos h]
      exact ih n _ (by omega) (by omega) (hs.set (by omega) (by rw [decide_eq_true h, decide_eq_true (by omega)]) (fun i hi he => by omega))
    · rw [if_neg h]
      have hs2 : Mk l.length (k + 1) t (s.set k (decide (x.Cluster = xf.Cluster))) := hs.set (by omega) (by rw [decide_eq_false h, decide_eq_false (by omega)]) (fun i hi he => by omega)
      obtain ⟨n, rfl⟩ : ∃ x, n = x + 1 := ⟨n - 1, by omega⟩
      rw [ref17_Merge_L3]
      by_cases h0 : 0 ≤ (k : Int) - 1
      · rw [if_pos h0, w64 (x := (k : Int) - 1 + 1) (by omega) (by omega), at1 (k := k) (by omega) (hs2.at_ k (by omega)), Option.bind_some, if_neg (by rw [decide_eq_true_eq]; omega)]
        exact ⟨_, rfl, hs2⟩
      · rw [if_neg h0]; exact ⟨_, rfl, hs2⟩
theorem rM_L4 {N : Nat} {l : List TGlyph} {a t : Nat} {z : Int} {xt : TGlyph} (hl : l.length ≤ 1000000) (hat : a < t) (hf : l[t - 1]? = some xt) : ∀ (d k n : Nat) (s : List Bool), k + d = l.length → d + 1 < n → t ≤ k → Mk l.length a k s → ∃ m, ref17_Merge_L4 N l t z n k s = some m ∧ Mk l.length a (up l xt.Cluster d k) m := by
  intro d
  induction d with
  | zero =>
    intro k n s hk hn htk hs
    obtain ⟨n, rfl⟩ : ∃ x, n = x + 1 := ⟨n - 1, by omega⟩
    rw [ref17_Merge_L4, if_neg (by omega)]
    exact ⟨_, rfl, hs⟩
  | succ d ih =>
    intro k n s hk hn htk hs
    obtain ⟨n, rfl⟩ : ∃ x, n = x + 1 := ⟨n - 1, by omega⟩
    obtain ⟨x, hx⟩ := getl (show k < l.length by omega)
    rw [ref17_Merge_L4, if_pos (by omega), w64 (x := (k : Int) - 1) (by omega) (by omega), at1 (k := k - 1) (by omega) (hs.at_ (k - 1) (by omega)), Option.bind_some, if_pos (by rw [decide_eq_true_eq]; omega), at0 hx, Option.bind_some, w64 (x := (t : Int) - 1) (by omega) (by omega), at1 (k := t - 1) (by omega) hf, Option.bind_some, at0 (hs.at_ k (by omega)), Option.bind_some, w64 (x := (k : Int) + 1) (by omega) (by omega), Int.toNat_natCast, show (k : Int) + 1 = ((k + 1 : Nat) : Int) by omega]
    simp only [up, cl_at hx]
    by_cases h : x.Cluster = xt.Cluster
    · rw [if_pos h]
      exact ih (k + 1) n _ (by omega) (by omega) (by omega) (hs.set (by omega) (by rw [decide_eq_true h, decide_eq_true (by omega)]) (fun i hi he => by omega))
    · rw [if_neg h]
      have hs2 : Mk l.length a k (s.set k (decide (x.Cluster = xt.Cluster))) := hs.set (by omega) (by rw [decide_eq_false h, decide_eq_false (by omega)]) (fun i hi he => by omega)
      obtain ⟨n, rfl⟩ : ∃ x, n = x + 1 := ⟨n - 1, by omega⟩
      rw [ref17_Merge_L4]
      by_cases h0 : ((k + 1 : Nat) : Int) < (l.length : Int)
      · rw [if_pos h0, w64 (x := ((k + 1 : Nat) : Int) - 1) (by omega) (by omega), at1 (k := k) (by omega) (hs2.at_ k (by omega)), Option.bind_some, if_neg (by rw [decide_eq_true_eq]; omega)]
        exact ⟨_, rfl, hs2⟩
      · rw [if_neg h0]; exact ⟨_, rfl, hs2⟩
theorem rM_L5 {N : Nat} {l : List TGlyph} {c : Int} {a b : Nat} {y : List Bool} (hl : l.length ≤ 1000000) (hab : a ≤ b) (hb : b ≤ l.length) (hy : Mk l.length a b y) : ∀ (d k n : Nat) (s : List TGlyph), k + d = l.length → d < n → Mg l c a (max a (min k b)) s → ∃ m, ref17_Merge_L5 N l c y n k s = some m ∧ Mg l c a b m := by
  intro d
  induction d with
  | zero =>
    intro k n s hk hn hs
    obtain ⟨n, rfl⟩ : ∃ x, n = x + 1 := ⟨n - 1, by omega⟩
    rw [ref17_Merge_L5, if_neg (by omega)]
    rw [show max a (min k b) = b by omega] at hs
    exact ⟨_, rfl, hs⟩
  | succ d ih =>
    intro k n s hk hn hs
    obtain ⟨n, rfl⟩ : ∃ x, n = x + 1 := ⟨n - 1, by omega⟩
    have hlen := hs.len
    obtain ⟨x, hx⟩ := getl (show k < s.length by omega)
    rw [ref17_Merge_L5, if_pos (by omega), at0 (hy.at_ k (by omega)), Option.bind_some, w64 (by omega) (by omega), show (k : Int) + 1 = ((k + 1 : Nat) : Int) by omega, Int.toNat_natCast]
    by_cases h : a ≤ k ∧ k < b
    · rw [if_pos (decide_eq_true h), at0 hx, Option.bind_some]
      rw [show max a (min k b) = k by omega] at hs
      exact ih (k + 1) n _ (by omega) (by omega) (by rw [show max a (min (k + 1) b) = k + 1 by omega]; exact hs.step h.1 hx)
    · rw [if_neg (by rw [decide_eq_true_eq]; exact h)]
      exact ih (k + 1) n _ (by omega) (by omega) (by rw [show max a (min (k + 1) b) = max a (min k b) by omega]; exact hs)
/-- Merging, by the program and by the document. -/
theorem Merge_eq {N : Nat} (hN : 1000000000000 < N) {l : List TGlyph} (hl : l.length ≤ 1000000) (f t : Int) : ∃ m, buffer_Merge N l f t = some m ∧ ref17_Merge N l f t = some m ∧ m.length = l.length ∧
    ((f < 0 ∨ (l.length : Int) < t ∨ t ≤ f) → m = l) ∧
    (0 ≤ f → t ≤ (l.length : Int) → f < t → Mg l (mnL (cl l f.toNat) (slI l f t)) (dn l (cl l f.toNat) f.toNat) (up l (cl l (t.toNat - 1)) (l.length - t.toNat) t.toNat) m) := by
  unfold buffer_Merge ref17_Merge
  rw [Clone_eq hl, Copy_eq hl, Option.bind_some, Option.bind_some]
  by_cases h1 : f < 0
  · rw [if_pos h1, if_pos h1]; exact ⟨l, rfl, rfl, rfl, fun _ => rfl, fun h => by omega⟩
  by_cases h2 : (l.length : Int) < t
  · rw [if_neg h1, if_neg h1, if_pos h2, if_pos h2]; exact ⟨l, rfl, rfl, rfl, fun _ => rfl, fun h => by omega⟩
  by_cases h3 : t ≤ f
  · rw [if_neg h1, if_neg h1, if_neg h2, if_neg h2, if_pos h3, if_pos h3]; exact ⟨l, rfl, rfl, rfl, fun _ => rfl, fun h => by omega⟩
  rw [if_neg h1, if_neg h1, if_neg h2, if_neg h2, if_neg h3, if_neg h3]
  obtain ⟨F, rfl⟩ := Int.eq_ofNat_of_zero_le (show 0 ≤ f by omega)
  obtain ⟨T, rfl⟩ := Int.eq_ofNat_of_zero_le (show 0 ≤ t by omega)
  obtain ⟨xf, hf⟩ := getl (l := l) (show F < l.length by omega)
  obtain ⟨xt, ht⟩ := getl (l := l) (show T - 1 < l.length by omega)
  have hsl : slI l (F : Int) (T : Int) = (l.drop F).take (T - F) := by simp [slI]
  have hsll : (slI l (F : Int) (T : Int)).length = T - F := by rw [hsl]; simp; omega
  have l1 := bM_L1 (N := N) (l := l) (f := F) (t := T) (y := l) rfl (by rw [hsll]; omega) (T - F) 0 N xf.Cluster (by rw [hsll]; omega) (by omega)
  have r1 := rM_L1 (N := N) (f := (F : Int)) hl (by omega : T ≤ l.length) (T - F) F N xf.Cluster (by omega) (by omega)
  rw [show ((0 : Nat) : Int) = 0 from rfl, List.drop_zero] at l1
  rw [← hsl] at r1
  generalize hc : mnL xf.Cluster (slI l (F : Int) (T : Int)) = c at l1 r1
  have l2 := bM_L2 (N := N) (y := l) (t := (T : Int)) (z := c) hl hf F N (Nat.le_refl F) (by omega)
  have l3 := bM_L3 (N := N) (y := l) (z := c) (w := (dn l xf.Cluster F : Int)) hl (by omega : 0 < T) ht (l.length - T) T N (by omega) (by omega)
  have hd := dn_le l xf.Cluster F
  have hu := up_le l xt.Cluster (l.length - T) T
  obtain ⟨m, l4, l5⟩ := bM_L4 (N := N) (l := l) (c := c) (a := dn l xf.Cluster F) (b := up l xt.Cluster (l.length - T) T) hl (by omega) (up l xt.Cluster (l.length - T) T - dn l xf.Cluster F) (dn l xf.Cluster F) N l (by omega) (by omega) (Nat.le_refl _) Mg.zero
  obtain ⟨s2, r2, r2'⟩ := rM_L2 (N := N) (l := l) (f := F) (z := c) hl (by omega : T ≤ l.length) (T - F) F N (List.replicate l.length false) (by omega) (by omega) (Nat.le_refl _) ⟨by simp, fun j hj => by rw [List.getElem?_replicate, if_pos hj, decide_eq_false (by omega)]⟩
  obtain ⟨s3, r3, r3'⟩ := rM_L3 (N := N) (z := c) hl (by omega : F < T) (by omega) hf F N s2 (Nat.le_refl _) (by omega) r2'
  obtain ⟨s4, r4, r4'⟩ := rM_L4 (N := N) (a := dn l xf.Cluster F) (z := c) hl (by omega) ht (l.length - T) T N s3 (by omega) (by omega) (Nat.le_refl _) r3'
  obtain ⟨m', r5, r5'⟩ := rM_L5 (N := N) (c := c) hl (by omega) (by omega) r4' l.length 0 N l (by omega) (by omega) (by rw [show max (dn l xf.Cluster F) (min 0 (up l xt.Cluster (l.length - T) T)) = dn l xf.Cluster F by omega]; exact Mg.zero)
  have e : m' = m := r5'.uniq l5
  subst e
  rw [show ((0 : Nat) : Int) = 0 from rfl] at r5
  refine ⟨m', ?_, ?_, l5.len, fun h => by omega, fun _ _ _ => ?_⟩
  · rw [at0 hf, Option.bind_some, if_pos (by omega), if_pos (by omega), if_pos (by omega), l1, Option.bind_some, l2, Option.bind_some, l3, Option.bind_some, l4, Option.bind_some]
  · rw [at0 hf, Option.bind_some, r1, Option.bind_some, if_pos (by omega), if_pos (by omega), r2, Option.bind_some, w64 (by omega) (by omega), r3, Option.bind_some, r4, Option.bind_some, r5, Option.bind_some]
  · simp only [Int.toNat_natCast, cl_at hf, cl_at ht, hc]
    exact l5
theorem Same_eq {N : Nat} (hN : 1000000000000 < N) {l : List TGlyph} (hl : l.length ≤ 1000000000) : ref17_Same N l l = some true := by
  have key : ∀ (d k n : Nat), k + d = l.length → d < n → ref17_Same_L1 N l l n k = some (.inl ()) := by
    intro d
    induction d with
    | zero =>
      intro k n hk hn
      obtain ⟨n, rfl⟩ : ∃ x, n = x + 1 := ⟨n - 1, by omega⟩
      rw [ref17_Same_L1, if_neg (by omega)]
    | succ d ih =>
      intro k n hk hn
      obtain ⟨n, rfl⟩ : ∃ x, n = x + 1 := ⟨n - 1, by omega⟩
      obtain ⟨x, hx⟩ := getl (show k < l.length by omega)
      have := ih (k + 1) n (by omega) (by omega)
      rw [show ((k + 1 : Nat) : Int) = (k : Int) + 1 by omega] at this
      rw [ref17_Same_L1, if_pos (by omega), at0 hx, Option.bind_some, Option.bind_some, w64 (by omega) (by omega), this]
      simp only [if_true]
  have h := key l.length 0 N (by omega) (by omega)
  rw [show ((0 : Nat) : Int) = 0 from rfl] at h
  unfold ref17_Same
  rw [if_pos rfl, h]
  rfl
end Go.Proofs.Ytjdnbdhdpcnikaa.AI
