/- Part of a proof. -/
import Derived.Test.YtfacmhngbaboiaagsP
import Derived.IntWalk
set_option linter.unusedVariables false
set_option linter.unusedSimpArgs false
set_option maxRecDepth 100000
namespace Go.Proofs.Ytfacmhngbaboiaa.AI
theorem w64g {x : Int} (h : -9223372036854775808 ≤ x) (h' : x ≤ 9223372036854775807) : IntKind.i64.wrap x = x := IntWalk.i64_in _ ⟨by omega, by omega⟩
theorem at0 {α : Type} {l : List α} {k : Nat} {x : α} (h : l[k]? = some x) : atI l (k : Int) = some x := by rw [atI_nat, h]
theorem getl {α : Type} {l : List α} {k : Nat} (h : k < l.length) : ∃ x, l[k]? = some x := ⟨l[k], List.getElem?_eq_getElem h⟩
def sm {α : Type} (f : α → Int) : List α → Int
 | [] => 0
 | x :: l => f x + sm f l
theorem sm_drop {α : Type} {f : α → Int} {l : List α} {k : Nat} {x : α} (h : l[k]? = some x) : sm f (l.drop k) = f x + sm f (l.drop (k + 1)) := by
 obtain ⟨hk, he⟩ := List.getElem?_eq_some_iff.1 h
 rw [List.drop_eq_getElem_cons hk, he]; rfl
theorem sm_end {α : Type} {f : α → Int} {l : List α} {k : Nat} (h : l.length ≤ k) : sm f (l.drop k) = 0 := by rw [List.drop_eq_nil_of_le h]; rfl
theorem sm_nn {α : Type} {f : α → Int} : ∀ {l : List α}, (∀ x ∈ l, 0 ≤ f x) → 0 ≤ sm f l
 | [], _ => Int.le_refl _
 | x :: l, h => by
  have h1 := h x (by simp)
  have h2 := sm_nn (l := l) fun y hy => h y (by simp [hy])
  simp only [sm]; omega
def wTo {α : Type} (x : List α) : Int := (x.length : Int) + 1
def wLig (x : TLig) : Int := (x.Parts.length : Int) + 1
def wLigs (l : List TLig) : Int := 1 + sm wLig l
def wSet (x : TSet) : Int := (x.Spans.length : Int) + 1
def wCtx (c : TCtx) : Int := sm wSet c.Back + sm wSet c.In + sm wSet c.Ahead + (c.Acts.length : Int)
abbrev R : Int := 140737488351232
structure Small (l_4 : List (List Int)) (l_5 : List (List TLig)) (l_6 : List TCtx) : Prop where
 t : l_4.length ≤ 500
 t1 : ∀ x ∈ l_4, (x.length : Int) * 8 ≤ R
 g : l_5.length ≤ 500
 g1 : ∀ x ∈ l_5, x.length ≤ 500
 g2 : ∀ x ∈ l_5, ∀ y ∈ x, (y.Parts.length : Int) * 8 ≤ R
 c : l_6.length ≤ 100
 c1 : ∀ c ∈ l_6, c.Back.length ≤ 100 ∧ c.In.length ≤ 100 ∧ c.Ahead.length ≤ 100 ∧ (c.Acts.length : Int) * 16 ≤ R
 c2 : ∀ c ∈ l_6, (∀ s ∈ c.Back, (s.Spans.length : Int) * 16 ≤ R) ∧ (∀ s ∈ c.In, (s.Spans.length : Int) * 16 ≤ R) ∧ (∀ s ∈ c.Ahead, (s.Spans.length : Int) * 16 ≤ R)
section
variable {N : Nat} {a_0 a_3 : Int} {b_2 : Bool} {l_1 l_14 : List TSpan} {l_4 : List (List Int)} {l_5 : List (List TLig)} {l_6 : List TCtx} {l_7 : List TValue} {l_8 l_11 : List (List TTwo)} {l_9 l_10 : List TClass} {l_12 : List TArr2_TAnchor} {l_13 : List TMark} {l_15 : List (List (List TAnchor))}
theorem sat {i k : Int} (h : 0 ≤ i) (h' : i ≤ 20001) (hk : 0 ≤ k) (hk' : k ≤ 1000000000000000) : min (IntKind.i64.wrap (i + k)) 20001 = min (i + k) 20001 ∧ 0 ≤ min (i + k) 20001 ∧ min (i + k) 20001 ≤ 20001 := by
 rw [w64g (by omega) (by omega)]; omega
theorem gL1 (h1 : ∀ x ∈ l_4, (x.length : Int) * 8 ≤ R) (hl : l_4.length ≤ 500) : ∀ (d k n : Nat) (i : Int), k + d = l_4.length → d < n → 0 ≤ i → i ≤ 20001 → gsub_Things_L1 N l_4 a_0 l_1 b_2 a_3 l_5 l_6 l_7 l_8 l_9 l_10 l_11 l_12 l_13 l_14 l_15 n k i = some (min (i + sm wTo (l_4.drop k)) 20001) := by
 intro d
 induction d with
 | zero =>
  intro k n i hk hn h0 h2
  obtain ⟨n, rfl⟩ : ∃ x, n = x + 1 := ⟨n - 1, by omega⟩
  rw [gsub_Things_L1, if_neg (by omega), sm_end (by omega)]; congr 1; omega
 | succ d ih =>
  intro k n i hk hn h0 h2
  obtain ⟨n, rfl⟩ : ∃ x, n = x + 1 := ⟨n - 1, by omega⟩
  obtain ⟨x, hx⟩ := getl (l := l_4) (show k < l_4.length by omega)
  have hb := h1 x (List.mem_of_getElem? hx)
  simp only [R] at hb
  have hs := sat (k := (x.length : Int) + 1) h0 h2 (by omega) (by omega)
  rw [gsub_Things_L1, if_pos (by omega), at0 hx, Option.bind_some, w64g (x := (x.length : Int) + 1) (by omega) (by omega)]
  simp only [gsub_Things_1, Option.bind_some]
  rw [hs.1, w64g (x := (k : Int) + 1) (by omega) (by omega), show (k : Int) + 1 = ((k + 1 : Nat) : Int) by omega, ih (k + 1) n _ (by omega) (by omega) hs.2.1 hs.2.2, sm_drop hx]
  have : 0 ≤ sm wTo (l_4.drop (k + 1)) := sm_nn fun y _ => by simp only [wTo]; omega
  congr 1
  simp only [wTo] at this ⊢
  omega
theorem gL3 {z : Int} {x0 : List TLig} (h1 : ∀ y ∈ x0, (y.Parts.length : Int) * 8 ≤ R) (hl : x0.length ≤ 500) : ∀ (d k n : Nat) (i : Int), k + d = x0.length → d < n → 0 ≤ i → i ≤ 20001 → gsub_Things_L3 N l_5 z x0 a_0 l_1 b_2 a_3 l_4 l_6 l_7 l_8 l_9 l_10 l_11 l_12 l_13 l_14 l_15 n k i = some (min (i + sm wLig (x0.drop k)) 20001) := by
 intro d
 induction d with
 | zero =>
  intro k n i hk hn h0 h2
  obtain ⟨n, rfl⟩ : ∃ x, n = x + 1 := ⟨n - 1, by omega⟩
  rw [gsub_Things_L3, if_neg (by omega), sm_end (by omega)]; congr 1; omega
 | succ d ih =>
  intro k n i hk hn h0 h2
  obtain ⟨n, rfl⟩ : ∃ x, n = x + 1 := ⟨n - 1, by omega⟩
  obtain ⟨x, hx⟩ := getl (l := x0) (show k < x0.length by omega)
  have hb := h1 x (List.mem_of_getElem? hx)
  simp only [R] at hb
  have hs := sat (k := (x.Parts.length : Int) + 1) h0 h2 (by omega) (by omega)
  rw [gsub_Things_L3, if_pos (by omega), at0 hx, Option.bind_some, w64g (x := (x.Parts.length : Int) + 1) (by omega) (by omega)]
  simp only [gsub_Things_1, Option.bind_some]
  rw [hs.1, w64g (x := (k : Int) + 1) (by omega) (by omega), show (k : Int) + 1 = ((k + 1 : Nat) : Int) by omega, ih (k + 1) n _ (by omega) (by omega) hs.2.1 hs.2.2, sm_drop hx]
  have : 0 ≤ sm wLig (x0.drop (k + 1)) := sm_nn fun y _ => by simp only [wLig]; omega
  congr 1
  simp only [wLig] at this ⊢
  omega
theorem wLigs_nn (l : List TLig) : 0 ≤ wLigs l := by
 have : 0 ≤ sm wLig l := sm_nn fun y _ => by simp only [wLig]; omega
 simp only [wLigs]; omega
theorem gL4 (hN : 1000 < N) (h1 : ∀ x ∈ l_5, x.length ≤ 500) (h2 : ∀ x ∈ l_5, ∀ y ∈ x, (y.Parts.length : Int) * 8 ≤ R) (hl : l_5.length ≤ 500) : ∀ (d k n : Nat) (i : Int), k + d = l_5.length → d < n → 0 ≤ i → i ≤ 20001 → gsub_Things_L4 N l_5 a_0 l_1 b_2 a_3 l_4 l_6 l_7 l_8 l_9 l_10 l_11 l_12 l_13 l_14 l_15 n k i = some (min (i + sm wLigs (l_5.drop k)) 20001) := by
 intro d
 induction d with
 | zero =>
  intro k n i hk hn h0 h3
  obtain ⟨n, rfl⟩ : ∃ x, n = x + 1 := ⟨n - 1, by omega⟩
  rw [gsub_Things_L4, if_neg (by omega), sm_end (by omega)]; congr 1; omega
 | succ d ih =>
  intro k n i hk hn h0 h3
  obtain ⟨n, rfl⟩ : ∃ x, n = x + 1 := ⟨n - 1, by omega⟩
  obtain ⟨x, hx⟩ := getl (l := l_5) (show k < l_5.length by omega)
  have hm := List.mem_of_getElem? hx
  have hs := sat (k := 1) h0 h3 (by omega) (by omega)
  have hL := gL3 (N := N) (l_5 := l_5) (z := (k : Int)) (a_0 := a_0) (l_1 := l_1) (b_2 := b_2) (a_3 := a_3) (l_4 := l_4) (l_6 := l_6) (l_7 := l_7) (l_8 := l_8) (l_9 := l_9) (l_10 := l_10) (l_11 := l_11) (l_12 := l_12) (l_13 := l_13) (l_14 := l_14) (l_15 := l_15) (h2 x hm) (h1 x hm) x.length 0 N (min (i + 1) 20001) (by omega) (by have := h1 x hm; omega) hs.2.1 hs.2.2
  have hnn : 0 ≤ sm wLig x := sm_nn fun y _ => by simp only [wLig]; omega
  rw [List.drop_zero] at hL
  rw [gsub_Things_L4, if_pos (by omega), at0 hx, Option.bind_some]
  simp only [gsub_Things_1, Option.bind_some]
  rw [hs.1, show (0 : Int) = ((0 : Nat) : Int) by rfl, hL, Option.bind_some, w64g (x := (k : Int) + 1) (by omega) (by omega), show (k : Int) + 1 = ((k + 1 : Nat) : Int) by omega, ih (k + 1) n _ (by omega) (by omega) (by omega) (by omega), sm_drop hx]
  have : 0 ≤ sm wLigs (l_5.drop (k + 1)) := sm_nn fun y _ => wLigs_nn y
  congr 1
  simp only [wLigs] at this ⊢
  omega
theorem gL9 {z z2 : Int} {c : TCtx} {x0 : List TSet} (h1 : ∀ y ∈ x0, (y.Spans.length : Int) * 16 ≤ R) (hl : x0.length ≤ 500) : ∀ (d k n : Nat) (i : Int), k + d = x0.length → d < n → 0 ≤ i → i ≤ 20001 → gsub_Things_L9 N l_6 z c z2 x0 n k i = some (min (i + sm wSet (x0.drop k)) 20001) := by
 intro d
 induction d with
 | zero =>
  intro k n i hk hn h0 h2
  obtain ⟨n, rfl⟩ : ∃ x, n = x + 1 := ⟨n - 1, by omega⟩
  rw [gsub_Things_L9, if_neg (by omega), sm_end (by omega)]; congr 1; omega
 | succ d ih =>
  intro k n i hk hn h0 h2
  obtain ⟨n, rfl⟩ : ∃ x, n = x + 1 := ⟨n - 1, by omega⟩
  obtain ⟨x, hx⟩ := getl (l := x0) (show k < x0.length by omega)
  have hb := h1 x (List.mem_of_getElem? hx)
  simp only [R] at hb
  have hs := sat (k := (x.Spans.length : Int) + 1) h0 h2 (by omega) (by omega)
  rw [gsub_Things_L9, if_pos (by omega), at0 hx, Option.bind_some, w64g (x := (x.Spans.length : Int) + 1) (by omega) (by omega)]
  simp only [gsub_Things_1, Option.bind_some]
  rw [hs.1, w64g (x := (k : Int) + 1) (by omega) (by omega), show (k : Int) + 1 = ((k + 1 : Nat) : Int) by omega, ih (k + 1) n _ (by omega) (by omega) hs.2.1 hs.2.2, sm_drop hx]
  have : 0 ≤ sm wSet (x0.drop (k + 1)) := sm_nn fun y _ => by simp only [wSet]; omega
  congr 1
  simp only [wSet] at this ⊢
  omega
theorem wSets_nn (l : List TSet) : 0 ≤ sm wSet l := sm_nn fun y _ => by simp only [wSet]; omega
theorem wCtx_nn (c : TCtx) : 0 ≤ wCtx c := by
 have h1 := wSets_nn c.Back
 have h2 := wSets_nn c.In
 have h3 := wSets_nn c.Ahead
 simp only [wCtx]; omega
theorem gL10 (hN : 1000 < N) {z : Int} {c : TCtx} (h1 : c.Back.length ≤ 100 ∧ c.In.length ≤ 100 ∧ c.Ahead.length ≤ 100) (h2 : (∀ s ∈ c.Back, (s.Spans.length : Int) * 16 ≤ R) ∧ (∀ s ∈ c.In, (s.Spans.length : Int) * 16 ≤ R) ∧ (∀ s ∈ c.Ahead, (s.Spans.length : Int) * 16 ≤ R)) {i : Int} (h0 : 0 ≤ i) (h3 : i ≤ 20001) :
  gsub_Things_L10 N l_6 z c N 0 i = some (min (i + (sm wSet c.Back + sm wSet c.In + sm wSet c.Ahead)) 20001) := by
 obtain ⟨n, hn⟩ : ∃ x, N = x + 4 := ⟨N - 4, by omega⟩
 have n1 := wSets_nn c.Back
 have n2 := wSets_nn c.In
 have n3 := wSets_nn c.Ahead
 have e1 := fun z2 => gL9 (N := N) (l_6 := l_6) (z := z) (z2 := z2) (c := c) h2.1 (by omega) c.Back.length 0 N i (by omega) (by omega) h0 h3
 have e2 := fun z2 => gL9 (N := N) (l_6 := l_6) (z := z) (z2 := z2) (c := c) h2.2.1 (by omega) c.In.length 0 N (min (i + sm wSet c.Back) 20001) (by omega) (by omega) (by omega) (by omega)
 have e3 := fun z2 => gL9 (N := N) (l_6 := l_6) (z := z) (z2 := z2) (c := c) h2.2.2 (by omega) c.Ahead.length 0 N (min (min (i + sm wSet c.Back) 20001 + sm wSet c.In) 20001) (by omega) (by omega) (by omega) (by omega)
 simp only [List.drop_zero] at e1 e2 e3
 have a0 : atI [c.Back, c.In, c.Ahead] 0 = some c.Back := rfl
 have a1 : atI [c.Back, c.In, c.Ahead] 1 = some c.In := rfl
 have a2 : atI [c.Back, c.In, c.Ahead] 2 = some c.Ahead := rfl
 have u1 : IntKind.i64.wrap (0 + 1) = 1 := by decide
 have u2 : IntKind.i64.wrap (1 + 1) = 2 := by decide
 have u3 : IntKind.i64.wrap (2 + 1) = 3 := by decide
 rw [show gsub_Things_L10 N l_6 z c N 0 i = gsub_Things_L10 N l_6 z c (n + 1 + 1 + 1 + 1) 0 i by rw [hn]]
 rw [gsub_Things_L10, if_pos (by decide), a0, Option.bind_some, show (gsub_Things_L9 N l_6 z c 0 c.Back N 0 i) = _ from e1 0, Option.bind_some, u1]
 rw [gsub_Things_L10, if_pos (by decide), a1, Option.bind_some, show (gsub_Things_L9 N l_6 z c 1 c.In N 0 _) = _ from e2 1, Option.bind_some, u2]
 rw [gsub_Things_L10, if_pos (by decide), a2, Option.bind_some, show (gsub_Things_L9 N l_6 z c 2 c.Ahead N 0 _) = _ from e3 2, Option.bind_some, u3]
 rw [gsub_Things_L10, if_neg (by decide)]
 congr 1
 omega
theorem gL11 (hN : 1000 < N) (hS : Small l_4 l_5 l_6) : ∀ (d k n : Nat) (i : Int), k + d = l_6.length → d < n → 0 ≤ i → i ≤ 20001 → gsub_Things_L11 N l_6 n k i = some (min (i + sm wCtx (l_6.drop k)) 20001) := by
 intro d
 induction d with
 | zero =>
  intro k n i hk hn h0 h2
  obtain ⟨n, rfl⟩ : ∃ x, n = x + 1 := ⟨n - 1, by omega⟩
  rw [gsub_Things_L11, if_neg (by omega), sm_end (by omega)]; congr 1; omega
 | succ d ih =>
  intro k n i hk hn h0 h2
  have hcl := hS.c
  obtain ⟨n, rfl⟩ : ∃ x, n = x + 1 := ⟨n - 1, by omega⟩
  obtain ⟨c, hx⟩ := getl (l := l_6) (show k < l_6.length by omega)
  have hm := List.mem_of_getElem? hx
  have b1 := hS.c1 c hm
  have b2 := hS.c2 c hm
  have n1 := wSets_nn c.Back
  have n2 := wSets_nn c.In
  have n3 := wSets_nn c.Ahead
  have ha := b1.2.2.2
  simp only [R] at ha
  have hL := gL10 (l_6 := l_6) (z := (k : Int)) hN ⟨b1.1, b1.2.1, b1.2.2.1⟩ b2 h0 h2
  have hs := sat (i := min (i + (sm wSet c.Back + sm wSet c.In + sm wSet c.Ahead)) 20001) (k := (c.Acts.length : Int)) (by omega) (by omega) (by omega) (by omega)
  rw [gsub_Things_L11, if_pos (by omega), at0 hx, Option.bind_some, hL, Option.bind_some]
  simp only [gsub_Things_1, Option.bind_some]
  rw [hs.1, w64g (x := (k : Int) + 1) (by omega) (by omega), show (k : Int) + 1 = ((k + 1 : Nat) : Int) by omega, ih (k + 1) n _ (by omega) (by omega) hs.2.1 hs.2.2, sm_drop hx]
  have : 0 ≤ sm wCtx (l_6.drop (k + 1)) := sm_nn fun y _ => wCtx_nn y
  congr 1
  simp only [wCtx] at this ⊢
  omega
theorem gsub_eq (hN : 1000 < N) (hS : Small l_4 l_5 l_6) : gsub_Things N a_0 l_1 b_2 a_3 l_4 l_5 l_6 l_7 l_8 l_9 l_10 l_11 l_12 l_13 l_14 l_15 = some (min (1 + sm wTo l_4 + sm wLigs l_5 + sm wCtx l_6) 20001) := by
 have n1 : 0 ≤ sm wTo l_4 := sm_nn fun y _ => by simp only [wTo]; omega
 have n2 : 0 ≤ sm wLigs l_5 := sm_nn fun y _ => wLigs_nn y
 have n3 : 0 ≤ sm wCtx l_6 := sm_nn fun y _ => wCtx_nn y
 have e1 := gL1 (N := N) (a_0 := a_0) (l_1 := l_1) (b_2 := b_2) (a_3 := a_3) (l_5 := l_5) (l_6 := l_6) (l_7 := l_7) (l_8 := l_8) (l_9 := l_9) (l_10 := l_10) (l_11 := l_11) (l_12 := l_12) (l_13 := l_13) (l_14 := l_14) (l_15 := l_15) hS.t1 hS.t l_4.length 0 N 1 (by omega) (by have := hS.t; omega) (by omega) (by omega)
 have e2 := gL4 (N := N) (a_0 := a_0) (l_1 := l_1) (b_2 := b_2) (a_3 := a_3) (l_4 := l_4) (l_6 := l_6) (l_7 := l_7) (l_8 := l_8) (l_9 := l_9) (l_10 := l_10) (l_11 := l_11) (l_12 := l_12) (l_13 := l_13) (l_14 := l_14) (l_15 := l_15) hN hS.g1 hS.g2 hS.g l_5.length 0 N (min (1 + sm wTo l_4) 20001) (by omega) (by have := hS.g; omega) (by omega) (by omega)
 have e3 := gL11 (N := N) hN hS l_6.length 0 N (min (min (1 + sm wTo l_4) 20001 + sm wLigs l_5) 20001) (by omega) (by have := hS.c; omega) (by omega) (by omega)
 simp only [List.drop_zero] at e1 e2 e3
 unfold gsub_Things
 rw [show (0 : Int) = ((0 : Nat) : Int) by rfl, e1, Option.bind_some, e2, Option.bind_some, e3, Option.bind_some]
 congr 1
 omega
end
end Go.Proofs.Ytfacmhngbaboiaa.AI
