/- Plain laws: how many things a subtable tells, by the document (layer 12). -/
import Derived.Test.YtfacmhngbaboiaaGT1
set_option linter.unusedVariables false
set_option linter.unusedSimpArgs false
set_option maxRecDepth 100000
namespace Go.Proofs.Ytfacmhngbaboiaa.AI
theorem wr2 (i k : Int) : IntKind.i64.wrap (IntKind.i64.wrap (IntKind.i64.wrap i + 1) + k) = IntKind.i64.wrap (i + (k + 1)) := by
  rw [wrL, show IntKind.i64.wrap i + 1 + k = IntKind.i64.wrap i + (k + 1) by omega, wrL]
section
variable {N : Nat} {a_0 a_3 : Int} {b_2 : Bool} {l_1 l_14 : List TSpan} {l_4 : List (List Int)} {l_5 : List (List TLig)} {l_6 : List TCtx} {l_7 : List TValue} {l_8 l_11 : List (List TTwo)} {l_9 l_10 : List TClass} {l_12 : List TArr2_TAnchor} {l_13 : List TMark} {l_15 : List (List (List TAnchor))}
theorem rL1 (hl : (l_4.length : Int) ≤ R) : ∀ (d k n : Nat) (i : Int), k + d = l_4.length → d < n → ref12_Things_L1 N a_0 l_1 b_2 a_3 l_4 l_5 l_6 l_7 l_8 l_9 l_10 l_11 l_12 l_13 l_14 l_15 n (IntKind.i64.wrap i) k = some (IntKind.i64.wrap (i + sm wTo (l_4.drop k))) := by
  intro d
  simp only [R] at hl
  induction d with
  | zero =>
    intro k n i hk hn
    obtain ⟨n, rfl⟩ : ∃ x, n = x + 1 := ⟨n - 1, by omega⟩
    rw [ref12_Things_L1, if_neg (by omega), sm_end (by omega), Int.add_zero]
  | succ d ih =>
    intro k n i hk hn
    obtain ⟨n, rfl⟩ : ∃ x, n = x + 1 := ⟨n - 1, by omega⟩
    obtain ⟨x, hx⟩ := getl (l := l_4) (show k < l_4.length by omega)
    rw [ref12_Things_L1, if_pos (by omega), at0 hx, Option.bind_some, wr2, w64 (x := (k : Int) + 1) (by omega) (by omega), show (k : Int) + 1 = ((k + 1 : Nat) : Int) by omega, ih (k + 1) n _ (by omega) (by omega), sm_drop hx]
    simp only [wTo, Int.add_assoc]
theorem rL3 {z : Nat} {x0 : List TLig} (hz : l_5[z]? = some x0) (hl : (x0.length : Int) ≤ R) : ∀ (d k n : Nat) (i : Int), k + d = x0.length → d < n → ref12_Things_L3 N z a_0 l_1 b_2 a_3 l_4 l_5 l_6 l_7 l_8 l_9 l_10 l_11 l_12 l_13 l_14 l_15 n (IntKind.i64.wrap i) k = some (IntKind.i64.wrap (i + sm wLig (x0.drop k))) := by
  intro d
  simp only [R] at hl
  induction d with
  | zero =>
    intro k n i hk hn
    obtain ⟨n, rfl⟩ : ∃ x, n = x + 1 := ⟨n - 1, by omega⟩
    rw [ref12_Things_L3, at0 hz, Option.bind_some, if_neg (by omega), sm_end (by omega), Int.add_zero]
  | succ d ih =>
    intro k n i hk hn
    obtain ⟨n, rfl⟩ : ∃ x, n = x + 1 := ⟨n - 1, by omega⟩
    obtain ⟨x, hx⟩ := getl (l := x0) (show k < x0.length by omega)
    rw [ref12_Things_L3, at0 hz, Option.bind_some, if_pos (by omega), at0 hx, Option.bind_some, wr2, w64 (x := (k : Int) + 1) (by omega) (by omega), show (k : Int) + 1 = ((k + 1 : Nat) : Int) by omega, ih (k + 1) n _ (by omega) (by omega), sm_drop hx]
    simp only [wLig, Int.add_assoc]
theorem rL11 {z z2 : Int} {c : TCtx} (hl : (c.Ahead.length : Int) ≤ R) : ∀ (d k n : Nat) (i : Int), k + d = c.Ahead.length → d < n → ref12_Things_L11 N z z2 c a_0 l_1 b_2 a_3 l_4 l_5 l_6 l_7 l_8 l_9 l_10 l_11 l_12 l_13 l_14 l_15 n (IntKind.i64.wrap i) k = some (IntKind.i64.wrap (i + sm wSet (c.Ahead.drop k))) := by
  intro d
  simp only [R] at hl
  induction d with
  | zero =>
    intro k n i hk hn
    obtain ⟨n, rfl⟩ : ∃ x, n = x + 1 := ⟨n - 1, by omega⟩
    rw [ref12_Things_L11, if_neg (by omega), sm_end (by omega), Int.add_zero]
  | succ d ih =>
    intro k n i hk hn
    obtain ⟨n, rfl⟩ : ∃ x, n = x + 1 := ⟨n - 1, by omega⟩
    obtain ⟨x, hx⟩ := getl (l := c.Ahead) (show k < c.Ahead.length by omega)
    rw [ref12_Things_L11, if_pos (by omega), at0 hx, Option.bind_some, wr2, w64 (x := (k : Int) + 1) (by omega) (by omega), show (k : Int) + 1 = ((k + 1 : Nat) : Int) by omega, ih (k + 1) n _ (by omega) (by omega), sm_drop hx]
    simp only [wSet, Int.add_assoc]
theorem rL12 {z z2 : Int} {c : TCtx} (hl : (c.In.length : Int) ≤ R) : ∀ (d k n : Nat) (i : Int), k + d = c.In.length → d < n → ref12_Things_L12 N z z2 c a_0 l_1 b_2 a_3 l_4 l_5 l_6 l_7 l_8 l_9 l_10 l_11 l_12 l_13 l_14 l_15 n (IntKind.i64.wrap i) k = some (IntKind.i64.wrap (i + sm wSet (c.In.drop k))) := by
  intro d
  simp only [R] at hl
  induction d with
  | zero =>
    intro k n i hk hn
    obtain ⟨n, rfl⟩ : ∃ x, n = x + 1 := ⟨n - 1, by omega⟩
    rw [ref12_Things_L12, if_neg (by omega), sm_end (by omega), Int.add_zero]
  | succ d ih =>
    intro k n i hk hn
    obtain ⟨n, rfl⟩ : ∃ x, n = x + 1 := ⟨n - 1, by omega⟩
    obtain ⟨x, hx⟩ := getl (l := c.In) (show k < c.In.length by omega)
    rw [ref12_Things_L12, if_pos (by omega), at0 hx, Option.bind_some, wr2, w64 (x := (k : Int) + 1) (by omega) (by omega), show (k : Int) + 1 = ((k + 1 : Nat) : Int) by omega, ih (k + 1) n _ (by omega) (by omega), sm_drop hx]
    simp only [wSet, Int.add_assoc]
theorem rL13 {z z2 : Int} {c : TCtx} (hl : (c.Back.length : Int) ≤ R) : ∀ (d k n : Nat) (i : Int), k + d = c.Back.length → d < n → ref12_Things_L13 N z z2 c a_0 l_1 b_2 a_3 l_4 l_5 l_6 l_7 l_8 l_9 l_10 l_11 l_12 l_13 l_14 l_15 n (IntKind.i64.wrap i) k = some (IntKind.i64.wrap (i + sm wSet (c.Back.drop k))) := by
  intro d
  simp only [R] at hl
  induction d with
  | zero =>
    intro k n i hk hn
    obtain ⟨n, rfl⟩ : ∃ x, n = x + 1 := ⟨n - 1, by omega⟩
    rw [ref12_Things_L13, if_neg (by omega), sm_end (by omega), Int.add_zero]
  | succ d ih =>
    intro k n i hk hn
    obtain ⟨n, rfl⟩ : ∃ x, n = x + 1 := ⟨n - 1, by omega⟩
    obtain ⟨x, hx⟩ := getl (l := c.Back) (show k < c.Back.length by omega)
    rw [ref12_Things_L13, if_pos (by omega), at0 hx, Option.bind_some, wr2, w64 (x := (k : Int) + 1) (by omega) (by omega), show (k : Int) + 1 = ((k + 1 : Nat) : Int) by omega, ih (k + 1) n _ (by omega) (by omega), sm_drop hx]
    simp only [wSet, Int.add_assoc]
theorem rL4 (hN : R < N) (hl : (l_5.length : Int) ≤ R) (h1 : ∀ x ∈ l_5, (x.length : Int) ≤ R) : ∀ (d k n : Nat) (i : Int), k + d = l_5.length → d < n → ref12_Things_L4 N a_0 l_1 b_2 a_3 l_4 l_5 l_6 l_7 l_8 l_9 l_10 l_11 l_12 l_13 l_14 l_15 n (IntKind.i64.wrap i) k = some (IntKind.i64.wrap (i + sm wLigs (l_5.drop k))) := by
  intro d
  simp only [R] at hl hN
  induction d with
  | zero =>
    intro k n i hk hn
    obtain ⟨n, rfl⟩ : ∃ x, n = x + 1 := ⟨n - 1, by omega⟩
    rw [ref12_Things_L4, if_neg (by omega), sm_end (by omega), Int.add_zero]
  | succ d ih =>
    intro k n i hk hn
    obtain ⟨n, rfl⟩ : ∃ x, n = x + 1 := ⟨n - 1, by omega⟩
    obtain ⟨x, hx⟩ := getl (l := l_5) (show k < l_5.length by omega)
    have hb := h1 x (List.mem_of_getElem? hx)
    have e1 := rL3 (N := N) (a_0 := a_0) (l_1 := l_1) (b_2 := b_2) (a_3 := a_3) (l_4 := l_4) (l_5 := l_5) (l_6 := l_6) (l_7 := l_7) (l_8 := l_8) (l_9 := l_9) (l_10 := l_10) (l_11 := l_11) (l_12 := l_12) (l_13 := l_13) (l_14 := l_14) (l_15 := l_15) hx hb x.length 0 N (i + 1) (by omega) (by simp only [R] at hb; omega)
    rw [List.drop_zero] at e1
    rw [ref12_Things_L4, if_pos (by omega), wrL, show (0 : Int) = ((0 : Nat) : Int) by rfl, e1, Option.bind_some, w64 (x := (k : Int) + 1) (by omega) (by omega), show (k : Int) + 1 = ((k + 1 : Nat) : Int) by omega, ih (k + 1) n _ (by omega) (by omega), sm_drop hx]
    simp only [wLigs, Int.add_assoc]
theorem rL14 (hN : R < N) {z : Nat} {c : TCtx} (hz : l_6[z]? = some c) (h1 : (c.Back.length : Int) ≤ R ∧ (c.In.length : Int) ≤ R ∧ (c.Ahead.length : Int) ≤ R) {i : Int} :
    ref12_Things_L14 N z a_0 l_1 b_2 a_3 l_4 l_5 l_6 l_7 l_8 l_9 l_10 l_11 l_12 l_13 l_14 l_15 N (IntKind.i64.wrap i) 0 = some (IntKind.i64.wrap (i + (sm wSet c.Back + sm wSet c.In + sm wSet c.Ahead))) := by
  have hN0 := hN
  simp only [R] at hN
  obtain ⟨n, hn⟩ : ∃ x, N = x + 4 := ⟨N - 4, by omega⟩
  have e1 := rL13 (N := N) (z := (z : Int)) (z2 := 0) (a_0 := a_0) (l_1 := l_1) (b_2 := b_2) (a_3 := a_3) (l_4 := l_4) (l_5 := l_5) (l_6 := l_6) (l_7 := l_7) (l_8 := l_8) (l_9 := l_9) (l_10 := l_10) (l_11 := l_11) (l_12 := l_12) (l_13 := l_13) (l_14 := l_14) (l_15 := l_15) h1.1 c.Back.length 0 N i (by omega) (by have := h1.1; simp only [R] at this; omega)
  have e2 := rL12 (N := N) (z := (z : Int)) (z2 := 1) (a_0 := a_0) (l_1 := l_1) (b_2 := b_2) (a_3 := a_3) (l_4 := l_4) (l_5 := l_5) (l_6 := l_6) (l_7 := l_7) (l_8 := l_8) (l_9 := l_9) (l_10 := l_10) (l_11 := l_11) (l_12 := l_12) (l_13 := l_13) (l_14 := l_14) (l_15 := l_15) h1.2.1 c.In.length 0 N (i + sm wSet c.Back) (by omega) (by have := h1.2.1; simp only [R] at this; omega)
  have e3 := rL11 (N := N) (z := (z : Int)) (z2 := 2) (a_0 := a_0) (l_1 := l_1) (b_2 := b_2) (a_3 := a_3) (l_4 := l_4) (l_5 := l_5) (l_6 := l_6) (l_7 := l_7) (l_8 := l_8) (l_9 := l_9) (l_10 := l_10) (l_11 := l_11) (l_12 := l_12) (l_13 := l_13) (l_14 := l_14) (l_15 := l_15) h1.2.2 c.Ahead.length 0 N (i + sm wSet c.Back + sm wSet c.In) (by omega) (by have := h1.2.2; simp only [R] at this; omega)
  simp only [List.drop_zero] at e1 e2 e3
  have u1 : IntKind.i64.wrap (0 + 1) = 1 := by decide
  have u2 : IntKind.i64.wrap (1 + 1) = 2 := by decide
  have u3 : IntKind.i64.wrap (2 + 1) = 3 := by decide
  rw [show ref12_Things_L14 N z a_0 l_1 b_2 a_3 l_4 l_5 l_6 l_7 l_8 l_9 l_10 l_11 l_12 l_13 l_14 l_15 N (IntKind.i64.wrap i) 0 = ref12_Things_L14 N z a_0 l_1 b_2 a_3 l_4 l_5 l_6 l_7 l_8 l_9 l_10 l_11 l_12 l_13 l_14 l_15 (n + 1 + 1 + 1 + 1) (IntKind.i64.wrap i) 0 by rw [hn]]
  rw [ref12_Things_L14, if_pos (by decide), at0 hz, Option.bind_some, if_neg (by decide), if_neg (by decide), show ref12_Things_L13 N z 0 c a_0 l_1 b_2 a_3 l_4 l_5 l_6 l_7 l_8 l_9 l_10 l_11 l_12 l_13 l_14 l_15 N (IntKind.i64.wrap i) 0 = _ from e1, Option.bind_some, u1]
  rw [ref12_Things_L14, if_pos (by decide), at0 hz, Option.bind_some, if_pos rfl, if_neg (by decide), show ref12_Things_L12 N z 1 c a_0 l_1 b_2 a_3 l_4 l_5 l_6 l_7 l_8 l_9 l_10 l_11 l_12 l_13 l_14 l_15 N _ 0 = _ from e2, Option.bind_some, u2]
  rw [ref12_Things_L14, if_pos (by decide), at0 hz, Option.bind_some, if_neg (by decide), if_pos rfl, show ref12_Things_L11 N z 2 c a_0 l_1 b_2 a_3 l_4 l_5 l_6 l_7 l_8 l_9 l_10 l_11 l_12 l_13 l_14 l_15 N _ 0 = _ from e3, Option.bind_some, u3]
  rw [ref12_Things_L14, if_neg (by decide)]
  simp only [Int.add_assoc]
theorem rL15 (hN : R < N) (hl : (l_6.length : Int) ≤ R) (h1 : ∀ c ∈ l_6, (c.Back.length : Int) ≤ R ∧ (c.In.length : Int) ≤ R ∧ (c.Ahead.length : Int) ≤ R) : ∀ (d k n : Nat) (i : Int), k + d = l_6.length → d < n → ref12_Things_L15 N a_0 l_1 b_2 a_3 l_4 l_5 l_6 l_7 l_8 l_9 l_10 l_11 l_12 l_13 l_14 l_15 n (IntKind.i64.wrap i) k = some (IntKind.i64.wrap (i + sm wCtx (l_6.drop k))) := by
  intro d
  have hN0 := hN
  simp only [R] at hl hN
  induction d with
  | zero =>
    intro k n i hk hn
    obtain ⟨n, rfl⟩ : ∃ x, n = x + 1 := ⟨n - 1, by omega⟩
    rw [ref12_Things_L15, if_neg (by omega), sm_end (by omega), Int.add_zero]
  | succ d ih =>
    intro k n i hk hn
    obtain ⟨n, rfl⟩ : ∃ x, n = x + 1 := ⟨n - 1, by omega⟩
    obtain ⟨c, hx⟩ := getl (l := l_6) (show k < l_6.length by omega)
    have e1 := rL14 (N := N) (a_0 := a_0) (l_1 := l_1) (b_2 := b_2) (a_3 := a_3) (l_4 := l_4) (l_5 := l_5) (l_6 := l_6) (l_7 := l_7) (l_8 := l_8) (l_9 := l_9) (l_10 := l_10) (l_11 := l_11) (l_12 := l_12) (l_13 := l_13) (l_14 := l_14) (l_15 := l_15) hN0 hx (h1 c (List.mem_of_getElem? hx)) (i := i + (c.Acts.length : Int))
    rw [ref12_Things_L15, if_pos (by omega), at0 hx, Option.bind_some, wrL, e1, Option.bind_some, w64 (x := (k : Int) + 1) (by omega) (by omega), show (k : Int) + 1 = ((k + 1 : Nat) : Int) by omega, ih (k + 1) n _ (by omega) (by omega), sm_drop hx]
    simp only [wCtx]
    congr 2
    omega
theorem Small.sums (hS : Small l_4 l_5 l_6) : 0 ≤ sm wTo l_4 + sm wLigs l_5 + sm wCtx l_6 ∧ sm wTo l_4 + sm wLigs l_5 + sm wCtx l_6 ≤ 5000000000000000000 := by
  have n1 : 0 ≤ sm wTo l_4 := sm_nn fun y _ => by simp only [wTo]; omega
  have n2 : 0 ≤ sm wLigs l_5 := sm_nn fun y _ => wLigs_nn y
  have n3 : 0 ≤ sm wCtx l_6 := sm_nn fun y _ => wCtx_nn y
  have b1 : sm wTo l_4 ≤ (l_4.length : Int) * 17592186044416 := sm_le fun x hx => by have := hS.t1 x hx; simp only [R] at this; simp only [wTo]; omega
  have b2 : sm wLigs l_5 ≤ (l_5.length : Int) * 8796093022208001 := sm_le fun x hx => by
    have h1 : sm wLig x ≤ (x.length : Int) * 17592186044416 := sm_le fun y hy => by have := hS.g2 x hx y hy; simp only [R] at this; simp only [wLig]; omega
    have h2 := hS.g1 x hx
    simp only [wLigs]
    omega
  have b3 : sm wCtx l_6 ≤ (l_6.length : Int) * 3000000000000000 := sm_le fun c hc => by
    have h1 := hS.c1 c hc
    have h2 := hS.c2 c hc
    have k1 : sm wSet c.Back ≤ (c.Back.length : Int) * 8796093022209 := sm_le fun y hy => by have := h2.1 y hy; simp only [R] at this; simp only [wSet]; omega
    have k2 : sm wSet c.In ≤ (c.In.length : Int) * 8796093022209 := sm_le fun y hy => by have := h2.2.1 y hy; simp only [R] at this; simp only [wSet]; omega
    have k3 : sm wSet c.Ahead ≤ (c.Ahead.length : Int) * 8796093022209 := sm_le fun y hy => by have := h2.2.2 y hy; simp only [R] at this; simp only [wSet]; omega
    have k4 := h1.2.2.2
    simp only [R] at k4
    simp only [wCtx]
    omega
  have c1 := hS.t
  have c2 := hS.g
  have c3 := hS.c
  omega
theorem ref12_eq (hN : R < N) (hS : Small l_4 l_5 l_6) : ref12_Things N a_0 l_1 b_2 a_3 l_4 l_5 l_6 l_7 l_8 l_9 l_10 l_11 l_12 l_13 l_14 l_15 = some (min (1 + sm wTo l_4 + sm wLigs l_5 + sm wCtx l_6) 20001) := by
  have hs := hS.sums
  have c1 := hS.t
  have c2 := hS.g
  have c3 := hS.c
  have hN0 := hN
  simp only [R] at hN
  have e1 := rL1 (N := N) (a_0 := a_0) (l_1 := l_1) (b_2 := b_2) (a_3 := a_3) (l_4 := l_4) (l_5 := l_5) (l_6 := l_6) (l_7 := l_7) (l_8 := l_8) (l_9 := l_9) (l_10 := l_10) (l_11 := l_11) (l_12 := l_12) (l_13 := l_13) (l_14 := l_14) (l_15 := l_15) (by simp only [R]; omega) l_4.length 0 N 1 (by omega) (by omega)
  have e2 := rL4 (N := N) (a_0 := a_0) (l_1 := l_1) (b_2 := b_2) (a_3 := a_3) (l_4 := l_4) (l_5 := l_5) (l_6 := l_6) (l_7 := l_7) (l_8 := l_8) (l_9 := l_9) (l_10 := l_10) (l_11 := l_11) (l_12 := l_12) (l_13 := l_13) (l_14 := l_14) (l_15 := l_15) hN0 (by simp only [R]; omega) (fun x hx => by have := hS.g1 x hx; simp only [R]; omega) l_5.length 0 N (1 + sm wTo l_4) (by omega) (by omega)
  have e3 := rL15 (N := N) (a_0 := a_0) (l_1 := l_1) (b_2 := b_2) (a_3 := a_3) (l_4 := l_4) (l_5 := l_5) (l_6 := l_6) (l_7 := l_7) (l_8 := l_8) (l_9 := l_9) (l_10 := l_10) (l_11 := l_11) (l_12 := l_12) (l_13 := l_13) (l_14 := l_14) (l_15 := l_15) hN0 (by simp only [R]; omega) (fun x hx => by have := hS.c1 x hx; simp only [R]; omega) l_6.length 0 N (1 + sm wTo l_4 + sm wLigs l_5) (by omega) (by omega)
  simp only [List.drop_zero] at e1 e2 e3
  unfold ref12_Things
  rw [show ref12_Things_L1 N a_0 l_1 b_2 a_3 l_4 l_5 l_6 l_7 l_8 l_9 l_10 l_11 l_12 l_13 l_14 l_15 N 1 0 = _ from (show ref12_Things_L1 N a_0 l_1 b_2 a_3 l_4 l_5 l_6 l_7 l_8 l_9 l_10 l_11 l_12 l_13 l_14 l_15 N 1 0 = ref12_Things_L1 N a_0 l_1 b_2 a_3 l_4 l_5 l_6 l_7 l_8 l_9 l_10 l_11 l_12 l_13 l_14 l_15 N (IntKind.i64.wrap 1) ((0 : Nat) : Int) by rfl).trans e1, Option.bind_some, show ref12_Things_L4 N a_0 l_1 b_2 a_3 l_4 l_5 l_6 l_7 l_8 l_9 l_10 l_11 l_12 l_13 l_14 l_15 N _ 0 = _ from e2, Option.bind_some, show ref12_Things_L15 N a_0 l_1 b_2 a_3 l_4 l_5 l_6 l_7 l_8 l_9 l_10 l_11 l_12 l_13 l_14 l_15 N _ 0 = _ from e3, Option.bind_some, w64 (by omega) (by omega)]
  by_cases h : 20001 < 1 + sm wTo l_4 + sm wLigs l_5 + sm wCtx l_6
  · rw [if_pos h]; congr 1; omega
  · rw [if_neg h]; congr 1; omega
end
end Go.Proofs.Ytfacmhngbaboiaa.AI
