/- Part of a proof. -/
import Derived.Test.YtnbnajjoinahiaaminiP
set_option linter.unusedVariables false
set_option linter.unusedSimpArgs false
set_option maxRecDepth 100000
namespace Go.Proofs.Ytnbnajjoinahiaa.AI
theorem w64 {x : Int} (h : -4611686018427387904 ≤ x) (h' : x ≤ 4611686018427387904) : IntKind.i64.wrap x = x := IntWalk.i64_in _ ⟨by omega, by omega⟩
theorem atI_at {α : Type} {l : List α} {k : Nat} {x : α} (h : l[k]? = some x) : atI l (k : Int) = some x := by rw [atI_nat, h]
theorem atI_get {α : Type} {l : List α} {k : Nat} (h : k < l.length) : atI l (k : Int) = some l[k] := atI_at (List.getElem?_eq_getElem h)
theorem wk {k : Nat} (h : k ≤ 1000000) : IntKind.i64.wrap ((k : Int) + 1) = ((k + 1 : Nat) : Int) := by rw [w64 (by omega) (by omega)]; omega
def okN (n x : Int) : Prop := -1 ≤ x ∧ x < n
instance (n x : Int) : Decidable (okN n x) := by unfold okN; infer_instance
theorem vlen {n : Nat} (v : Vector Int n) : v.toList.length = n := by simp
theorem right_L2 {N : Nat} {l0 : List (Vector Int 16)} {i : Int} {r : Vector Int 16} {l1 : List Int} : ∀ (d k n : Nat), k + d = 16 → d < n →
  dfa_Right_L2 N l0 i r l1 n k = some (if ∀ x ∈ r.toList.drop k, okN (l0.length : Int) x then .inl () else .inr ()) := by
 intro d
 induction d with
 | zero =>
  intro k n hk hn
  obtain ⟨n, rfl⟩ : ∃ x, n = x + 1 := ⟨n - 1, by omega⟩
  rw [dfa_Right_L2, if_neg (by omega), List.drop_eq_nil_of_le (by rw [vlen]; omega), if_pos (by simp)]
 | succ d ih =>
  intro k n hk hn
  obtain ⟨n, rfl⟩ : ∃ x, n = x + 1 := ⟨n - 1, by omega⟩
  have hkl : k < r.toList.length := by rw [vlen]; omega
  rw [dfa_Right_L2, if_pos (by omega), atI_get hkl, Option.bind_some, wk (by omega), ih (k + 1) n (by omega) (by omega), List.drop_eq_getElem_cons hkl]
  simp only [List.mem_cons, forall_eq_or_imp]
  by_cases h1 : r.toList[k] < -1
  ·
   rw [if_pos h1, if_neg (fun h => by have := h.1.1; omega)]
  rw [if_neg h1]
  by_cases h2 : (l0.length : Int) ≤ r.toList[k]
  ·
   rw [if_pos h2, if_neg (fun h => by have := h.1.2; omega)]
  rw [if_neg h2]
  have h3 : okN (l0.length : Int) r.toList[k] := ⟨by omega, by omega⟩
  by_cases h4 : ∀ x ∈ r.toList.drop (k + 1), okN (l0.length : Int) x
  ·
   rw [if_pos h4, if_pos ⟨h3, h4⟩]
  ·
   rw [if_neg h4, if_neg (fun h => h4 h.2)]
def okRow (n : Int) (r : Vector Int 16) : Prop := ∀ x ∈ r.toList, okN n x
theorem right_L3 {N : Nat} (hN : 1000000000000 < N) {l0 : List (Vector Int 16)} {l1 : List Int} (hl : l1.length = l0.length) (hm : l0.length ≤ 200) : ∀ (d k n : Nat), k + d = l0.length → d < n →
  ∃ o, dfa_Right_L3 N l0 l1 n k = some o ∧ (o = .inl () ↔ (∀ x ∈ l1.drop k, okN 16 x) ∧ ∀ r ∈ l0.drop k, okRow (l0.length : Int) r) := by
 intro d
 induction d with
 | zero =>
  intro k n hk hn
  obtain ⟨n, rfl⟩ : ∃ x, n = x + 1 := ⟨n - 1, by omega⟩
  rw [dfa_Right_L3, if_neg (by omega), List.drop_eq_nil_of_le (by omega), List.drop_eq_nil_of_le (by omega)]
  exact ⟨_, rfl, by simp⟩
 | succ d ih =>
  intro k n hk hn
  obtain ⟨n, rfl⟩ : ∃ x, n = x + 1 := ⟨n - 1, by omega⟩
  have hkl : k < l0.length := by omega
  have hk1 : k < l1.length := by omega
  have h2 := right_L2 (N := N) (l0 := l0) (i := (k : Int)) (r := l0[k]) (l1 := l1) 16 0 N (by omega) (by omega)
  rw [List.drop_zero] at h2
  rw [dfa_Right_L3, if_pos (by omega), atI_get hkl, Option.bind_some, atI_get hk1, Option.bind_some, wk (by omega), List.drop_eq_getElem_cons hkl, List.drop_eq_getElem_cons hk1]
  simp only [List.mem_cons, forall_eq_or_imp]
  by_cases g1 : l1[k] < -1
  ·
   rw [if_pos g1]; exact ⟨_, rfl, by simp; intro h; have := h.1; omega⟩
  rw [if_neg g1]
  by_cases g2 : 16 ≤ l1[k]
  ·
   rw [if_pos g2]; exact ⟨_, rfl, by simp; intro h; have := h.2; omega⟩
  rw [if_neg g2, show dfa_Right_L2 N l0 k l0[k] l1 N 0 = _ from h2, Option.bind_some]
  have h3 : okN 16 l1[k] := ⟨by omega, by omega⟩
  by_cases g4 : ∀ x ∈ l0[k].toList, okN (l0.length : Int) x
  ·
   rw [if_pos g4]
   obtain ⟨o, e, he⟩ := ih (k + 1) n (by omega) (by omega)
   exact ⟨o, e, by rw [he]; exact ⟨fun h => ⟨⟨h3, h.1⟩, g4, h.2⟩, fun h => ⟨h.1.2, h.2.2⟩⟩⟩
  ·
   rw [if_neg g4]
   exact ⟨_, rfl, by simp; intro _ _ h; exact absurd h g4⟩
def RightP (l0 : List (Vector Int 16)) (l1 : List Int) : Prop := l0 ≠ [] ∧ l0.length ≤ 200 ∧ l1.length = l0.length ∧ (∀ x ∈ l1, okN 16 x) ∧ ∀ r ∈ l0, okRow (l0.length : Int) r
theorem right_eq {N : Nat} (hN : 1000000000000 < N) (l0 : List (Vector Int 16)) (l1 : List Int) : ∃ b, dfa_Right N l0 l1 = some b ∧ (b = true ↔ RightP l0 l1) := by
 unfold dfa_Right
 by_cases g1 : (l0.length : Int) = 0
 ·
  rw [if_pos g1]; exact ⟨_, rfl, by simp; intro h; exact absurd (List.eq_nil_of_length_eq_zero (by omega)) h.1⟩
 rw [if_neg g1]
 by_cases g2 : 200 < (l0.length : Int)
 ·
  rw [if_pos g2]; exact ⟨_, rfl, by simp; intro h; have := h.2.1; omega⟩
 rw [if_neg g2]
 by_cases g3 : (l1.length : Int) = (l0.length : Int)
 ·
  rw [if_pos g3]
  obtain ⟨o, e, he⟩ := right_L3 hN (l0 := l0) (l1 := l1) (by omega) (by omega) l0.length 0 N (by omega) (by omega)
  rw [List.drop_zero, List.drop_zero] at he
  rw [show dfa_Right_L3 N l0 l1 N 0 = _ from e, Option.bind_some]
  cases o with
  | inl u => exact ⟨_, rfl, by simp; exact ⟨fun h => by subst h; simp at g1, by omega, by omega, he.1 rfl⟩⟩
  | inr u => exact ⟨_, rfl, by simp; intro h; have := he.2 ⟨h.2.2.2.1, h.2.2.2.2⟩; cases this⟩
 ·
  rw [if_neg g3]; exact ⟨_, rfl, by simp; intro h; have := h.2.2.1; omega⟩
theorem dead_L1 {N : Nat} {l0 : List (Vector Int 16)} {l1 : List Int} (hl : l1.length ≤ 1000) : ∀ (d k n : Nat) (A R : List Bool), k + d = l1.length → d < n → A.length = k → R.length = d →
  mini_Dead_L1 N l1 l0 n k (A ++ R) = some (A ++ (l1.drop k).map fun x => decide (x < 0)) := by
 intro d
 induction d with
 | zero =>
  intro k n A R hk hn hA hR
  obtain ⟨n, rfl⟩ : ∃ x, n = x + 1 := ⟨n - 1, by omega⟩
  rw [mini_Dead_L1, if_neg (by omega), List.drop_eq_nil_of_le (by omega), List.eq_nil_of_length_eq_zero hR]; rfl
 | succ d ih =>
  intro k n A R hk hn hA hR
  obtain ⟨n, rfl⟩ : ∃ x, n = x + 1 := ⟨n - 1, by omega⟩
  have hkl : k < l1.length := by omega
  obtain ⟨r, R, rfl⟩ : ∃ r R', R = r :: R' := by cases R with | nil => simp at hR | cons r R => exact ⟨r, R, rfl⟩
  have e1 : (A ++ r :: R).set k (decide (l1[k] < 0)) = (A ++ [decide (l1[k] < 0)]) ++ R := by subst hA; simp
  rw [mini_Dead_L1, if_pos (by omega), atI_get hkl, Option.bind_some, atI_at (x := r) (by subst hA; simp), Option.bind_some, wk (by omega), Int.toNat_natCast, e1, ih (k + 1) n _ R (by omega) (by omega) (by simp [hA]) (by simpa using hR), List.drop_eq_getElem_cons hkl]
  simp only [List.map_cons, List.append_assoc, List.cons_append, List.nil_append]
def dQ (y : List Bool) (x : Int) : Bool := (y[x.toNat]?).getD true
theorem dead_L3 {N : Nat} {i : Nat} {y : List Bool} {r : Vector Int 16} {l0 : List (Vector Int 16)} {l1 : List Int} (hi : i < y.length) (hr : okRow (y.length : Int) r) : ∀ (d k n : Nat), k + d = 16 → d < n →
  mini_Dead_L3 N i y r l0 l1 n k = some (if ∀ x ∈ r.toList.drop k, 0 ≤ x → dQ y x = true then .inr () else .inl ()) := by
 intro d
 induction d with
 | zero =>
  intro k n hk hn
  obtain ⟨n, rfl⟩ : ∃ x, n = x + 1 := ⟨n - 1, by omega⟩
  rw [mini_Dead_L3, if_neg (by omega), List.drop_eq_nil_of_le (by rw [vlen]; omega), if_pos (by simp)]
 | succ d ih =>
  intro k n hk hn
  obtain ⟨n, rfl⟩ : ∃ x, n = x + 1 := ⟨n - 1, by omega⟩
  have hkl : k < r.toList.length := by rw [vlen]; omega
  have hx := hr r.toList[k] (List.getElem_mem hkl)
  rw [mini_Dead_L3, if_pos (by omega), atI_get hkl, Option.bind_some, wk (by omega), ih (k + 1) n (by omega) (by omega), List.drop_eq_getElem_cons hkl]
  simp only [List.mem_cons, forall_eq_or_imp]
  by_cases g : 0 ≤ r.toList[k]
  ·
   have hq : r.toList[k].toNat < y.length := by have := hx.2; omega
   have ha : atI y r.toList[k] = some (dQ y r.toList[k]) := by
    have e : r.toList[k] = ((r.toList[k].toNat : Nat) : Int) := by omega
    rw [e, atI_get hq]; unfold dQ; rw [Int.toNat_natCast, List.getElem?_eq_getElem hq]; rfl
   rw [if_pos g, ha, Option.bind_some]
   by_cases h : dQ y r.toList[k] = true
   ·
    rw [if_pos h]
    by_cases h4 : ∀ x ∈ r.toList.drop (k + 1), 0 ≤ x → dQ y x = true
    ·
     rw [if_pos h4, if_pos ⟨fun _ => h, h4⟩]
    ·
     rw [if_neg h4, if_neg (fun q => h4 q.2)]
   ·
    rw [if_neg h, atI_get hi, Option.bind_some, if_neg (fun q => h (q.1 g))]
  ·
   rw [if_neg g]
   by_cases h4 : ∀ x ∈ r.toList.drop (k + 1), 0 ≤ x → dQ y x = true
   ·
    rw [if_pos h4, if_pos ⟨fun q => absurd q g, h4⟩]
   ·
    rw [if_neg h4, if_neg (fun q => h4 q.2)]
def allD (y : List Bool) (r : Vector Int 16) : Prop := ∀ x ∈ r.toList, 0 ≤ x → dQ y x = true
theorem dead_L4 {N : Nat} (hN : 1000000000000 < N) {y : List Bool} {l0 : List (Vector Int 16)} {l1 : List Int} (hl : y.length = l0.length) (hm : l0.length ≤ 200) (hr : ∀ r ∈ l0, okRow (l0.length : Int) r) : ∀ (d k n : Nat), k + d = y.length → d < n →
  ∃ o, mini_Dead_L4 N y l0 l1 n k = some o ∧ (match o with
   | .inl y' => ∃ (i : Nat) (r : Vector Int 16), y[i]? = some true ∧ l0[i]? = some r ∧ ¬ allD y r ∧ y' = y.set i false
   | .inr _ => ∀ (i : Nat) (r : Vector Int 16), k ≤ i → y[i]? = some true → l0[i]? = some r → allD y r) := by
 intro d
 induction d with
 | zero =>
  intro k n hk hn
  obtain ⟨n, rfl⟩ : ∃ x, n = x + 1 := ⟨n - 1, by omega⟩
  rw [mini_Dead_L4, if_neg (by omega)]
  exact ⟨_, rfl, fun i r h1 h2 _ => by rw [List.getElem?_eq_none (by omega)] at h2; cases h2⟩
 | succ d ih =>
  intro k n hk hn
  obtain ⟨n, rfl⟩ : ∃ x, n = x + 1 := ⟨n - 1, by omega⟩
  have hkl : k < y.length := by omega
  have hk0 : k < l0.length := by omega
  obtain ⟨o, e, ho⟩ := ih (k + 1) n (by omega) (by omega)
  rw [mini_Dead_L4, if_pos (by omega), atI_get hkl, Option.bind_some, wk (by omega), e]
  have step : (∀ r, y[k]? = some true → l0[k]? = some r → allD y r) → ∃ o', some o = some o' ∧ (match o' with
   | .inl y' => ∃ (i : Nat) (r : Vector Int 16), y[i]? = some true ∧ l0[i]? = some r ∧ ¬ allD y r ∧ y' = y.set i false
   | .inr _ => ∀ (i : Nat) (r : Vector Int 16), k ≤ i → y[i]? = some true → l0[i]? = some r → allD y r) := by
   intro hs
   refine ⟨o, rfl, ?_⟩
   cases o with
   | inl y' => exact ho
   | inr u =>
    intro i r h1 h2 h3
    rcases Nat.lt_or_ge k i with h | h
    ·
     exact ho i r h h2 h3
    ·
     have : i = k := by omega
     subst this; exact hs r h2 h3
  by_cases g : y[k] = true
  ·
   have h3 := dead_L3 (N := N) (i := k) (y := y) (r := l0[k]) (l0 := l0) (l1 := l1) hkl (by rw [hl]; exact hr _ (List.getElem_mem hk0)) 16 0 N (by omega) (by omega)
   rw [List.drop_zero] at h3
   rw [if_pos g, atI_get hk0, Option.bind_some, show mini_Dead_L3 N k y l0[k] l0 l1 N 0 = _ from h3, Option.bind_some]
   by_cases h4 : ∀ x ∈ l0[k].toList, 0 ≤ x → dQ y x = true
   ·
    rw [if_pos h4]
    exact step fun r _ hr' => by rw [List.getElem?_eq_getElem hk0] at hr'; cases hr'; exact h4
   ·
    rw [if_neg h4]
    exact ⟨_, rfl, k, l0[k], by rw [List.getElem?_eq_getElem hkl, g], List.getElem?_eq_getElem hk0, h4, by rw [Int.toNat_natCast]⟩
  ·
   rw [if_neg g]
   exact step fun r h _ => by rw [List.getElem?_eq_getElem hkl] at h; exact absurd (Option.some.inj h) g
def cnt : List Bool → Nat
 | [] => 0
 | b :: l => (if b = true then 1 else 0) + cnt l
theorem cnt_le : ∀ l : List Bool, cnt l ≤ l.length
 | [] => Nat.le_refl _
 | b :: l => by have := cnt_le l; simp only [cnt, List.length_cons]; split <;> omega
theorem cnt_set : ∀ {l : List Bool} {i : Nat}, l[i]? = some true → cnt (l.set i false) + 1 = cnt l
 | [], i, h => by simp at h
 | b :: l, 0, h => by simp at h; subst h; simp [cnt]; omega
 | b :: l, i + 1, h => by have := cnt_set (l := l) (i := i) (by simpa using h); simp only [List.set_cons_succ, cnt]; omega
def Closed (y : List Bool) (l0 : List (Vector Int 16)) : Prop := ∀ (i : Nat) (r : Vector Int 16), y[i]? = some true → l0[i]? = some r → allD y r
theorem dead_L5 {N : Nat} (hN : 1000000000000 < N) {l0 : List (Vector Int 16)} {l1 : List Int} (hm : l0.length ≤ 200) (hr : ∀ r ∈ l0, okRow (l0.length : Int) r) (I : List Bool → Prop)
  (hI : ∀ (y : List Bool) (i : Nat) (r : Vector Int 16), I y → y[i]? = some true → l0[i]? = some r → ¬ allD y r → I (y.set i false)) : ∀ (d n : Nat) (y : List Bool), cnt y ≤ d → d < n → y.length = l0.length → I y →
  ∃ o, mini_Dead_L5 N l0 l1 n y = some o ∧ o.length = l0.length ∧ Closed o l0 ∧ I o := by
 intro d
 induction d with
 | zero =>
  intro n y hc hn hy hi
  obtain ⟨n, rfl⟩ : ∃ x, n = x + 1 := ⟨n - 1, by omega⟩
  obtain ⟨o, e, ho⟩ := dead_L4 hN (y := y) (l0 := l0) (l1 := l1) hy hm hr y.length 0 N (by omega) (by omega)
  rw [mini_Dead_L5, show mini_Dead_L4 N y l0 l1 N 0 = _ from e, Option.bind_some]
  cases o with
  | inl y' =>
   obtain ⟨i, r, h1, _⟩ := ho
   have := cnt_set h1; omega
  | inr u => exact ⟨y, rfl, hy, fun i r h1 h2 => ho i r (Nat.zero_le _) h1 h2, hi⟩
 | succ d ih =>
  intro n y hc hn hy hi
  obtain ⟨n, rfl⟩ : ∃ x, n = x + 1 := ⟨n - 1, by omega⟩
  obtain ⟨o, e, ho⟩ := dead_L4 hN (y := y) (l0 := l0) (l1 := l1) hy hm hr y.length 0 N (by omega) (by omega)
  rw [mini_Dead_L5, show mini_Dead_L4 N y l0 l1 N 0 = _ from e, Option.bind_some]
  cases o with
  | inl y' =>
   obtain ⟨i, r, h1, h2, h3, rfl⟩ := ho
   have := cnt_set h1
   exact ih n _ (by omega) (by omega) (by simpa using hy) (hI y i r hi h1 h2 h3)
  | inr u => exact ⟨y, rfl, hy, fun i r h1 h2 => ho i r (Nat.zero_le _) h1 h2, hi⟩
def dead0 (l1 : List Int) : List Bool := l1.map fun x => decide (x < 0)
theorem dead_eq {N : Nat} (hN : 1000000000000 < N) {l0 : List (Vector Int 16)} {l1 : List Int} (h : RightP l0 l1) (I : List Bool → Prop) (h0 : I (dead0 l1))
  (hI : ∀ (y : List Bool) (i : Nat) (r : Vector Int 16), I y → y[i]? = some true → l0[i]? = some r → ¬ allD y r → I (y.set i false)) : ∃ o, mini_Dead N l0 l1 = some o ∧ o.length = l0.length ∧ Closed o l0 ∧ I o := by
 obtain ⟨b, e, hb⟩ := right_eq hN l0 l1
 rw [hb.2 h] at e
 obtain ⟨_, hm, hl, _, hr⟩ := h
 unfold mini_Dead
 rw [e, Option.bind_some, if_pos rfl, if_pos (by omega), if_pos (by omega)]
 have h1 := dead_L1 (N := N) (l0 := l0) (l1 := l1) (by omega) l1.length 0 N [] (List.replicate l1.length false) (by omega) (by omega) rfl (by simp)
 rw [List.nil_append, List.nil_append, List.drop_zero] at h1
 obtain ⟨o, e5, h5⟩ := dead_L5 hN (l1 := l1) hm hr I hI 200 N (dead0 l1) (by have := cnt_le (dead0 l1); simp [dead0] at this ⊢; omega) (by omega) (by simp [dead0, hl]) h0
 rw [show mini_Dead_L1 N l1 l0 N 0 _ = _ from h1, Option.bind_some, show mini_Dead_L5 N l0 l1 N (List.map _ l1) = _ from e5, Option.bind_some]
 exact ⟨o, rfl, h5⟩
def alF (y : List Bool) (i : Nat) (x : Int) : Int := if (dQ y i || (decide (0 ≤ x) && dQ y x)) = true then -1 else x
def alR (y : List Bool) (i : Nat) (r : Vector Int 16) : Vector Int 16 := r.map (alF y i)
def alRs (y : List Bool) : Nat → List (Vector Int 16) → List (Vector Int 16)
 | _, [] => []
 | k, r :: l => alR y k r :: alRs y (k + 1) l
theorem alRs_len (y : List Bool) : ∀ (l : List (Vector Int 16)) (k : Nat), (alRs y k l).length = l.length
 | [], _ => rfl
 | r :: l, k => by simp only [alRs, List.length_cons, alRs_len y l]
theorem alRs_get (y : List Bool) : ∀ {l : List (Vector Int 16)} {k i : Nat}, (alRs y k l)[i]? = (l[i]?).map (alR y (k + i))
 | [], k, i => by simp [alRs]
 | r :: l, k, 0 => by simp [alRs]
 | r :: l, k, i + 1 => by simp only [alRs, List.getElem?_cons_succ]; rw [alRs_get y (l := l), show k + 1 + i = k + (i + 1) by omega]
theorem alive_L3 {N : Nat} {y : List Bool} {i : Nat} {l0 s : List (Vector Int 16)} {r : Vector Int 16} {l1 : List Int} (hi : i < y.length) (hr : okRow (y.length : Int) r) : ∀ (d k n : Nat) (v : Vector Int 16), k + d = 16 → d < n →
  v.toList = (r.toList.take k).map (alF y i) ++ r.toList.drop k → mini_alive_L3 N y i l0 r l1 s n k v = some (alR y i r) := by
 intro d
 induction d with
 | zero =>
  intro k n v hk hn hv
  obtain ⟨n, rfl⟩ : ∃ x, n = x + 1 := ⟨n - 1, by omega⟩
  rw [mini_alive_L3, if_neg (by omega)]
  congr 1
  rw [← Vector.toList_inj, hv, List.take_of_length_le (by rw [vlen]; omega), List.drop_eq_nil_of_le (by rw [vlen]; omega), List.append_nil]
  unfold alR
  rw [Vector.toList_map]
 | succ d ih =>
  intro k n v hk hn hv
  obtain ⟨n, rfl⟩ : ∃ x, n = x + 1 := ⟨n - 1, by omega⟩
  have hkl : k < r.toList.length := by rw [vlen]; omega
  have hx := hr r.toList[k] (List.getElem_mem hkl)
  have hvk : k < v.toList.length := by rw [vlen]; omega
  have hA : ((r.toList.take k).map (alF y i)).length = k := by rw [List.length_map, List.length_take, vlen]; omega
  have hi' : atI y (i : Int) = some (dQ y i) := by rw [atI_get hi]; unfold dQ; rw [Int.toNat_natCast, List.getElem?_eq_getElem hi]; rfl
  have same : alF y i r.toList[k] = r.toList[k] → v.toList = (r.toList.take (k + 1)).map (alF y i) ++ r.toList.drop (k + 1) := fun e => by
   rw [hv, List.take_succ_eq_append_getElem hkl, List.map_append, List.append_assoc, List.drop_eq_getElem_cons hkl]
   simp only [List.map_cons, List.map_nil, e, List.cons_append, List.nil_append]
  have put : alF y i r.toList[k] = -1 → (v.setIfInBounds k (-1)).toList = (r.toList.take (k + 1)).map (alF y i) ++ r.toList.drop (k + 1) := fun e => by
   rw [Vector.toList_setIfInBounds, hv, List.take_succ_eq_append_getElem hkl, List.map_append, List.append_assoc, List.drop_eq_getElem_cons hkl, List.set_append_right _ _ (by omega), hA, Nat.sub_self]
   simp only [List.set_cons_zero, List.map_cons, List.map_nil, e, List.cons_append, List.nil_append]
  rw [mini_alive_L3, if_pos (by omega), atI_get hkl, Option.bind_some, hi', Option.bind_some, wk (by omega), Int.toNat_natCast]
  by_cases g : dQ y i = true
  ·
   rw [if_pos g, atI_get hvk, Option.bind_some]
   exact ih (k + 1) n _ (by omega) (by omega) (put (by unfold alF; rw [g]; rfl))
  rw [if_neg g]
  have gf : dQ y i = false := by cases h : dQ y i with | true => exact absurd h g | false => rfl
  by_cases g2 : 0 ≤ r.toList[k]
  ·
   have hq : r.toList[k].toNat < y.length := by have := hx.2; omega
   have ha : atI y r.toList[k] = some (dQ y r.toList[k]) := by
    have e : r.toList[k] = ((r.toList[k].toNat : Nat) : Int) := by omega
    rw [e, atI_get hq]; unfold dQ; rw [Int.toNat_natCast, List.getElem?_eq_getElem hq]; rfl
   rw [if_pos g2, ha, Option.bind_some]
   by_cases g3 : dQ y r.toList[k] = true
   ·
    rw [if_pos g3, atI_get hvk, Option.bind_some]
    exact ih (k + 1) n _ (by omega) (by omega) (put (by unfold alF; rw [g3, decide_eq_true g2]; simp))
   ·
    rw [if_neg g3]
    have g3f : dQ y r.toList[k] = false := by cases h : dQ y r.toList[k] with | true => exact absurd h g3 | false => rfl
    exact ih (k + 1) n _ (by omega) (by omega) (same (by unfold alF; rw [gf, g3f]; simp))
  ·
   rw [if_neg g2]
   exact ih (k + 1) n _ (by omega) (by omega) (same (by unfold alF; rw [gf, decide_eq_false g2]; simp))
theorem alive_L4 {N : Nat} (hN : 1000000000000 < N) {y : List Bool} {l0 : List (Vector Int 16)} {l1 : List Int} (hl : y.length = l0.length) (hm : l0.length ≤ 200) (hr : ∀ r ∈ l0, okRow (l0.length : Int) r) : ∀ (d k n : Nat) (s : List (Vector Int 16)), k + d = l0.length → d < n → s.length ≤ k →
  mini_alive_L4 N y l0 l1 n k s = some (s ++ alRs y k (l0.drop k)) := by
 intro d
 induction d with
 | zero =>
  intro k n s hk hn hs
  obtain ⟨n, rfl⟩ : ∃ x, n = x + 1 := ⟨n - 1, by omega⟩
  rw [mini_alive_L4, if_neg (by omega), List.drop_eq_nil_of_le (by omega)]; simp [alRs]
 | succ d ih =>
  intro k n s hk hn hs
  obtain ⟨n, rfl⟩ : ∃ x, n = x + 1 := ⟨n - 1, by omega⟩
  have hk0 : k < l0.length := by omega
  have h3 := alive_L3 (N := N) (y := y) (i := k) (l0 := l0) (s := s) (r := l0[k]) (l1 := l1) (by omega) (by rw [hl]; exact hr _ (List.getElem_mem hk0)) 16 0 N l0[k] (by omega) (by omega) (by simp)
  rw [mini_alive_L4, if_pos (by omega), atI_get hk0, Option.bind_some, show mini_alive_L3 N y k l0 l0[k] l1 s N 0 l0[k] = _ from h3, Option.bind_some, if_pos (by omega), wk (by omega), ih (k + 1) n _ (by omega) (by omega) (by simp; omega), List.drop_eq_getElem_cons hk0]
  simp [alRs]
theorem alive_eq {N : Nat} (hN : 1000000000000 < N) {l0 : List (Vector Int 16)} {l1 : List Int} (h : RightP l0 l1) {y : List Bool} (hy : mini_Dead N l0 l1 = some y) (hl : y.length = l0.length) : mini_alive N l0 l1 = some (alRs y 0 l0, l1) := by
 obtain ⟨_, hm, _, _, hr⟩ := h
 unfold mini_alive
 have h4 := alive_L4 hN (y := y) (l0 := l0) (l1 := l1) hl hm hr l0.length 0 N [] (by omega) (by omega) (by simp)
 rw [List.drop_zero, List.nil_append] at h4
 rw [hy, Option.bind_some, show mini_alive_L4 N y l0 l1 N 0 [] = _ from h4, Option.bind_some]
theorem alF_ok {n : Int} {y : List Bool} {i : Nat} {x : Int} (h : okN n x) (hn : 0 ≤ n) : okN n (alF y i x) := by
 unfold alF okN at *
 split <;> omega
theorem alR_ok {n : Int} (hn : 0 ≤ n) {y : List Bool} {i : Nat} {r : Vector Int 16} (h : okRow n r) : okRow n (alR y i r) := fun x hx => by
 simp only [alR, Vector.toList_map, List.mem_map] at hx
 obtain ⟨z, hz, rfl⟩ := hx
 exact alF_ok (h z hz) hn
theorem alRs_ok {n : Int} (hn : 0 ≤ n) {y : List Bool} : ∀ {l : List (Vector Int 16)} {k : Nat}, (∀ r ∈ l, okRow n r) → ∀ r ∈ alRs y k l, okRow n r
 | [], k, _, r, h => by cases h
 | a :: l, k, h, r, hr => by
  rcases List.mem_cons.1 hr with rfl | hr
  ·
   exact alR_ok hn (h a List.mem_cons_self)
  ·
   exact alRs_ok hn (fun r hr => h r (List.mem_cons_of_mem _ hr)) r hr
end Go.Proofs.Ytnbnajjoinahiaa.AI
