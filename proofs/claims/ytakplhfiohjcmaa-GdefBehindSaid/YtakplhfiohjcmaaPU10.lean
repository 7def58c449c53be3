/- Plain laws: the table GDEF, by the program and by the document. -/
import Derived.Test.YtakplhfiohjcmaaPU9
set_option linter.unusedVariables false
set_option linter.unusedSimpArgs false
namespace Go.Proofs.Ytakplhfiohjcmaa.AI

/-- What a class table tells, what a coverage has. -/
def clsL (N : Nat) (b : List Int) (i : Int) : List TClass := ((cover_Classes N b i).getD ([], false)).1
def covL (N : Nat) (b : List Int) (i : Int) : List TSpan := ((cover_Cover N b i).getD ([], false)).1
theorem clsL_eq {N : Nat} (hN : 1000000000000 < N) {b : List Int} (hb : Bytes b) (hl : b.length ≤ 1000000000) (i : Int) (hi : i ≤ 100000000000) (hi' : -100000000000 ≤ i) :
    cover_Classes N b i = some (clsL N b i, clsOk b i) ∧ ref10_Classes N b i = some (clsL N b i, clsOk b i) ∧ (clsOk b i = false → clsL N b i = []) ∧ (clsL N b i).length ≤ 65536 := by
  obtain ⟨l, h1, h2, h3, h4, h5⟩ := Classes_same hN hb hl i hi hi'
  have e : clsL N b i = l := by unfold clsL; rw [h1]; rfl
  rw [e]
  exact ⟨h1, h2, h3, h4⟩
theorem covL_eq {N : Nat} (hN : 1000000000000 < N) {b : List Int} (hb : Bytes b) (hl : b.length ≤ 1000000000) (i : Int) (hi : i ≤ 100000000000) (hi' : -100000000000 ≤ i) :
    cover_Cover N b i = some (covL N b i, covOk b i) ∧ ref10_Cover N b i = some (covL N b i, covOk b i) ∧ (covOk b i = false → covL N b i = []) ∧ (covL N b i).length ≤ 65536 := by
  obtain ⟨l, h1, h2, h3, h4⟩ := Cover_same hN hb hl i hi hi'
  have e : covL N b i = l := by unfold covL; rw [h1]; rfl
  rw [e]
  refine ⟨h1, h2, h3, ?_⟩
  cases hc : covOk b i with
  | false => rw [h3 hc]; simp
  | true => rcases RL.len (h4 hc).1 (Int.le_refl 0) with h | h
            · omega
            · rw [h]; simp
def dclOk (b : List Int) (i p : Int) : Bool := if u16 b p < 0 then false else if u16 b p = 0 then true else clsOk b (i + u16 b p)
def dclL (N : Nat) (b : List Int) (i p : Int) : List TClass := if u16 b p < 0 then [] else if u16 b p = 0 then [] else clsL N b (i + u16 b p)
theorem classes_eq {N : Nat} (hN : 1000000000000 < N) {b : List Int} (hb : Bytes b) (hl : b.length ≤ 1000000000) (i p : Int) (hi : i ≤ 10000000000) (hi' : -10000000000 ≤ i) (hp : p ≤ 1000000000000) : gdef_classes N b i p = some (dclL N b i p, dclOk b i p) := by
  have hu := u16_range hb p
  unfold gdef_classes dclL dclOk
  rw [U16_eq hN hb hl _ hp, Option.bind_some]
  by_cases h1 : u16 b p < 0
  · simp only [h1, if_true]; rfl
  · simp only [h1, if_false, if_true]
    by_cases h2 : u16 b p = 0
    · simp only [h2, if_true]
    · simp only [h2, if_false]
      rw [w64 (by omega) (by omega), (clsL_eq hN hb hl (i + u16 b p) (by omega) (by omega)).1]
      rfl
theorem dclL_len {N : Nat} (hN : 1000000000000 < N) {b : List Int} (hb : Bytes b) (hl : b.length ≤ 1000000000) (i p : Int) (hi : i ≤ 10000000000) (hi' : -10000000000 ≤ i) : (dclL N b i p).length ≤ 65536 := by
  have hu := u16_range hb p
  unfold dclL
  split
  · simp
  · split
    · simp
    · exact (clsL_eq hN hb hl (i + u16 b p) (by omega) (by omega)).2.2.2
theorem rRead_L1 {N : Nat} (hN : 1000000000000 < N) {b : List Int} (hb : Bytes b) (hl : b.length ≤ 1000000000) (i v : Int) (hi : i ≤ 10000000000) (h0 : 0 ≤ i) (h1 : i + 12 ≤ (b.length : Int)) :
    ref15_Read_L1 N b i v N 0 [] [] = some (if dclOk b i (i + 4) = true ∧ dclOk b i (i + 10) = true then .inl (dclL N b i (i + 4), dclL N b i (i + 10)) else .inr ()) := by
  obtain ⟨m, hm⟩ : ∃ m, N = m + 3 := ⟨N - 3, by omega⟩
  have u1 := u16_range hb (i + 4); have u2 := u16_range hb (i + 10)
  have n1 := (not_congr (u16_neg hb (i := i + 4))).2 (by omega); have n2 := (not_congr (u16_neg hb (i := i + 10))).2 (by omega)
  have a1 : (dclOk b i (i + 4) = true ↔ (u16 b (i + 4) = 0 ∨ clsOk b (i + u16 b (i + 4)) = true)) := by unfold dclOk; rw [if_neg n1]; split <;> simp [*]
  have a2 : (dclOk b i (i + 10) = true ↔ (u16 b (i + 10) = 0 ∨ clsOk b (i + u16 b (i + 10)) = true)) := by unfold dclOk; rw [if_neg n2]; split <;> simp [*]
  have l1 : dclL N b i (i + 4) = if u16 b (i + 4) = 0 then [] else clsL N b (i + u16 b (i + 4)) := by unfold dclL; rw [if_neg n1]
  have l2 : dclL N b i (i + 10) = if u16 b (i + 10) = 0 then [] else clsL N b (i + u16 b (i + 10)) := by unfold dclL; rw [if_neg n2]
  have second : ∀ s, ref15_Read_L1 N b i v (m + 2) 1 s [] = some (if dclOk b i (i + 10) = true then .inl (s, dclL N b i (i + 10)) else .inr ()) := by
    intro s
    have last : ∀ s t, ref15_Read_L1 N b i v (m + 1) 2 s t = some (.inl (s, t)) := fun s t => by rw [ref15_Read_L1, if_neg (by decide)]
    rw [ref15_Read_L1, if_pos (by decide), w64 (x := i + 4) (by omega) (by omega), w64 (x := 6 * 1) (by omega) (by omega), w64 (x := i + 4 + 6 * 1) (by omega) (by omega), show i + 4 + 6 * 1 = i + 10 by omega, rU16_eq hN hb hl _ (by omega), Option.bind_some, w64 (x := 1 + 1) (by omega) (by omega)]
    by_cases h : u16 b (i + 10) = 0
    · rw [if_pos h, show (1 + 1 : Int) = 2 by rfl, last, if_pos (a2.2 (.inl h)), l2, if_pos h]
    · rw [if_neg h, w64 (by omega) (by omega), (clsL_eq hN hb hl (i + u16 b (i + 10)) (by omega) (by omega)).2.1, Option.bind_some]
      cases hc : clsOk b (i + u16 b (i + 10)) with
      | true => simp only [if_true, show ¬ (1 : Int) = 0 by decide, if_false, show (1 + 1 : Int) = 2 by rfl, last]; rw [if_pos (a2.2 (.inr hc)), l2, if_neg h]
      | false => simp only [Bool.false_eq_true, if_false]; rw [if_neg (fun e => by rcases a2.1 e with e | e; exact h e; rw [hc] at e; cases e)]
  rw [show ref15_Read_L1 N b i v N 0 [] [] = ref15_Read_L1 N b i v (m + 3) 0 [] [] by rw [← hm]]
  rw [ref15_Read_L1, if_pos (by decide), w64 (x := i + 4) (by omega) (by omega), w64 (x := 6 * 0) (by omega) (by omega), w64 (x := i + 4 + 6 * 0) (by omega) (by omega), show i + 4 + 6 * 0 = i + 4 by omega, rU16_eq hN hb hl _ (by omega), Option.bind_some, w64 (x := 0 + 1) (by omega) (by omega)]
  by_cases h : u16 b (i + 4) = 0
  · rw [if_pos h, show (0 + 1 : Int) = 1 by rfl, second, l1, if_pos h]
    by_cases hd : dclOk b i (i + 10) = true
    · rw [if_pos hd, if_pos ⟨a1.2 (.inl h), hd⟩]
    · rw [if_neg hd, if_neg (fun e => hd e.2)]
  · rw [if_neg h, w64 (by omega) (by omega), (clsL_eq hN hb hl (i + u16 b (i + 4)) (by omega) (by omega)).2.1, Option.bind_some]
    cases hc : clsOk b (i + u16 b (i + 4)) with
    | true =>
      simp only [if_true, show (0 + 1 : Int) = 1 by rfl, second]
      rw [l1, if_neg h]
      by_cases hd : dclOk b i (i + 10) = true
      · rw [if_pos hd, if_pos ⟨a1.2 (.inr hc), hd⟩]
      · rw [if_neg hd, if_neg (fun e => hd e.2)]
    | false => simp only [Bool.false_eq_true, if_false]; rw [if_neg (fun e => by rcases a1.1 e.1 with e | e; exact h e; rw [hc] at e; cases e)]

/-! ### sets of marks -/
def gset (N : Nat) (b : List Int) (j : Int) : List Int → Option (List (List TSpan))
  | [] => some []
  | k :: r => if k < 0 ∨ (b.length : Int) < k then none else if covOk b (j + k) = true then (gset N b j r).map (covL N b (j + k) :: ·) else none
theorem gset_neg {N : Nat} {b : List Int} {j : Int} : ∀ {l : List Int}, (∃ k ∈ l, k < 0) → gset N b j l = none
  | [], h => by obtain ⟨k, hk, _⟩ := h; cases hk
  | x :: r, h => by
    simp only [gset]
    by_cases h1 : x < 0 ∨ (b.length : Int) < x
    · rw [if_pos h1]
    · rw [if_neg h1]
      have : gset N b j r = none := gset_neg (by
        obtain ⟨k, hk, hk2⟩ := h
        rcases List.mem_cons.1 hk with rfl | hk
        · exact (h1 (.inl hk2)).elim
        · exact ⟨k, hk, hk2⟩)
      rw [this]
      split <;> rfl
theorem gset_len {N : Nat} (hN : 1000000000000 < N) {b : List Int} (hb : Bytes b) (hl : b.length ≤ 1000000000) {j : Int} (hj : j ≤ 10000000000) (hj' : -10000000000 ≤ j) : ∀ {l : List Int} {m : List (List TSpan)}, gset N b j l = some m → m.length = l.length ∧ ∀ x ∈ m, x.length ≤ 65536
  | [], m, h => by simp only [gset] at h; cases h; simp
  | k :: r, m, h => by
    simp only [gset] at h
    split at h
    · cases h
    · rename_i hk
      split at h
      · cases hg : gset N b j r with
        | none => rw [hg] at h; cases h
        | some m' =>
          rw [hg] at h
          simp only [Option.map_some, Option.some.injEq] at h
          subst h
          obtain ⟨h1, h2⟩ := gset_len hN hb hl hj hj' hg
          refine ⟨by simp [h1], fun x hx => ?_⟩
          rcases List.mem_cons.1 hx with rfl | hx
          · exact (covL_eq hN hb hl (j + k) (by omega) (by omega)).2.2.2
          · exact h2 x hx
      · cases h
def setR (s : List (List TSpan)) : Option (List (List TSpan)) → (List (List TSpan)) ⊕ Unit
  | some m => .inl (s ++ m)
  | none => .inr ()
theorem sets_L1 {N : Nat} (hN : 1000000000000 < N) {b : List Int} (hb : Bytes b) (hl : b.length ≤ 1000000000) {i o : Int} (hi : i ≤ 1000000000) (hi' : -1000000000 ≤ i) (ho : 0 ≤ o) (ho' : o ≤ 65535) {l : List Int} (hl2 : l.length ≤ 64) (hx0 : ∀ x ∈ l, 0 ≤ x) :
    ∀ (d k n : Nat) (s : List (List TSpan)), k + d = l.length → d < n → s.length ≤ k → gdef_sets_L1 N b i o l n k s = some (setR s (gset N b (i + o) (l.drop k))) := by
  intro d
  induction d with
  | zero =>
    intro k n s hk hn hs
    obtain ⟨n, rfl⟩ : ∃ x, n = x + 1 := ⟨n - 1, by omega⟩
    rw [gdef_sets_L1, if_neg (by omega), List.drop_eq_nil_of_le (by omega)]
    simp [gset, setR]
  | succ d ih =>
    intro k n s hk hn hs
    obtain ⟨n, rfl⟩ : ∃ x, n = x + 1 := ⟨n - 1, by omega⟩
    obtain ⟨x, hx, hd⟩ := drop_cons hk
    have hx1 := hx0 x (List.mem_of_getElem? hx)
    rw [gdef_sets_L1, if_pos (by omega), atI_at hx, Option.bind_some, hd]
    simp only [gset]
    by_cases h1 : (b.length : Int) < x
    · rw [if_pos h1, if_pos (.inr h1)]; rfl
    · rw [if_neg h1, if_neg (by omega), w64 (x := i + o) (by omega) (by omega), w64 (x := i + o + x) (by omega) (by omega), (covL_eq hN hb hl (i + o + x) (by omega) (by omega)).1, Option.bind_some]
      cases hc : covOk b (i + o + x) with
      | true =>
        simp only [if_true]
        rw [if_pos (by omega), w64 (by omega) (by omega)]
        have := ih (k + 1) n (s ++ [covL N b (i + o + x)]) (by omega) (by omega) (by simp; omega)
        rw [show ((k + 1 : Nat) : Int) = (k : Int) + 1 by omega] at this
        rw [this]
        cases gset N b (i + o) (l.drop (k + 1)) <;> simp [setR]
      | false => simp only [Bool.false_eq_true, if_false]; rfl
theorem rsets_L2 {N : Nat} (hN : 1000000000000 < N) {b : List Int} (hb : Bytes b) (hl : b.length ≤ 1000000000) {i o : Int} (hi : i ≤ 1000000000) (hi' : -1000000000 ≤ i) (ho : 0 ≤ o) (ho' : o ≤ 65535) {m : Nat} (hm : m ≤ 64) {c1 c2 : List TClass} :
    ∀ (d k n : Nat) (s : List (List TSpan)), k + d = m → d < n → s.length ≤ k → ref15_Read_L2 N b i o m c1 c2 n k s = some (setR s (gset N b (i + o) ((row32 b (i + o + 4) m).drop k))) := by
  intro d
  induction d with
  | zero =>
    intro k n s hk hn hs
    obtain ⟨n, rfl⟩ : ∃ x, n = x + 1 := ⟨n - 1, by omega⟩
    rw [ref15_Read_L2, if_neg (by omega), List.drop_eq_nil_of_le (by rw [row32_len]; omega)]
    simp [gset, setR]
  | succ d ih =>
    intro k n s hk hn hs
    obtain ⟨n, rfl⟩ : ∃ x, n = x + 1 := ⟨n - 1, by omega⟩
    have hx := row32_at (b := b) (i := i + o + 4) (show k < m by omega)
    have hd : (row32 b (i + o + 4) m).drop k = u32 b (i + o + 4 + 4 * (k : Int)) :: (row32 b (i + o + 4) m).drop (k + 1) := by
      obtain ⟨hlt, e⟩ := List.getElem?_eq_some_iff.1 hx
      rw [List.drop_eq_getElem_cons hlt, e]
    have hu := u32_range hb (i + o + 4 + 4 * (k : Int))
    rw [ref15_Read_L2, if_pos (by omega), w64 (x := i + o) (by omega) (by omega), w64 (x := i + o + 4) (by omega) (by omega), w64 (x := 4 * (k : Int)) (by omega) (by omega), w64 (x := i + o + 4 + 4 * (k : Int)) (by omega) (by omega), rU32_eq hN hb hl _ (by omega), Option.bind_some, hd]
    simp only [gset]
    by_cases h0 : u32 b (i + o + 4 + 4 * (k : Int)) < 0
    · rw [if_pos h0, if_pos (.inl h0)]; rfl
    rw [if_neg h0]
    by_cases h1 : (b.length : Int) < u32 b (i + o + 4 + 4 * (k : Int))
    · rw [if_pos h1, if_pos (.inr h1)]; rfl
    · rw [if_neg h1, if_neg (by omega), w64 (by omega) (by omega), (covL_eq hN hb hl (i + o + u32 b (i + o + 4 + 4 * (k : Int))) (by omega) (by omega)).2.1, Option.bind_some]
      cases hc : covOk b (i + o + u32 b (i + o + 4 + 4 * (k : Int))) with
      | true =>
        simp only [if_true]
        rw [if_pos (by omega), w64 (by omega) (by omega)]
        have := ih (k + 1) n (s ++ [covL N b (i + o + u32 b (i + o + 4 + 4 * (k : Int)))]) (by omega) (by omega) (by simp; omega)
        rw [show ((k + 1 : Nat) : Int) = (k : Int) + 1 by omega] at this
        rw [this]
        cases gset N b (i + o) ((row32 b (i + o + 4) m).drop (k + 1)) <;> simp [setR]
      | false => simp only [Bool.false_eq_true, if_false]; rfl
def dsets (N : Nat) (b : List Int) (i p : Int) : Option (List (List TSpan)) :=
  if u16 b p < 0 then none else if u16 b p = 0 then some [] else
    if u16 b (i + u16 b p) = 1 ∧ 0 ≤ u16 b (i + u16 b p + 2) ∧ u16 b (i + u16 b p + 2) ≤ 64 then gset N b (i + u16 b p) (row32 b (i + u16 b p + 4) (u16 b (i + u16 b p + 2)).toNat) else none
def setP : Option (List (List TSpan)) → (List (List TSpan)) × Bool
  | some m => (m, true)
  | none => ([], false)
theorem sets_eq {N : Nat} (hN : 1000000000000 < N) {b : List Int} (hb : Bytes b) (hl : b.length ≤ 1000000000) (i p : Int) (hi : i ≤ 1000000000) (hi' : -1000000000 ≤ i) (hp : p ≤ 1000000000000) : gdef_sets N b i p = some (setP (dsets N b i p)) := by
  have hu := u16_range hb p
  unfold gdef_sets dsets
  rw [U16_eq hN hb hl _ hp, Option.bind_some]
  by_cases h1 : u16 b p < 0
  · simp only [h1, if_true]; rfl
  simp only [h1, if_false, if_true]
  by_cases h2 : u16 b p = 0
  · simp only [h2, if_true]; rfl
  simp only [h2, if_false]
  have hj := u16_range hb (i + u16 b p); have hj2 := u16_range hb (i + u16 b p + 2)
  rw [w64 (x := i + u16 b p) (by omega) (by omega), w64 (x := i + u16 b p + 2) (by omega) (by omega), w64 (x := i + u16 b p + 4) (by omega) (by omega)]
  have e1 := U16_eq hN hb hl (i + u16 b p) (by omega)
  have e2 := U16_eq hN hb hl (i + u16 b p + 2) (by omega)
  by_cases h4 : u16 b (i + u16 b p) = 1
  · rw [if_neg (by omega)] at e1
    rw [e1, Option.bind_some, e2, Option.bind_some]
    have hin := (not_congr (u16_neg hb (i := i + u16 b p))).1 (by omega)
    by_cases h5 : u16 b (i + u16 b p + 2) < 0
    · simp only [h5, if_true]
      rw [Row_eq4 hN hb hl _ _ (by omega) (by omega), Option.bind_some]
      have h6 := (u16_neg hb (i := i + u16 b p + 2)).1 h5
      rw [if_neg (show ¬ ((0 : Int) ≤ 0 ∧ 0 ≤ i + u16 b p + 4 ∧ i + u16 b p + 4 + 4 * 0 ≤ (b.length : Int)) by omega), if_neg (by omega : ¬ (u16 b (i + u16 b p) = 1 ∧ 0 ≤ u16 b (i + u16 b p + 2) ∧ u16 b (i + u16 b p + 2) ≤ 64))]
      simp only [h4, if_true, show ¬ (64 : Int) < 0 by decide, if_false, Bool.false_eq_true]
      rfl
    · simp only [h5, if_false]
      rw [Row_eq4 hN hb hl _ _ (by omega) (by omega), Option.bind_some]
      have h6 := (not_congr (u16_neg hb (i := i + u16 b p + 2))).1 h5
      by_cases h7 : 64 < u16 b (i + u16 b p + 2)
      · rw [if_neg (by omega : ¬ (u16 b (i + u16 b p) = 1 ∧ 0 ≤ u16 b (i + u16 b p + 2) ∧ u16 b (i + u16 b p + 2) ≤ 64))]
        simp only [h4, h7, if_true]
        rfl
      · rw [if_pos (by omega : (u16 b (i + u16 b p) = 1 ∧ 0 ≤ u16 b (i + u16 b p + 2) ∧ u16 b (i + u16 b p + 2) ≤ 64))]
        obtain ⟨m, hm⟩ := Int.eq_ofNat_of_zero_le (show 0 ≤ u16 b (i + u16 b p + 2) by omega)
        rw [hm] at h7 ⊢
        rw [show ((m : Int)).toNat = m by omega]
        by_cases h8 : i + u16 b p + 4 + 4 * (m : Int) ≤ (b.length : Int)
        · rw [if_pos (show ((0 : Int) ≤ m ∧ 0 ≤ i + u16 b p + 4 ∧ i + u16 b p + 4 + 4 * (m : Int) ≤ (b.length : Int)) by omega)]
          simp only [h4, h7, if_true, if_false]
          have := sets_L1 hN hb hl hi hi' (show 0 ≤ u16 b p by omega) (by omega) (l := row32 b (i + u16 b p + 4) m) (by rw [row32_len]; omega) (fun x hx => by
            simp only [row32, List.mem_map, List.mem_range] at hx
            obtain ⟨k, hk, rfl⟩ := hx
            have := (not_congr (u32_neg hb (i := i + u16 b p + 4 + 4 * (k : Int)))).2 (by omega)
            omega) m 0 N [] (by rw [row32_len]; omega) (by omega) (by simp)
          rw [show ((0 : Nat) : Int) = 0 from rfl, List.drop_zero] at this
          rw [this, Option.bind_some]
          cases gset N b (i + u16 b p) (row32 b (i + u16 b p + 4) m) <;> rfl
        · rw [if_neg (show ¬ ((0 : Int) ≤ m ∧ 0 ≤ i + u16 b p + 4 ∧ i + u16 b p + 4 + 4 * (m : Int) ≤ (b.length : Int)) by omega)]
          simp only [h4, h7, if_true, if_false, Bool.false_eq_true]
          have hpos : 0 < m := by
            rcases Nat.eq_zero_or_pos m with h | h
            · subst h; omega
            · exact h
          rw [gset_neg ⟨u32 b (i + u16 b p + 4 + 4 * ((m - 1 : Nat) : Int)), by simp only [row32, List.mem_map, List.mem_range]; exact ⟨m - 1, by omega, rfl⟩, (u32_neg hb).2 (by omega)⟩]
          rfl
  · rw [if_neg (fun e => h4 e.1)]
    rw [e1, Option.bind_some]
    have hz : ¬ (if u16 b (i + u16 b p) < 0 then ((0 : Int), false) else (u16 b (i + u16 b p), true)).1 = 1 := by split <;> simp [h4]
    generalize (if u16 b (i + u16 b p) < 0 then ((0 : Int), false) else (u16 b (i + u16 b p), true)) = z at hz
    obtain ⟨z1, z2⟩ := z
    simp only at hz
    rw [e2]
    have hz2 : (if u16 b (i + u16 b p + 2) < 0 then ((0 : Int), false) else (u16 b (i + u16 b p + 2), true)).1 ≤ 1000000 := by split <;> simp only <;> omega
    generalize (if u16 b (i + u16 b p + 2) < 0 then ((0 : Int), false) else (u16 b (i + u16 b p + 2), true)) = y at hz2
    obtain ⟨y1, y2⟩ := y
    simp only [Option.bind_some] at hz2 ⊢
    rw [Row_eq4 hN hb hl _ _ (by omega) (by omega), Option.bind_some]
    simp only [hz, if_false]
    rfl

/-! ### the table -/
def gread (N : Nat) (b : List Int) (i : Int) : Option (List TClass × List TClass × List (List TSpan)) :=
  if (u32 b i = 65536 ∨ u32 b i = 65538) ∧ i + 12 ≤ (b.length : Int) ∧ dclOk b i (i + 4) = true ∧ dclOk b i (i + 10) = true then
    (if u32 b i = 65536 then some [] else dsets N b i (i + 12)).map fun s => (dclL N b i (i + 4), dclL N b i (i + 10), s)
  else none
def readR : Option (List TClass × List TClass × List (List TSpan)) → List TClass × List TClass × List (List TSpan) × Bool
  | some (x, y, z) => (x, y, z, true)
  | none => ([], [], [], false)
theorem Read_eq {N : Nat} (hN : 1000000000000 < N) {b : List Int} (hb : Bytes b) (hl : b.length ≤ 1000000000) (i : Int) (hi : i ≤ 1000000000) (hi' : -1000000000 ≤ i) : gdef_Read N b i = some (readR (gread N b i)) := by
  unfold gdef_Read gread
  rw [U32_eq hN hb hl _ (by omega), Option.bind_some]
  by_cases h1 : u32 b i < 0
  · simp only [h1, if_true, Bool.false_eq_true, if_false]
    rw [if_neg (by omega)]; rfl
  have hin := (not_congr (u32_neg hb (i := i))).1 h1
  simp only [h1, if_false, if_true]
  rw [w64 (x := i + 4) (by omega) (by omega), w64 (x := i + 4 + 6) (by omega) (by omega), w64 (x := i + 4 + 8) (by omega) (by omega), show i + 4 + 6 = i + 10 by omega, show i + 4 + 8 = i + 12 by omega, within_eq hl, classes_eq hN hb hl i (i + 4) (by omega) (by omega) (by omega), classes_eq hN hb hl i (i + 10) (by omega) (by omega) (by omega), sets_eq hN hb hl i (i + 12) hi hi' (by omega)]
  simp only [Option.bind_some]
  by_cases h2 : u32 b i = 65536
  · simp only [h2, if_true, show ¬ (65536 : Int) = 65538 by decide, if_false]
    by_cases h3 : i + 12 ≤ (b.length : Int)
    · simp only [show (0 ≤ i ∧ (0 : Int) ≤ 12 ∧ i + 12 ≤ (b.length : Int)) from ⟨by omega, by omega, h3⟩, decide_true, if_true, h3, true_and, and_self]
      cases dclOk b i (i + 4) <;> cases dclOk b i (i + 10) <;> simp [readR]
    · simp [h3, readR]
  · by_cases h4 : u32 b i = 65538
    · simp only [h4, if_true, show ¬ (65538 : Int) = 65536 by decide, if_false]
      by_cases h3 : i + 12 ≤ (b.length : Int)
      · simp only [show (0 ≤ i ∧ (0 : Int) ≤ 12 ∧ i + 12 ≤ (b.length : Int)) from ⟨by omega, by omega, h3⟩, decide_true, if_true, h3, true_and, and_self]
        cases dclOk b i (i + 4) <;> cases dclOk b i (i + 10) <;> cases dsets N b i (i + 12) <;> simp [readR, setP]
      · simp [h3, readR]
    · simp [h2, h4, readR]
theorem rRead_eq {N : Nat} (hN : 1000000000000 < N) {b : List Int} (hb : Bytes b) (hl : b.length ≤ 1000000000) (i : Int) (hi : i ≤ 1000000000) (hi' : -1000000000 ≤ i) : ref15_Read N b i = some (readR (gread N b i)) := by
  unfold ref15_Read gread
  rw [rU32_eq hN hb hl _ (by omega), Option.bind_some]
  by_cases h1 : u32 b i < 0
  · rw [if_neg (by omega), if_neg (by omega), if_neg (by omega)]; rfl
  have hin := (not_congr (u32_neg hb (i := i))).1 h1
  have h10 := u16_neg hb (i := i + 10)
  rw [w64 (x := i + 10) (by omega) (by omega), rU16_eq hN hb hl (i + 10) (by omega)]
  simp only [Option.bind_some]
  by_cases h3 : i + 12 ≤ (b.length : Int)
  · have hn10 : ¬ u16 b (i + 10) < 0 := (not_congr h10).2 (by omega)
    simp only [hn10, if_false, rRead_L1 hN hb hl i _ (by omega) (by omega) h3, Option.bind_some]
    by_cases h2 : u32 b i = 65536
    · simp only [h2, if_true, h3, true_and, true_or]
      by_cases hd : dclOk b i (i + 4) = true ∧ dclOk b i (i + 10) = true
      · simp [hd, readR]
      · simp only [hd, if_false]; rfl
    · by_cases h4 : u32 b i = 65538
      · simp only [h4, if_true, h3, true_and, or_true, show ¬ (65538 : Int) = 65536 by decide, if_false]
        by_cases hd : dclOk b i (i + 4) = true ∧ dclOk b i (i + 10) = true
        · simp only [hd, and_self, if_true]
          have hu := u16_range hb (i + 12)
          rw [w64 (x := i + 12) (by omega) (by omega), rU16_eq hN hb hl (i + 12) (by omega), Option.bind_some]
          unfold dsets
          by_cases h5 : u16 b (i + 12) < 0
          · simp only [h5, if_true]; rfl
          by_cases h6 : u16 b (i + 12) = 0
          · simp only [h5, h6, if_true, if_false]; rfl
          simp only [h5, h6, if_false]
          have hj := u16_range hb (i + u16 b (i + 12)); have hj2 := u16_range hb (i + u16 b (i + 12) + 2)
          rw [w64 (x := i + u16 b (i + 12)) (by omega) (by omega), w64 (x := i + u16 b (i + 12) + 2) (by omega) (by omega), rU16_eq hN hb hl _ (by omega), Option.bind_some, rU16_eq hN hb hl _ (by omega), Option.bind_some]
          by_cases h7 : u16 b (i + u16 b (i + 12)) = 1
          · rw [if_pos h7]
            by_cases h8 : u16 b (i + u16 b (i + 12) + 2) < 0
            · rw [if_pos h8, if_neg (by omega)]; rfl
            by_cases h9 : 64 < u16 b (i + u16 b (i + 12) + 2)
            · rw [if_neg h8, if_pos h9, if_neg (by omega)]; rfl
            rw [if_neg h8, if_neg h9, if_pos (by omega)]
            obtain ⟨m, hm⟩ := Int.eq_ofNat_of_zero_le (show 0 ≤ u16 b (i + u16 b (i + 12) + 2) by omega)
            rw [hm] at h9 ⊢
            have := rsets_L2 hN hb hl hi hi' (show 0 ≤ u16 b (i + 12) by omega) (by omega) (m := m) (by omega) (c1 := dclL N b i (i + 4)) (c2 := dclL N b i (i + 10)) m 0 N [] (by omega) (by omega) (by simp)
            rw [show ((0 : Nat) : Int) = 0 from rfl, List.drop_zero] at this
            rw [this, Option.bind_some, show ((m : Int)).toNat = m by omega]
            cases gset N b (i + u16 b (i + 12)) (row32 b (i + u16 b (i + 12) + 4) m) <;> rfl
          · rw [if_neg h7, if_neg (fun e => h7 e.1)]; rfl
        · simp only [hd, if_false]; rfl
      · simp [h2, h4, readR]
  · have hn10 : u16 b (i + 10) < 0 := h10.2 (by omega)
    simp only [hn10, if_true, h3, false_and, and_false, if_false]
    split
    · rfl
    · split <;> rfl
theorem gread_len {N : Nat} (hN : 1000000000000 < N) {b : List Int} (hb : Bytes b) (hl : b.length ≤ 1000000000) {i : Int} (hi : i ≤ 1000000000) (hi' : -1000000000 ≤ i) {x y : List TClass} {z : List (List TSpan)} (h : gread N b i = some (x, y, z)) : x.length ≤ 65536 ∧ y.length ≤ 65536 ∧ z.length ≤ 65536 ∧ ∀ s ∈ z, s.length ≤ 65536 := by
  unfold gread at h
  split at h
  · have hx := dclL_len hN hb hl i (i + 4) (by omega) (by omega)
    have hy := dclL_len hN hb hl i (i + 10) (by omega) (by omega)
    split at h
    · simp only [Option.map_some, Option.some.injEq, Prod.mk.injEq] at h
      obtain ⟨rfl, rfl, rfl⟩ := h
      exact ⟨hx, hy, by simp, by simp⟩
    · cases hd : dsets N b i (i + 12) with
      | none => rw [hd] at h; cases h
      | some m =>
        rw [hd] at h
        simp only [Option.map_some, Option.some.injEq, Prod.mk.injEq] at h
        obtain ⟨rfl, rfl, rfl⟩ := h
        have hu := u16_range hb (i + 12)
        unfold dsets at hd
        split at hd
        · cases hd
        · split at hd
          · cases hd; exact ⟨hx, hy, by simp, by simp⟩
          · split at hd
            · obtain ⟨h1, h2⟩ := gset_len hN hb hl (j := i + u16 b (i + 12)) (by omega) (by omega) hd
              rw [row32_len] at h1
              exact ⟨hx, hy, by omega, h2⟩
            · cases hd
  · cases h
theorem rSame_eq {N : Nat} (hN : 1000000000000 < N) {x y : List TClass} {z : List (List TSpan)} (hx : x.length ≤ 65536) (hy : y.length ≤ 65536) (hz : z.length ≤ 65536) (hs : ∀ s ∈ z, s.length ≤ 65536) : ref15_Same N x y z x y z = some true := by
  have key : ∀ (d k n : Nat), k + d = z.length → d < n → ref15_Same_L1 N x y z x y z n k = some (.inl ()) := by
    intro d
    induction d with
    | zero =>
      intro k n hk hn
      obtain ⟨n, rfl⟩ : ∃ x, n = x + 1 := ⟨n - 1, by omega⟩
      rw [ref15_Same_L1, if_neg (by omega)]
    | succ d ih =>
      intro k n hk hn
      obtain ⟨n, rfl⟩ : ∃ x, n = x + 1 := ⟨n - 1, by omega⟩
      have hg := List.getElem?_eq_getElem (l := z) (i := k) (by omega)
      have := ih (k + 1) n (by omega) (by omega)
      rw [show ((k + 1 : Nat) : Int) = (k : Int) + 1 by omega] at this
      rw [ref15_Same_L1, if_pos (by omega), atI_at hg, Option.bind_some, Option.bind_some, Same_eq hN (by have := hs _ (List.mem_of_getElem? hg); omega), Option.bind_some, if_pos (by simp), w64 (by omega) (by omega), this]
  have h := key z.length 0 N (by omega) (by omega)
  rw [show ((0 : Nat) : Int) = 0 from rfl] at h
  unfold ref15_Same
  rw [SameClasses_eq hN (by omega), Option.bind_some, if_pos (by simp), SameClasses_eq hN (by omega), Option.bind_some, if_pos (by simp), if_pos rfl, h]
  rfl
end Go.Proofs.Ytakplhfiohjcmaa.AI
