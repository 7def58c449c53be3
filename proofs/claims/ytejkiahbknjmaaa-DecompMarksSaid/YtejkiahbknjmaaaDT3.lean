/- Plain laws of layer 3: the document's ranges. -/
import Derived.Test.YtejkiahbknjmaaaDT2
set_option linter.unusedVariables false
set_option linter.unusedSimpArgs false
set_option maxRecDepth 100000
namespace Go.Proofs.Ytejkiahbknjmaaa.AI
theorem rright_L1 {N : Nat} {m : Int} {l : List TRange} (hl : l.length ≤ 5000) : ∀ (d k n : Nat) (a : Int), k + d = l.length → d < n → -1 ≤ a → (k = 0 → a = -1) → (∀ j x, k = j + 1 → l[j]? = some x → a = x.To) → ∃ o, ref02_Right_L1 N l m n k = some o ∧ (o = .inl () ↔ chR m a (l.drop k)) := by
  intro d
  induction d with
  | zero =>
    intro k n a hk hn _ _ _
    obtain ⟨n, rfl⟩ : ∃ x, n = x + 1 := ⟨n - 1, by omega⟩
    rw [ref02_Right_L1, if_neg (by omega), List.drop_eq_nil_of_le (by omega)]
    exact ⟨_, rfl, by simp [chR]⟩
  | succ d ih =>
    intro k n a hk hn ha h0 h1
    obtain ⟨n, rfl⟩ : ∃ x, n = x + 1 := ⟨n - 1, by omega⟩
    have hkl : k < l.length := by omega
    rw [ref02_Right_L1, if_pos (by omega), atI_get hkl, Option.bind_some, List.drop_eq_getElem_cons hkl]
    unfold chR okV
    by_cases g1 : l[k].From < 0
    · rw [if_pos g1]; exact ⟨_, rfl, by simp; intro h; omega⟩
    rw [if_neg g1]
    by_cases g2 : l[k].To < l[k].From
    · rw [if_pos g2]; exact ⟨_, rfl, by simp; intro _ h; omega⟩
    rw [if_neg g2]
    by_cases g3 : 1114111 < l[k].To
    · rw [if_pos g3]; exact ⟨_, rfl, by simp; intro _ _ h; omega⟩
    rw [if_neg g3]
    by_cases g4 : l[k].Val < 0
    · rw [if_pos g4]; exact ⟨_, rfl, by simp; intro _ _ _ h; omega⟩
    rw [if_neg g4]
    by_cases g5 : m < l[k].Val
    · rw [if_pos g5]; exact ⟨_, rfl, by simp; intro _ _ _ _ h; omega⟩
    rw [if_neg g5]
    obtain ⟨o, e, h⟩ := ih (k + 1) n l[k].To (by omega) (by omega) (by omega) (fun h => by omega) (fun j x hj hx => by
      have : j = k := by omega
      subst this
      rw [List.getElem?_eq_getElem hkl] at hx; cases hx; rfl)
    rw [wk (by omega)]
    cases k with
    | zero =>
      rw [if_neg (by omega)]
      have := h0 rfl
      exact ⟨o, e, by rw [h]; exact ⟨fun h => ⟨by omega, ⟨by omega, by omega, by omega, by omega⟩, h⟩, fun h => h.2.2⟩⟩
    | succ j =>
      have hj : j < l.length := by omega
      have hat := h1 j l[j] rfl (List.getElem?_eq_getElem hj)
      rw [if_pos (by omega), w64 (by omega) (by omega), show ((j + 1 : Nat) : Int) - 1 = ((j : Nat) : Int) by omega, atI_get hj, Option.bind_some]
      by_cases g6 : l[j + 1].From ≤ l[j].To
      · rw [if_pos g6]; exact ⟨_, rfl, by simp; intro h; omega⟩
      rw [if_neg g6]
      exact ⟨o, e, by rw [h]; exact ⟨fun h => ⟨by omega, ⟨by omega, by omega, by omega, by omega⟩, h⟩, fun h => h.2.2⟩⟩
theorem rright_eq {N : Nat} (hN : 1000000000000 < N) (l : List TRange) (m : Int) : ∃ b, ref02_Right N l m = some b ∧ (b = true ↔ Rt m l) := by
  unfold ref02_Right Rt
  by_cases g : 5000 < (l.length : Int)
  · rw [if_pos g]; exact ⟨_, rfl, by simp; intro h; omega⟩
  rw [if_neg g]
  obtain ⟨o, e, h⟩ := rright_L1 (N := N) (m := m) (l := l) (by omega) l.length 0 N (-1) (by omega) (by omega) (by omega) (fun _ => rfl) (fun j x h => by omega)
  rw [List.drop_zero] at h
  rw [show ref02_Right_L1 N l m N 0 = _ from e, Option.bind_some]
  cases o with
  | inl u => exact ⟨_, rfl, by simp; exact ⟨by omega, h.1 rfl⟩⟩
  | inr u => exact ⟨_, rfl, by simp; intro _ hc; have := h.2 hc; cases this⟩
theorem rvalid_eq {N : Nat} (c : Int) : ref02_Valid N c = some (vld c) := by
  unfold ref02_Valid vld
  by_cases g1 : 0 ≤ c
  · rw [if_pos g1]
    by_cases g3 : c < 55296
    · rw [if_pos g3, decide_eq_true (by omega)]
    · rw [if_neg g3]
      by_cases g4 : 57343 < c
      · rw [if_pos g4]; congr 1; exact decide_eq_decide.2 (by omega)
      · rw [if_neg g4, decide_eq_false (by omega)]
  · rw [if_neg g1]
    by_cases g4 : 57343 < c
    · rw [if_pos g4]; congr 1; exact decide_eq_decide.2 (by omega)
    · rw [if_neg g4, decide_eq_false (by omega)]
theorem rfind_L1 {N : Nat} {l : List TRange} (hl : l.length ≤ 5000) {c : Int} : ∀ (d k n : Nat), k + d = l.length → d < n → ref02_Find_L1 N l c n k = some (match fnd (l.drop k) c with | some v => .inr v | none => .inl ()) := by
  intro d
  induction d with
  | zero =>
    intro k n hk hn
    obtain ⟨n, rfl⟩ : ∃ x, n = x + 1 := ⟨n - 1, by omega⟩
    rw [ref02_Find_L1, if_neg (by omega), List.drop_eq_nil_of_le (by omega)]; rfl
  | succ d ih =>
    intro k n hk hn
    obtain ⟨n, rfl⟩ : ∃ x, n = x + 1 := ⟨n - 1, by omega⟩
    have hkl : k < l.length := by omega
    rw [ref02_Find_L1, if_pos (by omega), atI_get hkl, Option.bind_some, wk (by omega), ih (k + 1) n (by omega) (by omega), List.drop_eq_getElem_cons hkl]
    simp only [fnd]
    by_cases g1 : l[k].From ≤ c
    · rw [if_pos g1]
      by_cases g2 : c ≤ l[k].To
      · rw [if_pos g2, if_pos ⟨g1, g2⟩]
      · rw [if_neg g2, if_neg (fun h => g2 h.2)]
    · rw [if_neg g1, if_neg (fun h => g1 h.1)]
theorem rget_eq {N : Nat} (hN : 1000000000000 < N) {l : List TRange} (hl : l.length ≤ 5000) {c : Int} : ref03_Get N l c = some (valc l c) := by
  have e := rfind_L1 (N := N) hl (c := c) l.length 0 N (by omega) (by omega)
  rw [List.drop_zero] at e
  unfold ref03_Get ref02_Find valc
  rw [rvalid_eq, Option.bind_some]
  by_cases g : vld c = true
  · rw [if_pos g, if_pos g, show ref02_Find_L1 N l c N 0 = _ from e, Option.bind_some]
    cases fnd l c <;> rfl
  · rw [if_neg g, if_neg g]
end Go.Proofs.Ytejkiahbknjmaaa.AI
