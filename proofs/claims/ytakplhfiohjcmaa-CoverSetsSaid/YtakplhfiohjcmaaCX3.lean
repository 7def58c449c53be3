/- Plain laws of layer 11: sets made of numbers. -/
import Derived.Test.YtakplhfiohjcmaaCX2
set_option linter.unusedVariables false
set_option linter.unusedSimpArgs false
set_option maxRecDepth 100000
namespace Go.Proofs.Ytakplhfiohjcmaa.AI
def CB (c : List TClass) : Prop := CL 0 c ∧ c.length ≤ 65536
section
variable {N : Nat} (hN : 1000000000000 < N) {b : List Int} (hb : Bytes b) (hl : b.length ≤ 1000000)
include hN hb hl
end
theorem RL.okS {l : List TSpan} (h : RL 0 l) : ∀ x ∈ l, okS x := fun x hx => by have := RL.lows h x hx; exact ⟨this.1, this.2.1, this.2.2⟩
theorem With_L1 {N : Nat} {a : Int} {c : List TClass} (hc : ∀ x ∈ c, 0 ≤ x.To ∧ x.To ≤ 65535) (hl : c.length ≤ 65536) : ∀ (d k n : Nat) (s : List TSpan), k + d = c.length → d < n → s.length ≤ k → (∀ x ∈ s, 0 ≤ x.To ∧ x.To ≤ 65535) →
  cover_With_L1 N a c n k s = some (wth a (c.drop k) s) := by
 intro d
 induction d with
 | zero =>
  intro k n s hk hn hs ho
  obtain ⟨n, rfl⟩ : ∃ x, n = x + 1 := ⟨n - 1, by omega⟩
  rw [cover_With_L1, if_neg (by omega), List.drop_eq_nil_of_le (by omega)]; rfl
 | succ d ih =>
  intro k n s hk hn hs ho
  obtain ⟨n, rfl⟩ : ∃ x, n = x + 1 := ⟨n - 1, by omega⟩
  have hkl : k < c.length := by omega
  have hb2 := hc c[k] (List.getElem_mem hkl)
  have e1 : (k : Int) + 1 = ((k + 1 : Nat) : Int) := by omega
  have hj := jn_len s ⟨c[k].From, c[k].To⟩
  have hjb := jn_b (s := ⟨c[k].From, c[k].To⟩) ho hb2
  rw [cover_With_L1, if_pos (by omega), atI_at (List.getElem?_eq_getElem hkl), Option.bind_some, w64 (x := (k : Int) + 1) (by omega) (by omega), e1, List.drop_eq_getElem_cons hkl]
  simp only [wth]
  by_cases h1 : a = 0
  ·
   rw [if_pos h1, joined_eq (by omega) ho, Option.bind_some, if_pos (.inl h1)]
   exact ih (k + 1) n _ (by omega) (by omega) (by omega) hjb
  ·
   rw [if_neg h1]
   by_cases h2 : c[k].Class = a
   ·
    rw [if_pos h2, joined_eq (by omega) ho, Option.bind_some, if_pos (.inr h2)]
    exact ih (k + 1) n _ (by omega) (by omega) (by omega) hjb
   ·
    rw [if_neg h2, if_neg (fun h => h.elim h1 h2)]
    exact ih (k + 1) n _ (by omega) (by omega) (by omega) ho
theorem With_eq {N : Nat} (hN : 1000000000000 < N) {c : List TClass} (hc : CB c) (a : Int) : cover_With N c a = some (wth a c [], decide (a = 0)) := by
 unfold cover_With
 have h := With_L1 (N := N) (a := a) (fun x hx => by have := CL.low hc.1 x hx; omega) hc.2 c.length 0 N [] (by omega) (by have := hc.2; omega) (by simp) (by simp)
 rw [List.drop_zero] at h
 rw [show cover_With_L1 N a c N 0 [] = _ from h, Option.bind_some]
theorem Both1_eq {N : Nat} {s : List TSpan} {a c : Int} (hl : s.length ≤ 1000000000000) (ho : okO s) : cover_Both_1_row N a c s = some (pt s a c) := by
  unfold cover_Both_1_row pt
  by_cases h : a ≤ c
  · rw [if_pos h, if_pos h, joined_eq hl ho, Option.bind_some]
  · rw [if_neg h, if_neg h]
theorem Both_L2 {N : Nat} {l m : List TSpan} {i : Int} {nt : Bool} {x : TSpan} (hx : okS x) (hm : ∀ y ∈ m, okS y) (hl : m.length ≤ 65536) : ∀ (d j n : Nat) (a : Int) (s : List TSpan), j + d = m.length → d < n → okO s → 0 ≤ a → a ≤ 65536 → s.length ≤ 100000000000 + j →
  cover_Both_L2 N l i m nt x n a j s = some ((inB nt x (m.drop j) (s, a)).2, (inB nt x (m.drop j) (s, a)).1) := by
 intro d
 induction d with
 | zero =>
  intro j n a s hj hn ho h0 h1 hs
  obtain ⟨n, rfl⟩ : ∃ x, n = x + 1 := ⟨n - 1, by omega⟩
  rw [cover_Both_L2, if_neg (by omega), List.drop_eq_nil_of_le (by omega)]; rfl
 | succ d ih =>
  intro j n a s hj hn ho h0 h1 hs
  obtain ⟨n, rfl⟩ : ∃ x, n = x + 1 := ⟨n - 1, by omega⟩
  have hjl : j < m.length := by omega
  have hy := hm m[j] (List.getElem_mem hjl)
  have ok := stY_ok (nt := nt) (p := (s, a)) hx hy ho h0 h1
  have e1 : (j : Int) + 1 = ((j + 1 : Nat) : Int) := by omega
  obtain ⟨y1, y2, y3⟩ := hy
  rw [cover_Both_L2, if_pos (by omega), atI_at (List.getElem?_eq_getElem hjl), Option.bind_some, w64 (x := (j : Int) + 1) (by omega) (by omega), e1, List.drop_eq_getElem_cons hjl]
  simp only [inB]
  by_cases g1 : m[j].To < x.From
  ·
   have e : stY nt x (s, a) m[j] = (s, a) := by unfold stY; rw [if_pos (.inl g1)]
   rw [if_pos g1, e]
   exact ih (j + 1) n a s (by omega) (by omega) ho h0 h1 (by omega)
  rw [if_neg g1]
  by_cases g2 : x.To < m[j].From
  ·
   have e : stY nt x (s, a) m[j] = (s, a) := by unfold stY; rw [if_pos (.inr g2)]
   rw [if_pos g2, e]
   exact ih (j + 1) n a s (by omega) (by omega) ho h0 h1 (by omega)
  rw [if_neg g2]
  cases nt with
  | true =>
   have e : stY true x (s, a) m[j] = (pt s a (m[j].From - 1), m[j].To + 1) := by unfold stY; rw [if_neg (fun h => h.elim g1 g2)]
   rw [e] at ok ⊢
   rw [if_pos rfl, w64 (x := m[j].From - 1) (by omega) (by omega), Both1_eq (by omega) ho, Option.bind_some, w64 (x := m[j].To + 1) (by omega) (by omega)]
   exact ih (j + 1) n _ _ (by omega) (by omega) ok.1 ok.2.1 ok.2.2.1 (by have := ok.2.2.2; simp only at this; omega)
  | false =>
   have e : stY false x (s, a) m[j] = (pt s (max a m[j].From) (min x.To m[j].To), m[j].To + 1) := by unfold stY; rw [if_neg (fun h => h.elim g1 g2)]
   rw [e] at ok ⊢
   rw [if_neg (by decide), Both1_eq (by omega) ho, Option.bind_some, w64 (x := m[j].To + 1) (by omega) (by omega)]
   exact ih (j + 1) n _ _ (by omega) (by omega) ok.1 ok.2.1 ok.2.2.1 (by have := ok.2.2.2; simp only at this; omega)
theorem Both_L3 {N : Nat} (hN : 1000000000000 < N) {l m : List TSpan} {nt : Bool} (hl : ∀ x ∈ l, okS x) (hm : ∀ y ∈ m, okS y) (hll : l.length ≤ 65536) (hml : m.length ≤ 65536) : ∀ (d k n : Nat) (s : List TSpan), k + d = l.length → d < n → okO s → s.length ≤ 65537 * k →
  cover_Both_L3 N l m nt n k s = some (ouB nt m (l.drop k) s) := by
 intro d
 induction d with
 | zero =>
  intro k n s hk hn ho hs
  obtain ⟨n, rfl⟩ : ∃ x, n = x + 1 := ⟨n - 1, by omega⟩
  rw [cover_Both_L3, if_neg (by omega), List.drop_eq_nil_of_le (by omega)]; rfl
 | succ d ih =>
  intro k n s hk hn ho hs
  obtain ⟨n, rfl⟩ : ∃ x, n = x + 1 := ⟨n - 1, by omega⟩
  have hkl : k < l.length := by omega
  have hx := hl l[k] (List.getElem_mem hkl)
  have ok := stX_ok (nt := nt) (x := l[k]) hx hm ho
  have in_ := inB_ok (nt := nt) (x := l[k]) (p := (s, l[k].From)) hx hm ho hx.1 (by have := hx.2.1; have := hx.2.2; simp only; omega)
  have e1 : (k : Int) + 1 = ((k + 1 : Nat) : Int) := by omega
  have h2 := Both_L2 (N := N) (l := l) (i := (k : Int)) (nt := nt) hx hm hml m.length 0 N l[k].From s (by omega) (by omega) ho hx.1 (by have := hx.2.1; have := hx.2.2; omega) (by omega)
  rw [List.drop_zero] at h2
  rw [cover_Both_L3, if_pos (by omega), atI_at (List.getElem?_eq_getElem hkl), Option.bind_some, show cover_Both_L2 N l k m nt l[k] N l[k].From 0 s = _ from h2, Option.bind_some, w64 (x := (k : Int) + 1) (by omega) (by omega), e1, List.drop_eq_getElem_cons hkl]
  simp only [ouB]
  have hlen := in_.2.2.2
  simp only at hlen
  cases nt with
  | true =>
   rw [if_pos rfl, Both1_eq (by omega) in_.1, Option.bind_some]
   exact ih (k + 1) n _ (by omega) (by omega) ok.1 (by have := ok.2; simp only [stX] at this; omega)
  | false =>
   rw [if_neg (by decide)]
   exact ih (k + 1) n _ (by omega) (by omega) ok.1 (by have := ok.2; simp only [stX] at this; omega)
theorem Both_eq {N : Nat} (hN : 1000000000000 < N) {l m : List TSpan} {nt : Bool} (hl : RL 0 l) (hm : RL 0 m) (hll : l.length ≤ 65536) (hml : m.length ≤ 65536) : cover_Both N l m nt = some (ouB nt m l []) := by
 unfold cover_Both
 have h := Both_L3 hN (nt := nt) (hl.okS) (hm.okS) hll hml l.length 0 N [] (by omega) (by omega) (fun x hx => by cases hx) (by simp)
 rw [List.drop_zero] at h
 rw [show cover_Both_L3 N l m nt N 0 [] = _ from h, Option.bind_some]
end Go.Proofs.Ytakplhfiohjcmaa.AI
