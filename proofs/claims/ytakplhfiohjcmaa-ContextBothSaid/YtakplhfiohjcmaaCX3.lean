/- Plain laws of layer 11: sets made of numbers. -/
import Derived.Test.YtakplhfiohjcmaaCX2
set_option linter.unusedVariables false
set_option linter.unusedSimpArgs false
set_option maxRecDepth 100000
namespace Go.Proofs.Ytakplhfiohjcmaa.AI
def CB (c : List TClass) : Prop := CL 0 c ∧ c.length ≤ 65536
theorem KL.cl : ∀ {l : List TClass} {lo pc : Int}, KL lo pc l → CL lo l
 | [], _, _, _ => trivial
 | x :: r, lo, pc, h => ⟨h.1, h.2.1, h.2.2.1, h.2.2.2.1, KL.cl h.2.2.2.2.2⟩
theorem CB.nil : CB [] := ⟨trivial, by simp⟩
def clsO (N : Nat) (b : List Int) (p : Int) : Option (List TClass) := if clsOk b p = true then some (clsL N b p) else none
def classesM (N : Nat) (b : List Int) (base off : Int) : Option (List TClass) := if off = 0 then some [] else clsO N b (base + off)
section
variable {N : Nat} (hN : 1000000000000 < N) {b : List Int} (hb : Bytes b) (hl : b.length ≤ 1000000)
include hN hb hl
theorem classesM_cb {base off : Int} (h0 : -1000000000 ≤ base) (h1 : base ≤ 1000000000) (h2 : 0 ≤ off) (h3 : off ≤ 65535) {c : List TClass} (h : classesM N b base off = some c) : CB c := by
 unfold classesM at h
 split at h
 ·
  cases h; exact CB.nil
 ·
  unfold clsO at h
  split at h
  ·
   rename_i hc
   cases h
   obtain ⟨l, g1, g2, g3, g4, g5⟩ := Classes_same hN hb (by omega) (base + off) (by omega) (by omega)
   have e : clsL N b (base + off) = l := by unfold clsL; rw [g1]; rfl
   rw [e]
   exact ⟨(g5 hc).1.cl, g4⟩
  ·
   cases h
theorem rclasses_eq {p base off : Int} (h0 : -1000000000 ≤ base) (h1 : base ≤ 1000000000) (h2 : 0 ≤ off) (h3 : off ≤ 65535) : context_reader_classes N b p base off = some (S (classesM N b base off)) := by
 unfold context_reader_classes classesM
 by_cases h : off = 0
 ·
  rw [if_pos h, if_pos h]; rfl
 ·
  rw [if_neg h, if_neg h, w64 (by omega) (by omega), (clsL_eq hN hb (by omega) (base + off) (by omega) (by omega)).1, Option.bind_some]
  simp only
  rw [must_eq, Option.bind_some]
  unfold clsO
  cases clsOk b (base + off) <;> rfl
theorem cov_rl {p : Int} (h0 : -10000000000 ≤ p) (h1 : p ≤ 10000000000) {s : List TSpan} (h : cov N b p = some s) : RL 0 s ∧ s.length ≤ 65536 := by
 unfold cov at h
 split at h
 ·
  rename_i hc
  cases h
  obtain ⟨l, g1, g2, g3, g4⟩ := Cover_same hN hb (by omega) p (by omega) (by omega)
  have e : covL N b p = l := by unfold covL; rw [g1]; rfl
  have := (covL_eq hN hb (by omega) p (by omega) (by omega)).2.2.2
  rw [e] at this ⊢
  exact ⟨(g4 hc).1, this⟩
 ·
  cases h
end
theorem RL.okS {l : List TSpan} (h : RL 0 l) : ∀ x ∈ l, okS x := fun x hx => by have := RL.lows h x hx; exact ⟨this.1, this.2.1, this.2.2⟩
theorem With_L1 {N : Nat} {a : Int} {c : List TClass} (hc : ∀ x ∈ c, 0 ≤ x.To ∧ x.To ≤ 65535) (hl : c.length ≤ 65536) : ∀ (d k n : Nat) (s : List TSpan), k + d = c.length → d < n → s.length ≤ k → (∀ x ∈ s, 0 ≤ x.To ∧ x.To ≤ 65535) →
  cover_With_L1 N a c n k s = some (wth a (c.drop k) s) := by
 intro d
 induction d with
 | zero =>
  intro k n s hk hn hs ho
  obtain ⟨n, rfl⟩ : ∃ x, n = x + 1 := ⟨n - 1, by omega⟩
  rw [cover_With_L1, if_neg (by omega), List.drop_eq_nil_of_le (by omega)]; rfl
 | succ d ih =>
  intro k n s hk hn hs ho
  obtain ⟨n, rfl⟩ : ∃ x, n = x + 1 := ⟨n - 1, by omega⟩
  have hkl : k < c.length := by omega
  have hb2 := hc c[k] (List.getElem_mem hkl)
  have e1 : (k : Int) + 1 = ((k + 1 : Nat) : Int) := by omega
  have hj := jn_len s ⟨c[k].From, c[k].To⟩
  have hjb := jn_b (s := ⟨c[k].From, c[k].To⟩) ho hb2
  rw [cover_With_L1, if_pos (by omega), atI_at (List.getElem?_eq_getElem hkl), Option.bind_some, w64 (x := (k : Int) + 1) (by omega) (by omega), e1, List.drop_eq_getElem_cons hkl]
  simp only [wth]
  by_cases h1 : a = 0
  ·
   rw [if_pos h1, joined_eq (by omega) ho, Option.bind_some, if_pos (.inl h1)]
   exact ih (k + 1) n _ (by omega) (by omega) (by omega) hjb
  ·
   rw [if_neg h1]
   by_cases h2 : c[k].Class = a
   ·
    rw [if_pos h2, joined_eq (by omega) ho, Option.bind_some, if_pos (.inr h2)]
    exact ih (k + 1) n _ (by omega) (by omega) (by omega) hjb
   ·
    rw [if_neg h2, if_neg (fun h => h.elim h1 h2)]
    exact ih (k + 1) n _ (by omega) (by omega) (by omega) ho
theorem With_eq {N : Nat} (hN : 1000000000000 < N) {c : List TClass} (hc : CB c) (a : Int) : cover_With N c a = some (wth a c [], decide (a = 0)) := by
 unfold cover_With
 have h := With_L1 (N := N) (a := a) (fun x hx => by have := CL.low hc.1 x hx; omega) hc.2 c.length 0 N [] (by omega) (by have := hc.2; omega) (by simp) (by simp)
 rw [List.drop_zero] at h
 rw [show cover_With_L1 N a c N 0 [] = _ from h, Option.bind_some]
theorem wth_rl {c : List TClass} (hc : CB c) (a : Int) : RL 0 (wth a c []) ∧ (wth a c []).length ≤ 65536 := by
 have h := wth_spec (k := a) (m := c) (lo := 0) (o := []) hc.1 (Int.le_refl _) trivial (by simp)
 exact ⟨h.1, by have := h.2.2; have := hc.2; simp only [List.length_nil] at *; omega⟩
theorem Both1_eq {N : Nat} {s : List TSpan} {a c : Int} (hl : s.length ≤ 1000000000000) (ho : okO s) : cover_Both_1_row N a c s = some (pt s a c) := by
  unfold cover_Both_1_row pt
  by_cases h : a ≤ c
  · rw [if_pos h, if_pos h, joined_eq hl ho, Option.bind_some]
  · rw [if_neg h, if_neg h]
theorem Both_L2 {N : Nat} {l m : List TSpan} {i : Int} {nt : Bool} {x : TSpan} (hx : okS x) (hm : ∀ y ∈ m, okS y) (hl : m.length ≤ 65536) : ∀ (d j n : Nat) (a : Int) (s : List TSpan), j + d = m.length → d < n → okO s → 0 ≤ a → a ≤ 65536 → s.length ≤ 100000000000 + j →
  cover_Both_L2 N l i m nt x n a j s = some ((inB nt x (m.drop j) (s, a)).2, (inB nt x (m.drop j) (s, a)).1) := by
 intro d
 induction d with
 | zero =>
  intro j n a s hj hn ho h0 h1 hs
  obtain ⟨n, rfl⟩ : ∃ x, n = x + 1 := ⟨n - 1, by omega⟩
  rw [cover_Both_L2, if_neg (by omega), List.drop_eq_nil_of_le (by omega)]; rfl
 | succ d ih =>
  intro j n a s hj hn ho h0 h1 hs
  obtain ⟨n, rfl⟩ : ∃ x, n = x + 1 := ⟨n - 1, by omega⟩
  have hjl : j < m.length := by omega
  have hy := hm m[j] (List.getElem_mem hjl)
  have ok := stY_ok (nt := nt) (p := (s, a)) hx hy ho h0 h1
  have e1 : (j : Int) + 1 = ((j + 1 : Nat) : Int) := by omega
  obtain ⟨y1, y2, y3⟩ := hy
  rw [cover_Both_L2, if_pos (by omega), atI_at (List.getElem?_eq_getElem hjl), Option.bind_some, w64 (x := (j : Int) + 1) (by omega) (by omega), e1, List.drop_eq_getElem_cons hjl]
  simp only [inB]
  by_cases g1 : m[j].To < x.From
  ·
   have e : stY nt x (s, a) m[j] = (s, a) := by unfold stY; rw [if_pos (.inl g1)]
   rw [if_pos g1, e]
   exact ih (j + 1) n a s (by omega) (by omega) ho h0 h1 (by omega)
  rw [if_neg g1]
  by_cases g2 : x.To < m[j].From
  ·
   have e : stY nt x (s, a) m[j] = (s, a) := by unfold stY; rw [if_pos (.inr g2)]
   rw [if_pos g2, e]
   exact ih (j + 1) n a s (by omega) (by omega) ho h0 h1 (by omega)
  rw [if_neg g2]
  cases nt with
  | true =>
   have e : stY true x (s, a) m[j] = (pt s a (m[j].From - 1), m[j].To + 1) := by unfold stY; rw [if_neg (fun h => h.elim g1 g2)]
   rw [e] at ok ⊢
   rw [if_pos rfl, w64 (x := m[j].From - 1) (by omega) (by omega), Both1_eq (by omega) ho, Option.bind_some, w64 (x := m[j].To + 1) (by omega) (by omega)]
   exact ih (j + 1) n _ _ (by omega) (by omega) ok.1 ok.2.1 ok.2.2.1 (by have := ok.2.2.2; simp only at this; omega)
  | false =>
   have e : stY false x (s, a) m[j] = (pt s (max a m[j].From) (min x.To m[j].To), m[j].To + 1) := by unfold stY; rw [if_neg (fun h => h.elim g1 g2)]
   rw [e] at ok ⊢
   rw [if_neg (by decide), Both1_eq (by omega) ho, Option.bind_some, w64 (x := m[j].To + 1) (by omega) (by omega)]
   exact ih (j + 1) n _ _ (by omega) (by omega) ok.1 ok.2.1 ok.2.2.1 (by have := ok.2.2.2; simp only at this; omega)
theorem Both_L3 {N : Nat} (hN : 1000000000000 < N) {l m : List TSpan} {nt : Bool} (hl : ∀ x ∈ l, okS x) (hm : ∀ y ∈ m, okS y) (hll : l.length ≤ 65536) (hml : m.length ≤ 65536) : ∀ (d k n : Nat) (s : List TSpan), k + d = l.length → d < n → okO s → s.length ≤ 65537 * k →
  cover_Both_L3 N l m nt n k s = some (ouB nt m (l.drop k) s) := by
 intro d
 induction d with
 | zero =>
  intro k n s hk hn ho hs
  obtain ⟨n, rfl⟩ : ∃ x, n = x + 1 := ⟨n - 1, by omega⟩
  rw [cover_Both_L3, if_neg (by omega), List.drop_eq_nil_of_le (by omega)]; rfl
 | succ d ih =>
  intro k n s hk hn ho hs
  obtain ⟨n, rfl⟩ : ∃ x, n = x + 1 := ⟨n - 1, by omega⟩
  have hkl : k < l.length := by omega
  have hx := hl l[k] (List.getElem_mem hkl)
  have ok := stX_ok (nt := nt) (x := l[k]) hx hm ho
  have in_ := inB_ok (nt := nt) (x := l[k]) (p := (s, l[k].From)) hx hm ho hx.1 (by have := hx.2.1; have := hx.2.2; simp only; omega)
  have e1 : (k : Int) + 1 = ((k + 1 : Nat) : Int) := by omega
  have h2 := Both_L2 (N := N) (l := l) (i := (k : Int)) (nt := nt) hx hm hml m.length 0 N l[k].From s (by omega) (by omega) ho hx.1 (by have := hx.2.1; have := hx.2.2; omega) (by omega)
  rw [List.drop_zero] at h2
  rw [cover_Both_L3, if_pos (by omega), atI_at (List.getElem?_eq_getElem hkl), Option.bind_some, show cover_Both_L2 N l k m nt l[k] N l[k].From 0 s = _ from h2, Option.bind_some, w64 (x := (k : Int) + 1) (by omega) (by omega), e1, List.drop_eq_getElem_cons hkl]
  simp only [ouB]
  have hlen := in_.2.2.2
  simp only at hlen
  cases nt with
  | true =>
   rw [if_pos rfl, Both1_eq (by omega) in_.1, Option.bind_some]
   exact ih (k + 1) n _ (by omega) (by omega) ok.1 (by have := ok.2; simp only [stX] at this; omega)
  | false =>
   rw [if_neg (by decide)]
   exact ih (k + 1) n _ (by omega) (by omega) ok.1 (by have := ok.2; simp only [stX] at this; omega)
theorem Both_eq {N : Nat} (hN : 1000000000000 < N) {l m : List TSpan} {nt : Bool} (hl : RL 0 l) (hm : RL 0 m) (hll : l.length ≤ 65536) (hml : m.length ≤ 65536) : cover_Both N l m nt = some (ouB nt m l []) := by
 unfold cover_Both
 have h := Both_L3 hN (nt := nt) (hl.okS) (hm.okS) hll hml l.length 0 N [] (by omega) (by omega) (fun x hx => by cases hx) (by simp)
 rw [List.drop_zero] at h
 rw [show cover_Both_L3 N l m nt N 0 [] = _ from h, Option.bind_some]
def glyphT (x : Int) : TSet := ⟨[⟨x, x⟩], false⟩
def setC (c : List TClass) (n : Int) : TSet := ⟨wth n c [], decide (n = 0)⟩
theorem of_L1 {N : Nat} {l : List Int} (hl : l.length ≤ 1000000) : ∀ (d k n : Nat) (s : List TSet), k + d = l.length → d < n → s.length ≤ k → context_of_L1 N l n k s = some (s ++ (l.drop k).map glyphT) := by
 intro d
 induction d with
 | zero =>
  intro k n s hk hn hs
  obtain ⟨n, rfl⟩ : ∃ x, n = x + 1 := ⟨n - 1, by omega⟩
  rw [context_of_L1, if_neg (by omega), List.drop_eq_nil_of_le (by omega)]; simp
 | succ d ih =>
  intro k n s hk hn hs
  obtain ⟨n, rfl⟩ : ∃ x, n = x + 1 := ⟨n - 1, by omega⟩
  have hkl : k < l.length := by omega
  rw [context_of_L1, if_pos (by omega), atI_at (List.getElem?_eq_getElem hkl), Option.bind_some]
  simp only [context_glyph, Option.bind_some]
  rw [if_pos (by omega), w64 (x := (k : Int) + 1) (by omega) (by omega), show (k : Int) + 1 = ((k + 1 : Nat) : Int) by omega, ih (k + 1) n _ (by omega) (by omega) (by simp; omega), List.drop_eq_getElem_cons hkl, List.map_cons, List.append_assoc]
  rfl
theorem of_eq {N : Nat} (hN : 1000000000000 < N) {l : List Int} (hl : l.length ≤ 1000000) : context_of N l = some (l.map glyphT) := by
 unfold context_of
 have h := of_L1 (N := N) hl l.length 0 N [] (by omega) (by omega) (by simp)
 rw [List.drop_zero, List.nil_append] at h
 rw [show context_of_L1 N l N 0 [] = _ from h, Option.bind_some]
theorem ofC_L1 {N : Nat} (hN : 1000000000000 < N) {l : List Int} {c : List TClass} (hc : CB c) (hl : l.length ≤ 1000000) : ∀ (d k n : Nat) (s : List TSet), k + d = l.length → d < n → s.length ≤ k → context_of_v2_L1 N l c n k s = some (s ++ (l.drop k).map (setC c)) := by
 intro d
 induction d with
 | zero =>
  intro k n s hk hn hs
  obtain ⟨n, rfl⟩ : ∃ x, n = x + 1 := ⟨n - 1, by omega⟩
  rw [context_of_v2_L1, if_neg (by omega), List.drop_eq_nil_of_le (by omega)]; simp
 | succ d ih =>
  intro k n s hk hn hs
  obtain ⟨n, rfl⟩ : ∃ x, n = x + 1 := ⟨n - 1, by omega⟩
  have hkl : k < l.length := by omega
  rw [context_of_v2_L1, if_pos (by omega), atI_at (List.getElem?_eq_getElem hkl), Option.bind_some]
  simp only [context_reader_classed_1_1, With_eq hN hc, Option.bind_some]
  rw [if_pos (by omega), w64 (x := (k : Int) + 1) (by omega) (by omega), show (k : Int) + 1 = ((k + 1 : Nat) : Int) by omega, ih (k + 1) n _ (by omega) (by omega) (by simp; omega), List.drop_eq_getElem_cons hkl, List.map_cons, List.append_assoc]
  rfl
theorem ofC_eq {N : Nat} (hN : 1000000000000 < N) {l : List Int} {c : List TClass} (hc : CB c) (hl : l.length ≤ 1000000) : context_of_v2 N l c = some (l.map (setC c)) := by
 unfold context_of_v2
 have h := ofC_L1 (N := N) hN hc hl l.length 0 N [] (by omega) (by omega) (by simp)
 rw [List.drop_zero, List.nil_append] at h
 rw [show context_of_v2_L1 N l c N 0 [] = _ from h, Option.bind_some]
theorem classed2_eq {N : Nat} (hN : 1000000000000 < N) {l : List TSpan} {c : List TClass} (hl : RL 0 l) (hll : l.length ≤ 65536) (hc : CB c) (i : Int) : context_reader_classed_2 N i l c = some (ouB (decide (i = 0)) (wth i c []) l [], false) := by
 unfold context_reader_classed_2
 have h := wth_rl hc i
 rw [With_eq hN hc, Option.bind_some]
 simp only
 rw [Both_eq hN hl h.1 hll h.2, Option.bind_some]
end Go.Proofs.Ytakplhfiohjcmaa.AI
