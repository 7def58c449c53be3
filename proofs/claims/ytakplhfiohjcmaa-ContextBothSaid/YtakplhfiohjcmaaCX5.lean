/- Plain laws of layer 11: lists of rules, tables. -/
import Derived.Test.YtakplhfiohjcmaaCX4
set_option linter.unusedVariables false
set_option linter.unusedSimpArgs false
set_option maxRecDepth 100000
namespace Go.Proofs.Ytakplhfiohjcmaa.AI
def rulesM (rl : Int → Option TR) (base : Int) : List Int → List TCtx → Option (List TCtx)
 | [], s => some s
 | o :: r, s => (rl (base + o)).bind fun q => if s.length + 1 ≤ 64 then rulesM rl base r (s ++ [⟨q.1, q.2.1, q.2.2.1, q.2.2.2.1⟩]) else none
def listM (b : List Int) (rl : Nat → Int → Option TR) (base : Int) : Nat → List Int → List TCtx → Option (List TCtx)
 | _, [], s => some s
 | i, o :: r, s => if o = 0 then listM b rl base (i + 1) r s else (num b (base + o)).bind fun n => if n ≤ 64 then (row b (base + o + 2) n).bind fun l => (rulesM (rl i) (base + o) l s).bind fun s' => listM b rl base (i + 1) r s' else none
theorem rulesM_len {rl : Int → Option TR} {base : Int} : ∀ {l : List Int} {s t : List TCtx}, rulesM rl base l s = some t → s.length ≤ 64 → t.length ≤ 64
 | [], s, t, h, hs => by cases h; exact hs
 | o :: r, s, t, h, hs => by
  simp only [rulesM] at h
  obtain ⟨q, h1, h2⟩ := Option.bind_eq_some_iff.1 h
  split at h2
  ·
   exact rulesM_len h2 (by simp; omega)
  ·
   cases h2
def glR (N : Nat) (b : List Int) (ch : Bool) (gl : List Int) (i : Nat) (p : Int) : Option TR := ruleM b (List.map glyphT) (List.map glyphT) (List.map glyphT) (glyphT ((gl[i]?).getD 0)) ch p
def clR (b : List Int) (ch : Bool) (sp : List TSpan) (c0 c1 c2 c3 : List TClass) (i : Nat) (p : Int) : Option TR := ruleM b (List.map (setC c1)) (List.map (setC c2)) (List.map (setC c3)) ⟨ouB (decide ((i : Int) = 0)) (wth (i : Int) c0 []) sp [], false⟩ ch p
section
variable {N : Nat} (hN : 1000000000000 < N) {b : List Int} (hb : Bytes b) (hl : b.length ≤ 1000000)
include hN hb hl
theorem list_row_L2 {gl : List Int} {ch : Bool} {base x4 a1 : Int} {l3 y : List Int} {i : Nat} (hig : i < gl.length) (h0 : -1000000 ≤ base) (h1 : base ≤ 1000000) (h2 : 0 ≤ x4) (h3 : x4 ≤ 65535) (hy : ∀ x ∈ y, 0 ≤ x ∧ x ≤ 65535) (hyl : y.length ≤ 1000000) : ∀ (d k n : Nat) (s : List TCtx), k + d = y.length → d < n → s.length ≤ 64 →
  context_reader_list_row_L2 N base (i : Int) x4 l3 y b a1 gl ch n k s = some (S (rulesM (glR N b ch gl i) (base + x4) (y.drop k) s)) := by
 intro d
 induction d with
 | zero =>
  intro k n s hk hn hs
  obtain ⟨n, rfl⟩ : ∃ x, n = x + 1 := ⟨n - 1, by omega⟩
  rw [context_reader_list_row_L2, if_neg (by omega), List.drop_eq_nil_of_le (by omega)]; rfl
 | succ d ih =>
  intro k n s hk hn hs
  obtain ⟨n, rfl⟩ : ∃ x, n = x + 1 := ⟨n - 1, by omega⟩
  have hkl : k < y.length := by omega
  have hx := hy y[k] (List.getElem_mem hkl)
  rw [context_reader_list_row_L2, if_pos (by omega), atI_at (List.getElem?_eq_getElem hkl), Option.bind_some, w64 (x := base + x4) (by omega) (by omega), w64 (x := base + x4 + y[k]) (by omega) (by omega), w64 (x := (k : Int) + 1) (by omega) (by omega), show (k : Int) + 1 = ((k + 1 : Nat) : Int) by omega, List.drop_eq_getElem_cons hkl]
  rw [show context_reader_single_1_row N (i : Int) gl = some ([⟨(gl[i]?).getD 0, (gl[i]?).getD 0⟩], false) from by unfold context_reader_single_1_row; rw [atI_at (List.getElem?_eq_getElem hig), List.getElem?_eq_getElem hig]; rfl]
  rw [Option.bind_some]
  simp only
  rw [rule_eq hN hb hl (by omega) (by omega)]
  change (some (S ((glR N b ch gl i) (base + x4 + y[k])))).bind _ = _
  rw [Option.bind_some]
  simp only [rulesM]
  cases (glR N b ch gl i) (base + x4 + y[k]) with
  | none => rfl
  | some q =>
   simp only [S, Option.bind_some]
   rw [if_pos (by omega), must_eq, Option.bind_some]
   by_cases h64 : s.length + 1 ≤ 64
   ·
    rw [if_pos h64, if_pos (by simp only [decide_eq_true_eq]; omega)]
    have := ih (k + 1) n (s ++ [⟨q.1, q.2.1, q.2.2.1, q.2.2.2.1⟩]) (by omega) (by omega) (by simp; omega)
    exact this
   ·
    rw [if_neg h64, if_neg (by simp only [decide_eq_true_eq]; omega)]
theorem list_row_L3 {gl : List Int} {ch : Bool} {base a1 : Int} {l3 : List Int} (hg : gl.length = l3.length) (h0 : -1000000 ≤ base) (h1 : base ≤ 1000000) (hy : ∀ x ∈ l3, 0 ≤ x ∧ x ≤ 65535) (hyl : l3.length ≤ 1000000) : ∀ (d k n : Nat) (s : List TCtx), k + d = l3.length → d < n → s.length ≤ 64 →
  context_reader_list_row_L3 N base l3 b a1 gl ch n k s = some (S (listM b (glR N b ch gl) base k (l3.drop k) s)) := by
 intro d
 induction d with
 | zero =>
  intro k n s hk hn hs
  obtain ⟨n, rfl⟩ : ∃ x, n = x + 1 := ⟨n - 1, by omega⟩
  rw [context_reader_list_row_L3, if_neg (by omega), List.drop_eq_nil_of_le (by omega)]; rfl
 | succ d ih =>
  intro k n s hk hn hs
  obtain ⟨n, rfl⟩ : ∃ x, n = x + 1 := ⟨n - 1, by omega⟩
  have hkl : k < l3.length := by omega
  have hx := hy l3[k] (List.getElem_mem hkl)
  rw [context_reader_list_row_L3, if_pos (by omega), atI_at (List.getElem?_eq_getElem hkl), Option.bind_some, w64 (x := (k : Int) + 1) (by omega) (by omega), show (k : Int) + 1 = ((k + 1 : Nat) : Int) by omega, List.drop_eq_getElem_cons hkl]
  simp only [listM]
  by_cases hz : l3[k] = 0
  ·
   rw [if_pos hz, if_pos hz]
   exact ih (k + 1) n s (by omega) (by omega) hs
  ·
   rw [if_neg hz, if_neg hz, w64 (x := base + l3[k]) (by omega) (by omega), number_eq hN hb hl (by omega), Option.bind_some]
   cases h5 : num b (base + l3[k]) with
   | none => rfl
   | some m =>
    have hm := num_some hb h5
    simp only [S, Option.bind_some]
    rw [must_eq, Option.bind_some]
    by_cases h6 : m ≤ 64
    ·
     rw [if_pos h6, if_pos (by simp only [decide_eq_true_eq]; omega)]
     simp only
     rw [w64 (x := base + l3[k] + 2) (by omega) (by omega), rowr_eq hN hb hl (by omega) (by omega), Option.bind_some]
     cases h7 : row b (base + l3[k] + 2) m with
     | none => rfl
     | some l =>
      have hr := row_some hb h7
      simp only [S, Option.bind_some]
      have e := list_row_L2 hN hb hl (base := base) (x4 := l3[k]) (a1 := a1) (l3 := l3) (y := l) (i := k) (ch := ch) (gl := gl) (by omega) h0 h1 hx.1 hx.2 hr.2.2.2.2.2 (by omega) l.length 0 N s (by omega) (by omega) hs
      rw [List.drop_zero] at e
      rw [show context_reader_list_row_L2 N base (k : Int) l3[k] l3 l b a1 gl ch N 0 s = _ from e, Option.bind_some]
      cases h8 : rulesM (glR N b ch gl k) (base + l3[k]) l s with
      | none => rfl
      | some s2 =>
       simp only [S, Option.bind_some]
       exact ih (k + 1) n s2 (by omega) (by omega) (rulesM_len h8 hs)
    ·
     rw [if_neg h6, if_neg (by simp only [decide_eq_true_eq]; omega)]
theorem list_row_eq {gl : List Int} {ch : Bool} {base a1 : Int} {l3 : List Int} (hg : gl.length = l3.length) (h0 : -1000000 ≤ base) (h1 : base ≤ 1000000) (hy : ∀ x ∈ l3, 0 ≤ x ∧ x ≤ 65535) (hyl : l3.length ≤ 1000000) :
  context_reader_list_row N b a1 base l3 gl ch = some (S (listM b (glR N b ch gl) base 0 l3 [])) := by
 unfold context_reader_list_row
 have e := list_row_L3 hN hb hl (base := base) (a1 := a1) (l3 := l3) (ch := ch) (gl := gl) hg h0 h1 hy hyl l3.length 0 N [] (by omega) (by omega) (by simp)
 rw [List.drop_zero] at e
 rw [show context_reader_list_row_L3 N base l3 b a1 gl ch N 0 [] = _ from e, Option.bind_some]
 cases listM b (glR N b ch gl) base 0 l3 [] <;> rfl
theorem list_L2 {sp : List TSpan} {c0 c1 c2 c3 : List TClass} {ch : Bool} (hsp : RL 0 sp) (hspl : sp.length ≤ 65536) (g0 : CB c0) (g1 : CB c1) (g2 : CB c2) (g3 : CB c3) {base x4 a1 : Int} {l3 y : List Int} {i : Nat} (h0 : -1000000 ≤ base) (h1 : base ≤ 1000000) (h2 : 0 ≤ x4) (h3 : x4 ≤ 65535) (hy : ∀ x ∈ y, 0 ≤ x ∧ x ≤ 65535) (hyl : y.length ≤ 1000000) : ∀ (d k n : Nat) (s : List TCtx), k + d = y.length → d < n → s.length ≤ 64 →
  context_reader_list_L2 N base (i : Int) x4 l3 y b a1 sp c0 c1 c2 c3 ch n k s = some (S (rulesM (clR b ch sp c0 c1 c2 c3 i) (base + x4) (y.drop k) s)) := by
 intro d
 induction d with
 | zero =>
  intro k n s hk hn hs
  obtain ⟨n, rfl⟩ : ∃ x, n = x + 1 := ⟨n - 1, by omega⟩
  rw [context_reader_list_L2, if_neg (by omega), List.drop_eq_nil_of_le (by omega)]; rfl
 | succ d ih =>
  intro k n s hk hn hs
  obtain ⟨n, rfl⟩ : ∃ x, n = x + 1 := ⟨n - 1, by omega⟩
  have hkl : k < y.length := by omega
  have hx := hy y[k] (List.getElem_mem hkl)
  rw [context_reader_list_L2, if_pos (by omega), atI_at (List.getElem?_eq_getElem hkl), Option.bind_some, w64 (x := base + x4) (by omega) (by omega), w64 (x := base + x4 + y[k]) (by omega) (by omega), w64 (x := (k : Int) + 1) (by omega) (by omega), show (k : Int) + 1 = ((k + 1 : Nat) : Int) by omega, List.drop_eq_getElem_cons hkl]
  rw [classed2_eq hN hsp hspl g0]
  rw [Option.bind_some]
  simp only
  rw [rule_v2_eq hN hb hl g1 g2 g3 (by omega) (by omega)]
  change (some (S ((clR b ch sp c0 c1 c2 c3 i) (base + x4 + y[k])))).bind _ = _
  rw [Option.bind_some]
  simp only [rulesM]
  cases (clR b ch sp c0 c1 c2 c3 i) (base + x4 + y[k]) with
  | none => rfl
  | some q =>
   simp only [S, Option.bind_some]
   rw [if_pos (by omega), must_eq, Option.bind_some]
   by_cases h64 : s.length + 1 ≤ 64
   ·
    rw [if_pos h64, if_pos (by simp only [decide_eq_true_eq]; omega)]
    have := ih (k + 1) n (s ++ [⟨q.1, q.2.1, q.2.2.1, q.2.2.2.1⟩]) (by omega) (by omega) (by simp; omega)
    exact this
   ·
    rw [if_neg h64, if_neg (by simp only [decide_eq_true_eq]; omega)]
theorem list_L3 {sp : List TSpan} {c0 c1 c2 c3 : List TClass} {ch : Bool} (hsp : RL 0 sp) (hspl : sp.length ≤ 65536) (g0 : CB c0) (g1 : CB c1) (g2 : CB c2) (g3 : CB c3) {base a1 : Int} {l3 : List Int} (h0 : -1000000 ≤ base) (h1 : base ≤ 1000000) (hy : ∀ x ∈ l3, 0 ≤ x ∧ x ≤ 65535) (hyl : l3.length ≤ 1000000) : ∀ (d k n : Nat) (s : List TCtx), k + d = l3.length → d < n → s.length ≤ 64 →
  context_reader_list_L3 N base l3 b a1 sp c0 c1 c2 c3 ch n k s = some (S (listM b (clR b ch sp c0 c1 c2 c3) base k (l3.drop k) s)) := by
 intro d
 induction d with
 | zero =>
  intro k n s hk hn hs
  obtain ⟨n, rfl⟩ : ∃ x, n = x + 1 := ⟨n - 1, by omega⟩
  rw [context_reader_list_L3, if_neg (by omega), List.drop_eq_nil_of_le (by omega)]; rfl
 | succ d ih =>
  intro k n s hk hn hs
  obtain ⟨n, rfl⟩ : ∃ x, n = x + 1 := ⟨n - 1, by omega⟩
  have hkl : k < l3.length := by omega
  have hx := hy l3[k] (List.getElem_mem hkl)
  rw [context_reader_list_L3, if_pos (by omega), atI_at (List.getElem?_eq_getElem hkl), Option.bind_some, w64 (x := (k : Int) + 1) (by omega) (by omega), show (k : Int) + 1 = ((k + 1 : Nat) : Int) by omega, List.drop_eq_getElem_cons hkl]
  simp only [listM]
  by_cases hz : l3[k] = 0
  ·
   rw [if_pos hz, if_pos hz]
   exact ih (k + 1) n s (by omega) (by omega) hs
  ·
   rw [if_neg hz, if_neg hz, w64 (x := base + l3[k]) (by omega) (by omega), number_eq hN hb hl (by omega), Option.bind_some]
   cases h5 : num b (base + l3[k]) with
   | none => rfl
   | some m =>
    have hm := num_some hb h5
    simp only [S, Option.bind_some]
    rw [must_eq, Option.bind_some]
    by_cases h6 : m ≤ 64
    ·
     rw [if_pos h6, if_pos (by simp only [decide_eq_true_eq]; omega)]
     simp only
     rw [w64 (x := base + l3[k] + 2) (by omega) (by omega), rowr_eq hN hb hl (by omega) (by omega), Option.bind_some]
     cases h7 : row b (base + l3[k] + 2) m with
     | none => rfl
     | some l =>
      have hr := row_some hb h7
      simp only [S, Option.bind_some]
      have e := list_L2 hN hb hl hsp hspl g0 g1 g2 g3 (base := base) (x4 := l3[k]) (a1 := a1) (l3 := l3) (y := l) (i := k) (ch := ch) h0 h1 hx.1 hx.2 hr.2.2.2.2.2 (by omega) l.length 0 N s (by omega) (by omega) hs
      rw [List.drop_zero] at e
      rw [show context_reader_list_L2 N base (k : Int) l3[k] l3 l b a1 sp c0 c1 c2 c3 ch N 0 s = _ from e, Option.bind_some]
      cases h8 : rulesM (clR b ch sp c0 c1 c2 c3 k) (base + l3[k]) l s with
      | none => rfl
      | some s2 =>
       simp only [S, Option.bind_some]
       exact ih (k + 1) n s2 (by omega) (by omega) (rulesM_len h8 hs)
    ·
     rw [if_neg h6, if_neg (by simp only [decide_eq_true_eq]; omega)]
theorem list_eq {sp : List TSpan} {c0 c1 c2 c3 : List TClass} {ch : Bool} (hsp : RL 0 sp) (hspl : sp.length ≤ 65536) (g0 : CB c0) (g1 : CB c1) (g2 : CB c2) (g3 : CB c3) {base a1 : Int} {l3 : List Int} (h0 : -1000000 ≤ base) (h1 : base ≤ 1000000) (hy : ∀ x ∈ l3, 0 ≤ x ∧ x ≤ 65535) (hyl : l3.length ≤ 1000000) :
  context_reader_list N b a1 base l3 sp c0 c1 c2 c3 ch = some (S (listM b (clR b ch sp c0 c1 c2 c3) base 0 l3 [])) := by
 unfold context_reader_list
 have e := list_L3 hN hb hl hsp hspl g0 g1 g2 g3 (base := base) (a1 := a1) (l3 := l3) (ch := ch) h0 h1 hy hyl l3.length 0 N [] (by omega) (by omega) (by simp)
 rw [List.drop_zero] at e
 rw [show context_reader_list_L3 N base l3 b a1 sp c0 c1 c2 c3 ch N 0 [] = _ from e, Option.bind_some]
 cases listM b (clR b ch sp c0 c1 c2 c3) base 0 l3 [] <;> rfl
end
def rgO (a b : Int) : List Int := (List.range (b - a + 1).toNat).map fun (k : Nat) => a + (k : Int)
def glO : List TSpan → List Int
 | [] => []
 | x :: r => rgO x.From x.To ++ glO r
theorem glO_len {lo : Int} : ∀ {l : List TSpan}, RL lo l → ((glO l).length : Int) = cnt l := by
 intro l
 induction l generalizing lo with
 | nil => intro _; rfl
 | cons x r ih =>
  intro h
  obtain ⟨h1, h2, h3, h4⟩ := h
  have := ih h4
  simp only [glO, rgO, List.length_append, List.length_map, List.length_range, cnt]
  omega
theorem rgO_cons {a b : Int} (h : a ≤ b) : rgO a b = a :: rgO (a + 1) b := by
 unfold rgO
 obtain ⟨m, hm⟩ : ∃ m : Nat, b - a = m := ⟨(b - a).toNat, by omega⟩
 rw [show (b - a + 1).toNat = m + 1 by omega, show (b - (a + 1) + 1).toNat = m by omega, List.range_succ_eq_map]
 simp only [List.map_cons, List.map_map]
 refine congr (congrArg _ (by omega)) (List.map_congr_left fun k _ => ?_)
 simp only [Function.comp]
 omega
theorem rgO_nil {a b : Int} (h : b < a) : rgO a b = [] := by
 unfold rgO
 rw [show (b - a + 1).toNat = 0 by omega]; rfl
theorem single_L2 {N : Nat} {a2 a1 y13 i22 : Int} {ch : Bool} {x9 : TSet} {b : List Int} {x : TSpan} (hy : y13 ≤ 1000000) (hx0 : 0 ≤ x.From) (hx : x.To ≤ 65535) : ∀ (d n : Nat) (i : Int) (s : List Int), (x.To - i + 1).toNat = d → 0 ≤ i → d < n → s.length + (d : Int) ≤ y13 →
  context_reader_single_L2 N a2 ch y13 x9 i22 b a1 x n i s = some (s ++ rgO i x.To) := by
 intro d
 induction d with
 | zero =>
  intro n i s hk hi hn hs
  obtain ⟨n, rfl⟩ : ∃ x, n = x + 1 := ⟨n - 1, by omega⟩
  rw [context_reader_single_L2, if_neg (by omega), rgO_nil (by omega), List.append_nil]
 | succ d ih =>
  intro n i s hk hi hn hs
  obtain ⟨n, rfl⟩ : ∃ x, n = x + 1 := ⟨n - 1, by omega⟩
  rw [context_reader_single_L2, if_pos (by omega), if_pos (by omega), if_pos (by omega), w64 (x := i + 1) (by omega) (by omega), ih n (i + 1) _ (by omega) (by omega) (by omega) (by simp; omega), rgO_cons (a := i) (by omega), List.append_assoc]
  rfl
theorem single_L3 {N : Nat} (hN : 1000000000000 < N) {a2 a1 y13 : Int} {ch : Bool} {x9 : TSet} {b : List Int} (hy : y13 ≤ 1000000) (hR : RL 0 x9.Spans) (hl : x9.Spans.length ≤ 65536) : ∀ (d k n : Nat) (s : List Int), k + d = x9.Spans.length → d < n → s.length + cnt (x9.Spans.drop k) ≤ y13 →
  context_reader_single_L3 N a2 ch y13 x9 b a1 n k s = some (s ++ glO (x9.Spans.drop k)) := by
 intro d
 induction d with
 | zero =>
  intro k n s hk hn hs
  obtain ⟨n, rfl⟩ : ∃ x, n = x + 1 := ⟨n - 1, by omega⟩
  rw [context_reader_single_L3, if_neg (by omega), List.drop_eq_nil_of_le (by omega)]; simp [glO]
 | succ d ih =>
  intro k n s hk hn hs
  obtain ⟨n, rfl⟩ : ∃ x, n = x + 1 := ⟨n - 1, by omega⟩
  have hkl : k < x9.Spans.length := by omega
  have hx := RL.lows hR x9.Spans[k] (List.getElem_mem hkl)
  have hc := cnt_parts hR (k + 1)
  rw [context_reader_single_L3, if_pos (by omega), atI_at (List.getElem?_eq_getElem hkl), Option.bind_some]
  rw [List.drop_eq_getElem_cons hkl] at hs ⊢
  simp only [cnt, glO] at hs ⊢
  rw [single_L2 hy hx.1 hx.2.2 _ N _ s rfl hx.1 (by omega) (by omega), Option.bind_some, w64 (x := (k : Int) + 1) (by omega) (by omega), show (k : Int) + 1 = ((k + 1 : Nat) : Int) by omega,
   ih (k + 1) n _ (by omega) (by omega) (by simp only [rgO, List.length_append, List.length_map, List.length_range]; omega), List.append_assoc]
theorem Count_L1 {N : Nat} {l : List TSpan} (hR : RL 0 l) (hl : l.length ≤ 65536) : ∀ (d k n : Nat) (c : Int), k + d = l.length → d < n → 0 ≤ c → c + cnt (l.drop k) ≤ 1000000 →
  cover_Count_L1 N l n c k = some (c + cnt (l.drop k)) := by
 intro d
 induction d with
 | zero =>
  intro k n c hk hn h0 hs
  obtain ⟨n, rfl⟩ : ∃ x, n = x + 1 := ⟨n - 1, by omega⟩
  rw [cover_Count_L1, if_neg (by omega), List.drop_eq_nil_of_le (by omega)]; simp [cnt]
 | succ d ih =>
  intro k n c hk hn h0 hs
  obtain ⟨n, rfl⟩ : ∃ x, n = x + 1 := ⟨n - 1, by omega⟩
  have hkl : k < l.length := by omega
  have hx := RL.lows hR l[k] (List.getElem_mem hkl)
  have hc := cnt_parts hR (k + 1)
  rw [cover_Count_L1, if_pos (by omega), atI_at (List.getElem?_eq_getElem hkl), Option.bind_some]
  rw [List.drop_eq_getElem_cons hkl] at hs ⊢
  simp only [cnt] at hs ⊢
  rw [w64 (x := l[k].To - l[k].From) (by omega) (by omega), w64 (x := l[k].To - l[k].From + 1) (by omega) (by omega), w64 (x := c + (l[k].To - l[k].From + 1)) (by omega) (by omega), w64 (x := (k : Int) + 1) (by omega) (by omega), show (k : Int) + 1 = ((k + 1 : Nat) : Int) by omega,
   ih (k + 1) n _ (by omega) (by omega) (by omega) (by omega)]
  exact congrArg some (by omega)
theorem Count_eq {N : Nat} (hN : 1000000000000 < N) {l : List TSpan} (hR : RL 0 l) (hl : l.length ≤ 65536) : cover_Count N l = some (cnt l) := by
 unfold cover_Count
 have hc := cnt_parts hR 0
 have h := Count_L1 (N := N) hR hl l.length 0 N 0 (by omega) (by omega) (by omega) (by rw [List.drop_zero]; omega)
 rw [List.drop_zero] at h
 rw [show cover_Count_L1 N l N 0 0 = _ from h, Option.bind_some]
 exact congrArg some (by omega)
end Go.Proofs.Ytakplhfiohjcmaa.AI
