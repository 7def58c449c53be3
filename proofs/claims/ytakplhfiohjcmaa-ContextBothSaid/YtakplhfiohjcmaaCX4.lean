/- Part of a proof. -/
import Derived.Test.YtakplhfiohjcmaaCX3
set_option linter.unusedVariables false
set_option linter.unusedSimpArgs false
set_option maxRecDepth 100000
namespace Go.Proofs.Ytakplhfiohjcmaa.AI
abbrev TR := List TSet × List TSet × List TSet × List TAct × Int
def ruleM (b : List Int) (mb mi ma : List Int → List TSet) (t : TSet) (ch : Bool) (p : Int) : Option TR :=
 if ch = true then
  (cntr b p 0 16).bind fun n1 => (row b (p + 2) n1).bind fun l1 =>
  (cntr b (p + 2 + n1 * 2) 1 16).bind fun n2 => (row b (p + 2 + n1 * 2 + 2) (n2 - 1)).bind fun l2 =>
  (cntr b (p + 2 + n1 * 2 + 2 + (n2 - 1) * 2) 0 16).bind fun n3 => (row b (p + 2 + n1 * 2 + 2 + (n2 - 1) * 2 + 2) n3).bind fun l3 =>
  (cntr b (p + 2 + n1 * 2 + 2 + (n2 - 1) * 2 + 2 + n3 * 2) 0 16).bind fun n4 =>
  (acts b n2 n4.toNat (p + 2 + n1 * 2 + 2 + (n2 - 1) * 2 + 2 + n3 * 2 + 2)).bind fun a => some (mb l1, t :: mi l2, ma l3, a.1, a.2)
 else
  (cntr b p 1 16).bind fun n2 => (cntr b (p + 2) 0 16).bind fun n4 => (row b (p + 2 + 2) (n2 - 1)).bind fun l2 =>
  (acts b n2 n4.toNat (p + 2 + 2 + (n2 - 1) * 2)).bind fun a => some ([], t :: mi l2, [], a.1, a.2)

theorem rule_eq {N : Nat} (hN : 1000000000000 < N) {b : List Int} (hb : Bytes b) (hl : b.length ≤ 1000000) {sp : List TSpan} {nt ch : Bool} {p : Int} (h0 : -1000000000 ≤ p) (h1 : p ≤ 1000000000) :
  context_reader_rule N b p sp nt ch = some (S (ruleM b (List.map glyphT) (List.map glyphT) (List.map glyphT) ⟨sp, nt⟩ ch p)) := by
 unfold context_reader_rule ruleM
 have w0 : IntKind.i64.wrap (p + 2) = p + 2 := w64 (by omega) (by omega)
 have w1 : IntKind.i64.wrap (p + 2 + 2) = p + 2 + 2 := w64 (by omega) (by omega)
 rw [w0]
 by_cases hc : ch = true
 ·
  rw [if_pos hc, if_pos hc]
  rw [count_eq hN hb hl (by omega), Option.bind_some]
  cases e1 : cntr b _ _ _ with
  | none => rfl
  | some n1 =>
   obtain ⟨n1a, n1b, _⟩ := cntr_some hb e1
   simp only [S, Option.bind_some]
   rw [rowr_eq hN hb hl (by omega) (by omega), Option.bind_some]
   cases e2 : row b _ _ with
   | none => rfl
   | some l1 =>
    obtain ⟨_, l1l, _, _, _, _⟩ := row_some hb e2
    simp only [S, Option.bind_some]
    rw [of_eq hN (l := l1) (by omega), Option.bind_some]
    try simp (disch := omega) only [w64]
    rw [count_eq hN hb hl (by omega), Option.bind_some]
    cases e3 : cntr b _ _ _ with
    | none => rfl
    | some n2 =>
     obtain ⟨n2a, n2b, _⟩ := cntr_some hb e3
     simp only [S, Option.bind_some]
     try simp (disch := omega) only [w64]
     rw [rowr_eq hN hb hl (by omega) (by omega), Option.bind_some]
     cases e4 : row b _ _ with
     | none => rfl
     | some l2 =>
      obtain ⟨_, l2l, _, _, _, _⟩ := row_some hb e4
      simp only [S, Option.bind_some]
      rw [of_eq hN (l := l2) (by omega), Option.bind_some]
      try simp (disch := omega) only [w64]
      cases l2 with
      | nil =>
       rw [if_pos List.map_nil]
       rw [count_eq hN hb hl (by omega), Option.bind_some]
       cases e5 : cntr b _ _ _ with
       | none => rfl
       | some n3 =>
        obtain ⟨n3a, n3b, _⟩ := cntr_some hb e5
        simp only [S, Option.bind_some]
        try simp (disch := omega) only [w64]
        rw [rowr_eq hN hb hl (by omega) (by omega), Option.bind_some]
        cases e6 : row b _ _ with
        | none => rfl
        | some l3 =>
         obtain ⟨_, l3l, _, _, _, _⟩ := row_some hb e6
         simp only [S, Option.bind_some]
         rw [of_eq hN (l := l3) (by omega), Option.bind_some]
         try simp (disch := omega) only [w64]
         rw [count_eq hN hb hl (by omega), Option.bind_some]
         cases e7 : cntr b _ _ _ with
         | none => rfl
         | some n4 =>
          obtain ⟨n4a, n4b, _⟩ := cntr_some hb e7
          simp only [S, Option.bind_some]
          try simp (disch := omega) only [w64]
          rw [acts_eq hN hb hl (by omega) (by omega) (by omega) (by omega), Option.bind_some]
          cases acts b n2 n4.toNat _ with
          | none => rfl
          | some x => rfl
      | cons x0 l2 =>
       rw [if_neg (by simp), if_pos (by simp only [List.length_map, List.length_cons] at *; omega)]
       rw [count_eq hN hb hl (by omega), Option.bind_some]
       cases e5 : cntr b _ _ _ with
       | none => rfl
       | some n3 =>
        obtain ⟨n3a, n3b, _⟩ := cntr_some hb e5
        simp only [S, Option.bind_some]
        try simp (disch := omega) only [w64]
        rw [rowr_eq hN hb hl (by omega) (by omega), Option.bind_some]
        cases e6 : row b _ _ with
        | none => rfl
        | some l3 =>
         obtain ⟨_, l3l, _, _, _, _⟩ := row_some hb e6
         simp only [S, Option.bind_some]
         rw [of_eq hN (l := l3) (by omega), Option.bind_some]
         try simp (disch := omega) only [w64]
         rw [count_eq hN hb hl (by omega), Option.bind_some]
         cases e7 : cntr b _ _ _ with
         | none => rfl
         | some n4 =>
          obtain ⟨n4a, n4b, _⟩ := cntr_some hb e7
          simp only [S, Option.bind_some]
          try simp (disch := omega) only [w64]
          rw [acts_eq hN hb hl (by omega) (by omega) (by omega) (by omega), Option.bind_some]
          cases acts b n2 n4.toNat _ with
          | none => rfl
          | some x => rfl
 ·
  rw [if_neg hc, if_neg hc]
  rw [count_eq hN hb hl (by omega), Option.bind_some]
  cases e1 : cntr b _ _ _ with
  | none => rfl
  | some n2 =>
   obtain ⟨n2a, n2b, _⟩ := cntr_some hb e1
   simp only [S, Option.bind_some]
   rw [count_eq hN hb hl (by omega), Option.bind_some]
   cases e2 : cntr b _ _ _ with
   | none => rfl
   | some n4 =>
    obtain ⟨n4a, n4b, _⟩ := cntr_some hb e2
    simp only [S, Option.bind_some]
    try simp (disch := omega) only [w64]
    rw [rowr_eq hN hb hl (by omega) (by omega), Option.bind_some]
    cases e4 : row b _ _ with
    | none => rfl
    | some l2 =>
     obtain ⟨_, l2l, _, _, _, _⟩ := row_some hb e4
     simp only [S, Option.bind_some]
     rw [of_eq hN (l := l2) (by omega), Option.bind_some]
     try simp (disch := omega) only [w64]
     cases l2 with
     | nil =>
      rw [if_pos List.map_nil]
      rw [acts_eq hN hb hl (by omega) (by omega) (by omega) (by omega), Option.bind_some]
      cases acts b n2 n4.toNat _ with
      | none => rfl
      | some x => rfl
     | cons x0 l2 =>
      rw [if_neg (by simp), if_pos (by simp only [List.length_map, List.length_cons] at *; omega)]
      rw [acts_eq hN hb hl (by omega) (by omega) (by omega) (by omega), Option.bind_some]
      cases acts b n2 n4.toNat _ with
      | none => rfl
      | some x => rfl
theorem rule_v2_eq {N : Nat} (hN : 1000000000000 < N) {b : List Int} (hb : Bytes b) (hl : b.length ≤ 1000000) {c1 c2 c3 : List TClass} (g1 : CB c1) (g2 : CB c2) (g3 : CB c3) {sp : List TSpan} {nt ch : Bool} {p : Int} (h0 : -1000000000 ≤ p) (h1 : p ≤ 1000000000) :
  context_reader_rule_v2 N b p sp nt c1 c2 c3 ch = some (S (ruleM b (List.map (setC c1)) (List.map (setC c2)) (List.map (setC c3)) ⟨sp, nt⟩ ch p)) := by
 unfold context_reader_rule_v2 ruleM
 have w0 : IntKind.i64.wrap (p + 2) = p + 2 := w64 (by omega) (by omega)
 have w1 : IntKind.i64.wrap (p + 2 + 2) = p + 2 + 2 := w64 (by omega) (by omega)
 rw [w0]
 by_cases hc : ch = true
 ·
  rw [if_pos hc, if_pos hc]
  rw [count_eq hN hb hl (by omega), Option.bind_some]
  cases e1 : cntr b _ _ _ with
  | none => rfl
  | some n1 =>
   obtain ⟨n1a, n1b, _⟩ := cntr_some hb e1
   simp only [S, Option.bind_some]
   rw [rowr_eq hN hb hl (by omega) (by omega), Option.bind_some]
   cases e2 : row b _ _ with
   | none => rfl
   | some l1 =>
    obtain ⟨_, l1l, _, _, _, _⟩ := row_some hb e2
    simp only [S, Option.bind_some]
    rw [ofC_eq hN g1 (l := l1) (by omega), Option.bind_some]
    try simp (disch := omega) only [w64]
    rw [count_eq hN hb hl (by omega), Option.bind_some]
    cases e3 : cntr b _ _ _ with
    | none => rfl
    | some n2 =>
     obtain ⟨n2a, n2b, _⟩ := cntr_some hb e3
     simp only [S, Option.bind_some]
     try simp (disch := omega) only [w64]
     rw [rowr_eq hN hb hl (by omega) (by omega), Option.bind_some]
     cases e4 : row b _ _ with
     | none => rfl
     | some l2 =>
      obtain ⟨_, l2l, _, _, _, _⟩ := row_some hb e4
      simp only [S, Option.bind_some]
      rw [ofC_eq hN g2 (l := l2) (by omega), Option.bind_some]
      try simp (disch := omega) only [w64]
      cases l2 with
      | nil =>
       rw [if_pos List.map_nil]
       rw [count_eq hN hb hl (by omega), Option.bind_some]
       cases e5 : cntr b _ _ _ with
       | none => rfl
       | some n3 =>
        obtain ⟨n3a, n3b, _⟩ := cntr_some hb e5
        simp only [S, Option.bind_some]
        try simp (disch := omega) only [w64]
        rw [rowr_eq hN hb hl (by omega) (by omega), Option.bind_some]
        cases e6 : row b _ _ with
        | none => rfl
        | some l3 =>
         obtain ⟨_, l3l, _, _, _, _⟩ := row_some hb e6
         simp only [S, Option.bind_some]
         rw [ofC_eq hN g3 (l := l3) (by omega), Option.bind_some]
         try simp (disch := omega) only [w64]
         rw [count_eq hN hb hl (by omega), Option.bind_some]
         cases e7 : cntr b _ _ _ with
         | none => rfl
         | some n4 =>
          obtain ⟨n4a, n4b, _⟩ := cntr_some hb e7
          simp only [S, Option.bind_some]
          try simp (disch := omega) only [w64]
          rw [acts_eq hN hb hl (by omega) (by omega) (by omega) (by omega), Option.bind_some]
          cases acts b n2 n4.toNat _ with
          | none => rfl
          | some x => rfl
      | cons x0 l2 =>
       rw [if_neg (by simp), if_pos (by simp only [List.length_map, List.length_cons] at *; omega)]
       rw [count_eq hN hb hl (by omega), Option.bind_some]
       cases e5 : cntr b _ _ _ with
       | none => rfl
       | some n3 =>
        obtain ⟨n3a, n3b, _⟩ := cntr_some hb e5
        simp only [S, Option.bind_some]
        try simp (disch := omega) only [w64]
        rw [rowr_eq hN hb hl (by omega) (by omega), Option.bind_some]
        cases e6 : row b _ _ with
        | none => rfl
        | some l3 =>
         obtain ⟨_, l3l, _, _, _, _⟩ := row_some hb e6
         simp only [S, Option.bind_some]
         rw [ofC_eq hN g3 (l := l3) (by omega), Option.bind_some]
         try simp (disch := omega) only [w64]
         rw [count_eq hN hb hl (by omega), Option.bind_some]
         cases e7 : cntr b _ _ _ with
         | none => rfl
         | some n4 =>
          obtain ⟨n4a, n4b, _⟩ := cntr_some hb e7
          simp only [S, Option.bind_some]
          try simp (disch := omega) only [w64]
          rw [acts_eq hN hb hl (by omega) (by omega) (by omega) (by omega), Option.bind_some]
          cases acts b n2 n4.toNat _ with
          | none => rfl
          | some x => rfl
 ·
  rw [if_neg hc, if_neg hc]
  rw [count_eq hN hb hl (by omega), Option.bind_some]
  cases e1 : cntr b _ _ _ with
  | none => rfl
  | some n2 =>
   obtain ⟨n2a, n2b, _⟩ := cntr_some hb e1
   simp only [S, Option.bind_some]
   rw [count_eq hN hb hl (by omega), Option.bind_some]
   cases e2 : cntr b _ _ _ with
   | none => rfl
   | some n4 =>
    obtain ⟨n4a, n4b, _⟩ := cntr_some hb e2
    simp only [S, Option.bind_some]
    try simp (disch := omega) only [w64]
    rw [rowr_eq hN hb hl (by omega) (by omega), Option.bind_some]
    cases e4 : row b _ _ with
    | none => rfl
    | some l2 =>
     obtain ⟨_, l2l, _, _, _, _⟩ := row_some hb e4
     simp only [S, Option.bind_some]
     rw [ofC_eq hN g2 (l := l2) (by omega), Option.bind_some]
     try simp (disch := omega) only [w64]
     cases l2 with
     | nil =>
      rw [if_pos List.map_nil]
      rw [acts_eq hN hb hl (by omega) (by omega) (by omega) (by omega), Option.bind_some]
      cases acts b n2 n4.toNat _ with
      | none => rfl
      | some x => rfl
     | cons x0 l2 =>
      rw [if_neg (by simp), if_pos (by simp only [List.length_map, List.length_cons] at *; omega)]
      rw [acts_eq hN hb hl (by omega) (by omega) (by omega) (by omega), Option.bind_some]
      cases acts b n2 n4.toNat _ with
      | none => rfl
      | some x => rfl
end Go.Proofs.Ytakplhfiohjcmaa.AI
