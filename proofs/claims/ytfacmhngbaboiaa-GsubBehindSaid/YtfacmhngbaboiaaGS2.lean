/- Plain laws of layer 12: the reader of a lookup. -/
import Derived.Test.YtfacmhngbaboiaaGS1
set_option linter.unusedVariables false
set_option linter.unusedSimpArgs false
set_option maxRecDepth 100000
namespace Go.Proofs.Ytfacmhngbaboiaa.AI
section
variable {N : Nat} (hN : 1000000000000 < N) {b : List Int} (hb : Bytes b) (hl : b.length ≤ 100000)
include hN hb hl
theorem gcontexts_eq {p q k : Int} (h0 : -700000 ≤ p) (h1 : p ≤ 700000) : gsub_reader_contexts N b p q k = some (S ((tableM N b p false).map fun r => G7.t ⟨k, [], false, 0, [], [], r.1⟩)) := by
 unfold gsub_reader_contexts context_Context
 rw [table_eq hN hb (by omega) (by omega) (by omega), Option.bind_some]
 cases tableM N b p false <;> rfl
theorem gchains_eq {p q k : Int} (h0 : -700000 ≤ p) (h1 : p ≤ 700000) : gsub_reader_contexts_v2 N b p q k = some (S ((tableM N b p true).map fun r => G7.t ⟨k, [], false, 0, [], [], r.1⟩)) := by
 unfold gsub_reader_contexts_v2 context_Chain
 rw [table_eq hN hb (by omega) (by omega) (by omega), Option.bind_some]
 cases tableM N b p true <;> rfl
theorem gkind_eq {p k : Int} (h0 : -500000 ≤ p) (h1 : p ≤ 500000) (h7 : k ≠ 7) : gsub_read_v2 N b p k = some (S ((gKind N b p k none).map G7.t)) := by
 unfold gsub_read_v2 gKind
 by_cases k5 : k = 5
 ·
  rw [if_pos k5, if_pos k5, gcontexts_eq hN hb hl (by omega) (by omega), Option.bind_some, k5]
  cases tableM N b p false <;> rfl
 rw [if_neg k5, if_neg k5]
 by_cases k6 : k = 6
 ·
  rw [if_pos k6, if_pos k6, gchains_eq hN hb hl (by omega) (by omega), Option.bind_some, k6]
  cases tableM N b p true <;> rfl
 rw [if_neg k6, if_neg k6]
 by_cases g1 : 1 ≤ k
 rotate_left
 ·
  rw [if_neg g1, if_neg (show ¬ (1 ≤ k ∧ k ≤ 8) from fun h => g1 h.1), gmust_eq]; rfl
 rw [if_pos g1, gmust_eq, Option.bind_some]
 by_cases g8 : k ≤ 8
 rotate_left
 ·
  rw [if_neg (by simpa using g8), if_neg (show ¬ (1 ≤ k ∧ k ≤ 8) from fun h => g8 h.2)]; rfl
 rw [if_pos (by simpa using g8), if_pos (show 1 ≤ k ∧ k ≤ 8 from ⟨g1, g8⟩)]
 simp only
 rw [gnumber_eq hN hb hl (by omega), Option.bind_some]
 cases e1 : num b p with
 | none => rfl
 | some f =>
  obtain ⟨_, fa, fb, _⟩ := num_some hb e1
  simp only [S, Option.bind_some]
  rw [w64 (x := p + 2) (by omega) (by omega)]
  by_cases f1 : f = 1
  ·
   rw [if_pos f1, if_pos (show f = 1 ∨ k = 1 from .inl f1), gmust_eq, if_pos rfl, Option.bind_some]
   simp only
   by_cases k1 : k = 1
   ·
    rw [if_pos k1, if_pos k1, gsingle_eq hN hb hl (by omega) (by omega) (by omega) (by omega) (by omega), Option.bind_some]
    cases gSingle N b p (p + 2) f <;> rfl
   rw [if_neg k1, if_neg k1]
   by_cases k2 : k = 2
   ·
    rw [if_pos k2, if_pos k2, show gsub_reader_several N b p (p + 2) k 0 = gsub_reader_several N b p (p + 2) 2 0 by rw [k2], gseveral_eq hN hb hl (by omega) (by omega) (by omega) (by omega) (by omega) (by omega), Option.bind_some]
    cases gSeveral N b p (p + 2) 2 0 <;> rfl
   rw [if_neg k2, if_neg k2]
   by_cases k3 : k = 3
   ·
    rw [if_pos k3, if_pos k3, show gsub_reader_several N b p (p + 2) k 1 = gsub_reader_several N b p (p + 2) 3 1 by rw [k3], gseveral_eq hN hb hl (by omega) (by omega) (by omega) (by omega) (by omega) (by omega), Option.bind_some]
    cases gSeveral N b p (p + 2) 3 1 <;> rfl
   rw [if_neg k3, if_neg k3]
   by_cases k4 : k = 4
   ·
    rw [if_pos k4, if_pos k4, gligs_eq hN hb hl (by omega) (by omega) (by omega) (by omega), Option.bind_some]
    cases gLigs N b p (p + 2) <;> rfl
   rw [if_neg k4, if_neg k4]
   rw [if_neg h7, if_neg h7, greverse_eq hN hb hl (by omega) (by omega) (by omega) (by omega), Option.bind_some]
   cases gReverse N b p (p + 2) <;> rfl
  ·
   rw [if_neg f1, gmust_eq, Option.bind_some]
   by_cases k1 : k = 1
   ·
    rw [if_pos (show f = 1 ∨ k = 1 from .inr k1), if_pos (by simpa using k1)]
    simp only
    rw [if_pos k1, gsingle_eq hN hb hl (by omega) (by omega) (by omega) (by omega) (by omega), Option.bind_some]
    cases gSingle N b p (p + 2) f <;> rfl
   ·
    rw [if_neg (show ¬ (f = 1 ∨ k = 1) from fun h => h.elim f1 k1), if_neg (by simpa using k1)]; rfl
theorem gelse_eq {p : Int} (h0 : -300000 ≤ p) (h1 : p ≤ 300000) : gsub_reader_elsewhere N b p (p + 2) = some (S ((gElse N b p).map G7.t)) := by
 unfold gsub_reader_elsewhere gElse
 rw [gnumber_eq hN hb hl (by omega), Option.bind_some]
 cases e1 : num b (p + 2) with
 | none => rfl
 | some k =>
  simp only [S, Option.bind_some]
  rw [w64 (x := p + 2 + 2) (by omega) (by omega), U32_eq hN hb (by omega) _ (by omega), Option.bind_some]
  by_cases g1 : u32 b (p + 2 + 2) < 0
  ·
   rw [if_pos g1, if_neg (show ¬ (0 ≤ u32 b (p + 2 + 2) ∧ k ≠ 7 ∧ u32 b (p + 2 + 2) ≤ (b.length : Int)) from fun h => by omega)]
   simp only [Bool.false_eq_true, if_false]
   rw [gmust_eq]; rfl
  ·
   rw [if_neg g1]
   simp only [if_true]
   by_cases g7 : k = 7
   ·
    rw [if_pos g7, if_neg (show ¬ (0 ≤ u32 b (p + 2 + 2) ∧ k ≠ 7 ∧ u32 b (p + 2 + 2) ≤ (b.length : Int)) from fun h => h.2.1 g7), gmust_eq]; rfl
   ·
    rw [if_neg g7, gmust_eq, Option.bind_some]
    by_cases gl : u32 b (p + 2 + 2) ≤ (b.length : Int)
    ·
     rw [if_pos (by simpa using gl), if_pos (show 0 ≤ u32 b (p + 2 + 2) ∧ k ≠ 7 ∧ u32 b (p + 2 + 2) ≤ (b.length : Int) from ⟨by omega, g7, gl⟩)]
     simp only
     rw [w64 (x := p + u32 b (p + 2 + 2)) (by omega) (by omega), gkind_eq hN hb hl (by omega) (by omega) g7, Option.bind_some]
     cases gKind N b (p + u32 b (p + 2 + 2)) k none <;> rfl
    ·
     rw [if_neg (by simpa using gl), if_neg (show ¬ (0 ≤ u32 b (p + 2 + 2) ∧ k ≠ 7 ∧ u32 b (p + 2 + 2) ≤ (b.length : Int)) from fun h => gl h.2.2)]; rfl
theorem gread_eq {p k : Int} (h0 : -300000 ≤ p) (h1 : p ≤ 300000) : gsub_read N b p k = some (S ((gRead N b p k).map G7.t)) := by
 unfold gsub_read gRead gKind
 by_cases k5 : k = 5
 ·
  rw [if_pos k5, if_pos k5, gcontexts_eq hN hb hl (by omega) (by omega), Option.bind_some, k5]
  cases tableM N b p false <;> rfl
 rw [if_neg k5, if_neg k5]
 by_cases k6 : k = 6
 ·
  rw [if_pos k6, if_pos k6, gchains_eq hN hb hl (by omega) (by omega), Option.bind_some, k6]
  cases tableM N b p true <;> rfl
 rw [if_neg k6, if_neg k6]
 by_cases g1 : 1 ≤ k
 rotate_left
 ·
  rw [if_neg g1, if_neg (show ¬ (1 ≤ k ∧ k ≤ 8) from fun h => g1 h.1), gmust_eq]; rfl
 rw [if_pos g1, gmust_eq, Option.bind_some]
 by_cases g8 : k ≤ 8
 rotate_left
 ·
  rw [if_neg (by simpa using g8), if_neg (show ¬ (1 ≤ k ∧ k ≤ 8) from fun h => g8 h.2)]; rfl
 rw [if_pos (by simpa using g8), if_pos (show 1 ≤ k ∧ k ≤ 8 from ⟨g1, g8⟩)]
 simp only
 rw [gnumber_eq hN hb hl (by omega), Option.bind_some]
 cases e1 : num b p with
 | none => rfl
 | some f =>
  obtain ⟨_, fa, fb, _⟩ := num_some hb e1
  simp only [S, Option.bind_some]
  rw [w64 (x := p + 2) (by omega) (by omega)]
  by_cases f1 : f = 1
  ·
   rw [if_pos f1, if_pos (show f = 1 ∨ k = 1 from .inl f1), gmust_eq, if_pos rfl, Option.bind_some]
   simp only
   by_cases k1 : k = 1
   ·
    rw [if_pos k1, if_pos k1, gsingle_eq hN hb hl (by omega) (by omega) (by omega) (by omega) (by omega), Option.bind_some]
    cases gSingle N b p (p + 2) f <;> rfl
   rw [if_neg k1, if_neg k1]
   by_cases k2 : k = 2
   ·
    rw [if_pos k2, if_pos k2, show gsub_reader_several N b p (p + 2) k 0 = gsub_reader_several N b p (p + 2) 2 0 by rw [k2], gseveral_eq hN hb hl (by omega) (by omega) (by omega) (by omega) (by omega) (by omega), Option.bind_some]
    cases gSeveral N b p (p + 2) 2 0 <;> rfl
   rw [if_neg k2, if_neg k2]
   by_cases k3 : k = 3
   ·
    rw [if_pos k3, if_pos k3, show gsub_reader_several N b p (p + 2) k 1 = gsub_reader_several N b p (p + 2) 3 1 by rw [k3], gseveral_eq hN hb hl (by omega) (by omega) (by omega) (by omega) (by omega) (by omega), Option.bind_some]
    cases gSeveral N b p (p + 2) 3 1 <;> rfl
   rw [if_neg k3, if_neg k3]
   by_cases k4 : k = 4
   ·
    rw [if_pos k4, if_pos k4, gligs_eq hN hb hl (by omega) (by omega) (by omega) (by omega), Option.bind_some]
    cases gLigs N b p (p + 2) <;> rfl
   rw [if_neg k4, if_neg k4]
   by_cases k7 : k = 7
   ·
    rw [if_pos k7, if_pos k7, gelse_eq hN hb hl (by omega) (by omega), Option.bind_some]
    cases gElse N b p <;> rfl
   rw [if_neg k7, if_neg k7, greverse_eq hN hb hl (by omega) (by omega) (by omega) (by omega), Option.bind_some]
   cases gReverse N b p (p + 2) <;> rfl
  ·
   rw [if_neg f1, gmust_eq, Option.bind_some]
   by_cases k1 : k = 1
   ·
    rw [if_pos (show f = 1 ∨ k = 1 from .inr k1), if_pos (by simpa using k1)]
    simp only
    rw [if_pos k1, gsingle_eq hN hb hl (by omega) (by omega) (by omega) (by omega) (by omega), Option.bind_some]
    cases gSingle N b p (p + 2) f <;> rfl
   ·
    rw [if_neg (show ¬ (f = 1 ∨ k = 1) from fun h => h.elim f1 k1), if_neg (by simpa using k1)]; rfl
theorem gRead_eq {p k : Int} (h0 : -300000 ≤ p) (h1 : p ≤ 300000) : gsub_Read N b p k = some (match gRead N b p k with
  | some g => (g.k, g.c, g.all, g.d, g.o, g.l, g.r, [], [], [], [], [], [], [], [], [], true)
  | none => (0, [], false, 0, [], [], [], [], [], [], [], [], [], [], [], [], false)) := by
 unfold gsub_Read
 rw [gread_eq hN hb hl (by omega) (by omega), Option.bind_some]
 cases gRead N b p k <;> rfl
end
end Go.Proofs.Ytfacmhngbaboiaa.AI
