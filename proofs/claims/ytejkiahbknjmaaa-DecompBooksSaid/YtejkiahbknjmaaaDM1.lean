/- Part of a proof. -/
import Derived.Test.YtejkiahbknjmaaaDM0
set_option linter.unusedVariables false
set_option linter.unusedSimpArgs false
set_option maxRecDepth 100000
namespace Go.Proofs.Ytejkiahbknjmaaa.AI
theorem wkB {k : Nat} (h : k ≤ 9223372036854775806) : IntKind.i64.wrap ((k : Int) + 1) = ((k + 1 : Nat) : Int) := by
 rw [IntWalk.i64_in _ ⟨by omega, by omega⟩]; omega
def okM (p : TMade) : Prop := vld p.Code = true ∧ vld p.A = true ∧ (p.B = -1 ∨ vld p.B = true)
def chM : Int → List TMade → Prop
 | _, [] => True
 | a, p :: l => a < p.Code ∧ okM p ∧ chM p.Code l
def RtM (l : List TMade) : Prop := l.length ≤ 3000 ∧ chM (-1) l
theorem vld_ge {c : Int} (h : vld c = true) : 0 ≤ c := by
 unfold vld at h
 exact (of_decide_eq_true h).1
theorem dright_L1 {N : Nat} {l : List TMade} (hl : l.length ≤ 3000) : ∀ (d k n : Nat) (a : Int), k + d = l.length → d < n → ∃ o, decomp_Right_L1 N l n a k = some o ∧ (o = .inl () ↔ chM a (l.drop k)) := by
 intro d
 induction d with
 | zero =>
  intro k n a hk hn
  obtain ⟨n, rfl⟩ : ∃ x, n = x + 1 := ⟨n - 1, by omega⟩
  rw [decomp_Right_L1, if_neg (by omega), List.drop_eq_nil_of_le (by omega)]
  exact ⟨_, rfl, by simp [chM]⟩
 | succ d ih =>
  intro k n a hk hn
  obtain ⟨n, rfl⟩ : ∃ x, n = x + 1 := ⟨n - 1, by omega⟩
  have hkl : k < l.length := by omega
  rw [decomp_Right_L1, if_pos (by omega), atI_get hkl, Option.bind_some, wk (by omega), List.drop_eq_getElem_cons hkl]
  unfold chM okM
  by_cases g1 : l[k].Code ≤ a
  ·
   rw [if_pos g1]; exact ⟨_, rfl, by simp; intro h; omega⟩
  rw [if_neg g1, svalid_eq, Option.bind_some]
  by_cases g2 : vld l[k].Code = true
  ·
   rw [if_pos g2, svalid_eq, Option.bind_some]
   by_cases g3 : vld l[k].A = true
   ·
    rw [if_pos g3]
    obtain ⟨o, e, h⟩ := ih (k + 1) n l[k].Code (by omega) (by omega)
    by_cases g4 : l[k].B = -1
    ·
     rw [if_pos g4]
     exact ⟨o, e, by rw [h]; exact ⟨fun h => ⟨by omega, ⟨g2, g3, .inl g4⟩, h⟩, fun h => h.2.2⟩⟩
    rw [if_neg g4, svalid_eq, Option.bind_some]
    by_cases g5 : vld l[k].B = true
    ·
     rw [if_pos g5]
     exact ⟨o, e, by rw [h]; exact ⟨fun h => ⟨by omega, ⟨g2, g3, .inr g5⟩, h⟩, fun h => h.2.2⟩⟩
    ·
     rw [if_neg g5]; exact ⟨_, rfl, by simp [g4, g5]⟩
   ·
    rw [if_neg g3]; exact ⟨_, rfl, by simp [g3]⟩
  ·
   rw [if_neg g2]; exact ⟨_, rfl, by simp [g2]⟩
theorem dright_eq {N : Nat} (hN : 1000000000000 < N) (l : List TMade) : ∃ b, decomp_Right N l = some b ∧ (b = true ↔ RtM l) := by
 unfold decomp_Right RtM
 by_cases g : 3000 < (l.length : Int)
 ·
  rw [if_pos g]; exact ⟨_, rfl, by simp; intro h; omega⟩
 rw [if_neg g]
 obtain ⟨o, e, h⟩ := dright_L1 (N := N) (l := l) (by omega) l.length 0 N (-1) (by omega) (by omega)
 rw [List.drop_zero] at h
 rw [show decomp_Right_L1 N l N (-1) 0 = _ from e, Option.bind_some]
 cases o with
 | inl u => exact ⟨_, rfl, by simp; exact ⟨by omega, h.1 rfl⟩⟩
 | inr u => exact ⟨_, rfl, by simp; intro _ hc; have := h.2 hc; cases this⟩
end Go.Proofs.Ytejkiahbknjmaaa.AI
