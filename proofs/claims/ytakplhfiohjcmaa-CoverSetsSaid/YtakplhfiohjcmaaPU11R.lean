/- Part of a proof. -/
import Derived.Test.YtakplhfiohjcmaaPU2
import Derived.IntWalk
set_option linter.unusedVariables false
set_option linter.unusedSimpArgs false
namespace Go.Proofs.Ytakplhfiohjcmaa.AI
theorem v64 {x : Int} (h : -9223372036854775808 ≤ x) (h' : x ≤ 9223372036854775807) : IntKind.i64.wrap x = x := IntWalk.i64_in _ ⟨by omega, by omega⟩
theorem at0 {α : Type} {l : List α} {k : Nat} {x : α} (h : l[k]? = some x) : atI l (k : Int) = some x := by rw [atI_nat, h]
theorem wf64 {x : Int} (h : (Lit.int .i64 x).wf = true) : -9223372036854775808 ≤ x ∧ x ≤ 9223372036854775807 := by have := wf_i64 h; omega
theorem Right_L1 {N : Nat} {l : List TSpan} (hl : l.length ≤ 9223372036854775807) (hw : ∀ x ∈ l, -9223372036854775808 ≤ x.From ∧ x.From ≤ 9223372036854775807) : ∀ (d k n : Nat), k + d = l.length → d < n →
  (ref10_Right_L1 N l n k = some (.inl ()) ∧ ∀ j, k ≤ j → j < l.length → SpanOk l j) ∨ ref10_Right_L1 N l n k = some (.inr ()) := by
 intro d
 induction d with
 | zero =>
  intro k n hk hn
  obtain ⟨n, rfl⟩ : ∃ x, n = x + 1 := ⟨n - 1, by omega⟩
  left
  rw [ref10_Right_L1, if_neg (by omega)]
  exact ⟨rfl, fun j h1 h2 => by omega⟩
 | succ d ih =>
  intro k n hk hn
  obtain ⟨n, rfl⟩ : ∃ x, n = x + 1 := ⟨n - 1, by omega⟩
  obtain ⟨x, hx, hd⟩ := drop_cons hk
  have hxw := hw x (List.mem_of_getElem? hx)
  rw [ref10_Right_L1, if_pos (by omega), at0 hx, Option.bind_some]
  by_cases h1 : x.From < 0
  ·
   right; rw [if_pos h1]
  rw [if_neg h1]
  by_cases h2 : 65535 < x.To
  ·
   right; rw [if_pos h2]
  rw [if_neg h2]
  by_cases h3 : x.To < x.From
  ·
   right; rw [if_pos h3]
  rw [if_neg h3, v64 (x := (k : Int) + 1) (by omega) (by omega)]
  have hi := ih (k + 1) n (by omega) (by omega)
  rw [show ((k + 1 : Nat) : Int) = (k : Int) + 1 by omega] at hi
  have fin : (∀ p, 0 < k → l[k - 1]? = some p → p.To < x.From - 1) → (ref10_Right_L1 N l n ((k : Int) + 1) = some (.inl ()) ∧ ∀ j, k ≤ j → j < l.length → SpanOk l j) ∨ ref10_Right_L1 N l n ((k : Int) + 1) = some (.inr ()) := by
   intro hp
   rcases hi with ⟨h4, h5⟩ | h4
   ·
    refine .inl ⟨h4, fun j hj hjl => ?_⟩
    rcases Nat.lt_or_ge k j with hh | hh
    ·
     exact h5 j hh hjl
    ·
     have : j = k := by omega
     subst this
     refine ⟨fun s hs => ?_, fun s hs => ?_, fun s hs => ?_, fun s p h0 hs hp' => ?_⟩ <;> (rw [hx] at hs; cases hs) <;> try omega
     exact hp p h0 hp'
   ·
    exact .inr h4
  by_cases h4 : 0 < (k : Int)
  ·
   rw [if_pos h4]
   have hp := List.getElem?_eq_getElem (l := l) (i := k - 1) (by omega)
   rw [v64 (x := (k : Int) - 1) (by omega) (by omega), show (k : Int) - 1 = ((k - 1 : Nat) : Int) by omega, at0 hp, Option.bind_some, v64 (x := x.From - 1) (by omega) (by omega)]
   by_cases h5 : x.From - 1 ≤ l[k - 1].To
   ·
    right; rw [if_pos h5]
   rw [if_neg h5]
   exact fin fun p _ hp' => by rw [hp] at hp'; cases hp'; omega
  ·
   rw [if_neg h4]
   exact fin fun p h0 _ => by omega
theorem Right_eq {N : Nat} (hB : 9223372036854775808 < N) {l : List TSpan} (hl : l.length ≤ 9223372036854775807) (hw : ∀ x ∈ l, -9223372036854775808 ≤ x.From ∧ x.From ≤ 9223372036854775807) :
  ref10_Right N l = some false ∨ (ref10_Right N l = some true ∧ RL 0 l ∧ l.length ≤ 5000) := by
 have h := Right_L1 (N := N) hl hw l.length 0 N (by omega) (by omega)
 rw [show ((0 : Nat) : Int) = 0 from rfl] at h
 unfold ref10_Right
 rcases h with ⟨h1, h2⟩ | h1
 ·
  rw [h1, Option.bind_some]
  by_cases h3 : (l.length : Int) ≤ 5000
  ·
   right
   have h4 : RightP l := ⟨by omega, fun j hj => h2 j (Nat.zero_le _) hj⟩
   exact ⟨by simp only [h3, decide_true], h4.rl, by omega⟩
  ·
   left; simp only [h3, decide_false]
 ·
  left; rw [h1, Option.bind_some]
end Go.Proofs.Ytakplhfiohjcmaa.AI
