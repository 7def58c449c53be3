/- Every code's value in all ranges is the document's: the plain law behind SpanFinds. Conditions: none but that the arguments are ranges and a code. -/
import Derived.Test.YtahmicipakmbmaaSaySpanFinds
import Derived.Test.YtahmicipakmbmaaPureSpanRight
namespace Go.Proofs.Ytahmicipakmbmaa.Pure
open Go.RowKit Go.Proofs.Ytahmicipakmbmaa.Z Go.Proofs.YtahmicipakmbmaaW.PrintWords Go.Proofs.YtahmicipakmbmaaW.PrintLast

theorem finds_j2 (l : List S45) (hl : l.length ≤ 300) (c i j x : Int) (k : Nat) (hk : l.length < k) :
    reedpenlaw02_SpanFinds.j2 (k + 1) l c (span_Right.v l 9223372036854775807) i j x = reedpenlaw02_SpanFinds.l1 k l c (span_Right.v l 9223372036854775807) i (wrap32 (j + 1)) := by
  simp only [reedpenlaw02_SpanFinds.j2]
  rw [ownFind, refFind l x (by omega) k hk]
  simp only [Option.bind_some]
  by_cases hr : span_Right.v l 9223372036854775807 = true
  · rw [if_pos hr, if_pos hr, if_pos rfl]; simp
  · rw [if_neg hr, if_neg hr]; simp
theorem finds_l1 (l : List S45) (hl : l.length ≤ 300) (c i j : Int) (k : Nat) (hk : l.length < k) (hi : i < (l.length : Int)) (hj : j < 2) (hj0 : -1 ≤ j) :
    reedpenlaw02_SpanFinds.l1 (k + 2) l c (span_Right.v l 9223372036854775807) i j = reedpenlaw02_SpanFinds.l1 k l c (span_Right.v l 9223372036854775807) i (j + 1) := by
  have hw : wrap32 (j + 1) = j + 1 := w32 (by omega) (by omega)
  simp only [reedpenlaw02_SpanFinds.l1]
  rw [if_pos hj]
  by_cases h : i ≥ 0
  · rw [if_pos h, if_pos h, if_pos hi, finds_j2 l hl c i j _ k hk, hw]
  · rw [if_neg h, finds_j2 l hl c i j _ k hk, hw]
theorem finds_l0 (l : List S45) (hl : l.length ≤ 300) (c : Int) : ∀ (d : Nat) (i : Int) (k : Nat), i + d = (l.length : Int) → -1 ≤ i → 8 * d + 10 + l.length < k →
    reedpenlaw02_SpanFinds.l0 k l c (span_Right.v l 9223372036854775807) i = some true := by
  intro d
  induction d with
  | zero =>
    intro i k hi _ hk
    obtain ⟨k, rfl⟩ : ∃ q, k = q + 1 := ⟨k - 1, by omega⟩
    simp only [reedpenlaw02_SpanFinds.l0]
    rw [if_neg (by omega)]
  | succ d ih =>
    intro i k hi h0 hk
    obtain ⟨k, rfl⟩ : ∃ q, k = q + 8 := ⟨k - 8, by omega⟩
    have hw : wrap64 (i + 1) = i + 1 := w64 (by omega) (by omega)
    simp only [reedpenlaw02_SpanFinds.l0]
    rw [if_pos (by omega), finds_l1 l hl c i (-1) (k + 5) (by omega) (by omega) (by omega) (by omega), finds_l1 l hl c i (-1 + 1) (k + 3) (by omega) (by omega) (by omega) (by omega), finds_l1 l hl c i (-1 + 1 + 1) (k + 1) (by omega) (by omega) (by omega) (by omega)]
    simp only [reedpenlaw02_SpanFinds.l1]
    rw [if_neg (by omega), hw]
    exact ih (i + 1) k (by omega) (by omega) (by omega)
theorem SpanFinds : reedpenlaw02_SpanFinds.Pure := by
  intro l c _ _
  by_cases hl : (l.length : Int) > 300
  · refine ⟨20, ?_⟩
    unfold reedpenlaw02_SpanFinds.f
    rw [alive2 _ (by omega)]
    simp only [Option.bind_some, if_true]
    rw [if_pos hl]
  · refine ⟨10 * l.length + 40, ?_⟩
    unfold reedpenlaw02_SpanFinds.f
    rw [alive2 _ (by omega)]
    simp only [Option.bind_some, if_true]
    rw [if_neg hl, refRight l _ _ (by omega)]
    simp only [Option.bind_some]
    exact finds_l0 l (by omega) c (l.length + 1) (-1) _ (by omega) (by omega) (by omega)
end Go.Proofs.Ytahmicipakmbmaa.Pure
