/- The fewest ranges of all, and how many codes they have, are the document's: the plain law behind SpanJoins. Conditions: none but that the argument is ranges. -/
import Derived.Test.YtahmicipakmbmaaSaySpanJoins
import Derived.Test.YtahmicipakmbmaaPureSpanRight
import Derived.Test.YtahmicipakmbmaaS2
namespace Go.Proofs.Ytahmicipakmbmaa.Pure
open Go.RowKit Go.Proofs.Ytahmicipakmbmaa.Z Go.Proofs.YtahmicipakmbmaaW.PrintWords Go.Proofs.YtahmicipakmbmaaW.PrintLast

theorem joins_l0 (l : List S45) (hr : span_Right.v l 9223372036854775807 = true) : ∀ (d j k : Nat) (n : Int), j + d = l.length → d + 2 * l.length + 10 < k → n + cnt (l.drop j) = cnt l → 0 ≤ n → n ≤ 1114112 * 5000 - 1114112 * (d : Int) →
    reedpenlaw02_SpanJoins.l0 k l n (j : Int) = some true := by
  obtain ⟨hl, hg⟩ := right_go hr
  intro d
  induction d with
  | zero =>
    intro j k n hj hk hn _ _
    obtain ⟨k, rfl⟩ : ∃ q, k = q + 1 := ⟨k - 1, by omega⟩
    have hjl := jn_len l
    simp only [reedpenlaw02_SpanJoins.l0]
    rw [if_neg (by omega), ownJoin l k (by omega), refJoin l hr k (by omega), ownCount l k (by omega), if_pos hr, if_pos hr]
    simp only [Option.bind_some]
    rw [same_self (jn l) (by omega) k (by omega)]
    rw [List.drop_of_length_le (by omega)] at hn
    simp only [cnt] at hn
    simp only [Option.bind_some, if_true]
    rw [show cnt l = n by omega]
    simp
  | succ d ih =>
    intro j k n hj hk hn h0 h1
    obtain ⟨k, rfl⟩ : ∃ q, k = q + 1 := ⟨k - 1, by omega⟩
    simp only [reedpenlaw02_SpanJoins.l0]
    have hw : wrap64 ((j : Int) + 1) = ((j + 1 : Nat) : Int) := by unfold wrap64; omega
    rw [List.drop_eq_getElem_cons (show j < l.length by omega)] at hn
    simp only [cnt] at hn
    rw [if_pos (by omega), if_pos (by omega), find_rd l j (by omega), hw]
    have hx := go_mem hg (l[j]'(by omega)) (List.getElem_mem (by omega))
    generalize l[j]'(by omega) = x at hx hn
    rw [w64 (n := x.f1) (by omega) (by omega), w64 (n := x.f0) (by omega) (by omega), w64 (n := n + x.f1) (by omega) (by omega), w64 (n := n + x.f1 - x.f0) (by omega) (by omega), w64 (n := n + x.f1 - x.f0 + 1) (by omega) (by omega)]
    exact ih (j + 1) k _ (by omega) (by omega) (by omega) (by omega) (by omega)
theorem SpanJoins : reedpenlaw02_SpanJoins.Pure := by
  intro l _
  refine ⟨4 * l.length + 40, ?_⟩
  unfold reedpenlaw02_SpanJoins.f
  rw [alive2 _ (by omega), ownJoin l _ (by omega), ownCount l _ (by omega), refRight l _ _ (by omega)]
  simp only [Option.bind_some, if_true]
  by_cases hr : span_Right.v l 9223372036854775807 = true
  · have hl := (right_go hr).1
    rw [if_neg (by omega), if_pos hr]
    exact joins_l0 l hr l.length 0 _ 0 (by omega) (by omega) (by simp) (by omega) (by omega)
  · rw [if_neg hr, if_neg hr, if_neg hr]
    simp
end Go.Proofs.Ytahmicipakmbmaa.Pure
