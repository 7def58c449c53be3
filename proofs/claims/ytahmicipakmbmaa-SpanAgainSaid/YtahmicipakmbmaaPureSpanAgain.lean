/- Joined ranges are right, joining them again turns nothing, and each code finds what it found: the plain law behind SpanAgain. Conditions: none but that the arguments are ranges and a code. -/
import Derived.Test.YtahmicipakmbmaaSaySpanAgain
import Derived.Test.YtahmicipakmbmaaPureSpanRight
import Derived.Test.YtahmicipakmbmaaS3
namespace Go.Proofs.Ytahmicipakmbmaa.Pure
open Go.RowKit Go.Proofs.Ytahmicipakmbmaa.Z Go.Proofs.YtahmicipakmbmaaW.PrintWords Go.Proofs.YtahmicipakmbmaaW.PrintLast

theorem again_l0 (l : List S45) (hr : span_Right.v l 9223372036854775807 = true) (c : Int) : ∀ (d i k : Nat), i + d = (jn l).length → d < k →
    reedpenlaw02_SpanAgain.l0 k l c (jn l) (jn l) (i : Int) = some true := by
  obtain ⟨hl, hg⟩ := right_go hr
  have hjl := jn_len l
  have hj := jn_right hr
  have hjg := (right_go hj).2
  intro d
  induction d with
  | zero =>
    intro i k hi hk
    obtain ⟨k, rfl⟩ : ∃ q, k = q + 1 := ⟨k - 1, by omega⟩
    simp only [reedpenlaw02_SpanAgain.l0]
    rw [if_neg (by omega), ownFind, ownFind, if_pos hr, if_pos hj, fnd_jn c hg]
    simp
  | succ d ih =>
    intro i k hi hk
    obtain ⟨k, rfl⟩ : ∃ q, k = q + 1 := ⟨k - 1, by omega⟩
    have hw : wrap64 ((i : Int) + 1) = ((i + 1 : Nat) : Int) := by unfold wrap64; omega
    have hn := ih (i + 1) k (by omega) (by omega)
    simp only [reedpenlaw02_SpanAgain.l0]
    rw [if_pos (by omega), if_pos (by omega), if_pos (by omega), if_neg (by simp), hw]
    by_cases h0 : (i : Int) > 0
    · have hw1 : wrap64 ((i : Int) - 1) = ((i - 1 : Nat) : Int) := by unfold wrap64; omega
      have hna := NA_at (jn l) (jn_NA l) (i - 1) (by omega)
      rw [show i - 1 + 1 = i by omega] at hna
      have hm := go_mem hjg ((jn l).getD (i - 1) z45) (by rw [getD_eq _ (i - 1) (by omega)]; exact List.getElem_mem (by omega))
      rw [if_pos h0, hw1, if_pos (by omega), if_pos (by omega), rd_getD, rd_getD, w32 (by omega) (by omega)]
      by_cases h1 : ((jn l).getD (i - 1) z45).f1 + 1 = ((jn l).getD i z45).f0
      · rw [if_pos h1, if_neg (fun h => hna ⟨h, h1⟩)]
        exact hn
      · rw [if_neg h1]
        exact hn
    · rw [if_neg h0]
      exact hn
theorem again_go (l : List S45) (hr : span_Right.v l 9223372036854775807 = true) (c : Int) (k : Nat) (hk : 3 * l.length + 10 < k) : reedpenlaw02_SpanAgain.j0 k l c false = some true := by
  have hjl := jn_len l
  have hj := jn_right hr
  obtain ⟨k, rfl⟩ : ∃ q, k = q + 2 := ⟨k - 2, by omega⟩
  simp only [reedpenlaw02_SpanAgain.j0]
  rw [if_neg (by decide), ownJoin l _ (by omega), if_pos hr]
  simp only [Option.bind_some]
  rw [ownJoin (jn l) _ (by omega), if_pos hj, jn_jn]
  simp only [Option.bind_some, if_true]
  rw [span_Right.f_v _ _ _ (by omega), hj]
  simp only [Option.bind_some, if_true]
  rw [ownCount (jn l) _ (by omega), ownCount l _ (by omega), if_pos hj, if_pos hr, cnt_jn]
  simp only [Option.bind_some, bne_self_eq_false, reedpenlaw02_SpanAgain.j1]
  rw [if_neg (by decide)]
  have := again_l0 l hr c (jn l).length 0 k (by omega) (by omega)
  simpa using this
theorem again_done (l : List S45) (c : Int) (k : Nat) : reedpenlaw02_SpanAgain.j0 (k + 1) l c true = some true := by
  simp only [reedpenlaw02_SpanAgain.j0, if_true]
theorem SpanAgain : reedpenlaw02_SpanAgain.Pure := by
  intro l c _ _
  refine ⟨3 * l.length + 40, ?_⟩
  unfold reedpenlaw02_SpanAgain.f
  rw [alive2 _ (by omega), span_Right.f_v _ _ _ (by omega)]
  simp only [Option.bind_some, if_true]
  by_cases hl : (l.length : Int) > 1000
  · rw [if_pos hl]
    exact again_done l c _
  · rw [if_neg hl]
    cases hr : span_Right.v l 9223372036854775807 with
    | false => exact again_done l c _
    | true => exact again_go l hr c _ (by omega)
end Go.Proofs.Ytahmicipakmbmaa.Pure
