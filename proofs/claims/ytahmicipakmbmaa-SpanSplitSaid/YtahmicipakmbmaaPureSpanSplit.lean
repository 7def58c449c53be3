/- A range that is parted in two finds the same, and joins to the same: the plain law behind SpanSplit. Conditions: none but that the arguments are ranges, a byte and a code. -/
import Derived.Test.YtahmicipakmbmaaSaySpanSplit
import Derived.Test.YtahmicipakmbmaaPureSpanRight
import Derived.Test.YtahmicipakmbmaaS3
namespace Go.Proofs.Ytahmicipakmbmaa.Pure
open Go.RowKit Go.Proofs.Ytahmicipakmbmaa.Z Go.Proofs.YtahmicipakmbmaaW.PrintWords Go.Proofs.YtahmicipakmbmaaW.PrintLast

theorem split_l0 (l m : List S45) (i : Int) (v : Int) (h0 : 0 ≤ i) (h1 : i < (l.length : Int)) (hv : (rd_T45 l i).f2 = v) (hr : span_Right.v l 9223372036854775807 = true) (hm : span_Right.v m 9223372036854775807 = true) (hm2 : span_Right.v m 255 = true) (hc : cnt m = cnt l) (hml : m.length ≤ 400) : ∀ (d j k : Nat), j + d = (jn l).length → d + l.length + m.length + 2 < k →
    reedpenlaw02_SpanSplit.l0 k l i m v true v true (jn l) (jn l) (j : Int) = some true := by
  have hl := (right_go hr).1
  have hjl := jn_len l
  intro d
  induction d with
  | zero =>
    intro j k hj hk
    obtain ⟨k, rfl⟩ : ∃ q, k = q + 1 := ⟨k - 1, by omega⟩
    simp only [reedpenlaw02_SpanSplit.l0]
    rw [if_neg (by omega)]
    simp only [if_true]
    rw [if_pos h0, if_pos h1, if_pos hv.symm, span_Right.f_v m 255 k (by omega), hm2, ownCount m k (by omega), ownCount l k (by omega), if_pos hm, if_pos hr, hc]
    simp
  | succ d ih =>
    intro j k hj hk
    obtain ⟨k, rfl⟩ : ∃ q, k = q + 1 := ⟨k - 1, by omega⟩
    have e1 : (j : Int) < ((jn l).length : Int) := by omega
    have e2 : (0 : Int) ≤ (j : Int) := by omega
    have e3 := ih (j + 1) k (by omega) (by omega)
    have hw : wrap64 ((j : Int) + 1) = ((j + 1 : Nat) : Int) := by clear hv; unfold wrap64; omega
    simp only [reedpenlaw02_SpanSplit.l0, if_pos e1, if_pos e2, beq_self_eq_true, Bool.not_true, Bool.or_self, Bool.false_eq_true, if_false, hw]
    exact e3
theorem go_more {m M : Int} (hM : m ≤ M) : ∀ (l : List S45) (a : Int), span_Right.go m a l = true → span_Right.go M a l = true := by
  intro l
  induction l with
  | nil => intro a _; rfl
  | cons x xs ih =>
    intro a h
    rw [go_cons] at h ⊢
    exact ⟨h.1, h.2.1, h.2.2.1, h.2.2.2.1, by omega, ih _ h.2.2.2.2.2⟩
theorem right_more {l : List S45} {m M : Int} (hM : m ≤ M) (h : span_Right.v l m = true) : span_Right.v l M = true := by
  obtain ⟨hl, hg⟩ := right_go h
  exact go_right hl (go_more hM l _ hg)
theorem split_j1 (l : List S45) (i : Nat) (c : Int) (hl : l.length ≤ 300) (hi : i < l.length) (hr : span_Right.v l 255 = true) (h1 : (l.getD i z45).f0 ≤ c) (h2 : c < (l.getD i z45).f1) (k : Nat) (hk : 4 * l.length + 20 < k) :
    reedpenlaw02_SpanSplit.j1 k l c (i : Int) false = some true := by
  obtain ⟨k, rfl⟩ : ∃ q, k = q + 1 := ⟨k - 1, by omega⟩
  have hw0 := Aside0.mk (show wrap64 ((i : Int) + 1) = ((i + 1 : Nat) : Int) by clear h1 h2; unfold wrap64; omega)
  obtain ⟨x, hx⟩ : ∃ x, l.getD i z45 = x := ⟨_, rfl⟩
  rw [hx] at h1 h2
  have hg := (right_go hr).2
  have hxm := go_mem hg x (by rw [← hx, getD_eq l i hi]; exact List.getElem_mem hi)
  have hdec : l = l.take i ++ x :: l.drop (i + 1) := by
    rw [← hx, getD_eq l i hi, ← List.drop_eq_getElem_cons hi, List.take_append_drop]
  have hwc := Aside0.mk (show wrap32 (c + 1) = c + 1 from w32 (by omega) (by omega))
  obtain ⟨m, hm⟩ : ∃ m, l.take i ++ (⟨x.f0, c, x.f2⟩ : S45) :: ⟨c + 1, x.f1, x.f2⟩ :: l.drop (i + 1) = m := ⟨_, rfl⟩
  have hg' : span_Right.go 255 (-1) (l.take i ++ x :: l.drop (i + 1)) = true := by rw [← hdec]; exact hg
  have hmg := go_split h1 h2 (l.take i) (-1) hg'
  have hmf := fnd_split h1 h2 (l.take i) (-1) hg'
  have hmj := jn_split (c := c) (x := x) (s := l.drop (i + 1)) (l.take i)
  have hmc := cnt_split (c := c) (x := x) (s := l.drop (i + 1)) (l.take i)
  rw [hm] at hmg hmf hmj hmc
  rw [← hdec] at hmj hmc
  have hml : m.length = l.length + 1 := by rw [← hm]; simp; omega
  have hm2 := go_right (l := m) (m := 255) (by omega) hmg
  have hmr : span_Right.v m 9223372036854775807 = true := right_more (by omega) hm2
  have hlr : span_Right.v l 9223372036854775807 = true := right_more (by omega) hr
  simp only [reedpenlaw02_SpanSplit.j1]
  rw [if_neg (by decide), if_pos (by omega), if_pos (by omega)]
  rw [hw0.out, hwc.out]
  simp only [Option.bind_some, List.nil_append, Int.toNat_natCast]
  rw [if_pos (by simp; omega), if_pos (by omega), if_pos (by simp; omega), if_pos (by omega), if_pos (by omega), rd_getD, hx]
  have hmm : l.take i ++ [(⟨x.f0, c, x.f2⟩ : S45), ⟨c + 1, x.f1, x.f2⟩] ++ l.drop (i + 1) = m := by rw [← hm]; simp
  rw [if_pos (by simp; omega), hmm, ownFind, ownFind, if_pos hmr, hmf.1]
  simp only [Option.bind_some]
  rw [if_pos hmr, hmf.2]
  rw [ownJoin l k (by omega), ownJoin m k (by omega), if_pos hlr, if_pos hmr, hmj]
  simp only [Option.bind_some, if_true]
  have := jn_len l
  have := split_l0 l m (i : Int) x.f2 (by omega) (by omega) (by rw [rd_getD, hx]) hlr hmr hm2 hmc (by omega) (jn l).length 0 k (by omega) (by omega)
  simpa using this
theorem split_done0 (l : List S45) (a c : Int) (k : Nat) : reedpenlaw02_SpanSplit.j0 (k + 1) l a c true = some true := by
  simp only [reedpenlaw02_SpanSplit.j0, if_true]
theorem split_done1 (l : List S45) (c i : Int) (k : Nat) : reedpenlaw02_SpanSplit.j1 (k + 1) l c i true = some true := by
  simp only [reedpenlaw02_SpanSplit.j1, if_true]
theorem split_j0 (l : List S45) (a c : Int) (ha : 0 ≤ a ∧ a ≤ 255) (hl : l.length ≤ 300) (hl0 : 0 < l.length) (hr : span_Right.v l 255 = true) (k : Nat) (hk : 4 * l.length + 30 < k) : reedpenlaw02_SpanSplit.j0 k l a c false = some true := by
  obtain ⟨k, rfl⟩ : ∃ q, k = q + 2 := ⟨k - 2, by omega⟩
  simp only [reedpenlaw02_SpanSplit.j0]
  have ht : Int.tmod (wrap64 a) (l.length : Int) = ((a.toNat % l.length : Nat) : Int) := by
    rw [w64 (by omega) (by omega), Int.tmod_eq_emod_of_nonneg ha.1]
    obtain ⟨b, rfl⟩ := Int.eq_ofNat_of_zero_le ha.1
    rw [Int.toNat_natCast]
    rfl
  have hlt : a.toNat % l.length < l.length := Nat.mod_lt _ hl0
  generalize a.toNat % l.length = i at ht hlt
  rw [if_neg (by decide), if_neg (by omega), ht, if_pos (by omega), if_pos (by omega), rd_getD]
  by_cases h1 : c < (l.getD i z45).f0
  · rw [if_pos h1]; exact split_done1 l c _ k
  · rw [if_neg h1]
    by_cases h2 : c ≥ (l.getD i z45).f1
    · rw [decide_eq_true h2]; exact split_done1 l c _ k
    · rw [decide_eq_false h2]
      exact split_j1 l i c hl hlt hr (by omega) (by omega) _ (by omega)
theorem u8_of {a : Int} (h : (Lit.int .u8 a).wf = true) : 0 ≤ a ∧ a ≤ 255 := by
  simp [Lit.wf, IntKind.min, IntKind.max, IntKind.signed, IntKind.bits] at h
  omega
theorem SpanSplit : reedpenlaw02_SpanSplit.Pure := by
  intro l a c _ ha _
  replace ha := u8_of ha
  refine ⟨5 * l.length + 60, ?_⟩
  unfold reedpenlaw02_SpanSplit.f
  rw [alive2 _ (by omega), span_Right.f_v _ _ _ (by omega)]
  simp only [Option.bind_some, if_true]
  by_cases hl : (l.length : Int) > 300
  · rw [if_pos hl]; exact split_done0 l a c _
  · rw [if_neg hl]
    by_cases hl0 : (l.length : Int) = 0
    · rw [if_pos hl0]; exact split_done0 l a c _
    · rw [if_neg hl0]
      cases hr : span_Right.v l 255 with
      | false => exact split_done0 l a c _
      | true => exact split_j0 l a c ha (by omega) (by omega) hr _ (by omega)
end Go.Proofs.Ytahmicipakmbmaa.Pure
