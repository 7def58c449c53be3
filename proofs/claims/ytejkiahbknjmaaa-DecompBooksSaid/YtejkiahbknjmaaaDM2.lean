/- Plain laws of layer 21: may data be? -/
import Derived.Test.YtejkiahbknjmaaaDM1
import Derived.Test.YtejkiahbknjmaaaDT3
set_option linter.unusedVariables false
set_option linter.unusedSimpArgs false
set_option maxRecDepth 100000
namespace Go.Proofs.Ytejkiahbknjmaaa.AI
theorem wkm {k : Nat} (h : 0 < k) (h2 : k ≤ 9223372036854775807) : IntKind.i64.wrap ((k : Int) - 1) = ((k - 1 : Nat) : Int) := by
 rw [IntWalk.i64_in _ ⟨by omega, by omega⟩]; omega
theorem rr_L1 {N : Nat} {l : List TMade} (hl : l.length ≤ 9223372036854775807) : ∀ (d k n : Nat) (a : Int), k + d = l.length → d < n → (k = 0 → a = -1) → (∀ (j : Nat) (x : TMade), k = j + 1 → l[j]? = some x → a = x.Code) →
  ∃ o, ref21_Right_L1 N l n k = some o ∧ (o = .inl () ↔ chM a (l.drop k)) := by
 intro d
 induction d with
 | zero =>
  intro k n a hk hn h0 h1
  obtain ⟨n, rfl⟩ : ∃ x, n = x + 1 := ⟨n - 1, by omega⟩
  rw [ref21_Right_L1, if_neg (by omega), List.drop_eq_nil_of_le (by omega)]
  exact ⟨_, rfl, by simp [chM]⟩
 | succ d ih =>
  intro k n a hk hn h0 h1
  obtain ⟨n, rfl⟩ : ∃ x, n = x + 1 := ⟨n - 1, by omega⟩
  have hkl : k < l.length := by omega
  rw [ref21_Right_L1, if_pos (by omega), atI_get hkl, Option.bind_some, rvalid_eq, Option.bind_some, List.drop_eq_getElem_cons hkl]
  unfold chM okM
  by_cases g2 : vld l[k].Code = true
  ·
   have hge := vld_ge g2
   obtain ⟨o, e, h⟩ := ih (k + 1) n l[k].Code (by omega) (by omega) (by omega) (fun j x hj hx => by
    have : j = k := by omega
    subst this
    rw [List.getElem?_eq_getElem hkl] at hx; rw [Option.some.inj hx])
   have hT : ∃ o, (if (0 : Int) < (k : Int) then (atI l (IntKind.i64.wrap ((k : Int) - 1))).bind fun x_21 => if l[k].Code ≤ x_21.Code then some (.inr ()) else ref21_Right_L1 N l n (IntKind.i64.wrap ((k : Int) + 1)) else ref21_Right_L1 N l n (IntKind.i64.wrap ((k : Int) + 1))) = some o ∧ (o = .inl () ↔ a < l[k].Code ∧ chM l[k].Code (l.drop (k + 1))) := by
    rw [wkB (by omega)]
    by_cases gk : (0 : Int) < (k : Int)
    ·
     have hk1 : k - 1 < l.length := by omega
     rw [if_pos gk, wkm (by omega) (by omega), atI_get hk1, Option.bind_some]
     have ha := h1 (k - 1) l[k - 1] (by omega) (List.getElem?_eq_getElem hk1)
     by_cases g3 : l[k].Code ≤ l[k - 1].Code
     ·
      rw [if_pos g3]; exact ⟨_, rfl, by simp; intro q; omega⟩
     ·
      rw [if_neg g3]; exact ⟨o, e, by rw [h]; exact ⟨fun q => ⟨by omega, q⟩, fun q => q.2⟩⟩
    ·
     have ha := h0 (by omega)
     rw [if_neg gk]; exact ⟨o, e, by rw [h]; exact ⟨fun q => ⟨by omega, q⟩, fun q => q.2⟩⟩
   obtain ⟨o2, e2, h2⟩ := hT
   rw [if_pos g2, rvalid_eq, Option.bind_some]
   by_cases g3 : vld l[k].A = true
   ·
    rw [if_pos g3]
    by_cases g4 : l[k].B = -1
    ·
     rw [if_pos g4]
     exact ⟨o2, e2, by rw [h2]; exact ⟨fun q => ⟨q.1, ⟨g2, g3, .inl g4⟩, q.2⟩, fun q => ⟨q.1, q.2.2⟩⟩⟩
    rw [if_neg g4, rvalid_eq, Option.bind_some]
    by_cases g5 : vld l[k].B = true
    ·
     rw [if_pos g5]
     exact ⟨o2, e2, by rw [h2]; exact ⟨fun q => ⟨q.1, ⟨g2, g3, .inr g5⟩, q.2⟩, fun q => ⟨q.1, q.2.2⟩⟩⟩
    ·
     rw [if_neg g5]; exact ⟨_, rfl, by simp [g4, g5]⟩
   ·
    rw [if_neg g3]; exact ⟨_, rfl, by simp [g3]⟩
  ·
   rw [if_neg g2]; exact ⟨_, rfl, by simp [g2]⟩
theorem rr_eq {N : Nat} (hB : 9223372036854775808 < N) {l : List TMade} (hl : l.length ≤ 9223372036854775807) : ∃ b, ref21_Right N l = some b ∧ (b = true ↔ RtM l) := by
 unfold ref21_Right RtM
 obtain ⟨o, e, h⟩ := rr_L1 (N := N) hl l.length 0 N (-1) (by omega) (by omega) (fun _ => rfl) (fun j x hj => by omega)
 rw [List.drop_zero] at h
 rw [show ref21_Right_L1 N l N 0 = _ from e, Option.bind_some]
 cases o with
 | inl u => exact ⟨_, rfl, by rw [decide_eq_true_iff]; exact ⟨fun q => ⟨by omega, h.1 rfl⟩, fun q => by have := q.1; omega⟩⟩
 | inr u => exact ⟨_, rfl, by simp; intro _ hc; have := h.2 hc; cases this⟩
theorem okV_mono {m m' : Int} (h : m ≤ m') {r : TRange} (hr : okV m r) : okV m' r := ⟨hr.1, hr.2.1, hr.2.2.1, by have := hr.2.2.2; omega⟩
theorem chR_mono2 {m m' : Int} (h : m ≤ m') : ∀ {l : List TRange} {a : Int}, chR m a l → chR m' a l
 | [], _, _ => trivial
 | r :: l, a, h' => ⟨h'.1, okV_mono h h'.2.1, chR_mono2 h h'.2.2⟩
theorem Rt_mono {m m' : Int} (h : m ≤ m') {l : List TRange} (hl : Rt m l) : Rt m' l := ⟨hl.1, chR_mono2 h hl.2⟩
def GoodD (l0 l1 l2 l3 : List TRange) (l4 : List TMade) : Prop := RtM l4 ∧ Rt 15 l0 ∧ Rt 4 l1 ∧ Rt 5 l2 ∧ Rt 254 l3
theorem data_eq {N : Nat} (hB : 9223372036854775808 < N) {l0 l1 l2 l3 : List TRange} {l4 : List TMade} (h4 : l4.length ≤ 60) : ∃ b, ref21_Data N l0 l1 l2 l3 l4 = some b ∧ (b = true ↔ GoodD l0 l1 l2 l3 l4) := by
 have hN : 1000000000000 < N := by omega
 obtain ⟨b4, e4, g4⟩ := rr_eq hB (l := l4) (by omega)
 obtain ⟨b0, e0, g0⟩ := rright_eq hN l0 15
 obtain ⟨b1, e1, g1⟩ := rright_eq hN l1 4
 obtain ⟨b2, e2, g2⟩ := rright_eq hN l2 5
 obtain ⟨b3, e3, g3⟩ := rright_eq hN l3 254
 unfold ref21_Data GoodD
 rw [e4, e0, e1, e2, e3]
 cases b4 with
 | false => exact ⟨false, rfl, by simp at g4; simp [g4]⟩
 | true =>
  cases b0 with
  | false => exact ⟨false, rfl, by simp at g0; simp [g0]⟩
  | true =>
   cases b1 with
   | false => exact ⟨false, rfl, by simp at g1; simp [g1]⟩
   | true =>
    cases b2 with
    | false => exact ⟨false, rfl, by simp at g2; simp [g2]⟩
    | true => exact ⟨b3, rfl, by simp at g4 g0 g1 g2; simp [g4, g0, g1, g2, g3]⟩
theorem get21 {N : Nat} (hN : 1000000000000 < N) {l : List TRange} (hl : l.length ≤ 5000) (c : Int) : ref21_Get N l c = some (valc l c) := by
 unfold ref21_Get
 rw [rget_eq hN hl, Option.bind_some]
end Go.Proofs.Ytejkiahbknjmaaa.AI
