/- Part of a proof. -/
import Derived.Test.YtejkiahbknjmaaaDM1
set_option linter.unusedVariables false
set_option linter.unusedSimpArgs false
set_option maxRecDepth 100000
namespace Go.Proofs.Ytejkiahbknjmaaa.AI
theorem rvalid_eq {N : Nat} (c : Int) : ref02_Valid N c = some (vld c) := by
 unfold ref02_Valid vld
 by_cases g1 : 0 ≤ c
 ·
  rw [if_pos g1]
  by_cases g3 : c < 55296
  ·
   rw [if_pos g3, decide_eq_true (by omega)]
  ·
   rw [if_neg g3]
   by_cases g4 : 57343 < c
   ·
    rw [if_pos g4]; congr 1; exact decide_eq_decide.2 (by omega)
   ·
    rw [if_neg g4, decide_eq_false (by omega)]
 ·
  rw [if_neg g1]
  by_cases g4 : 57343 < c
  ·
   rw [if_pos g4]; congr 1; exact decide_eq_decide.2 (by omega)
  ·
   rw [if_neg g4, decide_eq_false (by omega)]
theorem wkm {k : Nat} (h : 0 < k) (h2 : k ≤ 9223372036854775807) : IntKind.i64.wrap ((k : Int) - 1) = ((k - 1 : Nat) : Int) := by
 rw [IntWalk.i64_in _ ⟨by omega, by omega⟩]; omega
theorem rr_L1 {N : Nat} {l : List TMade} (hl : l.length ≤ 9223372036854775807) : ∀ (d k n : Nat) (a : Int), k + d = l.length → d < n → (k = 0 → a = -1) → (∀ (j : Nat) (x : TMade), k = j + 1 → l[j]? = some x → a = x.Code) →
  ∃ o, ref21_Right_L1 N l n k = some o ∧ (o = .inl () ↔ chM a (l.drop k)) := by
 intro d
 induction d with
 | zero =>
  intro k n a hk hn h0 h1
  obtain ⟨n, rfl⟩ : ∃ x, n = x + 1 := ⟨n - 1, by omega⟩
  rw [ref21_Right_L1, if_neg (by omega), List.drop_eq_nil_of_le (by omega)]
  exact ⟨_, rfl, by simp [chM]⟩
 | succ d ih =>
  intro k n a hk hn h0 h1
  obtain ⟨n, rfl⟩ : ∃ x, n = x + 1 := ⟨n - 1, by omega⟩
  have hkl : k < l.length := by omega
  rw [ref21_Right_L1, if_pos (by omega), atI_get hkl, Option.bind_some, rvalid_eq, Option.bind_some, List.drop_eq_getElem_cons hkl]
  unfold chM okM
  by_cases g2 : vld l[k].Code = true
  ·
   have hge := vld_ge g2
   obtain ⟨o, e, h⟩ := ih (k + 1) n l[k].Code (by omega) (by omega) (by omega) (fun j x hj hx => by
    have : j = k := by omega
    subst this
    rw [List.getElem?_eq_getElem hkl] at hx; rw [Option.some.inj hx])
   have hT : ∃ o, (if (0 : Int) < (k : Int) then (atI l (IntKind.i64.wrap ((k : Int) - 1))).bind fun x_21 => if l[k].Code ≤ x_21.Code then some (.inr ()) else ref21_Right_L1 N l n (IntKind.i64.wrap ((k : Int) + 1)) else ref21_Right_L1 N l n (IntKind.i64.wrap ((k : Int) + 1))) = some o ∧ (o = .inl () ↔ a < l[k].Code ∧ chM l[k].Code (l.drop (k + 1))) := by
    rw [wkB (by omega)]
    by_cases gk : (0 : Int) < (k : Int)
    ·
     have hk1 : k - 1 < l.length := by omega
     rw [if_pos gk, wkm (by omega) (by omega), atI_get hk1, Option.bind_some]
     have ha := h1 (k - 1) l[k - 1] (by omega) (List.getElem?_eq_getElem hk1)
     by_cases g3 : l[k].Code ≤ l[k - 1].Code
     ·
      rw [if_pos g3]; exact ⟨_, rfl, by simp; intro q; omega⟩
     ·
      rw [if_neg g3]; exact ⟨o, e, by rw [h]; exact ⟨fun q => ⟨by omega, q⟩, fun q => q.2⟩⟩
    ·
     have ha := h0 (by omega)
     rw [if_neg gk]; exact ⟨o, e, by rw [h]; exact ⟨fun q => ⟨by omega, q⟩, fun q => q.2⟩⟩
   obtain ⟨o2, e2, h2⟩ := hT
   rw [if_pos g2, rvalid_eq, Option.bind_some]
   by_cases g3 : vld l[k].A = true
   ·
    rw [if_pos g3]
    by_cases g4 : l[k].B = -1
    ·
     rw [if_pos g4]
     exact ⟨o2, e2, by rw [h2]; exact ⟨fun q => ⟨q.1, ⟨g2, g3, .inl g4⟩, q.2⟩, fun q => ⟨q.1, q.2.2⟩⟩⟩
    rw [if_neg g4, rvalid_eq, Option.bind_some]
    by_cases g5 : vld l[k].B = true
    ·
     rw [if_pos g5]
     exact ⟨o2, e2, by rw [h2]; exact ⟨fun q => ⟨q.1, ⟨g2, g3, .inr g5⟩, q.2⟩, fun q => ⟨q.1, q.2.2⟩⟩⟩
    ·
     rw [if_neg g5]; exact ⟨_, rfl, by simp [g4, g5]⟩
   ·
    rw [if_neg g3]; exact ⟨_, rfl, by simp [g3]⟩
  ·
   rw [if_neg g2]; exact ⟨_, rfl, by simp [g2]⟩
theorem rr_eq {N : Nat} (hB : 9223372036854775808 < N) {l : List TMade} (hl : l.length ≤ 9223372036854775807) : ∃ b, ref21_Right N l = some b ∧ (b = true ↔ RtM l) := by
 unfold ref21_Right RtM
 obtain ⟨o, e, h⟩ := rr_L1 (N := N) hl l.length 0 N (-1) (by omega) (by omega) (fun _ => rfl) (fun j x hj => by omega)
 rw [List.drop_zero] at h
 rw [show ref21_Right_L1 N l N 0 = _ from e, Option.bind_some]
 cases o with
 | inl u => exact ⟨_, rfl, by rw [decide_eq_true_iff]; exact ⟨fun q => ⟨by omega, h.1 rfl⟩, fun q => by have := q.1; omega⟩⟩
 | inr u => exact ⟨_, rfl, by simp; intro _ hc; have := h.2 hc; cases this⟩
theorem rw_L1 {N : Nat} {l : List TMade} (hl : l.length ≤ 3000) {a b : Int} (hb : 0 ≤ b) : ∀ (d k n : Nat), k + d = l.length → d < n → ref21_Whole_L1 N l a b n k = some (match fw (l.drop k) a b with | some p => .inr p.Code | none => .inl ()) := by
 intro d
 induction d with
 | zero =>
  intro k n hk hn
  obtain ⟨n, rfl⟩ : ∃ x, n = x + 1 := ⟨n - 1, by omega⟩
  rw [ref21_Whole_L1, if_neg (by omega), List.drop_eq_nil_of_le (by omega)]
  rfl
 | succ d ih =>
  intro k n hk hn
  obtain ⟨n, rfl⟩ : ∃ x, n = x + 1 := ⟨n - 1, by omega⟩
  have hkl : k < l.length := by omega
  rw [ref21_Whole_L1, if_pos (by omega), if_pos hb, atI_get hkl, Option.bind_some, wk (by omega), ih (k + 1) n (by omega) (by omega), List.drop_eq_getElem_cons hkl]
  simp only [fw]
  by_cases g1 : l[k].A = a
  ·
   rw [if_pos g1]
   by_cases g2 : l[k].B = b
   ·
    rw [if_pos g2, if_pos ⟨g1, g2⟩]
   ·
    rw [if_neg g2, if_neg (fun q => g2 q.2)]
  ·
   rw [if_neg g1, if_neg (fun q => g1 q.1)]
theorem rw_eq {N : Nat} (hN : 1000000000000 < N) {l : List TMade} (hl : l.length ≤ 3000) (a b : Int) : ref21_Whole N l a b = some (if b < 0 then (0, false) else wof (fw l a b)) := by
 unfold ref21_Whole
 by_cases g : b < 0
 ·
  obtain ⟨M, rfl⟩ : ∃ x, N = x + 1 := ⟨N - 1, by omega⟩
  have : ref21_Whole_L1 (M + 1) l a b (M + 1) 0 = some (.inl ()) := by
   rw [ref21_Whole_L1]
   split
   ·
    rw [if_neg (by omega)]
   ·
    rfl
  rw [this, Option.bind_some, if_pos g]
 ·
  rw [if_neg g, show ref21_Whole_L1 N l a b N 0 = _ from rw_L1 hl (by omega) l.length 0 N (by omega) (by omega), Option.bind_some, List.drop_zero]
  cases fw l a b <;> rfl
def stp (l : List TMade) (d : Nat) (p : TMade) : List Int := pt l d p.A ++ (if p.B = -1 then [] else pt l d p.B)
theorem pt_succ (l : List TMade) (d : Nat) (c : Int) : pt l (d + 1) c = match fc l c with | none => [c] | some p => stp l d p := rfl
theorem fc_cons {x : TMade} {l : List TMade} {c : Int} : fc (x :: l) c = if x.Code = c then some x else fc l c := by
 unfold fc
 rw [List.find?_cons]
 by_cases g : x.Code = c
 ·
  rw [decide_eq_true g, if_pos g]
 ·
  rw [decide_eq_false g, if_neg g]
theorem rp5 {N : Nat} (hN : 1000000000000 < N) (l : List TMade) (c : Int) : ref21_Parts_v5 N l c = some () := by
 obtain ⟨M, rfl⟩ : ∃ x, N = x + 1 := ⟨N - 1, by omega⟩
 unfold ref21_Parts_v5
 rw [ref21_Parts_v5_L1]
 split <;> rfl
theorem rp4_L1 {N : Nat} (hN : 1000000000000 < N) (x : TMade) : ref21_Parts_v4_L1 N x N 0 [x.A] = some [x.A, x.B] := by
 obtain ⟨M, rfl⟩ : ∃ x, N = x + 2 := ⟨N - 2, by omega⟩
 rfl
theorem rp4_L2 {N : Nat} (hN : 1000000000000 < N) {l : List TMade} (hl : l.length ≤ 3000) {c : Int} : ∀ (d k n : Nat), k + d = l.length → d < n →
  ref21_Parts_v4_L2 N l c n k = some (match fc (l.drop k) c with | some p => .inr (stp l 0 p) | none => .inl ()) := by
 intro d
 induction d with
 | zero =>
  intro k n hk hn
  obtain ⟨n, rfl⟩ : ∃ x, n = x + 1 := ⟨n - 1, by omega⟩
  rw [ref21_Parts_v4_L2, if_neg (by omega), List.drop_eq_nil_of_le (by omega)]
  rfl
 | succ d ih =>
  intro k n hk hn
  obtain ⟨n, rfl⟩ : ∃ x, n = x + 1 := ⟨n - 1, by omega⟩
  have hkl : k < l.length := by omega
  rw [ref21_Parts_v4_L2, if_pos (by omega), atI_get hkl, Option.bind_some, wk (by omega), ih (k + 1) n (by omega) (by omega), List.drop_eq_getElem_cons hkl, fc_cons]
  by_cases g1 : l[k].Code = c
  ·
   rw [if_pos g1, if_pos g1]
   simp only [stp]
   rw [rp5 hN, Option.bind_some]
   by_cases g2 : l[k].B = -1
   ·
    rw [if_pos g2, if_pos g2]; rfl
   ·
    rw [if_neg g2, if_neg g2, rp5 hN, Option.bind_some, rp4_L1 hN, Option.bind_some]; rfl
  ·
   rw [if_neg g1, if_neg g1]
theorem rp4_eq {N : Nat} (hN : 1000000000000 < N) {l : List TMade} (hl : l.length ≤ 3000) (c : Int) : ref21_Parts_v4 N l c = some (pt l 1 c) := by
 unfold ref21_Parts_v4
 rw [show ref21_Parts_v4_L2 N l c N 0 = _ from rp4_L2 hN hl l.length 0 N (by omega) (by omega), Option.bind_some, List.drop_zero, pt_succ]
 cases fc l c <;> rfl
theorem rp3_L1 {N : Nat} {y : List Int} (hy : y.length ≤ 1000) : ∀ (d k n : Nat) (s : List Int), k + d = y.length → d < n → s.length + d ≤ 1000000 → ref21_Parts_v3_L1 N y n k s = some (s ++ y.drop k) := by
 intro d
 induction d with
 | zero =>
  intro k n s hk hn hs
  obtain ⟨n, rfl⟩ : ∃ x, n = x + 1 := ⟨n - 1, by omega⟩
  rw [ref21_Parts_v3_L1, if_neg (by omega), List.drop_eq_nil_of_le (by omega), List.append_nil]
 | succ d ih =>
  intro k n s hk hn hs
  obtain ⟨n, rfl⟩ : ∃ x, n = x + 1 := ⟨n - 1, by omega⟩
  have hkl : k < y.length := by omega
  rw [ref21_Parts_v3_L1, if_pos (by omega), atI_get hkl, Option.bind_some, if_pos (by omega), wk (by omega), ih (k + 1) n _ (by omega) (by omega) (by simp; omega), List.drop_eq_getElem_cons hkl, List.append_assoc]
  rfl
theorem rp3_L2 {N : Nat} (hN : 1000000000000 < N) {l : List TMade} (hl : l.length ≤ 3000) {c : Int} : ∀ (d k n : Nat), k + d = l.length → d < n →
  ref21_Parts_v3_L2 N l c n k = some (match fc (l.drop k) c with | some p => .inr (stp l 1 p) | none => .inl ()) := by
 intro d
 induction d with
 | zero =>
  intro k n hk hn
  obtain ⟨n, rfl⟩ : ∃ x, n = x + 1 := ⟨n - 1, by omega⟩
  rw [ref21_Parts_v3_L2, if_neg (by omega), List.drop_eq_nil_of_le (by omega)]
  rfl
 | succ d ih =>
  intro k n hk hn
  obtain ⟨n, rfl⟩ : ∃ x, n = x + 1 := ⟨n - 1, by omega⟩
  have hkl : k < l.length := by omega
  rw [ref21_Parts_v3_L2, if_pos (by omega), atI_get hkl, Option.bind_some, wk (by omega), ih (k + 1) n (by omega) (by omega), List.drop_eq_getElem_cons hkl, fc_cons]
  by_cases g1 : l[k].Code = c
  ·
   rw [if_pos g1, if_pos g1]
   simp only [stp]
   rw [rp4_eq hN hl, Option.bind_some]
   by_cases g2 : l[k].B = -1
   ·
    rw [if_pos g2, if_pos g2, List.append_nil]
   ·
    have l1 := (pt_len l 1 l[k].A).2
    have l2 := (pt_len l 1 l[k].B).2
    rw [if_neg g2, if_neg g2, rp4_eq hN hl, Option.bind_some, show ref21_Parts_v3_L1 N (pt l 1 l[k].B) N 0 (pt l 1 l[k].A) = _ from rp3_L1 (by omega) (pt l 1 l[k].B).length 0 N _ (by omega) (by omega) (by omega), Option.bind_some, List.drop_zero]
  ·
   rw [if_neg g1, if_neg g1]
theorem rp3_eq {N : Nat} (hN : 1000000000000 < N) {l : List TMade} (hl : l.length ≤ 3000) (c : Int) : ref21_Parts_v3 N l c = some (pt l 2 c) := by
 unfold ref21_Parts_v3
 rw [show ref21_Parts_v3_L2 N l c N 0 = _ from rp3_L2 hN hl l.length 0 N (by omega) (by omega), Option.bind_some, List.drop_zero, pt_succ]
 cases fc l c <;> rfl
theorem rp2_L1 {N : Nat} {y : List Int} (hy : y.length ≤ 1000) : ∀ (d k n : Nat) (s : List Int), k + d = y.length → d < n → s.length + d ≤ 1000000 → ref21_Parts_v2_L1 N y n k s = some (s ++ y.drop k) := by
 intro d
 induction d with
 | zero =>
  intro k n s hk hn hs
  obtain ⟨n, rfl⟩ : ∃ x, n = x + 1 := ⟨n - 1, by omega⟩
  rw [ref21_Parts_v2_L1, if_neg (by omega), List.drop_eq_nil_of_le (by omega), List.append_nil]
 | succ d ih =>
  intro k n s hk hn hs
  obtain ⟨n, rfl⟩ : ∃ x, n = x + 1 := ⟨n - 1, by omega⟩
  have hkl : k < y.length := by omega
  rw [ref21_Parts_v2_L1, if_pos (by omega), atI_get hkl, Option.bind_some, if_pos (by omega), wk (by omega), ih (k + 1) n _ (by omega) (by omega) (by simp; omega), List.drop_eq_getElem_cons hkl, List.append_assoc]
  rfl
theorem rp2_L2 {N : Nat} (hN : 1000000000000 < N) {l : List TMade} (hl : l.length ≤ 3000) {c : Int} : ∀ (d k n : Nat), k + d = l.length → d < n →
  ref21_Parts_v2_L2 N l c n k = some (match fc (l.drop k) c with | some p => .inr (stp l 2 p) | none => .inl ()) := by
 intro d
 induction d with
 | zero =>
  intro k n hk hn
  obtain ⟨n, rfl⟩ : ∃ x, n = x + 1 := ⟨n - 1, by omega⟩
  rw [ref21_Parts_v2_L2, if_neg (by omega), List.drop_eq_nil_of_le (by omega)]
  rfl
 | succ d ih =>
  intro k n hk hn
  obtain ⟨n, rfl⟩ : ∃ x, n = x + 1 := ⟨n - 1, by omega⟩
  have hkl : k < l.length := by omega
  rw [ref21_Parts_v2_L2, if_pos (by omega), atI_get hkl, Option.bind_some, wk (by omega), ih (k + 1) n (by omega) (by omega), List.drop_eq_getElem_cons hkl, fc_cons]
  by_cases g1 : l[k].Code = c
  ·
   rw [if_pos g1, if_pos g1]
   simp only [stp]
   rw [rp3_eq hN hl, Option.bind_some]
   by_cases g2 : l[k].B = -1
   ·
    rw [if_pos g2, if_pos g2, List.append_nil]
   ·
    have l1 := (pt_len l 2 l[k].A).2
    have l2 := (pt_len l 2 l[k].B).2
    rw [if_neg g2, if_neg g2, rp3_eq hN hl, Option.bind_some, show ref21_Parts_v2_L1 N (pt l 2 l[k].B) N 0 (pt l 2 l[k].A) = _ from rp2_L1 (by omega) (pt l 2 l[k].B).length 0 N _ (by omega) (by omega) (by omega), Option.bind_some, List.drop_zero]
  ·
   rw [if_neg g1, if_neg g1]
theorem rp2_eq {N : Nat} (hN : 1000000000000 < N) {l : List TMade} (hl : l.length ≤ 3000) (c : Int) : ref21_Parts_v2 N l c = some (pt l 3 c) := by
 unfold ref21_Parts_v2
 rw [show ref21_Parts_v2_L2 N l c N 0 = _ from rp2_L2 hN hl l.length 0 N (by omega) (by omega), Option.bind_some, List.drop_zero, pt_succ]
 cases fc l c <;> rfl
theorem rp1_L1 {N : Nat} {y : List Int} (hy : y.length ≤ 1000) : ∀ (d k n : Nat) (s : List Int), k + d = y.length → d < n → s.length + d ≤ 1000000 → ref21_Parts_L1 N y n k s = some (s ++ y.drop k) := by
 intro d
 induction d with
 | zero =>
  intro k n s hk hn hs
  obtain ⟨n, rfl⟩ : ∃ x, n = x + 1 := ⟨n - 1, by omega⟩
  rw [ref21_Parts_L1, if_neg (by omega), List.drop_eq_nil_of_le (by omega), List.append_nil]
 | succ d ih =>
  intro k n s hk hn hs
  obtain ⟨n, rfl⟩ : ∃ x, n = x + 1 := ⟨n - 1, by omega⟩
  have hkl : k < y.length := by omega
  rw [ref21_Parts_L1, if_pos (by omega), atI_get hkl, Option.bind_some, if_pos (by omega), wk (by omega), ih (k + 1) n _ (by omega) (by omega) (by simp; omega), List.drop_eq_getElem_cons hkl, List.append_assoc]
  rfl
theorem rp1_L2 {N : Nat} (hN : 1000000000000 < N) {l : List TMade} (hl : l.length ≤ 3000) {c : Int} : ∀ (d k n : Nat), k + d = l.length → d < n →
  ref21_Parts_L2 N l c n k = some (match fc (l.drop k) c with | some p => .inr (stp l 3 p) | none => .inl ()) := by
 intro d
 induction d with
 | zero =>
  intro k n hk hn
  obtain ⟨n, rfl⟩ : ∃ x, n = x + 1 := ⟨n - 1, by omega⟩
  rw [ref21_Parts_L2, if_neg (by omega), List.drop_eq_nil_of_le (by omega)]
  rfl
 | succ d ih =>
  intro k n hk hn
  obtain ⟨n, rfl⟩ : ∃ x, n = x + 1 := ⟨n - 1, by omega⟩
  have hkl : k < l.length := by omega
  rw [ref21_Parts_L2, if_pos (by omega), atI_get hkl, Option.bind_some, wk (by omega), ih (k + 1) n (by omega) (by omega), List.drop_eq_getElem_cons hkl, fc_cons]
  by_cases g1 : l[k].Code = c
  ·
   rw [if_pos g1, if_pos g1]
   simp only [stp]
   rw [rp2_eq hN hl, Option.bind_some]
   by_cases g2 : l[k].B = -1
   ·
    rw [if_pos g2, if_pos g2, List.append_nil]
   ·
    have l1 := (pt_len l 3 l[k].A).2
    have l2 := (pt_len l 3 l[k].B).2
    rw [if_neg g2, if_neg g2, rp2_eq hN hl, Option.bind_some, show ref21_Parts_L1 N (pt l 3 l[k].B) N 0 (pt l 3 l[k].A) = _ from rp1_L1 (by omega) (pt l 3 l[k].B).length 0 N _ (by omega) (by omega) (by omega), Option.bind_some, List.drop_zero]
  ·
   rw [if_neg g1, if_neg g1]
theorem rp1_eq {N : Nat} (hN : 1000000000000 < N) {l : List TMade} (hl : l.length ≤ 3000) (c : Int) : ref21_Parts N l c = some (pt l 4 c) := by
 unfold ref21_Parts
 rw [show ref21_Parts_L2 N l c N 0 = _ from rp1_L2 hN hl l.length 0 N (by omega) (by omega), Option.bind_some, List.drop_zero, pt_succ]
 cases fc l c <;> rfl
theorem codes_L1 {N : Nat} {x : List Int} (hx : x.length ≤ 1000000) : ∀ (d k n : Nat), k + d = x.length → d < n → ref21_Codes_row_L1 N x x n k = some (.inl ()) := by
 intro d
 induction d with
 | zero =>
  intro k n hk hn
  obtain ⟨n, rfl⟩ : ∃ x, n = x + 1 := ⟨n - 1, by omega⟩
  rw [ref21_Codes_row_L1, if_neg (by omega)]
 | succ d ih =>
  intro k n hk hn
  obtain ⟨n, rfl⟩ : ∃ x, n = x + 1 := ⟨n - 1, by omega⟩
  have hkl : k < x.length := by omega
  rw [ref21_Codes_row_L1, if_pos (by omega), atI_get hkl, Option.bind_some, Option.bind_some, if_pos rfl, wk (by omega)]
  exact ih (k + 1) n (by omega) (by omega)
theorem codes_eq {N : Nat} (hN : 1000000000000 < N) {x : List Int} (hx : x.length ≤ 1000000) : ref21_Codes_row N x x = some true := by
 unfold ref21_Codes_row
 rw [if_pos rfl, show ref21_Codes_row_L1 N x x N 0 = _ from codes_L1 hx x.length 0 N (by omega) (by omega), Option.bind_some]
theorem decompParts_plain {N : Nat} (hB : 9223372036854775808 < N) (l : List TMade) (hl : l.length ≤ 9223372036854775807) (c a b : Int) : law21_DecompParts N l c a b = some true := by
 have hN : 1000000000000 < N := by omega
 unfold law21_DecompParts
 rw [alive21 hN, Option.bind_some, if_pos rfl]
 obtain ⟨r, e, h⟩ := dright_eq hN l
 obtain ⟨r2, e2, h2⟩ := rr_eq hB hl
 by_cases hr : RtM l
 ·
  by_cases g : 200 < (l.length : Int)
  ·
   have := hr.1
   rw [if_pos g, if_pos (by omega)]
  rw [if_neg g, whole_eq hN hr, Option.bind_some, e2, rw_eq hN hr.1, e, dparts_eq hN hr, rp1_eq hN hr.1, h.2 hr, h2.2 hr]
  generalize (if b < 0 then ((0 : Int), false) else wof (fw l a b)) = W
  obtain ⟨w1, w2⟩ := W
  have := (pt_len l 4 c).2
  simp only [Option.bind_some, if_true]
  rw [codes_eq hN (by omega), Option.bind_some, if_pos rfl]
  cases w2 <;> rfl
 ·
  have f1 : r = false := by
   cases r with
   | false => rfl
   | true => exact absurd (h.1 rfl) hr
  have f2 : r2 = false := by
   cases r2 with
   | false => rfl
   | true => exact absurd (h2.1 rfl) hr
  subst f1
  subst f2
  have hp : decomp_Parts N l c = some [] := by
   unfold decomp_Parts
   rw [e]; rfl
  rw [whole_bad hN hr, e2, e, hp]
  by_cases g : 200 < (l.length : Int)
  ·
   rw [if_pos g]
   split
   ·
    rfl
   ·
    rfl
  ·
   rw [if_neg g]; rfl
end Go.Proofs.Ytejkiahbknjmaaa.AI
