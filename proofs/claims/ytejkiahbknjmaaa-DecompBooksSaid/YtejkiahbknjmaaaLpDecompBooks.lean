/- Plain law: DecompBooks. -/
import Derived.Test.YtejkiahbknjmaaaDM2
set_option linter.unusedVariables false
set_option linter.unusedSimpArgs false
set_option maxRecDepth 100000
namespace Go.Proofs.Ytejkiahbknjmaaa.AI
theorem books_L3 {N : Nat} {l0 l1 l2 l3 : List TRange} {l4 : List TMade} {l5 : List Int} (h5 : l5.length ≤ 50) : ∀ (d k n : Nat), k + d = l5.length → d < n → law21_DecompBooks_L3 N l5 false l0 l1 l2 l3 l4 n k = some (.inl ()) := by
 intro d
 induction d with
 | zero =>
  intro k n hk hn
  obtain ⟨n, rfl⟩ : ∃ x, n = x + 1 := ⟨n - 1, by omega⟩
  rw [law21_DecompBooks_L3, if_neg (by omega)]
 | succ d ih =>
  intro k n hk hn
  obtain ⟨n, rfl⟩ : ∃ x, n = x + 1 := ⟨n - 1, by omega⟩
  have hkl : k < l5.length := by omega
  rw [law21_DecompBooks_L3, if_pos (by omega), atI_get hkl, Option.bind_some, if_neg Bool.false_ne_true, wk (by omega)]
  exact ih (k + 1) n (by omega) (by omega)
theorem books_bad {N : Nat} (hN : 1000000000000 < N) {l0 l1 l2 l3 : List TRange} {l4 : List TMade} {l5 : List Int} (h5 : l5.length ≤ 50) (ed : ref21_Data N l0 l1 l2 l3 l4 = some false) :
  ((ref21_Data N l0 l1 l2 l3 l4).bind fun y => if y = true then some false else (if 0 = (l4.length : Int) then (if 0 < (l5.length : Int) then ((atI l5 0).bind fun x => (law21_DecompBooks_L3 N l5 y l0 l1 l2 l3 l4 N 1).bind fun o => match o with | .inl _ => some true | .inr (_) => some false) else some true) else (if 0 < (l5.length : Int) then ((atI l5 0).bind fun x => (law21_DecompBooks_L3 N l5 y l0 l1 l2 l3 l4 N 1).bind fun o => match o with | .inl _ => some true | .inr (_) => some false) else some true))) = some true := by
 rw [ed, Option.bind_some, if_neg Bool.false_ne_true, ite_self]
 by_cases g : 0 < (l5.length : Int)
 ·
  rw [if_pos g, show atI l5 0 = _ from atI_get (k := 0) (by omega), Option.bind_some, show law21_DecompBooks_L3 N l5 false l0 l1 l2 l3 l4 N 1 = _ from books_L3 h5 (l5.length - 1) 1 N (by omega) (by omega), Option.bind_some]
 ·
  rw [if_neg g]
theorem books_L2 {N : Nat} {l0 l1 l2 l3 : List TRange} {l4 : List TMade} (h4 : l4.length ≤ 60) : ∀ (d k n : Nat), k + d = l4.length → d < n → law21_DecompBooks_L2 N l4 l0 l1 l2 l3 l4 n k = some (.inl ()) := by
 intro d
 induction d with
 | zero =>
  intro k n hk hn
  obtain ⟨n, rfl⟩ : ∃ x, n = x + 1 := ⟨n - 1, by omega⟩
  rw [law21_DecompBooks_L2, if_neg (by omega)]
 | succ d ih =>
  intro k n hk hn
  obtain ⟨n, rfl⟩ : ∃ x, n = x + 1 := ⟨n - 1, by omega⟩
  have hkl : k < l4.length := by omega
  rw [law21_DecompBooks_L2, if_pos (by omega), atI_get hkl, Option.bind_some, Option.bind_some, if_pos rfl, if_pos rfl, if_pos rfl, wk (by omega)]
  exact ih (k + 1) n (by omega) (by omega)
theorem books_tail {N : Nat} (hN : 1000000000000 < N) {l0 l1 l2 l3 : List TRange} {l4 : List TMade} (h4 : l4.length ≤ 60) :
  ((some l4).bind fun y => if 0 < (y.length : Int) then ((atI y 0).bind fun x => (atI l4 0).bind fun x' => if x.Code = x'.Code then (if x.A = x'.A then (if x.B = x'.B then ((law21_DecompBooks_L2 N y l0 l1 l2 l3 l4 N 1).bind fun o => match o with | .inl _ => some true | .inr (_) => some false) else some false) else some false) else some false) else some true) = some true := by
 rw [Option.bind_some]
 by_cases g : 0 < (l4.length : Int)
 ·
  rw [if_pos g, show atI l4 0 = _ from atI_get (k := 0) (by omega), Option.bind_some, Option.bind_some, if_pos rfl, if_pos rfl, if_pos rfl, show law21_DecompBooks_L2 N l4 l0 l1 l2 l3 l4 N 1 = _ from books_L2 h4 (l4.length - 1) 1 N (by omega) (by omega), Option.bind_some]
 ·
  rw [if_neg g]
theorem books_L1 {N : Nat} (hN : 1000000000000 < N) {l0 l1 l2 l3 : List TRange} {l4 : List TMade} {l5 : List Int} (h5 : l5.length ≤ 50) {a35 a37 a39 a41 : List TRange} {a33 : List TMade} (r0 : Rt 255 l0) (r1 : Rt 255 l1) (r2 : Rt 255 l2) (r3 : Rt 255 l3) : ∀ (d k n : Nat) (i2 i3 i4 : Int) (s5 : List Int) (s6 : List (Vector Int 128)) (i7 i8 i9 : Int) (t0 : List Int) (t1 : List (Vector Int 128)) (j2 j3 j4 : Int) (t5 : List Int) (t6 : List (Vector Int 128)) (j7 j8 j9 : Int) (u0 : List Int) (u1 : List (Vector Int 128)), k + d = l5.length → d < n →
  Hd l0 i2 i3 s5 s6 → Hd l1 i7 i8 t0 t1 → Hd l2 j2 j3 t5 t6 → Hd l3 j7 j8 u0 u1 → ∃ r, law21_DecompBooks_L1 N l5 true l0 l1 l2 l3 l4 a35 a37 a39 a41 a33 l0 l1 l2 l3 n k i2 i3 i4 s5 s6 i7 i8 i9 t0 t1 j2 j3 j4 t5 t6 j7 j8 j9 u0 u1 = some (.inl r) := by
 intro d
 induction d with
 | zero =>
  intro k n i2 i3 i4 s5 s6 i7 i8 i9 t0 t1 j2 j3 j4 t5 t6 j7 j8 j9 u0 u1 hk hn h0 h1 h2 h3
  obtain ⟨n, rfl⟩ : ∃ x, n = x + 1 := ⟨n - 1, by omega⟩
  rw [law21_DecompBooks_L1, if_neg (by omega)]
  exact ⟨_, rfl⟩
 | succ d ih =>
  intro k n i2 i3 i4 s5 s6 i7 i8 i9 t0 t1 j2 j3 j4 t5 t6 j7 j8 j9 u0 u1 hk hn h0 h1 h2 h3
  obtain ⟨n, rfl⟩ : ∃ x, n = x + 1 := ⟨n - 1, by omega⟩
  have hkl : k < l5.length := by omega
  obtain ⟨x0, b0, e0, q0⟩ := get_eq hN r0 (st := 0) (as := i4) h0 l5[k]
  obtain ⟨x1, b1, e1, q1⟩ := get_eq hN r1 (st := 0) (as := i9) h1 l5[k]
  obtain ⟨x2, b2, e2, q2⟩ := get_eq hN r2 (st := 0) (as := j4) h2 l5[k]
  obtain ⟨x3, b3, e3, q3⟩ := get_eq hN r3 (st := 0) (as := j9) h3 l5[k]
  rw [law21_DecompBooks_L1, if_pos (by omega), atI_get hkl, Option.bind_some, if_pos rfl, e3, Option.bind_some]
  simp only
  rw [get21 hN r3.1, Option.bind_some, if_pos rfl, e0, Option.bind_some]
  simp only
  rw [get21 hN r0.1, Option.bind_some, if_pos rfl, e1, Option.bind_some]
  simp only
  rw [get21 hN r1.1, Option.bind_some, if_pos rfl, e2, Option.bind_some]
  simp only
  rw [get21 hN r2.1, Option.bind_some, if_pos rfl, wk (by omega)]
  exact ih (k + 1) n _ _ _ _ _ _ _ _ _ _ _ _ _ _ _ _ _ _ _ _ (by omega) (by omega) q0.hd q1.hd q2.hd q3.hd
theorem decompBooks_plain {N : Nat} (hB : 9223372036854775808 < N) (l0 l1 l2 l3 : List TRange) (l4 : List TMade) (l5 : List Int) : law21_DecompBooks N l0 l1 l2 l3 l4 l5 = some true := by
 have hN : 1000000000000 < N := by omega
 unfold law21_DecompBooks
 rw [alive21 hN, Option.bind_some, if_pos rfl]
 unfold ref21_Great
 by_cases g0 : 60 < (l0.length : Int)
 ·
  rw [if_pos g0]; rfl
 by_cases g1 : 60 < (l1.length : Int)
 ·
  rw [if_neg g0, if_pos g1]; rfl
 by_cases g2 : 60 < (l2.length : Int)
 ·
  rw [if_neg g0, if_neg g1, if_pos g2]; rfl
 by_cases g3 : 60 < (l3.length : Int)
 ·
  rw [if_neg g0, if_neg g1, if_neg g2, if_pos g3]; rfl
 by_cases g4 : 60 < (l4.length : Int)
 ·
  rw [if_neg g0, if_neg g1, if_neg g2, if_neg g3, decide_eq_true g4]; rfl
 rw [if_neg g0, if_neg g1, if_neg g2, if_neg g3, decide_eq_false g4, Option.bind_some, if_neg Bool.false_ne_true]
 by_cases g5 : 50 < (l5.length : Int)
 ·
  rw [if_pos g5]
 rw [if_neg g5]
 have h5 : l5.length ≤ 50 := by omega
 have h4 : l4.length ≤ 60 := by omega
 obtain ⟨b, ed, hd⟩ := data_eq hB (l0 := l0) (l1 := l1) (l2 := l2) (l3 := l3) (l4 := l4) h4
 obtain ⟨c4, e4, k4⟩ := dright_eq hN l4
 obtain ⟨c0, e0, k0⟩ := sright_eq hN l0 15
 obtain ⟨c1, e1, k1⟩ := sright_eq hN l1 4
 obtain ⟨c2, e2, k2⟩ := sright_eq hN l2 5
 obtain ⟨c3, e3, k3⟩ := sright_eq hN l3 254
 by_cases hG : GoodD l0 l1 l2 l3 l4
 ·
  obtain ⟨f4, f0, f1, f2, f3⟩ := hG
  have hb := hd.2 ⟨f4, f0, f1, f2, f3⟩
  subst hb
  have r0 := Rt_mono (m' := 255) (by omega) f0
  have r1 := Rt_mono (m' := 255) (by omega) f1
  have r2 := Rt_mono (m' := 255) (by omega) f2
  have r3 := Rt_mono (m' := 255) (by omega) f3
  rw [e4, Option.bind_some, if_pos (k4.2 f4), e0, Option.bind_some, if_pos (k0.2 f0), e1, Option.bind_some, if_pos (k1.2 f1), e2, Option.bind_some, if_pos (k2.2 f2), e3, Option.bind_some, if_pos (k3.2 f3)]
  rw [cloneM (by omega), Option.bind_some, cloneR (by omega), Option.bind_some, cloneR (by omega), Option.bind_some, cloneR (by omega), Option.bind_some, cloneR (by omega), Option.bind_some, ed, Option.bind_some, if_pos rfl, cloneM (by omega), Option.bind_some, if_pos rfl]
  by_cases g : 0 < (l5.length : Int)
  ·
   obtain ⟨x0, b0, p0, q0⟩ := get_eq hN r0 (st := 0) (as := 0) (.inl ⟨rfl, rfl, rfl, rfl⟩) (l5[0]'(by omega))
   obtain ⟨x1, b1, p1, q1⟩ := get_eq hN r1 (st := 0) (as := 0) (.inl ⟨rfl, rfl, rfl, rfl⟩) (l5[0]'(by omega))
   obtain ⟨x2, b2, p2, q2⟩ := get_eq hN r2 (st := 0) (as := 0) (.inl ⟨rfl, rfl, rfl, rfl⟩) (l5[0]'(by omega))
   obtain ⟨x3, b3, p3, q3⟩ := get_eq hN r3 (st := 0) (as := 0) (.inl ⟨rfl, rfl, rfl, rfl⟩) (l5[0]'(by omega))
   rw [if_pos g, show atI l5 0 = _ from atI_get (k := 0) (by omega), Option.bind_some, (new_eq hN l3 (by omega)).1 r3, Option.bind_some]
   simp only
   rw [p3, Option.bind_some]
   simp only
   rw [get21 hN r3.1, Option.bind_some, if_pos rfl, (new_eq hN l0 (by omega)).1 r0, Option.bind_some]
   simp only
   rw [p0, Option.bind_some]
   simp only
   rw [get21 hN r0.1, Option.bind_some, if_pos rfl, (new_eq hN l1 (by omega)).1 r1, Option.bind_some]
   simp only
   rw [p1, Option.bind_some]
   simp only
   rw [get21 hN r1.1, Option.bind_some, if_pos rfl, (new_eq hN l2 (by omega)).1 r2, Option.bind_some]
   simp only
   rw [p2, Option.bind_some]
   simp only
   rw [get21 hN r2.1, Option.bind_some, if_pos rfl]
   obtain ⟨r, er⟩ := books_L1 hN (l4 := l4) h5 (a35 := l0) (a37 := l1) (a39 := l2) (a41 := l3) (a33 := l4) r0 r1 r2 r3 (l5.length - 1) 1 N _ _ (IntKind.i64.wrap (0 + 1)) _ _ _ _ (IntKind.i64.wrap (0 + 1)) _ _ _ _ (IntKind.i64.wrap (0 + 1)) _ _ _ _ (IntKind.i64.wrap (0 + 1)) _ _ (by omega) (by omega) q0.hd q1.hd q2.hd q3.hd
   rw [show law21_DecompBooks_L1 N l5 true l0 l1 l2 l3 l4 l0 l1 l2 l3 l4 l0 l1 l2 l3 N 1 _ _ _ _ _ _ _ _ _ _ _ _ _ _ _ _ _ _ _ _ = _ from er, Option.bind_some]
   exact books_tail hN h4
  ·
   rw [if_neg g]
   exact books_tail hN h4
 ·
  have hb : b = false := by
   cases b with
   | false => rfl
   | true => exact absurd (hd.1 rfl) hG
  subst hb
  rw [e4, Option.bind_some]
  by_cases f4 : c4 = true
  ·
   rw [if_pos f4, e0, Option.bind_some]
   by_cases f0 : c0 = true
   ·
    rw [if_pos f0, e1, Option.bind_some]
    by_cases f1 : c1 = true
    ·
     rw [if_pos f1, e2, Option.bind_some]
     by_cases f2 : c2 = true
     ·
      rw [if_pos f2, e3, Option.bind_some]
      by_cases f3 : c3 = true
      ·
       exact absurd ⟨k4.1 f4, k0.1 f0, k1.1 f1, k2.1 f2, k3.1 f3⟩ hG
      ·
       rw [if_neg f3]; exact books_bad hN h5 ed
     ·
      rw [if_neg f2]; exact books_bad hN h5 ed
    ·
     rw [if_neg f1]; exact books_bad hN h5 ed
   ·
    rw [if_neg f0]; exact books_bad hN h5 ed
  ·
   rw [if_neg f4]; exact books_bad hN h5 ed
end Go.Proofs.Ytejkiahbknjmaaa.AI
