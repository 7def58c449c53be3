/- Part of a proof. -/
import Derived.Test.YtfacmhngbaboiaaHP3
set_option linter.unusedVariables false
set_option linter.unusedSimpArgs false
set_option maxRecDepth 100000
namespace Go.Proofs.Ytfacmhngbaboiaa.AI
theorem u32_appP {b m : List Int} (hb : Bytes b) {i : Int} (h : 0 ≤ u32 b i) : u32 (b ++ m) i = u32 b i := by
 have h1 := (not_congr (u32_neg hb (i := i))).1 (by omega)
 unfold u32
 rw [if_pos (by simp; omega), if_pos (by omega), Xhu (by omega) (by omega), Xhu (by omega) (by omega), Xhu (by omega) (by omega), Xhu (by omega) (by omega)]
section
variable {N : Nat} (hN : 1000000000000 < N) {b m : List Int} (hb : Bytes b) (hm : Bytes m) (hl : (b ++ m).length ≤ 2000)
include hN hb hm hl
def elseT (N : Nat) (b : List Int) (a k u : Int) : Option (T16g ⊕ Unit) := if k = 9 then ((Yb N false).bind fun o => match o with | .inl _ => none | .inr _ => some (.inr ())) else ((Yb N (decide (u ≤ (b.length : Int)))).bind fun o => match o with | .inl _ => ((QW N b (IntKind.i64.wrap (a + u)) k).bind fun o => match o with | .inl (k, c, al, d, o, l, r, vals, pairs, first, second, grid, curs, marks, base, bases) => some (.inl (k, c, al, d, o, l, r, vals, pairs, first, second, grid, curs, marks, base, bases)) | .inr _ => some (.inr ())) | .inr _ => some (.inr ()))
theorem elseT_2 {a k u : Int} (ha : -100000 ≤ a) (ha' : a ≤ 100000) (hk : 0 ≤ k) (hk2 : k ≤ 65535) (hu : 0 ≤ u) : Two (elseT N b a k u) (elseT N (b ++ m) a k u) GP16 := by
 unfold elseT
 by_cases h9 : k = 9
 ·
  rw [if_pos h9, if_pos h9]; exact Two.r
 ·
  rw [if_neg h9, if_neg h9]
  refine Two.b (Xhp (fun h => ?_)) ?_ rfl rfl
  ·
   have := of_decide_eq_true h
   exact decide_eq_true (by simp only [List.length_append]; omega)
  ·
   rintro v hv
   dsimp only
   have hv := of_decide_eq_true hv
   rw [w64 (x := a + u) (by omega) (by omega)]
   refine Two.b (kind_2 hN hb hm hl (by omega) (by omega) hk hk2 h9) ?_ rfl rfl
   rintro ⟨k, c, al, d, o, l, r, vals, pairs, first, second, grid, curs, marks, base, bases⟩ hh
   exact Two.i hh
theorem Xj2 {a : Int} (ha : -100000 ≤ a) (ha' : a ≤ 100000) : Two (Zg N b a (a + 2)) (Zg N (b ++ m) a (a + 2)) GP16 := by
 unfold Zg
 refine Two.b (QZ hN hb hm hl (by omega)) ?_ rfl rfl
 rintro k ⟨k1, k2, k3, k4⟩
 dsimp only
 have hs := short hl
 rw [w64 (x := a + 2 + 2) (by omega) (by omega), U32_eq hN hb (by omega) _ (by omega), U32_eq hN (hb.app hm) (by omega) _ (by omega), Option.bind_some, Option.bind_some]
 by_cases n1 : u32 b (a + 2 + 2) < 0
 ·
  rw [if_pos n1]
  by_cases n2 : u32 (b ++ m) (a + 2 + 2) < 0
  ·
   rw [if_pos n2]; exact Two.r
  ·
   rw [if_neg n2]
   have h := elseT_2 hN (hb.app hm) (m := []) (by intro x hx; cases hx) (by simpa using hl) (a := a) (k := k) (u := u32 (b ++ m) (a + 2 + 2)) ha ha' k1 k2 (by omega)
   rw [List.append_nil] at h
   exact Two.right h
 ·
  have e := u32_appP (m := m) hb (i := a + 2 + 2) (by omega)
  rw [e, if_neg n1]
  exact elseT_2 hN hb hm hl ha ha' k1 k2 (by omega)
theorem read_2 {a kd : Int} (ha : -100000 ≤ a) (ha' : a ≤ 100000) (hkd : 0 ≤ kd) (hkd2 : kd ≤ 65535) : Two (Xbk N b a kd) (Xbk N (b ++ m) a kd) GP16 := by
 unfold Xbk
 have t16 : ∀ {e e' : Option (T16g ⊕ Unit)}, Two e e' GP16 → Two (e.bind fun o => match o with | .inl (k, c, al, d, o, l, r, vals, pairs, first, second, grid, curs, marks, base, bases) => some (.inl (k, c, al, d, o, l, r, vals, pairs, first, second, grid, curs, marks, base, bases)) | .inr _ => some (.inr ())) (e'.bind fun o => match o with | .inl (k, c, al, d, o, l, r, vals, pairs, first, second, grid, curs, marks, base, bases) => some (.inl (k, c, al, d, o, l, r, vals, pairs, first, second, grid, curs, marks, base, bases)) | .inr _ => some (.inr ())) GP16 := by
  intro e e' h
  refine Two.b h ?_ rfl rfl
  rintro ⟨k, c, al, d, o, l, r, vals, pairs, first, second, grid, curs, marks, base, bases⟩ hh
  exact Two.i hh
 have t17 : ∀ {e e' : Option (T17g ⊕ Unit)}, Two e e' GP17 → Two (e.bind fun o => match o with | .inl (k, c, al, d, o, l, r, vals, pairs, first, second, grid, curs, marks, base, bases, _) => some (.inl (k, c, al, d, o, l, r, vals, pairs, first, second, grid, curs, marks, base, bases)) | .inr _ => some (.inr ())) (e'.bind fun o => match o with | .inl (k, c, al, d, o, l, r, vals, pairs, first, second, grid, curs, marks, base, bases, _) => some (.inl (k, c, al, d, o, l, r, vals, pairs, first, second, grid, curs, marks, base, bases)) | .inr _ => some (.inr ())) GP16 := by
  intro e e' h
  refine Two.b h ?_ rfl rfl
  rintro ⟨k, c, al, d, o, l, r, vals, pairs, first, second, grid, curs, marks, base, bases, q⟩ hh
  exact Two.i hh
 rw [w64 (x := kd + 10) (by omega) (by omega)]
 by_cases k7 : kd + 10 = 17
 ·
  simp only [if_pos k7]
  exact t16 (Xhw hN hb hm hl (by omega) (by omega) k7)
 simp only [if_neg k7]
 by_cases k8 : kd + 10 = 18
 ·
  simp only [if_pos k8]
  exact t16 (Xk5 hN hb hm hl (by omega) (by omega) k8)
 simp only [if_neg k8]
 by_cases k1 : 1 ≤ kd
 rotate_left
 ·
  simp only [if_neg k1]; exact Two.r
 simp only [if_pos k1]
 refine Two.b (Xhp id) ?_ rfl rfl
 rintro u hu
 dsimp only
 have hu := of_decide_eq_true hu
 refine Two.b (QZ hN hb hm hl (by omega)) ?_ rfl rfl
 rintro f ⟨f1, f2, f3, f4⟩
 dsimp only
 rw [w64 (x := a + 2) (by omega) (by omega)]
 by_cases k2 : kd ≤ 2
 ·
  simp only [if_pos k2]
  by_cases e1 : f = 1
  ·
   simp only [if_pos e1]
   by_cases e2 : kd = 1
   ·
    simp only [if_pos e2]; exact t17 (Xfv hN hb hm hl (by omega) (by omega) (by omega) (by omega))
   ·
    simp only [if_neg e2]; exact t17 (Xki hN hb hm hl (by omega) (by omega) (by omega) (by omega))
  ·
   simp only [if_neg e1]
   by_cases e3 : f = 2
   ·
    simp only [if_pos e3]
    by_cases e2 : kd = 1
    ·
     simp only [if_pos e2]; exact t17 (Xfv hN hb hm hl (by omega) (by omega) (by omega) (by omega))
    ·
     simp only [if_neg e2]; exact t17 (Xki hN hb hm hl (by omega) (by omega) (by omega) (by omega))
   ·
    simp only [if_neg e3]; exact Two.r
 ·
  simp only [if_neg k2]
  by_cases e1 : f = 1
  ·
   simp only [if_pos e1]
   by_cases h9 : kd = 9
   ·
    simp only [if_pos h9]; exact t16 (Xj2 hN hb hm hl ha ha')
   simp only [if_neg h9]
   by_cases e2 : kd = 3
   ·
    simp only [if_pos e2]; exact t17 (Xjb hN hb hm hl (by omega) (by omega) (by omega) (by omega))
   ·
    simp only [if_neg e2]; exact t16 (marks_2 hN hb hm hl (by omega) (by omega) (by omega) (by omega) (by omega) (by omega) (by omega))
  ·
   simp only [if_neg e1]; exact Two.r
def told : Option T16g → Int × List TSpan × Bool × Int × List (List Int) × List (List TLig) × List TCtx × List Yg × List (List TTwo) × List Xg × List Xg × List (List TTwo) × List Xp × List TMark × List TSpan × List (List (List Xw)) × Bool
 | some (k, c, al, d, o, l, r, vals, pairs, first, second, grid, curs, marks, base, bases) => (k, c, al, d, o, l, r, vals, pairs, first, second, grid, curs, marks, base, bases, true)
 | none => (0, [], false, 0, [], [], [], [], [], [], [], [], [], [], [], [], false)
theorem Read_2 {a kd : Int} (ha : -100000 ≤ a) (ha' : a ≤ 100000) : ∃ t t' : Option T16g, JC N b a kd = some (told t) ∧ JC N (b ++ m) a kd = some (told t') ∧ (∀ x, t = some x → t' = some x) ∧ ∀ x, t' = some x → GP16 x := by
 unfold JC
 by_cases h1 : 1 ≤ kd
 rotate_left
 ·
  simp only [if_neg h1]; exact ⟨none, none, rfl, rfl, (fun _ h => h), (fun x h => by cases h)⟩
 simp only [if_pos h1]
 rw [Xae, Option.bind_some]
 by_cases h9 : kd ≤ 9
 rotate_left
 ·
  rw [if_neg (by simpa using h9)]; exact ⟨none, none, rfl, rfl, (fun _ h => h), (fun x h => by cases h)⟩
 rw [if_pos (by simpa using h9)]
 dsimp only
 obtain ⟨r, r', e1, e2, g1, g2⟩ := read_2 hN hb hm hl (a := a) (kd := kd) ha ha' (by omega) (by omega)
 rw [e1, e2, Option.bind_some, Option.bind_some]
 let f : T16g ⊕ Unit → Option T16g := fun r => match r with | .inl y => some y | .inr _ => none
 refine ⟨f r, f r', ?_, ?_, fun x h => ?_, fun x h => ?_⟩
 ·
  rcases r with ⟨k, c, al, d, o, l, r, vals, pairs, first, second, grid, curs, marks, base, bases⟩ | _ <;> rfl
 ·
  rcases r' with ⟨k, c, al, d, o, l, r, vals, pairs, first, second, grid, curs, marks, base, bases⟩ | _ <;> rfl
 ·
  cases r with
  | inl y => cases h; rw [g1 _ rfl]
  | inr u => cases h
 ·
  cases r' with
  | inl y => cases h; exact g2 _ rfl
  | inr u => cases h
end
end Go.Proofs.Ytfacmhngbaboiaa.AI
