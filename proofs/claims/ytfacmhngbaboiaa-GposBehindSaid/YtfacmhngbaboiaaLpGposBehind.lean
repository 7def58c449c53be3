/- Plain law of GposBehind: a subtable is as itself. -/
import Derived.Test.YtfacmhngbaboiaaHP4
set_option linter.unusedVariables false
set_option linter.unusedSimpArgs false
set_option maxRecDepth 100000
namespace Go.Proofs.Ytfacmhngbaboiaa.AI
theorem loopR {F : Nat → Int → Option (Unit ⊕ Unit)} {L : Nat} (hL : L ≤ 1000000) (h : ∀ (n i : Nat), i < L → F (n + 1) (i : Int) = F n (IntKind.i64.wrap ((i : Int) + 1))) (hz : ∀ n, F (n + 1) (L : Int) = some (.inl ())) : ∀ (d i n : Nat), i + d = L → d < n → F n (i : Int) = some (.inl ()) := by
 intro d
 induction d with
 | zero =>
  intro i n hi hn
  obtain ⟨n, rfl⟩ : ∃ x, n = x + 1 := ⟨n - 1, by omega⟩
  have e : i = L := by omega
  rw [e]; exact hz n
 | succ d ih =>
  intro i n hi hn
  obtain ⟨n, rfl⟩ : ∃ x, n = x + 1 := ⟨n - 1, by omega⟩
  rw [h n i (by omega), w64 (x := (i : Int) + 1) (by omega) (by omega), show (i : Int) + 1 = ((i + 1 : Nat) : Int) by omega]
  exact ih (i + 1) n (by omega) (by omega)
theorem Xch {N : Nat} (hN : 1000000000000 < N) {F : Nat → Int → Option (Unit ⊕ Unit)} {L : Nat} (hL : L ≤ 1000000) (h : ∀ (n i : Nat), i < L → F (n + 1) (i : Int) = F n (IntKind.i64.wrap ((i : Int) + 1))) (hz : ∀ n, F (n + 1) (L : Int) = some (.inl ())) : F N 0 = some (.inl ()) := loopR hL h hz L 0 N (by omega) (by omega)
theorem SameCl {N : Nat} (hN : 1000000000000 < N) {l : List Xg} (hl : l.length ≤ 1000000) : ZW N l l = some true := by
 unfold ZW
 have h := Xch hN (F := YT N l l) hl (fun n i hi => by
  rw [YT, if_pos (by omega), YI (List.getElem?_eq_getElem hi)]
  simp only [Option.bind_some, if_true]) (fun n => by rw [YT, if_neg (by omega)])
 rw [if_pos rfl, h, Option.bind_some]
theorem TwosR {N : Nat} (hN : 1000000000000 < N) {l : List (List TTwo)} (hl : l.length ≤ 1000000) (hx : ∀ x ∈ l, x.length ≤ 1000000) : Xal N l l = some true := by
 unfold Xal
 have h := Xch hN (F := QE N l l) hl (fun n i hi => by
  have h2 := Xch hN (F := QF N l l (i : Int)) (hx _ (List.getElem_mem hi)) (fun n j hj => by
   rw [QF, YI (List.getElem?_eq_getElem hi)]
   simp only [Option.bind_some]
   rw [if_pos (by omega), YI (List.getElem?_eq_getElem hj)]
   simp only [Option.bind_some, if_true]) (fun n => by
   rw [QF, YI (List.getElem?_eq_getElem hi)]
   simp only [Option.bind_some]
   rw [if_neg (by omega)])
  rw [QE, if_pos (by omega), YI (List.getElem?_eq_getElem hi)]
  simp only [Option.bind_some, if_true]
  rw [h2, Option.bind_some]) (fun n => by rw [QE, if_neg (by omega)])
 rw [if_pos rfl, h, Option.bind_some]
theorem AnchR {N : Nat} (hN : 1000000000000 < N) {l : List (List (List Xw))} (hl : l.length ≤ 1000000) (hx : ∀ x ∈ l, x.length ≤ 16 ∧ ∀ y ∈ x, y.length ≤ 64) : Jg N l l = some true := by
 unfold Jg
 have h := Xch hN (F := Zy N l l) hl (fun n i hi => by
  have hxi := hx _ (List.getElem_mem hi)
  have h2 := Xch hN (F := Zz N l l (i : Int)) (L := l[i].length) (by omega) (fun n j hj => by
   have hyj := hxi.2 _ (List.getElem_mem hj)
   have h3 := Xch hN (F := Zd N l l (i : Int) (j : Int)) (L := (l[i][j]).length) (by omega) (fun n q hq => by
    rw [Zd, YI (List.getElem?_eq_getElem hi)]
    simp only [Option.bind_some]
    rw [YI (List.getElem?_eq_getElem hj)]
    simp only [Option.bind_some]
    rw [if_pos (by omega), YI (List.getElem?_eq_getElem hq)]
    simp only [Option.bind_some, if_true]
    by_cases hI : ((l[i][j])[q]).Is = true <;> simp only [hI, if_true, if_false, Bool.false_eq_true]) (fun n => by
    rw [Zd, YI (List.getElem?_eq_getElem hi)]
    simp only [Option.bind_some]
    rw [YI (List.getElem?_eq_getElem hj)]
    simp only [Option.bind_some]
    rw [if_neg (by omega)])
   rw [Zz, YI (List.getElem?_eq_getElem hi)]
   simp only [Option.bind_some]
   rw [if_pos (by omega), YI (List.getElem?_eq_getElem hj)]
   simp only [Option.bind_some, if_true]
   rw [h3, Option.bind_some]) (fun n => by
   rw [Zz, YI (List.getElem?_eq_getElem hi)]
   simp only [Option.bind_some]
   rw [if_neg (by omega)])
  rw [Zy, if_pos (by omega), YI (List.getElem?_eq_getElem hi)]
  simp only [Option.bind_some, if_true]
  rw [h2, Option.bind_some]) (fun n => by rw [Zy, if_neg (by omega)])
 rw [if_pos rfl, h, Option.bind_some]
theorem Xlk {N : Nat} (hN : 1000000000000 < N) {k dd : Int} {c base : List TSpan} {al : Bool} {o : List (List Int)} {l : List (List TLig)} {r : List TCtx} {vals : List Yg} {pairs grid : List (List TTwo)} {first second : List Xg} {curs : List Xp} {marks : List TMark} {bases : List (List (List Xw))}
  (hg : GP k c al dd o l r vals pairs first second grid curs marks base bases) : Xbd N k c al dd o l r vals pairs first second grid curs marks base bases k c al dd o l r vals pairs first second grid curs marks base bases = some true := by
 unfold Xbd
 have hc := hg.rc.l6
 have hbs := hg.rb.l6
 have n1 := hg.n1
 have n2 := hg.n2
 have n3 := hg.n3
 have n4 := hg.n4
 have n5 := hg.n5
 have h0 : Xbe N k c al dd o l r vals pairs first second grid curs marks base bases k c al dd o l r vals pairs first second grid curs marks base bases = some true := by
  unfold Xbe
  have e1 := hg.e1
  have e3 := hg.e3
  have e4 := hg.e4
  subst e1 e3 e4
  have l1 : JL N [] [] = some true := by
   unfold JL
   have h := Xch hN (F := QO N [] []) (L := 0) (by omega) (fun n i hi => by omega) (fun n => by rw [QO, if_neg (by simp)])
   rw [if_pos rfl, h, Option.bind_some]
  have l2 : Xam N [] [] = some true := by
   unfold Xam
   have h := Xch hN (F := QY N [] []) (L := 0) (by omega) (fun n i hi => by omega) (fun n => by rw [QY, if_neg (by simp)])
   rw [if_pos rfl, h, Option.bind_some]
  rw [if_pos rfl, SameSp hN (by omega), Option.bind_some, if_pos rfl, if_neg (by simp), if_neg (by simp), if_pos rfl, l1, Option.bind_some, if_pos rfl, l2, Option.bind_some, if_pos rfl, Same_refl hN hg.ctx.1 hg.ctx.2]
  rfl
 have v1 := Xch hN (F := QG N k c al dd o l r vals pairs first second grid curs marks base bases k c al dd o l r vals pairs first second grid curs marks base bases) (L := vals.length) (by omega) (fun n i hi => by
  rw [QG, if_pos (by omega), YI (List.getElem?_eq_getElem hi)]
  simp only [Option.bind_some, if_true]) (fun n => by rw [QG, if_neg (by omega)])
 have v2 := Xch hN (F := ZF N k c al dd o l r vals pairs first second grid curs marks base bases k c al dd o l r vals pairs first second grid curs marks base bases) (L := curs.length) (by omega) (fun n i hi => by
  rw [ZF, if_pos (by omega), YI (List.getElem?_eq_getElem hi)]
  simp only [Option.bind_some, if_true]
  by_cases hI : (curs[i]).e0.Is = true <;> by_cases hJ : (curs[i]).e1.Is = true <;> simp only [hI, hJ, if_true, if_false, Bool.false_eq_true]) (fun n => by rw [ZF, if_neg (by omega)])
 have v3 := Xch hN (F := Qg N k c al dd o l r vals pairs first second grid curs marks base bases k c al dd o l r vals pairs first second grid curs marks base bases) (L := marks.length) (by omega) (fun n i hi => by
  rw [Qg, if_pos (by omega), YI (List.getElem?_eq_getElem hi)]
  simp only [Option.bind_some, if_true]
  by_cases hI : (marks[i]).At.Is = true <;> simp only [hI, if_true, if_false, Bool.false_eq_true]) (fun n => by rw [Qg, if_neg (by omega)])
 rw [h0, Option.bind_some, if_pos rfl, if_pos rfl, if_pos rfl, if_pos rfl, SameSp hN (by omega), Option.bind_some, if_pos rfl, SameCl hN (by omega), Option.bind_some, if_pos rfl, SameCl hN (by omega), Option.bind_some, if_pos rfl, v1, Option.bind_some]
 dsimp only
 rw [v2, Option.bind_some]
 dsimp only
 rw [v3, Option.bind_some]
 dsimp only
 rw [TwosR hN (by omega) (fun x hx => by have := n2.2 x hx; omega), Option.bind_some, if_pos rfl, TwosR hN (by omega) (fun x hx => by have := n4.2 x hx; omega), Option.bind_some, if_pos rfl, AnchR hN (by omega) hg.n6, Option.bind_some]
theorem Xfq {N : Nat} (hN : 1000000000000 < N) {b m : List Int} (hb : Bytes b) (hm : Bytes m) (k0 : Int) : Jn N b m k0 = some true := by
 unfold Jn
 by_cases g1 : 800 < (b.length : Int)
 ·
  rw [if_pos g1]
 by_cases g2 : 300 < (m.length : Int)
 ·
  rw [if_neg g1, if_pos g2]
 have hl : (b ++ m).length ≤ 2000 := by simp only [List.length_append]; omega
 rw [if_neg g1, if_neg g2, if_pos (by omega), if_pos (by omega)]
 obtain ⟨t, t', e1, e2, h1, h2⟩ := Read_2 hN hb hm hl (a := 0) (kd := k0) (by omega) (by omega)
 cases t with
 | none =>
  rw [e1, e2]
  rcases t' with _ | ⟨k, c, al, dd, o, l, r, vals, pairs, first, second, grid, curs, marks, base, bases⟩ <;> rfl
 | some y =>
  have ht := h1 y rfl
  have hg := h2 y ht
  subst ht
  obtain ⟨k, c, al, dd, o, l, r, vals, pairs, first, second, grid, curs, marks, base, bases⟩ := y
  have hg : GP k c al dd o l r vals pairs first second grid curs marks base bases := hg
  have e1' : JC N b 0 k0 = some (k, c, al, dd, o, l, r, vals, pairs, first, second, grid, curs, marks, base, bases, true) := e1
  have e2' : JC N (b ++ m) 0 k0 = some (k, c, al, dd, o, l, r, vals, pairs, first, second, grid, curs, marks, base, bases, true) := e2
  rw [e1', e2']
  simp only [Option.bind_some, if_true]
  rw [Xlk hN hg, Option.bind_some]
end Go.Proofs.Ytfacmhngbaboiaa.AI
