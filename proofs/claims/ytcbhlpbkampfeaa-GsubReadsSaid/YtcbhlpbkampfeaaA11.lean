import Derived.Test.YtcbhlpbkampfeaaA10
import Derived.Great.FillDense
import Derived.IntWalk
/- Part of a proof. -/
set_option linter.unusedVariables false
set_option linter.unusedSimpArgs false
namespace Go.Proofs.Ytcbhlpbkampfeaa.AI

section
variable {P : Program} {o : Oper} {a : Act} {w : World} {G : Gh} {K : (Nat → Option Obj)} {ρ : (Nat → Option Loc)} {H : List AObj}

theorem Xl2 (hR : Rel G K ρ H w) {ta : ATm} (hA : AR K ρ ta a) {t e : TypeId} {l c : Operand} {x' : AX} {s b : Nat} {zs : List AV} (hx : compX l = some x') (hlc : a.eval c = a.eval l) (hu : P.underlying t = some (.slice e)) (hz : sizeT P e = some s) (hb : Xiy P e = some b) (hzero : zeroT P e = some zs) (hs0 : 0 < s) (hb0 : 0 < b) (hzl : zs.length = s) (ho : o.op = .makeSlice t l c) :
  Good P o a w G K ρ H (evO ta H (.mksl s b zs e x')) := by
 have vx := Xp hA hx
 simp only [evO]
 split
 case h_2 => exact trivial
 rename_i k n hxe
 rw [hxe] at vx
 split
 case isFalse => exact trivial
 rename_i hc
 obtain ⟨hn, hfit⟩ := hc
 obtain ⟨m, rfl⟩ := Int.eq_ofNat_of_zero_le hn
 have hfit' : m * b ≤ 140737488355328 := Int.ofNat_le.1 (by rw [Int.natCast_mul]; exact hfit)
 have hm : m ≤ 140737488355328 := Nat.le_trans (Nat.le_mul_of_pos_right _ hb0) hfit'
 obtain ⟨i, hi, hsz⟩ := Xdm hz
 obtain ⟨i', hi', hby⟩ := Xix hb
 rw [hi] at hi'
 obtain rfl := Option.some.inj hi'
 obtain ⟨i2, z, hi2, hzz, hab⟩ := JM hzero
 rw [hi] at hi2
 obtain rfl := Option.some.inj hi2
 obtain ⟨hV, hone, _⟩ := Xbs (K := K) (ρ := ρ) _ _ hab
 have hzs : z.cells.size = s := (hV.1.trans (by simp)).symm.trans hzl
 have hw : IntKind.i64.wrap (m : Int) = m := IntWalk.i64_in _ ⟨by omega, by omega⟩
 let cells : Array Value := (Array.range (m * s)).map (z.cells[· % z.cells.size]!)
 have hrun : (execOp a.eval o).run P w = .ok (.value (.slice (some ⟨w.heap.size, 0, none⟩) m m)) { w with heap := w.heap.push (.cells cells e (0, 0)) } := by
  have c1 : ¬ ((m : Int) < 0) := by omega
  have c2 : ¬ ((b : Int) * (m : Int) > 2 ^ 48) := by
   have : (b : Int) * (m : Int) ≤ 140737488355328 := by rw [Int.mul_comm]; exact hfit
   omega
  have hzr := Xci (P := P) hi hzz
  simp only [execOp, ho, Instr.makeSlice, Sem.run_bind, Xc hu, Result.andThen_ok, hlc, Zm vx, asInt, Xhe, Sem.run_pure, typeInfo, run_program, hi, hby, hw, c1, c2, decide_false, Bool.or_self, Bool.false_or, Int.lt_irrefl, gt_iff_lt, Bool.false_eq_true, if_false,
   run_askRoom, Int.toNat_natCast, run_sizeOf hz]
  by_cases h0 : m * s = 0
  ·
   simp only [h0, if_true, Sem.run_pure, Result.andThen_ok, newRow, Sem.run_bind, run_newObj]
   have hz0 : ∀ f : Nat → Value, (Array.range 0).map f = #[] := fun f => by simp
   simp only [cells, h0, hz0]
  ·
   simp only [h0, if_false, hzr, Sem.run_bind, Sem.run_pure, Result.andThen_ok, newRow, run_newObj]
   rfl
 have hcell : ∀ i, i < m * s → cells[i]? = some z.cells[i % s]! := by
  intro i hi
  simp only [cells, Array.getElem?_map, hzs]
  rw [Array.getElem?_eq_getElem (by simpa using hi)]
  simp
 have hRR : RowR K ρ s (List.replicate m zs) cells := by
  refine ⟨by simp [cells], ?_, by intro el h; rw [(List.mem_replicate.1 h).2]; exact hzl, ?_⟩
  ·
   intro u hu
   obtain ⟨i, hi, rfl⟩ := Array.getElem_of_mem hu
   have hi' : i < m * s := by simpa [cells] using hi
   have e1 := hcell i hi'
   rw [Array.getElem?_eq_getElem hi] at e1
   rw [Option.some.inj e1]
   have hlt : i % s < z.cells.size := by rw [hzs]; exact Nat.mod_lt _ hs0
   rw [getElem!_pos z.cells _ hlt]
   exact hone _ (by simp)
  ·
   intro e' el he j v hv
   have hlt : e' < m := by simpa using (List.getElem?_eq_some_iff.1 he).1
   obtain ⟨_, rfl⟩ := List.getElem?_eq_some_iff.1 he
   simp only [List.getElem_replicate] at hv
   have hj : j < s := by rw [← hzl]; exact (List.getElem?_eq_some_iff.1 hv).1
   have hbe : (e' + 1) * s ≤ m * s := Nat.mul_le_mul_right _ hlt
   rw [Nat.add_mul, Nat.one_mul] at hbe
   have hlt2 : j < z.cells.size := by omega
   refine ⟨z.cells[j], ?_, hV.2 j v _ hv (by simp [hlt2])⟩
   rw [hcell _ (by omega)]
   have e2 : (e' * s + j) % s = j := by rw [Nat.mul_comm, Nat.mul_add_mod]; exact Nat.mod_eq_of_lt hj
   rw [e2, getElem!_pos z.cells _ hlt2]
 let l' : Loc := ⟨w.heap.size, 0, s, m * s⟩
 have hle : RLe ρ (extρ ρ H.length l') := Xcq (hR.top _ (Nat.le_refl _))
 have hN := hR.new (.cells cells e (0, 0)) l' (.mem s (List.replicate m zs) e) rfl rfl (by
  have := Xkr (w' := { w with heap := w.heap.push (.cells cells e (0, 0)) }) (rest := #[]) (cap := m) (e := e) (b := w.heap.size) hs0 (hRR.mono (KLe.refl _) hle) (by simp) (by simp) (by simp [cells])
  exact this)
 rw [Int.toNat_natCast]
 refine ⟨_, _, _, K, extρ ρ H.length l', hrun, .inl rfl, ?_, hN⟩
 exact .row (l := l') QC (Nat.le_refl _) (.inr ⟨by simp [l'], by simp [l']⟩)

theorem Xcm {ta : ATm} (hA : AR K ρ ta a) : ∀ (ps : List (Nat × Operand)) (n : Nat) (xs : List AX), Xbh n ps = some xs → ∃ os : List Operand, ps = (os.zipIdx n).map (fun x => (x.2, x.1)) ∧ QD os = some xs
 | [], n, xs, h => by simp only [Xbh, Option.some.injEq] at h; subst h; exact ⟨[], rfl, rfl⟩
 | (i, x) :: ps, n, xs, h => by
  simp only [Xbh] at h
  cases h1 : compX x with
  | none => rw [h1] at h; cases h
  | some y =>
   cases h2 : Xbh (n + 1) ps with
   | none => rw [h1, h2] at h; cases h
   | some ys =>
    rw [h1, h2] at h
    simp only at h
    split at h
    ·
     rename_i hi
     simp only [Option.some.injEq] at h
     subst h hi
     obtain ⟨os, e1, e2⟩ := Xcm hA ps (i + 1) ys h2
     refine ⟨x :: os, by simp [List.zipIdx_cons, e1], ?_⟩
     simp only [QD, h1, e2]
    ·
     cases h

theorem Xcn {s : Nat} : ∀ (vs : List AV) (es : List (List AV)), Xbi s vs = some es → es.length = vs.length ∧ ∀ (i : Nat) (v : AV), vs[i]? = some v → ∃ el, es[i]? = some el ∧ cellsOf v = some el ∧ el.length = s ∧ pures el = true
 | [], es, h => by simp only [Xbi, Option.some.injEq] at h; subst h; exact ⟨rfl, by simp⟩
 | v :: vs, es, h => by
  simp only [Xbi] at h
  cases h1 : cellsOf v with
  | none => rw [h1] at h; cases h
  | some c =>
   cases h2 : Xbi s vs with
   | none => rw [h1, h2] at h; cases h
   | some cs =>
    rw [h1, h2] at h
    simp only at h
    split at h
    ·
     rename_i hc
     simp only [Option.some.injEq] at h
     subst h
     obtain ⟨e1, e2⟩ := Xcn vs cs h2
     refine ⟨by simp [e1], fun i u hu => ?_⟩
     cases i with
     | zero => simp at hu; subst hu; exact ⟨c, rfl, h1, hc.1, hc.2⟩
     | succ i => exact e2 i u (by simpa using hu)
    ·
     cases h

theorem good_lits (hR : Rel G K ρ H w) {ta : ATm} (hA : AR K ρ ta a) {t e : TypeId} {len s : Nat} {ps : Array (Nat × Operand)} {xs : List AX} {zs : List AV} (hu : P.underlying t = some (.slice e)) (hz : sizeT P e = some s) (hzero : zeroT P e = some zs) (hzl : zs.length = s) (hx : Xbh 0 ps.toList = some xs) (hl : xs.length = len) (hs0 : 0 < s) (hsmall : len * s ≤ 16777216)
  (ho : o.op = .buildSlice t len ps) : Good P o a w G K ρ H (evO ta H (.lits s e xs)) := by
 simp only [evO]
 split
 case h_2 => exact trivial
 rename_i es hes
 obtain ⟨os, hps, hos⟩ := Xcm hA ps.toList 0 xs hx
 have hV := Xaf hA hos
 obtain ⟨hel, hespec⟩ := Xcn _ _ hes
 have hosl : os.length = len := by
  have := hV.1
  simp at this
  omega
 have hesl : es.length = len := by rw [hel]; simpa using hl
 obtain ⟨i2, z, hi2, hzz, hab⟩ := JM hzero
 obtain ⟨hVz, _, _⟩ := Xbs (K := K) (ρ := ρ) _ _ hab
 have hzs : z.cells.size = s := (hVz.1.trans (by simp)).symm.trans hzl
 -- each part's cells
 have hpart : ∀ (i : Nat) (h : i < os.length), ∃ el, es[i]? = some el ∧ el.length = s ∧ pures el = true ∧ VRs K ρ el (a.eval os[i]).cells ∧ ∀ x ∈ (a.eval os[i]).cells, one x = true := by
  intro i h
  have hi2 : i < (xs.map (AX.ev ta)).length := by have := hV.1; simp at this ⊢; omega
  obtain ⟨el, e1, e2, e3, e4⟩ := hespec i _ (List.getElem?_eq_getElem hi2)
  have hv := hV.2 i _ (a.eval os[i]) (List.getElem?_eq_getElem hi2) (by simp [h])
  obtain ⟨f1, f2⟩ := Xcf hv e2
  exact ⟨el, e1, e3, e4, f1, f2⟩
 let vs : List Value := os.map a.eval
 have hvs : ∀ v ∈ vs, v.cells.size = s := by
  intro v hv
  obtain ⟨i, hi, rfl⟩ := List.getElem_of_mem hv
  simp only [vs, List.length_map] at hi
  obtain ⟨el, e1, e3, _, f1, _⟩ := hpart i hi
  simp only [vs, List.getElem_map]
  rw [← f1.1, e3]
 let cells0 : Array Value := (Array.range (len * s)).map ((if len * s = 0 then #[] else z.cells)[· % (if len * s = 0 then #[] else z.cells).size]!)
 let cells : Array Value := (vs.flatMap fun v => v.cells.toList).toArray
 have hfill := Great.fill_whole hs0 vs cells0 hvs (by simp [vs, cells0, hosl])
 have hparts : (ps.map fun (p : Nat × Operand) => (p.1, a.eval p.2)).toList = (vs.zipIdx 0).map fun x => (x.2, x.1) := by
  simp only [Array.toList_map, hps, List.map_map, vs, List.zipIdx_map]
  rfl
 have hrun : (execOp a.eval o).run P w = .ok (.value (.slice (some ⟨w.heap.size, 0, none⟩) len len)) { w with heap := w.heap.push (.cells cells e (0, 0)) } := by
  have hzr := Xci (P := P) hi2 hzz
  have hpl : (ps.map fun (i, x) => (i, a.eval x)).toList = (vs.zipIdx 0).map fun x => (x.2, x.1) := hparts
  simp only [execOp, ho, Instr.buildSlice, Sem.run_bind, Xc hu, Result.andThen_ok, run_sizeOf hz, show ¬ (len * s > 2 ^ 24) by omega, if_false, Sem.run_pure, hpl]
  by_cases h0 : len * s = 0
  ·
   simp only [h0, if_true, Sem.run_pure, Result.andThen_ok]
   have hc0 : cells0 = (Array.range 0).map ((#[] : Array Value)[· % (#[] : Array Value).size]!) := by simp only [cells0, h0, if_true]
   rw [hc0] at hfill
   simp only [hfill, newRow, Sem.run_bind, run_newObj, Result.andThen_ok, Sem.run_pure]
   rfl
  ·
   simp only [h0, if_false, hzr, Sem.run_bind, Sem.run_pure, Result.andThen_ok]
   have hc0 : cells0 = (Array.range (len * s)).map (z.cells[· % z.cells.size]!) := by simp only [cells0, h0, if_false]
   rw [hc0] at hfill
   simp only [hfill, newRow, Sem.run_bind, run_newObj, Result.andThen_ok, Sem.run_pure]
   rfl
 have hN := hR.newK (.cells cells e (0, 0))
 have hcell : ∀ (i j : Nat) (hi : i < os.length), j < s → cells[i * s + j]? = (a.eval os[i]).cells[j]? := by
  intro i j hi hj
  simp only [cells]
  have e1 : (i * s + j) / s = i := by rw [Nat.mul_comm, Nat.mul_add_div hs0, Nat.div_eq_of_lt hj]; rfl
  have e2 : (i * s + j) % s = j := by rw [Nat.mul_comm, Nat.mul_add_mod]; exact Nat.mod_eq_of_lt hj
  rw [List.getElem?_toArray, Great.flat_get hs0 vs hvs, e1, e2]
  simp [vs, hi]
 refine ⟨_, _, _, frzK K w.heap.size (.cells cells e (0, 0)), ρ, hrun, .inl rfl, ?_, hN⟩
 have hk : ∀ i, kcell (frzK K w.heap.size (.cells cells e (0, 0))) ⟨w.heap.size, i, none⟩ = cells[i]? := by intro i; simp [kcell, frzK]
 have hlen : ∀ el ∈ es, el.length = s := by
  intro el h
  obtain ⟨i, hi, rfl⟩ := List.getElem_of_mem h
  obtain ⟨el, e1, e3, _⟩ := hpart i (by omega)
  rw [List.getElem?_eq_getElem hi] at e1
  rw [Option.some.inj e1]; exact e3
 have key := VR.vec (K := frzK K w.heap.size (.cells cells e (0, 0))) (ρ := ρ) (cap := true) (es := es) (A := some ⟨w.heap.size, 0, none⟩) (c := es.length) ⟨w.heap.size, 0, none⟩ s (fun i j => cells.getD (i * s + j) (.bool true)) (fun _ => rfl) (Nat.le_refl _) (.inr rfl) hlen ?_ ?_ ?_
 ·
  rwa [hesl] at key
 ·
  intro i j hi hj
  rw [ZU, Nat.zero_add, hk, hcell i j (by omega) hj, Array.getD_eq_getD_getElem?, hcell i j (by omega) hj]
  have : j < (a.eval (os[i]'(by omega))).cells.size := by rw [hvs _ (by simp only [vs]; exact List.mem_map.2 ⟨_, List.getElem_mem _, rfl⟩)]; exact hj
  simp [this]
 ·
  intro i j
  refine Xo7 ?_ _
  intro u hu
  simp only [cells, List.mem_toArray, List.mem_flatMap] at hu
  obtain ⟨v, hv, hu⟩ := hu
  simp only [vs] at hv
  obtain ⟨x, hx, rfl⟩ := List.mem_map.1 hv
  obtain ⟨i, hi, rfl⟩ := List.getElem_of_mem hx
  obtain ⟨_, _, _, _, _, f2⟩ := hpart i hi
  exact f2 u (by simpa using hu)
 ·
  intro i j el v hel hv
  have hi : i < os.length := by have := (List.getElem?_eq_some_iff.1 hel).1; omega
  obtain ⟨el', e1, e3, e4, f1, _⟩ := hpart i hi
  rw [hel] at e1
  obtain rfl := Option.some.inj e1
  have hj : j < s := by rw [← e3]; exact (List.getElem?_eq_some_iff.1 hv).1
  have hlt : j < (a.eval os[i]).cells.size := by rw [← f1.1, e3]; exact hj
  show VR _ _ v (cells.getD (i * s + j) (.bool true))
  rw [Array.getD_eq_getD_getElem?, hcell i j hi hj, Array.getElem?_eq_getElem hlt]
  exact ((f1.2 j v _ hv (Array.getElem?_eq_getElem hlt)).pure (Xby e4 v (List.mem_of_getElem? hv)) rnone).mono hN.keep (RLe.refl _)

theorem Xb0 {d : Int} {x : Option AV} {n : Int} (h : intOr d x = some n) : (x = none ∧ n = d) ∨ ∃ k, x = some (.int k n) := by
  unfold intOr at h
  split at h
  · exact .inl ⟨rfl, (Option.some.inj h).symm⟩
  · rename_i k m; exact .inr ⟨k, by rw [Option.some.inj h]⟩
  · cases h

theorem Xfd {ta : ATm} (hA : AR K ρ ta a) {x : Option Operand} {y : Option AX} (h : compO x = some y) : (x = none ∧ y = none) ∨ ∃ u v, x = some u ∧ y = some v ∧ VR K ρ (v.ev ta) (a.eval u) := by
 unfold compO at h
 split at h
 ·
  exact .inl ⟨rfl, (Option.some.inj h).symm⟩
 ·
  rename_i u
  simp only [Option.map_eq_some_iff] at h
  obtain ⟨v, h1, rfl⟩ := h
  exact .inr ⟨u, v, rfl, rfl, Xp hA h1⟩

theorem Xfy {is : Bool} {ta : ATm} (hA : AR K ρ ta a) {lo hi mx : Option Operand} {lo' hi' mx' : Option AX} (h1 : compO lo = some lo') (h2 : compO hi = some hi') (h3 : compO mx = some mx') {len cap : Nat} {l h : Int} (hl : intOr 0 (lo'.map (AX.ev ta)) = some l) (hh : intOr len (hi'.map (AX.ev ta)) = some h) {m : Nat}
  (hm : (mx' = none ∧ m = cap) ∨ ∃ k, mx'.map (AX.ev ta) = some (.int k m)) (hmh : mx' ≠ none → hi' ≠ none) (b1 : 0 ≤ l) (b2 : l ≤ h) (b3 : h ≤ m) (b4 : m ≤ cap) (w : World) :
  (Instr.sliceBounds is len cap (lo.map a.eval) (hi.map a.eval) (mx.map a.eval)).run P w = .ok (l.toNat, h.toNat, m) w := by
 have sb : ∀ (k : IntKind) (n : Int) (y : Nat) (code : BoundsCode), 0 ≤ n → n ≤ y → (Instr.sliceBound (.int k n) y code).run P w = .ok n.toNat w := by
  intro k n y code g1 g2
  simp [Instr.sliceBound, asIntOf, g1, g2]
 have ml : (mx = none ∧ m = cap) ∨ ∃ u k, mx = some u ∧ a.eval u = .int k m := by
  rcases Xfd hA h3 with ⟨e1, e2⟩ | ⟨u, v, e1, e2, e3⟩
  ·
   rcases hm with ⟨_, e4⟩ | ⟨k, e4⟩
   ·
    exact .inl ⟨e1, e4⟩
   ·
    rw [e2] at e4; cases e4
  ·
   rcases hm with ⟨e4, _⟩ | ⟨k, e4⟩
   ·
    rw [e2] at e4; cases e4
   ·
    rw [e2] at e4
    simp only [Option.map_some, Option.some.injEq] at e4
    rw [e4] at e3
    exact .inr ⟨u, k, e1, Zm e3⟩
 have hl' : (hi = none ∧ h = len ∧ mx = none) ∨ ∃ u k, hi = some u ∧ a.eval u = .int k h := by
  rcases Xfd hA h2 with ⟨e1, e2⟩ | ⟨u, v, e1, e2, e3⟩
  ·
   rcases Xb0 hh with ⟨_, e4⟩ | ⟨k, e4⟩
   ·
    refine .inl ⟨e1, e4, ?_⟩
    rcases Xfd hA h3 with ⟨f1, f2⟩ | ⟨u, v, f1, f2, f3⟩
    ·
     exact f1
    ·
     exact absurd e2 (hmh (by rw [f2]; simp))
   ·
    rw [e2] at e4; cases e4
  ·
   rcases Xb0 hh with ⟨e4, _⟩ | ⟨k, e4⟩
   ·
    rw [e2] at e4; cases e4
   ·
    rw [e2] at e4
    simp only [Option.map_some, Option.some.injEq] at e4
    rw [e4] at e3
    exact .inr ⟨u, k, e1, Zm e3⟩
 have ll : (lo = none ∧ l = 0) ∨ ∃ u k, lo = some u ∧ a.eval u = .int k l := by
  rcases Xfd hA h1 with ⟨e1, e2⟩ | ⟨u, v, e1, e2, e3⟩
  ·
   rcases Xb0 hl with ⟨_, e4⟩ | ⟨k, e4⟩
   ·
    exact .inl ⟨e1, e4⟩
   ·
    rw [e2] at e4; cases e4
  ·
   rcases Xb0 hl with ⟨e4, _⟩ | ⟨k, e4⟩
   ·
    rw [e2] at e4; cases e4
   ·
    rw [e2] at e4
    simp only [Option.map_some, Option.some.injEq] at e4
    rw [e4] at e3
    exact .inr ⟨u, k, e1, Zm e3⟩
 have t1 : (m : Int).toNat = m := Int.toNat_natCast m
 have hhn : (h.toNat : Int) = h := Int.toNat_of_nonneg (by omega)
 have lb : ∀ code, (Instr.sliceBound (.int .i64 l) h.toNat code).run P w = .ok l.toNat w := fun code => sb _ _ _ _ b1 (by omega)
 rcases ml with ⟨rfl, rfl⟩ | ⟨um, km, rfl, em⟩
 ·
  rcases hl' with ⟨rfl, rfl, _⟩ | ⟨uh, kh, rfl, eh⟩
  ·
   rcases ll with ⟨rfl, rfl⟩ | ⟨ul, kl, rfl, el⟩
   ·
    simp [Instr.sliceBounds]
   ·
    simp [Instr.sliceBounds, el, sb kl l len _ b1 (by omega)]
  ·
   rcases ll with ⟨rfl, rfl⟩ | ⟨ul, kl, rfl, el⟩
   ·
    simp [Instr.sliceBounds, eh, sb kh h m _ (by omega) b3]
   ·
    simp [Instr.sliceBounds, eh, sb kh h m _ (by omega) b3, el, sb kl l h.toNat _ b1 (by omega)]
 ·
  rcases hl' with ⟨rfl, rfl, h0⟩ | ⟨uh, kh, rfl, eh⟩
  ·
   cases h0
  ·
   rcases ll with ⟨rfl, rfl⟩ | ⟨ul, kl, rfl, el⟩
   ·
    simp [Instr.sliceBounds, em, sb km m cap _ (by omega) (by omega), eh, sb kh h m _ (by omega) b3]
   ·
    simp [Instr.sliceBounds, em, sb km m cap _ (by omega) (by omega), eh, sb kh h m _ (by omega) b3, el, sb kl l h.toNat _ b1 (by omega)]

theorem good_ssl (hR : Rel G K ρ H w) {ta : ATm} (hA : AR K ρ ta a) {t : TypeId} {x : Operand} {x' : AX} {lo hi mx : Option Operand} {lo' hi' : Option AX} (hx : compX x = some x') (h1 : compO lo = some lo') (h2 : compO hi = some hi') (h3 : compO mx = some none) (hu : P.underlying t = some .string)
  (ho : o.op = .slice t x lo hi mx) : Good P o a w G K ρ H (evO ta H (.ssl x' lo' hi')) := by
 have vx := Xp hA hx
 have hmx : mx = none := by
  rcases Xfd hA h3 with ⟨e, _⟩ | ⟨u, v, _, e, _⟩
  ·
   exact e
  ·
   cases e
 subst hmx
 simp only [evO]
 cases hsl : sslA (lo'.map (AX.ev ta)) (hi'.map (AX.ev ta)) (x'.ev ta) with
 | none => exact trivial
 | some r =>
  simp only [orBad]
  unfold sslA at hsl
  split at hsl
  ·
   rename_i s hxe
   rw [hxe] at vx
   split at hsl
   ·
    rename_i l h hl hh
    split at hsl
    ·
     rename_i hc
     cases hsl
     refine Good.val hR (u := .string (s.extract l.toNat h.toNat)) ?_ .str
     have hb := Xfy (P := P) (is := false) hA h1 h2 h3 hl hh (m := s.size) (cap := s.size) (.inl ⟨rfl, rfl⟩) (fun h => absurd rfl h) hc.1 hc.2.1 hc.2.2 (Nat.le_refl _) w
     simp only [Option.map_none] at hb
     simp [execOp, ho, Instr.sliceAt, Instr.slice, Xc hu, Xh3 vx, hb]
    ·
     cases hsl
   ·
    cases hsl
  ·
   cases hsl
theorem good_sl (hR : Rel G K ρ H w) {ta : ATm} (hA : AR K ρ ta a) {t e : TypeId} {x : Operand} {x' : AX} {lo hi mx : Option Operand} {lo' hi' mx' : Option AX} {s : Nat} (hx : compX x = some x') (h1 : compO lo = some lo') (h2 : compO hi = some hi') (h3 : compO mx = some mx') (hmh : mx' ≠ none → hi' ≠ none) (hu : P.underlying t = some (.slice e)) (hs : sizeT P e = some s) (hs0 : 0 < s)
  (ho : o.op = .slice t x lo hi mx) : Good P o a w G K ρ H (evO ta H (.sl s x' lo' hi' mx')) := by
 have vx := Xp hA hx
 have key : ∀ (A : Option Addr) (len c : Nat) (l h m : Nat), a.eval x = .slice A len c → (Instr.sliceBounds true len c (lo.map a.eval) (hi.map a.eval) (mx.map a.eval)).run P w = .ok (l, h, m) w →
   (execOp a.eval o).run P w = .ok (.value (.slice (if m = l then A else A.map (·.add (l * s))) (h - l) (m - l))) w := by
  intro A len c l h m e1 e2
  simp only [execOp, ho, Instr.sliceAt, Sem.run_bind, Xc hu, Result.andThen_ok, Instr.slice, e1, e2, run_sizeOf hs, Sem.run_pure]
 simp only [evO]
 cases hsl : Xn9 H s (lo'.map (AX.ev ta)) (hi'.map (AX.ev ta)) (mx'.map (AX.ev ta)) (x'.ev ta) with
 | none => exact trivial
 | some r =>
  simp only [orBad]
  unfold Xn9 at hsl
  split at hsl
  ·
   rename_i cap es hxe
   rw [hxe] at vx
   split at hsl
   case h_2 => cases hsl
   rename_i l h m hl hh hm
   split at hsl
   case isFalse => cases hsl
   rename_i hc
   obtain ⟨b1, b2, b3, b4, hall⟩ := hc
   have hel : ∀ el ∈ es, el.length = s := by simpa using hall
   obtain ⟨m', rfl⟩ := Int.eq_ofNat_of_zero_le (show 0 ≤ m by omega)
   generalize hq : a.eval x = q at vx
   cases vx with
   | vec ad sz g g1 g2 g3 g4 g5 g6 g7 =>
    rename_i A c
    -- the least room: that of the elements told, or what is asked for
    have hmx : (mx' = none ∧ m' = es.length) ∨ ∃ k, mx'.map (AX.ev ta) = some (.int k (m' : Int)) := by
     rcases Xb0 hm with ⟨e1, e2⟩ | ⟨k, e1⟩
     ·
      left; refine ⟨by simpa using e1, by omega⟩
     ·
      exact .inr ⟨k, e1⟩
    let mc : Nat := if mx' = none then c else m'
    have hmc : (mx' = none ∧ mc = c) ∨ ∃ k, mx'.map (AX.ev ta) = some (.int k (mc : Int)) := by
     rcases hmx with ⟨e1, _⟩ | ⟨k, e1⟩
     ·
      exact .inl ⟨e1, by simp [mc, e1]⟩
     ·
      right
      have : mx' ≠ none := by intro h0; rw [h0] at e1; cases e1
      exact ⟨k, by simp only [mc, if_neg this]; exact e1⟩
    have hmle : m' ≤ mc ∧ mc ≤ c := by
     rcases hmx with ⟨e1, e2⟩ | ⟨k, e1⟩
     ·
      simp only [mc, e1, if_true]; omega
     ·
      have : mx' ≠ none := by intro h0; rw [h0] at e1; cases e1
      simp only [mc, if_neg this]; omega
    have hb := Xfy (is := true) (P := P) hA h1 h2 h3 hl hh hmc hmh b1 b2 (by omega) hmle.2 w
    have hrun := key A es.length c _ _ _ hq hb
    obtain ⟨l', rfl⟩ := Int.eq_ofNat_of_zero_le b1
    obtain ⟨h', rfl⟩ := Int.eq_ofNat_of_zero_le (show 0 ≤ h by omega)
    simp only [Int.toNat_natCast] at hrun hsl
    cases hsl
    have hlen : ((es.drop l').take (h' - l')).length = h' - l' := by rw [List.length_take, List.length_drop]; omega
    have hget : ∀ (i : Nat) el, ((es.drop l').take (h' - l'))[i]? = some el → i < h' - l' ∧ es[l' + i]? = some el := by
     intro i el he
     rw [List.getElem?_take] at he
     split at he
     ·
      rw [List.getElem?_drop] at he; exact ⟨‹_›, he⟩
     ·
      cases he
    refine Good.val hR hrun ?_
    have hcapd : (match mx'.map (AX.ev ta) with | some _ => decide ((h' : Int) = m') | none => cap && decide ((h' : Int) = es.length)) = true → mc - l' = h' - l' := by
     intro hd
     rcases hmx with ⟨e1, e2⟩ | ⟨k, e1⟩
     ·
      simp only [e1, Option.map_none, Bool.and_eq_true, decide_eq_true_eq] at hd
      have := g1 hd.1
      simp only [mc, e1, if_true]
      omega
     ·
      have : mx' ≠ none := by intro h0; rw [h0] at e1; cases e1
      simp only [e1, decide_eq_true_eq] at hd
      simp only [mc, if_neg this]
      omega
    by_cases hem : es = []
    ·
     have key2 := VR.vec (K := K) (ρ := ρ) (cap := (match mx'.map (AX.ev ta) with | some _ => decide ((h' : Int) = m') | none => cap && decide ((h' : Int) = es.length))) (es := (es.drop l').take (h' - l')) (A := if mc = l' then A else A.map (·.add (l' * s))) (c := mc - l') ⟨0, 0, none⟩ 0 (fun _ _ => .bool true) (by rw [hlen]; exact hcapd) (by rw [hlen]; omega) (.inl (by subst hem; simp)) (by subst hem; simp) (by subst hem; simp) (by intros; rfl) (by subst hem; simp)
     rw [hlen] at key2
     exact key2
    ·
     obtain rfl := g3.resolve_left hem
     have hpos : 0 < es.length := by cases es with | nil => exact absurd rfl hem | cons => simp
     have hsz : sz = s := by
      have := g4 _ (List.getElem_mem hpos)
      rw [← hel _ (List.getElem_mem hpos)]; exact this.symm
     subst hsz
     have hsp : ad.spot = none := by
      have := Xdr (g5 0 0 hpos hs0)
      simpa [Addr.add] using this
     have key2 := VR.vec (K := K) (ρ := ρ) (cap := (match mx'.map (AX.ev ta) with | some _ => decide ((h' : Int) = m') | none => cap && decide ((h' : Int) = es.length))) (es := (es.drop l').take (h' - l')) (A := if mc = l' then some ad else (some ad).map (·.add (l' * sz))) (c := mc - l') (ad.add (l' * sz)) sz (fun i j => g (l' + i) j) (by rw [hlen]; exact hcapd) (by rw [hlen]; omega) ?_ ?_ ?_ ?_ ?_
     ·
      rw [hlen] at key2
      exact key2
     ·
      by_cases hml : mc = l'
      ·
       left
       exact List.eq_nil_of_length_eq_zero (by rw [hlen]; omega)
      ·
       right
       rw [if_neg hml]; rfl
     ·
      intro el h9
      exact hel el (List.mem_of_mem_drop (List.mem_of_mem_take h9))
     ·
      intro i j hi hj
      rw [hlen] at hi
      rw [add_add _ _ _ hsp]
      have := g5 (l' + i) j (by omega) hj
      rw [Nat.add_mul] at this
      rw [← this]
      congr 2
      omega
     ·
      intro i j; exact g6 _ _
     ·
      intro i j el v he hv
      obtain ⟨_, he2⟩ := hget i el he
      exact g7 _ j el v he2 hv
  ·
   rename_i id off len hxe
   rw [hxe] at vx
   split at hsl
   case h_2 => cases hsl
   rename_i l h m sz es ty hl hh hm hobj
   split at hsl
   case isFalse => cases hsl
   rename_i hc
   obtain ⟨b1, b2, b3, b4, hszs⟩ := hc
   obtain ⟨lc, A, c, hlρ, hlc, hwh, hxu⟩ := Xh4 vx
   obtain ⟨l2, hl2, hp, hls, _⟩ := hR.objs id _ hobj rfl
   rw [hlρ] at hl2
   obtain rfl := Option.some.inj hl2
   obtain ⟨m', rfl⟩ := Int.eq_ofNat_of_zero_le (show 0 ≤ m by omega)
   have hmx : (mx' = none ∧ m' = len) ∨ ∃ k, mx'.map (AX.ev ta) = some (.int k (m' : Int)) := by
    rcases Xb0 hm with ⟨e1, e2⟩ | ⟨k, e1⟩
    ·
     left; refine ⟨by simpa using e1, by omega⟩
    ·
     exact .inr ⟨k, e1⟩
   let mc : Nat := if mx' = none then c else m'
   have hmc : (mx' = none ∧ mc = c) ∨ ∃ k, mx'.map (AX.ev ta) = some (.int k (mc : Int)) := by
    rcases hmx with ⟨e1, _⟩ | ⟨k, e1⟩
    ·
     exact .inl ⟨e1, by simp [mc, e1]⟩
    ·
     right
     have : mx' ≠ none := by intro h0; rw [h0] at e1; cases e1
     exact ⟨k, by simp only [mc, if_neg this]; exact e1⟩
   have hmle : m' ≤ mc ∧ mc ≤ c := by
    rcases hmx with ⟨e1, e2⟩ | ⟨k, e1⟩
    ·
     simp only [mc, e1, if_true]; omega
    ·
     have : mx' ≠ none := by intro h0; rw [h0] at e1; cases e1
     simp only [mc, if_neg this]; omega
   have hb := Xfy (is := true) (P := P) (cap := c) (m := mc) hA h1 h2 h3 hl hh hmc hmh b1 b2 (by omega) hmle.2 w
   have hrun := key A len c _ _ _ hxu hb
   obtain ⟨l', rfl⟩ := Int.eq_ofNat_of_zero_le b1
   obtain ⟨h', rfl⟩ := Int.eq_ofNat_of_zero_le (show 0 ≤ h by omega)
   simp only [Int.toNat_natCast] at hrun hsl
   have rowV : VR K ρ (.row id (off + l') (h' - l')) (.slice (if mc = l' then A else A.map (·.add (l' * s))) (h' - l') (mc - l')) := by
    refine .row hlρ (by omega) ?_
    by_cases hcl : mc = l'
    ·
     exact .inl (by omega)
    ·
     right
     rcases hwh with h0 | ⟨rfl, htot⟩
     ·
      omega
     rw [if_neg hcl]
     refine ⟨?_, ?_⟩
     ·
      simp only [Option.map_some, ZU, hls, hszs, Nat.add_mul, Nat.add_assoc]
     ·
      have h9 : off + l' + (mc - l') ≤ off + c := by omega
      exact Nat.le_trans (Nat.add_le_add_left (Nat.mul_le_mul_right _ h9) _) htot
   rcases hmx with ⟨e1, e2⟩ | ⟨k, e1⟩
   ·
    simp only [e1, Option.map_none] at hsl
    cases hsl
    exact Good.val hR hrun rowV
   ·
    simp only [e1] at hsl
    split at hsl
    ·
     rename_i hml
     cases hsl
     have hmn : mx' ≠ none := by intro h0; rw [h0] at e1; cases e1
     have e9 : mc = l' := by simp only [mc, if_neg hmn]; omega
     have e10 : h' - l' = 0 := by omega
     refine Good.val hR hrun ?_
     rw [e10]
     exact VR.vec (K := K) (ρ := ρ) (cap := true) (es := []) (c := mc - l') ⟨0, 0, none⟩ 0 (fun _ _ => .bool true) (by intro _; simp; omega) (by simp) (.inl rfl) (by simp) (by simp) (by intros; rfl) (by simp)
    ·
     cases hsl
     exact Good.val hR hrun rowV
  ·
   cases hsl
end
end Go.Proofs.Ytcbhlpbkampfeaa.AI
