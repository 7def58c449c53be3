import Derived.Test.YtcbhlpbkampfeaaA8
/- The abstract machine, part 9: append. -/
set_option linter.unusedVariables false
set_option linter.unusedSimpArgs false
namespace Go.Proofs.Ytcbhlpbkampfeaa.AI

section
variable {P : Program} {o : Oper} {a : Act} {w : World} {G : Gh} {K : (Nat → Option Obj)} {ρ : (Nat → Option Loc)} {H : List AObj}

theorem Xix {t : TypeId} {b : Nat} (h : Xiy P t = some b) : ∃ i, P.info? t = some i ∧ i.bytes = b := by
 simp only [Xiy, Option.map_eq_some_iff] at h
 exact h
theorem Xdm {t : TypeId} {b : Nat} (h : sizeT P t = some b) : ∃ i, P.info? t = some i ∧ i.size = b := by
 simp only [sizeT, Option.map_eq_some_iff] at h
 exact h

theorem Xct {ats : Array TypeId} {st xt e : TypeId} {d : TypeId} (h0 : ats[0]? = some st) (h1 : ats[1]? = some xt) (hs : P.underlying st = some (.slice e)) (hx : P.underlying xt = some (.slice d)) {s : Nat} (hz : sizeT P e = some s)
  {A : Option Addr} {len c : Nat} {u : Value} {m : Nat} {B : Option Addr} {c2 : Nat} (hu : u = .slice B m c2) {us : Array Value} (hf : (Builtin.firstCells s m u).run P w = .ok us w) (hroom : len + m ≤ c) {w' : World} (hst : ∀ ad, A = some ad → (storeCells (ad.add (len * s)) us.toList).run P w = .ok () w') (hn : A = none → w' = w) (ty : TypeId) :
  (Builtin.append_ ats ty #[.slice A len c, u]).run P w = .ok (.slice A (len + m) c) w' := by
 obtain ⟨i, hi, hsz⟩ := Xdm hz
 subst hu
 cases A with
 | none =>
  obtain rfl := hn rfl
  simp [Builtin.append_, h0, h1, Xc hs, Xc hx, run_sizeOf hz, Builtin.lenOf, hroom, hf]
 | some ad =>
  simp [Builtin.append_, h0, h1, Xc hs, Xc hx, run_sizeOf hz, Builtin.lenOf, hroom, hf, hst ad rfl]

theorem Xiz {ats : Array TypeId} {st xt e : TypeId} {d : TypeId} (h0 : ats[0]? = some st) (h1 : ats[1]? = some xt) (hs : P.underlying st = some (.slice e)) (hx : P.underlying xt = some (.slice d)) {s b : Nat} (hz : sizeT P e = some s) (hb : Xiy P e = some b) (hb0 : 0 < b) {zs : List AV} (hzero : zeroT P e = some zs) (hzl : zs.length = s)
  {A : Option Addr} {len c : Nat} {u : Value} {m : Nat} {B : Option Addr} {c2 : Nat} (hu : u = .slice B m c2) {us vs : Array Value} (hf : ∀ n, (Builtin.firstCells s len (.slice A len c)).run P { w with drawn := n } = .ok us { w with drawn := n }) (hg : ∀ n, (Builtin.firstCells s m u).run P { w with drawn := n } = .ok vs { w with drawn := n })
  (hroom : c < len + m) (hfit : (len + m) * b ≤ 140737488355328) (ty : TypeId) :
  ∃ (cap : Nat) (rest : Array Value), len + m ≤ cap ∧ rest.size = (cap - (len + m)) * s ∧ (∀ x ∈ rest, one x = true) ∧
   (Builtin.append_ ats ty #[.slice A len c, u]).run P w = .ok (.slice (some ⟨w.heap.size, 0, none⟩) (len + m) cap) { w with heap := w.heap.push (.cells (us ++ vs ++ rest) e (0, 0)), drawn := w.drawn + 1 } := by
 obtain ⟨i, hi, hsz⟩ := Xdm hz
 obtain ⟨i', hi', hby⟩ := Xix hb
 rw [hi] at hi'
 obtain rfl := Option.some.inj hi'
 obtain ⟨i2, z, hi2, hzz, hab⟩ := JM hzero
 rw [hi] at hi2
 obtain rfl := Option.some.inj hi2
 obtain ⟨hV, hone, _⟩ := Xbs (K := fun _ => none) (ρ := rnone) _ _ hab
 have hzs : z.cells.size = s := by have := hV.1; simp at this; omega
 let cap := (Question.appendCap (len + m) c e).cut (w.tape w.drawn (.appendCap (len + m) c e))
 have hcap : len + m ≤ cap := by simp only [cap, Question.cut]; omega
 have hnc := growslice_fits hroom hfit
 refine ⟨cap, Builtin.zeroCells z.cells (cap - (len + m)), hcap, by simp [Builtin.zeroCells, hzs], ?_, ?_⟩
 ·
  intro x hx
  simp only [Builtin.zeroCells, Array.mem_map, Array.mem_range] at hx
  obtain ⟨j, hj, rfl⟩ := hx
  rw [hzs] at hj
  have hs0 : 0 < s := by
   rcases Nat.eq_zero_or_pos s with h | h
   ·
    rw [h, Nat.mul_zero] at hj; omega
   ·
    exact h
  have hlt : j % z.cells.size < z.cells.size := Nat.mod_lt _ (by omega)
  rw [getElem!_pos z.cells _ hlt]
  exact hone _ (by simp)
 ·
  subst hu
  have hnot : ¬ (len + m ≤ c) := by omega
  have hbn : i.bytes ≠ 0 := by omega
  rw [hby] at hbn
  simp only [Builtin.append_, List.getElem?_toArray, List.getElem?_cons_zero, List.getElem?_cons_succ, h0, h1, Sem.run_bind, Xc hs, Xc hx, run_sizeOf hz, Builtin.lenOf, hnot, if_false, Result.andThen_ok, typeInfo, run_program, hi, Sem.run_pure,
   hby, hbn, or_false, Bool.false_eq_true, and_false, show ¬ (Builtin.nextslicecap (len + m) c * b > 2 ^ 48) by omega, run_choose, Question.forced, run_askRoom, hf, Bool.not_false, if_true, hg, Xci hi hzz, newRow, run_newObj]
  rfl

theorem Xkr {w' : World} {s cap : Nat} {es : List (List AV)} {us rest : Array Value} {e : TypeId} {b : Nat} (hs : 0 < s) (h : RowR K ρ s es us) (hb : w'.heap[b]? = some (.cells (us ++ rest) e (0, 0))) (hrest : ∀ x ∈ rest, one x = true) (hsize : (us ++ rest).size = cap * s) :
  OR K ρ w' ⟨b, 0, s, cap * s⟩ (.mem s es e) := by
 refine ⟨hs, rfl, h.len, .inr ⟨_, hb, hsize, ?_, ?_, ?_⟩⟩
 ·
  have := h.size
  rw [Array.size_append] at hsize
  simp only []
  omega
 ·
  intro u hu
  rcases Array.mem_append.1 hu with hu | hu
  ·
   exact h.one u hu
  ·
   exact hrest u hu
 ·
  intro e' el he j v hv
  obtain ⟨u, hu, hr⟩ := h.cells e' el he j v hv
  refine ⟨u, ?_, hr⟩
  simp only [Nat.zero_add]
  rw [Array.getElem?_append_left (Array.getElem?_eq_some_iff.1 hu).1]
  exact hu

theorem Xfv {xs : List Operand} {x' y' : AX} (h : QD xs = some [x', y']) : ∃ x y, xs = [x, y] ∧ compX x = some x' ∧ compX y = some y' := by
 match xs, h with
 | [], h => simp [QD] at h
 | [x], h =>
  simp only [QD] at h
  split at h <;> simp at h
  simp_all
 | [x, y], h =>
  refine ⟨x, y, rfl, ?_⟩
  simp only [QD] at h
  cases h1 : compX x <;> cases h2 : compX y <;> simp [h1, h2] at h
  exact ⟨by rw [h.1], by rw [h.2]⟩
 | x :: y :: z :: r, h =>
  simp only [QD] at h
  split at h
  ·
   rename_i h1 h2
   split at h2
   ·
    rename_i h3 h4
    split at h4 <;> simp_all
   ·
    cases h2
  ·
   cases h

theorem good_app (hR : Rel G K ρ H w) {ta : ATm} (hA : AR K ρ ta a) {x y : Operand} {x' y' : AX} {c : Call} (hx : compX x = some x') (hy : compX y = some y') (hc : c.callee = .builtin .append) (hargs : c.args.toList = [x, y]) {st xt e d : TypeId} (h0 : c.argTypes[0]? = some st) (h1 : c.argTypes[1]? = some xt)
  (hsl : P.underlying st = some (.slice e)) (hsx : P.underlying xt = some (.slice d)) {s b : Nat} {zs : List AV} (hz : sizeT P e = some s) (hb : Xiy P e = some b) (hzero : zeroT P e = some zs) (hs0 : 0 < s) (hb0 : 0 < b) (hzl : zs.length = s) (ho : o.op = .call c) :
  Good P o a w G K ρ H (evO ta H (.app s b e x' y')) := by
 have vx := Xp hA hx
 have vy := Xp hA hy
 have hca : c.args = #[x, y] := by rw [← Array.toArray_toList (xs := c.args), hargs]
 have key : ∀ r w', (Builtin.append_ c.argTypes o.type #[a.eval x, a.eval y]).run P w = .ok r w' → (execOp a.eval o).run P w = .ok (.value r) w' := by
  intro r w' h
  simp [execOp, ho, resolve, hc, hca, invoke, builtin, h]
 simp only [evO]
 split
 case h_2 => exact trivial
 rename_i ys hys
 split
 case isFalse => exact trivial
 rename_i hall
 have hyl : ∀ el ∈ ys, el.length = s := by simpa using hall
 have hys' := hys
 obtain ⟨A2, c2, us2, hu2, hc2, hf2, hR2, _⟩ := Xe5 (P := P) hR vy hys hs0 hyl
 unfold appA
 split
 case h_3 => exact trivial
 ·
  rename_i es hxe
  rw [hxe] at vx
  split
  ·
   rename_i hcn
   obtain ⟨hy0, hpe⟩ := hcn
   split
   case isFalse => exact trivial
   rename_i hall2
   have hel : ∀ el ∈ es, el.length = s := by simpa using hall2
   obtain ⟨A1, c1, us1, hu1, hc1, hf1, hR1, _⟩ := Xe5 (P := P) hR vx (by rfl) hs0 hel
   have hys0 : ys = [] := List.eq_nil_of_length_eq_zero hy0
   subst hys0
   have hus2 : us2 = #[] := by
    have := hR2.size
    simp at this
    exact this
   subst hus2
   have hrun := Xct (P := P) (w := w) h0 h1 hsl hsx hz (A := A1) (len := es.length) (c := c1) hu2 (hf2 w.drawn) (by simpa using hc1) (w' := w) (by intro ad _; simp [storeCells]) (fun _ => rfl) o.type
   rw [← hu1] at hrun
   refine ⟨_, _, _, K, ρ, key _ _ hrun, .inl rfl, ?_, Next.refl hR⟩
   rw [hu1] at vx
   simpa using vx
  split
  case isFalse => exact trivial
  rename_i hcond
  obtain ⟨hfit, hpos0, hall2⟩ := hcond
  have hel : ∀ el ∈ es, el.length = s := by simpa using hall2
  obtain ⟨A1, c1, us1, hu1, hc1, hf1, hR1, _⟩ := Xe5 (P := P) hR vx (by rfl) hs0 hel
  have hcap : c1 = es.length := by
   rw [hu1] at vx
   cases vx with
   | vec ad sz g g1 g2 g3 g4 g5 g6 g7 => exact g1 rfl
  subst hcap
  rcases Nat.eq_zero_or_pos ys.length with hy0 | hpos
  ·
   -- nil and nothing
   have hes0 : es = [] := List.eq_nil_of_length_eq_zero (by omega)
   have hys0 : ys = [] := List.eq_nil_of_length_eq_zero hy0
   subst hes0 hys0
   have hus2 : us2 = #[] := by
    have := hR2.size
    simp at this
    exact this
   subst hus2
   have hrun := Xct (P := P) (w := w) h0 h1 hsl hsx hz (A := A1) (len := 0) (c := 0) hu2 (hf2 w.drawn) (by simp) (w' := w) (by intro ad _; simp [storeCells]) (fun _ => rfl) o.type
   have hu1' : a.eval x = .slice A1 0 0 := by simpa using hu1
   rw [← hu1'] at hrun
   obtain ⟨ρ1, hle, hN, hv⟩ := hR.thaw hs0 e
   refine ⟨_, _, _, K, ρ1, key _ _ hrun, .inl rfl, ?_, by simpa using hN⟩
   have := hv _ vx
   rw [hu1'] at this
   simpa [hu1'] using this
  rw [hu1] at hf1
  obtain ⟨cap, rest, k1, k2, k3, k4⟩ := Xiz (P := P) (w := w) h0 h1 hsl hsx hz hb hb0 hzero hzl hu2 hf1 hf2 (by omega) hfit o.type
  rw [← hu1] at k4
  have hRR := hR1.append hR2
  have hsize : ((us1 ++ us2) ++ rest).size = cap * s := by
   rw [Array.size_append, hRR.size, k2, List.length_append, ← Nat.add_mul]
   congr 1
   omega
  have hR0 := hR.drawn (w.drawn + 1)
  let l' : Loc := ⟨w.heap.size, 0, s, cap * s⟩
  have hle : RLe ρ (extρ ρ H.length l') := Xcq (hR.top _ (Nat.le_refl _))
  have hN := hR0.new (.cells ((us1 ++ us2) ++ rest) e (0, 0)) l' (.mem s (es ++ ys) e) rfl rfl (Xkr hs0 (hRR.mono (KLe.refl _) hle) (by simp) k3 hsize)
  refine ⟨_, _, _, K, extρ ρ H.length l', key _ _ k4, .inl rfl, ?_, hN⟩
  have := VR.row (K := K) (ρ := extρ ρ H.length l') (id := H.length) (l := l') (off := 0) (len := es.length + ys.length) (A := some ⟨w.heap.size, 0, none⟩) (c := cap) QC k1 (.inr ⟨by simp [l'], by simp [l']⟩)
  exact this
 ·
  rename_i id off len hxe
  rw [hxe] at vx
  split
  case h_2 => exact trivial
  rename_i sz es t' hobj
  split
  case isFalse => exact trivial
  rename_i hcond
  obtain ⟨hfit, rfl, rfl, hol⟩ := hcond
  obtain ⟨l, hl, hp, hls, hels, hO⟩ := hR.objs id _ hobj rfl
  have hdl : ((es.drop off).take len).length = len := by rw [List.length_take, List.length_drop]; omega
  have hel : ∀ el ∈ (es.drop off).take len, el.length = sz := fun el h => hels el (List.mem_of_mem_drop (List.mem_of_mem_take h))
  have helem : Xge H (.row id off len) = some ((es.drop off).take len) := by simp only [Xge, hobj]; rw [if_pos hol]
  obtain ⟨A1, c1, us1, hu1, hc1, hf1, hR1, hcell1⟩ := Xe5 (P := P) hR vx helem hs0 hel
  rw [hdl] at hu1 hc1 hf1 hcell1
  obtain ⟨l2, A', c', hl2, hlc, hwh, hu3⟩ := Xh4 vx
  rw [hl] at hl2
  obtain rfl := Option.some.inj hl2
  rw [hu1] at hu3
  obtain ⟨rfl, _, rfl⟩ := by simpa using hu3
  have hRR := hR1.append hR2
  by_cases hroom : len + ys.length ≤ c1
  ·
   -- into what room there is
   by_cases hc0 : c1 = 0
   ·
    have hlen0 : len = 0 := by omega
    have hy0 : ys = [] := List.eq_nil_of_length_eq_zero (by omega)
    subst hlen0 hy0 hc0
    have hus2 : us2 = #[] := by
     have := hR2.size
     simp at this
     exact this
    subst hus2
    have hrun := Xct (P := P) (w := w) h0 h1 hsl hsx hz (A := A1) (len := 0) (c := 0) hu2 (hf2 w.drawn) (by simp) (w' := w) (by intro ad _; simp [storeCells]) (fun _ => rfl) o.type
    rw [← hu1] at hrun
    let l' : Loc := ⟨0, 0, sz, 0⟩
    have hN := hR.renew (w' := w) id l l' (.mem sz [] t') rfl rfl rfl (fun _ _ _ => rfl) rfl (.inl hl) (by simp [real, l']) ⟨hs0, rfl, by simp, .inl ⟨rfl, rfl⟩⟩
    refine ⟨_, _, _, K, _, key _ _ hrun, .inl rfl, ?_, by simpa using hN⟩
    exact .row (l := l') QC (by simp) (.inl rfl)
   ·
    obtain ⟨rfl, htot⟩ := hwh.resolve_left hc0
    have htot0 : l.tot ≠ 0 := by
     have : 0 < (off + c1) * l.sz := Nat.mul_pos (by omega) (by omega)
     omega
    obtain ⟨cs, g3, g4, g5, g6, g7⟩ := hO.resolve_left (fun h => htot0 h.1)
    have hreal : real l (.mem sz es t') = true := by simp [real, htot0]
    rw [hls] at htot
    have hfits : l.base + off * sz + len * sz + us2.toList.length ≤ cs.size := by
     have e1 : us2.toList.length = ys.length * sz := by simpa using hR2.size
     have e2 : (off + (len + ys.length)) * sz ≤ (off + c1) * sz := Nat.mul_le_mul_right _ (by omega)
     rw [e1, g4]
     rw [Nat.add_mul, Nat.add_mul] at e2
     omega
    have hst := Xhc (P := P) g3 us2.toList (j := l.base + off * sz + len * sz) (by simpa using hR2.one) hfits
    have hrun := Xct (P := P) (w := w) h0 h1 hsl hsx hz (A := some ⟨l.block, l.base + off * l.sz, none⟩) (len := len) (c := c1) hu2 (hf2 w.drawn) hroom (w' := _) (by
     intro ad had
     obtain rfl := Option.some.inj had
     rw [ZU, hls]
     exact hst) (by simp) o.type
    rw [← hu1] at hrun
    let l' : Loc := ⟨l.block, l.base + off * sz, sz, l.tot⟩
    have hle : RLe ρ (extρ ρ H.length l') := Xcq (hR.top _ (Nat.le_refl _))
    obtain ⟨hlt, _, _⟩ := hR.own id _ l hobj hl hreal
    have hN := hR.renew (w' := w.setRow l.block (cs.toList.take (l.base + off * sz + len * sz) ++ us2.toList ++ cs.toList.drop (l.base + off * sz + len * sz + us2.toList.length)).toArray) id l l' (.mem sz ((es.drop off).take len ++ ys) t') rfl rfl rfl (fun b hb hne => setRow_other _ _ _ _ (hne _ hobj hl hreal)) rfl (.inl hl)
     (fun _ => ⟨by simpa [l'] using hlt, .inr ⟨_, hobj, hl, hreal, rfl⟩⟩) (by
      have e1 : us2.toList.length = ys.length * sz := by simpa using hR2.size
      refine ⟨hs0, rfl, ?_, .inr ⟨_, setRow_heap _ _ _ _ _ _ g3, ?_, ?_, Xnt g6 (by simpa using hR2.one), ?_⟩⟩
      ·
       intro el h
       rcases List.mem_append.1 h with h | h
       ·
        exact hel el h
       ·
        exact hyl el h
      ·
       rw [Xk4 hfits]; exact g4
      ·
       simp only [l', List.length_append, hdl, Nat.add_mul]
       rw [e1, g4] at hfits
       omega
      ·
       intro e' el he j v hv
       have hjs : j < sz := by
        rw [← (show el.length = sz from by
         rcases List.mem_append.1 (List.mem_of_getElem? he) with h | h
         ·
          exact hel el h
         ·
          exact hyl el h)]
        exact (List.getElem?_eq_some_iff.1 hv).1
       simp only [l']
       rw [Xnu hfits]
       rcases Nat.lt_or_ge e' len with hlt' | hge'
       ·
        rw [List.getElem?_append_left (by omega), List.getElem?_take, if_pos hlt', List.getElem?_drop] at he
        obtain ⟨u, hu, hr⟩ := g7 _ el he j v hv
        have hbe : (e' + 1) * sz ≤ len * sz := Nat.mul_le_mul_right _ hlt'
        rw [Nat.add_mul, Nat.one_mul] at hbe
        rw [Nat.add_mul] at hu
        rw [if_neg (by omega)]
        exact ⟨u, by rw [← hu]; congr 1; omega, hr.mono (KLe.refl _) hle⟩
       ·
        rw [List.getElem?_append_right (by omega), hdl] at he
        obtain ⟨u, hu, hr⟩ := hR2.cells _ el he j v hv
        have hlt2 : e' - len < ys.length := (List.getElem?_eq_some_iff.1 he).1
        have hbe : (e' - len + 1) * sz ≤ ys.length * sz := Nat.mul_le_mul_right _ hlt2
        rw [Nat.add_mul, Nat.one_mul] at hbe
        have e2 : e' * sz = len * sz + (e' - len) * sz := by rw [← Nat.add_mul]; congr 1; omega
        rw [if_pos (by rw [e1]; omega)]
        refine ⟨u, ?_, hr.mono (KLe.refl _) hle⟩
        rw [Array.getElem?_toList, ← hu]
        congr 1
        omega)
    refine ⟨_, _, _, K, extρ ρ H.length l', key _ _ hrun, .inl rfl, ?_, hN⟩
    refine .row (l := l') QC hroom (.inr ⟨by simp [l', hls], ?_⟩)
    simp only [l', Nat.zero_add]
    rw [Nat.add_mul] at htot
    omega
  ·
   -- into a new row
   rw [hu1] at hf1
   obtain ⟨cap, rest, k1, k2, k3, k4⟩ := Xiz (P := P) (w := w) h0 h1 hsl hsx hz hb hb0 hzero hzl hu2 hf1 hf2 (by omega) hfit o.type
   rw [← hu1] at k4
   have hsize : ((us1 ++ us2) ++ rest).size = cap * sz := by
    rw [Array.size_append, hRR.size, k2, List.length_append, hdl, ← Nat.add_mul]
    congr 1
    omega
   let l' : Loc := ⟨w.heap.size, 0, sz, cap * sz⟩
   have hle : RLe ρ (extρ ρ H.length l') := Xcq (hR.top _ (Nat.le_refl _))
   have hN := hR.renew (w' := { w with heap := w.heap.push (.cells ((us1 ++ us2) ++ rest) t' (0, 0)), drawn := w.drawn + 1 }) id l l' (.mem sz ((es.drop off).take len ++ ys) t') rfl rfl rfl (fun b hb _ => by simp [Array.getElem?_push, Nat.ne_of_lt hb]) rfl (.inl hl) (fun _ => ⟨by simp [l'], .inl (by simp [l'])⟩)
    (Xkr hs0 (hRR.mono (KLe.refl _) hle) (by simp) k3 hsize)
   refine ⟨_, _, _, K, extρ ρ H.length l', key _ _ k4, .inl rfl, ?_, hN⟩
   exact .row (l := l') QC k1 (.inr ⟨by simp [l'], by simp [l']⟩)
end
end Go.Proofs.Ytcbhlpbkampfeaa.AI
