import Derived.Test.YtcbhlpbkampfeaaA6
/- Part of a proof. -/
set_option linter.unusedVariables false
set_option linter.unusedSimpArgs false
namespace Go.Proofs.Ytcbhlpbkampfeaa.AI

theorem Xjj {l vs : List AV} {j : Nat} (h : j + vs.length ≤ l.length) (i : Nat) : (splice l j vs)[i]? = if j ≤ i ∧ i < j + vs.length then vs[i - j]? else l[i]? := by
 have gen : (l.take j ++ vs ++ l.drop (j + vs.length))[i]? = if j ≤ i ∧ i < j + vs.length then vs[i - j]? else l[i]? := by
  have hj : (l.take j).length = j := by rw [List.length_take]; omega
  by_cases h1 : i < j
  ·
   rw [if_neg (by omega), List.append_assoc, List.getElem?_append_left (by omega), List.getElem?_take, if_pos h1]
  ·
   by_cases h2 : i < j + vs.length
   ·
    rw [if_pos ⟨by omega, h2⟩, List.append_assoc, List.getElem?_append_right (by omega), hj, List.getElem?_append_left (by omega)]
   ·
    rw [if_neg (by omega), List.getElem?_append_right (by rw [List.length_append, hj]; omega), List.length_append, hj, List.getElem?_drop]
    congr 1
    omega
 unfold splice
 split
 ·
  rename_i v
  rw [List.getElem?_set]
  simp only [List.length_singleton] at h ⊢
  by_cases h1 : j = i
  ·
   subst h1
   rw [if_pos rfl, if_pos (by omega), if_pos ⟨by omega, by omega⟩]
   simp
  ·
   rw [if_neg h1, if_neg (by omega)]
 ·
  exact gen
theorem Xch {l vs : List AV} {j : Nat} (h : j + vs.length ≤ l.length) : (splice l j vs).length = l.length := by
  unfold splice
  split
  · simp
  · simp only [List.length_append, List.length_take, List.length_drop]; omega

theorem Xnu {c : Array Value} {vs : List Value} {o : Nat} (h : o + vs.length ≤ c.size) (i : Nat) : (c.toList.take o ++ vs ++ c.toList.drop (o + vs.length)).toArray[i]? = if o ≤ i ∧ i < o + vs.length then vs[i - o]? else c[i]? := by
 have hj : (c.toList.take o).length = o := by rw [List.length_take]; simp; omega
 rw [List.getElem?_toArray]
 by_cases h1 : i < o
 ·
  rw [if_neg (by omega), List.append_assoc, List.getElem?_append_left (by omega), List.getElem?_take, if_pos h1]; simp
 ·
  by_cases h2 : i < o + vs.length
  ·
   rw [if_pos ⟨by omega, h2⟩, List.append_assoc, List.getElem?_append_right (by omega), hj, List.getElem?_append_left (by omega)]
  ·
   rw [if_neg (by omega), List.getElem?_append_right (by rw [List.length_append, hj]; omega), List.length_append, hj, List.getElem?_drop, ← Array.getElem?_toList]
   congr 1
   omega
theorem Xk4 {c : Array Value} {vs : List Value} {o : Nat} (h : o + vs.length ≤ c.size) : (c.toList.take o ++ vs ++ c.toList.drop (o + vs.length)).toArray.size = c.size := by
 simp only [List.size_toArray, List.length_append, List.length_take, List.length_drop, Array.length_toList]; omega
theorem Xnt {c : Array Value} {vs : List Value} {o : Nat} (hc : ∀ u ∈ c, one u = true) (hv : ∀ u ∈ vs, one u = true) : ∀ u ∈ (c.toList.take o ++ vs ++ c.toList.drop (o + vs.length)).toArray, one u = true := by
  intro u hu
  simp only [List.mem_toArray, List.mem_append] at hu
  rcases hu with (hu | hu) | hu
  · exact hc u (by simpa using List.mem_of_mem_take hu)
  · exact hv u hu
  · exact hc u (by simpa using List.mem_of_mem_drop hu)
theorem Xml {K : (Nat → Option Obj)} {ρ : (Nat → Option Loc)} {c : Array Value} {base j : Nat} {el vs : List AV} {us : List Value} (h : JJ K ρ c base el) (hV : VRs K ρ vs us.toArray) (hj : j + vs.length ≤ el.length) (hc : base + j + us.length ≤ c.size) :
  JJ K ρ (c.toList.take (base + j) ++ us ++ c.toList.drop (base + j + us.length)).toArray base (splice el j vs) := by
 have hl : vs.length = us.length := by simpa using hV.1
 intro i v hv
 rw [Xjj hj] at hv
 rw [Xnu hc]
 by_cases h1 : j ≤ i ∧ i < j + vs.length
 ·
  rw [if_pos h1] at hv
  rw [if_pos (by omega)]
  have e : base + i - (base + j) = i - j := by omega
  rw [e]
  have hlt : i - j < us.length := by omega
  exact ⟨us[i - j], List.getElem?_eq_getElem hlt, hV.2 _ v _ hv (by simp [hlt])⟩
 ·
  rw [if_neg h1] at hv
  rw [if_neg (by omega)]
  exact h i v hv

section
variable {P : Program} {o : Oper} {a : Act} {w : World} {G : Gh} {K : (Nat → Option Obj)} {ρ : (Nat → Option Loc)} {H : List AObj}

theorem Xhc {b j : Nat} {c : Array Value} {t : TypeId} (hb : w.heap[b]? = some (.cells c t (0, 0))) (us : List Value) (h1 : ∀ u ∈ us, one u = true) (hj : j + us.length ≤ c.size) :
  (storeCells ⟨b, j, none⟩ us).run P w = .ok () (w.setRow b (c.toList.take j ++ us ++ c.toList.drop (j + us.length)).toArray) := by
 have := run_storeCells_at (P := P) b j t us 0 c w hb (by omega) h1
 simpa using this

theorem Xqb (hR : Rel G K ρ H w) {ta : ATm} (hA : AR K ρ ta a) {p x : Operand} {p' x' : AX} {t : TypeId} {n : Nat} (hp : compX p = some p') (hx : compX x = some x') (hn : sizeT P t = some n) (ho : o.op = .store t p x) :
  Good P o a w G K ρ H (evO ta H (.store n p' x')) := by
 have vp := Xp hA hp
 have vx := Xp hA hx
 simp only [evO]
 split
 case h_2 => exact trivial
 rename_i vs hvs
 obtain ⟨hV, hone⟩ := Xcf vx hvs
 split
 case isFalse => exact trivial
 rename_i hlen
 have hus : (a.eval x).cells.size = n := by rw [← hV.1, hlen]
 have hul : (a.eval x).cells.toList.length = n := by simpa using hus
 have hVl : VRs K ρ vs (a.eval x).cells.toList.toArray := by simpa using hV
 have key : ∀ ad w', a.eval p = .pointer (some ad) → (storeCells ad (a.eval x).cells.toList).run P w = .ok () w' → (execOp a.eval o).run P w = .ok .skip w' := by
  intro ad w' h1 h2
  simp [execOp, ho, Instr.storeAt, h1, Instr.sureAddr, storeVar, run_sizeOf hn, hus, h2]
 unfold Xn8
 split
 case h_2 => exact trivial
 rename_i id e j he
 rw [he] at vp
 obtain ⟨l, hl, hpu⟩ := Xh5 vp
 split
 case h_3 => exact trivial
 ·
  rename_i cs ty ho'
  split
  case isFalse => exact trivial
  rename_i hc
  obtain ⟨rfl, hc⟩ := hc
  obtain ⟨l', hl', c, h1, h2, h3, h4, h5⟩ := hR.objs id _ ho' rfl
  rw [hl] at hl'
  obtain rfl := Option.some.inj hl'
  have hcs : j + (a.eval x).cells.toList.length ≤ c.size := by omega
  have hadd : l.base + 0 * l.sz + j = j := by rw [h3]; omega
  rw [hadd] at hpu
  have hrun := Xhc (P := P) h1 (a.eval x).cells.toList (by simpa using hone) hcs
  refine ⟨_, undef, _, K, ρ, key _ _ hpu hrun, .inr ⟨rfl, rfl⟩, .any, hR.put _ ho' hl rfl rfl rfl rfl (by simp) (fun b hb => setRow_other _ _ _ _ hb) ?_⟩
  refine ⟨_, setRow_heap _ _ _ _ _ _ h1, ?_, h3, Xnt h4 (by simpa using hone), ?_⟩
  ·
   rw [Xk4 hcs, Xch (by omega)]; exact h2
  ·
   have := Xml (c := c) (base := 0) (j := j) (us := (a.eval x).cells.toList) h5 hVl (by omega) (by omega)
   simpa using this
 ·
  rename_i sz es ty ho'
  split
  case h_2 => exact trivial
  rename_i el hel
  split
  case isFalse => exact trivial
  rename_i hc
  obtain ⟨l', hl', hsz, hs, hels, hO⟩ := hR.objs id _ ho' rfl
  rw [hl] at hl'
  obtain rfl := Option.some.inj hl'
  rcases hO with ⟨_, rfl⟩ | ⟨c, h3, h4, h5, h6, h7⟩
  ·
   simp at hel
  ·
   have he' : e < es.length := (List.getElem?_eq_some_iff.1 hel).1
   have hlen2 : el.length = sz := hels el (List.mem_of_getElem? hel)
   have hb : (e + 1) * sz ≤ es.length * sz := Nat.mul_le_mul_right _ he'
   rw [Nat.add_mul, Nat.one_mul] at hb
   have hcs : l.base + e * sz + j + (a.eval x).cells.toList.length ≤ c.size := by omega
   rw [hs] at hpu
   have hrun := Xhc (P := P) h3 (a.eval x).cells.toList (by simpa using hone) hcs
   have hreal : real l (.mem sz es ty) = true := by
    have : l.tot ≠ 0 := by
     have := Nat.mul_pos (show 0 < es.length by omega) hsz
     omega
    simp [real, this]
   refine ⟨_, undef, _, K, ρ, key _ _ hpu hrun, .inr ⟨rfl, rfl⟩, .any, hR.put _ ho' hl hreal rfl rfl rfl (by simp) (fun b hb => setRow_other _ _ _ _ hb) ?_⟩
   refine ⟨hsz, hs, ?_, .inr ⟨_, setRow_heap _ _ _ _ _ _ h3, ?_, ?_, Xnt h6 (by simpa using hone), ?_⟩⟩
   ·
    intro el' h
    rcases List.mem_or_eq_of_mem_set h with h | rfl
    ·
     exact hels el' h
    ·
     rw [Xch (by omega)]; exact hlen2
   ·
    rw [Xk4 hcs]; exact h4
   ·
    simpa using h5
   ·
    intro e2 el2 h
    rw [List.getElem?_set] at h
    by_cases hee : e = e2
    ·
     subst hee
     rw [if_pos rfl, if_pos he'] at h
     obtain rfl := Option.some.inj h
     exact Xml (base := l.base + e * sz) (h7 e el hel) hVl (by omega) hcs
    ·
     rw [if_neg hee] at h
     intro i v hv
     have h8 := h7 e2 el2 h i v hv
     rw [Xnu hcs]
     have hi : i < el2.length := (List.getElem?_eq_some_iff.1 hv).1
     have hl2 : el2.length = sz := hels el2 (List.mem_of_getElem? h)
     rw [if_neg]
     ·
      exact h8
     ·
      rintro ⟨g1, g2⟩
      rcases Nat.lt_or_gt_of_ne hee with g | g
      ·
       have : (e + 1) * sz ≤ e2 * sz := Nat.mul_le_mul_right _ g
       rw [Nat.add_mul, Nat.one_mul] at this
       omega
      ·
       have : (e2 + 1) * sz ≤ e * sz := Nat.mul_le_mul_right _ g
       rw [Nat.add_mul, Nat.one_mul] at this
       omega

theorem Xhe {k : IntKind} {n : Int} : (asIntOf (.int k n)).run P w = .ok (k, n) w := rfl

theorem good_idx (hR : Rel G K ρ H w) {ta : ATm} (hA : AR K ρ ta a) {x i : Operand} {x' i' : AX} {t e : TypeId} {s : Nat} (hx : compX x = some x') (hi : compX i = some i') (hu : P.underlying t = some (.slice e)) (hs : sizeT P e = some s) (ho : o.op = .indexAddr t x i) :
  Good P o a w G K ρ H (evO ta H (.idx s x' i')) := by
 have vx := Xp hA hx
 have vi := Xp hA hi
 have key : ∀ (ad : Addr) (len c : Nat) (k : IntKind) (n : Int), a.eval x = .slice (some ad) len c → a.eval i = .int k n → 0 ≤ n → n < len → (execOp a.eval o).run P w = .ok (.value (.pointer (some (ad.add (n.toNat * s))))) w := by
  intro ad len c k n h1 h2 h3 h4
  simp [execOp, ho, h1, h2, Instr.indexAt, asIntOf, Xc hu, run_sizeOf hs, h3, h4]
 simp only [evO]
 split
 case h_3 => exact trivial
 ·
  rename_i cap es k n hxe hie
  rw [hxe] at vx
  rw [hie] at vi
  have vi' := Zm vi
  split
  case h_2 => exact trivial
  rename_i el hel
  split
  case isFalse => exact trivial
  rename_i hc
  obtain ⟨hn, hlen⟩ := hc
  have hlt : n.toNat < es.length := (List.getElem?_eq_some_iff.1 hel).1
  generalize hq : a.eval x = q at vx
  cases vx with
  | vec ad sz g h1 h2 h3 h4 h5 h6 h7 =>
   rcases h3 with rfl | rfl
   ·
    simp at hlt
   have hsz : sz = s := by rw [← hlen]; exact (h4 el (List.mem_of_getElem? hel)).symm
   refine Good.val hR (key ad _ _ k n hq vi' hn (by omega)) ?_
   subst hsz
   have h0 : ∀ j, j < el.length → kcell K ((ad.add (n.toNat * sz)).add j) = some (g n.toNat j) := by
    intro j hj
    have := h5 n.toNat j hlt (by omega)
    rw [← this]
    have hsp : ad.spot = none := by
     by_cases h9 : n.toNat * sz + j = 0
     ·
      rw [h9] at this
      have := Xdr this
      simpa [Addr.add] using this
     ·
      -- the first cell of all
      have hz := h5 0 0 (by omega) (by omega)
      have := Xdr hz
      simpa [Addr.add] using this
    rw [add_add _ _ _ hsp]
   have := VR.vptr (K := K) (ρ := ρ) (el := el) (j := 0) (ad.add (n.toNat * sz)) (g n.toNat) h0 (fun i => h6 _ _) (fun i v hv => h7 _ i el v hel hv)
   simpa [Addr.add] using this
 ·
  rename_i id off len k n hxe hie
  rw [hxe] at vx
  rw [hie] at vi
  have vi' := Zm vi
  split
  case h_2 => exact trivial
  rename_i sz es ty hobj
  split
  case isFalse => exact trivial
  rename_i hc
  obtain ⟨hn, hlt, hsz⟩ := hc
  obtain ⟨l, A, c, hl, hlc, h2, hxu⟩ := Xh4 vx
  obtain ⟨l', hl', hp, hls, _⟩ := hR.objs id _ hobj rfl
  rw [hl] at hl'
  obtain rfl := Option.some.inj hl'
  rcases h2 with h2 | ⟨rfl, h2⟩
  ·
   omega
  refine Good.val hR (key _ _ _ k n hxu vi' hn hlt) ?_
  rw [ZU]
  have := VR.ptr (K := K) (e := off + n.toNat) (j := 0) hl
  rw [hls, hsz, Nat.add_mul, Nat.add_zero, ← Nat.add_assoc] at this
  rw [hls, hsz]
  exact this

theorem good_idxa (hR : Rel G K ρ H w) {ta : ATm} (hA : AR K ρ ta a) {x i : Operand} {x' i' : AX} {t e : TypeId} {s len : Nat} (hx : compX x = some x') (hi : compX i = some i') (hu : P.underlying t = some (.array len e)) (hs : sizeT P e = some s) (ho : o.op = .indexAddr t x i) :
  Good P o a w G K ρ H (evO ta H (.idxa s len x' i')) := by
 have vx := Xp hA hx
 have vi := Xp hA hi
 have key : ∀ (ad : Addr) (k : IntKind) (n : Int), a.eval x = .pointer (some ad) → a.eval i = .int k n → 0 ≤ n → n < len → (execOp a.eval o).run P w = .ok (.value (.pointer (some (ad.add (n.toNat * s))))) w := by
  intro ad k n h1 h2 h3 h4
  simp [execOp, ho, h1, h2, Instr.indexAt, asIntOf, Xc hu, run_sizeOf hs, h3, h4, Instr.sureAddr]
 simp only [evO]
 split
 case h_3 => exact trivial
 ·
  rename_i id e j k n hxe hie
  rw [hxe] at vx
  rw [hie] at vi
  split
  case isFalse => exact trivial
  rename_i hc
  obtain ⟨l, hl, h⟩ := Xh5 vx
  refine Good.val hR (key _ k n h (Zm vi) hc.1 hc.2) ?_
  rw [ZU]
  have := VR.ptr (K := K) (e := e) (j := j + n.toNat * s) hl
  rwa [← Nat.add_assoc] at this
 ·
  rename_i el j k n hxe hie
  rw [hxe] at vx
  rw [hie] at vi
  split
  case isFalse => exact trivial
  rename_i hc
  generalize hq : a.eval x = q at vx
  cases vx with
  | vptr ad g h1 h2 h3 =>
   refine Good.val hR (key _ k n hq (Zm vi) hc.1 hc.2) ?_
   have hs : (ad.add j).add (n.toNat * s) = ad.add (j + n.toNat * s) := by
    by_cases hj : j = 0
    ·
     subst hj; simp [Addr.add]
    ·
     unfold Addr.add; simp [hj]; split <;> simp_all <;> omega
   rw [hs]
   exact .vptr ad g h1 h2 h3

theorem Xbg {t : TypeId} {n off : Nat} {agg : Bool} (hn : sizeT P t = some n) (ha : Qi P t = some agg) (h1 : agg = false → n = 1) {cs : List AV} {cs' : Array Value} (hV : VRs K ρ cs cs') (hone : ∀ x ∈ cs', one x = true) (hb : off + n ≤ cs.length) (w : World) :
  ∃ u, (part t cs' off).run P w = .ok u w ∧ VR K ρ (asVal agg ((cs.drop off).take n)) u := by
 have hs := hV.1
 cases agg with
 | true =>
  refine ⟨.agg (cs'.extract off (off + n)), by simp [part, Xc1 ha, run_sizeOf hn], .agg (by rw [List.length_take, List.length_drop, Array.size_extract]; omega) ?_ ?_⟩
  ·
   intro x hx
   obtain ⟨i, hi, rfl⟩ := Array.getElem_of_mem hx
   rw [Array.getElem_extract]
   exact hone _ (Array.getElem_mem _)
  ·
   intro i v u hv hu
   rw [List.getElem?_take] at hv
   split at hv
   ·
    rw [List.getElem?_drop] at hv
    rw [Array.getElem?_extract, if_pos (by omega)] at hu
    exact hV.2 _ v u hv hu
   ·
    cases hv
 | false =>
  have := h1 rfl
  subst this
  have hlt : off < cs'.size := by omega
  refine ⟨cs'[off], by simp [part, Xc1 ha, hlt], ?_⟩
  simp only [asVal, Bool.false_eq_true, if_false]
  have hlt2 : off < cs.length := by omega
  have e : ((cs.drop off).take 1).headD .any = cs[off] := by
   rw [List.drop_eq_getElem_cons hlt2]; rfl
  rw [e]
  exact hV.2 off _ _ (List.getElem?_eq_getElem hlt2) (Array.getElem?_eq_getElem hlt)

theorem Xl1 (hR : Rel G K ρ H w) {ta : ATm} (hA : AR K ρ ta a) {x : Operand} {x' : AX} {t : TypeId} {i n : Nat} {fs : Array Field} {f : Field} {agg : Bool} (hx : compX x = some x') (hu : P.underlying t = some (.struct fs)) (hf : fs[i]? = some f) (hn : sizeT P f.type = some n) (ha : Qi P f.type = some agg) (h1 : agg = false → n = 1)
  (ho : o.op = .field t x i) : Good P o a w G K ρ H (evO ta H (.part f.offset n agg x')) := by
 have vx := Xp hA hx
 simp only [evO]
 split
 case h_2 => exact trivial
 rename_i cs hxe
 rw [hxe] at vx
 split
 case isFalse => exact trivial
 rename_i hc
 obtain ⟨cs', hxu, hV, hone⟩ := Xa2 vx
 obtain ⟨u, hrun, hv⟩ := Xbg (P := P) hn ha h1 hV hone hc w
 exact Good.val hR (u := u) (by simp [execOp, ho, hxu, Instr.field, Xc hu, hf, asAgg, hrun]) hv

theorem Xl4 (hR : Rel G K ρ H w) {ta : ATm} (hA : AR K ρ ta a) {x i : Operand} {x' i' : AX} {t e : TypeId} {s len : Nat} {agg : Bool} (hx : compX x = some x') (hi : compX i = some i') (hu : P.underlying t = some (.array len e)) (hn : sizeT P e = some s) (ha : Qi P e = some agg) (h1 : agg = false → s = 1)
  (ho : o.op = .index t x i) : Good P o a w G K ρ H (evO ta H (.elem s len agg x' i')) := by
 have vx := Xp hA hx
 have vi := Xp hA hi
 simp only [evO]
 split
 case h_2 => exact trivial
 rename_i cs k n hxe hie
 rw [hxe] at vx
 rw [hie] at vi
 split
 case isFalse => exact trivial
 rename_i hc
 obtain ⟨cs', hxu, hV, hone⟩ := Xa2 vx
 obtain ⟨u, hrun, hv⟩ := Xbg (P := P) hn ha h1 hV hone hc.2.2 w
 exact Good.val hR (u := u) (by simp [execOp, ho, hxu, Zm vi, Instr.index, asIntOf, Xc hu, run_sizeOf hn, hc.1, hc.2.1, hrun]) hv

theorem good_sidx (hR : Rel G K ρ H w) {ta : ATm} (hA : AR K ρ ta a) {x i : Operand} {x' i' : AX} {t : TypeId} (hx : compX x = some x') (hi : compX i = some i') (hu : P.underlying t = some .string) (ho : o.op = .index t x i) : Good P o a w G K ρ H (evO ta H (.sidx x' i')) := by
 have vx := Xp hA hx
 have vi := Xp hA hi
 simp only [evO]
 split
 case h_2 => exact trivial
 rename_i s k n hxe hie
 rw [hxe] at vx
 rw [hie] at vi
 split
 case h_2 => exact trivial
 rename_i b hb
 split
 case isFalse => exact trivial
 rename_i hc
 refine Good.val hR (u := .int .u8 b.toNat) ?_ .int
 have hlt : n.toNat < s.size := (Array.getElem?_eq_some_iff.1 hb).1
 have hb2 : s[n.toNat]'hlt = b := (Array.getElem?_eq_some_iff.1 hb).2
 have hb3 : s[n.toNat]? = some b := by rw [getElem?_pos s n.toNat hlt, hb2]
 simp [execOp, ho, Xh3 vx, Zm vi, Instr.index, asIntOf, Xc hu, hc, hb3]
end
end Go.Proofs.Ytcbhlpbkampfeaa.AI
