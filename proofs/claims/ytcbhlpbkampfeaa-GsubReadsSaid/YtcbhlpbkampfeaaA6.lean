import Derived.Test.YtcbhlpbkampfeaaA5
/- Part of a proof. -/
set_option linter.unusedVariables false
set_option linter.unusedSimpArgs false
namespace Go.Proofs.Ytcbhlpbkampfeaa.AI

theorem Xn1 {K : (Nat → Option Obj)} {ρ : (Nat → Option Loc)} {v : Value} {x : AV} (h : absS v = some x) : VR K ρ x v ∧ one v = true ∧ pureV x = true := by
 unfold absS at h
 split at h <;> first | (injection h with h; subst h; first | exact ⟨.bool, rfl, rfl⟩ | exact ⟨.int, rfl, rfl⟩ | exact ⟨.str, rfl, rfl⟩ | exact ⟨.nilp, rfl, rfl⟩ | exact ⟨.nilmap, rfl, rfl⟩ | exact ⟨.nilfn, rfl, rfl⟩ | exact ⟨.nilif, rfl, rfl⟩ | skip) | cases h
 exact ⟨.vec (es := []) ⟨0, 0, none⟩ 0 (fun _ _ => .bool true) (by simp) (by simp) (.inl rfl) (by simp) (by simp) (by intros; rfl) (by simp), rfl, rfl⟩

theorem Xbs {K : (Nat → Option Obj)} {ρ : (Nat → Option Loc)} : ∀ (vs : List Value) (xs : List AV), absL vs = some xs → VRs K ρ xs vs.toArray ∧ (∀ v ∈ vs, one v = true) ∧ pures xs = true
 | [], xs, h => by simp only [absL, Option.some.injEq] at h; subst h; exact ⟨⟨rfl, by simp⟩, by simp, rfl⟩
 | v :: vs, xs, h => by
  simp only [absL] at h
  cases h1 : absS v with
  | none => rw [h1] at h; cases h
  | some x =>
   cases h2 : absL vs with
   | none => rw [h1, h2] at h; cases h
   | some ys =>
    rw [h1, h2] at h
    simp only [Option.some.injEq] at h
    subst h
    obtain ⟨a, b, c⟩ := Xn1 (K := K) (ρ := ρ) h1
    obtain ⟨d, e, f⟩ := Xbs (K := K) (ρ := ρ) vs ys h2
    refine ⟨⟨by simpa using d.1, fun i y u hy hu => ?_⟩, ?_, by simp [pures, c, f]⟩
    ·
     cases i with
     | zero => simp at hy hu; subst hy hu; exact a
     | succ i => exact d.2 i y u (by simpa using hy) (by simpa using hu)
    ·
     intro u hu
     rcases List.mem_cons.1 hu with rfl | hu
     ·
      exact b
     ·
      exact e u hu

theorem absV_VR {K : (Nat → Option Obj)} {ρ : (Nat → Option Loc)} {v : Value} {x : AV} (h : absV v = some x) : VR K ρ x v := by
 unfold absV at h
 split at h
 ·
  rename_i cs
  simp only [Option.map_eq_some_iff] at h
  obtain ⟨xs, h1, rfl⟩ := h
  obtain ⟨a, b, c⟩ := Xbs (K := K) (ρ := ρ) _ _ h1
  exact .agg (by simpa using a.1) (by simpa using b) (fun i v u hv hu => a.2 i v u hv (by simpa using hu))
 ·
  exact (Xn1 h).1

theorem Xp {K : (Nat → Option Obj)} {ρ : (Nat → Option Loc)} {ta : ATm} {a : Act} (hA : AR K ρ ta a) {x : Operand} {y : AX} (h : compX x = some y) : VR K ρ (y.ev ta) (a.eval x) := by
 unfold compX at h
 split at h
 ·
  simp only [Option.some.injEq] at h; subst h; exact hA.tmps _
 ·
  simp only [Option.map_eq_some_iff] at h
  obtain ⟨z, h1, rfl⟩ := h
  exact .iface (absV_VR h1)
 ·
  simp only [Option.map_eq_some_iff] at h
  obtain ⟨z, h1, rfl⟩ := h
  exact absV_VR h1
 ·
  simp only [Option.some.injEq] at h; subst h
  exact .fn rfl rfl (by simp) (by simp)
 ·
  cases h

theorem Xaf {K : (Nat → Option Obj)} {ρ : (Nat → Option Loc)} {ta : ATm} {a : Act} (hA : AR K ρ ta a) : ∀ {xs : List Operand} {ys : List AX}, QD xs = some ys → VRs K ρ (ys.map (AX.ev ta)) (xs.map a.eval).toArray
 | [], ys, h => by simp only [QD, Option.some.injEq] at h; subst h; exact ⟨rfl, by simp⟩
 | x :: xs, ys, h => by
  simp only [QD] at h
  cases h1 : compX x with
  | none => rw [h1] at h; cases h
  | some y =>
   cases h2 : QD xs with
   | none => rw [h1, h2] at h; cases h
   | some zs =>
    rw [h1, h2] at h
    simp only [Option.some.injEq] at h
    subst h
    have d := Xaf hA h2
    refine ⟨by simpa using d.1, fun i v u hv hu => ?_⟩
    cases i with
    | zero => simp at hv hu; subst hv hu; exact Xp hA h1
    | succ i => exact d.2 i v u (by simpa using hv) (by simpa using hu)

def Good (P : Program) (o : Oper) (a : Act) (w : World) (G : Gh) (K : (Nat → Option Obj)) (ρ : (Nat → Option Loc)) (H : List AObj) : R1 → Prop
 | .ok v H' => ∃ nx u w' K' ρ', (execOp a.eval o).run P w = .ok nx w' ∧ (nx = .value u ∨ (nx = .skip ∧ u = undef)) ∧ VR K' ρ' v u ∧ Next G H.length K ρ K' ρ' H' w'
 | .call f args => ∃ us, VRs K ρ args us ∧ (OkF P f → (execOp a.eval o).run P w = .ok (.enter f us) w)
 | .pan v => ∃ u, (execOp a.eval o).run P w = .halt (.panic u) w ∧ VR K ρ v u
 | .bad => True

section
variable {P : Program} {o : Oper} {a : Act} {w : World} {G : Gh} {K : (Nat → Option Obj)} {ρ : (Nat → Option Loc)} {H : List AObj}

theorem Good.val (hR : Rel G K ρ H w) {v : AV} {u : Value} (h : (execOp a.eval o).run P w = .ok (.value u) w) (hv : VR K ρ v u) : Good P o a w G K ρ H (.ok v H) :=
 ⟨_, u, w, K, ρ, h, .inl rfl, hv, Next.refl hR⟩

theorem Xow (hR : Rel G K ρ H w) {ta : ATm} (hA : AR K ρ ta a) {x : Operand} {y : AX} (hx : compX x = some y) (ho : o.op = .move x ∨ o.op = .assign x) : Good P o a w G K ρ H (evO ta H (.mov y)) := by
 refine Good.val hR ?_ (Xp hA hx)
 rcases ho with ho | ho <;> simp [execOp, ho]

theorem QW {b : Bool} {u : Value} (h : VR K ρ (.bool b) u) : u = .bool b := by cases h; rfl
theorem Zm {k : IntKind} {n : Int} {u : Value} (h : VR K ρ (.int k n) u) : u = .int k n := by cases h; rfl
theorem Xh3 {s : ByteArray} {u : Value} (h : VR K ρ (.str s) u) : u = .string s := by cases h; rfl
theorem Xdt {u : Value} (h : VR K ρ .nilp u) : u = .pointer none := by cases h; rfl
theorem Xl0 {u : Value} (h : VR K ρ .nilif u) : u = .nilIface := by cases h; rfl
theorem Xh5 {id e j : Nat} {u : Value} (h : VR K ρ (.ptr id e j) u) : ∃ l, ρ id = some l ∧ u = .pointer (some ⟨l.block, l.base + e * l.sz + j, none⟩) := by cases h with | ptr h => exact ⟨_, h, rfl⟩
theorem Xh4 {id off len : Nat} {u : Value} (h : VR K ρ (.row id off len) u) : ∃ l A c, ρ id = some l ∧ len ≤ c ∧ (c = 0 ∨ (A = some ⟨l.block, l.base + off * l.sz, none⟩ ∧ l.base + (off + c) * l.sz ≤ l.tot)) ∧ u = .slice A len c := by
 cases h with | row h h1 h2 => exact ⟨_, _, _, h, h1, h2, rfl⟩
theorem Xa2 {cs : List AV} {u : Value} (h : VR K ρ (.agg cs) u) : ∃ cs', u = .agg cs' ∧ VRs K ρ cs cs' ∧ ∀ x ∈ cs', one x = true := by
 cases h with | agg h1 h2 h3 => exact ⟨_, rfl, ⟨h1, h3⟩, h2⟩
theorem inv_tup {cs : List AV} {u : Value} (h : VR K ρ (.tup cs) u) : ∃ cs', u = .tuple cs' ∧ VRs K ρ cs cs' := by
 cases h with | tup h1 h2 => exact ⟨_, rfl, ⟨h1, h2⟩⟩
theorem inv_fn {f : Fn} {x y : List AV} {u : Value} (h : VR K ρ (.fn f x y) u) : ∃ x' y', u = .func f x' y' ∧ VRs K ρ x x' ∧ VRs K ρ y y' := by
 cases h with | fn h1 h2 h3 h4 => exact ⟨_, _, rfl, ⟨h1, h3⟩, ⟨h2, h4⟩⟩
theorem Xev {t : TypeId} {v : AV} {u : Value} (h : VR K ρ (.iface t v) u) : ∃ u', u = .iface t u' ∧ VR K ρ v u' := by
 cases h with | iface h => exact ⟨_, rfl, h⟩

theorem good_pick (hR : Rel G K ρ H w) {ta : ATm} (hA : AR K ρ ta a) {c x y : Operand} {c' x' y' : AX} (hc : compX c = some c') (hx : compX x = some x') (hy : compX y = some y') (ho : o.op = .pick c x y) :
  Good P o a w G K ρ H (evO ta H (.pick c' x' y')) := by
 have vc := Xp hA hc
 have vx := Xp hA hx
 have vy := Xp hA hy
 simp only [evO]
 split
 ·
  rename_i b hcv
  rw [hcv] at vc
  have hrun : (execOp a.eval o).run P w = .ok (.value (if b = true then a.eval x else a.eval y)) w := by simp [execOp, ho, QW vc, asBool]
  unfold pickA
  split
  ·
   rename_i hxv hyv
   rw [hxv] at vx
   rw [hyv] at vy
   refine Good.val hR hrun ?_
   rw [QW vx, QW vy]
   cases b <;> exact .bool
  ·
   cases b
   ·
    exact Good.val hR hrun (by simpa using vy)
   ·
    exact Good.val hR hrun (by simpa using vx)
 ·
  exact trivial

theorem Xcf {v : AV} {u : Value} (h : VR K ρ v u) {cs : List AV} (hc : cellsOf v = some cs) : VRs K ρ cs u.cells ∧ ∀ x ∈ u.cells, one x = true := by
 have single : ∀ {v : AV} {u : Value}, VR K ρ v u → u.cells = #[u] → one u = true → VRs K ρ [v] u.cells ∧ ∀ x ∈ u.cells, one x = true := by
  intro v u h h1 h2
  rw [h1]
  exact ⟨VRs.single.2 h, by simpa using h2⟩
 cases h <;> simp only [cellsOf, Option.some.injEq, reduceCtorEq] at hc <;> try subst hc
 case bool => exact single .bool rfl rfl
 case anyb => exact single .anyb rfl rfl
 case int => exact single .int rfl rfl
 case str => exact single .str rfl rfl
 case nilp => exact single .nilp rfl rfl
 case nilfn => exact single .nilfn rfl rfl
 case nilif => exact single .nilif rfl rfl
 case nilmap => exact single .nilmap rfl rfl
 case map h => exact single (.map h) rfl rfl
 case ptr h => exact single (.ptr h) rfl rfl
 case row => exact single (.row ‹_› ‹_› ‹_›) rfl rfl
 case vec a sz g h1 h2 h3 h4 h5 h6 h7 => exact single (.vec a sz g h1 h2 h3 h4 h5 h6 h7) rfl rfl
 case vptr a g h1 h2 h3 => exact single (.vptr a g h1 h2 h3) rfl rfl
 case fn h1 h2 h3 h4 => exact single (.fn h1 h2 h3 h4) rfl rfl
 case iface h => exact single (.iface h) rfl rfl
 case agg h1 h2 h3 => exact ⟨⟨h1, h3⟩, h2⟩

theorem new_box (hR : Rel G K ρ H w) (t : TypeId) (cs : List AV) (us : Array Value) (hV : VRs K ρ cs us) (ho : ∀ x ∈ us, one x = true) :
  ∃ ρ', VR K ρ' (.ptr H.length 0 0) (.pointer (some ⟨w.heap.size, 0, none⟩)) ∧ Next G H.length K ρ K ρ' (H ++ [.box cs t]) { w with heap := w.heap.push (.cells us t (0, 0)) } := by
 let l : Loc := ⟨w.heap.size, 0, 0, us.size⟩
 have hle : RLe ρ (extρ ρ H.length l) := Xcq (hR.top _ (Nat.le_refl _))
 refine ⟨extρ ρ H.length l, ?_, hR.new (.cells us t (0, 0)) l (.box cs t) rfl rfl ?_⟩
 ·
  have := VR.ptr (K := K) (ρ := extρ ρ H.length l) (id := H.length) (l := l) (e := 0) (j := 0) QC
  simpa [l] using this
 ·
  refine ⟨us, by simp [l], hV.1.symm, rfl, ho, fun j v hv => ?_⟩
  have hj : j < us.size := by rw [← hV.1]; exact (List.getElem?_eq_some_iff.1 hv).1
  exact ⟨us[j], by simp [hj], (hV.2 j v _ hv (Array.getElem?_eq_getElem hj)).mono (KLe.refl _) hle⟩

theorem good_box (hR : Rel G K ρ H w) {ta : ATm} (hA : AR K ρ ta a) {x : Operand} {y : AX} {e : TypeId} (hx : compX x = some y) (ho : o.op = .box e x) : Good P o a w G K ρ H (evO ta H (.box y e)) := by
 have vx := Xp hA hx
 simp only [evO]
 split
 ·
  rename_i cs hcs
  obtain ⟨hV, h1⟩ := Xcf vx hcs
  obtain ⟨ρ', hv, hN⟩ := new_box hR e cs _ hV h1
  exact ⟨_, _, _, K, ρ', by simp [execOp, ho, Instr.box, newVar, newRow], .inl rfl, hv, hN⟩
 ·
  exact trivial

theorem JM {t : TypeId} {zs : List AV} (h : zeroT P t = some zs) : ∃ i z, P.info? t = some i ∧ i.zero = some z ∧ absL z.cells.toList = some zs := by
  unfold zeroT at h
  split at h
  · split at h
    · exact ⟨_, _, ‹_›, ‹_›, h⟩
    · cases h
  · cases h
theorem Xci {t : TypeId} {i : TypeInfo} {z : Value} (h : P.info? t = some i) (hz : i.zero = some z) (w : World) : (zeroValue t).run P w = .ok z w := by simp [zeroValue, typeInfo, h, hz]

theorem good_new (hR : Rel G K ρ H w) {ta : ATm} {e : TypeId} {zs : List AV} (hz : zeroT P e = some zs) (ho : o.op = .alloc e) : Good P o a w G K ρ H (evO ta H (.new zs e)) := by
 obtain ⟨i, z, h1, h2, h3⟩ := JM hz
 obtain ⟨hV, hone, _⟩ := Xbs (K := K) (ρ := ρ) _ _ h3
 obtain ⟨ρ', hv, hN⟩ := new_box hR e zs z.cells (by simpa using hV) (by simpa using hone)
 simp only [evO]
 exact ⟨_, _, _, K, ρ', by simp [execOp, ho, Instr.alloc, Xci h1 h2, newVar, newRow], .inl rfl, hv, hN⟩

theorem Xl3 (hR : Rel G K ρ H w) {ta : ATm} (hA : AR K ρ ta a) {x : Operand} {y : AX} {t : TypeId} {n : Nat} {agg : Bool} (hx : compX x = some y) (hn : sizeT P t = some n) (ha : Qi P t = some agg) (h1 : agg = false → n = 1) (ho : o.op = .load t x) :
  Good P o a w G K ρ H (evO ta H (.load n agg y)) := by
 have vx := Xp hA hx
 simp only [evO]
 split
 ·
  rename_i cs hcs
  obtain ⟨ad, u, hu, hrun, hv⟩ := Xks (P := P) hR vx hn ha h1 hcs
  exact Good.val hR (u := u) (by simp [execOp, ho, Instr.loadAt, hu, Instr.sureAddr, hrun]) hv
 ·
  exact trivial

theorem good_fld (hR : Rel G K ρ H w) {ta : ATm} (hA : AR K ρ ta a) {x : Operand} {y : AX} {t : TypeId} {i n : Nat} {fs : Array Field} {f : Field} (hx : compX x = some y) (hu : P.underlying t = some (.struct fs)) (hf : fs[i]? = some f) (hn : sizeT P f.type = some (n + 1))
  (ho : o.op = .fieldAddr t x i) : Good P o a w G K ρ H (evO ta H (.fld f.offset y)) := by
 have vx := Xp hA hx
 have key : ∀ ad : Addr, a.eval x = .pointer (some ad) → (execOp a.eval o).run P w = .ok (.value (.pointer (some (ad.add f.offset)))) w := by
  intro ad h
  simp [execOp, ho, h, Instr.fieldAt, Xc hu, hf, Instr.sureAddr, fieldPlace, run_sizeOf hn]
 simp only [evO]
 split
 ·
  rename_i id e j he
  rw [he] at vx
  obtain ⟨l, hl, h⟩ := Xh5 vx
  refine Good.val hR (key _ h) ?_
  rw [ZU]
  have := VR.ptr (K := K) (e := e) (j := j + f.offset) hl
  rwa [← Nat.add_assoc] at this
 ·
  rename_i el j he
  rw [he] at vx
  generalize hq : a.eval x = q at vx
  cases vx with
  | vptr ad g h1 h2 h3 =>
   refine Good.val hR (key _ hq) ?_
   have hs : (ad.add j).add f.offset = ad.add (j + f.offset) := by
    by_cases hj : j = 0
    ·
     subst hj; simp [Addr.add]
    ·
     unfold Addr.add; simp [hj]; split <;> simp_all <;> omega
   rw [hs]
   exact .vptr ad g h1 h2 h3
 ·
  exact trivial
end
end Go.Proofs.Ytcbhlpbkampfeaa.AI
