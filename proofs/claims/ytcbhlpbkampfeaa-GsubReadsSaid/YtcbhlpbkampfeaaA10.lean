import Derived.Test.YtcbhlpbkampfeaaA9
/- Part of a proof. -/
set_option linter.unusedVariables false
set_option linter.unusedSimpArgs false
namespace Go.Proofs.Ytcbhlpbkampfeaa.AI

section
variable {P : Program} {o : Oper} {a : Act} {w : World} {G : Gh} {K : (Nat → Option Obj)} {ρ : (Nat → Option Loc)} {H : List AObj}

theorem Xo2 (hR : Rel G K ρ H w) {ta : ATm} (hA : AR K ρ ta a) {op : BinOp} {xt yt : TypeId} {x y : Operand} {x' y' : AX} (hx : compX x = some x') (hy : compX y = some y') (ho : o.op = .binOp op xt x y yt) : Good P o a w G K ρ H (evO ta H (.bin op x' y')) := by
  have vx := Xp hA hx
  have vy := Xp hA hy
  simp only [evO]
  cases hb : binA op (x'.ev ta) (y'.ev ta) with
  | none => exact trivial
  | some r =>
    simp only [orBad]
    unfold binA at hb
    split at hb
    · rename_i d n d' m hxe hye
      rw [hxe] at vx
      rw [hye] at vy
      have e1 := Zm vx
      have e2 := Zm vy
      have hg : (eqGuard op xt x y (.int d n) (.int d' m)).run P w = .ok () w := by
        unfold eqGuard
        cases op <;> rfl
      split at hb
      · split at hb
        · rename_i h0
          cases hb
          refine Good.val hR ?_ .int
          simp [execOp, ho, e1, e2, hg, binOp, Op.shift, show ¬ m < 0 by omega]
        · cases hb
      · split at hb
        · rename_i h0
          cases hb
          refine Good.val hR ?_ .int
          simp [execOp, ho, e1, e2, hg, binOp, Op.shift, show ¬ m < 0 by omega]
        · cases hb
      · split at hb
        · rename_i hs1 hs2 hd
          subst hd
          have he1 : (n == m) = decide (n = m) := by rw [Bool.eq_iff_iff]; simp
          have he2 : (n != m) = decide (n ≠ m) := by rw [Bool.eq_iff_iff]; simp
          cases op <;> simp only [binI, Option.some.injEq, reduceCtorEq] at hb <;> try exact absurd rfl hs1 <;> try exact absurd rfl hs2
          all_goals first
            | (subst hb; refine Good.val hR (u := .int _ _) ?_ .int; simp [execOp, ho, e1, e2, hg, binOp, Op.intArith]; done)
            | (subst hb; refine Good.val hR (u := .int _ _) ?_ .int; simp [execOp, ho, e1, e2, hg, binOp, Op.intBits, andInt, orInt, xorInt, Xmq]; done)
            | (subst hb; refine Good.val hR (u := .bool _) ?_ .bool; simp [execOp, ho, e1, e2, hg, binOp, Op.intCmp]; done)
            | (subst hb; refine Good.val hR (u := .bool _) ?_ .bool; simp only [execOp, ho, e1, e2, Sem.run_bind, hg, Result.andThen_ok, binOp, ne_eq, not_true_eq_false, if_false, Op.intCmp, Sem.run_pure, he1, he2]; done)
            | (split at hb; · cases hb
               · cases hb; refine Good.val hR (u := .int _ _) ?_ .int; simp [execOp, ho, e1, e2, hg, binOp, Op.intDiv, *])
        · cases hb
    · rename_i s s' hxe hye
      rw [hxe] at vx
      rw [hye] at vy
      have e1 := Xh3 vx
      have e2 := Xh3 vy
      have hg : (eqGuard op xt x y (.string s) (.string s')).run P w = .ok () w := by
        unfold eqGuard
        cases op <;> rfl
      split at hb
      · cases hb; refine Good.val hR (u := .bool _) ?_ .bool; simp [execOp, ho, e1, e2, hg, binOp, Op.stringOp]
      · cases hb; refine Good.val hR (u := .bool _) ?_ .bool; simp [execOp, ho, e1, e2, hg, binOp, Op.stringOp]
      · cases hb
    · cases hb

theorem good_un (hR : Rel G K ρ H w) {ta : ATm} (hA : AR K ρ ta a) {op : UnOp} {t : TypeId} {x : Operand} {x' : AX} (hx : compX x = some x') (ho : o.op = .unOp op t x) : Good P o a w G K ρ H (evO ta H (.un op x')) := by
 have vx := Xp hA hx
 simp only [evO]
 split
 ·
  rename_i b hxe
  rw [hxe] at vx
  refine Good.val hR (u := .bool (!b)) ?_ .bool
  simp [execOp, ho, QW vx, Op.unary]
 ·
  rename_i d n hxe
  rw [hxe] at vx
  refine Good.val hR (u := .int _ _) ?_ .int
  simp [execOp, ho, Zm vx, Op.unary, Op.intArith]
 ·
  exact trivial

theorem good_conv (hR : Rel G K ρ H w) {ta : ATm} (hA : AR K ρ ta a) {s d : TypeId} {k k' : IntKind} {x : Operand} {x' : AX} (hx : compX x = some x') (hs : P.underlying s = some (.int k')) (hd : P.underlying d = some (.int k)) (ho : o.op = .convert s d x) : Good P o a w G K ρ H (evO ta H (.conv k x')) := by
 have vx := Xp hA hx
 simp only [evO]
 split
 ·
  rename_i d n hxe
  rw [hxe] at vx
  refine Good.val hR (u := .int _ _) ?_ .int
  simp [execOp, ho, Zm vx, convert, Xc hs, Xc hd, Conv.intToInt]
 ·
  exact trivial

theorem good_mkif (hR : Rel G K ρ H w) {ta : ATm} (hA : AR K ρ ta a) {t : TypeId} {d : TypeDesc} {x : Operand} {x' : AX} (hx : compX x = some x') (hd : P.underlying t = some d) (hi : ∀ ms, d ≠ .interface ms) (ho : o.op = .makeInterface t x) : Good P o a w G K ρ H (evO ta H (.mkif t x')) := by
 refine Good.val hR (u := .iface t (a.eval x)) ?_ (.iface (Xp hA hx))
 simp only [execOp, ho, Instr.makeInterface, Sem.run_bind, Xc hd, Result.andThen_ok]
 cases d <;> first | rfl | exact absurd rfl (hi _)

theorem good_mkfn (hR : Rel G K ρ H w) {ta : ATm} (hA : AR K ρ ta a) {f : Fn} {xs ys : Array Operand} {xs' ys' : List AX} (hx : QD xs.toList = some xs') (hy : QD ys.toList = some ys') (ho : o.op = .makeFunc f xs ys) : Good P o a w G K ρ H (evO ta H (.mkfn f xs' ys')) := by
 have v1 := Xaf hA hx
 have v2 := Xaf hA hy
 have e1 : (xs.toList.map a.eval).toArray = xs.map a.eval := Array.ext' (by simp)
 have e2 : (ys.toList.map a.eval).toArray = ys.map a.eval := Array.ext' (by simp)
 rw [e1] at v1
 rw [e2] at v2
 refine Good.val hR (u := .func f (xs.map a.eval) (ys.map a.eval)) ?_ (.fn v1.1 v2.1 (fun i v u hv hu => v1.2 i v u hv hu) (fun i v u hv hu => v2.2 i v u hv hu))
 simp [execOp, ho, Instr.makeFunc]

theorem good_ext (hR : Rel G K ρ H w) {ta : ATm} (hA : AR K ρ ta a) {i : Nat} {x : Operand} {x' : AX} (hx : compX x = some x') (ho : o.op = .extract x i) : Good P o a w G K ρ H (evO ta H (.ext i x')) := by
 have vx := Xp hA hx
 simp only [evO]
 split
 case h_2 => exact trivial
 rename_i vs hxe
 rw [hxe] at vx
 split
 case h_2 => exact trivial
 rename_i v hv
 obtain ⟨us, hu, hV⟩ := inv_tup vx
 have hlt : i < us.size := by rw [← hV.1]; exact (List.getElem?_eq_some_iff.1 hv).1
 refine Good.val hR (u := us[i]) ?_ (hV.2 i v _ hv (Array.getElem?_eq_getElem hlt))
 simp [execOp, ho, hu, Instr.extract, hlt]

theorem good_pan (hR : Rel G K ρ H w) {ta : ATm} (hA : AR K ρ ta a) {x : Operand} {x' : AX} (hx : compX x = some x') (ho : o.op = .panic x) : Good P o a w G K ρ H (evO ta H (.pan x')) := by
 have vx := Xp hA hx
 simp only [evO]
 split
 case h_2 => exact trivial
 rename_i t v hxe
 rw [hxe] at vx
 obtain ⟨u, hu, hv⟩ := Xev vx
 exact ⟨_, by simp [execOp, ho, hu, Instr.panic], .iface hv⟩

theorem good_nchk (hR : Rel G K ρ H w) {ta : ATm} (hA : AR K ρ ta a) {x : Operand} {x' : AX} (hx : compX x = some x') (ho : o.op = .nilCheck x) : Good P o a w G K ρ H (evO ta H (.nchk x')) := by
 have vx := Xp hA hx
 simp only [evO]
 split
 ·
  rename_i id e j hxe
  rw [hxe] at vx
  obtain ⟨l, hl, hu⟩ := Xh5 vx
  refine Good.val hR ?_ vx
  simp [execOp, ho, hu]
 ·
  rename_i el j hxe
  rw [hxe] at vx
  generalize hq : a.eval x = q at vx
  have vx' := vx
  cases vx with
  | vptr ad g h1 h2 h3 =>
   refine Good.val hR ?_ vx'
   simp [execOp, ho, hq]
 ·
  rename_i t v hxe
  rw [hxe] at vx
  obtain ⟨u, hu, hv⟩ := Xev vx
  refine Good.val hR ?_ vx
  simp [execOp, ho, hu]
 ·
  rename_i f xs ys hxe
  rw [hxe] at vx
  obtain ⟨x1, y1, hu, _⟩ := inv_fn vx
  refine Good.val hR ?_ vx
  simp [execOp, ho, hu]
 ·
  exact trivial

theorem Xf2 {f : FuncId} {us : Array Value} (h : OkF P f) : (callFunc f us).run P w = .ok (.enter f us) w := by
 obtain ⟨fn, h1, h2, h3⟩ := h
 simp only [callFunc, Sem.run_bind, run_program, Result.andThen_ok, h1, h2, h3, Bool.false_eq_true, if_false, Sem.run_pure]

theorem good_call (hR : Rel G K ρ H w) {ta : ATm} (hA : AR K ρ ta a) {c : Call} {f : FuncId} {xs : List AX} (hx : QD c.args.toList = some xs) (hc : c.callee = .value (.func f)) (ho : o.op = .call c) : Good P o a w G K ρ H (evO ta H (.call f xs)) := by
 have v1 := Xaf hA hx
 have e1 : (c.args.toList.map a.eval).toArray = c.args.map a.eval := Array.ext' (by simp)
 rw [e1] at v1
 refine ⟨c.args.map a.eval, v1, fun h => ?_⟩
 simp [execOp, ho, resolve, hc, Act.eval, Deferred.ofValue, invoke, Xf2 h]

theorem VRs.append {xs ys : List AV} {us vs : Array Value} (h : VRs K ρ xs us) (h' : VRs K ρ ys vs) : VRs K ρ (xs ++ ys) (us ++ vs) := by
 refine ⟨by simp [h.1, h'.1], fun i v u hv hu => ?_⟩
 rcases Nat.lt_or_ge i xs.length with hi | hi
 ·
  rw [List.getElem?_append_left hi] at hv
  rw [Array.getElem?_append_left (by rw [← h.1]; exact hi)] at hu
  exact h.2 i v u hv hu
 ·
  rw [List.getElem?_append_right hi] at hv
  rw [Array.getElem?_append_right (by rw [← h.1]; exact hi), ← h.1] at hu
  exact h'.2 _ v u hv hu

theorem Xqc (hR : Rel G K ρ H w) {ta : ATm} (hA : AR K ρ ta a) {c : Call} {t : Nat} {xs : List AX} (hx : QD c.args.toList = some xs) (hc : c.callee = .value (.tmp t)) (ho : o.op = .call c) : Good P o a w G K ρ H (evO ta H (.callv (.t t) xs)) := by
 have v1 := Xaf hA hx
 have e1 : (c.args.toList.map a.eval).toArray = c.args.map a.eval := Array.ext' (by simp)
 rw [e1] at v1
 have vx : VR K ρ ((AX.t t).ev ta) (a.eval (.tmp t)) := hA.tmps t
 simp only [evO]
 split
 case h_2 => exact trivial
 rename_i f x y hxe
 rw [hxe] at vx
 obtain ⟨x1, y1, hu, hV1, hV2⟩ := inv_fn vx
 refine ⟨x1 ++ c.args.map a.eval ++ y1, (hV1.append v1).append hV2, fun h => ?_⟩
 have hu' : a.tmps.getD t undef = .func (.func f) x1 y1 := hu
 simp [execOp, ho, resolve, hc, Act.eval, hu', Deferred.ofValue, invoke, Xf2 h]

theorem Xox (hR : Rel G K ρ H w) {ta : ATm} (hA : AR K ρ ta a) {c : Call} {x : Operand} {x' : AX} {t : TypeId} {d : TypeDesc} {str : Bool} (hx : compX x = some x') (hc : c.callee = .builtin .len) (hargs : c.args.toList = [x]) (h0 : c.argTypes[0]? = some t) (hd : P.underlying t = some d) (hk : (str = true ∧ d = .string) ∨ (str = false ∧ ∃ e, d = .slice e)) (ho : o.op = .call c) :
  Good P o a w G K ρ H (evO ta H (.len str x')) := by
 have vx := Xp hA hx
 have hca : c.args = #[x] := by rw [← Array.toArray_toList (xs := c.args), hargs]
 have key : ∀ r, (Builtin.len_ c.argTypes o.type #[a.eval x]).run P w = .ok r w → (execOp a.eval o).run P w = .ok (.value r) w := by
  intro r h
  simp [execOp, ho, resolve, hc, hca, invoke, builtin, h]
 simp only [evO]
 split
 ·
  rename_i cap es hxe
  rw [hxe] at vx
  obtain ⟨e, rfl⟩ := (hk.resolve_left (by simp)).2
  generalize hq : a.eval x = q at vx key
  cases vx with
  | vec ad sz g h1 h2 h3 h4 h5 h6 h7 =>
   refine Good.val hR (u := .int .i64 es.length) (key _ ?_) .int
   simp [Builtin.len_, h0, Xc hd, goInt]
 ·
  rename_i id off len hxe
  rw [hxe] at vx
  obtain ⟨e, rfl⟩ := (hk.resolve_left (by simp)).2
  obtain ⟨l, A, c, _, _, _, hu⟩ := Xh4 vx
  refine Good.val hR (u := .int .i64 len) (key _ ?_) .int
  simp [hu, Builtin.len_, h0, Xc hd, goInt]
 ·
  rename_i s hxe
  rw [hxe] at vx
  obtain ⟨_, rfl⟩ := hk.resolve_right (by simp)
  refine Good.val hR (u := .int .i64 s.size) (key _ ?_) .int
  simp [Xh3 vx, Builtin.len_, h0, Xc hd, goInt]
 ·
  exact trivial

theorem Xic (hR : Rel G K ρ H w) {ta : ATm} (hA : AR K ρ ta a) {c : Call} {x y : Operand} {x' y' : AX} {mx : Bool} (hx : compX x = some x') (hy : compX y = some y') (hc : c.callee = .builtin (if mx = true then .max else .min)) (hargs : c.args.toList = [x, y]) (ho : o.op = .call c) :
  Good P o a w G K ρ H (evO ta H (.minmax mx x' y')) := by
 have vx := Xp hA hx
 have vy := Xp hA hy
 have hca : c.args = #[x, y] := by rw [← Array.toArray_toList (xs := c.args), hargs]
 simp only [evO]
 split
 case h_2 => exact trivial
 rename_i d n d' m hxe hye
 rw [hxe] at vx
 rw [hye] at vy
 split
 case isFalse => exact trivial
 rename_i hd
 subst hd
 refine Good.val hR (u := .int d (if mx = true then max n m else min n m)) ?_ .int
 cases mx
 ·
  simp [execOp, ho, resolve, hc, hca, invoke, builtin, Zm vx, Zm vy, Builtin.min_, Builtin.min2]
  omega
 ·
  simp [execOp, ho, resolve, hc, hca, invoke, builtin, Zm vx, Zm vy, Builtin.max_, Builtin.max2]
  omega
end
end Go.Proofs.Ytcbhlpbkampfeaa.AI
