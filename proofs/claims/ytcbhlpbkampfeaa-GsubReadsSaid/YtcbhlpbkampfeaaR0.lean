import Derived.Test.YtcbhlpbkampfeaaA14
import Derived.Recover
/- Part of a proof. -/
set_option linter.unusedVariables false
set_option linter.unusedSimpArgs false
namespace Go.Proofs.Ytcbhlpbkampfeaa.AI

theorem M_dfr {P : Program} {n0 : Nat} {Q : AExit → ATm → List AObj → Prop} {k : List AItem} {n : Nat} {l : List (Nat × AV)} {ds : List (Fn × List AV × List AV)} {H : List AObj} {d : Nat} {g : FuncId} {xs : List AX} :
  M P n0 Q (.code (.dfr d g xs) :: k) ⟨n, l, ds⟩ H = (d < n ∧ M P n0 Q k ⟨n, (d, .fn (.func g) [] (xs.map (AX.ev ⟨n, l, ds⟩))) :: l, (.func g, xs.map (AX.ev ⟨n, l, ds⟩), []) :: ds⟩ H) := by rw [M]

def rcvOf (c : Code) : Option (Nat × Nat × Code) := match c with
 | .seq (.region _ ops false) rest => match ops.toList with
  | [⟨some t, .call ⟨.builtin .recover, args, _⟩, _, _, _, none⟩, ⟨some u, .assign (.tmp t'), _, _, _, none⟩] => if t = t' ∧ args.toList.length = 0 then some (t, u, rest) else none
  | _ => none
 | _ => none
def RcvOk (P : Program) (x : Nat × Nat × Nat × ACode × Nat) : Prop := ∃ fn, P.funcs[x.1]? = some fn ∧ (fn.name == "runtime.NumGoroutine") = false ∧
 (fn.body.bind rcvOf).bind (fun y => (comp P y.2.2).map fun a => (y.1, y.2.1, a)) = some (x.2.1, x.2.2.1, x.2.2.2.1) ∧ fn.ntmps = x.2.2.2.2 ∧ fn.results.toList.length = 0 ∧ x.2.1 < x.2.2.2.2 ∧ x.2.2.1 < x.2.2.2.2

theorem rcvOf_inv {c : Code} {t u : Nat} {rest : Code} (h : rcvOf c = some (t, u, rest)) : ∃ (id : Nat) (at1 : Array TypeId) (t1 t2 : TypeId) (p1 p2 : String) (f1 f2 : Array Edge),
  c = .seq (.region id #[⟨some t, .call ⟨.builtin .recover, #[], at1⟩, t1, p1, f1, none⟩, ⟨some u, .assign (.tmp t), t2, p2, f2, none⟩] false) rest := by
 unfold rcvOf at h
 split at h
 ·
  rename_i id ops rest'
  split at h
  ·
   rename_i t0 args at1 t1 p1 f1 u0 t' t2 p2 f2 hl
   split at h
   ·
    rename_i hc
    obtain ⟨rfl, h1⟩ := hc
    simp only [Option.some.injEq, Prod.mk.injEq] at h
    obtain ⟨rfl, rfl, rfl⟩ := h
    have e1 : args = #[] := Array.ext' (List.eq_nil_of_length_eq_zero h1)
    subst e1
    refine ⟨id, at1, t1, t2, p1, p2, f1, f2, ?_⟩
    rw [show ops = #[_, _] from Array.ext' hl]
   ·
    cases h
  ·
   cases h
 ·
  cases h

def Rec (u0 : FrameMode) (rv : Value) (u1 : FrameMode) : Prop := (u0 = .returning ∧ rv = .nilIface ∧ u1 = .returning) ∨ (∃ x, u0 = .panicking [{ v := x, recovered := false }] ∧ rv = x ∧ u1 = .panicking [{ v := x, recovered := true }])
theorem Rec.settle {u0 : FrameMode} {rv : Value} {u1 : FrameMode} (h : Rec u0 rv u1) : settle u1 = .returning := by
 rcases h with ⟨_, _, rfl⟩ | ⟨x, _, _, rfl⟩ <;> rfl
theorem Rec.ne {u0 : FrameMode} {rv : Value} {u1 : FrameMode} (h : Rec u0 rv u1) : u0 ≠ .run := by
 rcases h with ⟨rfl, _, _⟩ | ⟨x, rfl, _, _⟩ <;> simp

theorem Xqo {P : Program} {g : FuncId} {fn : Func} {c rest : Code} {t u : Nat} (hf : P.funcs[g]? = some fn) (hb : fn.body = some c) (hc : rcvOf c = some (t, u, rest)) (hres : fn.results.toList.length = 0) {us : Array Value} {u0 u1 : FrameMode} {rv : Value} (hu : Rec u0 rv u1)
  {w : World} {R : World → Prop} (ht : t < (us ++ Array.replicate (fn.ntmps - us.size) undef).size)
  (h : rest.wp P (fun e a' w' => (e = .normal ∨ e = .ret) ∧ a'.defers = [] ∧ R w') (({ tmps := us ++ Array.replicate (fn.ntmps - us.size) undef, defers := [] } : Act).put (some t) rv |>.put (some u) rv) w) :
  CallsD P g us u0 w (fun e u' w' => (∃ v, e = .returned v) ∧ u' = u1 ∧ R w') := by
 obtain ⟨id, at1, t1, t2, p1, p2, f1, f2, rfl⟩ := rcvOf_inv hc
 refine callsD_of_wpS hf hb fun c₀ cs hm => wpS_seq (wpS_region ?_)
 show wpOpsS P _ _ [0, 1] _ _ w
 have w1 : ∀ (o : Oper) (y : Nat → Option Bool), o.guard = none → Region.wanted o y = true := fun o y h => by simp [Region.wanted, h]
 have e0 : ∀ f : Operand → Value, Array.map f #[] = #[] := fun f => by simp
 have hres' : fn.results = #[] := Array.ext' (List.eq_nil_of_length_eq_zero hres)
 have fin : ∀ (cs' : List Frame), cs' = { c₀ with mode := u1 } :: cs → rest.wpS P (bodyPostS P fn c₀ cs (fun e u' w' => (∃ v, e = .returned v) ∧ u' = u1 ∧ R w')) (({ tmps := us ++ Array.replicate (fn.ntmps - us.size) undef, defers := [] } : Act).put (some t) rv |>.put (some u) rv) cs' w := by
  intro cs' hcs
  refine wpS_of_wp (wp_mono h ?_)
  rintro e a' w' ⟨he, hd, hR⟩
  have : a'.defers = [] ∧ ∃ u', cs' = { c₀ with mode := u' } :: cs ∧ ∃ v, (results fn a'.tmps).run P w' = .ok v w' ∧ ((∃ v', Ending.returned v = .returned v') ∧ u' = u1 ∧ R w') := ⟨hd, u1, hcs, .tuple #[], by simp [results, hres'], ⟨_, rfl⟩, rfl, hR⟩
  rcases he with rfl | rfl
  ·
   exact this
  ·
   exact this
 have hev : ∀ (x : Value), (({ tmps := us ++ Array.replicate (fn.ntmps - us.size) undef, defers := [] } : Act).put (some t) x).eval (.tmp t) = x := by
  intro x
  simp only [Act.eval, Act.put, Array.getD_eq_getD_getElem?]
  rw [Array.getElem?_setIfInBounds_self_of_lt ht]
  rfl
 simp only [wpOpsS, List.getElem?_toArray, List.getElem?_cons_zero, List.getElem?_cons_succ]
 rw [if_pos (w1 _ _ rfl)]
 have r1 : ∀ (a : Act), (execOp a.eval ⟨some t, .call ⟨.builtin .recover, #[], at1⟩, t1, p1, f1, none⟩).run P w = .ok .recover w := by
  intro a
  simp [execOp, resolve, invoke, builtin]
 simp only [r1]
 have step2 : ∀ (x : Value) (cs' : List Frame), x = rv → cs' = { c₀ with mode := u1 } :: cs → (if Region.wanted ⟨some u, .assign (.tmp t), t2, p2, f2, none⟩ (yielded #[⟨some t, .call ⟨.builtin .recover, #[], at1⟩, t1, p1, f1, none⟩, ⟨some u, .assign (.tmp t), t2, p2, f2, none⟩] (({ tmps := us ++ Array.replicate (fn.ntmps - us.size) undef, defers := [] } : Act).put (some t) x).tmps) = true then
   (match (execOp (({ tmps := us ++ Array.replicate (fn.ntmps - us.size) undef, defers := [] } : Act).put (some t) x).eval ⟨some u, .assign (.tmp t), t2, p2, f2, none⟩).run P w with
    | .ok .recover w' => match recoverD cs' with
     | some (v, cs'') => Exit.thenS (rest.wpS P (bodyPostS P fn c₀ cs (fun e u' w' => (∃ v, e = .returned v) ∧ u' = u1 ∧ R w'))) (bodyPostS P fn c₀ cs (fun e u' w' => (∃ v, e = .returned v) ∧ u' = u1 ∧ R w')) .normal ((({ tmps := us ++ Array.replicate (fn.ntmps - us.size) undef, defers := [] } : Act).put (some t) x).put (some u) v) cs'' w'
     | none => Exit.thenS (rest.wpS P (bodyPostS P fn c₀ cs (fun e u' w' => (∃ v, e = .returned v) ∧ u' = u1 ∧ R w'))) (bodyPostS P fn c₀ cs (fun e u' w' => (∃ v, e = .returned v) ∧ u' = u1 ∧ R w')) .normal ((({ tmps := us ++ Array.replicate (fn.ntmps - us.size) undef, defers := [] } : Act).put (some t) x).put (some u) .nilIface) cs' w'
    | r => Oper.upon P ⟨some u, .assign (.tmp t), t2, p2, f2, none⟩ (({ tmps := us ++ Array.replicate (fn.ntmps - us.size) undef, defers := [] } : Act).put (some t) x) (fun a' w' => Exit.thenS (rest.wpS P (bodyPostS P fn c₀ cs (fun e u' w' => (∃ v, e = .returned v) ∧ u' = u1 ∧ R w'))) (bodyPostS P fn c₀ cs (fun e u' w' => (∃ v, e = .returned v) ∧ u' = u1 ∧ R w')) .normal a' cs' w') (fun e a' w' => Exit.thenS (rest.wpS P (bodyPostS P fn c₀ cs (fun e u' w' => (∃ v, e = .returned v) ∧ u' = u1 ∧ R w'))) (bodyPostS P fn c₀ cs (fun e u' w' => (∃ v, e = .returned v) ∧ u' = u1 ∧ R w')) e a' cs' w') r)
   else Exit.thenS (rest.wpS P (bodyPostS P fn c₀ cs (fun e u' w' => (∃ v, e = .returned v) ∧ u' = u1 ∧ R w'))) (bodyPostS P fn c₀ cs (fun e u' w' => (∃ v, e = .returned v) ∧ u' = u1 ∧ R w')) .normal ((({ tmps := us ++ Array.replicate (fn.ntmps - us.size) undef, defers := [] } : Act).put (some t) x).put (some u) undef) cs' w) := by
  intro x cs' hx hcs
  rw [if_pos (w1 _ _ rfl)]
  simp only [execOp, hev, Sem.run_pure, Oper.upon]
  rw [hx]
  exact fin _ hcs
 rcases hu with ⟨h0, h1, h2⟩ | ⟨x, h0, h1, h2⟩
 ·
  have hr : recoverD (c₀ :: cs) = none := by simp [recoverD, hm, h0]
  rw [hr]
  exact step2 _ _ h1.symm (by rw [h2, ← h0, ← hm])
 ·
  have hr : recoverD (c₀ :: cs) = some (x, { c₀ with mode := .panicking [{ v := x, recovered := true }] } :: cs) := by simp [recoverD, hm, h0]
  rw [hr]
  exact step2 _ _ h1.symm (by rw [h2])

theorem AR.args {K : (Nat → Option Obj)} {ρ : (Nat → Option Loc)} {N : Nat} {args : List AV} {us : Array Value} (hV : VRs K ρ args us) (hn : args.length ≤ N) : AR K ρ ⟨N, argl 0 args, []⟩ { tmps := us ++ Array.replicate (N - us.size) undef, defers := [] } := by
 have hl := hV.1
 refine ⟨by simp; omega, fun t => ?_, trivial⟩
 simp only [ATm.get]
 rw [Xlv, if_pos (Nat.zero_le _), Nat.sub_zero, Array.getD_eq_getD_getElem?]
 by_cases ht : t < us.size
 ·
  rw [Array.getElem?_append_left ht, List.getElem?_eq_getElem (by omega), Array.getElem?_eq_getElem ht]
  exact hV.2 t _ _ (List.getElem?_eq_getElem (by omega)) (Array.getElem?_eq_getElem ht)
 ·
  rw [List.getElem?_eq_none (by omega)]
  exact .any

def endR (n0 : Nat) (rs : List RV) (Q : AEnd → List AObj → Prop) (ta : ATm) : AExit → ATm → List AObj → Prop
 | .normal, tc, H' | .ret, tc, H' => tc.ds = [] ∧ ∃ vs, resVs ta H' rs = some vs ∧ ∃ v1 H1, RefV n0 [asRes vs] H' [v1] H1 ∧ Q (.ret v1) H1
 | _, _, _ => False
def clo (P : Program) (n0 : Nat) (rs : List RV) (Q : AEnd → List AObj → Prop) (rv : AV) (ta : ATm) (H : List AObj) : Prop :=
 n0 ≤ H.length ∧ ∃ g caps t u ar Ng, ta.ds = [(.func g, caps, [])] ∧ RcvOk P (g, t, u, ar, Ng) ∧ caps.length ≤ Ng ∧ AW P H.length ar ⟨Ng, (u, rv) :: (t, rv) :: argl 0 caps, []⟩ H (endR n0 rs Q ta)
def bodyR (P : Program) (n0 : Nat) (rs : List RV) (Q : AEnd → List AObj → Prop) : AExit → ATm → List AObj → Prop
 | .normal, ta, H | .ret, ta, H => clo P n0 rs Q .nilif ta H
 | .pan v, ta, H => clo P n0 rs Q v ta H
 | _, _, _ => False

theorem DRs.one {K : (Nat → Option Obj)} {ρ : (Nat → Option Loc)} {d : Fn × List AV × List AV} {xs : List Deferred} (h : DRs K ρ [d] xs) : ∃ x, xs = [x] ∧ DR K ρ d x := by
 match xs, h with
 | [], h => exact h.elim
 | [x], h => exact ⟨x, rfl, h.1⟩
 | x :: y :: r, h => exact h.2.elim

theorem Xa.bodyR {P : Program} {f : FuncId} {fn : Func} (hf : P.funcs[f]? = some fn) (hname : (fn.name == "runtime.NumGoroutine") = false) {c : Code} (hb : fn.body = some c) {N : Nat} (hN : fn.ntmps = N) {rs : List RV} (hrs : Xj P fn.results.toList = some rs) {args : List AV} (hn : args.length ≤ N) {H : List AObj} {Q : AEnd → List AObj → Prop}
  (h : AWp P H.length c ⟨N, argl 0 args, []⟩ H (bodyR P H.length rs Q)) : Xa P f args H Q := by
 refine ⟨⟨fn, hf, hname, by rw [hb]; rfl⟩, ?_⟩
 intro G K ρ w us hR hV
 have hA := AR.args (N := N) hV hn
 rw [← hN] at hA h
 refine calls_of_wp_defers hf hb (wp_mono (h G K ρ w _ hR hA) ?_)
 rintro e a' w' ⟨K', ρ', ae, ta', H', hQ, hE, hA', hN'⟩
 have fin : ∀ (rv : AV) (rw0 : Value) (u0 u1 : FrameMode), Rec u0 rw0 u1 → VR K' ρ' rv rw0 → clo P H.length rs Q rv ta' H' → Leaves P fn a'.tmps (fun e w' => ∃ K' ρ' ae H', Q ae H' ∧ ER K' ρ' ae e ∧ Next G H.length K ρ K' ρ' H' w') a'.defers u0 w' := by
  rintro rv rw0 u0 u1 hrec hrv ⟨hle, g, caps, t, u, ar, Ng, hds, ⟨gn, g1, g2, g3, g4, g5, g6, g7⟩, hcl, haw⟩
  have hdef := hA'.defers
  rw [hds] at hdef
  obtain ⟨x, hx, ⟨cap, args', rfl, v1, v2⟩⟩ := hdef.one
  have ea : args' = #[] := Array.ext' (List.eq_nil_of_length_eq_zero (by have := v2.1; simp at this; simpa using this.symm))
  subst ea
  rw [hx]
  obtain ⟨y, hy, hz⟩ := Option.bind_eq_some_iff.1 g3
  obtain ⟨cg, hbg, hrg⟩ := Option.bind_eq_some_iff.1 hy
  obtain ⟨a0, hcomp, hyy⟩ := Option.map_eq_some_iff.1 hz
  obtain ⟨y1, y2, rest⟩ := y
  simp only [Prod.mk.injEq] at hyy g4 g6 g7 hcomp
  obtain ⟨rfl, rfl, rfl⟩ := hyy
  have g1' : P.funcs[g]? = some gn := g1
  have g2' : ¬ gn.name = "runtime.NumGoroutine" := by simpa using g2
  refine leaves_cons (f := g) (args := cap) hrec.ne (by simp [invoke, callFunc, g1', g2', hbg]) ?_
  have hAc : AR K' ρ' ⟨Ng, (y2, rv) :: (y1, rv) :: argl 0 caps, []⟩ ((({ tmps := cap ++ Array.replicate (gn.ntmps - cap.size) undef, defers := [] } : Act).put (some y1) rw0).put (some y2) rw0) := by
   rw [g4]
   exact ((AR.args v1 hcl).put (t := y1) g6 hrv).put (t := y2) g7 hrv
  have hsz : y1 < (cap ++ Array.replicate (gn.ntmps - cap.size) undef).size := by
   have := v1.1
   simp; omega
  refine (Xqo (R := fun w2 => ∃ v, (results fn a'.tmps).run P w2 = .ok v w2 ∧ ∃ K' ρ' ae H', Q ae H' ∧ ER K' ρ' ae (.returned v) ∧ Next G H.length K ρ K' ρ' H' w2) g1 hbg hrg g5 hrec hsz (wp_mono (haw (Nat.le_refl _) rest hcomp G K' ρ' w' _ hN'.rel hAc) ?_)).mono ?_
  ·
   rintro e2 a2 w2 ⟨K2, ρ2, ae2, tc, H2, hQ2, hE2, hA2, hN2⟩
   have fin2 : (tc.ds = [] ∧ ∃ vs, resVs ta' H2 rs = some vs ∧ ∃ v1 H1, RefV H.length [asRes vs] H2 [v1] H1 ∧ Q (.ret v1) H1) → a2.defers = [] ∧ ∃ v, (results fn a'.tmps).run P w2 = .ok v w2 ∧ ∃ K' ρ' ae H', Q ae H' ∧ ER K' ρ' ae (.returned v) ∧ Next G H.length K ρ K' ρ' H' w2 := by
    rintro ⟨hd, vs, hvs, v1, H1, href, hQ⟩
    have hA3 : AR K2 ρ2 ta' a' := hA'.mono hN2.keep (hN2.rle hN'.rel)
    obtain ⟨uu, hu, hvu⟩ := Xhf hN2.rel hA3 hrs hvs
    obtain ⟨K3, ρ3, hv3, hN3⟩ := href G K2 ρ2 w2 #[uu] hN2.rel (VRs.single.2 hvu)
    have hdef2 := hA2.defers
    rw [hd] at hdef2
    exact ⟨hdef2.nil, uu, hu, K3, ρ3, .ret v1, H1, hQ, VRs.single.1 hv3, (hN'.trans hN2 hle).trans hN3 (Nat.le_refl _)⟩
   cases ae2 with
   | normal => cases e2 <;> first | exact hE2.elim | exact ⟨.inl rfl, fin2 hQ2⟩
   | exit i => exact hQ2.elim
   | goto i => exact hQ2.elim
   | ret => cases e2 <;> first | exact hE2.elim | exact ⟨.inr rfl, fin2 hQ2⟩
   | pan v => exact hQ2.elim
  ·
   rintro e2 u2 w2 ⟨⟨v, rfl⟩, rfl, hR2⟩
   simp only
   rw [hrec.settle]
   exact hR2
 cases ae with
 | normal => cases e <;> first | exact hE.elim | exact fin _ _ _ _ (.inl ⟨rfl, rfl, rfl⟩) .nilif hQ
 | exit i => exact hQ.elim
 | goto i => exact hQ.elim
 | ret => cases e <;> first | exact hE.elim | exact fin _ _ _ _ (.inl ⟨rfl, rfl, rfl⟩) .nilif hQ
 | pan v =>
  cases e <;> try exact hE.elim
  obtain ⟨u, rfl, hu⟩ := hE
  exact fin _ _ _ _ (.inr ⟨_, rfl, rfl, rfl⟩) hu hQ

theorem Xa.goR {P : Program} {f : FuncId} {fn : Func} (hf : P.funcs[f]? = some fn) (hname : (fn.name == "runtime.NumGoroutine") = false) {ac : ACode} (hc : fn.body.bind (comp P) = some ac) {N : Nat} (hN : fn.ntmps = N) {rs : List RV} (hrs : Xj P fn.results.toList = some rs) {args : List AV} (hn : args.length ≤ N) {H : List AObj} {Q : AEnd → List AObj → Prop}
  (h : M P H.length (Go.Proofs.Ytcbhlpbkampfeaa.AI.bodyR P H.length rs Q) [.code ac] ⟨N, argl 0 args, []⟩ H) : Xa P f args H Q := by
 obtain ⟨c, h1, h2⟩ := Option.bind_eq_some_iff.1 hc
 exact Xa.bodyR hf hname h1 hN hrs hn (AW.of_M (fun l ta H h => h) h (Nat.le_refl _) c h2)
theorem clo.of_M {P : Program} {n0 : Nat} {rs : List RV} {Q : AEnd → List AObj → Prop} {rv : AV} {ta : ATm} {H : List AObj} {g : FuncId} {caps : List AV} {t u : Nat} {ar : ACode} {Ng : Nat} (hle : n0 ≤ H.length) (hds : ta.ds = [(.func g, caps, [])]) (hr : RcvOk P (g, t, u, ar, Ng)) (hcl : caps.length ≤ Ng)
  (h : M P H.length (endR n0 rs Q ta) [.code ar] ⟨Ng, (u, rv) :: (t, rv) :: argl 0 caps, []⟩ H) : clo P n0 rs Q rv ta H :=
 ⟨hle, g, caps, t, u, ar, Ng, hds, hr, hcl, AW.of_M (fun l ta H h => h) h⟩
theorem Rel.none {G : Gh} {K : (Nat → Option Obj)} {ρ : (Nat → Option Loc)} {H : List AObj} {w : World} (hR : Rel G K ρ H w) (n : Nat) : Rel G K (cutρ n ρ) (List.replicate n .dead) w := by
 have hget : ∀ (i : Nat) o, (List.replicate n AObj.dead)[i]? = some o → o = .dead := fun i o h => by
  rw [List.getElem?_replicate] at h
  split at h
  ·
   exact (Option.some.inj h).symm
  ·
   cases h
 refine ⟨hR.os, hR.tape, hR.output, hR.keep, hR.frame, hR.apart, ?_, ?_, ?_, ?_⟩
 ·
  intro i hi
  simp only [List.length_replicate] at hi
  simp only [cutρ]
  rw [if_neg (by omega)]
 ·
  intro i o ho hl
  rw [hget i o ho] at hl
  cases hl
 ·
  intro i o l ho hl hr
  rw [hget i o ho] at hr
  cases hr
 ·
  intro i j oi oj li lj hi hj hli hlj hri hrj hb
  rw [hget i oi hi] at hri
  cases hri
theorem RefV.dead {n0 : Nat} {v : AV} {H : List AObj} (hv : subs (cutS n0) [v] = [v]) : RefV n0 [v] H [v] (List.replicate n0 .dead) := fun G K ρ w us hR hV => by
 have h1 := hV.sub (cutR n0 K ρ)
 rw [hv] at h1
 exact ⟨K, cutρ n0 ρ, h1, hR.none n0, KLe.refl _, fun id hi => by simp [cutρ, hi]⟩
end Go.Proofs.Ytcbhlpbkampfeaa.AI
