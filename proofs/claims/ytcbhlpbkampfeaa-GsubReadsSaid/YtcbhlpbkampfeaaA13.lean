import Derived.Test.YtcbhlpbkampfeaaD3
/- The abstract machine, part 13: code is gone through. -/
set_option linter.unusedVariables false
set_option linter.unusedSimpArgs false
namespace Go.Proofs.Ytcbhlpbkampfeaa.AI

def AW (P : Program) (n0 : Nat) (ac : ACode) (ta : ATm) (H : List AObj) (Q : AExit → ATm → List AObj → Prop) : Prop :=
 n0 ≤ H.length → ∀ c, comp P c = some ac → AWp P n0 c ta H Q
def ALp (P : Program) (n0 : Nat) (ac : ACode) (ta : ATm) (H : List AObj) (Q : AExit → ATm → List AObj → Prop) : Prop :=
 n0 ≤ H.length → ∀ c, comp P c = some ac → ALoop P n0 c ta H Q

inductive AItem where
 | code (c : ACode)
 | ops (os : List IOp)
 | blk (id : Nat)
 | scp

def csz : ACode → Nat
 | .skip | .exit _ | .label _ | .goto _ | .ret | .dfr _ _ _ => 1
 | .reg ops => ops.length + 3
 | .regd ops => ops.length + 3
 | .regd2 ops _ => ops.length + 3
 | .regdn ops => ops.length + 3
 | .seq a b => csz a + csz b + 2
 | .cond _ a b => csz a + csz b + 1
 | .block _ a => csz a + 3
 | .loop a => csz a + 1
 | .scope a => csz a + 3
def isz : AItem → Nat
 | .code c => csz c + 1
 | .ops os => os.length + 1
 | .blk _ => 1
 | .scp => 1
def ksz : List AItem → Nat
 | [] => 0
 | i :: k => isz i + ksz k

def unw (id : Nat) : List AItem → Option (List AItem)
 | [] => none
 | .blk i :: k => if i = id then some k else unw id k
 | _ :: k => unw id k
theorem Xg5 {id : Nat} : ∀ {k k' : List AItem}, unw id k = some k' → ksz k' ≤ ksz k
 | [], k', h => by cases h
 | .blk i :: k, k', h => by
  simp only [unw] at h
  split at h
  ·
   cases h; simp only [ksz]; omega
  ·
   have := Xg5 h; simp only [ksz]; omega
 | .code c :: k, k', h => by have := Xg5 (k := k) h; simp only [ksz]; omega
 | .ops c :: k, k', h => by have := Xg5 (k := k) h; simp only [ksz]; omega
 | .scp :: k, k', h => by have := Xg5 (k := k) h; simp only [ksz]; omega

def M (P : Program) (n0 : Nat) (Q : AExit → ATm → List AObj → Prop) : List AItem → ATm → List AObj → Prop
 | [], ta, H => Q .normal ta H
 | .blk _ :: k, ta, H => M P n0 Q k ta H
 | .scp :: k, ta, H => M P n0 Q k ta H
 | .ops [] :: k, ta, H => M P n0 Q k ta H
 | .ops (o :: os) :: k, ta, H => okD ta o.dst ∧
   (let go := fun (ta : ATm) => match evO ta H o.op with
    | .ok v H' => M P n0 Q (.ops os :: k) (putD ta o.dst v) H'
    | .call f args => Xa P f args H fun e H' => match e with
     | .ret v => ∃ ta1 H1, Ref n0 (putD ta o.dst v) H' ta1 H1 ∧ n0 ≤ H1.length ∧ M P n0 Q (.ops os :: k) ta1 H1
     | .pan v => Q (.pan v) ta H'
    | .pan v => Q (.pan v) ta H
    | .bad => False
   match o.guard with
   | none => go ta
   | some (d, want) => match ta.get d with
    | .bool b => (b = want → go (ta.put d (.bool want))) ∧ (b = !want → M P n0 Q (.ops os :: k) (putD (ta.put d (.bool !want)) o.dst (.tup [])) H)
    | .tup [] => M P n0 Q (.ops os :: k) (putD ta o.dst (.tup [])) H
    | _ => False)
 | .code c :: k, ta, H => match c with
  | .skip | .label _ => M P n0 Q k ta H
  | .reg os => M P n0 Q (.ops os :: k) ta H
  | .regd os => DM P n0 (fun ta' H' => n0 ≤ H'.length ∧ M P n0 Q k ta' H') (fun v H' => Q (.pan v) ⟨ta.n, [], ta.ds⟩ H') os ta H []
  | .regdn os => okNs ta.n os ∧ DM P n0 (fun ta' H' => n0 ≤ H'.length ∧ M P n0 Q k ta' H') (fun v H' => Q (.pan v) ⟨ta.n, [], ta.ds⟩ H') os ta H []
  | .regd2 os os' => DM P n0 (fun ta' H' => n0 ≤ H'.length ∧ M P n0 Q k ta' H') (fun v H' => Q (.pan v) ⟨ta.n, [], ta.ds⟩ H') os ta H [] ∧ DM P n0 (fun ta' H' => n0 ≤ H'.length ∧ M P n0 Q k ta' H') (fun v H' => Q (.pan v) ⟨ta.n, [], ta.ds⟩ H') os' ta H []
  | .seq a b => M P n0 Q (.code a :: .code b :: k) ta H
  | .cond c a b => match c.ev ta with
   | .bool x => (x = true → M P n0 Q (.code a :: k) ta H) ∧ (x = false → M P n0 Q (.code b :: k) ta H)
   | .anyb => M P n0 Q (.code a :: k) ta H ∧ M P n0 Q (.code b :: k) ta H
   | _ => False
  | .block id a => M P n0 Q (.code a :: .blk id :: k) ta H
  | .scope a => M P n0 Q (.code a :: .scp :: k) ta H
  | .loop a => ALp P n0 a ta H fun e ta' H' => match e with
   | .normal => False
   | .exit id => match h : unw id k with
    | some k' => ∃ ta1 H1, Ref n0 ta' H' ta1 H1 ∧ n0 ≤ H1.length ∧ M P n0 Q k' ta1 H1
    | none => Q (.exit id) ta' H'
   | .goto _ => False
   | .ret => Q .ret ta' H'
   | .pan v => Q (.pan v) ta' H'
  | .exit id => match h : unw id k with
   | some k' => M P n0 Q k' ta H
   | none => Q (.exit id) ta H
  | .goto _ => False
  | .ret => Q .ret ta H
  | .dfr d g xs => d < ta.n ∧ M P n0 Q k ⟨ta.n, (d, .fn (.func g) [] (xs.map (AX.ev ta))) :: ta.l, (.func g, xs.map (AX.ev ta), []) :: ta.ds⟩ H
 termination_by k => ksz k
 decreasing_by all_goals (simp only [ksz, isz, csz, List.length_cons] at *; first | omega | (have := Xg5 h; omega))

def OpsOf (P : Program) (ops : Array Oper) : List Nat → List IOp → Prop
 | [], [] => True
 | i :: l, x :: xs => (∃ o, ops[i]? = some o ∧ Xce P o.op = some x.op ∧ o.dst = x.dst ∧ ZM ops o.guard = some x.guard) ∧ OpsOf P ops l xs
 | _, _ => False

def GE (P : Program) (n0 : Nat) (Q : AExit → ATm → List AObj → Prop) : List AItem → AExit → ATm → List AObj → Prop
 | [], e, ta, H => Q e ta H
 | .blk i :: k, e, ta, H => match e with
  | .exit j => if j = i then GE P n0 Q k .normal ta H else GE P n0 Q k (.exit j) ta H
  | e => GE P n0 Q k e ta H
 | .scp :: k, e, ta, H => GE P n0 Q k e ta H
 | .code c :: k, e, ta, H => match e with
  | .normal => ∀ c', comp P c' = some c → AWp P n0 c' ta H (GE P n0 Q k)
  | e => GE P n0 Q k e ta H
 | .ops os :: k, e, ta, H => match e with
  | .normal => ∀ (ops : Array Oper) (l : List Nat), OpsOf P ops l os → ∀ (G : Gh) (K0 : (Nat → Option Obj)) (ρ0 : (Nat → Option Loc)) (K : (Nat → Option Obj)) (ρ : (Nat → Option Loc)) (w : World) (a : Act), Next G n0 K0 ρ0 K ρ H w → AR K ρ ta a →
    wpOps P ops (fun e a' w' => ∃ K' ρ' ae ta' H', GE P n0 Q k ae ta' H' ∧ ExR K' ρ' ae e ∧ AR K' ρ' ta' a' ∧ Next G n0 K0 ρ0 K' ρ' H' w') l a w
  | e => GE P n0 Q k e ta H

theorem Xj9 {P : Program} {n0 : Nat} {Q : AExit → ATm → List AObj → Prop} {ta : ATm} {H : List AObj} : ∀ k, GE P n0 Q k .ret ta H = Q .ret ta H
 | [] => rfl
 | .blk _ :: k => Xj9 k
 | .scp :: k => Xj9 k
 | .code _ :: k => Xj9 k
 | .ops _ :: k => Xj9 k
theorem Xdl {P : Program} {n0 : Nat} {Q : AExit → ATm → List AObj → Prop} {ta : ATm} {H : List AObj} {v : AV} : ∀ k, GE P n0 Q k (.pan v) ta H = Q (.pan v) ta H
 | [] => rfl
 | .blk _ :: k => Xdl k
 | .scp :: k => Xdl k
 | .code _ :: k => Xdl k
 | .ops _ :: k => Xdl k
theorem Xi1 {P : Program} {n0 : Nat} {Q : AExit → ATm → List AObj → Prop} {ta : ATm} {H : List AObj} {l : Nat} : ∀ k, GE P n0 Q k (.goto l) ta H = Q (.goto l) ta H
 | [] => rfl
 | .blk _ :: k => Xi1 k
 | .scp :: k => Xi1 k
 | .code _ :: k => Xi1 k
 | .ops _ :: k => Xi1 k
theorem Xeg {P : Program} {n0 : Nat} {Q : AExit → ATm → List AObj → Prop} {ta : ATm} {H : List AObj} {id : Nat} : ∀ k, GE P n0 Q k (.exit id) ta H = match unw id k with
  | some k' => GE P n0 Q k' .normal ta H
  | none => Q (.exit id) ta H
 | [] => rfl
 | .blk i :: k => by
  simp only [GE, unw]
  by_cases h : i = id
  ·
   rw [if_pos h.symm, if_pos h]
  ·
   rw [if_neg (fun e => h e.symm), if_neg h, Xeg k]
 | .scp :: k => by simp only [GE, unw]; exact Xeg k
 | .code _ :: k => by simp only [GE, unw]; exact Xeg k
 | .ops _ :: k => by simp only [GE, unw]; exact Xeg k

theorem Xjq {P : Program} {ops : Array Oper} : ∀ (n : Nat) (os : List Oper) (xs : List IOp), ops.toList.drop n = os → JI P ops os = some xs → OpsOf P ops ((List.range os.length).map (n + ·)) xs
 | n, [], xs, h, hc => by simp only [JI, Option.some.injEq] at hc; subst hc; simp [OpsOf]
 | n, o :: os, xs, h, hc => by
  simp only [JI] at hc
  cases h1 : Xce P o.op with
  | none => rw [h1] at hc; cases hc
  | some x =>
   cases h2 : ZM ops o.guard with
   | none => rw [h1, h2] at hc; cases hc
   | some g =>
    cases h3 : JI P ops os with
    | none => rw [h1, h2, h3] at hc; cases hc
    | some ys =>
     rw [h1, h2, h3] at hc
     simp only [Option.some.injEq] at hc
     subst hc
     have hn : ops[n]? = some o := by
      have : (ops.toList.drop n)[0]? = some o := by rw [h]; rfl
      rw [List.getElem?_drop] at this
      simpa using this
     have hd : ops.toList.drop (n + 1) = os := by
      rw [← List.drop_drop, h]
      rfl
     rw [List.length_cons, List.range_succ_eq_map, List.map_cons, List.map_map]
     refine ⟨⟨o, by simpa using hn, h1, rfl, h2⟩, ?_⟩
     have := Xjq (n + 1) os ys hd h3
     have e : ((n + ·) ∘ Nat.succ : Nat → Nat) = (n + 1 + ·) := by funext i; simp only [Function.comp]; omega
     rw [e]
     exact this

theorem AWp.scope {P : Program} {n0 : Nat} {c : Code} {ta : ATm} {H : List AObj} {Q : AExit → ATm → List AObj → Prop} (hg : ∀ l ta H, ¬ Q (.goto l) ta H) (h : AWp P n0 c ta H Q) : AWp P n0 (.scope c) ta H Q := fun G K ρ w a hR hA b k cs => by
 obtain ⟨e, a', w', ⟨K', ρ', ae, ta', H', hQ, hE, hA', hN⟩, harr⟩ := h G K ρ w a hR hA b (.inScope c :: k) cs
 have hs : step P (lone (b.at a (.code (.scope c) :: k)) cs w) = .next (lone (b.at a (.code c :: .inScope c :: k)) cs w) := step_lone_go (by simp [stepG, stepG.exec, Frame.at])
 have hs2 : ∀ a w, step P (lone (b.at a (.inScope c :: k)) cs w) = .next (lone (b.at a k) cs w) := fun a w => step_lone_go (by simp [stepG, stepG.exec, Frame.at])
 refine ⟨e, a', w', ⟨K', ρ', ae, ta', H', hQ, hE, hA', hN⟩, .of_steps (.one hs) ?_⟩
 cases ae with
 | normal => cases e <;> first | exact hE.elim | exact Steps.trans harr (.one (hs2 _ _))
 | exit i => cases e <;> first | exact hE.elim | exact fun k' hk => harr k' (by simpa [exitTo] using hk)
 | goto i => exact (hg _ _ _ hQ).elim
 | ret => cases e <;> first | exact hE.elim | exact harr
 | pan v => cases e <;> first | exact hE.elim | exact harr

theorem AWp.cond {P : Program} {n0 : Nat} {ta : ATm} {H : List AObj} {Q : AExit → ATm → List AObj → Prop} {c : Operand} {c' : AX} {x y : Code} {b : Bool} (hc : compX c = some c') (hb : c'.ev ta = .bool b) (ht : b = true → AWp P n0 x ta H Q) (hf : b = false → AWp P n0 y ta H Q) : AWp P n0 (.cond c x y) ta H Q := fun G K ρ w a hR hA => by
 have hv := Xp hA hc
 rw [hb] at hv
 exact wp_cond_split (QW hv) (fun h => ht h G K ρ w a hR hA) (fun h => hf h G K ρ w a hR hA)

theorem AWp.condAny {P : Program} {n0 : Nat} {ta : ATm} {H : List AObj} {Q : AExit → ATm → List AObj → Prop} {c : Operand} {c' : AX} {x y : Code} (hc : compX c = some c') (hb : c'.ev ta = .anyb) (ht : AWp P n0 x ta H Q) (hf : AWp P n0 y ta H Q) : AWp P n0 (.cond c x y) ta H Q := fun G K ρ w a hR hA => by
 have hv := Xp hA hc
 rw [hb] at hv
 generalize hu : a.eval c = u at hv
 cases hv with
 | @anyb _ b => exact wp_cond_split hu (fun _ => ht G K ρ w a hR hA) (fun _ => hf G K ρ w a hR hA)

theorem dfrOf_inv {ops : Array Oper} {d : Nat} {g : FuncId} {caps : List Operand} (h : dfrOf ops = some (d, g, caps)) : ∃ (capsA : Array Operand) (t1 t2 : TypeId) (p1 p2 : String) (f1 f2 : Array Edge) (at2 : Array TypeId),
  ops = #[⟨some d, .makeFunc (.func g) #[] capsA, t1, p1, f1, none⟩, ⟨none, .defer ⟨.value (.tmp d), #[], at2⟩, t2, p2, f2, none⟩] ∧ capsA.toList = caps := by
 unfold dfrOf at h
 split at h
 ·
  rename_i d0 g0 first capsA t1 p1 f1 d' args at2 t2 p2 f2 hl
  split at h
  ·
   rename_i hc
   obtain ⟨rfl, h1, h2⟩ := hc
   simp only [Option.some.injEq, Prod.mk.injEq] at h
   obtain ⟨rfl, rfl, rfl⟩ := h
   have e1 : first = #[] := Array.ext' (List.eq_nil_of_length_eq_zero h1)
   have e2 : args = #[] := Array.ext' (List.eq_nil_of_length_eq_zero h2)
   subst e1 e2
   exact ⟨capsA, t1, t2, p1, p2, f1, f2, at2, Array.ext' hl, rfl⟩
  ·
   cases h
 ·
  cases h
theorem AWp.dfr {P : Program} {n0 : Nat} {ta : ATm} {H : List AObj} {Q : AExit → ATm → List AObj → Prop} {id : Nat} {ops : Array Oper} {d : Nat} {g : FuncId} {caps : List Operand} {xs : List AX} (h : dfrOf ops = some (d, g, caps)) (hx : QD caps = some xs) (hd : d < ta.n)
  (hq : Q .normal ⟨ta.n, (d, .fn (.func g) [] (xs.map (AX.ev ta))) :: ta.l, (.func g, xs.map (AX.ev ta), []) :: ta.ds⟩ H) : AWp P n0 (.region id ops false) ta H Q := fun G K ρ w a hR hA => by
 obtain ⟨capsA, t1, t2, p1, p2, f1, f2, at2, rfl, rfl⟩ := dfrOf_inv h
 have v2 := Xaf hA hx
 have e2 : (capsA.toList.map a.eval).toArray = capsA.map a.eval := Array.ext' (by simp)
 rw [e2] at v2
 have hv : VR K ρ (.fn (.func g) [] (xs.map (AX.ev ta))) (.func (.func g) #[] (capsA.map a.eval)) := .fn rfl v2.1 (fun i v u hv hu => by simp at hv) (fun i v u hv hu => v2.2 i v u hv hu)
 have hA1 : AR K ρ (ta.put d (.fn (.func g) [] (xs.map (AX.ev ta)))) (a.put (some d) (.func (.func g) #[] (capsA.map a.eval))) := hA.put hd hv
 have he : (a.put (some d) (.func (.func g) #[] (capsA.map a.eval))).eval (.tmp d) = .func (.func g) #[] (capsA.map a.eval) := by
  have hs := hA.size
  simp [Act.eval, Act.put, Array.getD_eq_getD_getElem?, hs, hd]
 refine wp_region ?_
 show wpOps P _ _ [0, 1] a w
 have w1 : ∀ (o : Oper) (y : Nat → Option Bool), o.guard = none → Region.wanted o y = true := fun o y h => by simp [Region.wanted, h]
 simp only [wpOps, List.getElem?_toArray, List.getElem?_cons_zero, List.getElem?_cons_succ]
 rw [if_pos (w1 _ _ rfl)]
 refine .inl ?_
 simp only [Oper.wp, execOp, Instr.makeFunc, Sem.run_bind, Sem.run_pure, Result.andThen_ok, Oper.upon]
 rw [if_pos (w1 _ _ rfl)]
 refine .inl ?_
 have e0 : ∀ f : Operand → Value, Array.map f #[] = #[] := fun f => by simp
 simp only [resolve, e0, he, Deferred.ofValue, Sem.run_bind, Sem.run_pure, Result.andThen_ok]
 refine ⟨K, ρ, .normal, _, H, hq, trivial, ⟨hA1.size, hA1.tmps, ⟨⟨capsA.map a.eval, #[], by simp, v2, ⟨rfl, by simp⟩⟩, hA1.defers⟩⟩, Next.refl hR⟩

theorem QZ {P : Program} {c' : Code} {c : ACode} (h : comp P c' = some c) : match c with
  | .skip => c' = .skip
  | .reg os => ∃ id ops, c' = .region id ops false ∧ JI P ops ops.toList = some os
  | .regd os => ∃ id ops, c' = .region id ops true ∧ compD P ops = some os
  | .regd2 os os' => ∃ id ops, c' = .region id ops true ∧ Xpr P ops = some (os, os')
  | .regdn os => ∃ id ops, c' = .region id ops true ∧ Xpq P ops = some os
  | .seq a b => ∃ x y, c' = .seq x y ∧ comp P x = some a ∧ comp P y = some b
  | .cond c a b => ∃ c0 x y, c' = .cond c0 x y ∧ compX c0 = some c ∧ comp P x = some a ∧ comp P y = some b
  | .block id a => ∃ x, c' = .block id x ∧ comp P x = some a
  | .loop a => ∃ x, c' = .loop x ∧ comp P x = some a
  | .exit id => c' = .exit id
  | .scope a => ∃ x, c' = .scope x ∧ comp P x = some a
  | .label l => c' = .label l
  | .goto l => c' = .goto l
  | .ret => c' = .ret
  | .dfr d g xs => ∃ id ops caps, c' = .region id ops false ∧ dfrOf ops = some (d, g, caps) ∧ QD caps = some xs := by
 cases c' <;> (try simp only [comp, reduceCtorEq] at h)
 case skip => cases h; rfl
 case region id ops d =>
  cases d <;> simp only [comp] at h
  ·
   split at h
   ·
    rename_i dd g caps hdf
    obtain ⟨os, h1, rfl⟩ := Option.map_eq_some_iff.1 h
    exact ⟨id, ops, caps, rfl, hdf, h1⟩
   ·
    obtain ⟨os, h1, rfl⟩ := Option.map_eq_some_iff.1 h
    exact ⟨id, ops, rfl, h1⟩
  ·
   split at h
   ·
    rename_i ys hys
    cases h
    exact ⟨id, ops, rfl, hys⟩
   ·
    split at h
    ·
     rename_i p hp
     cases h
     exact ⟨id, ops, rfl, hp⟩
    ·
     obtain ⟨os, h1, rfl⟩ := Option.map_eq_some_iff.1 h
     exact ⟨id, ops, rfl, h1⟩
 case seq x y =>
  split at h
  ·
   cases h; exact ⟨x, y, rfl, ‹_›, ‹_›⟩
  ·
   cases h
 case cond c x y =>
  split at h
  ·
   cases h; exact ⟨c, x, y, rfl, ‹_›, ‹_›, ‹_›⟩
  ·
   cases h
 case block id x =>
  obtain ⟨os, h1, rfl⟩ := Option.map_eq_some_iff.1 h
  exact ⟨x, rfl, h1⟩
 case loop x =>
  obtain ⟨os, h1, rfl⟩ := Option.map_eq_some_iff.1 h
  exact ⟨x, rfl, h1⟩
 case exit id => cases h; rfl
 case scope x =>
  obtain ⟨os, h1, rfl⟩ := Option.map_eq_some_iff.1 h
  exact ⟨x, rfl, h1⟩
 case label => cases h; rfl
 case goto => cases h; rfl
 case ret => cases h; rfl

theorem AWp.post {P : Program} {n0 : Nat} {c : Code} {ta : ATm} {H : List AObj} {Q Q' : AExit → ATm → List AObj → Prop} (h : AWp P n0 c ta H Q') (hq : ∀ e ta H, Q' e ta H → match e with
  | .pan v => Q (.pan v) ta H
  | e => ∃ ta1 H1, Ref n0 ta H ta1 H1 ∧ Q e ta1 H1) : AWp P n0 c ta H Q := fun G K ρ w a hR hA =>
 wp_mono (h G K ρ w a hR hA) fun e a' w' ⟨K', ρ', ae, ta', H', hQ, hE, hA', hN⟩ => by
  have h1 := hq _ _ _ hQ
  cases ae with
  | pan v => exact ⟨K', ρ', .pan v, ta', H', h1, hE, hA', hN⟩
  | normal =>
   obtain ⟨ta1, H1, hr, hQ1⟩ := h1
   obtain ⟨K1, ρ1, hA1, hN1⟩ := hr G K' ρ' w' a' hN.rel hA'
   exact ⟨K1, ρ1, .normal, ta1, H1, hQ1, by cases e <;> first | exact hE.elim | exact hE, hA1, hN.trans hN1 (Nat.le_refl _)⟩
  | exit i =>
   obtain ⟨ta1, H1, hr, hQ1⟩ := h1
   obtain ⟨K1, ρ1, hA1, hN1⟩ := hr G K' ρ' w' a' hN.rel hA'
   exact ⟨K1, ρ1, .exit i, ta1, H1, hQ1, by cases e <;> first | exact hE.elim | exact hE, hA1, hN.trans hN1 (Nat.le_refl _)⟩
  | goto i =>
   obtain ⟨ta1, H1, hr, hQ1⟩ := h1
   obtain ⟨K1, ρ1, hA1, hN1⟩ := hr G K' ρ' w' a' hN.rel hA'
   exact ⟨K1, ρ1, .goto i, ta1, H1, hQ1, by cases e <;> first | exact hE.elim | exact hE, hA1, hN.trans hN1 (Nat.le_refl _)⟩
  | ret =>
   obtain ⟨ta1, H1, hr, hQ1⟩ := h1
   obtain ⟨K1, ρ1, hA1, hN1⟩ := hr G K' ρ' w' a' hN.rel hA'
   exact ⟨K1, ρ1, .ret, ta1, H1, hQ1, by cases e <;> first | exact hE.elim | exact hE, hA1, hN.trans hN1 (Nat.le_refl _)⟩

theorem M_sound {P : Program} {n0 : Nat} {Q : AExit → ATm → List AObj → Prop} (hg : ∀ l ta H, ¬ Q (.goto l) ta H) : ∀ (n : Nat) (k : List AItem) (ta : ATm) (H : List AObj), ksz k ≤ n → M P n0 Q k ta H → n0 ≤ H.length → GE P n0 Q k .normal ta H := by
 intro n
 induction n with
 | zero =>
  intro k ta H hk hM hn
  cases k with
  | nil => rw [M] at hM; exact hM
  | cons i k => cases i <;> simp only [ksz, isz] at hk <;> omega
 | succ n ih =>
  intro k ta H hk hM hn
  cases k with
  | nil => rw [M] at hM; exact hM
  | cons it k =>
   cases it with
   | blk i => rw [M] at hM; exact ih k ta H (by simp only [ksz, isz] at hk; omega) hM hn
   | scp => rw [M] at hM; exact ih k ta H (by simp only [ksz, isz] at hk; omega) hM hn
   | ops os =>
    cases os with
    | nil =>
     rw [M] at hM
     intro ops l hl G K0 ρ0 K ρ w a hN hA
     cases l with
     | cons => exact hl.elim
     | nil => exact ⟨K, ρ, .normal, ta, H, ih k ta H (by simp only [ksz, isz] at hk; omega) hM hn, trivial, hA, hN⟩
    | cons o os =>
     rw [M] at hM
     obtain ⟨hd, hM⟩ := hM
     intro ops l hl G K0 ρ0 K ρ w a hN hA
     cases l with
     | nil => exact hl.elim
     | cons i l =>
      obtain ⟨⟨op, ho, hc, hdst, hgd⟩, hl⟩ := hl
      have hsz : ksz (.ops os :: k) ≤ n := by simp only [ksz, isz, List.length_cons] at hk ⊢; omega
      -- one operation that is done
      have go : ∀ ta : ATm, okD ta o.dst → AR K ρ ta a → (match evO ta H o.op with
        | .ok v H' => M P n0 Q (.ops os :: k) (putD ta o.dst v) H'
        | .call f args => Xa P f args H fun e H' => match e with
         | .ret v => ∃ ta1 H1, Ref n0 (putD ta o.dst v) H' ta1 H1 ∧ n0 ≤ H1.length ∧ M P n0 Q (.ops os :: k) ta1 H1
         | .pan v => Q (.pan v) ta H'
        | .pan v => Q (.pan v) ta H
        | .bad => False) → op.wp P a w (wpOps P ops (fun e a' w' => ∃ K' ρ' ae ta' H', GE P n0 Q k ae ta' H' ∧ ExR K' ρ' ae e ∧ AR K' ρ' ta' a' ∧ Next G n0 K0 ρ0 K' ρ' H' w') l) (fun e a' w' => ∃ K' ρ' ae ta' H', GE P n0 Q k ae ta' H' ∧ ExR K' ρ' ae e ∧ AR K' ρ' ta' a' ∧ Next G n0 K0 ρ0 K' ρ' H' w') := by
       intro ta hd hA hgo
       have hgood := good_op (P := P) (o := op) (a := a) hN.rel hA hc
       unfold Oper.wp
       cases hev : evO ta H o.op with
       | ok v H' =>
        rw [hev] at hgo hgood
        obtain ⟨nx, u, w', K', ρ', hrun, hnx, hv, hN'⟩ := hgood
        have hA' : AR K' ρ' (putD ta o.dst v) (a.put op.dst u) := by
         rw [hdst]
         exact (hA.mono hN'.keep (hN'.rle hN.rel)).putD hd hv
        have hrest := ih _ _ _ hsz hgo (Nat.le_trans hn (Xe4 hev)) ops l hl G K0 ρ0 K' ρ' w' (a.put op.dst u) (hN.trans hN' hn) hA'
        rw [hrun]
        rcases hnx with rfl | ⟨rfl, rfl⟩
        ·
         exact hrest
        ·
         exact hrest
       | call f args =>
        rw [hev] at hgo hgood
        obtain ⟨us, hVs, hrun⟩ := hgood
        rw [hrun hgo.1]
        show Calls P f us w _
        refine (hgo.2 G K ρ w us hN.rel hVs).mono ?_
        rintro e w' ⟨K', ρ', ae, H', hQ, hE, hN'⟩
        cases ae with
        | ret v =>
         cases e <;> try exact hE.elim
         rename_i u
         have hv : VR K' ρ' v u := hE
         have hA' : AR K' ρ' (putD ta o.dst v) (a.put op.dst u) := by
          rw [hdst]
          exact (hA.mono hN'.keep (hN'.rle hN.rel)).putD hd hv
         obtain ⟨ta1, H1, hr1, hn1, hM1⟩ := hQ
         have hN2 := hN.trans hN' hn
         obtain ⟨K1, ρ1, hA1, hN1⟩ := hr1 G K' ρ' w' _ hN2.rel hA'
         exact ih _ _ _ hsz hM1 hn1 ops l hl G K0 ρ0 K1 ρ1 w' (a.put op.dst u) (hN2.trans hN1 (Nat.le_refl _)) hA1
        | pan v =>
         cases e <;> try exact hE.elim
         obtain ⟨u, rfl, hv⟩ := hE
         exact ⟨K', ρ', .pan v, ta, H', by rw [Xdl]; exact hQ, ⟨u, rfl, hv⟩, hA.mono hN'.keep (hN'.rle hN.rel), hN.trans hN' hn⟩
       | pan v =>
        rw [hev] at hgo hgood
        obtain ⟨u, hrun, hv⟩ := hgood
        rw [hrun]
        exact ⟨K, ρ, .pan v, ta, H, by rw [Xdl]; exact hgo, ⟨u, rfl, hv⟩, hA, hN⟩
       | bad => rw [hev] at hgo; exact hgo.elim
      simp only [wpOps, ho]
      cases hguard : o.guard with
      | none =>
       rw [hguard] at hM hgd
       rw [if_pos (Xd9 hgd)]
       exact .inl (go ta hd hA hM)
      | some g =>
       obtain ⟨d, want⟩ := g
       rw [hguard] at hM hgd
       simp only at hM
       split at hM
       ·
        rename_i b hb
        obtain ⟨h1, h2⟩ := hM
        have hbv := hA.tmps d
        rw [hb] at hbv
        have hbv' := QW hbv
        rw [Xd8 hgd hbv']
        by_cases hbw : b = want
        ·
         subst hbw
         rw [if_pos (by simp)]
         exact .inl (go _ (by cases hod : o.dst with | none => trivial | some t => rw [hod] at hd; exact hd) (hA.note hbv) (h1 rfl))
        ·
         have hbn : b = !want := by cases b <;> cases want <;> simp_all
         rw [if_neg (by simp [hbw])]
         have hA1 := hA.note (t := d) (v := .bool b) hbv
         rw [hbn] at hA1
         have hA2 : AR K ρ (putD (ta.put d (.bool !want)) o.dst (.tup [])) (a.put op.dst undef) := by
          rw [hdst]
          exact hA1.putD (by cases hod : o.dst with | none => trivial | some t => rw [hod] at hd; exact hd) VR.undef
         exact ih _ _ _ hsz (h2 hbn) hn ops l hl G K0 ρ0 K ρ w _ hN hA2
       ·
        rename_i hb
        have hbv := hA.tmps d
        rw [hb] at hbv
        rw [Xfz hgd (Xlz hbv), if_neg (by simp)]
        have hA2 : AR K ρ (putD ta o.dst (.tup [])) (a.put op.dst undef) := by
         rw [hdst]
         exact hA.putD hd VR.undef
        exact ih _ _ _ hsz hM hn ops l hl G K0 ρ0 K ρ w _ hN hA2
       ·
        exact hM.elim
   | code c =>
    have hkc : ksz k + csz c + 1 ≤ n + 1 := by simp only [ksz, isz] at hk; omega
    intro c' hc'
    have inv := QZ hc'
    have hgk : ∀ l ta H, ¬ GE P n0 Q k (.goto l) ta H := fun l ta H h => hg l ta H (by rw [Xi1] at h; exact h)
    cases c with
    | skip =>
     rw [M] at hM
     simp only at inv
     subst inv
     exact AWp.skip (ih k ta H (by simp only [csz] at hkc; omega) hM hn)
    | label l =>
     rw [M] at hM
     simp only at inv
     subst inv
     exact AWp.label (ih k ta H (by simp only [csz] at hkc; omega) hM hn)
    | dfr d g xs =>
      simp only at inv
      obtain ⟨id, ops, caps, rfl, h1, h2⟩ := inv
      rw [M] at hM
      exact AWp.dfr h1 h2 hM.1 (ih k _ H (by simp only [csz] at hkc; omega) hM.2 hn)
    | reg os =>
      simp only at inv
      obtain ⟨id, ops, rfl, h1⟩ := inv
      rw [M] at hM
      have h2 := ih _ _ _ (by simp only [ksz, isz]; simp only [csz] at hkc; omega) hM hn
      have hops := Xjq (P := P) (ops := ops) 0 ops.toList os (by simp) h1
      have e : (List.range ops.toList.length).map (0 + ·) = List.range ops.size := by simp
      rw [e] at hops
      intro G K ρ w a hR hA
      exact wp_region (h2 ops _ hops G K ρ K ρ w a (Next.refl hR) hA)
    | regd2 os os' =>
      simp only at inv
      obtain ⟨id, ops, rfl, h1⟩ := inv
      rw [M] at hM
      refine AW.draw2 hn h1 ?_ ?_
      ·
       have hM2 := DM.post (Q' := GE P n0 Q k .normal) (fun ta' H' he => ih k ta' H' (by simp only [csz] at hkc; omega) he.2 he.1) os hM.1
       simpa only [Xdl] using hM2
      ·
       have hM2 := DM.post (Q' := GE P n0 Q k .normal) (fun ta' H' he => ih k ta' H' (by simp only [csz] at hkc; omega) he.2 he.1) os' hM.2
       simpa only [Xdl] using hM2
    | regdn os =>
      simp only at inv
      obtain ⟨id, ops, rfl, h1⟩ := inv
      rw [M] at hM
      refine AW.drawN hn h1 hM.1 ?_
      have hM2 := DM.post (Q' := GE P n0 Q k .normal) (fun ta' H' he => ih k ta' H' (by simp only [csz] at hkc; omega) he.2 he.1) os hM.2
      simpa only [Xdl] using hM2
    | regd os =>
      simp only at inv
      obtain ⟨id, ops, rfl, h1⟩ := inv
      rw [M] at hM
      refine AW.draw hn h1 ?_
      have hM2 := DM.post (Q' := GE P n0 Q k .normal) (fun ta' H' he => ih k ta' H' (by simp only [csz] at hkc; omega) he.2 he.1) os hM
      simpa only [Xdl] using hM2
    | seq x y =>
     rw [M] at hM
     simp only at inv
     obtain ⟨x', y', rfl, h1, h2⟩ := inv
     have h3 := ih _ _ _ (by simp only [ksz, isz]; simp only [csz] at hkc; omega) hM hn
     refine AWp.seq (AWp.mono (h3 x' h1) ?_)
     intro e ta' H' he
     cases e with
     | normal => exact he y' h2
     | exit i => exact he
     | goto i => exact he
     | ret => exact he
     | pan v => exact he
    | cond c x y =>
     rw [M] at hM
     simp only at inv
     obtain ⟨c0, x', y', rfl, h0, h1, h2⟩ := inv
     split at hM
     ·
      rename_i b hb
      exact AWp.cond h0 hb (fun h => ih _ _ _ (by simp only [ksz, isz]; simp only [csz] at hkc; omega) (hM.1 h) hn x' h1) (fun h => ih _ _ _ (by simp only [ksz, isz]; simp only [csz] at hkc; omega) (hM.2 h) hn y' h2)
     ·
      rename_i hb
      exact AWp.condAny h0 hb (ih _ _ _ (by simp only [ksz, isz]; simp only [csz] at hkc; omega) hM.1 hn x' h1) (ih _ _ _ (by simp only [ksz, isz]; simp only [csz] at hkc; omega) hM.2 hn y' h2)
     ·
      exact hM.elim
    | block id x =>
     rw [M] at hM
     simp only at inv
     obtain ⟨x', rfl, h1⟩ := inv
     have h3 := ih _ _ _ (by simp only [ksz, isz]; simp only [csz] at hkc; omega) hM hn
     refine AWp.block (AWp.mono (h3 x' h1) ?_)
     intro e ta' H' he
     cases e with
     | normal => exact he
     | exit i => simp only [GE] at he; simp only [AExit.blk]; split at he <;> rename_i hh <;> simp only [hh, if_true, if_false] <;> exact he
     | goto i => exact he
     | ret => exact he
     | pan v => exact he
    | scope x =>
     rw [M] at hM
     simp only at inv
     obtain ⟨x', rfl, h1⟩ := inv
     have h3 := ih _ _ _ (by simp only [ksz, isz]; simp only [csz] at hkc; omega) hM hn
     exact AWp.scope hgk (AWp.mono (h3 x' h1) fun e ta' H' he => he)
    | loop x =>
     rw [M] at hM
     simp only at inv
     obtain ⟨x', rfl, h1⟩ := inv
     refine AWp.post (AWp.loop (hM hn x' h1)) ?_
     intro e ta' H' he
     cases e with
     | normal => exact he.elim
     | exit i =>
      simp only at he
      split at he
      ·
       rename_i k' hk'
       have := Xg5 hk'
       obtain ⟨ta1, H1, hr1, hn1, hM1⟩ := he
       refine ⟨ta1, H1, hr1, ?_⟩
       rw [Xeg]
       simp only [hk']
       exact ih k' ta1 H1 (by simp only [csz] at hkc; omega) hM1 hn1
      ·
       rename_i hk'
       refine ⟨ta', H', Ref.refl _ _ _, ?_⟩
       rw [Xeg]
       simp only [hk']
       exact he
     | goto i => exact he.elim
     | ret => exact ⟨ta', H', Ref.refl _ _ _, by rw [Xj9]; exact he⟩
     | pan v => simp only; rw [Xdl]; exact he
    | exit i =>
     rw [M] at hM
     simp only at inv
     subst inv
     refine AWp.exit ?_
     rw [Xeg]
     split at hM
     ·
      rename_i k' hk'
      have := Xg5 hk'
      simp only [hk']
      exact ih k' ta H (by simp only [csz] at hkc; omega) hM hn
     ·
      rename_i hk'
      simp only [hk']
      exact hM
    | goto l => rw [M] at hM; exact hM.elim
    | ret =>
     rw [M] at hM
     simp only at inv
     subst inv
     refine AWp.ret ?_
     rw [Xj9]
     exact hM

theorem AW.of_M {P : Program} {n0 : Nat} {Q : AExit → ATm → List AObj → Prop} (hg : ∀ l ta H, ¬ Q (.goto l) ta H) {c : ACode} {ta : ATm} {H : List AObj} (h : M P n0 Q [.code c] ta H) : AW P n0 c ta H Q := fun hn c' hc' =>
 AWp.mono (M_sound hg _ [.code c] ta H (Nat.le_refl _) h hn c' hc') fun e ta' H' he => by
  cases e <;> exact he

def XJ (P : Program) (n0 : Nat) (c : ACode) (Q : AExit → ATm → List AObj → Prop) : AExit → ATm → List AObj → Prop
 | .normal, ta, H => ∃ ta1 H1, Ref n0 ta H ta1 H1 ∧ n0 ≤ H1.length ∧ ALp P n0 c ta1 H1 Q
 | .exit i, ta, H => ∃ ta1 H1, Ref n0 ta H ta1 H1 ∧ Q (.exit i) ta1 H1
 | .goto _, _, _ => False
 | .ret, ta, H => ∃ ta1 H1, Ref n0 ta H ta1 H1 ∧ Q .ret ta1 H1
 | .pan v, ta, H => Q (.pan v) ta H

theorem ALp.round {P : Program} {n0 : Nat} {Q : AExit → ATm → List AObj → Prop} {c : ACode} {ta : ATm} {H : List AObj} (h : M P n0 (XJ P n0 c Q) [.code c] ta H) : ALp P n0 c ta H Q := fun hn c' hc' =>
 ALoop.round (AWp.post (AW.of_M (fun l ta H h => h) h hn c' hc') fun e ta' H' he => by
  cases e with
  | normal => obtain ⟨ta1, H1, h1, h2, h3⟩ := he; exact ⟨ta1, H1, h1, h3 h2 c' hc'⟩
  | exit i => exact he
  | goto i => exact he.elim
  | ret => exact he
  | pan v => exact he)

theorem ALp.ref {P : Program} {n0 : Nat} {c : ACode} {ta ta1 : ATm} {H H1 : List AObj} {Q : AExit → ATm → List AObj → Prop} (hr : Ref n0 ta H ta1 H1) (hn : n0 ≤ H1.length) (h : ALp P n0 c ta1 H1 Q) : ALp P n0 c ta H Q := fun _ c' hc' => ALoop.ref hr (h hn c' hc')
theorem Xa.run {P : Program} {f : FuncId} {fn : Func} (hf : P.funcs[f]? = some fn) (hname : (fn.name == "runtime.NumGoroutine") = false) {c : Code} (hb : fn.body = some c) {N : Nat} (hN : fn.ntmps = N) {rs : List RV} (hrs : Xj P fn.results.toList = some rs) {ac : ACode} (hc : comp P c = some ac) {args : List AV} (hn : args.length ≤ N) {H : List AObj} {Q : AEnd → List AObj → Prop}
  (h : M P H.length (bodyA H.length rs Q) [.code ac] ⟨N, argl 0 args, []⟩ H) : Xa P f args H Q :=
 Xa.body hf hname hb hN hrs hn (AW.of_M (fun l ta H h => h) h (Nat.le_refl _) c hc)
end Go.Proofs.Ytcbhlpbkampfeaa.AI
