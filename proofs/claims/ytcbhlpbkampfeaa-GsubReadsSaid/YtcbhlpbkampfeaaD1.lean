import Derived.Test.YtcbhlpbkampfeaaA12
import Derived.Orders
/- Part of a proof. -/
set_option linter.unusedVariables false
set_option linter.unusedSimpArgs false
namespace Go.Proofs.Ytcbhlpbkampfeaa.AI

def putD (ta : ATm) (d : Option Nat) (v : AV) : ATm := match d with
 | some t => ta.put t v
 | none => ta
def okD (ta : ATm) (d : Option Nat) : Prop := match d with
 | some t => t < ta.n
 | none => True

theorem AR.note {K : (Nat → Option Obj)} {ρ : (Nat → Option Loc)} {ta : ATm} {a : Act} (h : AR K ρ ta a) {t : Nat} {v : AV} (hv : VR K ρ v (a.tmps.getD t undef)) : AR K ρ (ta.put t v) a := by
 refine ⟨h.size, fun u => ?_, h.defers⟩
 simp only [ATm.get, ATm.put, look]
 split
 ·
  rename_i e; rw [← e]; exact hv
 ·
  exact h.tmps u

theorem AR.putD {K : (Nat → Option Obj)} {ρ : (Nat → Option Loc)} {ta : ATm} {a : Act} (h : AR K ρ ta a) {d : Option Nat} (hd : okD ta d) {v : AV} {u : Value} (hv : VR K ρ v u) : AR K ρ (putD ta d v) (a.put d u) := by
 cases d with
 | none => exact h
 | some t => exact h.put hd hv

theorem Xd8 {ops : Array Oper} {a : Act} {o : Oper} {d : Nat} {want b : Bool} (hg : ZM ops o.guard = some (some (d, want))) (hb : a.tmps.getD d undef = .bool b) : Region.wanted o (yielded ops a.tmps) = (b == want) := by
 unfold ZM at hg
 split at hg
 ·
  cases hg
 ·
  rename_i j w' hgo
  split at hg
  ·
   rename_i d' hd'
   simp only [Option.some.injEq, Prod.mk.injEq] at hg
   obtain ⟨rfl, rfl⟩ := hg
   have hsome : a.tmps[d']? = some (.bool b) := by
    rw [Array.getD_eq_getD_getElem?] at hb
    cases ht : a.tmps[d']? with
    | none => rw [ht] at hb; simp [undef] at hb
    | some v => rw [ht] at hb; simp at hb; rw [hb]
   simp only [Region.wanted, hgo, yielded, hd', Option.bind_some, hsome]
   cases b <;> cases w' <;> rfl
  ·
   cases hg
theorem VR.undef {K : (Nat → Option Obj)} {ρ : (Nat → Option Loc)} : VR K ρ (.tup []) Go.undef := .tup rfl (fun i v u hv => by simp at hv)
theorem Xlz {K : (Nat → Option Obj)} {ρ : (Nat → Option Loc)} {u : Value} (h : VR K ρ (.tup []) u) : u = Go.undef := by
 cases h with
 | tup h1 h2 =>
  rename_i cs
  have : cs = #[] := Array.eq_empty_of_size_eq_zero h1.symm
  rw [this]; rfl
theorem Xfz {ops : Array Oper} {a : Act} {o : Oper} {d : Nat} {want : Bool} (hg : ZM ops o.guard = some (some (d, want))) (hb : a.tmps.getD d Go.undef = Go.undef) : Region.wanted o (yielded ops a.tmps) = false := by
 unfold ZM at hg
 split at hg
 ·
  cases hg
 ·
  rename_i j w' hgo
  split at hg
  ·
   rename_i d' hd'
   simp only [Option.some.injEq, Prod.mk.injEq] at hg
   obtain ⟨rfl, rfl⟩ := hg
   simp only [Region.wanted, hgo, yielded, hd', Option.bind_some]
   cases ht : a.tmps[d']? with
   | none => rfl
   | some v =>
    rw [Array.getD_eq_getD_getElem?, ht] at hb
    simp at hb
    subst hb
    rfl
  ·
   cases hg
theorem Xd9 {ops : Array Oper} {a : Act} {o : Oper} (hg : ZM ops o.guard = some none) : Region.wanted o (yielded ops a.tmps) = true := by
  unfold ZM at hg
  split at hg
  · rename_i h; simp [Region.wanted, h]
  · split at hg <;> cases hg

theorem Xe4 {ta : ATm} {H : List AObj} {op : AOp} {v : AV} {H' : List AObj} (h : evO ta H op = .ok v H') : H.length ≤ H'.length := by
 have ob : ∀ {x : Option AV}, orBad H x = .ok v H' → H' = H := by
  intro x hx
  unfold orBad at hx
  split at hx <;> simp at hx
  exact hx.2.symm
 cases op <;> simp only [evO] at h
 case mov => simp at h; exact Nat.le_of_eq (congrArg List.length h.2)
 case pick =>
  split at h
  ·
   unfold pickA at h
   split at h
   ·
    simp at h; exact Nat.le_of_eq (congrArg List.length h.2)
   ·
    split at h <;> (simp at h; exact Nat.le_of_eq (congrArg List.length h.2))
  ·
   simp at h
 case new => simp at h; rw [← h.2]; simp
 case box => split at h <;> simp at h; rw [← h.2]; simp
 case build => split at h <;> simp at h; exact Nat.le_of_eq (congrArg List.length h.2)
 case lits => split at h <;> simp at h; exact Nat.le_of_eq (congrArg List.length h.2)
 case litr => split at h <;> simp at h; rw [← h.2]; simp
 case load => split at h <;> simp at h; exact Nat.le_of_eq (congrArg List.length h.2)
 case store =>
  split at h
  ·
   split at h
   ·
    unfold Xn8 at h
    split at h
    ·
     split at h
     ·
      split at h <;> simp at h
      rw [← h.2]; simp
     ·
      split at h
      ·
       split at h <;> simp at h
       rw [← h.2]; simp
      ·
       simp at h
     ·
      simp at h
    ·
     simp at h
   ·
    simp at h
  ·
   simp at h
 case fld => split at h <;> simp at h <;> exact Nat.le_of_eq (congrArg List.length h.2)
 case idx =>
  split at h
  ·
   split at h
   ·
    split at h <;> simp at h; exact Nat.le_of_eq (congrArg List.length h.2)
   ·
    simp at h
  ·
   split at h
   ·
    split at h <;> simp at h; exact Nat.le_of_eq (congrArg List.length h.2)
   ·
    simp at h
  ·
   simp at h
 case idxa => split at h <;> (try split at h) <;> simp at h <;> exact Nat.le_of_eq (congrArg List.length h.2)
 case part => split at h <;> (try split at h) <;> simp at h; exact Nat.le_of_eq (congrArg List.length h.2)
 case elem => split at h <;> (try split at h) <;> simp at h; exact Nat.le_of_eq (congrArg List.length h.2)
 case sidx =>
  split at h
  ·
   split at h
   ·
    split at h <;> simp at h; exact Nat.le_of_eq (congrArg List.length h.2)
   ·
    simp at h
  ·
   simp at h
 case bin => rw [ob h]; exact Nat.le_refl _
 case ssl => rw [ob h]; exact Nat.le_refl _
 case mkmap => simp at h; rw [← h.2]; simp
 case mlk => rw [ob h]; exact Nat.le_refl _
 case mlen => rw [ob h]; exact Nat.le_refl _
 case mup =>
  unfold mupA at h
  split at h
  ·
   split at h
   ·
    split at h
    ·
     simp at h; rw [← h.2]; simp
    ·
     simp at h
   ·
    simp at h
  ·
   simp at h
 case eqb => split at h <;> simp at h; exact Nat.le_of_eq (congrArg List.length h.2)
 case eqp => split at h <;> simp at h; exact Nat.le_of_eq (congrArg List.length h.2)
 case eqs => split at h <;> simp at h; exact Nat.le_of_eq (congrArg List.length h.2)
 case un => split at h <;> simp at h <;> exact Nat.le_of_eq (congrArg List.length h.2)
 case conv => split at h <;> simp at h; exact Nat.le_of_eq (congrArg List.length h.2)
 case mkif => simp at h; exact Nat.le_of_eq (congrArg List.length h.2)
 case mkfn => simp at h; exact Nat.le_of_eq (congrArg List.length h.2)
 case mksl => split at h <;> (try split at h) <;> simp at h; rw [← h.2]; simp
 case sl => rw [ob h]; exact Nat.le_refl _
 case len => split at h <;> simp at h <;> exact Nat.le_of_eq (congrArg List.length h.2)
 case app =>
  split at h
  ·
   split at h
   ·
    unfold appA at h
    split at h
    ·
     split at h
     ·
      split at h <;> simp at h; rw [← h.2]; exact Nat.le_refl _
     ·
      split at h <;> simp at h; rw [← h.2]; simp
    ·
     split at h
     ·
      split at h <;> simp at h; rw [← h.2]; simp
     ·
      simp at h
    ·
     simp at h
   ·
    simp at h
  ·
   simp at h
 case minmax => split at h <;> (try split at h) <;> simp at h; exact Nat.le_of_eq (congrArg List.length h.2)
 case ext => split at h <;> (try split at h) <;> simp at h; exact Nat.le_of_eq (congrArg List.length h.2)
 case call => simp at h
 case callv => split at h <;> simp at h
 case pan => split at h <;> simp at h
 case nchk => split at h <;> simp at h <;> exact Nat.le_of_eq (congrArg List.length h.2)
 case ifnil => split at h <;> simp at h <;> exact Nat.le_of_eq (congrArg List.length h.2)
 case tas =>
  split at h
  ·
   split at h <;> simp at h; exact Nat.le_of_eq (congrArg List.length h.2)
  ·
   simp at h
 case isnil =>
  split at h
  ·
   split at h <;> simp at h <;> exact Nat.le_of_eq (congrArg List.length h.2)
  ·
   split at h <;> simp at h <;> exact Nat.le_of_eq (congrArg List.length h.2)
  ·
   cases h
 case stuck => cases h


theorem Xhz {n : Nat} : ∀ {l : List AX}, AX.t n ∈ l → n ∈ uses.usesX l
 | [], h => by cases h
 | .t m :: l, h => by
  simp only [uses.usesX]
  rcases List.mem_cons.1 h with h | h
  ·
   cases h; exact List.mem_cons_self
  ·
   exact List.mem_cons_of_mem _ (Xhz h)
 | .k v :: l, h => by
  simp only [uses.usesX]
  rcases List.mem_cons.1 h with h | h
  ·
   cases h
  ·
   exact Xhz h

theorem Zi {ta ta' : ATm} {l : List AX} (h : ∀ t ∈ uses.usesX l, ta.get t = ta'.get t) {x : AX} (hx : x ∈ l) : x.ev ta = x.ev ta' := by
 cases x with
 | t n => exact h n (Xhz hx)
 | k v => rfl
theorem Xb7 {ta ta' : ATm} {l l' : List AX} (h : ∀ t ∈ uses.usesX l, ta.get t = ta'.get t) (hs : ∀ x ∈ l', x ∈ l) : l'.map (AX.ev ta) = l'.map (AX.ev ta') :=
 List.map_congr_left fun x hx => Zi h (hs x hx)

theorem Xde {ta ta' : ATm} {H : List AObj} {op : AOp} (h : ∀ t ∈ uses op, ta.get t = ta'.get t) : evO ta H op = evO ta' H op := by
 cases op <;> simp only [uses] at h <;> simp only [evO]
 case pick c a b => rw [Zi h (x := c) (by simp), Zi h (x := a) (by simp), Zi h (x := b) (by simp)]
 case build zs ps =>
  have : ps.map (fun p => (p.1, p.2.1, p.2.2.ev ta)) = ps.map (fun p => (p.1, p.2.1, p.2.2.ev ta')) := List.map_congr_left fun p hp => by
   rw [Zi h (List.mem_map.2 ⟨p, hp, rfl⟩)]
  rw [this]
 case lits s t xs => rw [Xb7 h fun x hx => hx]
 case litr s t xs => rw [Xb7 h fun x hx => hx]
 case ssl x a b =>
  have e1 : a.map (AX.ev ta) = a.map (AX.ev ta') := by cases a with | none => rfl | some y => exact congrArg some (Zi h (by simp))
  have e2 : b.map (AX.ev ta) = b.map (AX.ev ta') := by cases b with | none => rfl | some y => exact congrArg some (Zi h (by simp))
  rw [Zi h (x := x) (by simp), e1, e2]
 case call f xs => rw [Xb7 h fun x hx => hx]
 case mkfn f a b => rw [Xb7 h fun x hx => List.mem_append_left _ hx, Xb7 h fun x hx => List.mem_append_right _ hx]
 case callv x xs => rw [Zi h (x := x) (by simp), Xb7 h fun x hx => List.mem_cons_of_mem _ hx]
 case sl s x a b c =>
  have e1 : a.map (AX.ev ta) = a.map (AX.ev ta') := by cases a with | none => rfl | some y => exact congrArg some (Zi h (by simp))
  have e2 : b.map (AX.ev ta) = b.map (AX.ev ta') := by cases b with | none => rfl | some y => exact congrArg some (Zi h (by simp))
  have e3 : c.map (AX.ev ta) = c.map (AX.ev ta') := by cases c with | none => rfl | some y => exact congrArg some (Zi h (by simp))
  rw [Zi h (x := x) (by simp), e1, e2, e3]
 all_goals first
  | rfl
  | (rename_i x y; rw [Zi h (x := x) (by simp), Zi h (x := y) (by simp)]; done)
  | (rename_i x y z; rw [Zi h (x := x) (by simp), Zi h (x := y) (by simp), Zi h (x := z) (by simp)]; done)
  | (rename_i x _; rw [Zi h (x := x) (by simp)]; done)
  | (rename_i x; rw [Zi h (x := x) (by simp)]; done)

theorem Xk0 {ta : ATm} {H : List AObj} {op : AOp} (h : isE op = false) {v : AV} {H' : List AObj} (he : evO ta H op = .ok v H') : H' = H := by
 have ob : ∀ {x : Option AV}, orBad H x = .ok v H' → H' = H := by
  intro x hx
  unfold orBad at hx
  split at hx <;> simp at hx
  exact hx.2.symm
 cases op <;> simp only [isE, reduceCtorEq] at h <;> simp only [evO] at he
 case pick =>
  split at he
  ·
   unfold pickA at he
   split at he
   ·
    simp at he; exact he.2.symm
   ·
    split at he <;> (simp at he; exact he.2.symm)
  ·
   simp at he
 case bin => exact ob he
 case ssl => exact ob he
 case sl => exact ob he
 case mlk => exact ob he
 case mlen => exact ob he
 all_goals (repeat' split at he) <;> first
  | (simp at he; done)
  | (simp at he; exact he.2.symm)
  | exact (R1.ok.inj he).2.symm

theorem evO_free {ta : ATm} {H : List AObj} {op : AOp} (h : isE op = false) (hr : isR op = false) {v : AV} {H' : List AObj} (he : evO ta H op = .ok v H') (H2 : List AObj) : evO ta H2 op = .ok v H2 := by
 have ob : ∀ {x : Option AV}, orBad H x = .ok v H' → orBad H2 x = .ok v H2 := by
  intro x hx
  unfold orBad at hx ⊢
  split at hx <;> simp at hx
  rw [hx.1]
 cases op <;> simp only [isE, isR, reduceCtorEq] at h hr <;> simp only [evO] at he ⊢
 case pick =>
  split at he
  ·
   unfold pickA at he ⊢
   split at he
   ·
    simp at he ⊢; exact he.1
   ·
    split at he <;> (simp at he ⊢; exact he.1)
  ·
   simp at he
 case bin => exact ob he
 case ssl => exact ob he
 all_goals (repeat' split at he) <;> first
  | (simp at he; done)
  | (simp_all; done)
  | (simp at he ⊢; exact he.1)

def TE (ta ta' : ATm) : Prop := ta.n = ta'.n ∧ ta.ds = ta'.ds ∧ ∀ t, ta.get t = ta'.get t
theorem TE.refl (ta : ATm) : TE ta ta := ⟨rfl, rfl, fun _ => rfl⟩
theorem TE.symm {ta ta' : ATm} (h : TE ta ta') : TE ta' ta := ⟨h.1.symm, h.2.1.symm, fun t => (h.2.2 t).symm⟩
theorem TE.trans {ta ta' ta2 : ATm} (h : TE ta ta') (h' : TE ta' ta2) : TE ta ta2 := ⟨h.1.trans h'.1, h.2.1.trans h'.2.1, fun t => (h.2.2 t).trans (h'.2.2 t)⟩
theorem TE.put {ta ta' : ATm} (h : TE ta ta') (d : Option Nat) (v : AV) : TE (putD ta d v) (putD ta' d v) := by
 cases d with
 | none => exact h
 | some t =>
  refine ⟨h.1, h.2.1, fun u => ?_⟩
  simp only [putD, ATm.get, ATm.put, look]
  split
  ·
   rfl
  ·
   exact h.2.2 u
theorem TE.note {ta : ATm} {d : Nat} {v : AV} (h : ta.get d = v) : TE ta (ta.put d v) := ⟨rfl, rfl, fun t => by
  simp only [ATm.get, ATm.put, look]
  split
  · rename_i e; subst e; exact h
  · rfl⟩
theorem Xo6 {ta : ATm} {d : Option Nat} {v : AV} {t : Nat} (h : d ≠ some t) : (putD ta d v).get t = ta.get t := by
 cases d with
 | none => rfl
 | some u =>
  simp only [putD, ATm.get, ATm.put, look]
  rw [if_neg]
  rintro rfl
  exact h rfl
theorem TE.swap {ta : ATm} {d e : Option Nat} {v u : AV} (h : d.isNone = true ∨ d ≠ e) : TE (putD (putD ta d v) e u) (putD (putD ta e u) d v) := by
 cases d with
 | none => exact TE.refl _
 | some x =>
  cases e with
  | none => exact TE.refl _
  | some y =>
   have hne : x ≠ y := by rintro rfl; rcases h with h | h <;> simp at h
   refine ⟨rfl, rfl, fun t => ?_⟩
   simp only [putD, ATm.get, ATm.put, look]
   by_cases h1 : y = t
   ·
    subst h1; rw [if_pos rfl, if_neg hne, if_pos rfl]
   ·
    rw [if_neg h1]
    by_cases h2 : x = t
    ·
     rw [if_pos h2, if_pos h2]
    ·
     rw [if_neg h2, if_neg h2, if_neg h1]
theorem AR.te {K : (Nat → Option Obj)} {ρ : (Nat → Option Loc)} {ta ta' : ATm} {a : Act} (h : AR K ρ ta a) (he : TE ta ta') : AR K ρ ta' a :=
 ⟨h.size.trans he.1, fun t => he.2.2 t ▸ h.tmps t, he.2.1 ▸ h.defers⟩
theorem okD_te {ta ta' : ATm} {d : Option Nat} (he : TE ta ta') (h : okD ta d) : okD ta' d := by
 cases d with
 | none => trivial
 | some t => exact (he.1 ▸ h : t < ta'.n)
theorem Xnd {ta : ATm} {d e : Option Nat} {v : AV} : okD (putD ta e v) d ↔ okD ta d := by
 cases d <;> cases e <;> exact Iff.rfl

structure Rd where
 ix : Nat
 ta : ATm
 op : AOp
 v : AV
def Chk (bef : List Nat) (H : List AObj) : List Rd → Prop
 | [] => True
 | r :: rs => (r.ix ∈ bef ∨ evO r.ta H r.op = .ok r.v H) ∧ Chk bef H rs
theorem chk_iff {bef : List Nat} {H : List AObj} : ∀ {rd : List Rd}, Chk bef H rd ↔ ∀ r ∈ rd, r.ix ∈ bef ∨ evO r.ta H r.op = .ok r.v H
 | [] => by simp [Chk]
 | r :: rs => by simp [Chk, chk_iff (rd := rs)]
def RdE (rd rd' : List Rd) : Prop := ∀ r' ∈ rd', ∃ r ∈ rd, r.ix = r'.ix ∧ r.op = r'.op ∧ r.v = r'.v ∧ ∀ t ∈ uses r'.op, r.ta.get t = r'.ta.get t
theorem RdE.refl (rd : List Rd) : RdE rd rd := fun r h => ⟨r, h, rfl, rfl, rfl, fun _ _ => rfl⟩
theorem Chk.rde {bef : List Nat} {H : List AObj} {rd rd' : List Rd} (h : Chk bef H rd) (he : RdE rd rd') : Chk bef H rd' := by
 rw [chk_iff] at *
 intro r' hr'
 obtain ⟨r, hr, e1, e2, e3, e4⟩ := he r' hr'
 rw [← e1, ← e2, ← e3]
 rcases h r hr with h | h
 ·
  exact .inl h
 ·
  exact .inr (by rw [← h]; exact (Xde (fun t ht => e4 t (e2 ▸ ht))).symm)

def rcd (y : DOp) (ta : ATm) (v : AV) (rd : List Rd) : List Rd := match y.rd with
 | true => ⟨y.ix, ta, y.o.op, v⟩ :: rd
 | false => rd

section
variable (P : Program) (n0 : Nat)
def DGo (y : DOp) (K : ATm → List AObj → List Rd → Prop) (Qp : AV → List AObj → Prop) (rd : List Rd) (H : List AObj) (ta : ATm) : Prop := match isE y.o.op with
 | true => match evO ta H y.o.op with
  | .ok v H' => Chk y.bef H' rd ∧ K (putD ta y.o.dst v) H' rd
  | .call f args => Xa P f args H fun e H' => match e with
   | .ret v => n0 ≤ H'.length ∧ Chk y.bef H' rd ∧ K (putD ta y.o.dst v) H' rd
   | .pan v => Qp v H'
  | .pan v => Qp v H
  | .bad => False
 | false => match evO ta H y.o.op with
  | .ok v H' => K (putD ta y.o.dst v) H' (rcd y ta v rd)
  | _ => False
def DStep (y : DOp) (K : ATm → List AObj → List Rd → Prop) (Qp : AV → List AObj → Prop) (ta : ATm) (H : List AObj) (rd : List Rd) : Prop :=
 okD ta y.o.dst ∧ match y.o.guard with
  | none => DGo P n0 y K Qp rd H ta
  | some (d, want) => match ta.get d with
   | .bool b => (b = want → DGo P n0 y K Qp rd H (ta.put d (.bool want))) ∧ (b = !want → K (putD (ta.put d (.bool !want)) y.o.dst (.tup [])) H rd)
   | .tup [] => K (putD ta y.o.dst (.tup [])) H rd
   | _ => False
def DM (Q : ATm → List AObj → Prop) (Qp : AV → List AObj → Prop) : List DOp → ATm → List AObj → List Rd → Prop
 | [], ta, H, rd => Q ta H
 | y :: ys, ta, H, rd => DStep P n0 y (DM Q Qp ys) Qp ta H rd

def Wt (y : DOp) (ta : ATm) : Prop := match y.o.guard with
 | none => True
 | some (d, want) => ta.get d = .bool want
def Uw (y : DOp) (ta : ATm) : Prop := match y.o.guard with
 | none => False
 | some (d, want) => ta.get d = .bool !want ∨ ta.get d = .tup []
def DS (y : DOp) (K : ATm → List AObj → List Rd → Prop) (Qp : AV → List AObj → Prop) (ta : ATm) (H : List AObj) (rd : List Rd) : Prop :=
 okD ta y.o.dst ∧ ((Wt y ta ∧ DGo P n0 y K Qp rd H ta) ∨ (Uw y ta ∧ K (putD ta y.o.dst (.tup [])) H rd))
end

section
variable {P : Program} {n0 : Nat}
def CK (K K' : ATm → List AObj → List Rd → Prop) : Prop := ∀ ta H rd ta' rd', TE ta ta' → RdE rd rd' → K ta H rd → K' ta' H rd'

theorem RdE.rcd {rd rd' : List Rd} (h : RdE rd rd') {y : DOp} {ta ta' : ATm} {v : AV} (ht : ∀ t ∈ uses y.o.op, ta.get t = ta'.get t) : RdE (rcd y ta v rd) (rcd y ta' v rd') := by
 unfold AI.rcd
 cases y.rd with
 | false => exact h
 | true =>
  intro r' hr'
  rcases List.mem_cons.1 hr' with rfl | hr'
  ·
   exact ⟨_, List.mem_cons_self, rfl, rfl, rfl, ht⟩
  ·
   obtain ⟨r, hr, e⟩ := h r' hr'
   exact ⟨r, List.mem_cons_of_mem _ hr, e⟩

theorem DGo.ck {y : DOp} {K K' : ATm → List AObj → List Rd → Prop} {Qp : AV → List AObj → Prop} (hK : CK K K') {ta ta' : ATm} {rd rd' : List Rd} (ht : TE ta ta') (hr : RdE rd rd') {H : List AObj} (h : DGo P n0 y K Qp rd H ta) : DGo P n0 y K' Qp rd' H ta' := by
 unfold DGo at *
 rw [← Xde (ta := ta) (ta' := ta') fun t _ => ht.2.2 t]
 cases hE : isE y.o.op with
 | true =>
  rw [hE] at h
  simp only at h ⊢
  cases hev : evO ta H y.o.op with
  | ok v H' => rw [hev] at h; exact ⟨h.1.rde hr, hK _ _ _ _ _ (ht.put _ _) hr h.2⟩
  | call f args =>
   rw [hev] at h
   refine Xa.mono h fun e H' he => ?_
   cases e with
   | ret v => exact ⟨he.1, he.2.1.rde hr, hK _ _ _ _ _ (ht.put _ _) hr he.2.2⟩
   | pan v => exact he
  | pan v => rw [hev] at h; exact h
  | bad => rw [hev] at h; exact h
 | false =>
  rw [hE] at h
  simp only at h ⊢
  cases hev : evO ta H y.o.op with
  | ok v H' => rw [hev] at h; exact hK _ _ _ _ _ (ht.put _ _) (hr.rcd fun t _ => ht.2.2 t) h
  | call f args => rw [hev] at h; exact h
  | pan v => rw [hev] at h; exact h
  | bad => rw [hev] at h; exact h

theorem Wt.te {y : DOp} {ta ta' : ATm} (he : ∀ t ∈ JZ y.o, ta.get t = ta'.get t) (h : Wt y ta) : Wt y ta' := by
  unfold Wt JZ at *
  split at h
  · trivial
  · rename_i d w hg; rw [hg] at he; rw [← he d (by simp)]; exact h
theorem Uw.te {y : DOp} {ta ta' : ATm} (he : ∀ t ∈ JZ y.o, ta.get t = ta'.get t) (h : Uw y ta) : Uw y ta' := by
  unfold Uw JZ at *
  split at h
  · exact h.elim
  · rename_i d w hg; rw [hg] at he; rw [← he d (by simp)]; exact h

theorem DS.ck {y : DOp} {K K' : ATm → List AObj → List Rd → Prop} {Qp : AV → List AObj → Prop} (hK : CK K K') : CK (DS P n0 y K Qp) (DS P n0 y K' Qp) := by
 intro ta H rd ta' rd' ht hr h
 refine ⟨okD_te ht h.1, ?_⟩
 rcases h.2 with ⟨h1, h2⟩ | ⟨h1, h2⟩
 ·
  exact .inl ⟨h1.te fun t _ => ht.2.2 t, h2.ck hK ht hr⟩
 ·
  exact .inr ⟨h1.te fun t _ => ht.2.2 t, hK _ _ _ _ _ (ht.put _ _) hr h2⟩

theorem DStep.ds {y : DOp} {K K' : ATm → List AObj → List Rd → Prop} {Qp : AV → List AObj → Prop} (hK : CK K K') {ta : ATm} {H : List AObj} {rd : List Rd} (h : DStep P n0 y K Qp ta H rd) : DS P n0 y K' Qp ta H rd := by
 unfold DStep at h
 refine ⟨h.1, ?_⟩
 have h2 := h.2
 cases hg : y.o.guard with
 | none =>
  rw [hg] at h2
  exact .inl ⟨by unfold Wt; rw [hg]; trivial, DGo.ck hK (TE.refl _) (RdE.refl _) h2⟩
 | some g =>
  obtain ⟨d, want⟩ := g
  rw [hg] at h2
  simp only at h2
  split at h2
  ·
   rename_i b hb
   by_cases hw : b = want
   ·
    subst hw
    exact .inl ⟨by unfold Wt; rw [hg]; exact hb, DGo.ck hK (TE.note hb).symm (RdE.refl _) (h2.1 rfl)⟩
   ·
    have hbn : b = !want := by cases b <;> cases want <;> simp_all
    rw [hbn] at hb
    exact .inr ⟨by unfold Uw; rw [hg]; exact .inl hb, hK _ _ _ _ _ ((TE.note hb).symm.put _ _) (RdE.refl _) (h2.2 hbn)⟩
  ·
   rename_i hb
   exact .inr ⟨by unfold Uw; rw [hg]; exact .inr hb, hK _ _ _ _ _ (TE.refl _) (RdE.refl _) h2⟩
  ·
   exact h2.elim

variable (P n0) in
def DN (Q : ATm → List AObj → Prop) (Qp : AV → List AObj → Prop) : List DOp → ATm → List AObj → List Rd → Prop
 | [], ta, H, rd => Q ta H
 | y :: ys, ta, H, rd => DS P n0 y (DN Q Qp ys) Qp ta H rd

theorem DN.ck {Q : ATm → List AObj → Prop} {Qp : AV → List AObj → Prop} (hQ : ∀ ta ta' H, TE ta ta' → Q ta H → Q ta' H) : ∀ ys, CK (DN P n0 Q Qp ys) (DN P n0 Q Qp ys)
 | [] => fun ta H rd ta' rd' ht _ h => hQ _ _ _ ht h
 | y :: ys => DS.ck (DN.ck hQ ys)

theorem DM.dn {Q : ATm → List AObj → Prop} {Qp : AV → List AObj → Prop} (hQ : ∀ ta ta' H, TE ta ta' → Q ta H → Q ta' H) : ∀ {ys : List DOp} {ta : ATm} {H : List AObj} {rd : List Rd}, DM P n0 Q Qp ys ta H rd → DN P n0 Q Qp ys ta H rd
 | [], _, _, _, h => h
 | y :: ys, _, _, _, h => DStep.ds (K := DM P n0 Q Qp ys) (fun ta H rd ta' rd' ht hr h => DN.ck hQ ys _ _ _ _ _ ht hr (DM.dn hQ h)) h

theorem DStep.mono {y : DOp} {K K' : ATm → List AObj → List Rd → Prop} {Qp : AV → List AObj → Prop} (hK : ∀ ta H rd, K ta H rd → K' ta H rd) {ta : ATm} {H : List AObj} {rd : List Rd} (h : DStep P n0 y K Qp ta H rd) : DStep P n0 y K' Qp ta H rd := by
 have go : ∀ ta, DGo P n0 y K Qp rd H ta → DGo P n0 y K' Qp rd H ta := by
  intro ta h
  unfold DGo at *
  cases hE : isE y.o.op with
  | true =>
   rw [hE] at h
   simp only at h ⊢
   cases hev : evO ta H y.o.op with
   | ok v H' => rw [hev] at h; exact ⟨h.1, hK _ _ _ h.2⟩
   | call f args =>
    rw [hev] at h
    refine Xa.mono h fun e H' he => ?_
    cases e with
    | ret v => exact ⟨he.1, he.2.1, hK _ _ _ he.2.2⟩
    | pan v => exact he
   | pan v => rw [hev] at h; exact h
   | bad => rw [hev] at h; exact h
  | false =>
   rw [hE] at h
   simp only at h ⊢
   cases hev : evO ta H y.o.op with
   | ok v H' => rw [hev] at h; exact hK _ _ _ h
   | call f args => rw [hev] at h; exact h
   | pan v => rw [hev] at h; exact h
   | bad => rw [hev] at h; exact h
 unfold DStep at *
 refine ⟨h.1, ?_⟩
 have h2 := h.2
 split
 ·
  rename_i hg; rw [hg] at h2; exact go _ h2
 ·
  rename_i d want hg
  rw [hg] at h2
  simp only at h2
  cases hx : ta.get d with
  | bool b =>
   rw [hx] at h2
   exact ⟨fun e => go _ (h2.1 e), fun e => hK _ _ _ (h2.2 e)⟩
  | tup l =>
   rw [hx] at h2
   cases l with
   | nil => exact hK _ _ _ h2
   | cons => exact h2
  | _ => rw [hx] at h2; exact h2

theorem DM.post {Q Q' : ATm → List AObj → Prop} {Qp : AV → List AObj → Prop} (hq : ∀ ta H, Q ta H → Q' ta H) : ∀ (ys : List DOp) {ta : ATm} {H : List AObj} {rd : List Rd}, DM P n0 Q Qp ys ta H rd → DM P n0 Q' Qp ys ta H rd
 | [], _, _, _, h => hq _ _ h
 | y :: ys, _, _, _, h => DStep.mono (K := DM P n0 Q Qp ys) (fun ta H rd h => DM.post hq ys h) h

theorem DS.move {z y : DOp} {K K' : ATm → List AObj → List Rd → Prop} {Qp : AV → List AObj → Prop} (hK : CK K K') (hz : isE z.o.op = false) (hzy : z.ix ∉ y.bef) (hd : z.o.dst.isNone = true ∨ z.o.dst ≠ y.o.dst)
  (hu1 : ∀ t ∈ uses z.o.op ++ JZ z.o, y.o.dst ≠ some t) (hu2 : ∀ t ∈ uses y.o.op ++ JZ y.o, z.o.dst ≠ some t) (hrr : z.rd = true ∨ isR z.o.op = false ∨ isE y.o.op = false) {ta : ATm} {H : List AObj} {rd : List Rd}
  (h : DS P n0 z (DS P n0 y K Qp) Qp ta H rd) : DS P n0 y (DS P n0 z K' Qp) Qp ta H rd := by
 obtain ⟨hok, h⟩ := h
 -- z, told on its own
 have hz' : ∃ v rd1, DS P n0 y K Qp (putD ta z.o.dst v) H rd1 ∧ RdE rd1 rd ∧ ∀ (u : AV) (H' : List AObj) (rdy rdy' : List Rd), (H' = H ∨ (isE y.o.op = true ∧ Chk y.bef H' rd1)) → RdE rdy rdy' → (∀ r ∈ rd1, r ∈ rdy) → K (putD (putD ta z.o.dst v) y.o.dst u) H' rdy → DS P n0 z K' Qp (putD ta y.o.dst u) H' rdy' := by
  have te : ∀ u, ∀ t ∈ uses z.o.op ++ JZ z.o, (putD ta y.o.dst u).get t = ta.get t := fun u t ht => Xo6 (hu1 t ht)
  rcases h with ⟨h1, h2⟩ | ⟨h1, h2⟩
  ·
   unfold DGo at h2
   rw [hz] at h2
   simp only at h2
   cases hev : evO ta H z.o.op with
   | ok v H1 =>
    rw [hev] at h2
    simp only at h2
    cases Xk0 hz hev
    refine ⟨v, _, h2, ?_, ?_⟩
    ·
     intro r hr
     refine ⟨r, ?_, rfl, rfl, rfl, fun _ _ => rfl⟩
     unfold rcd
     split
     ·
      exact List.mem_cons_of_mem _ hr
     ·
      exact hr
    ·
     intro u H' rdy rdy' hH hr hsub hk
     refine ⟨Xnd.2 hok, .inl ⟨h1.te fun t ht => (te u t (List.mem_append_right _ ht)).symm, ?_⟩⟩
     have ev : evO (putD ta y.o.dst u) H' z.o.op = .ok v H' := by
      rw [Xde (fun t ht => te u t (List.mem_append_left _ ht))]
      rcases hH with rfl | hH
      ·
       exact hev
      ·
       rcases hrr with hR | hR | hR
       ·
        have hH := hH.2
        simp only [rcd, hR, Chk] at hH
        exact hH.1.resolve_left hzy
       ·
        exact evO_free hz hR hev H'
       ·
        rw [hH.1] at hR; cases hR
     unfold DGo
     rw [hz, ev]
     refine hK _ _ _ _ _ (TE.swap hd) ?_ hk
     unfold rcd at hsub ⊢
     cases hR : z.rd with
     | false => exact hr
     | true =>
      rw [hR] at hsub
      intro r' hr'
      rcases List.mem_cons.1 hr' with rfl | hr'
      ·
       exact ⟨_, hsub _ List.mem_cons_self, rfl, rfl, rfl, fun t ht => (te u t (List.mem_append_left _ ht)).symm⟩
      ·
       exact hr r' hr'
   | call f args => rw [hev] at h2; exact h2.elim
   | pan v => rw [hev] at h2; exact h2.elim
   | bad => rw [hev] at h2; exact h2.elim
  ·
   refine ⟨.tup [], rd, h2, RdE.refl _, ?_⟩
   intro u H' rdy rdy' hH hr hsub hk
   exact ⟨Xnd.2 hok, .inr ⟨h1.te fun t ht => (te u t (List.mem_append_right _ ht)).symm, hK _ _ _ _ _ (TE.swap hd) hr hk⟩⟩
 obtain ⟨v, rd1, hy, hrd, hgo⟩ := hz'
 have ty : ∀ t ∈ uses y.o.op ++ JZ y.o, (putD ta z.o.dst v).get t = ta.get t := fun t ht => Xo6 (hu2 t ht)
 obtain ⟨hok2, hy⟩ := hy
 refine ⟨Xnd.1 hok2, ?_⟩
 rcases hy with ⟨h1, h2⟩ | ⟨h1, h2⟩
 ·
  refine .inl ⟨h1.te fun t ht => ty t (List.mem_append_right _ ht), ?_⟩
  unfold DGo at h2 ⊢
  rw [Xde (ta' := ta) fun t ht => ty t (List.mem_append_left _ ht)] at h2
  cases hE : isE y.o.op with
  | true =>
   rw [hE] at h2
   simp only at h2 ⊢
   cases hev : evO ta H y.o.op with
   | ok u H' =>
    rw [hev] at h2
    exact ⟨h2.1.rde hrd, hgo u H' rd1 rd (.inr ⟨hE, h2.1⟩) hrd (fun _ h => h) h2.2⟩
   | call f args =>
    rw [hev] at h2
    refine Xa.mono h2 fun e H' he => ?_
    cases e with
    | ret u => exact ⟨he.1, he.2.1.rde hrd, hgo u H' rd1 rd (.inr ⟨hE, he.2.1⟩) hrd (fun _ h => h) he.2.2⟩
    | pan v => exact he
   | pan v => rw [hev] at h2; exact h2
   | bad => rw [hev] at h2; exact h2
  | false =>
   rw [hE] at h2
   simp only at h2 ⊢
   cases hev : evO ta H y.o.op with
   | ok u H' =>
    rw [hev] at h2
    simp only at h2 ⊢
    cases Xk0 hE hev
    refine hgo u H (rcd y (putD ta z.o.dst v) u rd1) _ (.inl rfl) (hrd.rcd fun t ht => ty t (List.mem_append_left _ ht)) ?_ h2
    intro r hr
    unfold rcd
    split
    ·
     exact List.mem_cons_of_mem _ hr
    ·
     exact hr
   | call f args => rw [hev] at h2; exact h2
   | pan v => rw [hev] at h2; exact h2
   | bad => rw [hev] at h2; exact h2
 ·
  exact .inr ⟨h1.te fun t ht => ty t (List.mem_append_right _ ht), hgo (.tup []) H rd1 rd (.inl rfl) hrd (fun _ h => h) h2⟩

def Pair (z y : DOp) : Prop := z.ix ≠ y.ix ∧ y.ix ∉ z.bef ∧ (z.ix ∉ y.bef → isE z.o.op = false ∧ (z.o.dst.isNone = true ∨ z.o.dst ≠ y.o.dst) ∧ (∀ t ∈ uses z.o.op ++ JZ z.o, y.o.dst ≠ some t) ∧ (∀ t ∈ uses y.o.op ++ JZ y.o, z.o.dst ≠ some t) ∧ (z.rd = true ∨ isR z.o.op = false ∨ isE y.o.op = false))

theorem DN.first {Q : ATm → List AObj → Prop} {Qp : AV → List AObj → Prop} (hQ : ∀ ta ta' H, TE ta ta' → Q ta H → Q ta' H) {y : DOp} {post : List DOp} : ∀ {pre : List DOp} {ta : ATm} {H : List AObj} {rd : List Rd}, (∀ z ∈ pre, Pair z y ∧ z.ix ∉ y.bef) → DN P n0 Q Qp (pre ++ y :: post) ta H rd → DS P n0 y (DN P n0 Q Qp (pre ++ post)) Qp ta H rd
 | [], _, _, _, _, h => h
 | z :: pre, ta, H, rd, hp, h => by
  have ih : CK (DN P n0 Q Qp (pre ++ y :: post)) (DS P n0 y (DN P n0 Q Qp (pre ++ post)) Qp) := fun ta H rd ta' rd' ht hr h =>
   DS.ck (DN.ck hQ _) _ _ _ _ _ ht hr (DN.first hQ (fun z hz => hp z (List.mem_cons_of_mem _ hz)) h)
  have h' := DS.ck (y := z) (P := P) (n0 := n0) (Qp := Qp) ih _ _ _ _ _ (TE.refl _) (RdE.refl _) h
  obtain ⟨hpz, hzy⟩ := hp z List.mem_cons_self
  obtain ⟨h1, h2, h3, h4, h5⟩ := hpz.2.2 hzy
  exact DS.move (DN.ck hQ _) h1 hzy h2 h3 h4 h5 h'

theorem Xdc {l : Array Bool} {j : Nat} : l.getD j true = false ↔ l[j]? = some false := by
 rw [Array.getD_eq_getD_getElem?]
 cases h : l[j]? with
 | none => simp
 | some b => cases b <;> simp
theorem Xfp {l : Array Bool} {j : Nat} : l.getD j false = true ↔ l[j]? = some true := by
 rw [Array.getD_eq_getD_getElem?]
 cases h : l[j]? with
 | none => simp
 | some b => cases b <;> simp

structure Drawn (P : Program) (ops : Array Oper) (L0 : Nat → Prop) (ys0 : List DOp) : Prop where
 op : ∀ y ∈ ys0, ∃ o, ops[y.ix]? = some o ∧ Xce P o.op = some y.o.op ∧ o.dst = y.o.dst ∧ ZM ops o.guard = some y.o.guard ∧ (∀ e ∈ o.after, Region.binds .any e = true → e.on ∈ y.bef) ∧
  ∀ b ∈ y.bef, b < ops.size ∧ (L0 b ∨ ∃ e ∈ o.after, Region.binds .any e = true ∧ (b = e.on ∨ ∃ z ∈ ys0, z.ix = e.on ∧ b ∈ z.bef))
 pairs : ys0.Pairwise Pair
 self : ∀ y ∈ ys0, y.ix ∉ y.bef
 all : ∀ i, i < ops.size → ∃ y ∈ ys0, y.ix = i

theorem Xes {a : Act} {d e : Option Nat} {u : Value} (he : d = e) : ∀ t, e ≠ some t → (a.put d u).tmps.getD t undef = a.tmps.getD t undef := by
 subst he
 intro t ht
 cases d with
 | none => rfl
 | some d =>
  have : d ≠ t := fun h => ht (by rw [h])
  simp only [Act.put, Array.getD_eq_getD_getElem?, Array.getElem?_setIfInBounds_ne this]
theorem Xim {y : DOp} {o : Oper} {ops : Array Oper} (ho : ops[y.ix]? = some o) (hc : Xce P o.op = some y.o.op) (hdst : o.dst = y.o.dst) (hgd : ZM ops o.guard = some y.o.guard) {QQ : AExit → ATm → List AObj → Prop} {n : Nat} {ds : List (Fn × List AV × List AV)} {G G2 : Gh} {K0 : (Nat → Option Obj)} {ρ0 : (Nat → Option Loc)}
  {KK : ATm → List AObj → List Rd → Prop} {WW : Act → World → Prop} {ta : ATm} {H : List AObj} {K : (Nat → Option Obj)} {ρ : (Nat → Option Loc)} {w : World} {a : Act} (hS : DS P n0 y KK (fun v H => QQ (.pan v) ⟨n, [], ds⟩ H) ta H []) (hn : n0 ≤ H.length) (hN : Next G n0 K0 ρ0 K ρ H w) (hA : AR K ρ ta a) (hsub : ∀ {K' : (Nat → Option Obj)} {ρ' : (Nat → Option Loc)} {H' : List AObj} {w' : World}, Next G n0 K0 ρ0 K' ρ' H' w' → Next G2 n0 K0 ρ0 K' ρ' H' w') (htn : ta.n = n ∧ ta.ds = ds)
  (next : ∀ (ta' : ATm) (H' : List AObj) (rd' : List Rd) (K' : (Nat → Option Obj)) (ρ' : (Nat → Option Loc)) (w' : World) (a' : Act), KK ta' H' rd' → n0 ≤ H'.length → Next G n0 K0 ρ0 K' ρ' H' w' → AR K' ρ' ta' a' → ta'.n = n ∧ ta'.ds = ds → (∀ t, y.o.dst ≠ some t → a'.tmps.getD t undef = a.tmps.getD t undef) → WW a' w') :
  wpOp P ops (fun e a' w' => ∃ K' ρ' ae ta' H', QQ ae ta' H' ∧ ExR K' ρ' ae e ∧ AR K' ρ' ta' a' ∧ Next G2 n0 K0 ρ0 K' ρ' H' w') y.ix WW a w := by
 have hput : ∀ d v, (putD ta d v).n = n ∧ (putD ta d v).ds = ds := fun d v => by cases d <;> exact htn
 unfold wpOp
 rw [ho]
 simp only
 obtain ⟨hd, hS⟩ := hS
 rcases hS with ⟨hW, hG⟩ | ⟨hU, hK⟩
 ·
  have hwant : Region.wanted o (yielded ops a.tmps) = true := by
   unfold Wt at hW
   cases hguard : y.o.guard with
   | none => rw [hguard] at hgd; exact Xd9 hgd
   | some g =>
    obtain ⟨d, want⟩ := g
    rw [hguard] at hW hgd
    have hbv := hA.tmps d
    rw [hW] at hbv
    rw [Xd8 hgd (QW hbv)]
    simp
  rw [if_pos hwant]
  left
  have hgood := good_op (P := P) (o := o) (a := a) hN.rel hA hc
  have hG' : match evO ta H y.o.op with
   | .ok v H' => ∃ rd, KK (putD ta y.o.dst v) H' rd
   | .call f args => Xa P f args H fun e H' => match e with
    | .ret v => n0 ≤ H'.length ∧ KK (putD ta y.o.dst v) H' []
    | .pan v => QQ (.pan v) ⟨n, [], ds⟩ H'
   | .pan v => QQ (.pan v) ⟨n, [], ds⟩ H
   | .bad => False := by
   unfold DGo at hG
   cases hE : isE y.o.op with
   | true =>
    rw [hE] at hG
    simp only at hG
    cases hev : evO ta H y.o.op with
    | ok v H' => rw [hev] at hG; exact ⟨_, hG.2⟩
    | call f args =>
     rw [hev] at hG
     refine Xa.mono hG fun e H' he => ?_
     cases e with
     | ret v => exact ⟨he.1, he.2.2⟩
     | pan v => exact he
    | pan v => rw [hev] at hG; exact hG
    | bad => rw [hev] at hG; exact hG
   | false =>
    rw [hE] at hG
    simp only at hG
    cases hev : evO ta H y.o.op with
    | ok v H' => rw [hev] at hG; exact ⟨_, hG⟩
    | call f args => rw [hev] at hG; exact hG.elim
    | pan v => rw [hev] at hG; exact hG.elim
    | bad => rw [hev] at hG; exact hG.elim
  unfold Oper.wp
  cases hev : evO ta H y.o.op with
  | ok v H' =>
   rw [hev] at hG' hgood
   obtain ⟨rd, hG'⟩ := hG'
   obtain ⟨nx, u, w', K', ρ', hrun, hnx, hv, hN'⟩ := hgood
   have hA' : AR K' ρ' (putD ta y.o.dst v) (a.put o.dst u) := by
    rw [hdst]
    exact (hA.mono hN'.keep (hN'.rle hN.rel)).putD hd hv
   have hrest := next _ _ rd K' ρ' w' (a.put o.dst u) hG' (Nat.le_trans hn (Xe4 hev)) (hN.trans hN' hn) hA' (hput _ _) (Xes hdst)
   rw [hrun]
   rcases hnx with rfl | ⟨rfl, rfl⟩
   ·
    exact hrest
   ·
    exact hrest
  | call f args =>
   rw [hev] at hG' hgood
   obtain ⟨us, hVs, hrun⟩ := hgood
   rw [hrun hG'.1]
   show Calls P f us w _
   refine (hG'.2 G K ρ w us hN.rel hVs).mono ?_
   rintro e w' ⟨K', ρ', ae, H', hQ', hE, hN'⟩
   cases ae with
   | ret v =>
    cases e <;> try exact hE.elim
    rename_i u
    have hv : VR K' ρ' v u := hE
    have hA' : AR K' ρ' (putD ta y.o.dst v) (a.put o.dst u) := by
     rw [hdst]
     exact (hA.mono hN'.keep (hN'.rle hN.rel)).putD hd hv
    exact next _ _ [] K' ρ' w' (a.put o.dst u) hQ'.2 hQ'.1 (hN.trans hN' hn) hA' (hput _ _) (Xes hdst)
   | pan v =>
    cases e <;> try exact hE.elim
    obtain ⟨u, rfl, hv⟩ := hE
    have hA2 := hA.mono hN'.keep (hN'.rle hN.rel)
    exact ⟨K', ρ', .pan v, ⟨n, [], ds⟩, H', hQ', ⟨u, rfl, hv⟩, ⟨hA2.size.trans htn.1, fun t => .any, htn.2 ▸ hA2.defers⟩, hsub (hN.trans hN' hn)⟩
  | pan v =>
   rw [hev] at hG' hgood
   obtain ⟨u, hrun, hv⟩ := hgood
   rw [hrun]
   exact ⟨K, ρ, .pan v, ⟨n, [], ds⟩, H, hG', ⟨u, rfl, hv⟩, ⟨hA.size.trans htn.1, fun t => .any, htn.2 ▸ hA.defers⟩, hsub hN⟩
  | bad => rw [hev] at hG'; exact hG'.elim
 ·
  have hwant : Region.wanted o (yielded ops a.tmps) = false := by
   unfold Uw at hU
   cases hguard : y.o.guard with
   | none => rw [hguard] at hU; exact hU.elim
   | some g =>
    obtain ⟨d, want⟩ := g
    rw [hguard] at hU hgd
    have hbv := hA.tmps d
    rcases hU with hU | hU
    ·
     rw [hU] at hbv
     rw [Xd8 hgd (QW hbv)]
     cases want <;> rfl
    ·
     rw [hU] at hbv
     exact Xfz hgd (Xlz hbv)
  rw [if_neg (by simp [hwant])]
  have hA' : AR K ρ (putD ta y.o.dst (.tup [])) (a.put o.dst undef) := by
   rw [hdst]
   exact hA.putD hd VR.undef
  exact next _ _ [] K ρ w _ hK hn hN hA' (hput _ _) (Xes hdst)
theorem Xfq {y : DOp} {o : Oper} {ops : Array Oper} (ho : ops[y.ix]? = some o) (hc : Xce P o.op = some y.o.op) (hdst : o.dst = y.o.dst) (hgd : ZM ops o.guard = some y.o.guard) {QQ : AExit → ATm → List AObj → Prop} {n : Nat} {ds : List (Fn × List AV × List AV)} {G : Gh} {K0 : (Nat → Option Obj)} {ρ0 : (Nat → Option Loc)}
  {KK : ATm → List AObj → List Rd → Prop} {WW : Act → World → Prop} {ta : ATm} {H : List AObj} {K : (Nat → Option Obj)} {ρ : (Nat → Option Loc)} {w : World} {a : Act} (hS : DS P n0 y KK (fun v H => QQ (.pan v) ⟨n, [], ds⟩ H) ta H []) (hn : n0 ≤ H.length) (hN : Next G n0 K0 ρ0 K ρ H w) (hA : AR K ρ ta a) (htn : ta.n = n ∧ ta.ds = ds)
  (next : ∀ (ta' : ATm) (H' : List AObj) (rd' : List Rd) (K' : (Nat → Option Obj)) (ρ' : (Nat → Option Loc)) (w' : World) (a' : Act), KK ta' H' rd' → n0 ≤ H'.length → Next G n0 K0 ρ0 K' ρ' H' w' → AR K' ρ' ta' a' → ta'.n = n ∧ ta'.ds = ds → WW a' w') :
  wpOp P ops (fun e a' w' => ∃ K' ρ' ae ta' H', QQ ae ta' H' ∧ ExR K' ρ' ae e ∧ AR K' ρ' ta' a' ∧ Next G n0 K0 ρ0 K' ρ' H' w') y.ix WW a w :=
 Xim ho hc hdst hgd hS hn hN hA (fun h => h) htn fun ta' H' rd' K' ρ' w' a' h1 h2 h3 h4 h5 _ => next ta' H' rd' K' ρ' w' a' h1 h2 h3 h4 h5
theorem Xmj {ops : Array Oper} {ys0 : List DOp} {L0 : Nat → Prop} (hD : Drawn P ops L0 ys0) {QQ : AExit → ATm → List AObj → Prop} {n : Nat} {ds : List (Fn × List AV × List AV)} {G : Gh} {K0 : (Nat → Option Obj)} {ρ0 : (Nat → Option Loc)} :
  ∀ (fuel : Nat) (ys : List DOp) (listed : Array Bool) (ta : ATm) (H : List AObj) (K : (Nat → Option Obj)) (ρ : (Nat → Option Loc)) (w : World) (a : Act),
   (∀ b, L0 b → listed[b]? = some true) → ys.Sublist ys0 → listed.size = ops.size → (∀ y ∈ ys0, listed[y.ix]? = some true ∨ y ∈ ys) → (∀ y ∈ ys, listed[y.ix]? = some false) → (∀ y ∈ ys0, listed[y.ix]? = some true → ∀ b ∈ y.bef, listed[b]? = some true) → ys.length ≤ fuel →
   DN P n0 (fun ta H => ∃ ta0, TE ta0 ta ∧ QQ .normal ta0 H) (fun v H => QQ (.pan v) ⟨n, [], ds⟩ H) ys ta H [] → n0 ≤ H.length → Next G n0 K0 ρ0 K ρ H w → AR K ρ ta a → ta.n = n ∧ ta.ds = ds →
   wpAny P .any ops (fun e a' w' => ∃ K' ρ' ae ta' H', QQ ae ta' H' ∧ ExR K' ρ' ae e ∧ AR K' ρ' ta' a' ∧ Next G n0 K0 ρ0 K' ρ' H' w') fuel listed a w := by
 have hQ : ∀ ta ta' H, TE ta ta' → (∃ ta0, TE ta0 ta ∧ QQ .normal ta0 H) → ∃ ta0, TE ta0 ta' ∧ QQ .normal ta0 H := fun ta ta' H ht ⟨ta0, h1, h2⟩ => ⟨ta0, h1.trans ht, h2⟩
 intro fuel
 induction fuel with
 | zero =>
  intro ys listed ta H K ρ w a hL0 hs hsz h1 h2 h3 hl hM hn hN hA htn
  cases ys with
  | cons => simp at hl
  | nil =>
   refine ⟨?_, ?_⟩
   ·
    cases hr : Region.ready .any ops listed with
    | nil => rfl
    | cons j _ =>
     exfalso
     have hj : j ∈ Region.ready .any ops listed := by rw [hr]; exact List.mem_cons_self
     obtain ⟨hj0, o, ho, _⟩ := mem_ready.1 hj
     obtain ⟨y, hy, rfl⟩ := hD.all j (Array.getElem?_eq_some_iff.1 ho).1
     rw [Xdc] at hj0
     rcases h1 y hy with h | h
     ·
      rw [hj0] at h; cases h
     ·
      cases h
   ·
    obtain ⟨ta0, ht, hq⟩ := hM
    exact ⟨K, ρ, .normal, ta0, H, hq, trivial, hA.te ht.symm, hN⟩
 | succ fuel ih =>
  intro ys listed ta H K ρ w a hL0 hs hsz h1 h2 h3 hl hM hn hN hA htn
  refine ⟨fun hr => ?_, fun i hi => ?_⟩
  ·
   cases ys with
   | nil =>
    obtain ⟨ta0, ht, hq⟩ := hM
    exact ⟨K, ρ, .normal, ta0, H, hq, trivial, hA.te ht.symm, hN⟩
   | cons y ys =>
    exfalso
    have hy0 : y ∈ ys0 := hs.subset List.mem_cons_self
    obtain ⟨o, ho, _, _, _, haf, hbf⟩ := hD.op y hy0
    have hp := (hD.pairs.sublist hs)
    have : y.ix ∈ Region.ready .any ops listed := by
     rw [mem_ready]
     refine ⟨Xdc.2 (h2 y List.mem_cons_self), o, ho, fun e he hb => ?_⟩
     rw [Xfp]
     have hin := haf e he hb
     obtain ⟨z, hz, hze⟩ := hD.all e.on (hbf _ hin).1
     rcases h1 z hz with h | h
     ·
      rw [← hze]; exact h
     ·
      exfalso
      rcases List.mem_cons.1 h with rfl | h
      ·
       exact hD.self _ hy0 (by rw [hze]; exact hin)
      ·
       exact (List.rel_of_pairwise_cons hp h).2.1 (by rw [hze]; exact hin)
    rw [hr] at this
    cases this
  ·
   obtain ⟨hi0, o, ho, hrd⟩ := mem_ready.1 hi
   obtain ⟨y, hy0, rfl⟩ := hD.all i (Array.getElem?_eq_some_iff.1 ho).1
   rw [Xdc] at hi0
   have hy : y ∈ ys := by
    rcases h1 y hy0 with h | h
    ·
     rw [hi0] at h; cases h
    ·
     exact h
   obtain ⟨o', ho', hc, hdst, hgd, haf, hbf⟩ := hD.op y hy0
   rw [ho] at ho'
   cases ho'
   obtain ⟨pre, post, rfl⟩ := List.append_of_mem hy
   have hbl : ∀ b ∈ y.bef, listed[b]? = some true := by
    intro b hb
    obtain ⟨_, h0⟩ := hbf b hb
    rcases h0 with h0 | ⟨e, he, hbd, h⟩
    ·
     exact hL0 b h0
    have := Xfp.1 (hrd e he hbd)
    rcases h with rfl | ⟨z, hz, hze, hzb⟩
    ·
     exact this
    ·
     exact h3 z hz (by rw [hze]; exact this) b hzb
   have hpair := hD.pairs.sublist hs
   have hpre : ∀ z ∈ pre, Pair z y ∧ z.ix ∉ y.bef := by
    intro z hz
    refine ⟨(List.pairwise_append.1 hpair).2.2 z hz y List.mem_cons_self, fun hb => ?_⟩
    have := h2 z (List.mem_append_left _ hz)
    rw [hbl _ hb] at this
    cases this
   have hne : ∀ z ∈ pre ++ post, z.ix ≠ y.ix := by
    intro z hz
    rcases List.mem_append.1 hz with hz | hz
    ·
     exact (hpre z hz).1.1
    ·
     exact fun e => (List.rel_of_pairwise_cons (List.pairwise_append.1 hpair).2.1 hz).1 e.symm
   have hlt : y.ix < listed.size := (Array.getElem?_eq_some_iff.1 hi0).1
   have hset : ∀ j, (listed.setIfInBounds y.ix true)[j]? = if y.ix = j then some true else listed[j]? := by
    intro j
    by_cases e : y.ix = j
    ·
     subst e; rw [if_pos rfl]; simp [hlt]
    ·
     rw [if_neg e, Array.getElem?_setIfInBounds_ne e]
   have hS := DN.first hQ hpre hM
   have next : ∀ (ta' : ATm) (H' : List AObj) (rd' : List Rd) (K' : (Nat → Option Obj)) (ρ' : (Nat → Option Loc)) (w' : World) (a' : Act), DN P n0 (fun ta H => ∃ ta0, TE ta0 ta ∧ QQ .normal ta0 H) (fun v H => QQ (.pan v) ⟨n, [], ds⟩ H) (pre ++ post) ta' H' rd' → n0 ≤ H'.length → Next G n0 K0 ρ0 K' ρ' H' w' → AR K' ρ' ta' a' → ta'.n = n ∧ ta'.ds = ds →
     wpAny P .any ops (fun e a' w' => ∃ K' ρ' ae ta' H', QQ ae ta' H' ∧ ExR K' ρ' ae e ∧ AR K' ρ' ta' a' ∧ Next G n0 K0 ρ0 K' ρ' H' w') fuel (listed.setIfInBounds y.ix true) a' w' := by
    intro ta' H' rd' K' ρ' w' a' hM' hn' hN' hA' htn'
    refine ih (pre ++ post) _ ta' H' K' ρ' w' a' (fun b hb => by rw [hset]; split <;> first | rfl | exact hL0 b hb) ?_ (by simpa using hsz) ?_ ?_ ?_ ?_ (DN.ck hQ _ _ _ _ _ _ (TE.refl _) (fun r hr => by cases hr) hM') hn' hN' hA' htn'
    ·
     exact (List.Sublist.append (List.Sublist.refl _) (List.sublist_cons_self _ _)).trans hs
    ·
     intro z hz
     rw [hset]
     by_cases e : y.ix = z.ix
     ·
      rw [if_pos e]; exact .inl rfl
     ·
      rw [if_neg e]
      rcases h1 z hz with h | h
      ·
       exact .inl h
      ·
       right
       rcases List.mem_append.1 h with h | h
       ·
        exact List.mem_append_left _ h
       ·
        rcases List.mem_cons.1 h with rfl | h
        ·
         exact (e rfl).elim
        ·
         exact List.mem_append_right _ h
    ·
     intro z hz
     rw [hset, if_neg (fun e => hne z hz e.symm)]
     refine h2 z ?_
     rcases List.mem_append.1 hz with h | h
     ·
      exact List.mem_append_left _ h
     ·
      exact List.mem_append_right _ (List.mem_cons_of_mem _ h)
    ·
     intro z hz hzl b hb
     rw [hset]
     by_cases e : y.ix = b
     ·
      rw [if_pos e]
     ·
      rw [if_neg e]
      by_cases e2 : y.ix = z.ix
      ·
       have hz2 : z = y := by
        rcases h1 z hz with h | h
        ·
         rw [← e2, hi0] at h; cases h
        ·
         rcases List.mem_append.1 h with h | h
         ·
          exact (hne z (List.mem_append_left _ h) e2.symm).elim
         ·
          rcases List.mem_cons.1 h with h | h
          ·
           exact h
          ·
           exact (hne z (List.mem_append_right _ h) e2.symm).elim
       subst hz2
       exact hbl b hb
      ·
       rw [hset, if_neg e2] at hzl
       exact h3 z hz hzl b hb
    ·
     simp only [List.length_append, List.length_cons] at hl ⊢; omega
   exact Xfq ho hc hdst hgd hS hn hN hA htn next
end


theorem Xjp {z y : DOp} (h : Xoi z y = true) : Pair z y := by
  unfold Xoi at h
  simp only [Bool.and_eq_true, Bool.or_eq_true, bne_iff_ne, ne_eq, Bool.not_eq_true', List.contains_eq_mem, decide_eq_false_iff_not, decide_eq_true_eq, List.all_eq_true, Option.isNone_iff_eq_none] at h
  refine ⟨h.1.1, h.1.2, fun hn => ?_⟩
  rcases h.2 with h | h
  · exact (hn h).elim
  · refine ⟨h.1.1.1.1, ?_, h.1.1.2, h.1.2, ?_⟩
    · rcases h.1.1.1.2 with h | h
      · left; rw [h]; rfl
      · exact .inr h
    · rcases h.2 with (h | h) | h
      · exact .inl h
      · exact .inr (.inl h)
      · exact .inr (.inr h)
theorem Xfr : ∀ {ys : List DOp}, Xmk ys = true → ys.Pairwise Pair ∧ ∀ y ∈ ys, y.ix ∉ y.bef
 | [], _ => ⟨.nil, fun y h => by cases h⟩
 | z :: ys, h => by
  simp only [Xmk, Bool.and_eq_true, List.all_eq_true, Bool.not_eq_true', List.contains_eq_mem, decide_eq_false_iff_not] at h
  obtain ⟨h1, h2⟩ := Xfr h.2
  refine ⟨.cons (fun y hy => Xjp (h.1.2 y hy)) h1, fun y hy => ?_⟩
  rcases List.mem_cons.1 hy with rfl | hy
  ·
   exact h.1.1
  ·
   exact h2 y hy
theorem Xfw {P : Program} {ops : Array Oper} : ∀ {os : List Oper} {xs : List IOp}, JI P ops os = some xs → os.length = xs.length ∧ ∀ (i : Nat) (x : IOp), xs[i]? = some x → ∃ o, os[i]? = some o ∧ Xce P o.op = some x.op ∧ o.dst = x.dst ∧ ZM ops o.guard = some x.guard
 | [], xs, h => by simp only [JI, Option.some.injEq] at h; subst h; exact ⟨rfl, fun i x hx => by simp at hx⟩
 | o :: os, xs, h => by
  simp only [JI] at h
  split at h
  ·
   rename_i x g ys h1 h2 h3
   cases h
   obtain ⟨hl, hr⟩ := Xfw h3
   refine ⟨by simp [hl], fun i x' hx => ?_⟩
   cases i with
   | zero => cases hx; exact ⟨o, rfl, h1, rfl, h2⟩
   | succ i => exact hr i x' (by simpa using hx)
  ·
   cases h

theorem DGo_strip {P : Program} {n0 : Nat} {y : DOp} : DGo P n0 (strip y) = DGo P n0 y := by
 funext K Qp rd H ta
 unfold strip
 cases hE : isE y.o.op with
 | true => rfl
 | false => simp only [DGo, hE]; rfl
theorem strip_o {y : DOp} : (strip y).o = y.o := by unfold strip; split <;> rfl
theorem Xg1 {P : Program} {n0 : Nat} {Q : ATm → List AObj → Prop} {Qp : AV → List AObj → Prop} : ∀ {ys : List DOp}, DM P n0 Q Qp (ys.map strip) = DM P n0 Q Qp ys
 | [] => rfl
 | y :: ys => by
  funext ta H rd
  simp only [List.map_cons, DM, DStep, DGo_strip, strip_o, Xg1 (ys := ys)]
theorem Xnw {P : Program} {ops : Array Oper} {zs : List DOp} (h : compD P ops = some zs) : ∃ ys, zs = ys.map strip ∧ Drawn P ops (fun _ => False) ys ∧ P.follows .mixedOrders = true ∧ ys.length ≤ ops.size := by
 unfold compD at h
 split at h
 ·
  rename_i xs hxs
  simp only at h
  split at h
  ·
   rename_i hc
   obtain ⟨hm, hlen, hb, hd, ha⟩ := hc
   obtain ⟨hl, hat⟩ := Xfw hxs
   simp only [Option.some.injEq] at h
   refine ⟨_, h.symm, ?_⟩
   generalize hys0 : ((early xs (befs ops.toList []) xs.length (List.range xs.length) []).filterMap fun i => (xs[i]?).map fun x => (⟨x, i, (befs ops.toList []).getD i [], isR x.op && (List.range xs.length).any fun j => ((xs[j]?).map fun z => isE z.op && !((befs ops.toList []).getD j []).contains i).getD false⟩ : DOp)) = ys at *
   have h := hys0
   have hys : ∀ y ∈ ys, xs[y.ix]? = some y.o ∧ y.bef = (befs ops.toList []).getD y.ix [] := by
    intro y hy
    rw [← h] at hy
    obtain ⟨i, hi, he⟩ := List.mem_filterMap.1 hy
    obtain ⟨x, hx, rfl⟩ := Option.map_eq_some_iff.1 he
    exact ⟨hx, rfl⟩
   obtain ⟨hp, hs⟩ := Xfr hd
   have hall : ∀ i, i < ops.size → ∃ y ∈ ys, y.ix = i := by
    intro i hi
    rw [List.all_eq_true] at ha
    have := ha i (List.mem_range.2 (by rw [← hl]; simpa using hi))
    rw [List.any_eq_true] at this
    obtain ⟨y, hy, he⟩ := this
    exact ⟨y, hy, by simpa using he⟩
   refine ⟨⟨fun y hy => ?_, hp, hs, hall⟩, hm, hlen⟩
   obtain ⟨hx, hbef⟩ := hys y hy
   obtain ⟨o, ho, h1, h2, h3⟩ := hat _ _ hx
   have ho' : ops[y.ix]? = some o := by simpa using ho
   have hlt : y.ix < ops.size := (Array.getElem?_eq_some_iff.1 ho').1
   unfold befOk at hb
   rw [List.all_eq_true] at hb
   have hbi := hb y.ix (List.mem_range.2 (by simpa using hlt))
   rw [← hbef, Bool.and_eq_true, List.all_eq_true, List.all_eq_true] at hbi
   have haf : Xi0 ops.toList y.ix = (o.after.toList.filter (Region.binds .any)).map (·.on) := by unfold Xi0; rw [ho]
   have hb2 : ∀ b ∈ y.bef, b < ops.size ∧ ∃ e ∈ Xi0 ops.toList y.ix, e = b ∨ b ∈ (befs ops.toList []).getD e [] := by
    intro b hbm
    have := hbi.2 b hbm
    simp only [Bool.and_eq_true, decide_eq_true_eq, List.any_eq_true, Bool.or_eq_true, beq_iff_eq, List.contains_eq_mem] at this
    exact ⟨by simpa using this.1, this.2⟩
   refine ⟨o, ho', h1, h2, h3, fun e he hbd => ?_, fun b hbm => ⟨(hb2 b hbm).1, .inr ?_⟩⟩
   ·
    have := hbi.1 e.on (by rw [haf]; exact List.mem_map.2 ⟨e, List.mem_filter.2 ⟨by simpa using he, hbd⟩, rfl⟩)
    simpa using this
   ·
    obtain ⟨e', he', hor⟩ := (hb2 b hbm).2
    have he2 := he'
    rw [haf] at he2
    obtain ⟨e, hef, rfl⟩ := List.mem_map.1 he2
    obtain ⟨he, hbd⟩ := List.mem_filter.1 hef
    refine ⟨e, by simpa using he, hbd, ?_⟩
    rcases hor with h | h
    ·
     exact .inl h.symm
    ·
     right
     have hin : e.on ∈ y.bef := by
      have := hbi.1 e.on he'
      simpa using this
     obtain ⟨z, hz, hze⟩ := hall e.on (hb2 _ hin).1
     exact ⟨z, hz, hze, by rw [(hys z hz).2, hze]; exact h⟩
  ·
   cases h
 ·
  cases h

theorem AW.draw {P : Program} {n0 : Nat} {Q : AExit → ATm → List AObj → Prop} {ys : List DOp} {ta : ATm} {H : List AObj} (hn : n0 ≤ H.length) {id : Nat} {ops : Array Oper} (hc : compD P ops = some ys)
  (h : DM P n0 (Q .normal) (fun v H => Q (.pan v) ⟨ta.n, [], ta.ds⟩ H) ys ta H []) : AWp P n0 (.region id ops true) ta H Q := fun G K ρ w a hR hA => by
 obtain ⟨ys, rfl, hD, hm, hlen⟩ := Xnw hc
 rw [Xg1] at h
 refine wp_region_any hm ?_
 have hQ : ∀ (ta ta' : ATm) (H : List AObj), TE ta ta' → (∃ ta0, TE ta0 ta ∧ Q .normal ta0 H) → ∃ ta0, TE ta0 ta' ∧ Q .normal ta0 H := fun ta ta' H ht ⟨ta0, h1, h2⟩ => ⟨ta0, h1.trans ht, h2⟩
 have hM : DN P n0 (fun ta H => ∃ ta0, TE ta0 ta ∧ Q .normal ta0 H) (fun v H => Q (.pan v) ⟨ta.n, [], ta.ds⟩ H) ys ta H [] := by
  refine DM.dn hQ ?_
  refine DM.post (fun ta H h => ⟨ta, TE.refl _, h⟩) ys h
 refine Xmj hD (n := ta.n) (ds := ta.ds) ops.size ys (Array.replicate ops.size false) ta H K ρ _ _ (fun b hb => hb.elim) ?_ (by simp) (fun y hy => .inr hy) ?_ ?_ hlen hM hn ?_ hA ⟨rfl, rfl⟩
 ·
  exact List.Sublist.refl _
 ·
  intro y hy
  obtain ⟨o, ho, _⟩ := hD.op y hy
  have := (Array.getElem?_eq_some_iff.1 ho).1
  simp [this]
 ·
  intro y hy hl
  rw [Array.getElem?_replicate] at hl
  split at hl <;> cases hl
 ·
  exact Next.refl (hR.drawn _)
end Go.Proofs.Ytcbhlpbkampfeaa.AI
