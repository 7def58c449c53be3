import Derived.Calls
import Derived.Laws.Sem
import Derived.Laws.Cells
import Derived.Laws.CopyRow
import Derived.KernelRfl
/- Part of a proof. -/
set_option linter.unusedVariables false
namespace Go.Proofs.Ytcbhlpbkampfeaa.AI

inductive AV where
 | bool (b : Bool)
 | int (k : IntKind) (n : Int)
 | str (s : ByteArray)
 | nilp
 | ptr (id e j : Nat)
 | vptr (el : List AV) (j : Nat)
 | vec (cap : Bool) (es : List (List AV))
 | row (id off len : Nat)
 | map (id : Nat)
 | nilmap
 | fn (f : Fn) (first captured : List AV)
 | nilfn
 | iface (t : TypeId) (v : AV)
 | nilif
 | agg (cs : List AV)
 | tup (vs : List AV)
 | any
 | anyb

instance : Inhabited AV := ⟨.any⟩

structure Loc where
 block : Nat
 base : Nat
 sz : Nat
 tot : Nat


def rnone : (Nat → Option Loc) := fun _ => Option.none

def kcell (K : (Nat → Option Obj)) (a : Addr) : Option Value :=
 match K a.block with
 | some (.cells c _ _) => if a.spot.isSome then none else c[a.off]?
 | _ => none

def one (v : Value) : Bool := v.oneCell'

inductive VR (K : (Nat → Option Obj)) : (Nat → Option Loc) → AV → Value → Prop
 | any {ρ v} : VR K ρ .any v
 | anyb {ρ b} : VR K ρ .anyb (.bool b)
 | bool {ρ b} : VR K ρ (.bool b) (.bool b)
 | int {ρ k n} : VR K ρ (.int k n) (.int k n)
 | str {ρ s} : VR K ρ (.str s) (.string s)
 | nilp {ρ} : VR K ρ .nilp (.pointer none)
 | nilfn {ρ} : VR K ρ .nilfn .nilFunc
 | nilif {ρ} : VR K ρ .nilif .nilIface
 | nilmap {ρ} : VR K ρ .nilmap (.map none)
 | map {ρ : (Nat → Option Loc)} {id l} : ρ id = some l → VR K ρ (.map id) (.map (some l.block))
 | ptr {ρ : (Nat → Option Loc)} {id l e j} : ρ id = some l → VR K ρ (.ptr id e j) (.pointer (some ⟨l.block, l.base + e * l.sz + j, none⟩))
 | row {ρ : (Nat → Option Loc)} {id l off len A c} : ρ id = some l → len ≤ c → (c = 0 ∨ (A = some ⟨l.block, l.base + off * l.sz, none⟩ ∧ l.base + (off + c) * l.sz ≤ l.tot)) → VR K ρ (.row id off len) (.slice A len c)
 | vec {ρ cap es A c} (a : Addr) (sz : Nat) (g : Nat → Nat → Value) : (cap = true → c = es.length) → es.length ≤ c → (es = [] ∨ A = some a) →
   (∀ el, el ∈ es → el.length = sz) → (∀ (e j : Nat), e < es.length → j < sz → kcell K (a.add (e * sz + j)) = some (g e j)) → (∀ e j, one (g e j) = true) →
   (∀ (e j : Nat) (el : List AV) (v : AV), es[e]? = some el → el[j]? = some v → VR K rnone v (g e j)) → VR K ρ (.vec cap es) (.slice A es.length c)
 | vptr {ρ el j} (a : Addr) (g : Nat → Value) : (∀ i, i < el.length → kcell K (a.add i) = some (g i)) → (∀ i, one (g i) = true) →
   (∀ (i : Nat) (v : AV), el[i]? = some v → VR K rnone v (g i)) → VR K ρ (.vptr el j) (.pointer (some (a.add j)))
 | fn {ρ f fs cs fs' cs'} : fs.length = fs'.size → cs.length = cs'.size → (∀ (i : Nat) (v : AV) (u : Value), fs[i]? = some v → fs'[i]? = some u → VR K ρ v u) →
   (∀ (i : Nat) (v : AV) (u : Value), cs[i]? = some v → cs'[i]? = some u → VR K ρ v u) → VR K ρ (.fn f fs cs) (.func f fs' cs')
 | iface {ρ t v u} : VR K ρ v u → VR K ρ (.iface t v) (.iface t u)
 | agg {ρ cs cs'} : cs.length = cs'.size → (∀ u, u ∈ cs' → one u = true) → (∀ (i : Nat) (v : AV) (u : Value), cs[i]? = some v → cs'[i]? = some u → VR K ρ v u) → VR K ρ (.agg cs) (.agg cs')
 | tup {ρ cs cs'} : cs.length = cs'.size → (∀ (i : Nat) (v : AV) (u : Value), cs[i]? = some v → cs'[i]? = some u → VR K ρ v u) → VR K ρ (.tup cs) (.tuple cs')

def KLe (K K' : (Nat → Option Obj)) : Prop := ∀ b o, K b = some o → K' b = some o
def RLe (ρ ρ' : (Nat → Option Loc)) : Prop := ∀ id l, ρ id = some l → ρ' id = some l
theorem KLe.refl (K : (Nat → Option Obj)) : KLe K K := fun _ _ h => h
theorem KLe.trans {K K' K'' : (Nat → Option Obj)} (h : KLe K K') (h' : KLe K' K'') : KLe K K'' := fun b o hb => h' b o (h b o hb)
theorem RLe.refl (ρ : (Nat → Option Loc)) : RLe ρ ρ := fun _ _ h => h
theorem RLe.none (ρ : (Nat → Option Loc)) : RLe rnone ρ := fun _ _ h => by cases h

theorem Xos {K K' : (Nat → Option Obj)} (h : KLe K K') {a : Addr} {v : Value} (hc : kcell K a = some v) : kcell K' a = some v := by
 unfold kcell at hc ⊢
 cases hk : K a.block with
 | none => rw [hk] at hc; cases hc
 | some o => rw [hk] at hc; rw [h _ _ hk]; exact hc

theorem VR.mono {K K' : (Nat → Option Obj)} (hK : KLe K K') : ∀ {ρ : (Nat → Option Loc)} {v : AV} {u : Value}, VR K ρ v u → ∀ {ρ' : (Nat → Option Loc)}, RLe ρ ρ' → VR K' ρ' v u := by
 intro ρ v u h
 induction h with
 | any => intros; exact .any
 | anyb => intros; exact .anyb
 | bool => intros; exact .bool
 | int => intros; exact .int
 | str => intros; exact .str
 | nilp => intros; exact .nilp
 | nilfn => intros; exact .nilfn
 | nilif => intros; exact .nilif
 | nilmap => intros; exact .nilmap
 | map h => intro ρ' hr; exact .map (hr _ _ h)
 | ptr h => intro ρ' hr; exact .ptr (hr _ _ h)
 | row h h1 h2 => intro ρ' hr; exact .row (hr _ _ h) h1 h2
 | vec a sz g h1 h2 h3 h4 h5 h6 _ ih => intro ρ' hr; exact .vec a sz g h1 h2 h3 h4 (fun e j he hj => Xos hK (h5 e j he hj)) h6 (fun e j el v he hv => ih e j el v he hv (RLe.refl _))
 | vptr a g h1 h2 _ ih => intro ρ' hr; exact .vptr a g (fun i hi => Xos hK (h1 i hi)) h2 (fun i v hv => ih i v hv (RLe.refl _))
 | fn h1 h2 _ _ ih1 ih2 => intro ρ' hr; exact .fn h1 h2 (fun i v u hv hu => ih1 i v u hv hu hr) (fun i v u hv hu => ih2 i v u hv hu hr)
 | iface _ ih => intro ρ' hr; exact .iface (ih hr)
 | agg h1 h2 _ ih => intro ρ' hr; exact .agg h1 h2 (fun i v u hv hu => ih i v u hv hu hr)
 | tup h1 _ ih => intro ρ' hr; exact .tup h1 (fun i v u hv hu => ih i v u hv hu hr)

inductive AObj where
 | box (cs : List AV) (t : TypeId)
 | mem (sz : Nat) (es : List (List AV)) (t : TypeId)
 | map (es : List (AV × AV)) (clock : Nat)
 | dead
instance : Inhabited AObj := ⟨.dead⟩

def JJ (K : (Nat → Option Obj)) (ρ : (Nat → Option Loc)) (c : Array Value) (base : Nat) (vs : List AV) : Prop :=
 ∀ (j : Nat) (v : AV), vs[j]? = some v → ∃ u, c[base + j]? = some u ∧ VR K ρ v u

def OR (K : (Nat → Option Obj)) (ρ : (Nat → Option Loc)) (w : World) (l : Loc) : AObj → Prop
 | .box cs t => ∃ c, w.heap[l.block]? = some (.cells c t (0, 0)) ∧ c.size = cs.length ∧ l.base = 0 ∧ (∀ u ∈ c, one u = true) ∧ JJ K ρ c 0 cs
 | .mem sz es t => 0 < sz ∧ l.sz = sz ∧ (∀ el ∈ es, el.length = sz) ∧ ((l.tot = 0 ∧ es = []) ∨ ∃ c, w.heap[l.block]? = some (.cells c t (0, 0)) ∧ c.size = l.tot ∧ l.base + es.length * sz ≤ l.tot ∧ (∀ u ∈ c, one u = true) ∧
   ∀ (e : Nat) (el : List AV), es[e]? = some el → JJ K ρ c (l.base + e * sz) el)
 | .map es _ => ∃ (c : Array MapEntry) (clk : Nat), w.heap[l.block]? = some (.map c clk) ∧ c.size = es.length ∧
   ∀ (i : Nat) (p : AV × AV) (m : MapEntry), es[i]? = some p → c[i]? = some m → VR K ρ p.1 m.key ∧ VR K ρ p.2 m.val
 | .dead => True

structure Gh where
 os : Os
 tape : Nat → Question → Nat
 output : Array (Nat × ByteArray)
 frame : (Nat → Option Obj)

def live : AObj → Bool
 | .dead => false
 | _ => true

def real (l : Loc) : AObj → Bool
 | .dead => false
 | .mem _ _ _ => l.tot != 0
 | _ => true

structure Rel (G : Gh) (K : (Nat → Option Obj)) (ρ : (Nat → Option Loc)) (H : List AObj) (w : World) : Prop where
 os : w.os = G.os
 tape : w.tape = G.tape
 output : w.output = G.output
 keep : ∀ b o, K b = some o → w.heap[b]? = some o
 frame : ∀ b o, G.frame b = some o → w.heap[b]? = some o
 apart : ∀ b o, G.frame b = some o → K b = none
 top : ∀ id, H.length ≤ id → ρ id = none
 objs : ∀ (id : Nat) o, H[id]? = some o → live o = true → ∃ l, ρ id = some l ∧ OR K ρ w l o
 own : ∀ (id : Nat) o l, H[id]? = some o → ρ id = some l → real l o = true → l.block < w.heap.size ∧ K l.block = none ∧ G.frame l.block = none
 inj : ∀ (i j : Nat) oi oj li lj, H[i]? = some oi → H[j]? = some oj → ρ i = some li → ρ j = some lj → real li oi = true → real lj oj = true → li.block = lj.block → i = j

theorem JJ.mono {K K' : (Nat → Option Obj)} {ρ ρ' : (Nat → Option Loc)} (hK : KLe K K') (hr : RLe ρ ρ') {c : Array Value} {base : Nat} {vs : List AV} (h : JJ K ρ c base vs) : JJ K' ρ' c base vs := fun j v hv =>
 let ⟨u, hu, hv'⟩ := h j v hv; ⟨u, hu, hv'.mono hK hr⟩

theorem OR.mono {K K' : (Nat → Option Obj)} {ρ ρ' : (Nat → Option Loc)} {w w' : World} {l : Loc} {o : AObj} (hK : KLe K K') (hr : RLe ρ ρ') (hw : real l o = true → w'.heap[l.block]? = w.heap[l.block]?) (h : OR K ρ w l o) : OR K' ρ' w' l o := by
 cases o with
 | box cs t =>
  obtain ⟨c, h1, h2, h3, h4, h5⟩ := h
  exact ⟨c, (hw rfl).trans h1, h2, h3, h4, h5.mono hK hr⟩
 | mem sz es t =>
  obtain ⟨hp, h0, h1, h2⟩ := h
  refine ⟨hp, h0, h1, ?_⟩
  rcases h2 with h2 | ⟨c, h3, h4, h5, h6, h7⟩
  ·
   exact .inl h2
  ·
   by_cases ht : l.tot = 0
   ·
    left
    refine ⟨ht, ?_⟩
    cases es with
    | nil => rfl
    | cons el es =>
     exfalso
     have := Nat.mul_pos (show 0 < (el :: es).length by simp) hp
     omega
   ·
    exact .inr ⟨c, (hw (by simp [real, ht])).trans h3, h4, h5, h6, fun e el he => (h7 e el he).mono hK hr⟩
 | map es clock =>
  obtain ⟨c, clk, h1, h2, h3⟩ := h
  exact ⟨c, clk, (hw rfl).trans h1, h2, fun i p m hp hm => let ⟨a, b⟩ := h3 i p m hp hm; ⟨a.mono hK hr, b.mono hK hr⟩⟩
 | dead => trivial

structure ATm where
 n : Nat
 l : List (Nat × AV)
 ds : List (Fn × List AV × List AV) := []

def look : List (Nat × AV) → Nat → AV
 | [], _ => .any
 | (t, v) :: l, u => if t = u then v else look l u

def ATm.get (ta : ATm) (t : Nat) : AV := look ta.l t
def ATm.put (ta : ATm) (t : Nat) (v : AV) : ATm := ⟨ta.n, (t, v) :: ta.l, ta.ds⟩

def VRs (K : (Nat → Option Obj)) (ρ : (Nat → Option Loc)) (vs : List AV) (us : Array Value) : Prop :=
 vs.length = us.size ∧ ∀ (i : Nat) (v : AV) (u : Value), vs[i]? = some v → us[i]? = some u → VR K ρ v u

theorem VRs.mono {K K' : (Nat → Option Obj)} {ρ ρ' : (Nat → Option Loc)} (hK : KLe K K') (hr : RLe ρ ρ') {vs : List AV} {us : Array Value} (h : VRs K ρ vs us) : VRs K' ρ' vs us :=
 ⟨h.1, fun i v u hv hu => (h.2 i v u hv hu).mono hK hr⟩

structure DR (K : (Nat → Option Obj)) (ρ : (Nat → Option Loc)) (d : Fn × List AV × List AV) (x : Deferred) : Prop where
 fn : ∃ cap args, x = { target := .fn d.1 cap, args } ∧ VRs K ρ d.2.1 cap ∧ VRs K ρ d.2.2 args

def DRs (K : (Nat → Option Obj)) (ρ : (Nat → Option Loc)) : List (Fn × List AV × List AV) → List Deferred → Prop
 | [], [] => True
 | d :: ds, x :: xs => DR K ρ d x ∧ DRs K ρ ds xs
 | _, _ => False

theorem DRs.mono {K K' : (Nat → Option Obj)} {ρ ρ' : (Nat → Option Loc)} (hK : KLe K K') (hr : RLe ρ ρ') : ∀ {ds : List (Fn × List AV × List AV)} {xs : List Deferred}, DRs K ρ ds xs → DRs K' ρ' ds xs
 | [], [], _ => trivial
 | d :: ds, x :: xs, h => by
  obtain ⟨⟨cap, args, e, h1, h2⟩, h3⟩ := h
  exact ⟨⟨cap, args, e, h1.mono hK hr, h2.mono hK hr⟩, DRs.mono hK hr h3⟩
 | [], _ :: _, h => h.elim
 | _ :: _, [], h => h.elim

structure AR (K : (Nat → Option Obj)) (ρ : (Nat → Option Loc)) (ta : ATm) (a : Act) : Prop where
 size : a.tmps.size = ta.n
 tmps : ∀ t, VR K ρ (ta.get t) (a.tmps.getD t undef)
 defers : DRs K ρ ta.ds a.defers

theorem AR.mono {K K' : (Nat → Option Obj)} {ρ ρ' : (Nat → Option Loc)} (hK : KLe K K') (hr : RLe ρ ρ') {ta : ATm} {a : Act} (h : AR K ρ ta a) : AR K' ρ' ta a :=
 ⟨h.size, fun t => (h.tmps t).mono hK hr, h.defers.mono hK hr⟩

theorem AR.put {K : (Nat → Option Obj)} {ρ : (Nat → Option Loc)} {ta : ATm} {a : Act} (h : AR K ρ ta a) {t : Nat} (ht : t < ta.n) {v : AV} {u : Value} (hv : VR K ρ v u) : AR K ρ (ta.put t v) (a.put (some t) u) := by
 refine ⟨by simpa [Act.put, ATm.put] using h.size, fun t' => ?_, h.defers⟩
 have hs := h.size
 simp only [ATm.get, ATm.put, Act.put, look]
 by_cases e : t = t'
 ·
  subst e
  rw [if_pos rfl, Array.getD_eq_getD_getElem?, Array.getElem?_setIfInBounds]
  simpa [hs, ht] using hv
 ·
  rw [if_neg e, Array.getD_eq_getD_getElem?, Array.getElem?_setIfInBounds, if_neg e, ← Array.getD_eq_getD_getElem?]
  exact h.tmps t'

inductive AExit where
 | normal
 | exit (id : Nat)
 | goto (l : Nat)
 | ret
 | pan (v : AV)

def ExR (K : (Nat → Option Obj)) (ρ : (Nat → Option Loc)) : AExit → Exit → Prop
 | .normal, .normal => True
 | .exit i, .exit j => i = j
 | .goto i, .goto j => i = j
 | .ret, .ret => True
 | .pan v, .panic ch => ∃ u, ch = [{ v := u, recovered := false }] ∧ VR K ρ v u
 | _, _ => False

inductive AEnd where
 | ret (v : AV)
 | pan (v : AV)

def ER (K : (Nat → Option Obj)) (ρ : (Nat → Option Loc)) : AEnd → Ending → Prop
 | .ret v, .returned u => VR K ρ v u
 | .pan v, .panicked ch => ∃ u, ch = [{ v := u, recovered := false }] ∧ VR K ρ v u
 | _, _ => False

structure Next (G : Gh) (n0 : Nat) (K : (Nat → Option Obj)) (ρ : (Nat → Option Loc)) (K' : (Nat → Option Obj)) (ρ' : (Nat → Option Loc)) (H' : List AObj) (w' : World) : Prop where
 rel : Rel G K' ρ' H' w'
 keep : KLe K K'
 low : ∀ id, id < n0 → ρ' id = ρ id

def OkF (P : Program) (f : FuncId) : Prop := ∃ fn, P.funcs[f]? = some fn ∧ (fn.name == "runtime.NumGoroutine") = false ∧ fn.body.isNone = false

def Xa (P : Program) (f : FuncId) (args : List AV) (H : List AObj) (Q : AEnd → List AObj → Prop) : Prop :=
 OkF P f ∧ ∀ (G : Gh) (K : (Nat → Option Obj)) (ρ : (Nat → Option Loc)) (w : World) (us : Array Value), Rel G K ρ H w → VRs K ρ args us →
  Calls P f us w fun e w' => ∃ K' ρ' ae H', Q ae H' ∧ ER K' ρ' ae e ∧ Next G H.length K ρ K' ρ' H' w'

def AWp (P : Program) (n0 : Nat) (c : Code) (ta : ATm) (H : List AObj) (Q : AExit → ATm → List AObj → Prop) : Prop :=
 ∀ (G : Gh) (K : (Nat → Option Obj)) (ρ : (Nat → Option Loc)) (w : World) (a : Act), Rel G K ρ H w → AR K ρ ta a →
  c.wp P (fun e a' w' => ∃ K' ρ' ae ta' H', Q ae ta' H' ∧ ExR K' ρ' ae e ∧ AR K' ρ' ta' a' ∧ Next G n0 K ρ K' ρ' H' w') a w

def ALoop (P : Program) (n0 : Nat) (c : Code) (ta : ATm) (H : List AObj) (Q : AExit → ATm → List AObj → Prop) : Prop :=
 ∀ (G : Gh) (K : (Nat → Option Obj)) (ρ : (Nat → Option Loc)) (w : World) (a : Act), Rel G K ρ H w → AR K ρ ta a → ∀ (b : Frame) (k : List Item) (cs : List Frame),
  ∃ e a' w', (∃ K' ρ' ae ta' H', Q ae ta' H' ∧ ExR K' ρ' ae e ∧ AR K' ρ' ta' a' ∧ Next G n0 K ρ K' ρ' H' w') ∧ Arrives P (lone (b.at a (.code c :: .inLoop c :: k)) cs w) b k cs e a' w'

theorem Next.refl {G : Gh} {n0 : Nat} {K : (Nat → Option Obj)} {ρ : (Nat → Option Loc)} {H : List AObj} {w : World} (h : Rel G K ρ H w) : Next G n0 K ρ K ρ H w := ⟨h, KLe.refl _, fun _ _ => rfl⟩
theorem Next.trans {G : Gh} {n0 n1 : Nat} {K K1 K2 : (Nat → Option Obj)} {ρ ρ1 ρ2 : (Nat → Option Loc)} {H1 H2 : List AObj} {w1 w2 : World} (h : Next G n0 K ρ K1 ρ1 H1 w1) (h' : Next G n1 K1 ρ1 K2 ρ2 H2 w2) (hn : n0 ≤ n1) : Next G n0 K ρ K2 ρ2 H2 w2 :=
 ⟨h'.rel, h.keep.trans h'.keep, fun id hi => (h'.low id (by omega)).trans (h.low id hi)⟩

section rules
variable {P : Program} {n0 : Nat} {ta : ATm} {H : List AObj} {Q : AExit → ATm → List AObj → Prop}

theorem AWp.mono {c : Code} {Q' : AExit → ATm → List AObj → Prop} (h : AWp P n0 c ta H Q) (hq : ∀ e ta H, Q e ta H → Q' e ta H) : AWp P n0 c ta H Q' := fun G K ρ w a hR hA =>
 wp_mono (h G K ρ w a hR hA) fun e a' w' ⟨K', ρ', ae, ta', H', hQ, r⟩ => ⟨K', ρ', ae, ta', H', hq _ _ _ hQ, r⟩

theorem AWp.skip (h : Q .normal ta H) : AWp P n0 .skip ta H Q := fun G K ρ w a hR hA => wp_skip ⟨K, ρ, .normal, ta, H, h, trivial, hA, Next.refl hR⟩
theorem AWp.label {l : Nat} (h : Q .normal ta H) : AWp P n0 (.label l) ta H Q := fun G K ρ w a hR hA => wp_label ⟨K, ρ, .normal, ta, H, h, trivial, hA, Next.refl hR⟩
theorem AWp.exit {id : Nat} (h : Q (.exit id) ta H) : AWp P n0 (.exit id) ta H Q := fun G K ρ w a hR hA => wp_exit ⟨K, ρ, .exit id, ta, H, h, rfl, hA, Next.refl hR⟩
theorem AWp.ret (h : Q .ret ta H) : AWp P n0 .ret ta H Q := fun G K ρ w a hR hA => wp_ret ⟨K, ρ, .ret, ta, H, h, trivial, hA, Next.refl hR⟩

def AExit.thn (next : ATm → List AObj → Prop) (Q : AExit → ATm → List AObj → Prop) : AExit → ATm → List AObj → Prop
 | .normal => next
 | .exit i => Q (.exit i)
 | .goto i => Q (.goto i)
 | .ret => Q .ret
 | .pan v => Q (.pan v)

theorem AWp.seq {x y : Code} (h : AWp P n0 x ta H (AExit.thn (fun ta H => AWp P n0 y ta H Q) Q)) : AWp P n0 (.seq x y) ta H Q := fun G K ρ w a hR hA =>
  wp_seq (wp_mono (h G K ρ w a hR hA) fun e a' w' ⟨K', ρ', ae, ta', H', hQ, hE, hA', hN⟩ => by
    cases ae <;> cases e <;> try exact hE.elim
    · exact wp_mono (hQ G K' ρ' w' a' hN.rel hA') fun e a2 w2 ⟨K2, ρ2, ae2, ta2, H2, hQ2, hE2, hA2, hN2⟩ => ⟨K2, ρ2, ae2, ta2, H2, hQ2, hE2, hA2, hN.trans hN2 (Nat.le_refl _)⟩
    · exact ⟨K', ρ', _, ta', H', hQ, hE, hA', hN⟩
    · exact ⟨K', ρ', _, ta', H', hQ, hE, hA', hN⟩
    · exact ⟨K', ρ', _, ta', H', hQ, hE, hA', hN⟩
    · exact ⟨K', ρ', _, ta', H', hQ, hE, hA', hN⟩)

def AExit.blk (id : Nat) (Q : AExit → ATm → List AObj → Prop) : AExit → ATm → List AObj → Prop
 | .exit i => if i = id then Q .normal else Q (.exit i)
 | .normal => Q .normal
 | .goto i => Q (.goto i)
 | .ret => Q .ret
 | .pan v => Q (.pan v)

theorem AWp.block {id : Nat} {c : Code} (h : AWp P n0 c ta H (AExit.blk id Q)) : AWp P n0 (.block id c) ta H Q := fun G K ρ w a hR hA =>
  wp_block (wp_mono (h G K ρ w a hR hA) fun e a' w' ⟨K', ρ', ae, ta', H', hQ, hE, hA', hN⟩ => by
    cases ae with
    | normal => cases e <;> try exact hE.elim
                exact ⟨K', ρ', .normal, ta', H', hQ, hE, hA', hN⟩
    | exit i =>
      cases e <;> try exact hE.elim
      have hE' := hE
      simp only [ExR] at hE'
      subst hE'
      simp only [AExit.blk] at hQ
      simp only [Exit.inBlock]
      by_cases hi : i = id
      · rw [if_pos hi] at hQ ⊢
        exact ⟨K', ρ', .normal, ta', H', hQ, trivial, hA', hN⟩
      · rw [if_neg hi] at hQ ⊢
        exact ⟨K', ρ', .exit i, ta', H', hQ, rfl, hA', hN⟩
    | goto i => cases e <;> try exact hE.elim
                exact ⟨K', ρ', _, ta', H', hQ, hE, hA', hN⟩
    | ret => cases e <;> try exact hE.elim
             exact ⟨K', ρ', .ret, ta', H', hQ, hE, hA', hN⟩
    | pan v => cases e <;> try exact hE.elim
               exact ⟨K', ρ', _, ta', H', hQ, hE, hA', hN⟩)

theorem AWp.loop {c : Code} (h : ALoop P n0 c ta H Q) : AWp P n0 (.loop c) ta H Q := fun G K ρ w a hR hA b k cs => by
 obtain ⟨e, a', w', hQ, harr⟩ := h G K ρ w a hR hA b k cs
 exact ⟨e, a', w', hQ, .of_steps (.one step_loop) harr⟩

theorem ALoop.round {c : Code} (h : AWp P n0 c ta H (AExit.thn (fun ta H => ALoop P n0 c ta H Q) Q)) : ALoop P n0 c ta H Q := fun G K ρ w a hR hA b k cs => by
 obtain ⟨e, a', w', ⟨K', ρ', ae, ta', H', hQ, hE, hA', hN⟩, harr⟩ := h G K ρ w a hR hA b (.inLoop c :: k) cs
 cases ae with
 | normal =>
  cases e <;> try exact hE.elim
  obtain ⟨e2, a2, w2, ⟨K2, ρ2, ae2, ta2, H2, hQ2, hE2, hA2, hN2⟩, harr2⟩ := hQ G K' ρ' w' a' hN.rel hA' b k cs
  exact ⟨e2, a2, w2, ⟨K2, ρ2, ae2, ta2, H2, hQ2, hE2, hA2, hN.trans hN2 (Nat.le_refl _)⟩, .of_steps (Steps.trans harr (.one step_inLoop)) harr2⟩
 | exit i => exact ⟨e, a', w', ⟨K', ρ', _, ta', H', hQ, hE, hA', hN⟩, by cases e <;> first | exact hE.elim | exact .pass (x := .inLoop c) rfl (fun _ _ => .inl (by simp)) harr⟩
 | goto i => exact ⟨e, a', w', ⟨K', ρ', _, ta', H', hQ, hE, hA', hN⟩, by cases e <;> first | exact hE.elim | exact .pass (x := .inLoop c) rfl (fun _ _ => .inl (by simp)) harr⟩
 | ret => exact ⟨e, a', w', ⟨K', ρ', .ret, ta', H', hQ, hE, hA', hN⟩, by cases e <;> first | exact hE.elim | exact .pass (x := .inLoop c) rfl (fun _ _ => .inl (by simp)) harr⟩
 | pan v => exact ⟨e, a', w', ⟨K', ρ', _, ta', H', hQ, hE, hA', hN⟩, by cases e <;> first | exact hE.elim | exact .pass (x := .inLoop c) rfl (fun _ _ => .inl (by simp)) harr⟩
end rules
end Go.Proofs.Ytcbhlpbkampfeaa.AI
