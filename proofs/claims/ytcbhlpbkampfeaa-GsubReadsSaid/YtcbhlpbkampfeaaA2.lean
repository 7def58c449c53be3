import Derived.Test.YtcbhlpbkampfeaaA1
/- Part of a proof. -/
set_option linter.unusedVariables false
namespace Go.Proofs.Ytcbhlpbkampfeaa.AI

structure Sub where
 ptr : Nat → Nat → Nat → AV
 row : Nat → Nat → Nat → AV
 map : Nat → AV

mutual
def AV.sub (s : Sub) : AV → AV
 | .bool b => .bool b
 | .int k n => .int k n
 | .str x => .str x
 | .nilp => .nilp
 | .ptr id e j => s.ptr id e j
 | .vptr el j => .vptr el j
 | .vec c es => .vec c es
 | .row id off len => s.row id off len
 | .map id => s.map id
 | .nilmap => .nilmap
 | .fn f a b => .fn f (subs s a) (subs s b)
 | .nilfn => .nilfn
 | .iface t v => .iface t (v.sub s)
 | .nilif => .nilif
 | .agg cs => .agg (subs s cs)
 | .tup cs => .tup (subs s cs)
 | .any => .any
 | .anyb => .anyb
def subs (s : Sub) : List AV → List AV
 | [] => []
 | v :: vs => v.sub s :: subs s vs
end

theorem Jy (s : Sub) (l : List AV) : subs s l = l.map (AV.sub s) := by
 induction l with
 | nil => rfl
 | cons v l ih => simp [subs, ih]

def AObj.sub (s : Sub) : AObj → AObj
 | .box cs t => .box (subs s cs) t
 | .mem sz es t => .mem sz (es.map (subs s)) t
 | .map es c => .map (es.map fun p => (p.1.sub s, p.2.sub s)) c
 | .dead => .dead

structure SubR (s : Sub) (K : (Nat → Option Obj)) (ρ : (Nat → Option Loc)) (K' : (Nat → Option Obj)) (ρ' : (Nat → Option Loc)) : Prop where
 keep : KLe K K'
 ptr : ∀ id e j u, VR K ρ (.ptr id e j) u → VR K' ρ' (s.ptr id e j) u
 row : ∀ id off len u, VR K ρ (.row id off len) u → VR K' ρ' (s.row id off len) u
 map : ∀ id u, VR K ρ (.map id) u → VR K' ρ' (s.map id) u

theorem VR.sub {s : Sub} {K K' : (Nat → Option Obj)} {ρ : (Nat → Option Loc)} {v : AV} {u : Value} (h : VR K ρ v u) : ∀ {ρ' : (Nat → Option Loc)}, SubR s K ρ K' ρ' → VR K' ρ' (v.sub s) u := by
 induction h with
 | any => intros; simp only [AV.sub]; exact .any
 | anyb => intros; simp only [AV.sub]; exact .anyb
 | bool => intros; simp only [AV.sub]; exact .bool
 | int => intros; simp only [AV.sub]; exact .int
 | str => intros; simp only [AV.sub]; exact .str
 | nilp => intros; simp only [AV.sub]; exact .nilp
 | nilfn => intros; simp only [AV.sub]; exact .nilfn
 | nilif => intros; simp only [AV.sub]; exact .nilif
 | nilmap => intros; simp only [AV.sub]; exact .nilmap
 | map h => intro ρ' hs; simp only [AV.sub]; exact hs.map _ _ (.map h)
 | ptr h => intro ρ' hs; simp only [AV.sub]; exact hs.ptr _ _ _ _ (.ptr h)
 | row h h1 h2 => intro ρ' hs; simp only [AV.sub]; exact hs.row _ _ _ _ (.row h h1 h2)
 | vec a sz g h1 h2 h3 h4 h5 h6 h7 ih => intro ρ' hs; simp only [AV.sub]; exact VR.mono hs.keep (VR.vec (ρ := rnone) a sz g h1 h2 h3 h4 h5 h6 h7) (RLe.none _)
 | vptr a g h1 h2 h3 ih => intro ρ' hs; simp only [AV.sub]; exact VR.mono hs.keep (VR.vptr (ρ := rnone) a g h1 h2 h3) (RLe.none _)
 | fn h1 h2 _ _ ih1 ih2 =>
  intro ρ' hs
  simp only [AV.sub, Jy]
  refine .fn (by simpa using h1) (by simpa using h2) ?_ ?_
  ·
   intro i v u hv hu
   obtain ⟨v0, hv0, rfl⟩ := by simpa using hv
   exact ih1 i v0 u hv0 hu hs
  ·
   intro i v u hv hu
   obtain ⟨v0, hv0, rfl⟩ := by simpa using hv
   exact ih2 i v0 u hv0 hu hs
 | iface _ ih => intro ρ' hs; simp only [AV.sub]; exact .iface (ih hs)
 | agg h1 h2 _ ih =>
  intro ρ' hs
  simp only [AV.sub, Jy]
  refine .agg (by simpa using h1) h2 ?_
  intro i v u hv hu
  obtain ⟨v0, hv0, rfl⟩ := by simpa using hv
  exact ih i v0 u hv0 hu hs
 | tup h1 _ ih =>
  intro ρ' hs
  simp only [AV.sub, Jy]
  refine .tup (by simpa using h1) ?_
  intro i v u hv hu
  obtain ⟨v0, hv0, rfl⟩ := by simpa using hv
  exact ih i v0 u hv0 hu hs

theorem VRs.sub {s : Sub} {K K' : (Nat → Option Obj)} {ρ ρ' : (Nat → Option Loc)} {vs : List AV} {us : Array Value} (h : VRs K ρ vs us) (hs : SubR s K ρ K' ρ') : VRs K' ρ' (subs s vs) us := by
 refine ⟨by simpa [Jy] using h.1, fun i v u hv hu => ?_⟩
 rw [Jy] at hv
 obtain ⟨v0, hv0, rfl⟩ := by simpa using hv
 exact (h.2 i v0 u hv0 hu).sub hs

theorem JJ.sub {s : Sub} {K K' : (Nat → Option Obj)} {ρ ρ' : (Nat → Option Loc)} {c : Array Value} {base : Nat} {vs : List AV} (h : JJ K ρ c base vs) (hs : SubR s K ρ K' ρ') : JJ K' ρ' c base (subs s vs) := by
 intro j v hv
 rw [Jy] at hv
 obtain ⟨v0, hv0, rfl⟩ := by simpa using hv
 obtain ⟨u, hu, hr⟩ := h j v0 hv0
 exact ⟨u, hu, hr.sub hs⟩

theorem Jr (s : Sub) (l : List AV) : (subs s l).length = l.length := by simp [Jy]

theorem OR.sub {s : Sub} {K K' : (Nat → Option Obj)} {ρ ρ' : (Nat → Option Loc)} {w w' : World} {l : Loc} {o : AObj} (hs : SubR s K ρ K' ρ') (hw : real l o = true → w'.heap[l.block]? = w.heap[l.block]?) (h : OR K ρ w l o) : OR K' ρ' w' l (o.sub s) := by
 cases o with
 | box cs t =>
  obtain ⟨c, h1, h2, h3, h4, h5⟩ := h
  exact ⟨c, (hw rfl).trans h1, by rw [Jr]; exact h2, h3, h4, h5.sub hs⟩
 | mem sz es t =>
  obtain ⟨hp, h0, h1, h2⟩ := h
  refine ⟨hp, h0, ?_, ?_⟩
  ·
   intro el hel
   obtain ⟨e0, he0, rfl⟩ := List.mem_map.1 hel
   rw [Jr]
   exact h1 _ he0
  rcases h2 with h2 | ⟨c, h3, h4, h5, h6, h7⟩
  ·
   exact .inl ⟨h2.1, by rw [h2.2]; rfl⟩
  ·
   by_cases ht : l.tot = 0
   ·
    left
    refine ⟨ht, ?_⟩
    cases es with
    | nil => rfl
    | cons el es =>
     exfalso
     have := Nat.mul_pos (show 0 < (el :: es).length by simp) hp
     omega
   ·
    refine .inr ⟨c, (hw (by simp [real, ht])).trans h3, h4, by simpa using h5, h6, fun e el he => ?_⟩
    obtain ⟨e0, he0, rfl⟩ := by simpa using he
    exact (h7 e e0 he0).sub hs
 | map es clock =>
  obtain ⟨c, clk, h1, h2, h3⟩ := h
  refine ⟨c, clk, (hw rfl).trans h1, by simpa using h2, fun i p m hp hm => ?_⟩
  obtain ⟨p1, p2, hp0, rfl⟩ := by simpa using hp
  obtain ⟨a, b⟩ := h3 i (p1, p2) m hp0 hm
  exact ⟨a.sub hs, b.sub hs⟩
 | dead => trivial

theorem Xdq (s : Sub) (o : AObj) : live (o.sub s) = live o := by cases o <;> rfl
theorem Qx (s : Sub) (l : Loc) (o : AObj) : real l (o.sub s) = real l o := by cases o <;> rfl

theorem Xhw {l : Loc} {o : AObj} (h : real l o = true) : live o = true := by cases o <;> first | rfl | exact h

theorem Next.rle {G : Gh} {K K' : (Nat → Option Obj)} {ρ ρ' : (Nat → Option Loc)} {H H' : List AObj} {w w' : World} (hR : Rel G K ρ H w) (hN : Next G H.length K ρ K' ρ' H' w') : RLe ρ ρ' := by
  intro id l hl
  by_cases h : id < H.length
  · rw [hN.low id h]; exact hl
  · rw [hR.top id (by omega)] at hl; cases hl

def ATm.sub (s : Sub) (ta : ATm) : ATm := ⟨ta.n, ta.l.map fun p => (p.1, p.2.sub s), ta.ds.map fun d => (d.1, subs s d.2.1, subs s d.2.2)⟩

theorem look_sub (s : Sub) (l : List (Nat × AV)) (t : Nat) : look (l.map fun p => (p.1, p.2.sub s)) t = (look l t).sub s := by
 induction l with
 | nil => simp [look, AV.sub]
 | cons p l ih =>
  obtain ⟨t', v⟩ := p
  simp only [List.map_cons, look]
  split
  ·
   rfl
  ·
   exact ih

theorem DRs.sub {s : Sub} {K K' : (Nat → Option Obj)} {ρ ρ' : (Nat → Option Loc)} (hs : SubR s K ρ K' ρ') : ∀ {ds : List (Fn × List AV × List AV)} {xs : List Deferred}, DRs K ρ ds xs → DRs K' ρ' (ds.map fun d => (d.1, subs s d.2.1, subs s d.2.2)) xs
 | [], [], _ => trivial
 | d :: ds, x :: xs, h => by
  obtain ⟨⟨cap, args, e, h1, h2⟩, h3⟩ := h
  exact ⟨⟨cap, args, e, h1.sub hs, h2.sub hs⟩, DRs.sub hs h3⟩
 | [], _ :: _, h => h.elim
 | _ :: _, [], h => h.elim

theorem AR.sub {s : Sub} {K K' : (Nat → Option Obj)} {ρ ρ' : (Nat → Option Loc)} {ta : ATm} {a : Act} (hs : SubR s K ρ K' ρ') (h : AR K ρ ta a) : AR K' ρ' (ta.sub s) a := by
 refine ⟨h.size, fun t => ?_, h.defers.sub hs⟩
 have := h.tmps t
 simp only [ATm.get, ATm.sub] at this ⊢
 rw [look_sub]
 exact this.sub hs

def Ref (n0 : Nat) (ta : ATm) (H : List AObj) (ta1 : ATm) (H1 : List AObj) : Prop :=
 ∀ (G : Gh) (K : (Nat → Option Obj)) (ρ : (Nat → Option Loc)) (w : World) (a : Act), Rel G K ρ H w → AR K ρ ta a → ∃ K1 ρ1, AR K1 ρ1 ta1 a ∧ Next G n0 K ρ K1 ρ1 H1 w
def RefV (n0 : Nat) (vs : List AV) (H : List AObj) (vs1 : List AV) (H1 : List AObj) : Prop :=
 ∀ (G : Gh) (K : (Nat → Option Obj)) (ρ : (Nat → Option Loc)) (w : World) (us : Array Value), Rel G K ρ H w → VRs K ρ vs us → ∃ K1 ρ1, VRs K1 ρ1 vs1 us ∧ Next G n0 K ρ K1 ρ1 H1 w

theorem Ref.refl (n0 : Nat) (ta : ATm) (H : List AObj) : Ref n0 ta H ta H := fun G K ρ w a hR hA => ⟨K, ρ, hA, Next.refl hR⟩
theorem Ref.trans {n0 : Nat} {ta ta1 ta2 : ATm} {H H1 H2 : List AObj} (h : Ref n0 ta H ta1 H1) (h' : Ref n0 ta1 H1 ta2 H2) : Ref n0 ta H ta2 H2 := fun G K ρ w a hR hA => by
 obtain ⟨K1, ρ1, hA1, hN1⟩ := h G K ρ w a hR hA
 obtain ⟨K2, ρ2, hA2, hN2⟩ := h' G K1 ρ1 w a hN1.rel hA1
 exact ⟨K2, ρ2, hA2, hN1.trans hN2 (Nat.le_refl _)⟩

theorem ALoop.ref {P : Program} {n0 : Nat} {c : Code} {ta ta1 : ATm} {H H1 : List AObj} {Q : AExit → ATm → List AObj → Prop} (hr : Ref n0 ta H ta1 H1) (h : ALoop P n0 c ta1 H1 Q) : ALoop P n0 c ta H Q := fun G K ρ w a hR hA b k cs => by
 obtain ⟨K1, ρ1, hA1, hN1⟩ := hr G K ρ w a hR hA
 obtain ⟨e, a', w', ⟨K', ρ', ae, ta', H', hQ, hE, hA', hN⟩, r⟩ := h G K1 ρ1 w a hN1.rel hA1 b k cs
 exact ⟨e, a', w', ⟨K', ρ', ae, ta', H', hQ, hE, hA', hN1.trans hN (Nat.le_refl _)⟩, r⟩

theorem Ref.less {n0 : Nat} {ta : ATm} {H : List AObj} (l : List (Nat × AV)) (h : ∀ t, look l t = look ta.l t ∨ look l t = .any) : Ref n0 ta H ⟨ta.n, l, ta.ds⟩ H := fun G K ρ w a hR hA => by
 refine ⟨K, ρ, ⟨hA.size, fun t => ?_, hA.defers⟩, Next.refl hR⟩
 have := hA.tmps t
 simp only [ATm.get] at this ⊢
 rcases h t with e | e
 ·
  rw [e]; exact this
 ·
  rw [e]; exact .any

def pickl (l : List (Nat × AV)) (ts : List Nat) : List (Nat × AV) := ts.map fun t => (t, look l t)
theorem Xqa (l : List (Nat × AV)) (ts : List Nat) (t : Nat) : look (pickl l ts) t = look l t ∨ look (pickl l ts) t = .any := by
 induction ts with
 | nil => exact .inr rfl
 | cons t' ts ih =>
  simp only [pickl, List.map_cons, look]
  by_cases e : t' = t
  ·
   rw [if_pos e, e]; exact .inl rfl
  ·
   rw [if_neg e]; exact ih
theorem Ref.pick {n0 : Nat} {n : Nat} {l : List (Nat × AV)} {ds : List (Fn × List AV × List AV)} {H : List AObj} (ts : List Nat) : Ref n0 ⟨n, l, ds⟩ H ⟨n, pickl l ts, ds⟩ H := Ref.less (ta := ⟨n, l, ds⟩) _ (Xqa l ts)

def cutS (n : Nat) : Sub := ⟨fun id e j => if id < n then .ptr id e j else .any, fun id off len => if id < n then .row id off len else .any, fun id => if id < n then .map id else .any⟩
def cutρ (n : Nat) (ρ : (Nat → Option Loc)) : (Nat → Option Loc) := fun id => if id < n then ρ id else none
theorem cutR (n : Nat) (K : (Nat → Option Obj)) (ρ : (Nat → Option Loc)) : SubR (cutS n) K ρ K (cutρ n ρ) := by
 have key : ∀ id l, ρ id = some l → id < n → cutρ n ρ id = some l := fun id l h hi => by simp [cutρ, hi, h]
 refine ⟨KLe.refl _, ?_, ?_, ?_⟩
 ·
  intro id e j u h
  simp only [cutS]
  split
  ·
   cases h with | ptr h => exact .ptr (key _ _ h ‹_›)
  ·
   exact .any
 ·
  intro id off len u h
  simp only [cutS]
  split
  ·
   cases h with | row h h1 h2 => exact .row (key _ _ h ‹_›) h1 h2
  ·
   exact .any
 ·
  intro id u h
  simp only [cutS]
  split
  ·
   cases h with | map h => exact .map (key _ _ h ‹_›)
  ·
   exact .any

theorem Rel.cut {G : Gh} {K : (Nat → Option Obj)} {ρ : (Nat → Option Loc)} {H : List AObj} {w : World} (hR : Rel G K ρ H w) (n : Nat) (hn : n ≤ H.length) : Rel G K (cutρ n ρ) ((H.take n).map (AObj.sub (cutS n))) w := by
 have hget : ∀ (id : Nat) o, ((H.take n).map (AObj.sub (cutS n)))[id]? = some o → id < n ∧ ∃ o0, H[id]? = some o0 ∧ o = o0.sub (cutS n) := by
  intro id o ho
  rw [List.getElem?_map, List.getElem?_take] at ho
  by_cases h : id < n
  ·
   rw [if_pos h] at ho
   cases h0 : H[id]? with
   | none => rw [h0] at ho; cases ho
   | some o0 => rw [h0] at ho; exact ⟨h, o0, rfl, (Option.some.inj ho).symm⟩
  ·
   rw [if_neg h] at ho; cases ho
 refine ⟨hR.os, hR.tape, hR.output, hR.keep, hR.frame, hR.apart, ?_, ?_, ?_, ?_⟩
 ·
  intro id hid
  simp only [List.length_map, List.length_take] at hid
  simp only [cutρ]
  split
  ·
   omega
  ·
   rfl
 ·
  intro id o ho hl
  obtain ⟨h, o0, h0, rfl⟩ := hget id o ho
  rw [Xdq] at hl
  obtain ⟨l, hl', hO⟩ := hR.objs id o0 h0 hl
  exact ⟨l, by simp [cutρ, h, hl'], hO.sub (cutR n K ρ) (fun _ => rfl)⟩
 ·
  intro id o l ho hl hr
  obtain ⟨h, o0, h0, rfl⟩ := hget id o ho
  rw [Qx] at hr
  simp only [cutρ, if_pos h] at hl
  exact hR.own id o0 l h0 hl hr
 ·
  intro i j oi oj li lj hi hj hli hlj hri hrj hb
  obtain ⟨h, o0, h0, rfl⟩ := hget i oi hi
  obtain ⟨h', o1, h1, rfl⟩ := hget j oj hj
  rw [Qx] at hri hrj
  simp only [cutρ, if_pos h] at hli
  simp only [cutρ, if_pos h'] at hlj
  exact hR.inj i j o0 o1 li lj h0 h1 hli hlj hri hrj hb

theorem RefV.cut {n0 : Nat} {vs : List AV} {H : List AObj} (n : Nat) (h0 : n0 ≤ n) (hn : n ≤ H.length) : RefV n0 vs H (subs (cutS n) vs) ((H.take n).map (AObj.sub (cutS n))) := fun G K ρ w a hR hA =>
 ⟨K, cutρ n ρ, hA.sub (cutR n K ρ), hR.cut n hn, KLe.refl _, fun id hi => by simp [cutρ, show id < n by omega]⟩

mutual
/-- No place in memory that has a number is named. -/
def pureV : AV → Bool
 | .ptr _ _ _ | .row _ _ _ | .map _ => false
 | .fn _ a b => pures a && pures b
 | .iface _ v => pureV v
 | .agg cs => pures cs
 | .tup cs => pures cs
 | _ => true
def pures : List AV → Bool
 | [] => true
 | v :: vs => pureV v && pures vs
end
theorem Xby {l : List AV} (h : pures l = true) : ∀ v ∈ l, pureV v = true := by
 induction l with
 | nil => intro v hv; cases hv
 | cons x l ih =>
  simp only [pures, Bool.and_eq_true] at h
  intro v hv
  rcases List.mem_cons.1 hv with rfl | hv
  ·
   exact h.1
  ·
   exact ih h.2 v hv

theorem VR.pure {K : (Nat → Option Obj)} {ρ : (Nat → Option Loc)} {v : AV} {u : Value} (h : VR K ρ v u) : pureV v = true → ∀ ρ' : (Nat → Option Loc), VR K ρ' v u := by
 induction h with
 | any => intros; exact .any
 | anyb => intros; exact .anyb
 | bool => intros; exact .bool
 | int => intros; exact .int
 | str => intros; exact .str
 | nilp => intros; exact .nilp
 | nilfn => intros; exact .nilfn
 | nilif => intros; exact .nilif
 | nilmap => intros; exact .nilmap
 | map h => intro h; simp [pureV] at h
 | ptr h => intro h; simp [pureV] at h
 | row h h1 h2 => intro h; simp [pureV] at h
 | vec a sz g h1 h2 h3 h4 h5 h6 h7 ih => intro _ ρ'; exact .vec a sz g h1 h2 h3 h4 h5 h6 h7
 | vptr a g h1 h2 h3 ih => intro _ ρ'; exact .vptr a g h1 h2 h3
 | fn h1 h2 _ _ ih1 ih2 =>
  intro h ρ'
  simp only [pureV, Bool.and_eq_true] at h
  exact .fn h1 h2 (fun i v u hv hu => ih1 i v u hv hu (Xby h.1 v (List.mem_of_getElem? hv)) ρ') (fun i v u hv hu => ih2 i v u hv hu (Xby h.2 v (List.mem_of_getElem? hv)) ρ')
 | iface _ ih => intro h ρ'; simp only [pureV] at h; exact .iface (ih h ρ')
 | agg h1 h2 _ ih => intro h ρ'; simp only [pureV] at h; exact .agg h1 h2 (fun i v u hv hu => ih i v u hv hu (Xby h v (List.mem_of_getElem? hv)) ρ')
 | tup h1 _ ih => intro h ρ'; simp only [pureV] at h; exact .tup h1 (fun i v u hv hu => ih i v u hv hu (Xby h v (List.mem_of_getElem? hv)) ρ')

def frzS (id : Nat) (es : List (List AV)) : Sub := ⟨fun i e j => .ptr i e j, fun i off len => if i = id then (if off + len ≤ es.length then .vec false ((es.drop off).take len) else .any) else .row i off len, fun i => .map i⟩

def frzK (K : (Nat → Option Obj)) (b : Nat) (o : Obj) : (Nat → Option Obj) := fun i => if i = b then some o else K i

theorem Xky {K : (Nat → Option Obj)} {b : Nat} {o : Obj} (h : K b = none) : KLe K (frzK K b o) := by
 intro i x hx
 simp only [frzK]
 split
 ·
  rename_i e; rw [e, h] at hx; cases hx
 ·
  exact hx

theorem ZU (b o n : Nat) : (⟨b, o, none⟩ : Addr).add n = ⟨b, o + n, none⟩ := by
  unfold Addr.add
  split
  · rename_i h; subst h; rfl
  · rfl

theorem Xo7 {c : Array Value} (h : ∀ u ∈ c, one u = true) (i : Nat) : one (c.getD i (.bool true)) = true := by
 rw [Array.getD_eq_getD_getElem?]
 cases hc : c[i]? with
 | none => rfl
 | some u => exact h u (Array.mem_of_getElem? hc)

theorem frz_vec {K : (Nat → Option Obj)} {ρ : (Nat → Option Loc)} {sz : Nat} {es : List (List AV)} {t : TypeId} {l : Loc} {c : Array Value} {off len c0 : Nat} {A : Option Addr} (hls : l.sz = sz) (hel : ∀ el ∈ es, el.length = sz) (hp : ∀ el ∈ es, pures el = true)
  (h4 : c.size = l.tot) (h5 : l.base + es.length * sz ≤ l.tot) (h6 : ∀ u ∈ c, one u = true) (h7 : ∀ (e : Nat) (el : List AV), es[e]? = some el → JJ K ρ c (l.base + e * sz) el) (hKn : K l.block = none) (hlen : off + len ≤ es.length)
  (hlc : len ≤ c0) (h2 : c0 = 0 ∨ (A = some ⟨l.block, l.base + off * l.sz, none⟩ ∧ l.base + (off + c0) * l.sz ≤ l.tot)) : VR (frzK K l.block (.cells c t (0, 0))) ρ (.vec false ((es.drop off).take len)) (.slice A len c0) := by
 have hl : ((es.drop off).take len).length = len := by rw [List.length_take, List.length_drop]; omega
 have hk : ∀ i, kcell (frzK K l.block (.cells c t (0, 0))) ⟨l.block, i, none⟩ = c[i]? := by intro i; simp [kcell, frzK]
 have hget : ∀ (e : Nat) (el : List AV), ((es.drop off).take len)[e]? = some el → e < len ∧ es[off + e]? = some el := by
  intro e el h
  rw [List.getElem?_take] at h
  split at h
  ·
   rw [List.getElem?_drop] at h; exact ⟨‹_›, h⟩
  ·
   cases h
 have hbound : ∀ e j, e < len → j < sz → l.base + (off + e) * sz + j < c.size := by
  intro e j he hj
  have h8 : (off + e + 1) * sz ≤ es.length * sz := Nat.mul_le_mul_right _ (by omega)
  rw [Nat.add_mul, Nat.one_mul] at h8
  omega
 have key := VR.vec (K := frzK K l.block (.cells c t (0, 0))) (ρ := ρ) (cap := false) (es := (es.drop off).take len) (A := A) (c := c0) ⟨l.block, l.base + off * sz, none⟩ sz (fun e j => c.getD (l.base + (off + e) * sz + j) (.bool true)) (by simp) (by omega) ?_ ?_ ?_ ?_ ?_
 ·
  rwa [hl] at key
 ·
  rcases h2 with h2 | ⟨h2, _⟩
  ·
   left; exact List.eq_nil_of_length_eq_zero (by omega)
  ·
   right; rw [h2, hls]
 ·
  intro el h
  exact hel el (List.mem_of_mem_drop (List.mem_of_mem_take h))
 ·
  intro e j he hj
  rw [hl] at he
  rw [ZU, hk, Array.getD_eq_getD_getElem?]
  have e1 : l.base + off * sz + (e * sz + j) = l.base + (off + e) * sz + j := by rw [Nat.add_mul]; omega
  rw [e1, Array.getElem?_eq_getElem (hbound e j he hj)]
  rfl
 ·
  intro e j; exact Xo7 h6 _
 ·
  intro e j el v he hv
  obtain ⟨he', hes⟩ := hget e el he
  obtain ⟨u, hu, hr⟩ := h7 _ _ hes j v hv
  show VR _ _ v (c.getD (l.base + (off + e) * sz + j) (.bool true))
  rw [Array.getD_eq_getD_getElem?, hu]
  exact (hr.pure (Xby (hp el (List.mem_of_getElem? hes)) v (List.mem_of_getElem? hv)) rnone).mono (Xky hKn) (RLe.refl _)

theorem Rel.frz {G : Gh} {K : (Nat → Option Obj)} {ρ : (Nat → Option Loc)} {H : List AObj} {w : World} (hR : Rel G K ρ H w) {id sz : Nat} {es : List (List AV)} {t : TypeId} (ho : H[id]? = some (.mem sz es t)) (hp : ∀ el ∈ es, pures el = true) :
  ∃ K1, SubR (frzS id es) K ρ K1 ρ ∧ Next G H.length K ρ K1 ρ ((H.set id .dead).map (AObj.sub (frzS id es))) w := by
 obtain ⟨l, hl, hsz, hls, hel, hO⟩ := hR.objs id _ ho rfl
 -- the block that is kept from now on
 have hK1 : ∃ K1, KLe K K1 ∧ (∀ b o, K1 b = some o → w.heap[b]? = some o) ∧ (∀ b o, G.frame b = some o → K1 b = none) ∧ (∀ (i : Nat) o l', H[i]? = some o → i ≠ id → ρ i = some l' → real l' o = true → K1 l'.block = none) ∧
   ∀ off len u, off + len ≤ es.length → VR K ρ (.row id off len) u → VR K1 ρ (.vec false ((es.drop off).take len)) u := by
  by_cases ht : l.tot = 0
  ·
   have hes : es = [] := by
    rcases hO with ⟨_, h⟩ | ⟨c, h3, h4, h5, h6, h7⟩
    ·
     exact h
    ·
     cases es with
     | nil => rfl
     | cons el es =>
      exfalso
      have := Nat.mul_pos (show 0 < (el :: es).length by simp) hsz
      omega
   refine ⟨K, KLe.refl _, hR.keep, hR.apart, fun i o l' hi _ hl' hr => (hR.own i o l' hi hl' hr).2.1, ?_⟩
   intro off len u _ h
   cases h with
   | row h h1 h2 =>
    rw [hl] at h
    obtain rfl := Option.some.inj h
    rename_i A c0
    have hc0 : c0 = 0 := by
     rcases h2 with h2 | ⟨_, h2⟩
     ·
      exact h2
     ·
      rw [ht, hls] at h2
      have : (off + c0) * sz = 0 := by omega
      rcases Nat.mul_eq_zero.1 this with h | h <;> omega
    subst hc0
    have hlen : len = 0 := by omega
    subst hlen
    have := VR.vec (K := K) (ρ := ρ) (cap := false) (es := []) (A := A) (c := 0) ⟨0, 0, none⟩ 0 (fun _ _ => .bool true) (by simp) (by simp) (.inl rfl) (by simp) (by simp) (by intros; rfl) (by simp)
    simpa [hes] using this
  ·
   obtain ⟨c, h3, h4, h5, h6, h7⟩ := hO.resolve_left (fun h => ht h.1)
   have hreal : real l (.mem sz es t) = true := by simp [real, ht]
   obtain ⟨hlt, hKn, hFn⟩ := hR.own id _ l ho hl hreal
   refine ⟨frzK K l.block (.cells c t (0, 0)), Xky hKn, ?_, ?_, ?_, ?_⟩
   ·
    intro b o hb
    simp only [frzK] at hb
    split at hb
    ·
     rename_i e; rw [e, ← Option.some.inj hb]; exact h3
    ·
     exact hR.keep b o hb
   ·
    intro b o hb
    simp only [frzK]
    split
    ·
     rename_i e; rw [e, hFn] at hb; cases hb
    ·
     exact hR.apart b o hb
   ·
    intro i o l' hi hne hl' hr
    simp only [frzK]
    rw [if_neg (fun e => hne (hR.inj i id o _ l' l hi ho hl' hl hr hreal e))]
    exact (hR.own i o l' hi hl' hr).2.1
   ·
    intro off len u hol h
    cases h with
    | row h hlc h2 =>
     rw [hl] at h
     obtain rfl := Option.some.inj h
     rename_i A c0
     exact frz_vec hls hel hp h4 h5 h6 h7 hKn hol hlc h2
 obtain ⟨K1, hle, hkeep, hapart, hown, hrow⟩ := hK1
 have hs : SubR (frzS id es) K ρ K1 ρ := by
  refine ⟨hle, fun i e j u h => h.mono hle (RLe.refl _), fun i off len u h => ?_, fun i u h => h.mono hle (RLe.refl _)⟩
  simp only [frzS]
  split
  ·
   rename_i e
   subst e
   split
   ·
    exact hrow off len u ‹_› h
   ·
    exact .any
  ·
   exact h.mono hle (RLe.refl _)
 refine ⟨K1, hs, ⟨hR.os, hR.tape, hR.output, hkeep, hR.frame, hapart, ?_, ?_, ?_, ?_⟩, hle, fun _ _ => rfl⟩
 ·
  intro i hi; exact hR.top i (by simpa using hi)
 ·
  intro i o hi hlv
  rw [List.getElem?_map] at hi
  obtain ⟨o0, h0, rfl⟩ := Option.map_eq_some_iff.1 hi
  rw [Xdq] at hlv
  rw [List.getElem?_set] at h0
  split at h0
  ·
   split at h0
   ·
    rw [← Option.some.inj h0] at hlv; cases hlv
   ·
    cases h0
  ·
   obtain ⟨l', hl', hO'⟩ := hR.objs i o0 h0 hlv
   exact ⟨l', hl', hO'.sub hs (fun _ => rfl)⟩
 ·
  intro i o l' hi hl' hr
  rw [List.getElem?_map] at hi
  obtain ⟨o0, h0, rfl⟩ := Option.map_eq_some_iff.1 hi
  rw [Qx] at hr
  rw [List.getElem?_set] at h0
  split at h0
  ·
   split at h0
   ·
    rw [← Option.some.inj h0] at hr; cases hr
   ·
    cases h0
  ·
   rename_i hne
   obtain ⟨a, b, c⟩ := hR.own i o0 l' h0 hl' hr
   exact ⟨a, hown i o0 l' h0 (fun e => hne e.symm) hl' hr, c⟩
 ·
  intro i j oi oj li lj hi hj hli hlj hri hrj hb
  rw [List.getElem?_map] at hi hj
  obtain ⟨o0, h0, rfl⟩ := Option.map_eq_some_iff.1 hi
  obtain ⟨o1, h1, rfl⟩ := Option.map_eq_some_iff.1 hj
  rw [Qx] at hri hrj
  rw [List.getElem?_set] at h0 h1
  split at h0
  ·
   split at h0
   ·
    rw [← Option.some.inj h0] at hri; cases hri
   ·
    cases h0
  ·
   split at h1
   ·
    split at h1
    ·
     rw [← Option.some.inj h1] at hrj; cases hrj
    ·
     cases h1
   ·
    exact hR.inj i j o0 o1 li lj h0 h1 hli hlj hri hrj hb

theorem Ref.frz {n0 : Nat} {ta : ATm} {H : List AObj} (hn : n0 ≤ H.length) {id sz : Nat} {es : List (List AV)} {t : TypeId} (ho : H[id]? = some (.mem sz es t)) (hp : ∀ el ∈ es, pures el = true) :
  Ref n0 ta H (ta.sub (frzS id es)) ((H.set id .dead).map (AObj.sub (frzS id es))) := fun G K ρ w a hR hA => by
 obtain ⟨K1, hs, hN⟩ := hR.frz ho hp
 exact ⟨K1, ρ, hA.sub hs, hN.rel, hN.keep, fun i hi => hN.low i (by omega)⟩
theorem RefV.frz {n0 : Nat} {vs : List AV} {H : List AObj} (hn : n0 ≤ H.length) {id sz : Nat} {es : List (List AV)} {t : TypeId} (ho : H[id]? = some (.mem sz es t)) (hp : ∀ el ∈ es, pures el = true) :
  RefV n0 vs H (subs (frzS id es) vs) ((H.set id .dead).map (AObj.sub (frzS id es))) := fun G K ρ w a hR hA => by
 obtain ⟨K1, hs, hN⟩ := hR.frz ho hp
 exact ⟨K1, ρ, hA.sub hs, hN.rel, hN.keep, fun i hi => hN.low i (by omega)⟩
theorem Rel.thaw {G : Gh} {K : (Nat → Option Obj)} {ρ : (Nat → Option Loc)} {H : List AObj} {w : World} (hR : Rel G K ρ H w) {sz : Nat} (hsz : 0 < sz) (t : TypeId) :
  ∃ ρ1, RLe ρ ρ1 ∧ Next G H.length K ρ K ρ1 (H ++ [.mem sz [] t]) w ∧ ∀ u, VR K ρ (.vec true []) u → VR K ρ1 (.row H.length 0 0) u := by
 let l : Loc := ⟨0, 0, sz, 0⟩
 let ρ1 : (Nat → Option Loc) := fun id => if id = H.length then some l else ρ id
 have hle : RLe ρ ρ1 := by
  intro id x hx
  by_cases h : id = H.length
  ·
   rw [h, hR.top _ (Nat.le_refl _)] at hx; cases hx
  ·
   simp only [ρ1, if_neg h]; exact hx
 have hlow : ∀ id, id < H.length → ρ1 id = ρ id := fun id h => by simp only [ρ1, if_neg (Nat.ne_of_lt h)]
 have hget : ∀ (i : Nat) o, (H ++ [AObj.mem sz [] t])[i]? = some o → (i < H.length ∧ H[i]? = some o) ∨ (i = H.length ∧ o = .mem sz [] t) := by
  intro i o h
  rcases Nat.lt_trichotomy i H.length with hi | hi | hi
  ·
   rw [List.getElem?_append_left hi] at h; exact .inl ⟨hi, h⟩
  ·
   subst hi; simp at h; exact .inr ⟨rfl, h.symm⟩
  ·
   rw [List.getElem?_eq_none (by simp; omega)] at h; cases h
 refine ⟨ρ1, hle, ⟨⟨hR.os, hR.tape, hR.output, hR.keep, hR.frame, hR.apart, ?_, ?_, ?_, ?_⟩, KLe.refl _, hlow⟩, ?_⟩
 ·
  intro id hid
  simp only [List.length_append, List.length_singleton] at hid
  simp only [ρ1, if_neg (show id ≠ H.length by omega)]
  exact hR.top id (by omega)
 ·
  intro i o ho hlv
  rcases hget i o ho with ⟨hi, h⟩ | ⟨rfl, rfl⟩
  ·
   obtain ⟨l', hl', hO⟩ := hR.objs i o h hlv
   exact ⟨l', hle _ _ hl', hO.mono (KLe.refl _) hle (fun _ => rfl)⟩
  ·
   exact ⟨l, by simp only [ρ1, if_pos], hsz, rfl, by simp, .inl ⟨rfl, rfl⟩⟩
 ·
  intro i o l' ho hl' hr
  rcases hget i o ho with ⟨hi, h⟩ | ⟨rfl, rfl⟩
  ·
   rw [hlow i hi] at hl'; exact hR.own i o l' h hl' hr
  ·
   simp only [ρ1, if_pos] at hl'
   rw [← Option.some.inj hl'] at hr
   simp [real, l] at hr
 ·
  intro i j oi oj li lj hi hj hli hlj hri hrj hb
  rcases hget i oi hi with ⟨h1, h2⟩ | ⟨rfl, rfl⟩
  ·
   rcases hget j oj hj with ⟨h3, h4⟩ | ⟨rfl, rfl⟩
   ·
    rw [hlow i h1] at hli
    rw [hlow j h3] at hlj
    exact hR.inj i j oi oj li lj h2 h4 hli hlj hri hrj hb
   ·
    simp only [ρ1, if_pos] at hlj
    rw [← Option.some.inj hlj] at hrj
    simp [real, l] at hrj
  ·
   simp only [ρ1, if_pos] at hli
   rw [← Option.some.inj hli] at hri
   simp [real, l] at hri
 ·
  intro u h
  cases h with
  | vec a sz' g h1 h2 h3 h4 h5 h6 h7 =>
   have := h1 rfl
   exact .row (l := l) (by simp only [ρ1, if_pos]) (by simp) (.inl (by simpa using this))
end Go.Proofs.Ytcbhlpbkampfeaa.AI
