/- Part of a proof. -/
import Derived.Test.YtjalenbgpmdadaaA18
set_option linter.unusedVariables false
set_option linter.unusedSimpArgs false
namespace Go.Proofs.Ytjalenbgpmdadaa.AI

theorem bindS {α β : Type} {a : Option α} {f : α → Option β} {r : β} (h : a.bind f = some r) : ∃ x, a = some x ∧ f x = some r := Option.bind_eq_some_iff.1 h
theorem guardS {c : Prop} [Decidable c] {α : Type} {a : Option α} {r : α} (h : (if c then a else none) = some r) : c ∧ a = some r := by
  by_cases hc : c
  · rw [if_pos hc] at h; exact ⟨hc, h⟩
  · rw [if_neg hc] at h; cases h
def atI {α : Type} (l : List α) (i : Int) : Option α := if 0 ≤ i then l[i.toNat]? else none
theorem atI_some {α : Type} {l : List α} {i : Int} {x : α} (h : atI l i = some x) : 0 ≤ i ∧ l[i.toNat]? = some x := guardS h
theorem atI_lt {α : Type} {l : List α} {i : Int} {x : α} (h : atI l i = some x) : i < (l.length : Int) := by
 obtain ⟨h0, h1⟩ := atI_some h
 have := (List.getElem?_eq_some_iff.1 h1).1
 omega
theorem atI_map {α : Type} {l : List α} {i : Int} {x : α} (e : α → List AV) (h : atI l i = some x) : (l.map e)[i.toNat]? = some (e x) := by
 rw [List.getElem?_map, (atI_some h).2]; rfl
theorem atI_nat {α : Type} (l : List α) (i : Nat) : atI l (i : Int) = l[i]? := by simp [atI]

theorem take_mapc {α : Type} (n : Nat) (l : List α) (e : α → List AV) (h : l.length ≤ n) : List.take n (List.map e l) = List.map e l := List.take_of_length_le (by simpa using h)
theorem app_map {α : Type} (l m : List α) (e : α → List AV) : l.map e ++ m.map e = (l ++ m).map e := by simp
theorem set_map {α : Type} (l : List α) (e : α → List AV) (i : Nat) (x : α) : (l.map e).set i (e x) = (l.set i x).map e := List.map_set.symm
theorem all_len {α : Type} (l : List α) (e : α → List AV) (n : Nat) (h : ∀ x, (e x).length = n) : (l.map e).all (fun el => el.length == n) = true := by
 rw [List.all_eq_true]
 intro el hel
 obtain ⟨x, _, rfl⟩ := List.mem_map.1 hel
 simp [h]
theorem rep_map {α : Type} (n : Nat) (e : α → List AV) (x : α) : List.replicate n (e x) = (List.replicate n x).map e := (List.map_replicate ..).symm
theorem subs_map {α : Type} (S : Sub) (l : List α) (e : α → List AV) (h : ∀ x, subs S (e x) = e x) : (l.map e).map (subs S) = l.map e := by
 rw [List.map_map]
 exact List.map_congr_left fun x _ => h x
theorem pures_map {α : Type} (l : List α) (e : α → List AV) (h : ∀ x, pures (e x) = true) : ∀ el ∈ l.map e, pures el = true := by
 intro el hel
 obtain ⟨x, _, rfl⟩ := List.mem_map.1 hel
 exact h x

def slI {α : Type} (l : List α) (lo hi : Int) : List α := (l.drop lo.toNat).take (hi.toNat - lo.toNat)
theorem slI_map0 {α : Type} (l : List α) (lo : Int) (e : α → List AV) : List.take (l.length - lo.toNat) (List.drop lo.toNat (List.map e l)) = List.map e (slI l lo (l.length : Int)) := by
 simp [slI, List.map_take, List.map_drop]
theorem slI_get {α : Type} {l : List α} {lo hi i : Int} {x : α} (h : atI (slI l lo hi) i = some x) : 0 ≤ i ∧ i.toNat < hi.toNat - lo.toNat ∧ l[lo.toNat + i.toNat]? = some x := by
 obtain ⟨h0, h1⟩ := atI_some h
 rw [slI, List.getElem?_take] at h1
 by_cases hc : i.toNat < hi.toNat - lo.toNat
 ·
  rw [if_pos hc, List.getElem?_drop] at h1
  exact ⟨h0, hc, h1⟩
 ·
  rw [if_neg hc] at h1; cases h1
theorem slI_lt {α : Type} {l : List α} {lo hi i : Int} {x : α} (h : atI (slI l lo hi) i = some x) : i < ((hi.toNat - lo.toNat : Nat) : Int) := by
 obtain ⟨h0, h1, _⟩ := slI_get h
 omega
theorem slI_at_map {α : Type} {l : List α} {lo hi i : Int} {x : α} (e : α → List AV) (h : atI (slI l lo hi) i = some x) : (l.map e)[lo.toNat + i.toNat]? = some (e x) := by
 rw [List.getElem?_map, (slI_get h).2.2]; rfl
theorem bfalse {b : Bool} (h : ¬ (b = true)) : b = false := by cases b <;> simp at h ⊢
theorem ACalls.goN {P : Program} {f : FuncId} {fn : Func} (hf : P.funcs[f]? = some fn) (hname : (fn.name == "runtime.NumGoroutine") = false) {ac : ACode} (hc : fn.body.bind (comp P) = some ac) {N : Nat} (hN : fn.ntmps = N) {rs : List RV} (hrs : compRVs P fn.results.toList = some rs) {args : List AV} (hn : args.length ≤ N) {H : List AObj} {Q : AEnd → List AObj → Prop} (n : Nat) (hl : H.length = n)
  (h : M P n (bodyA n rs Q) [.code ac] ⟨N, argl 0 args, []⟩ H) : ACalls P f args H Q := by
 subst hl; exact ACalls.go hf hname hc hN hrs hn h
theorem bq_tf : (true == false) = false := rfl
theorem bq_ft : (false == true) = false := rfl
theorem bn_tt : (true != true) = false := rfl
theorem bn_tf : (true != false) = true := rfl
theorem bn_ft : (false != true) = true := rfl
theorem bn_ff : (false != false) = false := rfl

def movS (id n : Nat) : Sub := ⟨fun i e j => if i = id then .ptr n e j else .ptr i e j, fun i off len => if i = id then .row n off len else .row i off len, fun i => if i = id then .map n else .map i⟩
theorem frz_len {α : Type} (l : List α) (e : α → List AV) (id n : Nat) (h : n = l.length) : (if n ≤ l.length then AV.vec false (List.take n (List.map e l)) else .any) = .vec false (l.map e) := by
 subst h
 rw [if_pos (Nat.le_refl _), List.take_of_length_le (by simp)]
theorem RefV.thaw0 {n0 : Nat} {H : List AObj} (hn : n0 ≤ H.length) {sz : Nat} (hsz : 0 < sz) (t : TypeId) : RefV n0 [.vec true []] H [.row H.length 0 0] (H ++ [.mem sz [] t]) := fun G K ρ w a hR hA => by
 obtain ⟨ρ1, hle, hN, hv⟩ := hR.thaw hsz t
 refine ⟨K, ρ1, ⟨hA.1, fun i v u h1 h2 => ?_⟩, hN.rel, hN.keep, fun i hi => hN.low i (by omega)⟩
 cases i with
 | zero => simp at h1; subst h1; exact hv _ (hA.2 0 _ u rfl h2)
 | succ i => simp at h1

theorem low0 {σ : List Nat} : ∀ k, k < 0 → σ[k]? = some k := fun k hk => absurd hk (Nat.not_lt_zero _)
theorem Ref.std {n0 n : Nat} {l l' : List (Nat × AV)} {H H' : List AObj} (ts σ : List Nat) (hσ : σ.Nodup) (hlow : ∀ k, k < n0 → σ[k]? = some k) (e1 : (pickl l ts).map (fun p => (p.1, p.2.sub (selS σ))) = l') (e2 : selH σ H = H') :
  Ref n0 ⟨n, l, []⟩ H ⟨n, l', []⟩ H' := by
 subst e1; subst e2
 exact Ref.trans (Ref.pick ts) (Ref.sel σ hσ hlow)
theorem Ref.out {n : Nat} {l l' : List (Nat × AV)} {H : List AObj} (ts : List Nat) (e1 : (pickl l ts).map (fun p => (p.1, p.2.sub (selS []))) = l') : Ref 0 ⟨n, l, []⟩ H ⟨n, l', []⟩ [] :=
 Ref.std ts [] List.nodup_nil low0 e1 rfl
theorem RefV.out {v v' : AV} {H : List AObj} (e1 : v.sub (selS []) = v') : RefV 0 [v] H [v'] [] := by
 subst e1
 exact RefV.sel [] List.nodup_nil low0
theorem RefV.std {n0 : Nat} {v v' : AV} {H H' : List AObj} (σ : List Nat) (hσ : σ.Nodup) (hlow : ∀ k, k < n0 → σ[k]? = some k) (e1 : v.sub (selS σ) = v') (e2 : selH σ H = H') : RefV n0 [v] H [v'] H' := by
 subst e1; subst e2
 exact RefV.sel σ hσ hlow
def Wk (v v' : AV) : Prop := ∀ (K : (Nat → Option Obj)) (ρ : (Nat → Option Loc)) (u : Value), VR K ρ v u → VR K ρ v' u
inductive Wks : List AV → List AV → Prop
 | nil : Wks [] []
 | cons {v v' vs vs'} : Wk v v' → Wks vs vs' → Wks (v :: vs) (v' :: vs')
inductive Wkss : List (List AV) → List (List AV) → Prop
 | nil : Wkss [] []
 | cons {v v' vs vs'} : Wks v v' → Wkss vs vs' → Wkss (v :: vs) (v' :: vs')
theorem Wk.refl (v : AV) : Wk v v := fun _ _ _ h => h
theorem Wks.refl : ∀ (l : List AV), Wks l l
 | [] => .nil
 | v :: l => .cons (Wk.refl v) (Wks.refl l)
theorem Wkss.refl : ∀ (l : List (List AV)), Wkss l l
 | [] => .nil
 | v :: l => .cons (Wks.refl v) (Wkss.refl l)
theorem Wks.length {l l' : List AV} (h : Wks l l') : l.length = l'.length := by
 induction h with
 | nil => rfl
 | cons _ _ ih => simp [ih]
theorem Wkss.length {l l' : List (List AV)} (h : Wkss l l') : l.length = l'.length := by
 induction h with
 | nil => rfl
 | cons _ _ ih => simp [ih]
theorem Wks.at {l l' : List AV} (h : Wks l l') : ∀ (i : Nat) (v' : AV), l'[i]? = some v' → ∃ v, l[i]? = some v ∧ Wk v v' := by
 induction h with
 | nil => intro i v' hv; simp at hv
 | cons h1 _ ih =>
  intro i v' hv
  cases i with
  | zero => simp at hv; subst hv; exact ⟨_, rfl, h1⟩
  | succ i => simpa using ih i v' (by simpa using hv)
theorem Wkss.at {l l' : List (List AV)} (h : Wkss l l') : ∀ (i : Nat) (v' : List AV), l'[i]? = some v' → ∃ v, l[i]? = some v ∧ Wks v v' := by
 induction h with
 | nil => intro i v' hv; simp at hv
 | cons h1 _ ih =>
  intro i v' hv
  cases i with
  | zero => simp at hv; subst hv; exact ⟨_, rfl, h1⟩
  | succ i => simpa using ih i v' (by simpa using hv)
theorem Wks.vrs {vs vs' : List AV} (h : Wks vs vs') {K : (Nat → Option Obj)} {ρ : (Nat → Option Loc)} {us : Array Value} (hv : VRs K ρ vs us) : VRs K ρ vs' us :=
 ⟨by rw [← h.length]; exact hv.1, fun i v' u hv' hu => by
  obtain ⟨v, h1, h2⟩ := h.at i v' hv'
  exact h2 _ _ _ (hv.2 i v u h1 hu)⟩
theorem Wk.vecs {c : Bool} {es es' : List (List AV)} (h : Wkss es es') : Wk (.vec c es) (.vec false es') := fun K ρ u hv => by
 cases hv with
 | @vec _ _ _ A c0 a sz g h1 h2 h3 h4 h5 h6 h7 =>
  have hl := h.length
  have := VR.vec (K := K) (ρ := ρ) (cap := false) (es := es') (A := A) (c := c0) a sz g (by simp) (by omega) (by
   rcases h3 with h3 | h3
   ·
    left; subst h3; cases h; rfl
   ·
    exact .inr h3) (by
   intro el hel
   obtain ⟨i, hi, rfl⟩ := List.getElem_of_mem hel
   obtain ⟨v, g1, g2⟩ := h.at i _ (List.getElem?_eq_getElem hi)
   rw [← g2.length]
   exact h4 v (List.mem_of_getElem? g1)) (fun e j he hj => h5 e j (by omega) hj) h6 (by
   intro e j el v he hv
   obtain ⟨el0, g1, g2⟩ := h.at e el he
   obtain ⟨v0, g3, g4⟩ := g2.at j v hv
   exact g4 _ _ _ (h7 e j el0 v0 g1 g3))
  rw [← hl] at this
  exact this
theorem Wk.vec {c : Bool} {es : List (List AV)} : Wk (.vec c es) (.vec false es) := Wk.vecs (Wkss.refl _)
def WkO : AObj → AObj → Prop
 | .box cs t, .box cs' t' => t = t' ∧ Wks cs cs'
 | .mem s es t, .mem s' es' t' => s = s' ∧ t = t' ∧ Wkss es es'
 | _, .dead => True
 | o, o' => o = o'
theorem WkO.refl (o : AObj) : WkO o o := by
 cases o with
 | box cs t => exact ⟨rfl, Wks.refl _⟩
 | mem s es t => exact ⟨rfl, rfl, Wkss.refl _⟩
 | map es c => exact rfl
 | dead => trivial
inductive WkH : List AObj → List AObj → Prop
 | nil : WkH [] []
 | cons {o o' os os'} : WkO o o' → WkH os os' → WkH (o :: os) (o' :: os')
theorem WkH.refl : ∀ (l : List AObj), WkH l l
 | [] => .nil
 | v :: l => .cons (WkO.refl v) (WkH.refl l)
theorem WkH.length {l l' : List AObj} (h : WkH l l') : l.length = l'.length := by
 induction h with
 | nil => rfl
 | cons _ _ ih => simp [ih]
theorem WkH.at {l l' : List AObj} (h : WkH l l') : ∀ (i : Nat) (v' : AObj), l'[i]? = some v' → ∃ v, l[i]? = some v ∧ WkO v v' := by
 induction h with
 | nil => intro i v' hv; simp at hv
 | cons h1 _ ih =>
  intro i v' hv
  cases i with
  | zero => simp at hv; subst hv; exact ⟨_, rfl, h1⟩
  | succ i => simpa using ih i v' (by simpa using hv)
theorem CellsR.weak {K : (Nat → Option Obj)} {ρ : (Nat → Option Loc)} {c : Array Value} {base : Nat} {vs vs' : List AV} (h : CellsR K ρ c base vs) (hw : Wks vs vs') : CellsR K ρ c base vs' := fun j v hv => by
 obtain ⟨v0, h1, h2⟩ := hw.at j v hv
 obtain ⟨u, h3, h4⟩ := h j v0 h1
 exact ⟨u, h3, h2 _ _ _ h4⟩
theorem WkO.live {o o' : AObj} (h : WkO o o') (hl : live o' = true) : live o = true := by
 cases o <;> cases o' <;> first | rfl | exact hl | (simp [WkO] at h)
theorem WkO.real {o o' : AObj} (h : WkO o o') {l : Loc} (hl : real l o' = true) : real l o = true := by
 cases o' with
 | dead => cases hl
 | box cs' t' => cases o <;> first | rfl | (simp [WkO] at h; done)
 | mem s' es' t' => cases o <;> first | exact hl | (simp [WkO] at h; done)
 | map es' c' => cases o <;> first | rfl | (simp [WkO] at h; done)
theorem OR.weak {K : (Nat → Option Obj)} {ρ : (Nat → Option Loc)} {w : World} {l : Loc} {o o' : AObj} (h : OR K ρ w l o) (hw : WkO o o') : OR K ρ w l o' := by
 cases o' with
 | dead => trivial
 | box cs' t' =>
  cases o with
  | box cs t =>
   obtain ⟨rfl, hw⟩ := hw
   obtain ⟨c, h1, h2, h3, h4, h5⟩ := h
   exact ⟨c, h1, h2.trans hw.length, h3, h4, h5.weak hw⟩
  | _ => simp [WkO] at hw
 | mem s' es' t' =>
  cases o with
  | mem s es t =>
   obtain ⟨rfl, rfl, hw⟩ := hw
   obtain ⟨h0, h1, h2, h3⟩ := h
   have hl := hw.length
   refine ⟨h0, h1, ?_, ?_⟩
   ·
    intro el hel
    obtain ⟨i, hi, rfl⟩ := List.getElem_of_mem hel
    obtain ⟨v, g1, g2⟩ := hw.at i _ (List.getElem?_eq_getElem hi)
    rw [← g2.length]
    exact h2 v (List.mem_of_getElem? g1)
   ·
    rcases h3 with ⟨h3, h4⟩ | ⟨c, h3, h4, h5, h6, h7⟩
    ·
     left; subst h4; exact ⟨h3, by cases hw; rfl⟩
    ·
     right
     refine ⟨c, h3, h4, by rw [← hl]; exact h5, h6, fun e el he => ?_⟩
     obtain ⟨el0, g1, g2⟩ := hw.at e el he
     exact (h7 e el0 g1).weak g2
  | _ => simp [WkO] at hw
 | map es' c' =>
  cases o with
  | map es c => cases hw; exact h
  | _ => simp [WkO] at hw
theorem Rel.weak {G : Gh} {K : (Nat → Option Obj)} {ρ : (Nat → Option Loc)} {H H' : List AObj} {w : World} (hR : Rel G K ρ H w) (hw : WkH H H') : Rel G K ρ H' w := by
 have hl := hw.length
 refine ⟨hR.os, hR.tape, hR.output, hR.keep, hR.frame, hR.apart, ?_, ?_, ?_, ?_⟩
 ·
  intro i hi; exact hR.top i (by omega)
 ·
  intro i o ho hlv
  obtain ⟨o0, h1, h2⟩ := hw.at i o ho
  obtain ⟨l, h3, h4⟩ := hR.objs i o0 h1 (h2.live hlv)
  exact ⟨l, h3, h4.weak h2⟩
 ·
  intro i o l ho hl hr
  obtain ⟨o0, h1, h2⟩ := hw.at i o ho
  exact hR.own i o0 l h1 hl (h2.real hr)
 ·
  intro i j oi oj li lj hi hj hli hlj hri hrj hb
  obtain ⟨o0, h1, h2⟩ := hw.at i oi hi
  obtain ⟨o1, h3, h4⟩ := hw.at j oj hj
  exact hR.inj i j o0 o1 li lj h1 h3 hli hlj (h2.real hri) (h4.real hrj) hb
inductive WkT : List (Nat × AV) → List (Nat × AV) → Prop
 | nil : WkT [] []
 | cons {t v v' l l'} : Wk v v' → WkT l l' → WkT ((t, v) :: l) ((t, v') :: l')
theorem WkT.look {l l' : List (Nat × AV)} (h : WkT l l') (t : Nat) : Wk (look l t) (look l' t) := by
 induction h with
 | nil => exact Wk.refl _
 | cons h1 _ ih =>
  simp only [AI.look]
  split
  ·
   exact h1
  ·
   exact ih
theorem Ref.weak {n0 n : Nat} {l l' : List (Nat × AV)} {ds : List (Fn × List AV × List AV)} {H H' : List AObj} (ht : WkT l l') (hH : WkH H H') : Ref n0 ⟨n, l, ds⟩ H ⟨n, l', ds⟩ H' := fun G K ρ w a hR hA =>
 ⟨K, ρ, ⟨hA.size, fun t => ht.look t _ _ _ (hA.tmps t), hA.defers⟩, hR.weak hH, KLe.refl _, fun _ _ => rfl⟩
theorem RefV.weak {n0 : Nat} {vs vs' : List AV} {H H' : List AObj} (ht : Wks vs vs') (hH : WkH H H') : RefV n0 vs H vs' H' := fun G K ρ w a hR hA =>
 ⟨K, ρ, ht.vrs hA, hR.weak hH, KLe.refl _, fun _ _ => rfl⟩

def Fits (S : Sub) (H : List AObj) : List Nat → List AObj → Prop
 | [], [] => True
 | j :: σ, o :: os => H[j]? = some (o.sub S) ∧ Fits S H σ os
 | _, _ => False
theorem Fits.at {S : Sub} {H : List AObj} : ∀ {σ : List Nat} {Hs : List AObj}, Fits S H σ Hs → σ.length = Hs.length ∧ ∀ (i j : Nat) (o : AObj), σ[i]? = some j → Hs[i]? = some o → H[j]? = some (o.sub S)
 | [], [], _ => ⟨rfl, fun i j o hi => by simp at hi⟩
 | j :: σ, o :: os, h => by
  obtain ⟨h1, h2⟩ := h
  obtain ⟨g1, g2⟩ := Fits.at h2
  refine ⟨by simp [g1], fun i j' o' hi ho => ?_⟩
  cases i with
  | zero => simp at hi ho; subst hi ho; exact h1
  | succ i => exact g2 i j' o' (by simpa using hi) (by simpa using ho)
 | [], _ :: _, h => h.elim
 | _ :: _, [], h => h.elim
theorem ACalls.use {P : Program} {f : FuncId} {args : List AV} {Hs Hs' : List AObj} {v : AV} (h : ACalls P f args Hs (fun e H => H = Hs' ∧ e = .ret v)) (σ : List Nat) {H : List AObj} (hσ : σ.Nodup) (ho : Fits (renS σ H.length) H σ Hs)
  {args' : List AV} (ha : subs (renS σ H.length) args = args') {v' : AV} (hv : v.sub (renS σ H.length) = v') {H' : List AObj} (hH : merge σ H (Hs'.map (AObj.sub (renS σ H.length))) = H') {Q : AEnd → List AObj → Prop} (hr : Q (.ret v') H') : ACalls P f args' H Q := by
 obtain ⟨g1, g2⟩ := ho.at
 refine ACalls.at h σ H hσ g1 g2 ha ?_
 rintro _ _ ⟨rfl, rfl⟩
 rw [hH]
 subst hv
 exact hr
theorem ACalls.use0 {P : Program} {f : FuncId} {args : List AV} {v : AV} (h : ACalls P f args [] (fun e H => H = [] ∧ e = .ret v)) {H : List AObj} (ha : subs (renS [] H.length) args = args) (hv : v.sub (renS [] H.length) = v) {Q : AEnd → List AObj → Prop} (hr : Q (.ret v) H) : ACalls P f args H Q :=
 ACalls.use h [] List.nodup_nil trivial ha hv (by simp [merge, back]) hr
theorem one_add_le (n : Nat) : (1 + n ≤ n + 1) = True := eq_true (by omega)
theorem take_one_add {α : Type} (n : Nat) (a : α) (l : List α) : List.take (1 + n) (a :: l) = a :: List.take n l := by rw [Nat.add_comm]; rfl
end Go.Proofs.Ytjalenbgpmdadaa.AI
