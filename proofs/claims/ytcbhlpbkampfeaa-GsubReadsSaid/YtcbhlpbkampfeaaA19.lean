import Derived.Test.YtcbhlpbkampfeaaA18
/- Part of a proof. -/
set_option linter.unusedVariables false
set_option linter.unusedSimpArgs false
namespace Go.Proofs.Ytcbhlpbkampfeaa.AI

theorem bindS {α β : Type} {a : Option α} {f : α → Option β} {r : β} (h : a.bind f = some r) : ∃ x, a = some x ∧ f x = some r := Option.bind_eq_some_iff.1 h
theorem Xc7 {c : Prop} [Decidable c] {α : Type} {a : Option α} {r : α} (h : (if c then a else none) = some r) : c ∧ a = some r := by
  by_cases hc : c
  · rw [if_pos hc] at h; exact ⟨hc, h⟩
  · rw [if_neg hc] at h; cases h
def atI {α : Type} (l : List α) (i : Int) : Option α := if 0 ≤ i then l[i.toNat]? else none
theorem Yz {α : Type} {l : List α} {i : Int} {x : α} (h : atI l i = some x) : 0 ≤ i ∧ l[i.toNat]? = some x := Xc7 h
theorem Je {α : Type} {l : List α} {i : Int} {x : α} (h : atI l i = some x) : i < (l.length : Int) := by
 obtain ⟨h0, h1⟩ := Yz h
 have := (List.getElem?_eq_some_iff.1 h1).1
 omega
theorem ZN {α : Type} {l : List α} {i : Int} {x : α} (e : α → List AV) (h : atI l i = some x) : (l.map e)[i.toNat]? = some (e x) := by
 rw [List.getElem?_map, (Yz h).2]; rfl
theorem atI_nat {α : Type} (l : List α) (i : Nat) : atI l (i : Int) = l[i]? := by simp [atI]

theorem take_mapc {α : Type} (n : Nat) (l : List α) (e : α → List AV) (h : l.length ≤ n) : List.take n (List.map e l) = List.map e l := List.take_of_length_le (by simpa using h)
theorem YC {α : Type} (l : List α) (e : α → List AV) (x : α) : l.map e ++ [e x] = (l ++ [x]).map e := by simp
theorem Zr {α : Type} (l m : List α) (e : α → List AV) : l.map e ++ m.map e = (l ++ m).map e := by simp
theorem Zu {α : Type} (l : List α) (e : α → List AV) (i : Nat) (x : α) : (l.map e).set i (e x) = (l.set i x).map e := List.map_set.symm
theorem JV {α : Type} (l : List α) (e : α → List AV) (n : Nat) (h : ∀ x, (e x).length = n) : (l.map e).all (fun el => el.length == n) = true := by
 rw [List.all_eq_true]
 intro el hel
 obtain ⟨x, _, rfl⟩ := List.mem_map.1 hel
 simp [h]
theorem Xki {α : Type} (n : Nat) (e : α → List AV) (x : α) : List.replicate n (e x) = (List.replicate n x).map e := (List.map_replicate ..).symm
theorem Zg {α : Type} (S : Sub) (l : List α) (e : α → List AV) (h : ∀ x, subs S (e x) = e x) : (l.map e).map (subs S) = l.map e := by
 rw [List.map_map]
 exact List.map_congr_left fun x _ => h x
theorem Ye {α : Type} (l : List α) (e : α → List AV) (h : ∀ x, pures (e x) = true) : ∀ el ∈ l.map e, pures el = true := by
 intro el hel
 obtain ⟨x, _, rfl⟩ := List.mem_map.1 hel
 exact h x

def slI {α : Type} (l : List α) (lo hi : Int) : List α := (l.drop lo.toNat).take (hi.toNat - lo.toNat)
theorem slI_map {α : Type} (l : List α) (lo hi : Int) (e : α → List AV) : List.take (hi.toNat - lo.toNat) (List.drop lo.toNat (List.map e l)) = List.map e (slI l lo hi) := by
 simp [slI, List.map_take, List.map_drop]
theorem slI_map0 {α : Type} (l : List α) (lo : Int) (e : α → List AV) : List.take (l.length - lo.toNat) (List.drop lo.toNat (List.map e l)) = List.map e (slI l lo (l.length : Int)) := by
 simp [slI, List.map_take, List.map_drop]
theorem set_at {α : Type} {l : List α} {e : α → List AV} {i : Int} {x y : α} (h : atI l i = some y) : (List.map e (List.set l i.toNat x))[i.toNat]? = some (e x) := by
 have := (List.getElem?_eq_some_iff.1 (Yz h).2).1
 rw [List.getElem?_map, List.getElem?_set_self this]; rfl
theorem Xpv {b : Bool} (h : ¬ (b = true)) : b = false := by cases b <;> simp at h ⊢
theorem Xa.goN {P : Program} {f : FuncId} {fn : Func} (hf : P.funcs[f]? = some fn) (hname : (fn.name == "runtime.NumGoroutine") = false) {ac : ACode} (hc : fn.body.bind (comp P) = some ac) {N : Nat} (hN : fn.ntmps = N) {rs : List RV} (hrs : Xj P fn.results.toList = some rs) {args : List AV} (hn : args.length ≤ N) {H : List AObj} {Q : AEnd → List AObj → Prop} (n : Nat) (hl : H.length = n)
  (h : M P n (bodyA n rs Q) [.code ac] ⟨N, argl 0 args, []⟩ H) : Xa P f args H Q := by
 subst hl; exact Xa.go hf hname hc hN hrs hn h
theorem bq_tf : (true == false) = false := rfl
theorem bq_ft : (false == true) = false := rfl
theorem bn_tt : (true != true) = false := rfl
theorem bn_tf : (true != false) = true := rfl
theorem bn_ft : (false != true) = true := rfl
theorem bn_ff : (false != false) = false := rfl

theorem Rel.mapsub {G : Gh} {K : (Nat → Option Obj)} {ρ : (Nat → Option Loc)} {H : List AObj} {w : World} (hR : Rel G K ρ H w) {s : Sub} (hs : SubR s K ρ K ρ) : Rel G K ρ (H.map (AObj.sub s)) w := by
 refine ⟨hR.os, hR.tape, hR.output, hR.keep, hR.frame, hR.apart, ?_, ?_, ?_, ?_⟩
 ·
  intro i hi; exact hR.top i (by simpa using hi)
 ·
  intro i o hi hlv
  rw [List.getElem?_map] at hi
  obtain ⟨o0, h0, rfl⟩ := Option.map_eq_some_iff.1 hi
  rw [Xdq] at hlv
  obtain ⟨l', hl', hO'⟩ := hR.objs i o0 h0 hlv
  exact ⟨l', hl', hO'.sub hs (fun _ => rfl)⟩
 ·
  intro i o l' hi hl' hr
  rw [List.getElem?_map] at hi
  obtain ⟨o0, h0, rfl⟩ := Option.map_eq_some_iff.1 hi
  rw [Qx] at hr
  exact hR.own i o0 l' h0 hl' hr
 ·
  intro i j oi oj li lj hi hj hli hlj hri hrj hb
  rw [List.getElem?_map] at hi hj
  obtain ⟨o0, h0, rfl⟩ := Option.map_eq_some_iff.1 hi
  obtain ⟨o1, h1, rfl⟩ := Option.map_eq_some_iff.1 hj
  rw [Qx] at hri hrj
  exact hR.inj i j o0 o1 li lj h0 h1 hli hlj hri hrj hb

def movS (id n : Nat) : Sub := ⟨fun i e j => if i = id then .ptr n e j else .ptr i e j, fun i off len => if i = id then .row n off len else .row i off len, fun i => if i = id then .map n else .map i⟩
theorem Rel.move {G : Gh} {K : (Nat → Option Obj)} {ρ : (Nat → Option Loc)} {H : List AObj} {w : World} (hR : Rel G K ρ H w) {id : Nat} {o : AObj} (ho : H[id]? = some o) (hl : live o = true) :
  ∃ ρ1, SubR (movS id H.length) K ρ K ρ1 ∧ Next G H.length K ρ K ρ1 ((H.set id .dead ++ [o]).map (AObj.sub (movS id H.length))) w := by
 obtain ⟨l, hl1, hO⟩ := hR.objs id o ho hl
 have hle : RLe ρ (extρ ρ H.length l) := Xcq (hR.top _ (Nat.le_refl _))
 have hid : id < H.length := (List.getElem?_eq_some_iff.1 ho).1
 have hN := hR.renew (w' := w) id l l o rfl rfl rfl (fun _ _ _ => rfl) hl (.inl hl1) (fun hr => ⟨(hR.own id o l ho hl1 hr).1, .inr ⟨o, ho, hl1, hr, rfl⟩⟩) (hO.mono (KLe.refl _) hle (fun _ => rfl))
 have hid1 : extρ ρ H.length l id = some l := hle _ _ hl1
 have hs0 : SubR (movS id H.length) K (extρ ρ H.length l) K (extρ ρ H.length l) := by
  refine ⟨KLe.refl _, ?_, ?_, ?_⟩
  ·
   intro i e j u h
   simp only [movS]
   split
   ·
    rename_i e1; subst e1
    cases h with | ptr h => rw [hid1] at h; cases h; exact .ptr QC
   ·
    exact h
  ·
   intro i off len u h
   simp only [movS]
   split
   ·
    rename_i e1; subst e1
    cases h with | row h h1 h2 => rw [hid1] at h; cases h; exact .row QC h1 h2
   ·
    exact h
  ·
   intro i u h
   simp only [movS]
   split
   ·
    rename_i e1; subst e1
    cases h with | map h => rw [hid1] at h; cases h; exact .map QC
   ·
    exact h
 exact ⟨_, ⟨KLe.refl _, fun i e j u h => hs0.ptr i e j u (h.mono (KLe.refl _) hle), fun i off len u h => hs0.row i off len u (h.mono (KLe.refl _) hle), fun i u h => hs0.map i u (h.mono (KLe.refl _) hle)⟩, ⟨hN.rel.mapsub hs0, hN.keep, hN.low⟩⟩
theorem Ref.move {n0 : Nat} {ta : ATm} {H : List AObj} (hn : n0 ≤ H.length) {id : Nat} {o : AObj} (ho : H[id]? = some o) (hl : live o = true) :
  Ref n0 ta H (ta.sub (movS id H.length)) ((H.set id .dead ++ [o]).map (AObj.sub (movS id H.length))) := fun G K ρ w a hR hA => by
 obtain ⟨ρ1, hs, hN⟩ := hR.move ho hl
 exact ⟨K, ρ1, hA.sub hs, hN.rel, hN.keep, fun i hi => hN.low i (by omega)⟩
theorem RefV.move {n0 : Nat} {vs : List AV} {H : List AObj} (hn : n0 ≤ H.length) {id : Nat} {o : AObj} (ho : H[id]? = some o) (hl : live o = true) :
  RefV n0 vs H (subs (movS id H.length) vs) ((H.set id .dead ++ [o]).map (AObj.sub (movS id H.length))) := fun G K ρ w a hR hA => by
 obtain ⟨ρ1, hs, hN⟩ := hR.move ho hl
 exact ⟨K, ρ1, hA.sub hs, hN.rel, hN.keep, fun i hi => hN.low i (by omega)⟩

theorem frz_len {α : Type} (l : List α) (e : α → List AV) (id n : Nat) (h : n = l.length) : (if n ≤ l.length then AV.vec false (List.take n (List.map e l)) else .any) = .vec false (l.map e) := by
 subst h
 rw [if_pos (Nat.le_refl _), List.take_of_length_le (by simp)]
theorem low0 {σ : List Nat} : ∀ k, k < 0 → σ[k]? = some k := fun k hk => absurd hk (Nat.not_lt_zero _)
theorem Ref.std {n0 n : Nat} {l l' : List (Nat × AV)} {H H' : List AObj} (ts σ : List Nat) (hσ : σ.Nodup) (hlow : ∀ k, k < n0 → σ[k]? = some k) (e1 : (pickl l ts).map (fun p => (p.1, p.2.sub (selS σ))) = l') (e2 : selH σ H = H') :
  Ref n0 ⟨n, l, []⟩ H ⟨n, l', []⟩ H' := by
 subst e1; subst e2
 exact Ref.trans (Ref.pick ts) (Ref.sel σ hσ hlow)
theorem Ref.out {n : Nat} {l l' : List (Nat × AV)} {H : List AObj} (ts : List Nat) (e1 : (pickl l ts).map (fun p => (p.1, p.2.sub (selS []))) = l') : Ref 0 ⟨n, l, []⟩ H ⟨n, l', []⟩ [] :=
 Ref.std ts [] List.nodup_nil low0 e1 rfl
theorem RefV.out {v v' : AV} {H : List AObj} (e1 : v.sub (selS []) = v') : RefV 0 [v] H [v'] [] := by
 subst e1
 exact RefV.sel [] List.nodup_nil low0
theorem RefV.std {n0 : Nat} {v v' : AV} {H H' : List AObj} (σ : List Nat) (hσ : σ.Nodup) (hlow : ∀ k, k < n0 → σ[k]? = some k) (e1 : v.sub (selS σ) = v') (e2 : selH σ H = H') : RefV n0 [v] H [v'] H' := by
 subst e1; subst e2
 exact RefV.sel σ hσ hlow
def Wk (v v' : AV) : Prop := ∀ (K : (Nat → Option Obj)) (ρ : (Nat → Option Loc)) (u : Value), VR K ρ v u → VR K ρ v' u
inductive Wks : List AV → List AV → Prop
 | nil : Wks [] []
 | cons {v v' vs vs'} : Wk v v' → Wks vs vs' → Wks (v :: vs) (v' :: vs')
inductive Wkss : List (List AV) → List (List AV) → Prop
 | nil : Wkss [] []
 | cons {v v' vs vs'} : Wks v v' → Wkss vs vs' → Wkss (v :: vs) (v' :: vs')
theorem Wk.refl (v : AV) : Wk v v := fun _ _ _ h => h
theorem Wks.refl : ∀ (l : List AV), Wks l l
 | [] => .nil
 | v :: l => .cons (Wk.refl v) (Wks.refl l)
theorem Wkss.refl : ∀ (l : List (List AV)), Wkss l l
 | [] => .nil
 | v :: l => .cons (Wks.refl v) (Wkss.refl l)
theorem Wkss.app {l l' m m' : List (List AV)} (h : Wkss l l') (h' : Wkss m m') : Wkss (l ++ m) (l' ++ m') := by
 induction h with
 | nil => exact h'
 | cons h1 _ ih => exact .cons h1 ih
theorem Wks.length {l l' : List AV} (h : Wks l l') : l.length = l'.length := by
 induction h with
 | nil => rfl
 | cons _ _ ih => simp [ih]
theorem Wkss.length {l l' : List (List AV)} (h : Wkss l l') : l.length = l'.length := by
 induction h with
 | nil => rfl
 | cons _ _ ih => simp [ih]
theorem Wks.at {l l' : List AV} (h : Wks l l') : ∀ (i : Nat) (v' : AV), l'[i]? = some v' → ∃ v, l[i]? = some v ∧ Wk v v' := by
 induction h with
 | nil => intro i v' hv; simp at hv
 | cons h1 _ ih =>
  intro i v' hv
  cases i with
  | zero => simp at hv; subst hv; exact ⟨_, rfl, h1⟩
  | succ i => simpa using ih i v' (by simpa using hv)
theorem Wkss.at {l l' : List (List AV)} (h : Wkss l l') : ∀ (i : Nat) (v' : List AV), l'[i]? = some v' → ∃ v, l[i]? = some v ∧ Wks v v' := by
 induction h with
 | nil => intro i v' hv; simp at hv
 | cons h1 _ ih =>
  intro i v' hv
  cases i with
  | zero => simp at hv; subst hv; exact ⟨_, rfl, h1⟩
  | succ i => simpa using ih i v' (by simpa using hv)
theorem Wks.vrs {vs vs' : List AV} (h : Wks vs vs') {K : (Nat → Option Obj)} {ρ : (Nat → Option Loc)} {us : Array Value} (hv : VRs K ρ vs us) : VRs K ρ vs' us :=
 ⟨by rw [← h.length]; exact hv.1, fun i v' u hv' hu => by
  obtain ⟨v, h1, h2⟩ := h.at i v' hv'
  exact h2 _ _ _ (hv.2 i v u h1 hu)⟩
theorem Wk.agg {cs cs' : List AV} (h : Wks cs cs') : Wk (.agg cs) (.agg cs') := fun K ρ u hv => by
 cases hv with
 | agg h1 h2 h3 => exact .agg (h.length.symm.trans h1) h2 (fun i v u hv hu => by obtain ⟨v0, g1, g2⟩ := h.at i v hv; exact g2 _ _ _ (h3 i v0 u g1 hu))
theorem Wk.tup {cs cs' : List AV} (h : Wks cs cs') : Wk (.tup cs) (.tup cs') := fun K ρ u hv => by
 cases hv with
 | tup h1 h3 => exact .tup (h.length.symm.trans h1) (fun i v u hv hu => by obtain ⟨v0, g1, g2⟩ := h.at i v hv; exact g2 _ _ _ (h3 i v0 u g1 hu))
theorem Wk.vecs {c : Bool} {es es' : List (List AV)} (h : Wkss es es') : Wk (.vec c es) (.vec false es') := fun K ρ u hv => by
 cases hv with
 | @vec _ _ _ A c0 a sz g h1 h2 h3 h4 h5 h6 h7 =>
  have hl := h.length
  have := VR.vec (K := K) (ρ := ρ) (cap := false) (es := es') (A := A) (c := c0) a sz g (by simp) (by omega) (by
   rcases h3 with h3 | h3
   ·
    left; subst h3; cases h; rfl
   ·
    exact .inr h3) (by
   intro el hel
   obtain ⟨i, hi, rfl⟩ := List.getElem_of_mem hel
   obtain ⟨v, g1, g2⟩ := h.at i _ (List.getElem?_eq_getElem hi)
   rw [← g2.length]
   exact h4 v (List.mem_of_getElem? g1)) (fun e j he hj => h5 e j (by omega) hj) h6 (by
   intro e j el v he hv
   obtain ⟨el0, g1, g2⟩ := h.at e el he
   obtain ⟨v0, g3, g4⟩ := g2.at j v hv
   exact g4 _ _ _ (h7 e j el0 v0 g1 g3))
  rw [← hl] at this
  exact this
theorem Wk.vec {c : Bool} {es : List (List AV)} : Wk (.vec c es) (.vec false es) := Wk.vecs (Wkss.refl _)
def WkO : AObj → AObj → Prop
 | .box cs t, .box cs' t' => t = t' ∧ Wks cs cs'
 | .mem s es t, .mem s' es' t' => s = s' ∧ t = t' ∧ Wkss es es'
 | _, .dead => True
 | o, o' => o = o'
theorem WkO.refl (o : AObj) : WkO o o := by
 cases o with
 | box cs t => exact ⟨rfl, Wks.refl _⟩
 | mem s es t => exact ⟨rfl, rfl, Wkss.refl _⟩
 | map es c => exact rfl
 | dead => trivial
theorem WkO.bx {cs cs' : List AV} {t : TypeId} (h : Wks cs cs') : WkO (.box cs t) (.box cs' t) := ⟨rfl, h⟩
theorem WkO.snoc {α : Type} {s : Nat} {t : TypeId} {e : α → List AV} {l : List α} {x : α} {c : List AV} (h : Wks c (e x)) : WkO (.mem s (List.map e l ++ [c]) t) (.mem s (List.map e (l ++ [x])) t) :=
 ⟨rfl, rfl, by rw [List.map_append]; exact Wkss.app (Wkss.refl _) (Wkss.cons h Wkss.nil)⟩
inductive WkH : List AObj → List AObj → Prop
 | nil : WkH [] []
 | cons {o o' os os'} : WkO o o' → WkH os os' → WkH (o :: os) (o' :: os')
theorem WkH.refl : ∀ (l : List AObj), WkH l l
 | [] => .nil
 | v :: l => .cons (WkO.refl v) (WkH.refl l)
theorem WkH.length {l l' : List AObj} (h : WkH l l') : l.length = l'.length := by
 induction h with
 | nil => rfl
 | cons _ _ ih => simp [ih]
theorem WkH.at {l l' : List AObj} (h : WkH l l') : ∀ (i : Nat) (v' : AObj), l'[i]? = some v' → ∃ v, l[i]? = some v ∧ WkO v v' := by
 induction h with
 | nil => intro i v' hv; simp at hv
 | cons h1 _ ih =>
  intro i v' hv
  cases i with
  | zero => simp at hv; subst hv; exact ⟨_, rfl, h1⟩
  | succ i => simpa using ih i v' (by simpa using hv)
theorem JJ.weak {K : (Nat → Option Obj)} {ρ : (Nat → Option Loc)} {c : Array Value} {base : Nat} {vs vs' : List AV} (h : JJ K ρ c base vs) (hw : Wks vs vs') : JJ K ρ c base vs' := fun j v hv => by
 obtain ⟨v0, h1, h2⟩ := hw.at j v hv
 obtain ⟨u, h3, h4⟩ := h j v0 h1
 exact ⟨u, h3, h2 _ _ _ h4⟩
theorem WkO.live {o o' : AObj} (h : WkO o o') (hl : live o' = true) : live o = true := by
 cases o <;> cases o' <;> first | rfl | exact hl | (simp [WkO] at h)
theorem WkO.real {o o' : AObj} (h : WkO o o') {l : Loc} (hl : real l o' = true) : real l o = true := by
 cases o' with
 | dead => cases hl
 | box cs' t' => cases o <;> first | rfl | (simp [WkO] at h; done)
 | mem s' es' t' => cases o <;> first | exact hl | (simp [WkO] at h; done)
 | map es' c' => cases o <;> first | rfl | (simp [WkO] at h; done)
theorem OR.weak {K : (Nat → Option Obj)} {ρ : (Nat → Option Loc)} {w : World} {l : Loc} {o o' : AObj} (h : OR K ρ w l o) (hw : WkO o o') : OR K ρ w l o' := by
 cases o' with
 | dead => trivial
 | box cs' t' =>
  cases o with
  | box cs t =>
   obtain ⟨rfl, hw⟩ := hw
   obtain ⟨c, h1, h2, h3, h4, h5⟩ := h
   exact ⟨c, h1, h2.trans hw.length, h3, h4, h5.weak hw⟩
  | _ => simp [WkO] at hw
 | mem s' es' t' =>
  cases o with
  | mem s es t =>
   obtain ⟨rfl, rfl, hw⟩ := hw
   obtain ⟨h0, h1, h2, h3⟩ := h
   have hl := hw.length
   refine ⟨h0, h1, ?_, ?_⟩
   ·
    intro el hel
    obtain ⟨i, hi, rfl⟩ := List.getElem_of_mem hel
    obtain ⟨v, g1, g2⟩ := hw.at i _ (List.getElem?_eq_getElem hi)
    rw [← g2.length]
    exact h2 v (List.mem_of_getElem? g1)
   ·
    rcases h3 with ⟨h3, h4⟩ | ⟨c, h3, h4, h5, h6, h7⟩
    ·
     left; subst h4; exact ⟨h3, by cases hw; rfl⟩
    ·
     right
     refine ⟨c, h3, h4, by rw [← hl]; exact h5, h6, fun e el he => ?_⟩
     obtain ⟨el0, g1, g2⟩ := hw.at e el he
     exact (h7 e el0 g1).weak g2
  | _ => simp [WkO] at hw
 | map es' c' =>
  cases o with
  | map es c => cases hw; exact h
  | _ => simp [WkO] at hw
theorem Rel.weak {G : Gh} {K : (Nat → Option Obj)} {ρ : (Nat → Option Loc)} {H H' : List AObj} {w : World} (hR : Rel G K ρ H w) (hw : WkH H H') : Rel G K ρ H' w := by
 have hl := hw.length
 refine ⟨hR.os, hR.tape, hR.output, hR.keep, hR.frame, hR.apart, ?_, ?_, ?_, ?_⟩
 ·
  intro i hi; exact hR.top i (by omega)
 ·
  intro i o ho hlv
  obtain ⟨o0, h1, h2⟩ := hw.at i o ho
  obtain ⟨l, h3, h4⟩ := hR.objs i o0 h1 (h2.live hlv)
  exact ⟨l, h3, h4.weak h2⟩
 ·
  intro i o l ho hl hr
  obtain ⟨o0, h1, h2⟩ := hw.at i o ho
  exact hR.own i o0 l h1 hl (h2.real hr)
 ·
  intro i j oi oj li lj hi hj hli hlj hri hrj hb
  obtain ⟨o0, h1, h2⟩ := hw.at i oi hi
  obtain ⟨o1, h3, h4⟩ := hw.at j oj hj
  exact hR.inj i j o0 o1 li lj h1 h3 hli hlj (h2.real hri) (h4.real hrj) hb
inductive WkT : List (Nat × AV) → List (Nat × AV) → Prop
 | nil : WkT [] []
 | cons {t v v' l l'} : Wk v v' → WkT l l' → WkT ((t, v) :: l) ((t, v') :: l')
theorem WkT.look {l l' : List (Nat × AV)} (h : WkT l l') (t : Nat) : Wk (look l t) (look l' t) := by
 induction h with
 | nil => exact Wk.refl _
 | cons h1 _ ih =>
  simp only [AI.look]
  split
  ·
   exact h1
  ·
   exact ih
theorem Ref.weak {n0 n : Nat} {l l' : List (Nat × AV)} {ds : List (Fn × List AV × List AV)} {H H' : List AObj} (ht : WkT l l') (hH : WkH H H') : Ref n0 ⟨n, l, ds⟩ H ⟨n, l', ds⟩ H' := fun G K ρ w a hR hA =>
 ⟨K, ρ, ⟨hA.size, fun t => ht.look t _ _ _ (hA.tmps t), hA.defers⟩, hR.weak hH, KLe.refl _, fun _ _ => rfl⟩
theorem RefV.weak {n0 : Nat} {vs vs' : List AV} {H H' : List AObj} (ht : Wks vs vs') (hH : WkH H H') : RefV n0 vs H vs' H' := fun G K ρ w a hR hA =>
 ⟨K, ρ, ht.vrs hA, hR.weak hH, KLe.refl _, fun _ _ => rfl⟩

def Fits (S : Sub) (H : List AObj) : List Nat → List AObj → Prop
 | [], [] => True
 | j :: σ, o :: os => H[j]? = some (o.sub S) ∧ Fits S H σ os
 | _, _ => False
theorem Fits.at {S : Sub} {H : List AObj} : ∀ {σ : List Nat} {Hs : List AObj}, Fits S H σ Hs → σ.length = Hs.length ∧ ∀ (i j : Nat) (o : AObj), σ[i]? = some j → Hs[i]? = some o → H[j]? = some (o.sub S)
 | [], [], _ => ⟨rfl, fun i j o hi => by simp at hi⟩
 | j :: σ, o :: os, h => by
  obtain ⟨h1, h2⟩ := h
  obtain ⟨g1, g2⟩ := Fits.at h2
  refine ⟨by simp [g1], fun i j' o' hi ho => ?_⟩
  cases i with
  | zero => simp at hi ho; subst hi ho; exact h1
  | succ i => exact g2 i j' o' (by simpa using hi) (by simpa using ho)
 | [], _ :: _, h => h.elim
 | _ :: _, [], h => h.elim
theorem Xa.use {P : Program} {f : FuncId} {args : List AV} {Hs Hs' : List AObj} {v : AV} (h : Xa P f args Hs (fun e H => H = Hs' ∧ e = .ret v)) (σ : List Nat) {H : List AObj} (hσ : σ.Nodup) (ho : Fits (renS σ H.length) H σ Hs)
  {args' : List AV} (ha : subs (renS σ H.length) args = args') {v' : AV} (hv : v.sub (renS σ H.length) = v') {H' : List AObj} (hH : merge σ H (Hs'.map (AObj.sub (renS σ H.length))) = H') {Q : AEnd → List AObj → Prop} (hr : Q (.ret v') H') : Xa P f args' H Q := by
 obtain ⟨g1, g2⟩ := ho.at
 refine Xa.at h σ H hσ g1 g2 ha ?_
 rintro _ _ ⟨rfl, rfl⟩
 rw [hH]
 subst hv
 exact hr
theorem Xa.use0 {P : Program} {f : FuncId} {args : List AV} {v : AV} (h : Xa P f args [] (fun e H => H = [] ∧ e = .ret v)) {H : List AObj} (ha : subs (renS [] H.length) args = args) (hv : v.sub (renS [] H.length) = v) {Q : AEnd → List AObj → Prop} (hr : Q (.ret v) H) : Xa P f args H Q :=
 Xa.use h [] List.nodup_nil trivial ha hv (by simp [merge, back]) hr
theorem Xp9 (n : Nat) : (1 + n ≤ n + 1) = True := eq_true (by omega)
theorem Xld {α : Type} (n : Nat) (a : α) (l : List α) : List.take (1 + n) (a :: l) = a :: List.take n l := by rw [Nat.add_comm]; rfl
theorem Xa.wk {P : Program} {f : FuncId} {args args' : List AV} {H : List AObj} {Q : AEnd → List AObj → Prop} (hw : Wks args args') (h : Xa P f args' H Q) : Xa P f args H Q :=
 ⟨h.1, fun G K ρ w us hR hV => h.2 G K ρ w us hR (hw.vrs hV)⟩
theorem Xa.usePan {P : Program} {f : FuncId} {args : List AV} {Hs Hs' : List AObj} {v : AV} (h : Xa P f args Hs (fun e H => H = Hs' ∧ e = .pan v)) (σ : List Nat) {H : List AObj} (hσ : σ.Nodup) (ho : Fits (renS σ H.length) H σ Hs)
  {args' : List AV} (ha : subs (renS σ H.length) args = args') {v' : AV} (hv : v.sub (renS σ H.length) = v') {H' : List AObj} (hH : merge σ H (Hs'.map (AObj.sub (renS σ H.length))) = H') {Q : AEnd → List AObj → Prop} (hr : Q (.pan v') H') : Xa P f args' H Q := by
 obtain ⟨g1, g2⟩ := ho.at
 refine Xa.at h σ H hσ g1 g2 ha ?_
 rintro _ _ ⟨rfl, rfl⟩
 rw [hH]
 subst hv
 exact hr
theorem Xa.goRN {P : Program} {f : FuncId} {fn : Func} (hf : P.funcs[f]? = some fn) (hname : (fn.name == "runtime.NumGoroutine") = false) {ac : ACode} (hc : fn.body.bind (comp P) = some ac) {N : Nat} (hN : fn.ntmps = N) {rs : List RV} (hrs : Xj P fn.results.toList = some rs) {args : List AV} (hn : args.length ≤ N) {H : List AObj} {Q : AEnd → List AObj → Prop} (n : Nat) (hl : H.length = n)
  (h : M P n (Go.Proofs.Ytcbhlpbkampfeaa.AI.bodyR P n rs Q) [.code ac] ⟨N, argl 0 args, []⟩ H) : Xa P f args H Q := by
 subst hl; exact Xa.goR hf hname hc hN hrs hn h
theorem wf_u8 {x : Int} (h : (Lit.int .u8 x).wf = true) : 0 ≤ x ∧ x < 256 := by
 simp only [Lit.wf, Bool.and_eq_true, decide_eq_true_eq, show IntKind.u8.min = 0 by decide, show IntKind.u8.max = 255 by decide] at h
 omega
end Go.Proofs.Ytcbhlpbkampfeaa.AI
