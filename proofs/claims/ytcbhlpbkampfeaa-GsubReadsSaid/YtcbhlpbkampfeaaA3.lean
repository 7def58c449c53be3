import Derived.Test.YtcbhlpbkampfeaaA2
/- Part of a proof. -/
set_option linter.unusedVariables false
namespace Go.Proofs.Ytcbhlpbkampfeaa.AI

def numI (σ : List Nat) (n : Nat) (i : Nat) : Nat := match σ[i]? with
 | some j => j
 | none => n + (i - σ.length)
theorem numI_some {σ : List Nat} {n i j : Nat} (h : σ[i]? = some j) : numI σ n i = j := by simp only [numI, h]
theorem numI_none {σ : List Nat} {n i : Nat} (h : σ[i]? = none) : numI σ n i = n + (i - σ.length) := by simp only [numI, h]
def renS (σ : List Nat) (n : Nat) : Sub := ⟨fun id e j => .ptr (numI σ n id) e j, fun id off len => .row (numI σ n id) off len, fun id => .map (numI σ n id)⟩

def back (os : List AObj) : List Nat → Nat → List AObj → List AObj
 | [], _, H => H
 | j :: σ, i, H => back os σ (i + 1) (H.set j (os.getD i .dead))
def merge (σ : List Nat) (H os : List AObj) : List AObj := back os σ 0 H ++ os.drop σ.length

theorem Xef (os : List AObj) (σ : List Nat) : ∀ i H, (back os σ i H).length = H.length := by
 induction σ with
 | nil => intro i H; rfl
 | cons j σ ih => intro i H; simp [back, ih]
theorem Xd5 (os : List AObj) (σ : List Nat) : ∀ i H k, k ∉ σ → (back os σ i H)[k]? = H[k]? := by
 induction σ with
 | nil => intro i H k _; rfl
 | cons j σ ih =>
  intro i H k hk
  simp only [List.mem_cons, not_or] at hk
  simp only [back]
  rw [ih _ _ _ hk.2, List.getElem?_set, if_neg (fun e => hk.1 e.symm)]
theorem back_get (os : List AObj) (σ : List Nat) : ∀ i H, σ.Nodup → (∀ j ∈ σ, j < H.length) → ∀ k j, σ[k]? = some j → (back os σ i H)[j]? = some (os.getD (i + k) .dead) := by
 induction σ with
 | nil => intro i H _ _ k j h; cases h
 | cons j0 σ ih =>
  intro i H hnd hlt k j h
  rw [List.nodup_cons] at hnd
  simp only [back]
  cases k with
  | zero =>
   simp only [List.getElem?_cons_zero, Option.some.injEq] at h
   subst h
   rw [Xd5 _ _ _ _ _ hnd.1, List.getElem?_set]
   simp [hlt j0 (by simp)]
  | succ k =>
   simp only [List.getElem?_cons_succ] at h
   rw [ih (i + 1) _ hnd.2 (by intro x hx; simpa using hlt x (by simp [hx])) k j h]
   congr 2
   omega

def Xcu (σ : List Nat) (ρ : (Nat → Option Loc)) : (Nat → Option Loc) := fun i => match σ[i]? with
 | some j => ρ j
 | none => none
noncomputable def outer (σ : List Nat) (ρ : (Nat → Option Loc)) (H : List AObj) (w : World) (F : (Nat → Option Obj)) : (Nat → Option Obj) := fun b =>
 open Classical in if (∃ id o l, H[id]? = some o ∧ id ∉ σ ∧ ρ id = some l ∧ real l o = true ∧ l.block = b) then w.heap[b]? else F b

theorem Xkh {σ : List Nat} {ρ : (Nat → Option Loc)} {n : Nat} (htop : ∀ id, n ≤ id → ρ id = none) {id : Nat} {l : Loc} (h : ρ (numI σ n id) = some l) : Xcu σ ρ id = some l := by
 simp only [Xcu, numI] at *
 cases hs : σ[id]? with
 | some j => rw [hs] at h; exact h
 | none => rw [hs] at h; simp only [] at h; rw [htop _ (by omega)] at h; cases h

theorem VR.unren {σ : List Nat} {n : Nat} {K : (Nat → Option Obj)} {ρ : (Nat → Option Loc)} {v' : AV} {u : Value} (h : VR K ρ v' u) : (∀ id, n ≤ id → ρ id = none) → ∀ v : AV, v' = v.sub (renS σ n) → VR K (Xcu σ ρ) v u := by
 induction h with
 | any => intro _ v e; cases v <;> simp [AV.sub, renS] at e; exact .any
 | anyb => intro _ v e; cases v <;> simp [AV.sub, renS] at e; exact .anyb
 | bool => intro _ v e; cases v <;> simp [AV.sub, renS] at e; subst e; exact .bool
 | int => intro _ v e; cases v <;> simp [AV.sub, renS] at e; obtain ⟨rfl, rfl⟩ := e; exact .int
 | str => intro _ v e; cases v <;> simp [AV.sub, renS] at e; subst e; exact .str
 | nilp => intro _ v e; cases v <;> simp [AV.sub, renS] at e; exact .nilp
 | nilfn => intro _ v e; cases v <;> simp [AV.sub, renS] at e; exact .nilfn
 | nilif => intro _ v e; cases v <;> simp [AV.sub, renS] at e; exact .nilif
 | nilmap => intro _ v e; cases v <;> simp [AV.sub, renS] at e; exact .nilmap
 | map h => intro ht v e; cases v <;> simp [AV.sub, renS] at e; subst e; exact .map (Xkh ht h)
 | ptr h => intro ht v e; cases v <;> simp [AV.sub, renS] at e; obtain ⟨rfl, rfl, rfl⟩ := e; exact .ptr (Xkh ht h)
 | row h h1 h2 => intro ht v e; cases v <;> simp [AV.sub, renS] at e; obtain ⟨rfl, rfl, rfl⟩ := e; exact .row (Xkh ht h) h1 h2
 | vec a sz g h1 h2 h3 h4 h5 h6 h7 ih => intro _ v e; cases v <;> simp [AV.sub, renS] at e; obtain ⟨rfl, rfl⟩ := e; exact .vec a sz g h1 h2 h3 h4 h5 h6 h7
 | vptr a g h1 h2 h3 ih => intro _ v e; cases v <;> simp [AV.sub, renS] at e; obtain ⟨rfl, rfl⟩ := e; exact .vptr a g h1 h2 h3
 | fn h1 h2 _ _ ih1 ih2 =>
  intro ht v e
  cases v <;> simp [AV.sub, renS] at e
  obtain ⟨rfl, rfl, rfl⟩ := e
  rw [Jr] at h1 h2
  refine .fn h1 h2 ?_ ?_
  ·
   intro i v u hv hu
   exact ih1 i (v.sub (renS σ n)) u (by rw [Jy, List.getElem?_map, hv]; rfl) hu ht v rfl
  ·
   intro i v u hv hu
   exact ih2 i (v.sub (renS σ n)) u (by rw [Jy, List.getElem?_map, hv]; rfl) hu ht v rfl
 | iface _ ih => intro ht v e; cases v <;> simp [AV.sub, renS] at e; obtain ⟨rfl, rfl⟩ := e; exact .iface (ih ht _ rfl)
 | agg h1 h2 _ ih =>
  intro ht v e
  cases v <;> simp [AV.sub, renS] at e
  subst e
  rw [Jr] at h1
  refine .agg h1 h2 ?_
  intro i v u hv hu
  exact ih i (v.sub (renS σ n)) u (by rw [Jy, List.getElem?_map, hv]; rfl) hu ht v rfl
 | tup h1 _ ih =>
  intro ht v e
  cases v <;> simp [AV.sub, renS] at e
  subst e
  rw [Jr] at h1
  refine .tup h1 ?_
  intro i v u hv hu
  exact ih i (v.sub (renS σ n)) u (by rw [Jy, List.getElem?_map, hv]; rfl) hu ht v rfl

theorem VRs.unren {σ : List Nat} {n : Nat} {K : (Nat → Option Obj)} {ρ : (Nat → Option Loc)} (ht : ∀ id, n ≤ id → ρ id = none) {vs : List AV} {us : Array Value} (h : VRs K ρ (subs (renS σ n) vs) us) : VRs K (Xcu σ ρ) vs us := by
 refine ⟨by simpa [Jy] using h.1, fun i v u hv hu => ?_⟩
 exact (h.2 i (v.sub (renS σ n)) u (by rw [Jy, List.getElem?_map, hv]; rfl) hu).unren ht v rfl

theorem JJ.unren {σ : List Nat} {n : Nat} {K : (Nat → Option Obj)} {ρ : (Nat → Option Loc)} (ht : ∀ id, n ≤ id → ρ id = none) {c : Array Value} {base : Nat} {vs : List AV} (h : JJ K ρ c base (subs (renS σ n) vs)) : JJ K (Xcu σ ρ) c base vs := by
 intro j v hv
 obtain ⟨u, hu, hr⟩ := h j (v.sub (renS σ n)) (by rw [Jy, List.getElem?_map, hv]; rfl)
 exact ⟨u, hu, hr.unren ht v rfl⟩

theorem OR.unren {σ : List Nat} {n : Nat} {K : (Nat → Option Obj)} {ρ : (Nat → Option Loc)} (ht : ∀ id, n ≤ id → ρ id = none) {w : World} {l : Loc} {o : AObj} (h : OR K ρ w l (o.sub (renS σ n))) : OR K (Xcu σ ρ) w l o := by
 cases o with
 | box cs t =>
  obtain ⟨c, h1, h2, h3, h4, h5⟩ := h
  exact ⟨c, h1, by rw [Jr] at h2; exact h2, h3, h4, h5.unren ht⟩
 | mem sz es t =>
  obtain ⟨hp, h0, h1, h2⟩ := h
  refine ⟨hp, h0, fun el hel => ?_, ?_⟩
  ·
   rw [← Jr (renS σ n)]; exact h1 _ (List.mem_map.2 ⟨el, hel, rfl⟩)
  rcases h2 with h2 | ⟨c, h3, h4, h5, h6, h7⟩
  ·
   exact .inl ⟨h2.1, by simpa using h2.2⟩
  ·
   exact .inr ⟨c, h3, h4, by simpa using h5, h6, fun e el he => (h7 e (subs (renS σ n) el) (by rw [List.getElem?_map, he]; rfl)).unren ht⟩
 | map es clock =>
  obtain ⟨c, clk, h1, h2, h3⟩ := h
  refine ⟨c, clk, h1, by simpa using h2, fun i p m hp hm => ?_⟩
  obtain ⟨a, b⟩ := h3 i (p.1.sub (renS σ n), p.2.sub (renS σ n)) m (by rw [List.getElem?_map, hp]; rfl) hm
  exact ⟨a.unren ht _ rfl, b.unren ht _ rfl⟩
 | dead => trivial

theorem Rel.small {G : Gh} {K : (Nat → Option Obj)} {ρ : (Nat → Option Loc)} {H Hs : List AObj} {w : World} {σ : List Nat} (hR : Rel G K ρ H w) (hσ : σ.Nodup) (hl : σ.length = Hs.length)
  (ho : ∀ (i j : Nat) (o : AObj), σ[i]? = some j → Hs[i]? = some o → H[j]? = some (o.sub (renS σ H.length))) : Rel { G with frame := outer σ ρ H w G.frame } K (Xcu σ ρ) Hs w := by
 have hget : ∀ (i : Nat) (o : AObj), Hs[i]? = some o → ∃ j, σ[i]? = some j ∧ Xcu σ ρ i = ρ j ∧ H[j]? = some (o.sub (renS σ H.length)) := by
  intro i o h
  have hi : i < Hs.length := (List.getElem?_eq_some_iff.1 h).1
  have hs : σ[i]? = some σ[i] := List.getElem?_eq_getElem (by omega)
  exact ⟨_, hs, by simp [Xcu, hs], ho i _ o hs h⟩
 refine ⟨hR.os, hR.tape, hR.output, hR.keep, ?_, ?_, ?_, ?_, ?_, ?_⟩
 ·
  intro b o hb
  simp only [outer] at hb
  split at hb
  ·
   exact hb
  ·
   exact hR.frame b o hb
 ·
  intro b o hb
  simp only [outer] at hb
  split at hb
  ·
   rename_i h
   obtain ⟨id, o', l, h1, _, h2, h3, rfl⟩ := h
   exact (hR.own id o' l h1 h2 h3).2.1
  ·
   exact hR.apart b o hb
 ·
  intro i hi
  simp only [Xcu]
  rw [List.getElem?_eq_none (by omega)]
 ·
  intro i o h hlv
  obtain ⟨j, hj, hρ, hH⟩ := hget i o h
  obtain ⟨l, hl', hO⟩ := hR.objs j _ hH (by rw [Xdq]; exact hlv)
  exact ⟨l, by rw [hρ]; exact hl', hO.unren hR.top⟩
 ·
  intro i o l h hl' hr
  obtain ⟨j, hj, hρ, hH⟩ := hget i o h
  rw [hρ] at hl'
  obtain ⟨a, b, c⟩ := hR.own j _ l hH hl' (by rw [Qx]; exact hr)
  refine ⟨a, b, ?_⟩
  simp only [outer]
  rw [if_neg]
  ·
   exact c
  ·
   rintro ⟨id, o', l', h1, h2, h3, h4, h5⟩
   have : id = j := hR.inj id j o' _ l' l h1 hH h3 hl' h4 (by rw [Qx]; exact hr) h5
   subst this
   exact h2 (List.mem_of_getElem? hj)
 ·
  intro i i' o o' l l' h h' hl1 hl2 hr1 hr2 hb
  obtain ⟨j, hj, hρ, hH⟩ := hget i o h
  obtain ⟨j', hj', hρ', hH'⟩ := hget i' o' h'
  rw [hρ] at hl1
  rw [hρ'] at hl2
  have : j = j' := hR.inj j j' _ _ l l' hH hH' hl1 hl2 (by rw [Qx]; exact hr1) (by rw [Qx]; exact hr2) hb
  subst this
  obtain ⟨h1, e1⟩ := List.getElem?_eq_some_iff.1 hj
  obtain ⟨h2, e2⟩ := List.getElem?_eq_some_iff.1 hj'
  have hpw := List.pairwise_iff_getElem.1 hσ
  rcases Nat.lt_trichotomy i i' with h | h | h
  ·
   exact absurd (e1.trans e2.symm) (hpw i i' h1 h2 h)
  ·
   exact h
  ·
   exact absurd (e2.trans e1.symm) (hpw i' i h2 h1 h)

def bigρ (σ : List Nat) (n : Nat) (ρ ρs : (Nat → Option Loc)) : (Nat → Option Loc) := fun id => if id < n then ρ id else ρs (σ.length + (id - n))

def AEnd.sub (s : Sub) : AEnd → AEnd
 | .ret v => .ret (v.sub s)
 | .pan v => .pan (v.sub s)

theorem Xa.at {P : Program} {f : FuncId} {args : List AV} {Hs : List AObj} {Q : AEnd → List AObj → Prop} (h : Xa P f args Hs Q) (σ : List Nat) (H : List AObj) (hσ : σ.Nodup) (hl : σ.length = Hs.length)
  (ho : ∀ (i j : Nat) (o : AObj), σ[i]? = some j → Hs[i]? = some o → H[j]? = some (o.sub (renS σ H.length))) {args' : List AV} (ha : subs (renS σ H.length) args = args') {Q' : AEnd → List AObj → Prop}
  (hr : ∀ ae Hs', Q ae Hs' → Q' (ae.sub (renS σ H.length)) (merge σ H (Hs'.map (AObj.sub (renS σ H.length))))) : Xa P f args' H Q' := by
 subst ha
 refine ⟨h.1, ?_⟩
 intro G K ρ w us hR hV
 have hjlt : ∀ j ∈ σ, j < H.length := by
  intro j hj
  obtain ⟨i, hi, rfl⟩ := List.getElem_of_mem hj
  have := ho i σ[i] (Hs[i]'(by omega)) (List.getElem?_eq_getElem hi) (List.getElem?_eq_getElem _)
  exact (List.getElem?_eq_some_iff.1 this).1
 refine (h.2 _ K (Xcu σ ρ) w us (hR.small hσ hl ho) (hV.unren hR.top)).mono ?_
 rintro e w' ⟨K', ρs, ae, Hs', hQ, hE, hN⟩
 have hout : ∀ b o, G.frame b = some o → outer σ ρ H w G.frame b = some o := by
  intro b o hb
  simp only [outer]
  split
  ·
   exact hR.frame b o hb
  ·
   exact hb
 have hlow : ∀ i j, σ[i]? = some j → ρs i = ρ j := by
  intro i j hj
  rw [hN.low i (by rw [← hl]; exact (List.getElem?_eq_some_iff.1 hj).1)]
  simp [Xcu, hj]
 have hnum : ∀ i l, ρs i = some l → bigρ σ H.length ρ ρs (numI σ H.length i) = some l := by
  intro i l hi
  cases hs : σ[i]? with
  | some j =>
   rw [numI_some hs]
   simp only [bigρ]
   rw [if_pos (hjlt j (List.mem_of_getElem? hs)), ← hlow i j hs]
   exact hi
  | none =>
   have hge := List.getElem?_eq_none_iff.1 hs
   rw [numI_none hs]
   simp only [bigρ]
   rw [if_neg (by omega)]
   have : σ.length + (H.length + (i - σ.length) - H.length) = i := by omega
   rw [this]; exact hi
 have hs : SubR (renS σ H.length) K' ρs K' (bigρ σ H.length ρ ρs) := by
  refine ⟨KLe.refl _, ?_, ?_, ?_⟩
  ·
   intro id e j u h
   cases h with | ptr h => exact .ptr (hnum _ _ h)
  ·
   intro id off len u h
   cases h with | row h h1 h2 => exact .row (hnum _ _ h) h1 h2
  ·
   intro id u h
   cases h with | map h => exact .map (hnum _ _ h)
 have hle : RLe ρ (bigρ σ H.length ρ ρs) := by
  intro id l hl'
  simp only [bigρ]
  by_cases hid : id < H.length
  ·
   rw [if_pos hid]; exact hl'
  ·
   rw [hR.top id (by omega)] at hl'; cases hl'
 -- an object behind the call: one that the call was not given, or one of the call's, or nothing
 have hobj : ∀ (id : Nat) (o : AObj), (merge σ H (Hs'.map (AObj.sub (renS σ H.length))))[id]? = some o → (id ∉ σ ∧ id < H.length ∧ H[id]? = some o) ∨
   (∃ k o', Hs'[k]? = some o' ∧ o = o'.sub (renS σ H.length) ∧ id = numI σ H.length k ∧ bigρ σ H.length ρ ρs id = ρs k ∧ (σ[k]? = some id ∨ H.length ≤ id)) ∨ o = .dead := by
  intro id o hget
  simp only [merge] at hget
  have hbl : (back (Hs'.map (AObj.sub (renS σ H.length))) σ 0 H).length = H.length := Xef _ _ _ _
  by_cases hid : id < H.length
  ·
   rw [List.getElem?_append_left (by omega)] at hget
   by_cases hm : id ∈ σ
   ·
    obtain ⟨k, hk, hke⟩ := List.getElem_of_mem hm
    have hk' : σ[k]? = some id := by rw [List.getElem?_eq_getElem hk, hke]
    rw [back_get _ _ _ _ hσ hjlt k id hk', Nat.zero_add, Option.some.injEq, List.getD_eq_getElem?_getD, List.getElem?_map] at hget
    cases hh : Hs'[k]? with
    | none => rw [hh] at hget; exact .inr (.inr hget.symm)
    | some o' =>
     rw [hh] at hget
     exact .inr (.inl ⟨k, o', hh, hget.symm, by simp [numI, hk'], by simp only [bigρ, if_pos hid]; exact (hlow k id hk').symm, .inl hk'⟩)
   ·
    rw [Xd5 _ _ _ _ _ hm] at hget
    exact .inl ⟨hm, hid, hget⟩
  ·
   rw [List.getElem?_append_right (by omega), hbl, List.getElem?_drop, List.getElem?_map] at hget
   obtain ⟨o', ho', rfl⟩ := Option.map_eq_some_iff.1 hget
   refine .inr (.inl ⟨_, o', ho', rfl, ?_, by simp only [bigρ, if_neg hid], .inr (by omega)⟩)
   simp only [numI]
   rw [List.getElem?_eq_none (by omega)]
   simp only []
   omega
 have hheap : ∀ (id : Nat) (o : AObj) l, H[id]? = some o → id ∉ σ → ρ id = some l → real l o = true → outer σ ρ H w G.frame l.block = w.heap[l.block]? ∧ w'.heap[l.block]? = w.heap[l.block]? := by
  intro id o l h1 h2 h3 h4
  have e : outer σ ρ H w G.frame l.block = w.heap[l.block]? := by
   simp only [outer]
   rw [if_pos ⟨id, o, l, h1, h2, h3, h4, rfl⟩]
  refine ⟨e, ?_⟩
  have hlt := (hR.own id o l h1 h3 h4).1
  rw [Array.getElem?_eq_getElem hlt] at e ⊢
  exact hN.rel.frame _ _ e
 refine ⟨K', bigρ σ H.length ρ ρs, ae.sub (renS σ H.length), merge σ H (Hs'.map (AObj.sub (renS σ H.length))), hr _ _ hQ, ?_, ⟨?_, hN.keep, fun id hid => by simp only [bigρ, if_pos hid]⟩⟩
 ·
  cases ae with
  | ret v =>
   cases e <;> try exact hE.elim
   exact VR.sub hE hs
  | pan v =>
   cases e <;> try exact hE.elim
   obtain ⟨u, hu, hv⟩ := hE
   exact ⟨u, hu, hv.sub hs⟩
 refine ⟨hN.rel.os, hN.rel.tape, hN.rel.output, hN.rel.keep, fun b o hb => hN.rel.frame b o (hout b o hb), fun b o hb => hN.rel.apart b o (hout b o hb), ?_, ?_, ?_, ?_⟩
 ·
  intro id hid
  simp only [merge, List.length_append, Xef, List.length_drop, List.length_map] at hid
  simp only [bigρ]
  rw [if_neg (by omega)]
  exact hN.rel.top _ (by omega)
 ·
  intro id o hget hlv
  rcases hobj id o hget with ⟨h1, h2, h3⟩ | ⟨k, o', h1, rfl, h3, h4, _⟩ | rfl
  ·
   obtain ⟨l, hl', hO⟩ := hR.objs id o h3 hlv
   exact ⟨l, hle _ _ hl', hO.mono hN.keep hle (fun hr => (hheap id o l h3 h1 hl' hr).2)⟩
  ·
   rw [Xdq] at hlv
   obtain ⟨l, hl', hO⟩ := hN.rel.objs k o' h1 hlv
   exact ⟨l, by rw [h4]; exact hl', hO.sub hs (fun _ => rfl)⟩
  ·
   cases hlv
 ·
  intro id o l hget hl' hr
  rcases hobj id o hget with ⟨h1, h2, h3⟩ | ⟨k, o', h1, rfl, h3, h4, _⟩ | rfl
  ·
   have hl2 : ρ id = some l := by simpa only [bigρ, if_pos h2] using hl'
   obtain ⟨a, b, c⟩ := hR.own id o l h3 hl2 hr
   obtain ⟨e1, e2⟩ := hheap id o l h3 h1 hl2 hr
   rw [Array.getElem?_eq_getElem a] at e1 e2
   exact ⟨(Array.getElem?_eq_some_iff.1 e2).1, hN.rel.apart _ _ e1, c⟩
  ·
   rw [Qx] at hr
   rw [h4] at hl'
   obtain ⟨a, b, c⟩ := hN.rel.own k o' l h1 hl' hr
   refine ⟨a, b, ?_⟩
   cases hF : G.frame l.block with
   | none => rfl
   | some o2 => have := hout _ _ hF; have c' : outer σ ρ H w G.frame l.block = none := c; rw [c'] at this; cases this
  ·
   cases hr
 ·
  intro i j oi oj li lj hi hj hli hlj hri hrj hb
  rcases hobj i oi hi with ⟨h1, h2, h3⟩ | ⟨k, o', h1, rfl, h3, h4, h5⟩ | rfl
  ·
   have hl2 : ρ i = some li := by simpa only [bigρ, if_pos h2] using hli
   rcases hobj j oj hj with ⟨g1, g2, g3⟩ | ⟨k', o2, g1, rfl, g3, g4, g5⟩ | rfl
   ·
    have hl3 : ρ j = some lj := by simpa only [bigρ, if_pos g2] using hlj
    exact hR.inj i j oi oj li lj h3 g3 hl2 hl3 hri hrj hb
   ·
    exfalso
    rw [Qx] at hrj
    rw [g4] at hlj
    have c' : outer σ ρ H w G.frame lj.block = none := (hN.rel.own k' o2 lj g1 hlj hrj).2.2
    have e1 := (hheap i oi li h3 h1 hl2 hri).1
    rw [← hb, e1, Array.getElem?_eq_getElem (hR.own i oi li h3 hl2 hri).1] at c'
    cases c'
   ·
    cases hrj
  ·
   rw [Qx] at hri
   rw [h4] at hli
   rcases hobj j oj hj with ⟨g1, g2, g3⟩ | ⟨k', o2, g1, rfl, g3, g4, g5⟩ | rfl
   ·
    exfalso
    have hl3 : ρ j = some lj := by simpa only [bigρ, if_pos g2] using hlj
    have c' : outer σ ρ H w G.frame li.block = none := (hN.rel.own k o' li h1 hli hri).2.2
    have e1 := (hheap j oj lj g3 g1 hl3 hrj).1
    rw [hb, e1, Array.getElem?_eq_getElem (hR.own j oj lj g3 hl3 hrj).1] at c'
    cases c'
   ·
    rw [Qx] at hrj
    rw [g4] at hlj
    have : k = k' := hN.rel.inj k k' o' o2 li lj h1 g1 hli hlj hri hrj hb
    subst this
    rw [h3, g3]
   ·
    cases hrj
  ·
   cases hri

theorem Xa.mono {P : Program} {f : FuncId} {args : List AV} {H : List AObj} {Q Q' : AEnd → List AObj → Prop} (h : Xa P f args H Q) (hq : ∀ ae H', Q ae H' → Q' ae H') : Xa P f args H Q' := ⟨h.1, fun G K ρ w us hR hV =>
 (h.2 G K ρ w us hR hV).mono fun e w' ⟨K', ρ', ae, H', hQ, r⟩ => ⟨K', ρ', ae, H', hq _ _ hQ, r⟩⟩

inductive RV where
 | tmp (t : Nat)
 | cell (t n : Nat) (agg : Bool)

def Xdk (H : List AObj) (n : Nat) : AV → Option (List AV)
 | .ptr id e j => match H[id]? with
  | some (.box cs _) => if e = 0 ∧ j + n ≤ cs.length then some ((cs.drop j).take n) else none
  | some (.mem _ es _) => match es[e]? with
   | some el => if j + n ≤ el.length then some ((el.drop j).take n) else none
   | none => none
  | _ => none
 | .vptr el j => if j + n ≤ el.length then some ((el.drop j).take n) else none
 | _ => none

theorem add_add (a : Addr) (i j : Nat) (h : a.spot = none) : (a.add i).add j = a.add (i + j) := by
 obtain ⟨b, o, s⟩ := a
 simp only at h
 subst h
 rw [ZU, ZU, ZU, Nat.add_assoc]

theorem Xjt {G : Gh} {K : (Nat → Option Obj)} {ρ : (Nat → Option Loc)} {H : List AObj} {w : World} (hR : Rel G K ρ H w) {a : Addr} {v : Value} (h : kcell K a = some v) : w.cell? a = some v := by
 simp only [kcell, World.cell?] at *
 cases hk : K a.block with
 | none => rw [hk] at h; cases h
 | some o => rw [hk] at h; rw [hR.keep _ _ hk]; exact h
theorem Xdr {K : (Nat → Option Obj)} {a : Addr} {v : Value} (h : kcell K a = some v) : a.spot = none := by
 simp only [kcell] at h
 split at h
 ·
  split at h
  ·
   cases h
  ·
   cases hs : a.spot with
   | none => rfl
   | some x => simp [hs] at *
 ·
  cases h

theorem Xj7 {K : (Nat → Option Obj)} {ρ : (Nat → Option Loc)} {w : World} {b : Nat} {c : Array Value} {t : TypeId} (h : w.heap[b]? = some (.cells c t (0, 0))) (h1 : ∀ u ∈ c, one u = true) {o : Nat} {el : List AV} (hc : JJ K ρ c o el) {j n : Nat} (hj : j + n ≤ el.length) :
  ((el.drop j).take n).length = n ∧ VRs K ρ ((el.drop j).take n) (c.extract (o + j) (o + j + n)) ∧ (c.extract (o + j) (o + j + n)).size = n ∧ (∀ x ∈ c.extract (o + j) (o + j + n), one x = true) ∧
   ∀ i, i < n → w.cell? ((⟨b, o + j, none⟩ : Addr).add i) = (c.extract (o + j) (o + j + n))[i]? := by
 have hlen : ((el.drop j).take n).length = n := by rw [List.length_take, List.length_drop]; omega
 have hcell : ∀ i, i < el.length → ∃ u, c[o + i]? = some u ∧ VR K ρ el[i]! u := by
  intro i hi
  obtain ⟨u, hu, hv⟩ := hc i (el[i]'hi) (List.getElem?_eq_getElem hi)
  exact ⟨u, hu, by rw [getElem!_pos el i hi]; exact hv⟩
 have hsz : n = 0 ∨ o + j + n ≤ c.size := by
  by_cases h0 : n = 0
  ·
   exact .inl h0
  ·
   right
   obtain ⟨u, hu, _⟩ := hcell (j + n - 1) (by omega)
   have := (Array.getElem?_eq_some_iff.1 hu).1
   omega
 have hs : (c.extract (o + j) (o + j + n)).size = n := by rw [Array.size_extract]; omega
 refine ⟨hlen, ⟨by rw [hlen, hs], ?_⟩, hs, ?_, ?_⟩
 ·
  intro i v u hv hu
  have hi : i < n := by have := (Array.getElem?_eq_some_iff.1 hu).1; omega
  rw [List.getElem?_take, if_pos hi, List.getElem?_drop] at hv
  obtain ⟨u', hu', hr⟩ := hc _ v hv
  rw [Array.getElem?_extract, if_pos (by omega)] at hu
  have e : o + j + i = o + (j + i) := by omega
  rw [e, hu'] at hu
  cases hu
  exact hr
 ·
  intro x hx
  obtain ⟨i, hi, rfl⟩ := Array.getElem_of_mem hx
  rw [Array.getElem_extract]
  exact h1 _ (Array.getElem_mem _)
 ·
  intro i hi
  rw [ZU, Array.getElem?_extract, if_pos (by omega)]
  simp [World.cell?, h]

theorem Xn0 {G : Gh} {K : (Nat → Option Obj)} {ρ : (Nat → Option Loc)} {H : List AObj} {w : World} (hR : Rel G K ρ H w) {p : AV} {u : Value} (hp : VR K ρ p u) {n : Nat} {cs : List AV} (h : Xdk H n p = some cs) :
  cs.length = n ∧ ∃ a us, u = .pointer (some a) ∧ VRs K ρ cs us ∧ us.size = n ∧ (∀ x ∈ us, one x = true) ∧ ∀ i, i < n → w.cell? (a.add i) = us[i]? := by
 cases hp <;> simp only [Xdk, reduceCtorEq] at h
 ·
  rename_i id l e j hl
  cases ho : H[id]? with
  | none => rw [ho] at h; simp at h
  | some o =>
   rw [ho] at h
   cases o <;> simp only [reduceCtorEq] at h
   ·
    rename_i cells t
    split at h
    ·
     rename_i hc
     obtain ⟨rfl, hc⟩ := hc
     cases h
     obtain ⟨l', hl', c, h1, h2, h3, h4, h5⟩ := hR.objs id _ ho rfl
     rw [hl] at hl'
     obtain rfl := Option.some.inj hl'
     obtain ⟨r1, r2, r3, r4, r5⟩ := Xj7 h1 h4 h5 hc
     refine ⟨r1, _, _, rfl, r2, r3, r4, ?_⟩
     intro i hi
     rw [← r5 i hi, h3]
     congr 3
     omega
    ·
     cases h
   ·
    rename_i sz es t
    cases he : es[e]? with
    | none => rw [he] at h; simp at h
    | some el =>
     rw [he] at h
     simp only at h
     split at h
     ·
      rename_i hc
      cases h
      obtain ⟨l', hl', hp, hs, hel, hO⟩ := hR.objs id _ ho rfl
      rw [hl] at hl'
      obtain rfl := Option.some.inj hl'
      rcases hO with ⟨_, rfl⟩ | ⟨c, h3, h4, h5, h6, h7⟩
      ·
       simp at he
      ·
       obtain ⟨r1, r2, r3, r4, r5⟩ := Xj7 h3 h6 (h7 e el he) hc
       refine ⟨r1, _, _, rfl, r2, r3, r4, ?_⟩
       intro i hi
       rw [← r5 i hi, hs]
     ·
      cases h
 ·
  rename_i el j a g h1 h2 h3
  split at h
  ·
   rename_i hc
   cases h
   have hlen : ((el.drop j).take n).length = n := by rw [List.length_take, List.length_drop]; omega
   refine ⟨hlen, _, Array.ofFn (n := n) fun i => g (j + i), rfl, ⟨by simpa using hlen, ?_⟩, by simp, ?_, ?_⟩
   ·
    intro i v u hv hu
    obtain ⟨hi, rfl⟩ := Array.getElem?_eq_some_iff.1 hu
    simp only [Array.size_ofFn] at hi
    rw [List.getElem?_take, if_pos hi, List.getElem?_drop] at hv
    rw [Array.getElem_ofFn]
    exact (h3 _ v hv).mono (KLe.refl _) (RLe.none _)
   ·
    intro x hx
    obtain ⟨i, hi, rfl⟩ := Array.getElem_of_mem hx
    rw [Array.getElem_ofFn]
    exact h2 _
   ·
    intro i hi
    have hsp : a.spot = none := by
     have := h1 0 (by omega)
     have e : a.add 0 = a := by simp [Addr.add]
     rw [e] at this
     exact Xdr this
    rw [add_add a j i hsp, Xjt hR (h1 (j + i) (by omega)), Array.getElem?_eq_getElem (by simpa using hi), Array.getElem_ofFn]
  ·
   cases h
def asVal (agg : Bool) (cs : List AV) : AV := if agg then .agg cs else cs.headD .any

def Qi (P : Program) (t : TypeId) : Option Bool := match P.underlying t with
 | some (.struct _) | some (.array _ _) => some true
 | some _ => some false
 | none => none
def sizeT (P : Program) (t : TypeId) : Option Nat := (P.info? t).map (·.size)

theorem run_sizeOf {P : Program} {t : TypeId} {n : Nat} (h : sizeT P t = some n) (w : World) : (sizeOf t).run P w = .ok n w := by
 simp only [sizeT, Option.map_eq_some_iff] at h
 obtain ⟨i, hi, rfl⟩ := h
 simp [sizeOf, typeInfo, hi]
theorem Xc {P : Program} {t : TypeId} {d : TypeDesc} (h : P.underlying t = some d) (w : World) : (underlying t).run P w = .ok d w := by simp [underlying, h]
theorem Xc1 {P : Program} {t : TypeId} {b : Bool} (h : Qi P t = some b) (w : World) : (isAgg t).run P w = .ok b w := by
 simp only [Qi] at h
 cases hu : P.underlying t with
 | none => rw [hu] at h; cases h
 | some d =>
  rw [hu] at h
  simp only [isAgg, Sem.run_bind, Xc hu, Result.andThen_ok]
  cases d <;> simp_all

theorem VRs.one_of {K : (Nat → Option Obj)} {ρ : (Nat → Option Loc)} {vs : List AV} {us : Array Value} (h : VRs K ρ vs us) {i : Nat} {u : Value} (hu : us[i]? = some u) : ∃ v, vs[i]? = some v ∧ VR K ρ v u := by
 have hi : i < vs.length := by rw [h.1]; exact (Array.getElem?_eq_some_iff.1 hu).1
 exact ⟨_, List.getElem?_eq_getElem hi, h.2 i _ u (List.getElem?_eq_getElem hi) hu⟩

theorem Xks {P : Program} {G : Gh} {K : (Nat → Option Obj)} {ρ : (Nat → Option Loc)} {H : List AObj} {w : World} (hR : Rel G K ρ H w) {p : AV} {u : Value} (hp : VR K ρ p u) {t : TypeId} {n : Nat} {agg : Bool} (hn : sizeT P t = some n) (ha : Qi P t = some agg) (h1 : agg = false → n = 1) {cs : List AV} (h : Xdk H n p = some cs) :
  ∃ a x, u = .pointer (some a) ∧ (loadVar t a).run P w = .ok x w ∧ VR K ρ (asVal agg cs) x := by
 obtain ⟨hl, a, us, rfl, hV, hs, ho, hc⟩ := Xn0 hR hp h
 cases agg with
 | true =>
  refine ⟨a, .agg us, rfl, ?_, ?_⟩
  ·
   have := run_loadCells_list (P := P) w a us.toList (fun j v hv => by
    have hj : j < us.toList.length := (List.getElem?_eq_some_iff.1 hv).1
    rw [hc j (by simp at hj; omega)]
    simpa using hv)
   simp only [loadVar, Sem.run_bind, Xc1 ha, run_sizeOf hn, Result.andThen_ok, if_true]
   rw [show n = us.toList.length by simp [hs], this]
   simp
  ·
   exact .agg hV.1 ho (fun i v u hv hu => hV.2 i v u hv hu)
 | false =>
  have hn1 := h1 rfl
  subst hn1
  have hu0 : ∃ u0, us[0]? = some u0 := ⟨us[0]'(by omega), Array.getElem?_eq_getElem _⟩
  obtain ⟨u0, hu0⟩ := hu0
  obtain ⟨v0, hv0, hr⟩ := hV.one_of hu0
  refine ⟨a, u0, rfl, ?_, ?_⟩
  ·
   have hc0 := hc 0 (by omega)
   rw [hu0] at hc0
   have e : a.add 0 = a := by simp [Addr.add]
   rw [e] at hc0
   simp [loadVar, Xc1 ha, hc0]
  ·
   simp only [asVal, Bool.false_eq_true, if_false]
   cases cs with
   | nil => cases hv0
   | cons x xs => simp only [List.getElem?_cons_zero, Option.some.injEq] at hv0; subst hv0; exact hr

def Xpp (P : Program) : ResultVar → Option RV
 | .tmp t => some (.tmp t)
 | .cell t ty => match sizeT P ty, Qi P ty with
  | some n, some true => some (.cell t n true)
  | some 1, some false => some (.cell t 1 false)
  | _, _ => none

def resV (ta : ATm) (H : List AObj) : RV → Option AV
 | .tmp t => some (ta.get t)
 | .cell t n agg => match Xdk H n (ta.get t) with
  | some cs => some (asVal agg cs)
  | none => none
def resVs (ta : ATm) (H : List AObj) : List RV → Option (List AV)
 | [] => some []
 | r :: rs => match resV ta H r, resVs ta H rs with
  | some v, some vs => some (v :: vs)
  | _, _ => none
def Xj (P : Program) : List ResultVar → Option (List RV)
 | [] => some []
 | r :: rs => match Xpp P r, Xj P rs with
  | some v, some vs => some (v :: vs)
  | _, _ => none
def asRes : List AV → AV
 | [v] => v
 | vs => .tup vs

def Xhg (tmps : Array Value) : ResultVar → Sem Value := fun
  | .tmp t => pure (tmps.getD t undef)
  | .cell a t => do loadVar t (← asAddr (tmps.getD a undef))

theorem resVs_run {P : Program} {G : Gh} {K : (Nat → Option Obj)} {ρ : (Nat → Option Loc)} {H : List AObj} {w : World} (hR : Rel G K ρ H w) {ta : ATm} {a : Act} (hA : AR K ρ ta a) : ∀ (rs : List ResultVar) (cs : List RV) (vs : List AV), Xj P rs = some cs → resVs ta H cs = some vs →
  ∃ us : List Value, (rs.mapM (Xhg a.tmps)).run P w = .ok us w ∧ VRs K ρ vs us.toArray := by
 intro rs
 induction rs with
 | nil =>
  intro cs vs hc hv
  simp only [Xj, Option.some.injEq] at hc
  subst hc
  simp only [resVs, Option.some.injEq] at hv
  subst hv
  exact ⟨[], by simp, rfl, by simp⟩
 | cons r rs ih =>
  intro cs vs hc hv
  simp only [Xj] at hc
  cases h1 : Xpp P r with
  | none => rw [h1] at hc; cases hc
  | some c =>
   cases h2 : Xj P rs with
   | none => rw [h1, h2] at hc; cases hc
   | some cs' =>
    rw [h1, h2] at hc
    simp only [Option.some.injEq] at hc
    subst hc
    simp only [resVs] at hv
    cases h3 : resV ta H c with
    | none => rw [h3] at hv; cases hv
    | some v =>
     cases h4 : resVs ta H cs' with
     | none => rw [h3, h4] at hv; cases hv
     | some vs' =>
      rw [h3, h4] at hv
      simp only [Option.some.injEq] at hv
      subst hv
      obtain ⟨us, hrun, hV⟩ := ih cs' vs' h2 h4
      have hhead : ∃ u, (Xhg a.tmps r).run P w = .ok u w ∧ VR K ρ v u := by
       cases r with
       | tmp t =>
        simp only [Xpp, Option.some.injEq] at h1
        subst h1
        simp only [resV, Option.some.injEq] at h3
        subst h3
        exact ⟨_, by simp [Xhg], hA.tmps t⟩
       | cell t ty =>
        simp only [Xpp] at h1
        split at h1
        ·
         rename_i n hn ha
         simp only [Option.some.injEq] at h1
         subst h1
         simp only [resV] at h3
         cases hcs : Xdk H n (ta.get t) with
         | none => rw [hcs] at h3; cases h3
         | some cells =>
          rw [hcs] at h3
          simp only [Option.some.injEq] at h3
          subst h3
          obtain ⟨ad, x, hu, hx, hv⟩ := Xks (P := P) hR (hA.tmps t) hn ha (by simp) hcs
          exact ⟨x, by simp [Xhg, hu, asAddr, hx], hv⟩
        ·
         rename_i hn ha
         simp only [Option.some.injEq] at h1
         subst h1
         simp only [resV] at h3
         cases hcs : Xdk H 1 (ta.get t) with
         | none => rw [hcs] at h3; cases h3
         | some cells =>
          rw [hcs] at h3
          simp only [Option.some.injEq] at h3
          subst h3
          obtain ⟨ad, x, hu, hx, hv⟩ := Xks (P := P) hR (hA.tmps t) hn ha (by simp) hcs
          exact ⟨x, by simp [Xhg, hu, asAddr, hx], hv⟩
        ·
         cases h1
      obtain ⟨u, hu, hvu⟩ := hhead
      refine ⟨u :: us, by simp [List.mapM_cons, hu, hrun], ?_⟩
      refine ⟨by simpa using hV.1, ?_⟩
      intro i v' u' hv' hu'
      cases i with
      | zero => simp at hv' hu'; subst hv' hu'; exact hvu
      | succ i => exact hV.2 i v' u' (by simpa using hv') (by simpa using hu')

theorem Xhf {P : Program} {G : Gh} {K : (Nat → Option Obj)} {ρ : (Nat → Option Loc)} {H : List AObj} {w : World} (hR : Rel G K ρ H w) {ta : ATm} {a : Act} (hA : AR K ρ ta a) {fn : Func} {cs : List RV} {vs : List AV} (hc : Xj P fn.results.toList = some cs) (hv : resVs ta H cs = some vs) :
  ∃ u, (results fn a.tmps).run P w = .ok u w ∧ VR K ρ (asRes vs) u := by
 obtain ⟨us, hrun, hV⟩ := resVs_run hR hA _ _ _ hc hv
 have hm : (fn.results.mapM (Xhg a.tmps)).run P w = .ok us.toArray w := by
  rw [Array.mapM_eq_mapM_toList]
  simp [hrun]
 have hres : results fn a.tmps = (do let vs ← fn.results.mapM (Xhg a.tmps); pure (if h : vs.size = 1 then vs[0] else .tuple vs)) := rfl
 refine ⟨_, by rw [hres]; simp only [Sem.run_bind, hm, Result.andThen_ok, Sem.run_pure]; rfl, ?_⟩
 have hlen := hV.1
 split
 ·
  rename_i h
  cases vs with
  | nil => simp at hlen h; omega
  | cons v vs' =>
   cases vs' with
   | nil => exact hV.2 0 v _ rfl (Array.getElem?_eq_getElem (by omega))
   | cons v' vs'' => simp at hlen h; omega
 ·
  rename_i h
  have : asRes vs = .tup vs := by
   cases vs with
   | nil => rfl
   | cons v vs' => cases vs' with
    | nil => simp at hlen h; omega
    | cons => rfl
  rw [this]
  exact .tup hlen (fun i v u hv hu => hV.2 i v u hv hu)

def argl : Nat → List AV → List (Nat × AV)
 | _, [] => []
 | i, v :: vs => (i, v) :: argl (i + 1) vs
theorem Xlv (vs : List AV) : ∀ i t, look (argl i vs) t = if i ≤ t then (vs[t - i]?).getD .any else .any := by
 induction vs with
 | nil => intro i t; simp [argl, look]
 | cons v vs ih =>
  intro i t
  simp only [argl, look]
  by_cases h : i = t
  ·
   subst h; simp
  ·
   rw [if_neg h, ih]
   by_cases h2 : i ≤ t
   ·
    rw [if_pos h2, if_pos (by omega)]
    have : t - i = (t - (i + 1)) + 1 := by omega
    rw [this, List.getElem?_cons_succ]
   ·
    rw [if_neg h2, if_neg (by omega)]

def bodyA (n0 : Nat) (rs : List RV) (Q : AEnd → List AObj → Prop) : AExit → ATm → List AObj → Prop
 | .normal, ta, H | .ret, ta, H => ta.ds = [] ∧ ∃ vs, resVs ta H rs = some vs ∧ ∃ v1 H1, RefV n0 [asRes vs] H [v1] H1 ∧ Q (.ret v1) H1
 | .pan v, ta, H => ta.ds = [] ∧ ∃ v1 H1, RefV n0 [v] H [v1] H1 ∧ Q (.pan v1) H1
 | _, _, _ => False

theorem VRs.single {K : (Nat → Option Obj)} {ρ : (Nat → Option Loc)} {v : AV} {u : Value} : VRs K ρ [v] #[u] ↔ VR K ρ v u := by
 constructor
 ·
  intro h; exact h.2 0 v u rfl rfl
 ·
  intro h
  refine ⟨rfl, fun i v' u' hv hu => ?_⟩
  cases i with
  | zero => simp at hv hu; subst hv hu; exact h
  | succ i => simp at hv

theorem DRs.nil {K : (Nat → Option Obj)} {ρ : (Nat → Option Loc)} {xs : List Deferred} (h : DRs K ρ [] xs) : xs = [] := by
 cases xs with
 | nil => rfl
 | cons => exact h.elim

theorem Xa.body {P : Program} {f : FuncId} {fn : Func} (hf : P.funcs[f]? = some fn) (hname : (fn.name == "runtime.NumGoroutine") = false) {c : Code} (hb : fn.body = some c) {N : Nat} (hN : fn.ntmps = N) {rs : List RV} (hrs : Xj P fn.results.toList = some rs) {args : List AV} (hn : args.length ≤ N) {H : List AObj} {Q : AEnd → List AObj → Prop}
  (h : AWp P H.length c ⟨N, argl 0 args, []⟩ H (bodyA H.length rs Q)) : Xa P f args H Q := by
 refine ⟨⟨fn, hf, hname, by rw [hb]; rfl⟩, ?_⟩
 intro G K ρ w us hR hV
 have hA : AR K ρ ⟨N, argl 0 args, []⟩ { tmps := us ++ Array.replicate (fn.ntmps - us.size) undef, defers := [] } := by
  have hl := hV.1
  refine ⟨by simp [hN]; omega, fun t => ?_, trivial⟩
  simp only [ATm.get]
  rw [Xlv, if_pos (Nat.zero_le _), Nat.sub_zero, Array.getD_eq_getD_getElem?]
  by_cases ht : t < us.size
  ·
   rw [Array.getElem?_append_left ht, List.getElem?_eq_getElem (by omega), Array.getElem?_eq_getElem ht]
   exact hV.2 t _ _ (List.getElem?_eq_getElem (by omega)) (Array.getElem?_eq_getElem ht)
  ·
   rw [List.getElem?_eq_none (by omega)]
   exact .any
 refine calls_of_wp hf hb (wp_mono (h G K ρ w _ hR hA) ?_)
 rintro e a' w' ⟨K', ρ', ae, ta', H', hQ, hE, hA', hN'⟩
 have fin : (ta'.ds = [] ∧ ∃ vs, resVs ta' H' rs = some vs ∧ ∃ v1 H1, RefV H.length [asRes vs] H' [v1] H1 ∧ Q (.ret v1) H1) → a'.defers = [] ∧ ∃ v, (results fn a'.tmps).run P w' = .ok v w' ∧
   ∃ K' ρ' ae H', Q ae H' ∧ ER K' ρ' ae (.returned v) ∧ Next G H.length K ρ K' ρ' H' w' := by
  rintro ⟨hd, vs, hvs, v1, H1, href, hQ⟩
  obtain ⟨u, hu, hvu⟩ := Xhf hN'.rel hA' hrs hvs
  obtain ⟨K1, ρ1, hv1, hN1⟩ := href G K' ρ' w' #[u] hN'.rel (VRs.single.2 hvu)
  have hdef := hA'.defers
  rw [hd] at hdef
  exact ⟨hdef.nil, u, hu, K1, ρ1, .ret v1, H1, hQ, VRs.single.1 hv1, hN'.trans hN1 (Nat.le_refl _)⟩
 cases ae with
 | normal => cases e <;> first | exact hE.elim | exact fin hQ
 | exit i => exact hQ.elim
 | goto i => exact hQ.elim
 | ret => cases e <;> first | exact hE.elim | exact fin hQ
 | pan v =>
  cases e <;> try exact hE.elim
  obtain ⟨u, rfl, hu⟩ := hE
  obtain ⟨hd, v1, H1, href, hQ⟩ := hQ
  obtain ⟨K1, ρ1, hv1, hN1⟩ := href G K' ρ' w' #[u] hN'.rel (VRs.single.2 hu)
  have hdef := hA'.defers
  rw [hd] at hdef
  exact ⟨hdef.nil, K1, ρ1, .pan v1, H1, hQ, ⟨u, rfl, VRs.single.1 hv1⟩, hN'.trans hN1 (Nat.le_refl _)⟩

theorem RefV.refl (n0 : Nat) (vs : List AV) (H : List AObj) : RefV n0 vs H vs H := fun G K ρ w a hR hA => ⟨K, ρ, hA, Next.refl hR⟩
theorem RefV.trans {n0 : Nat} {vs vs1 vs2 : List AV} {H H1 H2 : List AObj} (h : RefV n0 vs H vs1 H1) (h' : RefV n0 vs1 H1 vs2 H2) : RefV n0 vs H vs2 H2 := fun G K ρ w a hR hA => by
 obtain ⟨K1, ρ1, hA1, hN1⟩ := h G K ρ w a hR hA
 obtain ⟨K2, ρ2, hA2, hN2⟩ := h' G K1 ρ1 w a hN1.rel hA1
 exact ⟨K2, ρ2, hA2, hN1.trans hN2 (Nat.le_refl _)⟩
end Go.Proofs.Ytcbhlpbkampfeaa.AI
