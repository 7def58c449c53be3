import Derived.Test.YtcbhlpbkampfeaaD1
/- Part of a proof. -/
set_option linter.unusedVariables false
set_option linter.unusedSimpArgs false
namespace Go.Proofs.Ytcbhlpbkampfeaa.AI

structure DBase (P : Program) (ops : Array Oper) (xs : List IOp) (B : Nat → List Nat) : Prop where
 at_ : ∀ (i : Nat) (x : IOp), xs[i]? = some x → ∃ o, ops[i]? = some o ∧ Xce P o.op = some x.op ∧ o.dst = x.dst ∧ ZM ops o.guard = some x.guard ∧ (∀ e ∈ o.after, Region.binds .any e = true → e.on ∈ B i) ∧
  ∀ c ∈ B i, c < ops.size ∧ ∃ e ∈ o.after, Region.binds .any e = true ∧ (c = e.on ∨ c ∈ B e.on)
 len : ops.size = xs.length

structure DAlt (ops : Array Oper) (xs : List IOp) (B : Nat → List Nat) (a b : Nat) (ys0 : List DOp) : Prop where
 it : ∀ y ∈ ys0, xs[y.ix]? = some y.o ∧ y.bef = if y.ix = b ∨ b ∈ B y.ix then B y.ix ++ a :: B a else B y.ix
 pairs : ys0.Pairwise Pair
 self : ∀ y ∈ ys0, y.ix ∉ y.bef
 all : ∀ i, i < ops.size → ∃ y ∈ ys0, y.ix = i

theorem DAlt.sub {ops : Array Oper} {xs : List IOp} {B : Nat → List Nat} {a b : Nat} {ys0 : List DOp} (hA : DAlt ops xs B a b ys0) {y : DOp} (hy : y ∈ ys0) {c : Nat} (hc : c ∈ B y.ix) : c ∈ y.bef := by
  rw [(hA.it y hy).2]
  split
  · exact List.mem_append_left _ hc
  · exact hc

theorem DAlt.drawn {P : Program} {ops : Array Oper} {xs : List IOp} {B : Nat → List Nat} {a b : Nat} {ys0 : List DOp} (hB : DBase P ops xs B) (hA : DAlt ops xs B a b ys0) (ha : a < ops.size) : Drawn P ops (fun c => c = a ∨ c ∈ B a) ys0 := by
 refine ⟨fun y hy => ?_, hA.pairs, hA.self, hA.all⟩
 obtain ⟨hx, hbef⟩ := hA.it y hy
 obtain ⟨o, h1, h2, h3, h4, h5, h6⟩ := hB.at_ _ _ hx
 obtain ⟨xa, hxa⟩ : ∃ x, xs[a]? = some x := ⟨xs[a]'(hB.len ▸ ha), List.getElem?_eq_getElem _⟩
 obtain ⟨oa, _, _, _, _, _, h7⟩ := hB.at_ _ _ hxa
 refine ⟨o, h1, h2, h3, h4, fun e he hb => hA.sub hy (h5 e he hb), fun c hc => ?_⟩
 have key : c ∈ B y.ix → c < ops.size ∧ ((c = a ∨ c ∈ B a) ∨ ∃ e ∈ o.after, Region.binds .any e = true ∧ (c = e.on ∨ ∃ z ∈ ys0, z.ix = e.on ∧ c ∈ z.bef)) := by
  intro hc
  obtain ⟨hlt, e, he, hb, hor⟩ := h6 c hc
  refine ⟨hlt, .inr ⟨e, he, hb, ?_⟩⟩
  rcases hor with h | h
  ·
   exact .inl h
  ·
   right
   obtain ⟨z, hz, hze⟩ := hA.all e.on (h6 _ (h5 e he hb)).1
   exact ⟨z, hz, hze, hA.sub hz (by rw [hze]; exact h)⟩
 rw [hbef] at hc
 split at hc
 ·
  rcases List.mem_append.1 hc with hc | hc
  ·
   exact key hc
  ·
   rcases List.mem_cons.1 hc with rfl | hc
   ·
    exact ⟨ha, .inl (.inl rfl)⟩
   ·
    exact ⟨(h7 c hc).1, .inl (.inr hc)⟩
 ·
  exact key hc

section
variable {P : Program} {n0 : Nat}
theorem DS.both {y y' : DOp} (ho : y'.o = y.o) (hE : isE y.o.op = false) {KA KB : ATm → List AObj → List Rd → Prop} {Qp : AV → List AObj → Prop} {ta : ATm} {H : List AObj} (hA : DS P n0 y KA Qp ta H []) (hB : DS P n0 y' KB Qp ta H []) :
  DS P n0 y (fun ta H _ => (∃ r, KA ta H r) ∧ (∃ r, KB ta H r)) Qp ta H [] := by
 obtain ⟨hd, hA⟩ := hA
 obtain ⟨_, hB⟩ := hB
 refine ⟨hd, ?_⟩
 have hno : ∀ {P : Prop}, Wt y ta → Uw y ta → P := by
  intro P h1 h2
  unfold Wt at h1
  unfold Uw at h2
  cases hg : y.o.guard with
  | none => rw [hg] at h2; exact h2.elim
  | some g =>
   obtain ⟨d, want⟩ := g
   rw [hg] at h1 h2
   simp only at h1 h2
   rw [h1] at h2
   rcases h2 with h2 | h2
   ·
    cases want <;> cases h2
   ·
    cases h2
 have eW : Wt y' ta = Wt y ta := by unfold Wt; rw [ho]
 have eU : Uw y' ta = Uw y ta := by unfold Uw; rw [ho]
 rcases hA with ⟨w1, g1⟩ | ⟨u1, k1⟩
 ·
  rcases hB with ⟨w2, g2⟩ | ⟨u2, k2⟩
  ·
   refine .inl ⟨w1, ?_⟩
   unfold DGo at g1 g2 ⊢
   rw [ho] at g2
   rw [hE] at g1 g2 ⊢
   simp only at g1 g2 ⊢
   cases hev : evO ta H y.o.op with
   | ok v H' => rw [hev] at g1 g2; exact ⟨⟨_, g1⟩, ⟨_, g2⟩⟩
   | call f args => rw [hev] at g1; exact g1
   | pan v => rw [hev] at g1; exact g1
   | bad => rw [hev] at g1; exact g1
  ·
   rw [eU] at u2; exact hno w1 u2
 ·
  rcases hB with ⟨w2, g2⟩ | ⟨u2, k2⟩
  ·
   rw [eW] at w2; exact hno w2 u1
  ·
   rw [ho] at k2
   exact .inr ⟨u1, ⟨_, k1⟩, ⟨_, k2⟩⟩

theorem Xgf {ops : Array Oper} {xs : List IOp} {B : Nat → List Nat} {a b : Nat} {ys0 : List DOp} (hB : DBase P ops xs B) (hAl : DAlt ops xs B a b ys0) (ha : a < ops.size) (hab : a ≠ b) (hba : b ∉ B a) {QQ : AExit → ATm → List AObj → Prop} {n : Nat} {ds : List (Fn × List AV × List AV)} {G : Gh} {K0 : (Nat → Option Obj)} {ρ0 : (Nat → Option Loc)}
  {fuel : Nat} {ys : List DOp} {listed : Array Bool} {ta : ATm} {H : List AObj} {K : (Nat → Option Obj)} {ρ : (Nat → Option Loc)} {w : World} {ac : Act} (hs : ys.Sublist ys0) (hsz : listed.size = ops.size) (h1 : ∀ y ∈ ys0, listed[y.ix]? = some true ∨ y ∈ ys) (h2 : ∀ y ∈ ys, listed[y.ix]? = some false)
  (hcl : ∀ i, listed[i]? = some true → ∀ c ∈ B i, listed[c]? = some true) (hla : listed[a]? = some false) (hlb : listed[b]? = some false) (hBa : ∀ c ∈ B a, listed[c]? = some true) (hl : ys.length ≤ fuel + 1)
  (hM : DN P n0 (fun ta H => ∃ ta0, TE ta0 ta ∧ QQ .normal ta0 H) (fun v H => QQ (.pan v) ⟨n, [], ds⟩ H) ys ta H []) (hn : n0 ≤ H.length) (hN : Next G n0 K0 ρ0 K ρ H w) (hA : AR K ρ ta ac) (htn : ta.n = n ∧ ta.ds = ds) :
  wpOp P ops (fun e a' w' => ∃ K' ρ' ae ta' H', QQ ae ta' H' ∧ ExR K' ρ' ae e ∧ AR K' ρ' ta' a' ∧ Next G n0 K0 ρ0 K' ρ' H' w') a (wpAny P .any ops (fun e a' w' => ∃ K' ρ' ae ta' H', QQ ae ta' H' ∧ ExR K' ρ' ae e ∧ AR K' ρ' ta' a' ∧ Next G n0 K0 ρ0 K' ρ' H' w') fuel (listed.setIfInBounds a true)) ac w := by
 have hQ : ∀ ta ta' H, TE ta ta' → (∃ ta0, TE ta0 ta ∧ QQ .normal ta0 H) → ∃ ta0, TE ta0 ta' ∧ QQ .normal ta0 H := fun ta ta' H ht ⟨ta0, h1, h2⟩ => ⟨ta0, h1.trans ht, h2⟩
 have hD := hAl.drawn hB ha
 obtain ⟨y, hy0, rfl⟩ := hAl.all a ha
 have hy : y ∈ ys := by
  rcases h1 y hy0 with h | h
  ·
   rw [hla] at h; cases h
  ·
   exact h
 obtain ⟨o, ho, hc, hdst, hgd, _, _⟩ := hD.op y hy0
 obtain ⟨pre, post, rfl⟩ := List.append_of_mem hy
 have hbefy : y.bef = B y.ix := by rw [(hAl.it y hy0).2, if_neg (fun h => h.elim (fun h => hab h) (fun h => hba h))]
 have hpair := hD.pairs.sublist hs
 have hpre : ∀ z ∈ pre, Pair z y ∧ z.ix ∉ y.bef := by
  intro z hz
  refine ⟨(List.pairwise_append.1 hpair).2.2 z hz y List.mem_cons_self, fun hb => ?_⟩
  have := h2 z (List.mem_append_left _ hz)
  rw [hbefy] at hb
  rw [hBa _ hb] at this
  cases this
 have hne : ∀ z ∈ pre ++ post, z.ix ≠ y.ix := by
  intro z hz
  rcases List.mem_append.1 hz with hz | hz
  ·
   exact (hpre z hz).1.1
  ·
   exact fun e => (List.rel_of_pairwise_cons (List.pairwise_append.1 hpair).2.1 hz).1 e.symm
 have hlt : y.ix < listed.size := (Array.getElem?_eq_some_iff.1 hla).1
 have hset : ∀ j, (listed.setIfInBounds y.ix true)[j]? = if y.ix = j then some true else listed[j]? := by
  intro j
  by_cases e : y.ix = j
  ·
   subst e; rw [if_pos rfl]; simp [hlt]
  ·
   rw [if_neg e, Array.getElem?_setIfInBounds_ne e]
 have hS := DN.first hQ hpre hM
 refine Xfq ho hc hdst hgd hS hn hN hA htn fun ta' H' rd' K' ρ' w' a' hM' hn' hN' hA' htn' => ?_
 refine Xmj hD fuel (pre ++ post) _ ta' H' K' ρ' w' a' ?_ ?_ (by simpa using hsz) ?_ ?_ ?_ ?_ (DN.ck hQ _ _ _ _ _ _ (TE.refl _) (fun r hr => by cases hr) hM') hn' hN' hA' htn'
 ·
  rintro c (rfl | hc)
  ·
   rw [hset, if_pos rfl]
  ·
   rw [hset]; split <;> first | rfl | exact hBa c hc
 ·
  exact (List.Sublist.append (List.Sublist.refl _) (List.sublist_cons_self _ _)).trans hs
 ·
  intro z hz
  rw [hset]
  by_cases e : y.ix = z.ix
  ·
   rw [if_pos e]; exact .inl rfl
  ·
   rw [if_neg e]
   rcases h1 z hz with h | h
   ·
    exact .inl h
   ·
    right
    rcases List.mem_append.1 h with h | h
    ·
     exact List.mem_append_left _ h
    ·
     rcases List.mem_cons.1 h with rfl | h
     ·
      exact (e rfl).elim
     ·
      exact List.mem_append_right _ h
 ·
  intro z hz
  rw [hset, if_neg (fun e => hne z hz e.symm)]
  refine h2 z ?_
  rcases List.mem_append.1 hz with h | h
  ·
   exact List.mem_append_left _ h
  ·
   exact List.mem_append_right _ (List.mem_cons_of_mem _ h)
 ·
  intro z hz hzl c hcz
  rw [hset]
  by_cases e : y.ix = c
  ·
   rw [if_pos e]
  ·
   rw [if_neg e]
   by_cases e2 : y.ix = z.ix
   ·
    have : z.bef = B z.ix := by rw [(hAl.it z hz).2, if_neg (fun h => h.elim (fun h => hab (e2.trans h)) (fun h => hba (by rw [e2]; exact h)))]
    rw [this, ← e2] at hcz
    exact hBa c hcz
   ·
    rw [hset, if_neg e2] at hzl
    have : z.bef = B z.ix := by
     rw [(hAl.it z hz).2, if_neg]
     rintro (h | h)
     ·
      rw [h, hlb] at hzl; cases hzl
     ·
      have := hcl _ hzl b h
      rw [hlb] at this; cases this
    rw [this] at hcz
    exact hcl _ hzl c hcz
 ·
  simp only [List.length_append, List.length_cons] at hl ⊢; omega

theorem drawn_two {ops : Array Oper} {xs : List IOp} {B : Nat → List Nat} {a b : Nat} {yA0 yB0 : List DOp} (hB : DBase P ops xs B) (hAa : DAlt ops xs B a b yA0) (hAb : DAlt ops xs B b a yB0) (ha : a < ops.size) (hb : b < ops.size) (hab : a ≠ b) (hba : b ∉ B a) (hba' : a ∉ B b)
  (hE : ∀ i x, xs[i]? = some x → isE x.op = true → i = a ∨ i = b ∨ a ∈ B i) {QQ : AExit → ATm → List AObj → Prop} {n : Nat} {ds : List (Fn × List AV × List AV)} {G : Gh} {K0 : (Nat → Option Obj)} {ρ0 : (Nat → Option Loc)} :
  ∀ (fuel : Nat) (ysA ysB : List DOp) (listed : Array Bool) (ta : ATm) (H : List AObj) (K : (Nat → Option Obj)) (ρ : (Nat → Option Loc)) (w : World) (ac : Act), ysA.Sublist yA0 → ysB.Sublist yB0 → listed.size = ops.size → (∀ y ∈ yA0, listed[y.ix]? = some true ∨ y ∈ ysA) → (∀ y ∈ yB0, listed[y.ix]? = some true ∨ y ∈ ysB) →
   (∀ y ∈ ysA, listed[y.ix]? = some false) → (∀ y ∈ ysB, listed[y.ix]? = some false) → (∀ i, listed[i]? = some true → ∀ c ∈ B i, listed[c]? = some true) → listed[a]? = some false → listed[b]? = some false → ysA.length ≤ fuel → ysB.length ≤ fuel →
   DN P n0 (fun ta H => ∃ ta0, TE ta0 ta ∧ QQ .normal ta0 H) (fun v H => QQ (.pan v) ⟨n, [], ds⟩ H) ysA ta H [] → DN P n0 (fun ta H => ∃ ta0, TE ta0 ta ∧ QQ .normal ta0 H) (fun v H => QQ (.pan v) ⟨n, [], ds⟩ H) ysB ta H [] →
   n0 ≤ H.length → Next G n0 K0 ρ0 K ρ H w → AR K ρ ta ac → ta.n = n ∧ ta.ds = ds →
   wpAny P .any ops (fun e a' w' => ∃ K' ρ' ae ta' H', QQ ae ta' H' ∧ ExR K' ρ' ae e ∧ AR K' ρ' ta' a' ∧ Next G n0 K0 ρ0 K' ρ' H' w') fuel listed ac w := by
 have hQ : ∀ ta ta' H, TE ta ta' → (∃ ta0, TE ta0 ta ∧ QQ .normal ta0 H) → ∃ ta0, TE ta0 ta' ∧ QQ .normal ta0 H := fun ta ta' H ht ⟨ta0, h1, h2⟩ => ⟨ta0, h1.trans ht, h2⟩
 intro fuel
 induction fuel with
 | zero =>
  intro ysA ysB listed ta H K ρ w ac hsA hsB hsz h1A h1B h2A h2B hcl hla hlb hlA hlB hMA hMB hn hN hA htn
  obtain ⟨y, hy, rfl⟩ := hAa.all a ha
  rcases h1A y hy with h | h
  ·
   rw [hla] at h; cases h
  ·
   cases ysA with
   | nil => cases h
   | cons => simp at hlA
 | succ fuel ih =>
  intro ysA ysB listed ta H K ρ w ac hsA hsB hsz h1A h1B h2A h2B hcl hla hlb hlA hlB hMA hMB hn hN hA htn
  have hD := hAa.drawn hB ha
  refine ⟨fun hr => ?_, fun i hi => ?_⟩
  ·
   cases ysA with
   | nil =>
    obtain ⟨y, hy, rfl⟩ := hAa.all a ha
    rcases h1A y hy with h | h
    ·
     rw [hla] at h; cases h
    ·
     cases h
   | cons y ys =>
    exfalso
    have hy0 : y ∈ yA0 := hsA.subset List.mem_cons_self
    obtain ⟨o, ho, _, _, _, haf, hbf⟩ := hD.op y hy0
    have hp := (hD.pairs.sublist hsA)
    have : y.ix ∈ Region.ready .any ops listed := by
     rw [mem_ready]
     refine ⟨Xdc.2 (h2A y List.mem_cons_self), o, ho, fun e he hb => ?_⟩
     rw [Xfp]
     have hin := haf e he hb
     obtain ⟨z, hz, hze⟩ := hD.all e.on (hbf _ hin).1
     rcases h1A z hz with h | h
     ·
      rw [← hze]; exact h
     ·
      exfalso
      rcases List.mem_cons.1 h with rfl | h
      ·
       exact hD.self _ hy0 (by rw [hze]; exact hin)
      ·
       exact (List.rel_of_pairwise_cons hp h).2.1 (by rw [hze]; exact hin)
    rw [hr] at this
    cases this
  ·
   obtain ⟨hi0, o, ho, hrd⟩ := mem_ready.1 hi
   have hio : i < ops.size := (Array.getElem?_eq_some_iff.1 ho).1
   rw [Xdc] at hi0
   obtain ⟨x, hx⟩ : ∃ x, xs[i]? = some x := ⟨xs[i]'(hB.len ▸ hio), List.getElem?_eq_getElem _⟩
   obtain ⟨o', ho', hc, hdst, hgd, haf, hbf⟩ := hB.at_ _ _ hx
   rw [ho] at ho'
   cases ho'
   have hBi : ∀ c ∈ B i, listed[c]? = some true := by
    intro c hcB
    obtain ⟨_, e, he, hbd, h⟩ := hbf c hcB
    have := Xfp.1 (hrd e he hbd)
    rcases h with rfl | h
    ·
     exact this
    ·
     exact hcl _ this c h
   by_cases eia : i = a
   ·
    subst eia
    exact Xgf hB hAa ha hab hba hsA hsz h1A h2A hcl hla hlb hBi hlA hMA hn hN hA htn
   by_cases eib : i = b
   ·
    subst eib
    exact Xgf hB hAb hb (Ne.symm hab) hba' hsB hsz h1B h2B hcl hlb hla hBi hlB hMB hn hN hA htn
   have hna : a ∉ B i := fun h => by have := hBi a h; rw [hla] at this; cases this
   have hnb : b ∉ B i := fun h => by have := hBi b h; rw [hlb] at this; cases this
   have hxE : isE x.op = false := by
    cases hh : isE x.op with
    | false => rfl
    | true =>
     rcases hE i x hx hh with h | h | h
     ·
      exact (eia h).elim
     ·
      exact (eib h).elim
     ·
      exact (hna h).elim
   have side : ∀ (a b : Nat) (ys0 ys : List DOp), DAlt ops xs B a b ys0 → ys.Sublist ys0 → (∀ y ∈ ys0, listed[y.ix]? = some true ∨ y ∈ ys) → (∀ y ∈ ys, listed[y.ix]? = some false) → i ≠ b → b ∉ B i →
     ∃ y pre post, ys = pre ++ y :: post ∧ y.ix = i ∧ y.o = x ∧ (∀ z ∈ pre, Pair z y ∧ z.ix ∉ y.bef) ∧ (∀ z ∈ pre ++ post, z.ix ≠ i) := by
    intro a b ys0 ys hAl hs h1 h2 hib hbi
    obtain ⟨y, hy0, hyi⟩ := hAl.all i hio
    have hy : y ∈ ys := by
     rcases h1 y hy0 with h | h
     ·
      rw [hyi, hi0] at h; cases h
     ·
      exact h
    obtain ⟨pre, post, rfl⟩ := List.append_of_mem hy
    have hbefy : y.bef = B i := by rw [(hAl.it y hy0).2, hyi, if_neg (fun h => h.elim (fun h => hib h) (fun h => hbi h))]
    have hyo : y.o = x := by
     have := (hAl.it y hy0).1
     rw [hyi, hx] at this
     exact (Option.some.inj this).symm
    have hpair := hAl.pairs.sublist hs
    have hpre : ∀ z ∈ pre, Pair z y ∧ z.ix ∉ y.bef := by
     intro z hz
     refine ⟨(List.pairwise_append.1 hpair).2.2 z hz y List.mem_cons_self, fun hb => ?_⟩
     have := h2 z (List.mem_append_left _ hz)
     rw [hbefy] at hb
     rw [hBi _ hb] at this
     cases this
    refine ⟨y, pre, post, rfl, hyi, hyo, hpre, fun z hz => ?_⟩
    rw [← hyi]
    rcases List.mem_append.1 hz with hz | hz
    ·
     exact (hpre z hz).1.1
    ·
     exact fun e => (List.rel_of_pairwise_cons (List.pairwise_append.1 hpair).2.1 hz).1 e.symm
   obtain ⟨y, pre, post, rfl, rfl, hyo, hpre, hne⟩ := side a b yA0 ysA hAa hsA h1A h2A eib hnb
   obtain ⟨y', pre', post', rfl, hyi', hyo', hpre', hne'⟩ := side b a yB0 ysB hAb hsB h1B h2B eia hna
   have hS := DS.both (hyo'.trans hyo.symm) (by rw [hyo]; exact hxE) (DN.first hQ hpre hMA) (DN.first hQ hpre' hMB)
   have hlt : y.ix < listed.size := (Array.getElem?_eq_some_iff.1 hi0).1
   have hset : ∀ j, (listed.setIfInBounds y.ix true)[j]? = if y.ix = j then some true else listed[j]? := by
    intro j
    by_cases e : y.ix = j
    ·
     subst e; rw [if_pos rfl]; simp [hlt]
    ·
     rw [if_neg e, Array.getElem?_setIfInBounds_ne e]
   refine Xfq ho (by rw [hyo]; exact hc) (by rw [hyo]; exact hdst) (by rw [hyo]; exact hgd) hS hn hN hA htn fun ta' H' rd' K' ρ' w' a' hM' hn' hN' hA' htn' => ?_
   obtain ⟨⟨r1, m1⟩, ⟨r2, m2⟩⟩ := hM'
   have up1 : ∀ (ys0 pre post : List DOp) (y0 : DOp), y0.ix = y.ix → (∀ z ∈ ys0, listed[z.ix]? = some true ∨ z ∈ pre ++ y0 :: post) → ∀ z ∈ ys0, (listed.setIfInBounds y.ix true)[z.ix]? = some true ∨ z ∈ pre ++ post := by
    intro ys0 pre post y0 e0 h1 z hz
    rw [hset]
    by_cases e : y.ix = z.ix
    ·
     rw [if_pos e]; exact .inl rfl
    ·
     rw [if_neg e]
     rcases h1 z hz with h | h
     ·
      exact .inl h
     ·
      right
      rcases List.mem_append.1 h with h | h
      ·
       exact List.mem_append_left _ h
      ·
       rcases List.mem_cons.1 h with rfl | h
       ·
        exact (e e0.symm).elim
       ·
        exact List.mem_append_right _ h
   have up2 : ∀ (pre post : List DOp) (y0 : DOp), (∀ z ∈ pre ++ post, z.ix ≠ y.ix) → (∀ z ∈ pre ++ y0 :: post, listed[z.ix]? = some false) → ∀ z ∈ pre ++ post, (listed.setIfInBounds y.ix true)[z.ix]? = some false := by
    intro pre post y0 hne h2 z hz
    rw [hset, if_neg (fun e => hne z hz e.symm)]
    refine h2 z ?_
    rcases List.mem_append.1 hz with h | h
    ·
     exact List.mem_append_left _ h
    ·
     exact List.mem_append_right _ (List.mem_cons_of_mem _ h)
   refine ih (pre ++ post) (pre' ++ post') _ ta' H' K' ρ' w' a' ((List.Sublist.append (List.Sublist.refl _) (List.sublist_cons_self _ _)).trans hsA) ((List.Sublist.append (List.Sublist.refl _) (List.sublist_cons_self _ _)).trans hsB) (by simpa using hsz)
    (up1 _ _ _ y rfl h1A) (up1 _ _ _ y' hyi' h1B) (up2 _ _ y hne h2A) (up2 _ _ y' hne' h2B) ?_ ?_ ?_ ?_ ?_
    (DN.ck hQ _ _ _ _ _ _ (TE.refl _) (fun r hr => by cases hr) m1) (DN.ck hQ _ _ _ _ _ _ (TE.refl _) (fun r hr => by cases hr) m2) hn' hN' hA' htn'
   ·
    intro j hj c hcj
    rw [hset] at hj ⊢
    by_cases e : y.ix = c
    ·
     rw [if_pos e]
    ·
     rw [if_neg e]
     by_cases e2 : y.ix = j
     ·
      rw [← e2] at hcj; exact hBi c hcj
     ·
      rw [if_neg e2] at hj; exact hcl j hj c hcj
   ·
    rw [hset, if_neg eia]; exact hla
   ·
    rw [hset, if_neg eib]; exact hlb
   ·
    simp only [List.length_append, List.length_cons] at hlA ⊢; omega
   ·
    simp only [List.length_append, List.length_cons] at hlB ⊢; omega
end

theorem Xnf {xs : List IOp} {bs : List (List Nat)} {y : DOp} (hy : y ∈ mkD xs bs) : xs[y.ix]? = some y.o ∧ y.bef = bs.getD y.ix [] := by
 unfold mkD at hy
 obtain ⟨i, hi, he⟩ := List.mem_filterMap.1 hy
 obtain ⟨x, hx, rfl⟩ := Option.map_eq_some_iff.1 he
 exact ⟨hx, rfl⟩
theorem Xlf {bs : List (List Nat)} {n a b i : Nat} (hi : i < n) : (Xbc bs n a b).getD i [] = if i = b ∨ b ∈ bs.getD i [] then bs.getD i [] ++ a :: bs.getD a [] else bs.getD i [] := by
 unfold Xbc
 rw [List.getD_eq_getElem?_getD, List.getElem?_map, List.getElem?_range hi]
 simp only [Option.map_some, Option.getD_some]
 by_cases h : i = b ∨ b ∈ bs.getD i []
 ·
  rw [if_pos h]
  have : (i == b || (bs.getD i []).contains b) = true := by
   rcases h with h | h
   ·
    simp [h]
   ·
    simp only [Bool.or_eq_true, List.contains_eq_mem, decide_eq_true_eq]; exact .inr h
  rw [this]
 ·
  rw [if_neg h]
  have : (i == b || (bs.getD i []).contains b) = false := by
   rw [Bool.or_eq_false_iff]
   refine ⟨by simpa using fun e => h (.inl e), ?_⟩
   simp only [List.contains_eq_mem, decide_eq_false_iff_not]
   exact fun e => h (.inr e)
  rw [this]
theorem alt_of {ops : Array Oper} {xs : List IOp} {bs : List (List Nat)} {a b : Nat} (hl : ops.size = xs.length) (h : okDs xs.length (mkD xs (Xbc bs xs.length a b)) = true) : DAlt ops xs (fun i => bs.getD i []) a b (mkD xs (Xbc bs xs.length a b)) ∧ (mkD xs (Xbc bs xs.length a b)).length ≤ ops.size := by
 unfold okDs at h
 simp only [Bool.and_eq_true, decide_eq_true_eq] at h
 obtain ⟨⟨h1, h2⟩, h3⟩ := h
 obtain ⟨hp, hs⟩ := Xfr h2
 refine ⟨⟨fun y hy => ?_, hp, hs, fun i hi => ?_⟩, by omega⟩
 ·
  obtain ⟨e1, e2⟩ := Xnf hy
  have hlt : y.ix < xs.length := (List.getElem?_eq_some_iff.1 e1).1
  exact ⟨e1, by rw [e2, Xlf hlt]⟩
 ·
  rw [List.all_eq_true] at h3
  have := h3 i (List.mem_range.2 (by omega))
  rw [List.any_eq_true] at this
  obtain ⟨y, hy, he⟩ := this
  exact ⟨y, hy, by simpa using he⟩
theorem base_of {P : Program} {ops : Array Oper} {xs : List IOp} (hxs : JI P ops ops.toList = some xs) (hb : befOk ops.toList (befs ops.toList []) = true) : DBase P ops xs (fun i => (befs ops.toList []).getD i []) := by
 obtain ⟨hl, hat⟩ := Xfw hxs
 refine ⟨fun i x hx => ?_, by simpa using hl⟩
 obtain ⟨o, ho, h1, h2, h3⟩ := hat _ _ hx
 have ho' : ops[i]? = some o := by simpa using ho
 have hlt : i < ops.size := (Array.getElem?_eq_some_iff.1 ho').1
 unfold befOk at hb
 rw [List.all_eq_true] at hb
 have hbi := hb i (List.mem_range.2 (by simpa using hlt))
 rw [Bool.and_eq_true, List.all_eq_true, List.all_eq_true] at hbi
 have haf : Xi0 ops.toList i = (o.after.toList.filter (Region.binds .any)).map (·.on) := by unfold Xi0; rw [ho]
 refine ⟨o, ho', h1, h2, h3, fun e he hbd => ?_, fun c hc => ?_⟩
 ·
  have := hbi.1 e.on (by rw [haf]; exact List.mem_map.2 ⟨e, List.mem_filter.2 ⟨by simpa using he, hbd⟩, rfl⟩)
  simpa using this
 ·
  have := hbi.2 c hc
  simp only [Bool.and_eq_true, decide_eq_true_eq, List.any_eq_true, Bool.or_eq_true, beq_iff_eq, List.contains_eq_mem] at this
  obtain ⟨hlt2, e', he', hor⟩ := this
  rw [haf] at he'
  obtain ⟨e, hef, rfl⟩ := List.mem_map.1 he'
  obtain ⟨he, hbd⟩ := List.mem_filter.1 hef
  refine ⟨by simpa using hlt2, e, by simpa using he, hbd, ?_⟩
  rcases hor with h | h
  ·
   exact .inl h.symm
  ·
   exact .inr h
theorem AW.draw2 {P : Program} {n0 : Nat} {Q : AExit → ATm → List AObj → Prop} {ys ys' : List DOp} {ta : ATm} {H : List AObj} (hn : n0 ≤ H.length) {id : Nat} {ops : Array Oper} (hc : Xpr P ops = some (ys, ys'))
  (h : DM P n0 (Q .normal) (fun v H => Q (.pan v) ⟨ta.n, [], ta.ds⟩ H) ys ta H []) (h' : DM P n0 (Q .normal) (fun v H => Q (.pan v) ⟨ta.n, [], ta.ds⟩ H) ys' ta H []) : AWp P n0 (.region id ops true) ta H Q := fun G K ρ w ac hR hA => by
 unfold Xpr at hc
 split at hc
 ·
  rename_i xs hxs
  simp only at hc
  split at hc
  ·
   rename_i a b hab0
   split at hc
   ·
    rename_i hcc
    obtain ⟨hm, hbo, okA, okB, c1, c2, ha, hb, hab, hE⟩ := hcc
    simp only [Option.some.injEq, Prod.mk.injEq] at hc
    obtain ⟨rfl, rfl⟩ := hc
    rw [Xg1] at h h'
    have hB := base_of hxs hbo
    obtain ⟨hAa, lA⟩ := alt_of hB.len okA
    obtain ⟨hAb, lB⟩ := alt_of hB.len okB
    refine wp_region_any hm ?_
    have hQ : ∀ (ta ta' : ATm) (H : List AObj), TE ta ta' → (∃ ta0, TE ta0 ta ∧ Q .normal ta0 H) → ∃ ta0, TE ta0 ta' ∧ Q .normal ta0 H := fun ta ta' H ht ⟨ta0, h1, h2⟩ => ⟨ta0, h1.trans ht, h2⟩
    have hM := DM.dn hQ (DM.post (Q' := fun ta H => ∃ ta0, TE ta0 ta ∧ Q .normal ta0 H) (fun ta H h => ⟨ta, TE.refl _, h⟩) _ h)
    have hM' := DM.dn hQ (DM.post (Q' := fun ta H => ∃ ta0, TE ta0 ta ∧ Q .normal ta0 H) (fun ta H h => ⟨ta, TE.refl _, h⟩) _ h')
    have hlx := hB.len
    have hf : ∀ j, j < ops.size → (Array.replicate ops.size false)[j]? = some false := fun j hj => by simp [hj]
    have hni : ∀ j, (Array.replicate ops.size false)[j]? ≠ some true := fun j hj => by
     rw [Array.getElem?_replicate] at hj
     split at hj <;> cases hj
    have hlt : ∀ (a b : Nat) (y : DOp), y ∈ mkD xs (Xbc (befs ops.toList []) xs.length a b) → y.ix < ops.size := fun a b y hy => by
     have := (List.getElem?_eq_some_iff.1 (Xnf hy).1).1
     omega
    refine drawn_two hB hAa hAb (by omega) (by omega) hab (by simpa using c2) (by simpa using c1) ?_ (n := ta.n) (ds := ta.ds) ops.size _ _ (Array.replicate ops.size false) ta H K ρ _ _ (List.Sublist.refl _) (List.Sublist.refl _) (by simp) (fun y hy => .inr hy) (fun y hy => .inr hy)
     (fun y hy => hf _ (hlt _ _ y hy)) (fun y hy => hf _ (hlt _ _ y hy)) (fun i hi => (hni i hi).elim) (hf _ (by omega)) (hf _ (by omega)) lA lB hM hM' hn ?_ hA ⟨rfl, rfl⟩
    ·
     intro i x hx hxE
     have hi : i < xs.length := (List.getElem?_eq_some_iff.1 hx).1
     rw [List.all_eq_true] at hE
     have := hE i (List.mem_range.2 hi)
     have hxe : isEat xs i = true := by unfold isEat; rw [hx]; simpa using hxE
     simp only [hxe, Bool.not_true, Bool.false_or, Bool.or_eq_true, beq_iff_eq, Bool.and_eq_true, List.contains_eq_mem, decide_eq_true_eq] at this
     rcases this with (h | h) | h
     ·
      exact .inl h
     ·
      exact .inr (.inl h)
     ·
      exact .inr (.inr h.1)
    ·
     exact Next.refl (hR.drawn _)
   ·
    cases hc
  ·
   cases hc
 ·
  cases hc
end Go.Proofs.Ytcbhlpbkampfeaa.AI
