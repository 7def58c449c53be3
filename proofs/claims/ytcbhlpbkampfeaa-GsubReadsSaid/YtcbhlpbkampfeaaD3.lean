import Derived.Test.YtcbhlpbkampfeaaD2
/- Part of a proof. -/
set_option linter.unusedVariables false
set_option linter.unusedSimpArgs false
namespace Go.Proofs.Ytcbhlpbkampfeaa.AI
theorem Rel.dropF {G G' : Gh} {K : (Nat → Option Obj)} {ρ : (Nat → Option Loc)} {H : List AObj} {w : World} (hR : Rel G K ρ H w) (h1 : G'.os = G.os) (h2 : G'.tape = G.tape) (h3 : G'.output = G.output) (hf : ∀ b o, G'.frame b = some o → G.frame b = some o) : Rel G' K ρ H w := by
 refine ⟨hR.os.trans h1.symm, hR.tape.trans h2.symm, hR.output.trans h3.symm, hR.keep, fun b o h => hR.frame b o (hf b o h), fun b o h => hR.apart b o (hf b o h), hR.top, hR.objs, fun id o l a b c => ?_, hR.inj⟩
 obtain ⟨x, y, z⟩ := hR.own id o l a b c
 refine ⟨x, y, ?_⟩
 cases hh : G'.frame l.block with
 | none => rfl
 | some o' => rw [hf _ _ hh] at z; cases z
theorem Rel.newF {G G' : Gh} {K : (Nat → Option Obj)} {ρ : (Nat → Option Loc)} {H : List AObj} {w : World} (hR : Rel G K ρ H w) (x : Obj) (h1 : G'.os = G.os) (h2 : G'.tape = G.tape) (h3 : G'.output = G.output) (hf : ∀ b o, G'.frame b = some o → (b = w.heap.size ∧ o = x) ∨ G.frame b = some o) :
  Rel G' K ρ H { w with heap := w.heap.push x } := by
 have hold : ∀ b, b < w.heap.size → (w.heap.push x)[b]? = w.heap[b]? := fun b hb => by simp [Array.getElem?_push, Nat.ne_of_lt hb]
 have hKn : K w.heap.size = none := by
  cases hk : K w.heap.size with
  | none => rfl
  | some o => have := (Array.getElem?_eq_some_iff.1 (hR.keep _ _ hk)).1; omega
 refine ⟨hR.os.trans h1.symm, hR.tape.trans h2.symm, hR.output.trans h3.symm, ?_, ?_, ?_, hR.top, ?_, ?_, hR.inj⟩
 ·
  intro b o hb
  have := hR.keep b o hb
  show (w.heap.push x)[b]? = some o
  rw [hold b (Array.getElem?_eq_some_iff.1 this).1]; exact this
 ·
  intro b o hb
  show (w.heap.push x)[b]? = some o
  rcases hf b o hb with ⟨rfl, rfl⟩ | hb
  ·
   simp
  ·
   have := hR.frame b o hb
   rw [hold b (Array.getElem?_eq_some_iff.1 this).1]; exact this
 ·
  intro b o hb
  rcases hf b o hb with ⟨rfl, rfl⟩ | hb
  ·
   exact hKn
  ·
   exact hR.apart b o hb
 ·
  intro i o h hl
  obtain ⟨l, h1, h2⟩ := hR.objs i o h hl
  exact ⟨l, h1, h2.mono (KLe.refl _) (RLe.refl _) (fun hr => hold _ (hR.own i o l h h1 hr).1)⟩
 ·
  intro i o l h h1 hr
  obtain ⟨a, b, c⟩ := hR.own i o l h h1 hr
  refine ⟨by simp; omega, b, ?_⟩
  cases hh : G'.frame l.block with
  | none => rfl
  | some o' =>
   rcases hf _ _ hh with ⟨e, _⟩ | hb
   ·
    omega
   ·
    rw [hb] at c; cases c
theorem Rel.takeF {G G' : Gh} {K : (Nat → Option Obj)} {ρ : (Nat → Option Loc)} {H : List AObj} {w : World} (hR : Rel G K ρ H w) (h1 : G'.os = G.os) (h2 : G'.tape = G.tape) (h3 : G'.output = G.output) {b : Nat} {c : Array Value} {t : TypeId} {zs : List AV}
  (hf : ∀ b' o, G'.frame b' = some o → b' ≠ b ∧ G.frame b' = some o) (hb : G.frame b = some (.cells c t (0, 0))) (hV : VRs K ρ zs c) (ho : ∀ u ∈ c, one u = true) :
  Next G' H.length K ρ K (extρ ρ H.length ⟨b, 0, 0, c.size⟩) (H ++ [.box zs t]) w ∧ VR K (extρ ρ H.length ⟨b, 0, 0, c.size⟩) (.ptr H.length 0 0) (.pointer (some ⟨b, 0, none⟩)) := by
 have htop := hR.top H.length (Nat.le_refl _)
 have hle : RLe ρ (extρ ρ H.length ⟨b, 0, 0, c.size⟩) := Xcq htop
 have hne : ∀ id, id ≠ H.length → extρ ρ H.length ⟨b, 0, 0, c.size⟩ id = ρ id := fun id h => by simp [extρ, h]
 have hget : ∀ (id : Nat) (o : AObj), (H ++ [.box zs t])[id]? = some o → (id < H.length ∧ H[id]? = some o) ∨ (id = H.length ∧ o = .box zs t) := by
  intro id o h
  rw [List.getElem?_append] at h
  split at h
  ·
   exact .inl ⟨‹_›, h⟩
  ·
   right
   have hz : id - H.length = 0 := by
    have := (List.getElem?_eq_some_iff.1 h).1
    simp at this; omega
   rw [hz] at h
   simp at h
   exact ⟨by omega, h.symm⟩
 have hbh := hR.frame _ _ hb
 have hbl : b < w.heap.size := (Array.getElem?_eq_some_iff.1 hbh).1
 have hno : ∀ b', G.frame b' = none → G'.frame b' = none := fun b' h => by
  cases hh : G'.frame b' with
  | none => rfl
  | some o => rw [(hf _ _ hh).2] at h; cases h
 have hcross : ∀ (i : Nat) (oi : AObj) (li : Loc), H[i]? = some oi → ρ i = some li → real li oi = true → li.block ≠ b := fun i oi li h h' hr e => by
  have := (hR.own i oi li h h' hr).2.2
  rw [e, hb] at this; cases this
 refine ⟨⟨⟨hR.os.trans h1.symm, hR.tape.trans h2.symm, hR.output.trans h3.symm, hR.keep, fun b' o h => hR.frame b' o (hf b' o h).2, fun b' o h => hR.apart b' o (hf b' o h).2, ?_, ?_, ?_, ?_⟩, KLe.refl _, fun id hid => hne id (by omega)⟩, ?_⟩
 ·
  intro id hid
  simp at hid
  rw [hne id (by omega)]; exact hR.top id (by omega)
 ·
  intro id o h hl
  rcases hget id o h with ⟨hi, h⟩ | ⟨rfl, rfl⟩
  ·
   obtain ⟨l, e1, e2⟩ := hR.objs id o h hl
   exact ⟨l, by rw [hne id (by omega)]; exact e1, e2.mono (KLe.refl _) hle (fun _ => rfl)⟩
  ·
   refine ⟨_, QC, c, hbh, hV.1.symm, rfl, ho, fun j v hv => ?_⟩
   have hj : j < c.size := by rw [← hV.1]; exact (List.getElem?_eq_some_iff.1 hv).1
   exact ⟨c[j], by simp [hj], (hV.2 j v _ hv (Array.getElem?_eq_getElem hj)).mono (KLe.refl _) hle⟩
 ·
  intro id o l h hl hr
  rcases hget id o h with ⟨hi, h⟩ | ⟨rfl, rfl⟩
  ·
   rw [hne id (by omega)] at hl
   obtain ⟨x, y, z⟩ := hR.own id o l h hl hr
   exact ⟨x, y, hno _ z⟩
  ·
   rw [QC] at hl
   cases hl
   refine ⟨hbl, hR.apart _ _ hb, ?_⟩
   cases hh : G'.frame b with
   | none => rfl
   | some o => exact ((hf _ _ hh).1 rfl).elim
 ·
  intro i j oi oj li lj hi hj ri rj qi qj hbb
  rcases hget i oi hi with ⟨gi, hi⟩ | ⟨rfl, rfl⟩
  ·
   rw [hne i (by omega)] at ri
   rcases hget j oj hj with ⟨gj, hj⟩ | ⟨rfl, rfl⟩
   ·
    rw [hne j (by omega)] at rj
    exact hR.inj i j oi oj li lj hi hj ri rj qi qj hbb
   ·
    rw [QC] at rj
    cases rj
    exact (hcross i oi li hi ri qi hbb).elim
  ·
   rw [QC] at ri
   cases ri
   rcases hget j oj hj with ⟨gj, hj⟩ | ⟨rfl, rfl⟩
   ·
    rw [hne j (by omega)] at rj
    exact (hcross j oj lj hj rj qj hbb.symm).elim
   ·
    rfl
 ·
  have := VR.ptr (K := K) (ρ := extρ ρ H.length ⟨b, 0, 0, c.size⟩) (id := H.length) (l := ⟨b, 0, 0, c.size⟩) (e := 0) (j := 0) QC
  simpa using this

section
variable {P : Program} {n0 : Nat}
theorem Xds {y : DOp} {d : Nat} {zs : List AV} {t : TypeId} (h : Jb y = some (d, zs, t)) : y.o.dst = some d ∧ y.o.op = .new zs t ∧ y.o.guard = none := by
  unfold Jb at h
  split at h
  · rename_i d' zs' t' h1 h2 h3; cases h; exact ⟨h1, h2, h3⟩
  · cases h
def TX (d : Nat) (ta ta' : ATm) : Prop := ta.n = ta'.n ∧ ta.ds = ta'.ds ∧ ∀ t, t ≠ d → ta.get t = ta'.get t
theorem TX.put {d : Nat} {ta ta' : ATm} (h : TX d ta ta') (e : Option Nat) (v : AV) : TX d (putD ta e v) (putD ta' e v) := by
 cases e with
 | none => exact h
 | some e =>
  refine ⟨h.1, h.2.1, fun t ht => ?_⟩
  have := h.2.2 t ht
  simp only [putD, ATm.get, ATm.put, look] at this ⊢
  split
  ·
   rfl
  ·
   exact this
theorem TX.put_te {d : Nat} {ta ta' : ATm} (h : TX d ta ta') (v : AV) : TE (putD ta (some d) v) (putD ta' (some d) v) := by
 refine ⟨h.1, h.2.1, fun t => ?_⟩
 simp only [putD, ATm.get, ATm.put, look]
 split
 ·
  rfl
 ·
  rename_i e; exact h.2.2 t (fun q => e q.symm)
theorem DS.tx {d : Nat} {z : DOp} {K K' : ATm → List AObj → List Rd → Prop} {Qp : AV → List AObj → Prop} (hz : ∀ s ∈ uses z.o.op ++ JZ z.o, s ≠ d) (hK : ∀ ta ta' H rd rd', TX d ta ta' → RdE rd rd' → K ta H rd → K' ta' H rd') {ta ta' : ATm} {H : List AObj} {rd rd' : List Rd} (ht : TX d ta ta') (hr : RdE rd rd')
  (h : DS P n0 z K Qp ta H rd) : DS P n0 z K' Qp ta' H rd' := by
 have hu : ∀ t ∈ uses z.o.op, ta.get t = ta'.get t := fun t h => ht.2.2 t (hz t (List.mem_append_left _ h))
 have hg : ∀ t ∈ JZ z.o, ta.get t = ta'.get t := fun t h => ht.2.2 t (hz t (List.mem_append_right _ h))
 refine ⟨?_, ?_⟩
 ·
  have := h.1
  unfold okD at this ⊢
  rw [← ht.1]; exact this
 rcases h.2 with ⟨h1, h2⟩ | ⟨h1, h2⟩
 ·
  refine .inl ⟨h1.te hg, ?_⟩
  unfold DGo at *
  rw [← Xde (ta := ta) (ta' := ta') hu]
  cases hE : isE z.o.op with
  | true =>
   rw [hE] at h2
   simp only at h2 ⊢
   cases hev : evO ta H z.o.op with
   | ok v H' => rw [hev] at h2; exact ⟨h2.1.rde hr, hK _ _ _ _ _ (ht.put _ _) hr h2.2⟩
   | call f args =>
    rw [hev] at h2
    refine Xa.mono h2 fun e H' he => ?_
    cases e with
    | ret v => exact ⟨he.1, he.2.1.rde hr, hK _ _ _ _ _ (ht.put _ _) hr he.2.2⟩
    | pan v => exact he
   | pan v => rw [hev] at h2; exact h2
   | bad => rw [hev] at h2; exact h2
  | false =>
   rw [hE] at h2
   simp only at h2 ⊢
   cases hev : evO ta H z.o.op with
   | ok v H' => rw [hev] at h2; exact hK _ _ _ _ _ (ht.put _ _) (hr.rcd hu) h2
   | call f args => rw [hev] at h2; exact h2
   | pan v => rw [hev] at h2; exact h2
   | bad => rw [hev] at h2; exact h2
 ·
  exact .inr ⟨h1.te hg, hK _ _ _ _ _ (ht.put _ _) hr h2⟩
theorem DS.new {y : DOp} {d : Nat} {zs : List AV} {t : TypeId} (hy : Jb y = some (d, zs, t)) {K : ATm → List AObj → List Rd → Prop} {Qp : AV → List AObj → Prop} {ta : ATm} {H : List AObj} {rd : List Rd} (h : DS P n0 y K Qp ta H rd) :
  okD ta (some d) ∧ Chk y.bef (H ++ [.box zs t]) rd ∧ K (putD ta (some d) (.ptr H.length 0 0)) (H ++ [.box zs t]) rd := by
 obtain ⟨e1, e2, e3⟩ := Xds hy
 obtain ⟨h0, h1⟩ := h
 rw [e1] at h0
 refine ⟨h0, ?_⟩
 rcases h1 with ⟨_, g⟩ | ⟨u, _⟩
 ·
  unfold DGo at g
  rw [e2, e1] at g
  simpa only [isE, evO] using g
 ·
  unfold Uw at u; rw [e3] at u; exact u.elim
theorem DN.forget {Q : ATm → List AObj → Prop} {Qp : AV → List AObj → Prop} (hQ : ∀ ta ta' H, TE ta ta' → Q ta H → Q ta' H) {y : DOp} {d : Nat} {zs : List AV} {t : TypeId} (hy : Jb y = some (d, zs, t)) {post : List DOp} : ∀ {pre : List DOp} {ta ta' : ATm} {H : List AObj} {rd rd' : List Rd},
  (∀ z ∈ pre, ∀ s ∈ uses z.o.op ++ JZ z.o, s ≠ d) → TX d ta ta' → RdE rd rd' → DN P n0 Q Qp (pre ++ y :: post) ta H rd → DN P n0 Q Qp (pre ++ y :: post) ta' H rd'
 | [], ta, ta', H, rd, rd', _, ht, hr, h => by
  obtain ⟨e1, e2, e3⟩ := Xds hy
  obtain ⟨h0, h1, h2⟩ := DS.new hy h
  refine ⟨by rw [e1]; exact (ht.1 ▸ h0 : d < ta'.n), .inl ⟨by unfold Wt; rw [e3]; trivial, ?_⟩⟩
  unfold DGo
  rw [e2, e1]
  simp only [isE, evO]
  exact ⟨h1.rde hr, DN.ck hQ _ _ _ _ _ _ (ht.put_te _) hr h2⟩
 | z :: pre, ta, ta', H, rd, rd', hp, ht, hr, h => DS.tx (K := DN P n0 Q Qp (pre ++ y :: post)) (K' := DN P n0 Q Qp (pre ++ y :: post)) (hp z List.mem_cons_self) (fun _ _ _ _ _ ht hr h => DN.forget hQ hy (fun z hz => hp z (List.mem_cons_of_mem _ hz)) ht hr h) ht hr h

structure PairN (z y : DOp) : Prop where
 ne : z.ix ≠ y.ix
 nb : y.ix ∉ z.bef
 pr : z.ix ∉ y.bef → Pair z y ∨ (isE z.o.op = true ∧ (Jb y).isSome = true)
 u1 : ∀ d zs t, Jb y = some (d, zs, t) → (∀ s ∈ uses z.o.op ++ JZ z.o, s ≠ d) ∧ z.o.dst ≠ some d
 u2 : ∀ d zs t, Jb z = some (d, zs, t) → y.o.dst ≠ some d
structure DrawnN (P : Program) (ops : Array Oper) (ys0 : List DOp) : Prop where
 op : ∀ y ∈ ys0, ∃ o, ops[y.ix]? = some o ∧ Xce P o.op = some y.o.op ∧ o.dst = y.o.dst ∧ ZM ops o.guard = some y.o.guard ∧ (∀ e ∈ o.after, Region.binds .any e = true → e.on ∈ y.bef) ∧
  ∀ b ∈ y.bef, b < ops.size ∧ (∃ e ∈ o.after, Region.binds .any e = true ∧ (b = e.on ∨ ∃ z ∈ ys0, z.ix = e.on ∧ b ∈ z.bef))
 pairs : ys0.Pairwise PairN
 self : ∀ y ∈ ys0, y.ix ∉ y.bef
 all : ∀ i, i < ops.size → ∃ y ∈ ys0, y.ix = i
 news : ∀ y ∈ ys0, ∀ d zs t, Jb y = some (d, zs, t) → ∃ o, ops[y.ix]? = some o ∧ o.op = .alloc t ∧ zeroT P t = some zs
structure PE where
 ix : Nat
 d : Nat
 b : Nat
 zs : List AV
 t : TypeId
 c : Array Value
def cntB : List Bool → Nat
 | [] => 0
 | b :: l => (if b = true then 0 else 1) + cntB l
theorem Xps : ∀ {l : List Bool} {i : Nat}, l[i]? = some false → cntB (l.set i true) + 1 = cntB l
 | [], i, h => by simp at h
 | b :: l, 0, h => by simp at h; subst h; simp [cntB]; omega
 | b :: l, i + 1, h => by have := Xps (l := l) (i := i) (by simpa using h); simp only [List.set_cons_succ, cntB]; omega
theorem Xmn : ∀ {l : List Bool}, cntB l = 0 → ∀ i : Nat, l[i]? ≠ some false
 | [], _, i, h => by simp at h
 | b :: l, h0, 0, h => by simp at h; subst h; simp [cntB] at h0
 | b :: l, h0, i + 1, h => by
  simp only [cntB] at h0
  exact Xmn (l := l) (by omega) i (by simpa using h)
theorem Xpe {α : Type} {p : α → Prop} : ∀ {l : List α}, (∃ z ∈ l, p z) → ∃ l1 z l2, l = l1 ++ z :: l2 ∧ p z ∧ ∀ z0 ∈ l1, ¬ p z0
 | [], h => by obtain ⟨z, hz, _⟩ := h; cases hz
 | x :: l, h => by
  by_cases hx : p x
  ·
   exact ⟨[], x, l, rfl, hx, fun z hz => by cases hz⟩
  ·
   obtain ⟨z, hz, hp⟩ := h
   rcases List.mem_cons.1 hz with rfl | hz
   ·
    exact (hx hp).elim
   ·
    obtain ⟨l1, z', l2, rfl, h1, h2⟩ := Xpe (l := l) ⟨z, hz, hp⟩
    exact ⟨x :: l1, z', l2, rfl, h1, fun z0 h0 => by
     rcases List.mem_cons.1 h0 with rfl | h0
     ·
      exact hx
     ·
      exact h2 z0 h0⟩
theorem pw_uniq {R : DOp → DOp → Prop} (hR : ∀ y z, R y z → y.ix ≠ z.ix) : ∀ {l : List DOp}, l.Pairwise R → ∀ y ∈ l, ∀ z ∈ l, y.ix = z.ix → y = z
 | [], _, y, hy, _, _, _ => by cases hy
 | x :: l, h, y, hy, z, hz, e => by
  have h1 : ∀ {q : DOp}, q ∈ l → R x q := fun hq => List.rel_of_pairwise_cons h hq
  have h2 := (List.pairwise_cons.1 h).2
  rcases List.mem_cons.1 hy with hy1 | hy1
  ·
   rcases List.mem_cons.1 hz with hz1 | hz1
   ·
    rw [hy1, hz1]
   ·
    subst hy1; exact (hR _ _ (h1 hz1) e).elim
  ·
   rcases List.mem_cons.1 hz with hz1 | hz1
   ·
    subst hz1; exact (hR _ _ (h1 hy1) e.symm).elim
   ·
    exact pw_uniq hR h2 y hy1 z hz1 e
theorem pw_two {R S : DOp → DOp → Prop} (hR : ∀ y z, R y z → S y z ∧ S z y) : ∀ {l : List DOp}, l.Pairwise R → ∀ y ∈ l, ∀ z ∈ l, y.ix ≠ z.ix → S y z
 | [], _, y, hy, _, _, _ => by cases hy
 | x :: l, h, y, hy, z, hz, e => by
  have h1 : ∀ {q : DOp}, q ∈ l → R x q := fun hq => List.rel_of_pairwise_cons h hq
  have h2 := (List.pairwise_cons.1 h).2
  rcases List.mem_cons.1 hy with hy1 | hy1
  ·
   rcases List.mem_cons.1 hz with hz1 | hz1
   ·
    exact (e (by rw [hy1, hz1])).elim
   ·
    subst hy1; exact (hR _ _ (h1 hz1)).1
  ·
   rcases List.mem_cons.1 hz with hz1 | hz1
   ·
    subst hz1; exact (hR _ _ (h1 hy1)).2
   ·
    exact pw_two hR h2 y hy1 z hz1 e
structure PEok (Gm : Gh) (listed : Array Bool) (ys : List DOp) (a : Act) (p : PE) : Prop where
 li : listed[p.ix]? = some true
 at_ : ∃ y ∈ ys, y.ix = p.ix ∧ Jb y = some (p.d, p.zs, p.t)
 fr : Gm.frame p.b = some (.cells p.c p.t (0, 0))
 val : ∀ (K : (Nat → Option Obj)) (ρ : (Nat → Option Loc)), VRs K ρ p.zs p.c
 ones : ∀ u ∈ p.c, one u = true
 tmp : a.tmps.getD p.d undef = .pointer (some ⟨p.b, 0, none⟩)

theorem drawn_new {ops : Array Oper} {ys0 : List DOp} (hD : DrawnN P ops ys0) {QQ : AExit → ATm → List AObj → Prop} {n : Nat} {ds : List (Fn × List AV × List AV)} {G : Gh} {K0 : (Nat → Option Obj)} {ρ0 : (Nat → Option Loc)} (hdn : ∀ y ∈ ys0, ∀ d zs t, Jb y = some (d, zs, t) → d < n) :
  ∀ (N fuel : Nat) (ys : List DOp) (listed : Array Bool) (pend : List PE) (Gm : Gh) (ta : ATm) (H : List AObj) (K : (Nat → Option Obj)) (ρ : (Nat → Option Loc)) (w : World) (a : Act), fuel + ys.length < N → ys.Sublist ys0 → listed.size = ops.size → (∀ y ∈ ys0, listed[y.ix]? = some true ∨ y ∈ ys) →
   (∀ y ∈ ys, listed[y.ix]? = some false ∨ ∃ p ∈ pend, p.ix = y.ix) → (∀ y ∈ ys0, listed[y.ix]? = some true → ∀ b ∈ y.bef, listed[b]? = some true) → (∀ p ∈ pend, PEok Gm listed ys a p) → (pend.Pairwise fun p q => p.b ≠ q.b ∧ p.ix ≠ q.ix) →
   (Gm.os = G.os ∧ Gm.tape = G.tape ∧ Gm.output = G.output) → (∀ b o, G.frame b = some o → Gm.frame b = some o ∧ ∀ p ∈ pend, p.b ≠ b) → cntB listed.toList ≤ fuel →
   DN P n0 (fun ta H => ∃ ta0, TE ta0 ta ∧ QQ .normal ta0 H) (fun v H => QQ (.pan v) ⟨n, [], ds⟩ H) ys ta H [] → n0 ≤ H.length → Next Gm n0 K0 ρ0 K ρ H w → AR K ρ ta a → ta.n = n ∧ ta.ds = ds →
   wpAny P .any ops (fun e a' w' => ∃ K' ρ' ae ta' H', QQ ae ta' H' ∧ ExR K' ρ' ae e ∧ AR K' ρ' ta' a' ∧ Next G n0 K0 ρ0 K' ρ' H' w') fuel listed a w := by
 have hQ : ∀ ta ta' H, TE ta ta' → (∃ ta0, TE ta0 ta ∧ QQ .normal ta0 H) → ∃ ta0, TE ta0 ta' ∧ QQ .normal ta0 H := fun ta ta' H ht ⟨ta0, h1, h2⟩ => ⟨ta0, h1.trans ht, h2⟩
 have uniq := pw_uniq (fun y z (h : PairN y z) => h.ne) hD.pairs
 intro N
 induction N with
 | zero => intro fuel ys _ _ _ _ _ _ _ _ _ h; omega
 | succ N ih =>
  intro fuel ys listed pend Gm ta H K ρ w a hN0 hs hsz h1 h2 h3 hp hpw hg1 hg2 hcn hM hn hN hA htn
  have hdrop : ∀ {K' : (Nat → Option Obj)} {ρ' : (Nat → Option Loc)} {H' : List AObj} {w' : World}, Next Gm n0 K0 ρ0 K' ρ' H' w' → Next G n0 K0 ρ0 K' ρ' H' w' := fun h => ⟨h.rel.dropF hg1.1.symm hg1.2.1.symm hg1.2.2.symm (fun b o hb => (hg2 b o hb).1), h.keep, h.low⟩
  have hpair := hD.pairs.sublist hs
  by_cases hmat : ∃ pre z post, ys = pre ++ z :: post ∧ (∃ p ∈ pend, p.ix = z.ix) ∧ ∀ z0 ∈ pre, listed[z0.ix]? = some false ∧ isE z0.o.op = false
  ·
   obtain ⟨pre, z, post, rfl, ⟨p, hpm, hpz⟩, hpre⟩ := hmat
   have hz0 : z ∈ ys0 := hs.subset (by simp)
   have ok := hp p hpm
   have hzn : Jb z = some (p.d, p.zs, p.t) := by
    obtain ⟨y, hy, hyi, hyn⟩ := ok.at_
    have : y = z := uniq y (hs.subset hy) z hz0 (hyi.trans hpz)
    subst this; exact hyn
   have hzl : listed[z.ix]? = some true := by rw [← hpz]; exact ok.li
   have hf : ∀ z0 ∈ pre, Pair z0 z ∧ z0.ix ∉ z.bef := by
    intro z0 hz
    have hnb : z0.ix ∉ z.bef := fun hb => by
     have := h3 z hz0 hzl _ hb
     rw [(hpre z0 hz).1] at this; cases this
    have pn := (List.pairwise_append.1 hpair).2.2 z0 hz z List.mem_cons_self
    rcases pn.pr hnb with h | h
    ·
     exact ⟨h, hnb⟩
    ·
     rw [(hpre z0 hz).2] at h; cases h.1
   obtain ⟨q0, _, q1⟩ := DS.new hzn (DN.first hQ hf hM)
   have hframe := hN.rel.frame _ _ ok.fr
   obtain ⟨hN2, hv⟩ := hN.rel.takeF (G' := { Gm with frame := fun b => if b = p.b then none else Gm.frame b }) rfl rfl rfl (b := p.b) (c := p.c) (t := p.t) (zs := p.zs) (fun b' o h => by
    simp only at h
    split at h
    ·
     cases h
    ·
     exact ⟨‹_›, h⟩) ok.fr (ok.val _ _) ok.ones
   have hN1 : Next { Gm with frame := fun b => if b = p.b then none else Gm.frame b } n0 K0 ρ0 K ρ H w := ⟨hN.rel.dropF rfl rfl rfl (fun b o h => by
    simp only at h
    split at h
    ·
     cases h
    ·
     exact h), hN.keep, hN.low⟩
   obtain ⟨l1, l2, rfl⟩ := List.append_of_mem hpm
   have hpq : ∀ q ∈ l1 ++ l2, q.b ≠ p.b ∧ q.ix ≠ p.ix := by
    intro q hq
    have := List.pairwise_append.1 hpw
    rcases List.mem_append.1 hq with hq | hq
    ·
     exact this.2.2 q hq p List.mem_cons_self
    ·
     have := List.rel_of_pairwise_cons this.2.1 hq
     exact ⟨fun e => this.1 e.symm, fun e => this.2 e.symm⟩
   have hmem : ∀ q ∈ l1 ++ l2, q ∈ l1 ++ p :: l2 := by
    intro q hq
    rcases List.mem_append.1 hq with hq | hq
    ·
     exact List.mem_append_left _ hq
    ·
     exact List.mem_append_right _ (List.mem_cons_of_mem _ hq)
   have hsub : (pre ++ post).Sublist (pre ++ z :: post) := List.Sublist.append (List.Sublist.refl _) (List.sublist_cons_self _ _)
   have hne : ∀ y ∈ pre ++ post, y.ix ≠ z.ix := by
    intro y hy
    rcases List.mem_append.1 hy with hy | hy
    ·
     exact ((List.pairwise_append.1 hpair).2.2 y hy z List.mem_cons_self).ne
    ·
     exact fun e => (List.rel_of_pairwise_cons (List.pairwise_append.1 hpair).2.1 hy).ne e.symm
   refine ih fuel (pre ++ post) listed (l1 ++ l2) { Gm with frame := fun b => if b = p.b then none else Gm.frame b } (putD ta (some p.d) (.ptr H.length 0 0)) (H ++ [.box p.zs p.t]) K _ w a ?_ (hsub.trans hs) hsz ?_ ?_ h3 ?_ ?_ hg1 ?_ hcn (DN.ck hQ _ _ _ _ _ _ (TE.refl _) (fun r hr => by cases hr) q1) (by simp; omega) (hN1.trans hN2 hn) ?_ htn
   ·
    simp only [List.length_append, List.length_cons] at hN0 ⊢; omega
   ·
    intro y hy
    rcases h1 y hy with h | h
    ·
     exact .inl h
    ·
     rcases List.mem_append.1 h with h | h
     ·
      exact .inr (List.mem_append_left _ h)
     ·
      rcases List.mem_cons.1 h with rfl | h
      ·
       exact .inl hzl
      ·
       exact .inr (List.mem_append_right _ h)
   ·
    intro y hy
    rcases h2 y (hsub.subset hy) with h | ⟨q, hq, hqi⟩
    ·
     exact .inl h
    ·
     refine .inr ⟨q, ?_, hqi⟩
     rcases List.mem_append.1 hq with hq | hq
     ·
      exact List.mem_append_left _ hq
     ·
      rcases List.mem_cons.1 hq with rfl | hq
      ·
       exact (hne y hy (hqi.symm.trans hpz)).elim
      ·
       exact List.mem_append_right _ hq
   ·
    intro q hq
    have okq := hp q (hmem q hq)
    refine ⟨okq.li, ?_, ?_, okq.val, okq.ones, okq.tmp⟩
    ·
     obtain ⟨y, hy, hyi, hyn⟩ := okq.at_
     refine ⟨y, ?_, hyi, hyn⟩
     rcases List.mem_append.1 hy with hy | hy
     ·
      exact List.mem_append_left _ hy
     ·
      rcases List.mem_cons.1 hy with rfl | hy
      ·
       exact ((hpq q hq).2 (hyi.symm.trans hpz.symm)).elim
      ·
       exact List.mem_append_right _ hy
    ·
     show (if q.b = p.b then none else Gm.frame q.b) = _
     rw [if_neg (hpq q hq).1]; exact okq.fr
   ·
    exact hpw.sublist (List.Sublist.append (List.Sublist.refl _) (List.sublist_cons_self _ _))
   ·
    intro b o hb
    obtain ⟨e1, e2⟩ := hg2 b o hb
    refine ⟨?_, fun q hq => e2 q (hmem q hq)⟩
    show (if b = p.b then none else Gm.frame b) = _
    rw [if_neg (fun e => e2 p hpm e.symm)]; exact e1
   ·
    exact (hA.mono hN2.keep (hN2.rle hN1.rel)).note (by rw [ok.tmp]; exact hv)
  ·
   have hno : ∀ pre z post, ys = pre ++ z :: post → (∃ p ∈ pend, p.ix = z.ix) → (∀ z0 ∈ pre, listed[z0.ix]? = some false ∧ isE z0.o.op = false) → False := fun pre z post e h h' => hmat ⟨pre, z, post, e, h, h'⟩
   have hfin : ys = [] → ∃ K' ρ' ae ta' H', QQ ae ta' H' ∧ ExR K' ρ' ae .normal ∧ AR K' ρ' ta' a ∧ Next G n0 K0 ρ0 K' ρ' H' w := by
    rintro rfl
    obtain ⟨ta0, ht, hq⟩ := hM
    exact ⟨K, ρ, .normal, ta0, H, hq, trivial, hA.te ht.symm, hdrop hN⟩
   cases fuel with
   | zero =>
    have hz := Xmn (l := listed.toList) (by omega)
    have hz' : ∀ i : Nat, listed[i]? ≠ some false := fun i h => hz i (by rw [Array.getElem?_toList]; exact h)
    refine ⟨?_, hfin ?_⟩
    ·
     cases hr : Region.ready .any ops listed with
     | nil => rfl
     | cons j _ =>
      exfalso
      have hj : j ∈ Region.ready .any ops listed := by rw [hr]; exact List.mem_cons_self
      exact hz' j (Xdc.1 (mem_ready.1 hj).1)
    ·
     cases ys with
     | nil => rfl
     | cons y ys =>
      exfalso
      rcases h2 y List.mem_cons_self with h | h
      ·
       exact hz' _ h
      ·
       exact hno [] y ys rfl h (fun z hz => by cases hz)
   | succ fuel =>
    refine ⟨fun hr => hfin ?_, fun i hi => ?_⟩
    ·
     cases ys with
     | nil => rfl
     | cons y ys =>
      exfalso
      have hyl : listed[y.ix]? = some false := by
       rcases h2 y List.mem_cons_self with h | h
       ·
        exact h
       ·
        exact (hno [] y ys rfl h (fun z hz => by cases hz)).elim
      have hy0 : y ∈ ys0 := hs.subset List.mem_cons_self
      obtain ⟨o, ho, _, _, _, haf, hbf⟩ := hD.op y hy0
      have : y.ix ∈ Region.ready .any ops listed := by
       rw [mem_ready]
       refine ⟨Xdc.2 hyl, o, ho, fun e he hb => ?_⟩
       rw [Xfp]
       have hin := haf e he hb
       obtain ⟨z, hz, hze⟩ := hD.all e.on (hbf _ hin).1
       rcases h1 z hz with h | h
       ·
        rw [← hze]; exact h
       ·
        exfalso
        rcases List.mem_cons.1 h with rfl | h
        ·
         exact hD.self _ hy0 (by rw [hze]; exact hin)
        ·
         exact (List.rel_of_pairwise_cons hpair h).nb (by rw [hze]; exact hin)
      rw [hr] at this
      cases this
    ·
     obtain ⟨hi0, o, ho, hrd⟩ := mem_ready.1 hi
     obtain ⟨y, hy0, rfl⟩ := hD.all i (Array.getElem?_eq_some_iff.1 ho).1
     rw [Xdc] at hi0
     have hy : y ∈ ys := by
      rcases h1 y hy0 with h | h
      ·
       rw [hi0] at h; cases h
      ·
       exact h
     obtain ⟨o', ho', hc, hdst, hgd, haf, hbf⟩ := hD.op y hy0
     rw [ho] at ho'
     cases ho'
     obtain ⟨pre, post, rfl⟩ := List.append_of_mem hy
     have hbl : ∀ b ∈ y.bef, listed[b]? = some true := by
      intro b hb
      obtain ⟨_, e, he, hbd, h⟩ := hbf b hb
      have := Xfp.1 (hrd e he hbd)
      rcases h with rfl | ⟨z, hz, hze, hzb⟩
      ·
       exact this
      ·
       exact h3 z hz (by rw [hze]; exact this) b hzb
     have hlt : y.ix < listed.size := (Array.getElem?_eq_some_iff.1 hi0).1
     have hset : ∀ j, (listed.setIfInBounds y.ix true)[j]? = if y.ix = j then some true else listed[j]? := by
      intro j
      by_cases e : y.ix = j
      ·
       subst e; rw [if_pos rfl]; simp [hlt]
      ·
       rw [if_neg e, Array.getElem?_setIfInBounds_ne e]
     have hcn' : cntB (listed.setIfInBounds y.ix true).toList ≤ fuel := by
      have := Xps (l := listed.toList) (i := y.ix) (by rw [Array.getElem?_toList]; exact hi0)
      rw [Array.toList_setIfInBounds]; omega
     have hset3 : ∀ z ∈ ys0, (listed.setIfInBounds y.ix true)[z.ix]? = some true → ∀ b ∈ z.bef, (listed.setIfInBounds y.ix true)[b]? = some true := by
      intro z hz hzl b hb
      rw [hset]
      by_cases e : y.ix = b
      ·
       rw [if_pos e]
      ·
       rw [if_neg e]
       by_cases e2 : y.ix = z.ix
       ·
        have := uniq y hy0 z hz e2
        subst this
        exact hbl b hb
       ·
        rw [hset, if_neg e2] at hzl
        exact h3 z hz hzl b hb
     have hpy : ∀ p ∈ pend, p.ix ≠ y.ix := fun p hpm e => by
      have := (hp p hpm).li
      rw [e, hi0] at this; cases this
     have hpd : ∀ p ∈ pend, y.o.dst ≠ some p.d := by
      intro p hpm
      obtain ⟨z, hz, hzi, hzn⟩ := (hp p hpm).at_
      exact pw_two (S := fun z y => ∀ d zs t, Jb z = some (d, zs, t) → y.o.dst ≠ some d) (fun u v (h : PairN u v) => ⟨h.u2, fun d zs t hn => (h.u1 d zs t hn).2⟩) hD.pairs z (hs.subset hz) y hy0 (fun e => hpy p hpm (hzi.symm.trans e)) _ _ _ hzn
     cases hnw : Jb y with
     | some q =>
      obtain ⟨d, zs, t⟩ := q
      obtain ⟨o2, ho2, hal, hzt⟩ := hD.news y hy0 d zs t hnw
      rw [ho] at ho2
      cases ho2
      obtain ⟨e1, e2, e3⟩ := Xds hnw
      obtain ⟨i0, z, hi1, hi2, hi3⟩ := JM hzt
      have hval : ∀ (K : (Nat → Option Obj)) (ρ : (Nat → Option Loc)), VRs K ρ zs z.cells := fun K ρ => by simpa using (Xbs (K := K) (ρ := ρ) _ _ hi3).1
      have hone : ∀ u ∈ z.cells, one u = true := by simpa using (Xbs (K := K) (ρ := ρ) _ _ hi3).2.1
      have hrun : (execOp a.eval o).run P w = .ok (.value (.pointer (some ⟨w.heap.size, 0, none⟩))) { w with heap := w.heap.push (.cells z.cells t (0, 0)) } := by
       simp [execOp, hal, Instr.alloc, Xci hi1 hi2, newVar, newRow]
      have hdlt : d < ta.n := by rw [htn.1]; exact hdn y hy0 d zs t hnw
      have hwant : Region.wanted o (yielded ops a.tmps) = true := by rw [e3] at hgd; exact Xd9 hgd
      unfold wpOp
      rw [ho]
      simp only
      rw [if_pos hwant]
      left
      unfold Oper.wp
      rw [hrun]
      show wpAny P .any ops _ fuel (listed.setIfInBounds y.ix true) (a.put o.dst (.pointer (some ⟨w.heap.size, 0, none⟩))) { w with heap := w.heap.push (.cells z.cells t (0, 0)) }
      rw [hdst, e1]
      have hfresh : ∀ b o, Gm.frame b = some o → b ≠ w.heap.size := fun b o hb e => by
       have := (Array.getElem?_eq_some_iff.1 (hN.rel.frame b o hb)).1
       omega
      refine ih fuel (pre ++ y :: post) _ (⟨y.ix, d, w.heap.size, zs, t, z.cells⟩ :: pend) { Gm with frame := fun b => if b = w.heap.size then some (.cells z.cells t (0, 0)) else Gm.frame b } (ta.put d .any) H K ρ _ (a.put (some d) (.pointer (some ⟨w.heap.size, 0, none⟩))) (by omega) hs (by simpa using hsz) ?_ ?_ hset3 ?_ ?_ hg1 ?_ hcn' (DN.forget (ta := ta) (ta' := ta.put d .any) hQ hnw (fun z hz => (((List.pairwise_append.1 hpair).2.2 z hz y List.mem_cons_self).u1 d zs t hnw).1) ⟨rfl, rfl, fun t' ht' => ?_⟩ (RdE.refl _) hM) hn
       ⟨hN.rel.newF (.cells z.cells t (0, 0)) rfl rfl rfl (fun b o hb => ?_), hN.keep, hN.low⟩ (hA.put hdlt .any) htn
      ·
       intro z' hz'
       rw [hset]
       by_cases e : y.ix = z'.ix
       ·
        rw [if_pos e]; exact .inl rfl
       ·
        rw [if_neg e]; exact h1 z' hz'
      ·
       intro z' hz'
       by_cases e : y.ix = z'.ix
       ·
        exact .inr ⟨_, List.mem_cons_self, e⟩
       ·
        rcases h2 z' hz' with h | ⟨p, hpm, hpi⟩
        ·
         left; rw [hset, if_neg e]; exact h
        ·
         exact .inr ⟨p, List.mem_cons_of_mem _ hpm, hpi⟩
      ·
       intro p hpm
       rcases List.mem_cons.1 hpm with rfl | hpm
       ·
        refine ⟨by rw [hset, if_pos rfl], ⟨y, by simp, rfl, hnw⟩, by simp, hval, hone, ?_⟩
        have hsz2 := hA.size
        simp only [Act.put, Array.getD_eq_getD_getElem?]
        rw [Array.getElem?_setIfInBounds_self_of_lt (by omega)]; rfl
       ·
        have ok := hp p hpm
        refine ⟨by rw [hset, if_neg (fun e => hpy p hpm e.symm)]; exact ok.li, ok.at_, ?_, ok.val, ok.ones, ?_⟩
        ·
         show (if p.b = w.heap.size then _ else Gm.frame p.b) = _
         rw [if_neg (hfresh _ _ ok.fr)]; exact ok.fr
        ·
         rw [Xes (e := some d) rfl p.d (by rw [← e1]; exact hpd p hpm)]; exact ok.tmp
      ·
       refine List.pairwise_cons.2 ⟨fun p hpm => ⟨fun e => hfresh _ _ (hp p hpm).fr e.symm, fun e => hpy p hpm e.symm⟩, hpw⟩
      ·
       intro b o hb
       obtain ⟨f1, f2⟩ := hg2 b o hb
       refine ⟨?_, fun p hpm => ?_⟩
       ·
        show (if b = w.heap.size then _ else Gm.frame b) = _
        rw [if_neg (hfresh _ _ f1)]; exact f1
       ·
        rcases List.mem_cons.1 hpm with rfl | hpm
        ·
         exact fun e => hfresh _ _ f1 e.symm
        ·
         exact f2 p hpm
      ·
       simp only [ATm.get, ATm.put, look]
       rw [if_neg (fun e => ht' e.symm)]
      ·
       simp only at hb
       split at hb
       ·
        exact .inl ⟨‹_›, (Option.some.inj hb).symm⟩
       ·
        exact .inr hb
     | none =>
      have hnp : ∀ z ∈ pre, ¬ ∃ p ∈ pend, p.ix = z.ix := by
       intro z hz hpz
       obtain ⟨l1, z1, l2, hl, hz1, hl1⟩ := Xpe (p := fun z : DOp => ∃ p ∈ pend, p.ix = z.ix) ⟨z, hz, hpz⟩
       subst hl
       refine hno l1 z1 (l2 ++ y :: post) (by simp) hz1 fun z0 h0 => ?_
       have hu : listed[z0.ix]? = some false := by
        rcases h2 z0 (by simp [h0]) with h | h
        ·
         exact h
        ·
         exact (hl1 z0 h0 h).elim
       refine ⟨hu, ?_⟩
       have hnb : z0.ix ∉ y.bef := fun hb => by rw [hbl _ hb] at hu; cases hu
       rcases ((List.pairwise_append.1 hpair).2.2 z0 (by simp [h0]) y List.mem_cons_self).pr hnb with h | h
       ·
        exact (h.2.2 hnb).1
       ·
        rw [hnw] at h; cases h.2
      have hpre : ∀ z ∈ pre, Pair z y ∧ z.ix ∉ y.bef := by
       intro z hz
       have hu : listed[z.ix]? = some false := by
        rcases h2 z (by simp [hz]) with h | h
        ·
         exact h
        ·
         exact (hnp z hz h).elim
       have hnb : z.ix ∉ y.bef := fun hb => by rw [hbl _ hb] at hu; cases hu
       rcases ((List.pairwise_append.1 hpair).2.2 z hz y List.mem_cons_self).pr hnb with h | h
       ·
        exact ⟨h, hnb⟩
       ·
        rw [hnw] at h; cases h.2
      have hsub : (pre ++ post).Sublist (pre ++ y :: post) := List.Sublist.append (List.Sublist.refl _) (List.sublist_cons_self _ _)
      have hne : ∀ z ∈ pre ++ post, z.ix ≠ y.ix := by
       intro z hz
       rcases List.mem_append.1 hz with hz | hz
       ·
        exact (hpre z hz).1.1
       ·
        exact fun e => (List.rel_of_pairwise_cons (List.pairwise_append.1 hpair).2.1 hz).ne e.symm
      refine Xim ho hc hdst hgd (DN.first hQ hpre hM) hn hN hA hdrop htn fun ta' H' rd' K' ρ' w' a' hM' hn' hN' hA' htn' hoth => ?_
      refine ih fuel (pre ++ post) _ pend Gm ta' H' K' ρ' w' a' ?_ (hsub.trans hs) (by simpa using hsz) ?_ ?_ hset3 ?_ hpw hg1 hg2 hcn' (DN.ck hQ _ _ _ _ _ _ (TE.refl _) (fun r hr => by cases hr) hM') hn' hN' hA' htn'
      ·
       simp only [List.length_append, List.length_cons] at hN0 ⊢; omega
      ·
       intro z hz
       rw [hset]
       by_cases e : y.ix = z.ix
       ·
        rw [if_pos e]; exact .inl rfl
       ·
        rw [if_neg e]
        rcases h1 z hz with h | h
        ·
         exact .inl h
        ·
         right
         rcases List.mem_append.1 h with h | h
         ·
          exact List.mem_append_left _ h
         ·
          rcases List.mem_cons.1 h with rfl | h
          ·
           exact (e rfl).elim
          ·
           exact List.mem_append_right _ h
      ·
       intro z hz
       rcases h2 z (hsub.subset hz) with h | h
       ·
        left; rw [hset, if_neg (fun e => hne z hz e.symm)]; exact h
       ·
        exact .inr h
      ·
       intro p hpm
       have ok := hp p hpm
       refine ⟨by rw [hset, if_neg (fun e => hpy p hpm e.symm)]; exact ok.li, ?_, ok.fr, ok.val, ok.ones, by rw [hoth _ (hpd p hpm)]; exact ok.tmp⟩
       obtain ⟨z, hz, hzi, hzn⟩ := ok.at_
       refine ⟨z, ?_, hzi, hzn⟩
       rcases List.mem_append.1 hz with h | h
       ·
        exact List.mem_append_left _ h
       ·
        rcases List.mem_cons.1 h with rfl | h
        ·
         exact (hpy p hpm hzi.symm).elim
        ·
         exact List.mem_append_right _ h
end
theorem Xnb {z y : DOp} (h : Xnc z y = true) : PairN z y := by
 unfold Xnc at h
 simp only [Bool.and_eq_true, Bool.or_eq_true, bne_iff_ne, ne_eq, Bool.not_eq_true', List.contains_eq_mem, decide_eq_false_iff_not, decide_eq_true_eq] at h
 obtain ⟨⟨⟨⟨h1, h2⟩, h3⟩, h4⟩, h5⟩ := h
 refine ⟨h1, h2, fun hn => ?_, fun d zs t hy => ?_, fun d zs t hz => ?_⟩
 ·
  rcases h3 with (h | h) | h
  ·
   exact (hn h).elim
  ·
   exact .inl (Xjp h)
  ·
   exact .inr h
 ·
  rw [hy] at h4
  simp only [Bool.and_eq_true, List.all_eq_true, bne_iff_ne, ne_eq] at h4
  exact h4
 ·
  rw [hz] at h5
  simpa only [bne_iff_ne, ne_eq] using h5
theorem Xin : ∀ {ys : List DOp}, Xk2 ys = true → ys.Pairwise PairN ∧ ∀ y ∈ ys, y.ix ∉ y.bef
 | [], _ => ⟨.nil, fun y h => by cases h⟩
 | z :: ys, h => by
  simp only [Xk2, Bool.and_eq_true, List.all_eq_true, Bool.not_eq_true', List.contains_eq_mem, decide_eq_false_iff_not] at h
  obtain ⟨h1, h2⟩ := Xin h.2
  refine ⟨.cons (fun y hy => Xnb (h.1.2 y hy)) h1, fun y hy => ?_⟩
  rcases List.mem_cons.1 hy with rfl | hy
  ·
   exact h.1.1
  ·
   exact h2 y hy
theorem Xoj {n : Nat} : ∀ {ys : List DOp}, okNs n ys → ∀ y ∈ ys, ∀ d zs t, Jb y = some (d, zs, t) → d < n
 | [], _, y, hy, _, _, _, _ => by cases hy
 | x :: ys, h, y, hy, d, zs, t, hn => by
  rcases List.mem_cons.1 hy with rfl | hy
  ·
   have := h.1; rw [hn] at this; exact this
  ·
   exact Xoj h.2 y hy d zs t hn
theorem Xly {y : DOp} : Jb (strip y) = Jb y := by
 unfold strip
 split <;> rfl
theorem AW.drawN {P : Program} {n0 : Nat} {Q : AExit → ATm → List AObj → Prop} {ys : List DOp} {ta : ATm} {H : List AObj} (hn : n0 ≤ H.length) {id : Nat} {ops : Array Oper} (hc : Xpq P ops = some ys) (hok : okNs ta.n ys)
  (h : DM P n0 (Q .normal) (fun v H => Q (.pan v) ⟨ta.n, [], ta.ds⟩ H) ys ta H []) : AWp P n0 (.region id ops true) ta H Q := fun G K ρ w ac hR hA => by
 unfold Xpq at hc
 split at hc
 ·
  rename_i xs hxs
  simp only at hc
  split at hc
  ·
   rename_i hcc
   obtain ⟨hm, hlen, hbo, hdr, hnw, hall⟩ := hcc
   simp only [Option.some.injEq] at hc
   subst hc
   rw [Xg1] at h
   have hB := base_of hxs hbo
   obtain ⟨hpw, hself⟩ := Xin hdr
   have hmem : ∀ y ∈ mkD xs (befs ops.toList []), xs[y.ix]? = some y.o ∧ y.bef = (befs ops.toList []).getD y.ix [] := fun y hy => Xnf hy
   have hallx : ∀ i, i < ops.size → ∃ y ∈ mkD xs (befs ops.toList []), y.ix = i := by
    intro i hi
    rw [List.all_eq_true] at hall
    have := hall i (List.mem_range.2 (by have := hB.len; omega))
    rw [List.any_eq_true] at this
    obtain ⟨y, hy, he⟩ := this
    exact ⟨y, hy, by simpa using he⟩
   have hD : DrawnN P ops (mkD xs (befs ops.toList [])) := by
    refine ⟨fun y hy => ?_, hpw, hself, hallx, fun y hy d zs t hyn => ?_⟩
    ·
     obtain ⟨e1, e2⟩ := hmem y hy
     obtain ⟨o, g1, g2, g3, g4, g5, g6⟩ := hB.at_ _ _ e1
     refine ⟨o, g1, g2, g3, g4, fun e he hb => by rw [e2]; exact g5 e he hb, fun b hb => ?_⟩
     rw [e2] at hb
     obtain ⟨k1, e, k2, k3, k4⟩ := g6 b hb
     refine ⟨k1, e, k2, k3, ?_⟩
     rcases k4 with k4 | k4
     ·
      exact .inl k4
     ·
      obtain ⟨z, hz, hze⟩ := hallx e.on (g6 _ (g5 e k2 k3)).1
      exact .inr ⟨z, hz, hze, by rw [(hmem z hz).2, hze]; exact k4⟩
    ·
     obtain ⟨e1, e2⟩ := hmem y hy
     obtain ⟨o, g1, g2, _⟩ := hB.at_ _ _ e1
     rw [List.all_eq_true] at hnw
     have hk := hnw y hy
     unfold newOk at hk
     rw [hyn] at hk
     simp only [g1] at hk
     obtain ⟨_, f2, _⟩ := Xds hyn
     split at hk
     ·
      rename_i e he
      have : e = t := by simpa using hk
      subst this
      refine ⟨o, g1, he, ?_⟩
      rw [he, f2] at g2
      cases hz : zeroT P e with
      | some z => simp only [Xce, Xfx, hz, Option.map_some, Option.some.injEq, AOp.new.injEq] at g2; rw [g2.1]
      | none => simp [Xce, Xfx, hz, Xk5, Xgz] at g2
     ·
      cases hk
   refine wp_region_any hm ?_
   have hQ : ∀ (ta ta' : ATm) (H : List AObj), TE ta ta' → (∃ ta0, TE ta0 ta ∧ Q .normal ta0 H) → ∃ ta0, TE ta0 ta' ∧ Q .normal ta0 H := fun ta ta' H ht ⟨ta0, h1, h2⟩ => ⟨ta0, h1.trans ht, h2⟩
   have hM := DM.dn hQ (DM.post (Q' := fun ta H => ∃ ta0, TE ta0 ta ∧ Q .normal ta0 H) (fun ta H h => ⟨ta, TE.refl _, h⟩) _ h)
   have hlx := hB.len
   have hlt : ∀ y ∈ mkD xs (befs ops.toList []), y.ix < ops.size := fun y hy => by
    have := (List.getElem?_eq_some_iff.1 (hmem y hy).1).1
    omega
   have hdn : ∀ y ∈ mkD xs (befs ops.toList []), ∀ d zs t, Jb y = some (d, zs, t) → d < ta.n := fun y hy d zs t hyn =>
    Xoj hok (strip y) (List.mem_map.2 ⟨y, hy, rfl⟩) d zs t (by rw [Xly]; exact hyn)
   have hcn : ∀ n : Nat, cntB (List.replicate n false) ≤ n := by
    intro n
    induction n with
    | zero => simp [cntB]
    | succ n ih => simp only [List.replicate_succ, cntB]; simp; omega
   refine drawn_new hD (n := ta.n) (ds := ta.ds) (G := G) hdn (ops.size + (mkD xs (befs ops.toList [])).length + 1) ops.size _ (Array.replicate ops.size false) [] G ta H K ρ _ _ (by omega) (List.Sublist.refl _) (by simp) (fun y hy => .inr hy)
    (fun y hy => .inl (by simp [hlt y hy])) (fun y hy hyl => ?_) (fun p hp => by cases hp) .nil ⟨rfl, rfl, rfl⟩ (fun b o hb => ⟨hb, fun p hp => by cases hp⟩) (by rw [Array.toList_replicate]; exact hcn _) hM hn (Next.refl (hR.drawn _)) hA ⟨rfl, rfl⟩
   rw [Array.getElem?_replicate] at hyl
   split at hyl <;> cases hyl
  ·
   cases hc
 ·
  cases hc
end Go.Proofs.Ytcbhlpbkampfeaa.AI
