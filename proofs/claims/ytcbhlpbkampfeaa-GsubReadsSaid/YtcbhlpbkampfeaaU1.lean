import Derived.Test.YtcbhlpbkampfeaaA21
/- Part of a proof. -/
set_option linter.unusedVariables false
set_option maxRecDepth 100000
namespace Go.Proofs.Ytcbhlpbkampfeaa.AI
structure Bx (q : Prop) : Prop where
 h : q
theorem pr {α β : Type} (y : α × β) : ∃ a b, y = (a, b) := ⟨y.1, y.2, rfl⟩
theorem sm {α β : Type} (y : α ⊕ β) : (∃ a, y = .inl a) ∨ ∃ b, y = .inr b := by cases y with | inl a => exact .inl ⟨a, rfl⟩ | inr b => exact .inr ⟨b, rfl⟩
theorem atF {α : Type} {l : List α} {i : Int} {x : α} (h : atI l i = some x) : (∀ (e : α → List AV) (k : Nat), i.toNat = k → (List.map e l)[k]? = some (e x)) ∧ (0 ≤ i) = True ∧ (i < (l.length : Int)) = True := ⟨fun e k hk => by subst hk; exact ZN e h, eq_true (Yz h).1, eq_true (Je h)⟩
inductive St
 | thaw (x sz t : Nat)
 | thawB (id j sz t : Nat)
 | frz (id : Nat)
 | move (id : Nat)
structure Sc where
 st : List St
 ts : List Nat
 os : List Nat
def rS : List St → List (Nat × AV) → List AObj → (List (Nat × AV) → List AObj → Prop) → Prop
 | [], l, H, k => k l H
 | .thaw x sz t :: r, l, H, k => look l x = .vec true [] ∧ 0 < sz ∧ rS r ((x, .row H.length 0 0) :: l) (H ++ [.mem sz [] t]) k
 | .thawB id j sz t :: r, l, H, k => match H[id]? with
  | some (.box cs t') => cs[j]? = some (.vec true []) ∧ 0 < sz ∧ rS r l (H.set id (.box (cs.set j (.row H.length 0 0)) t') ++ [.mem sz [] t]) k
  | _ => False
 | .frz id :: r, l, H, k => match H[id]? with
  | some (.mem sz es t) => (∀ el ∈ es, pures el = true) ∧ rS r (l.map fun p => (p.1, p.2.sub (frzS id es))) ((H.set id .dead).map (AObj.sub (frzS id es))) k
  | _ => False
 | .move id :: r, l, H, k => match H[id]? with
  | some o => live o = true ∧ rS r (l.map fun p => (p.1, p.2.sub (movS id H.length))) ((H.set id .dead ++ [o]).map (AObj.sub (movS id H.length))) k
  | none => False
theorem Xcl {n0 n : Nat} : ∀ {r : List St} {l : List (Nat × AV)} {H : List AObj} {k : List (Nat × AV) → List AObj → Prop}, rS r l H k → n0 ≤ H.length → ∃ l1 H1, Ref n0 ⟨n, l, []⟩ H ⟨n, l1, []⟩ H1 ∧ n0 ≤ H1.length ∧ k l1 H1
 | [], l, H, k, h, hn => ⟨l, H, Ref.refl _ _ _, hn, h⟩
 | .thaw x sz t :: r, l, H, k, h, hn => by
  obtain ⟨h1, h2, h3⟩ := h
  obtain ⟨l1, H1, a, b, c⟩ := Xcl (n0 := n0) h3 (by simp; omega)
  exact ⟨l1, H1, Ref.trans (Ref.thaw hn x h1 h2 t) a, b, c⟩
 | .thawB id j sz t :: r, l, H, k, h, hn => by
  rw [rS] at h
  split at h
  ·
   rename_i cs t' ho
   obtain ⟨h1, h2, h3⟩ := h
   obtain ⟨l1, H1, a, b, c⟩ := Xcl (n0 := n0) h3 (by simp; omega)
   exact ⟨l1, H1, Ref.trans (Ref.thawB hn j ho h1 h2 t) a, b, c⟩
  ·
   exact h.elim
 | .frz id :: r, l, H, k, h, hn => by
  rw [rS] at h
  split at h
  ·
   rename_i sz es t ho
   obtain ⟨h1, h2⟩ := h
   obtain ⟨l1, H1, a, b, c⟩ := Xcl (n0 := n0) h2 (by simpa using hn)
   exact ⟨l1, H1, Ref.trans (Ref.frz hn ho h1) a, b, c⟩
  ·
   exact h.elim
 | .move id :: r, l, H, k, h, hn => by
  rw [rS] at h
  split at h
  ·
   rename_i o ho
   obtain ⟨h1, h2⟩ := h
   obtain ⟨l1, H1, a, b, c⟩ := Xcl (n0 := n0) h2 (by simp; omega)
   exact ⟨l1, H1, Ref.trans (Ref.move hn ho h1) a, b, c⟩
  ·
   exact h.elim
def lowB (n0 : Nat) (σ : List Nat) : Bool := (List.range n0).all fun k => σ[k]? == some k
theorem Xng {n0 : Nat} {σ : List Nat} (h : lowB n0 σ = true) : ∀ k, k < n0 → σ[k]? = some k := by
 intro k hk
 have := List.all_eq_true.1 h k (List.mem_range.2 hk)
 simpa using this
mutual
def wkV : AV → AV
 | .vec _ es => .vec false (wkL es)
 | .agg cs => .agg (wkVs cs)
 | .tup cs => .tup (wkVs cs)
 | v => v
def wkVs : List AV → List AV
 | [] => []
 | v :: vs => wkV v :: wkVs vs
def wkL : List (List AV) → List (List AV)
 | [] => []
 | x :: xs => wkVs x :: wkL xs
end
mutual
theorem wkV_ok : ∀ v, Wk v (wkV v)
 | .vec c es => by rw [wkV]; exact Wk.vecs (wkL_ok es)
 | .agg cs => by rw [wkV]; exact Wk.agg (Xg3 cs)
 | .tup cs => by rw [wkV]; exact Wk.tup (Xg3 cs)
 | .bool _ | .int _ _ | .str _ | .nilp | .ptr _ _ _ | .vptr _ _ | .row _ _ _ | .map _ | .nilmap | .fn _ _ _ | .nilfn | .iface _ _ | .nilif | .any | .anyb => by rw [wkV] <;> first | exact Wk.refl _ | (intros; contradiction)
theorem Xg3 : ∀ vs, Wks vs (wkVs vs)
 | [] => by rw [wkVs]; exact Wks.nil
 | v :: vs => by rw [wkVs]; exact Wks.cons (wkV_ok v) (Xg3 vs)
theorem wkL_ok : ∀ vs, Wkss vs (wkL vs)
 | [] => by rw [wkL]; exact Wkss.nil
 | v :: vs => by rw [wkL]; exact Wkss.cons (Xg3 v) (wkL_ok vs)
end
theorem Qy {α : Type} (l : List α) (e : α → List AV) (h : ∀ x, wkVs (e x) = e x) : wkL (List.map e l) = List.map e l := by
 induction l with
 | nil => rfl
 | cons x l ih => rw [List.map_cons, wkL, h, ih]
theorem wkL_app (a b : List (List AV)) : wkL (a ++ b) = wkL a ++ wkL b := by
 induction a with
 | nil => rfl
 | cons x l ih => rw [List.cons_append, wkL, wkL, ih]; rfl
def leW (v v' : AV) : Prop := v = v' ∨ wkV v = v'
theorem Xop {v v' : AV} (h : leW v v') : Wk v v' := by
  rcases h with rfl | rfl
  · exact Wk.refl _
  · exact wkV_ok v
def leWs : List AV → List AV → Prop
 | [], [] => True
 | v :: l, v' :: l' => leW v v' ∧ leWs l l'
 | _, _ => False
theorem leWs_ok : ∀ {l l' : List AV}, leWs l l' → Wks l l'
 | [], [], _ => .nil
 | v :: l, v' :: l', h => .cons (Xop h.1) (leWs_ok h.2)
 | [], _ :: _, h => h.elim
 | _ :: _, [], h => h.elim
def leO : AObj → AObj → Prop
 | .box cs t, .box cs' t' => t = t' ∧ leWs cs cs'
 | .mem s es t, .mem s' es' t' => s = s' ∧ t = t' ∧ (es = es' ∨ wkL es = es')
 | .dead, .dead => True
 | .map a b, .map a' b' => a = a' ∧ b = b'
 | _, _ => False
theorem leO_ok {o o' : AObj} (h : leO o o') : WkO o o' := by
  cases o <;> cases o' <;> first | exact h.elim | skip
  · exact ⟨h.1, leWs_ok h.2⟩
  · obtain ⟨rfl, rfl, h⟩ := h
    rcases h with rfl | rfl
    · exact WkO.refl _
    · exact ⟨rfl, rfl, wkL_ok _⟩
  · obtain ⟨rfl, rfl⟩ := h; exact WkO.refl _
  · trivial
def leH : List AObj → List AObj → Prop
 | [], [] => True
 | v :: l, v' :: l' => leO v v' ∧ leH l l'
 | _, _ => False
theorem Xor : ∀ {l l' : List AObj}, leH l l' → WkH l l'
 | [], [], _ => .nil
 | v :: l, v' :: l', h => .cons (leO_ok h.1) (Xor h.2)
 | [], _ :: _, h => h.elim
 | _ :: _, [], h => h.elim
def leT : List (Nat × AV) → List (Nat × AV) → Prop
 | [], [] => True
 | v :: l, v' :: l' => v.1 = v'.1 ∧ leW v.2 v'.2 ∧ leT l l'
 | _, _ => False
theorem leT_ok : ∀ {l l' : List (Nat × AV)}, leT l l' → WkT l l'
 | [], [], _ => .nil
 | (t, v) :: l, (t', v') :: l', h => by
  obtain ⟨h1, h2, h3⟩ := h
  simp only at h1
  subst h1
  exact .cons (Xop h2) (leT_ok h3)
 | [], _ :: _, h => h.elim
 | _ :: _, [], h => h.elim
theorem Xoq : ∀ l, leT l l
 | [] => trivial
 | v :: l => ⟨rfl, .inl rfl, Xoq l⟩
theorem Xlx : ∀ l, leWs l l
 | [] => trivial
 | v :: l => ⟨.inl rfl, Xlx l⟩
theorem Xkt : ∀ l, leH l l
 | [] => trivial
 | v :: l => ⟨by cases v <;> simp [leO, Xlx], Xkt l⟩
def fS (ts σ : List Nat) (l' : List (Nat × AV)) (H' : List AObj) (l : List (Nat × AV)) (H : List AObj) : Prop := leT ((pickl l ts).map (fun p => (p.1, p.2.sub (selS σ)))) l' ∧ leH (selH σ H) H'
theorem fS_eq {ts σ : List Nat} {l' : List (Nat × AV)} {H' : List AObj} {l : List (Nat × AV)} {H : List AObj} (h : (pickl l ts).map (fun p => (p.1, p.2.sub (selS σ))) = l') (h' : selH σ H = H') : fS ts σ l' H' l H := by subst h; subst h'; exact ⟨Xoq _, Xkt _⟩
theorem fS_ok {n0 n : Nat} {ts σ : List Nat} {l l' : List (Nat × AV)} {H H' : List AObj} (hσ : σ.Nodup) (hl : lowB n0 σ = true) (h : fS ts σ l' H' l H) : Ref n0 ⟨n, l, []⟩ H ⟨n, l', []⟩ H' := Ref.trans (Ref.std ts σ hσ (Xng hl) rfl rfl) (Ref.weak (leT_ok h.1) (Xor h.2))
theorem Ref.run {n0 n : Nat} {s : Sc} {l l' : List (Nat × AV)} {H H' : List AObj} (hn : n0 ≤ H.length) (hσ : s.os.Nodup) (hl : lowB n0 s.os = true) (h : rS s.st l H (fS s.ts s.os l' H')) : Ref n0 ⟨n, l, []⟩ H ⟨n, l', []⟩ H' := by
 obtain ⟨l1, H1, a, b, c⟩ := Xcl (n := n) h hn
 exact a.trans (fS_ok hσ hl c)
def fV (σ : List Nat) (v' : AV) (H' : List AObj) (l : List (Nat × AV)) (H : List AObj) : Prop := leW ((look l 0).sub (selS σ)) v' ∧ leH (selH σ H) H'
theorem fV_eq {σ : List Nat} {v' : AV} {H' : List AObj} {l : List (Nat × AV)} {H : List AObj} (h : (look l 0).sub (selS σ) = v') (h' : selH σ H = H') : fV σ v' H' l H := by subst h; subst h'; exact ⟨.inl rfl, Xkt _⟩
theorem refV_of {n0 : Nat} {l l1 : List (Nat × AV)} {H H1 : List AObj} (h : Ref n0 ⟨1, l, []⟩ H ⟨1, l1, []⟩ H1) (hl : ∀ t, t ≠ 0 → look l t = .any) : RefV n0 [look l 0] H [look l1 0] H1 := fun G K ρ w us hR hV => by
 have hs := hV.1
 simp only [List.length_cons, List.length_nil] at hs
 obtain ⟨u, hu⟩ : ∃ u, us[0]? = some u := ⟨us[0], Array.getElem?_eq_getElem (by omega)⟩
 obtain ⟨K1, ρ1, hA, hN⟩ := h G K ρ w { tmps := us, defers := [] } hR ⟨by simpa using hs.symm, fun t => by
  simp only [ATm.get]
  by_cases g : t = 0
  ·
   subst g
   rw [Array.getD_eq_getD_getElem?, hu]
   exact hV.2 0 _ _ rfl hu
  ·
   rw [hl t g]; exact .any, trivial⟩
 refine ⟨K1, ρ1, ⟨by simpa using hs, fun i v' u' h1 h2 => ?_⟩, hN⟩
 cases i with
 | zero =>
  have := hA.tmps 0
  simp only [ATm.get] at this
  rw [Array.getD_eq_getD_getElem?, h2] at this
  simp at h1
  subst h1; exact this
 | succ i => simp at h1
inductive Us : List Sc → List (List Nat) → Prop
 | mk (L : List Sc) (C : List (List Nat)) : Us L C
theorem endF {L : List Sc} {C : List (List Nat)} (u : Us L C) (i : Nat) {n0 n : Nat} {rs : List RV} {Q : AEnd → List AObj → Prop} {l : List (Nat × AV)} {H : List AObj} {v' : AV} {H' : List AObj} {vs : List AV} {s : Sc} (hq : Q (.ret v') H') (hs : L[i]? = some s := by rfl)
  (hv : resVs ⟨n, l, []⟩ H rs = some vs := by first | rfl | (simp only [*, go_sem, seval, -List.reduceReplicate] <;> fail)) (hn : n0 ≤ H.length := by first | exact Nat.zero_le _ | (simp <;> fail)) (nd : s.os.Nodup := by decide) (lo : lowB n0 s.os = true := by rfl)
  (h : rS s.st [(0, asRes vs)] H (fV s.os v' H') := by first | exact fV_eq rfl rfl | (simp only [rS, fV, *, go_sem, seval, -List.reduceReplicate] <;> fail)) : bodyA n0 rs Q .ret ⟨n, l, []⟩ H := by
 refine ⟨rfl, vs, hv, v', H', ?_, hq⟩
 obtain ⟨l1, H1, a, b, c1, c2⟩ := Xcl (n := 1) h hn
 have := refV_of a (fun t ht => by simp [look, ht.symm])
 exact this.trans ((RefV.std s.os nd (Xng lo) rfl rfl).trans (RefV.weak (.cons (Xop c1) .nil) (Xor c2)))
theorem endN {L : List Sc} {C : List (List Nat)} (u : Us L C) (i : Nat) {n0 n : Nat} {rs : List RV} {Q : AEnd → List AObj → Prop} {l : List (Nat × AV)} {H : List AObj} {v' : AV} {H' : List AObj} {vs : List AV} {s : Sc} (hq : Q (.ret v') H') (hs : L[i]? = some s := by rfl)
  (hv : resVs ⟨n, l, []⟩ H rs = some vs := by first | rfl | (simp only [*, go_sem, seval, -List.reduceReplicate] <;> fail)) (hn : n0 ≤ H.length := by first | exact Nat.zero_le _ | (simp <;> fail)) (nd : s.os.Nodup := by decide) (lo : lowB n0 s.os = true := by rfl)
  (h : rS s.st [(0, asRes vs)] H (fV s.os v' H') := by first | exact fV_eq rfl rfl | (simp only [rS, fV, *, go_sem, seval, -List.reduceReplicate] <;> fail)) : bodyA n0 rs Q .normal ⟨n, l, []⟩ H := by
 refine ⟨rfl, vs, hv, v', H', ?_, hq⟩
 obtain ⟨l1, H1, a, b, c1, c2⟩ := Xcl (n := 1) h hn
 have := refV_of a (fun t ht => by simp [look, ht.symm])
 exact this.trans ((RefV.std s.os nd (Xng lo) rfl rfl).trans (RefV.weak (.cons (Xop c1) .nil) (Xor c2)))
theorem lpS {L : List Sc} {C : List (List Nat)} (u : Us L C) (i : Nat) {P : Program} {n0 n : Nat} {c : ACode} {l l' : List (Nat × AV)} {H H' : List AObj} {R : AExit → ATm → List AObj → Prop} {s : Sc} (a : ALp P n0 c ⟨n, l', []⟩ H' R) (hs : L[i]? = some s := by rfl)
  (hn : n0 ≤ H.length := by first | exact Nat.zero_le _ | (simp <;> fail)) (hn' : n0 ≤ H'.length := by first | exact Nat.zero_le _ | (simp <;> fail)) (nd : s.os.Nodup := by decide) (lo : lowB n0 s.os = true := by rfl)
  (h : rS s.st l H (fS s.ts s.os l' H') := by first | exact fS_eq rfl rfl | (simp only [rS, fS, *, go_sem, seval, -List.reduceReplicate] <;> exact Or.inr (by rw [List.map_append]; rfl))) : ALp P n0 c ⟨n, l, []⟩ H R :=
 ALp.ref (Ref.run hn nd lo h) hn' a
theorem backS {L : List Sc} {C : List (List Nat)} (u : Us L C) (i : Nat) {P : Program} {n0 n : Nat} {c : ACode} {l l' : List (Nat × AV)} {H H' : List AObj} {R : AExit → ATm → List AObj → Prop} {s : Sc} (a : ALp P n0 c ⟨n, l', []⟩ H' R) (hs : L[i]? = some s := by rfl)
  (hn : n0 ≤ H.length := by first | exact Nat.zero_le _ | (simp <;> fail)) (hn' : n0 ≤ H'.length := by first | exact Nat.zero_le _ | (simp <;> fail)) (nd : s.os.Nodup := by decide) (lo : lowB n0 s.os = true := by rfl)
  (h : rS s.st l H (fS s.ts s.os l' H') := by first | exact fS_eq rfl rfl | (simp only [rS, fS, *, go_sem, seval, -List.reduceReplicate] <;> exact Or.inr (by rw [List.map_append]; rfl))) : XJ P n0 c R .normal ⟨n, l, []⟩ H :=
 ⟨_, _, Ref.run hn nd lo h, hn', a⟩
theorem exS {L : List Sc} {C : List (List Nat)} (u : Us L C) (i : Nat) {P : Program} {n0 n j : Nat} {c : ACode} {l l' : List (Nat × AV)} {H H' : List AObj} {R : AExit → ATm → List AObj → Prop} {s : Sc} (a : R (.exit j) ⟨n, l', []⟩ H') (hs : L[i]? = some s := by rfl)
  (hn : n0 ≤ H.length := by first | exact Nat.zero_le _ | (simp <;> fail)) (nd : s.os.Nodup := by decide) (lo : lowB n0 s.os = true := by rfl)
  (h : rS s.st l H (fS s.ts s.os l' H') := by first | exact fS_eq rfl rfl | (simp only [rS, fS, *, go_sem, seval, -List.reduceReplicate] <;> exact Or.inr (by rw [List.map_append]; rfl))) : XJ P n0 c R (.exit j) ⟨n, l, []⟩ H :=
 ⟨_, _, Ref.run hn nd lo h, a⟩
theorem rtS {L : List Sc} {C : List (List Nat)} (u : Us L C) (i : Nat) {P : Program} {n0 n : Nat} {c : ACode} {l l' : List (Nat × AV)} {H H' : List AObj} {R : AExit → ATm → List AObj → Prop} {s : Sc} (a : R .ret ⟨n, l', []⟩ H') (hs : L[i]? = some s := by rfl)
  (hn : n0 ≤ H.length := by first | exact Nat.zero_le _ | (simp <;> fail)) (nd : s.os.Nodup := by decide) (lo : lowB n0 s.os = true := by rfl)
  (h : rS s.st l H (fS s.ts s.os l' H') := by first | exact fS_eq rfl rfl | (simp only [rS, fS, *, go_sem, seval, -List.reduceReplicate] <;> exact Or.inr (by rw [List.map_append]; rfl))) : XJ P n0 c R .ret ⟨n, l, []⟩ H :=
 ⟨_, _, Ref.run hn nd lo h, a⟩
theorem Xa.wkF {P : Program} {f : FuncId} {args : List AV} {H : List AObj} {Q : AEnd → List AObj → Prop} (h : Xa P f (wkVs args) H Q) : Xa P f args H Q := Xa.wk (Xg3 args) h
theorem goU {L : List Sc} {C : List (List Nat)} (u : Us L C) (i : Nat) {P : Program} {f : FuncId} {args : List AV} {Hs Hs' : List AObj} {v : AV} (h : Xa P f args Hs (fun e H => H = Hs' ∧ e = .ret v)) {σ : List Nat} {H : List AObj} {args' : List AV} {n0 : Nat} {Q : AExit → ATm → List AObj → Prop} {d : Option Nat} {os : List IOp} {k : List AItem} {ta : ATm}
  (hr : M P n0 Q (.ops os :: k) (putD ta d (v.sub (renS σ H.length))) (merge σ H (Hs'.map (AObj.sub (renS σ H.length))))) (hc : C[i]? = some σ := by rfl) (hn : n0 ≤ H.length := by first | exact Nat.zero_le _ | (simp <;> fail)) (hσ : σ.Nodup := by decide)
  (ho : Fits (renS σ H.length) H σ Hs := by (repeat (first | exact trivial | refine ⟨by first | rfl | (simp only [*, go_sem, seval, -List.reduceReplicate] <;> fail), ?_⟩)) <;> fail)
  (ha : subs (renS σ H.length) args = args' := by first | rfl | (simp only [*, go_sem, seval, -List.reduceReplicate] <;> fail)) : Xa P f args' H (CallK P n0 Q d os k ta) := Xa.use h σ hσ ho ha rfl rfl (Xk8 (Xlu hn) hr)
theorem useU {L : List Sc} {C : List (List Nat)} (u : Us L C) (i : Nat) {P : Program} {f : FuncId} {args : List AV} {Hs Hs' : List AObj} {v : AV} (h : Xa P f args Hs (fun e H => H = Hs' ∧ e = .ret v)) {σ : List Nat} {H : List AObj}
  {args' : List AV} {Q : AEnd → List AObj → Prop} (hr : Q (.ret (v.sub (renS σ H.length))) (merge σ H (Hs'.map (AObj.sub (renS σ H.length))))) (hc : C[i]? = some σ := by rfl) (hσ : σ.Nodup := by decide)
  (ho : Fits (renS σ H.length) H σ Hs := by (repeat (first | exact trivial | refine ⟨by first | rfl | (simp only [*, go_sem, seval, -List.reduceReplicate] <;> fail), ?_⟩)) <;> fail)
  (ha : subs (renS σ H.length) args = args' := by first | rfl | (simp only [*, go_sem, seval, -List.reduceReplicate] <;> fail)) : Xa P f args' H Q := Xa.use h σ hσ ho ha rfl rfl hr
theorem panU {L : List Sc} {C : List (List Nat)} (u : Us L C) (i : Nat) {P : Program} {f : FuncId} {args : List AV} {Hs Hs' : List AObj} {v : AV} (h : Xa P f args Hs (fun e H => H = Hs' ∧ e = .pan v)) {σ : List Nat} {H : List AObj}
  {args' : List AV} {Q : AEnd → List AObj → Prop} (hr : Q (.pan (v.sub (renS σ H.length))) (merge σ H (Hs'.map (AObj.sub (renS σ H.length))))) (hc : C[i]? = some σ := by rfl) (hσ : σ.Nodup := by decide)
  (ho : Fits (renS σ H.length) H σ Hs := by (repeat (first | exact trivial | refine ⟨by first | rfl | (simp only [*, go_sem, seval, -List.reduceReplicate] <;> fail), ?_⟩)) <;> fail)
  (ha : subs (renS σ H.length) args = args' := by first | rfl | (simp only [*, go_sem, seval, -List.reduceReplicate] <;> fail)) : Xa P f args' H Q := Xa.usePan h σ hσ ho ha rfl rfl hr
theorem iteN {α β : Type} {l : List β} {_ : Decidable (l = [])} {a b r : Option α} (h : (if l = [] then a else b) = r) : (l = [] ∧ a = r) ∨ (((l.length = 0) = False ∧ (0 < l.length) = True) ∧ b = r) := by
  by_cases hc : l = []
  · rw [if_pos hc] at h; exact .inl ⟨hc, h⟩
  · rw [if_neg hc] at h; exact .inr ⟨⟨eq_false (fun q => hc (List.eq_nil_of_length_eq_zero q)), eq_true (Nat.pos_of_ne_zero (fun q => hc (List.eq_nil_of_length_eq_zero q)))⟩, h⟩
theorem musF {c : Prop} {_ : Decidable c} (h : decide c = true) : c = True := eq_true (of_decide_eq_true h)
theorem tkl {α : Type} {n : Nat} {l : List α} (h : l.length ≤ n) : List.take n l = l := List.take_of_length_le h
theorem alm {α : Type} {l : List α} {e : α → List AV} {n : Nat} (h : ∀ x, (e x).length = n) : (List.map e l).all (fun el => el.length == n) = true := JV l e n h
theorem pum {α : Type} {l : List α} {e : α → List AV} (h : ∀ x, pures (e x) = true) : (∀ el ∈ List.map e l, pures el = true) = True := eq_true (Ye l e h)
attribute [go_sem] leT leH leO leWs leW wkV wkVs wkL wkL_app tkl alm pum Zr slI_map slI_map0
abbrev ka {p q : Prop} (a : p) (b : q) : p ∧ q := ⟨a, b⟩
abbrev kz : True := trivial
theorem wf {q p : Prop} (k : q) (L : List Sc) (C : List (List Nat)) (hh : Bx q → Us L C → p := by
 intro k u
 (repeat' (first
  | (with_reducible exact no0 h)
  | ((with_reducible have h' := iteN h); clear h; rcases h' with ⟨e, h⟩ | ⟨_, h⟩ <;> (try subst e) <;> (try simp only [*, go_sem, seval, -List.reduceReplicate]))
  | ((with_reducible have h' := iteB h); clear h; rcases h' with ⟨_, h⟩ | ⟨_, h⟩ <;> try simp only [*, go_sem, seval, -List.reduceReplicate])
  | ((with_reducible have h' := iteS h); clear h; rcases h' with ⟨_, h⟩ | ⟨_, h⟩ <;> try simp only [*, go_sem, seval, -List.reduceReplicate])
  | ((with_reducible have h' := bindS h); clear h; obtain ⟨y, hy, h⟩ := h'; (repeat' (first | obtain ⟨_, y, rfl⟩ := pr y | rcases sm y with ⟨y, rfl⟩ | ⟨y, rfl⟩)) <;> (try dsimp only at h) <;> first
   | ((with_reducible have q := atF hy); clear hy; (try clear t); simp only [*, go_sem, seval, -List.reduceReplicate])
   | ((first | (with_reducible have t := k.h.1 hy) | (with_reducible have t := k.h.2.1 hy) | (with_reducible have t := k.h.2.2.1 hy) | (with_reducible have t := k.h.2.2.2.1 hy) | (with_reducible have t := k.h.2.2.2.2.1 hy) | (with_reducible have t := k.h.2.2.2.2.2.1 hy) | (with_reducible have t := k.h.2.2.2.2.2.2.1 hy) | (with_reducible have t := k.h.2.2.2.2.2.2.2.1 hy) | (with_reducible have t := k.h.2.2.2.2.2.2.2.2.1 hy) | (with_reducible have t := k.h.2.2.2.2.2.2.2.2.2.1 hy)); (try (first | (with_reducible have q := musF (k.h.1 hy)) | (with_reducible have q := musF (k.h.2.1 hy)) | (with_reducible have q := musF (k.h.2.2.1 hy)) | (with_reducible have q := musF (k.h.2.2.2.1 hy)) | (with_reducible have q := musF (k.h.2.2.2.2.1 hy)) | (with_reducible have q := musF (k.h.2.2.2.2.2.1 hy)) | (with_reducible have q := musF (k.h.2.2.2.2.2.2.1 hy)) | (with_reducible have q := musF (k.h.2.2.2.2.2.2.2.1 hy)) | (with_reducible have q := musF (k.h.2.2.2.2.2.2.2.2.1 hy)) | (with_reducible have q := musF (k.h.2.2.2.2.2.2.2.2.2.1 hy)))); clear hy; first | (refine Xa.go0 t ?_; (try clear t); simp only [*, go_sem, seval, -List.reduceReplicate]) | (refine goU u 0 t ?_; (try clear t); simp only [*, go_sem, seval, -List.reduceReplicate]) | (refine goU u 1 t ?_; (try clear t); simp only [*, go_sem, seval, -List.reduceReplicate]) | (refine goU u 2 t ?_; (try clear t); simp only [*, go_sem, seval, -List.reduceReplicate]) | (refine goU u 3 t ?_; (try clear t); simp only [*, go_sem, seval, -List.reduceReplicate]) | (refine Xa.use0 t rfl rfl ?_; (try clear t); simp only [*, go_sem, seval, -List.reduceReplicate]) | (refine useU u 0 t ?_; (try clear t); simp only [*, go_sem, seval, -List.reduceReplicate]) | (refine useU u 1 t ?_; (try clear t); simp only [*, go_sem, seval, -List.reduceReplicate]) | (refine useU u 2 t ?_; (try clear t); simp only [*, go_sem, seval, -List.reduceReplicate]) | (refine useU u 3 t ?_; (try clear t); simp only [*, go_sem, seval, -List.reduceReplicate]) | (refine panU u 0 t ?_; try simp only [Xk, Xg, Xq]) | (refine panU u 1 t ?_; try simp only [Xk, Xg, Xq]) | (refine panU u 2 t ?_; try simp only [Xk, Xg, Xq]) | (refine panU u 3 t ?_; try simp only [Xk, Xg, Xq]) | (refine Xa.wkF (Xa.go0 t ?_); (try clear t); simp only [*, go_sem, seval, -List.reduceReplicate]) | (refine Xa.wkF (goU u 0 t ?_); (try clear t); simp only [*, go_sem, seval, -List.reduceReplicate]) | (refine Xa.wkF (goU u 1 t ?_); (try clear t); simp only [*, go_sem, seval, -List.reduceReplicate]) | (refine Xa.wkF (goU u 2 t ?_); (try clear t); simp only [*, go_sem, seval, -List.reduceReplicate]) | (refine Xa.wkF (goU u 3 t ?_); (try clear t); simp only [*, go_sem, seval, -List.reduceReplicate]) | (refine Xa.wkF (Xa.use0 t rfl rfl ?_); (try clear t); simp only [*, go_sem, seval, -List.reduceReplicate]) | (refine Xa.wkF (useU u 0 t ?_); (try clear t); simp only [*, go_sem, seval, -List.reduceReplicate]) | (refine Xa.wkF (useU u 1 t ?_); (try clear t); simp only [*, go_sem, seval, -List.reduceReplicate]) | (refine Xa.wkF (useU u 2 t ?_); (try clear t); simp only [*, go_sem, seval, -List.reduceReplicate]) | (refine Xa.wkF (useU u 3 t ?_); (try clear t); simp only [*, go_sem, seval, -List.reduceReplicate]) | (refine Xa.wkF (panU u 0 t ?_); try simp only [Xk, Xg, Xq]) | (refine Xa.wkF (panU u 1 t ?_); try simp only [Xk, Xg, Xq]) | (refine Xa.wkF (panU u 2 t ?_); try simp only [Xk, Xg, Xq]) | (refine Xa.wkF (panU u 3 t ?_); try simp only [Xk, Xg, Xq]))
   | ((first | refine lpS u 0 (k.h.1 hy ?_) | refine lpS u 1 (k.h.1 hy ?_) | refine lpS u 2 (k.h.1 hy ?_) | refine lpS u 3 (k.h.1 hy ?_) | refine lpS u 4 (k.h.1 hy ?_) | refine lpS u 0 (k.h.2.1 hy ?_) | refine lpS u 1 (k.h.2.1 hy ?_) | refine lpS u 2 (k.h.2.1 hy ?_) | refine lpS u 3 (k.h.2.1 hy ?_) | refine lpS u 4 (k.h.2.1 hy ?_) | refine lpS u 0 (k.h.2.2.1 hy ?_) | refine lpS u 1 (k.h.2.2.1 hy ?_) | refine lpS u 2 (k.h.2.2.1 hy ?_) | refine lpS u 3 (k.h.2.2.1 hy ?_) | refine lpS u 4 (k.h.2.2.1 hy ?_) | refine lpS u 0 (k.h.2.2.2.1 hy ?_) | refine lpS u 1 (k.h.2.2.2.1 hy ?_) | refine lpS u 2 (k.h.2.2.2.1 hy ?_) | refine lpS u 3 (k.h.2.2.2.1 hy ?_) | refine lpS u 4 (k.h.2.2.2.1 hy ?_) | refine lpS u 0 (k.h.2.2.2.2.1 hy ?_) | refine lpS u 1 (k.h.2.2.2.2.1 hy ?_) | refine lpS u 2 (k.h.2.2.2.2.1 hy ?_) | refine lpS u 3 (k.h.2.2.2.2.1 hy ?_) | refine lpS u 4 (k.h.2.2.2.2.1 hy ?_) | refine lpS u 0 (k.h.2.2.2.2.2.1 hy ?_) | refine lpS u 1 (k.h.2.2.2.2.2.1 hy ?_) | refine lpS u 2 (k.h.2.2.2.2.2.1 hy ?_) | refine lpS u 3 (k.h.2.2.2.2.2.1 hy ?_) | refine lpS u 4 (k.h.2.2.2.2.2.1 hy ?_) | refine lpS u 0 (k.h.2.2.2.2.2.2.1 hy ?_) | refine lpS u 1 (k.h.2.2.2.2.2.2.1 hy ?_) | refine lpS u 2 (k.h.2.2.2.2.2.2.1 hy ?_) | refine lpS u 3 (k.h.2.2.2.2.2.2.1 hy ?_) | refine lpS u 4 (k.h.2.2.2.2.2.2.1 hy ?_) | refine lpS u 0 (k.h.2.2.2.2.2.2.2.1 hy ?_) | refine lpS u 1 (k.h.2.2.2.2.2.2.2.1 hy ?_) | refine lpS u 2 (k.h.2.2.2.2.2.2.2.1 hy ?_) | refine lpS u 3 (k.h.2.2.2.2.2.2.2.1 hy ?_) | refine lpS u 4 (k.h.2.2.2.2.2.2.2.1 hy ?_) | refine lpS u 0 (k.h.2.2.2.2.2.2.2.2.1 hy ?_) | refine lpS u 1 (k.h.2.2.2.2.2.2.2.2.1 hy ?_) | refine lpS u 2 (k.h.2.2.2.2.2.2.2.2.1 hy ?_) | refine lpS u 3 (k.h.2.2.2.2.2.2.2.2.1 hy ?_) | refine lpS u 4 (k.h.2.2.2.2.2.2.2.2.1 hy ?_) | refine lpS u 0 (k.h.2.2.2.2.2.2.2.2.2.1 hy ?_) | refine lpS u 1 (k.h.2.2.2.2.2.2.2.2.2.1 hy ?_) | refine lpS u 2 (k.h.2.2.2.2.2.2.2.2.2.1 hy ?_) | refine lpS u 3 (k.h.2.2.2.2.2.2.2.2.2.1 hy ?_) | refine lpS u 4 (k.h.2.2.2.2.2.2.2.2.2.1 hy ?_)); clear hy; (try dsimp only); first | (refine ZO rfl (by first | exact Nat.zero_le _ | (simp <;> fail)) ?_; (try clear t); simp only [*, go_sem, seval, -List.reduceReplicate]) | (refine Xmu rfl ?_) | (refine QU ?_) | (intro _ _ hd; refine Xfg ?_)))
  | (cases h; subst hQ; first | exact endF u 0 ⟨rfl, rfl⟩ | exact endF u 1 ⟨rfl, rfl⟩ | exact endF u 2 ⟨rfl, rfl⟩ | exact endF u 3 ⟨rfl, rfl⟩ | exact endN u 0 ⟨rfl, rfl⟩ | exact endN u 1 ⟨rfl, rfl⟩ | exact endN u 2 ⟨rfl, rfl⟩ | exact ⟨rfl, _, _, RefV.dead rfl, rfl, rfl⟩ | exact ⟨‹_›, _, _, RefV.dead rfl, rfl, rfl⟩)
  | fail))) : p := hh ⟨k⟩ (.mk L C)
theorem wl {q p : Prop} (k : q) (L : List Sc) (C : List (List Nat)) (hh : Bx q → Us L C → p := by
 intro k u
 (repeat' (first
  | (with_reducible exact no0 h)
  | ((with_reducible have h' := iteN h); clear h; rcases h' with ⟨e, h⟩ | ⟨_, h⟩ <;> (try subst e) <;> (try simp only [*, go_sem, seval, -List.reduceReplicate]))
  | ((with_reducible have h' := iteB h); clear h; rcases h' with ⟨_, h⟩ | ⟨_, h⟩ <;> try simp only [*, go_sem, seval, -List.reduceReplicate])
  | ((with_reducible have h' := iteS h); clear h; rcases h' with ⟨_, h⟩ | ⟨_, h⟩ <;> try simp only [*, go_sem, seval, -List.reduceReplicate])
  | ((with_reducible have h' := bindS h); clear h; obtain ⟨y, hy, h⟩ := h'; (repeat' (first | obtain ⟨_, y, rfl⟩ := pr y | rcases sm y with ⟨y, rfl⟩ | ⟨y, rfl⟩)) <;> (try dsimp only at h) <;> first
   | ((with_reducible have q := atF hy); clear hy; (try clear t); simp only [*, go_sem, seval, -List.reduceReplicate])
   | ((first | (with_reducible have t := k.h.1 hy) | (with_reducible have t := k.h.2.1 hy) | (with_reducible have t := k.h.2.2.1 hy) | (with_reducible have t := k.h.2.2.2.1 hy) | (with_reducible have t := k.h.2.2.2.2.1 hy) | (with_reducible have t := k.h.2.2.2.2.2.1 hy) | (with_reducible have t := k.h.2.2.2.2.2.2.1 hy) | (with_reducible have t := k.h.2.2.2.2.2.2.2.1 hy) | (with_reducible have t := k.h.2.2.2.2.2.2.2.2.1 hy) | (with_reducible have t := k.h.2.2.2.2.2.2.2.2.2.1 hy)); (try (first | (with_reducible have q := musF (k.h.1 hy)) | (with_reducible have q := musF (k.h.2.1 hy)) | (with_reducible have q := musF (k.h.2.2.1 hy)) | (with_reducible have q := musF (k.h.2.2.2.1 hy)) | (with_reducible have q := musF (k.h.2.2.2.2.1 hy)) | (with_reducible have q := musF (k.h.2.2.2.2.2.1 hy)) | (with_reducible have q := musF (k.h.2.2.2.2.2.2.1 hy)) | (with_reducible have q := musF (k.h.2.2.2.2.2.2.2.1 hy)) | (with_reducible have q := musF (k.h.2.2.2.2.2.2.2.2.1 hy)) | (with_reducible have q := musF (k.h.2.2.2.2.2.2.2.2.2.1 hy)))); clear hy; first | (refine Xa.go0 t ?_; (try clear t); simp only [*, go_sem, seval, -List.reduceReplicate]) | (refine goU u 0 t ?_; (try clear t); simp only [*, go_sem, seval, -List.reduceReplicate]) | (refine goU u 1 t ?_; (try clear t); simp only [*, go_sem, seval, -List.reduceReplicate]) | (refine goU u 2 t ?_; (try clear t); simp only [*, go_sem, seval, -List.reduceReplicate]) | (refine goU u 3 t ?_; (try clear t); simp only [*, go_sem, seval, -List.reduceReplicate]) | (refine Xa.use0 t rfl rfl ?_; (try clear t); simp only [*, go_sem, seval, -List.reduceReplicate]) | (refine useU u 0 t ?_; (try clear t); simp only [*, go_sem, seval, -List.reduceReplicate]) | (refine useU u 1 t ?_; (try clear t); simp only [*, go_sem, seval, -List.reduceReplicate]) | (refine useU u 2 t ?_; (try clear t); simp only [*, go_sem, seval, -List.reduceReplicate]) | (refine useU u 3 t ?_; (try clear t); simp only [*, go_sem, seval, -List.reduceReplicate]) | (refine panU u 0 t ?_; try simp only [Xk, Xg, Xq]) | (refine panU u 1 t ?_; try simp only [Xk, Xg, Xq]) | (refine panU u 2 t ?_; try simp only [Xk, Xg, Xq]) | (refine panU u 3 t ?_; try simp only [Xk, Xg, Xq]) | (refine Xa.wkF (Xa.go0 t ?_); (try clear t); simp only [*, go_sem, seval, -List.reduceReplicate]) | (refine Xa.wkF (goU u 0 t ?_); (try clear t); simp only [*, go_sem, seval, -List.reduceReplicate]) | (refine Xa.wkF (goU u 1 t ?_); (try clear t); simp only [*, go_sem, seval, -List.reduceReplicate]) | (refine Xa.wkF (goU u 2 t ?_); (try clear t); simp only [*, go_sem, seval, -List.reduceReplicate]) | (refine Xa.wkF (goU u 3 t ?_); (try clear t); simp only [*, go_sem, seval, -List.reduceReplicate]) | (refine Xa.wkF (Xa.use0 t rfl rfl ?_); (try clear t); simp only [*, go_sem, seval, -List.reduceReplicate]) | (refine Xa.wkF (useU u 0 t ?_); (try clear t); simp only [*, go_sem, seval, -List.reduceReplicate]) | (refine Xa.wkF (useU u 1 t ?_); (try clear t); simp only [*, go_sem, seval, -List.reduceReplicate]) | (refine Xa.wkF (useU u 2 t ?_); (try clear t); simp only [*, go_sem, seval, -List.reduceReplicate]) | (refine Xa.wkF (useU u 3 t ?_); (try clear t); simp only [*, go_sem, seval, -List.reduceReplicate]) | (refine Xa.wkF (panU u 0 t ?_); try simp only [Xk, Xg, Xq]) | (refine Xa.wkF (panU u 1 t ?_); try simp only [Xk, Xg, Xq]) | (refine Xa.wkF (panU u 2 t ?_); try simp only [Xk, Xg, Xq]) | (refine Xa.wkF (panU u 3 t ?_); try simp only [Xk, Xg, Xq]))
   | ((first | refine lpS u 0 (k.h.1 hy ?_) | refine lpS u 1 (k.h.1 hy ?_) | refine lpS u 2 (k.h.1 hy ?_) | refine lpS u 3 (k.h.1 hy ?_) | refine lpS u 4 (k.h.1 hy ?_) | refine lpS u 0 (k.h.2.1 hy ?_) | refine lpS u 1 (k.h.2.1 hy ?_) | refine lpS u 2 (k.h.2.1 hy ?_) | refine lpS u 3 (k.h.2.1 hy ?_) | refine lpS u 4 (k.h.2.1 hy ?_) | refine lpS u 0 (k.h.2.2.1 hy ?_) | refine lpS u 1 (k.h.2.2.1 hy ?_) | refine lpS u 2 (k.h.2.2.1 hy ?_) | refine lpS u 3 (k.h.2.2.1 hy ?_) | refine lpS u 4 (k.h.2.2.1 hy ?_) | refine lpS u 0 (k.h.2.2.2.1 hy ?_) | refine lpS u 1 (k.h.2.2.2.1 hy ?_) | refine lpS u 2 (k.h.2.2.2.1 hy ?_) | refine lpS u 3 (k.h.2.2.2.1 hy ?_) | refine lpS u 4 (k.h.2.2.2.1 hy ?_) | refine lpS u 0 (k.h.2.2.2.2.1 hy ?_) | refine lpS u 1 (k.h.2.2.2.2.1 hy ?_) | refine lpS u 2 (k.h.2.2.2.2.1 hy ?_) | refine lpS u 3 (k.h.2.2.2.2.1 hy ?_) | refine lpS u 4 (k.h.2.2.2.2.1 hy ?_) | refine lpS u 0 (k.h.2.2.2.2.2.1 hy ?_) | refine lpS u 1 (k.h.2.2.2.2.2.1 hy ?_) | refine lpS u 2 (k.h.2.2.2.2.2.1 hy ?_) | refine lpS u 3 (k.h.2.2.2.2.2.1 hy ?_) | refine lpS u 4 (k.h.2.2.2.2.2.1 hy ?_) | refine lpS u 0 (k.h.2.2.2.2.2.2.1 hy ?_) | refine lpS u 1 (k.h.2.2.2.2.2.2.1 hy ?_) | refine lpS u 2 (k.h.2.2.2.2.2.2.1 hy ?_) | refine lpS u 3 (k.h.2.2.2.2.2.2.1 hy ?_) | refine lpS u 4 (k.h.2.2.2.2.2.2.1 hy ?_) | refine lpS u 0 (k.h.2.2.2.2.2.2.2.1 hy ?_) | refine lpS u 1 (k.h.2.2.2.2.2.2.2.1 hy ?_) | refine lpS u 2 (k.h.2.2.2.2.2.2.2.1 hy ?_) | refine lpS u 3 (k.h.2.2.2.2.2.2.2.1 hy ?_) | refine lpS u 4 (k.h.2.2.2.2.2.2.2.1 hy ?_) | refine lpS u 0 (k.h.2.2.2.2.2.2.2.2.1 hy ?_) | refine lpS u 1 (k.h.2.2.2.2.2.2.2.2.1 hy ?_) | refine lpS u 2 (k.h.2.2.2.2.2.2.2.2.1 hy ?_) | refine lpS u 3 (k.h.2.2.2.2.2.2.2.2.1 hy ?_) | refine lpS u 4 (k.h.2.2.2.2.2.2.2.2.1 hy ?_) | refine lpS u 0 (k.h.2.2.2.2.2.2.2.2.2.1 hy ?_) | refine lpS u 1 (k.h.2.2.2.2.2.2.2.2.2.1 hy ?_) | refine lpS u 2 (k.h.2.2.2.2.2.2.2.2.2.1 hy ?_) | refine lpS u 3 (k.h.2.2.2.2.2.2.2.2.2.1 hy ?_) | refine lpS u 4 (k.h.2.2.2.2.2.2.2.2.2.1 hy ?_)); clear hy; (try dsimp only); first | (refine ZO rfl (by first | exact Nat.zero_le _ | (simp <;> fail)) ?_; (try clear t); simp only [*, go_sem, seval, -List.reduceReplicate]) | (refine Xmu rfl ?_) | (refine QU ?_) | (intro _ _ hd; refine Xfg ?_)))
  | (subst hQ; first | exact backS u 0 (ih.h h hp) | exact backS u 1 (ih.h h hp) | exact backS u 2 (ih.h h hp) | exact backS u 3 (ih.h h hp) | exact backS u 4 (ih.h h hp))
  | (cases h; subst hQ; first | exact hp _ _ rfl | exact hp _ _ ‹_› | exact exS u 0 hp | exact rtS u 0 hp | exact exS u 1 hp | exact rtS u 1 hp | exact exS u 2 hp | exact rtS u 2 hp | exact exS u 3 hp | exact rtS u 3 hp | exact exS u 4 hp | exact rtS u 4 hp)
  | fail))) : p := hh ⟨k⟩ (.mk L C)
end Go.Proofs.Ytcbhlpbkampfeaa.AI
