import Derived.Test.YtcbhlpbkampfeaaR0
/- Part of a proof. -/
set_option linter.unusedVariables false
set_option linter.unusedSimpArgs false
namespace Go.Proofs.Ytcbhlpbkampfeaa.AI

def eqAll (f : AV → AV → Bool) : List AV → List AV → Bool
 | [], [] => true
 | a :: l, b :: m => f a b && eqAll f l m
 | _, _ => false
def Xpn (f : AV → AV → Bool) : List (List AV) → List (List AV) → Bool
 | [], [] => true
 | a :: l, b :: m => eqAll f a b && Xpn f l m
 | _, _ => false
def eqAV : Nat → AV → AV → Bool
 | 0, _, _ => false
 | n + 1, x, y => match x, y with
  | .bool a, .bool b => a == b
  | .int k a, .int k' b => decide (k = k') && decide (a = b)
  | .nilp, .nilp => true
  | .nilif, .nilif => true
  | .any, .any => true
  | .anyb, .anyb => true
  | .ptr a b c, .ptr d e f => decide (a = d) && decide (b = e) && decide (c = f)
  | .row a b c, .row d e f => decide (a = d) && decide (b = e) && decide (c = f)
  | .vec c l, .vec d m => c == d && Xpn (eqAV n) l m
  | .vptr l i, .vptr m j => eqAll (eqAV n) l m && decide (i = j)
  | .agg l, .agg m => eqAll (eqAV n) l m
  | _, _ => false
theorem Xcs {f : AV → AV → Bool} (hf : ∀ a b, f a b = true → a = b) : ∀ {l m : List AV}, eqAll f l m = true → l = m
 | [], [], _ => rfl
 | a :: l, b :: m, h => by simp only [eqAll, Bool.and_eq_true] at h; rw [hf _ _ h.1, Xcs hf h.2]
 | [], _ :: _, h => by cases h
 | _ :: _, [], h => by cases h
theorem Xgd {f : AV → AV → Bool} (hf : ∀ a b, f a b = true → a = b) : ∀ {l m : List (List AV)}, Xpn f l m = true → l = m
 | [], [], _ => rfl
 | a :: l, b :: m, h => by simp only [Xpn, Bool.and_eq_true] at h; rw [Xcs hf h.1, Xgd hf h.2]
 | [], _ :: _, h => by cases h
 | _ :: _, [], h => by cases h
theorem Xql : ∀ (n : Nat) (a b : AV), eqAV n a b = true → a = b := by
  intro n
  induction n with
  | zero => intro a b h; cases h
  | succ n ih =>
    intro a b h
    unfold eqAV at h
    split at h
    · simp at h; rw [h]
    · simp at h; rw [h.1, h.2]
    · rfl
    · rfl
    · rfl
    · rfl
    · simp at h; rw [h.1.1, h.1.2, h.2]
    · simp at h; rw [h.1.1, h.1.2, h.2]
    · simp only [Bool.and_eq_true, beq_iff_eq] at h; rw [h.1, Xgd ih h.2]
    · simp only [Bool.and_eq_true, decide_eq_true_eq] at h; rw [Xcs ih h.1, h.2]
    · rw [Xcs ih h]
    · cases h

section
variable (call : FuncId → List AV → List AObj → Option (AEnd × List AObj))
def okB (ta : ATm) : Option Nat → Bool
 | some t => Nat.blt t ta.n
 | none => true
def xop (ta : ATm) (H : List AObj) (op : AOp) : Option (AEnd × List AObj) := match evO ta H op with
 | .ok v H' => some (.ret v, H')
 | .call f args => call f args H
 | .pan v => some (.pan v, H)
 | .bad => none
def xgrd (ta : ATm) : Option (Nat × Bool) → Option (Bool × ATm)
 | none => some (true, ta)
 | some (d, want) => match ta.get d with
  | .bool true => some (want, ta.put d (.bool true))
  | .bool false => some (!want, ta.put d (.bool false))
  | .tup [] => some (false, ta)
  | _ => none
def xops : List IOp → ATm → List AObj → Option (AExit × ATm × List AObj)
 | [], ta, H => some (.normal, ta, H)
 | o :: os, ta, H => match okB ta o.dst with
  | false => none
  | true => match xgrd ta o.guard with
   | none => none
   | some (false, ta) => xops os (putD ta o.dst (.tup [])) H
   | some (true, ta) => match xop call ta H o.op with
    | some (.ret v, H') => xops os (putD ta o.dst v) H'
    | some (.pan v, H') => some (.pan v, ta, H')
    | none => none
def xchk (bef : List Nat) (H : List AObj) : List Rd → Bool
 | [] => true
 | r :: rs => (bef.contains r.ix || (match isE r.op, evO r.ta H r.op with
  | false, .ok u _ => eqAV 8 u r.v
  | _, _ => false)) && xchk bef H rs
def xdraw : List DOp → ATm → List AObj → List Rd → Option (AExit × ATm × List AObj)
 | [], ta, H, rd => some (.normal, ta, H)
 | y :: ys, ta, H, rd => match okB ta y.o.dst with
  | false => none
  | true => match xgrd ta y.o.guard with
   | none => none
   | some (false, ta) => xdraw ys (putD ta y.o.dst (.tup [])) H rd
   | some (true, ta) => match isE y.o.op with
    | true => match xop call ta H y.o.op with
     | some (.ret v, H') => match xchk y.bef H' rd with
      | true => xdraw ys (putD ta y.o.dst v) H' rd
      | false => none
     | some (.pan v, H') => some (.pan v, ⟨ta.n, [], ta.ds⟩, H')
     | none => none
    | false => match evO ta H y.o.op with
     | .ok v H' => xdraw ys (putD ta y.o.dst v) H' (rcd y ta v rd)
     | _ => none
def xcode : Nat → ACode → ATm → List AObj → Option (AExit × ATm × List AObj)
 | 0, _, _, _ => none
 | n + 1, c, ta, H => match c with
  | .skip => some (.normal, ta, H)
  | .label _ => some (.normal, ta, H)
  | .goto _ => none
  | .ret => some (.ret, ta, H)
  | .dfr d g xs => match Nat.blt d ta.n with
   | true => some (.normal, ⟨ta.n, (d, .fn (.func g) [] (xs.map (AX.ev ta))) :: ta.l, (.func g, xs.map (AX.ev ta), []) :: ta.ds⟩, H)
   | false => none
  | .exit i => some (.exit i, ta, H)
  | .reg os => xops call os ta H
  | .regd ys => xdraw call ys ta H []
  | .regd2 _ _ => none
  | .regdn _ => none
  | .scope a => xcode n a ta H
  | .cond c a b => match c.ev ta with
   | .bool true => xcode n a ta H
   | .bool false => xcode n b ta H
   | _ => none
  | .seq a b => match xcode n a ta H with
   | some (.normal, ta, H) => xcode n b ta H
   | r => r
  | .block i a => match xcode n a ta H with
   | some (.exit j, ta, H) => match Nat.beq j i with
    | true => some (.normal, ta, H)
    | false => some (.exit j, ta, H)
   | r => r
  | .loop a => match xcode n a ta H with
   | some (.normal, ta, H) => xcode n (.loop a) ta H
   | r => r
end
def xclo (RT : FuncId → Option (Nat × Nat × ACode × Nat)) (xc : ACode → ATm → List AObj → Option (AExit × ATm × List AObj)) (rs : List RV) (rv : AV) (ta : ATm) (H : List AObj) : Option (AEnd × List AObj) :=
 match ta.ds with
 | [(.func g, caps, [])] => match RT g with
  | some (t, u, ar, Ng) => match Nat.ble caps.length Ng with
   | true => match xc ar ⟨Ng, (u, rv) :: (t, rv) :: argl 0 caps, []⟩ H with
    | some (.normal, tc, H2) => match tc.ds, resVs ta H2 rs with
     | [], some vs => some (.ret (asRes vs), H2)
     | _, _ => none
    | some (.ret, tc, H2) => match tc.ds, resVs ta H2 rs with
     | [], some vs => some (.ret (asRes vs), H2)
     | _, _ => none
    | _ => none
   | false => none
  | none => none
 | _ => none
def xfn (FT : FuncId → Option (ACode × Nat × List RV)) (RT : FuncId → Option (Nat × Nat × ACode × Nat)) (m : Nat) : Nat → FuncId → List AV → List AObj → Option (AEnd × List AObj)
 | 0, _, _, _ => none
 | n + 1, f, args, H => match FT f with
  | none => none
  | some (c, N, rs) => match Nat.ble args.length N with
   | false => none
   | true => match xcode (xfn FT RT m n) m c ⟨N, argl 0 args, []⟩ H with
    | some (.ret, ta, H') => match ta.ds with
     | [] => match resVs ta H' rs with
      | some vs => some (.ret (asRes vs), H')
      | none => none
     | _ :: _ => xclo RT (xcode (xfn FT RT m n) m) rs .nilif ta H'
    | some (.normal, ta, H') => match ta.ds with
     | [] => match resVs ta H' rs with
      | some vs => some (.ret (asRes vs), H')
      | none => none
     | _ :: _ => xclo RT (xcode (xfn FT RT m n) m) rs .nilif ta H'
    | some (.pan v, ta, H') => match ta.ds with
     | [] => some (.pan v, H')
     | _ :: _ => xclo RT (xcode (xfn FT RT m n) m) rs v ta H'
    | _ => none

def Eq3 (e : AExit) (ta : ATm) (H : List AObj) : AExit → ATm → List AObj → Prop := fun e1 ta1 H1 => e1 = e ∧ ta1 = ta ∧ H1 = H
def Xmx (P : Program) (call : FuncId → List AV → List AObj → Option (AEnd × List AObj)) : Prop := ∀ f args H e H', call f args H = some (e, H') → H.length ≤ H'.length ∧ Xa P f args H fun e1 H1 => e1 = e ∧ H1 = H'

section
variable {P : Program} {call : FuncId → List AV → List AObj → Option (AEnd × List AObj)}
theorem okB_iff {ta : ATm} {d : Option Nat} (h : okB ta d = true) : okD ta d := by
 cases d with
 | none => trivial
 | some t => simpa [okB, okD, Nat.blt_eq] using h

theorem Xbt (hc : Xmx P call) : ∀ (os : List IOp) (ta : ATm) (H : List AObj) (e : AExit) (ta' : ATm) (H' : List AObj), xops call os ta H = some (e, ta', H') → H.length ≤ H'.length ∧ (∀ l, e ≠ .goto l) ∧ ∀ n0, n0 ≤ H.length → M P n0 (Eq3 e ta' H') [.ops os] ta H
 | [], ta, H, e, ta', H', h => by
  simp only [xops, Option.some.injEq, Prod.mk.injEq] at h
  obtain ⟨rfl, rfl, rfl⟩ := h
  exact ⟨Nat.le_refl _, by simp, fun n0 hn => by rw [Xms, M_nil]; exact ⟨rfl, rfl, rfl⟩⟩
 | o :: os, ta, H, e, ta', H', h => by
  simp only [xops] at h
  split at h
  ·
   cases h
  ·
   rename_i hok
   have hd := okB_iff hok
   have go : ∀ (ta : ATm), (match xop call ta H o.op with
     | some (.ret v, H') => xops call os (putD ta o.dst v) H'
     | some (.pan v, H') => some (.pan v, ta, H')
     | none => none) = some (e, ta', H') → H.length ≤ H'.length ∧ (∀ l, e ≠ .goto l) ∧ ∀ n0, n0 ≤ H.length → opK P n0 (Eq3 e ta' H') o.dst os [] ta H (evO ta H o.op) := by
    intro ta h
    unfold xop at h
    cases hev : evO ta H o.op with
    | ok v H1 =>
     rw [hev] at h
     obtain ⟨h1, h2, h3⟩ := Xbt hc os _ _ _ _ _ h
     have := Xe4 hev
     exact ⟨by omega, h2, fun n0 hn => h3 n0 (by omega)⟩
    | call f args =>
     rw [hev] at h
     simp only at h
     cases hcl : call f args H with
     | none => rw [hcl] at h; cases h
     | some r =>
      obtain ⟨e1, H1⟩ := r
      obtain ⟨hl, hA⟩ := hc _ _ _ _ _ hcl
      rw [hcl] at h
      cases e1 with
      | ret v =>
       obtain ⟨h1, h2, h3⟩ := Xbt hc os _ _ _ _ _ h
       refine ⟨by omega, h2, fun n0 hn => hA.mono ?_⟩
       rintro _ _ ⟨rfl, rfl⟩
       exact ⟨_, _, Ref.refl _ _ _, by omega, h3 n0 (by omega)⟩
      | pan v =>
       simp only [Option.some.injEq, Prod.mk.injEq] at h
       obtain ⟨rfl, rfl, rfl⟩ := h
       refine ⟨hl, by simp, fun n0 hn => hA.mono ?_⟩
       rintro _ _ ⟨rfl, rfl⟩
       exact ⟨rfl, rfl, rfl⟩
    | pan v =>
     rw [hev] at h
     simp only [Option.some.injEq, Prod.mk.injEq] at h
     obtain ⟨rfl, rfl, rfl⟩ := h
     exact ⟨Nat.le_refl _, by simp, fun n0 hn => ⟨rfl, rfl, rfl⟩⟩
    | bad => rw [hev] at h; cases h
   obtain ⟨dst, op, guard⟩ := o
   cases guard with
   | none =>
    simp only [xgrd] at h
    obtain ⟨h1, h2, h3⟩ := go ta h
    exact ⟨h1, h2, fun n0 hn => by rw [M_op]; exact ⟨hd, h3 n0 hn⟩⟩
   | some g =>
    obtain ⟨t, want⟩ := g
    simp only [xgrd] at h
    have key : ∀ b, ta.get t = .bool b → (b = want → H.length ≤ H'.length ∧ (∀ l, e ≠ .goto l) ∧ ∀ n0, n0 ≤ H.length → opK P n0 (Eq3 e ta' H') dst os [] (ta.put t (.bool want)) H (evO (ta.put t (.bool want)) H op)) →
      (b = !want → H.length ≤ H'.length ∧ (∀ l, e ≠ .goto l) ∧ ∀ n0, n0 ≤ H.length → M P n0 (Eq3 e ta' H') [.ops os] (putD (ta.put t (.bool !want)) dst (.tup [])) H) →
      H.length ≤ H'.length ∧ (∀ l, e ≠ .goto l) ∧ ∀ n0, n0 ≤ H.length → M P n0 (Eq3 e ta' H') [.ops (⟨dst, op, some (t, want)⟩ :: os)] ta H := by
     intro b hg k1 k2
     have hbb : b = want ∨ b = !want := by cases b <;> cases want <;> simp
     refine ⟨?_, ?_, fun n0 hn => ?_⟩
     ·
      rcases hbb with hb | hb
      ·
       exact (k1 hb).1
      ·
       exact (k2 hb).1
     ·
      rcases hbb with hb | hb
      ·
       exact (k1 hb).2.1
      ·
       exact (k2 hb).2.1
     ·
      rw [M_opg, hg]
      exact ⟨hd, fun hb => (k1 hb).2.2 n0 hn, fun hb => (k2 hb).2.2 n0 hn⟩
    cases hg : ta.get t with
    | bool b =>
     rw [hg] at h
     refine key b hg ?_ ?_
     ·
      intro hb
      cases b <;> cases want <;> first | (exact absurd hb (by decide)) | exact go _ h
     ·
      intro hb
      cases b <;> cases want <;> first | (exact absurd hb (by decide)) | exact Xbt hc os _ _ _ _ _ h
    | tup l =>
     rw [hg] at h
     cases l with
     | nil =>
      obtain ⟨h1, h2, h3⟩ := Xbt hc os _ _ _ _ _ h
      exact ⟨h1, h2, fun n0 hn => by rw [M_opg, hg, grdK_un]; exact ⟨hd, h3 n0 hn⟩⟩
     | cons => cases h
    | _ => rw [hg] at h; cases h

theorem Xfh {bef : List Nat} {H : List AObj} : ∀ {rd : List Rd}, xchk bef H rd = true → Chk bef H rd
 | [], _ => trivial
 | r :: rs, h => by
  simp only [xchk, Bool.and_eq_true, Bool.or_eq_true, List.contains_eq_mem, decide_eq_true_eq] at h
  refine ⟨?_, Xfh h.2⟩
  rcases h.1 with h | h
  ·
   exact .inl h
  ·
   right
   split at h
   ·
    rename_i u H1 hE hev
    rw [hev, Xk0 hE hev, Xql _ _ _ h]
   ·
    cases h

theorem JN (hc : Xmx P call) {n : Nat} {ds : List (Fn × List AV × List AV)} : ∀ (ys : List DOp) (ta : ATm) (H : List AObj) (rd : List Rd) (e : AExit) (ta' : ATm) (H' : List AObj), ta.n = n → ta.ds = ds → xdraw call ys ta H rd = some (e, ta', H') → H.length ≤ H'.length ∧ (∀ l, e ≠ .goto l) ∧ ∀ n0, n0 ≤ H.length → DM P n0 (Eq3 e ta' H' .normal) (fun v H1 => Eq3 e ta' H' (.pan v) ⟨n, [], ds⟩ H1) ys ta H rd
 | [], ta, H, rd, e, ta', H', hn, hd, h => by
  simp only [xdraw, Option.some.injEq, Prod.mk.injEq] at h
  obtain ⟨rfl, rfl, rfl⟩ := h
  exact ⟨Nat.le_refl _, by simp, fun n0 hn => ⟨rfl, rfl, rfl⟩⟩
 | y :: ys, ta, H, rd, e, ta', H', hn, hd, h => by
  simp only [xdraw] at h
  split at h
  ·
   cases h
  ·
   rename_i hok
   have hdk := okB_iff hok
   have go : ∀ (ta : ATm), ta.n = n → ta.ds = ds → (match isE y.o.op with
    | true => match xop call ta H y.o.op with
     | some (.ret v, H') => match xchk y.bef H' rd with
      | true => xdraw call ys (putD ta y.o.dst v) H' rd
      | false => none
     | some (.pan v, H') => some (.pan v, ⟨ta.n, [], ta.ds⟩, H')
     | none => none
    | false => match evO ta H y.o.op with
     | .ok v H' => xdraw call ys (putD ta y.o.dst v) H' (rcd y ta v rd)
     | _ => none) = some (e, ta', H') → H.length ≤ H'.length ∧ (∀ l, e ≠ .goto l) ∧ ∀ n0, n0 ≤ H.length → DGo P n0 y (DM P n0 (Eq3 e ta' H' .normal) (fun v H1 => Eq3 e ta' H' (.pan v) ⟨n, [], ds⟩ H1) ys) (fun v H1 => Eq3 e ta' H' (.pan v) ⟨n, [], ds⟩ H1) rd H ta := by
    intro ta hn hd h
    have hp : ∀ d v, (putD ta d v).n = n ∧ (putD ta d v).ds = ds := fun d v => by cases d <;> exact ⟨hn, hd⟩
    unfold DGo
    cases hE : isE y.o.op with
    | true =>
     rw [hE] at h
     simp only at h ⊢
     unfold xop at h
     cases hev : evO ta H y.o.op with
     | ok v H1 =>
      rw [hev] at h
      simp only at h
      split at h
      ·
       rename_i hck
       obtain ⟨h1, h2, h3⟩ := JN hc ys _ _ _ _ _ _ (hp _ _).1 (hp _ _).2 h
       have := Xe4 hev
       exact ⟨by omega, h2, fun n0 hn => ⟨Xfh hck, h3 n0 (by omega)⟩⟩
      ·
       cases h
     | call f args =>
      rw [hev] at h
      simp only at h
      cases hcl : call f args H with
      | none => rw [hcl] at h; cases h
      | some r =>
       obtain ⟨e1, H1⟩ := r
       obtain ⟨hl, hA⟩ := hc _ _ _ _ _ hcl
       rw [hcl] at h
       cases e1 with
       | ret v =>
        simp only at h
        split at h
        ·
         rename_i hck
         obtain ⟨h1, h2, h3⟩ := JN hc ys _ _ _ _ _ _ (hp _ _).1 (hp _ _).2 h
         refine ⟨by omega, h2, fun n0 hn => hA.mono ?_⟩
         rintro _ _ ⟨rfl, rfl⟩
         exact ⟨by omega, Xfh hck, h3 n0 (by omega)⟩
        ·
         cases h
       | pan v =>
        simp only [Option.some.injEq, Prod.mk.injEq] at h
        obtain ⟨rfl, rfl, rfl⟩ := h
        refine ⟨hl, by simp, fun n0 hn' => hA.mono ?_⟩
        rintro _ _ ⟨rfl, rfl⟩
        exact ⟨rfl, by rw [hn, hd], rfl⟩
     | pan v =>
      rw [hev] at h
      simp only [Option.some.injEq, Prod.mk.injEq] at h
      obtain ⟨rfl, rfl, rfl⟩ := h
      exact ⟨Nat.le_refl _, by simp, fun n0 hn' => ⟨rfl, by rw [hn, hd], rfl⟩⟩
     | bad => rw [hev] at h; cases h
    | false =>
     rw [hE] at h
     simp only at h ⊢
     cases hev : evO ta H y.o.op with
     | ok v H1 =>
      rw [hev] at h
      obtain ⟨h1, h2, h3⟩ := JN hc ys _ _ _ _ _ _ (hp _ _).1 (hp _ _).2 h
      have := Xe4 hev
      exact ⟨by omega, h2, fun n0 hn => h3 n0 (by omega)⟩
     | call f args => rw [hev] at h; cases h
     | pan v => rw [hev] at h; cases h
     | bad => rw [hev] at h; cases h
   show _ ∧ _ ∧ ∀ n0, _ → DStep _ _ _ _ _ _ _ _
   unfold DStep
   cases hgu : y.o.guard with
   | none =>
    rw [hgu] at h
    simp only [xgrd] at h
    obtain ⟨h1, h2, h3⟩ := go ta hn hd h
    exact ⟨h1, h2, fun n0 hn => ⟨hdk, h3 n0 hn⟩⟩
   | some g =>
    obtain ⟨t, want⟩ := g
    rw [hgu] at h
    simp only [xgrd] at h
    have hp : ∀ v d u, (putD (ta.put t v) d u).n = n ∧ (putD (ta.put t v) d u).ds = ds := fun v d u => by cases d <;> exact ⟨hn, hd⟩
    cases hg : ta.get t with
    | bool b =>
     rw [hg] at h
     have k1 : b = want → H.length ≤ H'.length ∧ (∀ l, e ≠ .goto l) ∧ ∀ n0, n0 ≤ H.length → DGo P n0 y (DM P n0 (Eq3 e ta' H' .normal) (fun v H1 => Eq3 e ta' H' (.pan v) ⟨n, [], ds⟩ H1) ys) (fun v H1 => Eq3 e ta' H' (.pan v) ⟨n, [], ds⟩ H1) rd H (ta.put t (.bool want)) := by
      intro hb
      cases b <;> cases want <;> first | (exact absurd hb (by decide)) | exact go _ hn hd h
     have k2 : b = !want → H.length ≤ H'.length ∧ (∀ l, e ≠ .goto l) ∧ ∀ n0, n0 ≤ H.length → DM P n0 (Eq3 e ta' H' .normal) (fun v H1 => Eq3 e ta' H' (.pan v) ⟨n, [], ds⟩ H1) ys (putD (ta.put t (.bool !want)) y.o.dst (.tup [])) H rd := by
      intro hb
      cases b <;> cases want <;> first | (exact absurd hb (by decide)) | exact JN hc ys _ _ _ _ _ _ (hp _ _ _).1 (hp _ _ _).2 h
     have hbb : b = want ∨ b = !want := by cases b <;> cases want <;> simp
     refine ⟨?_, ?_, fun n0 hn => ⟨hdk, ?_⟩⟩
     ·
      rcases hbb with hb | hb
      ·
       exact (k1 hb).1
      ·
       exact (k2 hb).1
     ·
      rcases hbb with hb | hb
      ·
       exact (k1 hb).2.1
      ·
       exact (k2 hb).2.1
     ·
      simp only [hg]
      exact ⟨fun hb => (k1 hb).2.2 n0 hn, fun hb => (k2 hb).2.2 n0 hn⟩
    | tup l =>
     rw [hg] at h
     cases l with
     | nil =>
      have hp2 : ∀ d u, (putD ta d u).n = n ∧ (putD ta d u).ds = ds := fun d u => by cases d <;> exact ⟨hn, hd⟩
      obtain ⟨h1, h2, h3⟩ := JN hc ys _ _ _ _ _ _ (hp2 _ _).1 (hp2 _ _).2 h
      refine ⟨h1, h2, fun n0 hn => ⟨hdk, ?_⟩⟩
      simp only [hg]
      exact h3 n0 hn
     | cons => cases h
    | _ => rw [hg] at h; cases h

theorem Xd6 (hc : Xmx P call) : ∀ (n : Nat) (c : ACode) (ta : ATm) (H : List AObj) (e : AExit) (ta' : ATm) (H' : List AObj), xcode call n c ta H = some (e, ta', H') →
  H.length ≤ H'.length ∧ (∀ l, e ≠ .goto l) ∧ (∀ n0, n0 ≤ H.length → ∀ c', comp P c' = some c → AWp P n0 c' ta H (Eq3 e ta' H')) ∧ ∀ a, c = .loop a → ∀ n0, n0 ≤ H.length → ∀ c', comp P c' = some a → ALoop P n0 c' ta H (Eq3 e ta' H') := by
 intro n
 induction n with
 | zero => intro c ta H e ta' H' h; cases h
 | succ n ih =>
  intro c ta H e ta' H' h
  cases c with
  | skip =>
   simp only [xcode, Option.some.injEq, Prod.mk.injEq] at h
   obtain ⟨rfl, rfl, rfl⟩ := h
   refine ⟨Nat.le_refl _, by simp, fun n0 hn c' hc' => ?_, by simp⟩
   have inv := QZ hc'
   simp only at inv
   subst inv
   exact AWp.skip ⟨rfl, rfl, rfl⟩
  | label l =>
   simp only [xcode, Option.some.injEq, Prod.mk.injEq] at h
   obtain ⟨rfl, rfl, rfl⟩ := h
   refine ⟨Nat.le_refl _, by simp, fun n0 hn c' hc' => ?_, by simp⟩
   have inv := QZ hc'
   simp only at inv
   subst inv
   exact AWp.label ⟨rfl, rfl, rfl⟩
  | ret =>
   simp only [xcode, Option.some.injEq, Prod.mk.injEq] at h
   obtain ⟨rfl, rfl, rfl⟩ := h
   refine ⟨Nat.le_refl _, by simp, fun n0 hn c' hc' => ?_, by simp⟩
   have inv := QZ hc'
   simp only at inv
   subst inv
   exact AWp.ret ⟨rfl, rfl, rfl⟩
  | exit i =>
   simp only [xcode, Option.some.injEq, Prod.mk.injEq] at h
   obtain ⟨rfl, rfl, rfl⟩ := h
   refine ⟨Nat.le_refl _, by simp, fun n0 hn c' hc' => ?_, by simp⟩
   have inv := QZ hc'
   simp only at inv
   subst inv
   exact AWp.exit ⟨rfl, rfl, rfl⟩
  | goto l => cases h
  | regd2 ys ys' => cases h
  | regdn ys => cases h
  | dfr d g xs =>
   simp only [xcode] at h
   split at h
   ·
    rename_i hd
    simp only [Option.some.injEq, Prod.mk.injEq] at h
    obtain ⟨rfl, rfl, rfl⟩ := h
    refine ⟨Nat.le_refl _, by simp, fun n0 hn c' hc' => ?_, by simp⟩
    have inv := QZ hc'
    simp only at inv
    obtain ⟨id, ops, caps, rfl, h1, h2⟩ := inv
    exact AWp.dfr h1 h2 (by rw [Nat.blt_eq] at hd; exact hd) ⟨rfl, rfl, rfl⟩
   ·
    cases h
  | reg os =>
   simp only [xcode] at h
   obtain ⟨h1, h2, h3⟩ := Xbt hc os _ _ _ _ _ h
   refine ⟨h1, h2, fun n0 hn c' hc' => ?_, by simp⟩
   refine AW.of_M (fun l ta H hq => h2 l hq.1.symm) ?_ hn c' hc'
   rw [M_reg]
   exact h3 n0 hn
  | regd ys =>
   simp only [xcode] at h
   obtain ⟨h1, h2, h3⟩ := JN hc ys _ _ _ _ _ _ rfl rfl h
   refine ⟨h1, h2, fun n0 hn c' hc' => ?_, by simp⟩
   have inv := QZ hc'
   simp only at inv
   obtain ⟨id, ops, rfl, h4⟩ := inv
   exact AW.draw hn h4 (h3 n0 hn)
  | scope a =>
   simp only [xcode] at h
   obtain ⟨h1, h2, h3, h4⟩ := ih _ _ _ _ _ _ h
   refine ⟨h1, h2, fun n0 hn c' hc' => ?_, by simp⟩
   have inv := QZ hc'
   simp only at inv
   obtain ⟨x, rfl, hx⟩ := inv
   exact AWp.scope (fun l ta H hq => h2 l hq.1.symm) (h3 n0 hn x hx)
  | cond x a b =>
   simp only [xcode] at h
   split at h
   ·
    rename_i hev
    obtain ⟨h1, h2, h3, h4⟩ := ih _ _ _ _ _ _ h
    refine ⟨h1, h2, fun n0 hn c' hc' => ?_, by simp⟩
    have inv := QZ hc'
    simp only at inv
    obtain ⟨c0, x', y', rfl, h0, ha, hb⟩ := inv
    exact AWp.cond h0 hev (fun _ => h3 n0 hn _ ha) (fun h => by cases h)
   ·
    rename_i hev
    obtain ⟨h1, h2, h3, h4⟩ := ih _ _ _ _ _ _ h
    refine ⟨h1, h2, fun n0 hn c' hc' => ?_, by simp⟩
    have inv := QZ hc'
    simp only at inv
    obtain ⟨c0, x', y', rfl, h0, ha, hb⟩ := inv
    exact AWp.cond h0 hev (fun h => by cases h) (fun _ => h3 n0 hn _ hb)
   ·
    cases h
  | seq a b =>
   simp only [xcode] at h
   cases ha : xcode call n a ta H with
   | none => rw [ha] at h; cases h
   | some r =>
    obtain ⟨e1, ta1, H1⟩ := r
    obtain ⟨h1, h2, h3, h4⟩ := ih _ _ _ _ _ _ ha
    rw [ha] at h
    cases e1 with
    | normal =>
     obtain ⟨g1, g2, g3, g4⟩ := ih _ _ _ _ _ _ h
     refine ⟨by omega, g2, fun n0 hn c' hc' => ?_, by simp⟩
     have inv := QZ hc'
     simp only at inv
     obtain ⟨x, y, rfl, hx, hy⟩ := inv
     refine AWp.seq (AWp.mono (h3 n0 hn x hx) ?_)
     rintro _ _ _ ⟨rfl, rfl, rfl⟩
     exact g3 n0 (by omega) y hy
    | goto l => exact (h2 l rfl).elim
    | _ =>
     simp only [Option.some.injEq, Prod.mk.injEq] at h
     obtain ⟨rfl, rfl, rfl⟩ := h
     refine ⟨h1, h2, fun n0 hn c' hc' => ?_, by simp⟩
     have inv := QZ hc'
     simp only at inv
     obtain ⟨x, y, rfl, hx, hy⟩ := inv
     refine AWp.seq (AWp.mono (h3 n0 hn x hx) ?_)
     rintro _ _ _ ⟨rfl, rfl, rfl⟩
     exact ⟨rfl, rfl, rfl⟩
  | block i a =>
   simp only [xcode] at h
   cases ha : xcode call n a ta H with
   | none => rw [ha] at h; cases h
   | some r =>
    obtain ⟨e1, ta1, H1⟩ := r
    obtain ⟨h1, h2, h3, h4⟩ := ih _ _ _ _ _ _ ha
    rw [ha] at h
    have fin : ∀ e, (∀ l, e ≠ .goto l) → (AExit.blk i (Eq3 e ta1 H1) e1 ta1 H1) → H.length ≤ H1.length ∧ (∀ l, e ≠ .goto l) ∧ (∀ n0, n0 ≤ H.length → ∀ c', comp P c' = some (.block i a) → AWp P n0 c' ta H (Eq3 e ta1 H1)) ∧ ∀ b, ACode.block i a = .loop b → ∀ n0, n0 ≤ H.length → ∀ c', comp P c' = some b → ALoop P n0 c' ta H (Eq3 e ta1 H1) := by
     intro e he hq
     refine ⟨h1, he, fun n0 hn c' hc' => ?_, by simp⟩
     have inv := QZ hc'
     simp only at inv
     obtain ⟨x, rfl, hx⟩ := inv
     refine AWp.block (AWp.mono (h3 n0 hn x hx) ?_)
     rintro _ _ _ ⟨rfl, rfl, rfl⟩
     exact hq
    cases e1 with
    | exit j =>
     simp only at h
     split at h
     ·
      rename_i hj
      simp only [Option.some.injEq, Prod.mk.injEq] at h
      obtain ⟨rfl, rfl, rfl⟩ := h
      refine fin _ (by simp) ?_
      simp only [AExit.blk, Nat.eq_of_beq_eq_true hj, if_true]
      exact ⟨rfl, rfl, rfl⟩
     ·
      rename_i hj
      simp only [Option.some.injEq, Prod.mk.injEq] at h
      obtain ⟨rfl, rfl, rfl⟩ := h
      refine fin _ (by simp) ?_
      have : ¬ j = i := fun e => by subst e; simp at hj
      simp only [AExit.blk, this, if_false]
      exact ⟨rfl, rfl, rfl⟩
    | goto l => exact (h2 l rfl).elim
    | _ =>
     simp only [Option.some.injEq, Prod.mk.injEq] at h
     obtain ⟨rfl, rfl, rfl⟩ := h
     exact fin _ h2 ⟨rfl, rfl, rfl⟩
  | loop a =>
   simp only [xcode] at h
   cases ha : xcode call n a ta H with
   | none => rw [ha] at h; cases h
   | some r =>
    obtain ⟨e1, ta1, H1⟩ := r
    obtain ⟨h1, h2, h3, h4⟩ := ih _ _ _ _ _ _ ha
    rw [ha] at h
    have fin : H.length ≤ H'.length → (∀ l, e ≠ .goto l) → (∀ n0, n0 ≤ H.length → ∀ c', comp P c' = some a → ALoop P n0 c' ta H (Eq3 e ta' H')) → H.length ≤ H'.length ∧ (∀ l, e ≠ .goto l) ∧ (∀ n0, n0 ≤ H.length → ∀ c', comp P c' = some (.loop a) → AWp P n0 c' ta H (Eq3 e ta' H')) ∧ ∀ b, ACode.loop a = .loop b → ∀ n0, n0 ≤ H.length → ∀ c', comp P c' = some b → ALoop P n0 c' ta H (Eq3 e ta' H') := by
     intro hl he hlp
     refine ⟨hl, he, fun n0 hn c' hc' => ?_, fun b hb => by cases hb; exact hlp⟩
     have inv := QZ hc'
     simp only at inv
     obtain ⟨x, rfl, hx⟩ := inv
     exact AWp.loop (hlp n0 hn x hx)
    cases e1 with
    | normal =>
     obtain ⟨g1, g2, g3, g4⟩ := ih _ _ _ _ _ _ h
     refine fin (by omega) g2 fun n0 hn c' hc' => ALoop.round (AWp.mono (h3 n0 hn c' hc') ?_)
     rintro _ _ _ ⟨rfl, rfl, rfl⟩
     exact g4 a rfl n0 (by omega) c' hc'
    | goto l => exact (h2 l rfl).elim
    | _ =>
     simp only [Option.some.injEq, Prod.mk.injEq] at h
     obtain ⟨rfl, rfl, rfl⟩ := h
     refine fin h1 h2 fun n0 hn c' hc' => ALoop.round (AWp.mono (h3 n0 hn c' hc') ?_)
     rintro _ _ _ ⟨rfl, rfl, rfl⟩
     exact ⟨rfl, rfl, rfl⟩
end
def TabOk (P : Program) (FT : FuncId → Option (ACode × Nat × List RV)) : Prop := ∀ f c N rs, FT f = some (c, N, rs) → ∃ fn, P.funcs[f]? = some fn ∧ (fn.name == "runtime.NumGoroutine") = false ∧ fn.body.bind (comp P) = some c ∧ fn.ntmps = N ∧ Xj P fn.results.toList = some rs

def RTabOk (P : Program) (RT : FuncId → Option (Nat × Nat × ACode × Nat)) : Prop := ∀ g t u ar Ng, RT g = some (t, u, ar, Ng) → RcvOk P (g, t, u, ar, Ng)
theorem Xpy {P : Program} {call : FuncId → List AV → List AObj → Option (AEnd × List AObj)} (hc : Xmx P call) {RT : FuncId → Option (Nat × Nat × ACode × Nat)} (hT : RTabOk P RT) {m : Nat} {rs : List RV} {rv : AV} {ta : ATm} {H : List AObj} {e : AEnd} {H' : List AObj}
  (h : xclo RT (xcode call m) rs rv ta H = some (e, H')) : H.length ≤ H'.length ∧ ∀ (n0 : Nat) (Q : AEnd → List AObj → Prop), n0 ≤ H.length → Q e H' → clo P n0 rs Q rv ta H := by
 unfold xclo at h
 split at h
 ·
  rename_i g caps hds
  split at h
  ·
   rename_i t u ar Ng hr
   split at h
   ·
    rename_i hcl
    have hcl' : caps.length ≤ Ng := Nat.le_of_ble_eq_true hcl
    have fin : ∀ e1 tc H2, xcode call m ar ⟨Ng, (u, rv) :: (t, rv) :: argl 0 caps, []⟩ H = some (e1, tc, H2) → (∀ (n0 : Nat) (Q : AEnd → List AObj → Prop), Q e H' → endR n0 rs Q ta e1 tc H2) → H2 = H' → H.length ≤ H'.length ∧ ∀ (n0 : Nat) (Q : AEnd → List AObj → Prop), n0 ≤ H.length → Q e H' → clo P n0 rs Q rv ta H := by
     intro e1 tc H2 hx he hh
     obtain ⟨h1, h2, h3, h4⟩ := Xd6 hc _ _ _ _ _ _ _ hx
     refine ⟨hh ▸ h1, fun n0 Q hle hQ => ⟨hle, g, caps, t, u, ar, Ng, hds, hT _ _ _ _ _ hr, hcl', fun hn c' hc' => AWp.mono (h3 _ hn c' hc') ?_⟩⟩
     rintro _ _ _ ⟨rfl, rfl, rfl⟩
     exact he n0 Q hQ
    split at h
    ·
     rename_i tc H2 hx
     split at h
     ·
      rename_i vs hd hvs
      simp only [Option.some.injEq, Prod.mk.injEq] at h
      obtain ⟨rfl, rfl⟩ := h
      exact fin _ _ _ hx (fun n0 Q hQ => ⟨hd, vs, hvs, _, _, RefV.refl _ _ _, hQ⟩) rfl
     ·
      cases h
    ·
     rename_i tc H2 hx
     split at h
     ·
      rename_i vs hd hvs
      simp only [Option.some.injEq, Prod.mk.injEq] at h
      obtain ⟨rfl, rfl⟩ := h
      exact fin _ _ _ hx (fun n0 Q hQ => ⟨hd, vs, hvs, _, _, RefV.refl _ _ _, hQ⟩) rfl
     ·
      cases h
    ·
     cases h
   ·
    cases h
  ·
   cases h
 ·
  cases h
theorem xfn_sound {P : Program} {FT : FuncId → Option (ACode × Nat × List RV)} (hT : TabOk P FT) {RT : FuncId → Option (Nat × Nat × ACode × Nat)} (hRT : RTabOk P RT) (m : Nat) : ∀ n, Xmx P (xfn FT RT m n) := by
 intro n
 induction n with
 | zero => intro f args H e H' h; cases h
 | succ n ih =>
  intro f args H e H' h
  simp only [xfn] at h
  split at h
  ·
   cases h
  ·
   rename_i c N rs hf
   obtain ⟨fn, g1, g2, g3, g4, g5⟩ := hT _ _ _ _ hf
   split at h
   ·
    cases h
   ·
    rename_i hN
    have hN' : args.length ≤ N := Nat.le_of_ble_eq_true hN
    obtain ⟨c', hb, hcomp⟩ := Option.bind_eq_some_iff.1 g3
    have fin : ∀ e1 ta1 H1, xcode (xfn FT RT m n) m c ⟨N, argl 0 args, []⟩ H = some (e1, ta1, H1) → (bodyA H.length rs (fun e2 H2 => e2 = e ∧ H2 = H') e1 ta1 H1) → H1 = H' → H.length ≤ H'.length ∧ Xa P f args H fun e2 H2 => e2 = e ∧ H2 = H' := by
     intro e1 ta1 H1 hx hbd he
     obtain ⟨h1, h2, h3, h4⟩ := Xd6 ih _ _ _ _ _ _ _ hx
     refine ⟨he ▸ h1, Xa.body g1 g2 hb g4 g5 hN' (AWp.mono (h3 _ (Nat.le_refl _) c' hcomp) ?_)⟩
     rintro _ _ _ ⟨rfl, rfl, rfl⟩
     exact hbd
    have finR : ∀ e1 ta1 H1 rv, xcode (xfn FT RT m n) m c ⟨N, argl 0 args, []⟩ H = some (e1, ta1, H1) → xclo RT (xcode (xfn FT RT m n) m) rs rv ta1 H1 = some (e, H') → (∀ (n0 : Nat) (Q : AEnd → List AObj → Prop), clo P n0 rs Q rv ta1 H1 → bodyR P n0 rs Q e1 ta1 H1) → H.length ≤ H'.length ∧ Xa P f args H fun e2 H2 => e2 = e ∧ H2 = H' := by
     intro e1 ta1 H1 rv hx hcl hbr
     obtain ⟨h1, h2, h3, h4⟩ := Xd6 ih _ _ _ _ _ _ _ hx
     obtain ⟨h5, h6⟩ := Xpy ih hRT hcl
     refine ⟨Nat.le_trans h1 h5, Xa.bodyR g1 g2 hb g4 g5 hN' (AWp.mono (h3 _ (Nat.le_refl _) c' hcomp) ?_)⟩
     rintro _ _ _ ⟨rfl, rfl, rfl⟩
     exact hbr _ _ (h6 _ _ h1 ⟨rfl, rfl⟩)
    split at h
    ·
     rename_i ta1 H1 hx
     split at h
     ·
      rename_i hds
      split at h
      ·
       rename_i vs hrs
       simp only [Option.some.injEq, Prod.mk.injEq] at h
       obtain ⟨rfl, rfl⟩ := h
       exact fin _ _ _ hx ⟨hds, vs, hrs, _, _, RefV.refl _ _ _, rfl, rfl⟩ rfl
      ·
       cases h
     ·
      exact finR _ _ _ _ hx h fun n0 Q hq => hq
    ·
     rename_i ta1 H1 hx
     split at h
     ·
      rename_i hds
      split at h
      ·
       rename_i vs hrs
       simp only [Option.some.injEq, Prod.mk.injEq] at h
       obtain ⟨rfl, rfl⟩ := h
       exact fin _ _ _ hx ⟨hds, vs, hrs, _, _, RefV.refl _ _ _, rfl, rfl⟩ rfl
      ·
       cases h
     ·
      exact finR _ _ _ _ hx h fun n0 Q hq => hq
    ·
     rename_i v ta1 H1 hx
     split at h
     ·
      rename_i hds
      simp only [Option.some.injEq, Prod.mk.injEq] at h
      obtain ⟨rfl, rfl⟩ := h
      exact fin _ _ _ hx ⟨hds, _, _, RefV.refl _ _ _, rfl, rfl⟩ rfl
     ·
      exact finR _ _ _ _ hx h fun n0 Q hq => hq
    ·
     cases h

def Xu (P : Program) (x : Nat × ACode × Nat × List RV) : Prop := ∃ fn, P.funcs[x.1]? = some fn ∧ (fn.name == "runtime.NumGoroutine") = false ∧ fn.body.bind (comp P) = some x.2.1 ∧ fn.ntmps = x.2.2.1 ∧ Xj P fn.results.toList = some x.2.2.2
def tabOf : List (Nat × ACode × Nat × List RV) → FuncId → Option (ACode × Nat × List RV)
 | [], _ => none
 | x :: l, f => match Nat.beq x.1 f with
  | true => some x.2
  | false => tabOf l f
def AllOk (P : Program) : List (Nat × ACode × Nat × List RV) → Prop
 | [] => True
 | x :: l => Xu P x ∧ AllOk P l
theorem tabOk {P : Program} : ∀ {l : List (Nat × ACode × Nat × List RV)}, AllOk P l → TabOk P (tabOf l)
 | [], _ => fun f c N rs h => by cases h
 | x :: l, h => fun f c N rs hf => by
  simp only [tabOf] at hf
  split at hf
  ·
   rename_i hb
   obtain ⟨fn, h1, h2⟩ := h.1
   rw [Nat.eq_of_beq_eq_true hb] at h1
   simp only [Option.some.injEq] at hf
   obtain ⟨i, c', N', rs'⟩ := x
   cases hf
   exact ⟨fn, h1, h2⟩
  ·
   exact tabOk h.2 f c N rs hf

def Xob : List (Nat × Nat × Nat × ACode × Nat) → FuncId → Option (Nat × Nat × ACode × Nat)
 | [], _ => none
 | x :: l, f => match Nat.beq x.1 f with
  | true => some x.2
  | false => Xob l f
def AllR (P : Program) : List (Nat × Nat × Nat × ACode × Nat) → Prop
 | [] => True
 | x :: l => RcvOk P x ∧ AllR P l
theorem rtabOk {P : Program} : ∀ {l : List (Nat × Nat × Nat × ACode × Nat)}, AllR P l → RTabOk P (Xob l)
 | [], _ => fun g t u ar Ng h => by cases h
 | x :: l, h => fun g t u ar Ng hf => by
  simp only [Xob] at hf
  split at hf
  ·
   rename_i hb
   have h1 := h.1
   obtain ⟨i, t', u', ar', N'⟩ := x
   have e := Nat.eq_of_beq_eq_true hb
   simp only [Option.some.injEq] at hf
   cases hf
   cases e
   exact h1
  ·
   exact rtabOk h.2 g t u ar Ng hf

def xbool (FT : FuncId → Option (ACode × Nat × List RV)) (RT : FuncId → Option (Nat × Nat × ACode × Nat)) (m n : Nat) (f : FuncId) (args : List AV) : Option Bool := match xfn FT RT m n f args [] with
 | some (.ret (.bool b), _) => some b
 | _ => none
def AEnd.val : AEnd → AV
 | .ret v => v
 | .pan v => v
def AEnd.put (v : AV) : AEnd → AEnd
 | .ret _ => .ret v
 | .pan _ => .pan v
theorem Xa.refv {P : Program} {f : FuncId} {args : List AV} {H : List AObj} {Q Q' : AEnd → List AObj → Prop} (h : Xa P f args H Q) (hq : ∀ e H1, Q e H1 → ∃ v2 H2, RefV H.length [e.val] H1 [v2] H2 ∧ Q' (e.put v2) H2) : Xa P f args H Q' :=
 ⟨h.1, fun G K ρ w us hR hV => by
  refine (h.2 G K ρ w us hR hV).mono ?_
  rintro e w' ⟨K', ρ', ae, H', hQ, hE, hN⟩
  obtain ⟨v2, H2, href, hQ2⟩ := hq _ _ hQ
  cases ae with
  | ret v =>
   cases e <;> try exact hE.elim
   rename_i u
   have hv : VR K' ρ' v u := hE
   obtain ⟨K1, ρ1, hv1, hN1⟩ := href G K' ρ' w' #[u] hN.rel (VRs.single.2 hv)
   exact ⟨K1, ρ1, .ret v2, H2, hQ2, VRs.single.1 hv1, hN.trans hN1 (Nat.le_refl _)⟩
  | pan v =>
   cases e <;> try exact hE.elim
   obtain ⟨u, rfl, hv⟩ := hE
   obtain ⟨K1, ρ1, hv1, hN1⟩ := href G K' ρ' w' #[u] hN.rel (VRs.single.2 hv)
   exact ⟨K1, ρ1, .pan v2, H2, hQ2, ⟨u, rfl, VRs.single.1 hv1⟩, hN.trans hN1 (Nat.le_refl _)⟩⟩
theorem Xa.toldR {P : Program} {l : List (Nat × ACode × Nat × List RV)} {r : List (Nat × Nat × Nat × ACode × Nat)} (hT : AllOk P l) (hR : AllR P r) {m n : Nat} {f : FuncId} {args : List AV} {b : Bool} (h : xbool (tabOf l) (Xob r) m n f args = some b) : Xa P f args [] fun e H => H = [] ∧ e = .ret (.bool b) := by
 unfold xbool at h
 split at h
 ·
  rename_i c H hx
  simp only [Option.some.injEq] at h
  subst h
  exact (xfn_sound (tabOk hT) (rtabOk hR) m n _ _ _ _ _ hx).2.refv fun e H he => by
   obtain ⟨rfl, rfl⟩ := he
   exact ⟨_, _, RefV.cut 0 (Nat.zero_le _) (Nat.zero_le _), rfl, rfl⟩
 ·
  cases h
end Go.Proofs.Ytcbhlpbkampfeaa.AI
