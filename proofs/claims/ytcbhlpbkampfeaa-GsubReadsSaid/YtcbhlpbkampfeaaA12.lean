import Derived.Test.YtcbhlpbkampfeaaE2
import Derived.Laws.StructEq
/- Part of a proof. -/
set_option linter.unusedVariables false
set_option linter.unusedSimpArgs false
namespace Go.Proofs.Ytcbhlpbkampfeaa.AI

section
variable {P : Program} {o : Oper} {a : Act} {w : World} {G : Gh} {K : (Nat → Option Obj)} {ρ : (Nat → Option Loc)} {H : List AObj}

theorem fill_VR {ta : ATm} (hA : AR K ρ ta a) {place : Nat → Option (Nat × Nat)} : ∀ (ps : List (Nat × Operand)) (qs : List (Nat × Nat × AX)) (cells cs : List AV) (cells' : Array Value), Xa5 place ps = some qs → VRs K ρ cells cells' → (∀ x ∈ cells', one x = true) →
  fillA cells (qs.map fun p => (p.1, p.2.1, p.2.2.ev ta)) = some cs → ∃ cs', Instr.fill place cells' (ps.map fun p => (p.1, a.eval p.2)) = some cs' ∧ VRs K ρ cs cs' ∧ ∀ x ∈ cs', one x = true
 | [], qs, cells, cs, cells', h, hV, h1, hf => by
  simp only [Xa5, Option.some.injEq] at h
  subst h
  simp only [List.map_nil, fillA, Option.some.injEq] at hf
  subst hf
  exact ⟨cells', rfl, hV, h1⟩
 | (i, x) :: ps, qs, cells, cs, cells', h, hV, h1, hf => by
  simp only [Xa5] at h
  cases hp : place i with
  | none => rw [hp] at h; cases h
  | some on =>
   obtain ⟨off, n⟩ := on
   cases hx : compX x with
   | none => rw [hp, hx] at h; cases h
   | some y =>
    cases hq : Xa5 place ps with
    | none => rw [hp, hx, hq] at h; cases h
    | some qs' =>
     rw [hp, hx, hq] at h
     simp only [Option.some.injEq] at h
     subst h
     simp only [List.map_cons, fillA] at hf
     cases hc : cellsOf (y.ev ta) with
     | none => rw [hc] at hf; cases hf
     | some vs =>
      rw [hc] at hf
      simp only at hf
      split at hf
      case isFalse => cases hf
      rename_i hcond
      obtain ⟨rfl, hle⟩ := hcond
      obtain ⟨hVv, hone⟩ := Xcf (Xp hA hx) hc
      have hs1 : (a.eval x).cells.size = vs.length := hVv.1.symm
      have hs2 : cells'.size = cells.length := hV.1.symm
      obtain ⟨g1, g2⟩ := Great.foldl_set off (a.eval x).cells.toList 0 cells'
      let r := (((a.eval x).cells.toList.zipIdx 0).foldl (fun cs (x : Value × Nat) => cs.setIfInBounds (off + x.2) x.1) cells')
      have hVr : VRs K ρ (splice cells off vs) r := by
       refine ⟨by rw [Xch hle]; simp only [r]; rw [g1]; exact hV.1, fun k v u hv hu => ?_⟩
       simp only [r] at hu
       rw [Xjj hle] at hv
       rw [g2 k] at hu
       simp only [Nat.add_zero, Array.length_toList, hs1] at hu
       by_cases hk : off ≤ k ∧ k < off + vs.length
       ·
        rw [if_pos hk] at hv
        rw [if_pos ⟨hk.1, hk.2, by omega⟩] at hu
        exact hVv.2 _ v u hv (by simpa using hu)
       ·
        rw [if_neg hk] at hv
        rw [if_neg (by omega)] at hu
        exact hV.2 k v u hv hu
      have h1r : ∀ x ∈ r, one x = true := by
       intro u hu
       obtain ⟨k, hk, rfl⟩ := Array.getElem_of_mem hu
       have e := g2 k
       have e2 : r[k]? = some r[k] := Array.getElem?_eq_getElem hk
       simp only [r] at e2 hk
       rw [e] at e2
       split at e2
       ·
        exact hone _ (by simpa using List.mem_of_getElem? e2)
       ·
        exact h1 _ (Array.mem_of_getElem? e2)
      obtain ⟨cs', e1, e2, e3⟩ := fill_VR hA ps qs' _ cs r hq hVr h1r hf
      refine ⟨cs', ?_, e2, e3⟩
      simp only [List.map_cons]
      unfold Instr.fill
      simp only [hp, hs1]
      rw [if_neg (by simp; omega), ← e1]
      congr 1
      simp only [r]
      rw [← Array.foldl_toList, Array.toList_zipIdx]

theorem Xhx : ∀ (fs : List Field) (ps : List (Nat × Nat)), Xfl P fs = some ps → (fs.mapM fun f => (do pure (f.offset, ← sizeOf f.type) : Sem (Nat × Nat))).run P w = .ok ps w
 | [], ps, h => by simp only [Xfl, Option.some.injEq] at h; subst h; simp
 | f :: fs, ps, h => by
  simp only [Xfl] at h
  cases h1 : sizeT P f.type with
  | none => rw [h1] at h; cases h
  | some n =>
   cases h2 : Xfl P fs with
   | none => rw [h1, h2] at h; cases h
   | some qs =>
    rw [h1, h2] at h
    simp only [Option.some.injEq] at h
    subst h
    have := Xhx fs qs h2
    simp only [List.mapM_cons, Sem.run_bind, run_sizeOf h1, Result.andThen_ok, Sem.run_pure, this]

theorem Xqd (hR : Rel G K ρ H w) {ta : ATm} (hA : AR K ρ ta a) {t : TypeId} {ps : Array (Nat × Operand)} {qs : List (Nat × Nat × AX)} {zs : List AV} {place : Nat → Option (Nat × Nat)} (hzero : zeroT P t = some zs) (hp : placeT P t = some place) (hq : Xa5 place ps.toList = some qs) (ho : o.op = .build t ps) :
  Good P o a w G K ρ H (evO ta H (.build zs qs)) := by
 simp only [evO]
 split
 case h_2 => exact trivial
 rename_i cs hcs
 obtain ⟨i2, z, hi2, hzz, hab⟩ := JM hzero
 obtain ⟨hVz, h1z, _⟩ := Xbs (K := K) (ρ := ρ) _ _ hab
 have hzr := Xci (P := P) hi2 hzz
 obtain ⟨cs', e1, e2, e3⟩ := fill_VR hA ps.toList qs zs cs z.cells hq (by simpa using hVz) (by simpa using h1z) hcs
 refine Good.val hR (u := .agg cs') ?_ (.agg e2.1 e3 (fun i v u hv hu => e2.2 i v u hv hu))
 have hparts : (ps.map fun (i, x) => (i, a.eval x)).toList = ps.toList.map fun p => (p.1, a.eval p.2) := by simp
 unfold placeT at hp
 split at hp
 ·
  rename_i fs hu
  simp only [Option.map_eq_some_iff] at hp
  obtain ⟨pl, h1, rfl⟩ := hp
  have hm : (fs.mapM fun f => (do pure (f.offset, ← sizeOf f.type) : Sem (Nat × Nat))).run P w = .ok pl.toArray w := by
   rw [Array.mapM_eq_mapM_toList, Sem.run_map, Xhx fs.toList pl h1]
   rfl
  have e1' : Instr.fill (pl.toArray[·]?) z.cells (ps.toList.map fun p => (p.1, a.eval p.2)) = some cs' := by
   rw [← e1]; congr 1; funext i; simp
  simp only [execOp, ho, Instr.build, Sem.run_bind, hzr, Result.andThen_ok, Sem.run_pure, Xc hu, hm, hparts, e1']
 ·
  rename_i len e hu
  simp only [Option.map_eq_some_iff] at hp
  obtain ⟨n, h1, rfl⟩ := hp
  simp only [execOp, ho, Instr.build, Sem.run_bind, hzr, Result.andThen_ok, Sem.run_pure, Xc hu, run_sizeOf h1, hparts, e1]
 ·
  cases hp

theorem compX_t {x : Operand} {m : Nat} (h : compX x = some (.t m)) : x = .tmp m := by
  unfold compX at h
  split at h
  · simp only [Option.some.injEq, AX.t.injEq] at h; rw [h]
  · simp only [Option.map_eq_some_iff, reduceCtorEq, and_false, exists_false] at h
  · simp only [Option.map_eq_some_iff, reduceCtorEq, and_false, exists_false] at h
  · simp at h
  · cases h

theorem Xfc {xs : List Operand} {x' : AX} (h : QD xs = some [x']) : ∃ x, xs = [x] ∧ compX x = some x' := by
 match xs, h with
 | [], h => simp [QD] at h
 | [x], h =>
  refine ⟨x, rfl, ?_⟩
  simp only [QD] at h
  cases h1 : compX x <;> simp [h1] at h
  rw [h]
 | x :: y :: r, h =>
  simp only [QD] at h
  split at h
  ·
   rename_i h1 h2
   split at h2
   ·
    simp_all
   ·
    cases h2
  ·
   cases h

theorem eqB_run {t : TypeId} (hu : P.underlying t = some .bool) (d : Nat) (p q : Bool) : (Op.equalIn (d + 1) t (.bool p) (.bool q)).run P w = .ok (p == q) w := by simp [Op.equalIn, Xc hu]
theorem eqP_run0 {t e : TypeId} (hu : P.underlying t = some (.pointer e)) (d : Nat) : (Op.equalIn (d + 1) t (.pointer none) (.pointer none)).run P w = .ok true w := by simp [Op.equalIn, Xc hu]
theorem eqP_run1 {t e : TypeId} (hu : P.underlying t = some (.pointer e)) (d : Nat) (ad : Addr) : (Op.equalIn (d + 1) t (.pointer none) (.pointer (some ad))).run P w = .ok false w := by simp [Op.equalIn, Xc hu]
theorem eqP_run2 {t e : TypeId} (hu : P.underlying t = some (.pointer e)) (d : Nat) (ad : Addr) : (Op.equalIn (d + 1) t (.pointer (some ad)) (.pointer none)).run P w = .ok false w := by simp [Op.equalIn, Xc hu]

theorem Xo1 (hR : Rel G K ρ H w) {ta : ATm} (hA : AR K ρ ta a) {t yt : TypeId} {x y : Operand} {x' y' : AX} {neg : Bool} (hx : compX x = some x') (hy : compX y = some y') (hu : P.underlying t = some .bool) (ho : (neg = false ∧ o.op = .binOp .eql t x y yt) ∨ (neg = true ∧ o.op = .binOp .neq t x y yt)) :
  Good P o a w G K ρ H (evO ta H (.eqb neg x' y')) := by
 have vx := Xp hA hx
 have vy := Xp hA hy
 simp only [evO]
 cases he : eqB (x'.ev ta) (y'.ev ta) with
 | none => exact trivial
 | some b =>
  unfold eqB at he
  split at he
  ·
   rename_i p q hxe hye
   rw [hxe] at vx
   rw [hye] at vy
   simp only [Option.some.injEq] at he
   subst he
   have heq : (Op.equal t (.bool p) (.bool q)).run P w = .ok (p == q) w := by
    exact eqB_run hu 9999 p q
   rcases ho with ⟨rfl, ho⟩ | ⟨rfl, ho⟩
   ·
    refine Good.val hR (u := .bool ((p == q) != false)) ?_ .bool
    simp [execOp, ho, QW vx, QW vy, eqGuard, binOp, heq]
   ·
    refine Good.val hR (u := .bool ((p == q) != true)) ?_ .bool
    simp [execOp, ho, QW vx, QW vy, eqGuard, binOp, heq]
  ·
   cases he

theorem Xoz (hR : Rel G K ρ H w) {ta : ATm} (hA : AR K ρ ta a) {t yt e : TypeId} {x y : Operand} {x' y' : AX} {neg : Bool} (hx : compX x = some x') (hy : compX y = some y') (hu : P.underlying t = some (.pointer e)) (ho : (neg = false ∧ o.op = .binOp .eql t x y yt) ∨ (neg = true ∧ o.op = .binOp .neq t x y yt)) :
  Good P o a w G K ρ H (evO ta H (.eqp neg x' y')) := by
 have vx := Xp hA hx
 have vy := Xp hA hy
 have fin : ∀ (p q : Option Addr) (b : Bool), a.eval x = .pointer p → a.eval y = .pointer q → (Op.equal t (.pointer p) (.pointer q)).run P w = .ok b w → Good P o a w G K ρ H (.ok (.bool (b != neg)) H) := by
  intro p q b h1 h2 h3
  rcases ho with ⟨rfl, ho⟩ | ⟨rfl, ho⟩
  ·
   refine Good.val hR (u := .bool (b != false)) ?_ .bool
   simp [execOp, ho, h1, h2, eqGuard, binOp, h3]
  ·
   refine Good.val hR (u := .bool (b != true)) ?_ .bool
   simp [execOp, ho, h1, h2, eqGuard, binOp, h3]
 have some_of_ptr : ∀ {id e j : Nat} {u : Value}, VR K ρ (.ptr id e j) u → ∃ ad, u = .pointer (some ad) := by
  intro id e j u h
  obtain ⟨l, _, h⟩ := Xh5 h
  exact ⟨_, h⟩
 have some_of_vptr : ∀ {el : List AV} {j : Nat} {u : Value}, VR K ρ (.vptr el j) u → ∃ ad, u = .pointer (some ad) := by
  intro el j u h
  cases h with | vptr ad g h1 h2 h3 => exact ⟨_, rfl⟩
 have e1 : (Op.equal t (.pointer none) (.pointer none)).run P w = .ok true w := by
  exact eqP_run0 hu 9999
 have e2 : ∀ ad, (Op.equal t (.pointer none) (.pointer (some ad))).run P w = .ok false w := by
  intro ad
  exact eqP_run1 hu 9999 ad
 have e3 : ∀ ad, (Op.equal t (.pointer (some ad)) (.pointer none)).run P w = .ok false w := by
  intro ad
  exact eqP_run2 hu 9999 ad
 simp only [evO]
 cases he : eqP (x'.ev ta) (y'.ev ta) with
 | none => exact trivial
 | some b =>
  unfold eqP at he
  split at he
  ·
   rename_i hxe hye
   rw [hxe] at vx; rw [hye] at vy
   cases he
   exact fin _ _ _ (Xdt vx) (Xdt vy) e1
  ·
   rename_i hxe hye
   rw [hxe] at vx; rw [hye] at vy
   cases he
   obtain ⟨ad, h1⟩ := some_of_ptr vy
   exact fin _ _ _ (Xdt vx) h1 (e2 ad)
  ·
   rename_i hxe hye
   rw [hxe] at vx; rw [hye] at vy
   cases he
   obtain ⟨ad, h1⟩ := some_of_ptr vx
   exact fin _ _ _ h1 (Xdt vy) (e3 ad)
  ·
   rename_i hxe hye
   rw [hxe] at vx; rw [hye] at vy
   cases he
   obtain ⟨ad, h1⟩ := some_of_vptr vy
   exact fin _ _ _ (Xdt vx) h1 (e2 ad)
  ·
   rename_i hxe hye
   rw [hxe] at vx; rw [hye] at vy
   cases he
   obtain ⟨ad, h1⟩ := some_of_vptr vx
   exact fin _ _ _ h1 (Xdt vy) (e3 ad)
  ·
   cases he

theorem Xj5 {d : Nat} {cs ds : List AV} {xs ys : Array Value} (hx : VRs K ρ cs xs) (hy : VRs K ρ ds ys) (ox : ∀ u ∈ xs, one u = true) (oy : ∀ u ∈ ys, one u = true) : ∀ (fs : List Field) (i : Nat) (ks : List Nat) (r : Bool), tagsF P i fs = some ks → Yy ks (cs.drop i) (ds.drop i) = some r → (Op.eqFields (d + 1) xs ys fs).run P w = .ok r w
 | [], i, ks, r, h, he => by
  simp only [tagsF, Option.some.injEq] at h
  subst h
  simp only [Yy, Option.some.injEq] at he
  subst he
  simp [Op.eqFields]
 | f :: fs, i, ks, r, h, he => by
  simp only [tagsF] at h
  split at h
  ·
   rename_i hc
   obtain ⟨rfl, hn, hsz, hag⟩ := hc
   have hn' : f.name ≠ "_" := by simpa using hn
   have step : ∀ (k : Nat) (ks' : List Nat), tagsF P (f.offset + 1) fs = some ks' → ks = k :: ks' → (∀ (a b : AV) (u v : Value) (q : Bool), eqTag k a b = some q → VR K ρ a u → VR K ρ b v → (Op.equalIn (d + 1) f.type u v).run P w = .ok q w) → (Op.eqFields (d + 1) xs ys (f :: fs)).run P w = .ok r w := by
    intro k ks' ht hk hq
    subst hk
    cases hcd : cs.drop f.offset with
    | nil => rw [hcd] at he; simp [Yy] at he
    | cons a cs' =>
     cases hdd : ds.drop f.offset with
     | nil => rw [hcd, hdd] at he; simp [Yy] at he
     | cons b ds' =>
      rw [hcd, hdd] at he
      simp only [Yy] at he
      have hcl : f.offset + 1 ≤ cs.length := by
       have := congrArg List.length hcd
       simp only [List.length_drop, List.length_cons] at this
       omega
      have hdl : f.offset + 1 ≤ ds.length := by
       have := congrArg List.length hdd
       simp only [List.length_drop, List.length_cons] at this
       omega
      obtain ⟨u, hu, hvu⟩ := Xbg (P := P) hsz hag (fun _ => rfl) hx ox hcl w
      obtain ⟨v, hv, hvv⟩ := Xbg (P := P) hsz hag (fun _ => rfl) hy oy hdl w
      rw [hcd] at hvu
      rw [hdd] at hvv
      have e1 : cs.drop (f.offset + 1) = cs' := by rw [← List.drop_drop, hcd]; rfl
      have e2 : ds.drop (f.offset + 1) = ds' := by rw [← List.drop_drop, hdd]; rfl
      cases hq1 : eqTag k a b with
      | none => rw [hq1] at he; cases he
      | some q =>
       cases hq2 : Yy ks' cs' ds' with
       | none => rw [hq1, hq2] at he; cases he
       | some q2 =>
        rw [hq1, hq2] at he
        simp only [Option.some.injEq] at he
        subst he
        have hr := Xj5 (d := d) hx hy ox oy fs (f.offset + 1) ks' q2 ht (by rw [e1, e2]; exact hq2)
        have hqr := hq a b u v q hq1 hvu hvv
        rw [Op.eqFields]
        simp only [if_pos hn', Sem.run_bind, hu, hv, hqr, Result.andThen_ok]
        cases q
        ·
         simp
        ·
         simpa using hr
   split at h
   ·
    rename_i k ks' hu ht
    simp only [Option.some.injEq] at h
    refine step 0 _ ht h.symm fun a b u v q hq ha hb => ?_
    cases a <;> cases b <;> simp only [eqTag, reduceCtorEq] at hq
    split at hq
    ·
     rename_i hd
     subst hd
     simp only [Option.some.injEq] at hq
     subst hq
     cases Zm ha
     cases Zm hb
     simp only [Op.equalIn, Sem.run_bind, Xc hu, Result.andThen_ok, if_true]
     rfl
    ·
     cases hq
   ·
    rename_i ks' hu ht
    simp only [Option.some.injEq] at h
    refine step 1 _ ht h.symm fun a b u v q hq ha hb => ?_
    cases a <;> cases b <;> simp only [eqTag, reduceCtorEq, Option.some.injEq] at hq
    subst hq
    cases QW ha
    cases QW hb
    exact eqB_run hu d _ _
   ·
    rename_i ks' hu ht
    simp only [Option.some.injEq] at h
    refine step 2 _ ht h.symm fun a b u v q hq ha hb => ?_
    cases a <;> cases b <;> simp only [eqTag, reduceCtorEq, Option.some.injEq] at hq
    subst hq
    cases ha
    cases hb
    simp only [Op.equalIn, Sem.run_bind, Xc hu, Result.andThen_ok]
    rfl
   ·
    cases h
  ·
   cases h

theorem Xoy (hR : Rel G K ρ H w) {ta : ATm} (hA : AR K ρ ta a) {t yt : TypeId} {fs : Array Field} {ks : List Nat} {x y : Operand} {x' y' : AX} {neg : Bool} (hx : compX x = some x') (hy : compX y = some y') (hu : P.underlying t = some (.struct fs)) (ht : tagsF P 0 fs.toList = some ks) (hs : P.stoodInHeld t = false) (hg : P.eqGuardType P.depth t = false)
  (ho : (neg = false ∧ o.op = .binOp .eql t x y yt) ∨ (neg = true ∧ o.op = .binOp .neq t x y yt)) : Good P o a w G K ρ H (evO ta H (.eqs neg ks x' y')) := by
 have vx := Xp hA hx
 have vy := Xp hA hy
 simp only [evO]
 cases he : eqS ks (x'.ev ta) (y'.ev ta) with
 | none => exact trivial
 | some b =>
  unfold eqS at he
  split at he
  ·
   rename_i cs ds hxe hye
   rw [hxe] at vx
   rw [hye] at vy
   obtain ⟨xs, hxu, hVx, h1x⟩ := Xa2 vx
   obtain ⟨ys, hyu, hVy, h1y⟩ := Xa2 vy
   have hf : P.fieldsOf t = fs := by simp [Program.fieldsOf, hu]
   have heq : (Op.equal t (.agg xs) (.agg ys)).run P w = .ok b w := by
    show (Op.equalIn (9999 + 1) t (.agg xs) (.agg ys)).run P w = _
    rw [run_equalIn_struct (P := P) w 9999 t xs ys (by rw [hf]; exact hu) hs, hf]
    exact Xj5 (d := 9998) hVx hVy h1x h1y fs.toList 0 ks b ht (by simpa using he)
   rcases ho with ⟨rfl, ho⟩ | ⟨rfl, ho⟩
   ·
    refine Good.val hR (u := .bool (b != false)) ?_ .bool
    simp [execOp, ho, hxu, hyu, eqGuard, binOp, heq, hg]
   ·
    refine Good.val hR (u := .bool (b != true)) ?_ .bool
    simp [execOp, ho, hxu, hyu, eqGuard, binOp, heq, hg]
  ·
   cases he

theorem Xo0 (hR : Rel G K ρ H w) {ta : ATm} (hA : AR K ρ ta a) {t yt : TypeId} {ks : List Nat} {x y : Operand} {x' y' : AX} {neg : Bool} (hx : compX x = some x') (hy : compX y = some y') (hk : flatK P 6 t = some ks) (ha : Qi P t = some true) (hg : P.eqGuardType P.depth t = false)
  (ho : (neg = false ∧ o.op = .binOp .eql t x y yt) ∨ (neg = true ∧ o.op = .binOp .neq t x y yt)) : Good P o a w G K ρ H (evO ta H (.eqs neg ks x' y')) := by
 have vx := Xp hA hx
 have vy := Xp hA hy
 simp only [evO]
 cases he : eqS ks (x'.ev ta) (y'.ev ta) with
 | none => exact trivial
 | some b =>
  unfold eqS at he
  split at he
  ·
   rename_i cs ds hxe hye
   rw [hxe] at vx
   rw [hye] at vy
   have heq : (Op.equal t (a.eval x) (a.eval y)).run P w = .ok b w := Xk1 (P := P) 6 10000 (by omega) K ρ t ks true cs ds _ _ b w hk ha vx vy he
   obtain ⟨xs, hxu, hVx, h1x⟩ := Xa2 vx
   obtain ⟨ys, hyu, hVy, h1y⟩ := Xa2 vy
   rw [hxu, hyu] at heq
   rcases ho with ⟨rfl, ho⟩ | ⟨rfl, ho⟩
   ·
    refine Good.val hR (u := .bool (b != false)) ?_ .bool
    simp [execOp, ho, hxu, hyu, eqGuard, binOp, heq, hg]
   ·
    refine Good.val hR (u := .bool (b != true)) ?_ .bool
    simp [execOp, ho, hxu, hyu, eqGuard, binOp, heq, hg]
  ·
   cases he

theorem good_op0 (hR : Rel G K ρ H w) {ta : ATm} (hA : AR K ρ ta a) {x : AOp} (h : Xfx P o.op = some x) : Good P o a w G K ρ H (evO ta H x) := by
 have mapX : ∀ {y : Operand} {f : AX → AOp}, (compX y).map f = some x → ∃ z, compX y = some z ∧ f z = x := fun h => Option.map_eq_some_iff.1 h
 cases ho : o.op <;> rw [ho] at h <;> simp only [Xfx, reduceCtorEq] at h
 case move y => obtain ⟨z, h1, rfl⟩ := mapX h; exact Xow hR hA h1 (.inl ho)
 case assign y => obtain ⟨z, h1, rfl⟩ := mapX h; exact Xow hR hA h1 (.inr ho)
 case pick c y z =>
  split at h
  ·
   simp only [Option.some.injEq] at h; subst h; exact good_pick hR hA ‹_› ‹_› ‹_› ho
  ·
   cases h
 case alloc e =>
  simp only [Option.map_eq_some_iff] at h
  obtain ⟨zs, h1, rfl⟩ := h
  exact good_new hR h1 ho
 case box e y => obtain ⟨z, h1, rfl⟩ := mapX h; exact good_box hR hA h1 ho
 case build t ps =>
  split at h
  ·
   rename_i h1 h2
   simp only [Option.map_eq_some_iff] at h
   obtain ⟨qs, h3, rfl⟩ := h
   exact Xqd hR hA h1 h2 h3 ho
  ·
   cases h
 case buildSlice t len ps =>
  split at h
  ·
   rename_i hu
   split at h
   ·
    rename_i h1 h2 h3
    split at h
    ·
     rename_i hc
     simp only [Option.some.injEq] at h
     subst h
     split
     ·
      exact good_litr hR hA hu h1 h2 hc.2.2.2 h3 hc.1 hc.2.1 hc.2.2.1 ho
     ·
      exact good_lits hR hA hu h1 h2 hc.2.2.2 h3 hc.1 hc.2.1 hc.2.2.1 ho
    ·
     cases h
   ·
    cases h
  ·
   cases h
 case load t y =>
  split at h
  ·
   simp only [Option.some.injEq] at h; subst h; exact Xl3 hR hA ‹_› ‹_› ‹_› (by simp) ho
  ·
   simp only [Option.some.injEq] at h; subst h; exact Xl3 hR hA ‹_› ‹_› ‹_› (by simp) ho
  ·
   cases h
 case store t p y =>
  split at h
  ·
   simp only [Option.some.injEq] at h; subst h; exact Xqb hR hA ‹_› ‹_› ‹_› ho
  ·
   cases h
 case binOp op t y z yt =>
  split at h
  ·
   split at h
   ·
    simp only [Option.some.injEq] at h; subst h; exact Xo2 hR hA ‹_› ‹_› ho
   ·
    simp only [Option.some.injEq] at h; subst h; exact Xo2 hR hA ‹_› ‹_› ho
   ·
    simp only [Option.some.injEq] at h; subst h; exact Xo1 hR hA ‹_› ‹_› ‹_› (.inl ⟨rfl, ho⟩)
   ·
    simp only [Option.some.injEq] at h; subst h; exact Xo1 hR hA ‹_› ‹_› ‹_› (.inr ⟨rfl, ho⟩)
   ·
    simp only [Option.some.injEq] at h; subst h; exact Xoz hR hA ‹_› ‹_› ‹_› (.inl ⟨rfl, ho⟩)
   ·
    simp only [Option.some.injEq] at h; subst h; exact Xoz hR hA ‹_› ‹_› ‹_› (.inr ⟨rfl, ho⟩)
   ·
    split at h
    ·
     split at h
     ·
      rename_i hc
      simp only [Option.some.injEq] at h; subst h; exact Xoy hR hA ‹_› ‹_› ‹_› ‹_› hc.1 hc.2 (.inl ⟨rfl, ho⟩)
     ·
      cases h
    ·
     cases h
   ·
    split at h
    ·
     split at h
     ·
      rename_i hc
      simp only [Option.some.injEq] at h; subst h; exact Xoy hR hA ‹_› ‹_› ‹_› ‹_› hc.1 hc.2 (.inr ⟨rfl, ho⟩)
     ·
      cases h
    ·
     cases h
   ·
    cases h
  ·
   cases h
 case unOp op t y => obtain ⟨z, h1, rfl⟩ := mapX h; exact good_un hR hA h1 ho
 case convert s d y =>
  split at h
  ·
   simp only [Option.some.injEq] at h; subst h; exact good_conv hR hA ‹_› ‹_› ‹_› ho
  ·
   cases h
 case makeInterface t y =>
  split at h
  ·
   cases h
  ·
   rename_i d hne hd
   obtain ⟨z, h1, rfl⟩ := mapX h
   exact good_mkif hR hA h1 hd (fun ms e => by subst e; exact hne _ rfl) ho
  ·
   cases h
 case makeFunc f y z =>
  split at h
  ·
   simp only [Option.some.injEq] at h; subst h; exact good_mkfn hR hA ‹_› ‹_› ho
  ·
   cases h
 case makeSlice t l c =>
  split at h
  ·
   rename_i h1 h2 h3
   split at h
   ·
    rename_i h4 h5 h6
    split at h
    ·
     split at h
     ·
      rename_i hc
      simp only [Option.some.injEq] at h
      subst h
      obtain ⟨rfl, c1, c2, c3⟩ := hc
      exact Xl2 hR hA h2 (by rw [compX_t h2, compX_t h3]) h1 h4 h5 h6 c1 c2 c3 ho
     ·
      cases h
    ·
     split at h
     ·
      rename_i hc
      simp only [Option.some.injEq] at h
      subst h
      obtain ⟨rfl, rfl, c1, c2, c3⟩ := hc
      have e1 := Zm (Xp hA h2)
      have e2 := Zm (Xp hA h3)
      exact Xl2 hR hA h2 (e2.trans e1.symm) h1 h4 h5 h6 c1 c2 c3 ho
     ·
      cases h
    ·
     cases h
   ·
    cases h
  ·
   cases h
 case slice t y lo hi mx =>
  split at h
  ·
   split at h
   ·
    split at h
    ·
     rename_i hc
     simp only [Option.some.injEq] at h
     subst h
     refine good_sl hR hA ‹_› ‹_› ‹_› ‹_› (fun h1 h2 => ?_) ‹_› ‹_› hc.1 ho
     rcases hc.2 with h3 | h3
     ·
      simp at h3; exact h1 h3
     ·
      rw [h2] at h3; cases h3
    ·
     cases h
   ·
    cases h
  ·
   simp only [Option.some.injEq] at h; subst h; exact good_ssl hR hA ‹_› ‹_› ‹_› ‹_› ‹_› ho
  ·
   cases h
 case fieldAddr t y i =>
  split at h
  ·
   split at h
   ·
    split at h
    ·
     simp only [Option.some.injEq] at h; subst h; exact good_fld hR hA ‹_› ‹_› ‹_› ‹_› ho
    ·
     cases h
   ·
    cases h
  ·
   cases h
 case field t y i =>
  split at h
  ·
   split at h
   ·
    split at h
    ·
     simp only [Option.some.injEq] at h; subst h; exact Xl1 hR hA ‹_› ‹_› ‹_› ‹_› ‹_› (by simp) ho
    ·
     simp only [Option.some.injEq] at h; subst h; exact Xl1 hR hA ‹_› ‹_› ‹_› ‹_› ‹_› (by simp) ho
    ·
     cases h
   ·
    cases h
  ·
   cases h
 case indexAddr t y i =>
  split at h
  ·
   split at h
   ·
    split at h
    ·
     simp only [Option.some.injEq] at h; subst h; exact good_idx hR hA ‹_› ‹_› ‹_› ‹_› ho
    ·
     cases h
   ·
    cases h
  ·
   split at h
   ·
    split at h
    ·
     simp only [Option.some.injEq] at h; subst h; exact good_idxa hR hA ‹_› ‹_› ‹_› ‹_› ho
    ·
     cases h
   ·
    cases h
  ·
   cases h
 case index t y i =>
  split at h
  ·
   split at h
   ·
    simp only [Option.some.injEq] at h; subst h; exact Xl4 hR hA ‹_› ‹_› ‹_› ‹_› ‹_› (by simp) ho
   ·
    simp only [Option.some.injEq] at h; subst h; exact Xl4 hR hA ‹_› ‹_› ‹_› ‹_› ‹_› (by simp) ho
   ·
    cases h
  ·
   simp only [Option.some.injEq] at h; subst h; exact good_sidx hR hA ‹_› ‹_› ‹_› ho
  ·
   cases h
 case extract y i => obtain ⟨z, h1, rfl⟩ := mapX h; exact good_ext hR hA h1 ho
 case panic y => obtain ⟨z, h1, rfl⟩ := mapX h; exact good_pan hR hA h1 ho
 case nilCheck y => obtain ⟨z, h1, rfl⟩ := mapX h; exact good_nchk hR hA h1 ho
 case call c =>
  split at h
  ·
   simp only [Option.some.injEq] at h; subst h; exact good_call hR hA ‹_› ‹_› ho
  ·
   simp only [Option.some.injEq] at h; subst h; exact Xqc hR hA ‹_› ‹_› ho
  ·
   rename_i x' hc hx
   obtain ⟨y, e1, e2⟩ := Xfc hx
   split at h
   ·
    rename_i hb
    obtain ⟨t, h0, hd⟩ := Option.bind_eq_some_iff.1 hb
    simp only [Option.some.injEq] at h; subst h
    exact Xox hR hA e2 hc e1 h0 hd (.inl ⟨rfl, rfl⟩) ho
   ·
    rename_i hb
    obtain ⟨t, h0, hd⟩ := Option.bind_eq_some_iff.1 hb
    simp only [Option.some.injEq] at h; subst h
    exact Xox hR hA e2 hc e1 h0 hd (.inr ⟨rfl, _, rfl⟩) ho
   ·
    cases h
  ·
   rename_i x' y' hc hx
   obtain ⟨y, z, e1, e2, e3⟩ := Xfv hx
   split at h
   ·
    rename_i hb1 hb2
    obtain ⟨t, h0, hd⟩ := Option.bind_eq_some_iff.1 hb1
    obtain ⟨t2, h1, hd1⟩ := Option.bind_eq_some_iff.1 hb2
    split at h
    ·
     rename_i h4 h5 h6
     split at h
     ·
      rename_i hcc
      simp only [Option.some.injEq] at h; subst h
      exact good_app hR hA e2 e3 hc e1 h0 h1 hd hd1 h4 h5 h6 hcc.1 hcc.2.1 hcc.2.2 ho
     ·
      cases h
    ·
     cases h
   ·
    cases h
  ·
   rename_i x' y' hc hx
   obtain ⟨y, z, e1, e2, e3⟩ := Xfv hx
   simp only [Option.some.injEq] at h; subst h
   exact Xic hR hA e2 e3 (by simpa using hc) e1 ho
  ·
   rename_i x' y' hc hx
   obtain ⟨y, z, e1, e2, e3⟩ := Xfv hx
   simp only [Option.some.injEq] at h; subst h
   exact Xic hR hA e2 e3 (by simpa using hc) e1 ho
  ·
   cases h
theorem eqS_run {t e : TypeId} (hu : P.underlying t = some (.slice e)) (n : Nat) (A : Option Addr) (l c : Nat) : (Op.equalIn (n + 1) t (.slice A l c) (.slice none 0 0)).run P w = .ok A.isNone w := by
 cases A with
 | none => simp [Op.equalIn, Xc hu]
 | some ad => simp [Op.equalIn, Xc hu]
theorem Xjv (hR : Rel G K ρ H w) {ta : ATm} (hA : AR K ρ ta a) {t yt e : TypeId} {x : Operand} {x' : AX} {neg : Bool} (hx : compX x = some x') (hu : P.underlying t = some (.slice e)) (ho : (neg = false ∧ o.op = .binOp .eql t x (.const (.slice none 0 0)) yt) ∨ (neg = true ∧ o.op = .binOp .neq t x (.const (.slice none 0 0)) yt)) :
  Good P o a w G K ρ H (evO ta H (.isnil neg x')) := by
 have vx := Xp hA hx
 have fin : ∀ (A : Option Addr) (l c : Nat), a.eval x = .slice A l c → (execOp a.eval o).run P w = .ok (.value (.bool (A.isNone != neg))) w := by
  intro A l c h1
  have h3 : (Op.equal t (.slice A l c) (.slice none 0 0)).run P w = .ok A.isNone w := eqS_run hu 9999 A l c
  have h2 : a.eval (.const (.slice none 0 0)) = .slice none 0 0 := rfl
  rcases ho with ⟨rfl, ho⟩ | ⟨rfl, ho⟩
  ·
   simp [execOp, ho, h1, h2, eqGuard, binOp, h3]
  ·
   simp [execOp, ho, h1, h2, eqGuard, binOp, h3]
 simp only [evO]
 split
 ·
  rename_i c es he
  rw [he] at vx
  generalize hu0 : a.eval x = u at vx
  cases vx with
  | @vec _ _ _ A c0 ad sz g h1 h2 h3 h4 h5 h6 h7 =>
   have hf := fin A _ _ hu0
   split
   ·
    exact Good.val hR hf .anyb
   ·
    rename_i hne
    have hA2 : A = some ad := h3.resolve_left (fun e => hne (by simp [e]))
    subst hA2
    have := Good.val hR hf .bool
    simpa using this
 ·
  rename_i id off len he
  rw [he] at vx
  obtain ⟨l, A, c, h1, h2, h3, h4⟩ := Xh4 vx
  have hf := fin A _ _ h4
  split
  ·
   exact Good.val hR hf .anyb
  ·
   rename_i hne
   rcases h3 with h3 | ⟨h3, _⟩
   ·
    omega
   ·
    subst h3
    have := Good.val hR hf .bool
    simpa using this
 ·
  exact trivial
theorem eqI_run0 {t : TypeId} {ms : Array (String × TypeId)} (hu : P.underlying t = some (.interface ms)) (n : Nat) : (Op.equalIn (n + 1) t .nilIface .nilIface).run P w = .ok true w := by simp [Op.equalIn, Xc hu]
theorem eqI_run1 {t : TypeId} {ms : Array (String × TypeId)} (hu : P.underlying t = some (.interface ms)) (n : Nat) (t' : TypeId) (u : Value) : (Op.equalIn (n + 1) t (.iface t' u) .nilIface).run P w = .ok false w := by simp [Op.equalIn, Xc hu]
theorem Xjw (hR : Rel G K ρ H w) {ta : ATm} (hA : AR K ρ ta a) {t yt : TypeId} {ms : Array (String × TypeId)} {x : Operand} {x' : AX} {neg : Bool} (hx : compX x = some x') (hu : P.underlying t = some (.interface ms)) (ho : (neg = false ∧ o.op = .binOp .eql t x (.const .nilIface) yt) ∨ (neg = true ∧ o.op = .binOp .neq t x (.const .nilIface) yt)) :
  Good P o a w G K ρ H (evO ta H (.ifnil neg x')) := by
 have vx := Xp hA hx
 have h2 : a.eval (.const .nilIface) = .nilIface := rfl
 simp only [evO]
 split
 ·
  rename_i he
  rw [he] at vx
  have h3 : (Op.equal t .nilIface .nilIface).run P w = .ok true w := eqI_run0 hu 9999
  refine Good.val hR (u := .bool (!neg)) ?_ .bool
  rcases ho with ⟨rfl, ho⟩ | ⟨rfl, ho⟩
  ·
   simp [execOp, ho, Xl0 vx, h2, eqGuard, binOp, h3]
  ·
   simp [execOp, ho, Xl0 vx, h2, eqGuard, binOp, h3]
 ·
  rename_i t' v he
  rw [he] at vx
  obtain ⟨u', hu', hv⟩ := Xev vx
  have h3 : (Op.equal t (.iface t' u') .nilIface).run P w = .ok false w := eqI_run1 hu 9999 _ _
  refine Good.val hR (u := .bool neg) ?_ .bool
  rcases ho with ⟨rfl, ho⟩ | ⟨rfl, ho⟩
  ·
   simp [execOp, ho, hu', h2, eqGuard, binOp, h3]
  ·
   simp [execOp, ho, hu', h2, eqGuard, binOp, h3]
 ·
  exact trivial
theorem good_tas (hR : Rel G K ρ H w) {ta : ATm} (hA : AR K ρ ta a) {xt t : TypeId} {fs : Array Field} {x : Operand} {x' : AX} (hx : compX x = some x') (hu : P.underlying t = some (.struct fs)) (ho : o.op = .typeAssert x xt t true) :
  Good P o a w G K ρ H (evO ta H (.tas t x')) := by
 have vx := Xp hA hx
 simp only [evO]
 split
 ·
  rename_i t' v he
  rw [he] at vx
  obtain ⟨u', hu', hv⟩ := Xev vx
  split
  ·
   rename_i ht
   subst ht
   refine Good.val hR (u := .tuple #[u', .bool true]) ?_ (.tup rfl ?_)
   ·
    simp [execOp, ho, Instr.typeAssert, Xc hu, hu']
   ·
    intro i v1 u1 h1 h2
    match i, h1, h2 with
    | 0, h1, h2 => simp at h1 h2; subst h1 h2; exact hv
    | 1, h1, h2 => simp at h1 h2; subst h1 h2; exact .bool
    | i + 2, h1, h2 => simp at h1
  ·
   exact trivial
 ·
  exact trivial
theorem good_late (hR : Rel G K ρ H w) {ta : ATm} (hA : AR K ρ ta a) : Good P o a w G K ρ H (evO ta H (Xgz P o.op)) := by
 unfold Xgz
 split
 ·
  rename_i op t x y yt ho
  split
  ·
   rename_i hx hy hk ha
   split
   ·
    exact Xo0 hR hA hx hy hk ha ‹_› (.inl ⟨rfl, ho⟩)
   ·
    exact Xo0 hR hA hx hy hk ha ‹_› (.inr ⟨rfl, ho⟩)
   ·
    exact trivial
  ·
   exact trivial
 ·
  rename_i ho
  split
  ·
   exact Xju hR ‹_› (.inl rfl) ho
  ·
   exact trivial
 ·
  rename_i ho
  split
  ·
   exact Xju hR ‹_› (.inr ⟨_, _, rfl⟩) ho
  ·
   exact trivial
 ·
  rename_i ho
  split
  ·
   rename_i hu hx hi
   split
   ·
    exact good_mlk hR hA hx hi hu ‹_› ‹_› ho
   ·
    exact trivial
  ·
   exact trivial
 ·
  rename_i ho
  split
  ·
   rename_i hu hx hi hy
   split
   ·
    exact Xov hR hA hx hi hy hu ‹_› (.inl ho)
   ·
    exact trivial
  ·
   exact trivial
 ·
  rename_i ho
  split
  ·
   rename_i hu hx hi hy
   split
   ·
    exact Xov hR hA hx hi hy hu ‹_› (.inr ho)
   ·
    exact trivial
  ·
   exact trivial
 ·
  rename_i c ho
  split
  ·
   rename_i x' t1 t2 hc hx ht
   obtain ⟨x, e1, e2⟩ := Xfc hx
   obtain ⟨t, h0, hu⟩ := Option.bind_eq_some_iff.1 ht
   exact good_mlen hR hA e2 hc e1 h0 hu ho
  ·
   exact trivial
 ·
  exact trivial
theorem good_op (hR : Rel G K ρ H w) {ta : ATm} (hA : AR K ρ ta a) {x : AOp} (h : Xce P o.op = some x) : Good P o a w G K ρ H (evO ta H x) := by
 unfold Xce at h
 cases h0 : Xfx P o.op with
 | some y => rw [h0] at h; simp only [Option.some.injEq] at h; subst h; exact good_op0 hR hA h0
 | none =>
  rw [h0] at h
  simp only [Option.some.injEq] at h
  subst h
  unfold Xk5
  split
  ·
   rename_i op t y yt ho
   split
   ·
    exact Xjv hR hA ‹_› ‹_› (.inl ⟨rfl, ho⟩)
   ·
    exact Xjv hR hA ‹_› ‹_› (.inr ⟨rfl, ho⟩)
   ·
    exact trivial
  ·
   rename_i op t y yt ho
   split
   ·
    exact Xjw hR hA ‹_› ‹_› (.inl ⟨rfl, ho⟩)
   ·
    exact Xjw hR hA ‹_› ‹_› (.inr ⟨rfl, ho⟩)
   ·
    exact trivial
  ·
   rename_i ho
   split
   ·
    exact good_tas hR hA ‹_› ‹_› ho
   ·
    exact trivial
  ·
   exact good_late hR hA
end
end Go.Proofs.Ytcbhlpbkampfeaa.AI
