import Derived.Test.YtcbhlpbkampfeaaE1
import Derived.WideKeyRuns
/- Part of a proof. -/
set_option linter.unusedVariables false
set_option linter.unusedSimpArgs false
namespace Go.Proofs.Ytcbhlpbkampfeaa.AI
section
variable {P : Program} {o : Oper} {a : Act} {w : World} {G : Gh} {K : (Nat → Option Obj)} {ρ : (Nat → Option Loc)} {H : List AObj}

theorem Xnk {id : Nat} {u : Value} (h : VR K ρ (.map id) u) : ∃ l, ρ id = some l ∧ u = .map (some l.block) := by cases h with | map h => exact ⟨_, h, rfl⟩

def KeyR (K : (Nat → Option Obj)) (ρ : (Nat → Option Loc)) (g : Bool) (n : Nat) (cs : List AV) (u : Value) : Prop := cs.length = n ∧ (match g with
 | true => ∃ xs, u = .agg xs ∧ VRs K ρ cs xs ∧ ∀ x ∈ xs, one x = true
 | false => n = 1 ∧ ∃ k m, u = .int k m ∧ cs = [.int k m])

theorem Xh2 {g : Bool} {n : Nat} {v : AV} {u : Value} {cs : List AV} (hv : VR K ρ v u) (h : keyA g v = some cs) (hn : cs.length = n) : KeyR K ρ g n cs u := by
 refine ⟨hn, ?_⟩
 cases g with
 | true =>
  cases v <;> simp only [keyA, reduceCtorEq, Option.some.injEq] at h
  subst h
  obtain ⟨xs, rfl, h1, h2⟩ := Xa2 hv
  exact ⟨xs, rfl, h1, h2⟩
 | false =>
  cases v <;> simp only [keyA, reduceCtorEq, Option.some.injEq] at h
  subst h
  exact ⟨by simpa using hn.symm, _, _, Zm hv, rfl⟩

theorem Xh1 {k : TypeId} {g : Bool} {n : Nat} (h : keyT P k = some (g, n)) : (g = false ∧ n = 1 ∧ ∃ q, P.underlying k = some (.int q)) ∨ (g = true ∧ ∃ e q, P.underlying k = some (.array n e) ∧ P.underlying e = some (.int q) ∧ sizeT P e = some 1) := by
  unfold keyT at h
  split at h
  · cases h; exact .inl ⟨rfl, rfl, _, ‹_›⟩
  · split at h
    · cases h; exact .inr ⟨rfl, _, _, ‹_›, ‹_›, ‹_›⟩
    · cases h
  · cases h

theorem Xij : ∀ (n : Nat) (as bs : List AV) (xs ys : List Value), Yy (List.replicate n 0) as bs = some true → as.length = n → bs.length = n → VRs K ρ as xs.toArray → VRs K ρ bs ys.toArray → xs = ys ∧ ∀ x ∈ xs, ∃ k m, x = .int k m
 | 0, as, bs, xs, ys, h, ha, hb, hx, hy => by
  have h1 := hx.1
  have h2 := hy.1
  simp only [List.size_toArray] at h1 h2
  have e1 : xs = [] := List.eq_nil_of_length_eq_zero (by omega)
  have e2 : ys = [] := List.eq_nil_of_length_eq_zero (by omega)
  subst e1; subst e2
  exact ⟨rfl, fun x hx => by cases hx⟩
 | n + 1, [], bs, xs, ys, h, ha, hb, hx, hy => by simp at ha
 | n + 1, a :: as, [], xs, ys, h, ha, hb, hx, hy => by simp at hb
 | n + 1, a :: as, b :: bs, xs, ys, h, ha, hb, hx, hy => by
  cases xs with
  | nil => have := hx.1; simp at this
  | cons x xs =>
   cases ys with
   | nil => have := hy.1; simp at this
   | cons y ys =>
    simp only [List.replicate_succ, Yy] at h
    cases h1 : eqTag 0 a b with
    | none => rw [h1] at h; cases h
    | some p =>
     cases h2 : Yy (List.replicate n 0) as bs with
     | none => rw [h1, h2] at h; cases h
     | some q =>
      rw [h1, h2] at h
      simp only [Option.some.injEq, Bool.and_eq_true] at h
      obtain ⟨rfl, rfl⟩ := h
      have hx' : VRs K ρ as xs.toArray := ⟨by simpa using hx.1, fun i v u hv hu => hx.2 (i + 1) v u (by simpa using hv) (by simpa using hu)⟩
      have hy' : VRs K ρ bs ys.toArray := ⟨by simpa using hy.1, fun i v u hv hu => hy.2 (i + 1) v u (by simpa using hv) (by simpa using hu)⟩
      obtain ⟨e1, e2⟩ := Xij n as bs xs ys h2 (by simpa using ha) (by simpa using hb) hx' hy'
      have va := hx.2 0 a x rfl (by simp)
      have vb := hy.2 0 b y rfl (by simp)
      cases a <;> cases b <;> simp only [eqTag, reduceCtorEq] at h1
      split at h1
      ·
       rename_i hd
       subst hd
       simp only [Option.some.injEq, decide_eq_true_eq] at h1
       subst h1
       have i1 := Zm va
       have i2 := Zm vb
       subst i1; subst i2; subst e1
       refine ⟨rfl, fun z hz => ?_⟩
       rcases List.mem_cons.1 hz with rfl | hz
       ·
        exact ⟨_, _, rfl⟩
       ·
        exact e2 z hz
      ·
       cases h1

theorem Xen : ∀ (l : List Value), (∀ x ∈ l, ∃ k m, x = .int k m) → (l.zip l).all (fun (x, y) => Instr.sameBits 9999 x y) = true
 | [], _ => rfl
 | x :: l, h => by
  obtain ⟨k, m, rfl⟩ := h x (by simp)
  simp only [List.zip_cons_cons, List.all_cons, Xen l (fun y hy => h y (by simp [hy])), Bool.and_true]
  simp [Instr.sameBits]

theorem key_same {g : Bool} {n : Nat} {as bs : List AV} {u v : Value} (h : Yy (List.replicate n 0) as bs = some true) (ha : KeyR K ρ g n as u) (hb : KeyR K ρ g n bs v) : u = v ∧ Instr.sameBits 10000 v u = true := by
 obtain ⟨la, ha⟩ := ha
 obtain ⟨lb, hb⟩ := hb
 cases g with
 | true =>
  obtain ⟨xs, rfl, hx, _⟩ := ha
  obtain ⟨ys, rfl, hy, _⟩ := hb
  obtain ⟨e1, e2⟩ := Xij n as bs xs.toList ys.toList h la lb (by simpa using hx) (by simpa using hy)
  have e : xs = ys := Array.toList_inj.1 e1
  subst e
  refine ⟨rfl, ?_⟩
  have := Xen xs.toList e2
  simp only [Instr.sameBits, beq_self_eq_true, Bool.true_and]
  exact this
 | false =>
  obtain ⟨rfl, k, m, rfl, rfl⟩ := ha
  obtain ⟨_, k', m', rfl, rfl⟩ := hb
  simp only [List.replicate_one, Yy, eqTag] at h
  by_cases hk : k = k'
  ·
   subst hk
   simp only [if_true, Bool.and_true, Option.some.injEq, decide_eq_true_eq] at h
   subst h
   exact ⟨rfl, by simp [Instr.sameBits]⟩
  ·
   simp [hk] at h

theorem key_eq {kt : TypeId} {n : Nat} (hk : keyT P kt = some (true, n)) {as bs : List AV} {u v : Value} {r : Bool} (h : Yy (List.replicate n 0) as bs = some r) (ha : KeyR K ρ true n as u) (hb : KeyR K ρ true n bs v) : (Op.equal kt u v).run P w = .ok r w := by
 rcases Xh1 hk with ⟨hg, _⟩ | ⟨_, e, q, h1, h2, h3⟩
 ·
  cases hg
 ·
  obtain ⟨_, xs, rfl, hx, ox⟩ := ha
  obtain ⟨_, ys, rfl, hy, oy⟩ := hb
  have hE := Xk1 (P := P) 2 9999 (by omega)
  have hf : flatK P 2 kt = some (List.replicate n 0) := by
   have he : flatK P 1 e = some [0] := by simp only [flatK, h2]
   have hi : Qi P e = some false := by simp [Qi, h2]
   show (match P.underlying kt with | some (.int _) => _ | some .bool => _ | some .string => _ | some (.struct fs) => _ | some (.array len e) => _ | _ => _) = _
   rw [h1]
   simp only [he, h3, hi]
   simp
  exact Xk1 (P := P) 2 10000 (by omega) K ρ kt _ true as bs _ _ r w hf (by simp [Qi, h1]) (.agg hx.1 ox hx.2) (.agg hy.1 oy hy.2) h

theorem part_int {e : TypeId} {q : IntKind} (h2 : P.underlying e = some (.int q)) {cs : Array Value} {i : Nat} (hi : i < cs.size) : (part e cs i).run P w = .ok cs[i] w := by
 have : Qi P e = some false := by simp [Qi, h2]
 simp [part, Xc1 this, hi]

theorem Xmp {e : TypeId} {q : IntKind} (hu : P.underlying e = some (.int q)) (em : Bool) (m : Nat) (u : Value) : (Instr.checkKey em (m + 1) e u).run P w = .ok () w := by
 simp [Instr.checkKey, Xc hu]
theorem check_arr {kt e : TypeId} {q : IntKind} {n : Nat} (h1 : P.underlying kt = some (.array n e)) (h2 : P.underlying e = some (.int q)) (h3 : sizeT P e = some 1) (em : Bool) (d : Nat) {xs : Array Value} (hs : xs.size = n) : (Instr.checkKey em (d + 2) kt (.agg xs)).run P w = .ok () w := by
 unfold Instr.checkKey
 simp only [Sem.run_bind, Xc h1, Result.andThen_ok]
 simp only [Std.Legacy.Range.forIn_eq_forIn_range', Std.Legacy.Range.size, Nat.sub_zero, Nat.add_one_sub_one, Nat.div_one]
 have hall : ∀ (m j : Nat), j + m ≤ n → ∀ (r : PUnit), (forIn (List.range' j m) r fun i _ => (do Instr.checkKey em (d + 1) e (← part e xs (i * (← sizeOf e))); pure (ForInStep.yield PUnit.unit) : Sem (ForInStep PUnit))).run P w = .ok PUnit.unit w := by
  intro m
  induction m with
  | zero => intro j hj r; simp
  | succ m ih =>
   intro j hj r
   rw [List.range'_succ, List.forIn_cons]
   simp only [Sem.run_bind, run_sizeOf h3, Result.andThen_ok, Nat.mul_one, part_int h2 (show j < xs.size by omega), Xmp h2, Sem.run_pure]
   exact ih (j + 1) (by omega) _
 rw [hall n 0 (by omega) PUnit.unit]
 rfl
theorem Xmo {kt : TypeId} {g : Bool} {n : Nat} (hk : keyT P kt = some (g, n)) {as : List AV} {u : Value} (ha : KeyR K ρ g n as u) (em : Bool) : (Instr.checkKey em 10000 kt u).run P w = .ok () w := by
 rcases Xh1 hk with ⟨rfl, rfl, q, hu⟩ | ⟨rfl, e, q, h1, h2, h3⟩
 ·
  exact Xmp hu em 9999 u
 ·
  obtain ⟨hl, xs, rfl, hx, ox⟩ := ha
  exact check_arr h1 h2 h3 em 9998 (by rw [← hx.1, hl])
theorem Xl5 {r : Nat} {es : Array MapEntry} {clk : Nat} (h : w.heap[r]? = some (.map es clk)) : (getObj r).run P w = .ok (.map es clk) w := by simp [getObj, Sem.run, h]
theorem setMap {r : Nat} {es : Array MapEntry} {clk : Nat} (o' : Obj) (h : w.heap[r]? = some (.map es clk)) : (setObj r o').run P w = .ok () { w with heap := w.heap.setIfInBounds r o' } := by simp [setObj, Sem.run, h]

def EntR (K : (Nat → Option Obj)) (ρ : (Nat → Option Loc)) (es : List (AV × AV)) (ms : List MapEntry) : Prop := ms.length = es.length ∧ ∀ (i : Nat) (p : AV × AV) (m : MapEntry), es[i]? = some p → ms[i]? = some m → VR K ρ p.1 m.key ∧ VR K ρ p.2 m.val
theorem EntR.tail {p : AV × AV} {es : List (AV × AV)} {m : MapEntry} {ms : List MapEntry} (h : EntR K ρ (p :: es) (m :: ms)) : EntR K ρ es ms := ⟨by simpa using h.1, fun i p' m' h1 h2 => h.2 (i + 1) p' m' (by simpa using h1) (by simpa using h2)⟩

def Xdd (ms : List MapEntry) (i : Nat) : Value := ((ms[i]?).map (·.val)).getD undef

theorem Xih {kt : TypeId} {n : Nat} (hk : keyT P kt = some (true, n)) {kc : List AV} {u : Value} (ha : KeyR K ρ true n kc u) : ∀ (es : List (AV × AV)) (ms : List MapEntry) (j : Nat) (r : Option Nat), EntR K ρ es ms → findM true n kc es = some r →
  (Instr.findAsking kt u ms j).run P w = .ok (r.map fun i => (j + i, Xdd ms i)) w
 | [], [], j, r, _, h => by cases h; simp [Instr.findAsking]
 | [], m :: ms, j, r, hE, h => by have := hE.1; simp at this
 | p :: es, [], j, r, hE, h => by have := hE.1; simp at this
 | p :: es, m :: ms, j, r, hE, h => by
  simp only [findM] at h
  cases hc : keyA true p.1 with
  | none => rw [hc] at h; cases h
  | some cs =>
   rw [hc] at h
   simp only at h
   split at h
   case isFalse => cases h
   rename_i hn
   have hb := Xh2 (hE.2 0 p m rfl rfl).1 hc hn
   cases he : Yy (List.replicate n 0) kc cs with
   | none => rw [he] at h; cases h
   | some q =>
    rw [he] at h
    have heq := key_eq (w := w) hk he ha hb
    cases q with
    | true =>
     cases h
     simp [Instr.findAsking, heq, Xdd]
    | false =>
     simp only at h
     cases hf : findM true n kc es with
     | none => rw [hf] at h; cases h
     | some r' =>
      rw [hf] at h
      cases h
      have ih := Xih hk ha es ms (j + 1) r' hE.tail hf
      simp only [Instr.findAsking, Sem.run_bind, heq, Result.andThen_ok, Bool.false_eq_true, if_false, ih]
      cases r' with
      | none => rfl
      | some i => simp [Xdd, Nat.add_assoc, Nat.add_comm 1 i]

theorem Xig {q : IntKind} {k : IntKind} {m0 : Int} : ∀ (es : List (AV × AV)) (ms : List MapEntry) (j : Nat) (r : Option Nat), EntR K ρ es ms → findM false 1 [.int k m0] es = some r →
  Instr.findNow (.int q) (.int k m0) ms j = some (r.map fun i => (j + i, Xdd ms i))
 | [], [], j, r, _, h => by cases h; simp [Instr.findNow]
 | [], m :: ms, j, r, hE, h => by have := hE.1; simp at this
 | p :: es, [], j, r, hE, h => by have := hE.1; simp at this
 | p :: es, m :: ms, j, r, hE, h => by
  simp only [findM] at h
  cases hc : keyA false p.1 with
  | none => rw [hc] at h; cases h
  | some cs =>
   rw [hc] at h
   simp only at h
   split at h
   case isFalse => cases h
   rename_i hn
   obtain ⟨_, _, k', m', hkey, rfl⟩ := Xh2 (hE.2 0 p m rfl rfl).1 hc hn
   simp only [List.replicate_one, Yy, eqTag] at h
   by_cases hkk : k = k'
   ·
    subst hkk
    simp only [if_true, Bool.and_true] at h
    have hs : Instr.sameNow (.int q) (.int k m0) m.key = some (m0 == m') := by simp [Instr.sameNow, hkey]
    by_cases hm : m0 = m'
    ·
     subst hm
     simp only [decide_true] at h
     cases h
     simp [Instr.findNow, hs, Xdd]
    ·
     have hmf : (m0 == m') = false := by simpa using hm
     simp only [decide_eq_false hm] at h
     cases hf : findM false 1 [.int k m0] es with
     | none => rw [hf] at h; cases h
     | some r' =>
      rw [hf] at h
      cases h
      have ih := Xig (q := q) es ms (j + 1) r' hE.tail hf
      simp only [Instr.findNow, hs, hmf, ih]
      cases r' with
      | none => rfl
      | some i => simp [Xdd, Nat.add_assoc, Nat.add_comm 1 i]
   ·
    simp [hkk] at h

theorem Xpf {kt : TypeId} {g : Bool} {n : Nat} (hk : keyT P kt = some (g, n)) {kc : List AV} {u : Value} (ha : KeyR K ρ g n kc u) {es : List (AV × AV)} {ms : List MapEntry} {r : Option Nat} (hE : EntR K ρ es ms) (h : findM g n kc es = some r) :
  (Instr.findKey kt u ms).run P w = .ok (r.map fun i => (i, Xdd ms i)) w := by
 rcases Xh1 hk with ⟨rfl, rfl, q, hu⟩ | ⟨rfl, e, q, h1, h2, h3⟩
 ·
  obtain ⟨_, _, k, m, rfl, rfl⟩ := ha
  have := Xig (q := q) es ms 0 r hE h
  simp only [Instr.findKey, Sem.run_bind, Xc hu, Result.andThen_ok, this]
  simp
 ·
  rw [run_findKey_eq w (by rw [h1]) u ms]
  have := Xih (w := w) hk ha es ms 0 r hE h
  simpa using this

theorem Xkz {g : Bool} {n : Nat} {kc : List AV} : ∀ (es : List (AV × AV)) (i : Nat), findM g n kc es = some (some i) → ∃ p cs, es[i]? = some p ∧ keyA g p.1 = some cs ∧ cs.length = n ∧ Yy (List.replicate n 0) kc cs = some true
 | [], i, h => by cases h
 | p :: es, i, h => by
  simp only [findM] at h
  cases hc : keyA g p.1 with
  | none => rw [hc] at h; cases h
  | some cs =>
   rw [hc] at h
   simp only at h
   split at h
   case isFalse => cases h
   rename_i hn
   cases he : Yy (List.replicate n 0) kc cs with
   | none => rw [he] at h; cases h
   | some q =>
    rw [he] at h
    cases q with
    | true => cases h; exact ⟨p, cs, rfl, hc, hn, he⟩
    | false =>
     simp only at h
     cases hf : findM g n kc es with
     | none => rw [hf] at h; cases h
     | some r =>
      rw [hf] at h
      cases r with
      | none => cases h
      | some j =>
       cases h
       obtain ⟨p', cs', h1, h2, h3, h4⟩ := Xkz es j hf
       exact ⟨p', cs', by simpa using h1, h2, h3, h4⟩

theorem zero1_run {e : TypeId} {z : AV} (h : zero1 P e = some z) : ∃ u, (zeroValue e).run P w = .ok u w ∧ VR K ρ z u := by
 unfold zero1 at h
 split at h
 ·
  split at h
  ·
   rename_i i hi _ v hv
   exact ⟨v, by simp [zeroValue, typeInfo, hi, hv], (Xn1 h).1⟩
  ·
   cases h
 ·
  cases h

theorem OR_map {id : Nat} {l : Loc} {es : List (AV × AV)} {c0 : Nat} (hR : Rel G K ρ H w) (ho : H[id]? = some (.map es c0)) (hl : ρ id = some l) : ∃ c clk, w.heap[l.block]? = some (.map c clk) ∧ EntR K ρ es c.toList := by
 obtain ⟨l', hl', c, clk, h1, h2, h3⟩ := hR.objs id _ ho rfl
 rw [hl] at hl'
 obtain rfl := Option.some.inj hl'
 exact ⟨c, clk, h1, by simpa using h2, fun i p m hp hm => h3 i p m hp (by simpa using hm)⟩

theorem Xju (hR : Rel G K ρ H w) {t kt et : TypeId} {r : Option Operand} (hu : P.underlying t = some (.map kt et)) (hr : r = none ∨ ∃ k n, r = some (.const (.int k n))) (ho : o.op = .makeMap t r) {ta : ATm} : Good P o a w G K ρ H (evO ta H .mkmap) := by
 let l : Loc := ⟨w.heap.size, 0, 0, 0⟩
 have hrun : (execOp a.eval o).run P w = .ok (.value (.map (some w.heap.size))) { w with heap := w.heap.push (.map #[] 0) } := by
  rcases hr with rfl | ⟨k, n, rfl⟩
  ·
   simp [execOp, ho, Instr.makeMap]
  ·
   simp [execOp, ho, Instr.makeMap, Xc hu, Act.eval, asInt, Xhe]
 refine ⟨_, _, _, K, extρ ρ H.length l, hrun, .inl rfl, .map (l := l) QC, hR.new (.map #[] 0) l (.map [] 0) rfl rfl ?_⟩
 exact ⟨#[], 0, by simp [l], rfl, fun i p m hp hm => by simp at hp⟩

theorem good_mlen (hR : Rel G K ρ H w) {ta : ATm} (hA : AR K ρ ta a) {c : Call} {x : Operand} {x' : AX} {t kt et : TypeId} (hx : compX x = some x') (hc : c.callee = .builtin .len) (hargs : c.args.toList = [x]) (h0 : c.argTypes[0]? = some t) (hu : P.underlying t = some (.map kt et)) (ho : o.op = .call c) :
  Good P o a w G K ρ H (evO ta H (.mlen x')) := by
 have vx := Xp hA hx
 simp only [evO, orBad]
 split
 ·
  rename_i v hv
  unfold mlenA at hv
  split at hv
  ·
   rename_i id he
   rw [he] at vx
   obtain ⟨l, hl, hm⟩ := Xnk vx
   split at hv
   ·
    rename_i es c0 hH
    cases hv
    obtain ⟨cc, clk, h1, h2⟩ := OR_map hR hH hl
    have hs : cc.size = es.length := by simpa using h2.1
    have hargs' : c.args = #[x] := by rw [← Array.toList_inj]; exact hargs
    refine Good.val hR (u := .int .i64 es.length) ?_ .int
    simp [execOp, ho, resolve, hc, hargs', hm, invoke, builtin, Builtin.len_, h0, Xc hu, Xl5 h1, goInt, hs]
   ·
    cases hv
  ·
   cases hv
 ·
  exact trivial

theorem good_mlk (hR : Rel G K ρ H w) {ta : ATm} (hA : AR K ρ ta a) {x i : Operand} {x' i' : AX} {t kt et : TypeId} {g ok : Bool} {n : Nat} {z : AV} (hx : compX x = some x') (hi : compX i = some i') (hu : P.underlying t = some (.map kt et)) (hk : keyT P kt = some (g, n)) (hz : zero1 P et = some z) (ho : o.op = .lookup t x i ok) :
  Good P o a w G K ρ H (evO ta H (.mlk g n ok z x' i')) := by
 have vx := Xp hA hx
 have vi := Xp hA hi
 simp only [evO, orBad]
 split
 ·
  rename_i v hv
  unfold mlkA at hv
  split at hv
  ·
   rename_i id he
   rw [he] at vx
   obtain ⟨l, hl, hm⟩ := Xnk vx
   split at hv
   ·
    rename_i es c0 hH
    obtain ⟨cc, clk, h1, h2⟩ := OR_map hR hH hl
    unfold mlk0 at hv
    cases hkc : keyA g (i'.ev ta) with
    | none => rw [hkc] at hv; cases hv
    | some kc =>
     rw [hkc] at hv
     simp only at hv
     split at hv
     case isFalse => cases hv
     rename_i hn
     have hK := Xh2 vi hkc hn
     cases hf : findM g n kc es with
     | none => rw [hf] at hv; cases hv
     | some r =>
      rw [hf] at hv
      have hfind := Xpf (w := w) hk hK h2 hf
      have hchk := Xmo (w := w) hk hK cc.isEmpty
      cases r with
      | none =>
       cases hv
       obtain ⟨u, hzu, hzv⟩ := zero1_run (P := P) (w := w) (K := K) (ρ := ρ) hz
       have hrun : (execOp a.eval o).run P w = .ok (.value (if ok then .tuple #[u, .bool false] else u)) w := by
        simp only [Option.map_none] at hfind
        simp [execOp, ho, hm, Instr.lookup, Xc hu, Xl5 h1, hchk, hfind, hzu]
       cases ok with
       | false => exact Good.val hR hrun hzv
       | true =>
        refine Good.val hR hrun (.tup rfl ?_)
        intro j v1 u1 g1 g2
        match j, g1, g2 with
        | 0, g1, g2 => simp at g1 g2; subst g1 g2; exact hzv
        | 1, g1, g2 => simp at g1 g2; subst g1 g2; exact .bool
        | j + 2, g1, g2 => simp at g1
      | some j =>
       obtain ⟨p, cs, p1, p2, p3, p4⟩ := Xkz es j hf
       simp only [p1] at hv
       cases hv
       have hj : j < cc.toList.length := by rw [h2.1]; exact (List.getElem?_eq_some_iff.1 p1).1
       have hmv : Xdd cc.toList j = (cc.toList[j]).val := by simp [Xdd, List.getElem?_eq_getElem hj]
       have hvv := (h2.2 j p _ p1 (List.getElem?_eq_getElem hj)).2
       rw [← hmv] at hvv
       have hrun : (execOp a.eval o).run P w = .ok (.value (if ok then .tuple #[Xdd cc.toList j, .bool true] else Xdd cc.toList j)) w := by
        simp only [Option.map_some] at hfind
        simp [execOp, ho, hm, Instr.lookup, Xc hu, Xl5 h1, hchk, hfind]
       cases ok with
       | false => exact Good.val hR hrun hvv
       | true =>
        refine Good.val hR hrun (.tup rfl ?_)
        intro i0 v1 u1 g1 g2
        match i0, g1, g2 with
        | 0, g1, g2 => simp at g1 g2; subst g1 g2; exact hvv
        | 1, g1, g2 => simp at g1 g2; subst g1 g2; exact .bool
        | i0 + 2, g1, g2 => simp at g1
   ·
    cases hv
  ·
   cases hv
 ·
  exact trivial

theorem Xov (hR : Rel G K ρ H w) {ta : ATm} (hA : AR K ρ ta a) {x i y : Operand} {x' i' y' : AX} {t kt et : TypeId} {g : Bool} {n : Nat} (hx : compX x = some x') (hi : compX i = some i') (hy : compX y = some y') (hu : P.underlying t = some (.map kt et)) (hk : keyT P kt = some (g, n)) (ho : o.op = .mapUpdate t x i y ∨ o.op = .insert t x i y) :
  Good P o a w G K ρ H (evO ta H (.mup g n x' i' y')) := by
 have vx := Xp hA hx
 have vi := Xp hA hi
 have vy := Xp hA hy
 simp only [evO]
 unfold mupA
 split
 case h_2 => exact trivial
 rename_i id he
 rw [he] at vx
 obtain ⟨l, hl, hm⟩ := Xnk vx
 split
 case h_2 => exact trivial
 rename_i es c0 hH
 obtain ⟨cc, clk, h1, h2⟩ := OR_map hR hH hl
 split
 case h_2 => exact trivial
 rename_i es' hv
 unfold mup0 at hv
 cases hkc : keyA g (i'.ev ta) with
 | none => rw [hkc] at hv; cases hv
 | some kc =>
  rw [hkc] at hv
  simp only at hv
  split at hv
  case isFalse => cases hv
  rename_i hn
  have hK := Xh2 vi hkc hn
  cases hf : findM g n kc es with
  | none => rw [hf] at hv; cases hv
  | some r =>
   rw [hf] at hv
   have hfind := Xpf (w := w) hk hK h2 hf
   have hchk := Xmo (w := w) hk hK false
   have hb : l.block < w.heap.size := (Array.getElem?_eq_some_iff.1 h1).1
   have fin : ∀ (cc' : Array MapEntry) (clk' : Nat), (execOp a.eval o).run P w = .ok .skip { w with heap := w.heap.setIfInBounds l.block (.map cc' clk') } → EntR K ρ es' cc'.toList →
     Good P o a w G K ρ H (.ok .any (H.set id (.map es' c0))) := by
    intro cc' clk' hrun hE
    refine ⟨_, undef, _, K, ρ, hrun, .inr ⟨rfl, rfl⟩, .any, hR.put _ hH hl rfl rfl rfl rfl (by simp) (fun b hb' => ?_) ?_⟩
    ·
     show (w.heap.setIfInBounds l.block _)[b]? = _
     rw [Array.getElem?_setIfInBounds_ne (fun e => hb' e.symm)]
    ·
     refine ⟨cc', clk', ?_, by simpa using hE.1, fun i p m hp hm => hE.2 i p m hp (by simpa using hm)⟩
     show (w.heap.setIfInBounds l.block _)[l.block]? = _
     rw [Array.getElem?_setIfInBounds_self_of_lt hb]
   cases r with
   | none =>
    cases hv
    refine fin (cc.push { key := a.eval i, val := a.eval y, born := clk }) (clk + 1) ?_ ?_
    ·
     simp only [Option.map_none] at hfind
     rcases ho with ho | ho <;> simp [execOp, ho, hm, Instr.mapUpdate, Xc hu, Xl5 h1, hchk, hfind, setMap _ h1]
    ·
     refine ⟨by simpa using h2.1, fun j p m hp hm' => ?_⟩
     have hlen := h2.1
     simp only [Array.toList_push] at hm'
     rw [List.getElem?_append] at hp hm'
     by_cases hj : j < es.length
     ·
      rw [if_pos hj] at hp
      rw [if_pos (by omega)] at hm'
      exact h2.2 j p m hp hm'
     ·
      rw [if_neg hj] at hp
      rw [if_neg (by omega), hlen] at hm'
      have hz : j - es.length = 0 := by
       have := (List.getElem?_eq_some_iff.1 hp).1
       simp at this
       omega
      rw [hz] at hp hm'
      simp at hp hm'
      subst hp hm'
      exact ⟨vi, vy⟩
   | some j =>
    cases hv
    obtain ⟨p, cs, p1, p2, p3, p4⟩ := Xkz es j hf
    have hj : j < cc.toList.length := by rw [h2.1]; exact (List.getElem?_eq_some_iff.1 p1).1
    have hj' : j < cc.size := by simpa using hj
    have hpk := (h2.2 j p _ p1 (List.getElem?_eq_getElem hj)).1
    obtain ⟨e1, e2⟩ := key_same p4 hK (Xh2 hpk p2 p3)
    refine fin (cc.modify j fun e => { e with key := a.eval i, val := a.eval y }) clk ?_ ?_
    ·
     simp only [Option.map_some] at hfind
     have e3 : Instr.sameBits 10000 (cc[j]).key (a.eval i) = true := by simpa using e2
     rcases ho with ho | ho <;> simp [execOp, ho, hm, Instr.mapUpdate, Xc hu, Xl5 h1, hchk, hfind, setMap _ h1, hj', Instr.keyThatStays, e3]
    ·
     refine ⟨by simpa using h2.1, fun q p' m hp hm' => ?_⟩
     have hm2 : (cc.modify j fun e => { e with key := a.eval i, val := a.eval y })[q]? = some m := by rw [← Array.getElem?_toList]; exact hm'
     rw [Array.getElem?_modify] at hm2
     rw [List.getElem?_set] at hp
     by_cases hq : j = q
     ·
      subst hq
      rw [if_pos rfl, if_pos (by simpa [h2.1] using hj)] at hp
      rw [if_pos rfl, Array.getElem?_eq_getElem hj'] at hm2
      simp at hp hm2
      subst hp hm2
      exact ⟨vi, vy⟩
     ·
      rw [if_neg hq] at hp
      rw [if_neg hq] at hm2
      exact h2.2 q p' m hp (by simpa using hm2)
theorem Xmb {s : Nat} : ∀ (vs : List Value), (∀ v ∈ vs, v.cells.size = s) → (vs.flatMap fun v => v.cells.toList).length = vs.length * s
 | [], _ => by simp
 | v :: vs, h => by
  rw [List.flatMap_cons, List.length_append, Xmb vs fun x hx => h x (List.mem_cons_of_mem _ hx), List.length_cons, Nat.add_mul, Nat.one_mul, Array.length_toList, h v List.mem_cons_self, Nat.add_comm]
theorem good_litr (hR : Rel G K ρ H w) {ta : ATm} (hA : AR K ρ ta a) {t e : TypeId} {len s : Nat} {ps : Array (Nat × Operand)} {xs : List AX} {zs : List AV} (hu : P.underlying t = some (.slice e)) (hz : sizeT P e = some s) (hzero : zeroT P e = some zs) (hzl : zs.length = s) (hx : Xbh 0 ps.toList = some xs) (hl : xs.length = len) (hs0 : 0 < s) (hsmall : len * s ≤ 16777216)
  (ho : o.op = .buildSlice t len ps) : Good P o a w G K ρ H (evO ta H (.litr s e xs)) := by
 simp only [evO]
 split
 case h_2 => exact trivial
 rename_i es hes
 obtain ⟨os, hps, hos⟩ := Xcm hA ps.toList 0 xs hx
 have hV := Xaf hA hos
 obtain ⟨hel, hespec⟩ := Xcn _ _ hes
 have hosl : os.length = len := by
  have := hV.1
  simp at this
  omega
 have hesl : es.length = len := by rw [hel]; simpa using hl
 obtain ⟨i2, z, hi2, hzz, hab⟩ := JM hzero
 obtain ⟨hVz, _, _⟩ := Xbs (K := K) (ρ := ρ) _ _ hab
 have hzs : z.cells.size = s := (hVz.1.trans (by simp)).symm.trans hzl
 -- each part's cells
 have hpart : ∀ (i : Nat) (h : i < os.length), ∃ el, es[i]? = some el ∧ el.length = s ∧ pures el = true ∧ VRs K ρ el (a.eval os[i]).cells ∧ ∀ x ∈ (a.eval os[i]).cells, one x = true := by
  intro i h
  have hi2 : i < (xs.map (AX.ev ta)).length := by have := hV.1; simp at this ⊢; omega
  obtain ⟨el, e1, e2, e3, e4⟩ := hespec i _ (List.getElem?_eq_getElem hi2)
  have hv := hV.2 i _ (a.eval os[i]) (List.getElem?_eq_getElem hi2) (by simp [h])
  obtain ⟨f1, f2⟩ := Xcf hv e2
  exact ⟨el, e1, e3, e4, f1, f2⟩
 let vs : List Value := os.map a.eval
 have hvs : ∀ v ∈ vs, v.cells.size = s := by
  intro v hv
  obtain ⟨i, hi, rfl⟩ := List.getElem_of_mem hv
  simp only [vs, List.length_map] at hi
  obtain ⟨el, e1, e3, _, f1, _⟩ := hpart i hi
  simp only [vs, List.getElem_map]
  rw [← f1.1, e3]
 let cells0 : Array Value := (Array.range (len * s)).map ((if len * s = 0 then #[] else z.cells)[· % (if len * s = 0 then #[] else z.cells).size]!)
 let cells : Array Value := (vs.flatMap fun v => v.cells.toList).toArray
 have hfill := Great.fill_whole hs0 vs cells0 hvs (by simp [vs, cells0, hosl])
 have hparts : (ps.map fun (p : Nat × Operand) => (p.1, a.eval p.2)).toList = (vs.zipIdx 0).map fun x => (x.2, x.1) := by
  simp only [Array.toList_map, hps, List.map_map, vs, List.zipIdx_map]
  rfl
 have hrun : (execOp a.eval o).run P w = .ok (.value (.slice (some ⟨w.heap.size, 0, none⟩) len len)) { w with heap := w.heap.push (.cells cells e (0, 0)) } := by
  have hzr := Xci (P := P) hi2 hzz
  have hpl : (ps.map fun (i, x) => (i, a.eval x)).toList = (vs.zipIdx 0).map fun x => (x.2, x.1) := hparts
  simp only [execOp, ho, Instr.buildSlice, Sem.run_bind, Xc hu, Result.andThen_ok, run_sizeOf hz, show ¬ (len * s > 2 ^ 24) by omega, if_false, Sem.run_pure, hpl]
  by_cases h0 : len * s = 0
  ·
   simp only [h0, if_true, Sem.run_pure, Result.andThen_ok]
   have hc0 : cells0 = (Array.range 0).map ((#[] : Array Value)[· % (#[] : Array Value).size]!) := by simp only [cells0, h0, if_true]
   rw [hc0] at hfill
   simp only [hfill, newRow, Sem.run_bind, run_newObj, Result.andThen_ok, Sem.run_pure]
   rfl
  ·
   simp only [h0, if_false, hzr, Sem.run_bind, Sem.run_pure, Result.andThen_ok]
   have hc0 : cells0 = (Array.range (len * s)).map (z.cells[· % z.cells.size]!) := by simp only [cells0, h0, if_false]
   rw [hc0] at hfill
   simp only [hfill, newRow, Sem.run_bind, run_newObj, Result.andThen_ok, Sem.run_pure]
   rfl
 have hcell : ∀ (i j : Nat) (hi : i < os.length), j < s → cells[i * s + j]? = (a.eval os[i]).cells[j]? := by
  intro i j hi hj
  simp only [cells]
  have e1 : (i * s + j) / s = i := by rw [Nat.mul_comm, Nat.mul_add_div hs0, Nat.div_eq_of_lt hj]; rfl
  have e2 : (i * s + j) % s = j := by rw [Nat.mul_comm, Nat.mul_add_mod]; exact Nat.mod_eq_of_lt hj
  rw [List.getElem?_toArray, Great.flat_get hs0 vs hvs, e1, e2]
  simp [vs, hi]
 have hlen : ∀ el ∈ es, el.length = s := by
  intro el h
  obtain ⟨i, hi, rfl⟩ := List.getElem_of_mem h
  obtain ⟨el, e1, e3, _⟩ := hpart i (by omega)
  rw [List.getElem?_eq_getElem hi] at e1
  rw [Option.some.inj e1]; exact e3
 have hsize : cells.size = len * s := by
  simp only [cells, List.size_toArray]
  rw [Xmb vs hvs]; simp [vs, hosl]
 have hRR : RowR K ρ s es cells := by
  refine ⟨by rw [hsize, hesl], ?_, hlen, ?_⟩
  ·
   intro u hu
   simp only [cells, List.mem_toArray, List.mem_flatMap] at hu
   obtain ⟨v, hv, hu⟩ := hu
   simp only [vs] at hv
   obtain ⟨x, hx, rfl⟩ := List.mem_map.1 hv
   obtain ⟨i, hi, rfl⟩ := List.getElem_of_mem hx
   obtain ⟨_, _, _, _, _, f2⟩ := hpart i hi
   exact f2 u (by simpa using hu)
  ·
   intro i el hel j v hv
   have hi : i < os.length := by have := (List.getElem?_eq_some_iff.1 hel).1; omega
   obtain ⟨el', e1, e3, e4, f1, _⟩ := hpart i hi
   rw [hel] at e1
   obtain rfl := Option.some.inj e1
   have hj : j < s := by rw [← e3]; exact (List.getElem?_eq_some_iff.1 hv).1
   have hlt : j < (a.eval os[i]).cells.size := by rw [← f1.1, e3]; exact hj
   exact ⟨_, by rw [hcell i j hi hj, Array.getElem?_eq_getElem hlt], f1.2 j v _ hv (Array.getElem?_eq_getElem hlt)⟩
 let l' : Loc := ⟨w.heap.size, 0, s, len * s⟩
 have hle : RLe ρ (extρ ρ H.length l') := Xcq (hR.top _ (Nat.le_refl _))
 have hN := hR.new (.cells cells e (0, 0)) l' (.mem s es e) rfl rfl (by
  have := Xkr (w' := { w with heap := w.heap.push (.cells cells e (0, 0)) }) (rest := #[]) (cap := len) (e := e) (b := w.heap.size) hs0 (hRR.mono (KLe.refl _) hle) (by simp) (by simp) (by simp [hsize])
  exact this)
 refine ⟨_, _, _, K, extρ ρ H.length l', hrun, .inl rfl, ?_, hN⟩
 rw [hesl]
 exact .row (l := l') QC (Nat.le_refl _) (.inr ⟨by simp [l'], by simp [l']⟩)
end
end Go.Proofs.Ytcbhlpbkampfeaa.AI
