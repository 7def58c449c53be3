import Derived.Test.YtcbhlpbkampfeaaA11
import Derived.Laws.StructEq
import Derived.ChangeKeysEq
/- Part of a proof. -/
set_option linter.unusedVariables false
namespace Go.Proofs.Ytcbhlpbkampfeaa.AI

theorem Xcr : ∀ (ks ks' : List Nat) (as bs : List AV) (r : Bool), Yy (ks ++ ks') as bs = some r → ∃ r1 r2, Yy ks as bs = some r1 ∧ Yy ks' (as.drop ks.length) (bs.drop ks.length) = some r2 ∧ r = (r1 && r2) ∧ ks.length ≤ as.length ∧ ks.length ≤ bs.length
 | [], ks', as, bs, r, h => ⟨true, r, rfl, h, by simp, Nat.zero_le _, Nat.zero_le _⟩
 | k :: ks, ks', [], bs, r, h => by simp [Yy] at h
 | k :: ks, ks', a :: as, [], r, h => by simp [Yy] at h
 | k :: ks, ks', a :: as, b :: bs, r, h => by
  simp only [List.cons_append, Yy] at h
  cases h1 : eqTag k a b with
  | none => rw [h1] at h; cases h
  | some x =>
   cases h2 : Yy (ks ++ ks') as bs with
   | none => rw [h1, h2] at h; cases h
   | some y =>
    rw [h1, h2] at h
    simp only [Option.some.injEq] at h
    obtain ⟨r1, r2, e1, e2, e3, e4, e5⟩ := Xcr ks ks' as bs y h2
    refine ⟨x && r1, r2, by simp only [Yy, h1, e1], by simpa using e2, by rw [← h, e3, Bool.and_assoc], by simpa using e4, by simpa using e5⟩

theorem Xee : ∀ (ks : List Nat) (as bs : List AV) (r : Bool), Yy ks as bs = some r → Yy ks (as.take ks.length) (bs.take ks.length) = some r
 | [], as, bs, r, h => by simpa [Yy] using h
 | k :: ks, [], bs, r, h => by simp [Yy] at h
 | k :: ks, a :: as, [], r, h => by simp [Yy] at h
 | k :: ks, a :: as, b :: bs, r, h => by
  simp only [Yy] at h
  simp only [List.length_cons, List.take_succ_cons, Yy]
  cases h1 : eqTag k a b with
  | none => rw [h1] at h; cases h
  | some x =>
   cases h2 : Yy ks as bs with
   | none => rw [h1, h2] at h; cases h
   | some y => rw [h1, h2] at h; rw [Xee ks as bs y h2]; exact h

theorem flatK_one {P : Program} {d : Nat} {t : TypeId} {ks : List Nat} (h : flatK P d t = some ks) (ha : Qi P t = some false) : ks.length = 1 := by
 cases d with
 | zero => cases h
 | succ d =>
  simp only [flatK] at h
  simp only [Qi] at ha
  split at h <;> first | (cases h; rfl) | (rename_i e; rw [e] at ha; simp at ha; done) | cases h

theorem eqTag_run {P : Program} {K : (Nat → Option Obj)} {ρ : (Nat → Option Loc)} {t : TypeId} {k : Nat} {a b : AV} {u v : Value} {r : Bool} (hq : eqTag k a b = some r) (hk : (k = 0 ∧ ∃ q, P.underlying t = some (.int q)) ∨ (k = 1 ∧ P.underlying t = some .bool) ∨ (k = 2 ∧ P.underlying t = some .string))
  (ha : VR K ρ a u) (hb : VR K ρ b v) (d : Nat) (w : World) : (Op.equalIn (d + 1) t u v).run P w = .ok r w := by
 rcases hk with ⟨rfl, q, hu⟩ | ⟨rfl, hu⟩ | ⟨rfl, hu⟩
 ·
  cases a <;> cases b <;> simp only [eqTag, reduceCtorEq] at hq
  split at hq
  ·
   rename_i hd
   subst hd
   simp only [Option.some.injEq] at hq
   subst hq
   cases ha
   cases hb
   simp only [Op.equalIn, Sem.run_bind, Xc hu, Result.andThen_ok, if_true]
   rfl
  ·
   cases hq
 ·
  cases a <;> cases b <;> simp only [eqTag, reduceCtorEq, Option.some.injEq] at hq
  subst hq
  cases ha
  cases hb
  simp [Op.equalIn, Xc hu]
 ·
  cases a <;> cases b <;> simp only [eqTag, reduceCtorEq, Option.some.injEq] at hq
  subst hq
  cases ha
  cases hb
  simp only [Op.equalIn, Sem.run_bind, Xc hu, Result.andThen_ok]
  rfl

def EqAt0 (P : Program) (fk : TypeId → Option (List Nat)) (D : Nat) : Prop := ∀ (K : (Nat → Option Obj)) (ρ : (Nat → Option Loc)) (t : TypeId) (ks : List Nat) (g : Bool) (cs ds : List AV) (u v : Value) (r : Bool) (w : World), fk t = some ks → Qi P t = some g →
 VR K ρ (asVal g cs) u → VR K ρ (asVal g ds) v → Yy ks cs ds = some r → (Op.equalIn D t u v).run P w = .ok r w

theorem Xgc {P : Program} {fk : TypeId → Option (List Nat)} (h1 : ∀ t ks, fk t = some ks → Qi P t = some false → ks.length = 1) {D : Nat} (hE : EqAt0 P fk D) {K : (Nat → Option Obj)} {ρ : (Nat → Option Loc)} {cs ds : List AV} {xs ys : Array Value} (hx : VRs K ρ cs xs) (hy : VRs K ρ ds ys) (ox : ∀ u ∈ xs, one u = true) (oy : ∀ u ∈ ys, one u = true) (w : World) :
  ∀ (fs : List Field) (i : Nat) (ks : List Nat) (r : Bool), flatF P fk i fs = some ks → Yy ks (cs.drop i) (ds.drop i) = some r → (Op.eqFields D xs ys fs).run P w = .ok r w
 | [], i, ks, r, h, he => by
  simp only [flatF, Option.some.injEq] at h
  subst h
  simp only [Yy, Option.some.injEq] at he
  subst he
  simp [Op.eqFields]
 | f :: fs, i, ks, r, h, he => by
  simp only [flatF] at h
  split at h
  ·
   rename_i ks1 n g e1 e2 e3
   split at h
   ·
    rename_i ks2 e4
    split at h
    ·
     rename_i hc
     obtain ⟨rfl, hn, hl, hz⟩ := hc
     have hn' : f.name ≠ "_" := by simpa using hn
     cases h
     obtain ⟨r1, r2, q1, q2, rfl, q3, q4⟩ := Xcr _ _ _ _ _ he
     rw [hl] at q2 q3 q4
     rw [List.drop_drop, List.drop_drop] at q2
     rw [List.length_drop] at q3 q4
     have hn1 : g = false → n = 1 := fun hg => by subst hg; rw [← hl]; exact h1 _ _ e1 e3
     obtain ⟨u, hu, hvu⟩ := Xbg (P := P) e2 e3 hn1 hx ox (off := f.offset) (by omega) w
     obtain ⟨v, hv, hvv⟩ := Xbg (P := P) e2 e3 hn1 hy oy (off := f.offset) (by omega) w
     have hq := hE K ρ f.type ks1 g _ _ u v r1 w e1 e3 hvu hvv (by have := Xee _ _ _ _ q1; rwa [hl] at this)
     have hr := Xgc h1 hE hx hy ox oy w fs (f.offset + n) ks2 r2 e4 q2
     rw [Op.eqFields]
     simp only [if_pos hn', Sem.run_bind, hu, hv, hq, Result.andThen_ok]
     cases r1
     ·
      simp
     ·
      simpa using hr
    ·
     cases h
   ·
    cases h
  ·
   cases h

theorem Xik {P : Program} {fk : TypeId → Option (List Nat)} (h1 : ∀ t ks, fk t = some ks → Qi P t = some false → ks.length = 1) {D : Nat} (hE : EqAt0 P fk D) {K : (Nat → Option Obj)} {ρ : (Nat → Option Loc)} {cs ds : List AV} {xs ys : Array Value} (hx : VRs K ρ cs xs) (hy : VRs K ρ ds ys) (ox : ∀ u ∈ xs, one u = true) (oy : ∀ u ∈ ys, one u = true) (w : World)
  {e : TypeId} {ks : List Nat} {n : Nat} {g : Bool} (e1 : fk e = some ks) (e2 : sizeT P e = some n) (e3 : Qi P e = some g) (hl : ks.length = n) (hz : 0 < n) :
  ∀ (m j : Nat) (r : Bool), Yy (List.replicate m ks).flatten (cs.drop (j * n)) (ds.drop (j * n)) = some r → (Op.eqItems D e n xs ys (List.range' j m)).run P w = .ok r w
 | 0, j, r, he => by
  simp only [List.replicate_zero, List.flatten_nil, Yy, Option.some.injEq] at he
  subst he
  simp [Op.eqItems]
 | m + 1, j, r, he => by
  rw [List.replicate_succ, List.flatten_cons] at he
  obtain ⟨r1, r2, q1, q2, rfl, q3, q4⟩ := Xcr _ _ _ _ _ he
  rw [hl] at q2 q3 q4
  rw [List.drop_drop, List.drop_drop] at q2
  rw [List.length_drop] at q3 q4
  have hn1 : g = false → n = 1 := fun hg => by subst hg; rw [← hl]; exact h1 _ _ e1 e3
  obtain ⟨u, hu, hvu⟩ := Xbg (P := P) e2 e3 hn1 hx ox (off := j * n) (by omega) w
  obtain ⟨v, hv, hvv⟩ := Xbg (P := P) e2 e3 hn1 hy oy (off := j * n) (by omega) w
  have hq := hE K ρ e ks g _ _ u v r1 w e1 e3 hvu hvv (by have := Xee _ _ _ _ q1; rwa [hl] at this)
  have hr := Xik h1 hE hx hy ox oy w e1 e2 e3 hl hz m (j + 1) r2 (by rw [Nat.add_mul, Nat.one_mul]; exact q2)
  rw [List.range'_succ, Op.eqItems]
  simp only [Sem.run_bind, hu, hv, hq, Result.andThen_ok]
  cases r1
  ·
   simp
  ·
   simpa using hr

theorem Xk1 {P : Program} : ∀ (d D : Nat), d ≤ D → EqAt0 P (flatK P d) D
 | 0, D, _ => fun K ρ t ks g cs ds u v r w h => by cases h
 | d + 1, 0, hd => by omega
 | d + 1, D + 1, hd => fun K ρ t ks g cs ds u v r w h hg hu hv he => by
  have hE := Xk1 (P := P) d D (by omega)
  have h1 : ∀ t ks, flatK P d t = some ks → Qi P t = some false → ks.length = 1 := fun t ks => flatK_one
  have sc : ∀ k, ks = [k] → g = false → ((k = 0 ∧ ∃ q, P.underlying t = some (.int q)) ∨ (k = 1 ∧ P.underlying t = some .bool) ∨ (k = 2 ∧ P.underlying t = some .string)) → (Op.equalIn (D + 1) t u v).run P w = .ok r w := by
   intro k hk hgf hh
   subst hk
   subst hgf
   cases cs with
   | nil => simp [Yy] at he
   | cons a cs =>
    cases ds with
    | nil => simp [Yy] at he
    | cons b ds =>
     simp only [Yy] at he
     cases hq : eqTag k a b with
     | none => rw [hq] at he; cases he
     | some q =>
      rw [hq] at he
      simp only [Bool.and_true, Option.some.injEq] at he
      subst he
      exact eqTag_run hq hh hu hv D w
  simp only [flatK] at h
  cases hut : P.underlying t with
  | none => rw [hut] at h; cases h
  | some td =>
   rw [hut] at h
   simp only [Qi, hut] at hg
   cases td <;> simp only [reduceCtorEq] at h
   case bool => cases h; cases hg; exact sc 1 rfl rfl (.inr (.inl ⟨rfl, hut⟩))
   case int q => cases h; cases hg; exact sc 0 rfl rfl (.inl ⟨rfl, q, hut⟩)
   case string => cases h; cases hg; exact sc 2 rfl rfl (.inr (.inr ⟨rfl, hut⟩))
   case struct fs =>
    cases hg
    split at h
    ·
     rename_i hs
     obtain ⟨xs, rfl, hVx, ox⟩ := Xa2 hu
     obtain ⟨ys, rfl, hVy, oy⟩ := Xa2 hv
     have hf : P.fieldsOf t = fs := by simp [Program.fieldsOf, hut]
     rw [run_equalIn_struct (P := P) w D t xs ys (by rw [hf]; exact hut) hs, hf]
     exact Xgc h1 hE hVx hVy ox oy w fs.toList 0 ks r h (by simpa using he)
    ·
     cases h
   case array len e =>
    cases hg
    split at h
    ·
     rename_i k0 n g0 e1 e2 e3
     split at h
     ·
      rename_i hc
      cases h
      obtain ⟨xs, rfl, hVx, ox⟩ := Xa2 hu
      obtain ⟨ys, rfl, hVy, oy⟩ := Xa2 hv
      obtain ⟨i, hi, hin⟩ := Xdm e2
      have hn : P.cellsOf e = n := by simp [Program.cellsOf, hi, hin]
      rw [run_equalIn_array (P := P) w D xs ys hut hi, hn, List.range_eq_range']
      exact Xik h1 hE hVx hVy ox oy w e1 e2 e3 hc.1 hc.2 len 0 r (by simpa using he)
     ·
      cases h
    ·
     cases h
end Go.Proofs.Ytcbhlpbkampfeaa.AI
