import Derived.Test.YtcbhlpbkampfeaaA17
/- Part of a proof. -/
set_option linter.unusedVariables false
set_option linter.unusedSimpArgs false
namespace Go.Proofs.Ytcbhlpbkampfeaa.AI

def posOf : List Nat → Nat → Nat → Option Nat
 | [], _, _ => none
 | x :: σ, id, k => if x = id then some k else posOf σ id (k + 1)
theorem Xjo : ∀ {σ : List Nat} {id k p : Nat}, posOf σ id k = some p → ∃ i, p = k + i ∧ σ[i]? = some id
 | [], id, k, p, h => by cases h
 | x :: σ, id, k, p, h => by
  simp only [posOf] at h
  split at h
  ·
   rename_i e; cases h; exact ⟨0, rfl, by simp [e]⟩
  ·
   obtain ⟨i, h1, h2⟩ := Xjo h
   exact ⟨i + 1, by omega, by simpa using h2⟩
def selS (σ : List Nat) : Sub := ⟨fun id e j => match posOf σ id 0 with | some k => .ptr k e j | none => .any, fun id off len => match posOf σ id 0 with | some k => .row k off len | none => .any, fun id => match posOf σ id 0 with | some k => .map k | none => .any⟩
def selρ (σ : List Nat) (ρ : (Nat → Option Loc)) : (Nat → Option Loc) := fun k => match σ[k]? with
 | some id => ρ id
 | none => none
theorem selR (σ : List Nat) (K : (Nat → Option Obj)) (ρ : (Nat → Option Loc)) : SubR (selS σ) K ρ K (selρ σ ρ) := by
 have key : ∀ id k l, posOf σ id 0 = some k → ρ id = some l → selρ σ ρ k = some l := by
  intro id k l hk hl
  obtain ⟨i, h1, h2⟩ := Xjo hk
  rw [h1, Nat.zero_add]
  simp only [selρ, h2]
  exact hl
 refine ⟨KLe.refl _, ?_, ?_, ?_⟩
 ·
  intro id e j u h
  simp only [selS]
  split
  ·
   cases h with | ptr h => exact .ptr (key _ _ _ ‹_› h)
  ·
   exact .any
 ·
  intro id off len u h
  simp only [selS]
  split
  ·
   cases h with | row h h1 h2 => exact .row (key _ _ _ ‹_› h) h1 h2
  ·
   exact .any
 ·
  intro id u h
  simp only [selS]
  split
  ·
   cases h with | map h => exact .map (key _ _ _ ‹_› h)
  ·
   exact .any

def selH (σ : List Nat) (H : List AObj) : List AObj := σ.map fun id => (H.getD id .dead).sub (selS σ)
theorem Rel.sel {G : Gh} {K : (Nat → Option Obj)} {ρ : (Nat → Option Loc)} {H : List AObj} {w : World} (hR : Rel G K ρ H w) {σ : List Nat} (hσ : σ.Nodup) : Rel G K (selρ σ ρ) (selH σ H) w := by
 have hget : ∀ (k : Nat) o, (selH σ H)[k]? = some o → ∃ id, σ[k]? = some id ∧ o = (H.getD id .dead).sub (selS σ) := by
  intro k o ho
  simp only [selH, List.getElem?_map, Option.map_eq_some_iff] at ho
  obtain ⟨id, h1, h2⟩ := ho
  exact ⟨id, h1, h2.symm⟩
 have hlive : ∀ id, live (H.getD id .dead) = true → H[id]? = some (H.getD id .dead) := by
  intro id h
  rw [List.getD_eq_getElem?_getD] at h ⊢
  cases hx : H[id]? with
  | none => rw [hx] at h; cases h
  | some o => rfl
 refine ⟨hR.os, hR.tape, hR.output, hR.keep, hR.frame, hR.apart, ?_, ?_, ?_, ?_⟩
 ·
  intro k hk
  simp only [selH, List.length_map] at hk
  simp only [selρ, List.getElem?_eq_none hk]
 ·
  intro k o ho hl
  obtain ⟨id, h1, rfl⟩ := hget k o ho
  rw [Xdq] at hl
  obtain ⟨l, hl', hO⟩ := hR.objs id _ (hlive id hl) hl
  exact ⟨l, by simp only [selρ, h1]; exact hl', hO.sub (selR σ K ρ) (fun _ => rfl)⟩
 ·
  intro k o l ho hl hr
  obtain ⟨id, h1, rfl⟩ := hget k o ho
  rw [Qx] at hr
  simp only [selρ, h1] at hl
  exact hR.own id _ l (hlive id (Xhw hr)) hl hr
 ·
  intro i j oi oj li lj hi hj hli hlj hri hrj hb
  obtain ⟨a, h1, rfl⟩ := hget i oi hi
  obtain ⟨b, h2, rfl⟩ := hget j oj hj
  rw [Qx] at hri hrj
  simp only [selρ, h1] at hli
  simp only [selρ, h2] at hlj
  have hab := hR.inj a b _ _ li lj (hlive a (Xhw hri)) (hlive b (Xhw hrj)) hli hlj hri hrj hb
  subst hab
  exact (List.getElem?_inj (List.getElem?_eq_some_iff.1 h1).1 hσ).1 (h1.trans h2.symm)

theorem Ref.sel {n0 : Nat} {ta : ATm} {H : List AObj} (σ : List Nat) (hσ : σ.Nodup) (hlow : ∀ k, k < n0 → σ[k]? = some k) : Ref n0 ta H (ta.sub (selS σ)) (selH σ H) := fun G K ρ w a hR hA =>
 ⟨K, selρ σ ρ, hA.sub (selR σ K ρ), hR.sel hσ, KLe.refl _, fun id hi => by simp [selρ, hlow id hi]⟩
theorem RefV.sel {n0 : Nat} {vs : List AV} {H : List AObj} (σ : List Nat) (hσ : σ.Nodup) (hlow : ∀ k, k < n0 → σ[k]? = some k) : RefV n0 vs H (subs (selS σ) vs) (selH σ H) := fun G K ρ w a hR hA =>
 ⟨K, selρ σ ρ, hA.sub (selR σ K ρ), hR.sel hσ, KLe.refl _, fun id hi => by simp [selρ, hlow id hi]⟩

theorem Ref.thaw {n0 : Nat} {n : Nat} {l : List (Nat × AV)} {ds : List (Fn × List AV × List AV)} {H : List AObj} (hn : n0 ≤ H.length) (x : Nat) (hx : look l x = .vec true []) {sz : Nat} (hsz : 0 < sz) (t : TypeId) :
  Ref n0 ⟨n, l, ds⟩ H ⟨n, (x, .row H.length 0 0) :: l, ds⟩ (H ++ [.mem sz [] t]) := fun G K ρ w a hR hA => by
 obtain ⟨ρ1, hle, hN, hv⟩ := hR.thaw hsz t
 have hA1 := hA.mono (KLe.refl _) hle
 refine ⟨K, ρ1, ⟨hA1.size, fun u => ?_, hA1.defers⟩, hN.rel, hN.keep, fun i hi => hN.low i (by omega)⟩
 have h1 := hA1.tmps u
 have h2 := hA.tmps x
 simp only [ATm.get, look] at h1 h2 ⊢
 split
 ·
  rename_i e
  subst e
  rw [hx] at h2
  exact hv _ h2
 ·
  exact h1

theorem Rel.tell {G : Gh} {K : (Nat → Option Obj)} {ρ : (Nat → Option Loc)} {H : List AObj} {w : World} (hR : Rel G K ρ H w) {id : Nat} {o o' : AObj} (ho : H[id]? = some o) (hl : live o' = true → live o = true) (hr : ∀ l, real l o' = true → real l o = true) (hO : ∀ l, ρ id = some l → OR K ρ w l o → OR K ρ w l o') :
  Rel G K ρ (H.set id o') w := by
 have hget : ∀ (i : Nat) x, (H.set id o')[i]? = some x → (i = id ∧ x = o') ∨ (i ≠ id ∧ H[i]? = some x) := by
  intro i x hx
  rw [List.getElem?_set] at hx
  split at hx
  ·
   rename_i e
   split at hx
   ·
    exact .inl ⟨e.symm, (Option.some.inj hx).symm⟩
   ·
    cases hx
  ·
   rename_i e; exact .inr ⟨fun h => e h.symm, hx⟩
 refine ⟨hR.os, hR.tape, hR.output, hR.keep, hR.frame, hR.apart, ?_, ?_, ?_, ?_⟩
 ·
  intro i hi; exact hR.top i (by simpa using hi)
 ·
  intro i x hx hlx
  rcases hget i x hx with ⟨rfl, rfl⟩ | ⟨_, h⟩
  ·
   obtain ⟨l, h1, h2⟩ := hR.objs _ _ ho (hl hlx)
   exact ⟨l, h1, hO l h1 h2⟩
  ·
   exact hR.objs i x h hlx
 ·
  intro i x l hx hlx hrx
  rcases hget i x hx with ⟨rfl, rfl⟩ | ⟨_, h⟩
  ·
   exact hR.own _ _ l ho hlx (hr l hrx)
  ·
   exact hR.own i x l h hlx hrx
 ·
  intro i j oi oj li lj hi hj hli hlj hri hrj hb
  rcases hget i oi hi with ⟨rfl, rfl⟩ | ⟨_, h⟩
  ·
   rcases hget j oj hj with ⟨rfl, rfl⟩ | ⟨_, h'⟩
   ·
    rfl
   ·
    exact hR.inj _ j _ oj li lj ho h' hli hlj (hr _ hri) hrj hb
  ·
   rcases hget j oj hj with ⟨rfl, rfl⟩ | ⟨_, h'⟩
   ·
    exact hR.inj i _ oi _ li lj h ho hli hlj hri (hr _ hrj) hb
   ·
    exact hR.inj i j oi oj li lj h h' hli hlj hri hrj hb

theorem Ref.thawB {n0 : Nat} {ta : ATm} {H : List AObj} (hn : n0 ≤ H.length) {id : Nat} {cs : List AV} {t : TypeId} (j : Nat) (ho : H[id]? = some (.box cs t)) (hx : cs[j]? = some (.vec true [])) {sz : Nat} (hsz : 0 < sz) (t' : TypeId) :
  Ref n0 ta H ta (H.set id (.box (cs.set j (.row H.length 0 0)) t) ++ [.mem sz [] t']) := fun G K ρ w a hR hA => by
 obtain ⟨ρ1, hle, hN, hv⟩ := hR.thaw hsz t'
 have hid : id < H.length := (List.getElem?_eq_some_iff.1 ho).1
 have ho1 : (H ++ [AObj.mem sz [] t'])[id]? = some (.box cs t) := by rw [List.getElem?_append_left hid]; exact ho
 obtain ⟨l0, hl0, hO0⟩ := hR.objs id _ ho rfl
 have hR1 := hN.rel.tell (o' := .box (cs.set j (.row H.length 0 0)) t) ho1 (fun _ => rfl) (fun _ _ => rfl) (fun l hl hO => by
  obtain ⟨c, h1, h2, h3, h4, h5⟩ := hO
  obtain ⟨c0, g1, g2, g3, g4, g5⟩ := hO0
  have hll : l = l0 := by rw [hle _ _ hl0] at hl; exact (Option.some.inj hl).symm
  subst hll
  rw [g1] at h1
  cases h1
  refine ⟨c, g1, by simpa using h2, h3, h4, fun i v hvi => ?_⟩
  rw [List.getElem?_set] at hvi
  split at hvi
  ·
   rename_i e
   subst e
   split at hvi
   ·
    cases hvi
    obtain ⟨u, hu, hru⟩ := g5 _ _ hx
    exact ⟨u, hu, hv u hru⟩
   ·
    cases hvi
  ·
   exact h5 i v hvi)
 rw [List.set_append_left _ _ hid] at hR1
 exact ⟨K, ρ1, hA.mono (KLe.refl _) hle, hR1, hN.keep, fun i hi => hN.low i (by omega)⟩
end Go.Proofs.Ytcbhlpbkampfeaa.AI
