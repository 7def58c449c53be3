import Derived.Test.YtcbhlpbkampfeaaA3
/- Part of a proof. -/
set_option linter.unusedVariables false
namespace Go.Proofs.Ytcbhlpbkampfeaa.AI

def extρ (ρ : (Nat → Option Loc)) (n : Nat) (l : Loc) : (Nat → Option Loc) := fun id => if id = n then some l else ρ id
theorem Xcq {ρ : (Nat → Option Loc)} {n : Nat} {l : Loc} (h : ρ n = none) : RLe ρ (extρ ρ n l) := by
 intro id x hx
 simp only [extρ]
 split
 ·
  rename_i e; rw [e, h] at hx; cases hx
 ·
  exact hx
theorem Xe3 {ρ : (Nat → Option Loc)} {n : Nat} {l : Loc} {id : Nat} (h : id < n) : extρ ρ n l id = ρ id := by simp only [extρ, if_neg (Nat.ne_of_lt h)]
theorem QC {ρ : (Nat → Option Loc)} {n : Nat} {l : Loc} : extρ ρ n l n = some l := by simp only [extρ, if_pos]

theorem get_snoc {H : List AObj} {o : AObj} {i : Nat} {x : AObj} (h : (H ++ [o])[i]? = some x) : (i < H.length ∧ H[i]? = some x) ∨ (i = H.length ∧ x = o) := by
  rcases Nat.lt_trichotomy i H.length with hi | hi | hi
  · rw [List.getElem?_append_left hi] at h; exact .inl ⟨hi, h⟩
  · subst hi; simp at h; exact .inr ⟨rfl, h.symm⟩
  · rw [List.getElem?_eq_none (by simp; omega)] at h; cases h

theorem Rel.drawn {G : Gh} {K : (Nat → Option Obj)} {ρ : (Nat → Option Loc)} {H : List AObj} {w : World} (hR : Rel G K ρ H w) (n : Nat) : Rel G K ρ H { w with drawn := n } :=
 ⟨hR.os, hR.tape, hR.output, hR.keep, hR.frame, hR.apart, hR.top, fun id o h hl => by
  obtain ⟨l, h1, h2⟩ := hR.objs id o h hl
  exact ⟨l, h1, h2.mono (KLe.refl _) (RLe.refl _) (fun _ => rfl)⟩, hR.own, hR.inj⟩

theorem Rel.renew {G : Gh} {K : (Nat → Option Obj)} {ρ : (Nat → Option Loc)} {H : List AObj} {w w' : World} (hR : Rel G K ρ H w) (id : Nat) (l l' : Loc) (o' : AObj) (os : w'.os = w.os) (tape : w'.tape = w.tape) (output : w'.output = w.output)
  (old : ∀ b, b < w.heap.size → (∀ o, H[id]? = some o → ρ id = some l → real l o = true → b ≠ l.block) → w'.heap[b]? = w.heap[b]?) (hl : live o' = true)
  (hρ : ρ id = some l ∨ H[id]? = none)
  (hwhere : real l' o' = true → (l'.block < w'.heap.size ∧ (w.heap.size ≤ l'.block ∨ ∃ o, H[id]? = some o ∧ ρ id = some l ∧ real l o = true ∧ l'.block = l.block)))
  (hO : OR K (extρ ρ H.length l') w' l' o') : Next G H.length K ρ K (extρ ρ H.length l') (H.set id .dead ++ [o']) w' := by
 have htop := hR.top H.length (Nat.le_refl _)
 have hle : RLe ρ (extρ ρ H.length l') := Xcq htop
 have hget : ∀ (i : Nat) o, (H.set id .dead ++ [o'])[i]? = some o → (i < H.length ∧ i ≠ id ∧ H[i]? = some o) ∨ (i = H.length ∧ o = o') ∨ o = .dead := by
  intro i o h
  rcases get_snoc h with ⟨h1, h2⟩ | ⟨h1, h2⟩
  ·
   rw [List.getElem?_set] at h2
   split at h2
   ·
    split at h2
    ·
     exact .inr (.inr (Option.some.inj h2).symm)
    ·
     cases h2
   ·
    rename_i hne
    rw [List.length_set] at h1
    exact .inl ⟨h1, fun e => hne e.symm, h2⟩
  ·
   rw [List.length_set] at h1
   exact .inr (.inl ⟨h1, h2⟩)
 -- a block that is not the old object's
 have hkeepb : ∀ b, b < w.heap.size → (∀ o, H[id]? = some o → ρ id = some l → real l o = true → b ≠ l.block) → w'.heap[b]? = w.heap[b]? := old
 have hK : ∀ b o, K b = some o → w'.heap[b]? = some o := by
  intro b o hb
  have h0 := hR.keep b o hb
  rw [hkeepb b (Array.getElem?_eq_some_iff.1 h0).1]
  ·
   exact h0
  ·
   intro o2 h1 h2 h3 e
   have := (hR.own id o2 l h1 h2 h3).2.1
   rw [← e, hb] at this
   cases this
 have hF : ∀ b o, G.frame b = some o → w'.heap[b]? = some o := by
  intro b o hb
  have h0 := hR.frame b o hb
  rw [hkeepb b (Array.getElem?_eq_some_iff.1 h0).1]
  ·
   exact h0
  ·
   intro o2 h1 h2 h3 e
   have := (hR.own id o2 l h1 h2 h3).2.2
   rw [← e, hb] at this
   cases this
 have hother : ∀ (i : Nat) o li, i ≠ id → H[i]? = some o → ρ i = some li → real li o = true → w'.heap[li.block]? = w.heap[li.block]? := by
  intro i o li hne h1 h2 h3
  refine hkeepb _ (hR.own i o li h1 h2 h3).1 ?_
  intro o2 g1 g2 g3 e
  exact hne (hR.inj i id o o2 li l h1 g1 h2 g2 h3 g3 e)
 have hown' : real l' o' = true → l'.block < w'.heap.size ∧ K l'.block = none ∧ G.frame l'.block = none := by
  intro hr
  obtain ⟨h1, h2⟩ := hwhere hr
  rcases h2 with h2 | ⟨o, g1, g2, g3, g4⟩
  ·
   refine ⟨h1, ?_, ?_⟩
   ·
    cases hk : K l'.block with
    | none => rfl
    | some x => have := (Array.getElem?_eq_some_iff.1 (hR.keep _ _ hk)).1; omega
   ·
    cases hk : G.frame l'.block with
    | none => rfl
    | some x => have := (Array.getElem?_eq_some_iff.1 (hR.frame _ _ hk)).1; omega
  ·
   rw [g4]
   obtain ⟨a, b, c⟩ := hR.own id o l g1 g2 g3
   exact ⟨g4 ▸ h1, b, c⟩
 refine ⟨⟨os.trans hR.os, tape.trans hR.tape, output.trans hR.output, hK, hF, hR.apart, ?_, ?_, ?_, ?_⟩, KLe.refl _, fun i hi => Xe3 hi⟩
 ·
  intro i hi
  simp only [List.length_append, List.length_set, List.length_singleton] at hi
  simp only [extρ, if_neg (show i ≠ H.length by omega)]
  exact hR.top i (by omega)
 ·
  intro i o h hlv
  rcases hget i o h with ⟨h1, h2, h3⟩ | ⟨rfl, rfl⟩ | rfl
  ·
   obtain ⟨li, g1, g2⟩ := hR.objs i o h3 hlv
   exact ⟨li, hle _ _ g1, g2.mono (KLe.refl _) hle (fun hr => hother i o li h2 h3 g1 hr)⟩
  ·
   exact ⟨l', QC, hO⟩
  ·
   cases hlv
 ·
  intro i o li h g hr
  rcases hget i o h with ⟨h1, h2, h3⟩ | ⟨rfl, rfl⟩ | rfl
  ·
   rw [Xe3 h1] at g
   obtain ⟨a, b, c⟩ := hR.own i o li h3 g hr
   have := hother i o li h2 h3 g hr
   rw [Array.getElem?_eq_getElem a] at this
   exact ⟨(Array.getElem?_eq_some_iff.1 this).1, b, c⟩
  ·
   rw [QC] at g
   obtain rfl := Option.some.inj g
   exact hown' hr
  ·
   cases hr
 ·
  intro i j oi oj li lj hi hj gi gj ri rj hb
  have cross : ∀ (i : Nat) oi li, i < H.length → i ≠ id → H[i]? = some oi → ρ i = some li → real li oi = true → real l' o' = true → li.block = l'.block → False := by
   intro i oi li h1 h2 h3 g ri rj hb
   obtain ⟨k1, k2⟩ := hwhere rj
   rcases k2 with k2 | ⟨o, m1, m2, m3, m4⟩
   ·
    have := (hR.own i oi li h3 g ri).1; omega
   ·
    exact h2 (hR.inj i id oi o li l h3 m1 g m2 ri m3 (hb.trans m4))
  rcases hget i oi hi with ⟨h1, h2, h3⟩ | ⟨rfl, rfl⟩ | rfl
  ·
   rw [Xe3 h1] at gi
   rcases hget j oj hj with ⟨k1, k2, k3⟩ | ⟨rfl, rfl⟩ | rfl
   ·
    rw [Xe3 k1] at gj
    exact hR.inj i j oi oj li lj h3 k3 gi gj ri rj hb
   ·
    rw [QC] at gj
    obtain rfl := Option.some.inj gj
    exact (cross i oi li h1 h2 h3 gi ri rj hb).elim
   ·
    cases rj
  ·
   rw [QC] at gi
   obtain rfl := Option.some.inj gi
   rcases hget j oj hj with ⟨k1, k2, k3⟩ | ⟨rfl, rfl⟩ | rfl
   ·
    rw [Xe3 k1] at gj
    exact (cross j oj lj k1 k2 k3 gj rj ri hb.symm).elim
   ·
    rfl
   ·
    cases rj
  ·
   cases ri

theorem Rel.new {G : Gh} {K : (Nat → Option Obj)} {ρ : (Nat → Option Loc)} {H : List AObj} {w : World} (hR : Rel G K ρ H w) (x : Obj) (l : Loc) (o : AObj) (hlb : l.block = w.heap.size) (hl : live o = true)
  (hO : OR K (extρ ρ H.length l) { w with heap := w.heap.push x } l o) : Next G H.length K ρ K (extρ ρ H.length l) (H ++ [o]) { w with heap := w.heap.push x } := by
 have h := hR.renew (w' := { w with heap := w.heap.push x }) H.length l l o rfl rfl rfl (fun b hb _ => by simp [Array.getElem?_push, Nat.ne_of_lt hb]) hl (.inr (List.getElem?_eq_none (Nat.le_refl _))) (fun _ => ⟨by simp [hlb], .inl (by omega)⟩) hO
 rwa [List.set_eq_of_length_le (Nat.le_refl _)] at h

theorem Rel.newK {G : Gh} {K : (Nat → Option Obj)} {ρ : (Nat → Option Loc)} {H : List AObj} {w : World} (hR : Rel G K ρ H w) (x : Obj) : Next G H.length K ρ (frzK K w.heap.size x) ρ H { w with heap := w.heap.push x } := by
 have hKn : K w.heap.size = none := by
  cases hk : K w.heap.size with
  | none => rfl
  | some o => have := (Array.getElem?_eq_some_iff.1 (hR.keep _ _ hk)).1; omega
 have hFn : G.frame w.heap.size = none := by
  cases hk : G.frame w.heap.size with
  | none => rfl
  | some o => have := (Array.getElem?_eq_some_iff.1 (hR.frame _ _ hk)).1; omega
 have hold : ∀ b, b < w.heap.size → (w.heap.push x)[b]? = w.heap[b]? := fun b hb => by simp [Array.getElem?_push, Nat.ne_of_lt hb]
 refine ⟨⟨hR.os, hR.tape, hR.output, ?_, ?_, ?_, hR.top, ?_, ?_, hR.inj⟩, Xky hKn, fun _ _ => rfl⟩
 ·
  intro b o hb
  simp only [frzK] at hb
  split at hb
  ·
   rename_i e; subst e; rw [← Option.some.inj hb]; simp
  ·
   have := hR.keep b o hb
   show (w.heap.push x)[b]? = some o
   rw [hold b (Array.getElem?_eq_some_iff.1 this).1]; exact this
 ·
  intro b o hb
  have := hR.frame b o hb
  show (w.heap.push x)[b]? = some o
  rw [hold b (Array.getElem?_eq_some_iff.1 this).1]; exact this
 ·
  intro b o hb
  simp only [frzK]
  split
  ·
   rename_i e; rw [e, hFn] at hb; cases hb
  ·
   exact hR.apart b o hb
 ·
  intro i o h hl
  obtain ⟨l, h1, h2⟩ := hR.objs i o h hl
  exact ⟨l, h1, h2.mono (Xky hKn) (RLe.refl _) (fun hr => hold _ (hR.own i o l h h1 hr).1)⟩
 ·
  intro i o l h h1 hr
  obtain ⟨a, b, c⟩ := hR.own i o l h h1 hr
  refine ⟨by simp; omega, ?_, c⟩
  simp only [frzK]
  rw [if_neg (Nat.ne_of_lt a)]
  exact b

theorem Rel.put {G : Gh} {K : (Nat → Option Obj)} {ρ : (Nat → Option Loc)} {H : List AObj} {w w' : World} (hR : Rel G K ρ H w) {id : Nat} {l : Loc} {o : AObj} (o' : AObj) (ho : H[id]? = some o) (hl : ρ id = some l) (hr : real l o = true) (os : w'.os = w.os) (tape : w'.tape = w.tape) (output : w'.output = w.output)
  (size : w'.heap.size = w.heap.size) (old : ∀ b, b ≠ l.block → w'.heap[b]? = w.heap[b]?) (hO : OR K ρ w' l o') : Next G H.length K ρ K ρ (H.set id o') w' := by
 obtain ⟨hlt, hKn, hFn⟩ := hR.own id o l ho hl hr
 have hid : id < H.length := (List.getElem?_eq_some_iff.1 ho).1
 have hget : ∀ (i : Nat) x, (H.set id o')[i]? = some x → (i = id ∧ x = o') ∨ (i ≠ id ∧ H[i]? = some x) := by
  intro i x h
  by_cases e : id = i
  ·
   subst e
   rw [List.getElem?_set_self hid] at h
   exact .inl ⟨rfl, (Option.some.inj h).symm⟩
  ·
   rw [List.getElem?_set_ne e] at h
   exact .inr ⟨fun e' => e e'.symm, h⟩
 have hother : ∀ (i : Nat) x li, i ≠ id → H[i]? = some x → ρ i = some li → real li x = true → li.block ≠ l.block := fun i x li hne h1 h2 h3 e => hne (hR.inj i id x o li l h1 ho h2 hl h3 hr e)
 refine ⟨⟨os.trans hR.os, tape.trans hR.tape, output.trans hR.output, ?_, ?_, hR.apart, ?_, ?_, ?_, ?_⟩, KLe.refl _, fun _ _ => rfl⟩
 ·
  intro b x hb
  rw [old b (fun e => by rw [e, hKn] at hb; cases hb)]
  exact hR.keep b x hb
 ·
  intro b x hb
  rw [old b (fun e => by rw [e, hFn] at hb; cases hb)]
  exact hR.frame b x hb
 ·
  intro i hi; exact hR.top i (by simpa using hi)
 ·
  intro i x h hlv
  rcases hget i x h with ⟨rfl, rfl⟩ | ⟨h1, h2⟩
  ·
   exact ⟨l, hl, hO⟩
  ·
   obtain ⟨li, g1, g2⟩ := hR.objs i x h2 hlv
   exact ⟨li, g1, g2.mono (KLe.refl _) (RLe.refl _) (fun hr => old _ (hother i x li h1 h2 g1 hr))⟩
 ·
  intro i x li h g hr'
  rcases hget i x h with ⟨rfl, rfl⟩ | ⟨h1, h2⟩
  ·
   rw [hl] at g
   obtain rfl := Option.some.inj g
   exact ⟨by omega, hKn, hFn⟩
  ·
   obtain ⟨a, b, c⟩ := hR.own i x li h2 g hr'
   exact ⟨by omega, b, c⟩
 ·
  intro i j oi oj li lj hi hj gi gj ri rj hb
  rcases hget i oi hi with ⟨rfl, rfl⟩ | ⟨h1, h2⟩
  ·
   rw [hl] at gi
   obtain rfl := Option.some.inj gi
   rcases hget j oj hj with ⟨rfl, rfl⟩ | ⟨k1, k2⟩
   ·
    rfl
   ·
    exact (hother j oj lj k1 k2 gj rj hb.symm).elim
  ·
   rcases hget j oj hj with ⟨rfl, rfl⟩ | ⟨k1, k2⟩
   ·
    rw [hl] at gj
    obtain rfl := Option.some.inj gj
    exact (hother i oi li h1 h2 gi ri hb).elim
   ·
    exact hR.inj i j oi oj li lj h2 k2 gi gj ri rj hb
end Go.Proofs.Ytcbhlpbkampfeaa.AI
