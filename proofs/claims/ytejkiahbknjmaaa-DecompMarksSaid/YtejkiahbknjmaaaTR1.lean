/- Plain laws of layer 3: ranges, what a code has. -/
import Derived.Test.YtejkiahbknjmaaadecP
set_option linter.unusedVariables false
set_option linter.unusedSimpArgs false
set_option maxRecDepth 100000
namespace Go.Proofs.Ytejkiahbknjmaaa.AI
theorem w64 {x : Int} (h : -4611686018427387904 ≤ x) (h' : x ≤ 4611686018427387904) : IntKind.i64.wrap x = x := IntWalk.i64_in _ ⟨by omega, by omega⟩
theorem w32 {x : Int} (h : -2147483648 ≤ x) (h' : x ≤ 2147483647) : IntKind.i32.wrap x = x := IntWalk.i32_in _ ⟨by omega, by omega⟩
theorem atI_at {α : Type} {l : List α} {k : Nat} {x : α} (h : l[k]? = some x) : atI l (k : Int) = some x := by rw [atI_nat, h]
theorem atI_get {α : Type} {l : List α} {k : Nat} (h : k < l.length) : atI l (k : Int) = some l[k] := atI_at (List.getElem?_eq_getElem h)
theorem wk {k : Nat} (h : k ≤ 1000000) : IntKind.i64.wrap ((k : Int) + 1) = ((k + 1 : Nat) : Int) := by rw [w64 (by omega) (by omega)]; omega
def okV (m : Int) (r : TRange) : Prop := r.From ≤ r.To ∧ r.To ≤ 1114111 ∧ 0 ≤ r.Val ∧ r.Val ≤ m
def chR (m : Int) : Int → List TRange → Prop
  | _, [] => True
  | a, r :: l => a < r.From ∧ okV m r ∧ chR m r.To l
def Rt (m : Int) (l : List TRange) : Prop := l.length ≤ 5000 ∧ chR m (-1) l
theorem chR_mono {m a b : Int} (h : b ≤ a) : ∀ {l : List TRange}, chR m a l → chR m b l
  | [], _ => trivial
  | r :: l, h' => ⟨by have := h'.1; omega, h'.2⟩
theorem chR_mem {m : Int} : ∀ {l : List TRange} {a : Int}, chR m a l → ∀ r ∈ l, a < r.From ∧ okV m r
  | [], a, _, r, hr => by cases hr
  | x :: l, a, h, r, hr => by
    rcases List.mem_cons.1 hr with rfl | hr
    · exact ⟨h.1, h.2.1⟩
    · have := chR_mem h.2.2 r hr
      have h1 := h.1
      have h2 := h.2.1.1
      exact ⟨by omega, this.2⟩
theorem chR_app {m : Int} : ∀ {A B : List TRange} {a : Int}, chR m a (A ++ B) → ∃ b, a ≤ b ∧ chR m b B ∧ ∀ r ∈ A, r.To ≤ b
  | [], B, a, h => ⟨a, Int.le_refl _, h, by simp⟩
  | x :: A, B, a, h => by
    obtain ⟨b, h1, h2, h3⟩ := chR_app (A := A) h.2.2
    have := h.1
    have := h.2.1.1
    refine ⟨b, by omega, h2, fun r hr => ?_⟩
    rcases List.mem_cons.1 hr with rfl | hr
    · exact h1
    · exact h3 r hr
theorem chR_pre {m : Int} : ∀ {A B : List TRange} {a : Int}, chR m a (A ++ B) → chR m a A
  | [], B, a, h => trivial
  | x :: A, B, a, h => ⟨h.1, h.2.1, chR_pre h.2.2⟩
theorem sright_L1 {N : Nat} {m : Int} {l : List TRange} (hl : l.length ≤ 5000) : ∀ (d k n : Nat) (a : Int), k + d = l.length → d < n → ∃ o, span_Right_L1 N m l n a k = some o ∧ (o = .inl () ↔ chR m a (l.drop k)) := by
  intro d
  induction d with
  | zero =>
    intro k n a hk hn
    obtain ⟨n, rfl⟩ : ∃ x, n = x + 1 := ⟨n - 1, by omega⟩
    rw [span_Right_L1, if_neg (by omega), List.drop_eq_nil_of_le (by omega)]
    exact ⟨_, rfl, by simp [chR]⟩
  | succ d ih =>
    intro k n a hk hn
    obtain ⟨n, rfl⟩ : ∃ x, n = x + 1 := ⟨n - 1, by omega⟩
    have hkl : k < l.length := by omega
    rw [span_Right_L1, if_pos (by omega), atI_get hkl, Option.bind_some, wk (by omega), List.drop_eq_getElem_cons hkl]
    unfold chR okV
    by_cases g1 : l[k].From ≤ a
    · rw [if_pos g1]; exact ⟨_, rfl, by simp; intro h; omega⟩
    rw [if_neg g1]
    by_cases g2 : l[k].To < l[k].From
    · rw [if_pos g2]; exact ⟨_, rfl, by simp; intro _ h; omega⟩
    rw [if_neg g2]
    by_cases g3 : 1114111 < l[k].To
    · rw [if_pos g3]; exact ⟨_, rfl, by simp; intro _ _ h; omega⟩
    rw [if_neg g3]
    by_cases g4 : l[k].Val < 0
    · rw [if_pos g4]; exact ⟨_, rfl, by simp; intro _ _ _ h; omega⟩
    rw [if_neg g4]
    by_cases g5 : m < l[k].Val
    · rw [if_pos g5]; exact ⟨_, rfl, by simp; intro _ _ _ _ h; omega⟩
    rw [if_neg g5]
    obtain ⟨o, e, h⟩ := ih (k + 1) n l[k].To (by omega) (by omega)
    exact ⟨o, e, by rw [h]; exact ⟨fun h => ⟨by omega, ⟨by omega, by omega, by omega, by omega⟩, h⟩, fun h => h.2.2⟩⟩
theorem sright_eq {N : Nat} (hN : 1000000000000 < N) (l : List TRange) (m : Int) : ∃ b, span_Right N l m = some b ∧ (b = true ↔ Rt m l) := by
  unfold span_Right Rt
  by_cases g : 5000 < (l.length : Int)
  · rw [if_pos g]; exact ⟨_, rfl, by simp; intro h; omega⟩
  rw [if_neg g]
  obtain ⟨o, e, h⟩ := sright_L1 (N := N) (m := m) (l := l) (by omega) l.length 0 N (-1) (by omega) (by omega)
  rw [List.drop_zero] at h
  rw [show span_Right_L1 N m l N (-1) 0 = _ from e, Option.bind_some]
  cases o with
  | inl u => exact ⟨_, rfl, by simp; exact ⟨by omega, h.1 rfl⟩⟩
  | inr u => exact ⟨_, rfl, by simp; intro _ hc; have := h.2 hc; cases this⟩
/-! ### what a code has -/
def vld (c : Int) : Bool := decide (0 ≤ c ∧ c ≤ 1114111 ∧ (c < 55296 ∨ 57343 < c))
theorem svalid_eq {N : Nat} (c : Int) : span_Valid N c = some (vld c) := by
  unfold span_Valid vld
  by_cases g1 : 0 ≤ c
  · rw [if_pos g1]
    by_cases g2 : c ≤ 1114111
    · rw [if_pos g2]
      by_cases g3 : c < 55296
      · rw [if_pos g3, decide_eq_true (by omega)]
      · rw [if_neg g3]; congr 1; exact decide_eq_decide.2 (by omega)
    · rw [if_neg g2, decide_eq_false (by omega)]
  · rw [if_neg g1, decide_eq_false (by omega)]
def fnd : List TRange → Int → Option Int
  | [], _ => none
  | r :: l, c => if r.From ≤ c ∧ c ≤ r.To then some r.Val else fnd l c
def valc (l : List TRange) (c : Int) : Int := if vld c = true then (fnd l c).getD 0 else 0
theorem fnd_app : ∀ (A B : List TRange) (c : Int), fnd (A ++ B) c = match fnd A c with | some v => some v | none => fnd B c
  | [], B, c => rfl
  | r :: A, B, c => by
    simp only [List.cons_append, fnd]
    by_cases h : r.From ≤ c ∧ c ≤ r.To
    · rw [if_pos h, if_pos h]
    · rw [if_neg h, if_neg h]; exact fnd_app A B c
theorem fnd_left {c : Int} : ∀ {A : List TRange}, (∀ r ∈ A, r.To < c) → fnd A c = none
  | [], _ => rfl
  | r :: A, h => by
    have := h r List.mem_cons_self
    simp only [fnd]
    rw [if_neg (by omega)]
    exact fnd_left fun x hx => h x (List.mem_cons_of_mem _ hx)
theorem fnd_right {c : Int} : ∀ {A : List TRange}, (∀ r ∈ A, c < r.From) → fnd A c = none
  | [], _ => rfl
  | r :: A, h => by
    have := h r List.mem_cons_self
    simp only [fnd]
    rw [if_neg (by omega)]
    exact fnd_right fun x hx => h x (List.mem_cons_of_mem _ hx)
theorem fnd_mem {c v : Int} : ∀ {A : List TRange}, fnd A c = some v → ∃ r ∈ A, r.From ≤ c ∧ c ≤ r.To ∧ r.Val = v
  | [], h => by cases h
  | r :: A, h => by
    simp only [fnd] at h
    split at h
    · rename_i g
      exact ⟨r, List.mem_cons_self, g.1, g.2, Option.some.inj h⟩
    · obtain ⟨x, hx, h'⟩ := fnd_mem h
      exact ⟨x, List.mem_cons_of_mem _ hx, h'⟩
theorem valc_in {m a : Int} (hm : 0 ≤ m) {l : List TRange} (h : chR m a l) (c : Int) : 0 ≤ valc l c ∧ valc l c ≤ m := by
  unfold valc
  split
  · cases e : fnd l c with
    | none => exact ⟨Int.le_refl _, hm⟩
    | some v =>
      obtain ⟨r, hr, _, _, rfl⟩ := fnd_mem e
      have := (chR_mem h r hr).2
      exact ⟨this.2.2.1, this.2.2.2⟩
  · exact ⟨Int.le_refl _, hm⟩
/-! ### a block -/
def gv (v : Vector Int 128) (k : Nat) : Int := (v.toList[k]?).getD 0
theorem vl128 (v : Vector Int 128) : v.toList.length = 128 := by simp
theorem gv_at {v : Vector Int 128} {k : Nat} (h : k < 128) : atI v.toList (k : Int) = some (gv v k) := by
  unfold gv; rw [atI_nat, List.getElem?_eq_getElem (by rw [vl128]; exact h)]; rfl
theorem gv_set {v : Vector Int 128} {i : Nat} {x : Int} (hi : i < 128) (k : Nat) : gv (v.setIfInBounds i x) k = if k = i then x else gv v k := by
  unfold gv
  rw [Vector.toList_setIfInBounds]
  by_cases h : k = i
  · subst h; rw [List.getElem?_set_self (by rw [vl128]; exact hi), if_pos rfl]; rfl
  · rw [List.getElem?_set_ne (Ne.symm h), if_neg h]
theorem gv_ext {v u : Vector Int 128} (h : ∀ k, k < 128 → gv v k = gv u k) : v = u := by
  rw [← Vector.toList_inj]
  refine List.ext_getElem (by simp) fun k h1 h2 => ?_
  have hk : k < 128 := by simpa using h1
  have := h k hk
  unfold gv at this
  rw [List.getElem?_eq_getElem h1, List.getElem?_eq_getElem h2] at this
  exact this
theorem gv_zero (k : Nat) : gv (Vector.replicate 128 0) k = 0 := by
  unfold gv
  rw [Vector.toList_replicate, List.getElem?_replicate]
  split <;> rfl
theorem lay_L2 {N : Nat} {i1 i2 : Int} {q : Nat} (hq : q < 8704) {l : List TRange} {x : TRange} (hx : okV 255 x) : ∀ (d n : Nat) (c : Int) (v : Vector Int 128), (q : Int) * 128 ≤ c → min x.To ((q : Int) * 128 + 127) + 1 - c ≤ (d : Int) → d < n →
    ∃ v', trie_lay_L2 N i1 q l i2 x n c v = some v' ∧ ∀ k, k < 128 → gv v' k = if c ≤ (q : Int) * 128 + (k : Int) ∧ (q : Int) * 128 + (k : Int) ≤ x.To ∧ vld ((q : Int) * 128 + (k : Int)) = true then x.Val else gv v k := by
  have h1 : IntKind.i32.wrap (IntKind.i64.wrap ((q : Int) * 128)) = (q : Int) * 128 := by rw [w64 (by omega) (by omega), w32 (by omega) (by omega)]
  have h2 : IntKind.i32.wrap (IntKind.i32.wrap ((q : Int) * 128 + 128) - 1) = (q : Int) * 128 + 127 := by rw [w32 (x := (q : Int) * 128 + 128) (by omega) (by omega), w32 (by omega) (by omega)]; omega
  obtain ⟨o1, o2, o3, o4⟩ := hx
  intro d
  induction d with
  | zero =>
    intro n c v hc hd hn
    obtain ⟨n, rfl⟩ : ∃ x, n = x + 1 := ⟨n - 1, by omega⟩
    rw [trie_lay_L2, h1, h2, if_neg (by omega)]
    exact ⟨v, rfl, fun k hk => by rw [if_neg (by omega)]⟩
  | succ d ih =>
    intro n c v hc hd hn
    obtain ⟨n, rfl⟩ : ∃ x, n = x + 1 := ⟨n - 1, by omega⟩
    rw [trie_lay_L2, h1, h2]
    by_cases g : c ≤ min x.To ((q : Int) * 128 + 127)
    · have hi : IntKind.i32.wrap (c - (q : Int) * 128) = (((c - (q : Int) * 128).toNat : Nat) : Int) := by rw [w32 (by omega) (by omega)]; omega
      have hc1 : IntKind.i32.wrap (c + 1) = c + 1 := w32 (by omega) (by omega)
      have hlt : (c - (q : Int) * 128).toNat < 128 := by omega
      rw [if_pos g, svalid_eq, Option.bind_some, hi, hc1, Int.toNat_natCast]
      by_cases g2 : vld c = true
      · rw [if_pos g2, gv_at hlt, Option.bind_some, IntWalk.u8_in _ ⟨o3, o4⟩]
        obtain ⟨v', e, h⟩ := ih n (c + 1) (v.setIfInBounds (c - (q : Int) * 128).toNat x.Val) (by omega) (by omega) (by omega)
        refine ⟨v', e, fun k hk => ?_⟩
        rw [h k hk, gv_set hlt]
        by_cases e1 : (q : Int) * 128 + (k : Int) = c
        · rw [if_neg (by omega), if_pos (by omega), e1, if_pos ⟨by omega, by omega, g2⟩]
        · rw [if_neg (c := k = _) (by omega)]
          by_cases e2 : c + 1 ≤ (q : Int) * 128 + (k : Int) ∧ (q : Int) * 128 + (k : Int) ≤ x.To ∧ vld ((q : Int) * 128 + (k : Int)) = true
          · rw [if_pos e2, if_pos ⟨by omega, e2.2⟩]
          · rw [if_neg e2, if_neg (fun e3 => e2 ⟨by omega, e3.2⟩)]
      · rw [if_neg g2]
        obtain ⟨v', e, h⟩ := ih n (c + 1) v (by omega) (by omega) (by omega)
        refine ⟨v', e, fun k hk => ?_⟩
        rw [h k hk]
        by_cases e1 : (q : Int) * 128 + (k : Int) = c
        · rw [if_neg (by omega), e1, if_neg (fun e3 => g2 e3.2.2)]
        · by_cases e2 : c + 1 ≤ (q : Int) * 128 + (k : Int) ∧ (q : Int) * 128 + (k : Int) ≤ x.To ∧ vld ((q : Int) * 128 + (k : Int)) = true
          · rw [if_pos e2, if_pos ⟨by omega, e2.2⟩]
          · rw [if_neg e2, if_neg (fun e3 => e2 ⟨by omega, e3.2⟩)]
    · rw [if_neg g]
      exact ⟨v, rfl, fun k hk => by rw [if_neg (by omega)]⟩
theorem lay_L3 {N : Nat} (hN : 1000000000000 < N) {q : Nat} (hq : q < 8704) {l : List TRange} {a : Int} (ha : -1 ≤ a) (hl : chR 255 a l) (hll : l.length ≤ 5000) : ∀ (d i n g : Nat) (v : Vector Int 128), i + d = l.length → d < n → g ≤ i → (∀ k, k < 128 → gv v k = valc (l.take i) ((q : Int) * 128 + (k : Int))) →
    (∀ r ∈ l.take g, r.To < (q : Int) * 128 + 128) → (g < i → ∀ r ∈ l.drop i, (q : Int) * 128 + 128 ≤ r.From) →
      ∃ (g' : Nat) (v' : Vector Int 128), trie_lay_L3 N q l n g i v = some ((g' : Int), v') ∧ g' ≤ l.length ∧ (∀ r ∈ l.take g', r.To < (q : Int) * 128 + 128) ∧ ∀ k, k < 128 → gv v' k = valc l ((q : Int) * 128 + (k : Int)) := by
  have h1 : IntKind.i32.wrap (IntKind.i64.wrap ((q : Int) * 128)) = (q : Int) * 128 := by rw [w64 (by omega) (by omega), w32 (by omega) (by omega)]
  have h2 : IntKind.i32.wrap ((q : Int) * 128 + 128) = (q : Int) * 128 + 128 := w32 (by omega) (by omega)
  intro d
  induction d with
  | zero =>
    intro i n g v hi hn hg hv hT hF
    obtain ⟨n, rfl⟩ : ∃ x, n = x + 1 := ⟨n - 1, by omega⟩
    rw [trie_lay_L3, if_neg (by omega)]
    rw [List.take_of_length_le (by omega)] at hv
    exact ⟨g, v, rfl, by omega, hT, hv⟩
  | succ d ih =>
    intro i n g v hi hn hg hv hT hF
    obtain ⟨n, rfl⟩ : ∃ x, n = x + 1 := ⟨n - 1, by omega⟩
    have hil : i < l.length := by omega
    have hsplit : l.take i ++ l[i] :: l.drop (i + 1) = l := by rw [← List.drop_eq_getElem_cons hil, List.take_append_drop]
    have hx := chR_mem hl _ (List.getElem_mem hil)
    have hch : chR 255 a (l.take i ++ l[i] :: l.drop (i + 1)) := by rw [hsplit]; exact hl
    obtain ⟨b, _, hb, hA⟩ := chR_app hch
    have hrest : ∀ r ∈ l.drop (i + 1), l[i].To < r.From := fun r hr => (chR_mem hb.2.2 r hr).1
    have hbef : ∀ r ∈ l.take i, r.To < l[i].From := fun r hr => by have := hA r hr; have := hb.1; omega
    have hov := hx.2
    obtain ⟨o1, o2, o3, o4⟩ := hx.2
    rw [trie_lay_L3, if_pos (by omega), atI_get hil, Option.bind_some, h1, h2]
    by_cases c1 : (q : Int) * 128 + 128 ≤ l[i].From
    · rw [if_pos c1]
      refine ⟨g, v, rfl, by omega, hT, fun k hk => ?_⟩
      rw [hv k hk]
      have : fnd l ((q : Int) * 128 + (k : Int)) = fnd (l.take i) ((q : Int) * 128 + (k : Int)) := by
        conv => lhs; rw [← hsplit]
        rw [fnd_app, fnd_right (A := l[i] :: l.drop (i + 1)) (fun r hr => by
          rcases List.mem_cons.1 hr with rfl | hr
          · omega
          · have := hrest r hr; omega)]
        cases fnd (l.take i) ((q : Int) * 128 + (k : Int)) <;> rfl
      unfold valc
      rw [this]
    rw [if_neg c1]
    obtain ⟨v1, e2, hv1⟩ := lay_L2 (N := N) (i1 := (g : Int)) (i2 := (i : Int)) (l := l) hq hov 200 N (max l[i].From ((q : Int) * 128)) v (by omega) (by omega) (by omega)
    rw [show trie_lay_L2 N g q l i l[i] N _ v = _ from e2, Option.bind_some, wk (k := i) (by omega)]
    have hnew : ∀ k, k < 128 → gv v1 k = valc (l.take (i + 1)) ((q : Int) * 128 + (k : Int)) := fun k hk => by
      rw [hv1 k hk, hv k hk, List.take_succ_eq_append_getElem hil]
      unfold valc
      rw [fnd_app]
      by_cases e3 : l[i].From ≤ (q : Int) * 128 + (k : Int) ∧ (q : Int) * 128 + (k : Int) ≤ l[i].To
      · rw [fnd_left (A := l.take i) (fun r hr => by have := hbef r hr; omega)]
        simp only [fnd, if_pos e3]
        by_cases e4 : vld ((q : Int) * 128 + (k : Int)) = true
        · rw [if_pos ⟨by omega, e3.2, e4⟩, if_pos e4]; rfl
        · rw [if_neg (fun h => e4 h.2.2), if_neg e4, if_neg e4]
      · rw [if_neg (fun h => e3 ⟨by omega, h.2.1⟩)]
        simp only [fnd, if_neg e3]
        cases fnd (l.take i) ((q : Int) * 128 + (k : Int)) <;> rfl
    by_cases c2 : l[i].To < (q : Int) * 128 + 128
    · rw [if_pos c2, wk (k := g) (by omega)]
      have hgi : g = i := by
        rcases Nat.lt_or_ge g i with h | h
        · have := hF h l[i] (by rw [List.drop_eq_getElem_cons hil]; exact List.mem_cons_self)
          omega
        · omega
      subst hgi
      refine ih (g + 1) n (g + 1) v1 (by omega) (by omega) (Nat.le_refl _) hnew (fun r hr => ?_) (fun h => by omega)
      rw [List.take_succ_eq_append_getElem hil] at hr
      rcases List.mem_append.1 hr with hr | hr
      · exact hT r hr
      · rw [List.mem_singleton.1 hr]; exact c2
    · rw [if_neg c2]
      exact ih (i + 1) n g v1 (by omega) (by omega) (by omega) hnew hT (fun _ r hr => by have := hrest r hr; omega)
theorem lay_eq {N : Nat} (hN : 1000000000000 < N) {q : Nat} (hq : q < 8704) {l : List TRange} {a : Int} (ha : -1 ≤ a) (hl : chR 255 a l) (hll : l.length ≤ 5000) :
    ∃ (g : Nat) (v : Vector Int 128), trie_lay N (Vector.replicate 128 0) q l = some ((g : Int), v) ∧ g ≤ l.length ∧ (∀ r ∈ l.take g, r.To < (q : Int) * 128 + 128) ∧ ∀ k, k < 128 → gv v k = valc l ((q : Int) * 128 + (k : Int)) := by
  obtain ⟨g, v, e, h⟩ := lay_L3 hN hq ha hl hll l.length 0 N 0 (Vector.replicate 128 0) (by omega) (by omega) (Nat.le_refl _) (fun k hk => by
    rw [gv_zero, List.take_zero]; unfold valc; simp [fnd]) (by simp) (fun h => by omega)
  unfold trie_lay
  rw [show trie_lay_L3 N q l N 0 0 _ = _ from e, Option.bind_some]
  exact ⟨g, v, rfl, h⟩
end Go.Proofs.Ytejkiahbknjmaaa.AI
