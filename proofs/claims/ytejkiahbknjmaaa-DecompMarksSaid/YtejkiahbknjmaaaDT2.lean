/- Plain laws of layer 3: what is built. -/
import Derived.Test.YtejkiahbknjmaaaTR1
set_option linter.unusedVariables false
set_option linter.unusedSimpArgs false
set_option maxRecDepth 100000
set_option linter.unusedSectionVars false
namespace Go.Proofs.Ytejkiahbknjmaaa.AI
section
variable {α : Type} [DecidableEq α]
def mkV : Nat → List α → List (α × Int)
  | _, [] => []
  | k, a :: l => (a, (k : Int)) :: mkV (k + 1) l
def idV (l : List α) (a : α) : Option Nat := l.findIdx? fun x => decide (a = x)
theorem mfind_mkV (a : α) : ∀ (l : List α) (k : Nat), mfind (mkV k l) a = idV l a
  | [], k => rfl
  | b :: l, k => by
    have ih := mfind_mkV a l (k + 1)
    unfold mfind idV at *
    simp only [mkV, List.findIdx?_cons, ih]
theorem mkV_get : ∀ {l : List α} {k p : Nat}, (mkV k l)[p]? = (l[p]?).map fun a => (a, ((k + p : Nat) : Int))
  | [], k, p => by simp [mkV]
  | a :: l, k, 0 => by simp [mkV]
  | a :: l, k, p + 1 => by simp only [mkV, List.getElem?_cons_succ]; rw [mkV_get (l := l), show k + 1 + p = k + (p + 1) by omega]
theorem mkV_app : ∀ (l : List α) (k : Nat) (a : α), mkV k (l ++ [a]) = mkV k l ++ [(a, ((k + l.length : Nat) : Int))]
  | [], k, a => by simp [mkV]
  | b :: l, k, a => by simp only [List.cons_append, mkV, mkV_app l, List.length_cons, show k + 1 + l.length = k + (l.length + 1) by omega]
theorem idV_some {l : List α} {a : α} {p : Nat} (h : idV l a = some p) : l[p]? = some a := by
  unfold idV at h
  rw [List.findIdx?_eq_some_iff_getElem] at h
  obtain ⟨hl, h1, _⟩ := h
  rw [List.getElem?_eq_getElem hl, of_decide_eq_true h1]
theorem idV_none {l : List α} {a : α} (h : idV l a = none) : a ∉ l := by
  unfold idV at h
  rw [List.findIdx?_eq_none_iff] at h
  intro hm
  have := h a hm
  simp at this
theorem mhas_mkV (l : List α) (k : Nat) (a : α) : mhas (mkV k l) a = (idV l a).isSome := by unfold mhas; rw [mfind_mkV]
theorem mget_mkV {l : List α} {a : α} {p : Nat} (h : idV l a = some p) : mget (mkV 0 l) a = (p : Int) := by
  unfold mget
  rw [mfind_mkV, h]
  simp only [mkV_get, idV_some h, Option.map_some, Option.getD_some, Nat.zero_add]
theorem mput_mkV {l : List α} {a : α} (h : idV l a = none) : mput (mkV 0 l) a (l.length : Int) = mkV 0 (l ++ [a]) := by
  unfold mput
  rw [mfind_mkV, h]
  simp only [mkV_app, Nat.zero_add]
end
/-- The block of 128 codes. -/
def Blk (l : List TRange) (q : Nat) (v : Vector Int 128) : Prop := ∀ k, k < 128 → gv v k = valc l ((q : Int) * 128 + (k : Int))
theorem Blk.one {l : List TRange} {q : Nat} {v u : Vector Int 128} (h : Blk l q v) (h' : Blk l q u) : v = u := gv_ext fun k hk => by rw [h k hk, h' k hk]
/-- What has been built of the first blocks. -/
structure Tr (l : List TRange) (n : Nat) (idx : List Int) (bl : List (Vector Int 128)) : Prop where
  len : idx.length = n
  at_ : ∀ i : Nat, i < n → ∃ (p : Nat) (v : Vector Int 128), idx[i]? = some (p : Int) ∧ bl[p]? = some v ∧ Blk l i v
  nd : bl.Nodup
  all : ∀ v ∈ bl, ∃ i, i < n ∧ Blk l i v
  le : bl.length ≤ n
theorem build_L1 {N : Nat} (hN : 1000000000000 < N) {l : List TRange} (hl : Rt 255 l) {l0 : List TRange} {a1 a2 a3 a4 : Int} : ∀ (d q n : Nat) (D S : List TRange) (idx : List Int) (bl : List (Vector Int 128)), q + d = 8704 → d < n → D ++ S = l → (∀ r ∈ D, r.To < (q : Int) * 128) → Tr l q idx bl →
    ∃ idx' bl', trie_Trie_build_row_L1 N l0 a1 a2 a3 a4 n S q idx bl (mkV 0 bl) = some (idx', bl') ∧ Tr l 8704 idx' bl' := by
  obtain ⟨hll, hch⟩ := hl
  intro d
  induction d with
  | zero =>
    intro q n D S idx bl hq hn hD hT h
    obtain ⟨n, rfl⟩ : ∃ x, n = x + 1 := ⟨n - 1, by omega⟩
    rw [trie_Trie_build_row_L1, if_neg (by omega)]
    refine ⟨idx, bl, rfl, ?_⟩
    rw [show 8704 = q by omega]; exact h
  | succ d ih =>
    intro q n D S idx bl hq hn hD hT h
    obtain ⟨n, rfl⟩ : ∃ x, n = x + 1 := ⟨n - 1, by omega⟩
    have hSl : S.length ≤ 5000 := by rw [← hD] at hll; simp at hll; omega
    rw [← hD] at hch
    obtain ⟨b, hb1, hb2, hb3⟩ := chR_app hch
    obtain ⟨g, v, e, hg, hgT, hv⟩ := lay_eq hN (q := q) (by omega) (l := S) (a := b) (by omega) hb2 hSl
    have hB : Blk l q v := fun k hk => by
      rw [hv k hk]
      unfold valc
      rw [← hD, fnd_app, fnd_left (A := D) (fun r hr => by have := hT r hr; omega)]
    have hsl : slI S (g : Int) (S.length : Int) = S.drop g := by unfold slI; exact List.take_of_length_le (by simp)
    have hlen := h.len
    have hle := h.le
    have hD' : (D ++ S.take g) ++ S.drop g = l := by rw [List.append_assoc, List.take_append_drop, hD]
    have hT' : ∀ r ∈ D ++ S.take g, r.To < ((q + 1 : Nat) : Int) * 128 := fun r hr => by
      rcases List.mem_append.1 hr with hr | hr
      · have := hT r hr; omega
      · have := hgT r hr; omega
    rw [trie_Trie_build_row_L1, if_pos (by omega), e, Option.bind_some]
    simp only
    rw [if_pos (by omega), if_pos (by omega), mhas_mkV, hsl, wk (by omega)]
    cases hi : idV bl v with
    | some p =>
      have hp := idV_some hi
      rw [if_pos (show (some p).isSome = true from rfl), if_pos (by omega), mget_mkV hi]
      refine ih (q + 1) n _ _ _ _ (by omega) (by omega) hD' hT' ⟨by simp [hlen], fun i hi' => ?_, h.nd, fun u hu => ?_, by omega⟩
      · by_cases e1 : i = q
        · subst e1
          exact ⟨p, v, by rw [List.getElem?_append_right (by omega), hlen, Nat.sub_self]; rfl, hp, hB⟩
        · obtain ⟨p', v', h1, h2, h3⟩ := h.at_ i (by omega)
          exact ⟨p', v', by rw [List.getElem?_append_left (by omega)]; exact h1, h2, h3⟩
      · obtain ⟨i, h1, h2⟩ := h.all u hu
        exact ⟨i, by omega, h2⟩
    | none =>
      rw [if_neg (show ¬ (none : Option Nat).isSome = true by simp), if_pos (by omega), if_pos (by omega), mput_mkV hi]
      refine ih (q + 1) n _ _ _ _ (by omega) (by omega) hD' hT' ⟨by simp [hlen], fun i hi' => ?_, ?_, fun u hu => ?_, by simp; omega⟩
      · by_cases e1 : i = q
        · subst e1
          exact ⟨bl.length, v, by rw [List.getElem?_append_right (by omega), hlen, Nat.sub_self]; rfl, by simp, hB⟩
        · obtain ⟨p', v', h1, h2, h3⟩ := h.at_ i (by omega)
          exact ⟨p', v', by rw [List.getElem?_append_left (by omega)]; exact h1, by rw [List.getElem?_append_left (List.getElem?_eq_some_iff.1 h2).1]; exact h2, h3⟩
      · rw [List.nodup_append]
        refine ⟨h.nd, by simp, fun x hx y hy e => ?_⟩
        rw [List.mem_singleton.1 hy] at e
        exact idV_none hi (e ▸ hx)
      · rcases List.mem_append.1 hu with hu | hu
        · obtain ⟨i, h1, h2⟩ := h.all u hu
          exact ⟨i, by omega, h2⟩
        · rw [List.mem_singleton.1 hu]; exact ⟨q, by omega, hB⟩
theorem build_eq {N : Nat} (hN : 1000000000000 < N) {l : List TRange} (hl : Rt 255 l) {a1 a2 a3 a4 : Int} : ∃ idx bl, trie_Trie_build_row N l a1 a2 a3 a4 [] [] = some (idx, bl) ∧ Tr l 8704 idx bl := by
  obtain ⟨idx, bl, e, h⟩ := build_L1 hN hl (l0 := l) (a1 := a1) (a2 := a2) (a3 := a3) (a4 := a4) 8704 0 N [] l [] [] (by omega) (by omega) rfl (by simp) ⟨rfl, fun i hi => by omega, List.nodup_nil, by simp, Nat.le_refl _⟩
  unfold trie_Trie_build_row
  rw [show trie_Trie_build_row_L1 N l a1 a2 a3 a4 N l 0 [] [] [] = _ from e, Option.bind_some]
  exact ⟨idx, bl, rfl, h⟩
/-- What a trie holds: nothing yet, or all. -/
def Hd (l : List TRange) (d b : Int) (idx : List Int) (bl : List (Vector Int 128)) : Prop := (d = 0 ∧ b = 0 ∧ idx = [] ∧ bl = []) ∨ (d = 1 ∧ b = 1 ∧ Tr l 8704 idx bl)
theorem Tr.get {l : List TRange} (hl : Rt 255 l) {idx : List Int} {bl : List (Vector Int 128)} (h : Tr l 8704 idx bl) {c : Int} (h0 : 0 ≤ c) (h1 : c ≤ 1114111) :
    ∃ x v, atI idx (IntKind.i32.wrap (c.tdiv 128)) = some x ∧ atI bl x = some v ∧ atI v.toList (c.tmod 128) = some (valc l c) := by
  obtain ⟨c, rfl⟩ := Int.eq_ofNat_of_zero_le h0
  have hq : IntKind.i32.wrap ((c : Int).tdiv 128) = ((c / 128 : Nat) : Int) := by
    rw [Int.tdiv_eq_ediv_of_nonneg (by omega), w32 (by omega) (by omega)]; omega
  have hm : (c : Int).tmod 128 = ((c % 128 : Nat) : Int) := by rw [Int.tmod_eq_emod_of_nonneg (by omega)]; omega
  obtain ⟨p, v, e1, e2, hB⟩ := h.at_ (c / 128) (by omega)
  refine ⟨p, v, by rw [hq]; exact atI_at e1, atI_at e2, ?_⟩
  have hk : c % 128 < 128 := Nat.mod_lt _ (by omega)
  rw [hm, gv_at hk, hB _ hk]
  congr 2; omega
theorem valc_out {l : List TRange} {c : Int} (h : c < 0 ∨ 1114111 < c) : valc l c = 0 := by
  unfold valc vld
  rw [decide_eq_false (by omega)]; rfl
theorem get_eq {N : Nat} (hN : 1000000000000 < N) {l : List TRange} (hl : Rt 255 l) {d st b as : Int} {idx : List Int} {bl : List (Vector Int 128)} (h : Hd l d b idx bl) (c : Int) :
    ∃ idx' bl', trie_Trie_Get_row N l d st b as idx bl c = some (valc l c, 1, 1, IntKind.i64.wrap (as + 1), idx', bl') ∧ Tr l 8704 idx' bl' := by
  have hv := valc_in (by omega) hl.2 c
  have hw : IntKind.i64.wrap (valc l c) = valc l c := w64 (by omega) (by omega)
  rcases h with ⟨rfl, rfl, rfl, rfl⟩ | ⟨rfl, rfl, h⟩
  · obtain ⟨idx', bl', e, hT⟩ := build_eq hN hl (a1 := 0) (a2 := st) (a3 := 0) (a4 := IntKind.i64.wrap (as + 1))
    refine ⟨idx', bl', ?_, hT⟩
    unfold trie_Trie_Get_row
    rw [if_pos rfl, e, Option.bind_some]
    simp only
    by_cases g1 : c < 0
    · rw [if_pos g1, valc_out (.inl g1)]
    rw [if_neg g1]
    by_cases g2 : 1114111 < c
    · rw [if_pos g2, valc_out (.inr g2)]
    rw [if_neg g2]
    obtain ⟨x, v, e1, e2, e3⟩ := hT.get hl (show 0 ≤ c by omega) (by omega)
    rw [e1, Option.bind_some, e2, Option.bind_some, e3, Option.bind_some, hw]
  · refine ⟨idx, bl, ?_, h⟩
    unfold trie_Trie_Get_row
    rw [if_neg (by omega)]
    by_cases g1 : c < 0
    · rw [if_pos g1, valc_out (.inl g1)]
    rw [if_neg g1]
    by_cases g2 : 1114111 < c
    · rw [if_pos g2, valc_out (.inr g2)]
    rw [if_neg g2]
    obtain ⟨x, v, e1, e2, e3⟩ := h.get hl (show 0 ≤ c by omega) (by omega)
    rw [e1, Option.bind_some, e2, Option.bind_some, e3, Option.bind_some, hw]
theorem Tr.hd {l : List TRange} {idx : List Int} {bl : List (Vector Int 128)} (h : Tr l 8704 idx bl) : Hd l 1 1 idx bl := .inr ⟨rfl, rfl, h⟩
theorem new_eq {N : Nat} (hN : 1000000000000 < N) (l : List TRange) (hm : l.length ≤ 1000000) : (Rt 255 l → trie_New N l = some (.inl l)) ∧ (¬ Rt 255 l → trie_New N l = some (.inr ())) := by
  obtain ⟨b, e, hb⟩ := sright_eq hN l 255
  have hc : slices_Clone_apiRangeapiRange N l = some l := by
    unfold slices_Clone_apiRangeapiRange
    by_cases h : l = []
    · rw [if_pos h, h]
    · rw [if_neg h, if_pos (by omega)]
  unfold trie_New
  rw [e, Option.bind_some]
  refine ⟨fun h => ?_, fun h => ?_⟩
  · rw [if_pos (hb.2 h), hc, Option.bind_some]
  · rw [if_neg (fun q => h (hb.1 q))]
end Go.Proofs.Ytejkiahbknjmaaa.AI
