/- Plain law: DecompAgain. -/
import Derived.Test.YtejkiahbknjmaaaDS6
set_option linter.unusedVariables false
set_option linter.unusedSimpArgs false
set_option maxRecDepth 100000
namespace Go.Proofs.Ytejkiahbknjmaaa.AI
theorem each_L2 {N : Nat} {o : List Int} {x : Nat} (ho : o.length ≤ 1000) : ∀ (d k n c : Nat), k + d = o.length → d < n → c ≤ k → ref17_Each_L2 N o x n c k = some ((c + (o.drop k).countP (fun y => decide (y = (x : Int))) : Nat) : Int) := by
 intro d
 induction d with
 | zero =>
  intro k n c hk hn hc
  obtain ⟨n, rfl⟩ : ∃ x, n = x + 1 := ⟨n - 1, by omega⟩
  rw [ref17_Each_L2, if_neg (by omega), List.drop_eq_nil_of_le (by omega)]; rfl
 | succ d ih =>
  intro k n c hk hn hc
  obtain ⟨n, rfl⟩ : ∃ x, n = x + 1 := ⟨n - 1, by omega⟩
  have hkl : k < o.length := by omega
  rw [ref17_Each_L2, if_pos (by omega), atI_get hkl, Option.bind_some, wk (k := k) (by omega), wk (k := c) (by omega), List.drop_eq_getElem_cons hkl, List.countP_cons]
  by_cases g : o[k] = (x : Int)
  ·
   rw [if_pos g, ih (k + 1) n (c + 1) (by omega) (by omega) (by omega), decide_eq_true g, if_pos rfl]
   congr 2; omega
  ·
   rw [if_neg g, ih (k + 1) n c (by omega) (by omega) (by omega), decide_eq_false g]
   rfl
theorem each_L3 {N : Nat} (hN : 1000000000000 < N) {l o : List Int} (hl : l.length ≤ 1000) (h : Ord l o) : ∀ (d k n : Nat), k + d = o.length → d < n → ref17_Each_L3 N o n k = some (.inl ()) := by
 have hlen := h.len
 intro d
 induction d with
 | zero =>
  intro k n hk hn
  obtain ⟨n, rfl⟩ : ∃ x, n = x + 1 := ⟨n - 1, by omega⟩
  rw [ref17_Each_L3, if_neg (by omega)]
 | succ d ih =>
  intro k n hk hn
  obtain ⟨n, rfl⟩ : ∃ x, n = x + 1 := ⟨n - 1, by omega⟩
  have e : ref17_Each_L2 N o k N 0 0 = some 1 := by
   have := each_L2 (N := N) (o := o) (x := k) (by omega) o.length 0 N 0 (by omega) (by omega) (by omega)
   rw [List.drop_zero, h.perm.countP_eq, up_count, if_pos (by omega)] at this
   exact this
  rw [ref17_Each_L3, if_pos (by omega), e, Option.bind_some, if_pos rfl, wk (by omega)]
  exact ih (k + 1) n (by omega) (by omega)
theorem again_L2 {N : Nat} {l o : List Int} {s : List Int} {x : Int} (hl : l.length ≤ 1000) (h : Ord l o) {i : Nat} (hi : i < o.length) : ∀ (d k n : Nat), k + d = i → d < n → law21_DecompAgain_L2 N l o i s x n k = some (.inl ()) := by
 have hlen := h.len
 intro d
 induction d with
 | zero =>
  intro k n hk hn
  obtain ⟨n, rfl⟩ : ∃ x, n = x + 1 := ⟨n - 1, by omega⟩
  rw [law21_DecompAgain_L2, if_neg (by omega)]
 | succ d ih =>
  intro k n hk hn
  obtain ⟨n, rfl⟩ : ∃ x, n = x + 1 := ⟨n - 1, by omega⟩
  have hkl : k < o.length := by omega
  obtain ⟨a, a1, a2⟩ := h.mem (List.getElem_mem (l := o) (n := k) hkl)
  obtain ⟨b, b1, b2⟩ := h.mem (List.getElem_mem (l := o) (n := i) hi)
  rw [law21_DecompAgain_L2, if_pos (by omega), atI_get hkl, Option.bind_some, atI_kk (e := o[k]) (by rw [a2]; omega), Option.bind_some, atI_get hi, Option.bind_some, atI_kk (e := o[i]) (by rw [b2]; omega), Option.bind_some, wk (by omega), ih (k + 1) n (by omega) (by omega)]
  by_cases g : kk l o[k] = kk l o[i]
  ·
   have := h.same (i := k) (j := i) (by omega) hi g
   rw [if_pos g, if_neg (by omega)]
  ·
   rw [if_neg g]
theorem again_L3 {N : Nat} (hN : 1000000000000 < N) {l o : List Int} (hl : l.length ≤ 1000) (h : Ord l o) : ∀ (d k n : Nat), k + d = o.length → d < n → law21_DecompAgain_L3 N l o n k ((o.take k).map (kk l)) = some (.inl (o.map (kk l))) := by
 have hlen := h.len
 intro d
 induction d with
 | zero =>
  intro k n hk hn
  obtain ⟨n, rfl⟩ : ∃ x, n = x + 1 := ⟨n - 1, by omega⟩
  rw [law21_DecompAgain_L3, if_neg (by omega), List.take_of_length_le (by omega)]
 | succ d ih =>
  intro k n hk hn
  obtain ⟨n, rfl⟩ : ∃ x, n = x + 1 := ⟨n - 1, by omega⟩
  have hkl : k < o.length := by omega
  obtain ⟨a, a1, a2⟩ := h.mem (List.getElem_mem (l := o) (n := k) hkl)
  have hn := ih (k + 1) n (by omega) (by omega)
  rw [List.take_succ_eq_append_getElem hkl, List.map_append] at hn
  rw [law21_DecompAgain_L3, if_pos (by omega), atI_get hkl, Option.bind_some, atI_kk (e := o[k]) (by rw [a2]; omega), Option.bind_some, if_pos (by simp; omega), atI_kk (e := (k : Int)) (by omega), Option.bind_some, wk (by omega),
   show law21_DecompAgain_L2 N l o k ((o.take k).map (kk l)) (kk l o[k]) N 0 = _ from again_L2 hl h hkl k 0 N (by omega) (by omega), Option.bind_some]
  simp only [List.map_cons, List.map_nil] at hn
  by_cases g : kk l (k : Int) = 0
  ·
   obtain ⟨hz, e⟩ := h.zero (by omega) g
   rw [if_pos g, if_pos e]
   exact hn
  ·
   rw [if_neg g]
   exact hn
theorem again_L4 {N : Nat} {t : List Int} (ht : t.length ≤ 1000) (hadj : ∀ p : Nat, p + 1 < t.length → kk t (p : Int) ≠ 0 → kk t ((p + 1 : Nat) : Int) ≠ 0 → kk t (p : Int) ≤ kk t ((p + 1 : Nat) : Int)) : ∀ (d k n : Nat), k + d = t.length → d < n → law21_DecompAgain_L4 N t (up 0 t.length) n k = some (.inl ()) := by
 intro d
 induction d with
 | zero =>
  intro k n hk hn
  obtain ⟨n, rfl⟩ : ∃ x, n = x + 1 := ⟨n - 1, by omega⟩
  rw [law21_DecompAgain_L4, if_neg (by rw [up_len]; omega)]
 | succ d ih =>
  intro k n hk hn
  obtain ⟨n, rfl⟩ : ∃ x, n = x + 1 := ⟨n - 1, by omega⟩
  have hu : (up 0 t.length)[k]? = some (k : Int) := by
   rw [show t.length = k + (t.length - k) by omega, up_app, List.getElem?_append_right (by rw [up_len]; omega), up_len, Nat.sub_self, show t.length - k = (t.length - k - 1) + 1 by omega]
   simp [up]
  rw [law21_DecompAgain_L4, if_pos (by rw [up_len]; omega), atI_at hu, Option.bind_some, if_pos rfl, wk (by omega), ih (k + 1) n (by omega) (by omega)]
  by_cases g : (0 : Int) < (k : Int)
  ·
   rw [if_pos g, wpre (by omega) (by omega), atI_kk (e := ((k - 1 : Nat) : Int)) (by omega), Option.bind_some]
   by_cases g1 : kk t ((k - 1 : Nat) : Int) = 0
   ·
    rw [if_pos g1]
   ·
    rw [if_neg g1, atI_kk (e := (k : Int)) (by omega), Option.bind_some]
    by_cases g2 : kk t (k : Int) = 0
    ·
     rw [if_pos g2]
    ·
     have := hadj (k - 1) (by omega) g1 (by rw [show k - 1 + 1 = k by omega]; exact g2)
     rw [show k - 1 + 1 = k by omega] at this
     rw [if_neg g2, if_neg (by omega)]
  ·
   rw [if_neg g]
theorem kk_map {l o : List Int} {p : Nat} (hp : p < o.length) : kk (o.map (kk l)) (p : Int) = kk l o[p] := by
 conv => lhs; unfold kk
 rw [Int.toNat_natCast, List.getElem?_map, List.getElem?_eq_getElem hp]; rfl
theorem decompAgain_plain {N : Nat} (hN : 1000000000000 < N) (l : List Int) : law21_DecompAgain N l = some true := by
 unfold law21_DecompAgain
 rw [alive21 hN, Option.bind_some, if_pos rfl]
 by_cases g : 200 < (l.length : Int)
 ·
  rw [if_pos g]
 rw [if_neg g]
 have hl : l.length ≤ 1000 := by omega
 obtain ⟨o, e, p, s⟩ := marks_eq hN hl
 have h : Ord l o := ⟨p, s⟩
 have hlen := h.len
 have e1 : ref17_Each N o = some true := by
  unfold ref17_Each
  rw [show ref17_Each_L3 N o N 0 = _ from each_L3 hN hl h o.length 0 N (by omega) (by omega), Option.bind_some]
 rw [e, Option.bind_some, e1, Option.bind_some, if_pos rfl, if_pos (by omega), show law21_DecompAgain_L3 N l o N 0 [] = _ from again_L3 hN hl h o.length 0 N (by omega) (by omega), Option.bind_some]
 simp only
 have tl : (o.map (kk l)).length = o.length := List.length_map _
 have hadj : ∀ p : Nat, p + 1 < (o.map (kk l)).length → kk (o.map (kk l)) (p : Int) ≠ 0 → kk (o.map (kk l)) ((p + 1 : Nat) : Int) ≠ 0 → kk (o.map (kk l)) (p : Int) ≤ kk (o.map (kk l)) ((p + 1 : Nat) : Int) := fun p hp h1 h2 => by
  rw [kk_map (by omega)] at h1 h2 ⊢
  rw [kk_map (by omega)]
  exact h.adj (by omega) h1 h2
 obtain ⟨o2, e2, p2, s2⟩ := marks_eq hN (l := o.map (kk l)) (by omega)
 have : o2 = up 0 (o.map (kk l)).length := sorted_unique p2 s2 (ord_up hadj)
 subst this
 rw [e2, Option.bind_some, show law21_DecompAgain_L4 N (o.map (kk l)) (up 0 (o.map (kk l)).length) N 0 = _ from again_L4 (by omega) hadj (o.map (kk l)).length 0 N (by omega) (by omega), Option.bind_some]
end Go.Proofs.Ytejkiahbknjmaaa.AI
