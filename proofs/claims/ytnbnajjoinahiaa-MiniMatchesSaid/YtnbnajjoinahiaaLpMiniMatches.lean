/- Plain law of MiniMatches. -/
import Derived.Test.YtnbnajjoinahiaaPS5
import Derived.Test.YtnbnajjoinahiaaPM0
set_option linter.unusedVariables false
set_option linter.unusedSimpArgs false
set_option maxRecDepth 100000
namespace Go.Proofs.Ytnbnajjoinahiaa.AI
theorem next_eq {N : Nat} {l0 : List (Vector Int 16)} {l1 : List Int} {a : Nat} (c : Int) (ha : a < l0.length) : dfa_next N l0 l1 a c = some (stp l0 a c) := by
 unfold dfa_next
 by_cases h1 : c < 0
 ·
  rw [if_pos h1]; unfold stp; rw [if_neg (by omega)]
 rw [if_neg h1]
 by_cases h2 : 16 ≤ c
 ·
  rw [if_pos h2]
  rcases stp_cases (rows := l0) (a : Int) c with h | ⟨_, k, _, _, rfl, _, hk⟩
  ·
   rw [h]
  ·
   omega
 rw [if_neg h2]
 obtain ⟨k, rfl⟩ := Int.eq_ofNat_of_zero_le (show 0 ≤ c by omega)
 have hk : k < 16 := by omega
 rw [atI_get ha, Option.bind_some, atI_get (by rw [vlen]; exact hk), Option.bind_some, stp_at (List.getElem?_eq_getElem ha) hk]
def lspec : (List Int → Int) → Nat → Int → Int → List Int → Int × Int
 | g, k, e, r, [] => (e, r)
 | g, k, e, r, c :: w => if 0 ≤ g [c] then lspec (fun u => g (c :: u)) (k + 1) ((k + 1 : Nat) : Int) (g [c]) w else lspec (fun u => g (c :: u)) (k + 1) e r w
theorem lspec_dead : ∀ (w : List Int) (g : List Int → Int) (k : Nat) (e r : Int), (∀ u, g u = -1) → lspec g k e r w = (e, r)
 | [], g, k, e, r, h => rfl
 | c :: w, g, k, e, r, h => by
  unfold lspec
  rw [if_neg (by rw [h]; omega)]
  exact lspec_dead w _ _ _ _ (fun u => h _)
theorem longest_L1 {N : Nat} {l0 : List (Vector Int 16)} {l1 l2 : List Int} (hl : l1.length = l0.length) (hw : l2.length ≤ 1000) (hr : ∀ r ∈ l0, okRow (l0.length : Int) r) : ∀ (d i n a : Nat) (e r : Int), i + d = l2.length → d < n → a < l0.length →
  dfa_Longest_L1 N 0 l2 l0 l1 n e r a i = some (lspec (fun u => lang l0 l1 u a) i e r (l2.drop i)) := by
 have hsl : slI l2 0 (l2.length : Int) = l2 := by unfold slI; simp
 intro d
 induction d with
 | zero =>
  intro i n a e r hd hn ha
  obtain ⟨n, rfl⟩ : ∃ x, n = x + 1 := ⟨n - 1, by omega⟩
  rw [dfa_Longest_L1, hsl, if_neg (by omega), List.drop_eq_nil_of_le (by omega)]; rfl
 | succ d ih =>
  intro i n a e r hd hn ha
  obtain ⟨n, rfl⟩ : ∃ x, n = x + 1 := ⟨n - 1, by omega⟩
  have hi : i < l2.length := by omega
  rw [dfa_Longest_L1, hsl, if_pos (by omega), atI_get hi, Option.bind_some, next_eq _ ha, Option.bind_some, List.drop_eq_getElem_cons hi]
  have hok := stp_ok hr (a : Int) l2[i]
  have hg : ∀ u, lang l0 l1 (l2[i] :: u) (a : Int) = lang l0 l1 u (stp l0 a l2[i]) := fun u => rfl
  have hg1 : ∀ z : Int, lang l0 l1 [] z = outc l1 z := fun _ => rfl
  unfold lspec
  simp only [hg, hg1]
  generalize stp l0 a l2[i] = z at hok
  by_cases hz : z < 0
  ·
   rw [if_pos hz]
   have h1 : outc l1 z = -1 := by unfold outc; rw [if_neg (by omega)]
   rw [h1, if_neg (by omega), lspec_dead _ _ _ _ _ (fun u => lang_neg u hz)]
  ·
   rw [if_neg hz]
   obtain ⟨b, rfl⟩ := Int.eq_ofNat_of_zero_le (show 0 ≤ z by omega)
   have hb : b < l0.length := by have := hok.2; omega
   rw [outc_at (by omega), atI_get (show b < l1.length by omega), Option.bind_some, wk (by omega), Int.zero_add, w64 (x := (i : Int)) (by omega) (by omega), wk (by omega)]
   by_cases h0 : 0 ≤ l1[b]
   ·
    rw [if_pos h0, if_pos h0]
    exact ih (i + 1) n b _ _ (by omega) (by omega) hb
   ·
    rw [if_neg h0, if_neg h0]
    exact ih (i + 1) n b _ _ (by omega) (by omega) hb
theorem longest_eq {N : Nat} (hN : 1000000000000 < N) {l0 : List (Vector Int 16)} {l1 l2 : List Int} (h : RightP l0 l1) (hw : l2.length ≤ 1000) : dfa_Longest N l0 l1 l2 0 = some (lspec (fun u => lang l0 l1 u 0) 0 (-1) (-1) l2) := by
 obtain ⟨b, e, hb⟩ := right_eq hN l0 l1
 rw [hb.2 h] at e
 obtain ⟨hne, hm, hl, _, hr⟩ := id h
 have h1 := longest_L1 (N := N) hl hw hr l2.length 0 N 0 (-1) (-1) (by omega) (by omega) (List.length_pos_iff.2 hne)
 rw [List.drop_zero] at h1
 unfold dfa_Longest
 rw [e, Option.bind_some, if_pos rfl, if_neg (by omega), if_neg (by omega), if_pos (by omega), if_pos (by omega), show dfa_Longest_L1 N 0 l2 l0 l1 N (-1) (-1) 0 0 = _ from h1, Option.bind_some]
 rfl
theorem run_L1 {N : Nat} {l0 : List (Vector Int 16)} {l1 l2 : List Int} (hw : l2.length ≤ 1000) (hr : ∀ r ∈ l0, okRow (l0.length : Int) r) : ∀ (d i n a : Nat), i + d = l2.length → d < n → a < l0.length →
  ∃ o, dfa_Run_L1 N l2 l0 l1 n a i = some o ∧ (match o with
   | .inl x => 0 ≤ x ∧ x < (l0.length : Int) ∧ lang l0 l1 (l2.drop i) a = outc l1 x
   | .inr _ => lang l0 l1 (l2.drop i) a = -1) := by
 intro d
 induction d with
 | zero =>
  intro i n a hd hn ha
  obtain ⟨n, rfl⟩ : ∃ x, n = x + 1 := ⟨n - 1, by omega⟩
  rw [dfa_Run_L1, if_neg (by omega), List.drop_eq_nil_of_le (by omega)]
  exact ⟨_, rfl, by omega, by omega, rfl⟩
 | succ d ih =>
  intro i n a hd hn ha
  obtain ⟨n, rfl⟩ : ∃ x, n = x + 1 := ⟨n - 1, by omega⟩
  have hi : i < l2.length := by omega
  rw [dfa_Run_L1, if_pos (by omega), atI_get hi, Option.bind_some, next_eq _ ha, Option.bind_some, List.drop_eq_getElem_cons hi]
  have hok := stp_ok hr (a : Int) l2[i]
  have hg : ∀ u, lang l0 l1 (l2[i] :: u) (a : Int) = lang l0 l1 u (stp l0 a l2[i]) := fun u => rfl
  simp only [hg]
  generalize stp l0 a l2[i] = z at hok
  by_cases hz : z < 0
  ·
   rw [if_pos hz]
   exact ⟨_, rfl, lang_neg _ hz⟩
  ·
   rw [if_neg hz]
   obtain ⟨b, rfl⟩ := Int.eq_ofNat_of_zero_le (show 0 ≤ z by omega)
   rw [wk (by omega)]
   exact ih (i + 1) n b (by omega) (by omega) (by have := hok.2; omega)
theorem match_eq {N : Nat} (hN : 1000000000000 < N) {l0 : List (Vector Int 16)} {l1 l2 : List Int} (h : RightP l0 l1) (hw : l2.length ≤ 1000) : dfa_Match N l0 l1 l2 = some (lang l0 l1 l2 0) := by
 obtain ⟨b, e, hb⟩ := right_eq hN l0 l1
 rw [hb.2 h] at e
 obtain ⟨hne, hm, hl, _, hr⟩ := id h
 obtain ⟨o, e1, ho⟩ := run_L1 (N := N) (l1 := l1) hw hr l2.length 0 N 0 (by omega) (by omega) (List.length_pos_iff.2 hne)
 rw [List.drop_zero] at ho
 unfold dfa_Match dfa_Run
 rw [e, Option.bind_some, if_pos rfl, show dfa_Run_L1 N l2 l0 l1 N 0 0 = _ from e1, Option.bind_some]
 cases o with
 | inl x =>
  obtain ⟨h0, h1, h2⟩ := ho
  simp only [Option.bind_some]
  rw [if_neg (by omega)]
  obtain ⟨u, rfl⟩ := Int.eq_ofNat_of_zero_le h0
  rw [atI_get (show u < l1.length by omega), Option.bind_some, ← outc_at (show u < l1.length by omega), ← h2]; rfl
 | inr u =>
  simp only [Option.bind_some]
  rw [if_pos (by omega)]
  exact congrArg some (Eq.symm ho)
theorem same7_L1 {N : Nat} {l0 : List (Vector Int 16)} {l1 : List Int} (hm : l0.length ≤ 1000) : ∀ (d i n : Nat), i + d = l0.length → d < n → ref07_Same_L1 N l0 l1 l0 l1 n i = some (.inl ()) := by
 intro d
 induction d with
 | zero =>
  intro i n hd hn
  obtain ⟨n, rfl⟩ : ∃ x, n = x + 1 := ⟨n - 1, by omega⟩
  rw [ref07_Same_L1, if_neg (by omega)]
 | succ d ih =>
  intro i n hd hn
  obtain ⟨n, rfl⟩ : ∃ x, n = x + 1 := ⟨n - 1, by omega⟩
  rw [ref07_Same_L1, if_pos (by omega), atI_get (show i < l0.length by omega), Option.bind_some, Option.bind_some, if_pos rfl, wk (by omega)]
  exact ih (i + 1) n (by omega) (by omega)
theorem same7_L2 {N : Nat} {l0 : List (Vector Int 16)} {l1 : List Int} (hm : l1.length ≤ 1000) : ∀ (d i n : Nat), i + d = l1.length → d < n → ref07_Same_L2 N l0 l1 l0 l1 n i = some (.inl ()) := by
 intro d
 induction d with
 | zero =>
  intro i n hd hn
  obtain ⟨n, rfl⟩ : ∃ x, n = x + 1 := ⟨n - 1, by omega⟩
  rw [ref07_Same_L2, if_neg (by omega)]
 | succ d ih =>
  intro i n hd hn
  obtain ⟨n, rfl⟩ : ∃ x, n = x + 1 := ⟨n - 1, by omega⟩
  rw [ref07_Same_L2, if_pos (by omega), atI_get (show i < l1.length by omega), Option.bind_some, Option.bind_some, if_pos rfl, wk (by omega)]
  exact ih (i + 1) n (by omega) (by omega)
theorem same7_eq {N : Nat} (hN : 1000000000000 < N) {l0 : List (Vector Int 16)} {l1 : List Int} (h0 : l0.length ≤ 1000) (h1 : l1.length ≤ 1000) : ref07_Same N l0 l1 l0 l1 = some true := by
 unfold ref07_Same
 rw [if_pos rfl, if_pos rfl, show ref07_Same_L1 N l0 l1 l0 l1 N 0 = _ from same7_L1 h0 l0.length 0 N (by omega) (by omega), Option.bind_some]
 simp only
 rw [show ref07_Same_L2 N l0 l1 l0 l1 N 0 = _ from same7_L2 h1 l1.length 0 N (by omega) (by omega), Option.bind_some]
theorem eq16_L1 {N : Nat} {l0 : List (Vector Int 16)} (hm : l0.length ≤ 1000) : ∀ (d i n : Nat), i + d = l0.length → d < n → slices_Equal_16int16int_L1 N l0 l0 n i = some (.inl ()) := by
 intro d
 induction d with
 | zero =>
  intro i n hd hn
  obtain ⟨n, rfl⟩ : ∃ x, n = x + 1 := ⟨n - 1, by omega⟩
  rw [slices_Equal_16int16int_L1, if_neg (by omega)]
 | succ d ih =>
  intro i n hd hn
  obtain ⟨n, rfl⟩ : ∃ x, n = x + 1 := ⟨n - 1, by omega⟩
  rw [slices_Equal_16int16int_L1, if_pos (by omega), atI_get (show i < l0.length by omega), Option.bind_some, Option.bind_some, if_pos rfl, wk (by omega)]
  exact ih (i + 1) n (by omega) (by omega)
theorem eqI_L1 {N : Nat} {l0 : List Int} (hm : l0.length ≤ 1000) : ∀ (d i n : Nat), i + d = l0.length → d < n → slices_Equal_intint_L1 N l0 l0 n i = some (.inl ()) := by
 intro d
 induction d with
 | zero =>
  intro i n hd hn
  obtain ⟨n, rfl⟩ : ∃ x, n = x + 1 := ⟨n - 1, by omega⟩
  rw [slices_Equal_intint_L1, if_neg (by omega)]
 | succ d ih =>
  intro i n hd hn
  obtain ⟨n, rfl⟩ : ∃ x, n = x + 1 := ⟨n - 1, by omega⟩
  rw [slices_Equal_intint_L1, if_pos (by omega), atI_get (show i < l0.length by omega), Option.bind_some, Option.bind_some, if_pos rfl, wk (by omega)]
  exact ih (i + 1) n (by omega) (by omega)
theorem miniMatches_plain {N : Nat} (hN : 1000000000000 < N) (l0 : List (Vector Int 16)) (l1 l2 : List Int) : law08_MiniMatches N l0 l1 l2 = some true := by
 unfold law08_MiniMatches law08_great
 rw [alive08 hN, Option.bind_some, if_pos rfl]
 by_cases g1 : 40 < (l0.length : Int)
 ·
  rw [if_pos g1, Option.bind_some, if_pos rfl]
 rw [if_neg g1, Option.bind_some]
 by_cases g2 : decide (300 < (l1.length : Int)) = true
 ·
  rw [if_pos g2]
 rw [if_neg g2]
 by_cases g3 : 60 < (l2.length : Int)
 ·
  rw [if_pos g3]
 rw [if_neg g3]
 obtain ⟨r, er, hr⟩ := right_eq hN l0 l1
 rw [er, Option.bind_some]
 by_cases g4 : r = true
 ·
  rw [if_pos g4]
  have hR := hr.1 g4
  obtain ⟨A, cls, q, s, rs, us, es, hA, hC, hS⟩ := small_sem hN hR
  obtain ⟨hR', hle⟩ := hS.right hR hA hC
  have e2 := small_again hN hR hA hC hS
  have hlg : ∀ u, lang rs us u 0 = lang l0 l1 u 0 := fun u => hS.lang_eq hA hC u 0 0 hS.s0
  have hne := List.length_pos_iff.2 hR'.1
  have hl2 := hR'.2.1
  have hl3 := hR'.2.2.1
  have hf : (fun u => lang rs us u 0) = fun u => lang l0 l1 u 0 := funext hlg
  rw [es, Option.bind_some]
  simp only
  rw [e2, Option.bind_some]
  simp only
  rw [longest_eq hN hR (by omega), Option.bind_some]
  try simp only
  rw [longest_eq hN hR' (by omega), Option.bind_some]
  try simp only
  rw [match_eq hN hR (by omega), Option.bind_some, match_eq hN hR' (by omega), Option.bind_some, hf, hlg, if_pos rfl, if_pos rfl, if_pos rfl, if_pos (by omega), same7_eq hN (by omega) (by omega), Option.bind_some, if_pos rfl]
  unfold mini_Same slices_Equal_16int16int slices_Equal_intint
  rw [es, Option.bind_some]
  try simp only
  rw [e2, Option.bind_some]
  try simp only
  have q1 : slices_Equal_16int16int_L1 N rs rs N 0 = some (.inl ()) := eq16_L1 (by omega) rs.length 0 N (by omega) (by omega)
  have q2 : slices_Equal_intint_L1 N us us N 0 = some (.inl ()) := eqI_L1 (by omega) us.length 0 N (by omega) (by omega)
  rw [if_pos (by omega)]
  simp only [if_true, q1, q2, Option.bind_some]
 ·
  rw [if_neg g4]
end Go.Proofs.Ytnbnajjoinahiaa.AI
