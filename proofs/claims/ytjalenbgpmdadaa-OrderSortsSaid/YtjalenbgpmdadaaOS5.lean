/- Part of a proof. -/
import Derived.Test.YtjalenbgpmdadaaOS4
set_option linter.unusedVariables false
set_option linter.unusedSimpArgs false
set_option maxRecDepth 100000
namespace Go.Proofs.Ytjalenbgpmdadaa.AI
theorem begins_L1 {N : Nat} {l p : List Int} (hp : p.length ≤ 100) (hl : p.length ≤ l.length) : ∀ (d k n : Nat), k + d = p.length → d < n → ∃ o, order_begins_L1 N l p n k = some o ∧ (o = .inl () → ∀ j, k ≤ j → j < p.length → l[j]? = p[j]?) := by
 intro d
 induction d with
 | zero =>
  intro k n hk hn
  obtain ⟨n, rfl⟩ : ∃ x, n = x + 1 := ⟨n - 1, by omega⟩
  rw [order_begins_L1, if_neg (by omega)]
  exact ⟨_, rfl, fun _ j h h' => by omega⟩
 | succ d ih =>
  intro k n hk hn
  obtain ⟨n, rfl⟩ : ∃ x, n = x + 1 := ⟨n - 1, by omega⟩
  obtain ⟨x, hx⟩ := getl (show k < p.length by omega)
  obtain ⟨y, hy⟩ := getl (show k < l.length by omega)
  rw [order_begins_L1, if_pos (by omega), atI_at hx, Option.bind_some, atI_at hy, Option.bind_some]
  by_cases g : y = x
  ·
   rw [if_pos g, wk (by omega)]
   obtain ⟨o, e, h⟩ := ih (k + 1) n (by omega) (by omega)
   refine ⟨o, e, fun ho j h1 h2 => ?_⟩
   by_cases hj : j = k
   ·
    subst hj; rw [hx, hy, g]
   ·
    exact h ho j (by omega) h2
  ·
   rw [if_neg g]
   exact ⟨_, rfl, fun h => by cases h⟩
theorem begins_eq {N : Nat} (hN : 1000000000000 < N) {l p : List Int} (hp : p.length ≤ 100) : ∃ b, order_begins N l p = some b ∧ (b = true → p.length < l.length ∧ ∀ j, j < p.length → l[j]? = p[j]?) := by
 unfold order_begins
 by_cases g : (l.length : Int) ≤ (p.length : Int)
 ·
  rw [if_pos g]; exact ⟨_, rfl, fun h => by cases h⟩
 ·
  rw [if_neg g]
  obtain ⟨o, e, h⟩ := begins_L1 (N := N) hp (show p.length ≤ l.length by omega) p.length 0 N (by omega) (by omega)
  rw [show order_begins_L1 N l p N 0 = some o from e, Option.bind_some]
  cases o with
  | inl u => exact ⟨true, rfl, fun _ => ⟨by omega, fun j hj => h rfl j (by omega) hj⟩⟩
  | inr u => exact ⟨false, rfl, fun h => by cases h⟩
theorem else_L1 {N : Nat} {l s : List Int} (hs : slI l 2 (l.length : Int) = s) (hl : s.length ≤ 1000) : ∀ (d k n : Nat), k + d = s.length → d < n → ∃ o, order_Elsewhere_L1 N l n k = some o := by
 intro d
 induction d with
 | zero =>
  intro k n hk hn
  obtain ⟨n, rfl⟩ : ∃ x, n = x + 1 := ⟨n - 1, by omega⟩
  rw [order_Elsewhere_L1, hs, if_neg (by omega)]
  exact ⟨_, rfl⟩
 | succ d ih =>
  intro k n hk hn
  obtain ⟨n, rfl⟩ : ∃ x, n = x + 1 := ⟨n - 1, by omega⟩
  obtain ⟨x, hx⟩ := getl (show k < s.length by omega)
  rw [order_Elsewhere_L1, hs, if_pos (by omega), atI_at hx, Option.bind_some, wk (by omega)]
  obtain ⟨o, e⟩ := ih (k + 1) n (by omega) (by omega)
  rw [e]
  repeat (split; · exact ⟨_, rfl⟩)
  exact ⟨_, rfl⟩
def pre6 (l : List Int) (y : Int) : Prop := 0 ≤ y ∧ y ≤ (l.length : Int) ∧ ∀ j : Nat, (j : Int) < y → l[j]? ≠ some 6
theorem pre6_0 (l : List Int) : pre6 l 0 := ⟨by omega, by omega, fun j h => by omega⟩
theorem else_eq {N : Nat} (hN : 1000000000000 < N) {l : List Int} (hl : l.length ≤ 100) (k : Int) (w : ByteArray) (la : Bool) (re : Int) (wo : Bool) : ∃ y, order_Elsewhere N k w la re l wo = some y ∧ pre6 l y := by
 have two : ∃ y, (if wo = true then ((order_begins N l ([7, 4])).bind fun y_11 => if y_11 = true then (if 2 ≤ (l.length : Int) then ((order_Elsewhere_L1 N l N 0).bind fun o_1020 => match o_1020 with | .inl _ => (some 0) | .inr (_) => (some (2 : Int))) else none) else (some 0)) else (some (0 : Int))) = some y ∧ pre6 l y := by
  by_cases g : wo = true
  ·
   rw [if_pos g]
   obtain ⟨b, e, h⟩ := begins_eq hN (l := l) (p := [7, 4]) (by simp)
   rw [e, Option.bind_some]
   by_cases gb : b = true
   ·
    obtain ⟨h1, h2⟩ := h gb
    simp only [List.length_cons, List.length_nil] at h1 h2
    have hs : (slI l 2 (l.length : Int)).length ≤ 1000 := by simp [slI]; omega
    obtain ⟨o, eo⟩ := else_L1 (N := N) (l := l) rfl hs _ 0 N (Nat.zero_add _) (by omega)
    rw [if_pos gb, if_pos (by omega), show order_Elsewhere_L1 N l N 0 = some o from eo, Option.bind_some]
    cases o with
    | inl _ => exact ⟨0, rfl, pre6_0 l⟩
    | inr _ =>
     refine ⟨2, rfl, by omega, by omega, fun j hj => ?_⟩
     rw [h2 j (by omega)]
     have : j = 0 ∨ j = 1 := by omega
     rcases this with rfl | rfl <;> simp
   ·
    rw [if_neg gb]; exact ⟨0, rfl, pre6_0 l⟩
  ·
   rw [if_neg g]; exact ⟨0, rfl, pre6_0 l⟩
 unfold order_Elsewhere
 by_cases g4 : k = 4
 ·
  rw [if_pos g4]
  obtain ⟨b, e, h⟩ := begins_eq hN (l := l) (p := [7, 12, 11]) (by simp)
  rw [e, Option.bind_some]
  by_cases gb : b = true
  ·
   obtain ⟨h1, h2⟩ := h gb
   simp only [List.length_cons, List.length_nil] at h1 h2
   rw [if_pos gb]
   refine ⟨3, rfl, by omega, by omega, fun j hj => ?_⟩
   rw [h2 j (by omega)]
   have : j = 0 ∨ j = 1 ∨ j = 2 := by omega
   rcases this with rfl | rfl | rfl <;> simp
  ·
   rw [if_neg gb]; exact ⟨0, rfl, pre6_0 l⟩
 ·
  rw [if_neg g4]
  by_cases g2 : k = 2
  ·
   rw [if_pos g2]; exact two
  ·
   rw [if_neg g2]
   by_cases g1 : k = 1
   ·
    rw [if_pos g1]; exact two
   ·
    rw [if_neg g1]; exact ⟨0, rfl, pre6_0 l⟩
def brs (c : Int) : Prop := c = 1 ∨ c = 7 ∨ c = 2 ∨ c = 10 ∨ c = 14
theorem bears_eq (N : Nat) (c : Int) : ∃ b, order_bears N c = some b ∧ (b = true → brs c) := by
 unfold order_bears brs
 repeat (split; · exact ⟨true, rfl, fun _ => by omega⟩)
 exact ⟨false, rfl, fun h => by cases h⟩
def bok (l : List Int) (f b : Int) : Prop := b < 0 ∨ ∃ (k : Nat) (c : Int), b = (k : Int) ∧ f ≤ b ∧ l[k]? = some c ∧ brs c
theorem base_L1 {N : Nat} {l : List Int} {be : List Bool} {k0 re : Int} {w : ByteArray} {la : Bool} {f : Int} (hl : l.length ≤ 100) : ∀ (d k n : Nat) (o : Int), k + d = l.length → d < n → f ≤ (k : Int) → bok l f o → ∃ b, order_Base_L1 N l be k0 w la re n o k = some b ∧ bok l f b := by
 intro d
 induction d with
 | zero =>
  intro k n o hk hn hf ho
  obtain ⟨n, rfl⟩ : ∃ x, n = x + 1 := ⟨n - 1, by omega⟩
  rw [order_Base_L1, if_neg (by omega)]
  exact ⟨_, rfl, ho⟩
 | succ d ih =>
  intro k n o hk hn hf ho
  obtain ⟨n, rfl⟩ : ∃ x, n = x + 1 := ⟨n - 1, by omega⟩
  obtain ⟨x, hx⟩ := getl (show k < l.length by omega)
  obtain ⟨b, eb, hb⟩ := bears_eq N x
  rw [order_Base_L1, if_pos (by omega), atI_at hx, Option.bind_some, eb, Option.bind_some, wk (by omega)]
  have same := ih (k + 1) n o (by omega) (by omega) (by omega) ho
  by_cases g : b = true
  ·
   rw [if_pos g]
   have hk' : bok l f (k : Int) := .inr ⟨k, x, rfl, hf, hx, hb g⟩
   have new := ih (k + 1) n k (by omega) (by omega) (by omega) hk'
   have below : ∀ {a b : Option Int} (_ : ∃ z, a = some z ∧ bok l f z) (_ : ∃ z, b = some z ∧ bok l f z), ∃ z, (if (be.length : Int) ≤ (k : Int) then b else (atI be k).bind fun x => if x = true then a else b) = some z ∧ bok l f z := by
    intro a b ha hb
    by_cases g : (be.length : Int) ≤ (k : Int)
    ·
     rw [if_pos g]; exact hb
    ·
     rw [if_neg g]
     obtain ⟨y, hy⟩ := getl (show k < be.length by omega)
     rw [atI_at hy, Option.bind_some]
     split
     ·
      exact ha
     ·
      exact hb
   by_cases g1 : o < 0
   ·
    rw [if_pos g1]
    by_cases g2 : la = true
    ·
     rw [if_pos g2]; exact below new new
    ·
     rw [if_neg g2]; exact ⟨_, rfl, hk'⟩
   ·
    rw [if_neg g1]
    by_cases g2 : la = true
    ·
     rw [if_pos g2]; exact below same new
    ·
     rw [if_neg g2]; exact same
  ·
   rw [if_neg g]; exact same
theorem base_eq {N : Nat} (hN : 1000000000000 < N) {l : List Int} (hl : l.length ≤ 100) (k : Int) (w : ByteArray) (la : Bool) (re : Int) {f : Int} (hf : 0 ≤ f) (hf2 : f ≤ (l.length : Int)) (be : List Bool) : ∃ b, order_Base N k w la re l f be = some b ∧ bok l f b := by
 unfold order_Base
 obtain ⟨m, rfl⟩ := Int.eq_ofNat_of_zero_le hf
 rw [if_neg (by omega), if_neg (by omega)]
 obtain ⟨b, e, h⟩ := base_L1 (N := N) (be := be) (k0 := k) (re := re) (w := w) (la := la) (f := (m : Int)) hl (l.length - m) m N (-1) (by omega) (by omega) (by omega) (.inl (by omega))
 rw [e]
 exact ⟨b, rfl, h⟩
def kok (l q : List Int) (f b : Int) (i : Nat) (k : Int) : Prop :=
 0 ≤ k ∧ k ≤ 9 ∧ (0 ≤ b → (b = (i : Int) → k = 3) ∧ (f ≤ (i : Int) → l[i]? = some 6 → k = 9) ∧ (f ≤ (i : Int) → l[i]? = some 5 → (q[i]?).getD 0 = 1 → k = 1))
theorem sub_eq {N : Nat} {l : List Int} {i b : Nat} {c : Int} (hl : l.length ≤ 100) (hc : l[i]? = some c) : ∃ r, order_subjoined N l i b = some r ∧ (i = b → r = false) := by
 have hi := (List.getElem?_eq_some_iff.1 hc).1
 unfold order_subjoined
 rw [atI_at hc, Option.bind_some]
 by_cases g : c = 11
 ·
  rw [if_pos g]
  by_cases g1 : (b : Int) < (i : Int)
  ·
   rw [if_pos g1, wk (by omega)]
   by_cases g2 : ((i + 1 : Nat) : Int) < (l.length : Int)
   ·
    obtain ⟨x, hx⟩ := getl (show i + 1 < l.length by omega)
    rw [if_pos g2, atI_at hx, Option.bind_some]
    exact ⟨_, rfl, fun h => by omega⟩
   ·
    rw [if_neg g2]; exact ⟨_, rfl, fun _ => rfl⟩
  ·
   rw [if_neg g1]; exact ⟨_, rfl, fun _ => rfl⟩
 ·
  rw [if_neg g]
  by_cases g7 : c = 7
  ·
   rw [if_pos g7, w64 (by omega) (by omega)]
   by_cases g1 : (b : Int) < (i : Int) - 1
   ·
    obtain ⟨x, hx⟩ := getl (show i - 1 < l.length by omega)
    rw [if_pos g1, show (i : Int) - 1 = ((i - 1 : Nat) : Int) by omega, atI_at hx, Option.bind_some]
    exact ⟨_, rfl, fun h => by omega⟩
   ·
    rw [if_neg g1]; exact ⟨_, rfl, fun _ => rfl⟩
  ·
   rw [if_neg g7]; exact ⟨_, rfl, fun _ => rfl⟩
theorem skey_eq {N : Nat} {l q : List Int} {k0 re : Int} {w : ByteArray} {la : Bool} {f : Int} {b i : Nat} {s : Int} {c cb : Int} (hl : l.length ≤ 100) (hc : l[i]? = some c) (hb : l[b]? = some cb) (hbr : brs cb) (hfb : f ≤ (b : Int)) (hs : (b : Int) < s) {p : Int} (hp : (q[i]?).getD 0 = p) :
  ∃ k, order_syllable_key N k0 w la re l f b s i p = some k ∧ kok l q f b i k := by
 have tail : ∀ {P : Int → Prop}, P 2 ∨ ¬ ((i : Int) < (b : Int)) → P 3 ∨ ¬ ((i : Int) < s) → P 5 ∨ (i : Int) < s → ∃ k, (if (i : Int) < (b : Int) then (some 2) else (if (i : Int) < s then (some 3) else (some (5 : Int)))) = some k ∧ P k := by
  intro P h2 h3 h5
  by_cases g1 : (i : Int) < (b : Int)
  ·
   rw [if_pos g1]; exact ⟨_, rfl, h2.resolve_right (by omega)⟩
  ·
   rw [if_neg g1]
   by_cases g2 : (i : Int) < s
   ·
    rw [if_pos g2]; exact ⟨_, rfl, h3.resolve_right (by omega)⟩
   ·
    rw [if_neg g2]; exact ⟨_, rfl, h5.resolve_right g2⟩
 have late : ∀ {P : Int → Prop}, P 2 ∨ ¬ ((i : Int) < (b : Int)) → P 3 ∨ ¬ ((i : Int) < s) → P 4 ∨ (i : Int) < s → ∃ k, (if s ≤ (i : Int) then (some 4) else if (i : Int) < (b : Int) then (some 2) else (if (i : Int) < s then (some 3) else (some (5 : Int)))) = some k ∧ P k := by
  intro P h2 h3 h4
  by_cases g : s ≤ (i : Int)
  ·
   rw [if_pos g]; exact ⟨_, rfl, h4.resolve_right (by omega)⟩
  ·
   rw [if_neg g]
   exact tail h2 h3 (.inr (by omega))
 have own : (b : Int) = (i : Int) → brs c := fun h => by
  have : b = i := by omega
  subst this
  rw [hb] at hc; cases hc; exact hbr
 have ok : ∀ k : Int, 0 ≤ k → k ≤ 9 → (¬ ((b : Int) = (i : Int)) ∨ k = 3) → c ≠ 6 → c ≠ 5 → kok l q f b i k := fun k h1 h2 h3 h6 h5 =>
  ⟨h1, h2, fun _ => ⟨fun h => h3.resolve_left (fun q => q h), fun _ h => by rw [hc] at h; cases h; exact absurd rfl h6, fun _ h => by rw [hc] at h; cases h; exact absurd rfl h5⟩⟩
 unfold order_syllable_key
 by_cases gf : (i : Int) < f
 ·
  rw [if_pos gf]
  have lo : ∀ k : Int, 0 ≤ k → k ≤ 9 → kok l q f b i k := fun k h1 h2 => ⟨h1, h2, fun _ => ⟨fun h => by omega, fun h => by omega, fun h => by omega⟩⟩
  split
  ·
   exact ⟨_, rfl, lo _ (by omega) (by omega)⟩
  ·
   exact ⟨_, rfl, lo _ (by omega) (by omega)⟩
 rw [if_neg gf, atI_at hc, Option.bind_some]
 by_cases g5 : c = 5
 ·
  rw [if_pos g5]
  unfold order_signKey
  have sg : ∀ k : Int, 0 ≤ k → k ≤ 9 → (p = 1 → k = 1) → kok l q f b i k := fun k h1 h2 h3 =>
   ⟨h1, h2, fun _ => ⟨fun h => by have := own h; unfold brs at this; omega, fun _ h => by rw [hc] at h; cases h; omega, fun _ _ h => h3 (by omega)⟩⟩
  split
  ·
   exact ⟨_, rfl, sg _ (by omega) (by omega) (by omega)⟩
  ·
   split
   ·
    exact ⟨_, rfl, sg _ (by omega) (by omega) (by omega)⟩
   ·
    split
    ·
     exact ⟨_, rfl, sg _ (by omega) (by omega) (by omega)⟩
    ·
     exact ⟨_, rfl, sg _ (by omega) (by omega) (by omega)⟩
 rw [if_neg g5]
 by_cases g6 : c = 6
 ·
  rw [if_pos g6]
  exact ⟨9, rfl, by omega, by omega, fun _ => ⟨fun h => by have := own h; unfold brs at this; omega, fun _ _ => rfl, fun _ h => by rw [hc] at h; cases h; omega⟩⟩
 rw [if_neg g6]
 have k2 : kok l q f b i 2 ∨ ¬ ((i : Int) < (b : Int)) := by
  by_cases g : (i : Int) < (b : Int)
  ·
   exact .inl (ok 2 (by omega) (by omega) (.inl (by omega)) g6 g5)
  ·
   exact .inr g
 have k3 : kok l q f b i 3 ∨ ¬ ((i : Int) < s) := .inl (ok 3 (by omega) (by omega) (.inr rfl) g6 g5)
 have k4 : kok l q f b i 4 ∨ (i : Int) < s := by
  by_cases g : (i : Int) < s
  ·
   exact .inr g
  ·
   exact .inl (ok 4 (by omega) (by omega) (.inl (by omega)) g6 g5)
 have k5 : kok l q f b i 5 ∨ (i : Int) < s := by
  by_cases g : (i : Int) < s
  ·
   exact .inr g
  ·
   exact .inl (ok 5 (by omega) (by omega) (.inl (by omega)) g6 g5)
 by_cases gd : c = 13
 ·
  rw [if_pos gd]
  split
  ·
   exact ⟨1, rfl, ok 1 (by omega) (by omega) (.inl fun h => by have := own h; unfold brs at this; omega) g6 g5⟩
  ·
   exact late k2 k3 k4
 rw [if_neg gd]
 by_cases gc : c = 12
 ·
  rw [if_pos gc]; exact late k2 k3 k4
 rw [if_neg gc]
 by_cases gf : c = 15
 ·
  rw [if_pos gf]; exact late k2 k3 k4
 rw [if_neg gf]
 have half : ∀ r, (i = b → r = false) → ∃ k, (if r = true then (some 2) else (if (i : Int) < (b : Int) then (some 2) else (if (i : Int) < s then (some 3) else (some (5 : Int))))) = some k ∧ kok l q f b i k := by
  intro r hr
  by_cases g : r = true
  ·
   rw [if_pos g]
   exact ⟨2, rfl, ok 2 (by omega) (by omega) (.inl fun h => by rw [hr (by omega)] at g; cases g) g6 g5⟩
  ·
   rw [if_neg g]; exact tail k2 k3 k5
 obtain ⟨r, er, hr⟩ := sub_eq (N := N) (b := b) hl hc
 by_cases gb : c = 11
 ·
  rw [if_pos gb]
  split
  ·
   rw [er, Option.bind_some]; exact half r hr
  ·
   exact tail k2 k3 k5
 rw [if_neg gb]
 by_cases g7 : c = 7
 ·
  rw [if_pos g7]
  split
  ·
   rw [er, Option.bind_some]; exact half r hr
  ·
   exact tail k2 k3 k5
 rw [if_neg g7]
 exact tail k2 k3 k5
def koks (l q : List Int) (f b : Int) (s : List Int) : Prop := ∀ (i : Nat) (k : Int), s[i]? = some k → kok l q f b i k
theorem koks.snoc {l q : List Int} {f b : Int} {s : List Int} (h : koks l q f b s) {k : Int} (hk : kok l q f b s.length k) : koks l q f b (s ++ [k]) := by
 intro i x hx
 by_cases g : i < s.length
 ·
  rw [List.getElem?_append_left g] at hx; exact h i x hx
 ·
  have : i = s.length := by have := (List.getElem?_eq_some_iff.1 hx).1; simp at this; omega
  subst this
  simp at hx
  subst hx; exact hk
theorem keys_L2 {N : Nat} {l q : List Int} {k0 re : Int} {w : ByteArray} {la : Bool} {f b : Int} (hl : l.length ≤ 100) (hb : b < 0) : ∀ (d n : Nat) (s : List Int), s.length + d = l.length → d < n → koks l q f b s → ∃ ks, order_Keys_L2 N q l k0 w la re f b n s.length s = some ks ∧ ks.length = l.length ∧ koks l q f b ks := by
 intro d
 induction d with
 | zero =>
  intro n s hk hn hs
  obtain ⟨n, rfl⟩ : ∃ x, n = x + 1 := ⟨n - 1, by omega⟩
  rw [order_Keys_L2, if_neg (by omega)]
  exact ⟨s, rfl, by omega, hs⟩
 | succ d ih =>
  intro n s hk hn hs
  obtain ⟨n, rfl⟩ : ∃ x, n = x + 1 := ⟨n - 1, by omega⟩
  obtain ⟨ks, e, h⟩ := ih n (s ++ [3]) (by simp; omega) (by omega) (hs.snoc ⟨by omega, by omega, fun h => by omega⟩)
  rw [List.length_append] at e
  rw [order_Keys_L2, if_pos (by omega), wk (by omega)]
  by_cases g : (s.length : Int) < (q.length : Int)
  ·
   obtain ⟨x, hx⟩ := getl (show s.length < q.length by omega)
   rw [if_pos g, atI_at hx, Option.bind_some, if_pos (by omega)]
   exact ⟨ks, e, h⟩
  ·
   rw [if_neg g, if_pos (by omega)]
   exact ⟨ks, e, h⟩
theorem keys_L3 {N : Nat} {l q : List Int} {k0 re : Int} {w : ByteArray} {la : Bool} {f b : Int} (hl : l.length ≤ 100) (hb : b < (l.length : Int)) : ∀ (d k n : Nat), k + d = l.length → d < n → b < (k : Int) → ∃ y, order_Keys_L3 N l q b k0 w la re f n k = some y ∧ b < y := by
 intro d
 induction d with
 | zero =>
  intro k n hk hn h
  obtain ⟨n, rfl⟩ : ∃ x, n = x + 1 := ⟨n - 1, by omega⟩
  rw [order_Keys_L3, if_neg (by omega), if_neg (by omega)]
  exact ⟨_, rfl, h⟩
 | succ d ih =>
  intro k n hk hn h
  obtain ⟨n, rfl⟩ : ∃ x, n = x + 1 := ⟨n - 1, by omega⟩
  obtain ⟨x, hx⟩ := getl (show k < l.length by omega)
  rw [order_Keys_L3, if_neg (by omega), if_pos (by omega), atI_at hx, Option.bind_some, wk (by omega)]
  split
  ·
   exact ih (k + 1) n (by omega) (by omega) (by omega)
  ·
   exact ⟨_, rfl, h⟩
theorem keys_L4 {N : Nat} {l q : List Int} {k0 re : Int} {w : ByteArray} {la : Bool} {f : Int} {b : Nat} {cb s0 : Int} (hl : l.length ≤ 100) (hb : l[b]? = some cb) (hbr : brs cb) (hfb : f ≤ (b : Int)) (hs0 : (b : Int) < s0) : ∀ (d n : Nat) (s : List Int), s.length + d = l.length → d < n → koks l q f b s → ∃ ks, order_Keys_L4 N q l b k0 w la re f s0 n s.length s = some ks ∧ ks.length = l.length ∧ koks l q f b ks := by
 have hbl := (List.getElem?_eq_some_iff.1 hb).1
 intro d
 induction d with
 | zero =>
  intro n s hk hn hs
  obtain ⟨n, rfl⟩ : ∃ x, n = x + 1 := ⟨n - 1, by omega⟩
  rw [order_Keys_L4, if_neg (by omega)]
  exact ⟨s, rfl, by omega, hs⟩
 | succ d ih =>
  intro n s hk hn hs
  obtain ⟨n, rfl⟩ : ∃ x, n = x + 1 := ⟨n - 1, by omega⟩
  obtain ⟨c, hc⟩ := getl (show s.length < l.length by omega)
  obtain ⟨k, ek, hkk⟩ := skey_eq (N := N) (q := q) (k0 := k0) (re := re) (w := w) (la := la) (f := f) hl hc hb hbr hfb hs0 rfl
  obtain ⟨ks, e, h⟩ := ih n (s ++ [k]) (by simp; omega) (by omega) (hs.snoc hkk)
  rw [List.length_append] at e
  rw [order_Keys_L4, if_pos (by omega), wk (by omega)]
  by_cases g : (s.length : Int) < (q.length : Int)
  ·
   obtain ⟨x, hx⟩ := getl (show s.length < q.length by omega)
   rw [hx, Option.getD_some] at ek
   rw [if_pos g, atI_at hx, Option.bind_some, if_neg (by simp; omega), ek, Option.bind_some, if_pos (by omega)]
   exact ⟨ks, e, h⟩
  ·
   rw [List.getElem?_eq_none (by omega), Option.getD_none] at ek
   rw [if_neg g, if_neg (by simp; omega), ek, Option.bind_some, if_pos (by omega)]
   exact ⟨ks, e, h⟩
theorem keys_eq {N : Nat} (hN : 1000000000000 < N) {l q : List Int} (hl : l.length ≤ 100) (k0 : Int) (w : ByteArray) (la : Bool) (re : Int) {f b : Int} (hb : bok l f b) : ∃ ks, order_Keys N k0 w la re l q f b = some ks ∧ ks.length = l.length ∧ koks l q f b ks := by
 have nil : koks l q f b [] := fun i k h => by simp at h
 unfold order_Keys
 by_cases g : b < 0
 ·
  rw [if_pos g]
  obtain ⟨n, hn⟩ : ∃ x, N = x + 1 := ⟨N - 1, by omega⟩
  have e1 : order_Keys_L1 N l q k0 w la re f b N = some () := by
   rw [show order_Keys_L1 N l q k0 w la re f b N = order_Keys_L1 N l q k0 w la re f b (n + 1) by rw [← hn]]; rfl
  obtain ⟨ks, e, h⟩ := keys_L2 (N := N) (k0 := k0) (re := re) (w := w) (la := la) hl g l.length N [] (by simp) (by omega) nil
  rw [e1, Option.bind_some, show order_Keys_L2 N q l k0 w la re f b N 0 [] = some ks from e]
  exact ⟨ks, rfl, h⟩
 ·
  rw [if_neg g]
  rcases hb with hb | ⟨m, c, rfl, h1, h2, h3⟩
  ·
   exact absurd hb g
  ·
   have hm := (List.getElem?_eq_some_iff.1 h2).1
   obtain ⟨y, ey, hy⟩ := keys_L3 (N := N) (q := q) (k0 := k0) (re := re) (w := w) (la := la) (f := f) (b := (m : Int)) hl (by omega) (l.length - (m + 1)) (m + 1) N (by omega) (by omega) (by omega)
   obtain ⟨ks, e, h⟩ := keys_L4 (N := N) (q := q) (k0 := k0) (re := re) (w := w) (la := la) (f := f) hl h2 h3 h1 hy l.length N [] (by simp) (by omega) nil
   rw [wk (by omega), ey, Option.bind_some, show order_Keys_L4 N q l m k0 w la re f y N 0 [] = some ks from e]
   exact ⟨ks, rfl, h⟩
end Go.Proofs.Ytjalenbgpmdadaa.AI
