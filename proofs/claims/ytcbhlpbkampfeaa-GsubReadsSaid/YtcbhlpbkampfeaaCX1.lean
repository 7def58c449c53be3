import Derived.Test.YtcbhlpbkampfeaaguP
import Derived.IntWalk
set_option linter.unusedVariables false
set_option linter.unusedSimpArgs false
namespace Go.Proofs.Ytcbhlpbkampfeaa.AI

def Bytes (b : List Int) : Prop := ∀ x ∈ b, 0 ≤ x ∧ x < 256
theorem bytes_of {b : List Int} (h : ∀ x ∈ b, (Lit.int .u8 x).wf = true) : Bytes b := fun x hx => wf_u8 (h x hx)
theorem w64 {x : Int} (h : -4611686018427387904 ≤ x) (h' : x ≤ 4611686018427387904) : IntKind.i64.wrap x = x := IntWalk.i64_in _ ⟨by omega, by omega⟩
theorem XY {α : Type} {l : List α} {k : Nat} {x : α} (h : l[k]? = some x) : atI l (k : Int) = some x := by rw [atI_nat, h]
theorem atI_of {α : Type} {l : List α} {i : Int} {k : Nat} {x : α} (hi : i = (k : Int)) (h : l[k]? = some x) : atI l i = some x := by rw [hi, atI_nat, h]

theorem orB {a x : Int} (ha : 0 ≤ a) (ha2 : a < 1099511627776) (hx : 0 ≤ x) (hx2 : x < 256) : orInt .i64 (a * 2 ^ 8) x = a * 256 + x := by
 obtain ⟨n, rfl⟩ := Int.eq_ofNat_of_zero_le ha
 obtain ⟨m, rfl⟩ := Int.eq_ofNat_of_zero_le hx
 have h1 : ((n : Int) * 2 ^ 8) = ((2 ^ 8 * n : Nat) : Int) := by omega
 have h2 : (BitVec.ofInt 64 ((2 ^ 8 * n : Nat) : Int) ||| BitVec.ofInt 64 (m : Int)).toNat = 2 ^ 8 * n + m := by
  rw [BitVec.ofInt_natCast, BitVec.ofInt_natCast, BitVec.toNat_or, BitVec.toNat_ofNat, BitVec.toNat_ofNat, Nat.mod_eq_of_lt (by omega), Nat.mod_eq_of_lt (by omega)]
  exact (Nat.two_pow_add_eq_or_of_lt (by omega) n).symm
 rw [h1]
 show IntKind.i64.wrap (((BitVec.ofInt 64 ((2 ^ 8 * n : Nat) : Int) ||| BitVec.ofInt 64 (m : Int)).toNat : Nat) : Int) = _
 rw [h2, w64 (by omega) (by omega)]
 omega

theorem Xfn {N n k : Nat} {l : List Int} {a x : Int} (h : l[k]? = some x) (ha : 0 ≤ a) (ha2 : a < 1099511627776) (hx : 0 ≤ x) (hx2 : x < 256) (hk : k < 1000000) : XQ N l (n + 1) a k = XQ N l n (a * 256 + x) ((k + 1 : Nat) : Int) := by
 have hlt := (List.getElem?_eq_some_iff.1 h).1
 rw [XQ, if_pos (by omega), XY h, Option.bind_some, w64 (x := a * 2 ^ 8) (by omega) (by omega), w64 (x := x) (by omega) (by omega), orB ha ha2 hx hx2, w64 (by omega) (by omega)]
 rfl
theorem numEnd {N n k : Nat} {l : List Int} {a : Int} (h : l.length = k) : XQ N l (n + 1) a k = some a := by
 rw [XQ, if_neg (by omega)]
theorem number2 {N : Nat} (hN : 1000000000000 < N) {x y : Int} (hx : 0 ≤ x ∧ x < 256) (hy : 0 ≤ y ∧ y < 256) : QF N [x, y] = some (x * 256 + y) := by
 obtain ⟨m, hm⟩ : ∃ m, N = m + 5 := ⟨N - 5, by omega⟩
 have h0 : XQ N [x, y] N 0 0 = some (x * 256 + y) := by
  rw [show XQ N [x, y] N 0 0 = XQ N [x, y] (m + 5) 0 ((0 : Nat) : Int) by rw [← hm]; rfl]
  rw [Xfn (k := 0) (x := x) rfl (by omega) (by omega) hx.1 hx.2 (by omega), Xfn (k := 1) (x := y) rfl (by omega) (by omega) hy.1 hy.2 (by omega), numEnd (k := 1 + 1) rfl]
  congr 1; omega
 simp only [QF, h0, Option.bind_some]
theorem number4 {N : Nat} (hN : 1000000000000 < N) {x y z u : Int} (hx : 0 ≤ x ∧ x < 256) (hy : 0 ≤ y ∧ y < 256) (hz : 0 ≤ z ∧ z < 256) (hu : 0 ≤ u ∧ u < 256) : QF N [x, y, z, u] = some (((x * 256 + y) * 256 + z) * 256 + u) := by
 obtain ⟨m, hm⟩ : ∃ m, N = m + 5 := ⟨N - 5, by omega⟩
 have h0 : XQ N [x, y, z, u] N 0 0 = some (((x * 256 + y) * 256 + z) * 256 + u) := by
  rw [show XQ N [x, y, z, u] N 0 0 = XQ N [x, y, z, u] (m + 5) 0 ((0 : Nat) : Int) by rw [← hm]; rfl]
  rw [Xfn (k := 0) (x := x) rfl (by omega) (by omega) hx.1 hx.2 (by omega), Xfn (k := 1) (x := y) rfl (by omega) (by omega) hy.1 hy.2 (by omega), Xfn (k := 2) (x := z) rfl (by omega) (by omega) hz.1 hz.2 (by omega), Xfn (k := 3) (x := u) rfl (by omega) (by omega) hu.1 hu.2 (by omega), numEnd (k := 3 + 1) rfl]
  congr 1; omega
 simp only [QF, h0, Option.bind_some]

def gb (b : List Int) (i : Int) : Int := (b[i.toNat]?).getD 0
theorem Za {b : List Int} (hb : Bytes b) (i : Int) : 0 ≤ gb b i ∧ gb b i < 256 := by
 unfold gb
 cases h : b[i.toNat]? with
 | none => simp
 | some x => exact hb x (List.mem_of_getElem? h)
theorem gb_at {b : List Int} {i : Int} (h0 : 0 ≤ i) (h1 : i < (b.length : Int)) : b[i.toNat]? = some (gb b i) := by
 have : i.toNat < b.length := by omega
 rw [gb, List.getElem?_eq_getElem this]; rfl
theorem slI2 {b : List Int} {i : Int} (h0 : 0 ≤ i) (h1 : i + 2 ≤ (b.length : Int)) : slI b i (i + 2) = [gb b i, gb b (i + 1)] := by
 have e0 := gb_at h0 (by omega : i < (b.length : Int))
 have e1 := gb_at (by omega : 0 ≤ i + 1) (by omega : i + 1 < (b.length : Int))
 have t1 : (i + 1).toNat = i.toNat + 1 := by omega
 rw [t1] at e1
 unfold slI
 rw [show (i + 2).toNat - i.toNat = 2 by omega]
 apply List.ext_getElem?
 intro k
 match k with
 | 0 => simp [List.getElem?_take, List.getElem?_drop, e0]
 | 1 => simp [List.getElem?_take, List.getElem?_drop, e1]
 | k + 2 => simp [List.getElem?_take]; omega
def u16 (b : List Int) (i : Int) : Int := if 0 ≤ i ∧ i + 2 ≤ (b.length : Int) then gb b i * 256 + gb b (i + 1) else -1
theorem XL {b : List Int} (hb : Bytes b) (i : Int) : -1 ≤ u16 b i ∧ u16 b i < 65536 := by
 have h1 := Za hb i; have h2 := Za hb (i + 1)
 unfold u16; split <;> omega
theorem Yr {b : List Int} (hb : Bytes b) {i : Int} : u16 b i < 0 ↔ ¬ (0 ≤ i ∧ i + 2 ≤ (b.length : Int)) := by
 have h1 := Za hb i; have h2 := Za hb (i + 1)
 unfold u16; split <;> omega

theorem Xg4 {N : Nat} {b : List Int} {i n : Int} (hb : b.length ≤ 1000000000) : QG N b i n = some (decide (0 ≤ i ∧ 0 ≤ n ∧ i + n ≤ (b.length : Int))) := by
 unfold QG
 by_cases h1 : 0 ≤ i
 ·
  by_cases h2 : 0 ≤ n
  ·
   by_cases h3 : n ≤ (b.length : Int)
   ·
    rw [if_pos h1, if_pos h2, if_pos h3, w64 (by omega) (by omega)]
    congr 1
    exact decide_eq_decide.2 (by omega)
   ·
    rw [if_pos h1, if_pos h2, if_neg h3, decide_eq_false (by omega)]
  ·
   rw [if_pos h1, if_neg h2, decide_eq_false (by omega)]
 ·
  rw [if_neg h1, decide_eq_false (by omega)]
theorem U16_eq {N : Nat} (hN : 1000000000000 < N) {b : List Int} (hb : Bytes b) (hl : b.length ≤ 1000000000) (i : Int) (hi : i ≤ 1000000000000) : QS N b i = some (if u16 b i < 0 then (0, false) else (u16 b i, true)) := by
 unfold QS Xau
 rw [Xg4 hl, Option.bind_some]
 by_cases h : 0 ≤ i ∧ i + 2 ≤ (b.length : Int)
 ·
  have hu : u16 b i = gb b i * 256 + gb b (i + 1) := if_pos h
  have h1 := Za hb i; have h2 := Za hb (i + 1)
  have hn : ¬ u16 b i < 0 := by omega
  rw [if_pos (by simp; omega), if_pos h.1, w64 (by omega) (by omega), if_pos (by omega), if_pos h.2, slI2 h.1 h.2, number2 hN h1 h2, if_neg hn, hu]
  rfl
 ·
  have hn : u16 b i < 0 := (Yr hb).2 h
  rw [if_neg (by simp; omega), if_pos hn]
  rfl

theorem Xjk {N : Nat} {len i n : Int} (h0 : 0 ≤ len) (hb : len ≤ 1000000000) : JY N len i n = some (decide (0 ≤ i ∧ 0 ≤ n ∧ i + n ≤ len)) := by
 unfold JY
 by_cases h1 : 0 ≤ i
 ·
  by_cases h2 : 0 ≤ n
  ·
   by_cases h3 : i ≤ len
   ·
    rw [if_pos h1, if_pos h2, if_pos h3, w64 (by omega) (by omega)]
    congr 1
    exact decide_eq_decide.2 (by omega)
   ·
    rw [if_pos h1, if_pos h2, if_neg h3, decide_eq_false (by omega)]
  ·
   rw [if_pos h1, if_neg h2, decide_eq_false (by omega)]
 ·
  rw [if_neg h1, decide_eq_false (by omega)]
theorem Xdn {N n k : Nat} {b : List Int} {at_ len a : Int} (h0 : 0 ≤ at_) (hk : (k : Int) < len) (hl : at_ + len ≤ (b.length : Int)) (hb : Bytes b) (hlen : b.length ≤ 1000000000) (ha : 0 ≤ a) (ha2 : a < 1099511627776) :
  XP N b at_ len (n + 1) a k = XP N b at_ len n (a * 256 + gb b (at_ + k)) ((k + 1 : Nat) : Int) := by
 have h1 := Za hb (at_ + k)
 have e : atI b (at_ + (k : Int)) = some (gb b (at_ + k)) := by unfold atI; rw [if_pos (by omega)]; exact gb_at (by omega) (by omega)
 rw [XP, if_pos hk, w64 (x := at_ + k) (by omega) (by omega), e, Option.bind_some, w64 (x := a * 256) (by omega) (by omega), w64 (x := gb b (at_ + k)) (by omega) (by omega), w64 (x := a * 256 + _) (by omega) (by omega), w64 (by omega) (by omega)]
 rfl
theorem rnumEnd {N n k : Nat} {b : List Int} {at_ len a : Int} (hk : len = (k : Int)) : XP N b at_ len (n + 1) a k = some a := by
 rw [XP, if_neg (by omega)]
theorem Yj {N : Nat} (hN : 1000000000000 < N) {b : List Int} (hb : Bytes b) (hl : b.length ≤ 1000000000) (i : Int) (hi : i ≤ 1000000000000) : Xz N b i = some (u16 b i) := by
 unfold Xz QE
 rw [Xjk (by omega) (by omega), Option.bind_some]
 by_cases h : 0 ≤ i ∧ i + 2 ≤ (b.length : Int)
 ·
  obtain ⟨m, hm⟩ : ∃ m, N = m + 5 := ⟨N - 5, by omega⟩
  have h1 := Za hb i
  have hu : u16 b i = gb b i * 256 + gb b (i + 1) := if_pos h
  have h0 : XP N b i 2 N 0 0 = some (u16 b i) := by
   rw [show XP N b i 2 N 0 0 = XP N b i 2 (m + 5) 0 ((0 : Nat) : Int) by rw [← hm]; rfl]
   rw [Xdn h.1 (by omega) h.2 hb hl (by omega) (by omega)]
   rw [Xdn h.1 (by omega) h.2 hb hl (by simp; omega) (by simp; omega), rnumEnd (len := 2) (k := 0 + 1 + 1) rfl, hu]
   congr 1
   simp
  rw [if_pos (by simp; omega), h0]
  rfl
 ·
  have hu : u16 b i = -1 := if_neg h
  rw [if_neg (by simp; omega), hu]
  rfl
def cnt : List TSpan → Int
 | [] => 0
 | s :: r => (s.To - s.From + 1) + cnt r
def idx : List TSpan → Int → Int → Int
 | [], g, n => -1
 | s :: r, g, n => if g < s.From then -1 else if g ≤ s.To then n + g - s.From else idx r g (n + (s.To - s.From + 1))
def RL : Int → List TSpan → Prop
 | _, [] => True
 | lo, s :: r => lo ≤ s.From ∧ s.From ≤ s.To ∧ s.To ≤ 65535 ∧ RL (s.To + 2) r

theorem RL.drop {lo : Int} : ∀ {l : List TSpan} (i : Nat), RL lo l → 0 ≤ lo → ∃ lo', lo ≤ lo' ∧ RL lo' (l.drop i)
 | l, 0, h, h0 => ⟨lo, by omega, h⟩
 | [], i + 1, h, h0 => ⟨lo, by omega, trivial⟩
 | s :: r, i + 1, h, h0 => by
  have := h.1; have := h.2.1
  obtain ⟨lo', h1, h2⟩ := RL.drop i h.2.2.2 (by omega)
  exact ⟨lo', by omega, h2⟩
theorem RL.cnt_le {lo : Int} : ∀ {l : List TSpan}, RL lo l → lo ≤ 65537 → 0 ≤ cnt l ∧ cnt l ≤ 65537 - lo
 | [], _, h0 => ⟨Int.le_refl _, by simp [cnt]; omega⟩
 | s :: r, h, h0 => by
  obtain ⟨h1, h2, h3, h4⟩ := h
  have := RL.cnt_le h4 (by omega)
  simp only [cnt]
  omega
theorem Xk6 : ∀ (l m : List TSpan), cnt (l ++ m) = cnt l + cnt m
 | [], m => by simp [cnt]
 | s :: r, m => by simp only [List.cons_append, cnt, Xk6 r m]; omega
theorem Jd {l : List TSpan} (h : RL 0 l) (i : Nat) : 0 ≤ cnt (l.take i) ∧ 0 ≤ cnt (l.drop i) ∧ cnt (l.take i) + cnt (l.drop i) = cnt l ∧ cnt l ≤ 65537 := by
 have h1 := RL.cnt_le h (by omega)
 obtain ⟨lo', h2, h3⟩ := RL.drop i h (by omega)
 have h4 : cnt (l.take i) + cnt (l.drop i) = cnt l := by rw [← Xk6, List.take_append_drop]
 have h5 : 0 ≤ cnt (l.drop i) := by
  rcases Int.lt_or_le 65537 lo' with hh | hh
  ·
   cases hd : l.drop i with
   | nil => simp [cnt]
   | cons s r => rw [hd] at h3; have := h3.1; have := h3.2.1; have := h3.2.2.1; omega
  ·
   exact (RL.cnt_le h3 hh).1
 have h6 : ∀ (l : List TSpan) (lo : Int) (i : Nat), RL lo l → 0 ≤ cnt (l.take i) := by
  intro l
  induction l with
  | nil => intro lo i _; simp [cnt]
  | cons s r ih =>
   intro lo i h
   cases i with
   | zero => simp [cnt]
   | succ i =>
    simp only [List.take_succ_cons, cnt]
    have := ih _ i h.2.2.2
    have := h.2.1
    omega
 exact ⟨h6 _ _ _ h, h5, h4, h1.2⟩


def jn (l : List TSpan) (s : TSpan) : List TSpan := match l.getLast? with
 | none => [s]
 | some x => if x.To + 1 = s.From then l.dropLast ++ [⟨x.From, s.To⟩] else l ++ [s]
theorem Xqe {l : List TSpan} {x : TSpan} (h : l.getLast? = some x) : 0 < l.length ∧ l[l.length - 1]? = some x := by
 rw [List.getLast?_eq_getElem?] at h
 exact ⟨by have := (List.getElem?_eq_some_iff.1 h).1; omega, h⟩

theorem RL.app : ∀ {l : List TSpan} {lo : Int} {s : TSpan}, RL lo l → (∀ x ∈ l, x.To + 2 ≤ s.From) → lo ≤ s.From → s.From ≤ s.To → s.To ≤ 65535 → RL lo (l ++ [s])
 | [], lo, s, _, _, h1, h2, h3 => ⟨h1, h2, h3, trivial⟩
 | x :: r, lo, s, h, hx, h1, h2, h3 => ⟨h.1, h.2.1, h.2.2.1, RL.app h.2.2.2 (fun y hy => hx y (List.mem_cons_of_mem _ hy)) (hx x List.mem_cons_self) h2 h3⟩
theorem RL.last : ∀ {l : List TSpan} {lo : Int} {x : TSpan} {b : Int}, RL lo (l ++ [x]) → x.To ≤ b → b ≤ 65535 → RL lo (l ++ [⟨x.From, b⟩])
 | [], lo, x, b, h, h1, h2 => ⟨h.1, by show x.From ≤ b; have := h.2.1; omega, h2, trivial⟩
 | y :: r, lo, x, b, h, h1, h2 => ⟨h.1, h.2.1, h.2.2.1, RL.last h.2.2.2 h1 h2⟩
theorem RL.lasts : ∀ {l : List TSpan} {lo : Int} {x : TSpan}, RL lo (l ++ [x]) → ∀ y ∈ l, y.To + 2 ≤ x.From
 | [], lo, x, h, y, hy => by cases hy
 | z :: r, lo, x, h, y, hy => by
  rcases List.mem_cons.1 hy with rfl | hy
  ·
   have : ∀ (r : List TSpan) (lo : Int), RL lo (r ++ [x]) → lo ≤ x.From := by
    intro r
    induction r with
    | nil => intro lo h; exact h.1
    | cons w r ih => intro lo h; have := ih _ h.2.2.2; have := h.1; have := h.2.1; omega
   exact this r _ h.2.2.2
  ·
   exact RL.lasts h.2.2.2 y hy
def inn (l : List TSpan) (g : Int) : Prop := ∃ s ∈ l, s.From ≤ g ∧ g ≤ s.To
theorem Xji {l : List TSpan} {x : TSpan} (h : l.getLast? = some x) : l = l.dropLast ++ [x] := by
 have hne : l ≠ [] := by rintro rfl; simp at h
 have := List.dropLast_concat_getLast hne
 rw [List.getLast?_eq_some_getLast hne] at h
 cases h
 exact this.symm
theorem Xed {l : List TSpan} {s : TSpan} (h : RL 0 l) (hs : ∀ x ∈ l, x.To < s.From) (h0 : 0 ≤ s.From) (h1 : s.From ≤ s.To) (h2 : s.To ≤ 65535) :
  RL 0 (jn l s) ∧ (∀ x ∈ jn l s, x.To ≤ s.To) ∧ cnt (jn l s) = cnt l + (s.To - s.From + 1) ∧ (∀ g, inn (jn l s) g ↔ inn l g ∨ (s.From ≤ g ∧ g ≤ s.To)) ∧ (jn l s).length ≤ l.length + 1 := by
 unfold jn
 cases hg : l.getLast? with
 | none =>
  have : l = [] := by simpa using hg
  subst this
  simp only
  refine ⟨⟨h0, h1, h2, trivial⟩, by simp, by simp [cnt], fun g => ?_, by simp⟩
  simp [inn]
 | some x =>
  have hl := Xji hg
  have hxm : x ∈ l := List.mem_of_getLast? hg
  have hxs := hs x hxm
  simp only
  split
  ·
   rename_i he
   rw [hl] at h
   have hx1 : x.From ≤ x.To := by
    have : ∀ (r : List TSpan) (lo : Int), RL lo (r ++ [x]) → x.From ≤ x.To := by
     intro r
     induction r with
     | nil => intro lo h; exact h.2.1
     | cons w r ih => intro lo h; exact ih _ h.2.2.2
    exact this _ _ h
   refine ⟨RL.last h (by omega) h2, ?_, ?_, fun g => ?_, ?_⟩
   ·
    intro y hy
    rcases List.mem_append.1 hy with hy | hy
    ·
     have := hs y (by rw [hl]; exact List.mem_append_left _ hy); omega
    ·
     simp at hy; subst hy; simp
   ·
    conv => rhs; rw [hl]
    simp only [Xk6, cnt]
    omega
   ·
    conv => rhs; rw [hl]
    simp only [inn, List.mem_append, List.mem_singleton]
    constructor
    ·
     rintro ⟨y, hy | rfl, h3, h4⟩
     ·
      exact .inl ⟨y, .inl hy, h3, h4⟩
     ·
      by_cases hb : g ≤ x.To
      ·
       exact .inl ⟨x, .inr rfl, h3, hb⟩
      ·
       right; simp only at h4; omega
    ·
     rintro (⟨y, hy | rfl, h3, h4⟩ | h3)
     ·
      exact ⟨y, .inl hy, h3, h4⟩
     ·
      exact ⟨_, .inr rfl, h3, by simp only; omega⟩
     ·
      exact ⟨_, .inr rfl, by simp only; omega, by simp only; omega⟩
   ·
    have := congrArg List.length hl
    simp at this ⊢
  ·
   rename_i he
   have hgap : ∀ y ∈ l, y.To + 2 ≤ s.From := by
    intro y hy
    rw [hl] at hy h
    rcases List.mem_append.1 hy with hy | hy
    ·
     have h3 := RL.lasts h y hy
     have : ∀ (r : List TSpan) (lo : Int), RL lo (r ++ [x]) → x.From ≤ x.To := by
      intro r
      induction r with
      | nil => intro lo h; exact h.2.1
      | cons w r ih => intro lo h; exact ih _ h.2.2.2
     have := this _ _ h
     omega
    ·
     simp at hy; subst hy; omega
   refine ⟨RL.app h hgap h0 h1 h2, ?_, ?_, fun g => ?_, by simp⟩
   ·
    intro y hy
    rcases List.mem_append.1 hy with hy | hy
    ·
     have := hs y hy; omega
    ·
     simp at hy; subst hy; simp
   ·
    simp only [Xk6, cnt]; omega
   ·
    simp only [inn, List.mem_append, List.mem_singleton]
    constructor
    ·
     rintro ⟨y, hy | rfl, h3, h4⟩
     ·
      exact .inl ⟨y, hy, h3, h4⟩
     ·
      exact .inr ⟨h3, h4⟩
    ·
     rintro (⟨y, hy, h3, h4⟩ | h3)
     ·
      exact ⟨y, .inl hy, h3, h4⟩
     ·
      exact ⟨s, .inr rfl, h3⟩
theorem Xot (l : List TSpan) (s : TSpan) : (jn l s).length ≤ l.length + 1 := by
  unfold jn
  split
  · simp
  · split <;> simp
theorem jn_b {l : List TSpan} {s : TSpan} (h : ∀ x ∈ l, 0 ≤ x.To ∧ x.To ≤ 65535) (hs : 0 ≤ s.To ∧ s.To ≤ 65535) : ∀ x ∈ jn l s, 0 ≤ x.To ∧ x.To ≤ 65535 := by
  intro x hx
  unfold jn at hx
  split at hx
  · simp at hx; subst hx; exact hs
  · split at hx
    · rcases List.mem_append.1 hx with hx | hx
      · exact h x (List.dropLast_subset l hx)
      · simp at hx; subst hx; exact hs
    · rcases List.mem_append.1 hx with hx | hx
      · exact h x hx
      · simp at hx; subst hx; exact hs

theorem RL.lows : ∀ {l : List TSpan} {lo : Int}, RL lo l → ∀ y ∈ l, lo ≤ y.From ∧ y.From ≤ y.To ∧ y.To ≤ 65535
 | [], lo, _, y, hy => by cases hy
 | x :: r, lo, h, y, hy => by
  rcases List.mem_cons.1 hy with rfl | hy
  ·
   exact ⟨h.1, h.2.1, h.2.2.1⟩
  ·
   have := RL.lows h.2.2.2 y hy
   have := h.1; have := h.2.1
   omega
theorem RL.uniq : ∀ {l m : List TSpan} {lo : Int}, RL lo l → RL lo m → (∀ g, inn l g ↔ inn m g) → l = m
 | [], [], _, _, _, _ => rfl
 | [], y :: m, lo, _, h, e => by
  have := (e y.From).2 ⟨y, List.mem_cons_self, Int.le_refl _, h.2.1⟩
  obtain ⟨_, hc, _⟩ := this; cases hc
 | x :: l, [], lo, h, _, e => by
  have := (e x.From).1 ⟨x, List.mem_cons_self, Int.le_refl _, h.2.1⟩
  obtain ⟨_, hc, _⟩ := this; cases hc
 | x :: l, y :: m, lo, h, h', e => by
  have first : ∀ {x y : TSpan} {l m : List TSpan} {lo : Int}, RL lo (x :: l) → RL lo (y :: m) → (∀ g, inn (x :: l) g ↔ inn (y :: m) g) → y.From ≤ x.From := by
   intro x y l m lo h h' e
   obtain ⟨z, hz, h1, h2⟩ := (e x.From).1 ⟨x, List.mem_cons_self, Int.le_refl _, h.2.1⟩
   rcases List.mem_cons.1 hz with rfl | hz
   ·
    exact h1
   ·
    have := RL.lows h'.2.2.2 z hz; have := h'.2.1; omega
  have hf : x.From = y.From := by have := first h h' e; have := first h' h (fun g => (e g).symm); omega
  have last : ∀ {x y : TSpan} {l m : List TSpan} {lo : Int}, RL lo (x :: l) → RL lo (y :: m) → x.From = y.From → (∀ g, inn (x :: l) g ↔ inn (y :: m) g) → x.To ≤ y.To := by
   intro x y l m lo h h' hf e
   have hx := h.2.1; have hy := h'.2.1
   rcases Int.lt_or_le y.To x.To with hlt | hle
   ·
    exfalso
    obtain ⟨z, hz, h1, h2⟩ := (e (y.To + 1)).1 ⟨x, List.mem_cons_self, by omega, by omega⟩
    rcases List.mem_cons.1 hz with rfl | hz
    ·
     omega
    ·
     have := RL.lows h'.2.2.2 z hz; omega
   ·
    exact hle
  have ht : x.To = y.To := by have := last h h' hf e; have := last h' h hf.symm (fun g => (e g).symm); omega
  have hxy : x = y := by cases x; cases y; simp at hf ht; simp [hf, ht]
  subst hxy
  have := RL.uniq h.2.2.2 h'.2.2.2 (fun g => by
   have hg := e g
   constructor
   ·
    rintro ⟨z, hz, h1, h2⟩
    obtain ⟨z', hz', h3, h4⟩ := hg.1 ⟨z, List.mem_cons_of_mem _ hz, h1, h2⟩
    rcases List.mem_cons.1 hz' with rfl | hz'
    ·
     have := RL.lows h.2.2.2 z hz; omega
    ·
     exact ⟨z', hz', h3, h4⟩
   ·
    rintro ⟨z, hz, h1, h2⟩
    obtain ⟨z', hz', h3, h4⟩ := hg.2 ⟨z, List.mem_cons_of_mem _ hz, h1, h2⟩
    rcases List.mem_cons.1 hz' with rfl | hz'
    ·
     have := RL.lows h'.2.2.2 z hz; omega
    ·
     exact ⟨z', hz', h3, h4⟩)
  rw [this]

def row16 (b : List Int) (i : Int) (n : Nat) : List Int := (List.range n).map fun (k : Nat) => u16 b (i + 2 * (k : Int))
theorem Ja (b : List Int) (i : Int) (n : Nat) : (row16 b i n).length = n := by simp [row16]
theorem Xp5 (b : List Int) (i : Int) (n : Nat) : row16 b i (n + 1) = row16 b i n ++ [u16 b (i + 2 * (n : Int))] := by simp [row16, List.range_succ]
theorem Xai {b : List Int} {i : Int} {n k : Nat} (h : k < n) : (row16 b i n)[k]? = some (u16 b (i + 2 * (k : Int))) := by simp [row16, h]
theorem Row1_eq {N : Nat} (hN : 1000000000000 < N) {b : List Int} (hb : Bytes b) (hl : b.length ≤ 1000000000) {i k : Int} (h0 : 0 ≤ i) (hk : 0 ≤ k) (h1 : i + 2 * k + 2 ≤ (b.length : Int)) : Xa1 N k b i 2 = some (u16 b (i + 2 * k)) := by
 unfold Xa1
 have hx := Za hb (i + 2 * k); have hy := Za hb (i + 2 * k + 1)
 rw [w64 (x := k * 2) (by omega) (by omega), w64 (x := k + 1) (by omega) (by omega), w64 (x := (k + 1) * 2) (by omega) (by omega), w64 (x := i + k * 2) (by omega) (by omega), w64 (x := i + (k + 1) * 2) (by omega) (by omega)]
 rw [if_pos (by omega), if_pos (by omega), if_pos (by omega), show i + (k + 1) * 2 = (i + 2 * k) + 2 by omega, show i + k * 2 = i + 2 * k by omega, slI2 (by omega) h1, number2 hN hx hy, u16, if_pos ⟨by omega, h1⟩]
 rfl
theorem many_eq {N : Nat} (hN : 1000000000000 < N) {b : List Int} (hb : Bytes b) (hl : b.length ≤ 1000000000) {i : Int} (h0 : 0 ≤ i) {m : Nat} (h1 : i + 2 * (m : Int) ≤ (b.length : Int)) : Qv N m b i 2 = some (row16 b i m) := by
 have key : ∀ (d k n : Nat), k + d = m → d < n → YF N m b i 2 n k (row16 b i k) = some (row16 b i m) := by
  intro d
  induction d with
  | zero =>
   intro k n hk hn
   obtain ⟨n, rfl⟩ : ∃ x, n = x + 1 := ⟨n - 1, by omega⟩
   rw [YF, if_neg (by omega), show k = m by omega]
  | succ d ih =>
   intro k n hk hn
   obtain ⟨n, rfl⟩ : ∃ x, n = x + 1 := ⟨n - 1, by omega⟩
   rw [YF, if_pos (by omega), Row1_eq hN hb hl h0 (by omega) (by omega), Option.bind_some, if_pos (by rw [Ja]; omega), w64 (by omega) (by omega), ← Xp5]
   exact ih (k + 1) n (by omega) (by omega)
 have h2 := key m 0 N (by omega) (by omega)
 unfold Qv
 rw [show YF N m b i 2 N 0 [] = some (row16 b i m) from h2]
 rfl
theorem Xgh {N : Nat} (hN : 1000000000000 < N) {b : List Int} (hb : Bytes b) (hl : b.length ≤ 1000000000) (i n : Int) (hi : i ≤ 1000000000000) (hn : n ≤ 1000000000000) :
  Jp N b i n 2 = some (if 0 ≤ n ∧ 0 ≤ i ∧ i + 2 * n ≤ (b.length : Int) then (row16 b i n.toNat, true) else ([], false)) := by
 unfold Jp
 rw [if_neg (by decide), if_pos rfl]
 by_cases h1 : n < 0
 ·
  rw [if_pos h1, if_neg (by omega)]
 ·
  rw [if_neg h1]
  by_cases h2 : (b.length : Int) < n
  ·
   rw [if_pos h2, if_neg (by omega)]
  ·
   rw [if_neg h2, w64 (x := n * 2) (by omega) (by omega), Xg4 hl, Option.bind_some]
   by_cases h3 : 0 ≤ i ∧ i + 2 * n ≤ (b.length : Int)
   ·
    obtain ⟨m, rfl⟩ := Int.eq_ofNat_of_zero_le (show 0 ≤ n by omega)
    rw [if_pos (by simp; omega), if_pos (by omega), many_eq hN hb hl h3.1 h3.2]
    rfl
   ·
    rw [if_neg (by simp; omega), if_neg (by omega)]

theorem Xc6 {N : Nat} {l : List TSpan} {a c : Int} (hl : l.length ≤ 1000000000000) (ht : ∀ x ∈ l, 0 ≤ x.To ∧ x.To ≤ 65535) : YE N l a c = some (jn l ⟨a, c⟩) := by
 unfold YE jn
 cases hg : l.getLast? with
 | none =>
  have : l = [] := by simpa using hg
  subst this
  rfl
 | some x =>
  obtain ⟨h0, hx⟩ := Xqe hg
  have hxt := ht x (List.mem_of_getLast? hg)
  have e : IntKind.i64.wrap ((l.length : Int) - 1) = ((l.length - 1 : Nat) : Int) := by rw [w64 (by omega) (by omega)]; omega
  rw [if_pos (by omega), e, XY hx, Option.bind_some, w64 (x := x.To + 1) (by omega) (by omega)]
  by_cases h : x.To + 1 = a
  ·
   rw [if_pos h]
   simp only [h, if_true]
   congr 1
   have hs := Xji hg
   have e2 : (((l.length - 1 : Nat) : Int)).toNat = l.dropLast.length := by simp
   rw [e2]
   conv => lhs; rw [hs]
   rw [List.dropLast_concat, List.set_append_right _ _ (Nat.le_refl _)]
   simp
  ·
   rw [if_neg h, if_pos (by omega)]
   simp only [h, if_false]

def rise : Int → List Int → Bool
 | _, [] => true
 | a, g :: r => decide (a < g) && rise g r
def gls : List TSpan → List Int → List TSpan
 | s, [] => s
 | s, g :: r => gls (jn s ⟨g, g⟩) r
theorem glyphs_L1 {N : Nat} {l : List Int} (hl : l.length ≤ 70000) (hb : ∀ x ∈ l, x ≤ 65535) : ∀ (d k n : Nat) (a : Int) (s : List TSpan), k + d = l.length → d < n → -1 ≤ a → s.length ≤ k → (∀ x ∈ s, 0 ≤ x.To ∧ x.To ≤ 65535) →
  ZK N l n a k s = some (if rise a (l.drop k) = true then .inl (gls s (l.drop k)) else .inr ()) := by
 intro d
 induction d with
 | zero =>
  intro k n a s hk hn ha hs ht
  obtain ⟨n, rfl⟩ : ∃ x, n = x + 1 := ⟨n - 1, by omega⟩
  rw [ZK, if_neg (by omega), List.drop_eq_nil_of_le (by omega)]
  rfl
 | succ d ih =>
  intro k n a s hk hn ha hs ht
  obtain ⟨n, rfl⟩ : ∃ x, n = x + 1 := ⟨n - 1, by omega⟩
  obtain ⟨g, hg, hd⟩ := Xil hk
  have hgb := hb g (List.mem_of_getElem? hg)
  rw [ZK, if_pos (by omega), XY hg, Option.bind_some, hd]
  by_cases h : g ≤ a
  ·
   rw [if_pos h, if_neg (by simp [rise]; omega)]
  ·
   rw [if_neg h, Xc6 (by omega) ht, Option.bind_some, w64 (by omega) (by omega)]
   have := ih (k + 1) n g (jn s ⟨g, g⟩) (by omega) (by omega) (by omega) (by have := Xot s ⟨g, g⟩; omega) (jn_b ht ⟨by simp only; omega, by simp only; omega⟩)
   rw [show ((k + 1 : Nat) : Int) = (k : Int) + 1 by omega] at this
   rw [this]
   have e : rise a (g :: l.drop (k + 1)) = rise g (l.drop (k + 1)) := by simp [rise]; omega
   rw [e]
   rfl
theorem Xo4 : ∀ {l : List Int} {s : List TSpan} {a : Int}, rise a l = true → -1 ≤ a → (∀ x ∈ l, x ≤ 65535) → RL 0 s → (∀ x ∈ s, x.To ≤ a) → RL 0 (gls s l) ∧ ∀ g, inn (gls s l) g ↔ inn s g ∨ g ∈ l
 | [], s, a, _, _, _, hs, _ => ⟨hs, fun g => by simp [gls]⟩
 | x :: r, s, a, h, ha, hb, hs, ht => by
  simp only [rise, Bool.and_eq_true, decide_eq_true_eq] at h
  have hx := hb x List.mem_cons_self
  obtain ⟨g1, g2, g3, g4, g5⟩ := Xed (s := ⟨x, x⟩) hs (fun y hy => by have := ht y hy; simp only; omega) (by simp only; omega) (Int.le_refl _) hx
  obtain ⟨k1, k2⟩ := Xo4 h.2 (by omega) (fun y hy => hb y (List.mem_cons_of_mem _ hy)) g1 (fun y hy => g2 y hy)
  refine ⟨k1, fun g => ?_⟩
  simp only [gls]
  rw [k2, g4]
  simp only [List.mem_cons]
  constructor
  ·
   rintro ((h | h) | h)
   ·
    exact .inl h
   ·
    exact .inr (.inl (by omega))
   ·
    exact .inr (.inr h)
  ·
   rintro (h | h | h)
   ·
    exact .inl (.inl h)
   ·
    exact .inl (.inr (by omega))
   ·
    exact .inr h

def trip (b : List Int) (i : Int) (k : Nat) : XA := ⟨u16 b (i + 6 * (k : Int)), u16 b (i + 6 * (k : Int) + 2), u16 b (i + 6 * (k : Int) + 4)⟩
def trips (b : List Int) (i : Int) (n : Nat) : List XA := (List.range n).map (trip b i)
def riseT : Int → List XA → Bool
 | _, [] => true
 | a, x :: r => decide (a < x.e0) && decide (x.e0 ≤ x.e1) && riseT x.e1 r
theorem JW (b : List Int) (i : Int) (n : Nat) : (trips b i n).length = n := by simp [trips]
theorem Xn5 {b : List Int} {i : Int} {n k : Nat} (h : k < n) : (trips b i n)[k]? = some (trip b i k) := by simp [trips, h]
theorem Xpz {N : Nat} {b : List Int} {i : Int} {m : Nat} (hm : m ≤ 70000) (hb : Bytes b) : ∀ (d k n : Nat) (a : Int), k + d = m → d < n →
  Zo N (row16 b i (3 * m)) n a ((3 * k : Nat) : Int) ((trips b i m).take k) = some (if riseT a ((trips b i m).drop k) = true then .inl (trips b i m) else .inr ()) := by
 intro d
 induction d with
 | zero =>
  intro k n a hk hn
  obtain ⟨n, rfl⟩ : ∃ x, n = x + 1 := ⟨n - 1, by omega⟩
  rw [Zo, Ja, if_neg (by omega), List.drop_eq_nil_of_le (by rw [JW]; omega), List.take_of_length_le (by rw [JW]; omega)]
  rfl
 | succ d ih =>
  intro k n a hk hn
  obtain ⟨n, rfl⟩ : ∃ x, n = x + 1 := ⟨n - 1, by omega⟩
  have hx := Xn5 (b := b) (i := i) (show k < m by omega)
  have hd : (trips b i m).drop k = trip b i k :: (trips b i m).drop (k + 1) := by
   obtain ⟨hlt, e⟩ := List.getElem?_eq_some_iff.1 hx
   rw [List.drop_eq_getElem_cons hlt, e]
  have ht : (trips b i m).take (k + 1) = (trips b i m).take k ++ [trip b i k] := by rw [List.take_add_one, hx]; rfl
  have h1 : (row16 b i (3 * m))[3 * k]? = some (trip b i k).e0 := by rw [Xai (by omega)]; simp only [trip]; congr 2; omega
  have h2 : (row16 b i (3 * m))[3 * k + 1]? = some (trip b i k).e1 := by rw [Xai (by omega)]; simp only [trip]; congr 2; omega
  have h3 : (row16 b i (3 * m))[3 * k + 2]? = some (trip b i k).e2 := by rw [Xai (by omega)]; simp only [trip]; congr 2; omega
  rw [Zo, Ja, if_pos (by omega), XY h1, Option.bind_some, w64 (x := ((3 * k : Nat) : Int) + 1) (by omega) (by omega), show ((3 * k : Nat) : Int) + 1 = ((3 * k + 1 : Nat) : Int) by omega, XY h2, Option.bind_some,
   w64 (x := ((3 * k : Nat) : Int) + 2) (by omega) (by omega), show ((3 * k : Nat) : Int) + 2 = ((3 * k + 2 : Nat) : Int) by omega, XY h3, Option.bind_some, hd]
  by_cases h4 : (trip b i k).e0 ≤ a
  ·
   rw [if_pos h4, if_neg (by simp [riseT]; omega)]
  ·
   rw [if_neg h4]
   by_cases h5 : (trip b i k).e1 < (trip b i k).e0
   ·
    rw [if_pos h5, if_neg (by simp [riseT]; omega)]
   ·
    rw [if_neg h5, if_pos (by rw [List.length_take]; omega), w64 (by omega) (by omega), show ((3 * k : Nat) : Int) + 3 = ((3 * (k + 1) : Nat) : Int) by omega]
    have := ih (k + 1) n (trip b i k).e1 (by omega) (by omega)
    rw [ht] at this
    have e : riseT a (trip b i k :: (trips b i m).drop (k + 1)) = riseT (trip b i k).e1 ((trips b i m).drop (k + 1)) := by
     simp only [riseT]
     rw [decide_eq_true (by omega : a < (trip b i k).e0), decide_eq_true (by omega : (trip b i k).e0 ≤ (trip b i k).e1)]
     rfl
    rw [e, ← this]

def idxT : Int → List XA → Bool
 | _, [] => true
 | n, x :: r => decide (x.e2 = n) && idxT (n + (x.e1 - x.e0 + 1)) r
def rgs : List TSpan → List XA → List TSpan
 | s, [] => s
 | s, x :: r => rgs (jn s ⟨x.e0, x.e1⟩) r
theorem ranges_L1 {N : Nat} {l : List XA} (hl : l.length ≤ 70000) : ∀ (d k n : Nat) (a c : Int) (s : List TSpan), k + d = l.length → d < n → riseT a (l.drop k) = true → (∀ x ∈ l, x.e1 ≤ 65535) → -1 ≤ a → 0 ≤ c → c ≤ 100000 * (k : Int) → s.length ≤ k → (∀ x ∈ s, 0 ≤ x.To ∧ x.To ≤ 65535) →
  ZJ N l n c k s = some (if idxT c (l.drop k) = true then .inl (rgs s (l.drop k)) else .inr ()) := by
 intro d
 induction d with
 | zero =>
  intro k n a c s hk hn hr hb ha hc hck hs ht
  obtain ⟨n, rfl⟩ : ∃ x, n = x + 1 := ⟨n - 1, by omega⟩
  rw [ZJ, if_neg (by omega), List.drop_eq_nil_of_le (by omega)]
  rfl
 | succ d ih =>
  intro k n a c s hk hn hr hb ha hc hck hs ht
  obtain ⟨n, rfl⟩ : ∃ x, n = x + 1 := ⟨n - 1, by omega⟩
  obtain ⟨x, hx, hd⟩ := Xil hk
  have hxb := hb x (List.mem_of_getElem? hx)
  rw [hd] at hr
  simp only [riseT, Bool.and_eq_true, decide_eq_true_eq] at hr
  rw [ZJ, if_pos (by omega), XY hx, Option.bind_some, hd]
  by_cases h : x.e2 = c
  ·
   rw [if_pos h, Xc6 (by omega) ht, Option.bind_some, w64 (x := x.e1 - x.e0) (by omega) (by omega), w64 (x := x.e1 - x.e0 + 1) (by omega) (by omega), w64 (x := c + _) (by omega) (by omega), w64 (by omega) (by omega)]
   have := ih (k + 1) n x.e1 (c + (x.e1 - x.e0 + 1)) (jn s ⟨x.e0, x.e1⟩) (by omega) (by omega) hr.2 hb (by omega) (by omega) (by omega) (by have := Xot s ⟨x.e0, x.e1⟩; omega) (jn_b ht ⟨by simp only; omega, hxb⟩)
   rw [show ((k + 1 : Nat) : Int) = (k : Int) + 1 by omega] at this
   rw [this]
   have e : idxT c (x :: l.drop (k + 1)) = idxT (c + (x.e1 - x.e0 + 1)) (l.drop (k + 1)) := by simp [idxT, h]
   rw [e]
   rfl
  ·
   rw [if_neg h, if_neg (by simp [idxT, h])]
def inT (l : List XA) (g : Int) : Prop := ∃ x ∈ l, x.e0 ≤ g ∧ g ≤ x.e1
theorem Xoc : ∀ {l : List XA} {s : List TSpan} {a : Int}, riseT a l = true → -1 ≤ a → (∀ x ∈ l, x.e1 ≤ 65535) → RL 0 s → (∀ x ∈ s, x.To ≤ a) → RL 0 (rgs s l) ∧ ∀ g, inn (rgs s l) g ↔ inn s g ∨ inT l g
 | [], s, a, _, _, _, hs, _ => ⟨hs, fun g => by simp [rgs, inT]⟩
 | x :: r, s, a, h, ha, hb, hs, ht => by
  simp only [riseT, Bool.and_eq_true, decide_eq_true_eq] at h
  have hx := hb x List.mem_cons_self
  obtain ⟨g1, g2, g3, g4, g5⟩ := Xed (s := ⟨x.e0, x.e1⟩) hs (fun y hy => by have := ht y hy; simp only; omega) (by simp only; omega) h.1.2 hx
  obtain ⟨k1, k2⟩ := Xoc h.2 (by omega) (fun y hy => hb y (List.mem_cons_of_mem _ hy)) g1 (fun y hy => g2 y hy)
  refine ⟨k1, fun g => ?_⟩
  simp only [rgs]
  rw [k2, g4]
  simp only [inT, List.mem_cons]
  clear h
  constructor
  ·
   rintro ((h | h) | ⟨y, hy, h⟩)
   ·
    exact .inl h
   ·
    exact .inr ⟨x, .inl rfl, h⟩
   ·
    exact .inr ⟨y, .inr hy, h⟩
  ·
   rintro (h | ⟨y, rfl | hy, h⟩)
   ·
    exact .inl (.inl h)
   ·
    exact .inl (.inr h)
   ·
    exact .inr ⟨y, hy, h⟩

def riseZ (cls : Bool) : Int → Int → List XA → Bool
 | _, _, [] => true
 | a, n, x :: r => decide (0 ≤ x.e2) && decide (a < x.e0) && decide (x.e0 ≤ x.e1) && (cls || decide (x.e2 = n)) && riseZ cls x.e1 (n + (x.e1 - x.e0 + 1)) r
theorem Xc2 {cls : Bool} : ∀ {l : List XA} {a n : Int}, riseZ cls a n l = true ↔ (riseT a l = true ∧ (∀ x ∈ l, 0 ≤ x.e2) ∧ (cls = true ∨ idxT n l = true))
 | [], a, n => by simp [riseZ, riseT, idxT]
 | x :: r, a, n => by
  simp only [riseZ, riseT, idxT, Bool.and_eq_true, decide_eq_true_eq, Bool.or_eq_true, List.mem_cons, forall_eq_or_imp, Xc2]
  constructor
  ·
   rintro ⟨⟨⟨⟨h1, h2⟩, h3⟩, h4⟩, h5, h6, h7⟩
   exact ⟨⟨⟨h2, h3⟩, h5⟩, ⟨h1, h6⟩, by rcases h4 with h4 | h4 <;> rcases h7 with h7 | h7 <;> simp [*]⟩
  ·
   rintro ⟨⟨⟨h2, h3⟩, h5⟩, ⟨h1, h6⟩, h7⟩
   exact ⟨⟨⟨⟨h1, h2⟩, h3⟩, by rcases h7 with h7 | h7 <;> simp [*]⟩, h5, h6, by rcases h7 with h7 | h7 <;> simp [*]⟩
theorem Xfi {b : List Int} (hb : Bytes b) (i : Int) (k : Nat) : (trip b i k).e0 ≤ 65535 ∧ (trip b i k).e1 ≤ 65535 ∧ (trip b i k).e2 ≤ 65535 := by
 have h1 := XL hb (i + 6 * (k : Int)); have h2 := XL hb (i + 6 * (k : Int) + 2); have h3 := XL hb (i + 6 * (k : Int) + 4)
 simp only [trip]; omega
theorem Xg6 {b : List Int} {i : Int} {n : Nat} {x : XA} (h : x ∈ trips b i n) : ∃ k, k < n ∧ x = trip b i k := by
 simp only [trips, List.mem_map, List.mem_range] at h
 obtain ⟨k, hk, rfl⟩ := h
 exact ⟨k, hk, rfl⟩
theorem Xmz {b : List Int} (hb : Bytes b) {i : Int} {n : Nat} (h0 : 0 ≤ i) (h1 : i ≤ (b.length : Int)) : (∀ x ∈ trips b i n, 0 ≤ x.e2) ↔ i + 6 * (n : Int) ≤ (b.length : Int) := by
 constructor
 ·
  intro h
  cases n with
  | zero => simpa using h1
  | succ n =>
   have := h (trip b i n) (by simp only [trips, List.mem_map, List.mem_range]; exact ⟨n, by omega, rfl⟩)
   by_cases hh : i + 6 * (n : Int) + 4 + 2 ≤ (b.length : Int)
   ·
    omega
   ·
    have hn := (Yr hb (i := i + 6 * (n : Int) + 4)).2 (by omega)
    simp only [trip] at this; omega
 ·
  intro h x hx
  obtain ⟨k, hk, rfl⟩ := Xg6 hx
  have hn := (not_congr (Yr hb (i := i + 6 * (k : Int) + 4))).2 (by omega)
  simp only [trip]; omega

def covOk (b : List Int) (i : Int) : Bool :=
 if u16 b i = 1 then decide (0 ≤ u16 b (i + 2)) && rise (-1) (row16 b (i + 4) (u16 b (i + 2)).toNat)
 else if u16 b i = 2 then decide (0 ≤ u16 b (i + 2)) && riseZ false (-1) 0 (trips b (i + 4) (u16 b (i + 2)).toNat)
 else false
def covIn (b : List Int) (i g : Int) : Prop :=
 if u16 b i = 1 then g ∈ row16 b (i + 4) (u16 b (i + 2)).toNat else inT (trips b (i + 4) (u16 b (i + 2)).toNat) g
theorem Xbv {b : List Int} {i : Int} {n : Nat} {x : Int} (h : x ∈ row16 b i n) : ∃ k : Nat, k < n ∧ x = u16 b (i + 2 * (k : Int)) := by
 simp only [row16, List.mem_map, List.mem_range] at h
 obtain ⟨k, hk, rfl⟩ := h
 exact ⟨k, hk, rfl⟩
theorem Xm2 : ∀ {l : List Int} {a : Int}, rise a l = true → ∀ x ∈ l, a < x
 | [], a, _, x, hx => by cases hx
 | y :: r, a, h, x, hx => by
  simp only [rise, Bool.and_eq_true, decide_eq_true_eq] at h
  rcases List.mem_cons.1 hx with rfl | hx
  ·
   exact h.1
  ·
   have := Xm2 h.2 x hx; omega
theorem glyphs_eq {N : Nat} (hN : 1000000000000 < N) {b : List Int} (hb : Bytes b) (hl : b.length ≤ 1000000000) (i : Int) (hi : i ≤ 100000000000) (hi' : -100000000000 ≤ i) :
  Xad N b i = some (if decide (0 ≤ u16 b (i + 2)) && rise (-1) (row16 b (i + 4) (u16 b (i + 2)).toNat) then (gls [] (row16 b (i + 4) (u16 b (i + 2)).toNat), true) else ([], false)) := by
 unfold Xad
 have hu := XL hb (i + 2)
 rw [w64 (x := i + 2) (by omega) (by omega), w64 (x := i + 4) (by omega) (by omega), U16_eq hN hb hl _ (by omega), Option.bind_some]
 by_cases h1 : u16 b (i + 2) < 0
 ·
  simp only [h1, if_true]
  rw [Xgh hN hb hl _ _ (by omega) (by omega), Option.bind_some]
  have e : decide (0 ≤ u16 b (i + 2)) = false := decide_eq_false (by omega)
  rw [e]
  split <;> simp_all
 ·
  simp only [h1, if_false]
  rw [Xgh hN hb hl _ _ (by omega) (by omega), Option.bind_some]
  have hin := (not_congr (Yr hb (i := i + 2))).1 h1
  have e : decide (0 ≤ u16 b (i + 2)) = true := decide_eq_true (by omega)
  rw [e, Bool.true_and]
  by_cases h2 : i + 4 + 2 * u16 b (i + 2) ≤ (b.length : Int)
  ·
   simp only [show (0 ≤ u16 b (i + 2) ∧ 0 ≤ i + 4 ∧ i + 4 + 2 * u16 b (i + 2) ≤ (b.length : Int)) from ⟨by omega, by omega, h2⟩, and_self, if_true]
   have hg := glyphs_L1 (N := N) (l := row16 b (i + 4) (u16 b (i + 2)).toNat) (by rw [Ja]; omega) (fun x hx => by obtain ⟨k, _, rfl⟩ := Xbv hx; have := XL hb (i + 4 + 2 * (k : Int)); omega)
    (u16 b (i + 2)).toNat 0 N (-1) [] (by rw [Ja]; omega) (by omega) (by omega) (by simp) (by simp)
   rw [show ((0 : Nat) : Int) = 0 from rfl, List.drop_zero] at hg
   rw [hg]
   by_cases h3 : rise (-1) (row16 b (i + 4) (u16 b (i + 2)).toNat) = true
   ·
    simp only [h3, if_true]; rfl
   ·
    simp only [h3, if_false]; rfl
  ·
   have hno : ¬ (0 ≤ u16 b (i + 2) ∧ 0 ≤ i + 4 ∧ i + 4 + 2 * u16 b (i + 2) ≤ (b.length : Int)) := fun h => h2 h.2.2
   simp only [hno, if_false, if_true]
   have hf : ¬ rise (-1) (row16 b (i + 4) (u16 b (i + 2)).toNat) = true := fun h => by
    have hpos : 0 < (u16 b (i + 2)).toNat := by omega
    have := Xm2 h (u16 b (i + 4 + 2 * (((u16 b (i + 2)).toNat - 1 : Nat) : Int))) (by simp only [row16, List.mem_map, List.mem_range]; exact ⟨_, by omega, rfl⟩)
    have hn := (Yr hb (i := i + 4 + 2 * (((u16 b (i + 2)).toNat - 1 : Nat) : Int))).2 (by omega)
    have := XL hb (i + 4 + 2 * (((u16 b (i + 2)).toNat - 1 : Nat) : Int))
    omega
   simp only [hf, if_false]
   rfl
theorem Xjb {N : Nat} (hN : 1000000000000 < N) {b : List Int} (hb : Bytes b) (hl : b.length ≤ 1000000000) (i : Int) (hi : i ≤ 100000000000) (hi' : -100000000000 ≤ i) :
  Jl N b i = some (if decide (0 ≤ u16 b (i + 2)) && riseZ true (-1) 0 (trips b (i + 4) (u16 b (i + 2)).toNat) then (trips b (i + 4) (u16 b (i + 2)).toNat, true) else ([], false)) := by
 unfold Jl
 have hu := XL hb (i + 2)
 rw [w64 (x := i + 2) (by omega) (by omega), w64 (x := i + 4) (by omega) (by omega), U16_eq hN hb hl _ (by omega), Option.bind_some]
 by_cases h1 : u16 b (i + 2) < 0
 ·
  simp only [h1, if_true]
  rw [w64 (x := 3 * 0) (by omega) (by omega), Xgh hN hb hl _ _ (by omega) (by omega), Option.bind_some]
  have e : decide (0 ≤ u16 b (i + 2)) = false := decide_eq_false (by omega)
  rw [e]
  split <;> simp_all
 ·
  simp only [h1, if_false]
  rw [w64 (x := 3 * u16 b (i + 2)) (by omega) (by omega), Xgh hN hb hl _ _ (by omega) (by omega), Option.bind_some]
  have hin := (not_congr (Yr hb (i := i + 2))).1 h1
  have e : decide (0 ≤ u16 b (i + 2)) = true := decide_eq_true (by omega)
  rw [e, Bool.true_and]
  have hth := Xmz hb (i := i + 4) (n := (u16 b (i + 2)).toNat) (by omega) (by omega)
  by_cases h2 : i + 4 + 2 * (3 * u16 b (i + 2)) ≤ (b.length : Int)
  ·
   simp only [show (0 ≤ 3 * u16 b (i + 2) ∧ 0 ≤ i + 4 ∧ i + 4 + 2 * (3 * u16 b (i + 2)) ≤ (b.length : Int)) from ⟨by omega, by omega, h2⟩, and_self, if_true]
   have hg := Xpz (N := N) (b := b) (i := i + 4) (m := (u16 b (i + 2)).toNat) (by omega) hb (u16 b (i + 2)).toNat 0 N (-1) (by omega) (by omega)
   rw [show ((3 * 0 : Nat) : Int) = 0 from rfl, List.drop_zero, List.take_zero, show 3 * (u16 b (i + 2)).toNat = (3 * u16 b (i + 2)).toNat by omega] at hg
   rw [hg]
   have e2 : riseZ true (-1) 0 (trips b (i + 4) (u16 b (i + 2)).toNat) = riseT (-1) (trips b (i + 4) (u16 b (i + 2)).toNat) := by
    rw [Bool.eq_iff_iff, Xc2]
    exact ⟨fun h => h.1, fun h => ⟨h, hth.2 (by omega), .inl rfl⟩⟩
   rw [e2]
   by_cases h3 : riseT (-1) (trips b (i + 4) (u16 b (i + 2)).toNat) = true
   ·
    simp only [h3, if_true]; rfl
   ·
    simp only [h3, if_false]; rfl
  ·
   have hno : ¬ (0 ≤ 3 * u16 b (i + 2) ∧ 0 ≤ i + 4 ∧ i + 4 + 2 * (3 * u16 b (i + 2)) ≤ (b.length : Int)) := fun h => h2 h.2.2
   simp only [hno, if_false, if_true]
   have hf : ¬ riseZ true (-1) 0 (trips b (i + 4) (u16 b (i + 2)).toNat) = true := fun h => by
    have := hth.1 (Xc2.1 h).2.1
    omega
   simp only [hf, if_false]
   rfl
theorem Xel {b : List Int} (hb : Bytes b) {i : Int} {n : Nat} : ∀ x ∈ trips b i n, x.e1 ≤ 65535 := fun x hx => by
 obtain ⟨k, _, rfl⟩ := Xg6 hx
 exact (Xfi hb i k).2.1
theorem Xka {N : Nat} (hN : 1000000000000 < N) {b : List Int} (hb : Bytes b) (hl : b.length ≤ 1000000000) (i : Int) (hi : i ≤ 100000000000) (hi' : -100000000000 ≤ i) :
  ∃ l, QO N b i = some (l, covOk b i) ∧ (covOk b i = false → l = []) ∧ (covOk b i = true → RL 0 l ∧ ∀ g, inn l g ↔ covIn b i g) := by
 have hf : QI N b i = some (if u16 b i < 0 then 0 else u16 b i) := by
  unfold QI
  rw [U16_eq hN hb hl _ (by omega), Option.bind_some]
  by_cases h : u16 b i < 0
  ·
   simp only [h, if_true]; rfl
  ·
   simp only [h, if_false, if_true]
 unfold QO
 rw [hf, Option.bind_some]
 by_cases h1 : u16 b i = 1
 ·
  have e : (if u16 b i < 0 then 0 else u16 b i) = 1 := by rw [h1]; rfl
  rw [e, if_pos rfl, glyphs_eq hN hb hl i hi hi', Option.bind_some]
  have ec : covOk b i = (decide (0 ≤ u16 b (i + 2)) && rise (-1) (row16 b (i + 4) (u16 b (i + 2)).toNat)) := if_pos h1
  rw [← ec]
  cases hc : covOk b i with
  | false => exact ⟨[], rfl, fun _ => rfl, fun h => by cases h⟩
  | true =>
   rw [hc] at ec
   have hr := (Bool.and_eq_true_iff.1 ec.symm).2
   obtain ⟨g1, g2⟩ := Xo4 (s := []) hr (by omega) (fun x hx => by obtain ⟨k, _, rfl⟩ := Xbv hx; have := XL hb (i + 4 + 2 * (k : Int)); omega) trivial (by simp)
   refine ⟨_, rfl, (fun h => by cases h), fun _ => ⟨g1, fun g => ?_⟩⟩
   rw [g2]
   simp [inn, covIn, h1]
 ·
  by_cases h2 : u16 b i = 2
  ·
   have e : (if u16 b i < 0 then 0 else u16 b i) = 2 := by rw [h2]; rfl
   rw [e, if_neg (by decide), if_pos rfl]
   have ec : covOk b i = (decide (0 ≤ u16 b (i + 2)) && riseZ false (-1) 0 (trips b (i + 4) (u16 b (i + 2)).toNat)) := by unfold covOk; rw [if_neg h1, if_pos h2]
   unfold Xbk
   rw [Xjb hN hb hl i hi hi', Option.bind_some]
   by_cases h3 : (decide (0 ≤ u16 b (i + 2)) && riseZ true (-1) 0 (trips b (i + 4) (u16 b (i + 2)).toNat)) = true
   ·
    simp only [h3, if_true]
    have hz := (Bool.and_eq_true_iff.1 h3)
    have hT := (Xc2.1 hz.2)
    have hu := XL hb (i + 2)
    have hg := ranges_L1 (N := N) (l := trips b (i + 4) (u16 b (i + 2)).toNat) (by rw [JW]; omega) (u16 b (i + 2)).toNat 0 N (-1) 0 [] (by rw [JW]; omega) (by omega) hT.1 (Xel hb) (by omega) (by omega) (by omega) (by simp) (by simp)
    rw [show ((0 : Nat) : Int) = 0 from rfl, List.drop_zero] at hg
    rw [hg]
    have ei : covOk b i = idxT 0 (trips b (i + 4) (u16 b (i + 2)).toNat) := by
     rw [ec, hz.1, Bool.true_and, Bool.eq_iff_iff, Xc2]
     exact ⟨fun h => h.2.2.resolve_left (by decide), fun h => ⟨hT.1, hT.2.1, .inr h⟩⟩
    rw [← ei]
    cases hc : covOk b i with
    | false => exact ⟨[], rfl, fun _ => rfl, fun h => by cases h⟩
    | true =>
     obtain ⟨g1, g2⟩ := Xoc (s := []) hT.1 (by omega) (Xel hb) trivial (by simp)
     refine ⟨_, rfl, (fun h => by cases h), fun _ => ⟨g1, fun g => ?_⟩⟩
     rw [g2]
     simp [inn, covIn, h1]
   ·
    have hc : covOk b i = false := by
     rw [ec]
     cases hd : decide (0 ≤ u16 b (i + 2)) with
     | false => rfl
     | true =>
      rw [hd, Bool.true_and] at h3
      rw [Bool.true_and]
      cases hz : riseZ false (-1) 0 (trips b (i + 4) (u16 b (i + 2)).toNat) with
      | false => rfl
      | true => exact (h3 (Xc2.2 ⟨(Xc2.1 hz).1, (Xc2.1 hz).2.1, .inl rfl⟩)).elim
    simp only [h3, if_false, hc]
    exact ⟨[], rfl, fun _ => rfl, fun h => by cases h⟩
  ·
   have hc : covOk b i = false := by unfold covOk; rw [if_neg h1, if_neg h2]
   have e1 : ¬ (if u16 b i < 0 then 0 else u16 b i) = 1 := by split <;> omega
   have e2 : ¬ (if u16 b i < 0 then 0 else u16 b i) = 2 := by split <;> omega
   rw [if_neg e1, if_neg e2, hc]
   exact ⟨[], rfl, fun _ => rfl, fun h => by cases h⟩

theorem Xjy {t : List Int} {k g : Int} (hk : 0 ≤ k) (hk2 : k < (t.length : Int)) (hg : 0 ≤ g) (v : Int) : gb (t.set k.toNat v) g = if g = k then v else gb t g := by
 unfold gb
 rw [List.getElem?_set]
 by_cases h : g = k
 ·
  subst h
  rw [if_pos rfl, if_pos rfl, if_pos (by omega)]; rfl
 ·
  rw [if_neg h, if_neg (by omega)]
theorem Xff {t : List Int} {k : Int} (hk : 0 ≤ k) (hk2 : k < (t.length : Int)) : atI t k = some (gb t k) := by unfold atI; rw [if_pos hk]; exact gb_at hk hk2
theorem Xpw {N : Nat} {b : List Int} {i : Int} {c : Bool} : ∀ (d k n : Nat) (t : List Int), k + d = 65536 → d < n → t.length = 65536 →
  ∃ t', Qs N b i c n k t = some t' ∧ t'.length = 65536 ∧ ∀ g, 0 ≤ g → gb t' g = if (k : Int) ≤ g ∧ g < 65536 then -1 else gb t g := by
 intro d
 induction d with
 | zero =>
  intro k n t hk hn ht
  obtain ⟨n, rfl⟩ : ∃ x, n = x + 1 := ⟨n - 1, by omega⟩
  rw [Qs, if_neg (by omega)]
  exact ⟨t, rfl, ht, fun g _ => by rw [if_neg (by omega)]⟩
 | succ d ih =>
  intro k n t hk hn ht
  obtain ⟨n, rfl⟩ : ∃ x, n = x + 1 := ⟨n - 1, by omega⟩
  rw [Qs, if_pos (by omega), Xff (by omega) (by omega), Option.bind_some, w64 (by omega) (by omega)]
  obtain ⟨t', h1, h2, h3⟩ := ih (k + 1) n (t.set k (-1)) (by omega) (by omega) (by simpa using ht)
  refine ⟨t', by simpa using h1, h2, fun g hg => ?_⟩
  have hs := Xjy (t := t) (k := (k : Int)) (g := g) (by omega) (by omega) hg (-1)
  simp only [Int.toNat_natCast] at hs
  rw [h3 g hg, hs]
  by_cases e : g = (k : Int)
  ·
   rw [if_neg (by omega), if_pos e, if_pos (by omega)]
  ·
   rw [if_neg e]
   by_cases h4 : (k : Int) ≤ g ∧ g < 65536
   ·
    rw [if_pos (by omega), if_pos h4]
   ·
    rw [if_neg (by omega), if_neg h4]
theorem Table_L4 {N : Nat} {b : List Int} {i : Int} {c : Bool} {f m y k z : Int} (hy : y ≤ 65535) : ∀ (d n : Nat) (nx x : Int) (t : List Int), x + d = y + 1 → d < n → t.length = 65536 → 0 ≤ x → 0 ≤ nx → nx + (d : Int) ≤ 10000000000 →
  ∃ t', YJ N b i c f m y k z n nx x t = some (nx + d, t') ∧ t'.length = 65536 ∧ ∀ g, 0 ≤ g → gb t' g = if x ≤ g ∧ g ≤ y then (if c = true then z else nx + (g - x)) else gb t g := by
 intro d
 induction d with
 | zero =>
  intro n nx x t hk hn ht hx hnx hnx2
  obtain ⟨n, rfl⟩ : ∃ x, n = x + 1 := ⟨n - 1, by omega⟩
  rw [YJ, if_neg (by omega)]
  exact ⟨t, by simp, ht, fun g _ => by rw [if_neg (by omega)]⟩
 | succ d ih =>
  intro n nx x t hk hn ht hx hnx hnx2
  obtain ⟨n, rfl⟩ : ∃ x, n = x + 1 := ⟨n - 1, by omega⟩
  rw [YJ, if_pos (by omega), Xff (by omega) (by omega), Option.bind_some, w64 (x := nx + 1) (by omega) (by omega), w64 (x := x + 1) (by omega) (by omega)]
  cases c with
  | true =>
   obtain ⟨t', h1, h2, h3⟩ := ih n (nx + 1) (x + 1) (t.set x.toNat z) (by omega) (by omega) (by simpa using ht) (by omega) (by omega) (by omega)
   refine ⟨t', ?_, h2, fun g hg => ?_⟩
   ·
    rw [if_pos rfl, h1]; congr 2; omega
   ·
    rw [h3 g hg, Xjy hx (by omega) hg]
    simp only [if_true]
    by_cases e : g = x
    ·
     rw [if_neg (by omega), if_pos e, if_pos (by omega)]
    ·
     rw [if_neg e]
     by_cases h4 : x ≤ g ∧ g ≤ y
     ·
      rw [if_pos (by omega), if_pos h4]
     ·
      rw [if_neg (by omega), if_neg h4]
  | false =>
   obtain ⟨t', h1, h2, h3⟩ := ih n (nx + 1) (x + 1) ((t.set x.toNat z).set x.toNat nx) (by omega) (by omega) (by simpa using ht) (by omega) (by omega) (by omega)
   refine ⟨t', ?_, h2, fun g hg => ?_⟩
   ·
    rw [if_neg (by decide), h1]; congr 2; omega
   ·
    rw [h3 g hg, Xjy hx (by simp; omega) hg, Xjy hx (by omega) hg]
    simp only [Bool.false_eq_true, if_false]
    by_cases e : g = x
    ·
     rw [if_neg (by omega), if_pos e, if_pos (by omega)]; omega
    ·
     rw [if_neg e, if_neg e]
     by_cases h4 : x ≤ g ∧ g ≤ y
     ·
      rw [if_pos (by omega), if_pos h4]; omega
     ·
      rw [if_neg (by omega), if_neg h4]
def clsT : List XA → Int → Int → Int
 | [], g, d => d
 | x :: r, g, d => if x.e0 ≤ g ∧ g ≤ x.e1 then x.e2 else clsT r g d
theorem Xax {c : Bool} : ∀ {l : List XA} {a n : Int}, riseZ c a n l = true → ∀ x ∈ l, a < x.e0 ∧ x.e0 ≤ x.e1 ∧ 0 ≤ x.e2
 | [], _, _, _, x, hx => by cases hx
 | y :: r, a, n, h, x, hx => by
  simp only [riseZ, Bool.and_eq_true, decide_eq_true_eq] at h
  rcases List.mem_cons.1 hx with rfl | hx
  ·
   exact ⟨h.1.1.1.2, h.1.1.2, h.1.1.1.1⟩
  ·
   have := Xax h.2 x hx; omega
theorem Xg0 : ∀ {l : List XA} {g d : Int}, ¬ inT l g → clsT l g d = d
 | [], _, _, _ => rfl
 | x :: r, g, d, h => by
  simp only [clsT]
  rw [if_neg (fun e => h ⟨x, List.mem_cons_self, e⟩)]
  exact Xg0 (fun ⟨y, hy, e⟩ => h ⟨y, List.mem_cons_of_mem _ hy, e⟩)
theorem Xqp {N : Nat} (hN : 1000000000000 < N) {b : List Int} (hb : Bytes b) (hl : b.length ≤ 1000000000) {i : Int} (hi : i ≤ 100000000000) (hi' : -100000000000 ≤ i) {c : Bool} {m : Nat} (hm : m ≤ 65535) : ∀ (d k n : Nat) (nx a : Int) (t : List Int), k + d = m → d < n → t.length = 65536 → -1 ≤ a →
  ∃ t', Yg N b i c 1 m n nx a k t = some (if rise a ((row16 b (i + 4) m).drop k) = true then .inl t' else .inr t') ∧ (rise a ((row16 b (i + 4) m).drop k) = true → t'.length = 65536 ∧ ∀ g, 0 ≤ g → g < 65536 → (0 ≤ gb t' g ↔ 0 ≤ gb t g ∨ g ∈ (row16 b (i + 4) m).drop k)) := by
 intro d
 induction d with
 | zero =>
  intro k n nx a t hk hn ht ha
  obtain ⟨n, rfl⟩ : ∃ x, n = x + 1 := ⟨n - 1, by omega⟩
  rw [Yg, if_neg (by omega), List.drop_eq_nil_of_le (by rw [Ja]; omega)]
  exact ⟨t, rfl, fun _ => ⟨ht, fun g _ _ => by simp⟩⟩
 | succ d ih =>
  intro k n nx a t hk hn ht ha
  obtain ⟨n, rfl⟩ : ∃ x, n = x + 1 := ⟨n - 1, by omega⟩
  have hx := Xai (b := b) (i := i + 4) (show k < m by omega)
  have hd : (row16 b (i + 4) m).drop k = u16 b (i + 4 + 2 * (k : Int)) :: (row16 b (i + 4) m).drop (k + 1) := by
   obtain ⟨hlt, e⟩ := List.getElem?_eq_some_iff.1 hx
   rw [List.drop_eq_getElem_cons hlt, e]
  have hu := XL hb (i + 4 + 2 * (k : Int))
  rw [Yg, if_pos (by omega), if_pos rfl, w64 (x := i + 4) (by omega) (by omega), w64 (x := 2 * (k : Int)) (by omega) (by omega), w64 (x := i + 4 + 2 * (k : Int)) (by omega) (by omega), Yj hN hb hl _ (by omega), Option.bind_some, hd]
  by_cases h : u16 b (i + 4 + 2 * (k : Int)) ≤ a
  ·
   rw [if_pos h]
   exact ⟨t, by rw [if_neg (by simp [rise]; omega)], fun h2 => by simp [rise] at h2; omega⟩
  ·
   rw [if_neg h, Xff (by omega) (by omega), Option.bind_some, w64 (by omega) (by omega)]
   obtain ⟨t', h1, h2⟩ := ih (k + 1) n nx (u16 b (i + 4 + 2 * (k : Int))) (t.set (u16 b (i + 4 + 2 * (k : Int))).toNat k) (by omega) (by omega) (by simpa using ht) (by omega)
   have e : rise a (u16 b (i + 4 + 2 * (k : Int)) :: (row16 b (i + 4) m).drop (k + 1)) = rise (u16 b (i + 4 + 2 * (k : Int))) ((row16 b (i + 4) m).drop (k + 1)) := by simp [rise]; omega
   rw [e]
   refine ⟨t', by rw [show ((k + 1 : Nat) : Int) = (k : Int) + 1 by omega] at h1; exact h1, fun hr => ⟨(h2 hr).1, fun g hg hg2 => ?_⟩⟩
   rw [(h2 hr).2 g hg hg2, Xjy (by omega) (by omega) hg, List.mem_cons]
   by_cases e2 : g = u16 b (i + 4 + 2 * (k : Int))
   ·
    simp [e2]
   ·
    simp [e2]
theorem Xj8 {N : Nat} (hN : 1000000000000 < N) {b : List Int} (hb : Bytes b) (hl : b.length ≤ 1000000000) {i : Int} (hi : i ≤ 100000000000) (hi' : -100000000000 ≤ i) {c : Bool} {f : Int} (hf : f ≠ 1) {m : Nat} (hm : m ≤ 65535) : ∀ (d k n : Nat) (nx a : Int) (t : List Int), k + d = m → d < n → t.length = 65536 → -1 ≤ a → 0 ≤ nx → nx ≤ 100000 * (k : Int) →
  ∃ t', Yg N b i c f m n nx a k t = some (if riseZ c a nx ((trips b (i + 4) m).drop k) = true then .inl t' else .inr t') ∧ (riseZ c a nx ((trips b (i + 4) m).drop k) = true → t'.length = 65536 ∧ ∀ g, 0 ≤ g → g < 65536 →
   ((0 ≤ gb t' g ↔ 0 ≤ gb t g ∨ inT ((trips b (i + 4) m).drop k) g) ∧ (c = true → gb t' g = clsT ((trips b (i + 4) m).drop k) g (gb t g)))) := by
 intro d
 induction d with
 | zero =>
  intro k n nx a t hk hn ht ha hnx hnx2
  obtain ⟨n, rfl⟩ : ∃ x, n = x + 1 := ⟨n - 1, by omega⟩
  rw [Yg, if_neg (by omega), List.drop_eq_nil_of_le (by rw [JW]; omega)]
  exact ⟨t, rfl, fun _ => ⟨ht, fun g _ _ => ⟨by simp [inT], fun _ => rfl⟩⟩⟩
 | succ d ih =>
  intro k n nx a t hk hn ht ha hnx hnx2
  obtain ⟨n, rfl⟩ : ∃ x, n = x + 1 := ⟨n - 1, by omega⟩
  have hx := Xn5 (b := b) (i := i + 4) (show k < m by omega)
  have hd : (trips b (i + 4) m).drop k = trip b (i + 4) k :: (trips b (i + 4) m).drop (k + 1) := by
   obtain ⟨hlt, e⟩ := List.getElem?_eq_some_iff.1 hx
   rw [List.drop_eq_getElem_cons hlt, e]
  have hr := Xfi hb (i + 4) k
  have e0 : u16 b (i + 4 + 6 * (k : Int)) = (trip b (i + 4) k).e0 := rfl
  have e1 : u16 b (i + 6 + 6 * (k : Int)) = (trip b (i + 4) k).e1 := by simp only [trip]; congr 1; omega
  have e2 : u16 b (i + 8 + 6 * (k : Int)) = (trip b (i + 4) k).e2 := by simp only [trip]; congr 1; omega
  rw [Yg, if_pos (by omega), if_neg hf, w64 (x := i + 4) (by omega) (by omega), w64 (x := 6 * (k : Int)) (by omega) (by omega), w64 (x := i + 6) (by omega) (by omega), w64 (x := i + 8) (by omega) (by omega), w64 (x := i + 4 + _) (by omega) (by omega), w64 (x := i + 6 + _) (by omega) (by omega), w64 (x := i + 8 + _) (by omega) (by omega),
   Yj hN hb hl _ (by omega), Option.bind_some, Yj hN hb hl _ (by omega), Option.bind_some, Yj hN hb hl _ (by omega), Option.bind_some, e0, e1, e2, hd]
  by_cases h1 : (trip b (i + 4) k).e2 < 0
  ·
   rw [if_pos h1]
   exact ⟨t, by rw [if_neg (by simp [riseZ]; omega)], fun h2 => by simp [riseZ] at h2; omega⟩
  rw [if_neg h1]
  by_cases h2 : (trip b (i + 4) k).e0 ≤ a
  ·
   rw [if_pos h2]
   exact ⟨t, by rw [if_neg (by simp [riseZ]; omega)], fun h3 => by simp [riseZ] at h3; omega⟩
  rw [if_neg h2]
  by_cases h3 : (trip b (i + 4) k).e1 < (trip b (i + 4) k).e0
  ·
   rw [if_pos h3]
   exact ⟨t, by rw [if_neg (by simp [riseZ]; omega)], fun h4 => by simp [riseZ] at h4; omega⟩
  rw [if_neg h3]
  have hgo : (c = true ∨ (trip b (i + 4) k).e2 = nx) →
    ∃ t', ((YJ N b i c f m (trip b (i + 4) k).e1 k (trip b (i + 4) k).e2 N nx (trip b (i + 4) k).e0 t).bind fun (y_3057, y_3058) => Yg N b i c f m n y_3057 (trip b (i + 4) k).e1 (IntKind.i64.wrap ((k : Int) + 1)) y_3058) = some (if riseZ c a nx (trip b (i + 4) k :: (trips b (i + 4) m).drop (k + 1)) = true then .inl t' else .inr t') ∧
     (riseZ c a nx (trip b (i + 4) k :: (trips b (i + 4) m).drop (k + 1)) = true → t'.length = 65536 ∧ ∀ g, 0 ≤ g → g < 65536 → ((0 ≤ gb t' g ↔ 0 ≤ gb t g ∨ inT (trip b (i + 4) k :: (trips b (i + 4) m).drop (k + 1)) g) ∧ (c = true → gb t' g = clsT (trip b (i + 4) k :: (trips b (i + 4) m).drop (k + 1)) g (gb t g)))) := by
   intro hc
   obtain ⟨t1, j1, j2, j3⟩ := Table_L4 (N := N) (b := b) (i := i) (c := c) (f := f) (m := m) (k := k) (z := (trip b (i + 4) k).e2) hr.2.1 ((trip b (i + 4) k).e1 + 1 - (trip b (i + 4) k).e0).toNat N nx (trip b (i + 4) k).e0 t (by omega) (by omega) ht (by omega) hnx (by omega)
   rw [j1, Option.bind_some]
   obtain ⟨t', g1, g2⟩ := ih (k + 1) n (nx + (((trip b (i + 4) k).e1 + 1 - (trip b (i + 4) k).e0).toNat : Int)) (trip b (i + 4) k).e1 t1 (by omega) (by omega) j2 (by omega) (by omega) (by omega)
   have ee : (nx + (((trip b (i + 4) k).e1 + 1 - (trip b (i + 4) k).e0).toNat : Int)) = nx + ((trip b (i + 4) k).e1 - (trip b (i + 4) k).e0 + 1) := by omega
   have e : riseZ c a nx (trip b (i + 4) k :: (trips b (i + 4) m).drop (k + 1)) = riseZ c (trip b (i + 4) k).e1 (nx + (((trip b (i + 4) k).e1 + 1 - (trip b (i + 4) k).e0).toNat : Int)) ((trips b (i + 4) m).drop (k + 1)) := by
    rw [ee]
    simp only [riseZ]
    rw [decide_eq_true (by omega : 0 ≤ (trip b (i + 4) k).e2), decide_eq_true (by omega : a < (trip b (i + 4) k).e0), decide_eq_true (by omega : (trip b (i + 4) k).e0 ≤ (trip b (i + 4) k).e1)]
    rcases hc with hc | hc <;> simp [hc]
   rw [e]
   refine ⟨t', ?_, fun hz => ⟨(g2 hz).1, fun g hg hg2 => ?_⟩⟩
   ·
    simp only
    rw [w64 (by omega) (by omega), ← g1, show ((k + 1 : Nat) : Int) = (k : Int) + 1 by omega]
   ·
    obtain ⟨q1, q2⟩ := (g2 hz).2 g hg hg2
    have hlow := Xax hz
    refine ⟨?_, fun hct => ?_⟩
    ·
     rw [q1, j3 g hg]
     simp only [inT, List.mem_cons]
     by_cases hin : (trip b (i + 4) k).e0 ≤ g ∧ g ≤ (trip b (i + 4) k).e1
     ·
      rw [if_pos hin]
      constructor
      ·
       intro _; exact .inr ⟨_, .inl rfl, hin⟩
      ·
       intro _; left
       split <;> omega
     ·
      rw [if_neg hin]
      constructor
      ·
       rintro (h | ⟨x, hx, h⟩)
       ·
        exact .inl h
       ·
        exact .inr ⟨x, .inr hx, h⟩
      ·
       rintro (h | ⟨x, rfl | hx, h⟩)
       ·
        exact .inl h
       ·
        exact (hin h).elim
       ·
        exact .inr ⟨x, hx, h⟩
    ·
     rw [q2 hct, j3 g hg]
     simp only [clsT]
     by_cases hin : (trip b (i + 4) k).e0 ≤ g ∧ g ≤ (trip b (i + 4) k).e1
     ·
      rw [if_pos hin, if_pos hin, if_pos hct]
      exact Xg0 (fun ⟨x, hx, h⟩ => by have := hlow x hx; omega)
     ·
      rw [if_neg hin, if_neg hin]
  by_cases hc : c = true
  ·
   rw [if_pos hc]; exact hgo (.inl hc)
  ·
   rw [if_neg hc]
   by_cases h4 : (trip b (i + 4) k).e2 = nx
   ·
    rw [if_pos h4]; exact hgo (.inr h4)
   ·
    rw [if_neg h4]
    exact ⟨t, by rw [if_neg (by simp [riseZ, hc, h4])], fun h5 => by simp [riseZ, hc, h4] at h5⟩

def bb (t : List Bool) (g : Int) : Bool := (t[g.toNat]?).getD false
theorem bb_at {b : List Bool} {i : Int} (h0 : 0 ≤ i) (h1 : i < (b.length : Int)) : atI b i = some (bb b i) := by
 have : i.toNat < b.length := by omega
 unfold atI
 rw [if_pos h0, bb, List.getElem?_eq_getElem this]; rfl
theorem bb_set {t : List Bool} {k g : Int} (hk : 0 ≤ k) (hk2 : k < (t.length : Int)) (hg : 0 ≤ g) (v : Bool) : bb (t.set k.toNat v) g = if g = k then v else bb t g := by
 unfold bb
 rw [List.getElem?_set]
 by_cases h : g = k
 ·
  subst h
  rw [if_pos rfl, if_pos rfl, if_pos (by omega)]; rfl
 ·
  rw [if_neg h, if_neg (by omega)]
theorem bb_out {t : List Bool} {g : Int} (h : (t.length : Int) ≤ g) : bb t g = false := by
 unfold bb
 rw [List.getElem?_eq_none (by omega)]; rfl
theorem bb_rep {n : Nat} {g : Int} : bb (List.replicate n false) g = false := by
 unfold bb
 cases h : (List.replicate n false)[g.toNat]? with
 | none => rfl
 | some x => have := List.mem_of_getElem? h; simp at this; simp [this]
theorem Spans_L3 {N : Nat} {t : List Bool} {i : Int} {s : List TSpan} (hl : t.length ≤ 1000000) : ∀ (d n : Nat) (k : Int), k + d = (t.length : Int) → d ≤ n → 0 < n → 0 ≤ k → k < (t.length : Int) →
  ∃ k', Zh N i t s n k = some k' ∧ k ≤ k' ∧ k' < (t.length : Int) ∧ (∀ j, k < j → j ≤ k' → bb t j = true) ∧ bb t (k' + 1) = false := by
 intro d
 induction d with
 | zero => intro n k hk hn hn0 h0 h1; omega
 | succ d ih =>
  intro n k hk hn hn0 h0 h1
  obtain ⟨n, rfl⟩ : ∃ x, n = x + 1 := ⟨n - 1, by omega⟩
  rw [Zh, w64 (x := k + 1) (by omega) (by omega)]
  by_cases h2 : k + 1 < (t.length : Int)
  ·
   rw [if_pos h2, bb_at (by omega) h2, Option.bind_some]
   by_cases h3 : bb t (k + 1) = true
   ·
    rw [if_pos h3]
    obtain ⟨k', g1, g2, g3, g4, g5⟩ := ih n (k + 1) (by omega) (by omega) (by omega) (by omega) h2
    exact ⟨k', g1, by omega, g3, fun j hj hj2 => by
     by_cases e : j = k + 1
     ·
      rw [e]; exact h3
     ·
      exact g4 j (by omega) hj2, g5⟩
   ·
    rw [if_neg h3]
    exact ⟨k, rfl, Int.le_refl _, h1, fun j hj hj2 => by omega, by simpa using h3⟩
  ·
   rw [if_neg h2]
   exact ⟨k, rfl, Int.le_refl _, h1, fun j hj hj2 => by omega, bb_out (by omega)⟩
theorem Spans_L4 {N : Nat} (hN : 1000000000000 < N) {t : List Bool} (hl : t.length ≤ 65536) : ∀ (d n : Nat) (i : Int) (s : List TSpan), i + d = (t.length : Int) → d < n → 0 ≤ i → s.length ≤ 65536 → (s.length : Int) ≤ i → RL 0 s → (∀ x ∈ s, x.To < i) → (∀ x ∈ s, x.To + 1 = i → bb t i = false) → (∀ g, 0 ≤ g → g < i → (inn s g ↔ bb t g = true)) →
  ∃ m, YK N t n i s = some m ∧ RL 0 m ∧ ∀ g, 0 ≤ g → (inn m g ↔ bb t g = true) := by
 intro d
 induction d using Nat.strongRecOn with
 | _ d ih =>
  intro n i s hi hn h0 hs hsi hr ht hlast hin
  obtain ⟨n, rfl⟩ : ∃ x, n = x + 1 := ⟨n - 1, by omega⟩
  rw [YK]
  by_cases h1 : i < (t.length : Int)
  ·
   rw [if_pos h1, bb_at h0 h1, Option.bind_some]
   by_cases h2 : bb t i = true
   ·
    rw [if_pos h2]
    obtain ⟨k', g1, g2, g3, g4, g5⟩ := Spans_L3 (N := N) (i := i) (s := s) (t := t) (by omega) d N i hi (by omega) (by omega) h0 h1
    rw [g1, Option.bind_some, if_pos (by omega), w64 (x := k' + 1) (by omega) (by omega)]
    have hgap : ∀ x ∈ s, x.To + 2 ≤ i := fun x hx => by
     have := ht x hx
     by_cases e : x.To + 1 = i
     ·
      have := hlast x hx e; rw [h2] at this; cases this
     ·
      omega
    refine ih (d - (k' + 1 - i).toNat) (by omega) n (k' + 1) (s ++ [⟨i, k'⟩]) (by omega) (by omega) (by omega) (by simp; omega) (by simp; omega) (RL.app hr hgap h0 g2 (by simp only; omega)) ?_ ?_ ?_
    ·
     intro x hx
     rcases List.mem_append.1 hx with hx | hx
     ·
      have := ht x hx; omega
     ·
      simp at hx; subst hx; simp only; omega
    ·
     intro x hx _; exact g5
    ·
     intro g hg hg2
     have e : inn (s ++ [⟨i, k'⟩]) g ↔ inn s g ∨ (i ≤ g ∧ g ≤ k') := by
      simp only [inn, List.mem_append, List.mem_singleton]
      constructor
      ·
       rintro ⟨y, hy | rfl, h3⟩
       ·
        exact .inl ⟨y, hy, h3⟩
       ·
        exact .inr h3
      ·
       rintro (⟨y, hy, h3⟩ | h3)
       ·
        exact ⟨y, .inl hy, h3⟩
       ·
        exact ⟨⟨i, k'⟩, .inr rfl, h3⟩
     rw [e]
     by_cases hgi : g < i
     ·
      rw [hin g hg hgi]
      constructor
      ·
       rintro (h | h)
       ·
        exact h
       ·
        omega
      ·
       exact .inl
     ·
      have hb : bb t g = true := by
       by_cases eg : g = i
       ·
        rw [eg]; exact h2
       ·
        exact g4 g (by omega) (by omega)
      simp only [hb, iff_true]
      exact .inr ⟨by omega, by omega⟩
   ·
    rw [if_neg h2, w64 (by omega) (by omega)]
    refine ih (d - 1) (by omega) n (i + 1) s (by omega) (by omega) (by omega) hs (by omega) hr (fun x hx => by have := ht x hx; omega) (fun x hx e => by have := ht x hx; omega) ?_
    intro g hg hg2
    by_cases eg : g = i
    ·
     subst eg
     have e0 : bb t g = false := by simpa using h2
     rw [e0]
     constructor
     ·
      rintro ⟨x, hx, h3, h4⟩
      have := ht x hx; omega
     ·
      intro h; cases h
    ·
     exact hin g hg (by omega)
  ·
   rw [if_neg h1]
   refine ⟨s, rfl, hr, fun g hg => ?_⟩
   by_cases hgi : g < i
   ·
    exact hin g hg hgi
   ·
    rw [bb_out (by omega)]
    simp only [Bool.false_eq_true, iff_false]
    rintro ⟨x, hx, h3, h4⟩
    have := ht x hx; omega
theorem Xk7 {N : Nat} (hN : 1000000000000 < N) {t : List Bool} (hl : t.length ≤ 65536) : ∃ m, Zd N t = some m ∧ RL 0 m ∧ ∀ g, 0 ≤ g → (inn m g ↔ bb t g = true) := by
 obtain ⟨m, h1, h2⟩ := Spans_L4 hN hl t.length N 0 [] (by omega) (by omega) (by omega) (by simp) (by simp) trivial (by simp) (by simp) (fun g _ _ => by omega)
 exact ⟨m, by unfold Zd; rw [h1]; rfl, h2⟩

theorem Cover_L1 {N : Nat} {t : List Int} (ht : t.length = 65536) : ∀ (d k n : Nat) (s : List Bool), k + d = 65536 → d < n → s.length = 65536 →
  ∃ s', Qu N t n k s = some s' ∧ s'.length = 65536 ∧ ∀ g, 0 ≤ g → bb s' g = if (k : Int) ≤ g ∧ g < 65536 then decide (0 ≤ gb t g) else bb s g := by
 intro d
 induction d with
 | zero =>
  intro k n s hk hn hs
  obtain ⟨n, rfl⟩ : ∃ x, n = x + 1 := ⟨n - 1, by omega⟩
  rw [Qu, if_neg (by omega)]
  exact ⟨s, rfl, hs, fun g _ => by rw [if_neg (by omega)]⟩
 | succ d ih =>
  intro k n s hk hn hs
  obtain ⟨n, rfl⟩ : ∃ x, n = x + 1 := ⟨n - 1, by omega⟩
  rw [Qu, if_pos (by omega), Xff (by omega) (by omega), Option.bind_some, bb_at (by omega) (by omega), Option.bind_some, w64 (by omega) (by omega)]
  obtain ⟨s', h1, h2, h3⟩ := ih (k + 1) n (s.set k (decide (0 ≤ gb t k))) (by omega) (by omega) (by simpa using hs)
  refine ⟨s', by simpa using h1, h2, fun g hg => ?_⟩
  have hs2 := bb_set (t := s) (k := (k : Int)) (g := g) (by omega) (by omega) hg (decide (0 ≤ gb t k))
  simp only [Int.toNat_natCast] at hs2
  rw [h3 g hg, hs2]
  by_cases e : g = (k : Int)
  ·
   rw [if_neg (by omega), if_pos e, if_pos (by omega), e]
  ·
   rw [if_neg e]
   by_cases h4 : (k : Int) ≤ g ∧ g < 65536
   ·
    rw [if_pos (by omega), if_pos h4]
   ·
    rw [if_neg (by omega), if_neg h4]
theorem Xmr {N : Nat} (hN : 1000000000000 < N) {b : List Int} (hb : Bytes b) (hl : b.length ≤ 1000000000) (i : Int) (hi : i ≤ 100000000000) (hi' : -100000000000 ≤ i) :
  ∃ t, Qt N b i false = some (t, covOk b i) ∧ (covOk b i = true → t.length = 65536 ∧ ∀ g, 0 ≤ g → g < 65536 → (0 ≤ gb t g ↔ covIn b i g)) := by
 obtain ⟨t0, h1, h2, h3⟩ := Xpw (N := N) (b := b) (i := i) (c := false) 65536 0 N (List.replicate 65536 0) (by omega) (by omega) List.length_replicate
 have h30 : ∀ g, 0 ≤ g → g < 65536 → gb t0 g = -1 := fun g hg hg2 => by rw [h3 g hg, if_pos (by omega)]
 unfold Qt
 rw [show ((0 : Nat) : Int) = 0 from rfl] at h1
 rw [h1, Option.bind_some, Yj hN hb hl _ (by omega), Option.bind_some]
 have hu := XL hb (i + 2)
 by_cases e1 : u16 b i = 1
 ·
  rw [if_pos e1, w64 (x := i + 2) (by omega) (by omega), Yj hN hb hl _ (by omega), Option.bind_some, if_neg (by decide)]
  have ec : covOk b i = (decide (0 ≤ u16 b (i + 2)) && rise (-1) (row16 b (i + 4) (u16 b (i + 2)).toNat)) := if_pos e1
  by_cases h4 : u16 b (i + 2) < 0
  ·
   rw [if_pos h4]
   have hc : covOk b i = false := by rw [ec, decide_eq_false (by omega)]; rfl
   rw [hc]
   exact ⟨t0, rfl, fun h => by cases h⟩
  ·
   rw [if_neg h4]
   obtain ⟨m, hm⟩ := Int.eq_ofNat_of_zero_le (show 0 ≤ u16 b (i + 2) by omega)
   obtain ⟨t', g1, g2⟩ := Xqp hN hb hl hi hi' (c := false) (m := m) (by omega) m 0 N 0 (-1) t0 (by omega) (by omega) h2 (by omega)
   rw [e1, hm]
   rw [show ((0 : Nat) : Int) = 0 from rfl, List.drop_zero] at g1
   rw [List.drop_zero] at g2
   rw [g1, Option.bind_some]
   have hc : covOk b i = rise (-1) (row16 b (i + 4) m) := by rw [ec, hm, decide_eq_true (by omega)]; rfl
   rw [hc]
   by_cases hr : rise (-1) (row16 b (i + 4) m) = true
   ·
    simp only [hr, if_true]
    refine ⟨t', rfl, fun _ => ⟨(g2 hr).1, fun g hg hg2 => ?_⟩⟩
    rw [(g2 hr).2 g hg hg2, h30 g hg hg2]
    simp [covIn, e1, hm]
   ·
    have hr2 : rise (-1) (row16 b (i + 4) m) = false := by simpa using hr
    simp only [hr2, Bool.false_eq_true, if_false]
    exact ⟨t', rfl, fun h => by cases h⟩
 ·
  rw [if_neg e1]
  by_cases e2 : u16 b i = 2
  ·
   rw [if_pos e2, w64 (x := i + 2) (by omega) (by omega), Yj hN hb hl _ (by omega), Option.bind_some]
   have ec : covOk b i = (decide (0 ≤ u16 b (i + 2)) && riseZ false (-1) 0 (trips b (i + 4) (u16 b (i + 2)).toNat)) := by unfold covOk; rw [if_neg e1, if_pos e2]
   by_cases h4 : u16 b (i + 2) < 0
   ·
    rw [if_pos h4]
    have hc : covOk b i = false := by rw [ec, decide_eq_false (by omega)]; rfl
    rw [hc]
    exact ⟨t0, rfl, fun h => by cases h⟩
   ·
    rw [if_neg h4]
    obtain ⟨m, hm⟩ := Int.eq_ofNat_of_zero_le (show 0 ≤ u16 b (i + 2) by omega)
    obtain ⟨t', g1, g2⟩ := Xj8 hN hb hl hi hi' (c := false) (f := u16 b i) e1 (m := m) (by omega) m 0 N 0 (-1) t0 (by omega) (by omega) h2 (by omega) (by omega) (by omega)
    rw [hm]
    rw [show ((0 : Nat) : Int) = 0 from rfl, List.drop_zero] at g1
    rw [List.drop_zero] at g2
    rw [g1, Option.bind_some]
    have hc : covOk b i = riseZ false (-1) 0 (trips b (i + 4) m) := by rw [ec, hm, decide_eq_true (by omega)]; rfl
    rw [hc]
    by_cases hr : riseZ false (-1) 0 (trips b (i + 4) m) = true
    ·
     simp only [hr, if_true]
     refine ⟨t', rfl, fun _ => ⟨(g2 hr).1, fun g hg hg2 => ?_⟩⟩
     rw [((g2 hr).2 g hg hg2).1, h30 g hg hg2]
     simp [covIn, e1, hm]
    ·
     have hr2 : riseZ false (-1) 0 (trips b (i + 4) m) = false := by simpa using hr
     simp only [hr2, Bool.false_eq_true, if_false]
     exact ⟨t', rfl, fun h => by cases h⟩
  ·
   rw [if_neg e2]
   have hc : covOk b i = false := by unfold covOk; rw [if_neg e1, if_neg e2]
   rw [hc]
   exact ⟨t0, rfl, fun h => by cases h⟩
theorem Xit {b : List Int} (hb : Bytes b) {i g : Int} (h : covOk b i = true) (hg : covIn b i g) : 0 ≤ g ∧ g < 65536 := by
 unfold covOk at h
 unfold covIn at hg
 by_cases e1 : u16 b i = 1
 ·
  rw [if_pos e1] at h hg
  have := Xm2 (Bool.and_eq_true_iff.1 h).2 g hg
  obtain ⟨k, _, rfl⟩ := Xbv hg
  have := XL hb (i + 4 + 2 * (k : Int)); omega
 ·
  rw [if_neg e1] at h hg
  by_cases e2 : u16 b i = 2
  ·
   rw [if_pos e2] at h
   obtain ⟨x, hx, h1, h2⟩ := hg
   have := Xax (Bool.and_eq_true_iff.1 h).2 x hx
   have := Xel hb x hx
   omega
  ·
   rw [if_neg e2] at h; cases h
theorem Xm7 {N : Nat} (hN : 1000000000000 < N) {b : List Int} (hb : Bytes b) (hl : b.length ≤ 1000000000) (i : Int) (hi : i ≤ 100000000000) (hi' : -100000000000 ≤ i) :
  ∃ l, QL N b i = some (l, covOk b i) ∧ (covOk b i = false → l = []) ∧ (covOk b i = true → RL 0 l ∧ ∀ g, inn l g ↔ covIn b i g) := by
 obtain ⟨t, h1, h2⟩ := Xmr hN hb hl i hi hi'
 unfold QL
 rw [h1, Option.bind_some]
 cases hc : covOk b i with
 | false => exact ⟨[], rfl, fun _ => rfl, fun h => by cases h⟩
 | true =>
  obtain ⟨h3, h4⟩ := h2 hc
  simp only [if_true]
  obtain ⟨s, g1, g2, g3⟩ := Cover_L1 (N := N) h3 65536 0 N (List.replicate 65536 false) (by omega) (by omega) List.length_replicate
  rw [show ((0 : Nat) : Int) = 0 from rfl] at g1
  rw [g1, Option.bind_some]
  obtain ⟨m, k1, k2, k3⟩ := Xk7 hN (t := s) (by omega)
  rw [k1, Option.bind_some]
  refine ⟨m, rfl, (fun h => by cases h), fun _ => ⟨k2, fun g => ?_⟩⟩
  by_cases hg : 0 ≤ g ∧ g < 65536
  ·
   rw [k3 g hg.1, g3 g hg.1, if_pos (by omega), decide_eq_true_eq, h4 g hg.1 hg.2]
  ·
   constructor
   ·
    rintro ⟨x, hx, h5, h6⟩
    have := RL.lows k2 x hx; omega
   ·
    intro h5
    exact (hg (Xit hb hc h5)).elim
theorem Xkb {N : Nat} (hN : 1000000000000 < N) {b : List Int} (hb : Bytes b) (hl : b.length ≤ 1000000000) (i : Int) (hi : i ≤ 100000000000) (hi' : -100000000000 ≤ i) :
  ∃ l, QO N b i = some (l, covOk b i) ∧ QL N b i = some (l, covOk b i) ∧ (covOk b i = false → l = []) ∧ (covOk b i = true → RL 0 l ∧ ∀ g, inn l g ↔ covIn b i g) := by
 obtain ⟨l, h1, h2, h3⟩ := Xka hN hb hl i hi hi'
 obtain ⟨m, g1, g2, g3⟩ := Xm7 hN hb hl i hi hi'
 have e : m = l := by
  cases hc : covOk b i with
  | false => rw [h2 hc, g2 hc]
  | true => exact RL.uniq (g3 hc).1 (h3 hc).1 (fun g => by rw [(g3 hc).2, (h3 hc).2])
 subst e
 exact ⟨m, h1, g1, h2, h3⟩
theorem RL.len : ∀ {l : List TSpan} {lo : Int}, RL lo l → 0 ≤ lo → (l.length : Int) ≤ 65536 - lo ∨ l = []
 | [], lo, _, _ => .inr rfl
 | x :: r, lo, h, h0 => by
  left
  have h1 := h.1; have h2 := h.2.1; have h3 := h.2.2.1
  rcases RL.len h.2.2.2 (by omega) with h4 | h4
  ·
   simp only [List.length_cons]; omega
  ·
   subst h4; simp; omega

def KL : Int → Int → List Xb → Prop
 | _, _, [] => True
 | lo, pc, x :: r => lo ≤ x.From ∧ x.From ≤ x.To ∧ x.To ≤ 65535 ∧ 1 ≤ x.Class ∧ (x.From = lo → x.Class ≠ pc) ∧ KL (x.To + 1) x.Class r
def cof : List Xb → Int → Int
 | [], _ => 0
 | x :: r, g => if x.From ≤ g ∧ g ≤ x.To then x.Class else cof r g
theorem KL.lows : ∀ {l : List Xb} {lo pc : Int}, KL lo pc l → ∀ y ∈ l, lo ≤ y.From ∧ y.From ≤ y.To ∧ y.To ≤ 65535 ∧ 1 ≤ y.Class
 | [], _, _, _, y, hy => by cases hy
 | x :: r, lo, pc, h, y, hy => by
  obtain ⟨h1, h2, h3, h4, h5, h6⟩ := h
  rcases List.mem_cons.1 hy with rfl | hy
  ·
   exact ⟨h1, h2, h3, h4⟩
  ·
   have := KL.lows h6 y hy; omega
theorem KL.snoc {s : Xb} (s1 : s.From ≤ s.To) (s2 : s.To ≤ 65535) (s3 : 1 ≤ s.Class) : ∀ {l : List Xb} {lo pc : Int}, KL lo pc l → (∀ x ∈ l, x.To < s.From) → lo ≤ s.From → (l = [] → s.From = lo → s.Class ≠ pc) → (∀ x, l.getLast? = some x → x.To + 1 = s.From → x.Class ≠ s.Class) → KL lo pc (l ++ [s])
 | [], lo, pc, _, _, h1, h2, _ => ⟨h1, s1, s2, s3, h2 rfl, trivial⟩
 | x :: r, lo, pc, h, hx, h1, h2, h3 => by
  obtain ⟨g1, g2, g3, g4, g5, g6⟩ := h
  have := hx x List.mem_cons_self
  refine ⟨g1, g2, g3, g4, g5, KL.snoc s1 s2 s3 g6 (fun y hy => hx y (List.mem_cons_of_mem _ hy)) (by omega) ?_ ?_⟩
  ·
   intro hr he
   subst hr
   exact (h3 x rfl he.symm).symm
  ·
   intro y hy
   refine h3 y ?_
   cases r with
   | nil => simp at hy
   | cons z r => simpa using hy
theorem KL.ext {x : Xb} {b : Int} (h1 : x.To ≤ b) (h2 : b ≤ 65535) : ∀ {l : List Xb} {lo pc : Int}, KL lo pc (l ++ [x]) → KL lo pc (l ++ [⟨x.From, b, x.Class⟩])
 | [], lo, pc, h => ⟨h.1, by have := h.2.1; simp only; omega, h2, h.2.2.2.1, h.2.2.2.2.1, trivial⟩
 | y :: r, lo, pc, h => ⟨h.1, h.2.1, h.2.2.1, h.2.2.2.1, h.2.2.2.2.1, KL.ext h1 h2 h.2.2.2.2.2⟩
theorem KL.lasts : ∀ {l : List Xb} {lo pc : Int} {x : Xb}, KL lo pc (l ++ [x]) → ∀ y ∈ l, y.To < x.From
 | [], _, _, x, h, y, hy => by cases hy
 | z :: r, lo, pc, x, h, y, hy => by
  rcases List.mem_cons.1 hy with rfl | hy
  ·
   have := KL.lows h.2.2.2.2.2 x (by simp); omega
  ·
   exact KL.lasts h.2.2.2.2.2 y hy
theorem Xiw : ∀ {l : List Xb} {g : Int}, (∀ x ∈ l, x.To < g ∨ g < x.From) → cof l g = 0
 | [], _, _ => rfl
 | x :: r, g, h => by
  have := h x List.mem_cons_self
  simp only [cof]
  rw [if_neg (by omega)]
  exact Xiw (fun y hy => h y (List.mem_cons_of_mem _ hy))
theorem Xfe {s : Xb} : ∀ {l : List Xb} {g : Int}, (∀ x ∈ l, x.To < s.From) → cof (l ++ [s]) g = if s.From ≤ g ∧ g ≤ s.To then s.Class else cof l g
 | [], g, _ => rfl
 | x :: r, g, h => by
  have := h x List.mem_cons_self
  simp only [List.cons_append, cof]
  rw [Xfe (fun y hy => h y (List.mem_cons_of_mem _ hy))]
  by_cases h1 : x.From ≤ g ∧ g ≤ x.To
  ·
   rw [if_pos h1, if_neg (by omega), if_pos h1]
  ·
   rw [if_neg h1, if_neg h1]
theorem KL.uniq : ∀ {l m : List Xb} {lo pc : Int}, KL lo pc l → KL lo pc m → (∀ g, lo ≤ g → cof l g = cof m g) → l = m
 | [], [], _, _, _, _, _ => rfl
 | [], y :: m, lo, pc, _, h, e => by
  obtain ⟨h1, h2, h3, h4, h5, h6⟩ := h
  have := e y.From h1
  simp only [cof] at this
  rw [if_pos ⟨Int.le_refl _, h2⟩] at this; omega
 | x :: l, [], lo, pc, h, _, e => by
  obtain ⟨h1, h2, h3, h4, h5, h6⟩ := h
  have := e x.From h1
  simp only [cof] at this
  rw [if_pos ⟨Int.le_refl _, h2⟩] at this; omega
 | x :: l, y :: m, lo, pc, h, h', e => by
  have zero : ∀ {l : List Xb} {lo pc g : Int}, KL lo pc l → g < lo → cof l g = 0 := fun h hg => Xiw (fun x hx => by have := KL.lows h x hx; omega)
  have hx := h; have hy := h'
  obtain ⟨h1, h2, h3, h4, h5, h6⟩ := h
  obtain ⟨k1, k2, k3, k4, k5, k6⟩ := h'
  have first : ∀ {x y : Xb} {l m : List Xb} {lo pc : Int}, KL lo pc (x :: l) → KL lo pc (y :: m) → (∀ g, lo ≤ g → cof (x :: l) g = cof (y :: m) g) → y.From ≤ x.From := by
   intro x y l m lo pc h h' e
   rcases Int.lt_or_le x.From y.From with hlt | hle
   ·
    exfalso
    have := e x.From h.1
    have z : cof (y :: m) x.From = 0 := Xiw (fun z hz => by
     rcases List.mem_cons.1 hz with rfl | hz
     ·
      omega
     ·
      have := KL.lows h'.2.2.2.2.2 z hz; have := h'.2.1; omega)
    rw [z] at this
    simp only [cof] at this
    rw [if_pos ⟨Int.le_refl _, h.2.1⟩] at this
    have := h.2.2.2.1; omega
   ·
    exact hle
  have hf : x.From = y.From := by have := first hx hy e; have := first hy hx (fun g hg => (e g hg).symm); omega
  have hc : x.Class = y.Class := by
   have := e x.From h1
   simp only [cof] at this
   rw [if_pos ⟨Int.le_refl _, h2⟩, if_pos (by omega)] at this
   exact this
  have last : ∀ {x y : Xb} {l m : List Xb} {lo pc : Int}, KL lo pc (x :: l) → KL lo pc (y :: m) → x.From = y.From → x.Class = y.Class → (∀ g, lo ≤ g → cof (x :: l) g = cof (y :: m) g) → x.To ≤ y.To := by
   intro x y l m lo pc h h' hf hc e
   rcases Int.lt_or_le y.To x.To with hlt | hle
   ·
    exfalso
    have h1 := h.1; have h2 := h'.2.1
    have := e (y.To + 1) (by omega)
    simp only [cof] at this
    rw [if_pos (by omega), if_neg (by omega)] at this
    have h6 := h'.2.2.2.2.2
    have h7 := h.2.2.2.1
    cases m with
    | nil => simp only [cof] at this; omega
    | cons z m =>
     obtain ⟨z1, z2, z3, z4, z5, z6⟩ := h6
     simp only [cof] at this
     by_cases hz : z.From ≤ y.To + 1 ∧ y.To + 1 ≤ z.To
     ·
      rw [if_pos hz] at this
      exact z5 (by omega) (by omega)
     ·
      rw [if_neg hz] at this
      have : cof m (y.To + 1) = 0 := Xiw (fun w hw => by have := KL.lows z6 w hw; omega)
      omega
   ·
    exact hle
  have ht : x.To = y.To := by
   have := last hx hy hf hc e
   have := last hy hx hf.symm hc.symm (fun g hg => (e g hg).symm)
   omega
  have hxy : x = y := by cases x; cases y; simp at hf ht hc; simp [hf, ht, hc]
  subst hxy
  rw [KL.uniq h6 k6 (fun g hg => by
   have := e g (by omega)
   simp only [cof] at this
   rwa [if_neg (by omega), if_neg (by omega)] at this)]

def cl1 (l : List Xb) (s : Xb) : List Xb := if s.Class = 0 then l else match l.getLast? with
 | none => [s]
 | some x => if x.To + 1 = s.From ∧ x.Class = s.Class then l.dropLast ++ [⟨x.From, s.To, x.Class⟩] else l ++ [s]
theorem Xnr {l : List Xb} {x : Xb} (h : l.getLast? = some x) : 0 < l.length ∧ l[l.length - 1]? = some x := by
 rw [List.getLast?_eq_getElem?] at h
 exact ⟨by have := (List.getElem?_eq_some_iff.1 h).1; omega, h⟩
theorem Xhd {l : List Xb} {x : Xb} (h : l.getLast? = some x) : l = l.dropLast ++ [x] := by
 have hne : l ≠ [] := by rintro rfl; simp at h
 have := List.dropLast_concat_getLast hne
 rw [List.getLast?_eq_some_getLast hne] at h
 cases h
 exact this.symm
theorem Xj6 {N : Nat} {l : List Xb} {a c k : Int} (hl : l.length ≤ 1000000000) (ht : ∀ x ∈ l, 0 ≤ x.To ∧ x.To ≤ 65535) : ZG N l a c k = some (cl1 l ⟨a, c, k⟩) := by
 unfold ZG cl1
 by_cases hk : k = 0
 ·
  rw [if_pos hk, if_pos hk]
 ·
  rw [if_neg hk, if_neg hk]
  cases hg : l.getLast? with
  | none =>
   have : l = [] := by simpa using hg
   subst this
   rfl
  | some x =>
   obtain ⟨h0, hx⟩ := Xnr hg
   have hxt := ht x (List.mem_of_getLast? hg)
   have e : IntKind.i64.wrap ((l.length : Int) - 1) = ((l.length - 1 : Nat) : Int) := by rw [w64 (by omega) (by omega)]; omega
   rw [if_pos (by omega), e, XY hx, Option.bind_some, w64 (x := x.To + 1) (by omega) (by omega)]
   by_cases h : x.To + 1 = a
   ·
    rw [if_pos h]
    by_cases h2 : x.Class = k
    ·
     rw [if_pos h2]
     simp only [h, h2, and_self, if_true]
     congr 1
     have hs := Xhd hg
     have e2 : (((l.length - 1 : Nat) : Int)).toNat = l.dropLast.length := by simp
     rw [e2]
     conv => lhs; rw [hs]
     rw [List.dropLast_concat, List.set_append_right _ _ (Nat.le_refl _)]
     simp [h2]
    ·
     rw [if_neg h2, if_pos (by omega)]
     simp only [h2, and_false, if_false]
   ·
    rw [if_neg h, if_pos (by omega)]
    simp only [h, false_and, if_false]
theorem Xpu {l : List Xb} {s : Xb} (h : KL 0 0 l) (hs : ∀ x ∈ l, x.To < s.From) (h0 : 0 ≤ s.From) (h1 : s.From ≤ s.To) (h2 : s.To ≤ 65535) (h3 : 0 ≤ s.Class) :
  KL 0 0 (cl1 l s) ∧ (∀ x ∈ cl1 l s, x.To ≤ s.To) ∧ (cl1 l s).length ≤ l.length + 1 ∧ ∀ g, cof (cl1 l s) g = if s.From ≤ g ∧ g ≤ s.To then s.Class else cof l g := by
 unfold cl1
 by_cases hk : s.Class = 0
 ·
  rw [if_pos hk]
  refine ⟨h, fun x hx => by have := hs x hx; omega, by omega, fun g => ?_⟩
  by_cases hg : s.From ≤ g ∧ g ≤ s.To
  ·
   rw [if_pos hg, hk]
   exact Xiw (fun x hx => by have := hs x hx; omega)
  ·
   rw [if_neg hg]
 ·
  rw [if_neg hk]
  cases hg : l.getLast? with
  | none =>
   have : l = [] := by simpa using hg
   subst this
   exact ⟨⟨h0, h1, h2, by omega, fun _ => hk, trivial⟩, by simp, by simp, fun g => rfl⟩
  | some x =>
   have hl := Xhd hg
   have hxm : x ∈ l := List.mem_of_getLast? hg
   have hxs := hs x hxm
   have hxl := KL.lows h x hxm
   simp only
   by_cases he : x.To + 1 = s.From ∧ x.Class = s.Class
   ·
    rw [if_pos he]
    rw [hl] at h
    have hla := KL.lasts h
    refine ⟨KL.ext (by omega) h2 h, ?_, ?_, fun g => ?_⟩
    ·
     intro y hy
     rcases List.mem_append.1 hy with hy | hy
     ·
      have := hs y (by rw [hl]; exact List.mem_append_left _ hy); omega
     ·
      simp at hy; subst hy; simp
    ·
     have := congrArg List.length hl
     simp at this ⊢
    ·
     rw [Xfe (s := ⟨x.From, s.To, x.Class⟩) (fun y hy => hla y hy)]
     conv => rhs; rw [hl]
     rw [Xfe hla]
     simp only
     by_cases g1 : s.From ≤ g ∧ g ≤ s.To
     ·
      rw [if_pos g1, if_pos (by omega)]; exact he.2
     ·
      rw [if_neg g1]
      by_cases g2 : x.From ≤ g ∧ g ≤ x.To
      ·
       rw [if_pos g2, if_pos (by omega)]
      ·
       rw [if_neg g2, if_neg (by omega)]
   ·
    rw [if_neg he]
    refine ⟨KL.snoc h1 h2 (by omega) h hs h0 (fun e => by subst e; simp at hg) (fun y hy e => ?_), ?_, by simp, fun g => Xfe hs⟩
    ·
     rw [hg] at hy
     cases hy
     exact fun e2 => he ⟨e, e2⟩
    ·
     intro y hy
     rcases List.mem_append.1 hy with hy | hy
     ·
      have := hs y hy; omega
     ·
      simp at hy; subst hy; simp
theorem KL.bnd {l : List Xb} (h : KL 0 0 l) : ∀ x ∈ l, 0 ≤ x.To ∧ x.To ≤ 65535 := fun x hx => by have := KL.lows h x hx; omega

def clsOk (b : List Int) (i : Int) : Bool :=
 if u16 b i = 1 then decide (0 ≤ u16 b (i + 4) ∧ u16 b (i + 2) + u16 b (i + 4) ≤ 65536 ∧ i + 6 + 2 * u16 b (i + 4) ≤ (b.length : Int))
 else if u16 b i = 2 then decide (0 ≤ u16 b (i + 2)) && riseZ true (-1) 0 (trips b (i + 4) (u16 b (i + 2)).toNat)
 else false
def clsV (b : List Int) (i g : Int) : Int :=
 if u16 b i = 1 then (if u16 b (i + 2) ≤ g ∧ g < u16 b (i + 2) + u16 b (i + 4) then u16 b (i + 6 + 2 * (g - u16 b (i + 2))) else 0)
 else clsT (trips b (i + 4) (u16 b (i + 2)).toNat) g 0
theorem Xqt {N : Nat} {b : List Int} (hb : Bytes b) {i f : Int} {m : Nat} (h0 : 0 ≤ i) (h1 : i + 2 * (m : Int) ≤ (b.length : Int)) (hf : 0 ≤ f) (hfm : f + m ≤ 65536) : ∀ (d k n : Nat) (s : List Xb), k + d = m → d < n → KL 0 0 s → (∀ x ∈ s, x.To < f + k) → s.length ≤ k →
  ∃ l, Zp N f (row16 b i m) n k s = some l ∧ KL 0 0 l ∧ l.length ≤ m ∧ ∀ g, cof l g = if f + k ≤ g ∧ g < f + m then u16 b (i + 2 * (g - f)) else cof s g := by
 intro d
 induction d with
 | zero =>
  intro k n s hk hn hs ht hsl
  obtain ⟨n, rfl⟩ : ∃ x, n = x + 1 := ⟨n - 1, by omega⟩
  rw [Zp, Ja, if_neg (by omega)]
  exact ⟨s, rfl, hs, by omega, fun g => by rw [if_neg (by omega)]⟩
 | succ d ih =>
  intro k n s hk hn hs ht hsl
  obtain ⟨n, rfl⟩ : ∃ x, n = x + 1 := ⟨n - 1, by omega⟩
  have hx := Xai (b := b) (i := i) (show k < m by omega)
  have hu := XL hb (i + 2 * (k : Int))
  have hn0 := (not_congr (Yr hb (i := i + 2 * (k : Int)))).2 (by omega)
  obtain ⟨c1, c2, c3, c4⟩ := Xpu (s := ⟨f + k, f + k, u16 b (i + 2 * (k : Int))⟩) hs ht (by simp only; omega) (Int.le_refl _) (by simp only; omega) (by simp only; omega)
  rw [Zp, Ja, if_pos (by omega), XY hx, Option.bind_some, w64 (x := f + k) (by omega) (by omega), Xj6 (by omega) (KL.bnd hs), Option.bind_some, w64 (by omega) (by omega)]
  obtain ⟨l, g1, g2, g3, g4⟩ := ih (k + 1) n _ (by omega) (by omega) c1 (fun x hx => by have := c2 x hx; simp only at this; omega) (by omega)
  refine ⟨l, by rw [show ((k + 1 : Nat) : Int) = (k : Int) + 1 by omega] at g1; exact g1, g2, g3, fun g => ?_⟩
  rw [g4, c4]
  simp only
  by_cases e : g = f + k
  ·
   rw [if_neg (by omega), if_pos (by omega), if_pos (by omega)]; congr 1; omega
  ·
   by_cases e2 : f + (k : Int) ≤ g ∧ g < f + m
   ·
    rw [if_pos (by omega), if_pos e2]
   ·
    rw [if_neg (by omega), if_neg (by omega), if_neg e2]
theorem Xqs {N : Nat} {ok : Bool} {l : List XA} (hl : l.length ≤ 70000) (hb : ∀ x ∈ l, x.e1 ≤ 65535) : ∀ (d k n : Nat) (a c : Int) (s : List Xb), k + d = l.length → d < n → riseZ true a c (l.drop k) = true → -1 ≤ a → KL 0 0 s → (∀ x ∈ s, x.To ≤ a) → s.length ≤ k →
  ∃ m, Yk N ok l n k s = some m ∧ KL 0 0 m ∧ m.length ≤ l.length ∧ ∀ g, cof m g = clsT (l.drop k) g (cof s g) := by
 intro d
 induction d with
 | zero =>
  intro k n a c s hk hn hz ha hs ht hsl
  obtain ⟨n, rfl⟩ : ∃ x, n = x + 1 := ⟨n - 1, by omega⟩
  rw [Yk, if_neg (by omega), List.drop_eq_nil_of_le (by omega)]
  exact ⟨s, rfl, hs, by omega, fun g => rfl⟩
 | succ d ih =>
  intro k n a c s hk hn hz ha hs ht hsl
  obtain ⟨n, rfl⟩ : ∃ x, n = x + 1 := ⟨n - 1, by omega⟩
  obtain ⟨x, hx, hd⟩ := Xil hk
  have hxb := hb x (List.mem_of_getElem? hx)
  rw [hd] at hz ⊢
  have hlow := Xax hz x List.mem_cons_self
  simp only [riseZ, Bool.and_eq_true] at hz
  obtain ⟨c1, c2, c3, c4⟩ := Xpu (s := ⟨x.e0, x.e1, x.e2⟩) hs (fun y hy => by have := ht y hy; simp only; omega) (by simp only; omega) hlow.2.1 hxb hlow.2.2
  rw [Yk, if_pos (by omega), XY hx, Option.bind_some, Xj6 (by omega) (KL.bnd hs), Option.bind_some, w64 (by omega) (by omega)]
  obtain ⟨m, g1, g2, g3, g4⟩ := ih (k + 1) n x.e1 _ _ (by omega) (by omega) hz.2 (by omega) c1 (fun y hy => c2 y hy) (by omega)
  refine ⟨m, by rw [show ((k + 1 : Nat) : Int) = (k : Int) + 1 by omega] at g1; exact g1, g2, g3, fun g => ?_⟩
  rw [g4, c4]
  simp only [clsT]
  by_cases e : x.e0 ≤ g ∧ g ≤ x.e1
  ·
   rw [if_pos e, if_pos e]
   exact Xg0 (fun ⟨y, hy, h⟩ => by have := Xax hz.2 y hy; omega)
  ·
   rw [if_neg e, if_neg e]
theorem Xmw {N : Nat} (hN : 1000000000000 < N) {b : List Int} (hb : Bytes b) (hl : b.length ≤ 1000000000) (i : Int) (hi : i ≤ 100000000000) (hi' : -100000000000 ≤ i) :
  ∃ l, Qk N b i = some (l, clsOk b i) ∧ (clsOk b i = false → l = []) ∧ (clsOk b i = true → KL 0 0 l ∧ l.length ≤ 65536 ∧ ∀ g, cof l g = clsV b i g) := by
 have hf : QI N b i = some (if u16 b i < 0 then 0 else u16 b i) := by
  unfold QI
  rw [U16_eq hN hb hl _ (by omega), Option.bind_some]
  by_cases h : u16 b i < 0
  ·
   simp only [h, if_true]; rfl
  ·
   simp only [h, if_false, if_true]
 have u1 := XL hb (i + 2); have u2 := XL hb (i + 4)
 unfold Qk
 rw [hf, Option.bind_some]
 by_cases h1 : u16 b i = 1
 ·
  have e : (if u16 b i < 0 then 0 else u16 b i) = 1 := by rw [h1]; rfl
  have ec : clsOk b i = decide (0 ≤ u16 b (i + 4) ∧ u16 b (i + 2) + u16 b (i + 4) ≤ 65536 ∧ i + 6 + 2 * u16 b (i + 4) ≤ (b.length : Int)) := if_pos h1
  rw [e, if_pos rfl, w64 (x := i + 2) (by omega) (by omega), w64 (x := i + 4) (by omega) (by omega), w64 (x := i + 4 + 2) (by omega) (by omega), U16_eq hN hb hl _ (by omega), Option.bind_some]
  by_cases h4 : u16 b (i + 4) < 0
  ·
   have hc : clsOk b i = false := by rw [ec]; exact decide_eq_false (by omega)
   rw [hc]
   refine ⟨[], ?_, fun _ => rfl, fun h => by cases h⟩
   have e2 : QS N b (i + 4) = some (0, false) := by rw [U16_eq hN hb hl _ (by omega), if_pos h4]
   have e3 : ∃ r, Jp N b (i + 4 + 2) 0 2 = some r := ⟨_, Xgh hN hb hl _ _ (by omega) (by omega)⟩
   obtain ⟨⟨r1, r2⟩, e3⟩ := e3
   split
   simp only [e2, Option.bind_some, e3, Bool.false_eq_true, if_false]
  ·
   have hin := (not_congr (Yr hb (i := i + 4))).1 h4
   have h2 : ¬ u16 b (i + 2) < 0 := fun h2 => by
    have hh : u16 b i < 0 := (Yr hb).2 (fun h => (Yr hb (i := i + 2)).1 h2 ⟨by omega, by omega⟩)
    omega
   simp only [h2, if_false]
   rw [U16_eq hN hb hl _ (by omega), Option.bind_some]
   simp only [h4, if_false]
   rw [Xgh hN hb hl _ _ (by omega) (by omega), Option.bind_some]
   by_cases h5 : i + 6 + 2 * u16 b (i + 4) ≤ (b.length : Int)
   ·
    rw [if_pos (show (0 ≤ u16 b (i + 4) ∧ 0 ≤ i + 4 + 2 ∧ i + 4 + 2 + 2 * u16 b (i + 4) ≤ (b.length : Int)) from ⟨by omega, by omega, by omega⟩)]
    simp only [if_true]
    rw [w64 (by omega) (by omega)]
    by_cases h6 : 65536 < u16 b (i + 2) + u16 b (i + 4)
    ·
     have hc : clsOk b i = false := by rw [ec]; exact decide_eq_false (by omega)
     rw [if_pos h6, hc]
     exact ⟨[], rfl, fun _ => rfl, fun h => by cases h⟩
    ·
     have hc : clsOk b i = true := by rw [ec]; exact decide_eq_true (by omega)
     obtain ⟨m, hm⟩ := Int.eq_ofNat_of_zero_le (show 0 ≤ u16 b (i + 4) by omega)
     obtain ⟨l, g1, g2, g3, g4⟩ := Xqt (N := N) hb (i := i + 4 + 2) (f := u16 b (i + 2)) (m := m) (by omega) (by omega) (by omega) (by omega) m 0 N [] (by omega) (by omega) trivial (by simp) (by simp)
     rw [if_neg h6, hc, hm]
     rw [show ((0 : Nat) : Int) = 0 from rfl] at g1
     rw [show ((m : Int)).toNat = m by omega, g1, Option.bind_some]
     refine ⟨l, rfl, (fun h => by cases h), fun _ => ⟨g2, by omega, fun g => ?_⟩⟩
     rw [g4]
     unfold clsV
     rw [if_pos h1, hm]
     by_cases hg : u16 b (i + 2) ≤ g ∧ g < u16 b (i + 2) + m
     ·
      rw [if_pos (by omega), if_pos hg]; congr 1; omega
     ·
      rw [if_neg (by omega), if_neg hg]; rfl
   ·
    have hc : clsOk b i = false := by rw [ec]; exact decide_eq_false (by omega)
    rw [if_neg (show ¬ (0 ≤ u16 b (i + 4) ∧ 0 ≤ i + 4 + 2 ∧ i + 4 + 2 + 2 * u16 b (i + 4) ≤ (b.length : Int)) by omega), hc]
    exact ⟨[], rfl, fun _ => rfl, fun h => by cases h⟩
 ·
  by_cases h2 : u16 b i = 2
  ·
   have e : (if u16 b i < 0 then 0 else u16 b i) = 2 := by rw [h2]; rfl
   have ec : clsOk b i = (decide (0 ≤ u16 b (i + 2)) && riseZ true (-1) 0 (trips b (i + 4) (u16 b (i + 2)).toNat)) := by unfold clsOk; rw [if_neg h1, if_pos h2]
   rw [e, if_neg (by decide), if_pos rfl, Xjb hN hb hl i hi hi', ← ec]
   cases hc : clsOk b i with
   | false =>
    obtain ⟨m, hm⟩ : ∃ m, N = m + 1 := ⟨N - 1, by omega⟩
    refine ⟨[], ?_, fun _ => rfl, fun h => by cases h⟩
    have h0 : Yk N false [] N 0 [] = some [] := by
     rw [show Yk N false [] N 0 [] = Yk N false [] (m + 1) 0 [] by rw [← hm], Yk]; rfl
    simp only [Bool.false_eq_true, if_false, Option.bind_some, h0]
   | true =>
    rw [hc] at ec
    have hz := (Bool.and_eq_true_iff.1 ec.symm).2
    simp only [if_true, Option.bind_some]
    obtain ⟨l, g1, g2, g3, g4⟩ := Xqs (N := N) (ok := true) (l := trips b (i + 4) (u16 b (i + 2)).toNat) (by rw [JW]; omega) (Xel hb) (u16 b (i + 2)).toNat 0 N (-1) 0 [] (by rw [JW]; omega) (by omega) hz (by omega) trivial (by simp) (by simp)
    rw [show ((0 : Nat) : Int) = 0 from rfl] at g1
    rw [g1, Option.bind_some]
    refine ⟨l, rfl, (fun h => by cases h), fun _ => ⟨g2, by rw [JW] at g3; omega, fun g => ?_⟩⟩
    rw [g4, List.drop_zero]
    unfold clsV
    rw [if_neg h1]
    rfl
  ·
   have hc : clsOk b i = false := by unfold clsOk; rw [if_neg h1, if_neg h2]
   have e1 : ¬ (if u16 b i < 0 then 0 else u16 b i) = 1 := by split <;> omega
   have e2 : ¬ (if u16 b i < 0 then 0 else u16 b i) = 2 := by split <;> omega
   rw [if_neg e1, if_neg e2, hc]
   exact ⟨[], rfl, fun _ => rfl, fun h => by cases h⟩

theorem Table_L2 {N : Nat} (hN : 1000000000000 < N) {b : List Int} (hb : Bytes b) (hl : b.length ≤ 1000000000) {i f : Int} (hi : 0 ≤ i + 6) {m : Nat} (hm : m ≤ 65535) (hf : 0 ≤ f) (hfm : f + m ≤ 65536) : ∀ (d k n : Nat) (t : List Int), k + d = m → d < n → t.length = 65536 → i + 6 + 2 * (k : Int) ≤ (b.length : Int) →
  ∃ t', Qr N b i m f n k t = some (if i + 6 + 2 * (m : Int) ≤ (b.length : Int) then .inl t' else .inr t') ∧ (i + 6 + 2 * (m : Int) ≤ (b.length : Int) → t'.length = 65536 ∧ ∀ g, 0 ≤ g → gb t' g = if f + k ≤ g ∧ g < f + m then u16 b (i + 6 + 2 * (g - f)) else gb t g) := by
 intro d
 induction d with
 | zero =>
  intro k n t hk hn ht hin
  obtain ⟨n, rfl⟩ : ∃ x, n = x + 1 := ⟨n - 1, by omega⟩
  have e : k = m := by omega
  subst e
  rw [Qr, if_neg (by omega)]
  exact ⟨t, by rw [if_pos hin], fun _ => ⟨ht, fun g _ => by rw [if_neg (by omega)]⟩⟩
 | succ d ih =>
  intro k n t hk hn ht hin
  obtain ⟨n, rfl⟩ : ∃ x, n = x + 1 := ⟨n - 1, by omega⟩
  have hu := XL hb (i + 6 + 2 * (k : Int))
  rw [Qr, if_pos (by omega), w64 (x := i + 6) (by omega) (by omega), w64 (x := 2 * (k : Int)) (by omega) (by omega), w64 (x := i + 6 + 2 * (k : Int)) (by omega) (by omega), Yj hN hb hl _ (by omega), Option.bind_some]
  by_cases h : u16 b (i + 6 + 2 * (k : Int)) < 0
  ·
   rw [if_pos h]
   have := (Yr hb (i := i + 6 + 2 * (k : Int))).1 h
   exact ⟨t, by rw [if_neg (by omega)], fun h2 => by omega⟩
  ·
   rw [if_neg h, w64 (x := f + (k : Int)) (by omega) (by omega), Xff (by omega) (by omega), Option.bind_some, w64 (by omega) (by omega)]
   have hh := (not_congr (Yr hb (i := i + 6 + 2 * (k : Int)))).1 h
   obtain ⟨t', g1, g2⟩ := ih (k + 1) n (t.set (f + (k : Int)).toNat (u16 b (i + 6 + 2 * (k : Int)))) (by omega) (by omega) (by simpa using ht) (by omega)
   refine ⟨t', by rw [show ((k + 1 : Nat) : Int) = (k : Int) + 1 by omega] at g1; exact g1, fun h2 => ⟨(g2 h2).1, fun g hg => ?_⟩⟩
   rw [(g2 h2).2 g hg, Xjy (by omega) (by omega) hg]
   by_cases e : g = f + k
   ·
    rw [if_neg (by omega), if_pos e, if_pos (by omega)]; congr 1; omega
   ·
    rw [if_neg e]
    by_cases e2 : f + (k : Int) ≤ g ∧ g < f + m
    ·
     rw [if_pos (by omega), if_pos e2]
    ·
     rw [if_neg (by omega), if_neg e2]
theorem Xpt {c : Bool} : ∀ {l : List XA} {a n g : Int}, riseZ c a n l = true → clsT l g 0 = if 0 < clsT l g (-1) then clsT l g (-1) else 0
 | [], _, _, _, _ => rfl
 | x :: r, a, n, g, h => by
  have hx := Xax h x List.mem_cons_self
  simp only [riseZ, Bool.and_eq_true] at h
  by_cases e : x.e0 ≤ g ∧ g ≤ x.e1
  ·
   have q : ∀ d, clsT (x :: r) g d = x.e2 := fun d => if_pos e
   simp only [q]
   by_cases e2 : 0 < x.e2
   ·
    rw [if_pos e2]
   ·
    rw [if_neg e2]; omega
  ·
   have q : ∀ d, clsT (x :: r) g d = clsT r g d := fun d => if_neg e
   simp only [q]
   exact Xpt h.2
def pos (t : List Int) (g : Int) : Int := if 0 < gb t g then gb t g else 0
theorem Table_cls {N : Nat} (hN : 1000000000000 < N) {b : List Int} (hb : Bytes b) (hl : b.length ≤ 1000000000) (i : Int) (hi : i ≤ 100000000000) (hi' : -100000000000 ≤ i) :
  ∃ t, Qt N b i true = some (t, clsOk b i) ∧ (clsOk b i = true → t.length = 65536 ∧ (∀ g, 0 ≤ g → g < 65536 → pos t g = clsV b i g) ∧ ∀ g, 0 ≤ g → gb t g ≤ 65535) := by
 obtain ⟨t0, h1, h2, h3⟩ := Xpw (N := N) (b := b) (i := i) (c := true) 65536 0 N (List.replicate 65536 0) (by omega) (by omega) List.length_replicate
 have h30 : ∀ g, 0 ≤ g → g < 65536 → gb t0 g = -1 := fun g hg hg2 => by rw [h3 g hg, if_pos (by omega)]
 have hle : ∀ t : List Int, t.length = 65536 → (∀ g, 0 ≤ g → g < 65536 → gb t g ≤ 65535) → ∀ g, 0 ≤ g → gb t g ≤ 65535 := fun t ht h g hg => by
  by_cases e : g < 65536
  ·
   exact h g hg e
  ·
   unfold gb; rw [List.getElem?_eq_none (by omega)]; simp
 unfold Qt
 rw [show ((0 : Nat) : Int) = 0 from rfl] at h1
 rw [h1, Option.bind_some, Yj hN hb hl _ (by omega), Option.bind_some]
 have hu := XL hb (i + 2); have hu4 := XL hb (i + 4)
 by_cases e1 : u16 b i = 1
 ·
  rw [if_pos e1, w64 (x := i + 2) (by omega) (by omega), Yj hN hb hl _ (by omega), Option.bind_some, if_pos rfl, w64 (x := i + 4) (by omega) (by omega), Yj hN hb hl _ (by omega), Option.bind_some]
  have ec : clsOk b i = decide (0 ≤ u16 b (i + 4) ∧ u16 b (i + 2) + u16 b (i + 4) ≤ 65536 ∧ i + 6 + 2 * u16 b (i + 4) ≤ (b.length : Int)) := if_pos e1
  by_cases h4 : u16 b (i + 4) < 0
  ·
   have hc : clsOk b i = false := by rw [ec]; exact decide_eq_false (by omega)
   rw [if_pos h4, hc]
   exact ⟨t0, rfl, fun h => by cases h⟩
  ·
   have hin := (not_congr (Yr hb (i := i + 4))).1 h4
   have h2' : ¬ u16 b (i + 2) < 0 := fun h2 => by
    have hh : u16 b i < 0 := (Yr hb).2 (fun h => (Yr hb (i := i + 2)).1 h2 ⟨by omega, by omega⟩)
    omega
   rw [if_neg h4, w64 (x := u16 b (i + 2) + u16 b (i + 4)) (by omega) (by omega)]
   by_cases h5 : 65536 < u16 b (i + 2) + u16 b (i + 4)
   ·
    have hc : clsOk b i = false := by rw [ec]; exact decide_eq_false (by omega)
    rw [if_pos h5, hc]
    exact ⟨t0, rfl, fun h => by cases h⟩
   ·
    rw [if_neg h5]
    obtain ⟨m, hm⟩ := Int.eq_ofNat_of_zero_le (show 0 ≤ u16 b (i + 4) by omega)
    have h0i : 0 ≤ i := by
     by_cases h : 0 ≤ i
     ·
      exact h
     ·
      have := (Yr hb (i := i)).2 (by omega); omega
    obtain ⟨t', g1, g2⟩ := Table_L2 hN hb hl (i := i) (f := u16 b (i + 2)) (by omega) (m := m) (by omega) (by omega) (by omega) m 0 N t0 (by omega) (by omega) h2 (by omega)
    rw [hm]
    rw [show ((0 : Nat) : Int) = 0 from rfl] at g1
    rw [g1, Option.bind_some]
    have hc : clsOk b i = decide (i + 6 + 2 * (m : Int) ≤ (b.length : Int)) := by rw [ec, hm]; exact decide_eq_decide.2 ⟨fun h => h.2.2, fun h => ⟨by omega, by omega, h⟩⟩
    rw [hc]
    by_cases h6 : i + 6 + 2 * (m : Int) ≤ (b.length : Int)
    ·
     simp only [h6, if_true, decide_true]
     obtain ⟨k1, k2⟩ := g2 h6
     refine ⟨t', rfl, fun _ => ⟨k1, fun g hg hg2 => ?_, hle t' k1 (fun g hg hg2 => ?_)⟩⟩
     ·
      unfold pos clsV
      rw [if_pos e1, k2 g hg, hm]
      by_cases h7 : u16 b (i + 2) ≤ g ∧ g < u16 b (i + 2) + m
      ·
       rw [if_pos (by omega : u16 b (i + 2) + ((0 : Nat) : Int) ≤ g ∧ g < u16 b (i + 2) + m), if_pos h7]
       have h8 := (not_congr (Yr hb (i := i + 6 + 2 * (g - u16 b (i + 2))))).2 (by omega)
       by_cases h9 : 0 < u16 b (i + 6 + 2 * (g - u16 b (i + 2)))
       ·
        rw [if_pos h9]
       ·
        rw [if_neg h9]; omega
      ·
       rw [if_neg (by omega : ¬ (u16 b (i + 2) + ((0 : Nat) : Int) ≤ g ∧ g < u16 b (i + 2) + m)), if_neg h7, h30 g hg hg2]; rfl
     ·
      rw [k2 g hg]
      split
      ·
       have := XL hb (i + 6 + 2 * (g - u16 b (i + 2))); omega
      ·
       rw [h30 g hg hg2]; omega
    ·
     simp only [h6, if_false, decide_false]
     exact ⟨t', rfl, fun h => by cases h⟩
 ·
  rw [if_neg e1]
  by_cases e2 : u16 b i = 2
  ·
   rw [if_pos e2, w64 (x := i + 2) (by omega) (by omega), Yj hN hb hl _ (by omega), Option.bind_some]
   have ec : clsOk b i = (decide (0 ≤ u16 b (i + 2)) && riseZ true (-1) 0 (trips b (i + 4) (u16 b (i + 2)).toNat)) := by unfold clsOk; rw [if_neg e1, if_pos e2]
   by_cases h4 : u16 b (i + 2) < 0
   ·
    rw [if_pos h4]
    have hc : clsOk b i = false := by rw [ec, decide_eq_false (by omega)]; rfl
    rw [hc]
    exact ⟨t0, rfl, fun h => by cases h⟩
   ·
    rw [if_neg h4]
    obtain ⟨m, hm⟩ := Int.eq_ofNat_of_zero_le (show 0 ≤ u16 b (i + 2) by omega)
    obtain ⟨t', g1, g2⟩ := Xj8 hN hb hl hi hi' (c := true) (f := u16 b i) e1 (m := m) (by omega) m 0 N 0 (-1) t0 (by omega) (by omega) h2 (by omega) (by omega) (by omega)
    rw [hm]
    rw [show ((0 : Nat) : Int) = 0 from rfl, List.drop_zero] at g1
    rw [List.drop_zero] at g2
    rw [g1, Option.bind_some]
    have hc : clsOk b i = riseZ true (-1) 0 (trips b (i + 4) m) := by rw [ec, hm, decide_eq_true (by omega)]; rfl
    rw [hc]
    by_cases hr : riseZ true (-1) 0 (trips b (i + 4) m) = true
    ·
     simp only [hr, if_true]
     obtain ⟨k1, k2⟩ := g2 hr
     refine ⟨t', rfl, fun _ => ⟨k1, fun g hg hg2 => ?_, hle t' k1 (fun g hg hg2 => ?_)⟩⟩
     ·
      unfold pos clsV
      rw [if_neg e1, hm, (k2 g hg hg2).2 rfl, h30 g hg hg2]
      exact (Xpt hr).symm
     ·
      rw [(k2 g hg hg2).2 rfl, h30 g hg hg2]
      have : ∀ l : List XA, (∀ x ∈ l, x.e2 ≤ 65535) → clsT l g (-1) ≤ 65535 := by
       intro l
       induction l with
       | nil => intro _; simp [clsT]
       | cons x r ih =>
        intro h
        simp only [clsT]
        split
        ·
         exact h x List.mem_cons_self
        ·
         exact ih (fun y hy => h y (List.mem_cons_of_mem _ hy))
      exact this _ (fun x hx => by obtain ⟨k, _, rfl⟩ := Xg6 hx; exact (Xfi hb _ k).2.2)
    ·
     have hr2 : riseZ true (-1) 0 (trips b (i + 4) m) = false := by simpa using hr
     simp only [hr2, Bool.false_eq_true, if_false]
     exact ⟨t', rfl, fun h => by cases h⟩
  ·
   rw [if_neg e2]
   have hc : clsOk b i = false := by unfold clsOk; rw [if_neg e1, if_neg e2]
   rw [hc]
   exact ⟨t0, rfl, fun h => by cases h⟩

theorem Xm9 {N : Nat} {t : List Int} {i : Int} {s : List Xb} (ht : t.length = 65536) (hi0 : 0 ≤ i) (hi1 : i < 65536) : ∀ (d n : Nat) (k : Int), k + d = 65536 → d ≤ n → 0 < n → 0 ≤ k → k < 65536 →
  ∃ k', ZQ N t i s n k = some k' ∧ k ≤ k' ∧ k' < 65536 ∧ (∀ j, k < j → j ≤ k' → gb t j = gb t i) ∧ (k' + 1 < 65536 → gb t (k' + 1) ≠ gb t i) := by
 intro d
 induction d with
 | zero => intro n k hk hn hn0 h0 h1; omega
 | succ d ih =>
  intro n k hk hn hn0 h0 h1
  obtain ⟨n, rfl⟩ : ∃ x, n = x + 1 := ⟨n - 1, by omega⟩
  rw [ZQ, w64 (x := k + 1) (by omega) (by omega)]
  by_cases h2 : k + 1 < 65536
  ·
   rw [if_pos h2, Xff (by omega) (by omega), Option.bind_some, Xff hi0 (by omega), Option.bind_some]
   by_cases h3 : gb t (k + 1) = gb t i
   ·
    rw [if_pos h3]
    obtain ⟨k', g1, g2, g3, g4, g5⟩ := ih n (k + 1) (by omega) (by omega) (by omega) (by omega) h2
    exact ⟨k', g1, by omega, g3, fun j hj hj2 => by
     by_cases e : j = k + 1
     ·
      rw [e]; exact h3
     ·
      exact g4 j (by omega) hj2, g5⟩
   ·
    rw [if_neg h3]
    exact ⟨k, rfl, Int.le_refl _, h1, fun j hj hj2 => by omega, fun _ => h3⟩
  ·
   rw [if_neg h2]
   exact ⟨k, rfl, Int.le_refl _, h1, fun j hj hj2 => by omega, fun h => by omega⟩
theorem Xm8 {N : Nat} (hN : 1000000000000 < N) {t : List Int} (ht : t.length = 65536) : ∀ (d n : Nat) (i : Int) (s : List Xb), i + d = 65536 → d < n → 0 ≤ i → (s.length : Int) ≤ i → KL 0 0 s → (∀ x ∈ s, x.To < i) → (∀ x ∈ s, x.To + 1 = i → i < 65536 → gb t i ≠ x.Class) → (∀ g, 0 ≤ g → g < i → cof s g = pos t g) →
  ∃ m, Zl N t n i s = some m ∧ KL 0 0 m ∧ ∀ g, 0 ≤ g → g < 65536 → cof m g = pos t g := by
 intro d
 induction d using Nat.strongRecOn with
 | _ d ih =>
  intro n i s hi hn h0 hsi hr hto hlast hin
  obtain ⟨n, rfl⟩ : ∃ x, n = x + 1 := ⟨n - 1, by omega⟩
  rw [Zl]
  by_cases h1 : i < 65536
  ·
   rw [if_pos h1, Xff h0 (by omega), Option.bind_some]
   by_cases h2 : gb t i ≤ 0
   ·
    rw [if_pos h2, w64 (by omega) (by omega)]
    refine ih (d - 1) (by omega) n (i + 1) s (by omega) (by omega) (by omega) (by omega) hr (fun x hx => by have := hto x hx; omega) (fun x hx e => by have := hto x hx; omega) ?_
    intro g hg hg2
    by_cases eg : g = i
    ·
     subst eg
     unfold pos
     rw [if_neg (by omega)]
     exact Xiw (fun x hx => by have := hto x hx; omega)
    ·
     exact hin g hg (by omega)
   ·
    rw [if_neg h2]
    obtain ⟨k', g1, g2, g3, g4, g5⟩ := Xm9 (N := N) (s := s) ht h0 h1 d N i hi (by omega) (by omega) h0 h1
    rw [g1, Option.bind_some, if_pos (by omega), w64 (x := k' + 1) (by omega) (by omega)]
    refine ih (d - (k' + 1 - i).toNat) (by omega) n (k' + 1) (s ++ [⟨i, k', gb t i⟩]) (by omega) (by omega) (by omega) (by simp; omega) (KL.snoc (s := ⟨i, k', gb t i⟩) g2 (by simp only; omega) (by simp only; omega) hr hto h0 (fun _ _ => by simp only; omega) (fun x hx e => ?_)) ?_ ?_ ?_
    ·
     exact (hlast x (List.mem_of_getLast? hx) e h1).symm
    ·
     intro x hx
     rcases List.mem_append.1 hx with hx | hx
     ·
      have := hto x hx; omega
     ·
      simp at hx; subst hx; simp only; omega
    ·
     intro x hx e hlt
     rcases List.mem_append.1 hx with hx | hx
     ·
      have := hto x hx; omega
     ·
      simp at hx; subst hx; exact g5 hlt
    ·
     intro g hg hg2
     rw [Xfe (s := ⟨i, k', gb t i⟩) hto]
     simp only
     by_cases hgi : i ≤ g ∧ g ≤ k'
     ·
      have e : gb t g = gb t i := by
       by_cases eg : g = i
       ·
        rw [eg]
       ·
        exact g4 g (by omega) hgi.2
      rw [if_pos hgi]
      unfold pos
      rw [e, if_pos (by omega)]
     ·
      rw [if_neg hgi]
      exact hin g hg (by omega)
  ·
   rw [if_neg h1]
   exact ⟨s, rfl, hr, fun g hg hg2 => hin g hg (by omega)⟩
theorem clsV_out {b : List Int} (hb : Bytes b) {i g : Int} (h : clsOk b i = true) (hg : ¬ (0 ≤ g ∧ g < 65536)) : clsV b i g = 0 := by
 unfold clsOk at h
 unfold clsV
 by_cases e1 : u16 b i = 1
 ·
  rw [if_pos e1] at h ⊢
  have h1 := of_decide_eq_true h
  have hu := XL hb (i + 2)
  have h2' : ¬ u16 b (i + 2) < 0 := fun h2 => by
   have h4 := (not_congr (Yr hb (i := i + 4))).1 (by omega)
   have hh : u16 b i < 0 := (Yr hb).2 (fun h => (Yr hb (i := i + 2)).1 h2 ⟨by omega, by omega⟩)
   omega
  rw [if_neg (by omega)]
 ·
  rw [if_neg e1] at h ⊢
  by_cases e2 : u16 b i = 2
  ·
   rw [if_pos e2] at h
   exact Xg0 (fun ⟨x, hx, h3⟩ => by
    have := Xax (Bool.and_eq_true_iff.1 h).2 x hx
    have := Xel hb x hx
    omega)
  ·
   rw [if_neg e2] at h; cases h
theorem Xko {N : Nat} (hN : 1000000000000 < N) {b : List Int} (hb : Bytes b) (hl : b.length ≤ 1000000000) (i : Int) (hi : i ≤ 100000000000) (hi' : -100000000000 ≤ i) :
  ∃ l, QM N b i = some (l, clsOk b i) ∧ (clsOk b i = false → l = []) ∧ (clsOk b i = true → KL 0 0 l ∧ ∀ g, 0 ≤ g → cof l g = clsV b i g) := by
 obtain ⟨t, h1, h2⟩ := Table_cls hN hb hl i hi hi'
 unfold QM
 rw [h1, Option.bind_some]
 cases hc : clsOk b i with
 | false => exact ⟨[], rfl, fun _ => rfl, fun h => by cases h⟩
 | true =>
  obtain ⟨h3, h4, h5⟩ := h2 hc
  simp only [if_true]
  obtain ⟨m, g1, g2, g3⟩ := Xm8 hN h3 65536 N 0 [] (by omega) (by omega) (by omega) (by simp) trivial (by simp) (by simp) (fun g _ _ => by omega)
  rw [g1, Option.bind_some]
  refine ⟨m, rfl, (fun h => by cases h), fun _ => ⟨g2, fun g hg => ?_⟩⟩
  by_cases e : g < 65536
  ·
   rw [g3 g hg e, h4 g hg e]
  ·
   rw [clsV_out hb hc (by omega)]
   exact Xiw (fun x hx => by have := KL.lows g2 x hx; omega)
theorem Xgi {N : Nat} (hN : 1000000000000 < N) {b : List Int} (hb : Bytes b) (hl : b.length ≤ 1000000000) (i : Int) (hi : i ≤ 100000000000) (hi' : -100000000000 ≤ i) :
  ∃ l, Qk N b i = some (l, clsOk b i) ∧ QM N b i = some (l, clsOk b i) ∧ (clsOk b i = false → l = []) ∧ l.length ≤ 65536 ∧ (clsOk b i = true → KL 0 0 l ∧ ∀ g, cof l g = clsV b i g) := by
 obtain ⟨l, h1, h2, h3⟩ := Xmw hN hb hl i hi hi'
 obtain ⟨m, g1, g2, g3⟩ := Xko hN hb hl i hi hi'
 have e : m = l := by
  cases hc : clsOk b i with
  | false => rw [h2 hc, g2 hc]
  | true => exact KL.uniq (g3 hc).1 (h3 hc).1 (fun g hg => by rw [(g3 hc).2 g hg, (h3 hc).2.2])
 subst e
 refine ⟨m, h1, g1, h2, ?_, fun hc => ⟨(h3 hc).1, (h3 hc).2.2⟩⟩
 cases hc : clsOk b i with
 | false => rw [h2 hc]; simp
 | true => exact (h3 hc).2.1
def clsL (N : Nat) (b : List Int) (i : Int) : List Xb := ((Qk N b i).getD ([], false)).1
def covL (N : Nat) (b : List Int) (i : Int) : List TSpan := ((QO N b i).getD ([], false)).1
theorem clsL_eq {N : Nat} (hN : 1000000000000 < N) {b : List Int} (hb : Bytes b) (hl : b.length ≤ 1000000000) (i : Int) (hi : i ≤ 100000000000) (hi' : -100000000000 ≤ i) :
  Qk N b i = some (clsL N b i, clsOk b i) ∧ QM N b i = some (clsL N b i, clsOk b i) ∧ (clsOk b i = false → clsL N b i = []) ∧ (clsL N b i).length ≤ 65536 := by
 obtain ⟨l, h1, h2, h3, h4, h5⟩ := Xgi hN hb hl i hi hi'
 have e : clsL N b i = l := by unfold clsL; rw [h1]; rfl
 rw [e]
 exact ⟨h1, h2, h3, h4⟩
theorem Xis {N : Nat} (hN : 1000000000000 < N) {b : List Int} (hb : Bytes b) (hl : b.length ≤ 1000000000) (i : Int) (hi : i ≤ 100000000000) (hi' : -100000000000 ≤ i) :
    QO N b i = some (covL N b i, covOk b i) ∧ QL N b i = some (covL N b i, covOk b i) ∧ (covOk b i = false → covL N b i = []) ∧ (covL N b i).length ≤ 65536 := by
  obtain ⟨l, h1, h2, h3, h4⟩ := Xkb hN hb hl i hi hi'
  have e : covL N b i = l := by unfold covL; rw [h1]; rfl
  rw [e]
  refine ⟨h1, h2, h3, ?_⟩
  cases hc : covOk b i with
  | false => rw [h3 hc]; simp
  | true => rcases RL.len (h4 hc).1 (Int.le_refl 0) with h | h
            · omega
            · rw [h]; simp
set_option maxRecDepth 100000
def S {α : Type} : Option α → α ⊕ Unit
 | some x => .inl x
 | none => .inr ()
def num (b : List Int) (p : Int) : Option Int := if u16 b p < 0 then none else some (u16 b p)
theorem Xy {b : List Int} (hb : Bytes b) {p x : Int} (h : num b p = some x) : x = u16 b p ∧ 0 ≤ x ∧ x ≤ 65535 ∧ 0 ≤ p ∧ p + 2 ≤ (b.length : Int) := by
 unfold num at h
 split at h
 ·
  cases h
 ·
  rename_i h0
  have e := Option.some.inj h
  have r := XL hb p
  have n := not_congr (Yr hb (i := p))
  have := n.1 h0
  refine ⟨e.symm, by omega, by omega, by omega, by omega⟩
def row (b : List Int) (p n : Int) : Option (List Int) := if 0 ≤ n ∧ 0 ≤ p ∧ p + 2 * n ≤ (b.length : Int) then some (row16 b p n.toNat) else none
theorem Xw {b : List Int} (hb : Bytes b) {p n : Int} {l : List Int} (h : row b p n = some l) : l = row16 b p n.toNat ∧ (l.length : Int) = n ∧ 0 ≤ n ∧ 0 ≤ p ∧ p + 2 * n ≤ (b.length : Int) ∧ ∀ x ∈ l, 0 ≤ x ∧ x ≤ 65535 := by
 unfold row at h
 split at h
 ·
  rename_i h0
  have e := Option.some.inj h
  subst e
  refine ⟨rfl, by rw [Ja]; omega, h0.1, h0.2.1, h0.2.2, fun x hx => ?_⟩
  obtain ⟨k, hk, rfl⟩ := Xbv hx
  have r := XL hb (p + 2 * (k : Int))
  have n1 := not_congr (Yr hb (i := p + 2 * (k : Int)))
  have : ¬ u16 b (p + 2 * (k : Int)) < 0 := by rw [n1]; omega
  omega
 ·
  cases h
theorem Xbp {N : Nat} (x : Bool) : Yn N x = some (if x = true then .inl () else .inr ()) := by
 unfold Yn
 cases x <;> rfl
section
variable {N : Nat} (hN : 1000000000000 < N) {b : List Int} (hb : Bytes b) (hl : b.length ≤ 1000000)
include hN hb hl
theorem number_eq {p : Int} (hp : p ≤ 1000000000000) : Xn N b p = some (S (num b p)) := by
 unfold Xn num
 rw [U16_eq hN hb (by omega) p hp, Option.bind_some]
 by_cases h : u16 b p < 0
 ·
  rw [if_pos h, if_pos h]; rfl
 ·
  rw [if_neg h, if_neg h]; rfl
theorem Qn {p n : Int} (hp : p ≤ 1000000000000) (hn : n ≤ 1000000000000) : Xl N b p n = some (S (row b p n)) := by
 unfold Xl row
 rw [Xgh hN hb (by omega) p n hp hn, Option.bind_some]
 by_cases h : 0 ≤ n ∧ 0 ≤ p ∧ p + 2 * n ≤ (b.length : Int)
 ·
  rw [if_pos h, if_pos h]; rfl
 ·
  rw [if_neg h, if_neg h]; rfl
end
def cntr (b : List Int) (p lo hi : Int) : Option Int := (num b p).bind fun n => if lo ≤ n ∧ n ≤ hi then some n else none
theorem XF {b : List Int} (hb : Bytes b) {p lo hi x : Int} (h : cntr b p lo hi = some x) : lo ≤ x ∧ x ≤ hi ∧ num b p = some x ∧ 0 ≤ x ∧ x ≤ 65535 ∧ 0 ≤ p ∧ p + 2 ≤ (b.length : Int) := by
 unfold cntr at h
 obtain ⟨n, h1, h2⟩ := Option.bind_eq_some_iff.1 h
 split at h2
 ·
  rename_i h3
  cases h2
  obtain ⟨_, h4⟩ := Xy hb h1
  exact ⟨h3.1, h3.2, h1, h4⟩
 ·
  cases h2
section
variable {N : Nat} (hN : 1000000000000 < N) {b : List Int} (hb : Bytes b) (hl : b.length ≤ 1000000)
include hN hb hl
theorem YS {p lo hi : Int} (hp : p ≤ 1000000000000) : Xh N b p lo hi = some (S (cntr b p lo hi)) := by
 unfold Xh cntr
 rw [number_eq hN hb hl hp, Option.bind_some]
 cases num b p with
 | none => rfl
 | some x =>
  simp only [S, Option.bind_some]
  by_cases h1 : lo ≤ x
  ·
   rw [if_pos h1, Xbp, Option.bind_some]
   by_cases h2 : x ≤ hi
   ·
    simp [h1, h2]
   ·
    simp [h1, h2]
  ·
   rw [if_neg h1, Xbp, Option.bind_some]; simp [h1]
end
def cov (N : Nat) (b : List Int) (p : Int) : Option (List TSpan) := if covOk b p = true then some (covL N b p) else none
def covs (N : Nat) (b : List Int) (base : Int) : List Int → Option (List TSet)
 | [] => some []
 | o :: l => (cov N b (base + o)).bind fun s => (covs N b base l).bind fun r => some (⟨s, false⟩ :: r)
theorem QN {N : Nat} {b : List Int} {base : Int} : ∀ {l : List Int} {r : List TSet}, covs N b base l = some r → r.length = l.length
 | [], r, h => by cases h; rfl
 | o :: l, r, h => by
  simp only [covs] at h
  obtain ⟨s, h1, h2⟩ := Option.bind_eq_some_iff.1 h
  obtain ⟨q, h3, h4⟩ := Option.bind_eq_some_iff.1 h2
  cases h4
  simp [QN h3]
section
variable {N : Nat} (hN : 1000000000000 < N) {b : List Int} (hb : Bytes b) (hl : b.length ≤ 1000000)
include hN hb hl
theorem covers_L1 {p base : Int} (h0 : -1000000000 ≤ base) (h1 : base ≤ 1000000000) {l : List Int} (hx : ∀ x ∈ l, 0 ≤ x ∧ x ≤ 65535) (hll : l.length ≤ 1000000) : ∀ (d k n : Nat) (s : List TSet), k + d = l.length → d < n → s.length ≤ k →
  XW N base l b p n k s = some (match covs N b base (l.drop k) with | some r => .inl (s ++ r) | none => .inr ()) := by
 intro d
 induction d with
 | zero =>
  intro k n s hk hn hs
  obtain ⟨n, rfl⟩ : ∃ x, n = x + 1 := ⟨n - 1, by omega⟩
  rw [XW, if_neg (by omega), List.drop_eq_nil_of_le (by omega)]
  simp [covs]
 | succ d ih =>
  intro k n s hk hn hs
  obtain ⟨n, rfl⟩ : ∃ x, n = x + 1 := ⟨n - 1, by omega⟩
  have hkl : k < l.length := by omega
  have hat : l[k]? = some l[k] := List.getElem?_eq_getElem hkl
  have hb2 := hx l[k] (List.getElem_mem hkl)
  rw [XW, if_pos (by omega), XY hat, Option.bind_some, w64 (x := base + l[k]) (by omega) (by omega), (Xis hN hb (by omega) (base + l[k]) (by omega) (by omega)).1, Option.bind_some]
  simp only
  rw [Xbp, Option.bind_some, List.drop_eq_getElem_cons hkl]
  simp only [covs, cov]
  cases hc : covOk b (base + l[k]) with
  | false => rfl
  | true =>
   simp only [if_true, Option.bind_some]
   rw [if_pos (by omega), w64 (x := (k : Int) + 1) (by omega) (by omega), show (k : Int) + 1 = ((k + 1 : Nat) : Int) by omega, ih (k + 1) n _ (by omega) (by omega) (by simp; omega)]
   cases covs N b base (l.drop (k + 1)) with
   | none => rfl
   | some r => simp
theorem Xb8 {p base : Int} (h0 : -1000000000 ≤ base) (h1 : base ≤ 1000000000) {l : List Int} (hx : ∀ x ∈ l, 0 ≤ x ∧ x ≤ 65535) (hll : l.length ≤ 1000000) : XM N b p base l = some (S (covs N b base l)) := by
 unfold XM
 have h := covers_L1 hN hb hl (p := p) h0 h1 hx hll l.length 0 N [] (by omega) (by omega) (by simp)
 rw [List.drop_zero] at h
 rw [show XW N base l b p N 0 [] = _ from h, Option.bind_some]
 cases covs N b base l with
 | none => rfl
 | some r => rfl
end
def acts (b : List Int) (long : Int) : Nat → Int → Option (List TAct × Int)
 | 0, p => some ([], p)
 | n + 1, p => (num b p).bind fun x => (num b (p + 2)).bind fun y => if x < long then (acts b long n (p + 4)).bind fun r => some (⟨x, y⟩ :: r.1, r.2) else none
theorem Xcg {b : List Int} (hb : Bytes b) {long : Int} : ∀ {n : Nat} {p q : Int} {l : List TAct}, acts b long n p = some (l, q) → l.length = n ∧ q = p + 4 * (n : Int) ∧ (∀ x ∈ l, 0 ≤ x.At ∧ x.At < long) ∧ (n = 0 ∨ (0 ≤ p ∧ q ≤ (b.length : Int)))
 | 0, p, q, l, h => by cases h; simp
 | n + 1, p, q, l, h => by
  simp only [acts] at h
  obtain ⟨x, h1, h2⟩ := Option.bind_eq_some_iff.1 h
  obtain ⟨y, h3, h4⟩ := Option.bind_eq_some_iff.1 h2
  split at h4
  ·
   rename_i hlt
   obtain ⟨⟨r, q'⟩, h5, h6⟩ := Option.bind_eq_some_iff.1 h4
   cases h6
   obtain ⟨g1, g2, g3, g4⟩ := Xcg hb h5
   obtain ⟨_, n1, n2, n3, n4⟩ := Xy hb h1
   obtain ⟨_, m1, m2, m3, m4⟩ := Xy hb h3
   refine ⟨by simp [g1], by simp only [g2]; omega, ?_, .inr ⟨n3, ?_⟩⟩
   ·
    intro z hz
    rcases List.mem_cons.1 hz with rfl | hz
    ·
     exact ⟨n1, hlt⟩
    ·
     exact g3 z hz
   ·
    rcases g4 with g4 | g4
    ·
     subst g4; simp only at g2 ⊢; omega
    ·
     exact g4.2
  ·
   cases h4
section
variable {N : Nat} (hN : 1000000000000 < N) {b : List Int} (hb : Bytes b) (hl : b.length ≤ 1000000)
include hN hb hl
theorem acts_L1 {long : Int} {m : Nat} (hm : m ≤ 1000) : ∀ (d k n : Nat) (p : Int) (s : List TAct), k + d = m → d < n → s.length ≤ k → p ≤ 1000000000 → -1000000000 ≤ p →
  Yd N long m b n k p s = some (match acts b long d p with | some r => .inl (r.2, s ++ r.1) | none => .inr ()) := by
 intro d
 induction d with
 | zero =>
  intro k n p s hk hn hs hp hp'
  obtain ⟨n, rfl⟩ : ∃ x, n = x + 1 := ⟨n - 1, by omega⟩
  rw [Yd, if_neg (by omega)]
  simp [acts]
 | succ d ih =>
  intro k n p s hk hn hs hp hp'
  obtain ⟨n, rfl⟩ : ∃ x, n = x + 1 := ⟨n - 1, by omega⟩
  rw [Yd, if_pos (by omega), number_eq hN hb hl (by omega), Option.bind_some]
  simp only [acts]
  cases h1 : num b p with
  | none => rfl
  | some x =>
   obtain ⟨_, n1, n2, n3, n4⟩ := Xy hb h1
   simp only [S, Option.bind_some]
   rw [w64 (x := p + 2) (by omega) (by omega), number_eq hN hb hl (by omega), Option.bind_some]
   cases h2 : num b (p + 2) with
   | none => rfl
   | some y =>
    simp only [S, Option.bind_some]
    rw [Xbp, Option.bind_some]
    by_cases h3 : x < long
    ·
     simp only [h3, decide_true, if_true]
     rw [if_pos (by omega), w64 (x := p + 2 + 2) (by omega) (by omega), w64 (x := (k : Int) + 1) (by omega) (by omega), show (k : Int) + 1 = ((k + 1 : Nat) : Int) by omega, show p + 2 + 2 = p + 4 by omega,
      ih (k + 1) n (p + 4) _ (by omega) (by omega) (by simp; omega) (by omega) (by omega)]
     cases acts b long d (p + 4) with
     | none => rfl
     | some r => simp
    ·
     simp [h3]
theorem Xbr {p n long : Int} (hp : p ≤ 1000000000) (hp' : -1000000000 ≤ p) (h0 : 0 ≤ n) (hn : n ≤ 1000) : Xx N b p n long = some (S (acts b long n.toNat p)) := by
 obtain ⟨m, rfl⟩ := Int.eq_ofNat_of_zero_le h0
 unfold Xx
 have h := acts_L1 hN hb hl (long := long) (m := m) (by omega) m 0 N p [] (by omega) (by omega) (by simp) hp hp'
 rw [show Yd N long (m : Int) b N 0 p [] = _ from h, Option.bind_some, Int.toNat_natCast]
 cases acts b long m p with
 | none => rfl
 | some r => rfl
end
end Go.Proofs.Ytcbhlpbkampfeaa.AI
