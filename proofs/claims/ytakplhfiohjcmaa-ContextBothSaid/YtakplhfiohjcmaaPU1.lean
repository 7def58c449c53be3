/- Part of a proof. -/
import Derived.Test.YtakplhfiohjcmaacxP
import Derived.IntWalk
set_option linter.unusedVariables false
set_option linter.unusedSimpArgs false
namespace Go.Proofs.Ytakplhfiohjcmaa.AI

def Bytes (b : List Int) : Prop := ∀ x ∈ b, 0 ≤ x ∧ x < 256
theorem bytes_of {b : List Int} (h : ∀ x ∈ b, (Lit.int .u8 x).wf = true) : Bytes b := fun x hx => wf_u8 (h x hx)
theorem w64 {x : Int} (h : -4611686018427387904 ≤ x) (h' : x ≤ 4611686018427387904) : IntKind.i64.wrap x = x := IntWalk.i64_in _ ⟨by omega, by omega⟩
theorem atI_at {α : Type} {l : List α} {k : Nat} {x : α} (h : l[k]? = some x) : atI l (k : Int) = some x := by rw [atI_nat, h]
theorem orB {a x : Int} (ha : 0 ≤ a) (ha2 : a < 1099511627776) (hx : 0 ≤ x) (hx2 : x < 256) : orInt .i64 (a * 2 ^ 8) x = a * 256 + x := by
 obtain ⟨n, rfl⟩ := Int.eq_ofNat_of_zero_le ha
 obtain ⟨m, rfl⟩ := Int.eq_ofNat_of_zero_le hx
 have h1 : ((n : Int) * 2 ^ 8) = ((2 ^ 8 * n : Nat) : Int) := by omega
 have h2 : (BitVec.ofInt 64 ((2 ^ 8 * n : Nat) : Int) ||| BitVec.ofInt 64 (m : Int)).toNat = 2 ^ 8 * n + m := by
  rw [BitVec.ofInt_natCast, BitVec.ofInt_natCast, BitVec.toNat_or, BitVec.toNat_ofNat, BitVec.toNat_ofNat, Nat.mod_eq_of_lt (by omega), Nat.mod_eq_of_lt (by omega)]
  exact (Nat.two_pow_add_eq_or_of_lt (by omega) n).symm
 rw [h1]
 show IntKind.i64.wrap (((BitVec.ofInt 64 ((2 ^ 8 * n : Nat) : Int) ||| BitVec.ofInt 64 (m : Int)).toNat : Nat) : Int) = _
 rw [h2, w64 (by omega) (by omega)]
 omega

theorem numStep {N n k : Nat} {l : List Int} {a x : Int} (h : l[k]? = some x) (ha : 0 ≤ a) (ha2 : a < 1099511627776) (hx : 0 ≤ x) (hx2 : x < 256) (hk : k < 1000000) : octet_number_L1 N l (n + 1) a k = octet_number_L1 N l n (a * 256 + x) ((k + 1 : Nat) : Int) := by
 have hlt := (List.getElem?_eq_some_iff.1 h).1
 rw [octet_number_L1, if_pos (by omega), atI_at h, Option.bind_some, w64 (x := a * 2 ^ 8) (by omega) (by omega), w64 (x := x) (by omega) (by omega), orB ha ha2 hx hx2, w64 (by omega) (by omega)]
 rfl
theorem numEnd {N n k : Nat} {l : List Int} {a : Int} (h : l.length = k) : octet_number_L1 N l (n + 1) a k = some a := by
 rw [octet_number_L1, if_neg (by omega)]
theorem number2 {N : Nat} (hN : 1000000000000 < N) {x y : Int} (hx : 0 ≤ x ∧ x < 256) (hy : 0 ≤ y ∧ y < 256) : octet_number N [x, y] = some (x * 256 + y) := by
 obtain ⟨m, hm⟩ : ∃ m, N = m + 5 := ⟨N - 5, by omega⟩
 have h0 : octet_number_L1 N [x, y] N 0 0 = some (x * 256 + y) := by
  rw [show octet_number_L1 N [x, y] N 0 0 = octet_number_L1 N [x, y] (m + 5) 0 ((0 : Nat) : Int) by rw [← hm]; rfl]
  rw [numStep (k := 0) (x := x) rfl (by omega) (by omega) hx.1 hx.2 (by omega), numStep (k := 1) (x := y) rfl (by omega) (by omega) hy.1 hy.2 (by omega), numEnd (k := 1 + 1) rfl]
  congr 1; omega
 simp only [octet_number, h0, Option.bind_some]
def gb (b : List Int) (i : Int) : Int := (b[i.toNat]?).getD 0
theorem gb_range {b : List Int} (hb : Bytes b) (i : Int) : 0 ≤ gb b i ∧ gb b i < 256 := by
 unfold gb
 cases h : b[i.toNat]? with
 | none => simp
 | some x => exact hb x (List.mem_of_getElem? h)
theorem gb_at {b : List Int} {i : Int} (h0 : 0 ≤ i) (h1 : i < (b.length : Int)) : b[i.toNat]? = some (gb b i) := by
 have : i.toNat < b.length := by omega
 rw [gb, List.getElem?_eq_getElem this]; rfl
theorem slI2 {b : List Int} {i : Int} (h0 : 0 ≤ i) (h1 : i + 2 ≤ (b.length : Int)) : slI b i (i + 2) = [gb b i, gb b (i + 1)] := by
 have e0 := gb_at h0 (by omega : i < (b.length : Int))
 have e1 := gb_at (by omega : 0 ≤ i + 1) (by omega : i + 1 < (b.length : Int))
 have t1 : (i + 1).toNat = i.toNat + 1 := by omega
 rw [t1] at e1
 unfold slI
 rw [show (i + 2).toNat - i.toNat = 2 by omega]
 apply List.ext_getElem?
 intro k
 match k with
 | 0 => simp [List.getElem?_take, List.getElem?_drop, e0]
 | 1 => simp [List.getElem?_take, List.getElem?_drop, e1]
 | k + 2 => simp [List.getElem?_take]; omega
def u16 (b : List Int) (i : Int) : Int := if 0 ≤ i ∧ i + 2 ≤ (b.length : Int) then gb b i * 256 + gb b (i + 1) else -1
theorem u16_range {b : List Int} (hb : Bytes b) (i : Int) : -1 ≤ u16 b i ∧ u16 b i < 65536 := by
 have h1 := gb_range hb i; have h2 := gb_range hb (i + 1)
 unfold u16; split <;> omega
theorem u16_neg {b : List Int} (hb : Bytes b) {i : Int} : u16 b i < 0 ↔ ¬ (0 ≤ i ∧ i + 2 ≤ (b.length : Int)) := by
 have h1 := gb_range hb i; have h2 := gb_range hb (i + 1)
 unfold u16; split <;> omega

theorem within_eq {N : Nat} {b : List Int} {i n : Int} (hb : b.length ≤ 1000000000) : octet_Within N b i n = some (decide (0 ≤ i ∧ 0 ≤ n ∧ i + n ≤ (b.length : Int))) := by
 unfold octet_Within
 by_cases h1 : 0 ≤ i
 ·
  by_cases h2 : 0 ≤ n
  ·
   by_cases h3 : n ≤ (b.length : Int)
   ·
    rw [if_pos h1, if_pos h2, if_pos h3, w64 (by omega) (by omega)]
    congr 1
    exact decide_eq_decide.2 (by omega)
   ·
    rw [if_pos h1, if_pos h2, if_neg h3, decide_eq_false (by omega)]
  ·
   rw [if_pos h1, if_neg h2, decide_eq_false (by omega)]
 ·
  rw [if_neg h1, decide_eq_false (by omega)]
theorem U16_eq {N : Nat} (hN : 1000000000000 < N) {b : List Int} (hb : Bytes b) (hl : b.length ≤ 1000000000) (i : Int) (hi : i ≤ 1000000000000) : octet_U16 N b i = some (if u16 b i < 0 then (0, false) else (u16 b i, true)) := by
 unfold octet_U16 octet_read
 rw [within_eq hl, Option.bind_some]
 by_cases h : 0 ≤ i ∧ i + 2 ≤ (b.length : Int)
 ·
  have hu : u16 b i = gb b i * 256 + gb b (i + 1) := if_pos h
  have h1 := gb_range hb i; have h2 := gb_range hb (i + 1)
  have hn : ¬ u16 b i < 0 := by omega
  rw [if_pos (by simp; omega), if_pos h.1, w64 (by omega) (by omega), if_pos (by omega), if_pos h.2, slI2 h.1 h.2, number2 hN h1 h2, if_neg hn, hu]
  rfl
 ·
  have hn : u16 b i < 0 := (u16_neg hb).2 h
  rw [if_neg (by simp; omega), if_pos hn]
  rfl

theorem rwithin_eq {N : Nat} {len i n : Int} (h0 : 0 ≤ len) (hb : len ≤ 1000000000) : ref01_Within N len i n = some (decide (0 ≤ i ∧ 0 ≤ n ∧ i + n ≤ len)) := by
 unfold ref01_Within
 by_cases h1 : 0 ≤ i
 ·
  by_cases h2 : 0 ≤ n
  ·
   by_cases h3 : i ≤ len
   ·
    rw [if_pos h1, if_pos h2, if_pos h3, w64 (by omega) (by omega)]
    congr 1
    exact decide_eq_decide.2 (by omega)
   ·
    rw [if_pos h1, if_pos h2, if_neg h3, decide_eq_false (by omega)]
  ·
   rw [if_pos h1, if_neg h2, decide_eq_false (by omega)]
 ·
  rw [if_neg h1, decide_eq_false (by omega)]
theorem rnumStep {N n k : Nat} {b : List Int} {at_ len a : Int} (h0 : 0 ≤ at_) (hk : (k : Int) < len) (hl : at_ + len ≤ (b.length : Int)) (hb : Bytes b) (hlen : b.length ≤ 1000000000) (ha : 0 ≤ a) (ha2 : a < 1099511627776) :
  ref01_Number_L1 N b at_ len (n + 1) a k = ref01_Number_L1 N b at_ len n (a * 256 + gb b (at_ + k)) ((k + 1 : Nat) : Int) := by
 have h1 := gb_range hb (at_ + k)
 have e : atI b (at_ + (k : Int)) = some (gb b (at_ + k)) := by unfold atI; rw [if_pos (by omega)]; exact gb_at (by omega) (by omega)
 rw [ref01_Number_L1, if_pos hk, w64 (x := at_ + k) (by omega) (by omega), e, Option.bind_some, w64 (x := a * 256) (by omega) (by omega), w64 (x := gb b (at_ + k)) (by omega) (by omega), w64 (x := a * 256 + _) (by omega) (by omega), w64 (by omega) (by omega)]
 rfl
theorem rnumEnd {N n k : Nat} {b : List Int} {at_ len a : Int} (hk : len = (k : Int)) : ref01_Number_L1 N b at_ len (n + 1) a k = some a := by
 rw [ref01_Number_L1, if_neg (by omega)]
theorem rU16_eq {N : Nat} (hN : 1000000000000 < N) {b : List Int} (hb : Bytes b) (hl : b.length ≤ 1000000000) (i : Int) (hi : i ≤ 1000000000000) : ref10_U16 N b i = some (u16 b i) := by
 unfold ref10_U16 ref01_Number
 rw [rwithin_eq (by omega) (by omega), Option.bind_some]
 by_cases h : 0 ≤ i ∧ i + 2 ≤ (b.length : Int)
 ·
  obtain ⟨m, hm⟩ : ∃ m, N = m + 5 := ⟨N - 5, by omega⟩
  have h1 := gb_range hb i
  have hu : u16 b i = gb b i * 256 + gb b (i + 1) := if_pos h
  have h0 : ref01_Number_L1 N b i 2 N 0 0 = some (u16 b i) := by
   rw [show ref01_Number_L1 N b i 2 N 0 0 = ref01_Number_L1 N b i 2 (m + 5) 0 ((0 : Nat) : Int) by rw [← hm]; rfl]
   rw [rnumStep h.1 (by omega) h.2 hb hl (by omega) (by omega)]
   rw [rnumStep h.1 (by omega) h.2 hb hl (by simp; omega) (by simp; omega), rnumEnd (len := 2) (k := 0 + 1 + 1) rfl, hu]
   congr 1
   simp
  rw [if_pos (by simp; omega), h0]
  rfl
 ·
  have hu : u16 b i = -1 := if_neg h
  rw [if_neg (by simp; omega), hu]
  rfl
end Go.Proofs.Ytakplhfiohjcmaa.AI
