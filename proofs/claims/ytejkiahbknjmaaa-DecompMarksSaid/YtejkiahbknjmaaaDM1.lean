/- Plain laws of layer 21: pairs that are right, the code of two parts, a code's parts. -/
import Derived.Test.YtejkiahbknjmaaaDM0
set_option linter.unusedVariables false
set_option linter.unusedSimpArgs false
set_option maxRecDepth 100000
namespace Go.Proofs.Ytejkiahbknjmaaa.AI
theorem wkB {k : Nat} (h : k ≤ 9223372036854775806) : IntKind.i64.wrap ((k : Int) + 1) = ((k + 1 : Nat) : Int) := by
  rw [IntWalk.i64_in _ ⟨by omega, by omega⟩]; omega
def okM (p : TMade) : Prop := vld p.Code = true ∧ vld p.A = true ∧ (p.B = -1 ∨ vld p.B = true)
def chM : Int → List TMade → Prop
  | _, [] => True
  | a, p :: l => a < p.Code ∧ okM p ∧ chM p.Code l
def RtM (l : List TMade) : Prop := l.length ≤ 3000 ∧ chM (-1) l
theorem vld_ge {c : Int} (h : vld c = true) : 0 ≤ c := by
  unfold vld at h
  exact (of_decide_eq_true h).1
theorem chM_mem : ∀ {l : List TMade} {a : Int}, chM a l → ∀ p ∈ l, a < p.Code ∧ okM p
  | [], a, _, p, hp => by cases hp
  | x :: l, a, h, p, hp => by
    rcases List.mem_cons.1 hp with rfl | hp
    · exact ⟨h.1, h.2.1⟩
    · have := chM_mem h.2.2 p hp
      have h1 := h.1
      exact ⟨by omega, this.2⟩
theorem chM_pw : ∀ {l : List TMade} {a : Int}, chM a l → l.Pairwise fun p q => p.Code < q.Code
  | [], _, _ => List.Pairwise.nil
  | x :: l, a, h => List.Pairwise.cons (fun q hq => (chM_mem h.2.2 q hq).1) (chM_pw h.2.2)
theorem dright_L1 {N : Nat} {l : List TMade} (hl : l.length ≤ 3000) : ∀ (d k n : Nat) (a : Int), k + d = l.length → d < n → ∃ o, decomp_Right_L1 N l n a k = some o ∧ (o = .inl () ↔ chM a (l.drop k)) := by
  intro d
  induction d with
  | zero =>
    intro k n a hk hn
    obtain ⟨n, rfl⟩ : ∃ x, n = x + 1 := ⟨n - 1, by omega⟩
    rw [decomp_Right_L1, if_neg (by omega), List.drop_eq_nil_of_le (by omega)]
    exact ⟨_, rfl, by simp [chM]⟩
  | succ d ih =>
    intro k n a hk hn
    obtain ⟨n, rfl⟩ : ∃ x, n = x + 1 := ⟨n - 1, by omega⟩
    have hkl : k < l.length := by omega
    rw [decomp_Right_L1, if_pos (by omega), atI_get hkl, Option.bind_some, wk (by omega), List.drop_eq_getElem_cons hkl]
    unfold chM okM
    by_cases g1 : l[k].Code ≤ a
    · rw [if_pos g1]; exact ⟨_, rfl, by simp; intro h; omega⟩
    rw [if_neg g1, svalid_eq, Option.bind_some]
    by_cases g2 : vld l[k].Code = true
    · rw [if_pos g2, svalid_eq, Option.bind_some]
      by_cases g3 : vld l[k].A = true
      · rw [if_pos g3]
        obtain ⟨o, e, h⟩ := ih (k + 1) n l[k].Code (by omega) (by omega)
        by_cases g4 : l[k].B = -1
        · rw [if_pos g4]
          exact ⟨o, e, by rw [h]; exact ⟨fun h => ⟨by omega, ⟨g2, g3, .inl g4⟩, h⟩, fun h => h.2.2⟩⟩
        rw [if_neg g4, svalid_eq, Option.bind_some]
        by_cases g5 : vld l[k].B = true
        · rw [if_pos g5]
          exact ⟨o, e, by rw [h]; exact ⟨fun h => ⟨by omega, ⟨g2, g3, .inr g5⟩, h⟩, fun h => h.2.2⟩⟩
        · rw [if_neg g5]; exact ⟨_, rfl, by simp [g4, g5]⟩
      · rw [if_neg g3]; exact ⟨_, rfl, by simp [g3]⟩
    · rw [if_neg g2]; exact ⟨_, rfl, by simp [g2]⟩
theorem dright_eq {N : Nat} (hN : 1000000000000 < N) (l : List TMade) : ∃ b, decomp_Right N l = some b ∧ (b = true ↔ RtM l) := by
  unfold decomp_Right RtM
  by_cases g : 3000 < (l.length : Int)
  · rw [if_pos g]; exact ⟨_, rfl, by simp; intro h; omega⟩
  rw [if_neg g]
  obtain ⟨o, e, h⟩ := dright_L1 (N := N) (l := l) (by omega) l.length 0 N (-1) (by omega) (by omega)
  rw [List.drop_zero] at h
  rw [show decomp_Right_L1 N l N (-1) 0 = _ from e, Option.bind_some]
  cases o with
  | inl u => exact ⟨_, rfl, by simp; exact ⟨by omega, h.1 rfl⟩⟩
  | inr u => exact ⟨_, rfl, by simp; intro _ hc; have := h.2 hc; cases this⟩
/-! ### the code of two parts -/
def fw : List TMade → Int → Int → Option TMade
  | [], _, _ => none
  | p :: l, a, b => if p.A = a ∧ p.B = b then some p else fw l a b
theorem fw_mem : ∀ {l : List TMade} {a b : Int} {p : TMade}, fw l a b = some p → p ∈ l
  | x :: l, a, b, p, h => by
    simp only [fw] at h
    split at h
    · rw [← Option.some.inj h]; exact List.mem_cons_self
    · exact List.mem_cons_of_mem _ (fw_mem h)
theorem fw_le {l : List TMade} (hp : l.Pairwise fun p q => p.Code < q.Code) {p : TMade} (h : p ∈ l) : ∃ q, fw l p.A p.B = some q ∧ q.Code ≤ p.Code := by
  induction l with
  | nil => cases h
  | cons x l ih =>
    simp only [fw]
    rw [List.pairwise_cons] at hp
    by_cases g : x.A = p.A ∧ x.B = p.B
    · rw [if_pos g]
      refine ⟨x, rfl, ?_⟩
      rcases List.mem_cons.1 h with rfl | h
      · exact Int.le_refl _
      · exact Int.le_of_lt (hp.1 p h)
    · rw [if_neg g]
      rcases List.mem_cons.1 h with rfl | h
      · exact absurd ⟨rfl, rfl⟩ g
      · exact ih hp.2 h
theorem idx_L1 {N : Nat} {l : List TMade} {a b : Int} (hl : l.length ≤ 9223372036854775806) : ∀ (d k n : Nat), k + d = l.length → d < n →
    (∃ (j : Nat) (p : TMade), slices_IndexFunc_apiMadeapiMade_L1 N l a b n k = some (.inr (j : Int)) ∧ l[j]? = some p ∧ fw (l.drop k) a b = some p) ∨ (slices_IndexFunc_apiMadeapiMade_L1 N l a b n k = some (.inl ()) ∧ fw (l.drop k) a b = none) := by
  intro d
  induction d with
  | zero =>
    intro k n hk hn
    obtain ⟨n, rfl⟩ : ∃ x, n = x + 1 := ⟨n - 1, by omega⟩
    rw [slices_IndexFunc_apiMadeapiMade_L1, if_neg (by omega), List.drop_eq_nil_of_le (by omega)]
    exact .inr ⟨rfl, rfl⟩
  | succ d ih =>
    intro k n hk hn
    obtain ⟨n, rfl⟩ : ∃ x, n = x + 1 := ⟨n - 1, by omega⟩
    have hkl : k < l.length := by omega
    rw [slices_IndexFunc_apiMadeapiMade_L1, if_pos (by omega), atI_get hkl, Option.bind_some, wkB (by omega), List.drop_eq_getElem_cons hkl]
    unfold decomp_Whole_1 fw
    by_cases g : l[k].A = a ∧ l[k].B = b
    · rw [if_pos g, if_pos g.1, decide_eq_true g.2, Option.bind_some, if_pos rfl]
      exact .inl ⟨k, l[k], rfl, List.getElem?_eq_getElem hkl, rfl⟩
    · rw [if_neg g]
      have : (if l[k].A = a then some (decide (l[k].B = b)) else some false) = some false := by
        by_cases g1 : l[k].A = a
        · rw [if_pos g1, decide_eq_false (fun g2 => g ⟨g1, g2⟩)]
        · rw [if_neg g1]
      rw [this, Option.bind_some, if_neg (by simp)]
      exact ih (k + 1) n (by omega) (by omega)
theorem whole_bad {N : Nat} (hN : 1000000000000 < N) {l : List TMade} (hr : ¬ RtM l) (a b : Int) : decomp_Whole N l a b = some (0, false) := by
  unfold decomp_Whole
  by_cases g : b < 0
  · rw [if_pos g]
  rw [if_neg g]
  obtain ⟨r, e, h⟩ := dright_eq hN l
  rw [e, Option.bind_some, if_neg (fun q => hr (h.1 q))]
def wof : Option TMade → Int × Bool
  | some p => (p.Code, true)
  | none => (0, false)
theorem whole_eq {N : Nat} (hN : 1000000000000 < N) {l : List TMade} (hr : RtM l) (a b : Int) : decomp_Whole N l a b = some (if b < 0 then (0, false) else wof (fw l a b)) := by
  unfold decomp_Whole
  by_cases g : b < 0
  · rw [if_pos g, if_pos g]
  rw [if_neg g, if_neg g]
  obtain ⟨r, e, h⟩ := dright_eq hN l
  rw [e, Option.bind_some, if_pos (h.2 hr)]
  unfold slices_IndexFunc_apiMadeapiMade
  have hl := hr.1
  rcases idx_L1 (N := N) (l := l) (a := a) (b := b) (by omega) l.length 0 N (by omega) (by omega) with ⟨j, p, e1, e2, e3⟩ | ⟨e1, e3⟩
  · rw [List.drop_zero] at e3
    rw [show slices_IndexFunc_apiMadeapiMade_L1 N l a b N 0 = _ from e1, Option.bind_some]
    simp only
    rw [Option.bind_some, if_neg (by omega), atI_at e2, Option.bind_some, e3]; rfl
  · rw [List.drop_zero] at e3
    rw [show slices_IndexFunc_apiMadeapiMade_L1 N l a b N 0 = _ from e1, Option.bind_some]
    simp only
    rw [Option.bind_some, if_pos (by omega), e3]; rfl
/-! ### a code's parts -/
def fc (l : List TMade) (c : Int) : Option TMade := l.find? fun p => decide (p.Code = c)
def pt (l : List TMade) : Nat → Int → List Int
  | 0, c => [c]
  | d + 1, c => match fc l c with
    | none => [c]
    | some p => pt l d p.A ++ (if p.B = -1 then [] else pt l d p.B)
theorem pt_len (l : List TMade) : ∀ (d : Nat) (c : Int), 1 ≤ (pt l d c).length ∧ (pt l d c).length ≤ 2 ^ d
  | 0, c => by simp [pt]
  | d + 1, c => by
    simp only [pt]
    cases fc l c with
    | none => simp; exact Nat.one_le_two_pow
    | some p =>
      have h1 := pt_len l d p.A
      have h2 := pt_len l d p.B
      simp only [List.length_append]
      rw [Nat.pow_succ]
      split
      · simp; omega
      · omega
theorem fc_at {l : List TMade} (hp : l.Pairwise fun p q => p.Code < q.Code) {c : Int} {i : Nat} (h1 : ∀ (j : Nat) (p : TMade), j < i → l[j]? = some p → p.Code < c) (h2 : ∀ p, l[i]? = some p → c ≤ p.Code) :
    fc l c = match l[i]? with | none => none | some p => if p.Code = c then some p else none := by
  induction l generalizing i with
  | nil => rfl
  | cons x l ih =>
    rw [List.pairwise_cons] at hp
    unfold fc
    rw [List.find?_cons]
    cases i with
    | zero =>
      have := h2 x rfl
      simp only [List.getElem?_cons_zero]
      by_cases g : x.Code = c
      · rw [decide_eq_true g, if_pos g]
      · rw [decide_eq_false g, if_neg g]
        simp only
        rw [List.find?_eq_none]
        intro y hy
        have := hp.1 y hy
        simp; omega
    | succ i =>
      have := h1 0 x (by omega) rfl
      rw [decide_eq_false (by omega)]
      simp only [List.getElem?_cons_succ]
      exact ih hp.2 (fun j p hj h => h1 (j + 1) p (by omega) h) (fun p h => h2 p h)
theorem mid_eq {a b : Nat} (h : a + b ≤ 1000000) : IntKind.i64.wrap ((IntKind.u64.wrap (IntKind.i64.wrap ((a : Int) + (b : Int)))).fdiv 2) = (((a + b) / 2 : Nat) : Int) := by
  rw [w64 (x := (a : Int) + (b : Int)) (by omega) (by omega), show IntKind.u64.wrap ((a : Int) + (b : Int)) = (a : Int) + (b : Int) from IntWalk.u64_in _ ⟨by omega, by omega⟩, Int.fdiv_eq_ediv_of_nonneg _ (by omega), w64 (by omega) (by omega)]
  omega
theorem search_L1 {N : Nat} {l : List TMade} (hp : l.Pairwise fun p q => p.Code < q.Code) (hl : l.length ≤ 3000) {c : Int} : ∀ (d n lo hi : Nat), hi - lo < d → d ≤ n → lo ≤ hi → hi ≤ l.length →
    (∀ (j : Nat) (p : TMade), j < lo → l[j]? = some p → p.Code < c) → (∀ p, l[hi]? = some p → c ≤ p.Code) →
    ∃ i : Nat, sort_Search_L1 N l c n lo hi = some (i : Int) ∧ i ≤ l.length ∧ (∀ (j : Nat) (p : TMade), j < i → l[j]? = some p → p.Code < c) ∧ (∀ p, l[i]? = some p → c ≤ p.Code) := by
  intro d
  induction d with
  | zero => intro n lo hi h1 h2; omega
  | succ d ih =>
    intro n lo hi h1 h2 h3 h4 h5 h6
    obtain ⟨n, rfl⟩ : ∃ x, n = x + 1 := ⟨n - 1, by omega⟩
    rw [sort_Search_L1]
    by_cases g : (lo : Int) < (hi : Int)
    · rw [if_pos g, mid_eq (by omega)]
      have hm : (lo + hi) / 2 < l.length := by omega
      unfold decomp_parts_1
      rw [atI_get hm, Option.bind_some, Option.bind_some]
      by_cases g2 : c ≤ l[(lo + hi) / 2].Code
      · rw [decide_eq_true g2, if_pos rfl]
        exact ih n lo ((lo + hi) / 2) (by omega) (by omega) (by omega) (by omega) h5 (fun p h => by rw [List.getElem?_eq_getElem hm] at h; rw [← Option.some.inj h]; exact g2)
      · rw [decide_eq_false g2, if_neg (by simp), wk (by omega)]
        refine ih n ((lo + hi) / 2 + 1) hi (by omega) (by omega) (by omega) (by omega) (fun j p hj h => ?_) h6
        obtain ⟨hj', rfl⟩ := List.getElem?_eq_some_iff.1 h
        rcases Nat.lt_or_ge j ((lo + hi) / 2) with g3 | g3
        · have := (List.pairwise_iff_getElem.1 hp) j ((lo + hi) / 2) hj' hm g3
          omega
        · have : j = (lo + hi) / 2 := by omega
          subst this; omega
    · rw [if_neg g]
      have : lo = hi := by omega
      subst this
      exact ⟨lo, rfl, h4, h5, h6⟩
theorem parts_eq {N : Nat} (hN : 1000000000000 < N) {l : List TMade} (hr : RtM l) : ∀ (left n : Nat) (c : Int), left ≤ 4 → left < n → decomp_parts N n l c (4 - left : Int) = some (pt l left c) := by
  have hp := chM_pw hr.2
  have hl := hr.1
  intro left
  induction left with
  | zero =>
    intro n c h1 h2
    obtain ⟨n, rfl⟩ : ∃ x, n = x + 1 := ⟨n - 1, by omega⟩
    obtain ⟨i, e, hi, i1, i2⟩ := search_L1 (N := N) hp hl (c := c) (l.length + 1) N 0 l.length (by omega) (by omega) (by omega) (by omega) (fun j p hj => by omega) (fun p h => by simp at h)
    rw [decomp_parts]
    unfold sort_Search
    rw [show sort_Search_L1 N l c N 0 (l.length : Int) = _ from e, Option.bind_some, Option.bind_some]
    by_cases g : (i : Int) = (l.length : Int)
    · rw [if_pos g]; rfl
    · rw [if_neg g, atI_get (by omega), Option.bind_some]
      split
      · rw [if_pos (by omega)]; rfl
      · rfl
  | succ left ih =>
    intro n c h1 h2
    obtain ⟨n, rfl⟩ : ∃ x, n = x + 1 := ⟨n - 1, by omega⟩
    obtain ⟨i, e, hi, i1, i2⟩ := search_L1 (N := N) hp hl (c := c) (l.length + 1) N 0 l.length (by omega) (by omega) (by omega) (by omega) (fun j p hj => by omega) (fun p h => by simp at h)
    have hf := fc_at hp i1 i2
    rw [decomp_parts]
    unfold sort_Search
    rw [show sort_Search_L1 N l c N 0 (l.length : Int) = _ from e, Option.bind_some, Option.bind_some]
    simp only [pt]
    by_cases g : (i : Int) = (l.length : Int)
    · rw [if_pos g, hf, List.getElem?_eq_none (by omega)]
    · have hil : i < l.length := by omega
      rw [List.getElem?_eq_getElem hil] at hf
      rw [if_neg g, atI_get hil, Option.bind_some]
      simp only at hf
      by_cases g2 : l[i].Code = c
      · rw [if_pos g2] at hf
        rw [if_pos g2, hf, if_neg (by omega), show IntKind.i64.wrap ((4 - ((left + 1 : Nat) : Int)) + 1) = 4 - (left : Int) by rw [w64 (by omega) (by omega)]; omega, ih n _ (by omega) (by omega), Option.bind_some]
        simp only
        have hB := (chM_mem hr.2 _ (List.getElem_mem hil)).2.2.2
        by_cases g3 : l[i].B = -1
        · rw [if_neg (by omega), if_pos g3, List.append_nil]
        · have := vld_ge (hB.resolve_left g3)
          have l1 := (pt_len l left l[i].A).2
          have l2 := (pt_len l left l[i].B).2
          have l3 : 2 ^ left ≤ 2 ^ 4 := Nat.pow_le_pow_right (by omega) (by omega)
          rw [if_pos this, ih n _ (by omega) (by omega), Option.bind_some, if_pos (by omega), if_neg g3]
      · rw [if_neg g2] at hf
        rw [if_neg g2, hf]
theorem dparts_eq {N : Nat} (hN : 1000000000000 < N) {l : List TMade} (hr : RtM l) (c : Int) : decomp_Parts N l c = some (pt l 4 c) := by
  obtain ⟨r, e, h⟩ := dright_eq hN l
  unfold decomp_Parts
  rw [e, Option.bind_some, if_pos (h.2 hr), show decomp_parts N N l c 0 = _ from parts_eq hN hr 4 N c (by omega) (by omega), Option.bind_some]
end Go.Proofs.Ytejkiahbknjmaaa.AI
