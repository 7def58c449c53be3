/- Plain law of the order of marks. -/
import Derived.Test.YtejkiahbknjmaaaDS4
set_option linter.unusedVariables false
set_option linter.unusedSimpArgs false
set_option maxRecDepth 100000
namespace Go.Proofs.Ytejkiahbknjmaaa.AI
def zb (l : List Int) : Nat → Nat
  | 0 => 0
  | u + 1 => zb l u + if kk l (u : Int) = 0 then 1 else 0
theorem zb_mono {l : List Int} {u : Nat} : ∀ {v : Nat}, u ≤ v → zb l u ≤ zb l v := by
  intro v h
  induction v with
  | zero => have : u = 0 := by omega
            subst this; exact Nat.le_refl _
  | succ v ih =>
    rcases Nat.eq_or_lt_of_le h with e | e
    · subst e; exact Nat.le_refl _
    · have := ih (by omega)
      simp only [zb]; omega
theorem zb_same {l : List Int} {u : Nat} : ∀ {v : Nat}, u ≤ v → (∀ w : Nat, u ≤ w → w < v → kk l (w : Int) ≠ 0) → zb l u = zb l v := by
  intro v h hz
  induction v with
  | zero => have : u = 0 := by omega
            subst this; rfl
  | succ v ih =>
    rcases Nat.eq_or_lt_of_le h with e | e
    · subst e; rfl
    · have := ih (by omega) (fun w h1 h2 => hz w h1 (by omega))
      simp only [zb, if_neg (hz v (by omega) (by omega))]; omega
def pc (l : List Int) (e : Int) : Nat := 2 * zb l e.toNat + if kk l e = 0 then 1 else 0
def Rr (l : List Int) (u v : Int) : Prop := pc l u < pc l v ∨ (pc l u = pc l v ∧ ltk l u v)
theorem pc_lt {l : List Int} {u v : Nat} (h : u < v) : pc l (u : Int) ≤ pc l (v : Int) ∧ (kk l (u : Int) = 0 → pc l (u : Int) < pc l (v : Int)) ∧ (kk l (v : Int) = 0 → pc l (u : Int) < pc l (v : Int)) := by
  have h1 := zb_mono (l := l) (show u + 1 ≤ v by omega)
  simp only [zb] at h1
  unfold pc
  rw [Int.toNat_natCast, Int.toNat_natCast]
  refine ⟨?_, fun h => ?_, fun h => ?_⟩
  · split at h1 <;> split <;> first | omega | (split <;> omega)
  · rw [if_pos h] at h1 ⊢; omega
  · rw [if_pos h]; split at h1 <;> split <;> omega
theorem pc_same {l : List Int} {u v : Nat} (h : u ≤ v) (hz : ∀ w : Nat, u ≤ w → w ≤ v → kk l (w : Int) ≠ 0) : pc l (u : Int) = pc l (v : Int) := by
  unfold pc
  rw [Int.toNat_natCast, Int.toNat_natCast, zb_same h (fun w h1 h2 => hz w h1 (by omega)), if_neg (hz u (by omega) h), if_neg (hz v h (by omega))]
def up : Nat → Nat → List Int
  | _, 0 => []
  | i, d + 1 => (i : Int) :: up (i + 1) d
theorem up_len : ∀ (i d : Nat), (up i d).length = d
  | i, 0 => rfl
  | i, d + 1 => by simp [up, up_len]
theorem up_app : ∀ (i a b : Nat), up i (a + b) = up i a ++ up (i + a) b
  | i, 0, b => by simp [up]
  | i, a + 1, b => by
    rw [show a + 1 + b = (a + b) + 1 by omega]
    simp only [up, List.cons_append]
    rw [up_app (i + 1) a b, show i + 1 + a = i + (a + 1) by omega]
theorem up_mem : ∀ {i d : Nat} {x : Int}, x ∈ up i d ↔ ∃ k : Nat, i ≤ k ∧ k < i + d ∧ x = (k : Int)
  | i, 0, x => by simp [up]; intro k h1 h2; omega
  | i, d + 1, x => by
    simp only [up, List.mem_cons, up_mem (i := i + 1) (d := d)]
    constructor
    · rintro (rfl | ⟨k, h1, h2, rfl⟩)
      · exact ⟨i, Nat.le_refl _, by omega, rfl⟩
      · exact ⟨k, by omega, by omega, rfl⟩
    · rintro ⟨k, h1, h2, rfl⟩
      rcases Nat.eq_or_lt_of_le h1 with e | e
      · subst e; exact .inl rfl
      · exact .inr ⟨k, by omega, by omega, rfl⟩
theorem up_asc : ∀ (i d : Nat), asc (up i d)
  | i, 0 => List.Pairwise.nil
  | i, d + 1 => List.Pairwise.cons (fun x hx => by obtain ⟨k, h1, h2, rfl⟩ := up_mem.1 hx; omega) (up_asc (i + 1) d)
theorem marks_L1 {N : Nat} {l : List Int} (hl : l.length ≤ 1000) : ∀ (d k n : Nat) (s : List Int), k + d = l.length → d < n → s.length ≤ k → decomp_Marks_L1 N l n k s = some (s ++ up k d) := by
  intro d
  induction d with
  | zero =>
    intro k n s hk hn hs
    obtain ⟨n, rfl⟩ : ∃ x, n = x + 1 := ⟨n - 1, by omega⟩
    rw [decomp_Marks_L1, if_neg (by omega)]; simp [up]
  | succ d ih =>
    intro k n s hk hn hs
    obtain ⟨n, rfl⟩ : ∃ x, n = x + 1 := ⟨n - 1, by omega⟩
    rw [decomp_Marks_L1, if_pos (by omega), if_pos (by omega), wk (by omega), ih (k + 1) n _ (by omega) (by omega) (by simp; omega)]
    simp [up]
theorem marks_L3 {N : Nat} {l s : List Int} {i0 : Int} (hl : l.length ≤ 1000) : ∀ (d k n : Nat), k + d = l.length → d < n → ∃ t : Nat, decomp_Marks_L3 N i0 l s n k = some (t : Int) ∧ k ≤ t ∧ t ≤ l.length ∧ (∀ w : Nat, k ≤ w → w < t → kk l (w : Int) ≠ 0) ∧ (t < l.length → kk l (t : Int) = 0) := by
  intro d
  induction d with
  | zero =>
    intro k n hk hn
    obtain ⟨n, rfl⟩ : ∃ x, n = x + 1 := ⟨n - 1, by omega⟩
    rw [decomp_Marks_L3, if_neg (by omega)]
    exact ⟨k, rfl, Nat.le_refl _, by omega, fun w h1 h2 => by omega, fun h => by omega⟩
  | succ d ih =>
    intro k n hk hn
    obtain ⟨n, rfl⟩ : ∃ x, n = x + 1 := ⟨n - 1, by omega⟩
    rw [decomp_Marks_L3, if_pos (by omega), atI_kk ⟨by omega, by omega⟩, Option.bind_some, wk (by omega)]
    by_cases g : kk l (k : Int) = 0
    · rw [if_pos g]
      exact ⟨k, rfl, Nat.le_refl _, by omega, fun w h1 h2 => by omega, fun _ => g⟩
    · rw [if_neg g]
      obtain ⟨t, e, h1, h2, h3, h4⟩ := ih (k + 1) n (by omega) (by omega)
      refine ⟨t, e, by omega, h2, fun w w1 w2 => ?_, h4⟩
      rcases Nat.eq_or_lt_of_le w1 with e | e
      · subst e; exact g
      · exact h3 w (by omega) w2
theorem marks_L4 {N : Nat} (hN : 1000000000000 < N) {l : List Int} (hl : l.length ≤ 1000) : ∀ (d n f : Nat) (P : List Int), l.length - f < d → d < n → f ≤ l.length → P.Perm (up 0 f) → P.Pairwise (Rr l) → (∀ u ∈ P, ∀ v : Nat, f ≤ v → v < l.length → pc l u < pc l (v : Int)) →
    ∃ o, decomp_Marks_L4 N l n f (P ++ up f (l.length - f)) = some o ∧ o.Perm (up 0 l.length) ∧ o.Pairwise (Rr l) := by
  intro d
  induction d with
  | zero => intro n f P h; omega
  | succ d ih =>
    intro n f P h1 h2 h3 h4 h5 h6
    obtain ⟨n, rfl⟩ : ∃ x, n = x + 1 := ⟨n - 1, by omega⟩
    have pl := h4.length_eq
    rw [up_len] at pl
    rw [decomp_Marks_L4]
    by_cases g : (f : Int) < (l.length : Int)
    · obtain ⟨t, e, t1, t2, t3, t4⟩ := marks_L3 (N := N) (l := l) (s := P ++ up f (l.length - f)) (i0 := (f : Int)) hl (l.length - f) f N (by omega) (by omega)
      have hsp : up f (l.length - f) = up f (t - f) ++ up t (l.length - t) := by
        rw [show l.length - f = (t - f) + (l.length - t) by omega, up_app, show f + (t - f) = t by omega]
      have hin : inr l (up f (t - f)) := fun e he => by obtain ⟨k, k1, k2, rfl⟩ := up_mem.1 he; omega
      obtain ⟨Z, e2, zp, zs⟩ := sort_eq hN (l := l) (D := up f (t - f)) (L := P) (R := up t (l.length - t)) (F := f) (T := t) (by omega) pl (by rw [up_len]; omega) hin (up_asc _ _)
      have zl := zp.length_eq
      rw [up_len] at zl
      have hZ : ∀ v ∈ Z, ∃ k : Nat, f ≤ k ∧ k < t ∧ v = (k : Int) := fun v hv => by
        obtain ⟨k, k1, k2, rfl⟩ := up_mem.1 (zp.mem_iff.1 hv); exact ⟨k, k1, by omega, rfl⟩
      have hPZ : (P ++ Z).Pairwise (Rr l) := by
        refine List.pairwise_append.2 ⟨h5, ?_, fun u hu v hv => ?_⟩
        · refine List.Pairwise.imp_of_mem (fun {u v} hu hv huv => ?_) zs
          obtain ⟨a, a1, a2, rfl⟩ := hZ u hu
          obtain ⟨b, b1, b2, rfl⟩ := hZ v hv
          refine .inr ⟨?_, huv⟩
          rcases Nat.le_total a b with q | q
          · exact pc_same q (fun w w1 w2 => t3 w (by omega) (by omega))
          · exact (pc_same q (fun w w1 w2 => t3 w (by omega) (by omega))).symm
        · obtain ⟨b, b1, b2, rfl⟩ := hZ v hv
          exact .inl (h6 u hu b b1 (by omega))
      have hperm : (P ++ Z).Perm (up 0 t) := by
        rw [show t = f + (t - f) by omega, up_app, Nat.zero_add]
        exact h4.append zp
      rw [if_pos g, e, Option.bind_some, if_pos (by omega), if_pos (by omega), if_pos (by simp [up_len]; omega), show P ++ up f (l.length - f) = P ++ up f (t - f) ++ up t (l.length - t) by rw [hsp]; simp, e2, Option.bind_some, if_pos (by simp [up_len]; omega), wk (by omega)]
      by_cases g2 : t < l.length
      · have hz := t4 g2
        have hup : up t (l.length - t) = (t : Int) :: up (t + 1) (l.length - (t + 1)) := by
          rw [show l.length - t = (l.length - (t + 1)) + 1 by omega]; rfl
        rw [hup, show P ++ Z ++ (t : Int) :: up (t + 1) (l.length - (t + 1)) = (P ++ Z ++ [(t : Int)]) ++ up (t + 1) (l.length - (t + 1)) by simp]
        have hlow : ∀ u ∈ P ++ Z, ∃ k : Nat, k < t ∧ u = (k : Int) := fun u hu => by
          obtain ⟨k, k1, k2, rfl⟩ := up_mem.1 (hperm.mem_iff.1 hu); exact ⟨k, by omega, rfl⟩
        refine ih n (t + 1) _ (by omega) (by omega) (by omega) ?_ ?_ ?_
        · rw [up_app 0 t 1, Nat.zero_add]
          exact hperm.append (List.Perm.refl _)
        · refine List.pairwise_append.2 ⟨hPZ, List.pairwise_singleton _ _, fun u hu v hv => ?_⟩
          rw [List.mem_singleton.1 hv]
          obtain ⟨k, k1, rfl⟩ := hlow u hu
          exact .inl ((pc_lt k1).2.2 hz)
        · intro u hu v v1 v2
          rcases List.mem_append.1 hu with hu | hu
          · obtain ⟨k, k1, rfl⟩ := hlow u hu
            have a1 := (pc_lt (l := l) k1).2.2 hz
            have a2 := (pc_lt (l := l) (show t < v by omega)).1
            omega
          · rw [List.mem_singleton.1 hu]
            exact (pc_lt (l := l) (show t < v by omega)).2.1 hz
      · have ht : t = l.length := by omega
        subst ht
        obtain ⟨n, rfl⟩ : ∃ x, n = x + 1 := ⟨n - 1, by omega⟩
        rw [decomp_Marks_L4, if_neg (by omega), Nat.sub_self]
        exact ⟨P ++ Z, by simp [up], hperm, hPZ⟩
    · have hf : f = l.length := by omega
      subst hf
      rw [if_neg g, Nat.sub_self]
      exact ⟨P, by simp [up], h4, h5⟩
theorem marks_eq {N : Nat} (hN : 1000000000000 < N) {l : List Int} (hl : l.length ≤ 1000) : ∃ o, decomp_Marks N l = some o ∧ o.Perm (up 0 l.length) ∧ o.Pairwise (Rr l) := by
  unfold decomp_Marks
  have e1 : decomp_Marks_L1 N l N 0 [] = some (up 0 l.length) := (marks_L1 (N := N) hl l.length 0 N [] (by omega) (by omega) (by simp)).trans (by simp)
  rw [e1, Option.bind_some]
  obtain ⟨o, e, h1, h2⟩ := marks_L4 hN hl (l.length + 1) N 0 [] (by omega) (by omega) (by omega) (List.Perm.refl _) List.Pairwise.nil (by simp)
  have e' : decomp_Marks_L4 N l N 0 (up 0 l.length) = some o := e
  rw [e', Option.bind_some]
  exact ⟨o, rfl, h1, h2⟩
end Go.Proofs.Ytejkiahbknjmaaa.AI
