/- Part of a proof. -/
import Derived.Test.YtnbnajjoinahiaaPS1
set_option linter.unusedVariables false
set_option linter.unusedSimpArgs false
set_option maxRecDepth 100000
namespace Go.Proofs.Ytnbnajjoinahiaa.AI
theorem pig2 : ∀ (q : Nat) (G : List Int), G.length = q → (∀ v : Nat, v < q → ((v : Nat) : Int) ∈ G) → G.Nodup ∧ ∀ x ∈ G, 0 ≤ x ∧ x < (q : Int)
 | 0, G, h, _ => by rw [List.eq_nil_of_length_eq_zero h]; exact ⟨List.nodup_nil, by simp⟩
 | q + 1, G, h, hv => by
  have hm := hv q (by omega)
  have hp := List.perm_cons_erase hm
  have hlen : (G.erase (q : Int)).length = q := by rw [List.length_erase_of_mem hm]; omega
  obtain ⟨h1, h2⟩ := pig2 q (G.erase (q : Int)) hlen (fun v hv' => (List.mem_erase_of_ne (by omega)).2 (hv v (by omega)))
  refine ⟨hp.nodup_iff.2 (List.nodup_cons.2 ⟨fun h => by have := h2 _ h; omega, h1⟩), fun x hx => ?_⟩
  rcases List.mem_cons.1 (hp.mem_iff.1 hx) with rfl | hx
  ·
   omega
  ·
   have := h2 x hx; omega
theorem nodup_le : ∀ (q : Nat) (l : List Int), l.Nodup → (∀ x ∈ l, 0 ≤ x ∧ x < (q : Int)) → l.length ≤ q
 | 0, l, _, h => by
  cases l with
  | nil => exact Nat.le_refl _
  | cons x l => have := h x (by simp); omega
 | q + 1, l, hn, h => by
  by_cases hm : (q : Int) ∈ l
  ·
   have hp := List.perm_cons_erase hm
   have hn' := hp.nodup_iff.1 hn
   rw [List.nodup_cons] at hn'
   have := nodup_le q (l.erase (q : Int)) hn'.2 (fun x hx => by
    have h1 := h x (List.mem_of_mem_erase hx)
    have : x ≠ (q : Int) := fun e => hn'.1 (e ▸ hx)
    omega)
   have := hp.length_eq
   simp at this; omega
  ·
   have := nodup_le q l hn (fun x hx => by
    have h1 := h x hx
    have : x ≠ (q : Int) := fun e => hm (e ▸ hx)
    omega)
   omega
theorem fine_same {c0 out : List Int} {q : Nat} (hl : out.length = c0.length) (hgot : ∀ v : Nat, v < q → ((v : Nat) : Int) ∈ out) (hlt : ∀ x ∈ out, 0 ≤ x ∧ x < (q : Int)) (hf : ∀ i j : Nat, i < c0.length → j < c0.length → out[i]? = out[j]? → c0[i]? = c0[j]?)
  (hv : ∀ v : Nat, v < q → ((v : Nat) : Int) ∈ c0) : (∀ x ∈ c0, 0 ≤ x ∧ x < (q : Int)) ∧ ∀ i j : Nat, i < c0.length → j < c0.length → c0[i]? = c0[j]? → out[i]? = out[j]? := by
 let g : Nat → Int := fun u => (c0[(out.findIdx fun x => decide (x = (u : Int)))]?).getD 0
 have hg : ∀ (i u : Nat), i < c0.length → out[i]? = some (u : Int) → c0[i]? = some (g u) := by
  intro i u hi ho
  have hmem : ∃ x ∈ out, decide (x = (u : Int)) = true := ⟨u, List.mem_of_getElem? ho, by simp⟩
  have hlt' := List.findIdx_lt_length.2 hmem
  have hat := List.findIdx_getElem (w := hlt')
  have h1 := hf i _ hi (by rw [← hl]; exact hlt') (by rw [ho, List.getElem?_eq_getElem hlt', of_decide_eq_true hat])
  rw [h1]
  show _ = some ((c0[_]?).getD 0)
  rw [List.getElem?_eq_getElem (by rw [← hl]; exact hlt')]; rfl
 let G := (List.range q).map g
 obtain ⟨h1, h2⟩ := pig2 q G (by simp [G]) (fun v hv' => by
  obtain ⟨i, hi, he⟩ := List.getElem_of_mem (hv v hv')
  have hio : i < out.length := by omega
  have ho := hlt out[i] (List.getElem_mem hio)
  have h3 := hg i out[i].toNat hi (by rw [List.getElem?_eq_getElem hio]; congr 1; omega)
  rw [List.getElem?_eq_getElem hi, he] at h3
  refine List.mem_map.2 ⟨out[i].toNat, List.mem_range.2 (by omega), (Option.some.inj h3).symm⟩)
 have hat : ∀ i, i < c0.length → ∃ u : Nat, u < q ∧ out[i]? = some (u : Int) ∧ c0[i]? = some (g u) := fun i hi => by
  have hio : i < out.length := by omega
  have ho := hlt out[i] (List.getElem_mem hio)
  have h4 : out[i]? = some ((out[i].toNat : Nat) : Int) := by rw [List.getElem?_eq_getElem hio]; congr 1; omega
  exact ⟨out[i].toNat, by omega, h4, hg i _ hi h4⟩
 refine ⟨fun x hx => ?_, fun i j hi hj h => ?_⟩
 ·
  obtain ⟨i, hi, rfl⟩ := List.getElem_of_mem hx
  obtain ⟨u, hu, _, h3⟩ := hat i hi
  rw [List.getElem?_eq_getElem hi] at h3
  rw [Option.some.inj h3]
  exact h2 _ (List.mem_map.2 ⟨u, List.mem_range.2 hu, rfl⟩)
 ·
  obtain ⟨u, hu, ho, h3⟩ := hat i hi
  obtain ⟨u', hu', ho', h3'⟩ := hat j hj
  rw [h3, h3'] at h
  have e := Option.some.inj h
  have : u = u' := by
   have hG : ∀ (a : Nat) (ha : a < q), G[a]'(by simp [G]; exact ha) = g a := fun a ha => by simp [G]
   have := (List.getElem_inj (h₀ := by simp [G]; exact hu) (h₁ := by simp [G]; exact hu') h1).1 (by rw [hG u hu, hG u' hu', e])
   exact this
  rw [ho, ho', this]
theorem kyL_at {rows : List (Vector Int 16)} {cls : List Int} {i : Nat} {r : Vector Int 16} (hr : rows[i]? = some r) : kyL rows cls i = r.toList.map (kyF cls) ++ [(cls[i]?).getD 0] := by unfold kyL; rw [hr]; rfl
theorem kyL_cell {rows : List (Vector Int 16)} {cls : List Int} {i j k : Nat} {r r' : Vector Int 16} (hr : rows[i]? = some r) (hr' : rows[j]? = some r') (h : kyL rows cls i = kyL rows cls j) (hk : k < 16) : kyF cls (r.toList[k]'(by rw [vlen]; exact hk)) = kyF cls (r'.toList[k]'(by rw [vlen]; exact hk)) := by
 rw [kyL_at hr, kyL_at hr'] at h
 have h1 := (List.append_inj' h rfl).1
 have h2 := congrArg (fun l : List Int => l[k]?) h1
 simp only [List.getElem?_map] at h2
 rw [List.getElem?_eq_getElem (by rw [vlen]; exact hk), List.getElem?_eq_getElem (by rw [vlen]; exact hk)] at h2
 simpa using h2
theorem kyF_at {cls : List Int} {q : Nat} (hq : q < cls.length) : kyF cls (q : Int) = cls[q] := by unfold kyF; rw [if_pos (by omega), Int.toNat_natCast, List.getElem?_eq_getElem hq]; rfl
structure Cls (l0 : List (Vector Int 16)) (l1 cls : List Int) (q : Nat) : Prop where
 len : cls.length = l0.length
 le : q ≤ l0.length
 lt : ∀ x ∈ cls, 0 ≤ x ∧ x < (q : Int)
 iff : ∀ i j : Nat, i < l0.length → j < l0.length → (cls[i]? = cls[j]? ↔ ∀ w, lang l0 l1 w i = lang l0 l1 w j)
theorem classes_sem {N : Nat} (hN : 1000000000000 < N) {l0 : List (Vector Int 16)} {l1 : List Int} (h : RightP l0 l1) {y : List Bool} (hy : mini_Dead N l0 l1 = some y) (hyl : y.length = l0.length) (hA : Liv l0 l1 (alRs y 0 l0)) :
  ∃ cls q, mini_classes N l0 l1 = some cls ∧ Cls l0 l1 cls q := by
 have hl : l1.length = l0.length := h.2.2.1
 have hAl : (alRs y 0 l0).length = l0.length := alRs_len y l0 0
 generalize hAe : alRs y 0 l0 = A at hA hAl
 have hrow : ∀ i : Nat, i < l0.length → ∃ r, A[i]? = some r := fun i hi => ⟨A[i]'(by omega), List.getElem?_eq_getElem _⟩
 obtain ⟨c0, out, q, e, ⟨hI1, hI2⟩, hc0, hR, hv⟩ := classes_eq hN h hy hyl (fun cls => (∀ i j : Nat, i < l0.length → j < l0.length → (∀ w, lang l0 l1 w i = lang l0 l1 w j) → cls[i]? = cls[j]?) ∧ ∀ i j : Nat, i < l0.length → j < l0.length → cls[i]? = cls[j]? → l1[i]? = l1[j]?)
  ⟨fun i j hi hj hw => by
   have := hw []
   unfold lang at this
   rw [outc_at (by omega), outc_at (by omega)] at this
   rw [List.getElem?_eq_getElem (by omega), List.getElem?_eq_getElem (by omega), this], fun i j _ _ h => h⟩
  (fun cls out k hcl ⟨hI1, hI2⟩ hR => by
   rw [hAe] at hR
   refine ⟨fun i j hi hj hw => (hR.same i j (by omega) (by omega)).2 ?_, fun i j hi hj ho => hI2 i j hi hj (kyL_last (by omega) (by omega) ((hR.same i j (by omega) (by omega)).1 ho))⟩
   obtain ⟨r, hr⟩ := hrow i hi
   obtain ⟨r', hr'⟩ := hrow j hj
   rw [kyL_at hr, kyL_at hr', hI1 i j hi hj hw]
   congr 1
   refine List.ext_getElem (by simp) fun k hk hk' => ?_
   have hk16 : k < 16 := by simpa using hk
   rw [List.getElem_map, List.getElem_map]
   have s1 := stp_at hr hk16
   have s2 := stp_at hr' hk16
   have o1 := okRow_at (hA.ok r (List.mem_of_getElem? hr)) hk16
   have o2 := okRow_at (hA.ok r' (List.mem_of_getElem? hr')) hk16
   have v1 := hA.liv (i : Int) (k : Int)
   have v2 := hA.liv (j : Int) (k : Int)
   have hw' : ∀ w, lang l0 l1 w (stp A i k) = lang l0 l1 w (stp A j k) := fun w => by
    have := hw ((k : Int) :: w)
    rw [← hA.same, ← hA.same] at this
    unfold lang at this
    rw [hA.same, hA.same] at this
    exact this
   rw [s1] at v1 hw'
   rw [s2] at v2 hw'
   generalize r.toList[k]'(by rw [vlen]; exact hk16) = a at o1 v1 hw'
   generalize r'.toList[k]'(by rw [vlen]; exact hk16) = b at o2 v2 hw'
   by_cases ha : 0 ≤ a
   ·
    by_cases hb : 0 ≤ b
    ·
     obtain ⟨p, rfl⟩ := Int.eq_ofNat_of_zero_le ha
     obtain ⟨p', rfl⟩ := Int.eq_ofNat_of_zero_le hb
     have hp : p < l0.length := by have := o1.2; omega
     have hp' : p' < l0.length := by have := o2.2; omega
     have := hI1 p p' hp hp' hw'
     rw [List.getElem?_eq_getElem (by omega), List.getElem?_eq_getElem (by omega)] at this
     rw [kyF_at (by omega), kyF_at (by omega), Option.some.inj this]
    ·
     exact absurd (fun w => by rw [hw' w, lang_neg w (by omega)]) (v1 ha)
   ·
    by_cases hb : 0 ≤ b
    ·
     exact absurd (fun w => by rw [← hw' w, lang_neg w (by omega)]) (v2 hb)
    ·
     unfold kyF; rw [if_neg ha, if_neg hb])
 rw [hAe] at hR
 have hol : out.length = l0.length := by rw [hR.len, hc0]
 obtain ⟨hb, hinj⟩ := fine_same (c0 := c0) (out := out) (q := q) (by omega) hR.got hR.lt (fun i j hi hj ho => kyL_last hi hj ((hR.same i j (by omega) (by omega)).1 ho)) hv
 refine ⟨out, q, e, hol, by have := hR.le; omega, hR.lt, fun i j hi hj => ⟨fun ho => ?_, fun hw => ?_⟩⟩
 ·
  have hc : c0[i]? = c0[j]? := kyL_last (by omega) (by omega) ((hR.same i j (by omega) (by omega)).1 ho)
  intro w
  rw [← hA.same, ← hA.same]
  clear ho
  induction w generalizing i j with
  | nil =>
   have h1 := hI2 i j hi hj hc
   rw [List.getElem?_eq_getElem (by omega), List.getElem?_eq_getElem (by omega)] at h1
   unfold lang
   rw [outc_at (by omega), outc_at (by omega), Option.some.inj h1]
  | cons c w ih =>
   unfold lang
   have ho := hinj i j (by omega) (by omega) hc
   have hk := (hR.same i j (by omega) (by omega)).1 ho
   obtain ⟨r, hr⟩ := hrow i hi
   obtain ⟨r', hr'⟩ := hrow j hj
   by_cases hcc : 0 ≤ c ∧ c < 16
   ·
    obtain ⟨k, rfl⟩ := Int.eq_ofNat_of_zero_le hcc.1
    have hk16 : k < 16 := by omega
    have hkk := kyL_cell hr hr' hk hk16
    rw [stp_at hr hk16, stp_at hr' hk16]
    have o1 := okRow_at (hA.ok r (List.mem_of_getElem? hr)) hk16
    have o2 := okRow_at (hA.ok r' (List.mem_of_getElem? hr')) hk16
    generalize r.toList[k]'(by rw [vlen]; exact hk16) = a at o1 hkk
    generalize r'.toList[k]'(by rw [vlen]; exact hk16) = b at o2 hkk
    by_cases ha : 0 ≤ a
    ·
     obtain ⟨p, rfl⟩ := Int.eq_ofNat_of_zero_le ha
     have hp : p < l0.length := by have := o1.2; omega
     rw [kyF_at (by omega)] at hkk
     by_cases hb' : 0 ≤ b
     ·
      obtain ⟨p', rfl⟩ := Int.eq_ofNat_of_zero_le hb'
      have hp' : p' < l0.length := by have := o2.2; omega
      rw [kyF_at (by omega)] at hkk
      exact ih p p' hp hp' (by rw [List.getElem?_eq_getElem (by omega), List.getElem?_eq_getElem (by omega), hkk])
     ·
      have := hb _ (List.getElem_mem (show p < c0.length by omega))
      unfold kyF at hkk
      rw [if_neg hb'] at hkk; omega
    ·
     by_cases hb' : 0 ≤ b
     ·
      obtain ⟨p', rfl⟩ := Int.eq_ofNat_of_zero_le hb'
      have hp' : p' < l0.length := by have := o2.2; omega
      rw [kyF_at (q := p') (by omega)] at hkk
      have := hb _ (List.getElem_mem (show p' < c0.length by omega))
      unfold kyF at hkk
      rw [if_neg ha] at hkk; omega
     ·
      rw [lang_neg w (by omega), lang_neg w (by omega)]
   ·
    have hz : ∀ x : Int, stp A x c = -1 := fun x => by
     rcases stp_cases (rows := A) x c with h | ⟨_, k, _, _, rfl, _, hk⟩
     ·
      exact h
     ·
      omega
    rw [hz, hz]
 ·
  have := hI1 i j hi hj hw
  exact hinj i j (by omega) (by omega) this
end Go.Proofs.Ytnbnajjoinahiaa.AI
