/- Part of a proof. -/
import Derived.Test.YtnbnajjoinahiaaPS4
set_option linter.unusedVariables false
set_option linter.unusedSimpArgs false
set_option maxRecDepth 100000
namespace Go.Proofs.Ytnbnajjoinahiaa.AI
theorem canR_mono : ∀ {r : List Int} {k k' : Nat}, canR k r k' → k ≤ k'
 | [], k, k', h => by have : k = k' := h; omega
 | x :: r, k, k', h => by
  rcases h with ⟨_, h⟩ | ⟨_, _, h⟩ | ⟨_, h⟩
  ·
   exact canR_mono h
  ·
   exact canR_mono h
  ·
   have := canR_mono h; omega
theorem canRs_mono : ∀ {rs : List (Vector Int 16)} {i k k' : Nat}, canRs i k rs k' → k ≤ k'
 | [], i, k, k', h => by have : k = k' := h; omega
 | v :: rs, i, k, k', h => by
  obtain ⟨_, m, h1, h2⟩ := h
  have := canR_mono h1
  have := canRs_mono h2
  omega
def rgI (k : Nat) : List Int := (List.range k).map fun j : Nat => (j : Int)
theorem rgI_len (k : Nat) : (rgI k).length = k := by simp [rgI]
theorem rgI_get {k i : Nat} (h : i < k) : (rgI k)[i]? = some (i : Int) := by unfold rgI; rw [List.getElem?_map, List.getElem?_range h]; rfl
theorem again_L4 {N : Nat} (hN : 1000000000000 < N) {cls us : List Int} {rs : List (Vector Int 16)} {T : Nat} (hT : rs.length = T) (hT2 : T ≤ 200) (hu : us.length = T) (hc : cls.length = T) (hinj : ∀ a b : Nat, a < T → b < T → clx cls a = clx cls b → a = b) (hok : ∀ r ∈ rs, okRow (T : Int) r) :
  ∀ (d i k n : Nat), i + d = T → d < n → canRs i k (rs.drop i) T → mini_Small_L4 N cls rs us n i (mkm 0 ((rgI k).map (clx cls))) (rgI k) (rs.take i) (us.take i) = some (rs, us) := by
 intro d
 induction d with
 | zero =>
  intro i k n hd hn h
  obtain ⟨n, rfl⟩ : ∃ x, n = x + 1 := ⟨n - 1, by omega⟩
  rw [List.drop_eq_nil_of_le (by omega)] at h
  have : k = T := h
  subst this
  rw [mini_Small_L4, if_neg (by rw [rgI_len]; omega), List.take_of_length_le (by omega), List.take_of_length_le (by omega)]
 | succ d ih =>
  intro i k n hd hn h
  obtain ⟨n, rfl⟩ : ∃ x, n = x + 1 := ⟨n - 1, by omega⟩
  have hi : i < rs.length := by omega
  have hiu : i < us.length := by omega
  rw [List.drop_eq_getElem_cons hi] at h
  obtain ⟨hik, m, h1, h2⟩ := h
  have hmT := canRs_mono h2
  have hkm := canR_mono h1
  obtain ⟨v', e3, hv'⟩ := small_L3 (N := N) (cls := cls) (i := (i : Int)) (x := rs[i]) (y7 := rs) (y8 := us) (s18 := rs.take i) (s19 := us.take i) (by rw [hc]; exact hok _ (List.getElem_mem hi)) 16 0 N (rgI k) rs[i] (by omega) (by omega) (by rw [rgI_len]; omega) rfl
  simp only [List.drop_zero, List.take_zero, List.nil_append] at e3 hv'
  have hsc : scanR (clx cls) rs[i].toList (rgI k) = (rgI m, rs[i].toList) := scan_same hinj _ _ _ h1 hmT
  rw [hsc] at e3 hv'
  have hvv : v' = rs[i] := Vector.toList_inj.1 hv'
  subst hvv
  have ht : List.take i rs ++ [rs[i]] = rs.take (i + 1) := (List.take_succ_eq_append_getElem hi).symm
  have htu : List.take i us ++ [us[i]] = us.take (i + 1) := (List.take_succ_eq_append_getElem hiu).symm
  rw [mini_Small_L4, if_pos (by rw [rgI_len]; omega), atI_at (rgI_get hik), Option.bind_some, atI_get hi, Option.bind_some, show mini_Small_L3 N cls i rs[i] rs us _ _ N 0 _ (rgI k) rs[i] = _ from e3, Option.bind_some]
  simp only
  rw [if_pos (by rw [List.length_take]; omega), atI_at (rgI_get (show i < m by omega)), Option.bind_some, atI_get hiu, Option.bind_some, if_pos (by rw [List.length_take]; omega), wk (by omega), ht, htu]
  exact ih (i + 1) m n (by omega) (by omega) h2
theorem small_again {N : Nat} (hN : 1000000000000 < N) {l0 : List (Vector Int 16)} {l1 : List Int} (h : RightP l0 l1) {A : List (Vector Int 16)} {cls s : List Int} {q : Nat} {rs : List (Vector Int 16)} {us : List Int} (hA : Liv l0 l1 A) (hC : Cls l0 l1 cls q) (hS : Sm l0 l1 A (clx cls) s.length s rs us) :
  mini_Small N rs us = some (rs, us) := by
 obtain ⟨hR, _⟩ := hS.right h hA hC
 have hlg := hS.lang_eq hA hC
 have hrl := hS.rlen
 have hul := hS.ulen
 have hcl := hC.len
 obtain ⟨y, hy, hyl, hys⟩ := dead_sem hN hR
 have hdd : ∀ (p : Nat) (x : Int), s[p]? = some x → Dd rs us p → Dd l0 l1 x := fun p x hp hd w => by rw [← hlg w p x hp]; exact hd w
 have hdq : ∀ p : Nat, p < s.length → dQ y (p : Int) = true → Dd rs us p := fun p hp hd => by
  have h5 := dQ_get (y := y) (x := (p : Int)) (by omega) (by omega)
  rw [hd, Int.toNat_natCast] at h5
  exact (hys p (by omega)).1 h5
 have hal : alRs y 0 rs = rs := by
  refine List.ext_getElem? fun p => ?_
  rw [alRs_get]
  cases hr : rs[p]? with
  | none => rfl
  | some r =>
   have hpl := (List.getElem?_eq_some_iff.1 hr).1
   have hps : p < s.length := by omega
   have hsp : s[p]? = some s[p] := List.getElem?_eq_getElem hps
   rw [Option.map_some]
   congr 1
   rw [← Vector.toList_inj]
   unfold alR
   rw [Vector.toList_map, Nat.zero_add]
   refine List.ext_getElem (by simp) fun k hk hk' => ?_
   have hk16 : k < 16 := by rw [vlen] at hk'; exact hk'
   rw [List.getElem_map]
   have hcell := hS.hrs p s[p] r hsp hr k _ hk16 (List.getElem?_eq_getElem hk')
   have hok := stp_ok hA.ok s[p] k
   have hliv := hA.liv s[p] k
   have hstep : Dd l0 l1 s[p] → Dd l0 l1 (stp A s[p] k) := fun hd w => by
    have := hd ((k : Int) :: w)
    rw [← hA.same] at this
    unfold lang at this
    rw [hA.same] at this
    exact this
   generalize r.toList[k] = e at hcell ⊢
   generalize stp A s[p] k = a at hcell hok hliv hstep
   unfold alF
   split
   ·
    rename_i g
    rw [Bool.or_eq_true, Bool.and_eq_true] at g
    rcases hcell with ⟨h1, rfl⟩ | ⟨h0, p', z, rfl, hz, hcz⟩
    ·
     have := hok.1; omega
    ·
     rcases g with g | ⟨_, g⟩
     ·
      exact absurd (hstep (hdd p _ hsp (hdq p hps g))) (hliv h0)
     ·
      have hp' := (List.getElem?_eq_some_iff.1 hz).1
      have hdz := hdd p' z hz (hdq p' hp' g)
      have hzin := hS.sin z (List.mem_of_getElem? hz)
      obtain ⟨u, rfl⟩ := Int.eq_ofNat_of_zero_le hzin.1
      obtain ⟨u', rfl⟩ := Int.eq_ofNat_of_zero_le h0
      have h1 : u < l0.length := by omega
      have h2 : u' < l0.length := by have := hok.2; rw [hA.len] at this; omega
      unfold clx at hcz
      rw [Int.toNat_natCast, Int.toNat_natCast, List.getElem?_eq_getElem (by omega), List.getElem?_eq_getElem (by omega)] at hcz
      have hw := (hC.iff u u' h1 h2).1 (by rw [List.getElem?_eq_getElem (by omega), List.getElem?_eq_getElem (by omega)]; simpa using hcz)
      exact absurd (fun w => by rw [← hw w]; exact hdz w) (hliv h0)
   ·
    rfl
 have hA' := liv_of hR hyl hys
 obtain ⟨cls', q', ec, hC'⟩ := classes_sem hN hR hy hyl hA'
 have ha := alive_eq hN hR hy hyl
 rw [hal] at ha
 obtain ⟨b, e, hb⟩ := right_eq hN rs us
 rw [hb.2 hR] at e
 have h0s := (List.getElem?_eq_some_iff.1 hS.s0).1
 have hcl' := hC'.len
 have hinj : ∀ a b : Nat, a < s.length → b < s.length → clx cls' a = clx cls' b → a = b := fun a b ha' hb' hab => by
  unfold clx at hab
  rw [Int.toNat_natCast, Int.toNat_natCast, List.getElem?_eq_getElem (by omega), List.getElem?_eq_getElem (by omega)] at hab
  have hw := (hC'.iff a b (by omega) (by omega)).1 (by rw [List.getElem?_eq_getElem (by omega), List.getElem?_eq_getElem (by omega)]; simpa using hab)
  have hsa : s[a]? = some s[a] := List.getElem?_eq_getElem ha'
  have hsb : s[b]? = some s[b] := List.getElem?_eq_getElem hb'
  have hw2 : ∀ w, lang l0 l1 w s[a] = lang l0 l1 w s[b] := fun w => by rw [← hlg w a _ hsa, ← hlg w b _ hsb]; exact hw w
  have ia := hS.sin _ (List.getElem_mem ha')
  have ib := hS.sin _ (List.getElem_mem hb')
  have hcc : clx cls s[a] = clx cls s[b] := by
   generalize s[a] = x at ia hw2
   generalize s[b] = x' at ib hw2
   obtain ⟨u, rfl⟩ := Int.eq_ofNat_of_zero_le ia.1
   obtain ⟨u', rfl⟩ := Int.eq_ofNat_of_zero_le ib.1
   unfold clx
   rw [Int.toNat_natCast, Int.toNat_natCast, (hC.iff u u' (by omega) (by omega)).2 hw2]
  have hla : a < (s.map (clx cls)).length := by simpa using ha'
  have hlb : b < (s.map (clx cls)).length := by simpa using hb'
  exact (List.getElem_inj (h₀ := hla) (h₁ := hlb) hS.nd).1 (by rw [List.getElem_map, List.getElem_map]; exact hcc)
 have hRlen := hR.2.1
 have hpos : 0 < cls'.length := by omega
 have hc0 : clx cls' 0 = cls'[0] := by unfold clx; rw [show (0 : Int).toNat = 0 from rfl, List.getElem?_eq_getElem hpos]; rfl
 have h4 := again_L4 hN (cls := cls') (us := us) (rs := rs) (T := s.length) hrl (by omega) hul (by omega) hinj (by rw [← hrl]; exact hR.2.2.2.2) s.length 0 1 N (by omega) (by omega) (by rw [List.drop_zero]; exact hS.can)
 unfold mini_Small
 have hput : mput ([] : List (Int × Int)) cls'[0] 0 = mkm 0 ((rgI 1).map (clx cls')) := by
  show _ = mkm 0 [clx cls' 0]
  simp only [mkm, hc0]; rfl
 have h0 : atI cls' 0 = some cls'[0] := atI_get (k := 0) hpos
 rw [List.take_zero, List.take_zero] at h4
 rw [e, Option.bind_some, if_pos rfl, ec, Option.bind_some, ha, Option.bind_some]
 simp only
 rw [h0, Option.bind_some, hput, show mini_Small_L4 N cls' rs us N 0 _ [0] [] [] = _ from h4, Option.bind_some]
end Go.Proofs.Ytnbnajjoinahiaa.AI
