/- Part of a proof. -/
import Derived.Test.YtnbnajjoinahiaaPS3
set_option linter.unusedVariables false
set_option linter.unusedSimpArgs false
set_option maxRecDepth 100000
namespace Go.Proofs.Ytnbnajjoinahiaa.AI
def canRs : Nat → Nat → List (Vector Int 16) → Nat → Prop
 | i, n, [], n' => n = n'
 | i, n, v :: rs, n' => i < n ∧ ∃ m, canR n v.toList m ∧ canRs (i + 1) m rs n'
theorem canRs_app : ∀ {rs : List (Vector Int 16)} {i n n' n'' : Nat} {v : Vector Int 16}, canRs i n rs n' → i + rs.length < n' → canR n' v.toList n'' → canRs i n (rs ++ [v]) n''
 | [], i, n, n', n'', v, h, hl, hc => by
  have : n = n' := h
  subst this
  exact ⟨by simpa using hl, n'', hc, rfl⟩
 | u :: rs, i, n, n', n'', v, h, hl, hc => by
  obtain ⟨h1, m, h2, h3⟩ := h
  exact ⟨h1, m, h2, canRs_app h3 (by simp at hl; omega) hc⟩
structure Sm (l0 : List (Vector Int 16)) (l1 : List Int) (A : List (Vector Int 16)) (cl : Int → Int) (i : Nat) (s : List Int) (rs : List (Vector Int 16)) (us : List Int) : Prop where
 rlen : rs.length = i
 ulen : us.length = i
 ile : i ≤ s.length
 s0 : s[0]? = some 0
 sin : ∀ x ∈ s, 0 ≤ x ∧ x < (l0.length : Int)
 nd : (s.map cl).Nodup
 liv : ∀ (p : Nat) (x : Int), 0 < p → s[p]? = some x → ¬ Dd l0 l1 x
 hus : ∀ (p : Nat) (x : Int), p < i → s[p]? = some x → us[p]? = some (outc l1 x)
 hrs : ∀ (p : Nat) (x : Int) (r : Vector Int 16), s[p]? = some x → rs[p]? = some r → ∀ (k : Nat) (e : Int), k < 16 → r.toList[k]? = some e → (stp A x k < 0 ∧ e = stp A x k) ∨ (0 ≤ stp A x k ∧ ∃ (p' : Nat) (z : Int), e = (p' : Int) ∧ s[p']? = some z ∧ cl z = cl (stp A x k))
 can : canRs 0 1 rs s.length
theorem clx_mem {l0 : List (Vector Int 16)} {l1 cls : List Int} {q : Nat} (hC : Cls l0 l1 cls q) {x : Int} (h0 : 0 ≤ x) (h1 : x < (l0.length : Int)) : clx cls x ∈ cls := by
 have := hC.len
 unfold clx; rw [List.getElem?_eq_getElem (by omega)]; exact List.getElem_mem _
theorem sm_le {l0 : List (Vector Int 16)} {l1 cls : List Int} {q : Nat} (hC : Cls l0 l1 cls q) {s : List Int} (hs : ∀ x ∈ s, 0 ≤ x ∧ x < (l0.length : Int)) (hn : (s.map (clx cls)).Nodup) : s.length ≤ q := by
 have := nodup_le q (s.map (clx cls)) hn (fun x hx => by
  obtain ⟨z, hz, rfl⟩ := List.mem_map.1 hx
  exact hC.lt _ (clx_mem hC (hs z hz).1 (hs z hz).2))
 simpa using this
theorem Sm.step {l0 : List (Vector Int 16)} {l1 cls : List Int} {q : Nat} {A : List (Vector Int 16)} (hA : Liv l0 l1 A) (hC : Cls l0 l1 cls q) {i : Nat} {s : List Int} {rs : List (Vector Int 16)} {us : List Int} (hS : Sm l0 l1 A (clx cls) i s rs us) (hi : i < s.length) {f : Nat} (hf0 : f < A.length) (hxe' : s[i]? = some (f : Int))
  {v' : Vector Int 16} (hv' : v'.toList = (scanR (clx cls) A[f].toList s).2) : Sm l0 l1 A (clx cls) (i + 1) (scanR (clx cls) A[f].toList s).1 (rs ++ [v']) (us ++ [outc l1 (f : Int)]) ∧ (scanR (clx cls) A[f].toList s).1[i]? = some (f : Int) ∧ s.length ≤ (scanR (clx cls) A[f].toList s).1.length := by
 have hrow : A[f]? = some A[f] := List.getElem?_eq_getElem hf0
 have hokA := hA.ok _ (List.getElem_mem hf0)
 obtain ⟨t, et, ht⟩ := scan_ext (clx cls) A[f].toList s
 have hnd := scan_nd (clx cls) A[f].toList s hS.nd
 have hcan := scan_can (clx cls) A[f].toList s
 obtain ⟨_, hcell⟩ := scan_cell (clx cls) A[f].toList s
 generalize hR : scanR (clx cls) A[f].toList s = R at *
 have hsin : ∀ x ∈ R.1, 0 ≤ x ∧ x < (l0.length : Int) := fun x hx' => by
  rw [et] at hx'
  rcases List.mem_append.1 hx' with h | h
  ·
   exact hS.sin x h
  ·
   have h1 := ht x h
   have h2 := hokA x h1.1
   rw [hA.len] at h2
   exact ⟨h1.2, h2.2⟩
 have hpre : ∀ (p : Nat) (x : Int), s[p]? = some x → R.1[p]? = some x := fun p x hp => by
  rw [et, List.getElem?_append_left (List.getElem?_eq_some_iff.1 hp).1]; exact hp
 have hpre' : ∀ (p : Nat) (x : Int), R.1[p]? = some x → s[p]? = some x ∨ (s.length ≤ p ∧ x ∈ t) := fun p x hp => by
  rw [et, List.getElem?_append] at hp
  split at hp
  ·
   exact .inl hp
  ·
   exact .inr ⟨by omega, List.mem_of_getElem? hp⟩
 have hrl := hS.rlen
 have hul := hS.ulen
 have htl : t.length + s.length = R.1.length := by rw [et]; simp; omega
 refine ⟨⟨by simp [hrl], by simp [hul], by omega, hpre _ _ hS.s0, hsin, hnd, fun p x hp hpx => ?_, fun p x hp hpx => ?_, fun p x r hpx hr k e hk he => ?_, ?_⟩, hpre _ _ hxe', by omega⟩
 ·
  rcases hpre' p x hpx with h | ⟨_, h⟩
  ·
   exact hS.liv p x hp h
  ·
   obtain ⟨hm', h0⟩ := ht x h
   obtain ⟨k, hk, rfl⟩ := List.getElem_of_mem hm'
   have hk16 : k < 16 := by rw [vlen] at hk; exact hk
   have := hA.liv (f : Int) (k : Int)
   rw [stp_at hrow hk16] at this
   exact this h0
 ·
  by_cases h : p = i
  ·
   subst h
   rw [hpre _ _ hxe'] at hpx
   cases hpx
   rw [List.getElem?_append_right (by omega), hul, Nat.sub_self]; rfl
  ·
   rw [List.getElem?_append_left (by omega)]
   refine hS.hus p x (by omega) ?_
   rcases hpre' p x hpx with h' | ⟨h', _⟩
   ·
    exact h'
   ·
    omega
 ·
  by_cases h : p = i
  ·
   subst h
   rw [hpre _ _ hxe'] at hpx
   cases hpx
   rw [List.getElem?_append_right (by omega), hrl, Nat.sub_self] at hr
   simp only [List.getElem?_cons_zero, Option.some.injEq] at hr
   subst hr
   rw [hv'] at he
   have hk' : k < A[f].toList.length := by rw [vlen]; exact hk
   rw [stp_at hrow hk]
   exact hcell k _ e (List.getElem?_eq_getElem hk') he
  ·
   have hp : p < rs.length := by
    have := (List.getElem?_eq_some_iff.1 hr).1
    simp at this; omega
   rw [List.getElem?_append_left hp] at hr
   have hs' : s[p]? = some x := by
    rcases hpre' p x hpx with h' | ⟨h', _⟩
    ·
     exact h'
    ·
     omega
   rcases hS.hrs p x r hs' hr k e hk he with h' | ⟨h0, p', z, h1, h2, h3⟩
   ·
    exact .inl h'
   ·
    exact .inr ⟨h0, p', z, h1, hpre _ _ h2, h3⟩
 ·
  exact canRs_app hS.can (by omega) (by rw [hv']; exact hcan)
def Goes (l0 : List (Vector Int 16)) (l1 : List Int) (A : List (Vector Int 16)) (cls : List Int) (q : Nat) (F : Nat → Nat → List Int → List (Vector Int 16) → List Int → Option (List (Vector Int 16) × List Int)) : Prop :=
 (∀ n i s rs us, s.length ≤ i → F (n + 1) i s rs us = some (rs, us)) ∧
 ∀ n i s rs us f v' (hf : f < A.length), Sm l0 l1 A (clx cls) i s rs us → s.length ≤ q → s[i]? = some ((f : Nat) : Int) → v'.toList = (scanR (clx cls) A[f].toList s).2 → (scanR (clx cls) A[f].toList s).1[i]? = some ((f : Nat) : Int) → F (n + 1) i s rs us = F n (i + 1) (scanR (clx cls) A[f].toList s).1 (rs ++ [v']) (us ++ [outc l1 (f : Int)])
theorem small_L4 {N : Nat} (hN : 1000000000000 < N) {l0 : List (Vector Int 16)} {l1 cls : List Int} {q : Nat} {A : List (Vector Int 16)} (hm : l0.length ≤ 200) (hl : l1.length = l0.length) (hA : Liv l0 l1 A) (hC : Cls l0 l1 cls q) :
  ∀ (d i n : Nat) (s : List Int) (rs : List (Vector Int 16)) (us : List Int), i + d = q → d < n → Sm l0 l1 A (clx cls) i s rs us →
   ∃ s' rs' us', mini_Small_L4 N cls A l1 n i (mkm 0 (s.map (clx cls))) s rs us = some (rs', us') ∧ Sm l0 l1 A (clx cls) s'.length s' rs' us' ∧ ∀ F, Goes l0 l1 A cls q F → F n i s rs us = some (rs', us') := by
 intro d
 induction d with
 | zero =>
  intro i n s rs us hd hn hS
  obtain ⟨n, rfl⟩ : ∃ x, n = x + 1 := ⟨n - 1, by omega⟩
  have h1 := sm_le hC hS.sin hS.nd
  have h2 := hS.ile
  rw [mini_Small_L4, if_neg (by omega)]
  have e : i = s.length := by omega
  exact ⟨s, rs, us, rfl, by rw [← e]; exact hS, fun F hF => hF.1 _ _ _ _ _ (by omega)⟩
 | succ d ih =>
  intro i n s rs us hd hn hS
  obtain ⟨n, rfl⟩ : ∃ x, n = x + 1 := ⟨n - 1, by omega⟩
  have hqs := sm_le hC hS.sin hS.nd
  have hqn := hC.le
  have hlen := hC.len
  by_cases hi : i < s.length
  ·
   have hx := hS.sin _ (List.getElem_mem hi)
   generalize hxe : s[i] = x at hx
   have hxe' : s[i]? = some x := by rw [List.getElem?_eq_getElem hi, hxe]
   obtain ⟨f, rfl⟩ := Int.eq_ofNat_of_zero_le hx.1
   have hf : f < A.length := by rw [hA.len]; omega
   have hokA := hA.ok _ (List.getElem_mem hf)
   obtain ⟨v', e3, hv'⟩ := small_L3 (N := N) (cls := cls) (i := (i : Int)) (x := A[f]) (y7 := A) (y8 := l1) (s18 := rs) (s19 := us) (by rw [hlen, ← hA.len]; exact hokA) 16 0 N s A[f] (by omega) (by omega) (by omega) rfl
   simp only [List.drop_zero, List.take_zero, List.nil_append] at e3 hv'
   obtain ⟨hS', hRi, hRl⟩ := hS.step hA hC hi hf hxe' hv'
   have hout : atI l1 (f : Int) = some (outc l1 (f : Int)) := by rw [outc_at (by omega), atI_get (by omega)]
   rw [mini_Small_L4, if_pos (by omega), atI_at hxe', Option.bind_some, atI_get hf, Option.bind_some, show mini_Small_L3 N cls i A[f] A l1 rs us N 0 _ s A[f] = _ from e3, Option.bind_some]
   simp only
   have hrl := hS.rlen
   have hul := hS.ulen
   rw [if_pos (by omega), atI_at hRi, Option.bind_some, hout, Option.bind_some, if_pos (by omega), wk (by omega)]
   obtain ⟨s', rs', us', e, h1, h2⟩ := ih (i + 1) n _ _ _ (by omega) (by omega) hS'
   exact ⟨s', rs', us', e, h1, fun F hF => by rw [hF.2 n i s rs us f v' hf hS hqs hxe' hv' hRi]; exact h2 F hF⟩
  ·
   have h2 := hS.ile
   rw [mini_Small_L4, if_neg (by omega)]
   have e : i = s.length := by omega
   exact ⟨s, rs, us, rfl, by rw [← e]; exact hS, fun F hF => hF.1 _ _ _ _ _ (by omega)⟩
theorem small_sem0 {N : Nat} (hN : 1000000000000 < N) {l0 : List (Vector Int 16)} {l1 : List Int} (h : RightP l0 l1) {y : List Bool} {cls : List Int} {q : Nat} (hy : mini_Dead N l0 l1 = some y) (hyl : y.length = l0.length) (hA : Liv l0 l1 (alRs y 0 l0)) (ec : mini_classes N l0 l1 = some cls) (hC : Cls l0 l1 cls q) :
  ∃ s rs us, mini_Small N l0 l1 = some (rs, us) ∧ Sm l0 l1 (alRs y 0 l0) (clx cls) s.length s rs us ∧ ∀ F, Goes l0 l1 (alRs y 0 l0) cls q F → F N 0 [0] [] [] = some (rs, us) := by
 have ha := alive_eq hN h hy hyl
 obtain ⟨b, e, hb⟩ := right_eq hN l0 l1
 rw [hb.2 h] at e
 obtain ⟨hne, hm, hl, _, _⟩ := id h
 have hpos : 0 < l0.length := List.length_pos_iff.2 hne
 have hclen := hC.len
 have hlt := hC.lt _ (List.getElem_mem (show 0 < cls.length by omega))
 have hq1 : 0 < q := by omega
 have hc0 : clx cls 0 = cls[0]'(by omega) := by unfold clx; rw [show (0 : Int).toNat = 0 from rfl, List.getElem?_eq_getElem (by omega)]; rfl
 have hS0 : Sm l0 l1 (alRs y 0 l0) (clx cls) 0 [0] [] [] := by
  refine ⟨rfl, rfl, by simp, rfl, ?_, by simp, ?_, ?_, ?_, rfl⟩
  ·
   intro x hx; rw [List.mem_singleton.1 hx]; exact ⟨by omega, by omega⟩
  ·
   intro p x hp hx; rw [List.getElem?_eq_none (by rw [List.length_singleton]; omega)] at hx; cases hx
  ·
   intro p x hp; omega
  ·
   intro p x r _ hr; simp at hr
 obtain ⟨s', rs', us', e4, hS, hF⟩ := small_L4 hN hm hl hA hC q 0 N [0] [] [] (by omega) (by have := hC.le; omega) hS0
 refine ⟨s', rs', us', ?_, hS, hF⟩
 unfold mini_Small
 have hput : mput ([] : List (Int × Int)) (cls[0]'(by omega)) 0 = mkm 0 ([(0 : Int)].map (clx cls)) := by
  simp only [List.map_cons, List.map_nil, mkm, hc0]; rfl
 have h0 : atI cls 0 = some (cls[0]'(by omega)) := atI_get (k := 0) (by omega)
 rw [e, Option.bind_some, if_pos rfl, ec, Option.bind_some, ha, Option.bind_some]
 simp only
 rw [h0, Option.bind_some, hput, show mini_Small_L4 N cls _ l1 N 0 _ [0] [] [] = _ from e4, Option.bind_some]
theorem Sm.right {l0 : List (Vector Int 16)} {l1 : List Int} {A : List (Vector Int 16)} {cls s : List Int} {q : Nat} {rs : List (Vector Int 16)} {us : List Int} (h : RightP l0 l1) (hA : Liv l0 l1 A) (hC : Cls l0 l1 cls q) (hS : Sm l0 l1 A (clx cls) s.length s rs us) : RightP rs us ∧ rs.length ≤ l0.length := by
 obtain ⟨hne, hm, hl, hru, hr⟩ := id h
 have hclen := hC.len
 have hsl : s.length ≤ q := by
  have := nodup_le q (s.map (clx cls)) hS.nd (fun x hx => by
   obtain ⟨z, hz, rfl⟩ := List.mem_map.1 hx
   have := hS.sin z hz
   refine hC.lt _ ?_
   unfold clx; rw [List.getElem?_eq_getElem (by omega)]; exact List.getElem_mem _)
  simpa using this
 have hq := hC.le
 have hrl := hS.rlen
 have hul := hS.ulen
 have h0 := (List.getElem?_eq_some_iff.1 hS.s0).1
 refine ⟨⟨fun e => by rw [e] at hrl; simp at hrl; omega, by omega, by omega, fun x hx => ?_, fun r hr' => ?_⟩, by omega⟩
 ·
  obtain ⟨p, hp, rfl⟩ := List.getElem_of_mem hx
  have hps : p < s.length := by omega
  have h1 := hS.hus p s[p] hps (List.getElem?_eq_getElem hps)
  rw [List.getElem?_eq_getElem hp] at h1
  rw [Option.some.inj h1]
  have hin := hS.sin _ (List.getElem_mem hps)
  generalize s[p] = x at hin
  obtain ⟨u, rfl⟩ := Int.eq_ofNat_of_zero_le hin.1
  rw [outc_at (by omega)]
  exact hru _ (List.getElem_mem _)
 ·
  obtain ⟨p, hp, rfl⟩ := List.getElem_of_mem hr'
  have hps : p < s.length := by omega
  intro e he
  obtain ⟨k, hk, rfl⟩ := List.getElem_of_mem he
  have hk16 : k < 16 := by rw [vlen] at hk; exact hk
  rcases hS.hrs p s[p] rs[p] (List.getElem?_eq_getElem hps) (List.getElem?_eq_getElem hp) k _ hk16 (List.getElem?_eq_getElem hk) with ⟨h1, h2⟩ | ⟨_, p', z, h1, h2, _⟩
  ·
   rw [h2]
   have := stp_ok hA.ok s[p] k
   exact ⟨this.1, by omega⟩
  ·
   rw [h1]
   have := (List.getElem?_eq_some_iff.1 h2).1
   exact ⟨by omega, by omega⟩
end Go.Proofs.Ytnbnajjoinahiaa.AI
