/- Plain laws of layer 8: classes of alike states. -/
import Derived.Test.YtnbnajjoinahiaaPM2
set_option linter.unusedVariables false
set_option linter.unusedSimpArgs false
set_option maxRecDepth 100000
namespace Go.Proofs.Ytnbnajjoinahiaa.AI
theorem pigeon : ∀ (k : Nat) (l : List Int), (∀ v, v < k → ((v : Nat) : Int) ∈ l) → k ≤ l.length
 | 0, l, _ => Nat.zero_le _
 | k + 1, l, h => by
  have h1 := pigeon k (l.filter fun x => decide (x ≠ (k : Int))) (fun v hv => by
   rw [List.mem_filter]
   exact ⟨h v (by omega), by simp; omega⟩)
  have h2 : (l.filter fun x => decide (x ≠ (k : Int))).length < l.length := by
   rw [List.length_filter_lt_length_iff_exists]
   exact ⟨(k : Int), h k (by omega), by simp⟩
  omega
structure Refd (rows : List (Vector Int 16)) (cls out : List Int) (k : Nat) : Prop where
 len : out.length = cls.length
 same : ∀ i j, i < cls.length → j < cls.length → (out[i]? = out[j]? ↔ kyL rows cls i = kyL rows cls j)
 got : ∀ v : Nat, v < k → ((v : Nat) : Int) ∈ out
 lt : ∀ x ∈ out, 0 ≤ x ∧ x < (k : Int)
 le : k ≤ cls.length
 up : ∀ q : Nat, (∀ v : Nat, v < q → ((v : Nat) : Int) ∈ cls) → q ≤ k
theorem RInv.refd {rows : List (Vector Int 16)} {cls : List Int} {m : List (Vector Int 17 × Int)} {s : List Int} (h : RInv rows cls cls.length m s) : Refd rows cls s m.length := by
 refine ⟨h.len, fun i j hi hj => ?_, fun v hv => ?_, fun x hx => ?_, h.le, fun q hq => ?_⟩
 ·
  obtain ⟨y, p, a1, a2, a3⟩ := h.has i hi
  obtain ⟨y', p', b1, b2, b3⟩ := h.has j hj
  rw [a3, b3, ← a1, ← b1]
  constructor
  ·
   intro e
   have e' : p = p' := by have := Option.some.inj e; omega
   subst e'
   obtain ⟨u, hu, hu1⟩ := mfind_key a2
   obtain ⟨u', hu', hu1'⟩ := mfind_key b2
   rw [hu] at hu'; cases hu'
   rw [← hu1, ← hu1']
  ·
   intro e
   have : y = y' := Vector.toList_inj.1 e
   subst this
   rw [a2] at b2; cases b2; rfl
 ·
  obtain ⟨i, _, hs⟩ := h.got v hv
  exact List.mem_of_getElem? hs
 ·
  obtain ⟨i, hi, rfl⟩ := List.getElem_of_mem hx
  obtain ⟨y, p, a1, a2, a3⟩ := h.has i (by have := h.len; omega)
  rw [List.getElem?_eq_getElem hi] at a3
  obtain ⟨u, hu, _⟩ := mfind_key a2
  have := (List.getElem?_eq_some_iff.1 hu).1
  rw [Option.some.inj a3]
  omega
 ·
  have := pigeon q (m.map fun e => (e.1.toList[16]?).getD 0) (fun v hv => by
   obtain ⟨i, hi, hs⟩ := List.getElem_of_mem (hq v hv)
   obtain ⟨y, p, a1, a2, _⟩ := h.has i hi
   obtain ⟨u, hu, hu1⟩ := mfind_key a2
   refine List.mem_map.2 ⟨u, List.mem_of_getElem? hu, ?_⟩
   rw [hu1, a1]
   have hlen : (((rows[i]?).map fun r => r.toList.map (kyF cls)).getD []).length = 16 := by
    have := congrArg List.length a1
    unfold kyL at this
    rw [vlen, List.length_append, List.length_cons, List.length_nil] at this
    omega
   unfold kyL
   rw [List.getElem?_append_right (by omega), hlen, List.getElem?_eq_getElem hi, hs]; rfl)
  simpa using this
theorem refine_eq {N : Nat} (hN : 1000000000000 < N) {rows : List (Vector Int 16)} {l1 cls : List Int} (hl : cls.length = rows.length) (hm : rows.length ≤ 200) (hr : ∀ r ∈ rows, okRow (rows.length : Int) r) :
  ∃ out k, mini_refine N rows l1 cls = some (out, ((k : Nat) : Int)) ∧ Refd rows cls out k := by
 obtain ⟨m, s, e, h⟩ := refine_L3 hN (l1 := l1) hl hm hr cls.length 0 N [] (List.replicate cls.length 0) (by omega) (by omega) ⟨by simp, fun p e h => by simp at h, fun i hi => by omega, fun p hp => by simp at hp, by simp⟩
 unfold mini_refine
 rw [if_pos (by omega), if_pos (by omega), show mini_refine_L3 N cls rows l1 N 0 [] _ = _ from e, Option.bind_some]
 exact ⟨s, m.length, rfl, h.refd⟩
theorem kyL_last {rows : List (Vector Int 16)} {cls : List Int} {i j : Nat} (hi : i < cls.length) (hj : j < cls.length) (h : kyL rows cls i = kyL rows cls j) : cls[i]? = cls[j]? := by
 unfold kyL at h
 have := (List.append_inj' h rfl).2
 rw [List.getElem?_eq_getElem hi, List.getElem?_eq_getElem hj] at this ⊢
 simpa using this
theorem classes_L1 {N : Nat} (hN : 1000000000000 < N) {rows : List (Vector Int 16)} {l1 : List Int} (hm : rows.length ≤ 200) (hr : ∀ r ∈ rows, okRow (rows.length : Int) r) (I : List Int → Prop) (hI : ∀ cls out k, cls.length = rows.length → I cls → Refd rows cls out k → I out) :
  ∀ (d n : Nat) (cls : List Int) (k : Nat), rows.length < k + d → d < n → cls.length = rows.length → (∀ v : Nat, v < k → ((v : Nat) : Int) ∈ cls) → I cls →
   ∃ c0 out q, mini_classes_L1 N rows l1 n cls k = some out ∧ I c0 ∧ c0.length = rows.length ∧ Refd rows c0 out q ∧ (∀ v : Nat, v < q → ((v : Nat) : Int) ∈ c0) := by
 intro d
 induction d with
 | zero =>
  intro n cls k hk hn hl hg hi
  obtain ⟨n, rfl⟩ : ∃ x, n = x + 1 := ⟨n - 1, by omega⟩
  obtain ⟨out, q, e, hR⟩ := refine_eq hN (l1 := l1) hl hm hr
  have := hR.up k hg
  have := hR.le
  omega
 | succ d ih =>
  intro n cls k hk hn hl hg hi
  obtain ⟨n, rfl⟩ : ∃ x, n = x + 1 := ⟨n - 1, by omega⟩
  obtain ⟨out, q, e, hR⟩ := refine_eq hN (l1 := l1) hl hm hr
  have hup := hR.up k hg
  rw [mini_classes_L1, e, Option.bind_some]
  simp only
  by_cases g : ((q : Nat) : Int) = (k : Int)
  ·
   rw [if_pos g]
   exact ⟨cls, out, q, rfl, hi, hl, hR, fun v hv => hg v (by omega)⟩
  ·
   rw [if_neg g]
   exact ih n out q (by omega) (by omega) (by rw [hR.len, hl]) hR.got (hI cls out q hl hi hR)
end Go.Proofs.Ytnbnajjoinahiaa.AI
