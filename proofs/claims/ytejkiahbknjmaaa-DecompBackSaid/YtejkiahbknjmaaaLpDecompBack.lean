/- Plain law: DecompBack. -/
import Derived.Test.YtejkiahbknjmaaaDM1
set_option linter.unusedVariables false
set_option linter.unusedSimpArgs false
set_option maxRecDepth 100000
namespace Go.Proofs.Ytejkiahbknjmaaa.AI
theorem decompBack_plain {N : Nat} (hN : 1000000000000 < N) (l : List TMade) {k : Int} (h0 : 0 ≤ k) (h1 : k ≤ 255) : law21_DecompBack N l k = some true := by
 unfold law21_DecompBack
 rw [alive21 hN, Option.bind_some, if_pos rfl]
 by_cases g1 : (l.length : Int) = 0
 ·
  rw [if_pos g1]
 rw [if_neg g1]
 by_cases g2 : 200 < (l.length : Int)
 ·
  rw [if_pos g2]
 rw [if_neg g2]
 obtain ⟨r, e, h⟩ := dright_eq hN l
 rw [e, Option.bind_some]
 by_cases hr : ¬ RtM l
 ·
  rw [if_neg (fun q => hr (h.1 q))]
 replace hr := Classical.not_not.1 hr
 have hm : k.toNat % l.length < l.length := Nat.mod_lt _ (by omega)
 have hw : (IntKind.i64.wrap k).tmod (l.length : Int) = ((k.toNat % l.length : Nat) : Int) := by
  rw [w64 (by omega) (by omega), Int.tmod_eq_emod_of_nonneg h0, Int.natCast_emod, Int.toNat_of_nonneg h0]
 rw [if_pos (h.2 hr), if_pos g1, hw, atI_get hm, Option.bind_some, whole_eq hN hr, Option.bind_some]
 generalize hp : l[k.toNat % l.length] = p
 have hpm : p ∈ l := by rw [← hp]; exact List.getElem_mem hm
 by_cases g3 : p.B < 0
 ·
  rw [if_pos g3]
  simp only
  rw [if_pos g3]; rfl
 rw [if_neg g3]
 obtain ⟨q, e2, hq⟩ := fw_le (chM_pw hr.2) hpm
 rw [e2, show wof (some q) = (q.Code, true) from rfl]
 show (if p.B < 0 then some (!true) else if true = true then if q.Code ≤ p.Code then (decomp_Parts N l p.Code).bind fun y => some (decide (2 ≤ (y.length : Int))) else some false else some false) = some true
 rw [if_neg g3, if_pos rfl, if_pos hq, dparts_eq hN hr, Option.bind_some]
 have hf : fc l p.Code = some p := by
  have hpw := chM_pw hr.2
  clear e2 hp
  unfold fc
  generalize l = l' at hpm hpw
  clear hr hm hw h e g2 g1
  induction l' with
  | nil => cases hpm
  | cons x l ih =>
   rw [List.pairwise_cons] at hpw
   rw [List.find?_cons]
   rcases List.mem_cons.1 hpm with rfl | hpm
   ·
    rw [decide_eq_true rfl]
   ·
    have := hpw.1 p hpm
    rw [decide_eq_false (by omega)]
    exact ih hpm hpw.2
 have l1 := (pt_len l 3 p.A).1
 have l2 := (pt_len l 3 p.B).1
 have : 2 ≤ (pt l 4 p.Code).length := by
  simp only [pt, hf] at l1 l2 ⊢
  rw [if_neg (by omega), List.length_append]
  omega
 rw [decide_eq_true (by omega)]
end Go.Proofs.Ytejkiahbknjmaaa.AI
