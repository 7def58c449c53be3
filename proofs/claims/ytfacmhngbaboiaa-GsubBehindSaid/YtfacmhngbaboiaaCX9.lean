/- Plain laws of layer 11: the other reader's parts. -/
import Derived.Test.YtfacmhngbaboiaaCX8
set_option linter.unusedVariables false
set_option linter.unusedSimpArgs false
set_option maxRecDepth 100000
namespace Go.Proofs.Ytfacmhngbaboiaa.AI
section
variable {N : Nat} (hN : 1000000000000 < N) {b : List Int} (hb : Bytes b) (hl : b.length ≤ 1000000)
include hN hb hl
def seqM (b : List Int) (p lo cut : Int) : Option (List Int × Int) := (cntr b p lo 16).bind fun n => (row b (p + 2) (n - cut)).bind fun l => some (l, p + 2 + (n - cut) * 2)
end
theorem seqM_some {b : List Int} (hb : Bytes b) {p lo cut : Int} {l : List Int} {q : Int} (h : seqM b p lo cut = some (l, q)) (hc : 0 ≤ cut) (hlo : cut ≤ lo) : ∃ n, cntr b p lo 16 = some n ∧ row b (p + 2) (n - cut) = some l ∧ q = p + 2 + (n - cut) * 2 ∧ (∀ x ∈ l, 0 ≤ x ∧ x ≤ 65535) ∧ l.length ≤ 16 ∧ 0 ≤ q ∧ q ≤ (b.length : Int) ∧ lo ≤ n ∧ n ≤ 16 ∧ (l.length : Int) = n - cut := by
 unfold seqM at h
 obtain ⟨n, e1, h⟩ := Option.bind_eq_some_iff.1 h
 obtain ⟨l2, e2, h⟩ := Option.bind_eq_some_iff.1 h
 cases h
 have c := cntr_some hb e1
 have r := row_some hb e2
 exact ⟨n, e1, e2, rfl, r.2.2.2.2.2, by omega, by omega, by omega, c.1, c.2.1, r.2.1⟩
section
variable {N : Nat} (hN : 1000000000000 < N) {b : List Int} (hb : Bytes b) (hl : b.length ≤ 1000000)
include hN hb hl
end
end Go.Proofs.Ytfacmhngbaboiaa.AI
