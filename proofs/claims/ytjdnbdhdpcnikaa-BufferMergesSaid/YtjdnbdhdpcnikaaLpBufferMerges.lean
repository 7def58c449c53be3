/- The plain law of BufferMerges. -/
import Derived.Test.YtjdnbdhdpcnikaaBU1
set_option linter.unusedVariables false
set_option linter.unusedSimpArgs false
namespace Go.Proofs.Ytjdnbdhdpcnikaa.AI
theorem BufferMerges_plain {N : Nat} (hN : 1000000000000 < N) {l : List TGlyph} {f t : Int} : law17_BufferMerges N l f t = some true := by
  unfold law17_BufferMerges
  by_cases h1 : 200 < (l.length : Int)
  · rw [if_pos h1]
  rw [if_neg h1]
  obtain ⟨m, m1, m2, m3, _⟩ := Merge_eq hN (show l.length ≤ 1000000 by omega) f t
  have hs := Same_eq (N := N) hN (l := m) (by omega)
  rcases Rise_eq hN (show l.length ≤ 1000000 by omega) with ⟨h2, h3⟩ | ⟨h2, h3⟩ <;> rcases rRise_eq hN (show l.length ≤ 1000000 by omega) with ⟨h4, h5⟩ | ⟨h4, h5⟩
  · simp only [h2, h4, Option.bind_some, if_true, m1, m2, hs]
  · exact absurd h3 h5
  · exact absurd h5 h3
  · simp only [h2, h4, Option.bind_some, Bool.false_eq_true, if_false, m1, m2, hs]
end Go.Proofs.Ytjdnbdhdpcnikaa.AI
