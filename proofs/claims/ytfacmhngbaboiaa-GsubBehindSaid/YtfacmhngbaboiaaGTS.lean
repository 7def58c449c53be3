/- Part of a proof. -/
import Derived.Test.YtfacmhngbaboiaagsP
import Derived.IntWalk
set_option linter.unusedVariables false
set_option linter.unusedSimpArgs false
set_option maxRecDepth 100000
namespace Go.Proofs.Ytfacmhngbaboiaa.AI
abbrev R : Int := 140737488351232
structure Small (l_4 : List (List Int)) (l_5 : List (List TLig)) (l_6 : List TCtx) : Prop where
 t : l_4.length ≤ 500
 t1 : ∀ x ∈ l_4, (x.length : Int) * 8 ≤ R
 g : l_5.length ≤ 500
 g1 : ∀ x ∈ l_5, x.length ≤ 500
 g2 : ∀ x ∈ l_5, ∀ y ∈ x, (y.Parts.length : Int) * 8 ≤ R
 c : l_6.length ≤ 100
 c1 : ∀ c ∈ l_6, c.Back.length ≤ 100 ∧ c.In.length ≤ 100 ∧ c.Ahead.length ≤ 100 ∧ (c.Acts.length : Int) * 16 ≤ R
 c2 : ∀ c ∈ l_6, (∀ s ∈ c.Back, (s.Spans.length : Int) * 16 ≤ R) ∧ (∀ s ∈ c.In, (s.Spans.length : Int) * 16 ≤ R) ∧ (∀ s ∈ c.Ahead, (s.Spans.length : Int) * 16 ≤ R)
end Go.Proofs.Ytfacmhngbaboiaa.AI
