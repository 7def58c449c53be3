/-
  No cell of these rows narrows 'for every input' (looked for: loops, veiled, ifaces, maps, wideKeys, modest, calm, conditions, laid).
  DERIVED. THE GIVEN ROWS OF THIS SEAT. 9 by the template 'for every input the law returns true; each argument reads behind the call as it read before'; 0 by the template 'total and deterministic' (their statements: YtahmicipakmbmaaTotals.lean).
  GIVEN WITH THE SEED: the statements are not yours to turn. If you find one false, say at which input.
  Laid BY PROGRAM, IN A SANDBOX (cutbox-rows.mjs): the forced cells as the released guide's own fill.sh prints them over the translation 9fbf9f3620161d99… (all of the seat's roots in one cut). By AI agents, Wed Nov 11 2026. No macro, syntax, notation, axiom, sorry.
-/
import Derived.Test.YtahmicipakmbmaaChecked
import GoSem.Claim
import GoSem.ClaimJoined
import GoSem.ClaimMapViews
import Derived.JoinedTies
import Derived.KernelRfl
namespace Go.Proofs.Ytahmicipakmbmaa
/- THE CELL 'sum', in the pinned program and in every row, IS THE sha256 OF THE DUMP (.gsa) THAT YtahmicipakmbmaaProg.lean LOADS. Nothing in Lean hashes anything: it is a label: what it is worth is what the hold of that sum in a sandbox is worth. -/
noncomputable def Try.pinned : Pinned := { name := "ytahmicipakmbmaa", sum := "9fbf9f3620161d9971d36a917784fad53076bab222f2b7d769f7bfb62e26014b", checked := Try.checked }
namespace Rows
def none {H : Type} : Left H := { results := [], args := [] }

/-- 'reedpenlaw01.OctetWraps': WHATEVER THE INPUT: true; the input reads as it did. -/
def octetWrapsSpec : ChangeSpec := { name := "octetWraps", fn := fun _ => fun
  | [d1, d2] => { results := [.lit (.bool true)], args := [d1, d2] }
  | _ => none }
def octetWrapsRow : OpenClaim := { program := "ytahmicipakmbmaa", sum := "9fbf9f3620161d9971d36a917784fad53076bab222f2b7d769f7bfb62e26014b", func := "reedpen/reedpenlaw01.OctetWraps", spec := "octetWraps", apart := false }
def OctetWrapsSaid : Prop := octetWrapsRow.holds Try.pinned (OpenSpec.ofChange octetWrapsSpec)

/-- ITS FALSE NEIGHBOUR: 'it returns false'. Refute it at one input. -/
def octetWrapsWrong : ChangeSpec := { name := "octetWraps", fn := fun _ => fun
  | [d1, d2] => { results := [.lit (.bool false)], args := [d1, d2] }
  | _ => none }
def OctetWrapsWrongFalsely : Prop := octetWrapsRow.holds Try.pinned (OpenSpec.ofChange octetWrapsWrong)

/-- 'reedpenlaw01.OctetReads': WHATEVER THE INPUT: true; the input reads as it did. -/
def octetReadsSpec : ChangeSpec := { name := "octetReads", fn := fun _ => fun
  | [d1, d2, d3] => { results := [.lit (.bool true)], args := [d1, d2, d3] }
  | _ => none }
def octetReadsRow : OpenClaim := { program := "ytahmicipakmbmaa", sum := "9fbf9f3620161d9971d36a917784fad53076bab222f2b7d769f7bfb62e26014b", func := "reedpen/reedpenlaw01.OctetReads", spec := "octetReads", apart := false }
def OctetReadsSaid : Prop := octetReadsRow.holds Try.pinned (OpenSpec.ofChange octetReadsSpec)

/-- ITS FALSE NEIGHBOUR: 'it returns false'. Refute it at one input. -/
def octetReadsWrong : ChangeSpec := { name := "octetReads", fn := fun _ => fun
  | [d1, d2, d3] => { results := [.lit (.bool false)], args := [d1, d2, d3] }
  | _ => none }
def OctetReadsWrongFalsely : Prop := octetReadsRow.holds Try.pinned (OpenSpec.ofChange octetReadsWrong)

/-- 'reedpenlaw01.OctetBack': WHATEVER THE INPUT: true; the input reads as it did. -/
def octetBackSpec : ChangeSpec := { name := "octetBack", fn := fun _ => fun
  | [d1, d2, d3] => { results := [.lit (.bool true)], args := [d1, d2, d3] }
  | _ => none }
def octetBackRow : OpenClaim := { program := "ytahmicipakmbmaa", sum := "9fbf9f3620161d9971d36a917784fad53076bab222f2b7d769f7bfb62e26014b", func := "reedpen/reedpenlaw01.OctetBack", spec := "octetBack", apart := false }
def OctetBackSaid : Prop := octetBackRow.holds Try.pinned (OpenSpec.ofChange octetBackSpec)

/-- ITS FALSE NEIGHBOUR: 'it returns false'. Refute it at one input. -/
def octetBackWrong : ChangeSpec := { name := "octetBack", fn := fun _ => fun
  | [d1, d2, d3] => { results := [.lit (.bool false)], args := [d1, d2, d3] }
  | _ => none }
def OctetBackWrongFalsely : Prop := octetBackRow.holds Try.pinned (OpenSpec.ofChange octetBackWrong)

/-- 'reedpenlaw01.OctetParts': WHATEVER THE INPUT: true; the input reads as it did. -/
def octetPartsSpec : ChangeSpec := { name := "octetParts", fn := fun _ => fun
  | [d1, d2] => { results := [.lit (.bool true)], args := [d1, d2] }
  | _ => none }
def octetPartsRow : OpenClaim := { program := "ytahmicipakmbmaa", sum := "9fbf9f3620161d9971d36a917784fad53076bab222f2b7d769f7bfb62e26014b", func := "reedpen/reedpenlaw01.OctetParts", spec := "octetParts", unfollowed := true, recurses := true, apart := false }
def OctetPartsSaid : Prop := octetPartsRow.holds Try.pinned (OpenSpec.ofChange octetPartsSpec)

/-- ITS FALSE NEIGHBOUR: 'it returns false'. Refute it at one input. -/
def octetPartsWrong : ChangeSpec := { name := "octetParts", fn := fun _ => fun
  | [d1, d2] => { results := [.lit (.bool false)], args := [d1, d2] }
  | _ => none }
def OctetPartsWrongFalsely : Prop := octetPartsRow.holds Try.pinned (OpenSpec.ofChange octetPartsWrong)

/-- 'reedpenlaw02.SpanRight': WHATEVER THE INPUT: true; the input reads as it did. -/
def spanRightSpec : ChangeSpec := { name := "spanRight", fn := fun _ => fun
  | [d1, d2, d3] => { results := [.lit (.bool true)], args := [d1, d2, d3] }
  | _ => none }
def spanRightRow : OpenClaim := { program := "ytahmicipakmbmaa", sum := "9fbf9f3620161d9971d36a917784fad53076bab222f2b7d769f7bfb62e26014b", func := "reedpen/reedpenlaw02.SpanRight", spec := "spanRight", unfollowed := true, recurses := true, apart := false }
def SpanRightSaid : Prop := spanRightRow.holds Try.pinned (OpenSpec.ofChange spanRightSpec)

/-- ITS FALSE NEIGHBOUR: 'it returns false'. Refute it at one input. -/
def spanRightWrong : ChangeSpec := { name := "spanRight", fn := fun _ => fun
  | [d1, d2, d3] => { results := [.lit (.bool false)], args := [d1, d2, d3] }
  | _ => none }
def SpanRightWrongFalsely : Prop := spanRightRow.holds Try.pinned (OpenSpec.ofChange spanRightWrong)

/-- 'reedpenlaw02.SpanFinds': WHATEVER THE INPUT: true; the input reads as it did. -/
def spanFindsSpec : ChangeSpec := { name := "spanFinds", fn := fun _ => fun
  | [d1, d2] => { results := [.lit (.bool true)], args := [d1, d2] }
  | _ => none }
def spanFindsRow : OpenClaim := { program := "ytahmicipakmbmaa", sum := "9fbf9f3620161d9971d36a917784fad53076bab222f2b7d769f7bfb62e26014b", func := "reedpen/reedpenlaw02.SpanFinds", spec := "spanFinds", unfollowed := true, recurses := true, apart := false }
def SpanFindsSaid : Prop := spanFindsRow.holds Try.pinned (OpenSpec.ofChange spanFindsSpec)

/-- ITS FALSE NEIGHBOUR: 'it returns false'. Refute it at one input. -/
def spanFindsWrong : ChangeSpec := { name := "spanFinds", fn := fun _ => fun
  | [d1, d2] => { results := [.lit (.bool false)], args := [d1, d2] }
  | _ => none }
def SpanFindsWrongFalsely : Prop := spanFindsRow.holds Try.pinned (OpenSpec.ofChange spanFindsWrong)

/-- 'reedpenlaw02.SpanJoins': WHATEVER THE INPUT: true; the input reads as it did. -/
def spanJoinsSpec : ChangeSpec := { name := "spanJoins", fn := fun _ => fun
  | [d] => { results := [.lit (.bool true)], args := [d] }
  | _ => none }
def spanJoinsRow : OpenClaim := { program := "ytahmicipakmbmaa", sum := "9fbf9f3620161d9971d36a917784fad53076bab222f2b7d769f7bfb62e26014b", func := "reedpen/reedpenlaw02.SpanJoins", spec := "spanJoins", unfollowed := true, recurses := true, apart := false }
def SpanJoinsSaid : Prop := spanJoinsRow.holds Try.pinned (OpenSpec.ofChange spanJoinsSpec)

/-- ITS FALSE NEIGHBOUR: 'it returns false'. Refute it at one input. -/
def spanJoinsWrong : ChangeSpec := { name := "spanJoins", fn := fun _ => fun
  | [d] => { results := [.lit (.bool false)], args := [d] }
  | _ => none }
def SpanJoinsWrongFalsely : Prop := spanJoinsRow.holds Try.pinned (OpenSpec.ofChange spanJoinsWrong)

/-- 'reedpenlaw02.SpanAgain': WHATEVER THE INPUT: true; the input reads as it did. -/
def spanAgainSpec : ChangeSpec := { name := "spanAgain", fn := fun _ => fun
  | [d1, d2] => { results := [.lit (.bool true)], args := [d1, d2] }
  | _ => none }
def spanAgainRow : OpenClaim := { program := "ytahmicipakmbmaa", sum := "9fbf9f3620161d9971d36a917784fad53076bab222f2b7d769f7bfb62e26014b", func := "reedpen/reedpenlaw02.SpanAgain", spec := "spanAgain", unfollowed := true, recurses := true, apart := false }
def SpanAgainSaid : Prop := spanAgainRow.holds Try.pinned (OpenSpec.ofChange spanAgainSpec)

/-- ITS FALSE NEIGHBOUR: 'it returns false'. Refute it at one input. -/
def spanAgainWrong : ChangeSpec := { name := "spanAgain", fn := fun _ => fun
  | [d1, d2] => { results := [.lit (.bool false)], args := [d1, d2] }
  | _ => none }
def SpanAgainWrongFalsely : Prop := spanAgainRow.holds Try.pinned (OpenSpec.ofChange spanAgainWrong)

/-- 'reedpenlaw02.SpanSplit': WHATEVER THE INPUT: true; the input reads as it did. -/
def spanSplitSpec : ChangeSpec := { name := "spanSplit", fn := fun _ => fun
  | [d1, d2, d3] => { results := [.lit (.bool true)], args := [d1, d2, d3] }
  | _ => none }
def spanSplitRow : OpenClaim := { program := "ytahmicipakmbmaa", sum := "9fbf9f3620161d9971d36a917784fad53076bab222f2b7d769f7bfb62e26014b", func := "reedpen/reedpenlaw02.SpanSplit", spec := "spanSplit", unfollowed := true, recurses := true, apart := false }
def SpanSplitSaid : Prop := spanSplitRow.holds Try.pinned (OpenSpec.ofChange spanSplitSpec)

/-- ITS FALSE NEIGHBOUR: 'it returns false'. Refute it at one input. -/
def spanSplitWrong : ChangeSpec := { name := "spanSplit", fn := fun _ => fun
  | [d1, d2, d3] => { results := [.lit (.bool false)], args := [d1, d2, d3] }
  | _ => none }
def SpanSplitWrongFalsely : Prop := spanSplitRow.holds Try.pinned (OpenSpec.ofChange spanSplitWrong)

/- THE SECOND FORM. 'bulk': how many values and letters a reading holds, each counted each time it is reached (what is shared counts as often as it is met; a slice's spare places count too). A statement '..UptoSaid' is the law's where the arguments, and the package variables that the reading takes, are together of bulk at most 1048576: NARROWER than '..Said'. Prove '..Said' where nothing that the law and all that it calls make is longer than what came in: it says more and counts as full. Else prove '..UptoSaid'. A law counts once. -/
mutual
def uptoBulk {H : Type} : DataW H → Nat
  | .lit (.string bytes) => bytes.length + 1
  | .lit _ => 1
  | .nil => 1
  | .ptr d => uptoBulk d + 1
  | .slice elems spare => uptoBulkAll elems + uptoBulkAll spare + 1
  | .agg parts => uptoBulkAll parts + 1
  | .iface _ d => uptoBulk d + 1
  | .map entries => uptoBulkEntries entries + 1
  | .held _ => 1
def uptoBulkAll {H : Type} : List (DataW H) → Nat
  | [] => 0
  | d :: r => uptoBulk d + uptoBulkAll r
def uptoBulkEntries {H : Type} : List (Lit × DataW H) → Nat
  | [] => 0
  | x :: r => uptoBulkEntry x + uptoBulkEntries r
def uptoBulkEntry {H : Type} : Lit × DataW H → Nat
  | (.string bytes, d) => bytes.length + uptoBulk d + 1
  | (_, d) => uptoBulk d + 1
 end
def uptoSmall : (H : Type) → List (DataW H) → Bool := fun _ ds => decide (uptoBulkAll ds ≤ 1048576)
def OpenSpec.upto (s : _root_.Go.ChangeSpec) : _root_.Go.OpenSpec := { _root_.Go.OpenSpec.ofChange s with cond := some uptoSmall }

/-- 'reedpenlaw01.OctetWraps', WHERE WHAT IT READS IS OF BULK AT MOST 1048576: true; the input reads as it did. -/
def octetWrapsUptoRow : OpenClaim := { program := "ytahmicipakmbmaa", sum := "9fbf9f3620161d9971d36a917784fad53076bab222f2b7d769f7bfb62e26014b", func := "reedpen/reedpenlaw01.OctetWraps", spec := "octetWraps", apart := false, narrowed := true }
def OctetWrapsUptoSaid : Prop := octetWrapsUptoRow.holds Try.pinned (OpenSpec.upto octetWrapsSpec)

/-- 'reedpenlaw01.OctetReads', WHERE WHAT IT READS IS OF BULK AT MOST 1048576: true; the input reads as it did. -/
def octetReadsUptoRow : OpenClaim := { program := "ytahmicipakmbmaa", sum := "9fbf9f3620161d9971d36a917784fad53076bab222f2b7d769f7bfb62e26014b", func := "reedpen/reedpenlaw01.OctetReads", spec := "octetReads", apart := false, narrowed := true }
def OctetReadsUptoSaid : Prop := octetReadsUptoRow.holds Try.pinned (OpenSpec.upto octetReadsSpec)

/-- 'reedpenlaw01.OctetBack', WHERE WHAT IT READS IS OF BULK AT MOST 1048576: true; the input reads as it did. -/
def octetBackUptoRow : OpenClaim := { program := "ytahmicipakmbmaa", sum := "9fbf9f3620161d9971d36a917784fad53076bab222f2b7d769f7bfb62e26014b", func := "reedpen/reedpenlaw01.OctetBack", spec := "octetBack", apart := false, narrowed := true }
def OctetBackUptoSaid : Prop := octetBackUptoRow.holds Try.pinned (OpenSpec.upto octetBackSpec)

/-- 'reedpenlaw01.OctetParts', WHERE WHAT IT READS IS OF BULK AT MOST 1048576: true; the input reads as it did. -/
def octetPartsUptoRow : OpenClaim := { program := "ytahmicipakmbmaa", sum := "9fbf9f3620161d9971d36a917784fad53076bab222f2b7d769f7bfb62e26014b", func := "reedpen/reedpenlaw01.OctetParts", spec := "octetParts", unfollowed := true, recurses := true, apart := false, narrowed := true }
def OctetPartsUptoSaid : Prop := octetPartsUptoRow.holds Try.pinned (OpenSpec.upto octetPartsSpec)

/-- 'reedpenlaw02.SpanRight', WHERE WHAT IT READS IS OF BULK AT MOST 1048576: true; the input reads as it did. -/
def spanRightUptoRow : OpenClaim := { program := "ytahmicipakmbmaa", sum := "9fbf9f3620161d9971d36a917784fad53076bab222f2b7d769f7bfb62e26014b", func := "reedpen/reedpenlaw02.SpanRight", spec := "spanRight", unfollowed := true, recurses := true, apart := false, narrowed := true }
def SpanRightUptoSaid : Prop := spanRightUptoRow.holds Try.pinned (OpenSpec.upto spanRightSpec)

/-- 'reedpenlaw02.SpanFinds', WHERE WHAT IT READS IS OF BULK AT MOST 1048576: true; the input reads as it did. -/
def spanFindsUptoRow : OpenClaim := { program := "ytahmicipakmbmaa", sum := "9fbf9f3620161d9971d36a917784fad53076bab222f2b7d769f7bfb62e26014b", func := "reedpen/reedpenlaw02.SpanFinds", spec := "spanFinds", unfollowed := true, recurses := true, apart := false, narrowed := true }
def SpanFindsUptoSaid : Prop := spanFindsUptoRow.holds Try.pinned (OpenSpec.upto spanFindsSpec)

/-- 'reedpenlaw02.SpanJoins', WHERE WHAT IT READS IS OF BULK AT MOST 1048576: true; the input reads as it did. -/
def spanJoinsUptoRow : OpenClaim := { program := "ytahmicipakmbmaa", sum := "9fbf9f3620161d9971d36a917784fad53076bab222f2b7d769f7bfb62e26014b", func := "reedpen/reedpenlaw02.SpanJoins", spec := "spanJoins", unfollowed := true, recurses := true, apart := false, narrowed := true }
def SpanJoinsUptoSaid : Prop := spanJoinsUptoRow.holds Try.pinned (OpenSpec.upto spanJoinsSpec)

/-- 'reedpenlaw02.SpanAgain', WHERE WHAT IT READS IS OF BULK AT MOST 1048576: true; the input reads as it did. -/
def spanAgainUptoRow : OpenClaim := { program := "ytahmicipakmbmaa", sum := "9fbf9f3620161d9971d36a917784fad53076bab222f2b7d769f7bfb62e26014b", func := "reedpen/reedpenlaw02.SpanAgain", spec := "spanAgain", unfollowed := true, recurses := true, apart := false, narrowed := true }
def SpanAgainUptoSaid : Prop := spanAgainUptoRow.holds Try.pinned (OpenSpec.upto spanAgainSpec)

/-- 'reedpenlaw02.SpanSplit', WHERE WHAT IT READS IS OF BULK AT MOST 1048576: true; the input reads as it did. -/
def spanSplitUptoRow : OpenClaim := { program := "ytahmicipakmbmaa", sum := "9fbf9f3620161d9971d36a917784fad53076bab222f2b7d769f7bfb62e26014b", func := "reedpen/reedpenlaw02.SpanSplit", spec := "spanSplit", unfollowed := true, recurses := true, apart := false, narrowed := true }
def SpanSplitUptoSaid : Prop := spanSplitUptoRow.holds Try.pinned (OpenSpec.upto spanSplitSpec)

end Rows
end Go.Proofs.Ytahmicipakmbmaa
