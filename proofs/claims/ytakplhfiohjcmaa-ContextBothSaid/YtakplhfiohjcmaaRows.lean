/-
  No cell of these rows narrows 'for every input' (looked for: loops, veiled, ifaces, maps, wideKeys, modest, calm, conditions, laid).
  DERIVED. THE GIVEN ROWS OF THIS SEAT. 14 by the template 'for every input the law returns true; each argument reads behind the call as it read before'; 0 by the template 'total and deterministic' (their statements: YtakplhfiohjcmaaTotals.lean).
  GIVEN WITH THE SEED: the statements are not yours to turn. If you find one false, say at which input.
  Laid BY PROGRAM, IN A SANDBOX (cutbox-rows.mjs): the forced cells as the released guide's own fill.sh prints them over the translation c406efab6b2adb3d… (all of the seat's roots in one cut). By AI agents, Wed Nov 11 2026. No macro, syntax, notation, axiom, sorry.
-/
import Derived.Test.YtakplhfiohjcmaaChecked
import GoSem.Claim
import GoSem.ClaimJoined
import GoSem.ClaimMapViews
import Derived.JoinedTies
import Derived.KernelRfl
namespace Go.Proofs.Ytakplhfiohjcmaa
/- THE CELL 'sum', in the pinned program and in every row, IS THE sha256 OF THE DUMP (.gsa) THAT YtakplhfiohjcmaaProg.lean LOADS. Nothing in Lean hashes anything: it is a label: what it is worth is what the hold of that sum in a sandbox is worth. -/
noncomputable def Try.pinned : Pinned := { name := "ytakplhfiohjcmaa", sum := "c406efab6b2adb3d0b2b7b807f1b546ebbeaba19211f9ec7672bc7600aa7d3bd", checked := Try.checked }
namespace Rows
def none {H : Type} : Left H := { results := [], args := [] }

/-- 'reedpenlaw10.CoverReads': WHATEVER THE INPUT: true; the input reads as it did. -/
def coverReadsSpec : ChangeSpec := { name := "coverReads", fn := fun _ => fun
  | [d1, d2] => { results := [.lit (.bool true)], args := [d1, d2] }
  | _ => none }
def coverReadsRow : OpenClaim := { program := "ytakplhfiohjcmaa", sum := "c406efab6b2adb3d0b2b7b807f1b546ebbeaba19211f9ec7672bc7600aa7d3bd", func := "reedpen/reedpenlaw10.CoverReads", spec := "coverReads", unfollowed := true, recurses := true, apart := false }
def CoverReadsSaid : Prop := coverReadsRow.holds Try.pinned (OpenSpec.ofChange coverReadsSpec)

/-- ITS FALSE NEIGHBOUR: 'it returns false'. Refute it at one input. -/
def coverReadsWrong : ChangeSpec := { name := "coverReads", fn := fun _ => fun
  | [d1, d2] => { results := [.lit (.bool false)], args := [d1, d2] }
  | _ => none }
def CoverReadsWrongFalsely : Prop := coverReadsRow.holds Try.pinned (OpenSpec.ofChange coverReadsWrong)

/-- 'reedpenlaw10.CoverFinds': WHATEVER THE INPUT: true; the input reads as it did. -/
def coverFindsSpec : ChangeSpec := { name := "coverFinds", fn := fun _ => fun
  | [d1, d2, d3, d4] => { results := [.lit (.bool true)], args := [d1, d2, d3, d4] }
  | _ => none }
def coverFindsRow : OpenClaim := { program := "ytakplhfiohjcmaa", sum := "c406efab6b2adb3d0b2b7b807f1b546ebbeaba19211f9ec7672bc7600aa7d3bd", func := "reedpen/reedpenlaw10.CoverFinds", spec := "coverFinds", unfollowed := true, recurses := true, apart := false }
def CoverFindsSaid : Prop := coverFindsRow.holds Try.pinned (OpenSpec.ofChange coverFindsSpec)

/-- ITS FALSE NEIGHBOUR: 'it returns false'. Refute it at one input. -/
def coverFindsWrong : ChangeSpec := { name := "coverFinds", fn := fun _ => fun
  | [d1, d2, d3, d4] => { results := [.lit (.bool false)], args := [d1, d2, d3, d4] }
  | _ => none }
def CoverFindsWrongFalsely : Prop := coverFindsRow.holds Try.pinned (OpenSpec.ofChange coverFindsWrong)

/-- 'reedpenlaw10.CoverSets': WHATEVER THE INPUT: true; the input reads as it did. -/
def coverSetsSpec : ChangeSpec := { name := "coverSets", fn := fun _ => fun
  | [d1, d2, d3] => { results := [.lit (.bool true)], args := [d1, d2, d3] }
  | _ => none }
def coverSetsRow : OpenClaim := { program := "ytakplhfiohjcmaa", sum := "c406efab6b2adb3d0b2b7b807f1b546ebbeaba19211f9ec7672bc7600aa7d3bd", func := "reedpen/reedpenlaw10.CoverSets", spec := "coverSets", unfollowed := true, recurses := true, apart := false }
def CoverSetsSaid : Prop := coverSetsRow.holds Try.pinned (OpenSpec.ofChange coverSetsSpec)

/-- ITS FALSE NEIGHBOUR: 'it returns false'. Refute it at one input. -/
def coverSetsWrong : ChangeSpec := { name := "coverSets", fn := fun _ => fun
  | [d1, d2, d3] => { results := [.lit (.bool false)], args := [d1, d2, d3] }
  | _ => none }
def CoverSetsWrongFalsely : Prop := coverSetsRow.holds Try.pinned (OpenSpec.ofChange coverSetsWrong)

/-- 'reedpenlaw10.CoverMeets': WHATEVER THE INPUT: true; the input reads as it did. -/
def coverMeetsSpec : ChangeSpec := { name := "coverMeets", fn := fun _ => fun
  | [d1, d2, d3, d4] => { results := [.lit (.bool true)], args := [d1, d2, d3, d4] }
  | _ => none }
def coverMeetsRow : OpenClaim := { program := "ytakplhfiohjcmaa", sum := "c406efab6b2adb3d0b2b7b807f1b546ebbeaba19211f9ec7672bc7600aa7d3bd", func := "reedpen/reedpenlaw10.CoverMeets", spec := "coverMeets", unfollowed := true, recurses := true, apart := false }
def CoverMeetsSaid : Prop := coverMeetsRow.holds Try.pinned (OpenSpec.ofChange coverMeetsSpec)

/-- ITS FALSE NEIGHBOUR: 'it returns false'. Refute it at one input. -/
def coverMeetsWrong : ChangeSpec := { name := "coverMeets", fn := fun _ => fun
  | [d1, d2, d3, d4] => { results := [.lit (.bool false)], args := [d1, d2, d3, d4] }
  | _ => none }
def CoverMeetsWrongFalsely : Prop := coverMeetsRow.holds Try.pinned (OpenSpec.ofChange coverMeetsWrong)

/-- 'reedpenlaw10.CoverIndex': WHATEVER THE INPUT: true; the input reads as it did. -/
def coverIndexSpec : ChangeSpec := { name := "coverIndex", fn := fun _ => fun
  | [d1, d2] => { results := [.lit (.bool true)], args := [d1, d2] }
  | _ => none }
def coverIndexRow : OpenClaim := { program := "ytakplhfiohjcmaa", sum := "c406efab6b2adb3d0b2b7b807f1b546ebbeaba19211f9ec7672bc7600aa7d3bd", func := "reedpen/reedpenlaw10.CoverIndex", spec := "coverIndex", unfollowed := true, recurses := true, apart := false }
def CoverIndexSaid : Prop := coverIndexRow.holds Try.pinned (OpenSpec.ofChange coverIndexSpec)

/-- ITS FALSE NEIGHBOUR: 'it returns false'. Refute it at one input. -/
def coverIndexWrong : ChangeSpec := { name := "coverIndex", fn := fun _ => fun
  | [d1, d2] => { results := [.lit (.bool false)], args := [d1, d2] }
  | _ => none }
def CoverIndexWrongFalsely : Prop := coverIndexRow.holds Try.pinned (OpenSpec.ofChange coverIndexWrong)

/-- 'reedpenlaw11.ContextReads': WHATEVER THE INPUT: true; the input reads as it did. -/
def contextReadsSpec : ChangeSpec := { name := "contextReads", fn := fun _ => fun
  | [d1, d2] => { results := [.lit (.bool true)], args := [d1, d2] }
  | _ => none }
def contextReadsRow : OpenClaim := { program := "ytakplhfiohjcmaa", sum := "c406efab6b2adb3d0b2b7b807f1b546ebbeaba19211f9ec7672bc7600aa7d3bd", func := "reedpen/reedpenlaw11.ContextReads", spec := "contextReads", unfollowed := true, recurses := true, apart := false }
def ContextReadsSaid : Prop := contextReadsRow.holds Try.pinned (OpenSpec.ofChange contextReadsSpec)

/-- ITS FALSE NEIGHBOUR: 'it returns false'. Refute it at one input. -/
def contextReadsWrong : ChangeSpec := { name := "contextReads", fn := fun _ => fun
  | [d1, d2] => { results := [.lit (.bool false)], args := [d1, d2] }
  | _ => none }
def ContextReadsWrongFalsely : Prop := contextReadsRow.holds Try.pinned (OpenSpec.ofChange contextReadsWrong)

/-- 'reedpenlaw11.ContextChains': WHATEVER THE INPUT: true; the input reads as it did. -/
def contextChainsSpec : ChangeSpec := { name := "contextChains", fn := fun _ => fun
  | [d1, d2] => { results := [.lit (.bool true)], args := [d1, d2] }
  | _ => none }
def contextChainsRow : OpenClaim := { program := "ytakplhfiohjcmaa", sum := "c406efab6b2adb3d0b2b7b807f1b546ebbeaba19211f9ec7672bc7600aa7d3bd", func := "reedpen/reedpenlaw11.ContextChains", spec := "contextChains", unfollowed := true, recurses := true, apart := false }
def ContextChainsSaid : Prop := contextChainsRow.holds Try.pinned (OpenSpec.ofChange contextChainsSpec)

/-- ITS FALSE NEIGHBOUR: 'it returns false'. Refute it at one input. -/
def contextChainsWrong : ChangeSpec := { name := "contextChains", fn := fun _ => fun
  | [d1, d2] => { results := [.lit (.bool false)], args := [d1, d2] }
  | _ => none }
def ContextChainsWrongFalsely : Prop := contextChainsRow.holds Try.pinned (OpenSpec.ofChange contextChainsWrong)

/-- 'reedpenlaw11.ContextMay': WHATEVER THE INPUT: true; the input reads as it did. -/
def contextMaySpec : ChangeSpec := { name := "contextMay", fn := fun _ => fun
  | [d1, d2, d3] => { results := [.lit (.bool true)], args := [d1, d2, d3] }
  | _ => none }
def contextMayRow : OpenClaim := { program := "ytakplhfiohjcmaa", sum := "c406efab6b2adb3d0b2b7b807f1b546ebbeaba19211f9ec7672bc7600aa7d3bd", func := "reedpen/reedpenlaw11.ContextMay", spec := "contextMay", unfollowed := true, recurses := true, apart := false }
def ContextMaySaid : Prop := contextMayRow.holds Try.pinned (OpenSpec.ofChange contextMaySpec)

/-- ITS FALSE NEIGHBOUR: 'it returns false'. Refute it at one input. -/
def contextMayWrong : ChangeSpec := { name := "contextMay", fn := fun _ => fun
  | [d1, d2, d3] => { results := [.lit (.bool false)], args := [d1, d2, d3] }
  | _ => none }
def ContextMayWrongFalsely : Prop := contextMayRow.holds Try.pinned (OpenSpec.ofChange contextMayWrong)

/-- 'reedpenlaw11.ContextBoth': WHATEVER THE INPUT: true; the input reads as it did. -/
def contextBothSpec : ChangeSpec := { name := "contextBoth", fn := fun _ => fun
  | [d1, d2] => { results := [.lit (.bool true)], args := [d1, d2] }
  | _ => none }
def contextBothRow : OpenClaim := { program := "ytakplhfiohjcmaa", sum := "c406efab6b2adb3d0b2b7b807f1b546ebbeaba19211f9ec7672bc7600aa7d3bd", func := "reedpen/reedpenlaw11.ContextBoth", spec := "contextBoth", unfollowed := true, recurses := true, apart := false }
def ContextBothSaid : Prop := contextBothRow.holds Try.pinned (OpenSpec.ofChange contextBothSpec)

/-- ITS FALSE NEIGHBOUR: 'it returns false'. Refute it at one input. -/
def contextBothWrong : ChangeSpec := { name := "contextBoth", fn := fun _ => fun
  | [d1, d2] => { results := [.lit (.bool false)], args := [d1, d2] }
  | _ => none }
def ContextBothWrongFalsely : Prop := contextBothRow.holds Try.pinned (OpenSpec.ofChange contextBothWrong)

/-- 'reedpenlaw11.ContextBehind': WHATEVER THE INPUT: true; the input reads as it did. -/
def contextBehindSpec : ChangeSpec := { name := "contextBehind", fn := fun _ => fun
  | [d1, d2, d3] => { results := [.lit (.bool true)], args := [d1, d2, d3] }
  | _ => none }
def contextBehindRow : OpenClaim := { program := "ytakplhfiohjcmaa", sum := "c406efab6b2adb3d0b2b7b807f1b546ebbeaba19211f9ec7672bc7600aa7d3bd", func := "reedpen/reedpenlaw11.ContextBehind", spec := "contextBehind", unfollowed := true, recurses := true, apart := false }
def ContextBehindSaid : Prop := contextBehindRow.holds Try.pinned (OpenSpec.ofChange contextBehindSpec)

/-- ITS FALSE NEIGHBOUR: 'it returns false'. Refute it at one input. -/
def contextBehindWrong : ChangeSpec := { name := "contextBehind", fn := fun _ => fun
  | [d1, d2, d3] => { results := [.lit (.bool false)], args := [d1, d2, d3] }
  | _ => none }
def ContextBehindWrongFalsely : Prop := contextBehindRow.holds Try.pinned (OpenSpec.ofChange contextBehindWrong)

/-- 'reedpenlaw15.GdefReads': WHATEVER THE INPUT: true; the input reads as it did. -/
def gdefReadsSpec : ChangeSpec := { name := "gdefReads", fn := fun _ => fun
  | [d1, d2] => { results := [.lit (.bool true)], args := [d1, d2] }
  | _ => none }
def gdefReadsRow : OpenClaim := { program := "ytakplhfiohjcmaa", sum := "c406efab6b2adb3d0b2b7b807f1b546ebbeaba19211f9ec7672bc7600aa7d3bd", func := "reedpen/reedpenlaw15.GdefReads", spec := "gdefReads", unfollowed := true, recurses := true, apart := false }
def GdefReadsSaid : Prop := gdefReadsRow.holds Try.pinned (OpenSpec.ofChange gdefReadsSpec)

/-- ITS FALSE NEIGHBOUR: 'it returns false'. Refute it at one input. -/
def gdefReadsWrong : ChangeSpec := { name := "gdefReads", fn := fun _ => fun
  | [d1, d2] => { results := [.lit (.bool false)], args := [d1, d2] }
  | _ => none }
def GdefReadsWrongFalsely : Prop := gdefReadsRow.holds Try.pinned (OpenSpec.ofChange gdefReadsWrong)

/-- 'reedpenlaw15.GdefFinds': WHATEVER THE INPUT: true; the input reads as it did. -/
def gdefFindsSpec : ChangeSpec := { name := "gdefFinds", fn := fun _ => fun
  | [d1, d2, d3, d4, d5] => { results := [.lit (.bool true)], args := [d1, d2, d3, d4, d5] }
  | _ => none }
def gdefFindsRow : OpenClaim := { program := "ytakplhfiohjcmaa", sum := "c406efab6b2adb3d0b2b7b807f1b546ebbeaba19211f9ec7672bc7600aa7d3bd", func := "reedpen/reedpenlaw15.GdefFinds", spec := "gdefFinds", unfollowed := true, recurses := true, apart := false }
def GdefFindsSaid : Prop := gdefFindsRow.holds Try.pinned (OpenSpec.ofChange gdefFindsSpec)

/-- ITS FALSE NEIGHBOUR: 'it returns false'. Refute it at one input. -/
def gdefFindsWrong : ChangeSpec := { name := "gdefFinds", fn := fun _ => fun
  | [d1, d2, d3, d4, d5] => { results := [.lit (.bool false)], args := [d1, d2, d3, d4, d5] }
  | _ => none }
def GdefFindsWrongFalsely : Prop := gdefFindsRow.holds Try.pinned (OpenSpec.ofChange gdefFindsWrong)

/-- 'reedpenlaw15.GdefMay': WHATEVER THE INPUT: true; the input reads as it did. -/
def gdefMaySpec : ChangeSpec := { name := "gdefMay", fn := fun _ => fun
  | [d1, d2, d3] => { results := [.lit (.bool true)], args := [d1, d2, d3] }
  | _ => none }
def gdefMayRow : OpenClaim := { program := "ytakplhfiohjcmaa", sum := "c406efab6b2adb3d0b2b7b807f1b546ebbeaba19211f9ec7672bc7600aa7d3bd", func := "reedpen/reedpenlaw15.GdefMay", spec := "gdefMay", unfollowed := true, recurses := true, apart := false }
def GdefMaySaid : Prop := gdefMayRow.holds Try.pinned (OpenSpec.ofChange gdefMaySpec)

/-- ITS FALSE NEIGHBOUR: 'it returns false'. Refute it at one input. -/
def gdefMayWrong : ChangeSpec := { name := "gdefMay", fn := fun _ => fun
  | [d1, d2, d3] => { results := [.lit (.bool false)], args := [d1, d2, d3] }
  | _ => none }
def GdefMayWrongFalsely : Prop := gdefMayRow.holds Try.pinned (OpenSpec.ofChange gdefMayWrong)

/-- 'reedpenlaw15.GdefBehind': WHATEVER THE INPUT: true; the input reads as it did. -/
def gdefBehindSpec : ChangeSpec := { name := "gdefBehind", fn := fun _ => fun
  | [d1, d2, d3] => { results := [.lit (.bool true)], args := [d1, d2, d3] }
  | _ => none }
def gdefBehindRow : OpenClaim := { program := "ytakplhfiohjcmaa", sum := "c406efab6b2adb3d0b2b7b807f1b546ebbeaba19211f9ec7672bc7600aa7d3bd", func := "reedpen/reedpenlaw15.GdefBehind", spec := "gdefBehind", unfollowed := true, recurses := true, apart := false }
def GdefBehindSaid : Prop := gdefBehindRow.holds Try.pinned (OpenSpec.ofChange gdefBehindSpec)

/-- ITS FALSE NEIGHBOUR: 'it returns false'. Refute it at one input. -/
def gdefBehindWrong : ChangeSpec := { name := "gdefBehind", fn := fun _ => fun
  | [d1, d2, d3] => { results := [.lit (.bool false)], args := [d1, d2, d3] }
  | _ => none }
def GdefBehindWrongFalsely : Prop := gdefBehindRow.holds Try.pinned (OpenSpec.ofChange gdefBehindWrong)

/- THE SECOND FORM. 'bulk': how many values and letters a reading holds, each counted each time it is reached (what is shared counts as often as it is met; a slice's spare places count too). A statement '..UptoSaid' is the law's where the arguments, and the package variables that the reading takes, are together of bulk at most 1048576: NARROWER than '..Said'. Prove '..Said' where nothing that the law and all that it calls make is longer than what came in: it says more and counts as full. Else prove '..UptoSaid'. A law counts once. -/
mutual
def uptoBulk {H : Type} : DataW H → Nat
  | .lit (.string bytes) => bytes.length + 1
  | .lit _ => 1
  | .nil => 1
  | .ptr d => uptoBulk d + 1
  | .slice elems spare => uptoBulkAll elems + uptoBulkAll spare + 1
  | .agg parts => uptoBulkAll parts + 1
  | .iface _ d => uptoBulk d + 1
  | .map entries => uptoBulkEntries entries + 1
  | .held _ => 1
def uptoBulkAll {H : Type} : List (DataW H) → Nat
  | [] => 0
  | d :: r => uptoBulk d + uptoBulkAll r
def uptoBulkEntries {H : Type} : List (Lit × DataW H) → Nat
  | [] => 0
  | x :: r => uptoBulkEntry x + uptoBulkEntries r
def uptoBulkEntry {H : Type} : Lit × DataW H → Nat
  | (.string bytes, d) => bytes.length + uptoBulk d + 1
  | (_, d) => uptoBulk d + 1
 end
def uptoSmall : (H : Type) → List (DataW H) → Bool := fun _ ds => decide (uptoBulkAll ds ≤ 1048576)
def OpenSpec.upto (s : _root_.Go.ChangeSpec) : _root_.Go.OpenSpec := { _root_.Go.OpenSpec.ofChange s with cond := some uptoSmall }

/-- 'reedpenlaw10.CoverReads', WHERE WHAT IT READS IS OF BULK AT MOST 1048576: true; the input reads as it did. -/
def coverReadsUptoRow : OpenClaim := { program := "ytakplhfiohjcmaa", sum := "c406efab6b2adb3d0b2b7b807f1b546ebbeaba19211f9ec7672bc7600aa7d3bd", func := "reedpen/reedpenlaw10.CoverReads", spec := "coverReads", unfollowed := true, recurses := true, apart := false, narrowed := true }
def CoverReadsUptoSaid : Prop := coverReadsUptoRow.holds Try.pinned (OpenSpec.upto coverReadsSpec)

/-- 'reedpenlaw10.CoverFinds', WHERE WHAT IT READS IS OF BULK AT MOST 1048576: true; the input reads as it did. -/
def coverFindsUptoRow : OpenClaim := { program := "ytakplhfiohjcmaa", sum := "c406efab6b2adb3d0b2b7b807f1b546ebbeaba19211f9ec7672bc7600aa7d3bd", func := "reedpen/reedpenlaw10.CoverFinds", spec := "coverFinds", unfollowed := true, recurses := true, apart := false, narrowed := true }
def CoverFindsUptoSaid : Prop := coverFindsUptoRow.holds Try.pinned (OpenSpec.upto coverFindsSpec)

/-- 'reedpenlaw10.CoverSets', WHERE WHAT IT READS IS OF BULK AT MOST 1048576: true; the input reads as it did. -/
def coverSetsUptoRow : OpenClaim := { program := "ytakplhfiohjcmaa", sum := "c406efab6b2adb3d0b2b7b807f1b546ebbeaba19211f9ec7672bc7600aa7d3bd", func := "reedpen/reedpenlaw10.CoverSets", spec := "coverSets", unfollowed := true, recurses := true, apart := false, narrowed := true }
def CoverSetsUptoSaid : Prop := coverSetsUptoRow.holds Try.pinned (OpenSpec.upto coverSetsSpec)

/-- 'reedpenlaw10.CoverMeets', WHERE WHAT IT READS IS OF BULK AT MOST 1048576: true; the input reads as it did. -/
def coverMeetsUptoRow : OpenClaim := { program := "ytakplhfiohjcmaa", sum := "c406efab6b2adb3d0b2b7b807f1b546ebbeaba19211f9ec7672bc7600aa7d3bd", func := "reedpen/reedpenlaw10.CoverMeets", spec := "coverMeets", unfollowed := true, recurses := true, apart := false, narrowed := true }
def CoverMeetsUptoSaid : Prop := coverMeetsUptoRow.holds Try.pinned (OpenSpec.upto coverMeetsSpec)

/-- 'reedpenlaw10.CoverIndex', WHERE WHAT IT READS IS OF BULK AT MOST 1048576: true; the input reads as it did. -/
def coverIndexUptoRow : OpenClaim := { program := "ytakplhfiohjcmaa", sum := "c406efab6b2adb3d0b2b7b807f1b546ebbeaba19211f9ec7672bc7600aa7d3bd", func := "reedpen/reedpenlaw10.CoverIndex", spec := "coverIndex", unfollowed := true, recurses := true, apart := false, narrowed := true }
def CoverIndexUptoSaid : Prop := coverIndexUptoRow.holds Try.pinned (OpenSpec.upto coverIndexSpec)

/-- 'reedpenlaw11.ContextReads', WHERE WHAT IT READS IS OF BULK AT MOST 1048576: true; the input reads as it did. -/
def contextReadsUptoRow : OpenClaim := { program := "ytakplhfiohjcmaa", sum := "c406efab6b2adb3d0b2b7b807f1b546ebbeaba19211f9ec7672bc7600aa7d3bd", func := "reedpen/reedpenlaw11.ContextReads", spec := "contextReads", unfollowed := true, recurses := true, apart := false, narrowed := true }
def ContextReadsUptoSaid : Prop := contextReadsUptoRow.holds Try.pinned (OpenSpec.upto contextReadsSpec)

/-- 'reedpenlaw11.ContextChains', WHERE WHAT IT READS IS OF BULK AT MOST 1048576: true; the input reads as it did. -/
def contextChainsUptoRow : OpenClaim := { program := "ytakplhfiohjcmaa", sum := "c406efab6b2adb3d0b2b7b807f1b546ebbeaba19211f9ec7672bc7600aa7d3bd", func := "reedpen/reedpenlaw11.ContextChains", spec := "contextChains", unfollowed := true, recurses := true, apart := false, narrowed := true }
def ContextChainsUptoSaid : Prop := contextChainsUptoRow.holds Try.pinned (OpenSpec.upto contextChainsSpec)

/-- 'reedpenlaw11.ContextMay', WHERE WHAT IT READS IS OF BULK AT MOST 1048576: true; the input reads as it did. -/
def contextMayUptoRow : OpenClaim := { program := "ytakplhfiohjcmaa", sum := "c406efab6b2adb3d0b2b7b807f1b546ebbeaba19211f9ec7672bc7600aa7d3bd", func := "reedpen/reedpenlaw11.ContextMay", spec := "contextMay", unfollowed := true, recurses := true, apart := false, narrowed := true }
def ContextMayUptoSaid : Prop := contextMayUptoRow.holds Try.pinned (OpenSpec.upto contextMaySpec)

/-- 'reedpenlaw11.ContextBoth', WHERE WHAT IT READS IS OF BULK AT MOST 1048576: true; the input reads as it did. -/
def contextBothUptoRow : OpenClaim := { program := "ytakplhfiohjcmaa", sum := "c406efab6b2adb3d0b2b7b807f1b546ebbeaba19211f9ec7672bc7600aa7d3bd", func := "reedpen/reedpenlaw11.ContextBoth", spec := "contextBoth", unfollowed := true, recurses := true, apart := false, narrowed := true }
def ContextBothUptoSaid : Prop := contextBothUptoRow.holds Try.pinned (OpenSpec.upto contextBothSpec)

/-- 'reedpenlaw11.ContextBehind', WHERE WHAT IT READS IS OF BULK AT MOST 1048576: true; the input reads as it did. -/
def contextBehindUptoRow : OpenClaim := { program := "ytakplhfiohjcmaa", sum := "c406efab6b2adb3d0b2b7b807f1b546ebbeaba19211f9ec7672bc7600aa7d3bd", func := "reedpen/reedpenlaw11.ContextBehind", spec := "contextBehind", unfollowed := true, recurses := true, apart := false, narrowed := true }
def ContextBehindUptoSaid : Prop := contextBehindUptoRow.holds Try.pinned (OpenSpec.upto contextBehindSpec)

/-- 'reedpenlaw15.GdefReads', WHERE WHAT IT READS IS OF BULK AT MOST 1048576: true; the input reads as it did. -/
def gdefReadsUptoRow : OpenClaim := { program := "ytakplhfiohjcmaa", sum := "c406efab6b2adb3d0b2b7b807f1b546ebbeaba19211f9ec7672bc7600aa7d3bd", func := "reedpen/reedpenlaw15.GdefReads", spec := "gdefReads", unfollowed := true, recurses := true, apart := false, narrowed := true }
def GdefReadsUptoSaid : Prop := gdefReadsUptoRow.holds Try.pinned (OpenSpec.upto gdefReadsSpec)

/-- 'reedpenlaw15.GdefFinds', WHERE WHAT IT READS IS OF BULK AT MOST 1048576: true; the input reads as it did. -/
def gdefFindsUptoRow : OpenClaim := { program := "ytakplhfiohjcmaa", sum := "c406efab6b2adb3d0b2b7b807f1b546ebbeaba19211f9ec7672bc7600aa7d3bd", func := "reedpen/reedpenlaw15.GdefFinds", spec := "gdefFinds", unfollowed := true, recurses := true, apart := false, narrowed := true }
def GdefFindsUptoSaid : Prop := gdefFindsUptoRow.holds Try.pinned (OpenSpec.upto gdefFindsSpec)

/-- 'reedpenlaw15.GdefMay', WHERE WHAT IT READS IS OF BULK AT MOST 1048576: true; the input reads as it did. -/
def gdefMayUptoRow : OpenClaim := { program := "ytakplhfiohjcmaa", sum := "c406efab6b2adb3d0b2b7b807f1b546ebbeaba19211f9ec7672bc7600aa7d3bd", func := "reedpen/reedpenlaw15.GdefMay", spec := "gdefMay", unfollowed := true, recurses := true, apart := false, narrowed := true }
def GdefMayUptoSaid : Prop := gdefMayUptoRow.holds Try.pinned (OpenSpec.upto gdefMaySpec)

/-- 'reedpenlaw15.GdefBehind', WHERE WHAT IT READS IS OF BULK AT MOST 1048576: true; the input reads as it did. -/
def gdefBehindUptoRow : OpenClaim := { program := "ytakplhfiohjcmaa", sum := "c406efab6b2adb3d0b2b7b807f1b546ebbeaba19211f9ec7672bc7600aa7d3bd", func := "reedpen/reedpenlaw15.GdefBehind", spec := "gdefBehind", unfollowed := true, recurses := true, apart := false, narrowed := true }
def GdefBehindUptoSaid : Prop := gdefBehindUptoRow.holds Try.pinned (OpenSpec.upto gdefBehindSpec)

end Rows
end Go.Proofs.Ytakplhfiohjcmaa
