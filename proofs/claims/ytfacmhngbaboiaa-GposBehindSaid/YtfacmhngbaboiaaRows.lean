/-
  No cell of these rows narrows 'for every input' (looked for: loops, veiled, ifaces, maps, wideKeys, modest, calm, conditions, laid).
  DERIVED. THE GIVEN ROWS OF THIS SEAT. 7 by the template 'for every input the law returns true; each argument reads behind the call as it read before'; 0 by the template 'total and deterministic' (their statements: YtfacmhngbaboiaaTotals.lean).
  GIVEN WITH THE SEED: the statements are not yours to turn. If you find one false, say at which input.
  Laid BY PROGRAM, IN A SANDBOX (cutbox-rows.mjs): the forced cells as the released guide's own fill.sh prints them over the translation 6c711e210464d0ae… (all of the seat's roots in one cut). By AI agents, Wed Nov 11 2026. No macro, syntax, notation, axiom, sorry.
-/
import Derived.Test.YtfacmhngbaboiaaChecked
import GoSem.Claim
import GoSem.ClaimJoined
import GoSem.ClaimMapViews
import Derived.JoinedTies
import Derived.KernelRfl
namespace Go.Proofs.Ytfacmhngbaboiaa
/- THE CELL 'sum', in the pinned program and in every row, IS THE sha256 OF THE DUMP (.gsa) THAT YtfacmhngbaboiaaProg.lean LOADS. Nothing in Lean hashes anything: it is a label: what it is worth is what the hold of that sum in a sandbox is worth. -/
noncomputable def Try.pinned : Pinned := { name := "ytfacmhngbaboiaa", sum := "6c711e210464d0aecfce84f11668431a3db9370b534ece08e55e66d99dcc2218", checked := Try.checked }
namespace Rows
def none {H : Type} : Left H := { results := [], args := [] }

/-- 'reedpenlaw12.GsubReads': WHATEVER THE INPUT: true; the input reads as it did. -/
def gsubReadsSpec : ChangeSpec := { name := "gsubReads", fn := fun _ => fun
  | [d1, d2, d3] => { results := [.lit (.bool true)], args := [d1, d2, d3] }
  | _ => none }
def gsubReadsRow : OpenClaim := { program := "ytfacmhngbaboiaa", sum := "6c711e210464d0aecfce84f11668431a3db9370b534ece08e55e66d99dcc2218", func := "reedpen/reedpenlaw12.GsubReads", spec := "gsubReads", unfollowed := true, recurses := true, apart := false }
def GsubReadsSaid : Prop := gsubReadsRow.holds Try.pinned (OpenSpec.ofChange gsubReadsSpec)

/-- ITS FALSE NEIGHBOUR: 'it returns false'. Refute it at one input. -/
def gsubReadsWrong : ChangeSpec := { name := "gsubReads", fn := fun _ => fun
  | [d1, d2, d3] => { results := [.lit (.bool false)], args := [d1, d2, d3] }
  | _ => none }
def GsubReadsWrongFalsely : Prop := gsubReadsRow.holds Try.pinned (OpenSpec.ofChange gsubReadsWrong)

/-- 'reedpenlaw12.GsubThings': WHATEVER THE INPUT: true; the input reads as it did. -/
def gsubThingsSpec : ChangeSpec := { name := "gsubThings", fn := fun _ => fun
  | [d] => { results := [.lit (.bool true)], args := [d] }
  | _ => none }
def gsubThingsRow : OpenClaim := { program := "ytfacmhngbaboiaa", sum := "6c711e210464d0aecfce84f11668431a3db9370b534ece08e55e66d99dcc2218", func := "reedpen/reedpenlaw12.GsubThings", spec := "gsubThings", unfollowed := true, recurses := true, apart := false }
def GsubThingsSaid : Prop := gsubThingsRow.holds Try.pinned (OpenSpec.ofChange gsubThingsSpec)

/-- ITS FALSE NEIGHBOUR: 'it returns false'. Refute it at one input. -/
def gsubThingsWrong : ChangeSpec := { name := "gsubThings", fn := fun _ => fun
  | [d] => { results := [.lit (.bool false)], args := [d] }
  | _ => none }
def GsubThingsWrongFalsely : Prop := gsubThingsRow.holds Try.pinned (OpenSpec.ofChange gsubThingsWrong)

/-- 'reedpenlaw12.GsubMay': WHATEVER THE INPUT: true; the input reads as it did. -/
def gsubMaySpec : ChangeSpec := { name := "gsubMay", fn := fun _ => fun
  | [d1, d2, d3] => { results := [.lit (.bool true)], args := [d1, d2, d3] }
  | _ => none }
def gsubMayRow : OpenClaim := { program := "ytfacmhngbaboiaa", sum := "6c711e210464d0aecfce84f11668431a3db9370b534ece08e55e66d99dcc2218", func := "reedpen/reedpenlaw12.GsubMay", spec := "gsubMay", unfollowed := true, recurses := true, apart := false }
def GsubMaySaid : Prop := gsubMayRow.holds Try.pinned (OpenSpec.ofChange gsubMaySpec)

/-- ITS FALSE NEIGHBOUR: 'it returns false'. Refute it at one input. -/
def gsubMayWrong : ChangeSpec := { name := "gsubMay", fn := fun _ => fun
  | [d1, d2, d3] => { results := [.lit (.bool false)], args := [d1, d2, d3] }
  | _ => none }
def GsubMayWrongFalsely : Prop := gsubMayRow.holds Try.pinned (OpenSpec.ofChange gsubMayWrong)

/-- 'reedpenlaw12.GsubBehind': WHATEVER THE INPUT: true; the input reads as it did. -/
def gsubBehindSpec : ChangeSpec := { name := "gsubBehind", fn := fun _ => fun
  | [d1, d2, d3] => { results := [.lit (.bool true)], args := [d1, d2, d3] }
  | _ => none }
def gsubBehindRow : OpenClaim := { program := "ytfacmhngbaboiaa", sum := "6c711e210464d0aecfce84f11668431a3db9370b534ece08e55e66d99dcc2218", func := "reedpen/reedpenlaw12.GsubBehind", spec := "gsubBehind", unfollowed := true, recurses := true, apart := false }
def GsubBehindSaid : Prop := gsubBehindRow.holds Try.pinned (OpenSpec.ofChange gsubBehindSpec)

/-- ITS FALSE NEIGHBOUR: 'it returns false'. Refute it at one input. -/
def gsubBehindWrong : ChangeSpec := { name := "gsubBehind", fn := fun _ => fun
  | [d1, d2, d3] => { results := [.lit (.bool false)], args := [d1, d2, d3] }
  | _ => none }
def GsubBehindWrongFalsely : Prop := gsubBehindRow.holds Try.pinned (OpenSpec.ofChange gsubBehindWrong)

/-- 'reedpenlaw13.GposThings': WHATEVER THE INPUT: true; the input reads as it did. -/
def gposThingsSpec : ChangeSpec := { name := "gposThings", fn := fun _ => fun
  | [d] => { results := [.lit (.bool true)], args := [d] }
  | _ => none }
def gposThingsRow : OpenClaim := { program := "ytfacmhngbaboiaa", sum := "6c711e210464d0aecfce84f11668431a3db9370b534ece08e55e66d99dcc2218", func := "reedpen/reedpenlaw13.GposThings", spec := "gposThings", unfollowed := true, recurses := true, apart := false }
def GposThingsSaid : Prop := gposThingsRow.holds Try.pinned (OpenSpec.ofChange gposThingsSpec)

/-- ITS FALSE NEIGHBOUR: 'it returns false'. Refute it at one input. -/
def gposThingsWrong : ChangeSpec := { name := "gposThings", fn := fun _ => fun
  | [d] => { results := [.lit (.bool false)], args := [d] }
  | _ => none }
def GposThingsWrongFalsely : Prop := gposThingsRow.holds Try.pinned (OpenSpec.ofChange gposThingsWrong)

/-- 'reedpenlaw13.GposMay': WHATEVER THE INPUT: true; the input reads as it did. -/
def gposMaySpec : ChangeSpec := { name := "gposMay", fn := fun _ => fun
  | [d1, d2, d3] => { results := [.lit (.bool true)], args := [d1, d2, d3] }
  | _ => none }
def gposMayRow : OpenClaim := { program := "ytfacmhngbaboiaa", sum := "6c711e210464d0aecfce84f11668431a3db9370b534ece08e55e66d99dcc2218", func := "reedpen/reedpenlaw13.GposMay", spec := "gposMay", unfollowed := true, recurses := true, apart := false }
def GposMaySaid : Prop := gposMayRow.holds Try.pinned (OpenSpec.ofChange gposMaySpec)

/-- ITS FALSE NEIGHBOUR: 'it returns false'. Refute it at one input. -/
def gposMayWrong : ChangeSpec := { name := "gposMay", fn := fun _ => fun
  | [d1, d2, d3] => { results := [.lit (.bool false)], args := [d1, d2, d3] }
  | _ => none }
def GposMayWrongFalsely : Prop := gposMayRow.holds Try.pinned (OpenSpec.ofChange gposMayWrong)

/-- 'reedpenlaw13.GposBehind': WHATEVER THE INPUT: true; the input reads as it did. -/
def gposBehindSpec : ChangeSpec := { name := "gposBehind", fn := fun _ => fun
  | [d1, d2, d3] => { results := [.lit (.bool true)], args := [d1, d2, d3] }
  | _ => none }
def gposBehindRow : OpenClaim := { program := "ytfacmhngbaboiaa", sum := "6c711e210464d0aecfce84f11668431a3db9370b534ece08e55e66d99dcc2218", func := "reedpen/reedpenlaw13.GposBehind", spec := "gposBehind", unfollowed := true, recurses := true, apart := false }
def GposBehindSaid : Prop := gposBehindRow.holds Try.pinned (OpenSpec.ofChange gposBehindSpec)

/-- ITS FALSE NEIGHBOUR: 'it returns false'. Refute it at one input. -/
def gposBehindWrong : ChangeSpec := { name := "gposBehind", fn := fun _ => fun
  | [d1, d2, d3] => { results := [.lit (.bool false)], args := [d1, d2, d3] }
  | _ => none }
def GposBehindWrongFalsely : Prop := gposBehindRow.holds Try.pinned (OpenSpec.ofChange gposBehindWrong)

/- THE SECOND FORM. 'bulk': how many values and letters a reading holds, each counted each time it is reached (what is shared counts as often as it is met; a slice's spare places count too). A statement '..UptoSaid' is the law's where the arguments, and the package variables that the reading takes, are together of bulk at most 1048576: NARROWER than '..Said'. Prove '..Said' where nothing that the law and all that it calls make is longer than what came in: it says more and counts as full. Else prove '..UptoSaid'. A law counts once. -/
mutual
def uptoBulk {H : Type} : DataW H → Nat
  | .lit (.string bytes) => bytes.length + 1
  | .lit _ => 1
  | .nil => 1
  | .ptr d => uptoBulk d + 1
  | .slice elems spare => uptoBulkAll elems + uptoBulkAll spare + 1
  | .agg parts => uptoBulkAll parts + 1
  | .iface _ d => uptoBulk d + 1
  | .map entries => uptoBulkEntries entries + 1
  | .held _ => 1
def uptoBulkAll {H : Type} : List (DataW H) → Nat
  | [] => 0
  | d :: r => uptoBulk d + uptoBulkAll r
def uptoBulkEntries {H : Type} : List (Lit × DataW H) → Nat
  | [] => 0
  | x :: r => uptoBulkEntry x + uptoBulkEntries r
def uptoBulkEntry {H : Type} : Lit × DataW H → Nat
  | (.string bytes, d) => bytes.length + uptoBulk d + 1
  | (_, d) => uptoBulk d + 1
 end
def uptoSmall : (H : Type) → List (DataW H) → Bool := fun _ ds => decide (uptoBulkAll ds ≤ 1048576)
def OpenSpec.upto (s : _root_.Go.ChangeSpec) : _root_.Go.OpenSpec := { _root_.Go.OpenSpec.ofChange s with cond := some uptoSmall }

/-- 'reedpenlaw12.GsubReads', WHERE WHAT IT READS IS OF BULK AT MOST 1048576: true; the input reads as it did. -/
def gsubReadsUptoRow : OpenClaim := { program := "ytfacmhngbaboiaa", sum := "6c711e210464d0aecfce84f11668431a3db9370b534ece08e55e66d99dcc2218", func := "reedpen/reedpenlaw12.GsubReads", spec := "gsubReads", unfollowed := true, recurses := true, apart := false, narrowed := true }
def GsubReadsUptoSaid : Prop := gsubReadsUptoRow.holds Try.pinned (OpenSpec.upto gsubReadsSpec)

/-- 'reedpenlaw12.GsubThings', WHERE WHAT IT READS IS OF BULK AT MOST 1048576: true; the input reads as it did. -/
def gsubThingsUptoRow : OpenClaim := { program := "ytfacmhngbaboiaa", sum := "6c711e210464d0aecfce84f11668431a3db9370b534ece08e55e66d99dcc2218", func := "reedpen/reedpenlaw12.GsubThings", spec := "gsubThings", unfollowed := true, recurses := true, apart := false, narrowed := true }
def GsubThingsUptoSaid : Prop := gsubThingsUptoRow.holds Try.pinned (OpenSpec.upto gsubThingsSpec)

/-- 'reedpenlaw12.GsubMay', WHERE WHAT IT READS IS OF BULK AT MOST 1048576: true; the input reads as it did. -/
def gsubMayUptoRow : OpenClaim := { program := "ytfacmhngbaboiaa", sum := "6c711e210464d0aecfce84f11668431a3db9370b534ece08e55e66d99dcc2218", func := "reedpen/reedpenlaw12.GsubMay", spec := "gsubMay", unfollowed := true, recurses := true, apart := false, narrowed := true }
def GsubMayUptoSaid : Prop := gsubMayUptoRow.holds Try.pinned (OpenSpec.upto gsubMaySpec)

/-- 'reedpenlaw12.GsubBehind', WHERE WHAT IT READS IS OF BULK AT MOST 1048576: true; the input reads as it did. -/
def gsubBehindUptoRow : OpenClaim := { program := "ytfacmhngbaboiaa", sum := "6c711e210464d0aecfce84f11668431a3db9370b534ece08e55e66d99dcc2218", func := "reedpen/reedpenlaw12.GsubBehind", spec := "gsubBehind", unfollowed := true, recurses := true, apart := false, narrowed := true }
def GsubBehindUptoSaid : Prop := gsubBehindUptoRow.holds Try.pinned (OpenSpec.upto gsubBehindSpec)

/-- 'reedpenlaw13.GposThings', WHERE WHAT IT READS IS OF BULK AT MOST 1048576: true; the input reads as it did. -/
def gposThingsUptoRow : OpenClaim := { program := "ytfacmhngbaboiaa", sum := "6c711e210464d0aecfce84f11668431a3db9370b534ece08e55e66d99dcc2218", func := "reedpen/reedpenlaw13.GposThings", spec := "gposThings", unfollowed := true, recurses := true, apart := false, narrowed := true }
def GposThingsUptoSaid : Prop := gposThingsUptoRow.holds Try.pinned (OpenSpec.upto gposThingsSpec)

/-- 'reedpenlaw13.GposMay', WHERE WHAT IT READS IS OF BULK AT MOST 1048576: true; the input reads as it did. -/
def gposMayUptoRow : OpenClaim := { program := "ytfacmhngbaboiaa", sum := "6c711e210464d0aecfce84f11668431a3db9370b534ece08e55e66d99dcc2218", func := "reedpen/reedpenlaw13.GposMay", spec := "gposMay", unfollowed := true, recurses := true, apart := false, narrowed := true }
def GposMayUptoSaid : Prop := gposMayUptoRow.holds Try.pinned (OpenSpec.upto gposMaySpec)

/-- 'reedpenlaw13.GposBehind', WHERE WHAT IT READS IS OF BULK AT MOST 1048576: true; the input reads as it did. -/
def gposBehindUptoRow : OpenClaim := { program := "ytfacmhngbaboiaa", sum := "6c711e210464d0aecfce84f11668431a3db9370b534ece08e55e66d99dcc2218", func := "reedpen/reedpenlaw13.GposBehind", spec := "gposBehind", unfollowed := true, recurses := true, apart := false, narrowed := true }
def GposBehindUptoSaid : Prop := gposBehindUptoRow.holds Try.pinned (OpenSpec.upto gposBehindSpec)

end Rows
end Go.Proofs.Ytfacmhngbaboiaa
