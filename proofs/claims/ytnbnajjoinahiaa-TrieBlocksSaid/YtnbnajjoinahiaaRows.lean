/-
  No cell of these rows narrows 'for every input' (looked for: loops, veiled, ifaces, maps, wideKeys, modest, calm, conditions, laid).
  DERIVED. THE GIVEN ROWS OF THIS SEAT. 9 by the template 'for every input the law returns true; each argument reads behind the call as it read before'; 0 by the template 'total and deterministic' (their statements: YtnbnajjoinahiaaTotals.lean).
  GIVEN WITH THE SEED: the statements are not yours to turn. If you find one false, say at which input.
  Laid BY PROGRAM, IN A SANDBOX (cutbox-rows.mjs): the forced cells as the released guide's own fill.sh prints them over the translation 3e61ce211afb1525… (all of the seat's roots in one cut). By AI agents, Wed Nov 11 2026. No macro, syntax, notation, axiom, sorry.
-/
import Derived.Test.YtnbnajjoinahiaaChecked
import GoSem.Claim
import GoSem.ClaimJoined
import GoSem.ClaimMapViews
import Derived.JoinedTies
import Derived.KernelRfl
namespace Go.Proofs.Ytnbnajjoinahiaa
/- THE CELL 'sum', in the pinned program and in every row, IS THE sha256 OF THE DUMP (.gsa) THAT YtnbnajjoinahiaaProg.lean LOADS. Nothing in Lean hashes anything: it is a label: what it is worth is what the hold of that sum in a sandbox is worth. -/
noncomputable def Try.pinned : Pinned := { name := "ytnbnajjoinahiaa", sum := "3e61ce211afb1525da4ecb63b4acaa286b5120581c3a41303e03110e97bb296d", checked := Try.checked }
namespace Rows
def none {H : Type} : Left H := { results := [], args := [] }

/-- 'reedpenlaw08.MiniClasses': WHATEVER THE INPUT: true; the input reads as it did. -/
def miniClassesSpec : ChangeSpec := { name := "miniClasses", fn := fun _ => fun
  | [d] => { results := [.lit (.bool true)], args := [d] }
  | _ => none }
def miniClassesRow : OpenClaim := { program := "ytnbnajjoinahiaa", sum := "3e61ce211afb1525da4ecb63b4acaa286b5120581c3a41303e03110e97bb296d", func := "reedpen/reedpenlaw08.MiniClasses", spec := "miniClasses", plainKeys := false, apart := false }
def MiniClassesSaid : Prop := miniClassesRow.holds Try.pinned (OpenSpec.ofChange miniClassesSpec)

/-- ITS FALSE NEIGHBOUR: 'it returns false'. Refute it at one input. -/
def miniClassesWrong : ChangeSpec := { name := "miniClasses", fn := fun _ => fun
  | [d] => { results := [.lit (.bool false)], args := [d] }
  | _ => none }
def MiniClassesWrongFalsely : Prop := miniClassesRow.holds Try.pinned (OpenSpec.ofChange miniClassesWrong)

/-- 'reedpenlaw08.MiniSmall': WHATEVER THE INPUT: true; the input reads as it did. -/
def miniSmallSpec : ChangeSpec := { name := "miniSmall", fn := fun _ => fun
  | [d] => { results := [.lit (.bool true)], args := [d] }
  | _ => none }
def miniSmallRow : OpenClaim := { program := "ytnbnajjoinahiaa", sum := "3e61ce211afb1525da4ecb63b4acaa286b5120581c3a41303e03110e97bb296d", func := "reedpen/reedpenlaw08.MiniSmall", spec := "miniSmall", plainKeys := false, apart := false }
def MiniSmallSaid : Prop := miniSmallRow.holds Try.pinned (OpenSpec.ofChange miniSmallSpec)

/-- ITS FALSE NEIGHBOUR: 'it returns false'. Refute it at one input. -/
def miniSmallWrong : ChangeSpec := { name := "miniSmall", fn := fun _ => fun
  | [d] => { results := [.lit (.bool false)], args := [d] }
  | _ => none }
def MiniSmallWrongFalsely : Prop := miniSmallRow.holds Try.pinned (OpenSpec.ofChange miniSmallWrong)

/-- 'reedpenlaw08.MiniSame': WHATEVER THE INPUT: true; the input reads as it did. -/
def miniSameSpec : ChangeSpec := { name := "miniSame", fn := fun _ => fun
  | [d1, d2] => { results := [.lit (.bool true)], args := [d1, d2] }
  | _ => none }
def miniSameRow : OpenClaim := { program := "ytnbnajjoinahiaa", sum := "3e61ce211afb1525da4ecb63b4acaa286b5120581c3a41303e03110e97bb296d", func := "reedpen/reedpenlaw08.MiniSame", spec := "miniSame", plainKeys := false, apart := false }
def MiniSameSaid : Prop := miniSameRow.holds Try.pinned (OpenSpec.ofChange miniSameSpec)

/-- ITS FALSE NEIGHBOUR: 'it returns false'. Refute it at one input. -/
def miniSameWrong : ChangeSpec := { name := "miniSame", fn := fun _ => fun
  | [d1, d2] => { results := [.lit (.bool false)], args := [d1, d2] }
  | _ => none }
def MiniSameWrongFalsely : Prop := miniSameRow.holds Try.pinned (OpenSpec.ofChange miniSameWrong)

/-- 'reedpenlaw08.MiniRelation': WHATEVER THE INPUT: true; the input reads as it did. -/
def miniRelationSpec : ChangeSpec := { name := "miniRelation", fn := fun _ => fun
  | [d1, d2, d3, d4] => { results := [.lit (.bool true)], args := [d1, d2, d3, d4] }
  | _ => none }
def miniRelationRow : OpenClaim := { program := "ytnbnajjoinahiaa", sum := "3e61ce211afb1525da4ecb63b4acaa286b5120581c3a41303e03110e97bb296d", func := "reedpen/reedpenlaw08.MiniRelation", spec := "miniRelation", plainKeys := false, apart := false }
def MiniRelationSaid : Prop := miniRelationRow.holds Try.pinned (OpenSpec.ofChange miniRelationSpec)

/-- ITS FALSE NEIGHBOUR: 'it returns false'. Refute it at one input. -/
def miniRelationWrong : ChangeSpec := { name := "miniRelation", fn := fun _ => fun
  | [d1, d2, d3, d4] => { results := [.lit (.bool false)], args := [d1, d2, d3, d4] }
  | _ => none }
def MiniRelationWrongFalsely : Prop := miniRelationRow.holds Try.pinned (OpenSpec.ofChange miniRelationWrong)

/-- 'reedpenlaw08.MiniMatches': WHATEVER THE INPUT: true; the input reads as it did. -/
def miniMatchesSpec : ChangeSpec := { name := "miniMatches", fn := fun _ => fun
  | [d1, d2] => { results := [.lit (.bool true)], args := [d1, d2] }
  | _ => none }
def miniMatchesRow : OpenClaim := { program := "ytnbnajjoinahiaa", sum := "3e61ce211afb1525da4ecb63b4acaa286b5120581c3a41303e03110e97bb296d", func := "reedpen/reedpenlaw08.MiniMatches", spec := "miniMatches", plainKeys := false, apart := false }
def MiniMatchesSaid : Prop := miniMatchesRow.holds Try.pinned (OpenSpec.ofChange miniMatchesSpec)

/-- ITS FALSE NEIGHBOUR: 'it returns false'. Refute it at one input. -/
def miniMatchesWrong : ChangeSpec := { name := "miniMatches", fn := fun _ => fun
  | [d1, d2] => { results := [.lit (.bool false)], args := [d1, d2] }
  | _ => none }
def MiniMatchesWrongFalsely : Prop := miniMatchesRow.holds Try.pinned (OpenSpec.ofChange miniMatchesWrong)

/-- 'reedpenlaw03.TrieGets': WHATEVER THE INPUT: true; the input reads as it did. -/
def trieGetsSpec : ChangeSpec := { name := "trieGets", fn := fun _ => fun
  | [d1, d2] => { results := [.lit (.bool true)], args := [d1, d2] }
  | _ => none }
def trieGetsRow : OpenClaim := { program := "ytnbnajjoinahiaa", sum := "3e61ce211afb1525da4ecb63b4acaa286b5120581c3a41303e03110e97bb296d", func := "reedpen/reedpenlaw03.TrieGets", spec := "trieGets", inPlace := ["sync/atomic.AddInt64", "sync/atomic.StoreUint32", "sync/atomic.LoadUint32", "(*internal/sync.Mutex).Lock", "internal/race.Disable", "sync/atomic.CompareAndSwapInt32", "internal/race.Enable", "internal/race.Acquire", "(*internal/sync.Mutex).lockSlow", "internal/sync.runtime_canSpin", "internal/sync.runtime_doSpin", "internal/sync.throw", "internal/sync.runtime_nanotime", "internal/sync.runtime_SemacquireMutex", "sync/atomic.AddInt32", "(*internal/sync.Mutex).Unlock", "internal/race.ReleaseMerge", "(*internal/sync.Mutex).unlockSlow", "internal/sync.fatal", "internal/sync.runtime_Semrelease", "sync/atomic.LoadInt64"], unfollowed := true, recurses := true, plainKeys := false, apart := false }
def TrieGetsSaid : Prop := trieGetsRow.holds Try.pinned (OpenSpec.ofChange trieGetsSpec)

/-- ITS FALSE NEIGHBOUR: 'it returns false'. Refute it at one input. -/
def trieGetsWrong : ChangeSpec := { name := "trieGets", fn := fun _ => fun
  | [d1, d2] => { results := [.lit (.bool false)], args := [d1, d2] }
  | _ => none }
def TrieGetsWrongFalsely : Prop := trieGetsRow.holds Try.pinned (OpenSpec.ofChange trieGetsWrong)

/-- 'reedpenlaw03.TrieBlocks': WHATEVER THE INPUT: true; the input reads as it did. -/
def trieBlocksSpec : ChangeSpec := { name := "trieBlocks", fn := fun _ => fun
  | [d] => { results := [.lit (.bool true)], args := [d] }
  | _ => none }
def trieBlocksRow : OpenClaim := { program := "ytnbnajjoinahiaa", sum := "3e61ce211afb1525da4ecb63b4acaa286b5120581c3a41303e03110e97bb296d", func := "reedpen/reedpenlaw03.TrieBlocks", spec := "trieBlocks", inPlace := ["sync/atomic.AddInt64", "sync/atomic.StoreUint32", "sync/atomic.LoadUint32", "(*internal/sync.Mutex).Lock", "internal/race.Disable", "sync/atomic.CompareAndSwapInt32", "internal/race.Enable", "internal/race.Acquire", "(*internal/sync.Mutex).lockSlow", "internal/sync.runtime_canSpin", "internal/sync.runtime_doSpin", "internal/sync.throw", "internal/sync.runtime_nanotime", "internal/sync.runtime_SemacquireMutex", "sync/atomic.AddInt32", "(*internal/sync.Mutex).Unlock", "internal/race.ReleaseMerge", "(*internal/sync.Mutex).unlockSlow", "internal/sync.fatal", "internal/sync.runtime_Semrelease", "sync/atomic.LoadInt64"], unfollowed := true, recurses := true, plainKeys := false, apart := false }
def TrieBlocksSaid : Prop := trieBlocksRow.holds Try.pinned (OpenSpec.ofChange trieBlocksSpec)

/-- ITS FALSE NEIGHBOUR: 'it returns false'. Refute it at one input. -/
def trieBlocksWrong : ChangeSpec := { name := "trieBlocks", fn := fun _ => fun
  | [d] => { results := [.lit (.bool false)], args := [d] }
  | _ => none }
def TrieBlocksWrongFalsely : Prop := trieBlocksRow.holds Try.pinned (OpenSpec.ofChange trieBlocksWrong)

/-- 'reedpenlaw03.TrieJoins': WHATEVER THE INPUT: true; the input reads as it did. -/
def trieJoinsSpec : ChangeSpec := { name := "trieJoins", fn := fun _ => fun
  | [d1, d2] => { results := [.lit (.bool true)], args := [d1, d2] }
  | _ => none }
def trieJoinsRow : OpenClaim := { program := "ytnbnajjoinahiaa", sum := "3e61ce211afb1525da4ecb63b4acaa286b5120581c3a41303e03110e97bb296d", func := "reedpen/reedpenlaw03.TrieJoins", spec := "trieJoins", inPlace := ["sync/atomic.AddInt64", "sync/atomic.StoreUint32", "sync/atomic.LoadUint32", "(*internal/sync.Mutex).Lock", "internal/race.Disable", "sync/atomic.CompareAndSwapInt32", "internal/race.Enable", "internal/race.Acquire", "(*internal/sync.Mutex).lockSlow", "internal/sync.runtime_canSpin", "internal/sync.runtime_doSpin", "internal/sync.throw", "internal/sync.runtime_nanotime", "internal/sync.runtime_SemacquireMutex", "sync/atomic.AddInt32", "(*internal/sync.Mutex).Unlock", "internal/race.ReleaseMerge", "(*internal/sync.Mutex).unlockSlow", "internal/sync.fatal", "internal/sync.runtime_Semrelease", "sync/atomic.LoadInt64"], unfollowed := true, recurses := true, plainKeys := false, apart := false }
def TrieJoinsSaid : Prop := trieJoinsRow.holds Try.pinned (OpenSpec.ofChange trieJoinsSpec)

/-- ITS FALSE NEIGHBOUR: 'it returns false'. Refute it at one input. -/
def trieJoinsWrong : ChangeSpec := { name := "trieJoins", fn := fun _ => fun
  | [d1, d2] => { results := [.lit (.bool false)], args := [d1, d2] }
  | _ => none }
def TrieJoinsWrongFalsely : Prop := trieJoinsRow.holds Try.pinned (OpenSpec.ofChange trieJoinsWrong)

/-- 'reedpenlaw03.TrieSame': WHATEVER THE INPUT: true; the input reads as it did. -/
def trieSameSpec : ChangeSpec := { name := "trieSame", fn := fun _ => fun
  | [d1, d2] => { results := [.lit (.bool true)], args := [d1, d2] }
  | _ => none }
def trieSameRow : OpenClaim := { program := "ytnbnajjoinahiaa", sum := "3e61ce211afb1525da4ecb63b4acaa286b5120581c3a41303e03110e97bb296d", func := "reedpen/reedpenlaw03.TrieSame", spec := "trieSame", inPlace := ["sync/atomic.AddInt64", "sync/atomic.StoreUint32", "sync/atomic.LoadUint32", "(*internal/sync.Mutex).Lock", "internal/race.Disable", "sync/atomic.CompareAndSwapInt32", "internal/race.Enable", "internal/race.Acquire", "(*internal/sync.Mutex).lockSlow", "internal/sync.runtime_canSpin", "internal/sync.runtime_doSpin", "internal/sync.throw", "internal/sync.runtime_nanotime", "internal/sync.runtime_SemacquireMutex", "sync/atomic.AddInt32", "(*internal/sync.Mutex).Unlock", "internal/race.ReleaseMerge", "(*internal/sync.Mutex).unlockSlow", "internal/sync.fatal", "internal/sync.runtime_Semrelease", "sync/atomic.LoadInt64"], unfollowed := true, recurses := true, plainKeys := false, apart := false }
def TrieSameSaid : Prop := trieSameRow.holds Try.pinned (OpenSpec.ofChange trieSameSpec)

/-- ITS FALSE NEIGHBOUR: 'it returns false'. Refute it at one input. -/
def trieSameWrong : ChangeSpec := { name := "trieSame", fn := fun _ => fun
  | [d1, d2] => { results := [.lit (.bool false)], args := [d1, d2] }
  | _ => none }
def TrieSameWrongFalsely : Prop := trieSameRow.holds Try.pinned (OpenSpec.ofChange trieSameWrong)

/- THE SECOND FORM. 'bulk': how many values and letters a reading holds, each counted each time it is reached (what is shared counts as often as it is met; a slice's spare places count too). A statement '..UptoSaid' is the law's where the arguments, and the package variables that the reading takes, are together of bulk at most 1048576: NARROWER than '..Said'. Prove '..Said' where nothing that the law and all that it calls make is longer than what came in: it says more and counts as full. Else prove '..UptoSaid'. A law counts once. -/
mutual
def uptoBulk {H : Type} : DataW H → Nat
  | .lit (.string bytes) => bytes.length + 1
  | .lit _ => 1
  | .nil => 1
  | .ptr d => uptoBulk d + 1
  | .slice elems spare => uptoBulkAll elems + uptoBulkAll spare + 1
  | .agg parts => uptoBulkAll parts + 1
  | .iface _ d => uptoBulk d + 1
  | .map entries => uptoBulkEntries entries + 1
  | .held _ => 1
def uptoBulkAll {H : Type} : List (DataW H) → Nat
  | [] => 0
  | d :: r => uptoBulk d + uptoBulkAll r
def uptoBulkEntries {H : Type} : List (Lit × DataW H) → Nat
  | [] => 0
  | x :: r => uptoBulkEntry x + uptoBulkEntries r
def uptoBulkEntry {H : Type} : Lit × DataW H → Nat
  | (.string bytes, d) => bytes.length + uptoBulk d + 1
  | (_, d) => uptoBulk d + 1
 end
def uptoSmall : (H : Type) → List (DataW H) → Bool := fun _ ds => decide (uptoBulkAll ds ≤ 1048576)
def OpenSpec.upto (s : _root_.Go.ChangeSpec) : _root_.Go.OpenSpec := { _root_.Go.OpenSpec.ofChange s with cond := some uptoSmall }

/-- 'reedpenlaw08.MiniClasses', WHERE WHAT IT READS IS OF BULK AT MOST 1048576: true; the input reads as it did. -/
def miniClassesUptoRow : OpenClaim := { program := "ytnbnajjoinahiaa", sum := "3e61ce211afb1525da4ecb63b4acaa286b5120581c3a41303e03110e97bb296d", func := "reedpen/reedpenlaw08.MiniClasses", spec := "miniClasses", plainKeys := false, apart := false, narrowed := true }
def MiniClassesUptoSaid : Prop := miniClassesUptoRow.holds Try.pinned (OpenSpec.upto miniClassesSpec)

/-- 'reedpenlaw08.MiniSmall', WHERE WHAT IT READS IS OF BULK AT MOST 1048576: true; the input reads as it did. -/
def miniSmallUptoRow : OpenClaim := { program := "ytnbnajjoinahiaa", sum := "3e61ce211afb1525da4ecb63b4acaa286b5120581c3a41303e03110e97bb296d", func := "reedpen/reedpenlaw08.MiniSmall", spec := "miniSmall", plainKeys := false, apart := false, narrowed := true }
def MiniSmallUptoSaid : Prop := miniSmallUptoRow.holds Try.pinned (OpenSpec.upto miniSmallSpec)

/-- 'reedpenlaw08.MiniSame', WHERE WHAT IT READS IS OF BULK AT MOST 1048576: true; the input reads as it did. -/
def miniSameUptoRow : OpenClaim := { program := "ytnbnajjoinahiaa", sum := "3e61ce211afb1525da4ecb63b4acaa286b5120581c3a41303e03110e97bb296d", func := "reedpen/reedpenlaw08.MiniSame", spec := "miniSame", plainKeys := false, apart := false, narrowed := true }
def MiniSameUptoSaid : Prop := miniSameUptoRow.holds Try.pinned (OpenSpec.upto miniSameSpec)

/-- 'reedpenlaw08.MiniRelation', WHERE WHAT IT READS IS OF BULK AT MOST 1048576: true; the input reads as it did. -/
def miniRelationUptoRow : OpenClaim := { program := "ytnbnajjoinahiaa", sum := "3e61ce211afb1525da4ecb63b4acaa286b5120581c3a41303e03110e97bb296d", func := "reedpen/reedpenlaw08.MiniRelation", spec := "miniRelation", plainKeys := false, apart := false, narrowed := true }
def MiniRelationUptoSaid : Prop := miniRelationUptoRow.holds Try.pinned (OpenSpec.upto miniRelationSpec)

/-- 'reedpenlaw08.MiniMatches', WHERE WHAT IT READS IS OF BULK AT MOST 1048576: true; the input reads as it did. -/
def miniMatchesUptoRow : OpenClaim := { program := "ytnbnajjoinahiaa", sum := "3e61ce211afb1525da4ecb63b4acaa286b5120581c3a41303e03110e97bb296d", func := "reedpen/reedpenlaw08.MiniMatches", spec := "miniMatches", plainKeys := false, apart := false, narrowed := true }
def MiniMatchesUptoSaid : Prop := miniMatchesUptoRow.holds Try.pinned (OpenSpec.upto miniMatchesSpec)

/-- 'reedpenlaw03.TrieGets', WHERE WHAT IT READS IS OF BULK AT MOST 1048576: true; the input reads as it did. -/
def trieGetsUptoRow : OpenClaim := { program := "ytnbnajjoinahiaa", sum := "3e61ce211afb1525da4ecb63b4acaa286b5120581c3a41303e03110e97bb296d", func := "reedpen/reedpenlaw03.TrieGets", spec := "trieGets", inPlace := ["sync/atomic.AddInt64", "sync/atomic.StoreUint32", "sync/atomic.LoadUint32", "(*internal/sync.Mutex).Lock", "internal/race.Disable", "sync/atomic.CompareAndSwapInt32", "internal/race.Enable", "internal/race.Acquire", "(*internal/sync.Mutex).lockSlow", "internal/sync.runtime_canSpin", "internal/sync.runtime_doSpin", "internal/sync.throw", "internal/sync.runtime_nanotime", "internal/sync.runtime_SemacquireMutex", "sync/atomic.AddInt32", "(*internal/sync.Mutex).Unlock", "internal/race.ReleaseMerge", "(*internal/sync.Mutex).unlockSlow", "internal/sync.fatal", "internal/sync.runtime_Semrelease", "sync/atomic.LoadInt64"], unfollowed := true, recurses := true, plainKeys := false, apart := false, narrowed := true }
def TrieGetsUptoSaid : Prop := trieGetsUptoRow.holds Try.pinned (OpenSpec.upto trieGetsSpec)

/-- 'reedpenlaw03.TrieBlocks', WHERE WHAT IT READS IS OF BULK AT MOST 1048576: true; the input reads as it did. -/
def trieBlocksUptoRow : OpenClaim := { program := "ytnbnajjoinahiaa", sum := "3e61ce211afb1525da4ecb63b4acaa286b5120581c3a41303e03110e97bb296d", func := "reedpen/reedpenlaw03.TrieBlocks", spec := "trieBlocks", inPlace := ["sync/atomic.AddInt64", "sync/atomic.StoreUint32", "sync/atomic.LoadUint32", "(*internal/sync.Mutex).Lock", "internal/race.Disable", "sync/atomic.CompareAndSwapInt32", "internal/race.Enable", "internal/race.Acquire", "(*internal/sync.Mutex).lockSlow", "internal/sync.runtime_canSpin", "internal/sync.runtime_doSpin", "internal/sync.throw", "internal/sync.runtime_nanotime", "internal/sync.runtime_SemacquireMutex", "sync/atomic.AddInt32", "(*internal/sync.Mutex).Unlock", "internal/race.ReleaseMerge", "(*internal/sync.Mutex).unlockSlow", "internal/sync.fatal", "internal/sync.runtime_Semrelease", "sync/atomic.LoadInt64"], unfollowed := true, recurses := true, plainKeys := false, apart := false, narrowed := true }
def TrieBlocksUptoSaid : Prop := trieBlocksUptoRow.holds Try.pinned (OpenSpec.upto trieBlocksSpec)

/-- 'reedpenlaw03.TrieJoins', WHERE WHAT IT READS IS OF BULK AT MOST 1048576: true; the input reads as it did. -/
def trieJoinsUptoRow : OpenClaim := { program := "ytnbnajjoinahiaa", sum := "3e61ce211afb1525da4ecb63b4acaa286b5120581c3a41303e03110e97bb296d", func := "reedpen/reedpenlaw03.TrieJoins", spec := "trieJoins", inPlace := ["sync/atomic.AddInt64", "sync/atomic.StoreUint32", "sync/atomic.LoadUint32", "(*internal/sync.Mutex).Lock", "internal/race.Disable", "sync/atomic.CompareAndSwapInt32", "internal/race.Enable", "internal/race.Acquire", "(*internal/sync.Mutex).lockSlow", "internal/sync.runtime_canSpin", "internal/sync.runtime_doSpin", "internal/sync.throw", "internal/sync.runtime_nanotime", "internal/sync.runtime_SemacquireMutex", "sync/atomic.AddInt32", "(*internal/sync.Mutex).Unlock", "internal/race.ReleaseMerge", "(*internal/sync.Mutex).unlockSlow", "internal/sync.fatal", "internal/sync.runtime_Semrelease", "sync/atomic.LoadInt64"], unfollowed := true, recurses := true, plainKeys := false, apart := false, narrowed := true }
def TrieJoinsUptoSaid : Prop := trieJoinsUptoRow.holds Try.pinned (OpenSpec.upto trieJoinsSpec)

/-- 'reedpenlaw03.TrieSame', WHERE WHAT IT READS IS OF BULK AT MOST 1048576: true; the input reads as it did. -/
def trieSameUptoRow : OpenClaim := { program := "ytnbnajjoinahiaa", sum := "3e61ce211afb1525da4ecb63b4acaa286b5120581c3a41303e03110e97bb296d", func := "reedpen/reedpenlaw03.TrieSame", spec := "trieSame", inPlace := ["sync/atomic.AddInt64", "sync/atomic.StoreUint32", "sync/atomic.LoadUint32", "(*internal/sync.Mutex).Lock", "internal/race.Disable", "sync/atomic.CompareAndSwapInt32", "internal/race.Enable", "internal/race.Acquire", "(*internal/sync.Mutex).lockSlow", "internal/sync.runtime_canSpin", "internal/sync.runtime_doSpin", "internal/sync.throw", "internal/sync.runtime_nanotime", "internal/sync.runtime_SemacquireMutex", "sync/atomic.AddInt32", "(*internal/sync.Mutex).Unlock", "internal/race.ReleaseMerge", "(*internal/sync.Mutex).unlockSlow", "internal/sync.fatal", "internal/sync.runtime_Semrelease", "sync/atomic.LoadInt64"], unfollowed := true, recurses := true, plainKeys := false, apart := false, narrowed := true }
def TrieSameUptoSaid : Prop := trieSameUptoRow.holds Try.pinned (OpenSpec.upto trieSameSpec)

end Rows
end Go.Proofs.Ytnbnajjoinahiaa
