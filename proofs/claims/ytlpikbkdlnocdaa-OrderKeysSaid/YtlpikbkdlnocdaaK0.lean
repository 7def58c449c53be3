-- PRINTED BY mprint.py (a program of this session, over the kit's printer): Lean checks it
import Derived.Test.YtlpikbkdlnocdaaProg
import Derived.Below
import Derived.Deep.Draws
import Derived.Deep.AppendLies
import Derived.Maps.AppendAt
import Derived.OwnWalk
import Derived.Laws.BytesArg
import Derived.Laws.MakeOwn
import Derived.Laws.OwnMore
import Derived.Deep.OwnRows
import Derived.Tactics
import Derived.Lib.ConvBytes
import Derived.Laws.Slices
import Derived.WalkKit
import Derived.KernelRfl
import Derived.RowKit3
import Derived.Deep.LoopGhost
import Derived.Deep.QuietTactic
import Derived.BigQuiet
import Derived.WideLaws
import Derived.Deep.DeepCutAuto
import Derived.Deep.CutBlock
import Derived.Deep.RegionHeld3
import Derived.Laws.Rows
import Derived.Lib.AppendStr
import Derived.ArgAppend
import Derived.Laws.IdiomCopy
import Derived.OrdersHeld
import Derived.Laws.BitsLemmas
import Derived.RowKit
import Derived.Lib.SlBytesConst
import Derived.WalkMore
import Derived.Test.YtlpikbkdlnocdaaWWords
import Derived.Test.YtlpikbkdlnocdaaWLast
import Derived.Test.YtlpikbkdlnocdaaWTab
import Derived.Test.YtlpikbkdlnocdaaWFour
import Derived.Test.YtlpikbkdlnocdaaWQPut
import Derived.Test.YtlpikbkdlnocdaaWApart
import Derived.Test.YtlpikbkdlnocdaaWArr
import Derived.Test.YtlpikbkdlnocdaaWZeros
import Derived.Test.YtlpikbkdlnocdaaWFoot
import Derived.Test.YtlpikbkdlnocdaaWKept
import Derived.Test.YtlpikbkdlnocdaaWShare
import Derived.Test.YtlpikbkdlnocdaaWN
import Derived.Test.YtlpikbkdlnocdaaWFootNe
import Derived.Test.YtlpikbkdlnocdaaWAt
import Derived.Test.YtlpikbkdlnocdaaWEqStruct
import Derived.Test.YtlpikbkdlnocdaaWRepsOne
import Derived.Test.YtlpikbkdlnocdaaWInv
import Derived.Test.YtlpikbkdlnocdaaWInvWords
import Derived.Test.YtlpikbkdlnocdaaWGuard
import Derived.Test.YtlpikbkdlnocdaaWNEv
import Derived.Test.YtlpikbkdlnocdaaWMore
namespace Go.Proofs.Ytlpikbkdlnocdaa.K
open Go.RowKit Go.Proofs.YtlpikbkdlnocdaaW.PrintWords Go.Proofs.YtlpikbkdlnocdaaW.PrintLast Go.Proofs.YtlpikbkdlnocdaaW.PrintMore
attribute [local go_sem] max2_int min2_int max_two min_two max_three min_three max_four min_four   -- for this text's walks alone
set_option linter.unusedVariables false
set_option linter.unusedSimpArgs false



def errW : Option Int → Value
  | none => .nilIface
  | some c => .iface 0 (.int .i64 c)
theorem errW_none : errW none = .nilIface := rfl
theorem errW_some (c : Int) : errW (some c) = .iface 0 (.int .i64 c) := rfl

theorem info3 : (Try.prog.info? 3).map (fun i => (i.zero, i.size, i.bytes)) = some (some (.int .i64 0), 1, 8) := by kernel_rfl
theorem info5 : (Try.prog.info? 5).map (fun i => (i.zero, i.size, i.bytes)) = some (some (.int .u8 0), 1, 1) := by kernel_rfl
-- the values' own types

end Go.Proofs.Ytlpikbkdlnocdaa.K
