-- PRINTED BY mprint.py (a program of this session, over the kit's printer): Lean checks it
import Derived.Test.YtahmicipakmbmaaProg
import Derived.Below
import Derived.Deep.Draws
import Derived.Deep.AppendLies
import Derived.Maps.AppendAt
import Derived.OwnWalk
import Derived.Laws.BytesArg
import Derived.Laws.MakeOwn
import Derived.Laws.OwnMore
import Derived.Deep.OwnRows
import Derived.Tactics
import Derived.Lib.ConvBytes
import Derived.Laws.Slices
import Derived.WalkKit
import Derived.KernelRfl
import Derived.RowKit3
import Derived.Deep.LoopGhost
import Derived.Deep.QuietTactic
import Derived.BigQuiet
import Derived.WideLaws
import Derived.Deep.DeepCutAuto
import Derived.Deep.CutBlock
import Derived.Deep.RegionHeld3
import Derived.Laws.Rows
import Derived.Lib.AppendStr
import Derived.ArgAppend
import Derived.Laws.IdiomCopy
import Derived.OrdersHeld
import Derived.Laws.BitsLemmas
import Derived.RowKit
import Derived.Lib.SlBytesConst
import Derived.Test.YtahmicipakmbmaaWWords
import Derived.Test.YtahmicipakmbmaaWLast
import Derived.Test.YtahmicipakmbmaaWTab
import Derived.Test.YtahmicipakmbmaaWFour
import Derived.Test.YtahmicipakmbmaaWQPut
import Derived.Test.YtahmicipakmbmaaWApart
import Derived.Test.YtahmicipakmbmaaWArr
import Derived.Test.YtahmicipakmbmaaWZeros
import Derived.Test.YtahmicipakmbmaaWFoot
import Derived.Test.YtahmicipakmbmaaWKept
import Derived.Test.YtahmicipakmbmaaWShare
import Derived.Test.YtahmicipakmbmaaWN
import Derived.Test.YtahmicipakmbmaaWFootNe
import Derived.Test.YtahmicipakmbmaaWAt
import Derived.Test.YtahmicipakmbmaaWEqStruct
import Derived.Test.YtahmicipakmbmaaWRepsOne
import Derived.Test.YtahmicipakmbmaaWInv
import Derived.Test.YtahmicipakmbmaaWInvWords
import Derived.Test.YtahmicipakmbmaaWGuard
import Derived.Test.YtahmicipakmbmaaWNEv
import Derived.Test.YtahmicipakmbmaaWMore
namespace Go.Proofs.Ytahmicipakmbmaa.Q
open Go.RowKit Go.Proofs.YtahmicipakmbmaaW.PrintWords Go.Proofs.YtahmicipakmbmaaW.PrintLast Go.Proofs.YtahmicipakmbmaaW.PrintMore
attribute [local go_sem] max2_int min2_int max_two min_two max_three min_three max_four min_four   -- for this text's walks alone
set_option linter.unusedVariables false
set_option linter.unusedSimpArgs false



def errW : Option Int → Value
  | none => .nilIface
  | some c => .iface 0 (.int .i64 c)
theorem errW_none : errW none = .nilIface := rfl
theorem errW_some (c : Int) : errW (some c) = .iface 0 (.int .i64 c) := rfl

theorem info5 : (Try.prog.info? 5).map (fun i => (i.zero, i.size, i.bytes)) = some (some (.int .u8 0), 1, 1) := by kernel_rfl
-- the values' own types

end Go.Proofs.Ytahmicipakmbmaa.Q
