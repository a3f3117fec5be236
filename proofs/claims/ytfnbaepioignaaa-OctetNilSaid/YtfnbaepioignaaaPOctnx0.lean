-- Written for this claim by a program of this seat (wip/tools: a turned copy of the kit's print). Not trusted: Lean checks it.
import Derived.Test.YtfnbaepioignaaaProg
import Derived.Below
import Derived.Deep.Draws
import Derived.Deep.AppendLies
import Derived.Maps.AppendAt
import Derived.OwnWalk
import Derived.Laws.BytesArg
import Derived.Laws.MakeOwn
import Derived.Laws.OwnMore
import Derived.Deep.OwnRows
import Derived.Tactics
import Derived.Lib.ConvBytes
import Derived.Laws.Slices
import Derived.WalkKit
import Derived.KernelRfl
import Derived.RowKit3
import Derived.Deep.LoopGhost
import Derived.Deep.QuietTactic
import Derived.BigQuiet
import Derived.WideLaws
import Derived.Deep.DeepCutAuto
import Derived.Deep.CutBlock
import Derived.Deep.RegionHeld3
import Derived.Laws.Rows
import Derived.Lib.AppendStr
import Derived.ArgAppend
import Derived.Laws.IdiomCopy
import Derived.OrdersHeld
import Derived.Laws.BitsLemmas
import Derived.RowKit
import Derived.Test.YtfnbaepioignaaaWWords
import Derived.Test.YtfnbaepioignaaaWLast
import Derived.Test.YtfnbaepioignaaaWTab
import Derived.Test.YtfnbaepioignaaaWFour
import Derived.Test.YtfnbaepioignaaaWQPut
import Derived.Test.YtfnbaepioignaaaWApart
import Derived.Test.YtfnbaepioignaaaWArr
import Derived.Test.YtfnbaepioignaaaWZeros
import Derived.Test.YtfnbaepioignaaaWFoot
import Derived.Test.YtfnbaepioignaaaWKept
import Derived.Test.YtfnbaepioignaaaWShare
import Derived.Test.YtfnbaepioignaaaWN
import Derived.Test.YtfnbaepioignaaaWFootNe
import Derived.Test.YtfnbaepioignaaaWAt
import Derived.Test.YtfnbaepioignaaaWEqStruct
import Derived.Test.YtfnbaepioignaaaWRepsOne
import Derived.Test.YtfnbaepioignaaaWInv
import Derived.Test.YtfnbaepioignaaaWInvWords
import Derived.Test.YtfnbaepioignaaaWGuard
import Derived.Test.YtfnbaepioignaaaWNEv
import Derived.Test.YtfnbaepioignaaaWMore
namespace Go.Proofs.Ytfnbaepioignaaa.POctn
open Go.RowKit Go.Proofs.YtfnbaepioignaaaW.PrintWords Go.Proofs.YtfnbaepioignaaaW.PrintLast Go.Proofs.YtfnbaepioignaaaW.PrintMore
attribute [local go_sem] max2_int min2_int max_two min_two max_three min_three max_four min_four   -- for this text's walks alone
set_option linter.unusedVariables false
set_option linter.unusedSimpArgs false



def errW : Option Int → Value
  | none => .nilIface
  | some c => .iface 0 (.int .i64 c)
theorem errW_none : errW none = .nilIface := rfl
theorem errW_some (c : Int) : errW (some c) = .iface 0 (.int .i64 c) := rfl

theorem info5 : (Try.prog.info? 5).map (fun i => (i.zero, i.size, i.bytes)) = some (some (.int .u8 0), 1, 1) := by kernel_rfl
-- the values' own types

end Go.Proofs.Ytfnbaepioignaaa.POctn
