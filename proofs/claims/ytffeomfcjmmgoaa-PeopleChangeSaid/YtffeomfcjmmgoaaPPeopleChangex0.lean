-- Printed by a program of this session (xprint.py), which runs the kit's print and takes some contracts from texts of this session.
import Derived.Test.YtffeomfcjmmgoaaProg
import Derived.Test.YtffeomfcjmmgoaaL4
import Derived.Below
import Derived.Deep.Draws
import Derived.Deep.AppendLies
import Derived.Maps.AppendAt
import Derived.OwnWalk
import Derived.Laws.BytesArg
import Derived.Laws.MakeOwn
import Derived.Laws.OwnMore
import Derived.Deep.OwnRows
import Derived.Tactics
import Derived.Lib.ConvBytes
import Derived.Laws.Slices
import Derived.WalkKit
import Derived.KernelRfl
import Derived.RowKit3
import Derived.Deep.LoopGhost
import Derived.Deep.QuietTactic
import Derived.BigQuiet
import Derived.WideLaws
import Derived.Deep.DeepCutAuto
import Derived.Deep.CutBlock
import Derived.Deep.RegionHeld3
import Derived.Laws.Rows
import Derived.Lib.AppendStr
import Derived.ArgAppend
import Derived.Laws.IdiomCopy
import Derived.OrdersHeld
import Derived.Laws.BitsLemmas
import Derived.RowKit
import Derived.Test.YtffeomfcjmmgoaaWWords
import Derived.Test.YtffeomfcjmmgoaaWLast
import Derived.Test.YtffeomfcjmmgoaaWTab
import Derived.Test.YtffeomfcjmmgoaaWFour
import Derived.Test.YtffeomfcjmmgoaaWQPut
import Derived.Test.YtffeomfcjmmgoaaWApart
import Derived.Test.YtffeomfcjmmgoaaWArr
import Derived.Test.YtffeomfcjmmgoaaWZeros
import Derived.Test.YtffeomfcjmmgoaaWFoot
import Derived.Test.YtffeomfcjmmgoaaWKept
import Derived.Test.YtffeomfcjmmgoaaWShare
import Derived.Test.YtffeomfcjmmgoaaWN
import Derived.Test.YtffeomfcjmmgoaaWFootNe
import Derived.Test.YtffeomfcjmmgoaaWAt
import Derived.Test.YtffeomfcjmmgoaaWEqStruct
import Derived.Test.YtffeomfcjmmgoaaWRepsOne
import Derived.Test.YtffeomfcjmmgoaaWInv
import Derived.Test.YtffeomfcjmmgoaaWInvWords
import Derived.Test.YtffeomfcjmmgoaaWGuard
import Derived.Test.YtffeomfcjmmgoaaWNEv
import Derived.Test.YtffeomfcjmmgoaaWMore
namespace Go.Proofs.Ytffeomfcjmmgoaa.PPeopleChange
open Go.RowKit Go.Proofs.YtffeomfcjmmgoaaW.PrintWords Go.Proofs.YtffeomfcjmmgoaaW.PrintLast Go.Proofs.YtffeomfcjmmgoaaW.PrintMore
attribute [local go_sem] max2_int min2_int max_two min_two max_three min_three max_four min_four   -- for this text's walks alone
set_option linter.unusedVariables false
set_option linter.unusedSimpArgs false



def errW : Option Int → Value
  | none => .nilIface
  | some c => .iface 0 (.int .i64 c)
theorem errW_none : errW none = .nilIface := rfl
theorem errW_some (c : Int) : errW (some c) = .iface 0 (.int .i64 c) := rfl

theorem info3 : (Try.prog.info? 3).map (fun i => (i.zero, i.size, i.bytes)) = some (some (.int .i64 0), 1, 8) := by kernel_rfl
-- the values' own types

end Go.Proofs.Ytffeomfcjmmgoaa.PPeopleChange
