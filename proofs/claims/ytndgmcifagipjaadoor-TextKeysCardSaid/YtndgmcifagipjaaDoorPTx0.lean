-- Written by this session's program wip/tools/xprint.py out of the translation's own print. Not trusted: Lean checks it.
import Derived.Test.YtndgmcifagipjaaDoorProg
import Derived.Below
import Derived.Deep.Draws
import Derived.Deep.AppendLies
import Derived.Maps.AppendAt
import Derived.OwnWalk
import Derived.Laws.BytesArg
import Derived.Laws.MakeOwn
import Derived.Laws.OwnMore
import Derived.Deep.OwnRows
import Derived.Tactics
import Derived.Lib.ConvBytes
import Derived.Laws.Slices
import Derived.WalkKit
import Derived.KernelRfl
import Derived.RowKit3
import Derived.Deep.LoopGhost
import Derived.Deep.QuietTactic
import Derived.BigQuiet
import Derived.WideLaws
import Derived.Deep.DeepCutAuto
import Derived.Deep.CutBlock
import Derived.Deep.RegionHeld3
import Derived.Laws.Rows
import Derived.Lib.AppendStr
import Derived.ArgAppend
import Derived.Laws.IdiomCopy
import Derived.OrdersHeld
import Derived.Laws.BitsLemmas
import Derived.RowKit
import Derived.Test.YtndgmcifagipjaaDoorValid
import Derived.Test.YtndgmcifagipjaaDoorKey
import Derived.Test.YtndgmcifagipjaaDoorParse
import Derived.Test.YtndgmcifagipjaaDoorQuote
import Derived.Test.YtndgmcifagipjaaDoorUnquote
import Derived.Test.YtndgmcifagipjaaDoorReserved
import Derived.Test.YtndgmcifagipjaaDoorWWords
import Derived.Test.YtndgmcifagipjaaDoorWLast
import Derived.Test.YtndgmcifagipjaaDoorWTab
import Derived.Test.YtndgmcifagipjaaDoorWFour
import Derived.Test.YtndgmcifagipjaaDoorWQPut
import Derived.Test.YtndgmcifagipjaaDoorWApart
import Derived.Test.YtndgmcifagipjaaDoorWArr
import Derived.Test.YtndgmcifagipjaaDoorWZeros
import Derived.Test.YtndgmcifagipjaaDoorWFoot
import Derived.Test.YtndgmcifagipjaaDoorWKept
import Derived.Test.YtndgmcifagipjaaDoorWShare
import Derived.Test.YtndgmcifagipjaaDoorWN
import Derived.Test.YtndgmcifagipjaaDoorWFootNe
import Derived.Test.YtndgmcifagipjaaDoorWAt
import Derived.Test.YtndgmcifagipjaaDoorWEqStruct
import Derived.Test.YtndgmcifagipjaaDoorWRepsOne
import Derived.Test.YtndgmcifagipjaaDoorWInv
import Derived.Test.YtndgmcifagipjaaDoorWInvWords
import Derived.Test.YtndgmcifagipjaaDoorWGuard
import Derived.Test.YtndgmcifagipjaaDoorWNEv
import Derived.Test.YtndgmcifagipjaaDoorWMore
namespace Go.Proofs.YtndgmcifagipjaaDoor.PT
open Go.RowKit Go.Proofs.YtndgmcifagipjaaDoorW.PrintWords Go.Proofs.YtndgmcifagipjaaDoorW.PrintLast Go.Proofs.YtndgmcifagipjaaDoorW.PrintMore
attribute [local go_sem] max2_int min2_int max_two min_two max_three min_three max_four min_four   -- for this text's walks alone
set_option linter.unusedVariables false
set_option linter.unusedSimpArgs false



def errW : Option Int → Value
  | none => .nilIface
  | some c => .iface 0 (.int .i64 c)
theorem errW_none : errW none = .nilIface := rfl
theorem errW_some (c : Int) : errW (some c) = .iface 0 (.int .i64 c) := rfl

theorem info5 : (Tryd.prog.info? 5).map (fun i => (i.zero, i.size, i.bytes)) = some (some (.int .u8 0), 1, 1) := by kernel_rfl
theorem info9 : (Tryd.prog.info? 9).map (fun i => (i.zero, i.size, i.bytes)) = some (some (.string ⟨#[]⟩), 1, 16) := by kernel_rfl
-- the values' own types

end Go.Proofs.YtndgmcifagipjaaDoor.PT
