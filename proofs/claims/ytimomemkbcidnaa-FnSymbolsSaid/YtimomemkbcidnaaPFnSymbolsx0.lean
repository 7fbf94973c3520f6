-- Written by a program of this session (a changed print); Lean checks it.
import Derived.Test.YtimomemkbcidnaaProg
import Derived.Below
import Derived.Deep.Draws
import Derived.Deep.AppendLies
import Derived.Maps.AppendAt
import Derived.OwnWalk
import Derived.Laws.BytesArg
import Derived.Laws.MakeOwn
import Derived.Laws.OwnMore
import Derived.Deep.OwnRows
import Derived.Tactics
import Derived.Lib.ConvBytes
import Derived.Laws.Slices
import Derived.WalkKit
import Derived.KernelRfl
import Derived.RowKit3
import Derived.Deep.LoopGhost
import Derived.Deep.QuietTactic
import Derived.BigQuiet
import Derived.WideLaws
import Derived.Deep.DeepCutAuto
import Derived.Deep.CutBlock
import Derived.Deep.RegionHeld3
import Derived.Laws.Rows
import Derived.Lib.AppendStr
import Derived.ArgAppend
import Derived.Laws.IdiomCopy
import Derived.OrdersHeld
import Derived.Laws.BitsLemmas
import Derived.RowKit
import Derived.Test.YtimomemkbcidnaaMCode
import Derived.Test.YtimomemkbcidnaaMSym
import Derived.Test.YtimomemkbcidnaaWWords
import Derived.Test.YtimomemkbcidnaaWLast
import Derived.Test.YtimomemkbcidnaaWTab
import Derived.Test.YtimomemkbcidnaaWFour
import Derived.Test.YtimomemkbcidnaaWQPut
import Derived.Test.YtimomemkbcidnaaWApart
import Derived.Test.YtimomemkbcidnaaWArr
import Derived.Test.YtimomemkbcidnaaWZeros
import Derived.Test.YtimomemkbcidnaaWFoot
import Derived.Test.YtimomemkbcidnaaWKept
import Derived.Test.YtimomemkbcidnaaWShare
import Derived.Test.YtimomemkbcidnaaWN
import Derived.Test.YtimomemkbcidnaaWFootNe
import Derived.Test.YtimomemkbcidnaaWAt
import Derived.Test.YtimomemkbcidnaaWEqStruct
import Derived.Test.YtimomemkbcidnaaWRepsOne
import Derived.Test.YtimomemkbcidnaaWInv
import Derived.Test.YtimomemkbcidnaaWInvWords
import Derived.Test.YtimomemkbcidnaaWGuard
import Derived.Test.YtimomemkbcidnaaWNEv
import Derived.Test.YtimomemkbcidnaaWMore
namespace Go.Proofs.Ytimomemkbcidnaa.PFnSymbols
open Go.RowKit Go.Proofs.YtimomemkbcidnaaW.PrintWords Go.Proofs.YtimomemkbcidnaaW.PrintLast Go.Proofs.YtimomemkbcidnaaW.PrintMore
attribute [local go_sem] max2_int min2_int max_two min_two max_three min_three max_four min_four   -- for this text's walks alone
set_option linter.unusedVariables false
set_option linter.unusedSimpArgs false



def errW : Option Int → Value
  | none => .nilIface
  | some c => .iface 0 (.int .i64 c)
theorem errW_none : errW none = .nilIface := rfl
theorem errW_some (c : Int) : errW (some c) = .iface 0 (.int .i64 c) := rfl

theorem info3 : (Try.prog.info? 3).map (fun i => (i.zero, i.size, i.bytes)) = some (some (.int .i64 0), 1, 8) := by kernel_rfl
-- the values' own types

end Go.Proofs.Ytimomemkbcidnaa.PFnSymbols
