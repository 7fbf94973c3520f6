-- Written by a program of this session (a changed print); Lean checks it.
import Derived.Test.YtbkikljnbdfblaaProg
import Derived.Below
import Derived.Deep.Draws
import Derived.Deep.AppendLies
import Derived.Maps.AppendAt
import Derived.OwnWalk
import Derived.Laws.BytesArg
import Derived.Laws.MakeOwn
import Derived.Laws.OwnMore
import Derived.Deep.OwnRows
import Derived.Tactics
import Derived.Lib.ConvBytes
import Derived.Laws.Slices
import Derived.WalkKit
import Derived.KernelRfl
import Derived.RowKit3
import Derived.Deep.LoopGhost
import Derived.Deep.QuietTactic
import Derived.BigQuiet
import Derived.WideLaws
import Derived.Deep.DeepCutAuto
import Derived.Deep.CutBlock
import Derived.Deep.RegionHeld3
import Derived.Laws.Rows
import Derived.Lib.AppendStr
import Derived.ArgAppend
import Derived.Laws.IdiomCopy
import Derived.OrdersHeld
import Derived.Laws.BitsLemmas
import Derived.RowKit
import Derived.Test.YtbkikljnbdfblaaWWords
import Derived.Test.YtbkikljnbdfblaaWLast
import Derived.Test.YtbkikljnbdfblaaWTab
import Derived.Test.YtbkikljnbdfblaaWFour
import Derived.Test.YtbkikljnbdfblaaWQPut
import Derived.Test.YtbkikljnbdfblaaWApart
import Derived.Test.YtbkikljnbdfblaaWArr
import Derived.Test.YtbkikljnbdfblaaWZeros
import Derived.Test.YtbkikljnbdfblaaWFoot
import Derived.Test.YtbkikljnbdfblaaWKept
import Derived.Test.YtbkikljnbdfblaaWShare
import Derived.Test.YtbkikljnbdfblaaWN
import Derived.Test.YtbkikljnbdfblaaWFootNe
import Derived.Test.YtbkikljnbdfblaaWAt
import Derived.Test.YtbkikljnbdfblaaWEqStruct
import Derived.Test.YtbkikljnbdfblaaWRepsOne
import Derived.Test.YtbkikljnbdfblaaWInv
import Derived.Test.YtbkikljnbdfblaaWInvWords
import Derived.Test.YtbkikljnbdfblaaWGuard
import Derived.Test.YtbkikljnbdfblaaWNEv
import Derived.Test.YtbkikljnbdfblaaWMore
namespace Go.Proofs.Ytbkikljnbdfblaa.PFnLengths
open Go.RowKit Go.Proofs.YtbkikljnbdfblaaW.PrintWords Go.Proofs.YtbkikljnbdfblaaW.PrintLast Go.Proofs.YtbkikljnbdfblaaW.PrintMore
attribute [local go_sem] max2_int min2_int max_two min_two max_three min_three max_four min_four   -- for this text's walks alone
set_option linter.unusedVariables false
set_option linter.unusedSimpArgs false



def errW : Option Int → Value
  | none => .nilIface
  | some c => .iface 0 (.int .i64 c)
theorem errW_none : errW none = .nilIface := rfl
theorem errW_some (c : Int) : errW (some c) = .iface 0 (.int .i64 c) := rfl

theorem info3 : (Try.prog.info? 3).map (fun i => (i.zero, i.size, i.bytes)) = some (some (.int .i64 0), 1, 8) := by kernel_rfl
-- the values' own types

end Go.Proofs.Ytbkikljnbdfblaa.PFnLengths
