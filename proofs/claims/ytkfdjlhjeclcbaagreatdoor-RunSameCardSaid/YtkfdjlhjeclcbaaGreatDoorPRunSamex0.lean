/- RunSame: its functions as Lean functions, and that the Go text comes to what they say (lines of the kit's printer; the live example's contract by hand). -/
import Derived.Test.YtkfdjlhjeclcbaaGreatDoorProg
import Derived.Below
import Derived.Deep.Draws
import Derived.Deep.AppendLies
import Derived.Maps.AppendAt
import Derived.OwnWalk
import Derived.Laws.BytesArg
import Derived.Laws.MakeOwn
import Derived.Laws.OwnMore
import Derived.Deep.OwnRows
import Derived.Tactics
import Derived.Lib.ConvBytes
import Derived.Laws.Slices
import Derived.WalkKit
import Derived.KernelRfl
import Derived.RowKit3
import Derived.Deep.LoopGhost
import Derived.Deep.QuietTactic
import Derived.BigQuiet
import Derived.WideLaws
import Derived.Deep.DeepCutAuto
import Derived.Deep.CutBlock
import Derived.Deep.RegionHeld3
import Derived.Laws.Rows
import Derived.Lib.AppendStr
import Derived.ArgAppend
import Derived.Laws.IdiomCopy
import Derived.OrdersHeld
import Derived.Laws.BitsLemmas
import Derived.RowKit
import Derived.Test.YtkfdjlhjeclcbaaGreatDoorWWords
import Derived.Test.YtkfdjlhjeclcbaaGreatDoorWLast
import Derived.Test.YtkfdjlhjeclcbaaGreatDoorWTab
import Derived.Test.YtkfdjlhjeclcbaaGreatDoorWFour
import Derived.Test.YtkfdjlhjeclcbaaGreatDoorWQPut
import Derived.Test.YtkfdjlhjeclcbaaGreatDoorWApart
import Derived.Test.YtkfdjlhjeclcbaaGreatDoorWArr
import Derived.Test.YtkfdjlhjeclcbaaGreatDoorWZeros
import Derived.Test.YtkfdjlhjeclcbaaGreatDoorWFoot
import Derived.Test.YtkfdjlhjeclcbaaGreatDoorWKept
import Derived.Test.YtkfdjlhjeclcbaaGreatDoorWShare
import Derived.Test.YtkfdjlhjeclcbaaGreatDoorWN
import Derived.Test.YtkfdjlhjeclcbaaGreatDoorWFootNe
import Derived.Test.YtkfdjlhjeclcbaaGreatDoorWAt
import Derived.Test.YtkfdjlhjeclcbaaGreatDoorWEqStruct
import Derived.Test.YtkfdjlhjeclcbaaGreatDoorWRepsOne
import Derived.Test.YtkfdjlhjeclcbaaGreatDoorWInv
import Derived.Test.YtkfdjlhjeclcbaaGreatDoorWInvWords
import Derived.Test.YtkfdjlhjeclcbaaGreatDoorWGuard
import Derived.Test.YtkfdjlhjeclcbaaGreatDoorWNEv
import Derived.Test.YtkfdjlhjeclcbaaGreatDoorWMore
namespace Go.Proofs.YtkfdjlhjeclcbaaGreatDoor.PRunSame
open Go.RowKit Go.Proofs.YtkfdjlhjeclcbaaGreatDoorW.PrintWords Go.Proofs.YtkfdjlhjeclcbaaGreatDoorW.PrintLast Go.Proofs.YtkfdjlhjeclcbaaGreatDoorW.PrintMore
attribute [local go_sem] max2_int min2_int max_two min_two max_three min_three max_four min_four   -- for this text's walks alone
set_option linter.unusedVariables false
set_option linter.unusedSimpArgs false



def errW : Option Int → Value
  | none => .nilIface
  | some c => .iface 0 (.int .i64 c)
theorem errW_none : errW none = .nilIface := rfl
theorem errW_some (c : Int) : errW (some c) = .iface 0 (.int .i64 c) := rfl

-- the values' own types

end Go.Proofs.YtkfdjlhjeclcbaaGreatDoor.PRunSame
