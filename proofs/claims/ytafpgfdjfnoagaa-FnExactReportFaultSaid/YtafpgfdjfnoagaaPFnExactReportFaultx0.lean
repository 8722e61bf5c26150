-- PRINTED BY print.sh 35421559b90ae4d0a3588c463048766b98c2df88dd9212a6774a882060cdf62d: not written by this session
import Derived.Test.YtafpgfdjfnoagaaProg
import Derived.Below
import Derived.Deep.Draws
import Derived.Deep.AppendLies
import Derived.Maps.AppendAt
import Derived.OwnWalk
import Derived.Laws.BytesArg
import Derived.Laws.MakeOwn
import Derived.Laws.OwnMore
import Derived.Deep.OwnRows
import Derived.Tactics
import Derived.Lib.ConvBytes
import Derived.Laws.Slices
import Derived.WalkKit
import Derived.KernelRfl
import Derived.RowKit3
import Derived.Deep.LoopGhost
import Derived.Deep.QuietTactic
import Derived.BigQuiet
import Derived.WideLaws
import Derived.Deep.DeepCutAuto
import Derived.Deep.CutBlock
import Derived.Deep.RegionHeld3
import Derived.Laws.Rows
import Derived.Lib.AppendStr
import Derived.ArgAppend
import Derived.Laws.IdiomCopy
import Derived.OrdersHeld
import Derived.Laws.BitsLemmas
import Derived.RowKit
import Derived.Test.YtafpgfdjfnoagaaWWords
import Derived.Test.YtafpgfdjfnoagaaWLast
import Derived.Test.YtafpgfdjfnoagaaWTab
import Derived.Test.YtafpgfdjfnoagaaWFour
import Derived.Test.YtafpgfdjfnoagaaWQPut
import Derived.Test.YtafpgfdjfnoagaaWApart
import Derived.Test.YtafpgfdjfnoagaaWArr
import Derived.Test.YtafpgfdjfnoagaaWZeros
import Derived.Test.YtafpgfdjfnoagaaWFoot
import Derived.Test.YtafpgfdjfnoagaaWKept
import Derived.Test.YtafpgfdjfnoagaaWShare
import Derived.Test.YtafpgfdjfnoagaaWN
import Derived.Test.YtafpgfdjfnoagaaWFootNe
import Derived.Test.YtafpgfdjfnoagaaWAt
import Derived.Test.YtafpgfdjfnoagaaWEqStruct
import Derived.Test.YtafpgfdjfnoagaaWRepsOne
import Derived.Test.YtafpgfdjfnoagaaWInv
import Derived.Test.YtafpgfdjfnoagaaWInvWords
import Derived.Test.YtafpgfdjfnoagaaWGuard
import Derived.Test.YtafpgfdjfnoagaaWNEv
import Derived.Test.YtafpgfdjfnoagaaWMore
namespace Go.Proofs.Ytafpgfdjfnoagaa.PFnExactReportFault
open Go.RowKit Go.Proofs.YtafpgfdjfnoagaaW.PrintWords Go.Proofs.YtafpgfdjfnoagaaW.PrintLast Go.Proofs.YtafpgfdjfnoagaaW.PrintMore
attribute [local go_sem] max2_int min2_int max_two min_two max_three min_three max_four min_four   -- for this text's walks alone
set_option linter.unusedVariables false
set_option linter.unusedSimpArgs false



def errW : Option Int → Value
  | none => .nilIface
  | some c => .iface 0 (.int .i64 c)
theorem errW_none : errW none = .nilIface := rfl
theorem errW_some (c : Int) : errW (some c) = .iface 0 (.int .i64 c) := rfl

-- the values' own types

end Go.Proofs.Ytafpgfdjfnoagaa.PFnExactReportFault
