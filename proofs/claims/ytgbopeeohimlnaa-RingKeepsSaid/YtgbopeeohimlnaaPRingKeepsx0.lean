-- PRINTED BY print.sh 35421559b90ae4d0a3588c463048766b98c2df88dd9212a6774a882060cdf62d: not written by this session
import Derived.Test.YtgbopeeohimlnaaProg
import Derived.Below
import Derived.Deep.Draws
import Derived.Deep.AppendLies
import Derived.Maps.AppendAt
import Derived.OwnWalk
import Derived.Laws.BytesArg
import Derived.Laws.MakeOwn
import Derived.Laws.OwnMore
import Derived.Deep.OwnRows
import Derived.Tactics
import Derived.Lib.ConvBytes
import Derived.Laws.Slices
import Derived.WalkKit
import Derived.KernelRfl
import Derived.RowKit3
import Derived.Deep.LoopGhost
import Derived.Deep.QuietTactic
import Derived.BigQuiet
import Derived.WideLaws
import Derived.Deep.DeepCutAuto
import Derived.Deep.CutBlock
import Derived.Deep.RegionHeld3
import Derived.Laws.Rows
import Derived.Lib.AppendStr
import Derived.ArgAppend
import Derived.Laws.IdiomCopy
import Derived.OrdersHeld
import Derived.Laws.BitsLemmas
import Derived.RowKit
import Derived.Test.YtgbopeeohimlnaaWWords
import Derived.Test.YtgbopeeohimlnaaWLast
import Derived.Test.YtgbopeeohimlnaaWTab
import Derived.Test.YtgbopeeohimlnaaWFour
import Derived.Test.YtgbopeeohimlnaaWQPut
import Derived.Test.YtgbopeeohimlnaaWApart
import Derived.Test.YtgbopeeohimlnaaWArr
import Derived.Test.YtgbopeeohimlnaaWZeros
import Derived.Test.YtgbopeeohimlnaaWFoot
import Derived.Test.YtgbopeeohimlnaaWKept
import Derived.Test.YtgbopeeohimlnaaWShare
import Derived.Test.YtgbopeeohimlnaaWN
import Derived.Test.YtgbopeeohimlnaaWFootNe
import Derived.Test.YtgbopeeohimlnaaWAt
import Derived.Test.YtgbopeeohimlnaaWEqStruct
import Derived.Test.YtgbopeeohimlnaaWRepsOne
import Derived.Test.YtgbopeeohimlnaaWInv
import Derived.Test.YtgbopeeohimlnaaWInvWords
import Derived.Test.YtgbopeeohimlnaaWGuard
import Derived.Test.YtgbopeeohimlnaaWNEv
import Derived.Test.YtgbopeeohimlnaaWMore
namespace Go.Proofs.Ytgbopeeohimlnaa.PRingKeeps
open Go.RowKit Go.Proofs.YtgbopeeohimlnaaW.PrintWords Go.Proofs.YtgbopeeohimlnaaW.PrintLast Go.Proofs.YtgbopeeohimlnaaW.PrintMore
attribute [local go_sem] max2_int min2_int max_two min_two max_three min_three max_four min_four   -- for this text's walks alone
set_option linter.unusedVariables false
set_option linter.unusedSimpArgs false



def errW : Option Int → Value
  | none => .nilIface
  | some c => .iface 0 (.int .i64 c)
theorem errW_none : errW none = .nilIface := rfl
theorem errW_some (c : Int) : errW (some c) = .iface 0 (.int .i64 c) := rfl

theorem info5 : (Try.prog.info? 5).map (fun i => (i.zero, i.size, i.bytes)) = some (some (.int .u8 0), 1, 1) := by kernel_rfl
-- the values' own types

end Go.Proofs.Ytgbopeeohimlnaa.PRingKeeps
