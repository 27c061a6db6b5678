/- The fixed results of law 21 are as its awake asks: by evaluation. -/
import Derived.Test.YtchedinkkliogaaDoorTx
set_option linter.all false
namespace Go.Proofs.YtchedinkkliogaaDoor.Tx
open Go.Lf Go.Lf.S
set_option maxRecDepth 100000
theorem good21 (n : Nat) : GoodEv P (evAll tb tbS 100000 n).1 (evAll tb tbS 100000 n).2 := evAll_good allOk allOkS n
theorem awake21 : Ok P F.law21_awake [] (.bool true) := (good21 60).1 _ [] _ (by kernel_rfl)
end Go.Proofs.YtchedinkkliogaaDoor.Tx
