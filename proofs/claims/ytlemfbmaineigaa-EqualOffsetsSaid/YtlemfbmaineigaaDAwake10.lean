/- The fixed results of the law are as its awake asks: by evaluation; no condition. -/
import Derived.Test.YtlemfbmaineigaaTx
set_option linter.all false
namespace Go.Proofs.Ytlemfbmaineigaa.Tx
open Go.Lf Go.Lf.S
set_option maxRecDepth 100000
theorem good (n : Nat) : GoodEv P (evAll tb tbS 100000 n).1 (evAll tb tbS 100000 n).2 := evAll_good allOk allOkS n
theorem awake : Ok P F.law10_awake [] (.bool true) := (good 60).1 _ [] _ (by kernel_rfl)
end Go.Proofs.Ytlemfbmaineigaa.Tx
