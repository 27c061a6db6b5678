/- The fixed results of the law 09 are as its awake asks: by evaluation; no condition. -/
import Derived.Test.YthlgbanhnlljkaaDoorTx
set_option linter.all false
namespace Go.Proofs.YthlgbanhnlljkaaDoor.Tx
open Go.Lf Go.Lf.S
set_option maxRecDepth 100000
theorem good (n : Nat) : GoodEv Tryd.prog (evAll tb tbS 100000 n).1 (evAll tb tbS 100000 n).2 := evAll_good allOk allOkS n
theorem kind4 : Ok Tryd.prog 14 [i 4] (i 5) := (good 60).1 14 [i 4] _ (by kernel_rfl)
theorem awake : Ok Tryd.prog 7 [] (.bool true) := (good 60).1 7 [] _ (by kernel_rfl)
end Go.Proofs.YthlgbanhnlljkaaDoor.Tx
