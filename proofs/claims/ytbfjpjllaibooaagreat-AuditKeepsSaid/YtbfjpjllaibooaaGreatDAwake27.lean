/- The fixed results of law 27 are as its awake asks: by evaluation. -/
import Derived.Test.YtbfjpjllaibooaaGreatTx
set_option linter.all false
namespace Go.Proofs.YtbfjpjllaibooaaGreat.Tx
open Go.Lf Go.Lf.S
set_option maxRecDepth 100000
theorem good27 (n : Nat) : GoodEv P (evAll tb tbS 100000 n).1 (evAll tb tbS 100000 n).2 := evAll_good allOk allOkS n
theorem awake27 : Ok P F.law27_awake [] (.bool true) := (good27 100).1 _ [] _ (by kernel_rfl)
end Go.Proofs.YtbfjpjllaibooaaGreat.Tx
