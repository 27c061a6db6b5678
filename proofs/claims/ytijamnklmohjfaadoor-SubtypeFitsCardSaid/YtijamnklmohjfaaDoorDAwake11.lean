/- The fixed results of law 11 are as its awake asks: by evaluation. -/
import Derived.Test.YtijamnklmohjfaaDoorTx
set_option linter.all false
namespace Go.Proofs.YtijamnklmohjfaaDoor.Tx
open Go.Lf Go.Lf.S
set_option maxRecDepth 100000
theorem good11 (n : Nat) : GoodEv P (evAll tb tbS 100000 n).1 (evAll tb tbS 100000 n).2 := evAll_good allOk allOkS n
theorem awake11 : Ok P F.law11_awake [] (.bool true) := (good11 60).1 _ [] _ (by kernel_rfl)
end Go.Proofs.YtijamnklmohjfaaDoor.Tx
