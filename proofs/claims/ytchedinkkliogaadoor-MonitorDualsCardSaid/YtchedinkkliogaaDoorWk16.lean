/- Contract: a comparison decides the equality of two references (2). -/
import Derived.Test.YtchedinkkliogaaDoorWk15
set_option linter.all false
namespace Go.Proofs.YtchedinkkliogaaDoor.Tx
open Go.Lf Go.Lf.S Go.Lf.Duo
set_option maxRecDepth 100000

end Go.Proofs.YtchedinkkliogaaDoor.Tx
