/- Contracts: words, right types. -/
import Derived.Test.YtjekkidhbnkiaaaDoorTx
import Derived.Test.YtjekkidhbnkiaaaDoorLfD
set_option linter.all false
namespace Go.Proofs.YtjekkidhbnkiaaaDoor.Tx
open Go.Lf Go.Lf.S Go.Lf.Duo
set_option maxRecDepth 100000
end Go.Proofs.YtjekkidhbnkiaaaDoor.Tx
