/- Maps whose keys are texts; sets of texts. -/
import Derived.Test.YtjekkidhbnkiaaaDoorWk50
import Derived.Test.YtjekkidhbnkiaaaDoorWk3
set_option linter.all false
namespace Go.Proofs.YtjekkidhbnkiaaaDoor.Tx
open Go.Lf Go.Lf.S Go.Lf.Duo
set_option maxRecDepth 100000
end Go.Proofs.YtjekkidhbnkiaaaDoor.Tx
