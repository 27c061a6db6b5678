/- Contracts: fields of types, exactly; where a name is bound. -/
import Derived.Test.YtjekkidhbnkiaaaDoorWk52
set_option linter.all false
namespace Go.Proofs.YtjekkidhbnkiaaaDoor.Tx
open Go.Lf Go.Lf.S Go.Lf.Duo
set_option maxRecDepth 100000
/-! where a name is bound -/
end Go.Proofs.YtjekkidhbnkiaaaDoor.Tx
