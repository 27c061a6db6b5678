/- Contracts: the error of a type, exactly, of the program and of the reference. -/
import Derived.Test.YtjekkidhbnkiaaaDoorWk54
set_option linter.all false
namespace Go.Proofs.YtjekkidhbnkiaaaDoor.Tx
open Go.Lf Go.Lf.S Go.Lf.Duo
set_option maxRecDepth 100000
end Go.Proofs.YtjekkidhbnkiaaaDoor.Tx
