/- Contracts: the package head (without the ranges over functions), slices.Index. -/
import Derived.Test.YtjekkidhbnkiaaaDoorWk7
set_option linter.all false
namespace Go.Proofs.YtjekkidhbnkiaaaDoor.Tx
open Go.Lf Go.Lf.S Go.Lf.Duo
set_option maxRecDepth 100000
/-- a sum as the machine has it -/
def ad (a b : Int) : Int := IntKind.i64.wrap (a + b)
end Go.Proofs.YtjekkidhbnkiaaaDoor.Tx
