/- Contracts: right types. -/
import Derived.Test.YtjekkidhbnkiaaaDoorWk2
set_option linter.all false
namespace Go.Proofs.YtjekkidhbnkiaaaDoor.Tx
open Go.Lf Go.Lf.S Go.Lf.Duo
set_option maxRecDepth 100000

theorem str_at {ls : List ByteArray} {j : Nat} (h : j < ls.length) : (ls.map PV.str)[j]? = some (.str ls[j]) := by simp [h]

end Go.Proofs.YtjekkidhbnkiaaaDoor.Tx
