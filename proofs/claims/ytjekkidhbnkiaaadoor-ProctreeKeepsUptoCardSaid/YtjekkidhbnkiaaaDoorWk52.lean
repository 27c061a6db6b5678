/- Contracts: the shape of a type's node, exactly, of the program and of the reference. -/
import Derived.Test.YtjekkidhbnkiaaaDoorWk51
set_option linter.all false
namespace Go.Proofs.YtjekkidhbnkiaaaDoor.Tx
open Go.Lf Go.Lf.S Go.Lf.Duo
set_option maxRecDepth 100000
def noB : ByteArray := ⟨#[]⟩
end Go.Proofs.YtjekkidhbnkiaaaDoor.Tx
