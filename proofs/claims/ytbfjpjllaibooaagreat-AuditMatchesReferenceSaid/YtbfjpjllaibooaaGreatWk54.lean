/- Contracts: the nodes of a type one by one, few, sizes; lists backward. -/
import Derived.Test.YtbfjpjllaibooaaGreatWk53
set_option linter.all false
namespace Go.Proofs.YtbfjpjllaibooaaGreat.Tx
open Go.Lf Go.Lf.S Go.Lf.Duo
set_option maxRecDepth 100000

section
variable {K : PV → Prop} {hs : List (List PV → Prop)}
end

def e1 (t : Ty) : List PV := [t.enc]
/-! a list backward -/

end Go.Proofs.YtbfjpjllaibooaaGreat.Tx
