/- The fixed results of law 03 are as its awake asks: by evaluation, with the functions that range over nodes from their contracts. -/
import Derived.Test.YtbfjpjllaibooaaWk61
set_option linter.all false
namespace Go.Proofs.Ytbfjpjllaibooaa.Tx
open Go.Lf Go.Lf.S Go.Lf.Duo
set_option maxRecDepth 100000
def tyEnd : Ty := .mk 3 0 noB 0 [] []
end Go.Proofs.Ytbfjpjllaibooaa.Tx
