/- The fixed results of law 03 are as its awake asks: by evaluation, with the functions that range over nodes from their contracts. -/
import Derived.Test.YtbfjpjllaibooaaGreatWk134
set_option linter.all false
namespace Go.Proofs.YtbfjpjllaibooaaGreat.Tx
open Go.Lf Go.Lf.S Go.Lf.Duo
set_option maxRecDepth 100000
end Go.Proofs.YtbfjpjllaibooaaGreat.Tx
