/- The law ProctreeMeasures. -/
import Derived.Test.YtbfjpjllaibooaaGreatWk64
set_option linter.all false
namespace Go.Proofs.YtbfjpjllaibooaaGreat.Tx
open Go.Lf Go.Lf.S Go.Lf.Duo
set_option maxRecDepth 100000

end Go.Proofs.YtbfjpjllaibooaaGreat.Tx
