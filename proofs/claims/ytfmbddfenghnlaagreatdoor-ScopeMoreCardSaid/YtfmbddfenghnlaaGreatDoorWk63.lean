/- Contracts: sameness of processes and programs, sizes of programs. -/
import Derived.Test.YtfmbddfenghnlaaGreatDoorWk61
set_option linter.all false
namespace Go.Proofs.YtfmbddfenghnlaaGreatDoor.Tx
open Go.Lf Go.Lf.S Go.Lf.Duo
set_option maxRecDepth 100000

end Go.Proofs.YtfmbddfenghnlaaGreatDoor.Tx
