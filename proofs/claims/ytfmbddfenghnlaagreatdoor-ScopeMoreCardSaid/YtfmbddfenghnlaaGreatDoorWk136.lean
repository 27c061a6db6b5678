/- The reference of the package scope: one node and what is below it, exactly. -/
import Derived.Test.YtfmbddfenghnlaaGreatDoorWk131
set_option linter.all false
namespace Go.Proofs.YtfmbddfenghnlaaGreatDoor.Tx
open Go.Lf Go.Lf.S Go.Lf.Duo
set_option maxRecDepth 100000

/-! the text, its repeated tails named -/
end Go.Proofs.YtfmbddfenghnlaaGreatDoor.Tx
