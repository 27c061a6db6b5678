/- Equality is reflexive. -/
import Derived.Test.YtopinhoalbgebaaGreatDoorWk18
set_option linter.all false
namespace Go.Proofs.YtopinhoalbgebaaGreatDoor.Tx
open Go.Lf Go.Lf.S Go.Lf.Duo
set_option maxRecDepth 100000

end Go.Proofs.YtopinhoalbgebaaGreatDoor.Tx
