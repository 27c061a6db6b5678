/- The reference of the package scope: Check, exactly. -/
import Derived.Test.YtfmbddfenghnlaaGreatDoorWk137
import Derived.Test.YtfmbddfenghnlaaGreatDoorWk69
import Derived.Test.YtfmbddfenghnlaaGreatDoorWk133
set_option linter.all false
namespace Go.Proofs.YtfmbddfenghnlaaGreatDoor.Tx
open Go.Lf Go.Lf.S Go.Lf.Duo
set_option maxRecDepth 100000

def prN06 (d : Df) : List ByteArray := d.params.map Et.name
/-- a definition's name is new, and its parameters' names differ -/
def D06 (ds : List Df) (j : Nat) : Prop := ∀ d, ds[j]? = some d → (∀ q d', q < j → ds[q]? = some d' → d'.name ≠ d.name) ∧ (prN06 d).Nodup
end Go.Proofs.YtfmbddfenghnlaaGreatDoor.Tx
