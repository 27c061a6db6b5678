/- The free names (2): Free walks, and adds what is not bound. -/
import Derived.Test.YtfmbddfenghnlaaGreatDoorWk70
set_option linter.all false
namespace Go.Proofs.YtfmbddfenghnlaaGreatDoor.Tx
open Go.Lf Go.Lf.S Go.Lf.Duo
set_option maxRecDepth 100000

section
variable {h0 : List PV → Prop} {ys : List PV} {k kd p : Int} {ch v : ByteArray} {ls : List ByteArray} {ar : List Vl} {t : Ty} {ks : List Pr}
abbrev prE (k : Int) (ch v : ByteArray) (ls : List ByteArray) (ar : List Vl) (t : Ty) (ks : List Pr) : PV := .agg [i k, .str ch, .str v, .sl (ls.map .str), .sl (ar.map Vl.enc), i t.kind, i t.prio, .str t.name, i t.shift, .sl (t.labels.map .str), .sl (t.kids.map Ty.enc), .sl (ks.map Pr.enc)]

end

end Go.Proofs.YtfmbddfenghnlaaGreatDoor.Tx
