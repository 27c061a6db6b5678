/- Contracts: a condition for all nodes of a process, with a number that is carried along; sizes, depths. -/
import Derived.Test.YtjekkidhbnkiaaaDoorWk57
import Derived.Test.YtjekkidhbnkiaaaDoorLfD
set_option linter.all false
namespace Go.Proofs.YtjekkidhbnkiaaaDoor.Tx
open Go.Lf Go.Lf.S Go.Lf.Duo
set_option maxRecDepth 100000
theorem pr_len (l : List Pr) : l.length ≤ Pr.szs l := by
 induction l with
 | nil => simp
 | cons x l ih => simp only [List.length_cons, Pr.szs]; have : 1 ≤ Pr.sz x := by { cases x; simp [Pr.sz] }; omega
section
variable (stp : Pr → Int → Bool × Int)
end
end Go.Proofs.YtjekkidhbnkiaaaDoor.Tx
