/- Contracts: the reference's graph (2). -/
import Derived.Test.YtjekkidhbnkiaaaDoorWk5
set_option linter.all false
namespace Go.Proofs.YtjekkidhbnkiaaaDoor.Tx
open Go.Lf Go.Lf.S Go.Lf.Duo
set_option maxRecDepth 100000
structure NdOk (lo hi : Int) (refs : List Rf) (d : Nd) : Prop where
 k1 : 1 ≤ d.kind ∧ d.kind ≤ 7
 p : 0 ≤ d.prio ∧ d.prio ≤ 1000000
 n3 : d.kind ≤ 3 → d.next.length = 0 ∧ d.labels.length = 0
 n5 : 4 ≤ d.kind ∧ d.kind ≤ 5 → d.next.length = 2 ∧ d.labels.length = 0
 n7 : 6 ≤ d.kind ∧ d.kind ≤ 7 → d.next.length = d.labels.length ∧ 0 < d.labels.length
 ll : d.labels.length ≤ 549755813888
 nd : d.labels.Nodup
 nx : ∀ r ∈ d.next, ((∃ q ∈ refs, r.node = q.node) ∨ (lo ≤ r.node ∧ r.node < hi)) ∧ 0 ≤ r.shift ∧ r.shift ≤ 2305843009213693952
end Go.Proofs.YtjekkidhbnkiaaaDoor.Tx
