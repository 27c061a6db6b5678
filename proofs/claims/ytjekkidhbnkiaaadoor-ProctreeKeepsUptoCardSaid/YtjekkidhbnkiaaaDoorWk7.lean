/- Contracts: graphs of lists of types; closed graphs. -/
import Derived.Test.YtjekkidhbnkiaaaDoorWk6
set_option linter.all false
namespace Go.Proofs.YtjekkidhbnkiaaaDoor.Tx
open Go.Lf Go.Lf.S Go.Lf.Duo
set_option maxRecDepth 100000
/-- sizes of a node's lists -/
def NdLen (d : Nd) : Prop := d.labels.length ≤ 549755813888 ∧ d.next.length ≤ 549755813888
theorem NdOk.len {lo hi : Int} {refs : List Rf} {d : Nd} (h : NdOk lo hi refs d) : NdLen d := by
 refine ⟨h.ll, ?_⟩
 have h1 := h.k1; have h2 := h.n3; have h3 := h.n5; have h4 := h.n7; have h5 := h.ll
 omega
end Go.Proofs.YtjekkidhbnkiaaaDoor.Tx
