/- Contracts: graphs of lists of types; closed graphs. -/
import Derived.Test.YtchedinkkliogaaDoorWk6
set_option linter.all false
namespace Go.Proofs.YtchedinkkliogaaDoor.Tx
open Go.Lf Go.Lf.S Go.Lf.Duo
set_option maxRecDepth 100000

theorem nd_at {ds : List Nd} {j : Nat} (h : j < ds.length) : (ds.map Nd.enc)[j]? = some (ds[j]).enc := by simp [h]
theorem take_enc {α : Type} {f : α → PV} {l : List α} {j : Nat} (h : j < l.length) : ((l.take j).map f) ++ [f l[j]] = (l.take (j + 1)).map f := by
  rw [List.take_succ_eq_append_getElem h, List.map_append]; rfl

/-- sizes of a node's lists -/
def NdLen (d : Nd) : Prop := d.labels.length ≤ 549755813888 ∧ d.next.length ≤ 549755813888
theorem NdOk.len {lo hi : Int} {refs : List Rf} {d : Nd} (h : NdOk lo hi refs d) : NdLen d := by
  refine ⟨h.ll, ?_⟩
  have h1 := h.k1; have h2 := h.n3; have h3 := h.n5; have h4 := h.n7; have h5 := h.ll
  omega

end Go.Proofs.YtchedinkkliogaaDoor.Tx
