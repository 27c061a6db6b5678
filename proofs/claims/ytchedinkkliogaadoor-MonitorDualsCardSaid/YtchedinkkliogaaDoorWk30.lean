/- Contracts: producers (references of a context, priorities), the least priority. -/
import Derived.Test.YtchedinkkliogaaDoorWk11
set_option linter.all false
namespace Go.Proofs.YtchedinkkliogaaDoor.Tx
open Go.Lf Go.Lf.S Go.Lf.Duo
set_option maxRecDepth 100000

theorem en_at {es : List En} {j : Nat} (h : j < es.length) : (es.map En.enc)[j]? = some (es[j]).enc := by simp [h]

/-- the references of all but one -/
def others (es : List En) (s : ByteArray) : List Rf := (es.filter fun e => decide (e.name ≠ s)).map En.r

theorem others_cons (e : En) (es : List En) (s : ByteArray) : others (e :: es) s = if e.name = s then others es s else e.r :: others es s := by
  by_cases h : e.name = s <;> simp [others, h]
theorem drop_at {α : Type} {l : List α} {j : Nat} (h : j < l.length) : l.drop j = l[j] :: l.drop (j + 1) := List.drop_eq_getElem_cons h

/-- the priority of a reference -/
def pr (ds : List Nd) (r : Rf) : Option Int := match ds[r.node.toNat]? with
  | some d => if act d.kind then some (ad d.prio r.shift) else none
  | none => none
def InG (ds : List Nd) (r : Rf) : Prop := 0 ≤ r.node ∧ r.node < ds.length

/-- what a round has at hand -/
def lowStep (a : Int × Bool) (p : Int) : Int × Bool := if a.2 then (if p < a.1 then p else a.1, true) else (p, true)
def low (ps : List Int) : Int × Bool := ps.foldl lowStep (0, false)

/-- the least priority of the entries but one -/
def lowE (ds : List Nd) (es : List En) (s : ByteArray) : Int × Bool := low ((others es s).filterMap (pr ds))

end Go.Proofs.YtchedinkkliogaaDoor.Tx
