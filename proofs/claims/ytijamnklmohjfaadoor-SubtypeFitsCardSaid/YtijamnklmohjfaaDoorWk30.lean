/- Contracts: producers (references of a context, priorities), the least priority. -/
import Derived.Test.YtijamnklmohjfaaDoorWk11
set_option linter.all false
namespace Go.Proofs.YtijamnklmohjfaaDoor.Tx
open Go.Lf Go.Lf.S Go.Lf.Duo
set_option maxRecDepth 100000

theorem en_at {es : List En} {j : Nat} (h : j < es.length) : (es.map En.enc)[j]? = some (es[j]).enc := by simp [h]

/-- the references of all but one -/
def others (es : List En) (s : ByteArray) : List Rf := (es.filter fun e => decide (e.name ≠ s)).map En.r

theorem others_cons (e : En) (es : List En) (s : ByteArray) : others (e :: es) s = if e.name = s then others es s else e.r :: others es s := by
  by_cases h : e.name = s <;> simp [others, h]
theorem drop_at {α : Type} {l : List α} {j : Nat} (h : j < l.length) : l.drop j = l[j] :: l.drop (j + 1) := List.drop_eq_getElem_cons h

/-- the priority of a reference -/
def pr (ds : List Nd) (r : Rf) : Option Int := match ds[r.node.toNat]? with
  | some d => if act d.kind then some (ad d.prio r.shift) else none
  | none => none
def InG (ds : List Nd) (r : Rf) : Prop := 0 ≤ r.node ∧ r.node < ds.length

theorem ok_head_Prio' {ds : List Nd} {r : Rf} (h : InG ds r) : Ok P F.head_Prio [.agg [.sl (ds.map Nd.enc)], r.enc] (match pr ds r with | some p => .tup [i p, .bool true] | none => .tup [i 0, .bool false]) := by
  obtain ⟨h1, h2⟩ := h
  have hn : r.node = ((r.node.toNat : Nat) : Int) := by omega
  have ha : r.node.toNat < ds.length := by omega
  have := ok_head_Prio ds r.node.toNat ha r.shift
  rw [← hn] at this
  unfold pr
  rw [List.getElem?_eq_getElem ha]
  cases hx : act ds[r.node.toNat].kind
  · rw [hx] at this; simp only [hx]; exact this
  · rw [hx] at this; simp only [hx]; exact this

/-- what a round has at hand -/
def lowStep (a : Int × Bool) (p : Int) : Int × Bool := if a.2 then (if p < a.1 then p else a.1, true) else (p, true)
def low (ps : List Int) : Int × Bool := ps.foldl lowStep (0, false)

/-- the least priority of the entries but one -/
def lowE (ds : List Nd) (es : List En) (s : ByteArray) : Int × Bool := low ((others es s).filterMap (pr ds))

end Go.Proofs.YtijamnklmohjfaaDoor.Tx
