/- Contracts: how a comparison compares priorities. -/
import Derived.Test.YtchedinkkliogaaDoorWk12
set_option linter.all false
namespace Go.Proofs.YtchedinkkliogaaDoor.Tx
open Go.Lf Go.Lf.S Go.Lf.Duo
set_option maxRecDepth 100000

theorem wrap_eq (x y : Int) : IntKind.i64.wrap x = IntKind.i64.wrap y ↔ (x - y) % 18446744073709551616 = 0 := by
  simp only [IntKind.wrap, IntKind.signed, IntKind.bits]
  simp
  omega
theorem wrap_mod (x : Int) : (IntKind.i64.wrap x - x) % 18446744073709551616 = 0 := by
  simp only [IntKind.wrap, IntKind.signed, IntKind.bits]
  simp
  omega

/-- the priority of a node's reference, or 0 -/
def prN (d : Nd) (s : Int) : Int := if act d.kind then ad d.prio s else 0

/-- priorities alike: it depends on the difference of the shifts alone -/
theorem pr_iff {x y : Nd} (hk : x.kind = y.kind) (s t : Int) : prN x s = prN y t ↔ (act x.kind = true → ad x.prio (IntKind.i64.wrap (s - t)) = ad y.prio 0) := by
  unfold prN
  rw [← hk]
  cases h : act x.kind
  · simp
  · simp only [if_true, true_implies, ad, wrap_eq]
    have := wrap_mod (s - t)
    omega

/-- what the nodes of a key must have in common -/
def locB (ds : List Nd) (free : Bool) (k : Key) : Bool := match ds[k.a.toNat]?, ds[k.b.toNat]? with
  | some x, some y => decide (x.kind = y.kind) && decide (x.labels.length = y.labels.length) && (free || decide (act x.kind = true → ad x.prio k.d = ad y.prio 0))
  | _, _ => false

end Go.Proofs.YtchedinkkliogaaDoor.Tx
