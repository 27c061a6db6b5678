/- Contracts: how a comparison compares priorities. -/
import Derived.Test.YtopinhoalbgebaaGreatDoorWk12
set_option linter.all false
namespace Go.Proofs.YtopinhoalbgebaaGreatDoor.Tx
open Go.Lf Go.Lf.S Go.Lf.Duo
set_option maxRecDepth 100000

theorem wrap_eq (x y : Int) : IntKind.i64.wrap x = IntKind.i64.wrap y ↔ (x - y) % 18446744073709551616 = 0 := by
  simp only [IntKind.wrap, IntKind.signed, IntKind.bits]
  simp
  omega
theorem wrap_mod (x : Int) : (IntKind.i64.wrap x - x) % 18446744073709551616 = 0 := by
  simp only [IntKind.wrap, IntKind.signed, IntKind.bits]
  simp
  omega

/-- the priority of a node's reference, or 0 -/
def prN (d : Nd) (s : Int) : Int := if act d.kind then ad d.prio s else 0

theorem ok_equal_Equal_1 (ds : List Nd) (a b : Nat) (ha : a < ds.length) (hb : b < ds.length) (s t : Int) :
    Ok P F.equal_Equal_1 [.agg [i (a : Int), i s], .agg [i (b : Int), i t], .box (.agg [.sl (ds.map Nd.enc)])] (.bool (decide (prN ds[a] s = prN ds[b] t))) := by
  have get : ∀ (d : Nd) (s : Int) (x : PV), x = (if act d.kind then PV.tup [i (ad d.prio s), .bool true] else .tup [i 0, .bool false]) → (Prim.tc 0).ev [x] = some (i (prN d s)) ∧ (Prim.tc 1).ev [x] = some (.bool (act d.kind)) := by
    intro d s x hx
    subst hx
    cases h : act d.kind
    · simp [prN, h]; exact ⟨rfl, rfl⟩
    · simp [prN, h]; exact ⟨rfl, rfl⟩
  obtain ⟨a1, a2⟩ := get ds[a] s _ rfl
  obtain ⟨b1, b2⟩ := get ds[b] t _ rfl
  exact k_equal_Equal_1 _ _ rfl (d_l (.agg [i (a : Int), i s]) rfl fun _ => d_l (.agg [i (b : Int), i t]) rfl fun _ => d_l (.agg [.sl (ds.map Nd.enc)]) rfl fun _ => d_call (ok_head_Prio ds a ha s) (d_l _ a1 fun _ => d_l _ a2 fun _ => d_l (.agg [.sl (ds.map Nd.enc)]) rfl fun _ => d_call (ok_head_Prio ds b hb t) (d_l _ b1 fun _ => d_l _ b2 fun _ => d_l _ rfl fun _ => d_ret rfl)))

/-- priorities alike: it depends on the difference of the shifts alone -/
theorem pr_iff {x y : Nd} (hk : x.kind = y.kind) (s t : Int) : prN x s = prN y t ↔ (act x.kind = true → ad x.prio (IntKind.i64.wrap (s - t)) = ad y.prio 0) := by
  unfold prN
  rw [← hk]
  cases h : act x.kind
  · simp
  · simp only [if_true, true_implies, ad, wrap_eq]
    have := wrap_mod (s - t)
    omega

/-- what the nodes of a key must have in common -/
def locB (ds : List Nd) (free : Bool) (k : Key) : Bool := match ds[k.a.toNat]?, ds[k.b.toNat]? with
  | some x, some y => decide (x.kind = y.kind) && decide (x.labels.length = y.labels.length) && (free || decide (act x.kind = true → ad x.prio k.d = ad y.prio 0))
  | _, _ => false

end Go.Proofs.YtopinhoalbgebaaGreatDoor.Tx
