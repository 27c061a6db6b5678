/- Subtyping of nodes: what a pair needs, closed sets of pairs; reflexive, transitive; both ways it is equality. -/
import Derived.Test.YtopinhoalbgebaaGreatDoorWk20
set_option linter.all false
namespace Go.Proofs.YtopinhoalbgebaaGreatDoor.Tx
open Go.Lf Go.Lf.S Go.Lf.Duo
set_option maxRecDepth 100000

def kSt (u v : Rf) (d : Int) : Key := ⟨u.node, v.node, IntKind.i64.wrap (u.shift - v.shift + d)⟩
def kSw (u v : Rf) (d : Int) : Key := ⟨v.node, u.node, IntKind.i64.wrap (v.shift - u.shift - d)⟩
/-- a pair of rests that must be related -/
def NdNeed (x y : Nd) (d : Int) (k' : Key) : Prop :=
  (x.kind = 4 ∧ ∃ u v, x.next[0]? = some u ∧ y.next[0]? = some v ∧ k' = kSw u v d) ∨
  (x.kind = 4 ∧ ∃ u v, x.next[1]? = some u ∧ y.next[1]? = some v ∧ k' = kSt u v d) ∨
  (x.kind = 5 ∧ ∃ (j : Nat) (u v : Rf), j < 2 ∧ x.next[j]? = some u ∧ y.next[j]? = some v ∧ k' = kSt u v d) ∨
  ((x.kind = 6 ∨ x.kind = 7) ∧ ∃ (i j : Nat) (u v : Rf) (s : ByteArray), x.labels[i]? = some s ∧ y.labels[j]? = some s ∧ x.next[i]? = some u ∧ y.next[j]? = some v ∧ k' = kSt u v d)
/-- what the nodes of a pair have in common -/
def NdLoc (x y : Nd) (d : Int) : Prop := x.kind = y.kind ∧ (act x.kind = true → ad x.prio d = ad y.prio 0) ∧ (x.kind = 6 → ∀ s ∈ y.labels, s ∈ x.labels) ∧ (x.kind = 7 → ∀ s ∈ x.labels, s ∈ y.labels)
def SOk (ds : List Nd) (R : Key → Prop) (k : Key) : Prop := 0 ≤ k.a ∧ 0 ≤ k.b ∧ ∃ x y, ds[k.a.toNat]? = some x ∧ ds[k.b.toNat]? = some y ∧ NdLoc x y k.d ∧ ∀ k', NdNeed x y k.d k' → R k'
def SubE (ds : List Nd) (k : Key) : Prop := ∃ R : Key → Prop, R k ∧ ∀ q, R q → SOk ds R q
theorem SubE.ok {ds : List Nd} {k : Key} (h : SubE ds k) : SOk ds (SubE ds) k := by
  obtain ⟨R, h1, h2⟩ := h
  obtain ⟨a0, b0, x, y, hx, hy, hl, hn⟩ := h2 k h1
  exact ⟨a0, b0, x, y, hx, hy, hl, fun k' hk => ⟨R, hn k' hk, h2⟩⟩

end Go.Proofs.YtopinhoalbgebaaGreatDoor.Tx
