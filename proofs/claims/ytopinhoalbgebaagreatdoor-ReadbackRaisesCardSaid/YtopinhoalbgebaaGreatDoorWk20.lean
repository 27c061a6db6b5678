/- Equality is symmetric; equal is alike. -/
import Derived.Test.YtopinhoalbgebaaGreatDoorWk19
set_option linter.all false
namespace Go.Proofs.YtopinhoalbgebaaGreatDoor.Tx
open Go.Lf Go.Lf.S Go.Lf.Duo
set_option maxRecDepth 100000

theorem NdOk.lab {n : Int} {x : Nd} (hx : NdOk 0 n [] x) (h0 : 0 < x.labels.length) : x.next.length = x.labels.length := by
  have a1 := hx.k1; have a3 := hx.n3; have a5 := hx.n5; have a7 := hx.n7
  clear hx
  omega
theorem nodup_at {l : List ByteArray} (h : l.Nodup) {s : ByteArray} {i j : Nat} (hi : l[i]? = some s) (hj : l[j]? = some s) : i = j := by
  obtain ⟨h1, e1⟩ := List.getElem?_eq_some_iff.1 hi
  obtain ⟨h2, e2⟩ := List.getElem?_eq_some_iff.1 hj
  rcases Nat.lt_trichotomy i j with hl | hl | hl
  · exact absurd (e1.trans e2.symm) ((List.pairwise_iff_getElem.1 h) i j h1 h2 hl)
  · exact hl
  · exact absurd (e2.trans e1.symm) ((List.pairwise_iff_getElem.1 h) j i h2 h1 hl)

end Go.Proofs.YtopinhoalbgebaaGreatDoor.Tx
