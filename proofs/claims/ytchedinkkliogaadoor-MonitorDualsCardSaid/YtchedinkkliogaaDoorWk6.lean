/- Contracts: the reference's graph (2). -/
import Derived.Test.YtchedinkkliogaaDoorWk5
set_option linter.all false
namespace Go.Proofs.YtchedinkkliogaaDoor.Tx
open Go.Lf Go.Lf.S Go.Lf.Duo
set_option maxRecDepth 100000

structure NdOk (lo hi : Int) (refs : List Rf) (d : Nd) : Prop where
  k1 : 1 ≤ d.kind ∧ d.kind ≤ 7
  p : 0 ≤ d.prio ∧ d.prio ≤ 1000000
  n3 : d.kind ≤ 3 → d.next.length = 0 ∧ d.labels.length = 0
  n5 : 4 ≤ d.kind ∧ d.kind ≤ 5 → d.next.length = 2 ∧ d.labels.length = 0
  n7 : 6 ≤ d.kind ∧ d.kind ≤ 7 → d.next.length = d.labels.length ∧ 0 < d.labels.length
  ll : d.labels.length ≤ 549755813888
  nd : d.labels.Nodup
  nx : ∀ r ∈ d.next, ((∃ q ∈ refs, r.node = q.node) ∨ (lo ≤ r.node ∧ r.node < hi)) ∧ 0 ≤ r.shift ∧ r.shift ≤ 2305843009213693952

theorem NdOk.weak {lo hi lo' hi' : Int} {refs refs' : List Rf} {d : Nd} (h : NdOk lo hi refs d) (hr : ∀ q ∈ refs, (∃ q' ∈ refs', q.node = q'.node) ∨ (lo' ≤ q.node ∧ q.node < hi')) (h1 : lo' ≤ lo) (h2 : hi ≤ hi') : NdOk lo' hi' refs' d := by
  refine ⟨h.k1, h.p, h.n3, h.n5, h.n7, h.ll, h.nd, fun r hr' => ?_⟩
  obtain ⟨a, b⟩ := h.nx r hr'
  refine ⟨?_, b⟩
  rcases a with ⟨q, hq, e⟩ | ⟨e1, e2⟩
  · rcases hr q hq with ⟨q', hq', e'⟩ | ⟨e1, e2⟩
    · exact .inl ⟨q', hq', e.trans e'⟩
    · exact .inr ⟨by omega, by omega⟩
  · exact .inr ⟨by omega, by omega⟩

theorem gc_rec {k p : Int} {nm : ByteArray} {s : Int} {ls : List ByteArray} {ks : List Ty} (h8 : k = 8) (x : Ty) (hks : ks = [x]) : gc (.mk k p nm s ls ks) = gc x := by
  subst hks; subst h8
  simp [gc, gcs]

theorem refsOk_snoc {refs : List Rf} {r : Rf} (h : RefsOk refs) (h0 : 0 ≤ r.shift) (h1 : r.shift ≤ 1000000 * ((refs.length : Int) + 1)) : RefsOk (refs ++ [r]) := by
  intro q hq
  rcases List.mem_append.1 hq with hq | hq
  · obtain ⟨a, b⟩ := h q hq
    refine ⟨a, ?_⟩
    simp; omega
  · obtain rfl : q = r := by simpa using hq
    refine ⟨h0, ?_⟩
    simp; omega

end Go.Proofs.YtchedinkkliogaaDoor.Tx
