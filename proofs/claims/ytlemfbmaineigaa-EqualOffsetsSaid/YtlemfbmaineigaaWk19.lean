/- Equality is reflexive. -/
import Derived.Test.YtlemfbmaineigaaWk18
set_option linter.all false
namespace Go.Proofs.Ytlemfbmaineigaa.Tx
open Go.Lf Go.Lf.S Go.Lf.Duo
set_option maxRecDepth 100000

theorem eqv_refl {ds : List Nd} (hg : GrOk' ds) (free : Bool) {a : Nat} (ha : a < ds.length) : Eqv ds free ⟨a, a, 0⟩ := by
  refine ⟨(List.range ds.length).map fun c : Nat => ⟨(c : Int), (c : Int), 0⟩, fun k hk => ?_, List.mem_map.2 ⟨a, List.mem_range.2 ha, rfl⟩⟩
  obtain ⟨c, hc, rfl⟩ := List.mem_map.1 hk
  have hc : c < ds.length := List.mem_range.1 hc
  have hgc : ds[((c : Nat) : Int).toNat]? = some ds[c] := by simp [hc]
  have hn := hg.2 _ (List.getElem_mem hc)
  refine ⟨by unfold locB; simp only [hgc]; simp, fun j hj => ?_⟩
  have hj : j < ds[c].next.length := by simpa [arity, hc] using hj
  have hnode := hn.node' _ (List.getElem_mem hj)
  refine ⟨⟨ds[c].next[j].node, ds[c].next[j].node, 0⟩, ⟨ds[c], ds[c], hgc, hgc, ds[c].next[j], ds[c].next[j], j, List.getElem?_eq_getElem hj, List.getElem?_eq_getElem hj, ?_, ?_⟩, List.mem_map.2 ⟨ds[c].next[j].node.toNat, List.mem_range.2 (by omega), ?_⟩⟩
  · unfold Sel
    split
    · rename_i h0
      have hjl : j < ds[c].labels.length := by
        have a1 := hn.k1; have a3 := hn.n3; have a5 := hn.n5; have a7 := hn.n7
        clear hn
        omega
      refine ⟨ds[c].labels[j], List.getElem?_eq_getElem hjl, List.getElem?_eq_getElem hjl, fun p hp he => ?_⟩
      have hpl : p < ds[c].labels.length := by omega
      rw [List.getElem?_eq_getElem hpl] at he
      have := (List.pairwise_iff_getElem.1 hn.nd) p j hpl hjl hp
      exact this (Option.some.inj he)
    · rfl
  · cases free
    · simp only [Bool.false_eq_true, if_false, Key.mk.injEq, true_and]
      rw [show ds[c].next[j].shift - ds[c].next[j].shift + 0 = 0 by omega]
      rfl
    · rfl
  · have : ((ds[c].next[j].node.toNat : Nat) : Int) = ds[c].next[j].node := by omega
    simp only [this]

end Go.Proofs.Ytlemfbmaineigaa.Tx
