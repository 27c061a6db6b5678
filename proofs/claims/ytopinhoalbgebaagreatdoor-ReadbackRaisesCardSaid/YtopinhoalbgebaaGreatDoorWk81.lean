/- Subtyping both ways is equality. -/
import Derived.Test.YtopinhoalbgebaaGreatDoorWk80
set_option linter.all false
namespace Go.Proofs.YtopinhoalbgebaaGreatDoor.Tx
open Go.Lf Go.Lf.S Go.Lf.Duo
set_option maxRecDepth 100000

theorem eqv_of_pred {ds : List Nd} (R : Key → Prop) (hd : ∀ k, R k → 0 ≤ k.a ∧ 0 ≤ k.b ∧ IntKind.i64.wrap k.d = k.d) (hR : ∀ k, R k → locB ds false k = true ∧ ∀ j, j < arity ds k → ∃ k', Nx ds false k j k' ∧ R k') {k : Key} (h : R k) : Eqv ds false k := by
  classical
  obtain ⟨D, hD⟩ : ∃ D : List Int, ∀ x : Int, IntKind.i64.wrap x ∈ D := by
    refine ⟨(List.range 18446744073709551616).map fun n : Nat => (n : Int) - 9223372036854775808, fun x => List.mem_map.2 ?_⟩
    have hw : -9223372036854775808 ≤ IntKind.i64.wrap x ∧ IntKind.i64.wrap x ≤ 9223372036854775807 := by
      simp only [IntKind.wrap, IntKind.signed, IntKind.bits]; simp; omega
    exact ⟨(IntKind.i64.wrap x + 9223372036854775808).toNat, List.mem_range.2 (by omega), by omega⟩
  let L : List Key := ((List.range ds.length).flatMap fun p : Nat => (List.range ds.length).flatMap fun q : Nat => D.map fun d => (⟨(p : Int), (q : Int), d⟩ : Key)).filter fun k => decide (R k)
  have mem : ∀ k, R k → k ∈ L := by
    intro k hk
    obtain ⟨h0, h1, h2⟩ := hd k hk
    have hl := (hR k hk).1
    have hal : k.a.toNat < ds.length ∧ k.b.toNat < ds.length := by
      unfold locB at hl
      split at hl
      · rename_i x y hx hy
        exact ⟨(List.getElem?_eq_some_iff.1 hx).1, (List.getElem?_eq_some_iff.1 hy).1⟩
      · cases hl
    simp only [L, List.mem_filter, List.mem_flatMap, List.mem_map, List.mem_range, decide_eq_true_eq]
    refine ⟨⟨k.a.toNat, hal.1, k.b.toNat, hal.2, k.d, ?_, ?_⟩, hk⟩
    · rw [← h2]; exact hD _
    · rw [Int.toNat_of_nonneg h0, Int.toNat_of_nonneg h1]
  refine ⟨L, fun k hk => ?_, mem _ h⟩
  simp only [L, List.mem_filter, decide_eq_true_eq] at hk
  obtain ⟨h1, h2⟩ := hR k hk.2
  refine ⟨h1, fun j hj => ?_⟩
  obtain ⟨k', h3, h4⟩ := h2 j hj
  exact ⟨k', h3, mem k' h4⟩

end Go.Proofs.YtopinhoalbgebaaGreatDoor.Tx
