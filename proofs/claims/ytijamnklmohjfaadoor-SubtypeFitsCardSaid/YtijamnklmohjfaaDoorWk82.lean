/- Equal nodes are subtypes of each other. -/
import Derived.Test.YtijamnklmohjfaaDoorWk81
set_option linter.all false
namespace Go.Proofs.YtijamnklmohjfaaDoor.Tx
open Go.Lf Go.Lf.S Go.Lf.Duo
set_option maxRecDepth 100000

theorem pigeonB (l m : List ByteArray) (h : l.Nodup) (hs : ∀ x ∈ l, x ∈ m) (hl : m.length ≤ l.length) : ∀ x ∈ m, x ∈ l := by
  classical
  exact pigeon l m h hs hl
theorem eqv_sub {ds : List Nd} (hg : GrOk' ds) {a b d : Int} (h0 : 0 ≤ a) (h1 : 0 ≤ b) (h : Eqv ds false ⟨a, b, d⟩) : SubE ds ⟨a, b, d⟩ := by
  refine ⟨fun k => 0 ≤ k.a ∧ 0 ≤ k.b ∧ Eqv ds false k, ⟨h0, h1, h⟩, ?_⟩
  clear h0 h1 h
  rintro ⟨a, b, d⟩ ⟨a0, b0, h⟩
  simp only at a0 b0 h
  have hsym := eqv_symm hg h
  obtain ⟨x, y, hx, hy, l1, l2, l3⟩ := locB_get (eqv_loc h)
  have l3 := l3 rfl
  simp only at hx hy l3
  have hxo := hg.2 x (List.mem_of_getElem? hx)
  have hyo := hg.2 y (List.mem_of_getElem? hy)
  have xin := fun (j : Nat) (u : Rf) (hu : x.next[j]? = some u) => hxo.node' u (List.mem_of_getElem? hu)
  have yin := fun (j : Nat) (u : Rf) (hu : y.next[j]? = some u) => hyo.node' u (List.mem_of_getElem? hu)
  have xk := hxo.k1; have x3 := hxo.n3; have x5 := hxo.n5; have x7 := hxo.n7; have xn := hxo.nd
  have y3 := hyo.n3; have y5 := hyo.n5; have y7 := hyo.n7; have yn := hyo.nd
  clear hxo hyo
  -- the rest behind j
  have go : ∀ (j : Nat) (u : Rf), x.next[j]? = some u → ∃ v q, y.next[q]? = some v ∧ Sel x y j q ∧ Eqv ds false (kSt u v d) := by
    intro j u hu
    obtain ⟨L, hL, hk⟩ := h
    have hj : j < arity ds ⟨a, b, d⟩ := by unfold arity; simp only [hx]; exact (List.getElem?_eq_some_iff.1 hu).1
    obtain ⟨k', ⟨x', y', hx', hy', u', v, q, hu', hv, hs, rfl⟩, hk'⟩ := (hL _ hk).2 j hj
    simp only at hx' hy'
    rw [hx] at hx'; cases hx'
    rw [hy] at hy'; cases hy'
    rw [hu] at hu'; cases hu'
    exact ⟨v, q, hv, hs, L, hL, hk'⟩
  have sub1 : x.kind = 6 ∨ x.kind = 7 → ∀ s ∈ x.labels, s ∈ y.labels := fun hk s hs => by
    obtain ⟨j, hj, hjs⟩ := at_of_mem hs
    obtain ⟨v, q, _, hsel, _⟩ := go j _ (List.getElem?_eq_getElem (by omega : j < x.next.length))
    unfold Sel at hsel
    rw [if_pos (by omega)] at hsel
    obtain ⟨s', e1, e2, _⟩ := hsel
    rw [hjs] at e1; cases e1
    exact List.mem_of_getElem? e2
  have sub2 : x.kind = 6 ∨ x.kind = 7 → ∀ s ∈ y.labels, s ∈ x.labels := fun hk =>
    pigeonB x.labels y.labels xn (sub1 hk) (by omega)
  have swp : ∀ u v : Rf, Eqv ds false (kSt u v d) → Eqv ds false (kSw u v d) := fun u v he => by
    have := eqv_symm hg he
    have e : (kSt u v d).swap false = kSw u v d := by
      unfold Key.swap kSt kSw
      simp only [Bool.false_eq_true, if_false]
      rw [wrap_neg, show -(u.shift - v.shift + d) = v.shift - u.shift - d by omega]
    rwa [e] at this
  refine ⟨a0, b0, x, y, hx, hy, ⟨l1, l3, fun hk => sub2 (.inl hk), fun hk => sub1 (.inr hk)⟩, fun k' hk => ?_⟩
  rcases hk with ⟨hk, u, v, hu, hv, rfl⟩ | ⟨hk, u, v, hu, hv, rfl⟩ | ⟨hk, j, u, v, hj, hu, hv, rfl⟩ | ⟨hk, i, j, u, v, s, hi, hj, hu, hv, rfl⟩
  · obtain ⟨v', q, hv', hs, he⟩ := go 0 u hu
    have hq : q = 0 := by unfold Sel at hs; rw [if_neg (by omega)] at hs; exact hs
    subst hq
    rw [hv] at hv'; cases hv'
    exact ⟨(yin _ _ hv).1, (xin _ _ hu).1, swp u v he⟩
  · obtain ⟨v', q, hv', hs, he⟩ := go 1 u hu
    have hq : q = 1 := by unfold Sel at hs; rw [if_neg (by omega)] at hs; exact hs
    subst hq
    rw [hv] at hv'; cases hv'
    exact ⟨(xin _ _ hu).1, (yin _ _ hv).1, he⟩
  · obtain ⟨v', q, hv', hs, he⟩ := go j u hu
    have hq : q = j := by unfold Sel at hs; rw [if_neg (by omega)] at hs; exact hs
    subst hq
    rw [hv] at hv'; cases hv'
    exact ⟨(xin _ _ hu).1, (yin _ _ hv).1, he⟩
  · obtain ⟨v', q, hv', hs, he⟩ := go i u hu
    unfold Sel at hs
    rw [if_pos (by omega)] at hs
    obtain ⟨s', e1, e2, _⟩ := hs
    rw [hi] at e1; cases e1
    obtain rfl := nodup_at yn hj e2
    rw [hv] at hv'; cases hv'
    exact ⟨(xin _ _ hu).1, (yin _ _ hv).1, he⟩
end Go.Proofs.YtijamnklmohjfaaDoor.Tx
