/- Subtyping both ways is equality. -/
import Derived.Test.YtlemfbmaineigaaWk80
set_option linter.all false
namespace Go.Proofs.Ytlemfbmaineigaa.Tx
open Go.Lf Go.Lf.S Go.Lf.Duo
set_option maxRecDepth 100000

theorem eqv_of_pred {ds : List Nd} (R : Key → Prop) (hd : ∀ k, R k → 0 ≤ k.a ∧ 0 ≤ k.b ∧ IntKind.i64.wrap k.d = k.d) (hR : ∀ k, R k → locB ds false k = true ∧ ∀ j, j < arity ds k → ∃ k', Nx ds false k j k' ∧ R k') {k : Key} (h : R k) : Eqv ds false k := by
  classical
  obtain ⟨D, hD⟩ : ∃ D : List Int, ∀ x : Int, IntKind.i64.wrap x ∈ D := by
    refine ⟨(List.range 18446744073709551616).map fun n : Nat => (n : Int) - 9223372036854775808, fun x => List.mem_map.2 ?_⟩
    have hw : -9223372036854775808 ≤ IntKind.i64.wrap x ∧ IntKind.i64.wrap x ≤ 9223372036854775807 := by
      simp only [IntKind.wrap, IntKind.signed, IntKind.bits]; simp; omega
    exact ⟨(IntKind.i64.wrap x + 9223372036854775808).toNat, List.mem_range.2 (by omega), by omega⟩
  let L : List Key := ((List.range ds.length).flatMap fun p : Nat => (List.range ds.length).flatMap fun q : Nat => D.map fun d => (⟨(p : Int), (q : Int), d⟩ : Key)).filter fun k => decide (R k)
  have mem : ∀ k, R k → k ∈ L := by
    intro k hk
    obtain ⟨h0, h1, h2⟩ := hd k hk
    have hl := (hR k hk).1
    have hal : k.a.toNat < ds.length ∧ k.b.toNat < ds.length := by
      unfold locB at hl
      split at hl
      · rename_i x y hx hy
        exact ⟨(List.getElem?_eq_some_iff.1 hx).1, (List.getElem?_eq_some_iff.1 hy).1⟩
      · cases hl
    simp only [L, List.mem_filter, List.mem_flatMap, List.mem_map, List.mem_range, decide_eq_true_eq]
    refine ⟨⟨k.a.toNat, hal.1, k.b.toNat, hal.2, k.d, ?_, ?_⟩, hk⟩
    · rw [← h2]; exact hD _
    · rw [Int.toNat_of_nonneg h0, Int.toNat_of_nonneg h1]
  refine ⟨L, fun k hk => ?_, mem _ h⟩
  simp only [L, List.mem_filter, decide_eq_true_eq] at hk
  obtain ⟨h1, h2⟩ := hR k hk.2
  refine ⟨h1, fun j hj => ?_⟩
  obtain ⟨k', h3, h4⟩ := h2 j hj
  exact ⟨k', h3, mem k' h4⟩

theorem nodup_le : ∀ (l m : List ByteArray), l.Nodup → (∀ s ∈ l, s ∈ m) → l.length ≤ m.length
  | [], _, _, _ => Nat.zero_le _
  | x :: l, m, h, hs => by
    obtain ⟨p, q, rfl⟩ := List.append_of_mem (hs x List.mem_cons_self)
    rw [List.nodup_cons] at h
    have := nodup_le l (p ++ q) h.2 fun s hsl => by
      have h1 := hs s (List.mem_cons_of_mem _ hsl)
      have hne : s ≠ x := fun e => h.1 (e ▸ hsl)
      simp only [List.mem_append, List.mem_cons] at h1 ⊢
      rcases h1 with h1 | h1 | h1
      · exact .inl h1
      · exact absurd h1 hne
      · exact .inr h1
    simp only [List.length_cons, List.length_append] at this ⊢
    omega
theorem nodup_len {l m : List ByteArray} (hl : l.Nodup) (hm : m.Nodup) (h1 : ∀ s ∈ l, s ∈ m) (h2 : ∀ s ∈ m, s ∈ l) : l.length = m.length :=
  Nat.le_antisymm (nodup_le l m hl h1) (nodup_le m l hm h2)

theorem wrap_neg (x : Int) : IntKind.i64.wrap (-IntKind.i64.wrap x) = IntKind.i64.wrap (-x) := by
  rw [wrap_eq]; have := wrap_mod x; omega

theorem sub_both {ds : List Nd} (hg : GrOk' ds) {a b d : Int} (hd : IntKind.i64.wrap d = d) (h1 : SubE ds ⟨a, b, d⟩) (h2 : SubE ds ⟨b, a, IntKind.i64.wrap (-d)⟩) : Eqv ds false ⟨a, b, d⟩ := by
  refine eqv_of_pred (fun k => SubE ds k ∧ SubE ds ⟨k.b, k.a, IntKind.i64.wrap (-k.d)⟩ ∧ IntKind.i64.wrap k.d = k.d) ?_ ?_ ⟨h1, h2, hd⟩
  · rintro k ⟨h1, h2, h3⟩
    obtain ⟨a0, b0, _⟩ := h1.ok
    exact ⟨a0, b0, h3⟩
  rintro ⟨a, b, d⟩ ⟨h1, h2, hd⟩
  simp only at h1 h2 hd
  obtain ⟨a0, b0, x, y, hx, hy, ⟨l1, l2, l3, l4⟩, n1⟩ := h1.ok
  obtain ⟨_, _, y', x', hy', hx', ⟨m1, m2, m3, m4⟩, n2⟩ := h2.ok
  simp only at hx hy hx' hy' l2 n1 m2 n2
  rw [hy] at hy'; cases hy'
  rw [hx] at hx'; cases hx'
  have hxo := hg.2 x (List.mem_of_getElem? hx)
  have hyo := hg.2 y (List.mem_of_getElem? hy)
  have xk := hxo.k1; have x3 := hxo.n3; have x5 := hxo.n5; have x7 := hxo.n7; have xn := hxo.nd
  have y3 := hyo.n3; have y5 := hyo.n5; have y7 := hyo.n7; have yn := hyo.nd
  clear hxo hyo
  have hlen : x.labels.length = y.labels.length := by
    by_cases h6 : x.kind = 6
    · exact nodup_len xn yn (m3 (by omega)) (l3 h6)
    · by_cases h7 : x.kind = 7
      · exact nodup_len xn yn (l4 h7) (m4 (by omega))
      · omega
  have hwn : ∀ e : Int, IntKind.i64.wrap (e + -(d)) = IntKind.i64.wrap (e + IntKind.i64.wrap (-d)) := fun e => by
    rw [wrap_eq]; have := wrap_mod (-d); omega
  refine ⟨?_, fun j hj => ?_⟩
  · simp only [locB, hx, hy, Bool.false_or, Bool.and_eq_true, decide_eq_true_eq]
    exact ⟨⟨l1, hlen⟩, l2⟩
  · have hj : j < x.next.length := by unfold arity at hj; simp only [hx] at hj; exact hj
    have hact : 4 ≤ x.kind := by omega
    -- the rest of y
    have fin : ∀ (q : Nat) (u v : Rf), x.next[j]? = some u → y.next[q]? = some v → Sel x y j q → SubE ds (kSt u v d) → SubE ds ⟨v.node, u.node, IntKind.i64.wrap (v.shift - u.shift - d)⟩ → ∃ k', Nx ds false ⟨a, b, d⟩ j k' ∧ SubE ds k' ∧ SubE ds ⟨k'.b, k'.a, IntKind.i64.wrap (-k'.d)⟩ ∧ IntKind.i64.wrap k'.d = k'.d := by
      intro q u v hu hv hs e1 e2
      refine ⟨kSt u v d, ⟨x, y, hx, hy, u, v, q, hu, hv, hs, rfl⟩, e1, ?_, wrap_wrap _⟩
      show SubE ds ⟨v.node, u.node, IntKind.i64.wrap (-IntKind.i64.wrap (u.shift - v.shift + d))⟩
      rw [wrap_neg, show -(u.shift - v.shift + d) = v.shift - u.shift - d by omega]
      exact e2
    have sw : ∀ (u v : Rf), SubE ds (kSt v u (IntKind.i64.wrap (-d))) → SubE ds ⟨v.node, u.node, IntKind.i64.wrap (v.shift - u.shift - d)⟩ := fun u v h => by
      have : kSt v u (IntKind.i64.wrap (-d)) = ⟨v.node, u.node, IntKind.i64.wrap (v.shift - u.shift - d)⟩ := by
        unfold kSt
        rw [← hwn (v.shift - u.shift)]; congr 1
      rwa [this] at h
    have sw2 : ∀ (u v : Rf), SubE ds (kSw v u (IntKind.i64.wrap (-d))) → SubE ds (kSt u v d) := fun u v h => by
      have : kSw v u (IntKind.i64.wrap (-d)) = kSt u v d := by
        unfold kSw kSt
        congr 1
        rw [wrap_eq]; have := wrap_mod (-d); omega
      rwa [this] at h
    by_cases h4 : x.kind = 4
    · have hl0 : ¬ 0 < x.labels.length := by omega
      have hj2 : j = 0 ∨ j = 1 := by omega
      rcases hj2 with rfl | rfl
      · obtain ⟨u, hu⟩ : ∃ u, x.next[0]? = some u := ⟨_, List.getElem?_eq_getElem hj⟩
        obtain ⟨v, hv⟩ : ∃ v, y.next[0]? = some v := ⟨_, List.getElem?_eq_getElem (by omega : 0 < y.next.length)⟩
        exact fin 0 u v hu hv (by unfold Sel; rw [if_neg hl0]) (sw2 u v (n2 _ (.inl ⟨by omega, v, u, hv, hu, rfl⟩))) (n1 _ (.inl ⟨h4, u, v, hu, hv, rfl⟩))
      · obtain ⟨u, hu⟩ : ∃ u, x.next[1]? = some u := ⟨_, List.getElem?_eq_getElem hj⟩
        obtain ⟨v, hv⟩ : ∃ v, y.next[1]? = some v := ⟨_, List.getElem?_eq_getElem (by omega : 1 < y.next.length)⟩
        exact fin 1 u v hu hv (by unfold Sel; rw [if_neg hl0]) (n1 _ (.inr (.inl ⟨h4, u, v, hu, hv, rfl⟩))) (sw u v (n2 _ (.inr (.inl ⟨by omega, v, u, hv, hu, rfl⟩))))
    by_cases h5 : x.kind = 5
    · have hl0 : ¬ 0 < x.labels.length := by omega
      obtain ⟨u, hu⟩ : ∃ u, x.next[j]? = some u := ⟨_, List.getElem?_eq_getElem hj⟩
      obtain ⟨v, hv⟩ : ∃ v, y.next[j]? = some v := ⟨_, List.getElem?_eq_getElem (by omega : j < y.next.length)⟩
      exact fin j u v hu hv (by unfold Sel; rw [if_neg hl0]) (n1 _ (.inr (.inr (.inl ⟨h5, j, u, v, by omega, hu, hv, rfl⟩)))) (sw u v (n2 _ (.inr (.inr (.inl ⟨by omega, j, v, u, by omega, hv, hu, rfl⟩)))))
    · have hk : x.kind = 6 ∨ x.kind = 7 := by omega
      have hjl : j < x.labels.length := by omega
      obtain ⟨u, hu⟩ : ∃ u, x.next[j]? = some u := ⟨_, List.getElem?_eq_getElem hj⟩
      have hs : x.labels[j]? = some x.labels[j] := List.getElem?_eq_getElem hjl
      have hmem : x.labels[j] ∈ y.labels := by
        rcases hk with hk | hk
        · exact m3 (by omega) _ (List.getElem_mem hjl)
        · exact l4 hk _ (List.getElem_mem hjl)
      obtain ⟨q, hq, hqs⟩ := at_of_mem hmem
      obtain ⟨v, hv⟩ : ∃ v, y.next[q]? = some v := ⟨_, List.getElem?_eq_getElem (by omega : q < y.next.length)⟩
      refine fin q u v hu hv ?_ (n1 _ (.inr (.inr (.inr ⟨hk, j, q, u, v, _, hs, hqs, hu, hv, rfl⟩)))) (sw u v (n2 _ (.inr (.inr (.inr ⟨by omega, q, j, v, u, _, hqs, hs, hv, hu, rfl⟩)))))
      unfold Sel
      rw [if_pos (by omega)]
      exact ⟨_, hs, hqs, fun p hp hc => by have := nodup_at yn hc hqs; omega⟩
end Go.Proofs.Ytlemfbmaineigaa.Tx
