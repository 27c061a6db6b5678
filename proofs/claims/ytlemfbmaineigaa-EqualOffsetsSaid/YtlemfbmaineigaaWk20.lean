/- Equality is symmetric; equal is alike. -/
import Derived.Test.YtlemfbmaineigaaWk19
set_option linter.all false
namespace Go.Proofs.Ytlemfbmaineigaa.Tx
open Go.Lf Go.Lf.S Go.Lf.Duo
set_option maxRecDepth 100000

theorem pigeon {α : Type} [DecidableEq α] : ∀ (l m : List α), l.Nodup → (∀ x ∈ l, x ∈ m) → m.length ≤ l.length → ∀ x ∈ m, x ∈ l
  | [], m, _, _, h, x, hx => by
    have : m = [] := List.eq_nil_of_length_eq_zero (by simpa using h)
    subst this; cases hx
  | a :: l, m, hn, hs, h, x, hx => by
    obtain ⟨h1, h2⟩ := List.nodup_cons.1 hn
    have ham := hs a List.mem_cons_self
    by_cases hxa : x = a
    · subst hxa; exact List.mem_cons_self
    refine List.mem_cons_of_mem _ (pigeon l (m.erase a) h2 (fun y hy => ?_) ?_ x ((List.mem_erase_of_ne hxa).2 hx))
    · have hya : y ≠ a := fun e => h1 (e ▸ hy)
      exact (List.mem_erase_of_ne hya).2 (hs y (List.mem_cons_of_mem _ hy))
    · rw [List.length_erase_of_mem ham]
      simp at h; omega

theorem NdOk.len_eq {n m : Int} {x y : Nd} (hx : NdOk 0 n [] x) (hy : NdOk 0 m [] y) (hk : x.kind = y.kind) (hl : x.labels.length = y.labels.length) : x.next.length = y.next.length := by
  have a1 := hx.k1; have a3 := hx.n3; have a5 := hx.n5; have a7 := hx.n7
  have b3 := hy.n3; have b5 := hy.n5; have b7 := hy.n7
  clear hx hy
  omega
theorem NdOk.lab {n : Int} {x : Nd} (hx : NdOk 0 n [] x) (h0 : 0 < x.labels.length) : x.next.length = x.labels.length := by
  have a1 := hx.k1; have a3 := hx.n3; have a5 := hx.n5; have a7 := hx.n7
  clear hx
  omega
theorem nodup_at {l : List ByteArray} (h : l.Nodup) {s : ByteArray} {i j : Nat} (hi : l[i]? = some s) (hj : l[j]? = some s) : i = j := by
  obtain ⟨h1, e1⟩ := List.getElem?_eq_some_iff.1 hi
  obtain ⟨h2, e2⟩ := List.getElem?_eq_some_iff.1 hj
  rcases Nat.lt_trichotomy i j with hl | hl | hl
  · exact absurd (e1.trans e2.symm) ((List.pairwise_iff_getElem.1 h) i j h1 h2 hl)
  · exact hl
  · exact absurd (e2.trans e1.symm) ((List.pairwise_iff_getElem.1 h) j i h2 h1 hl)

def Key.swap (free : Bool) (k : Key) : Key := ⟨k.b, k.a, if free then 0 else IntKind.i64.wrap (-k.d)⟩

theorem eqv_symm {ds : List Nd} (hg : GrOk' ds) {free : Bool} {k : Key} (h : Eqv ds free k) : Eqv ds free (k.swap free) := by
  obtain ⟨L, hL, hkL⟩ := h
  refine ⟨L.map (Key.swap free), fun p hp => ?_, List.mem_map.2 ⟨k, hkL, rfl⟩⟩
  clear hkL k
  obtain ⟨k, hkL, rfl⟩ := List.mem_map.1 hp
  obtain ⟨h1, h2⟩ := hL k hkL
  obtain ⟨x, y, hx, hy, ek, el, ed⟩ := locB_get h1
  have hnx := hg.2 x (List.mem_of_getElem? hx)
  have hny := hg.2 y (List.mem_of_getElem? hy)
  have hlen := hnx.len_eq hny ek el
  refine ⟨?_, fun j hj => ?_⟩
  · unfold locB Key.swap
    simp only [hx, hy]
    rw [decide_eq_true ek.symm, decide_eq_true el.symm]
    cases free with
    | true => simp
    | false =>
      simp only [Bool.false_or, Bool.and_self, Bool.true_and, decide_eq_true_eq, Bool.false_eq_true, if_false]
      intro ha
      have e1 := ed rfl (by rw [ek]; exact ha)
      have e3 := wrap_mod (-k.d)
      simp only [ad, wrap_eq] at e1 ⊢
      omega
  · have hj : j < y.next.length := by
      have : arity ds (k.swap free) = y.next.length := by simp [arity, Key.swap, hy]
      omega
    have har : arity ds k = x.next.length := by simp [arity, hx]
    -- the rest of x to which the rest j of y belongs
    have hq : ∃ q, q < x.next.length ∧ Sel y x j q ∧ ∀ j', Sel x y q j' → j' = j := by
      by_cases h0 : 0 < x.labels.length
      · have lx := hnx.lab h0
        have ly := hny.lab (by omega)
        have hsub : ∀ s ∈ x.labels, s ∈ y.labels := by
          intro s hs
          obtain ⟨i, hi, rfl⟩ := List.getElem_of_mem hs
          obtain ⟨k', ⟨x1, y1, hx1, hy1, u, v, q, hu, hv, hsel, _⟩, _⟩ := h2 i (by omega)
          rw [hx] at hx1; cases hx1
          rw [hy] at hy1; cases hy1
          unfold Sel at hsel
          rw [if_pos h0] at hsel
          obtain ⟨s', a1, a2, _⟩ := hsel
          rw [List.getElem?_eq_getElem hi] at a1; cases a1
          exact List.mem_of_getElem? a2
        have hsup := pigeon x.labels y.labels hnx.nd hsub (by omega)
        have hjl : j < y.labels.length := by omega
        obtain ⟨q, hq, e⟩ := List.getElem_of_mem (hsup _ (List.getElem_mem hjl))
        have hql : x.labels[q]? = some y.labels[j] := by rw [List.getElem?_eq_getElem hq, e]
        refine ⟨q, by omega, ?_, fun j' hs => ?_⟩
        · unfold Sel
          rw [if_pos (by omega)]
          exact ⟨_, List.getElem?_eq_getElem hjl, hql, fun p hp he => by have := nodup_at hnx.nd he hql; omega⟩
        · unfold Sel at hs
          rw [if_pos h0] at hs
          obtain ⟨s, a1, a2, _⟩ := hs
          rw [hql] at a1; cases a1
          exact nodup_at hny.nd a2 (List.getElem?_eq_getElem hjl)
      · refine ⟨j, by omega, ?_, fun j' hs => ?_⟩
        · unfold Sel; rw [if_neg (by omega)]
        · unfold Sel at hs; rw [if_neg h0] at hs; exact hs
    obtain ⟨q, hql, hsel, huniq⟩ := hq
    obtain ⟨k', ⟨x1, y1, hx1, hy1, u, v, j', hu, hv, hsel', rfl⟩, hm⟩ := h2 q (by omega)
    rw [hx] at hx1; cases hx1
    rw [hy] at hy1; cases hy1
    obtain rfl := huniq j' hsel'
    refine ⟨_, ⟨y, x, hy, hx, v, u, q, hv, hu, hsel, ?_⟩, List.mem_map.2 ⟨_, hm, rfl⟩⟩
    unfold Key.swap
    cases free with
    | true => rfl
    | false =>
      simp only [Bool.false_eq_true, if_false, Key.mk.injEq, true_and]
      rw [wrap_eq]
      have e1 := wrap_mod (u.shift - v.shift + k.d)
      have e3 := wrap_mod (-k.d)
      omega

theorem eqv_alike {ds : List Nd} {k : Key} (h : Eqv ds false k) : Eqv ds true ⟨k.a, k.b, 0⟩ := by
  obtain ⟨L, hL, hkL⟩ := h
  refine ⟨L.map fun k => ⟨k.a, k.b, 0⟩, fun p hp => ?_, List.mem_map.2 ⟨k, hkL, rfl⟩⟩
  clear hkL k
  obtain ⟨k, hkL, rfl⟩ := List.mem_map.1 hp
  obtain ⟨h1, h2⟩ := hL k hkL
  obtain ⟨x, y, hx, hy, ek, el, ed⟩ := locB_get h1
  refine ⟨by unfold locB; simp [hx, hy, ek, el], fun j hj => ?_⟩
  obtain ⟨k', ⟨x1, y1, hx1, hy1, u, v, q, hu, hv, hsel, rfl⟩, hm⟩ := h2 j hj
  exact ⟨_, ⟨x1, y1, hx1, hy1, u, v, q, hu, hv, hsel, rfl⟩, List.mem_map.2 ⟨_, hm, rfl⟩⟩

theorem keyOf_symm {ds : List Nd} (hg : GrOk' ds) {free : Bool} {a b s t : Int} (h : Eqv ds free (keyOf free a b s t)) : Eqv ds free (keyOf free b a t s) := by
  have := eqv_symm hg h
  have e : (keyOf free a b s t).swap free = keyOf free b a t s := by
    cases free
    · simp only [Key.swap, keyOf, Bool.false_eq_true, if_false, Key.mk.injEq, true_and]
      rw [wrap_eq]
      have := wrap_mod (s - t)
      omega
    · rfl
  rwa [e] at this
theorem keyOf_trans {ds : List Nd} {free : Bool} {a b c s t u : Int} (h : Eqv ds free (keyOf free a b s t)) (h2 : Eqv ds free (keyOf free b c t u)) : Eqv ds free (keyOf free a c s u) := by
  have := eqv_trans h h2 rfl
  have e : comp free (keyOf free a b s t) (keyOf free b c t u) = keyOf free a c s u := by
    cases free
    · simp only [comp, keyOf, Bool.false_eq_true, if_false, Key.mk.injEq, true_and]
      rw [wrap_eq]
      have := wrap_mod (s - t)
      have := wrap_mod (t - u)
      omega
    · rfl
  rwa [e] at this
theorem keyOf_refl {ds : List Nd} (hg : GrOk' ds) {free : Bool} {a : Nat} (ha : a < ds.length) (s : Int) : Eqv ds free (keyOf free a a s s) := by
  have := eqv_refl hg free ha
  have e : keyOf free a a s s = ⟨a, a, 0⟩ := by
    cases free
    · simp only [keyOf, Bool.false_eq_true, if_false, Int.sub_self]; rfl
    · rfl
  rwa [e]
theorem keyOf_alike {ds : List Nd} {a b s t : Int} (h : Eqv ds false (keyOf false a b s t)) : Eqv ds true (keyOf true a b s t) := eqv_alike h

end Go.Proofs.Ytlemfbmaineigaa.Tx
