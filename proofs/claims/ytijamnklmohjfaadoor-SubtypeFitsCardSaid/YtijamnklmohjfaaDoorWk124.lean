/- The reference's subtyping (5): it is that of the references that stand for the types. -/
import Derived.Test.YtijamnklmohjfaaDoorWk123
import Derived.Test.YtijamnklmohjfaaDoorWk80
set_option linter.all false
namespace Go.Proofs.YtijamnklmohjfaaDoor.Tx
open Go.Lf Go.Lf.S Go.Lf.Duo
set_option maxRecDepth 100000

structure RtSt (ds : List Nd) (a s : Int) (u : Ty) (x : Nd) : Prop where
  a0 : 0 ≤ a
  hx : ds[a.toNat]? = some x
  k : x.kind = u.kind
  p : act x.kind = true → ad x.prio s = u.prio
  l : x.labels = u.labels
  up : ∀ (j : Nat) (k : Ty), u.kids[j]? = some k → ∃ v, x.next[j]? = some v ∧ RT ds ⟨v.node, ad v.shift s⟩ k
  dn : ∀ (j : Nat) (v : Rf), x.next[j]? = some v → ∃ k, u.kids[j]? = some k ∧ RT ds ⟨v.node, ad v.shift s⟩ k
theorem RT.st {ds : List Nd} {a s : Int} {A : Ty} (h : RT ds ⟨a, s⟩ A) : ∃ x, RtSt ds a s (unfT A) x := by
  obtain ⟨h0, u, d, h1, h2, h3, h4, h5, h6, h7⟩ := h.step
  rw [unfT_eq h1]
  refine ⟨d, h0, h2, h3, h4, h5, fun j k hk => ?_, fun j v hv => ?_⟩
  · have hj := (List.getElem?_eq_some_iff.1 hk).1
    have hv : d.next[j]? = some (d.next[j]'(by omega)) := List.getElem?_eq_getElem (by omega)
    exact ⟨_, hv, h7 j _ k hv hk⟩
  · have hj := (List.getElem?_eq_some_iff.1 hv).1
    have hk : u.kids[j]? = some (u.kids[j]'(by omega)) := List.getElem?_eq_getElem (by omega)
    exact ⟨_, hk, h7 j v _ hv hk⟩

theorem key_lwU {a b s t e : Int} : keyOf false a b (ad s e) (ad t e) = keyOf false a b s t := by
  simp only [keyOf, Bool.false_eq_true, if_false, Key.mk.injEq, true_and, ad]
  rw [wrap_eq]
  have h1 := wrap_mod (s + e)
  have h2 := wrap_mod (t + e)
  omega
theorem key_stU {u v : Rf} {s t : Int} : keyOf false u.node v.node (ad u.shift s) (ad v.shift t) = kSt u v (IntKind.i64.wrap (s - t)) := by
  simp only [keyOf, Bool.false_eq_true, if_false, kSt, Key.mk.injEq, true_and, ad]
  rw [wrap_eq]
  have h1 := wrap_mod (u.shift + s)
  have h2 := wrap_mod (v.shift + t)
  have h3 := wrap_mod (s - t)
  omega
theorem key_swU {u v : Rf} {s t : Int} : keyOf false v.node u.node (ad v.shift t) (ad u.shift s) = kSw u v (IntKind.i64.wrap (s - t)) := by
  simp only [keyOf, Bool.false_eq_true, if_false, kSw, Key.mk.injEq, true_and, ad]
  rw [wrap_eq]
  have h1 := wrap_mod (u.shift + s)
  have h2 := wrap_mod (v.shift + t)
  have h3 := wrap_mod (s - t)
  omega

theorem relP_sub {L : List Ty} {M : Nat} {ne : Ty × Ty → Option (List (Ty × Ty))} (hne : NeOk L M ne) {ds : List Nd} {a b s t : Int} {A B : Ty} (hA : CL L M A) (hB : CL L M B) (ra : RT ds ⟨a, s⟩ A) (rb : RT ds ⟨b, t⟩ B) :
    RelP ne (lw (A, B)) ↔ SubE ds (keyOf false a b s t) := by
  constructor
  · intro h
    refine ⟨fun k => ∃ a b s t A B, RT ds ⟨a, s⟩ A ∧ RT ds ⟨b, t⟩ B ∧ CL L M A ∧ CL L M B ∧ RelP ne (A, B) ∧ k = keyOf false a b s t, ⟨a, b, _, _, _, _, ra.raise (-pz (unfT A)), rb.raise (-pz (unfT A)), hA.raise _, hB.raise _, h, key_lwU.symm⟩, ?_⟩
    clear h ra rb hA hB
    rintro k ⟨a, b, s, t, A, B, ra, rb, hA, hB, h, rfl⟩
    obtain ⟨x, hx⟩ := ra.st
    obtain ⟨y, hy⟩ := rb.st
    obtain ⟨m, hm, hr⟩ := h.step
    obtain ⟨_, hs⟩ := hne (A, B) hA hB
    obtain ⟨⟨l1, l2, l3, l4⟩, _, _, hin⟩ := hs.yes m hm
    have cA := hA.unf.2.2
    have cB := hB.unf.2.2
    simp only at l1 l2 l3 l4 hin
    -- what a raw pair gives
    have go : ∀ {c d u v : Int} {C D : Ty}, RT ds ⟨c, u⟩ C → RT ds ⟨d, v⟩ D → CL L M C → CL L M D → TRaw (unfT A) (unfT B) (C, D) → ∃ a b s t A B, RT ds ⟨a, s⟩ A ∧ RT ds ⟨b, t⟩ B ∧ CL L M A ∧ CL L M B ∧ RelP ne (A, B) ∧ keyOf false c d u v = keyOf false a b s t := fun {c d u v C D} r1 r2 c1 c2 hw =>
      ⟨c, d, _, _, _, _, r1.raise (-pz (unfT C)), r2.raise (-pz (unfT C)), c1.raise _, c2.raise _, hr _ (hin _ hw), key_lwU.symm⟩
    refine ⟨hx.a0, hy.a0, x, y, hx.hx, hy.hx, ⟨by rw [hx.k, hy.k]; exact l1, fun ha => ?_, fun h6 st hst => ?_, fun h7 st hst => ?_⟩, fun k' hk => ?_⟩
    · have e1 := hx.p ha
      have e2 := hy.p (by rw [hy.k, ← l1, ← hx.k]; exact ha)
      have e3 := wrap_mod (s - t)
      rw [← e1, ← e2] at l2
      simp only [keyOf, Bool.false_eq_true, if_false, ad, wrap_eq] at l2 ⊢
      omega
    · rw [hx.k] at h6; rw [hy.l] at hst; rw [hx.l]; exact l3 h6 st hst
    · rw [hx.k] at h7; rw [hx.l] at hst; rw [hy.l]; exact l4 h7 st hst
    · have hxk := hx.k
      rcases hk with ⟨h4, u, v, hu, hv, rfl⟩ | ⟨h4, u, v, hu, hv, rfl⟩ | ⟨h5, j, u, v, hj, hu, hv, rfl⟩ | ⟨h67, i, j, u, v, st, hi, hj, hu, hv, rfl⟩
      · obtain ⟨C, hC, rC⟩ := hx.dn 0 u hu
        obtain ⟨D, hD, rD⟩ := hy.dn 0 v hv
        have := go rD rC (cB D (List.mem_of_getElem? hD)) (cA C (List.mem_of_getElem? hC)) (.inl ⟨by omega, hD, hC⟩)
        rw [key_swU] at this
        exact this
      · obtain ⟨C, hC, rC⟩ := hx.dn 1 u hu
        obtain ⟨D, hD, rD⟩ := hy.dn 1 v hv
        have := go rC rD (cA C (List.mem_of_getElem? hC)) (cB D (List.mem_of_getElem? hD)) (.inr (.inl ⟨by omega, hC, hD⟩))
        rw [key_stU] at this
        exact this
      · obtain ⟨C, hC, rC⟩ := hx.dn j u hu
        obtain ⟨D, hD, rD⟩ := hy.dn j v hv
        have := go rC rD (cA C (List.mem_of_getElem? hC)) (cB D (List.mem_of_getElem? hD)) (.inr (.inr (.inl ⟨by omega, j, hj, hC, hD⟩)))
        rw [key_stU] at this
        exact this
      · obtain ⟨C, hC, rC⟩ := hx.dn i u hu
        obtain ⟨D, hD, rD⟩ := hy.dn j v hv
        have := go rC rD (cA C (List.mem_of_getElem? hC)) (cB D (List.mem_of_getElem? hD)) (.inr (.inr (.inr ⟨by omega, st, i, j, by rw [← hx.l]; exact hi, by rw [← hy.l]; exact hj, hC, hD⟩)))
        rw [key_stU] at this
        exact this
  · intro h
    refine ⟨fun q => ∃ a b s t, CL L M q.1 ∧ CL L M q.2 ∧ RT ds ⟨a, s⟩ q.1 ∧ RT ds ⟨b, t⟩ q.2 ∧ SubE ds (keyOf false a b s t), ⟨a, b, _, _, hA.raise _, hB.raise _, ra.raise _, rb.raise _, by rw [key_lwU]; exact h⟩, ?_⟩
    clear h ra rb hA hB
    rintro ⟨A, B⟩ ⟨a, b, s, t, hA, hB, ra, rb, h⟩
    simp only at hA hB ra rb
    obtain ⟨x, hx⟩ := ra.st
    obtain ⟨y, hy⟩ := rb.st
    obtain ⟨_, _, x', y', hx', hy', ⟨l1, l2, l3, l4⟩, hn⟩ := h.ok
    have hx'' : ds[a.toNat]? = some x' := hx'
    have hy'' : ds[b.toNat]? = some y' := hy'
    rw [hx.hx] at hx''; cases hx''
    rw [hy.hx] at hy''; cases hy''
    obtain ⟨_, hs⟩ := hne (A, B) hA hB
    obtain ⟨_, sA, cA⟩ := hA.unf
    obtain ⟨_, sB, cB⟩ := hB.unf
    have hkk : (unfT A).kind = (unfT B).kind := by rw [← hx.k, ← hy.k]; exact l1
    have hloc : TLoc (unfT A) (unfT B) := by
      refine ⟨hkk, ?_, fun h6 st hst => ?_, fun h7 st hst => ?_⟩
      · by_cases ha : act x.kind = true
        · have e1 := hx.p ha
          have e2 := hy.p (by rw [← l1]; exact ha)
          have e4 := l2 ha
          have e3 := wrap_mod (s - t)
          rw [← e1, ← e2]
          simp only [keyOf, Bool.false_eq_true, if_false, ad, wrap_eq] at e4 ⊢
          omega
        · have hk3 : (unfT A).kind ≤ 3 := by
            rw [hx.k] at ha
            simp only [act, decide_eq_true_eq] at ha
            have := sA.k1
            omega
          rw [(sA.k3 hk3).2.2, (sB.k3 (by omega)).2.2]
      · rw [← hx.l]; rw [← hy.l] at hst; exact l3 (by rw [hx.k]; exact h6) st hst
      · rw [← hy.l]; rw [← hx.l] at hst; exact l4 (by rw [hx.k]; exact h7) st hst
    cases hm : ne (A, B) with
    | none => exact absurd hloc (hs.no hm)
    | some m =>
      refine ⟨m, rfl, fun r hr => ?_⟩
      obtain ⟨_, _, hall, _⟩ := hs.yes m hm
      obtain ⟨⟨C, D⟩, hw, rfl⟩ := hall r hr
      have hw : TRaw (unfT A) (unfT B) (C, D) := hw
      have hc := hw.cl cA cB
      have fin : ∀ {c d u v : Int}, RT ds ⟨c, u⟩ C → RT ds ⟨d, v⟩ D → SubE ds (keyOf false c d u v) → ∃ a b s t, CL L M (lw (C, D)).1 ∧ CL L M (lw (C, D)).2 ∧ RT ds ⟨a, s⟩ (lw (C, D)).1 ∧ RT ds ⟨b, t⟩ (lw (C, D)).2 ∧ SubE ds (keyOf false a b s t) := fun r1 r2 hsub =>
        ⟨_, _, _, _, hc.1.raise _, hc.2.raise _, r1.raise _, r2.raise _, by rw [key_lwU]; exact hsub⟩
      have hxk := hx.k
      rcases hw with ⟨h4, e1, e2⟩ | ⟨h4, e1, e2⟩ | ⟨h5, j, hj, e1, e2⟩ | ⟨h67, st, i, j, g1, g2, e1, e2⟩
      · obtain ⟨v, hv, rv⟩ := hy.up 0 _ e1
        obtain ⟨u, hu, ru⟩ := hx.up 0 _ e2
        refine fin rv ru ?_
        rw [key_swU]
        exact hn _ (.inl ⟨by omega, u, v, hu, hv, rfl⟩)
      · obtain ⟨u, hu, ru⟩ := hx.up 1 _ e1
        obtain ⟨v, hv, rv⟩ := hy.up 1 _ e2
        refine fin ru rv ?_
        rw [key_stU]
        exact hn _ (.inr (.inl ⟨by omega, u, v, hu, hv, rfl⟩))
      · obtain ⟨u, hu, ru⟩ := hx.up j _ e1
        obtain ⟨v, hv, rv⟩ := hy.up j _ e2
        refine fin ru rv ?_
        rw [key_stU]
        exact hn _ (.inr (.inr (.inl ⟨by omega, j, u, v, hj, hu, hv, rfl⟩)))
      · obtain ⟨u, hu, ru⟩ := hx.up i _ e1
        obtain ⟨v, hv, rv⟩ := hy.up j _ e2
        refine fin ru rv ?_
        rw [key_stU]
        exact hn _ (.inr (.inr (.inr ⟨by omega, i, j, u, v, st, by rw [hx.l]; exact g1, by rw [hy.l]; exact g2, hu, hv, rfl⟩)))
end Go.Proofs.YtijamnklmohjfaaDoor.Tx
