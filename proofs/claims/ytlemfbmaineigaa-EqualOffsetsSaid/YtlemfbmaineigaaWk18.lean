/- Equality is transitive. -/
import Derived.Test.YtlemfbmaineigaaWk17
set_option linter.all false
namespace Go.Proofs.Ytlemfbmaineigaa.Tx
open Go.Lf Go.Lf.S Go.Lf.Duo
set_option maxRecDepth 100000

def comp (free : Bool) (p q : Key) : Key := ⟨p.a, q.b, if free then 0 else IntKind.i64.wrap (p.d + q.d)⟩

theorem locB_get {ds : List Nd} {free : Bool} {k : Key} (h : locB ds free k = true) : ∃ x y, ds[k.a.toNat]? = some x ∧ ds[k.b.toNat]? = some y ∧ x.kind = y.kind ∧ x.labels.length = y.labels.length ∧ (free = false → act x.kind = true → ad x.prio k.d = ad y.prio 0) := by
  unfold locB at h
  split at h
  · rename_i x y hx hy
    simp only [Bool.and_eq_true, Bool.or_eq_true, decide_eq_true_eq] at h
    exact ⟨x, y, hx, hy, h.1.1, h.1.2, fun hf => by rcases h.2 with h2 | h2; rw [hf] at h2; cases h2; exact h2⟩
  · cases h

theorem eqv_trans {ds : List Nd} {free : Bool} {p q : Key} (hp : Eqv ds free p) (hq : Eqv ds free q) (hpq : p.b = q.a) : Eqv ds free (comp free p q) := by
  obtain ⟨L, hL, hpL⟩ := hp
  obtain ⟨M, hM, hqM⟩ := hq
  refine ⟨L.flatMap fun p => (M.filter fun q => decide (p.b = q.a)).map (comp free p), fun k hk => ?_, List.mem_flatMap.2 ⟨p, hpL, List.mem_map.2 ⟨q, List.mem_filter.2 ⟨hqM, by simpa using hpq⟩, rfl⟩⟩⟩
  obtain ⟨p, hpL, hk⟩ := List.mem_flatMap.1 hk
  obtain ⟨q, hqf, rfl⟩ := List.mem_map.1 hk
  obtain ⟨hqM, hpq⟩ := List.mem_filter.1 hqf
  have hpq : p.b = q.a := by simpa using hpq
  obtain ⟨hp1, hp2⟩ := hL p hpL
  obtain ⟨hq1, hq2⟩ := hM q hqM
  obtain ⟨x, y, hx, hy, k1, l1, d1⟩ := locB_get hp1
  obtain ⟨y', z, hy', hz, k2, l2, d2⟩ := locB_get hq1
  rw [hpq, hy'] at hy; cases hy
  refine ⟨?_, fun j hj => ?_⟩
  · unfold locB comp
    simp only [hx, hz]
    rw [decide_eq_true (k1.trans k2), decide_eq_true (l1.trans l2)]
    cases free with
    | true => simp
    | false =>
      simp only [Bool.false_or, Bool.and_self, Bool.true_and, decide_eq_true_eq, Bool.false_eq_true, if_false]
      intro ha
      have e1 := d1 rfl ha
      have e2 := d2 rfl (by rw [← k1]; exact ha)
      have e3 := wrap_mod (p.d + q.d)
      simp only [ad, wrap_eq] at e1 e2 ⊢
      omega
  · have hj : j < arity ds p := hj
    obtain ⟨p', ⟨x1, y1, hx1, hy1, u, v, j1, hu, hv, s1, rfl⟩, hp'⟩ := hp2 j hj
    rw [hx] at hx1; cases hx1
    rw [hpq, hy'] at hy1; cases hy1
    have hj1 : j1 < arity ds q := by
      unfold arity; rw [hy']
      exact (List.getElem?_eq_some_iff.1 hv).1
    obtain ⟨q', ⟨y2, z2, hy2, hz2, v2, w, j2, hv2, hw, s2, rfl⟩, hq'⟩ := hq2 j1 hj1
    rw [hy'] at hy2; cases hy2
    rw [hz] at hz2; cases hz2
    rw [hv] at hv2; cases hv2
    refine ⟨comp free _ _, ⟨x, z, hx, hz, u, w, j2, hu, hw, ?_, ?_⟩, List.mem_flatMap.2 ⟨_, hp', List.mem_map.2 ⟨_, List.mem_filter.2 ⟨hq', by simp⟩, rfl⟩⟩⟩
    · unfold Sel at s1 s2 ⊢
      by_cases h0 : 0 < x.labels.length
      · rw [if_pos h0] at s1 ⊢
        rw [if_pos (by omega)] at s2
        obtain ⟨s, a1, a2, a3⟩ := s1
        obtain ⟨s', b1, b2, b3⟩ := s2
        rw [a2] at b1; cases b1
        exact ⟨s, a1, b2, b3⟩
      · rw [if_neg h0] at s1 ⊢
        rw [if_neg (by omega)] at s2
        rw [s2, s1]
    · unfold comp
      cases free with
      | true => rfl
      | false =>
        simp only [Bool.false_eq_true, if_false, Key.mk.injEq, true_and]
        rw [wrap_eq]
        have e1 := wrap_mod (u.shift - v.shift + p.d)
        have e2 := wrap_mod (v.shift - w.shift + q.d)
        have e3 := wrap_mod (p.d + q.d)
        omega

end Go.Proofs.Ytlemfbmaineigaa.Tx
