/- Subtyping of nodes: what a pair needs, closed sets of pairs; reflexive, transitive; both ways it is equality. -/
import Derived.Test.YtlemfbmaineigaaWk20
set_option linter.all false
namespace Go.Proofs.Ytlemfbmaineigaa.Tx
open Go.Lf Go.Lf.S Go.Lf.Duo
set_option maxRecDepth 100000

def kSt (u v : Rf) (d : Int) : Key := ⟨u.node, v.node, IntKind.i64.wrap (u.shift - v.shift + d)⟩
def kSw (u v : Rf) (d : Int) : Key := ⟨v.node, u.node, IntKind.i64.wrap (v.shift - u.shift - d)⟩
/-- a pair of rests that must be related -/
def NdNeed (x y : Nd) (d : Int) (k' : Key) : Prop :=
  (x.kind = 4 ∧ ∃ u v, x.next[0]? = some u ∧ y.next[0]? = some v ∧ k' = kSw u v d) ∨
  (x.kind = 4 ∧ ∃ u v, x.next[1]? = some u ∧ y.next[1]? = some v ∧ k' = kSt u v d) ∨
  (x.kind = 5 ∧ ∃ (j : Nat) (u v : Rf), j < 2 ∧ x.next[j]? = some u ∧ y.next[j]? = some v ∧ k' = kSt u v d) ∨
  ((x.kind = 6 ∨ x.kind = 7) ∧ ∃ (i j : Nat) (u v : Rf) (s : ByteArray), x.labels[i]? = some s ∧ y.labels[j]? = some s ∧ x.next[i]? = some u ∧ y.next[j]? = some v ∧ k' = kSt u v d)
/-- what the nodes of a pair have in common -/
def NdLoc (x y : Nd) (d : Int) : Prop := x.kind = y.kind ∧ (act x.kind = true → ad x.prio d = ad y.prio 0) ∧ (x.kind = 6 → ∀ s ∈ y.labels, s ∈ x.labels) ∧ (x.kind = 7 → ∀ s ∈ x.labels, s ∈ y.labels)
def SOk (ds : List Nd) (R : Key → Prop) (k : Key) : Prop := 0 ≤ k.a ∧ 0 ≤ k.b ∧ ∃ x y, ds[k.a.toNat]? = some x ∧ ds[k.b.toNat]? = some y ∧ NdLoc x y k.d ∧ ∀ k', NdNeed x y k.d k' → R k'
def SubE (ds : List Nd) (k : Key) : Prop := ∃ R : Key → Prop, R k ∧ ∀ q, R q → SOk ds R q
theorem SubE.ok {ds : List Nd} {k : Key} (h : SubE ds k) : SOk ds (SubE ds) k := by
  obtain ⟨R, h1, h2⟩ := h
  obtain ⟨a0, b0, x, y, hx, hy, hl, hn⟩ := h2 k h1
  exact ⟨a0, b0, x, y, hx, hy, hl, fun k' hk => ⟨R, hn k' hk, h2⟩⟩

theorem wrap_0 : IntKind.i64.wrap 0 = 0 := by decide
theorem sub_refl {ds : List Nd} (hg : GrOk' ds) {a : Int} (h0 : 0 ≤ a) (ha : a < ds.length) : SubE ds ⟨a, a, 0⟩ := by
  refine ⟨fun q => q.a = q.b ∧ q.d = 0 ∧ 0 ≤ q.a ∧ q.a < ds.length, ⟨rfl, rfl, h0, ha⟩, ?_⟩
  rintro ⟨a, b, d⟩ ⟨e, hd, h0, ha⟩
  simp only at e hd h0 ha
  subst e hd
  have hx : ds[a.toNat]? = some (ds[a.toNat]'(by omega)) := List.getElem?_eq_getElem (by omega)
  have hno := hg.2 _ (List.getElem_mem (by omega : a.toNat < ds.length))
  generalize ds[a.toNat]'(by omega) = x at hx hno
  refine ⟨h0, h0, x, x, hx, hx, ⟨rfl, fun _ => rfl, fun _ _ h => h, fun _ _ h => h⟩, fun k' hk => ?_⟩
  have hin : ∀ (j : Nat) (u : Rf), x.next[j]? = some u → 0 ≤ u.node ∧ u.node < ds.length := fun j u hu => hno.node' u (List.mem_of_getElem? hu)
  rcases hk with ⟨_, u, v, hu, hv, rfl⟩ | ⟨_, u, v, hu, hv, rfl⟩ | ⟨_, j, u, v, _, hu, hv, rfl⟩ | ⟨_, i, j, u, v, s, hi, hj, hu, hv, rfl⟩
  · rw [hu] at hv; cases hv
    exact ⟨rfl, by show IntKind.i64.wrap (u.shift - u.shift - 0) = 0; rw [show u.shift - u.shift - 0 = 0 by omega, wrap_0], hin _ _ hu⟩
  · rw [hu] at hv; cases hv
    exact ⟨rfl, by show IntKind.i64.wrap (u.shift - u.shift + 0) = 0; rw [show u.shift - u.shift + 0 = 0 by omega, wrap_0], hin _ _ hu⟩
  · rw [hu] at hv; cases hv
    exact ⟨rfl, by show IntKind.i64.wrap (u.shift - u.shift + 0) = 0; rw [show u.shift - u.shift + 0 = 0 by omega, wrap_0], hin _ _ hu⟩
  · obtain rfl := nodup_at hno.nd hi hj
    rw [hu] at hv; cases hv
    exact ⟨rfl, by show IntKind.i64.wrap (u.shift - u.shift + 0) = 0; rw [show u.shift - u.shift + 0 = 0 by omega, wrap_0], hin _ _ hu⟩

theorem at_of_mem {l : List ByteArray} {s : ByteArray} (h : s ∈ l) : ∃ j, j < l.length ∧ l[j]? = some s := by
  obtain ⟨j, hj, rfl⟩ := List.getElem_of_mem h
  exact ⟨j, hj, List.getElem?_eq_getElem hj⟩

theorem sub_trans {ds : List Nd} (hg : GrOk' ds) {a b c d1 d2 : Int} (h1 : SubE ds ⟨a, b, d1⟩) (h2 : SubE ds ⟨b, c, d2⟩) : SubE ds ⟨a, c, IntKind.i64.wrap (d1 + d2)⟩ := by
  refine ⟨fun q => ∃ b d1 d2, SubE ds ⟨q.a, b, d1⟩ ∧ SubE ds ⟨b, q.b, d2⟩ ∧ q.d = IntKind.i64.wrap (d1 + d2), ⟨b, d1, d2, h1, h2, rfl⟩, ?_⟩
  rintro ⟨a, c, d⟩ ⟨b, d1, d2, h1, h2, hd⟩
  simp only at h1 h2 hd
  subst hd
  obtain ⟨a0, b0, x, y, hx, hy, ⟨l1, l2, l3, l4⟩, n1⟩ := h1.ok
  obtain ⟨_, c0, y', z, hy', hz, ⟨m1, m2, m3, m4⟩, n2⟩ := h2.ok
  rw [hy] at hy'; cases hy'
  have hyo := hg.2 y (List.mem_of_getElem? hy)
  have y5 := hyo.n5
  have y7 := hyo.n7
  clear hyo
  refine ⟨a0, c0, x, z, hx, hz, ⟨l1.trans m1, fun ha => ?_, fun hk s hs => l3 hk s (m3 (by omega) s hs), fun hk s hs => m4 (by omega) s (l4 hk s hs)⟩, fun k' hk => ?_⟩
  · have e1 := l2 ha
    have e2 := m2 (by rw [← l1]; exact ha)
    have e3 := wrap_mod (d1 + d2)
    simp only [ad, wrap_eq] at e1 e2 ⊢
    omega
  · rcases hk with ⟨hk, u, w, hu, hw, rfl⟩ | ⟨hk, u, w, hu, hw, rfl⟩ | ⟨hk, j, u, w, hj, hu, hw, rfl⟩ | ⟨hk, i, j, u, w, s, hi, hj, hu, hw, rfl⟩
    · obtain ⟨v, hv⟩ : ∃ v, y.next[0]? = some v := ⟨_, List.getElem?_eq_getElem (by omega : 0 < y.next.length)⟩
      refine ⟨v.node, _, _, n2 _ (.inl ⟨by omega, v, w, hv, hw, rfl⟩), n1 _ (.inl ⟨hk, u, v, hu, hv, rfl⟩), ?_⟩
      show IntKind.i64.wrap (w.shift - u.shift - IntKind.i64.wrap (d1 + d2)) = IntKind.i64.wrap (IntKind.i64.wrap (w.shift - v.shift - d2) + IntKind.i64.wrap (v.shift - u.shift - d1))
      rw [wrap_eq]
      have e1 := wrap_mod (d1 + d2)
      have e2 := wrap_mod (w.shift - v.shift - d2)
      have e3 := wrap_mod (v.shift - u.shift - d1)
      omega
    · obtain ⟨v, hv⟩ : ∃ v, y.next[1]? = some v := ⟨_, List.getElem?_eq_getElem (by omega : 1 < y.next.length)⟩
      refine ⟨v.node, _, _, n1 _ (.inr (.inl ⟨hk, u, v, hu, hv, rfl⟩)), n2 _ (.inr (.inl ⟨by omega, v, w, hv, hw, rfl⟩)), ?_⟩
      show IntKind.i64.wrap (u.shift - w.shift + IntKind.i64.wrap (d1 + d2)) = IntKind.i64.wrap (IntKind.i64.wrap (u.shift - v.shift + d1) + IntKind.i64.wrap (v.shift - w.shift + d2))
      rw [wrap_eq]
      have e1 := wrap_mod (d1 + d2)
      have e2 := wrap_mod (u.shift - v.shift + d1)
      have e3 := wrap_mod (v.shift - w.shift + d2)
      omega
    · obtain ⟨v, hv⟩ : ∃ v, y.next[j]? = some v := ⟨_, List.getElem?_eq_getElem (by omega : j < y.next.length)⟩
      refine ⟨v.node, _, _, n1 _ (.inr (.inr (.inl ⟨hk, j, u, v, hj, hu, hv, rfl⟩))), n2 _ (.inr (.inr (.inl ⟨by omega, j, v, w, hj, hv, hw, rfl⟩))), ?_⟩
      show IntKind.i64.wrap (u.shift - w.shift + IntKind.i64.wrap (d1 + d2)) = IntKind.i64.wrap (IntKind.i64.wrap (u.shift - v.shift + d1) + IntKind.i64.wrap (v.shift - w.shift + d2))
      rw [wrap_eq]
      have e1 := wrap_mod (d1 + d2)
      have e2 := wrap_mod (u.shift - v.shift + d1)
      have e3 := wrap_mod (v.shift - w.shift + d2)
      omega
    · obtain ⟨m, hm, hms⟩ : ∃ m, m < y.labels.length ∧ y.labels[m]? = some s := by
        rcases hk with hk | hk
        · exact at_of_mem (m3 (by omega) s (List.mem_of_getElem? hj))
        · exact at_of_mem (l4 hk s (List.mem_of_getElem? hi))
      obtain ⟨v, hv⟩ : ∃ v, y.next[m]? = some v := ⟨_, List.getElem?_eq_getElem (by omega : m < y.next.length)⟩
      refine ⟨v.node, _, _, n1 _ (.inr (.inr (.inr ⟨hk, i, m, u, v, s, hi, hms, hu, hv, rfl⟩))), n2 _ (.inr (.inr (.inr ⟨by omega, m, j, v, w, s, hms, hj, hv, hw, rfl⟩))), ?_⟩
      show IntKind.i64.wrap (u.shift - w.shift + IntKind.i64.wrap (d1 + d2)) = IntKind.i64.wrap (IntKind.i64.wrap (u.shift - v.shift + d1) + IntKind.i64.wrap (v.shift - w.shift + d2))
      rw [wrap_eq]
      have e1 := wrap_mod (d1 + d2)
      have e2 := wrap_mod (u.shift - v.shift + d1)
      have e3 := wrap_mod (v.shift - w.shift + d2)
      omega
end Go.Proofs.Ytlemfbmaineigaa.Tx
