/- Subtyping and duals. -/
import Derived.Test.YtijamnklmohjfaaDoorWk85
import Derived.Test.YtijamnklmohjfaaDoorWk9
set_option linter.all false
namespace Go.Proofs.YtijamnklmohjfaaDoor.Tx
open Go.Lf Go.Lf.S Go.Lf.Duo
set_option maxRecDepth 100000

def dl (n : Nat) (a : Int) : Int := if a < n then a + n else a - n
structure DualOf (n : Nat) (x x' : Nd) : Prop where
  k : x'.kind = dk x.kind
  p : x'.prio = x.prio
  l : x'.labels = x.labels
  nl : x'.next.length = x.next.length
  nx : ∀ (j : Nat) (u : Rf), x.next[j]? = some u → x'.next[j]? = some (if restB x.kind j then ⟨dl n u.node, u.shift⟩ else u)
theorem dk_dk' (k : Int) : dk (dk k) = k := by unfold dk; split <;> (try split) <;> (try split) <;> (try split) <;> simp_all
theorem dk_67 (k : Int) : (dk k = 6 ↔ k = 7) ∧ (dk k = 7 ↔ k = 6) ∧ (dk k = 4 ↔ k = 5) ∧ (dk k = 5 ↔ k = 4) := by
  unfold dk; refine ⟨?_, ?_, ?_, ?_⟩ <;> (split <;> (try split) <;> (try split) <;> (try split) <;> omega)
theorem rest_dk (k : Int) (j : Nat) : restB (dk k) j = restB k j := by
  obtain ⟨h1, h2, _⟩ := dk_67 k
  unfold restB
  rw [decide_eq_decide.2 h1, decide_eq_decide.2 h2, Bool.or_assoc, Bool.or_assoc, Bool.or_comm (decide (k = 7))]
theorem act_dk (k : Int) : act (dk k) = act k := by
  unfold act dk
  rw [Bool.eq_iff_iff, decide_eq_true_iff, decide_eq_true_iff]
  split <;> (try split) <;> (try split) <;> (try split) <;> omega

theorem closeD_lo {ds : List Nd} {m : Nat} (h : m < ds.length) : (closeD ds)[m]? = some ds[m] := by
  unfold closeD; rw [List.getElem?_append_left h, List.getElem?_eq_getElem h]
theorem closeD_hi {ds : List Nd} {m : Nat} (h : m < ds.length) : (closeD ds)[m + ds.length]? = some (dualN ds.length ds[m]) := by
  unfold closeD; rw [List.getElem?_append_right (by omega)]; simp [h]

theorem dual_at {ds : List Nd} (hg : GrOk' ds) {a : Int} (h0 : 0 ≤ a) {x : Nd} (hx : (closeD ds)[a.toNat]? = some x) : 0 ≤ dl ds.length a ∧ ∃ x', (closeD ds)[(dl ds.length a).toNat]? = some x' ∧ DualOf ds.length x x' := by
  by_cases h : a < ds.length
  · have hm : a.toNat < ds.length := by omega
    rw [closeD_lo hm] at hx
    have hx : ds[a.toNat] = x := Option.some.inj hx
    have hin := (hg.2 _ (List.getElem_mem hm)).node'
    have hd : dl ds.length a = a + ds.length := if_pos h
    refine ⟨by omega, dualN ds.length ds[a.toNat], by rw [hd, show (a + ds.length).toNat = a.toNat + ds.length by omega]; exact closeD_hi hm, ?_⟩
    rw [hx] at hin ⊢
    refine ⟨rfl, rfl, rfl, by simp [dualN], fun j u hu => ?_⟩
    have hu' := hin u (List.mem_of_getElem? hu)
    simp only [dualN, List.getElem?_mapIdx, hu, Option.map_some, dualR]
    rw [show dl ds.length u.node = u.node + ds.length from if_pos hu'.2]
  · obtain ⟨hl, _⟩ := List.getElem?_eq_some_iff.1 hx
    rw [closeD_len] at hl
    have hm : a.toNat - ds.length < ds.length := by omega
    have ha : a.toNat = (a.toNat - ds.length) + ds.length := by omega
    rw [ha, closeD_hi hm] at hx
    have hx : dualN ds.length ds[a.toNat - ds.length] = x := Option.some.inj hx
    have hin := (hg.2 _ (List.getElem_mem hm)).node'
    have hd : dl ds.length a = a - ds.length := if_neg h
    refine ⟨by omega, ds[a.toNat - ds.length], by rw [hd, show (a - ds.length).toNat = a.toNat - ds.length by omega]; exact closeD_lo hm, ?_⟩
    generalize ds[a.toNat - ds.length] = e at hx hin
    subst hx
    refine ⟨(dk_dk' _).symm, rfl, rfl, by simp [dualN], fun j u hu => ?_⟩
    simp only [dualN, List.getElem?_mapIdx, Option.map_eq_some_iff] at hu
    obtain ⟨w, hw, rfl⟩ := hu
    have hw' := hin w (List.mem_of_getElem? hw)
    rw [hw]
    show some w = some (if restB (dk e.kind) j then _ else _)
    rw [rest_dk]
    unfold dualR
    cases hr : restB e.kind j with
    | false => simp
    | true =>
      simp only [if_true]
      rw [show dl ds.length (w.node + ds.length) = w.node by unfold dl; rw [if_neg (by omega)]; omega]

theorem closeOk {ds : List Nd} (hg : GrOk' ds) (hl : ds.length ≤ 137438953472) : GrOk' (closeD ds) := by
  refine ⟨by rw [closeD_len]; omega, fun d hd => ?_⟩
  rw [closeD_len]
  simp only [closeD, List.mem_append, List.mem_map] at hd
  rcases hd with hd | ⟨e, he, rfl⟩
  · exact (hg.2 d hd).weak (fun q hq => by cases hq) (Int.le_refl _) (by omega)
  · have h := hg.2 e he
    have hk := h.k1; have h3 := h.n3; have h5 := h.n5; have h7 := h.n7; have hx := h.nx
    obtain ⟨g1, g2, g3, g4⟩ := dk_67 e.kind
    have hlen : (dualN ds.length e).next.length = e.next.length := by simp [dualN]
    have kk : (dualN ds.length e).kind = dk e.kind := rfl
    have ll : (dualN ds.length e).labels = e.labels := rfl
    have hdk : (e.kind ≤ 3 → dk e.kind = e.kind) ∧ 1 ≤ dk e.kind ∧ dk e.kind ≤ 7 := by
      unfold dk; split <;> (try split) <;> (try split) <;> (try split) <;> omega
    refine ⟨by rw [kk]; omega, h.p, ?_, ?_, ?_, h.ll, h.nd, fun r hr => ?_⟩
    · rw [kk, hlen, ll]; omega
    · rw [kk, hlen, ll]; omega
    · rw [kk, hlen, ll]; omega
    · obtain ⟨j, hj⟩ := List.getElem?_of_mem hr
      simp only [dualN, List.getElem?_mapIdx, Option.map_eq_some_iff] at hj
      obtain ⟨w, hw, rfl⟩ := hj
      have hwm := List.mem_of_getElem? hw
      have hin := h.node' w hwm
      obtain ⟨_, s1, s2⟩ := hx w hwm
      unfold dualR
      split
      · exact ⟨.inr ⟨by show 0 ≤ w.node + _; omega, by show w.node + _ < _; omega⟩, s1, s2⟩
      · exact ⟨.inr ⟨hin.1, by omega⟩, s1, s2⟩

theorem dual_sub {ds : List Nd} (hg : GrOk' ds) {a b d : Int} (h : SubE (closeD ds) ⟨a, b, d⟩) : SubE (closeD ds) ⟨dl ds.length b, dl ds.length a, IntKind.i64.wrap (-d)⟩ := by
  refine ⟨fun q => SubE (closeD ds) q ∨ ∃ a b d, SubE (closeD ds) ⟨a, b, d⟩ ∧ q = ⟨dl ds.length b, dl ds.length a, IntKind.i64.wrap (-d)⟩, .inr ⟨a, b, d, h, rfl⟩, ?_⟩
  rintro q (h | ⟨a, b, d, h, rfl⟩)
  · exact h.ok.mono fun _ h => .inl h
  obtain ⟨a0, b0, x, y, hx, hy, ⟨l1, l2, l3, l4⟩, hn⟩ := h.ok
  simp only at a0 b0 hx hy l2 hn
  obtain ⟨a1, X, hX, dX⟩ := dual_at hg a0 hx
  obtain ⟨b1, Y, hY, dY⟩ := dual_at hg b0 hy
  obtain ⟨x6, x7, x4, x5⟩ := dk_67 x.kind
  obtain ⟨y6, y7, y4, y5⟩ := dk_67 y.kind
  have kX := dX.k
  have kY := dY.k
  have wm := wrap_mod (-d)
  -- a rest of a dual node
  have rest : ∀ {z Z : Nd}, DualOf ds.length z Z → ∀ (j : Nat) (w : Rf), Z.next[j]? = some w → ∃ u, z.next[j]? = some u ∧ w = if restB z.kind j then ⟨dl ds.length u.node, u.shift⟩ else u := fun {z Z} hd j w hw => by
    have hj := (List.getElem?_eq_some_iff.1 hw).1
    rw [hd.nl] at hj
    have := hd.nx j _ (List.getElem?_eq_getElem hj)
    rw [hw] at this
    exact ⟨_, List.getElem?_eq_getElem hj, Option.some.inj this⟩
  have inr' : ∀ (u v : Rf), SubE (closeD ds) (kSt u v d) → ∃ a b d', SubE (closeD ds) ⟨a, b, d'⟩ ∧ kSt (⟨dl ds.length v.node, v.shift⟩ : Rf) ⟨dl ds.length u.node, u.shift⟩ (IntKind.i64.wrap (-d)) = ⟨dl ds.length b, dl ds.length a, IntKind.i64.wrap (-d')⟩ := fun u v h => by
    refine ⟨_, _, _, h, ?_⟩
    show (⟨_, _, IntKind.i64.wrap (v.shift - u.shift + IntKind.i64.wrap (-d))⟩ : Key) = ⟨_, _, IntKind.i64.wrap (-IntKind.i64.wrap (u.shift - v.shift + d))⟩
    congr 1
    rw [wrap_neg, wrap_eq]; omega
  refine ⟨b1, a1, Y, X, hY, hX, ⟨by rw [kX, kY, l1], fun ha => ?_, fun hk s hs => ?_, fun hk s hs => ?_⟩, fun k' hk => ?_⟩
  · rw [kY, act_dk, ← l1] at ha
    have e := l2 ha
    rw [dX.p, dY.p]
    simp only [ad, wrap_eq] at e ⊢
    omega
  · rw [dX.l] at hs
    rw [dY.l]
    rw [kY] at hk
    exact l4 (by rw [l1]; exact y6.1 hk) s hs
  · rw [dY.l] at hs
    rw [dX.l]
    rw [kY] at hk
    exact l3 (by rw [l1]; exact y7.1 hk) s hs
  · rcases hk with ⟨hk, w, w', hw, hw', rfl⟩ | ⟨hk, w, w', hw, hw', rfl⟩ | ⟨hk, j, w, w', hj, hw, hw', rfl⟩ | ⟨hk, i, j, w, w', s, hi, hj, hw, hw', rfl⟩
    · rw [kY] at hk
      have yk := y4.1 hk
      obtain ⟨v, hv, rfl⟩ := rest dY 0 w hw
      obtain ⟨u, hu, rfl⟩ := rest dX 0 w' hw'
      have r1 : restB y.kind 0 = false := by rw [yk]; rfl
      have r2 : restB x.kind 0 = false := by rw [l1, yk]; rfl
      rw [r1, r2]
      left
      have := hn _ (.inr (.inr (.inl ⟨by omega, 0, u, v, by omega, hu, hv, rfl⟩)))
      have e : kSw v u (IntKind.i64.wrap (-d)) = kSt u v d := by
        unfold kSw kSt; congr 1
        rw [wrap_eq]; omega
      simp only [Bool.false_eq_true, if_false]
      rw [e]; exact this
    · rw [kY] at hk
      have yk := y4.1 hk
      obtain ⟨v, hv, rfl⟩ := rest dY 1 w hw
      obtain ⟨u, hu, rfl⟩ := rest dX 1 w' hw'
      have r1 : restB y.kind 1 = true := by rw [yk]; rfl
      have r2 : restB x.kind 1 = true := by rw [l1, yk]; rfl
      rw [r1, r2]
      right
      exact inr' u v (hn _ (.inr (.inr (.inl ⟨by omega, 1, u, v, by omega, hu, hv, rfl⟩))))
    · rw [kY] at hk
      have yk := y5.1 hk
      have hj2 : j = 0 ∨ j = 1 := by omega
      rcases hj2 with rfl | rfl
      · obtain ⟨v, hv, rfl⟩ := rest dY 0 w hw
        obtain ⟨u, hu, rfl⟩ := rest dX 0 w' hw'
        have r1 : restB y.kind 0 = false := by rw [yk]; rfl
        have r2 : restB x.kind 0 = false := by rw [l1, yk]; rfl
        rw [r1, r2]
        left
        have := hn _ (.inl ⟨by omega, u, v, hu, hv, rfl⟩)
        have e : kSt v u (IntKind.i64.wrap (-d)) = kSw u v d := by
          unfold kSw kSt; congr 1
          rw [wrap_eq]; omega
        simp only [Bool.false_eq_true, if_false]
        rw [e]; exact this
      · obtain ⟨v, hv, rfl⟩ := rest dY 1 w hw
        obtain ⟨u, hu, rfl⟩ := rest dX 1 w' hw'
        have r1 : restB y.kind 1 = true := by rw [yk]; rfl
        have r2 : restB x.kind 1 = true := by rw [l1, yk]; rfl
        rw [r1, r2]
        right
        exact inr' u v (hn _ (.inr (.inl ⟨by omega, u, v, hu, hv, rfl⟩)))
    · rw [kY] at hk
      have yk : y.kind = 7 ∨ y.kind = 6 := hk.imp y6.1 y7.1
      obtain ⟨v, hv, rfl⟩ := rest dY i w hw
      obtain ⟨u, hu, rfl⟩ := rest dX j w' hw'
      have r1 : restB y.kind i = true := by rcases yk with e | e <;> simp [restB, e]
      have r2 : restB x.kind j = true := by rw [l1]; rcases yk with e | e <;> simp [restB, e]
      rw [r1, r2]
      right
      rw [dY.l] at hi
      rw [dX.l] at hj
      exact inr' u v (hn _ (.inr (.inr (.inr ⟨by omega, j, i, u, v, s, hj, hi, hu, hv, rfl⟩))))
end Go.Proofs.YtijamnklmohjfaaDoor.Tx
