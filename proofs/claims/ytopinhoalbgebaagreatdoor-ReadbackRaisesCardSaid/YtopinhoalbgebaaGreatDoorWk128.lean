/- The reference's equality (3): it is that of the references that stand for the types. The law: offsets. -/
import Derived.Test.YtopinhoalbgebaaGreatDoorWk127
import Derived.Test.YtopinhoalbgebaaGreatDoorWk81
import Derived.Test.YtopinhoalbgebaaGreatDoorWk30
import Derived.Test.YtopinhoalbgebaaGreatDoorWb
set_option linter.all false
namespace Go.Proofs.YtopinhoalbgebaaGreatDoor.Tx
open Go.Lf Go.Lf.S Go.Lf.Duo
set_option maxRecDepth 100000

structure RtE (ds : List Nd) (a s : Int) (u : Ty) (x : Nd) : Prop where
  a0 : 0 ≤ a
  hx : ds[a.toNat]? = some x
  k : x.kind = u.kind
  p : act x.kind = true → ad x.prio s = u.prio
  l : x.labels = u.labels
  nl : x.next.length = u.kids.length
  dn : ∀ (j : Nat) (v : Rf) k, x.next[j]? = some v → u.kids[j]? = some k → RT ds ⟨v.node, ad v.shift s⟩ k
theorem RT.se {ds : List Nd} {a s : Int} {A : Ty} (h : RT ds ⟨a, s⟩ A) : ∃ x, RtE ds a s (unfT A) x := by
  obtain ⟨h0, u, d, h1, h2, h3, h4, h5, h6, h7⟩ := h.step
  rw [unfT_eq h1]
  exact ⟨d, h0, h2, h3, h4, h5, h6, h7⟩
theorem RtE.prN {ds : List Nd} {a s : Int} {u : Ty} {x : Nd} (h : RtE ds a s u x) : prN x s = pz u := by
  unfold Tx.prN pz
  rw [h.k]
  cases ha : act u.kind with
  | false => rfl
  | true => simp only [if_true]; exact h.p (by rw [h.k]; exact ha)

theorem same_set {l m : List ByteArray} (hl : l.Nodup) (hm : m.Nodup) (h : ∀ s, s ∈ l ↔ s ∈ m) : l.length = m.length := by
  have a := nodup_leU hl fun s hs => (h s).1 hs
  have b := nodup_leU hm fun s hs => (h s).2 hs
  omega
theorem set_same {l m : List ByteArray} (hl : l.Nodup) (hlen : l.length = m.length) (h : ∀ s ∈ l, s ∈ m) (s : ByteArray) : s ∈ l ↔ s ∈ m := by
  refine ⟨h s, fun hs => ?_⟩
  by_cases e : s ∈ l
  · exact e
  · have := nodup_leU (l := s :: l) (U := m) (by rw [List.nodup_cons]; exact ⟨e, hl⟩) fun x hx => by
      rcases List.mem_cons.1 hx with rfl | hx
      · exact hs
      · exact h x hx
    simp only [List.length_cons] at this
    omega

theorem eqP_eqv {L : List Ty} {M : Nat} {ds : List Nd} {a b s t : Int} {A B : Ty} (hA : CL L M A) (hB : CL L M B) (ra : RT ds ⟨a, s⟩ A) (rb : RT ds ⟨b, t⟩ B) : EqP (A, B) ↔ Eqv ds false (keyOf false a b s t) := by
  constructor
  · intro h
    refine eqv_of_pred (fun k => ∃ a b s t A B, RT ds ⟨a, s⟩ A ∧ RT ds ⟨b, t⟩ B ∧ CL L M A ∧ CL L M B ∧ EqP (A, B) ∧ k = keyOf false a b s t) ?_ ?_ ⟨a, b, s, t, A, B, ra, rb, hA, hB, h, rfl⟩
    · rintro k ⟨a, b, s, t, A, B, ra, rb, _, _, _, rfl⟩
      refine ⟨ra.step.1, rb.step.1, ?_⟩
      simp only [keyOf, Bool.false_eq_true, if_false]
      rw [wrap_eq]
      exact wrap_mod _
    · clear h ra rb hA hB
      rintro k ⟨a, b, s, t, A, B, ra, rb, hA, hB, h, rfl⟩
      obtain ⟨x, hx⟩ := ra.se
      obtain ⟨y, hy⟩ := rb.se
      obtain ⟨⟨e1, e2, e3⟩, hst⟩ := h.step
      have sA := hA.unf
      have sB := hB.unf
      simp only at e1 e2 e3 hst
      obtain ⟨hal, hxe⟩ := List.getElem?_eq_some_iff.1 hx.hx
      obtain ⟨hbl, hye⟩ := List.getElem?_eq_some_iff.1 hy.hx
      have ha0 := hx.a0
      have hb0 := hy.a0
      have hke : keyOf false a b s t = keyOf false (a.toNat : Int) (b.toNat : Int) s t := by rw [Int.toNat_of_nonneg ha0, Int.toNat_of_nonneg hb0]
      have hlen := same_set sA.2.1.nd sB.2.1.nd e3
      have hpz : pz (unfT A) = pz (unfT B) := by unfold pz; rw [e1, e2]
      refine ⟨?_, fun j hj => ?_⟩
      · rw [hke, loc_key hal hbl, hxe, hye]
        simp only [hx.k, hy.k, e1, hx.l, hy.l, hlen, hx.prN, hy.prN, hpz, decide_true, Bool.or_true, Bool.and_true]
      · have hj : j < x.next.length := by
          unfold arity at hj
          rw [show ds[(keyOf false a b s t).a.toNat]? = some x from hx.hx] at hj; exact hj
        have hjk : j < (unfT A).kids.length := by have := hx.nl; omega
        have hu := List.getElem?_eq_getElem hj
        have hk := List.getElem?_eq_getElem hjk
        have rt1 := hx.dn j _ _ hu hk
        have fin : ∀ (q : Nat) v k', y.next[q]? = some v → (unfT B).kids[q]? = some k' → Sel x y j q → ERaw (unfT A) (unfT B) ((unfT A).kids[j], k') → ∃ k'', Nx ds false (keyOf false a b s t) j k'' ∧ ∃ a b s t A B, RT ds ⟨a, s⟩ A ∧ RT ds ⟨b, t⟩ B ∧ CL L M A ∧ CL L M B ∧ EqP (A, B) ∧ k'' = keyOf false a b s t := by
          intro q v k' hv hk' hs hraw
          refine ⟨_, ⟨x, y, hx.hx, hy.hx, _, v, q, hu, hv, hs, rfl⟩, _, _, _, _, _, _, rt1, hy.dn q v k' hv hk', sA.2.2 _ (List.mem_of_getElem? hk), sB.2.2 _ (List.mem_of_getElem? hk'), hst _ hraw, ?_⟩
          exact (key_next false x.next[j] v a b s t).symm
        by_cases hl0 : (unfT A).labels = []
        · have hyl : (unfT B).kids.length = (unfT A).kids.length := by
            have k1 := sA.2.1.k1
            have a3 := sA.2.1.k3; have a5 := sA.2.1.k5; have a7 := sA.2.1.k7
            have b5 := sB.2.1.k5; have b7 := sB.2.1.k7
            have z : (unfT A).labels.length = 0 := by rw [hl0]; rfl
            by_cases c3 : (unfT A).kind ≤ 3
            · have := (a3 c3).1; rw [this] at hjk; simp at hjk
            · by_cases c5 : (unfT A).kind ≤ 5
              · have := (a5 ⟨by omega, c5⟩).1
                have := (b5 ⟨by omega, by omega⟩).1
                omega
              · have := a7 ⟨by omega, k1.2⟩
                omega
          have hjb : j < (unfT B).kids.length := by omega
          have hjy : j < y.next.length := by have := hy.nl; omega
          refine fin j _ _ (List.getElem?_eq_getElem hjy) (List.getElem?_eq_getElem hjb) ?_ (.inl ⟨hl0, j, hk, List.getElem?_eq_getElem hjb⟩)
          unfold Sel
          rw [if_neg (by rw [hx.l, hl0]; simp)]
        · have k1 := sA.2.1.k1
          have hk67 : 6 ≤ (unfT A).kind ∧ (unfT A).kind ≤ 7 := by
            refine ⟨?_, k1.2⟩
            by_cases c3 : (unfT A).kind ≤ 3
            · exact absurd (sA.2.1.k3 c3).2.1 hl0
            · by_cases c5 : (unfT A).kind ≤ 5
              · exact absurd (sA.2.1.k5 ⟨by omega, c5⟩).2 hl0
              · omega
          have a7 := sA.2.1.k7 hk67
          have b7 := sB.2.1.k7 (by rw [← e1]; exact hk67)
          have hjl : j < (unfT A).labels.length := by omega
          have hlt := List.getElem?_eq_getElem hjl
          obtain ⟨q, hq, hqs⟩ := List.getElem_of_mem ((e3 _).1 (List.getElem_mem hjl))
          have hq' : (unfT B).labels[q]? = some (unfT A).labels[j] := by rw [List.getElem?_eq_getElem hq, hqs]
          have hqb : q < (unfT B).kids.length := by omega
          have hqy : q < y.next.length := by have := hy.nl; omega
          refine fin q _ _ (List.getElem?_eq_getElem hqy) (List.getElem?_eq_getElem hqb) ?_ (.inr ⟨hl0, _, j, q, hlt, hq', hk, List.getElem?_eq_getElem hqb⟩)
          unfold Sel
          rw [if_pos (by rw [hx.l]; omega)]
          refine ⟨_, by rw [hx.l]; exact hlt, by rw [hy.l]; exact hq', fun p hp hc => ?_⟩
          rw [hy.l] at hc
          have := nodup_at sB.2.1.nd hc hq'
          omega
  · intro h
    refine ⟨fun q => ∃ a b s t, CL L M q.1 ∧ CL L M q.2 ∧ RT ds ⟨a, s⟩ q.1 ∧ RT ds ⟨b, t⟩ q.2 ∧ Eqv ds false (keyOf false a b s t), ⟨a, b, s, t, hA, hB, ra, rb, h⟩, ?_⟩
    clear h ra rb hA hB
    rintro ⟨A, B⟩ ⟨a, b, s, t, hA, hB, ra, rb, K, hK, hk⟩
    simp only at hA hB ra rb
    obtain ⟨x, hx⟩ := ra.se
    obtain ⟨y, hy⟩ := rb.se
    have sA := hA.unf
    have sB := hB.unf
    obtain ⟨hal, hxe⟩ := List.getElem?_eq_some_iff.1 hx.hx
    obtain ⟨hbl, hye⟩ := List.getElem?_eq_some_iff.1 hy.hx
    have ha0 := hx.a0
    have hb0 := hy.a0
    obtain ⟨hloc, hnx⟩ := hK _ hk
    have hke : keyOf false a b s t = keyOf false (a.toNat : Int) (b.toNat : Int) s t := by rw [Int.toNat_of_nonneg ha0, Int.toNat_of_nonneg hb0]
    rw [hke, loc_key hal hbl, hxe, hye, hx.prN, hy.prN, hx.k, hy.k, hx.l, hy.l] at hloc
    simp only [Bool.false_or, Bool.and_eq_true, decide_eq_true_eq] at hloc
    obtain ⟨⟨e1, elen⟩, epz⟩ := hloc
    have har : arity ds (keyOf false a b s t) = (unfT A).kids.length := by
      unfold arity
      rw [show ds[(keyOf false a b s t).a.toNat]? = some x from hx.hx, ← hx.nl]
    rw [har] at hnx
    -- what a rest gives
    have nx : ∀ j, j < (unfT A).kids.length → ∃ (q : Nat) (u v : Rf), x.next[j]? = some u ∧ y.next[q]? = some v ∧ Sel x y j q ∧ Eqv ds false (keyOf false u.node v.node (ad u.shift s) (ad v.shift t)) := fun j hj => by
      obtain ⟨k', ⟨x', y', g1, g2, u, v, q, g3, g4, g5, rfl⟩, hm⟩ := hnx j hj
      have g1 : ds[a.toNat]? = some x' := g1
      have g2 : ds[b.toNat]? = some y' := g2
      rw [hx.hx] at g1; cases g1
      rw [hy.hx] at g2; cases g2
      exact ⟨q, u, v, g3, g4, g5, K, hK, by rw [key_next false u v a b s t]; exact hm⟩
    have hk67 : (unfT A).labels ≠ [] → (unfT A).kids.length = (unfT A).labels.length := fun hl0 => by
      have k1 := sA.2.1.k1
      refine sA.2.1.k7 ⟨?_, k1.2⟩
      by_cases c3 : (unfT A).kind ≤ 3
      · exact absurd (sA.2.1.k3 c3).2.1 hl0
      · by_cases c5 : (unfT A).kind ≤ 5
        · exact absurd (sA.2.1.k5 ⟨by omega, c5⟩).2 hl0
        · omega
    have hset : ∀ st, st ∈ (unfT A).labels ↔ st ∈ (unfT B).labels := set_same sA.2.1.nd elen fun st hst => by
      obtain ⟨j, hj, rfl⟩ := List.getElem_of_mem hst
      have hne : (unfT A).labels ≠ [] := fun e => by have hj' := hj; rw [e] at hj'; simp at hj'
      obtain ⟨q, u, v, g3, g4, g5, _⟩ := nx j (by rw [hk67 hne]; exact hj)
      unfold Sel at g5
      rw [if_pos (by rw [hx.l]; omega)] at g5
      obtain ⟨s', f1, f2, _⟩ := g5
      rw [hx.l, List.getElem?_eq_getElem hj] at f1
      cases f1
      rw [hy.l] at f2
      exact List.mem_of_getElem? f2
    have epr : (unfT A).prio = (unfT B).prio := by
      by_cases ha : act (unfT A).kind = true
      · rw [pz_act ha, pz_act (by rw [← e1]; exact ha)] at epz; exact epz
      · have hk3 : (unfT A).kind ≤ 3 := by
          simp only [act, decide_eq_true_eq] at ha
          have := sA.2.1.k1
          omega
        rw [(sA.2.1.k3 hk3).2.2, (sB.2.1.k3 (by omega)).2.2]
    refine ⟨⟨e1, epr, hset⟩, fun w hw => ?_⟩
    have hcl := hw.cl sA.2.2 sB.2.2
    rcases hw with ⟨g0, j, f1, f2⟩ | ⟨g0, st, i0, j0, f1, f2, f3, f4⟩
    · have g0 : (unfT A).labels = [] := g0
      obtain ⟨q, u, v, g3, g4, g5, g6⟩ := nx j (List.getElem?_eq_some_iff.1 f1).1
      unfold Sel at g5
      rw [if_neg (by rw [hx.l, g0]; simp)] at g5
      subst g5
      exact ⟨_, _, _, _, hcl.1, hcl.2, hx.dn q u _ g3 f1, hy.dn q v _ g4 f2, g6⟩
    · obtain ⟨q, u, v, g3, g4, g5, g6⟩ := nx i0 (List.getElem?_eq_some_iff.1 f3).1
      have hil : i0 < (unfT A).labels.length := (List.getElem?_eq_some_iff.1 f1).1
      unfold Sel at g5
      rw [if_pos (by rw [hx.l]; omega)] at g5
      obtain ⟨s', h1, h2, _⟩ := g5
      rw [hx.l] at h1
      rw [hy.l] at h2
      have f1 : (unfT A).labels[i0]? = some st := f1
      rw [f1] at h1; cases h1
      obtain rfl := nodup_at sB.2.1.nd h2 f2
      exact ⟨_, _, _, _, hcl.1, hcl.2, hx.dn i0 u _ g3 f3, hy.dn q v _ g4 f4, g6⟩

/-! offsets -/
def pv (o : Option Int) : Int := o.getD 0
theorem eqRf {ds : List Nd} (hg : GrOk' ds) {r r' : Rf} (h0 : 0 ≤ r.node) (h1 : r.node < ds.length) (h0' : 0 ≤ r'.node) (h1' : r'.node < ds.length) :
    ∃ b, Ok P F.equal_Equal [.agg [.sl (ds.map Nd.enc)], r.enc, r'.enc] (.bool b) ∧ (b = true ↔ Eqv ds false (keyOf false r.node r'.node r.shift r'.shift)) := by
  have := ok_equal_Equal hg (a := r.node.toNat) (b := r'.node.toNat) (by omega) (by omega) r.shift r'.shift
  rw [Int.toNat_of_nonneg h0, Int.toNat_of_nonneg h0'] at this
  exact this
theorem ok_Offset {ds : List Nd} (hg : GrOk' ds) {r r' : Rf} (h0 : 0 ≤ r.node) (h1 : r.node < ds.length) (h0' : 0 ≤ r'.node) (h1' : r'.node < ds.length) {d : Int} (hd : d = IntKind.i64.wrap (pv (pr ds r') - pv (pr ds r))) :
    ∃ b, Ok P F.equal_Offset [.agg [.sl (ds.map Nd.enc)], r.enc, r'.enc] (.tup [i (if b then d else 0), .bool b]) ∧ (b = true ↔ Eqv ds false (keyOf false r.node r'.node (ad r.shift d) r'.shift)) := by
  have g : ∀ r : Rf, InG ds r → ∃ (z : Int) (b' : Bool), Ok P F.head_Prio [.agg [.sl (ds.map Nd.enc)], r.enc] (.tup [i z, .bool b']) ∧ z = pv (pr ds r) := fun r h => by
    have h := ok_head_Prio' h
    cases e : pr ds r with
    | none => rw [e] at h; exact ⟨0, false, h, rfl⟩
    | some p => rw [e] at h; exact ⟨p, true, h, rfl⟩
  obtain ⟨z1, b1, p1, f1⟩ := g r ⟨h0, h1⟩
  obtain ⟨z2, b2, p2, f2⟩ := g r' ⟨h0', h1'⟩
  have hr : Ok P F.head_Raise [r.enc, i d] (⟨r.node, ad r.shift d⟩ : Rf).enc := ok_head_Raise r.node r.shift d
  obtain ⟨b, ob, cb⟩ := eqRf hg (r := ⟨r.node, ad r.shift d⟩) (r' := r') h0 h1 h0' h1'
  refine ⟨b, ?_, cb⟩
  have hoff : Ok P F.equal_offset [i d, .bool b] (.tup [i (if b then d else 0), .bool b]) := by
    refine k_equal_offset _ _ rfl ?_
    cases b with
    | true => exact d_l (.bool false) rfl fun _ => d_false (d_ret rfl)
    | false => exact d_l (.bool true) rfl fun _ => d_true (d_ret rfl)
  rw [← f1, ← f2] at hd
  have hs : (Prim.arith .sub .i64).ev [i z2, i z1] = some (i d) := by rw [hd]; rfl
  exact k_equal_Offset _ _ rfl (d_l (.agg [.sl (ds.map Nd.enc)]) rfl fun _ => d_l r.enc rfl fun _ => d_l r'.enc rfl fun _ => d_call p1 (d_l (i z1) rfl fun _ => d_l (.bool b1) rfl fun _ => d_call p2 (d_l (i z2) rfl fun _ => d_l (.bool b2) rfl fun _ => d_l _ hs fun _ => d_l _ hs fun _ => d_call hr (d_call ob (d_call hoff (d_l (i (if b then d else 0)) rfl fun _ => d_l (.bool b) rfl fun _ => d_ret rfl))))))

theorem pv_rt {ds : List Nd} {a s : Int} {A : Ty} (h : RT ds ⟨a, s⟩ A) : pv (pr ds ⟨a, s⟩) = pz (unfT A) := by
  obtain ⟨x, hx⟩ := h.se
  rw [← hx.prN]
  unfold pv pr Tx.prN
  rw [show ds[(⟨a, s⟩ : Rf).node.toNat]? = some x from hx.hx]
  simp only
  split <;> rfl
end Go.Proofs.YtopinhoalbgebaaGreatDoor.Tx
