/- Contract: subtype.relation.sub decides the subtyping of nodes. -/
import Derived.Test.YtijamnklmohjfaaDoorWk82
set_option linter.all false
namespace Go.Proofs.YtijamnklmohjfaaDoor.Tx
open Go.Lf Go.Lf.S Go.Lf.Duo
set_option maxRecDepth 100000

theorem ok_head_Kind (ds : List Nd) (a : Nat) (ha : a < ds.length) (s : Int) : Ok P F.head_Kind [.agg [.sl (ds.map Nd.enc)], ref a s] (i ds[a].kind) :=
  k_head_Kind _ _ rfl (d_l (.agg [.sl (ds.map Nd.enc)]) rfl fun _ => d_l (ref a s) rfl fun _ => d_l _ (e_idx (nd_at ha) (Nd.okc_enc _)) fun _ => d_ret rfl)
theorem ok_head_Label {ds : List Nd} (hg : GrOk' ds) (a : Nat) (ha : a < ds.length) (s : Int) (lab : ByteArray) :
    (∃ (q : Nat) (u : Rf), ds[a].labels[q]? = some lab ∧ ds[a].next[q]? = some u ∧ Ok P F.head_Label [.agg [.sl (ds.map Nd.enc)], ref a s, .str lab] (.tup [ref u.node (ad u.shift s), .bool true])) ∨
    (lab ∉ ds[a].labels ∧ Ok P F.head_Label [.agg [.sl (ds.map Nd.enc)], ref a s, .str lab] (.tup [ref 0 0, .bool false])) := by
  have hno := hg.2 _ (List.getElem_mem ha)
  obtain ⟨r, hix, hat⟩ := ok_slices_Index_string_string ds[a].labels lab hno.ll
  rcases hat with ⟨rfl, hn⟩ | ⟨q, rfl, hq, _⟩
  · exact .inr ⟨hn, k_head_Label _ _ rfl (d_l (.agg [.sl (ds.map Nd.enc)]) rfl fun _ => d_l (ref a s) rfl fun _ => d_l _ (e_idx (nd_at ha) (Nd.okc_enc _)) fun _ => d_call hix (d_call (ok_head_Next_no ds a ha s (-1) (.inl (by omega))) (d_l (ref 0 0) rfl fun _ => d_l (.bool false) rfl fun _ => d_l (ref 0 0) rfl fun _ => d_ret rfl)))⟩
  · have hl : q < ds[a].labels.length := (List.getElem?_eq_some_iff.1 hq).1
    have hqn : q < ds[a].next.length := by
      have := hno.lab (by omega)
      omega
    exact .inl ⟨q, ds[a].next[q], hq, List.getElem?_eq_getElem hqn, k_head_Label _ _ rfl (d_l (.agg [.sl (ds.map Nd.enc)]) rfl fun _ => d_l (ref a s) rfl fun _ => d_l _ (e_idx (nd_at ha) (Nd.okc_enc _)) fun _ => d_call hix (d_call (ok_head_Next ds a ha s q hqn) (d_l (ref ds[a].next[q].node (ad ds[a].next[q].shift s)) rfl fun _ => d_l (.bool true) rfl fun _ => d_l (ref ds[a].next[q].node (ad ds[a].next[q].shift s)) rfl fun _ => d_ret rfl)))⟩

def LocS (ds : List Nd) (q : Key) : Prop := 0 ≤ q.a ∧ 0 ≤ q.b ∧ IntKind.i64.wrap q.d = q.d ∧ ∃ x y, ds[q.a.toNat]? = some x ∧ ds[q.b.toNat]? = some y ∧ x.kind = y.kind ∧ (act x.kind = true → ad x.prio q.d = ad y.prio 0)
theorem pairS {ds : List Nd} {q k : Key} (hq : LocS ds q) (hk : LocS ds k) (ha : q.a = k.a) (hb : q.b = k.b) {x : Nd} (hx : ds[k.a.toNat]? = some x) (hact : act x.kind = true) : q = k := by
  obtain ⟨_, _, w1, x1, y1, hx1, hy1, _, e1⟩ := hq
  obtain ⟨_, _, w2, x2, y2, hx2, hy2, _, e2⟩ := hk
  rw [ha, hx] at hx1; cases hx1
  rw [hx] at hx2; cases hx2
  rw [hb, hy2] at hy1; cases hy1
  have h3 := (e1 hact).trans (e2 hact).symm
  simp only [ad, wrap_eq] at h3
  have hd : q.d = k.d := by
    rw [← w1, ← w2, wrap_eq]; omega
  obtain ⟨a, b, d⟩ := q
  obtain ⟨a', b', d'⟩ := k
  simp only at ha hb hd
  subst ha; subst hb; subst hd; rfl
theorem SOk.mono {ds : List Nd} {R R' : Key → Prop} {k : Key} (h : SOk ds R k) (hR : ∀ q, R q → R' q) : SOk ds R' k := by
  obtain ⟨a0, b0, x, y, hx, hy, hl, hn⟩ := h
  exact ⟨a0, b0, x, y, hx, hy, hl, fun k' hk => hR _ (hn k' hk)⟩

structure ResS (ds : List Nd) (L : List Key) (k : Key) (r : Bool) (L' : List Key) : Prop where
  sub : ∀ q ∈ L, q ∈ L'
  loc : ∀ q ∈ L', LocS ds q
  yes : r = true → k ∈ L' ∧ ∀ q ∈ L', q ∉ L → SOk ds (· ∈ L') q
  no : r = false → ¬ SubE ds k
structure InvS (ds : List Nd) (L : List Key) (k : Key) (M : List Key) : Prop where
  sub : ∀ q ∈ L ++ [k], q ∈ M
  loc : ∀ q ∈ M, LocS ds q
  ok : ∀ q ∈ M, q ∉ L → q ≠ k → SOk ds (· ∈ M) q
theorem InvS.step {ds : List Nd} {L M M' : List Key} {k k' : Key} (h : InvS ds L k M) (r : ResS ds M k' true M') : InvS ds L k M' ∧ k' ∈ M' ∧ ∀ q ∈ M, q ∈ M' := by
  refine ⟨⟨fun q hq => r.sub q (h.sub q hq), r.loc, fun q hq h1 h2 => ?_⟩, (r.yes rfl).1, r.sub⟩
  by_cases hm : q ∈ M
  · exact (h.ok q hm h1 h2).mono r.sub
  · exact (r.yes rfl).2 q hq hm
theorem InvS.no {ds : List Nd} {L M M' : List Key} {k k' : Key} (h : InvS ds L k M) (r : ResS ds M k' false M') (hn : SubE ds k → SubE ds k') : ResS ds L k false M' :=
  ⟨fun q hq => r.sub q (h.sub q (List.mem_append_left _ hq)), r.loc, (fun e => by cases e), fun _ he => r.no rfl (hn he)⟩
theorem InvS.bad {ds : List Nd} {L M : List Key} {k : Key} (h : InvS ds L k M) (hn : ¬ SubE ds k) : ResS ds L k false M :=
  ⟨fun q hq => h.sub q (List.mem_append_left _ hq), h.loc, (fun e => by cases e), fun _ => hn⟩
theorem InvS.fin {ds : List Nd} {L M : List Key} {k : Key} (h : InvS ds L k M) (hk : SOk ds (· ∈ M) k) : ResS ds L k true M := by
  refine ⟨fun q hq => h.sub q (List.mem_append_left _ hq), h.loc, fun _ => ⟨h.sub k (by simp), fun q hq h1 => ?_⟩, fun e => by cases e⟩
  by_cases e : q = k
  · subst e; exact hk
  · exact h.ok q hq h1 e

theorem key_st (u v : Rf) (a b s t : Int) : keyOf false u.node v.node (ad u.shift s) (ad v.shift t) = kSt u v (keyOf false a b s t).d := by
  rw [key_next false u v a b s t]; rfl
theorem key_sw (u v : Rf) (a b s t : Int) : keyOf false v.node u.node (ad v.shift t) (ad u.shift s) = kSw u v (keyOf false a b s t).d := by
  simp only [keyOf, kSw, Bool.false_eq_true, if_false, Key.mk.injEq, true_and]
  rw [wrap_eq]
  have h1 := wrap_mod (u.shift + s)
  have h2 := wrap_mod (v.shift + t)
  have h3 := wrap_mod (s - t)
  unfold ad
  omega

abbrev nds (ds : List Nd) : PV := .sl (ds.map Nd.enc)
theorem okS_next_Sb {ds : List Nd} {a b : Nat} (ha : a < ds.length) (hb : b < ds.length) (s t : Int) {j : Nat} (hja : j < ds[a].next.length) (hjb : j < ds[b].next.length) {m r m' : PV}
    (h : OkS P F.subtype_relation_sub sg_subtype_relation_sub [ref ds[a].next[j].node (ad ds[a].next[j].shift s), ref ds[b].next[j].node (ad ds[b].next[j].shift t), nds ds, m] [r, nds ds, m']) :
    OkS P F.subtype_relation_next sg_subtype_relation_next_Sb [ref a s, ref b t, i j, i j, nds ds, m] [r, nds ds, m'] :=
  m_subtype_relation_next_Sb _ _ (d_l (ref a s) rfl fun _ => d_l (ref b t) rfl fun _ => d_call (ok_head_Next ds a ha s j hja) (d_l (ref ds[a].next[j].node (ad ds[a].next[j].shift s)) rfl fun _ => d_l (.bool true) rfl fun _ => d_l (ref ds[a].next[j].node (ad ds[a].next[j].shift s)) rfl fun _ => d_call (ok_head_Next ds b hb t j hjb) (d_l (ref ds[b].next[j].node (ad ds[b].next[j].shift t)) rfl fun _ => d_l (.bool true) rfl fun _ => d_l (ref ds[b].next[j].node (ad ds[b].next[j].shift t)) rfl fun _ => d_true (d_true (d_calls rfl h (d_ret rfl))))))
theorem okS_next_Dn {ds : List Nd} {a b : Nat} (ha : a < ds.length) (hb : b < ds.length) (s t : Int) {j : Nat} (hja : j < ds[a].next.length) (hjb : j < ds[b].next.length) {m r m' : PV}
    (h : OkS P F.subtype_relation_sub sg_subtype_relation_sub [ref ds[b].next[j].node (ad ds[b].next[j].shift t), ref ds[a].next[j].node (ad ds[a].next[j].shift s), nds ds, m] [r, nds ds, m']) :
    OkS P F.subtype_relation_next sg_subtype_relation_next_Dn [ref a s, ref b t, i j, i j, nds ds, m] [r, nds ds, m'] := by
  have hd : OkS P F.subtype_relation_down sg_subtype_relation_down [ref ds[a].next[j].node (ad ds[a].next[j].shift s), ref ds[b].next[j].node (ad ds[b].next[j].shift t), nds ds, m] [r, nds ds, m'] :=
    m_subtype_relation_down _ _ (d_l (ref ds[a].next[j].node (ad ds[a].next[j].shift s)) rfl fun _ => d_l (ref ds[b].next[j].node (ad ds[b].next[j].shift t)) rfl fun _ => d_calls rfl h (d_ret rfl))
  exact m_subtype_relation_next_Dn _ _ (d_l (ref a s) rfl fun _ => d_l (ref b t) rfl fun _ => d_call (ok_head_Next ds a ha s j hja) (d_l (ref ds[a].next[j].node (ad ds[a].next[j].shift s)) rfl fun _ => d_l (.bool true) rfl fun _ => d_l (ref ds[a].next[j].node (ad ds[a].next[j].shift s)) rfl fun _ => d_call (ok_head_Next ds b hb t j hjb) (d_l (ref ds[b].next[j].node (ad ds[b].next[j].shift t)) rfl fun _ => d_l (.bool true) rfl fun _ => d_l (ref ds[b].next[j].node (ad ds[b].next[j].shift t)) rfl fun _ => d_true (d_true (d_calls rfl hd (d_ret rfl))))))

def SubAt (ds : List Nd) (L : List Key) (k : Key) : Prop := ∀ M, InvS ds L k M → ∀ (u v : Rf), 0 ≤ u.node → u.node < ds.length → 0 ≤ v.node → v.node < ds.length → ∀ s t : Int, ∃ r M', ResS ds M (keyOf false u.node v.node s t) r M' ∧
  OkS P F.subtype_relation_sub sg_subtype_relation_sub [ref u.node s, ref v.node t, nds ds, mpOf M] [.bool r, nds ds, mpOf M']

/-- the rests of all labels of one of the two -/
theorem okS_labels {ds : List Nd} (hg : GrOk' ds) {o a b : Nat} (ho : o < ds.length) (ha : a < ds.length) (hb : b < ds.length) (so s t : Int) {L : List Key} (hs : SubAt ds L (keyOf false a b s t))
    (need : ∀ (p q : Nat) (u v : Rf) (lab : ByteArray), ds[a].labels[p]? = some lab → ds[b].labels[q]? = some lab → ds[a].next[p]? = some u → ds[b].next[q]? = some v → SubE ds (keyOf false a b s t) → SubE ds (kSt u v (keyOf false a b s t).d))
    (miss : ∀ lab ∈ ds[o].labels, lab ∉ ds[a].labels ∨ lab ∉ ds[b].labels → ¬ SubE ds (keyOf false a b s t)) {M0 : List Key} (h0 : InvS ds L (keyOf false a b s t) M0) :
    ∃ r M', OkS P F.subtype_relation_labels sg_subtype_relation_labels [ref o so, ref a s, ref b t, nds ds, mpOf M0] [.bool r, nds ds, mpOf M'] ∧ (r = false → ResS ds L (keyOf false a b s t) false M') ∧
      (r = true → InvS ds L (keyOf false a b s t) M' ∧ ∀ lab ∈ ds[o].labels, ∃ (p q : Nat) (u v : Rf), ds[a].labels[p]? = some lab ∧ ds[b].labels[q]? = some lab ∧ ds[a].next[p]? = some u ∧ ds[b].next[q]? = some v ∧ kSt u v (keyOf false a b s t).d ∈ M') := by
  have hno := hg.2 _ (List.getElem_mem ho)
  have hna := hg.2 _ (List.getElem_mem ha)
  have hnb := hg.2 _ (List.getElem_mem hb)
  have hll := hno.ll
  have := tx_exS m_subtype_relation_labels (K := fun ys => ∃ r M', ys = [.bool r, nds ds, mpOf M'] ∧ (r = false → ResS ds L (keyOf false a b s t) false M') ∧
      (r = true → InvS ds L (keyOf false a b s t) M' ∧ ∀ lab ∈ ds[o].labels, ∃ (p q : Nat) (u v : Rf), ds[a].labels[p]? = some lab ∧ ds[b].labels[q]? = some lab ∧ ds[a].next[p]? = some u ∧ ds[b].next[q]? = some v ∧ kSt u v (keyOf false a b s t).d ∈ M'))
    (xs := [ref o so, ref a s, ref b t, nds ds, mpOf M0]) (by simp [u_subtype_relation_labels, T.dt]) (by
    refine d_l (ref o so) rfl fun _ => d_l (ref a s) rfl fun _ => d_l (ref b t) rfl fun _ => d_l _ (e_idx (nd_at ho) (Nd.okc_enc _)) fun _ => d_l (i (ds[o].labels.length : Int)) (by rw [← List.length_map (f := PV.str)]; exact e_len) fun _ => ?_
    refine den_loop (fun m ys => ∃ (j : Nat) (M : List Key), j + m = ds[o].labels.length ∧ InvS ds L (keyOf false a b s t) M ∧ (∀ lab ∈ ds[o].labels.take j, ∃ (p q : Nat) (u v : Rf), ds[a].labels[p]? = some lab ∧ ds[b].labels[q]? = some lab ∧ ds[a].next[p]? = some u ∧ ds[b].next[q]? = some v ∧ kSt u v (keyOf false a b s t).d ∈ M) ∧ ys = [i j, nds ds, mpOf M]) ds[o].labels.length ⟨0, M0, by omega, h0, by simp, rfl⟩ ?_
    rintro m _ ⟨j, M, hj, hI, hdone, rfl⟩
    refine d_l _ rfl fun _ => d_dec (p := (j : Int) < (ds[o].labels.length : Int)) (fun h => ?_) fun h => ?_
    · have hlt : j < ds[o].labels.length := by omega
      have hmem : ds[o].labels[j] ∈ ds[o].labels := List.getElem_mem hlt
      refine d_l _ (e_idx (str_at hlt) rfl) fun _ => ?_
      rcases ok_head_Label hg a ha s ds[o].labels[j] with ⟨p, u, hp, hu, hA⟩ | ⟨hp, hA⟩
      · refine d_call hA (d_l (ref u.node (ad u.shift s)) rfl fun _ => d_l (.bool true) rfl fun _ => d_l (ref u.node (ad u.shift s)) rfl fun _ => ?_)
        rcases ok_head_Label hg b hb t ds[o].labels[j] with ⟨q, v, hq, hv, hB⟩ | ⟨hq, hB⟩
        · refine d_call hB (d_l (ref v.node (ad v.shift t)) rfl fun _ => d_l (.bool true) rfl fun _ => d_l (ref v.node (ad v.shift t)) rfl fun _ => d_l (.bool false) rfl fun _ => d_false (d_l (.bool false) rfl fun _ => d_false ?_))
          have hu' := hna.node' u (List.mem_of_getElem? hu)
          have hv' := hnb.node' v (List.mem_of_getElem? hv)
          obtain ⟨r, M', hR, hok⟩ := hs M hI u v hu'.1 hu'.2 hv'.1 hv'.2 (ad u.shift s) (ad v.shift t)
          rw [key_st u v a b s t] at hR
          refine d_calls rfl hok (d_l (.bool (!r)) rfl fun _ => d_ite (fun hr => ?_) fun hr => ?_)
          · have hr : r = false := by simpa using hr
            subst hr
            exact d_ret ⟨_, rfl, false, M', rfl, fun _ => hI.no hR (need p q u v _ hp hq hu hv), fun e => by cases e⟩
          · have hr : r = true := by simpa using hr
            subst hr
            obtain ⟨g1, g2, g3⟩ := hI.step hR
            refine d_l _ (e_inc (by omega)) fun _ => d_cont rfl ⟨m - 1, by omega, j + 1, M', by omega, g1, fun lab hlab => ?_, rfl⟩
            rw [List.take_succ, List.getElem?_eq_getElem hlt] at hlab
            rcases List.mem_append.1 hlab with hlab | hlab
            · obtain ⟨p, q, u, v, e1, e2, e3, e4, e5⟩ := hdone lab hlab
              exact ⟨p, q, u, v, e1, e2, e3, e4, g3 _ e5⟩
            · have : lab = ds[o].labels[j] := by simpa using hlab
              subst this
              exact ⟨p, q, u, v, hp, hq, hu, hv, g2⟩
        · refine d_call hB (d_l (ref 0 0) rfl fun _ => d_l (.bool false) rfl fun _ => d_l (ref 0 0) rfl fun _ => d_l (.bool false) rfl fun _ => d_false (d_l (.bool true) rfl fun _ => d_true (d_ret ⟨_, rfl, false, M, rfl, fun _ => hI.bad (miss _ hmem (.inr hq)), fun e => by cases e⟩)))
      · refine d_call hA (d_l (ref 0 0) rfl fun _ => d_l (.bool false) rfl fun _ => d_l (ref 0 0) rfl fun _ => ?_)
        rcases ok_head_Label hg b hb t ds[o].labels[j] with ⟨q, v, hq, hv, hB⟩ | ⟨hq, hB⟩
        · exact d_call hB (d_l (ref v.node (ad v.shift t)) rfl fun _ => d_l (.bool true) rfl fun _ => d_l (ref v.node (ad v.shift t)) rfl fun _ => d_l (.bool true) rfl fun _ => d_true (d_ret ⟨_, rfl, false, M, rfl, fun _ => hI.bad (miss _ hmem (.inl hp)), fun e => by cases e⟩))
        · exact d_call hB (d_l (ref 0 0) rfl fun _ => d_l (.bool false) rfl fun _ => d_l (ref 0 0) rfl fun _ => d_l (.bool true) rfl fun _ => d_true (d_ret ⟨_, rfl, false, M, rfl, fun _ => hI.bad (miss _ hmem (.inl hp)), fun e => by cases e⟩))
    · rw [List.take_of_length_le (by omega)] at hdone
      exact d_ret ⟨_, rfl, true, M, rfl, (fun e => by cases e), fun _ => ⟨hI, hdone⟩⟩)
  obtain ⟨ys, ⟨r, M', rfl, h1, h2⟩, h⟩ := this
  exact ⟨r, M', h, h1, h2⟩
end Go.Proofs.YtijamnklmohjfaaDoor.Tx
