/- Contract: subtype.relation.sub decides the subtyping of nodes (2). -/
import Derived.Test.YtijamnklmohjfaaDoorWk83
set_option linter.all false
namespace Go.Proofs.YtijamnklmohjfaaDoor.Tx
open Go.Lf Go.Lf.S Go.Lf.Duo
set_option maxRecDepth 100000

theorem ok_relation_sub {ds : List Nd} (hg : GrOk' ds) : ∀ (fuel : Nat) (L : List Key), (∀ q ∈ L, LocS ds q) → (left ds.length L).length ≤ fuel → ∀ (a b : Nat), a < ds.length → b < ds.length → ∀ (s t : Int), ∃ r L', ResS ds L (keyOf false a b s t) r L' ∧
    OkS P F.subtype_relation_sub sg_subtype_relation_sub [ref a s, ref b t, nds ds, mpOf L] [.bool r, nds ds, mpOf L'] := by
  intro fuel
  induction fuel using Nat.strongRecOn with
  | _ fuel ih =>
  intro L hL hfuel a b ha hb s t
  have hna := hg.2 _ (List.getElem_mem ha)
  have hnb := hg.2 _ (List.getElem_mem hb)
  have hda : ds[(keyOf false a b s t).a.toNat]? = some ds[a] := by simp [keyOf, List.getElem?_eq_getElem ha]
  have hdb : ds[(keyOf false a b s t).b.toNat]? = some ds[b] := by simp [keyOf, List.getElem?_eq_getElem hb]
  have hka : 0 ≤ (keyOf false a b s t).a := by show (0 : Int) ≤ (a : Int); omega
  have hkb : 0 ≤ (keyOf false a b s t).b := by show (0 : Int) ≤ (b : Int); omega
  -- what follows from being related
  have okk : SubE ds (keyOf false a b s t) → NdLoc ds[a] ds[b] (keyOf false a b s t).d ∧ ∀ k', NdNeed ds[a] ds[b] (keyOf false a b s t).d k' → SubE ds k' := fun h => by
    obtain ⟨_, _, x, y, hx, hy, hl, hn⟩ := h.ok
    rw [hda] at hx; cases hx
    rw [hdb] at hy; cases hy
    exact ⟨hl, hn⟩
  have bad0 : ¬ SubE ds (keyOf false a b s t) → ResS ds L (keyOf false a b s t) false L := fun h => ⟨fun _ h => h, hL, (fun e => by cases e), fun _ => h⟩
  have p1 : ∀ (c : Nat) (hc : c < ds.length) (s : Int), (Prim.tc 0).ev [(if act ds[c].kind then PV.tup [i (ad ds[c].prio s), .bool true] else .tup [i 0, .bool false])] = some (i (prN ds[c] s)) ∧ (Prim.tc 1).ev [(if act ds[c].kind then PV.tup [i (ad ds[c].prio s), .bool true] else .tup [i 0, .bool false])] = some (.bool (act ds[c].kind)) := by
    intro c hc s
    unfold prN
    cases h : act ds[c].kind <;> exact ⟨rfl, rfl⟩
  have := tx_exS m_subtype_relation_sub (K := fun ys => ∃ r L', ResS ds L (keyOf false a b s t) r L' ∧ ys = [.bool r, nds ds, mpOf L'])
    (xs := [ref a s, ref b t, nds ds, mpOf L]) (by simp [u_subtype_relation_sub, T.dt]) (by
    refine d_l (ref a s) rfl fun _ => d_l (ref b t) rfl fun _ => d_call (ok_head_Prio ds a ha s) (d_l _ (p1 a ha s).1 fun _ => d_l _ (p1 a ha s).2 fun _ => d_call (ok_head_Prio ds b hb t) (d_l _ (p1 b hb t).1 fun _ => d_l _ (p1 b hb t).2 fun _ => d_call (ok_head_Kind ds a ha s) (d_call (ok_head_Kind ds b hb t) ?_)))
    refine d_l _ rfl fun _ => d_ndec (p := ds[a].kind = ds[b].kind) (fun hk => d_ret ⟨_, rfl, false, L, bad0 fun h => hk (okk h).1.1, rfl⟩) fun hk => ?_
    refine d_l _ rfl fun _ => d_ndec (p := prN ds[a] s = prN ds[b] t) (fun hp => d_ret ⟨_, rfl, false, L, bad0 fun h => hp ?_, rfl⟩) fun hp => ?_
    · exact (pr_iff hk s t).2 (okk h).1.2.1
    have hp' := (pr_iff hk s t).1 hp
    have hlocK : LocS ds (keyOf false a b s t) := ⟨hka, hkb, wrap_wrap _, ds[a], ds[b], hda, hdb, hk, hp'⟩
    refine d_l (i (keyOf false a b s t).d) rfl fun _ => d_l _ rfl fun _ => d_l _ (e_mget L (keyOf false a b s t)) fun _ => d_dec (fun hm => d_ret ⟨_, rfl, true, L, ⟨fun _ h => h, hL, fun _ => ⟨hm, fun q h1 h2 => absurd h1 h2⟩, (fun e => by cases e)⟩, rfl⟩) fun hm => ?_
    refine d_l _ (e_mset L (keyOf false a b s t) hm) fun _ => ?_
    have hI : InvS ds L (keyOf false a b s t) (L ++ [keyOf false a b s t]) := by
      refine ⟨fun _ h => h, fun q hq => ?_, fun q hq h1 h2 => ?_⟩
      · rcases List.mem_append.1 hq with hq | hq
        · exact hL q hq
        · obtain rfl : q = keyOf false a b s t := by simpa using hq
          exact hlocK
      · rcases List.mem_append.1 hq with hq | hq
        · exact absurd hq h1
        · exact absurd (by simpa using hq) h2
    have hat : act ds[a].kind = true → SubAt ds L (keyOf false a b s t) := fun hact M hM u v u0 u1 v0 v1 s' t' => by
      have hleft : (left ds.length M).length < fuel := by
        have h1 : (left ds.length M).length ≤ (left ds.length (L ++ [keyOf false a b s t])).length := left_mono hM.sub
        have h2 : (left ds.length (L ++ [keyOf false a b s t])).length < (left ds.length L).length := left_lt (left_mem.2 ⟨⟨ha, hb⟩, fun q hq hab => hm (by rw [← pairS (hL q hq) hlocK hab.1 hab.2 hda hact]; exact hq)⟩) rfl rfl
        omega
      have := ih _ hleft M hM.loc (Nat.le_refl _) u.node.toNat v.node.toNat (by omega) (by omega) s' t'
      rwa [Int.toNat_of_nonneg u0, Int.toNat_of_nonneg v0] at this
    have act_of : 4 ≤ ds[a].kind → act ds[a].kind = true := fun h => by
      have := hna.k1
      simp only [act, decide_eq_true_eq]; omega
    have a5 := hna.n5; have b5 := hnb.n5; have a7 := hna.n7
    have na' := hna.node'; have nb' := hnb.node'
    have and' := hna.nd; have bnd' := hnb.nd
    clear hna hnb
    refine d_l _ rfl fun _ => d_dec (p := ds[a].kind = 4) (fun h4 => ?_) fun h4 => ?_
    · have hs := hat (act_of (by omega))
      have la : 1 < ds[a].next.length := by omega
      have lb : 1 < ds[b].next.length := by omega
      have la0 : 0 < ds[a].next.length := by omega
      have lb0 : 0 < ds[b].next.length := by omega
      have ra0 := na' _ (List.getElem_mem la0)
      have rb0 := nb' _ (List.getElem_mem lb0)
      have ra1 := na' _ (List.getElem_mem la)
      have rb1 := nb' _ (List.getElem_mem lb)
      obtain ⟨r1, M1, hR1, ok1⟩ := hs _ hI ds[b].next[0] ds[a].next[0] rb0.1 rb0.2 ra0.1 ra0.2 (ad ds[b].next[0].shift t) (ad ds[a].next[0].shift s)
      rw [key_sw ds[a].next[0] ds[b].next[0] a b s t] at hR1
      have w0 := List.getElem?_eq_getElem la0
      have v0 := List.getElem?_eq_getElem lb0
      have w1 := List.getElem?_eq_getElem la
      have v1 := List.getElem?_eq_getElem lb
      refine d_calls rfl (okS_next_Dn ha hb s t la0 lb0 ok1) (d_ite (fun e => ?_) fun e => ?_)
      · have e : r1 = true := e
        subst e
        obtain ⟨g1, g2, g3⟩ := hI.step hR1
        obtain ⟨r2, M2, hR2, ok2⟩ := hs _ g1 ds[a].next[1] ds[b].next[1] ra1.1 ra1.2 rb1.1 rb1.2 (ad ds[a].next[1].shift s) (ad ds[b].next[1].shift t)
        rw [key_st ds[a].next[1] ds[b].next[1] a b s t] at hR2
        refine d_calls rfl (okS_next_Sb ha hb s t la lb ok2) (d_ret ⟨_, rfl, r2, M2, ?_, rfl⟩)
        cases r2 with
        | false => exact g1.no hR2 fun h => (okk h).2 _ (.inr (.inl ⟨h4, _, _, w1, v1, rfl⟩))
        | true =>
          obtain ⟨k1, k2, k3⟩ := g1.step hR2
          refine k1.fin ⟨hka, hkb, ds[a], ds[b], hda, hdb, ⟨hk, hp', fun h => by omega, fun h => by omega⟩, fun k' hk' => ?_⟩
          rcases hk' with ⟨_, u, v, hu, hv, rfl⟩ | ⟨_, u, v, hu, hv, rfl⟩ | ⟨h, _⟩ | ⟨h, _⟩
          · rw [w0] at hu; cases hu
            rw [v0] at hv; cases hv
            exact k3 _ g2
          · rw [w1] at hu; cases hu
            rw [v1] at hv; cases hv
            exact k2
          · omega
          · omega
      · have e : r1 = false := e
        subst e
        exact d_ret ⟨_, rfl, false, M1, hI.no hR1 fun h => (okk h).2 _ (.inl ⟨h4, _, _, w0, v0, rfl⟩), rfl⟩
    refine d_l _ rfl fun _ => d_dec (p := ds[a].kind = 5) (fun h5 => ?_) fun h5 => ?_
    · have hs := hat (act_of (by omega))
      have la : 1 < ds[a].next.length := by omega
      have lb : 1 < ds[b].next.length := by omega
      have la0 : 0 < ds[a].next.length := by omega
      have lb0 : 0 < ds[b].next.length := by omega
      have ra0 := na' _ (List.getElem_mem la0)
      have rb0 := nb' _ (List.getElem_mem lb0)
      have ra1 := na' _ (List.getElem_mem la)
      have rb1 := nb' _ (List.getElem_mem lb)
      obtain ⟨r1, M1, hR1, ok1⟩ := hs _ hI ds[a].next[0] ds[b].next[0] ra0.1 ra0.2 rb0.1 rb0.2 (ad ds[a].next[0].shift s) (ad ds[b].next[0].shift t)
      rw [key_st ds[a].next[0] ds[b].next[0] a b s t] at hR1
      have w0 := List.getElem?_eq_getElem la0
      have v0 := List.getElem?_eq_getElem lb0
      have w1 := List.getElem?_eq_getElem la
      have v1 := List.getElem?_eq_getElem lb
      refine d_calls rfl (okS_next_Sb ha hb s t la0 lb0 ok1) (d_ite (fun e => ?_) fun e => ?_)
      · have e : r1 = true := e
        subst e
        obtain ⟨g1, g2, g3⟩ := hI.step hR1
        obtain ⟨r2, M2, hR2, ok2⟩ := hs _ g1 ds[a].next[1] ds[b].next[1] ra1.1 ra1.2 rb1.1 rb1.2 (ad ds[a].next[1].shift s) (ad ds[b].next[1].shift t)
        rw [key_st ds[a].next[1] ds[b].next[1] a b s t] at hR2
        refine d_calls rfl (okS_next_Sb ha hb s t la lb ok2) (d_ret ⟨_, rfl, r2, M2, ?_, rfl⟩)
        cases r2 with
        | false => exact g1.no hR2 fun h => (okk h).2 _ (.inr (.inr (.inl ⟨h5, 1, _, _, by omega, w1, v1, rfl⟩)))
        | true =>
          obtain ⟨k1, k2, k3⟩ := g1.step hR2
          refine k1.fin ⟨hka, hkb, ds[a], ds[b], hda, hdb, ⟨hk, hp', fun h => by omega, fun h => by omega⟩, fun k' hk' => ?_⟩
          rcases hk' with ⟨h, _⟩ | ⟨h, _⟩ | ⟨_, j, u, v, hj, hu, hv, rfl⟩ | ⟨h, _⟩
          · omega
          · omega
          · have hj2 : j = 0 ∨ j = 1 := by omega
            rcases hj2 with rfl | rfl
            · rw [w0] at hu; cases hu
              rw [v0] at hv; cases hv
              exact k3 _ g2
            · rw [w1] at hu; cases hu
              rw [v1] at hv; cases hv
              exact k2
          · omega
      · have e : r1 = false := e
        subst e
        exact d_ret ⟨_, rfl, false, M1, hI.no hR1 fun h => (okk h).2 _ (.inr (.inr (.inl ⟨h5, 0, _, _, by omega, w0, v0, rfl⟩))), rfl⟩
    have lneed : ds[a].kind = 6 ∨ ds[a].kind = 7 → ∀ (p q : Nat) (u v : Rf) (lab : ByteArray), ds[a].labels[p]? = some lab → ds[b].labels[q]? = some lab → ds[a].next[p]? = some u → ds[b].next[q]? = some v → SubE ds (keyOf false a b s t) → SubE ds (kSt u v (keyOf false a b s t).d) := fun hk67 p q u v lab e1 e2 e3 e4 h => (okk h).2 _ (.inr (.inr (.inr ⟨hk67, p, q, u, v, lab, e1, e2, e3, e4, rfl⟩)))
    have lfin : ds[a].kind = 6 ∨ ds[a].kind = 7 → ∀ (o : List ByteArray) (M : List Key), InvS ds L (keyOf false a b s t) M → (∀ lab, lab ∈ ds[a].labels → lab ∈ ds[b].labels → lab ∈ o) → (∀ lab ∈ o, ∃ (p q : Nat) (u v : Rf), ds[a].labels[p]? = some lab ∧ ds[b].labels[q]? = some lab ∧ ds[a].next[p]? = some u ∧ ds[b].next[q]? = some v ∧ kSt u v (keyOf false a b s t).d ∈ M) →
        ((ds[a].kind = 6 → ∀ x ∈ ds[b].labels, x ∈ o) ∧ (ds[a].kind = 7 → ∀ x ∈ ds[a].labels, x ∈ o)) → ResS ds L (keyOf false a b s t) true M := fun hk67 o M hM hc hall hso => by
      refine hM.fin ⟨hka, hkb, ds[a], ds[b], hda, hdb, ⟨hk, hp', fun h x hx => ?_, fun h x hx => ?_⟩, fun k' hk' => ?_⟩
      · obtain ⟨p, q, u, v, e1, _⟩ := hall x (hso.1 h x hx)
        exact List.mem_of_getElem? e1
      · obtain ⟨p, q, u, v, _, e2, _⟩ := hall x (hso.2 h x hx)
        exact List.mem_of_getElem? e2
      · rcases hk' with ⟨h, _⟩ | ⟨h, _⟩ | ⟨h, _⟩ | ⟨_, x, y, u, v, lab, hx, hy, hu, hv, rfl⟩
        · omega
        · omega
        · omega
        · obtain ⟨p, q, u', v', e1, e2, e3, e4, e5⟩ := hall lab (hc lab (List.mem_of_getElem? hx) (List.mem_of_getElem? hy))
          obtain rfl := nodup_at and' hx e1
          obtain rfl := nodup_at bnd' hy e2
          rw [hu] at e3; cases e3
          rw [hv] at e4; cases e4
          exact e5
    refine d_l _ rfl fun _ => d_dec (p := ds[a].kind = 6) (fun h6 => ?_) fun h6 => ?_
    · have hs := hat (act_of (by omega))
      obtain ⟨r, M', hok, hf, ht⟩ := okS_labels hg hb ha hb t s t hs (lneed (.inl h6)) (fun lab hl hn h => by
        rcases hn with hn | hn
        · exact hn ((okk h).1.2.2.1 h6 lab hl)
        · exact hn hl) hI
      refine d_calls rfl hok (d_ret ⟨_, rfl, r, M', ?_, rfl⟩)
      cases r with
      | false => exact hf rfl
      | true => exact lfin (.inl h6) _ M' (ht rfl).1 (fun _ _ h => h) (ht rfl).2 ⟨fun _ _ h => h, fun h => by omega⟩
    refine d_l _ rfl fun _ => d_dec (p := ds[a].kind = 7) (fun h7 => ?_) fun h7 => ?_
    · have hs := hat (act_of (by omega))
      obtain ⟨r, M', hok, hf, ht⟩ := okS_labels hg ha ha hb s s t hs (lneed (.inr h7)) (fun lab hl hn h => by
        rcases hn with hn | hn
        · exact hn hl
        · exact hn ((okk h).1.2.2.2 h7 lab hl)) hI
      refine d_calls rfl hok (d_ret ⟨_, rfl, r, M', ?_, rfl⟩)
      cases r with
      | false => exact hf rfl
      | true => exact lfin (.inr h7) _ M' (ht rfl).1 (fun _ h _ => h) (ht rfl).2 ⟨fun h => by omega, fun _ _ h => h⟩
    · refine d_ret ⟨_, rfl, true, _, hI.fin ⟨hka, hkb, ds[a], ds[b], hda, hdb, ⟨hk, hp', fun h => absurd h h6, fun h => absurd h h7⟩, fun k' hk' => ?_⟩, rfl⟩
      rcases hk' with ⟨h, _⟩ | ⟨h, _⟩ | ⟨h, _⟩ | ⟨h, _⟩
      · exact absurd h h4
      · exact absurd h h4
      · exact absurd h h5
      · exact h.elim (fun h => absurd h h6) fun h => absurd h h7)
  obtain ⟨ys, ⟨r, L', hR, rfl⟩, h⟩ := this
  exact ⟨r, L', hR, h⟩

theorem ok_subtype_Sub {ds : List Nd} (hg : GrOk' ds) {r r' : Rf} (h0 : 0 ≤ r.node) (h1 : r.node < ds.length) (h0' : 0 ≤ r'.node) (h1' : r'.node < ds.length) :
    ∃ b, Ok P F.subtype_Sub [.agg [nds ds], r.enc, r'.enc] (.bool b) ∧ (b = true ↔ SubE ds (keyOf false r.node r'.node r.shift r'.shift)) := by
  obtain ⟨b, L', hR, hok⟩ := ok_relation_sub hg _ [] (by simp) (Nat.le_refl _) r.node.toNat r'.node.toNat (by omega) (by omega) r.shift r'.shift
  rw [Int.toNat_of_nonneg h0, Int.toNat_of_nonneg h0'] at hR hok
  refine ⟨b, k_subtype_Sub _ _ rfl (d_l (.agg [nds ds]) rfl fun _ => d_l r.enc rfl fun _ => d_l r'.enc rfl fun _ => d_l _ rfl fun _ => d_calls rfl hok (d_ret rfl)), ?_⟩
  cases b with
  | false => exact ⟨(fun e => by cases e), fun h => absurd h (hR.no rfl)⟩
  | true => exact ⟨fun _ => ⟨(· ∈ L'), (hR.yes rfl).1, fun q hq => (hR.yes rfl).2 q hq (by simp)⟩, fun _ => rfl⟩
end Go.Proofs.YtijamnklmohjfaaDoor.Tx
