/- Contracts: the reference's graph (2). -/
import Derived.Test.YtopinhoalbgebaaGreatDoorWk5
set_option linter.all false
namespace Go.Proofs.YtopinhoalbgebaaGreatDoor.Tx
open Go.Lf Go.Lf.S Go.Lf.Duo
set_option maxRecDepth 100000

structure NdOk (lo hi : Int) (refs : List Rf) (d : Nd) : Prop where
  k1 : 1 ≤ d.kind ∧ d.kind ≤ 7
  p : 0 ≤ d.prio ∧ d.prio ≤ 1000000
  n3 : d.kind ≤ 3 → d.next.length = 0 ∧ d.labels.length = 0
  n5 : 4 ≤ d.kind ∧ d.kind ≤ 5 → d.next.length = 2 ∧ d.labels.length = 0
  n7 : 6 ≤ d.kind ∧ d.kind ≤ 7 → d.next.length = d.labels.length ∧ 0 < d.labels.length
  ll : d.labels.length ≤ 549755813888
  nd : d.labels.Nodup
  nx : ∀ r ∈ d.next, ((∃ q ∈ refs, r.node = q.node) ∨ (lo ≤ r.node ∧ r.node < hi)) ∧ 0 ≤ r.shift ∧ r.shift ≤ 2305843009213693952

theorem NdOk.weak {lo hi lo' hi' : Int} {refs refs' : List Rf} {d : Nd} (h : NdOk lo hi refs d) (hr : ∀ q ∈ refs, (∃ q' ∈ refs', q.node = q'.node) ∨ (lo' ≤ q.node ∧ q.node < hi')) (h1 : lo' ≤ lo) (h2 : hi ≤ hi') : NdOk lo' hi' refs' d := by
  refine ⟨h.k1, h.p, h.n3, h.n5, h.n7, h.ll, h.nd, fun r hr' => ?_⟩
  obtain ⟨a, b⟩ := h.nx r hr'
  refine ⟨?_, b⟩
  rcases a with ⟨q, hq, e⟩ | ⟨e1, e2⟩
  · rcases hr q hq with ⟨q', hq', e'⟩ | ⟨e1, e2⟩
    · exact .inl ⟨q', hq', e.trans e'⟩
    · exact .inr ⟨by omega, by omega⟩
  · exact .inr ⟨by omega, by omega⟩

theorem gc_rec {k p : Int} {nm : ByteArray} {s : Int} {ls : List ByteArray} {ks : List Ty} (h8 : k = 8) (x : Ty) (hks : ks = [x]) : gc (.mk k p nm s ls ks) = gc x := by
  subst hks; subst h8
  simp [gc, gcs]

theorem refsOk_snoc {refs : List Rf} {r : Rf} (h : RefsOk refs) (h0 : 0 ≤ r.shift) (h1 : r.shift ≤ 1000000 * ((refs.length : Int) + 1)) : RefsOk (refs ++ [r]) := by
  intro q hq
  rcases List.mem_append.1 hq with hq | hq
  · obtain ⟨a, b⟩ := h q hq
    refine ⟨a, ?_⟩
    simp; omega
  · obtain rfl : q = r := by simpa using hq
    refine ⟨h0, ?_⟩
    simp; omega

theorem ok_ref07_nodes : ∀ (t : Ty) (ns : List ByteArray) (refs : List Rf) (a : Int) (g : Nat), Wf t ns g → g ≤ ns.length → refs.length = ns.length → RefsOk refs → ns.length + t.sz ≤ 549755813888 → 0 ≤ a → a ≤ 549755813888 - t.sz →
    ∃ ds : List Nd, Ok P F.ref07_nodes [t.enc, i a, .sl (ns.map .str), .sl (refs.map Rf.enc)] (.sl (ds.map Nd.enc)) ∧ ds.length = gc t ∧ (∀ d ∈ ds, NdOk a (a + gc t) refs d) ∧ ds = nodesF t a ns refs := by
  intro t
  induction t using Ty.ind with
  | _ t ih =>
  intro ns refs a g hwf hg hrl hro hz ha0 ha1
  have hgl := gc_le t
  have href := ok_ref07_reference t ns refs a [] g (by rw [List.append_nil]; exact hwf) hg hrl hro (by omega)
  have hwf' := hwf
  cases hwf with
  | mk _ _ _ h1 h9 h8 hk =>
  obtain ⟨k, p, nm, s, ls, ks⟩ := t
  have hzk : ∀ x ∈ ks, x.sz < (Ty.mk k p nm s ls ks).sz := fun x hx => Ty.sz_kid hx
  have hsz : (Ty.mk k p nm s ls ks).sz = Ty.szs ks + 1 := by simp [Ty.sz]
  have hszl := szs_len ks
  unfold Wf1 at h1
  have hnd := h1.2
  have h1 := h1.1
  simp only [Ty.kind, Ty.prio, Ty.shift, Ty.kids, Ty.labels] at h1
  have := tx_ex (K := fun x => ∃ ds : List Nd, x = .sl (ds.map Nd.enc) ∧ ds.length = gc (.mk k p nm s ls ks) ∧ (∀ d ∈ ds, NdOk a (a + gc (.mk k p nm s ls ks)) refs d) ∧ ds = nodesF (.mk k p nm s ls ks) a ns refs) k_ref07_nodes
    (xs := [(Ty.mk k p nm s ls ks).enc, i a, .sl (ns.map .str), .sl (refs.map Rf.enc)]) rfl (by simp [t_ref07_nodes, T.dt]) (by
    obtain ⟨r0, hr0, hri, hrf⟩ := href
    rw [Ty.enc_mk] at hr0 ⊢
    refine d_l _ (by rfl) fun _ => d_l _ rfl fun _ => d_dec (fun h => ?_) fun h => ?_
    · have h8' : k = 8 := h
      have hk1 : ks.length = 1 := (h1.2.2.2.2.2.1 h8').1
      have hm0 : ks[0] ∈ ks := List.getElem_mem (by omega)
      have hks : ks = [ks[0]] := by
        match ks, hk1 with
        | [x], _ => rfl
      have hgc := gc_rec (p := p) (nm := nm) (s := s) (ls := ls) h8' ks[0] hks
      obtain ⟨ds, hd, hdl, hdk, hdf⟩ := ih ks[0] hm0 (ns ++ [nm]) (refs ++ [r0]) a g (h8 h8' _ hm0) (by simp; omega) (by simp [hrl]) (refsOk_snoc hro hri.2.1 hri.2.2) (by have := hzk _ hm0; simp; omega) ha0 (by have := hzk _ hm0; omega)
      rw [List.map_append, List.map_append] at hd
      refine d_call hr0 (d_l _ (e_okc (Rf.okc_enc r0)) fun _ => d_l _ (e_idx (k := 0) (ty_at (by omega)) (Ty.okc_enc _)) fun _ => d_l _ rfl fun _ => d_l _ (e_app (all_map okc_str _) (by simp; omega) (by simp; omega)) fun _ => d_l _ rfl fun _ => d_l _ (e_app (fun x hx => by simp at hx; subst hx; rfl) (by simp; omega) (by simp; omega)) fun _ => ?_)
      refine d_l _ rfl fun _ => d_l _ (e_app (all_map Rf.okc_enc _) (by simp; omega) (by simp; omega)) fun _ => d_l _ (e_lst (fun x hx => by simp at hx; subst hx; exact Rf.okc_enc r0)) fun _ => d_l _ (e_app (fun x hx => by simp at hx; subst hx; exact Rf.okc_enc r0) (by simp; omega) (by simp; omega)) fun _ => d_call hd (d_ret ⟨ds, rfl, by rw [hdl, hgc], fun d hdm => ?_, by rw [nodesF_8 h8' hks, ← hrf]; exact hdf⟩)
      refine (hdk d hdm).weak (fun q hq => ?_) (Int.le_refl _) (by rw [hgc]; omega)
      rcases List.mem_append.1 hq with hq | hq
      · exact .inl ⟨q, hq, rfl⟩
      · obtain rfl : q = r0 := by simpa using hq
        rcases hri.1 with h | ⟨h, hp⟩
        · exact .inl h
        · exact .inr ⟨by omega, by omega⟩
    · have h8' : ¬ k = 8 := h
      refine d_l _ rfl fun _ => d_dec (fun h => ?_) fun h => ?_
      · have h9' : k = 9 := h
        have hks : ks = [] := List.eq_nil_of_length_eq_zero (h1.2.2.2.2.2.2 h9').1
        exact d_ret ⟨[], rfl, by subst hks; subst h9'; simp [gc, gcs], (fun d hd => by cases hd), (nodesF_9 h9').symm⟩
      · have h9' : ¬ k = 9 := h
        have hk7 : k ≤ 7 := by
          obtain ⟨_, h2⟩ := h1.1
          have h8n : k ≠ 8 := h8'
          have h9n : k ≠ 9 := h9'
          clear h8 h9 hk hwf' h1 h8' h9' ih
          omega
        have hg7 : gc (.mk k p nm s ls ks) = 1 + gcs ks := by simp only [gc]; rw [if_pos hk7]
        have hgs := gcs_le ks
        refine d_l _ (by rfl) fun _ => d_l _ (e_add (by omega) (by omega)) fun _ => ?_
        refine den_loop (fun m ys => ∃ (j : Nat) (bs : List Nd) (rs : List Rf), j + m = ks.length ∧ bs.length = gcs (ks.take j) ∧ rs.length = j ∧ (∀ d ∈ bs, NdOk a (a + gc (.mk k p nm s ls ks)) refs d) ∧
            (∀ r ∈ rs, ((∃ q ∈ refs, r.node = q.node) ∨ (a ≤ r.node ∧ r.node < a + gc (.mk k p nm s ls ks))) ∧ 0 ≤ r.shift ∧ r.shift ≤ 2305843009213693952) ∧
            bs = belowsF (ks.take j) (a + 1) ns refs ∧ rs = nextsF (ks.take j) (a + 1) ns refs ∧ ys = [i j, i (a + 1 + (gcs (ks.take j) : Int)), .sl (bs.map Nd.enc), i k, i p, .sl (ls.map .str), .sl (rs.map Rf.enc)]) ks.length ⟨0, [], [], by omega, by simp [gcs], rfl, (fun _ h => by cases h), (fun _ h => by cases h), by simp [belowsF], by simp [nextsF], by show _ = [i 0, i (a + 1 + 0), .sl [], i k, i p, .sl (ls.map .str), .sl []]; rw [Int.add_zero]; rfl⟩ ?_
        rintro m _ ⟨j, bs, rs, hj, hbl, hrl', hbs, hrs, hbf, hnf, rfl⟩
        refine d_l _ e_len fun _ => d_l _ rfl fun _ => d_dec (fun h => ?_) fun h => ?_
        · have h : (j : Int) < ((ks.map Ty.enc).length : Int) := h
          have hlt : j < ks.length := by simp at h; omega
          have hmem : ks[j] ∈ ks := List.getElem_mem hlt
          have hgt := gcs_take ks j hlt
          have hgt2 := gcs_take_le ks (j + 1)
          have hsj := Ty.szs_mem hmem
          have hgj := gc_le ks[j]
          have hwk : Wf ks[j] ns ns.length := hk h8' _ hmem
          obtain ⟨r, hr, hrin, hrf⟩ := ok_ref07_reference ks[j] ns refs (a + 1 + (gcs (ks.take j) : Int)) [] ns.length (by rw [List.append_nil]; exact hwk) (Nat.le_refl _) hrl hro (by omega)
          obtain ⟨ds, hd, hdl, hdk, hdf⟩ := ih ks[j] hmem ns refs (a + 1 + (gcs (ks.take j) : Int)) ns.length hwk (Nat.le_refl _) hrl hro (by have := hzk _ hmem; omega) (by omega) (by
            have h2 : gcs (ks.take j) + ks[j].sz ≤ Ty.szs ks := by
              have h3 := szs_take ks j hlt
              have h4 := szs_take_le ks (j + 1)
              have h5 := gcs_le (ks.take j)
              omega
            omega)
          refine d_l _ (e_idx (ty_at hlt) (Ty.okc_enc _)) fun _ => d_call hr (d_l _ (e_lst (fun x hx => by simp at hx; subst hx; exact Rf.okc_enc r)) fun _ => d_l _ (e_app (fun x hx => by simp at hx; subst hx; exact Rf.okc_enc r) (by simp; omega) (by simp; omega)) fun _ => ?_)
          refine d_l _ (e_idx (ty_at hlt) (Ty.okc_enc _)) fun _ => d_call hd (d_l _ (e_app (all_map Nd.okc_enc _) (by simp; omega) (by simp; omega)) fun _ => ?_)
          refine d_l _ (e_idx (ty_at hlt) (Ty.okc_enc _)) fun _ => d_call (ok_ref07_Count ks[j] (by have := hzk _ hmem; omega)) (d_l _ (e_add (by omega) (by omega)) fun _ => d_l _ (e_inc (by omega)) fun _ => d_cont rfl ⟨m - 1, by omega, j + 1, bs ++ ds, rs ++ [r], by omega, by simp; omega, by simp [hrl'], ?_, ?_, by rw [belowsF_take ks j hlt, ← hbf, ← hdf], by rw [nextsF_take ks j hlt, ← hnf, ← hrf], ?_⟩)
          · intro d hdm
            rcases List.mem_append.1 hdm with hdm | hdm
            · exact hbs d hdm
            · exact (hdk d hdm).weak (fun q hq => .inl ⟨q, hq, rfl⟩) (by omega) (by rw [hg7]; omega)
          · intro q hq
            rcases List.mem_append.1 hq with hq | hq
            · exact hrs q hq
            · obtain rfl : q = r := by simpa using hq
              obtain ⟨h3, h4, h5⟩ := hrin
              refine ⟨?_, h4, by omega⟩
              rcases h3 with h3 | ⟨h3, hp⟩
              · exact .inl h3
              · exact .inr ⟨by omega, by rw [hg7]; omega⟩
          · rw [hgt]
            simp only [List.map_append, List.map_cons, List.map_nil]
            congr 2
            simp only [S.i]; congr 1; omega
        · have h : ¬ (j : Int) < ((ks.map Ty.enc).length : Int) := h
          have hjl : j = ks.length := by simp at h; omega
          have ht : ks.take j = ks := List.take_of_length_le (by omega)
          rw [ht] at hbl hbf hnf
          refine d_l _ (by rfl) fun _ => d_l _ (e_app (all_map Nd.okc_enc _) (by simp; omega) (by simp; omega)) fun _ => d_ret ⟨⟨k, p, ls, rs⟩ :: bs, rfl, by simp; omega, fun d hdm => ?_, by rw [nodesF_o h8' h9', hbf, hnf]⟩
          rcases List.mem_cons.1 hdm with rfl | hdm
          · refine ⟨⟨h1.1.1, hk7⟩, ⟨h1.2.1.1, h1.2.1.2.1⟩, fun h => ?_, fun h => ?_, fun h => ?_, ?_, hnd, fun r hr => hrs r hr⟩
            · have h : k ≤ 3 := h
              have := h1.2.2.1 h
              exact ⟨by show rs.length = 0; omega, this.2.1⟩
            · have h : 4 ≤ k ∧ k ≤ 5 := h
              have := h1.2.2.2.1 h
              exact ⟨by show rs.length = 2; omega, this.2⟩
            · have h : 6 ≤ k ∧ k ≤ 7 := h
              have := h1.2.2.2.2.1 h
              exact ⟨by show rs.length = ls.length; omega, this.2⟩
            · show ls.length ≤ 549755813888
              have h3 : ls.length = 0 ∨ ls.length = ks.length := by
                clear h9 h8 hk hwf' ih
                omega
              omega
          · exact hbs d hdm)
  obtain ⟨_, ⟨ds, rfl, hl, hd, hf⟩, h⟩ := this
  exact ⟨ds, h, hl, hd, hf⟩

end Go.Proofs.YtopinhoalbgebaaGreatDoor.Tx
