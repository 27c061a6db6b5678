/- Contracts (Wk6, Wk7, Wk40, Wk8, Wk9, Wk11, Wk12, Wk13, Wk14). -/
import Derived.Test.YtopinhoalbgebaaGreatDoorWk5
set_option linter.all false
/- Contracts: the reference's graph (2). -/
namespace Go.Proofs.YtopinhoalbgebaaGreatDoor.Tx
open Go.Lf Go.Lf.S Go.Lf.Duo
set_option maxRecDepth 100000

structure NdOk (lo hi : Int) (refs : List Rf) (d : Nd) : Prop where
  k1 : 1 ≤ d.kind ∧ d.kind ≤ 7
  p : 0 ≤ d.prio ∧ d.prio ≤ 1000000
  n3 : d.kind ≤ 3 → d.next.length = 0 ∧ d.labels.length = 0
  n5 : 4 ≤ d.kind ∧ d.kind ≤ 5 → d.next.length = 2 ∧ d.labels.length = 0
  n7 : 6 ≤ d.kind ∧ d.kind ≤ 7 → d.next.length = d.labels.length ∧ 0 < d.labels.length
  ll : d.labels.length ≤ 549755813888
  nd : d.labels.Nodup
  nx : ∀ r ∈ d.next, ((∃ q ∈ refs, r.node = q.node) ∨ (lo ≤ r.node ∧ r.node < hi)) ∧ 0 ≤ r.shift ∧ r.shift ≤ 2305843009213693952

theorem NdOk.weak {lo hi lo' hi' : Int} {refs refs' : List Rf} {d : Nd} (h : NdOk lo hi refs d) (hr : ∀ q ∈ refs, (∃ q' ∈ refs', q.node = q'.node) ∨ (lo' ≤ q.node ∧ q.node < hi')) (h1 : lo' ≤ lo) (h2 : hi ≤ hi') : NdOk lo' hi' refs' d := by
  refine ⟨h.k1, h.p, h.n3, h.n5, h.n7, h.ll, h.nd, fun r hr' => ?_⟩
  obtain ⟨a, b⟩ := h.nx r hr'
  refine ⟨?_, b⟩
  rcases a with ⟨q, hq, e⟩ | ⟨e1, e2⟩
  · rcases hr q hq with ⟨q', hq', e'⟩ | ⟨e1, e2⟩
    · exact .inl ⟨q', hq', e.trans e'⟩
    · exact .inr ⟨by omega, by omega⟩
  · exact .inr ⟨by omega, by omega⟩

theorem gc_rec {k p : Int} {nm : ByteArray} {s : Int} {ls : List ByteArray} {ks : List Ty} (h8 : k = 8) (x : Ty) (hks : ks = [x]) : gc (.mk k p nm s ls ks) = gc x := by
  subst hks; subst h8
  simp [gc, gcs]

theorem refsOk_snoc {refs : List Rf} {r : Rf} (h : RefsOk refs) (h0 : 0 ≤ r.shift) (h1 : r.shift ≤ 1000000 * ((refs.length : Int) + 1)) : RefsOk (refs ++ [r]) := by
  intro q hq
  rcases List.mem_append.1 hq with hq | hq
  · obtain ⟨a, b⟩ := h q hq
    refine ⟨a, ?_⟩
    simp; omega
  · obtain rfl : q = r := by simpa using hq
    refine ⟨h0, ?_⟩
    simp; omega

theorem ok_ref07_nodes : ∀ (t : Ty) (ns : List ByteArray) (refs : List Rf) (a : Int) (g : Nat), Wf t ns g → g ≤ ns.length → refs.length = ns.length → RefsOk refs → ns.length + t.sz ≤ 549755813888 → 0 ≤ a → a ≤ 549755813888 - t.sz →
    ∃ ds : List Nd, Ok P F.ref07_nodes [t.enc, i a, .sl (ns.map .str), .sl (refs.map Rf.enc)] (.sl (ds.map Nd.enc)) ∧ ds.length = gc t ∧ (∀ d ∈ ds, NdOk a (a + gc t) refs d) ∧ ds = nodesF t a ns refs := by
  intro t
  induction t using Ty.ind with
  | _ t ih =>
  intro ns refs a g hwf hg hrl hro hz ha0 ha1
  have hgl := gc_le t
  have href := ok_ref07_reference t ns refs a [] g (by rw [List.append_nil]; exact hwf) hg hrl hro (by omega)
  have hwf' := hwf
  cases hwf with
  | mk _ _ _ h1 h9 h8 hk =>
  obtain ⟨k, p, nm, s, ls, ks⟩ := t
  have hzk : ∀ x ∈ ks, x.sz < (Ty.mk k p nm s ls ks).sz := fun x hx => Ty.sz_kid hx
  have hsz : (Ty.mk k p nm s ls ks).sz = Ty.szs ks + 1 := by simp [Ty.sz]
  have hszl := szs_len ks
  unfold Wf1 at h1
  have hnd := h1.2
  have h1 := h1.1
  simp only [Ty.kind, Ty.prio, Ty.shift, Ty.kids, Ty.labels] at h1
  have := tx_ex (K := fun x => ∃ ds : List Nd, x = .sl (ds.map Nd.enc) ∧ ds.length = gc (.mk k p nm s ls ks) ∧ (∀ d ∈ ds, NdOk a (a + gc (.mk k p nm s ls ks)) refs d) ∧ ds = nodesF (.mk k p nm s ls ks) a ns refs) k_ref07_nodes
    (xs := [(Ty.mk k p nm s ls ks).enc, i a, .sl (ns.map .str), .sl (refs.map Rf.enc)]) rfl (by simp [t_ref07_nodes, T.dt]) (by
    obtain ⟨r0, hr0, hri, hrf⟩ := href
    rw [Ty.enc_mk] at hr0 ⊢
    refine d_l _ (by rfl) fun _ => d_l _ rfl fun _ => d_dec (fun h => ?_) fun h => ?_
    · have h8' : k = 8 := h
      have hk1 : ks.length = 1 := (h1.2.2.2.2.2.1 h8').1
      have hm0 : ks[0] ∈ ks := List.getElem_mem (by omega)
      have hks : ks = [ks[0]] := by
        match ks, hk1 with
        | [x], _ => rfl
      have hgc := gc_rec (p := p) (nm := nm) (s := s) (ls := ls) h8' ks[0] hks
      obtain ⟨ds, hd, hdl, hdk, hdf⟩ := ih ks[0] hm0 (ns ++ [nm]) (refs ++ [r0]) a g (h8 h8' _ hm0) (by simp; omega) (by simp [hrl]) (refsOk_snoc hro hri.2.1 hri.2.2) (by have := hzk _ hm0; simp; omega) ha0 (by have := hzk _ hm0; omega)
      rw [List.map_append, List.map_append] at hd
      refine d_call hr0 (d_l _ (e_okc (Rf.okc_enc r0)) fun _ => d_l _ (e_idx (k := 0) (ty_at (by omega)) (Ty.okc_enc _)) fun _ => d_l _ rfl fun _ => d_l _ (e_app (all_map okc_str _) (by simp; omega) (by simp; omega)) fun _ => d_l _ rfl fun _ => d_l _ (e_app (fun x hx => by simp at hx; subst hx; rfl) (by simp; omega) (by simp; omega)) fun _ => ?_)
      refine d_l _ rfl fun _ => d_l _ (e_app (all_map Rf.okc_enc _) (by simp; omega) (by simp; omega)) fun _ => d_l _ (e_lst (fun x hx => by simp at hx; subst hx; exact Rf.okc_enc r0)) fun _ => d_l _ (e_app (fun x hx => by simp at hx; subst hx; exact Rf.okc_enc r0) (by simp; omega) (by simp; omega)) fun _ => d_call hd (d_ret ⟨ds, rfl, by rw [hdl, hgc], fun d hdm => ?_, by rw [nodesF_8 h8' hks, ← hrf]; exact hdf⟩)
      refine (hdk d hdm).weak (fun q hq => ?_) (Int.le_refl _) (by rw [hgc]; omega)
      rcases List.mem_append.1 hq with hq | hq
      · exact .inl ⟨q, hq, rfl⟩
      · obtain rfl : q = r0 := by simpa using hq
        rcases hri.1 with h | ⟨h, hp⟩
        · exact .inl h
        · exact .inr ⟨by omega, by omega⟩
    · have h8' : ¬ k = 8 := h
      refine d_l _ rfl fun _ => d_dec (fun h => ?_) fun h => ?_
      · have h9' : k = 9 := h
        have hks : ks = [] := List.eq_nil_of_length_eq_zero (h1.2.2.2.2.2.2 h9').1
        exact d_ret ⟨[], rfl, by subst hks; subst h9'; simp [gc, gcs], (fun d hd => by cases hd), (nodesF_9 h9').symm⟩
      · have h9' : ¬ k = 9 := h
        have hk7 : k ≤ 7 := by
          obtain ⟨_, h2⟩ := h1.1
          have h8n : k ≠ 8 := h8'
          have h9n : k ≠ 9 := h9'
          clear h8 h9 hk hwf' h1 h8' h9' ih
          omega
        have hg7 : gc (.mk k p nm s ls ks) = 1 + gcs ks := by simp only [gc]; rw [if_pos hk7]
        have hgs := gcs_le ks
        refine d_l _ (by rfl) fun _ => d_l _ (e_add (by omega) (by omega)) fun _ => ?_
        refine den_loop (fun m ys => ∃ (j : Nat) (bs : List Nd) (rs : List Rf), j + m = ks.length ∧ bs.length = gcs (ks.take j) ∧ rs.length = j ∧ (∀ d ∈ bs, NdOk a (a + gc (.mk k p nm s ls ks)) refs d) ∧
            (∀ r ∈ rs, ((∃ q ∈ refs, r.node = q.node) ∨ (a ≤ r.node ∧ r.node < a + gc (.mk k p nm s ls ks))) ∧ 0 ≤ r.shift ∧ r.shift ≤ 2305843009213693952) ∧
            bs = belowsF (ks.take j) (a + 1) ns refs ∧ rs = nextsF (ks.take j) (a + 1) ns refs ∧ ys = [i j, i (a + 1 + (gcs (ks.take j) : Int)), .sl (bs.map Nd.enc), i k, i p, .sl (ls.map .str), .sl (rs.map Rf.enc)]) ks.length ⟨0, [], [], by omega, by simp [gcs], rfl, (fun _ h => by cases h), (fun _ h => by cases h), by simp [belowsF], by simp [nextsF], by show _ = [i 0, i (a + 1 + 0), .sl [], i k, i p, .sl (ls.map .str), .sl []]; rw [Int.add_zero]; rfl⟩ ?_
        rintro m _ ⟨j, bs, rs, hj, hbl, hrl', hbs, hrs, hbf, hnf, rfl⟩
        refine d_l _ e_len fun _ => d_l _ rfl fun _ => d_dec (fun h => ?_) fun h => ?_
        · have h : (j : Int) < ((ks.map Ty.enc).length : Int) := h
          have hlt : j < ks.length := by simp at h; omega
          have hmem : ks[j] ∈ ks := List.getElem_mem hlt
          have hgt := gcs_take ks j hlt
          have hgt2 := gcs_take_le ks (j + 1)
          have hsj := Ty.szs_mem hmem
          have hgj := gc_le ks[j]
          have hwk : Wf ks[j] ns ns.length := hk h8' _ hmem
          obtain ⟨r, hr, hrin, hrf⟩ := ok_ref07_reference ks[j] ns refs (a + 1 + (gcs (ks.take j) : Int)) [] ns.length (by rw [List.append_nil]; exact hwk) (Nat.le_refl _) hrl hro (by omega)
          obtain ⟨ds, hd, hdl, hdk, hdf⟩ := ih ks[j] hmem ns refs (a + 1 + (gcs (ks.take j) : Int)) ns.length hwk (Nat.le_refl _) hrl hro (by have := hzk _ hmem; omega) (by omega) (by
            have h2 : gcs (ks.take j) + ks[j].sz ≤ Ty.szs ks := by
              have h3 := szs_take ks j hlt
              have h4 := szs_take_le ks (j + 1)
              have h5 := gcs_le (ks.take j)
              omega
            omega)
          refine d_l _ (e_idx (ty_at hlt) (Ty.okc_enc _)) fun _ => d_call hr (d_l _ (e_lst (fun x hx => by simp at hx; subst hx; exact Rf.okc_enc r)) fun _ => d_l _ (e_app (fun x hx => by simp at hx; subst hx; exact Rf.okc_enc r) (by simp; omega) (by simp; omega)) fun _ => ?_)
          refine d_l _ (e_idx (ty_at hlt) (Ty.okc_enc _)) fun _ => d_call hd (d_l _ (e_app (all_map Nd.okc_enc _) (by simp; omega) (by simp; omega)) fun _ => ?_)
          refine d_l _ (e_idx (ty_at hlt) (Ty.okc_enc _)) fun _ => d_call (ok_ref07_Count ks[j] (by have := hzk _ hmem; omega)) (d_l _ (e_add (by omega) (by omega)) fun _ => d_l _ (e_inc (by omega)) fun _ => d_cont rfl ⟨m - 1, by omega, j + 1, bs ++ ds, rs ++ [r], by omega, by simp; omega, by simp [hrl'], ?_, ?_, by rw [belowsF_take ks j hlt, ← hbf, ← hdf], by rw [nextsF_take ks j hlt, ← hnf, ← hrf], ?_⟩)
          · intro d hdm
            rcases List.mem_append.1 hdm with hdm | hdm
            · exact hbs d hdm
            · exact (hdk d hdm).weak (fun q hq => .inl ⟨q, hq, rfl⟩) (by omega) (by rw [hg7]; omega)
          · intro q hq
            rcases List.mem_append.1 hq with hq | hq
            · exact hrs q hq
            · obtain rfl : q = r := by simpa using hq
              obtain ⟨h3, h4, h5⟩ := hrin
              refine ⟨?_, h4, by omega⟩
              rcases h3 with h3 | ⟨h3, hp⟩
              · exact .inl h3
              · exact .inr ⟨by omega, by rw [hg7]; omega⟩
          · rw [hgt]
            simp only [List.map_append, List.map_cons, List.map_nil]
            congr 2
            simp only [S.i]; congr 1; omega
        · have h : ¬ (j : Int) < ((ks.map Ty.enc).length : Int) := h
          have hjl : j = ks.length := by simp at h; omega
          have ht : ks.take j = ks := List.take_of_length_le (by omega)
          rw [ht] at hbl hbf hnf
          refine d_l _ (by rfl) fun _ => d_l _ (e_app (all_map Nd.okc_enc _) (by simp; omega) (by simp; omega)) fun _ => d_ret ⟨⟨k, p, ls, rs⟩ :: bs, rfl, by simp; omega, fun d hdm => ?_, by rw [nodesF_o h8' h9', hbf, hnf]⟩
          rcases List.mem_cons.1 hdm with rfl | hdm
          · refine ⟨⟨h1.1.1, hk7⟩, ⟨h1.2.1.1, h1.2.1.2.1⟩, fun h => ?_, fun h => ?_, fun h => ?_, ?_, hnd, fun r hr => hrs r hr⟩
            · have h : k ≤ 3 := h
              have := h1.2.2.1 h
              exact ⟨by show rs.length = 0; omega, this.2.1⟩
            · have h : 4 ≤ k ∧ k ≤ 5 := h
              have := h1.2.2.2.1 h
              exact ⟨by show rs.length = 2; omega, this.2⟩
            · have h : 6 ≤ k ∧ k ≤ 7 := h
              have := h1.2.2.2.2.1 h
              exact ⟨by show rs.length = ls.length; omega, this.2⟩
            · show ls.length ≤ 549755813888
              have h3 : ls.length = 0 ∨ ls.length = ks.length := by
                clear h9 h8 hk hwf' ih
                omega
              omega
          · exact hbs d hdm)
  obtain ⟨_, ⟨ds, rfl, hl, hd, hf⟩, h⟩ := this
  exact ⟨ds, h, hl, hd, hf⟩

end Go.Proofs.YtopinhoalbgebaaGreatDoor.Tx

/- Contracts: graphs of lists of types; closed graphs. -/
namespace Go.Proofs.YtopinhoalbgebaaGreatDoor.Tx
open Go.Lf Go.Lf.S Go.Lf.Duo
set_option maxRecDepth 100000

theorem ok_ref07_Build (l : List Ty) (hwf : ∀ t ∈ l, Wf t [] 0) (hz : Ty.szs l ≤ 274877906944) :
    ∃ (ds : List Nd) (rs : List Rf), Ok P F.ref07_Build [.sl (l.map Ty.enc)] (.tup [.sl (ds.map Nd.enc), .sl (rs.map Rf.enc)]) ∧ ds.length = gcs l ∧ rs.length = l.length ∧ (∀ d ∈ ds, NdOk 0 (gcs l) [] d) ∧
      (∀ (j : Nat) (r : Rf), rs[j]? = some r → 0 ≤ r.node ∧ r.node < gcs l ∧ 0 ≤ r.shift ∧ r.shift ≤ 1000000 ∧ 0 < gcs l) ∧ ds = belowsF l 0 [] [] ∧ rs = nextsF l 0 [] [] := by
  have hll := szs_len l
  have hgl := gcs_le l
  have := tx_ex (K := fun x => ∃ (ds : List Nd) (rs : List Rf), x = .tup [.sl (ds.map Nd.enc), .sl (rs.map Rf.enc)] ∧ ds.length = gcs l ∧ rs.length = l.length ∧ (∀ d ∈ ds, NdOk 0 (gcs l) [] d) ∧
      (∀ (j : Nat) (r : Rf), rs[j]? = some r → 0 ≤ r.node ∧ r.node < gcs l ∧ 0 ≤ r.shift ∧ r.shift ≤ 1000000 ∧ 0 < gcs l) ∧ ds = belowsF l 0 [] [] ∧ rs = nextsF l 0 [] []) k_ref07_Build (xs := [.sl (l.map Ty.enc)]) rfl (by simp [t_ref07_Build, T.dt]) (by
    refine den_loop (fun m ys => ∃ (j : Nat) (ds : List Nd) (rs : List Rf), j + m = l.length ∧ ds.length = gcs (l.take j) ∧ rs.length = j ∧ (∀ d ∈ ds, NdOk 0 (gcs l) [] d) ∧
      (∀ (j : Nat) (r : Rf), rs[j]? = some r → 0 ≤ r.node ∧ r.node < gcs l ∧ 0 ≤ r.shift ∧ r.shift ≤ 1000000 ∧ 0 < gcs l) ∧ ds = belowsF (l.take j) 0 [] [] ∧ rs = nextsF (l.take j) 0 [] [] ∧ ys = [i j, .sl (rs.map Rf.enc), .sl (ds.map Nd.enc)]) l.length
      ⟨0, [], [], by omega, by simp [gcs], rfl, (fun _ h => by cases h), (fun j r h => by simp at h), by simp [belowsF], by simp [nextsF], rfl⟩ ?_
    rintro m _ ⟨j, ds, rs, hj, hdl, hrl, hds, hrs, hdf, hrf, rfl⟩
    refine d_l _ e_len fun _ => d_l _ rfl fun _ => d_dec (fun h => ?_) fun h => ?_
    · have h : (j : Int) < ((l.map Ty.enc).length : Int) := h
      have hlt : j < l.length := by simp at h; omega
      have hmem : l[j] ∈ l := List.getElem_mem hlt
      have hgt := gcs_take l j hlt
      have hgt2 := gcs_take_le l (j + 1)
      have hsj := Ty.szs_mem hmem
      have hgj := gc_le l[j]
      have e1 : ((ds.map Nd.enc).length : Int) = (gcs (l.take j) : Int) := by simp [hdl]
      obtain ⟨r, hr, hrin, hre⟩ := ok_ref07_reference l[j] [] [] (gcs (l.take j) : Int) [] 0 (hwf _ hmem) (Nat.le_refl _) rfl (fun _ h => by cases h) (by simp)
      obtain ⟨es, he, hel, hek, hee⟩ := ok_ref07_nodes l[j] [] [] (gcs (l.take j) : Int) 0 (hwf _ hmem) (Nat.le_refl _) rfl (fun _ h => by cases h) (by simp; omega) (by omega) (by omega)
      refine d_l _ (e_idx (ty_at hlt) (Ty.okc_enc _)) fun _ => d_l (i (gcs (l.take j) : Int)) (by rw [← e1]; exact e_len) fun _ => d_call hr (d_l _ (e_lst (fun x hx => by simp at hx; subst hx; exact Rf.okc_enc r)) fun _ => d_l _ (e_app (fun x hx => by simp at hx; subst hx; exact Rf.okc_enc r) (by simp; omega) (by simp; omega)) fun _ => ?_)
      refine d_l _ (e_idx (ty_at hlt) (Ty.okc_enc _)) fun _ => d_l (i (gcs (l.take j) : Int)) (by rw [← e1]; exact e_len) fun _ => d_call he (d_l _ (e_app (all_map Nd.okc_enc _) (by simp; omega) (by simp; omega)) fun _ => d_l _ (e_inc (by omega)) fun _ => d_cont rfl ⟨m - 1, by omega, j + 1, ds ++ es, rs ++ [r], by omega, by simp; omega, by simp [hrl], fun d hd => ?_, fun j' r' hr' => ?_, by rw [belowsF_take l j hlt, ← hdf, Int.zero_add, ← hee], by rw [nextsF_take l j hlt, ← hrf, Int.zero_add, ← hre], by simp⟩)
      · rcases List.mem_append.1 hd with hd | hd
        · exact hds d hd
        · exact (hek d hd).weak (fun q hq => by cases hq) (by omega) (by omega)
      · rw [List.getElem?_append] at hr'
        split at hr'
        · exact hrs j' r' hr'
        · have : r' = r := by
            have := List.mem_of_getElem? hr'
            simpa using this
          subst this
          obtain ⟨h1, h2, h3⟩ := hrin
          rcases h1 with ⟨q, hq, _⟩ | ⟨h1, hp⟩
          · cases hq
          · simp at h3
            exact ⟨by omega, by omega, h2, h3, by omega⟩
    · have h : ¬ (j : Int) < ((l.map Ty.enc).length : Int) := h
      have ht : l.take j = l := List.take_of_length_le (by simp at h; omega)
      rw [ht] at hdl hdf hrf
      exact d_ret ⟨ds, rs, rfl, hdl, by simp at h; omega, hds, hrs, hdf, hrf⟩)
  obtain ⟨_, ⟨ds, rs, rfl, h1, h2, h3, h4, h5⟩, h⟩ := this
  exact ⟨ds, rs, h, h1, h2, h3, h4, h5⟩

theorem nd_at {ds : List Nd} {j : Nat} (h : j < ds.length) : (ds.map Nd.enc)[j]? = some (ds[j]).enc := by simp [h]
theorem take_enc {α : Type} {f : α → PV} {l : List α} {j : Nat} (h : j < l.length) : ((l.take j).map f) ++ [f l[j]] = (l.take (j + 1)).map f := by
  rw [List.take_succ_eq_append_getElem h, List.map_append]; rfl

/-- sizes of a node's lists -/
def NdLen (d : Nd) : Prop := d.labels.length ≤ 549755813888 ∧ d.next.length ≤ 549755813888
theorem NdOk.len {lo hi : Int} {refs : List Rf} {d : Nd} (h : NdOk lo hi refs d) : NdLen d := by
  refine ⟨h.ll, ?_⟩
  have h1 := h.k1; have h2 := h.n3; have h3 := h.n5; have h4 := h.n7; have h5 := h.ll
  omega

theorem ok_law08_Graph (l : List Ty) {ds : List Nd} {rs : List Rf} (hB : Ok P F.ref07_Build [.sl (l.map Ty.enc)] (.tup [.sl (ds.map Nd.enc), .sl (rs.map Rf.enc)])) (hl : ∀ d ∈ ds, NdLen d) (hd : ds.length ≤ 549755813888) (hr : rs.length ≤ 549755813888) :
    Ok P F.law08_Graph [.sl (l.map Ty.enc)] (.tup [.agg [.sl (ds.map Nd.enc)], .sl (rs.map Rf.enc)]) := by
  refine k_law08_Graph _ _ rfl (d_call hB (d_l _ rfl fun _ => d_l _ rfl fun _ => ?_))
  refine den_rounds (fun j => [i j, .sl ((ds.take j).map Nd.enc)]) ds.length rfl (fun j hj => ?_) ?_
  · refine d_l _ e_len fun _ => d_l _ rfl fun _ => d_dec (fun h => ?_) fun h => absurd (show (j : Int) < ((ds.map Nd.enc).length : Int) by simp; omega) h
    have hjd := hl ds[j] (List.getElem_mem hj)
    obtain ⟨hl1, hl2⟩ := hjd
    refine d_l _ (e_idx (nd_at hj) (Nd.okc_enc _)) fun _ => d_l _ (e_idx (nd_at hj) (Nd.okc_enc _)) fun _ => d_l _ rfl fun _ => d_l _ (e_idx (nd_at hj) (Nd.okc_enc _)) fun _ => d_l _ (e_app (all_map okc_str _) (by simp; omega) (by simp; omega)) fun _ => d_l _ (by rfl) fun _ => ?_
    refine den_rounds (fun k => [i k, i ds[j].kind, i ds[j].prio, .sl (ds[j].labels.map .str), .sl ((ds[j].next.take k).map Rf.enc)]) ds[j].next.length rfl (fun k hk => ?_) ?_
    · refine d_l _ (e_idx (nd_at hj) (Nd.okc_enc _)) fun _ => d_l _ e_len fun _ => d_l _ rfl fun _ => d_dec (fun h => ?_) fun h => absurd (show (k : Int) < ((ds[j].next.map Rf.enc).length : Int) by simp; omega) h
      refine d_l _ (e_idx (nd_at hj) (Nd.okc_enc _)) fun _ => d_l _ (e_idx (rf_at hk) (Rf.okc_enc _)) fun _ => d_l _ (e_idx (nd_at hj) (Nd.okc_enc _)) fun _ => d_l _ (e_idx (rf_at hk) (Rf.okc_enc _)) fun _ => d_l _ (by rfl) fun _ => d_l _ (by rfl) fun _ => d_l _ (e_app (fun x hx => by simp at hx; subst hx; rfl) (by simp; omega) (by simp; omega)) fun _ => d_l _ (e_inc (by omega)) fun _ => d_cont rfl ?_
      rw [← take_enc hk]; rfl
    · refine d_l _ (e_idx (nd_at hj) (Nd.okc_enc _)) fun _ => d_l _ e_len fun _ => d_l _ rfl fun _ => d_dec (fun h => ?_) fun h => ?_
      · have h : (ds[j].next.length : Int) < ((ds[j].next.map Rf.enc).length : Int) := h
        simp at h
      · refine d_l _ (by rfl) fun _ => d_l _ (e_app (fun x hx => by simp at hx; subst hx; rfl) (by simp; omega) (by simp; omega)) fun _ => d_l _ (e_inc (by omega)) fun _ => d_cont rfl ?_
        rw [← take_enc hj, List.take_of_length_le (Nat.le_refl _)]; rfl
  · refine d_l _ e_len fun _ => d_l _ rfl fun _ => d_dec (fun h => ?_) fun h => ?_
    · have h : (ds.length : Int) < ((ds.map Nd.enc).length : Int) := h
      simp at h
    refine den_rounds (fun j => [i j, .sl ((rs.take j).map Rf.enc)]) rs.length rfl (fun j hj => ?_) ?_
    · refine d_l _ e_len fun _ => d_l _ rfl fun _ => d_dec (fun h => ?_) fun h => absurd (show (j : Int) < ((rs.map Rf.enc).length : Int) by simp; omega) h
      refine d_l _ (e_idx (rf_at hj) (Rf.okc_enc _)) fun _ => d_l _ (e_idx (rf_at hj) (Rf.okc_enc _)) fun _ => d_l _ (by rfl) fun _ => d_l _ (by rfl) fun _ => d_l _ (e_app (fun x hx => by simp at hx; subst hx; rfl) (by simp; omega) (by simp; omega)) fun _ => d_l _ (e_inc (by omega)) fun _ => d_cont rfl ?_
      rw [← take_enc hj]; rfl
    · refine d_l _ e_len fun _ => d_l _ rfl fun _ => d_dec (fun h => ?_) fun h => d_ret ?_
      · have h : (rs.length : Int) < ((rs.map Rf.enc).length : Int) := h
        simp at h
      · simp

end Go.Proofs.YtopinhoalbgebaaGreatDoor.Tx

/- Where the nodes of a type stand. -/
namespace Go.Proofs.YtopinhoalbgebaaGreatDoor.Tx
open Go.Lf Go.Lf.S Go.Lf.Duo
set_option maxRecDepth 100000

theorem len_nodes : ∀ (t : Ty) (ns : List ByteArray) (g : Nat), Wf t ns g → ∀ (a : Int) (ns' : List ByteArray) (refs : List Rf), (nodesF t a ns' refs).length = gc t := by
  intro t
  induction t using Ty.ind with
  | _ t ih =>
  intro ns g h a ns' refs
  cases h with
  | mk _ _ _ h1 h9 h8 hk =>
  obtain ⟨k, p, nm, s, ls, ks⟩ := t
  unfold Wf1 at h1
  have h1 := h1.1
  simp only [Ty.kind, Ty.prio, Ty.shift, Ty.kids, Ty.labels] at h1
  by_cases hk8 : k = 8
  · have hl := (h1.2.2.2.2.2.1 hk8).1
    obtain ⟨x, hks⟩ := List.length_eq_one_iff.1 hl
    have hm : x ∈ ks := by rw [hks]; exact List.mem_cons_self
    rw [nodesF_8 hk8 hks, ih _ hm _ _ (h8 hk8 _ hm), gc_rec hk8 x hks]
  · by_cases hk9 : k = 9
    · have hks : ks = [] := List.eq_nil_of_length_eq_zero (h1.2.2.2.2.2.2 hk9).1
      rw [nodesF_9 hk9]
      subst hks; subst hk9
      simp [gc, gcs]
    · have hk7 : k ≤ 7 := by
        clear h8 h9 hk ih
        omega
      have key : ∀ (l : List Ty) (a : Int), (∀ x ∈ l, x ∈ ks) → (belowsF l a ns' refs).length = gcs l := by
        intro l
        induction l with
        | nil => intro a _; simp [belowsF, gcs]
        | cons x l ihl =>
          intro a hx
          have hxm := hx x List.mem_cons_self
          simp only [belowsF, List.length_append, gcs]
          rw [ih x hxm _ _ (hk hk8 x hxm), ihl _ fun y hy => hx y (List.mem_cons_of_mem _ hy)]
      rw [nodesF_o hk8 hk9]
      simp only [List.length_cons, gc]
      rw [key ks _ fun x hx => hx, if_pos hk7]
      omega

/-- nodes stand at a place of the graph -/
def Pl (ds : List Nd) (a : Int) (l : List Nd) : Prop := 0 ≤ a ∧ ∀ (i : Nat) (h : i < l.length), ds[a.toNat + i]? = some l[i]
theorem Pl.left {ds : List Nd} {a : Int} {l m : List Nd} (h : Pl ds a (l ++ m)) : Pl ds a l :=
  ⟨h.1, fun i hi => by rw [h.2 i (by simp; omega), List.getElem_append_left hi]⟩
theorem Pl.right {ds : List Nd} {a : Int} {l m : List Nd} {n : Nat} (hn : l.length = n) (h : Pl ds a (l ++ m)) : Pl ds (a + n) m := by
  have h0 := h.1
  refine ⟨by omega, fun i hi => ?_⟩
  have := h.2 (n + i) (by simp; omega)
  rw [show (a + (n : Int)).toNat + i = a.toNat + (n + i) by omega, this, List.getElem_append_right (by omega)]
  congr 2; omega
theorem Pl.kid {ds : List Nd} {ns : List ByteArray} {R : List Rf} : ∀ {ks : List Ty} {a : Int}, Pl ds a (belowsF ks a ns R) → (∀ x ∈ ks, ∀ a, (nodesF x a ns R).length = gc x) → ∀ (j : Nat) (h : j < ks.length), Pl ds (a + gcs (ks.take j)) (nodesF ks[j] (a + gcs (ks.take j)) ns R)
  | x :: ks, a, h, _, 0, _ => by
    simp only [belowsF] at h
    simp only [List.take_zero, gcs, List.getElem_cons_zero]
    rw [show a + ((0 : Nat) : Int) = a by omega]
    exact h.left
  | x :: ks, a, h, hl, j + 1, hj => by
    simp only [belowsF] at h
    have h2 := Pl.right (hl x List.mem_cons_self a) h
    have := Pl.kid h2 (fun y hy => hl y (List.mem_cons_of_mem _ hy)) j (by simpa using hj)
    simp only [List.take_succ_cons, gcs, List.getElem_cons_succ]
    rw [show a + ((gc x + gcs (ks.take j) : Nat) : Int) = a + (gc x : Int) + (gcs (ks.take j) : Int) by omega]
    exact this
theorem nextsF_at {ns : List ByteArray} {R : List Rf} : ∀ {ks : List Ty} {a : Int} (j : Nat) (h : j < ks.length), (nextsF ks a ns R)[j]? = some (refF ks[j] (a + gcs (ks.take j)) ns R)
  | x :: ks, a, 0, _ => by simp [nextsF, gcs]
  | x :: ks, a, j + 1, h => by
    have := nextsF_at (ns := ns) (R := R) (a := a + gc x) j (by simpa using h)
    simp only [nextsF, List.getElem?_cons_succ, this, List.take_succ_cons, gcs, List.getElem_cons_succ]
    congr 2; omega
theorem nextsF_len {ns : List ByteArray} {R : List Rf} : ∀ {ks : List Ty} {a : Int}, (nextsF ks a ns R).length = ks.length
  | [], _ => rfl
  | x :: ks, a => by simp [nextsF, nextsF_len (ks := ks)]

end Go.Proofs.YtopinhoalbgebaaGreatDoor.Tx

/- Contracts: closed graphs. -/
namespace Go.Proofs.YtopinhoalbgebaaGreatDoor.Tx
open Go.Lf Go.Lf.S Go.Lf.Duo
set_option maxRecDepth 100000

/-! the dual of a graph's nodes -/

/-- is the reference with an index to a rest? -/
def restB (kind : Int) (j : Nat) : Bool := decide (0 < j) || decide (kind = 6) || decide (kind = 7)
end Go.Proofs.YtopinhoalbgebaaGreatDoor.Tx

/- Contracts: the reference's closing, the dual of a reference, a graph read back. -/
namespace Go.Proofs.YtopinhoalbgebaaGreatDoor.Tx
open Go.Lf Go.Lf.S Go.Lf.Duo
set_option maxRecDepth 100000

theorem NdOk.node {n : Int} {d : Nd} (h : NdOk 0 n [] d) : ∀ r ∈ d.next, 0 ≤ r.node ∧ r.node < n := by
  intro r hr
  obtain ⟨a, b⟩ := h.nx r hr
  rcases a with ⟨q, hq, _⟩ | ⟨a1, a2⟩
  · cases hq
  · exact ⟨a1, a2⟩
theorem NdOk.rest {n : Int} {d : Nd} (h : NdOk 0 n [] d) {j : Nat} (hj : j < d.next.length) : restB d.kind j = (decide (j = 1) || decide (6 ≤ d.kind)) := by
  have h1 := h.k1; have h3 := h.n3; have h5 := h.n5
  clear h
  rw [Bool.eq_iff_iff]
  simp only [restB, Bool.or_eq_true, decide_eq_true_eq]
  by_cases a : d.kind ≤ 3
  · have := h3 a; omega
  · by_cases b : d.kind ≤ 5
    · have := h5 ⟨by omega, b⟩; omega
    · omega

/-! the two sides -/

end Go.Proofs.YtopinhoalbgebaaGreatDoor.Tx

/- Contracts: the package head (without the ranges over functions), slices.Index. -/
namespace Go.Proofs.YtopinhoalbgebaaGreatDoor.Tx
open Go.Lf Go.Lf.S Go.Lf.Duo
set_option maxRecDepth 100000

/-- a sum as the machine has it -/
def ad (a b : Int) : Int := IntKind.i64.wrap (a + b)
def act (k : Int) : Bool := decide (4 ≤ k ∧ k ≤ 7)

theorem ok_head_action (k : Int) : Ok P F.head_action [i k] (.bool (act k)) := by
  refine k_head_action _ _ rfl (d_l _ rfl fun _ => d_dec (fun h => d_l _ rfl fun _ => d_ret ?_) fun h => d_ret ?_)
  · have h : 4 ≤ k := h
    show PV.bool (decide (k ≤ 7)) = _
    simp [act, h]
  · have h : ¬ 4 ≤ k := h
    simp [act, h]

theorem ok_head_Prio (ds : List Nd) (a : Nat) (ha : a < ds.length) (s : Int) : Ok P F.head_Prio [.agg [.sl (ds.map Nd.enc)], .agg [i (a : Int), i s]] (if act ds[a].kind then .tup [i (ad ds[a].prio s), .bool true] else .tup [i 0, .bool false]) := by
  refine k_head_Prio _ _ rfl (d_l (.agg [.sl (ds.map Nd.enc)]) rfl fun _ => d_l (.agg [i (a : Int), i s]) rfl fun _ => d_l _ (e_idx (nd_at ha) (Nd.okc_enc _)) fun _ => d_l _ (e_okc (Nd.okc_enc _)) fun _ => d_call (ok_head_action ds[a].kind) (d_l _ rfl fun _ => d_ite (fun h => d_ret ?_) fun h => d_l _ rfl fun _ => d_ret ?_))
  · have : act ds[a].kind = false := by simpa using h
    rw [this]; rfl
  · have : act ds[a].kind = true := by simpa using h
    rw [this]; rfl

theorem ok_head_Raise (a s k : Int) : Ok P F.head_Raise [.agg [i a, i s], i k] (.agg [i a, i (ad s k)]) :=
  k_head_Raise _ _ rfl (d_l (.agg [i a, i s]) rfl fun _ => d_l _ rfl fun _ => d_l _ rfl fun _ => d_ret rfl)

theorem ok_head_Next (ds : List Nd) (a : Nat) (ha : a < ds.length) (s : Int) (k : Nat) (hk : k < ds[a].next.length) :
    Ok P F.head_Next [.agg [.sl (ds.map Nd.enc)], .agg [i (a : Int), i s], i (k : Int)] (.tup [.agg [i ds[a].next[k].node, i (ad ds[a].next[k].shift s)], .bool true]) := by
  refine k_head_Next _ _ rfl (d_l (.agg [.sl (ds.map Nd.enc)]) rfl fun _ => d_l (.agg [i (a : Int), i s]) rfl fun _ => d_l _ (e_idx (nd_at ha) (Nd.okc_enc _)) fun _ => d_l _ rfl fun _ => d_dec (fun h => ?_) fun _ => d_l _ e_len fun _ => d_l _ rfl fun _ => d_dec (fun h => ?_) fun _ => ?_)
  · have h : (k : Int) < 0 := h
    omega
  · have h : ((ds[a].next.map Rf.enc).length : Int) ≤ (k : Int) := h
    simp at h; omega
  · exact d_l _ (e_idx (rf_at hk) (Rf.okc_enc _)) fun _ => d_call (ok_head_Raise ds[a].next[k].node ds[a].next[k].shift s) (d_l (.agg [i ds[a].next[k].node, i (ad ds[a].next[k].shift s)]) rfl fun _ => d_ret rfl)

theorem ok_head_Next_no (ds : List Nd) (a : Nat) (ha : a < ds.length) (s k : Int) (hk : k < 0 ∨ (ds[a].next.length : Int) ≤ k) :
    Ok P F.head_Next [.agg [.sl (ds.map Nd.enc)], .agg [i (a : Int), i s], i k] (.tup [.agg [i 0, i 0], .bool false]) := by
  refine k_head_Next _ _ rfl (d_l (.agg [.sl (ds.map Nd.enc)]) rfl fun _ => d_l (.agg [i (a : Int), i s]) rfl fun _ => d_l _ (e_idx (nd_at ha) (Nd.okc_enc _)) fun _ => d_l _ rfl fun _ => d_dec (fun h => d_ret rfl) fun h => d_l _ e_len fun _ => d_l _ rfl fun _ => d_dec (fun h => d_ret rfl) fun h2 => ?_)
  have h : ¬ k < 0 := h
  have h2 : ¬ ((ds[a].next.map Rf.enc).length : Int) ≤ k := h2
  simp at h2; omega

/-- where a text stands first -/
def At (s : ByteArray) (l : List ByteArray) (r : Int) : Prop := (r = -1 ∧ s ∉ l) ∨ ∃ k : Nat, r = k ∧ l[k]? = some s ∧ ∀ j, j < k → l[j]? ≠ some s

theorem ok_slices_Index_string_string (l : List ByteArray) (s : ByteArray) (hl : l.length ≤ 549755813888) : ∃ r, Ok P F.slices_Index_string_string [.sl (l.map .str), .str s] (i r) ∧ At s l r := by
  have := tx_ex (K := fun x => ∃ r, x = i r ∧ At s l r) k_slices_Index_string_string (xs := [.sl (l.map .str), .str s]) rfl (by simp [t_slices_Index_string_string, T.dt]) (by
    refine d_l _ e_len fun _ => ?_
    refine den_loop (fun m ys => ∃ j : Nat, j + m = l.length ∧ (∀ q, q < j → l[q]? ≠ some s) ∧ ys = [i j]) l.length ⟨0, by omega, (fun q h => by omega), rfl⟩ ?_
    rintro m _ ⟨j, hj, hno, rfl⟩
    refine d_l _ rfl fun _ => d_dec (fun h => ?_) fun h => d_ret ⟨-1, rfl, .inl ⟨rfl, fun hm => ?_⟩⟩
    · have h : (j : Int) < ((l.map PV.str).length : Int) := h
      have hlt : j < l.length := by simp at h; omega
      refine d_l _ (e_idx (str_at hlt) rfl) fun _ => d_l _ rfl fun _ => d_dec (fun h => d_ret ⟨j, rfl, .inr ⟨j, rfl, ?_, hno⟩⟩) fun h => d_l _ (e_inc (by omega)) fun _ => d_cont rfl ⟨m - 1, by omega, j + 1, by omega, fun q hq => ?_, rfl⟩
      · have h : s = l[j] := h
        rw [List.getElem?_eq_getElem hlt, ← h]
      · have h : ¬ s = l[j] := h
        by_cases hqj : q < j
        · exact hno q hqj
        · have : q = j := by omega
          subst this
          rw [List.getElem?_eq_getElem hlt]
          intro he
          exact h (Option.some.inj he).symm
    · have h : ¬ (j : Int) < ((l.map PV.str).length : Int) := h
      simp at h
      obtain ⟨q, hq, he⟩ := List.getElem_of_mem hm
      exact hno q (by omega) (by rw [List.getElem?_eq_getElem hq, he]))
  obtain ⟨_, ⟨r, rfl, hr⟩, h⟩ := this
  exact ⟨r, h, hr⟩

end Go.Proofs.YtopinhoalbgebaaGreatDoor.Tx

/- Contracts: the keys and the map of a comparison. -/
namespace Go.Proofs.YtopinhoalbgebaaGreatDoor.Tx
open Go.Lf Go.Lf.S Go.Lf.Duo
set_option maxRecDepth 100000

/-- a pair of nodes, and the difference of their shifts -/
structure Key where
  a : Int
  b : Int
  d : Int
  deriving DecidableEq
def Key.enc (k : Key) : PV := .agg [i k.a, i k.b, i k.d]
abbrev kk3 : List CK := [.i .i64, .i .i64, .i .i64]
def mpOf (L : List Key) : PV := .mp (L.map Key.enc) (L.map fun _ => .bool true)

theorem keq_key (x y : Key) : PV.keq true kk3 x.enc y.enc = some (decide (x = y)) := by
  obtain ⟨a, b, c⟩ := x
  obtain ⟨a', b', c'⟩ := y
  simp only [PV.keq, Key.enc, PV.okc, PV.cells, PV.isAg, PV.isCell, kk3, PV.sameK, PV.same1, i]
  by_cases h1 : a = a' <;> by_cases h2 : b = b' <;> by_cases h3 : c = c' <;> simp [h1, h2, h3, PV.isCell]

theorem kfindGo_key (k : Key) : ∀ (L : List Key) (j : Nat), ∃ r, PV.kfindGo true kk3 k.enc (L.map Key.enc) j = some r ∧ (k ∈ L → ∃ q, r = some (j + q) ∧ L[q]? = some k) ∧ (k ∉ L → r = none)
  | [], j => ⟨none, rfl, (fun h => by cases h), fun _ => rfl⟩
  | x :: L, j => by
    obtain ⟨r, h1, h2, h3⟩ := kfindGo_key k L (j + 1)
    simp only [List.map_cons, PV.kfindGo, keq_key]
    by_cases he : k = x
    · subst he
      simp only [decide_true]
      exact ⟨_, rfl, fun _ => ⟨0, by simp, by simp⟩, fun h => absurd List.mem_cons_self h⟩
    · simp only [he, decide_false]
      refine ⟨r, h1, fun h => ?_, fun h => h3 fun hm => h (List.mem_cons_of_mem _ hm)⟩
      rcases List.mem_cons.1 h with e | e
      · exact absurd e he
      · obtain ⟨q, hq, hl⟩ := h2 e
        exact ⟨q + 1, by rw [hq]; congr 1; omega, by simpa using hl⟩

theorem e_mget (L : List Key) (k : Key) : (Prim.mget true kk3 (.bool false)).ev [mpOf L, k.enc] = some (.bool (decide (k ∈ L))) := by
  obtain ⟨r, h1, h2, h3⟩ := kfindGo_key k L 0
  have hf : PV.kfind true kk3 k.enc (L.map Key.enc) = some r := h1
  show (match PV.kfind true kk3 k.enc (L.map Key.enc) with
    | some (some i) => (L.map fun _ => PV.bool true)[i]?
    | some none => some (PV.bool false)
    | none => none) = _
  rw [hf]
  by_cases hm : k ∈ L
  · obtain ⟨q, rfl, hl⟩ := h2 hm
    have hq : q < L.length := (List.getElem?_eq_some_iff.1 hl).1
    simp [hm, hq]
  · rw [h3 hm]; simp [hm]

theorem e_mset (L : List Key) (k : Key) (hk : k ∉ L) : (Prim.mset true kk3).ev [mpOf L, k.enc, .bool true] = some (mpOf (L ++ [k])) := by
  obtain ⟨r, h1, h2, h3⟩ := kfindGo_key k L 0
  have hf : PV.kfind true kk3 k.enc (L.map Key.enc) = some r := h1
  show (match PV.kfind true kk3 k.enc (L.map Key.enc) with
    | some (some i) => some (PV.mp ((L.map Key.enc).set i k.enc) ((L.map fun _ => PV.bool true).set i (PV.bool true)))
    | some none => some (PV.mp (L.map Key.enc ++ [k.enc]) ((L.map fun _ => PV.bool true) ++ [PV.bool true]))
    | none => none) = _
  rw [hf, h3 hk]
  simp [mpOf]

/-- the key of two references -/
def keyOf (free : Bool) (a b s t : Int) : Key := ⟨a, b, if free then 0 else IntKind.i64.wrap (s - t)⟩
theorem ok_key (g m f : PV) (free : Bool) (a b s t : Int) (h4 : (PV.agg [g, m, f, .bool free]).okc 4 true = true) :
    Ok P F.equal_comparison_key [.box (.agg [g, m, f, .bool free]), .agg [i a, i s], .agg [i b, i t]] (keyOf free a b s t).enc := by
  refine k_equal_comparison_key _ _ rfl (d_l (.agg [i a, i s]) rfl fun _ => d_l (.agg [i b, i t]) rfl fun _ => d_l (.box (.agg [g, m, f, .bool free])) rfl fun _ => d_l (.agg [g, m, f, .bool free]) ?_ fun _ => d_ite (fun h => d_l _ rfl fun _ => d_ret ?_) fun h => d_l _ rfl fun _ => d_l _ rfl fun _ => d_ret ?_)
  · show (if _ then _ else _) = _
    rw [if_pos h4]
  · subst h; rfl
  · subst h; rfl
theorem key_gnd (k : Key) : Prim.gnd.ev [k.enc] = some k.enc := rfl

end Go.Proofs.YtopinhoalbgebaaGreatDoor.Tx

/- Contracts: how a comparison compares priorities. -/
namespace Go.Proofs.YtopinhoalbgebaaGreatDoor.Tx
open Go.Lf Go.Lf.S Go.Lf.Duo
set_option maxRecDepth 100000

theorem wrap_eq (x y : Int) : IntKind.i64.wrap x = IntKind.i64.wrap y ↔ (x - y) % 18446744073709551616 = 0 := by
  simp only [IntKind.wrap, IntKind.signed, IntKind.bits]
  simp
  omega
theorem wrap_mod (x : Int) : (IntKind.i64.wrap x - x) % 18446744073709551616 = 0 := by
  simp only [IntKind.wrap, IntKind.signed, IntKind.bits]
  simp
  omega

/-- the priority of a node's reference, or 0 -/
def prN (d : Nd) (s : Int) : Int := if act d.kind then ad d.prio s else 0

theorem ok_equal_Equal_1 (ds : List Nd) (a b : Nat) (ha : a < ds.length) (hb : b < ds.length) (s t : Int) :
    Ok P F.equal_Equal_1 [.agg [i (a : Int), i s], .agg [i (b : Int), i t], .box (.agg [.sl (ds.map Nd.enc)])] (.bool (decide (prN ds[a] s = prN ds[b] t))) := by
  have get : ∀ (d : Nd) (s : Int) (x : PV), x = (if act d.kind then PV.tup [i (ad d.prio s), .bool true] else .tup [i 0, .bool false]) → (Prim.tc 0).ev [x] = some (i (prN d s)) ∧ (Prim.tc 1).ev [x] = some (.bool (act d.kind)) := by
    intro d s x hx
    subst hx
    cases h : act d.kind
    · simp [prN, h]; exact ⟨rfl, rfl⟩
    · simp [prN, h]; exact ⟨rfl, rfl⟩
  obtain ⟨a1, a2⟩ := get ds[a] s _ rfl
  obtain ⟨b1, b2⟩ := get ds[b] t _ rfl
  exact k_equal_Equal_1 _ _ rfl (d_l (.agg [i (a : Int), i s]) rfl fun _ => d_l (.agg [i (b : Int), i t]) rfl fun _ => d_l (.agg [.sl (ds.map Nd.enc)]) rfl fun _ => d_call (ok_head_Prio ds a ha s) (d_l _ a1 fun _ => d_l _ a2 fun _ => d_l (.agg [.sl (ds.map Nd.enc)]) rfl fun _ => d_call (ok_head_Prio ds b hb t) (d_l _ b1 fun _ => d_l _ b2 fun _ => d_l _ rfl fun _ => d_ret rfl)))

/-- priorities alike: it depends on the difference of the shifts alone -/
theorem pr_iff {x y : Nd} (hk : x.kind = y.kind) (s t : Int) : prN x s = prN y t ↔ (act x.kind = true → ad x.prio (IntKind.i64.wrap (s - t)) = ad y.prio 0) := by
  unfold prN
  rw [← hk]
  cases h : act x.kind
  · simp
  · simp only [if_true, true_implies, ad, wrap_eq]
    have := wrap_mod (s - t)
    omega

/-- what the nodes of a key must have in common -/
def locB (ds : List Nd) (free : Bool) (k : Key) : Bool := match ds[k.a.toNat]?, ds[k.b.toNat]? with
  | some x, some y => decide (x.kind = y.kind) && decide (x.labels.length = y.labels.length) && (free || decide (act x.kind = true → ad x.prio k.d = ad y.prio 0))
  | _, _ => false

end Go.Proofs.YtopinhoalbgebaaGreatDoor.Tx

/- Closed lists of keys; how many pairs are left. -/
namespace Go.Proofs.YtopinhoalbgebaaGreatDoor.Tx
open Go.Lf Go.Lf.S Go.Lf.Duo
set_option maxRecDepth 100000

/-- the rest of y that belongs to a rest of x -/
def Sel (x y : Nd) (j q : Nat) : Prop := if 0 < x.labels.length then ∃ s, x.labels[j]? = some s ∧ y.labels[q]? = some s ∧ ∀ p, p < q → y.labels[p]? ≠ some s else q = j
/-- the key behind the rest j -/
def Nx (ds : List Nd) (free : Bool) (k : Key) (j : Nat) (k' : Key) : Prop :=
  ∃ x y, ds[k.a.toNat]? = some x ∧ ds[k.b.toNat]? = some y ∧ ∃ (u v : Rf) (q : Nat), x.next[j]? = some u ∧ y.next[q]? = some v ∧ Sel x y j q ∧
    k' = ⟨u.node, v.node, if free then 0 else IntKind.i64.wrap (u.shift - v.shift + k.d)⟩
/-- how many rests a key has -/
def arity (ds : List Nd) (k : Key) : Nat := match ds[k.a.toNat]? with
  | some x => x.next.length
  | none => 0
/-- a key is sound in a list -/
def KOk (ds : List Nd) (free : Bool) (L : List Key) (k : Key) : Prop := locB ds free k = true ∧ ∀ j, j < arity ds k → ∃ k', Nx ds free k j k' ∧ k' ∈ L
def Cl (ds : List Nd) (free : Bool) (L : List Key) : Prop := ∀ k ∈ L, KOk ds free L k
/-- the pair is equal: a closed list has it -/
def Eqv (ds : List Nd) (free : Bool) (k : Key) : Prop := ∃ L, Cl ds free L ∧ k ∈ L

/-- the pairs that no key has -/
def left (n : Nat) (L : List Key) : List (Nat × Nat) := ((List.range n).flatMap fun a => (List.range n).map fun b => (a, b)).filter fun p => !L.any fun k => decide (k.a = p.1 ∧ k.b = p.2)

theorem left_mem {n : Nat} {L : List Key} {a b : Nat} : (a, b) ∈ left n L ↔ (a < n ∧ b < n) ∧ ∀ k ∈ L, ¬ (k.a = a ∧ k.b = b) := by
  simp only [left, List.mem_filter, List.mem_flatMap, List.mem_range, List.mem_map, Bool.not_eq_true', List.any_eq_false, decide_eq_true_eq]
  constructor
  · rintro ⟨⟨a', ha, b', hb, he⟩, h⟩
    cases he
    exact ⟨⟨ha, hb⟩, h⟩
  · rintro ⟨⟨ha, hb⟩, h⟩
    exact ⟨⟨a, ha, b, hb, rfl⟩, h⟩

theorem left_mono {n : Nat} {L L' : List Key} (h : ∀ k ∈ L, k ∈ L') : (left n L').length ≤ (left n L).length := by
  have : left n L' = (left n L).filter fun p => !L'.any fun k => decide (k.a = p.1 ∧ k.b = p.2) := by
    unfold left
    rw [List.filter_filter]
    apply List.filter_congr
    intro p _
    cases hL' : L'.any fun k => decide (k.a = p.1 ∧ k.b = p.2)
    · have : (L.any fun k => decide (k.a = p.1 ∧ k.b = p.2)) = false := by
        rw [List.any_eq_false] at hL' ⊢
        exact fun k hk => hL' k (h k hk)
      rw [this]; rfl
    · simp
  rw [this]
  exact List.length_filter_le _ _

theorem left_lt {n : Nat} {L : List Key} {k : Key} {a b : Nat} (hm : (a, b) ∈ left n L) (ha : k.a = a) (hb : k.b = b) : (left n (L ++ [k])).length < (left n L).length := by
  have e : left n (L ++ [k]) = (left n L).filter fun p => !decide (k.a = p.1 ∧ k.b = p.2) := by
    unfold left
    rw [List.filter_filter]
    apply List.filter_congr
    intro p _
    simp [Bool.and_comm]
  rw [e]
  have h1 := List.length_filter_lt_length_iff_exists (l := left n L) (p := fun p => !decide (k.a = p.1 ∧ k.b = p.2))
  exact h1.2 ⟨(a, b), hm, by simp [ha, hb]⟩

end Go.Proofs.YtopinhoalbgebaaGreatDoor.Tx
