/- Contracts: graphs of lists of types; closed graphs. -/
import Derived.Test.YtopinhoalbgebaaGreatDoorWk6
set_option linter.all false
namespace Go.Proofs.YtopinhoalbgebaaGreatDoor.Tx
open Go.Lf Go.Lf.S Go.Lf.Duo
set_option maxRecDepth 100000

theorem ok_ref07_Build (l : List Ty) (hwf : ∀ t ∈ l, Wf t [] 0) (hz : Ty.szs l ≤ 274877906944) :
    ∃ (ds : List Nd) (rs : List Rf), Ok P F.ref07_Build [.sl (l.map Ty.enc)] (.tup [.sl (ds.map Nd.enc), .sl (rs.map Rf.enc)]) ∧ ds.length = gcs l ∧ rs.length = l.length ∧ (∀ d ∈ ds, NdOk 0 (gcs l) [] d) ∧
      (∀ (j : Nat) (r : Rf), rs[j]? = some r → 0 ≤ r.node ∧ r.node < gcs l ∧ 0 ≤ r.shift ∧ r.shift ≤ 1000000 ∧ 0 < gcs l) ∧ ds = belowsF l 0 [] [] ∧ rs = nextsF l 0 [] [] := by
  have hll := szs_len l
  have hgl := gcs_le l
  have := tx_ex (K := fun x => ∃ (ds : List Nd) (rs : List Rf), x = .tup [.sl (ds.map Nd.enc), .sl (rs.map Rf.enc)] ∧ ds.length = gcs l ∧ rs.length = l.length ∧ (∀ d ∈ ds, NdOk 0 (gcs l) [] d) ∧
      (∀ (j : Nat) (r : Rf), rs[j]? = some r → 0 ≤ r.node ∧ r.node < gcs l ∧ 0 ≤ r.shift ∧ r.shift ≤ 1000000 ∧ 0 < gcs l) ∧ ds = belowsF l 0 [] [] ∧ rs = nextsF l 0 [] []) k_ref07_Build (xs := [.sl (l.map Ty.enc)]) rfl (by simp [t_ref07_Build, T.dt]) (by
    refine den_loop (fun m ys => ∃ (j : Nat) (ds : List Nd) (rs : List Rf), j + m = l.length ∧ ds.length = gcs (l.take j) ∧ rs.length = j ∧ (∀ d ∈ ds, NdOk 0 (gcs l) [] d) ∧
      (∀ (j : Nat) (r : Rf), rs[j]? = some r → 0 ≤ r.node ∧ r.node < gcs l ∧ 0 ≤ r.shift ∧ r.shift ≤ 1000000 ∧ 0 < gcs l) ∧ ds = belowsF (l.take j) 0 [] [] ∧ rs = nextsF (l.take j) 0 [] [] ∧ ys = [i j, .sl (rs.map Rf.enc), .sl (ds.map Nd.enc)]) l.length
      ⟨0, [], [], by omega, by simp [gcs], rfl, (fun _ h => by cases h), (fun j r h => by simp at h), by simp [belowsF], by simp [nextsF], rfl⟩ ?_
    rintro m _ ⟨j, ds, rs, hj, hdl, hrl, hds, hrs, hdf, hrf, rfl⟩
    refine d_l _ e_len fun _ => d_l _ rfl fun _ => d_dec (fun h => ?_) fun h => ?_
    · have h : (j : Int) < ((l.map Ty.enc).length : Int) := h
      have hlt : j < l.length := by simp at h; omega
      have hmem : l[j] ∈ l := List.getElem_mem hlt
      have hgt := gcs_take l j hlt
      have hgt2 := gcs_take_le l (j + 1)
      have hsj := Ty.szs_mem hmem
      have hgj := gc_le l[j]
      have e1 : ((ds.map Nd.enc).length : Int) = (gcs (l.take j) : Int) := by simp [hdl]
      obtain ⟨r, hr, hrin, hre⟩ := ok_ref07_reference l[j] [] [] (gcs (l.take j) : Int) [] 0 (hwf _ hmem) (Nat.le_refl _) rfl (fun _ h => by cases h) (by simp)
      obtain ⟨es, he, hel, hek, hee⟩ := ok_ref07_nodes l[j] [] [] (gcs (l.take j) : Int) 0 (hwf _ hmem) (Nat.le_refl _) rfl (fun _ h => by cases h) (by simp; omega) (by omega) (by omega)
      refine d_l _ (e_idx (ty_at hlt) (Ty.okc_enc _)) fun _ => d_l (i (gcs (l.take j) : Int)) (by rw [← e1]; exact e_len) fun _ => d_call hr (d_l _ (e_lst (fun x hx => by simp at hx; subst hx; exact Rf.okc_enc r)) fun _ => d_l _ (e_app (fun x hx => by simp at hx; subst hx; exact Rf.okc_enc r) (by simp; omega) (by simp; omega)) fun _ => ?_)
      refine d_l _ (e_idx (ty_at hlt) (Ty.okc_enc _)) fun _ => d_l (i (gcs (l.take j) : Int)) (by rw [← e1]; exact e_len) fun _ => d_call he (d_l _ (e_app (all_map Nd.okc_enc _) (by simp; omega) (by simp; omega)) fun _ => d_l _ (e_inc (by omega)) fun _ => d_cont rfl ⟨m - 1, by omega, j + 1, ds ++ es, rs ++ [r], by omega, by simp; omega, by simp [hrl], fun d hd => ?_, fun j' r' hr' => ?_, by rw [belowsF_take l j hlt, ← hdf, Int.zero_add, ← hee], by rw [nextsF_take l j hlt, ← hrf, Int.zero_add, ← hre], by simp⟩)
      · rcases List.mem_append.1 hd with hd | hd
        · exact hds d hd
        · exact (hek d hd).weak (fun q hq => by cases hq) (by omega) (by omega)
      · rw [List.getElem?_append] at hr'
        split at hr'
        · exact hrs j' r' hr'
        · have : r' = r := by
            have := List.mem_of_getElem? hr'
            simpa using this
          subst this
          obtain ⟨h1, h2, h3⟩ := hrin
          rcases h1 with ⟨q, hq, _⟩ | ⟨h1, hp⟩
          · cases hq
          · simp at h3
            exact ⟨by omega, by omega, h2, h3, by omega⟩
    · have h : ¬ (j : Int) < ((l.map Ty.enc).length : Int) := h
      have ht : l.take j = l := List.take_of_length_le (by simp at h; omega)
      rw [ht] at hdl hdf hrf
      exact d_ret ⟨ds, rs, rfl, hdl, by simp at h; omega, hds, hrs, hdf, hrf⟩)
  obtain ⟨_, ⟨ds, rs, rfl, h1, h2, h3, h4, h5⟩, h⟩ := this
  exact ⟨ds, rs, h, h1, h2, h3, h4, h5⟩

theorem nd_at {ds : List Nd} {j : Nat} (h : j < ds.length) : (ds.map Nd.enc)[j]? = some (ds[j]).enc := by simp [h]
theorem take_enc {α : Type} {f : α → PV} {l : List α} {j : Nat} (h : j < l.length) : ((l.take j).map f) ++ [f l[j]] = (l.take (j + 1)).map f := by
  rw [List.take_succ_eq_append_getElem h, List.map_append]; rfl

/-- sizes of a node's lists -/
def NdLen (d : Nd) : Prop := d.labels.length ≤ 549755813888 ∧ d.next.length ≤ 549755813888
theorem NdOk.len {lo hi : Int} {refs : List Rf} {d : Nd} (h : NdOk lo hi refs d) : NdLen d := by
  refine ⟨h.ll, ?_⟩
  have h1 := h.k1; have h2 := h.n3; have h3 := h.n5; have h4 := h.n7; have h5 := h.ll
  omega

theorem ok_law08_Graph (l : List Ty) {ds : List Nd} {rs : List Rf} (hB : Ok P F.ref07_Build [.sl (l.map Ty.enc)] (.tup [.sl (ds.map Nd.enc), .sl (rs.map Rf.enc)])) (hl : ∀ d ∈ ds, NdLen d) (hd : ds.length ≤ 549755813888) (hr : rs.length ≤ 549755813888) :
    Ok P F.law08_Graph [.sl (l.map Ty.enc)] (.tup [.agg [.sl (ds.map Nd.enc)], .sl (rs.map Rf.enc)]) := by
  refine k_law08_Graph _ _ rfl (d_call hB (d_l _ rfl fun _ => d_l _ rfl fun _ => ?_))
  refine den_rounds (fun j => [i j, .sl ((ds.take j).map Nd.enc)]) ds.length rfl (fun j hj => ?_) ?_
  · refine d_l _ e_len fun _ => d_l _ rfl fun _ => d_dec (fun h => ?_) fun h => absurd (show (j : Int) < ((ds.map Nd.enc).length : Int) by simp; omega) h
    have hjd := hl ds[j] (List.getElem_mem hj)
    obtain ⟨hl1, hl2⟩ := hjd
    refine d_l _ (e_idx (nd_at hj) (Nd.okc_enc _)) fun _ => d_l _ (e_idx (nd_at hj) (Nd.okc_enc _)) fun _ => d_l _ rfl fun _ => d_l _ (e_idx (nd_at hj) (Nd.okc_enc _)) fun _ => d_l _ (e_app (all_map okc_str _) (by simp; omega) (by simp; omega)) fun _ => d_l _ (by rfl) fun _ => ?_
    refine den_rounds (fun k => [i k, i ds[j].kind, i ds[j].prio, .sl (ds[j].labels.map .str), .sl ((ds[j].next.take k).map Rf.enc)]) ds[j].next.length rfl (fun k hk => ?_) ?_
    · refine d_l _ (e_idx (nd_at hj) (Nd.okc_enc _)) fun _ => d_l _ e_len fun _ => d_l _ rfl fun _ => d_dec (fun h => ?_) fun h => absurd (show (k : Int) < ((ds[j].next.map Rf.enc).length : Int) by simp; omega) h
      refine d_l _ (e_idx (nd_at hj) (Nd.okc_enc _)) fun _ => d_l _ (e_idx (rf_at hk) (Rf.okc_enc _)) fun _ => d_l _ (e_idx (nd_at hj) (Nd.okc_enc _)) fun _ => d_l _ (e_idx (rf_at hk) (Rf.okc_enc _)) fun _ => d_l _ (by rfl) fun _ => d_l _ (by rfl) fun _ => d_l _ (e_app (fun x hx => by simp at hx; subst hx; rfl) (by simp; omega) (by simp; omega)) fun _ => d_l _ (e_inc (by omega)) fun _ => d_cont rfl ?_
      rw [← take_enc hk]; rfl
    · refine d_l _ (e_idx (nd_at hj) (Nd.okc_enc _)) fun _ => d_l _ e_len fun _ => d_l _ rfl fun _ => d_dec (fun h => ?_) fun h => ?_
      · have h : (ds[j].next.length : Int) < ((ds[j].next.map Rf.enc).length : Int) := h
        simp at h
      · refine d_l _ (by rfl) fun _ => d_l _ (e_app (fun x hx => by simp at hx; subst hx; rfl) (by simp; omega) (by simp; omega)) fun _ => d_l _ (e_inc (by omega)) fun _ => d_cont rfl ?_
        rw [← take_enc hj, List.take_of_length_le (Nat.le_refl _)]; rfl
  · refine d_l _ e_len fun _ => d_l _ rfl fun _ => d_dec (fun h => ?_) fun h => ?_
    · have h : (ds.length : Int) < ((ds.map Nd.enc).length : Int) := h
      simp at h
    refine den_rounds (fun j => [i j, .sl ((rs.take j).map Rf.enc)]) rs.length rfl (fun j hj => ?_) ?_
    · refine d_l _ e_len fun _ => d_l _ rfl fun _ => d_dec (fun h => ?_) fun h => absurd (show (j : Int) < ((rs.map Rf.enc).length : Int) by simp; omega) h
      refine d_l _ (e_idx (rf_at hj) (Rf.okc_enc _)) fun _ => d_l _ (e_idx (rf_at hj) (Rf.okc_enc _)) fun _ => d_l _ (by rfl) fun _ => d_l _ (by rfl) fun _ => d_l _ (e_app (fun x hx => by simp at hx; subst hx; rfl) (by simp; omega) (by simp; omega)) fun _ => d_l _ (e_inc (by omega)) fun _ => d_cont rfl ?_
      rw [← take_enc hj]; rfl
    · refine d_l _ e_len fun _ => d_l _ rfl fun _ => d_dec (fun h => ?_) fun h => d_ret ?_
      · have h : (rs.length : Int) < ((rs.map Rf.enc).length : Int) := h
        simp at h
      · simp

end Go.Proofs.YtopinhoalbgebaaGreatDoor.Tx
