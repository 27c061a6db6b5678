/- The law: right types have the graph of the reference. -/
import Derived.Test.YtodomlcjppdgfaaWk111
import Derived.Test.YtodomlcjppdgfaaWb
set_option linter.all false
namespace Go.Proofs.Ytodomlcjppdgfaa.Tx
open Go.Lf Go.Lf.S Go.Lf.Duo
set_option maxRecDepth 100000

theorem neq_refl (x : Int) : (Prim.cmp .neq .i64).ev [i x, i x] = some (.bool false) := by
  show some (PV.bool (!decide (x = x))) = _
  simp
theorem sneq_refl' (x : ByteArray) : (Prim.scmp .neq).ev [.str x, .str x] = some (.bool false) := by
  show some (PV.bool (!decide (x = x))) = _
  simp
theorem acmp_refl (r : Rf) : (Prim.acmp .neq [.i .i64, .i .i64]).ev [r.enc, r.enc] = some (.bool false) := by
  simp [Prim.ev, Rf.enc, PV.sameK, PV.same1]
theorem acmp_refl' (r : Rf) : (Prim.acmp .neq [.i .i64, .i .i64]).ev [r.enc, .agg [c 0 r.enc, c 1 r.enc]] = some (.bool false) := acmp_refl r
theorem ok_Texts_refl (l : List ByteArray) (hl : l.length ≤ 549755813888) : Ok P F.ref03_Texts [.sl (l.map .str), .sl (l.map .str)] (.bool true) := by
  refine k_ref03_Texts _ _ rfl (d_l (i ((l.map PV.str).length : Int)) e_len fun _ => d_l (i ((l.map PV.str).length : Int)) e_len fun _ => d_l _ (neq_refl _) fun _ => d_false (den_rounds (fun j => [i j]) l.length rfl (fun j hj => ?_) ?_))
  · have he : (l.map PV.str)[j]? = some (.str l[j]) := by simp [hj]
    refine d_l _ e_len fun _ => d_l (.bool (decide ((j : Int) < ((l.map PV.str).length : Int)))) rfl fun _ => d_dec (p := (j : Int) < ((l.map PV.str).length : Int)) (fun _ => ?_) fun h => absurd (show (j : Int) < ((l.map PV.str).length : Int) by simp; omega) h
    exact d_l _ (e_idx he rfl) fun _ => d_l _ (e_idx he rfl) fun _ => d_l _ (sneq_refl' _) fun _ => d_false (d_l _ (e_inc (by omega)) fun _ => d_cont rfl rfl)
  · refine d_l _ e_len fun _ => d_l (.bool (decide ((l.length : Int) < ((l.map PV.str).length : Int)))) rfl fun _ => d_dec (p := (l.length : Int) < ((l.map PV.str).length : Int)) (fun h => ?_) fun _ => d_ret rfl
    simp at h

theorem rfAt {rs : List Rf} {j : Nat} (h : j < rs.length) : (rs.map Rf.enc)[j]? = some (rs[j]).enc := by simp [h]
theorem ok_same (ds : List Nd) (hl : ds.length ≤ 549755813888) (hd : ∀ d ∈ ds, d.labels.length ≤ 549755813888 ∧ d.next.length ≤ 549755813888) : Ok P F.law07_same [.agg [.sl (ds.map Nd.enc)], .sl (ds.map Nd.enc)] (.bool true) := by
  have hlen : Prim.len.ev [.sl (ds.map Nd.enc)] = some (i (ds.length : Int)) := by rw [e_len]; simp
  refine k_law07_same _ _ rfl (d_l (.agg [.sl (ds.map Nd.enc)]) rfl fun _ => d_l _ hlen fun _ => d_l _ hlen fun _ => d_l _ (neq_refl _) fun _ => d_false (den_rounds (fun j => [i j]) ds.length rfl (fun j hj => ?_) ?_))
  · have hix := e_idx (n := 4) (a := true) (ndAt hj) (Nd.okc_enc _)
    obtain ⟨h1, h2⟩ := hd _ (List.getElem_mem hj)
    refine d_l _ hlen fun _ => d_l (.bool (decide ((j : Int) < (ds.length : Int)))) rfl fun _ => d_dec (p := (j : Int) < (ds.length : Int)) (fun _ => ?_) fun h => by omega
    generalize ds[j] = d at hix h1 h2
    have hnx : Prim.len.ev [c 3 d.enc] = some (i (d.next.length : Int)) := by
      show Prim.len.ev [.sl (d.next.map Rf.enc)] = _
      rw [e_len]; simp
    refine d_l _ hix fun _ => d_l _ (e_okc (Nd.okc_enc d)) fun _ => d_l _ hix fun _ => d_l _ (neq_refl d.kind) fun _ => d_false (d_l _ hix fun _ => d_l _ (neq_refl d.prio) fun _ => d_false (d_l _ hix fun _ => d_call (ok_Texts_refl d.labels h1) (d_l (.bool false) rfl fun _ => d_false (d_l _ hnx fun _ => d_l _ hix fun _ => d_l _ hnx fun _ => d_l _ (neq_refl _) fun _ => d_false ?_))))
    refine den_rounds (fun q => [i q]) d.next.length rfl (fun q hq => ?_) ?_
    · have hr : (Prim.idx 2 true).ev [c 3 d.enc, i (q : Int)] = some d.next[q].enc := e_idx (n := 2) (a := true) (rfAt hq) (Rf.okc_enc _)
      refine d_l _ hnx fun _ => d_l (.bool (decide ((q : Int) < (d.next.length : Int)))) rfl fun _ => d_dec (p := (q : Int) < (d.next.length : Int)) (fun _ => ?_) fun h => by omega
      exact d_l _ hr fun _ => d_l _ hix fun _ => d_l _ hr fun _ => d_l _ hix fun _ => d_l _ hr fun _ => d_l .nilI rfl fun _ => d_l _ (acmp_refl' d.next[q]) fun _ => d_false (d_l _ (e_inc (by omega)) fun _ => d_cont rfl rfl)
    · refine d_l _ hnx fun _ => d_l (.bool (decide ((d.next.length : Int) < (d.next.length : Int)))) rfl fun _ => d_dec (p := (d.next.length : Int) < (d.next.length : Int)) (fun h => by omega) fun _ => d_l _ (e_inc (by omega)) fun _ => d_cont rfl rfl
  · exact d_l _ hlen fun _ => d_l (.bool (decide ((ds.length : Int) < (ds.length : Int)))) rfl fun _ => d_dec (p := (ds.length : Int) < (ds.length : Int)) (fun h => by omega) fun _ => d_ret rfl

theorem ok_law07_GraphMatchesReference (aw : Ok P F.law07_awake [] (.bool true)) (l : List Ty) (hll : l.length ≤ 9223372036854775807) (hlim : ∀ t ∈ l, Lim t) : Ok P F.law07_GraphMatchesReference [.sl (l.map Ty.enc)] (.bool true) := by
  obtain ⟨b, hf, hw⟩ := ok_ref07_Few l hll hlim 10 200 (by omega) (by omega)
  refine k_law07_GraphMatchesReference _ _ rfl (d_call aw (d_l (.bool false) rfl fun _ => d_false (d_call hf (d_l (.bool !b) rfl fun _ => d_ite (fun _ => d_call aw (d_ret rfl)) fun h1 => ?_))))
  obtain ⟨hl10, hwf⟩ := hw (by simpa using h1)
  have hz : Ty.szs l ≤ 274877906944 := by
    have : Ty.szs l ≤ l.length * 200 := szs_bound' 200 l fun t ht => by have := (hwf t ht).1; omega
    omega
  obtain ⟨ds, rs, hB, hdl, hrl, hdk, hrk, rfl, rfl⟩ := ok_ref07_Build l (fun t ht => (hwf t ht).2) hz
  have hG := ok_graph_Build l (fun t ht => (hwf t ht).2) hz
  have hgl := gcs_le l
  have hS := ok_same (belowsF l 0 [] []) (by omega) fun d hd => by
    have := hdk d hd
    have n3 := this.n3; have n5 := this.n5; have n7 := this.n7; have k1 := this.k1; have ll := this.ll
    exact ⟨ll, by omega⟩
  have hlen : Prim.len.ev [.sl ((nextsF l 0 [] []).map Rf.enc)] = some (i ((nextsF l 0 [] []).length : Int)) := by rw [e_len]; simp
  refine d_call hG (d_l (.agg [.sl ((belowsF l 0 [] []).map Nd.enc)]) rfl fun _ => d_l (.sl ((nextsF l 0 [] []).map Rf.enc)) rfl fun _ => d_l (.agg [.sl ((belowsF l 0 [] []).map Nd.enc)]) rfl fun _ => d_call hB (d_l (.sl ((belowsF l 0 [] []).map Nd.enc)) rfl fun _ => d_l (.sl ((nextsF l 0 [] []).map Rf.enc)) rfl fun _ => d_call hS (d_l (.bool false) rfl fun _ => d_false (d_l _ hlen fun _ => d_l _ hlen fun _ => d_l _ (neq_refl _) fun _ => d_false ?_))))
  generalize nextsF l 0 [] [] = rs at *
  refine den_rounds (fun q => [i q]) rs.length rfl (fun q hq => ?_) ?_
  · have hr := e_idx (n := 2) (a := true) (rfAt hq) (Rf.okc_enc _)
    refine d_l _ hlen fun _ => d_l (.bool (decide ((q : Int) < (rs.length : Int)))) rfl fun _ => d_dec (p := (q : Int) < (rs.length : Int)) (fun _ => ?_) fun h => by omega
    exact d_l _ hr fun _ => d_l _ hr fun _ => d_l _ hr fun _ => d_l .nilI rfl fun _ => d_l _ (acmp_refl' rs[q]) fun _ => d_false (d_l _ (e_inc (by omega)) fun _ => d_cont rfl rfl)
  · exact d_l _ hlen fun _ => d_l (.bool (decide ((rs.length : Int) < (rs.length : Int)))) rfl fun _ => d_dec (p := (rs.length : Int) < (rs.length : Int)) (fun h => by omega) fun _ => d_ret rfl
end Go.Proofs.Ytodomlcjppdgfaa.Tx
