/- The package audit: Prune, exactly. -/
import Derived.Test.YtbfjpjllaibooaaGreatWk134
set_option linter.all false
namespace Go.Proofs.YtbfjpjllaibooaaGreat.Tx
open Go.Lf Go.Lf.S Go.Lf.Duo
set_option maxRecDepth 100000

theorem sb_etA (e : Et) : sb 1 6 e.enc = e.t.enc := by
  obtain ⟨s, ⟨a, b, c, d, f, g⟩⟩ := e
  simp only [Et.enc, Ty.enc_mk]; rfl
theorem upd_et (ps : List Et) (j : Nat) (h : j < ps.length) : (Prim.updF 7 1 6 true).ev [.sl (ps.map Et.enc), i (j : Int), ps[j].t.enc] = some (.sl (ps.map Et.enc)) := by
  have hx : (ps.map Et.enc)[j]? = some ps[j].enc := mp_at h
  show (if (0 : Int) ≤ (j : Int) ∧ (j : Int) < ((ps.map Et.enc).length : Int) ∧ 1 + 6 ≤ 7 ∧ (ps[j].t.enc).okc 6 true then match (ps.map Et.enc)[(j : Int).toNat]? with
      | some e => if e.okc 7 true then some (PV.sl ((ps.map Et.enc).set (j : Int).toNat (.agg (e.cells.take 1 ++ (ps[j].t.enc).cells ++ e.cells.drop (1 + 6))))) else none
      | none => none else none) = _
  rw [if_pos ⟨by omega, by simp; omega, by omega, Ty.okc_enc _⟩, Int.toNat_natCast, hx]
  simp only [Et.okc_enc, if_true]
  have e : PV.agg (ps[j].enc.cells.take 1 ++ (ps[j].t.enc).cells ++ ps[j].enc.cells.drop (1 + 6)) = ps[j].enc := by
    generalize ps[j] = e
    obtain ⟨s, ⟨a, b, c, d, f, g⟩⟩ := e
    simp only [Et.enc, Ty.enc_mk]; rfl
  rw [e, set_same hx]

theorem okS_cloneP (ps : List Et) (h : ps.length ≤ 549755813888) : OkS P F.slices_Clone_api_Param_api_Param sg_slices_Clone_api_Param_api_Param [.sl (ps.map Et.enc)] [.sl (ps.map Et.enc)] :=
  m_slices_Clone_api_Param_api_Param _ _ (d_nilq (fun h => d_ret (by rw [h])) (d_l (.sl []) rfl fun _ => d_l _ (e_app (l := []) (m := ps.map Et.enc) (all_map Et.okc_enc _) (by simp; omega) (by simp; omega)) fun _ => d_ret (by rw [List.nil_append])))

theorem ok_copied (d : Df) (h : DLn d) : Ok P F.audit_copied [d.enc] d.enc := by
  have hb := ok_pCopy34 d.body h.body
  have hps := h.ps
  have hl := h.len
  obtain ⟨nm, ps, ⟨k, ch, v, ls, ar, t, ks⟩⟩ := d
  have hl : ps.length ≤ 549755813888 := hl
  simp only [Pr.enc_mk] at hb
  simp only [Df.enc, Pr.enc_mk, PV.cells]
  refine k_audit_copied _ _ rfl (d_l (.agg [.str nm, .sl (ps.map Et.enc), i k, .str ch, .str v, .sl (ls.map .str), .sl (ar.map Vl.enc), i t.kind, i t.prio, .str t.name, i t.shift, .sl (t.labels.map .str), .sl (t.kids.map Ty.enc), .sl (ks.map Pr.enc)]) rfl fun _ => d_calls rfl (okS_cloneP ps hl) (d_l _ (len_eq ps) fun _ => ?_))
  refine den_rounds (fun j => [i j, .sl (ps.map Et.enc)]) ps.length rfl (fun j hj => ?_) ?_
  · have hc := ok_tCopy34 ps[j].t (hps _ (List.getElem_mem hj))
    rw [← sb_etA] at hc
    have hix := e_idx (n := 7) (a := true) (mp_at (f := Et.enc) hj) (Et.okc_enc _)
    refine d_l (.bool (decide ((j : Int) < (ps.length : Int)))) rfl fun _ => d_dec (p := (j : Int) < (ps.length : Int)) (fun h => ?_) fun h => absurd (show (j : Int) < (ps.length : Int) by omega) h
    exact d_l _ hix fun _ => d_l _ hix fun _ => d_l _ (e_okc (Et.okc_enc _)) fun _ => d_call hc (d_l _ hix fun _ => d_l _ (by rw [sb_etA]; exact upd_et ps j hj) fun _ => d_l _ (e_inc (by omega)) fun _ => d_cont rfl rfl)
  · refine d_l (.bool (decide ((ps.length : Int) < (ps.length : Int)))) rfl fun _ => d_dec (p := (ps.length : Int) < (ps.length : Int)) (fun h => by omega) fun _ => ?_
    exact d_call hb (d_l _ rfl fun _ => d_ret rfl)

theorem ok_Contains27 (l : List ByteArray) (s : ByteArray) (hl : l.length ≤ 549755813888) : Ok P F.slices_Contains_string_string [.sl (l.map .str), .str s] (.bool (pb (s ∈ l))) := by
  have : ∃ r : Int, Ok P F.slices_Index_string_string [.sl (l.map .str), .str s] (i r) ∧ (0 ≤ r ↔ s ∈ l) := by
    have := tx_ex (K := fun x => ∃ r : Int, x = i r ∧ (0 ≤ r ↔ s ∈ l)) k_slices_Index_string_string (xs := [.sl (l.map .str), .str s]) rfl (by simp [t_slices_Index_string_string, T.dt]) (by
      refine d_l _ (len_eq l) fun _ => ?_
      refine den_loop (fun m' ys => ∃ j : Nat, j + m' = l.length ∧ s ∉ l.take j ∧ ys = [i j]) l.length ⟨0, by omega, by simp, rfl⟩ ?_
      rintro m' _ ⟨j, hj, hno, rfl⟩
      refine d_l (.bool (decide ((j : Int) < (l.length : Int)))) rfl fun _ => d_dec (p := (j : Int) < (l.length : Int)) (fun h => ?_) fun h => d_ret ⟨-1, rfl, ?_⟩
      · have hjl : j < l.length := by omega
        refine d_l _ (e_idx (mp_at (f := PV.str) hjl) rfl) fun _ => d_l (.bool (decide (s = l[j]))) rfl fun _ => d_dec (p := s = l[j]) (fun e => d_ret ⟨j, rfl, ⟨fun _ => e ▸ List.getElem_mem hjl, fun _ => by omega⟩⟩) fun e => d_l _ (e_inc (by omega)) fun _ => d_cont rfl ⟨m' - 1, by omega, j + 1, by omega, fun hc => ?_, rfl⟩
        rw [List.take_succ_eq_append_getElem hjl] at hc
        rcases List.mem_append.1 hc with hc | hc
        · exact hno hc
        · exact e (List.mem_singleton.1 hc)
      · rw [List.take_of_length_le (by omega)] at hno
        exact ⟨fun h => by omega, fun h => absurd h hno⟩)
    obtain ⟨_, ⟨r, rfl, hr⟩, h⟩ := this
    exact ⟨r, h, hr⟩
  obtain ⟨r, hr, hm⟩ := this
  refine k_slices_Contains_string_string _ _ rfl (d_call hr (d_l (.bool (decide (0 ≤ r))) rfl fun _ => d_ret ?_))
  rw [← pb_congr hm]
  unfold pb
  congr

noncomputable def prunP (p : Pg) : Pg := ⟨p.defs.filter fun d => pb (d.name ∈ reN p), p.main⟩
theorem ok_Prune27 (p : Pg) (hb : PB p) (hg : GLn p) : Ok P F.audit_Prune [p.enc] (prunP p).enc := by
  have hm := ok_pCopy34 p.main hg.main
  have hR := ok_Reached27 p hb
  have hdl := hb.dl
  have hds := hg.defs
  have hrl : (reN p).length ≤ 549755813888 := by
    unfold reN
    rw [List.length_map]
    have := List.length_filter_le (fun d : Df => pb (Rc (gP p) (coll callF p.main) d.name)) p.defs
    omega
  have hC := fun s => ok_Contains27 (reN p) s hrl
  rw [← sb_mainA p] at hm
  unfold prunP
  generalize reN p = R at *
  obtain ⟨ds, ⟨k, ch, v, ls, ar, t, ks⟩⟩ := p
  have hm : Ok P F.proctree_Copy _ (Pr.mk k ch v ls ar t ks).enc := (sb_mainA ⟨ds, .mk k ch v ls ar t ks⟩) ▸ hm
  simp only [Pg.enc, Pr.enc_mk, PV.cells] at hm hR ⊢
  refine k_audit_Prune _ _ rfl (d_l (.agg [.sl (ds.map Df.enc), i k, .str ch, .str v, .sl (ls.map .str), .sl (ar.map Vl.enc), i t.kind, i t.prio, .str t.name, i t.shift, .sl (t.labels.map .str), .sl (t.kids.map Ty.enc), .sl (ks.map Pr.enc)]) rfl fun _ => d_call hm (d_l _ rfl fun _ => d_call hR (d_l _ (len_eq ds) fun _ => ?_)))
  refine den_rounds (fun j => [i j, .sl (((ds.take j).filter fun d => pb (d.name ∈ R)).map Df.enc), i k, .str ch, .str v, .sl (ls.map .str), .sl (ar.map Vl.enc), i t.kind, i t.prio, .str t.name, i t.shift, .sl (t.labels.map .str), .sl (t.kids.map Ty.enc), .sl (ks.map Pr.enc)]) ds.length rfl (fun j hj => ?_) ?_
  · have htk : ds.take (j + 1) = ds.take j ++ [ds[j]] := List.take_succ_eq_append_getElem hj
    have hcp := ok_copied ds[j] (hds _ (List.getElem_mem hj))
    have hfl : ((ds.take j).filter fun d => pb (d.name ∈ R)).length ≤ 1000000 := by
      have := List.length_filter_le (fun d : Df => pb (d.name ∈ R)) (ds.take j)
      rw [List.length_take] at this
      have hdl : ds.length ≤ 1000000 := hdl
      omega
    have hdl : ds.length ≤ 1000000 := hdl
    refine d_l (.bool (decide ((j : Int) < (ds.length : Int)))) rfl fun _ => d_dec (p := (j : Int) < (ds.length : Int)) (fun h => ?_) fun h => absurd (show (j : Int) < (ds.length : Int) by omega) h
    refine d_l _ (e_idx (mp_at (f := Df.enc) hj) (Df.okc_enc _)) fun _ => d_l _ (e_okc (Df.okc_enc _)) fun _ => d_call (hC ds[j].name) (d_ite (fun h1 => ?_) fun h1 => ?_)
    · refine d_call hcp (d_l (.sl [ds[j].enc]) (e_lst fun x hx => by simp at hx; subst hx; exact Df.okc_enc _) fun _ => d_l (.sl (((ds.take j).filter fun d => pb (d.name ∈ R)).map Df.enc ++ [ds[j].enc])) (e_app (m := [ds[j].enc]) (fun x hx => by simp at hx; subst hx; exact Df.okc_enc _) (by simp; omega) (by simp; omega)) fun _ => d_l _ (e_inc (by omega)) fun _ => d_cont rfl ?_)
      rw [htk, List.filter_append, List.filter_cons, h1, List.map_append]
      rfl
    · refine d_l _ (e_inc (by omega)) fun _ => d_cont rfl ?_
      rw [htk, List.filter_append, List.filter_cons, h1]
      simp
  · refine d_l (.bool (decide ((ds.length : Int) < (ds.length : Int)))) rfl fun _ => d_dec (p := (ds.length : Int) < (ds.length : Int)) (fun h => by omega) fun _ => d_ret ?_
    rw [List.take_length]; rfl
end Go.Proofs.YtbfjpjllaibooaaGreat.Tx
