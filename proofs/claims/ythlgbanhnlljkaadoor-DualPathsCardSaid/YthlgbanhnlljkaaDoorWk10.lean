/- Contracts: the laws about duals. -/
import Derived.Test.YthlgbanhnlljkaaDoorWk9
set_option linter.all false
namespace Go.Proofs.YthlgbanhnlljkaaDoor.Tx
open Go.Lf Go.Lf.S Go.Lf.Duo
set_option maxRecDepth 100000

theorem szs_bound (m : Nat) : ∀ l : List Ty, (∀ t ∈ l, t.sz ≤ m) → Ty.szs l ≤ l.length * m
  | [], _ => by simp [Ty.szs]
  | t :: l, h => by
    have h1 := h t List.mem_cons_self
    have h2 := szs_bound m l fun x hx => h x (List.mem_cons_of_mem _ hx)
    simp only [Ty.szs, List.length_cons, Nat.add_mul, Nat.one_mul]
    omega

theorem built (l : List Ty) (a m : Nat) (hl : (l.length : Int) ≤ a) (ham : a * m ≤ 274877906944) (hs : ∀ t ∈ l, (t.sz : Int) ≤ m ∧ Wf t [] 0) :
    ∃ (ds : List Nd) (rs : List Rf), Ok P F.ref07_Build [.sl (l.map Ty.enc)] (.tup [.sl (ds.map Nd.enc), .sl (rs.map Rf.enc)]) ∧
      Ok P F.law08_Graph [.sl (l.map Ty.enc)] (.tup [.agg [.sl (ds.map Nd.enc)], .sl (rs.map Rf.enc)]) ∧ GrOk ds ∧ rs.length = l.length ∧
      ∀ (j : Nat) (r : Rf), rs[j]? = some r → 0 ≤ r.node ∧ r.node < ds.length ∧ 0 < ds.length := by
  have hz : Ty.szs l ≤ l.length * m := szs_bound m l fun t ht => by have := (hs t ht).1; omega
  have hz2 : l.length * m ≤ a * m := Nat.mul_le_mul_right _ (by omega)
  have hll := szs_len l
  have hgl := gcs_le l
  obtain ⟨ds, rs, hB, hd, hr, hds, hrs⟩ := ok_ref07_Build l (fun t ht => (hs t ht).2) (by omega)
  refine ⟨ds, rs, hB, ok_law08_Graph l hB (fun d hd' => (hds d hd').len) (by omega) (by omega), ⟨by omega, ?_⟩, hr, fun j r hj => ?_⟩
  · rw [hd]; exact hds
  · obtain ⟨h1, h2, _, _, h3⟩ := hrs j r hj
    omega

theorem acmp_rf (a b : Int) : (Prim.acmp .eql [.i .i64, .i .i64]).ev [.agg [i a, i b], .agg [i a, i b]] = some (.bool true) := by
  simp [Prim.ev, PV.sameK, PV.same1, i]
theorem acmpn_rf (a b : Int) : (Prim.acmp .neq [.i .i64, .i .i64]).ev [.agg [i a, i b], .agg [i a, i b]] = some (.bool false) := by
  simp [Prim.ev, PV.sameK, PV.same1, i]

theorem NdLen.dual {n : Int} {d : Nd} (h : NdLen d) : NdLen (dualN n d) := ⟨h.1, by simpa [dualN] using h.2⟩
theorem closeD_nd {ds : List Nd} (h : GrOk ds) : ∀ d ∈ closeD ds, NdLen d ∧ ∀ r ∈ d.next, 0 ≤ r.node ∧ r.node < (closeD ds).length := by
  intro d hd
  rw [closeD_len]
  simp only [closeD, List.mem_append, List.mem_map] at hd
  rcases hd with hd | ⟨e, he, rfl⟩
  · refine ⟨(h.2 d hd).len, fun r hr => ?_⟩
    have := (h.2 d hd).node r hr
    omega
  · refine ⟨(h.2 e he).len.dual, fun r hr => ?_⟩
    simp only [dualN, List.mem_mapIdx] at hr
    obtain ⟨j, hj, rfl⟩ := hr
    have := (h.2 e he).node _ (List.getElem_mem hj)
    unfold dualR
    split
    · show 0 ≤ e.next[j].node + (ds.length : Int) ∧ e.next[j].node + (ds.length : Int) < _
      omega
    · omega

theorem ok_law09_DualMatchesReference (aw : Ok P F.law09_awake [] (.bool true)) (l : List Ty) (hll : l.length ≤ 9223372036854775807) (hlim : ∀ t ∈ l, Lim t) (k : Int) : Ok P F.law09_DualMatchesReference [.sl (l.map Ty.enc), i k] (.bool true) := by
  obtain ⟨b, hf, hb⟩ := ok_ref07_Few l hll hlim 10 200 (by omega) (by omega)
  refine k_law09_DualMatchesReference _ _ rfl (d_call aw (d_l _ rfl fun _ => d_false (d_call hf (d_l _ rfl fun _ => d_ite (fun h => d_call aw (d_ret rfl)) fun h => ?_))))
  have hb := hb (by simpa using h)
  obtain ⟨ds, rs, hB, hG, hgr, hrl, hrs⟩ := built l 10 200 hb.1 (by omega) hb.2
  have hlen : ∀ d ∈ ds, NdLen d := fun d hd => (hgr.2 d hd).len
  have h1 := hgr.1
  refine d_call hG (d_l (.agg [.sl (ds.map Nd.enc)]) rfl fun _ => d_l _ rfl fun _ => d_l (.agg [.sl (ds.map Nd.enc)]) (by rfl) fun _ => d_call hB (d_l (.sl (ds.map Nd.enc)) rfl fun _ => d_l _ rfl fun _ => ?_))
  refine d_call (ok_dual_Close ds hgr.close) (d_call (ok_ref09_Close ds hgr) (d_call (ok_law09_same (closeD ds) (fun d hd => (closeD_nd hgr d hd).1) (by rw [closeD_len]; omega)) (d_true (d_call (ok_law09_same ds hlen (by omega)) (d_true ?_)))))
  refine d_call (ok_dual_Kind k) (d_call (ok_ref09_Kind k) (d_l _ rfl fun _ => d_ret ?_))
  show PV.bool (decide (dk k = dk k)) = _
  simp

theorem side_of {n m : Nat} (h : m < 2 * n) : ∃ (a : Nat) (b : Bool), a < n ∧ m = side n a b := by
  by_cases hm : m < n
  · exact ⟨m, false, hm, rfl⟩
  · refine ⟨m - n, true, by omega, ?_⟩
    simp [side]; omega
theorem side_lt {n a : Nat} (h : a < n) (b : Bool) : side n a b < 2 * n := by
  cases b <;> simp [side] <;> omega
theorem side_ne {n a : Nat} (h : a < n) (b : Bool) : side n a (!b) ≠ side n a b := by
  cases b <;> simp [side] <;> omega
theorem dk_dk (k : Int) : dk (dk k) = k := by unfold dk; split <;> (try split) <;> (try split) <;> (try split) <;> simp_all

theorem ok_law09_DualInvolution (aw : Ok P F.law09_awake [] (.bool true)) (l : List Ty) (hll : l.length ≤ 9223372036854775807) (hlim : ∀ t ∈ l, Lim t) (u : Nat) (hu : u ≤ 255) (v : Int) :
    Ok P F.law09_DualInvolution [.sl (l.map Ty.enc), .int .u8 u, .int .i16 v] (.bool true) := by
  obtain ⟨b, hf, hb⟩ := ok_ref07_Few l hll hlim 5 60 (by omega) (by omega)
  refine k_law09_DualInvolution _ _ rfl (d_call aw (d_l _ rfl fun _ => d_false (d_call hf (d_l _ rfl fun _ => d_ite (fun h => d_call aw (d_ret rfl)) fun h => ?_))))
  have hb := hb (by simpa using h)
  obtain ⟨ds, rs, hB, hG, hgr, hrl, hrs⟩ := built l 5 60 hb.1 (by omega) hb.2
  have h1 := hgr.1
  refine d_l _ e_len fun _ => d_l _ rfl fun _ => d_dec (fun h0 => d_call aw (d_ret rfl)) fun h0 => ?_
  have h0 : ¬ ((l.map Ty.enc).length : Int) = 0 := h0
  have hl0 : 0 < l.length := by rw [List.length_map] at h0; omega
  have hn : 0 < ds.length := (hrs 0 rs[0] (List.getElem?_eq_getElem (by omega))).2.2
  have hlenD : ((ds.map Nd.enc).length : Int) = (ds.length : Int) := by simp
  have hlenC : (((closeD ds).map Nd.enc).length : Int) = ((2 * ds.length : Nat) : Int) := by rw [List.length_map, closeD_len]
  refine d_call hG (d_l (.agg [.sl (ds.map Nd.enc)]) rfl fun _ => d_l _ rfl fun _ => d_l (.agg [.sl (ds.map Nd.enc)]) (by rfl) fun _ => d_call (ok_dual_Close ds hgr.close) ?_)
  refine d_l (.agg [.sl ((closeD ds).map Nd.enc)]) (by rfl) fun _ => d_l (i ((2 * ds.length : Nat) : Int)) (by rw [← hlenC]; exact e_len) fun _ => d_l (i (ds.length : Int)) (by rw [← hlenD]; exact e_len) fun _ => d_l _ (e_mul2 (by omega)) fun _ => d_l _ rfl fun _ => d_ndec (fun h => absurd rfl h) fun _ => ?_
  obtain ⟨a, sd, ha, hsd⟩ := side_of (n := ds.length) (m := u % (2 * ds.length)) (Nat.mod_lt _ (by omega))
  refine d_l (i (u : Int)) (by show some (PV.int .i64 (IntKind.i64.wrap (u : Int))) = _; rw [wrap_in (by omega) (by omega)]) fun _ => d_l (i ((2 * ds.length : Nat) : Int)) (by rw [← hlenC]; exact e_len) fun _ => ?_
  refine d_l (i (side ds.length a sd : Nat)) (by rw [← hsd]; exact e_rem (by omega)) fun _ => d_l (i (IntKind.i64.wrap v)) rfl fun _ => d_l _ rfl fun _ => ?_
  have hO1 := ok_dual_Of ds h1 a ha sd (IntKind.i64.wrap v)
  have hO2 := ok_dual_Of ds h1 a ha (!sd) (IntKind.i64.wrap v)
  rw [Bool.not_not] at hO2
  refine d_call hO1 (d_l (.agg [i (side ds.length a (!sd) : Nat), i (IntKind.i64.wrap v)]) rfl fun _ => d_l _ rfl fun _ => d_dec (fun h => ?_) fun _ => ?_)
  · have h : ((side ds.length a (!sd) : Nat) : Int) < 0 := h
    omega
  refine d_l (i ((2 * ds.length : Nat) : Int)) (by rw [← hlenC]; exact e_len) fun _ => d_l _ rfl fun _ => d_dec (fun h => ?_) fun _ => ?_
  · have h : ((2 * ds.length : Nat) : Int) ≤ ((side ds.length a (!sd) : Nat) : Int) := h
    have := side_lt ha (!sd)
    omega
  refine d_call hO2 (d_l _ (acmp_rf _ _) fun _ => d_true (d_l _ rfl fun _ => d_dec (fun _ => ?_) fun h => absurd rfl h))
  refine d_l _ rfl fun _ => d_ndec (fun _ => ?_) fun h => absurd (Int.ofNat.inj h) (side_ne ha sd)
  refine d_l _ (e_idx (closeD_at ha (!sd)) (Nd.okc_enc _)) fun _ => d_l _ (e_idx (closeD_at ha sd) (Nd.okc_enc _)) fun _ => d_call (ok_dual_Kind (ndS ds.length ds[a] sd).kind) (d_l _ rfl fun _ => d_dec (fun _ => ?_) fun h => absurd ?_ h)
  · refine d_l _ (e_idx (closeD_at ha (!sd)) (Nd.okc_enc _)) fun _ => d_l _ (e_idx (closeD_at ha sd) (Nd.okc_enc _)) fun _ => d_l _ rfl fun _ => d_ret ?_
    show PV.bool (decide ((ndS ds.length ds[a] (!sd)).prio = (ndS ds.length ds[a] sd).prio)) = _
    cases sd <;> simp [ndS, dualN]
  · show (ndS ds.length ds[a] (!sd)).kind = dk (ndS ds.length ds[a] sd).kind
    cases sd <;> simp [ndS, dualN, dk_dk]

theorem ndS_len (n : Nat) (d : Nd) (b : Bool) : ((ndS n d b).next.map Rf.enc).length = d.next.length := by cases b <;> simp [ndS, dualN]
theorem ndS_labels (n : Nat) (d : Nd) (b : Bool) : (ndS n d b).labels = d.labels := by cases b <;> rfl
theorem ndS_next {n : Nat} {d : Nd} {k : Nat} (hk : k < d.next.length) (h0 : 0 ≤ d.next[k].node) (hr : restB d.kind k = true) (b : Bool) : ((ndS n d b).next.map Rf.enc)[k]? = some (.agg [i ((side n d.next[k].node.toNat b : Nat) : Int), i d.next[k].shift]) := by
  cases b
  · rw [show ndS n d false = d from rfl, rf_at hk]
    have : ((side n d.next[k].node.toNat false : Nat) : Int) = d.next[k].node := by simp [side]; omega
    rw [this]; rfl
  · have hk' : k < (d.next.mapIdx (dualR n d.kind)).length := by simpa using hk
    rw [show (ndS n d true).next = d.next.mapIdx (dualR n d.kind) from rfl, rf_at hk', mapIdx_at hk]
    have : ((side n d.next[k].node.toNat true : Nat) : Int) = d.next[k].node + n := by simp [side]; omega
    rw [this]; simp only [dualR, hr, if_true]; rfl

/-- texts of small numbers -/
theorem bytes_of {tb t : Nat} (hb : P.underlying tb = some (.int .u8)) (ht : P.underlying t = some (.slice tb)) {x : PV} {m : Nat} (h : HasT P t x m) : ∃ ps : List Nat, x = .sl (ps.map fun u : Nat => PV.int .u8 (u : Int)) ∧ ps.length ≤ maxLen ∧ ∀ u ∈ ps, u ≤ 255 := by
  have hlen := fun (l : List PV) (e : x = .sl l) => hasT_len (m := m) (e ▸ h)
  obtain ⟨l, ms, rfl, hl, _, hh⟩ := hasT_sl ht h
  have key : ∀ l : List PV, (∀ y ∈ l, ∃ u : Nat, y = PV.int .u8 (u : Int) ∧ u ≤ 255) → ∃ ls : List Nat, l = ls.map (fun u : Nat => PV.int .u8 (u : Int)) ∧ ∀ u ∈ ls, u ≤ 255 := by
    intro l
    induction l with
    | nil => exact fun _ => ⟨[], rfl, (fun _ h => by cases h)⟩
    | cons y l ih =>
      intro hy
      obtain ⟨s, rfl, hs⟩ := hy _ List.mem_cons_self
      obtain ⟨ls, rfl, hls⟩ := ih fun y h => hy y (List.mem_cons_of_mem _ h)
      refine ⟨s :: ls, rfl, fun s' h' => ?_⟩
      rcases List.mem_cons.1 h' with e | e
      · rw [e]; exact hs
      · exact hls s' e
  obtain ⟨ls, rfl, hls⟩ := key l fun y hy => by
    obtain ⟨j, hj, rfl⟩ := List.getElem_of_mem hy
    have := hh j l[j] (ms[j]'(by omega)) (List.getElem?_eq_getElem hj) (List.getElem?_eq_getElem (by omega))
    obtain ⟨n, e, h1, h2⟩ := hasT_int hb this
    have h1 : 0 ≤ n := h1
    have h2 : n ≤ 255 := h2
    exact ⟨n.toNat, by rw [e]; congr 1; omega, by omega⟩
  refine ⟨ls, rfl, ?_, hls⟩
  simpa using hlen _ rfl

theorem by_at {ps : List Nat} {j : Nat} (h : j < ps.length) : (ps.map fun u : Nat => PV.int .u8 (u : Int))[j]? = some (PV.int .u8 (ps[j] : Int)) := by simp [h]

theorem ok_law09_DualPaths (aw : Ok P F.law09_awake [] (.bool true)) (t : Ty) (hlim : Lim t) (ps : List Nat) (hps : ∀ u ∈ ps, u ≤ 255) :
    Ok P F.law09_DualPaths [t.enc, .sl (ps.map fun u : Nat => PV.int .u8 (u : Int))] (.bool true) := by
  obtain ⟨b, hf, hb⟩ := ok_ref02_Small t hlim 60 (by omega) (by omega)
  refine k_law09_DualPaths _ _ rfl (d_l t.enc (e_okc (Ty.okc_enc t)) fun _ => d_call aw (d_l _ rfl fun _ => d_false (d_call hf (d_l _ rfl fun _ => d_ite (fun h => d_call aw (d_ret rfl)) fun h => ?_))))
  have hb := hb (by simpa using h)
  obtain ⟨ds, rs, hB, hG, hgr, hrl, hrs⟩ := built [t] 1 60 (by simp) (by omega) (fun x hx => by simp at hx; subst hx; exact hb)
  have h1 := hgr.1
  have hgd := closeD_nd hgr
  have hlenD : ((ds.map Nd.enc).length : Int) = (ds.length : Int) := by simp
  have hlenC : (((closeD ds).map Nd.enc).length : Int) = ((2 * ds.length : Nat) : Int) := by rw [List.length_map, closeD_len]
  refine d_call (ok_ref02_Session t) (d_l _ rfl fun _ => d_ite (fun h => d_call aw (d_ret rfl)) fun _ => d_l _ e_len fun _ => d_l _ rfl fun _ => d_dec (fun h => d_call aw (d_ret rfl)) fun hlp => ?_)
  have hlp : ¬ (20 : Int) < ((ps.map fun u : Nat => PV.int .u8 (u : Int)).length : Int) := hlp
  rw [List.length_map] at hlp
  refine d_l (.sl [t.enc]) (e_lst (fun x hx => by simp at hx; subst hx; exact Ty.okc_enc _)) fun _ => d_call hG (d_l (.agg [.sl (ds.map Nd.enc)]) rfl fun _ => d_l (.sl (rs.map Rf.enc)) rfl fun _ => d_l (.agg [.sl (ds.map Nd.enc)]) (by rfl) fun _ => d_call (ok_dual_Close ds hgr.close) ?_)
  refine d_l (.agg [.sl ((closeD ds).map Nd.enc)]) (by rfl) fun _ => d_call (ok_law09_back (closeD ds) (by rw [closeD_len]; omega) (fun d hd => (hgd d hd).1) (fun d hd => (hgd d hd).2)) (d_l (.sl ((closeD ds).map Nd.enc)) rfl fun _ => d_l (.bool true) rfl fun _ => d_l _ rfl fun _ => d_false ?_)
  refine d_l (i ((2 * ds.length : Nat) : Int)) (by rw [← hlenC]; exact e_len) fun _ => d_l (i (ds.length : Int)) (by rw [← hlenD]; exact e_len) fun _ => d_l _ (e_mul2 (by omega)) fun _ => d_l _ rfl fun _ => d_ndec (fun h => absurd rfl h) fun _ => ?_
  have hr0 : 0 < rs.length := by rw [hrl]; simp
  have hrn := hrs 0 rs[0] (List.getElem?_eq_getElem hr0)
  have hre : rs[0].enc = .agg [i ((side ds.length rs[0].node.toNat false : Nat) : Int), i rs[0].shift] := by
    have : ((side ds.length rs[0].node.toNat false : Nat) : Int) = rs[0].node := by simp [side]; omega
    rw [this]; rfl
  have hO := ok_dual_Of ds h1 rs[0].node.toNat (by omega) false rs[0].shift
  refine d_l _ (e_idx (k := 0) (rf_at hr0) (Rf.okc_enc _)) fun _ => d_l _ (e_okc (Rf.okc_enc _)) fun _ => ?_
  rw [hre]
  refine d_call hO (d_l (.agg [i ((side ds.length rs[0].node.toNat (!false) : Nat) : Int), i rs[0].shift]) (by rfl) fun _ => ?_)
  refine den_loop (fun m ys => ∃ (j a : Nat) (sd : Bool) (s : Int), j + m = ps.length ∧ a < ds.length ∧ ys = [i j, .agg [i ((side ds.length a sd : Nat) : Int), i s], .agg [i ((side ds.length a (!sd) : Nat) : Int), i s]]) ps.length
    ⟨0, rs[0].node.toNat, false, rs[0].shift, by omega, by omega, rfl⟩ ?_
  rintro m _ ⟨j, a, sd, s, hj, ha, rfl⟩
  refine d_l _ e_len fun _ => d_l _ rfl fun _ => d_dec (fun h => ?_) fun _ => d_ret rfl
  have hjl : (j : Int) < ((ps.map fun u : Nat => PV.int .u8 (u : Int)).length : Int) := h
  rw [List.length_map] at hjl
  have hjl : j < ps.length := by omega
  have hl1 := side_lt ha sd
  have hl2 := side_lt ha (!sd)
  refine d_l _ rfl fun _ => d_dec (fun h => ?_) fun _ => d_l (i ((2 * ds.length : Nat) : Int)) (by rw [← hlenC]; exact e_len) fun _ => d_l _ rfl fun _ => d_dec (fun h => ?_) fun _ => ?_
  · have h : ((side ds.length a (!sd) : Nat) : Int) < 0 := h
    omega
  · have h : ((2 * ds.length : Nat) : Int) ≤ ((side ds.length a (!sd) : Nat) : Int) := h
    omega
  refine d_l _ rfl fun _ => d_dec (fun h => ?_) fun _ => d_l (i ((2 * ds.length : Nat) : Int)) (by rw [← hlenC]; exact e_len) fun _ => d_l _ rfl fun _ => d_dec (fun h => ?_) fun _ => ?_
  · have h : ((side ds.length a sd : Nat) : Int) < 0 := h
    omega
  · have h : ((2 * ds.length : Nat) : Int) ≤ ((side ds.length a sd : Nat) : Int) := h
    omega
  have hA : ∀ {Q : Prop}, (True → Q) → True → Q := fun h _ => h trivial
  have eA := e_idx (a := true) (n := 4) (closeD_at ha sd) (Nd.okc_enc _)
  have eB := e_idx (a := true) (n := 4) (closeD_at ha (!sd)) (Nd.okc_enc _)
  have eL : ∀ b : Bool, Prim.len.ev [.sl ((ndS ds.length ds[a] b).next.map Rf.enc)] = some (i (ds[a].next.length : Int)) := fun b => by rw [← ndS_len ds.length ds[a] b]; exact e_len
  have eLb : Prim.len.ev [.sl ((ndS ds.length ds[a] sd).labels.map PV.str)] = some (i (ds[a].labels.length : Int)) := by rw [ndS_labels, ← List.length_map PV.str]; exact e_len
  have hnd := hgr.2 ds[a] (List.getElem_mem ha)
  have hndl := hnd.len.2
  refine d_l _ eA fun _ => d_l _ (eL sd) fun _ => d_l _ eB fun _ => d_l _ (eL (!sd)) fun _ => d_l _ rfl fun _ => d_ndec (fun h => absurd rfl h) fun _ => ?_
  refine d_l _ eA fun _ => d_l _ (eL sd) fun _ => d_l _ rfl fun _ => d_dec (fun _ => d_ret rfl) fun h0 => ?_
  have h0 : ¬ (ds[a].next.length : Int) = 0 := h0
  have hu := hps ps[j] (List.getElem_mem hjl)
  refine d_l _ (e_idx (by_at hjl) rfl) fun _ => d_l (i (ps[j] : Int)) (by show some (PV.int .i64 (IntKind.i64.wrap (ps[j] : Int))) = _; rw [wrap_in (by omega) (by omega)]) fun _ => d_l _ (e_rem (by omega)) fun _ => ?_
  have step : ∀ k : Nat, (hk : k < ds[a].next.length) → restB ds[a].kind k = true → ∀ b : Bool, ((ndS ds.length ds[a] b).next.map Rf.enc)[k]? = some (.agg [i ((side ds.length ds[a].next[k].node.toNat b : Nat) : Int), i ds[a].next[k].shift]) :=
    fun k hk hr b => ndS_next hk (hnd.node _ (List.getElem_mem hk)).1 hr b
  refine d_l _ eA fun _ => d_l _ eLb fun _ => d_l _ rfl fun _ => d_dec (fun hz => ?_) fun hz => ?_
  · have hz : (ds[a].labels.length : Int) = 0 := hz
    have hk : ds[a].next.length - 1 < ds[a].next.length := by omega
    have hrest : restB ds[a].kind (ds[a].next.length - 1) = true := by
      have g1 := hnd.k1; have g3 := hnd.n3; have g5 := hnd.n5; have g7 := hnd.n7
      clear hnd
      simp only [restB, Bool.or_eq_true, decide_eq_true_eq]
      omega
    have hn := hnd.node _ (List.getElem_mem hk)
    have s1 := step _ hk hrest sd
    have s2 := step _ hk hrest (!sd)
    have hO := ok_dual_Of ds h1 ds[a].next[ds[a].next.length - 1].node.toNat (by omega) sd (IntKind.i64.wrap (ds[a].next[ds[a].next.length - 1].shift + s))
    refine d_l (i ((ds[a].next.length - 1 : Nat) : Int)) (by rw [e_sub (by omega) (by omega)]; congr 2; omega) fun _ => d_l _ eA fun _ => d_l _ (e_idx s1 rfl) fun _ => d_l _ (e_okc rfl) fun _ => d_l _ eB fun _ => d_l _ (e_idx s2 rfl) fun _ => d_l _ (e_okc rfl) fun _ => ?_
    refine d_l (i (IntKind.i64.wrap (ds[a].next[ds[a].next.length - 1].shift + s))) rfl fun _ => d_l _ rfl fun _ => d_l (i (IntKind.i64.wrap (ds[a].next[ds[a].next.length - 1].shift + s))) rfl fun _ => d_l _ rfl fun _ => d_call hO (d_l _ (acmpn_rf _ _) fun _ => d_false (d_l _ (e_inc (by omega)) fun _ => d_cont rfl ?_))
    exact ⟨m - 1, by omega, j + 1, _, sd, _, by omega, by omega, rfl⟩
  · have hz : ¬ (ds[a].labels.length : Int) = 0 := hz
    have hk : ps[j] % ds[a].next.length < ds[a].next.length := Nat.mod_lt _ (by omega)
    have hrest : restB ds[a].kind (ps[j] % ds[a].next.length) = true := by
      have g1 := hnd.k1; have g3 := hnd.n3; have g5 := hnd.n5; have g7 := hnd.n7
      clear hnd
      simp only [restB, Bool.or_eq_true, decide_eq_true_eq]
      omega
    have hn := hnd.node _ (List.getElem_mem hk)
    have s1 := step _ hk hrest sd
    have s2 := step _ hk hrest (!sd)
    have hO := ok_dual_Of ds h1 ds[a].next[ps[j] % ds[a].next.length].node.toNat (by omega) sd (IntKind.i64.wrap (ds[a].next[ps[j] % ds[a].next.length].shift + s))
    refine d_l _ eA fun _ => d_l _ (e_idx s1 rfl) fun _ => d_l _ (e_okc rfl) fun _ => d_l _ eB fun _ => d_l _ (e_idx s2 rfl) fun _ => d_l _ (e_okc rfl) fun _ => ?_
    refine d_l (i (IntKind.i64.wrap (ds[a].next[ps[j] % ds[a].next.length].shift + s))) rfl fun _ => d_l _ rfl fun _ => d_l (i (IntKind.i64.wrap (ds[a].next[ps[j] % ds[a].next.length].shift + s))) rfl fun _ => d_l _ rfl fun _ => d_call hO (d_l _ (acmpn_rf _ _) fun _ => d_false (d_l _ (e_inc (by omega)) fun _ => d_cont rfl ?_))
    exact ⟨m - 1, by omega, j + 1, _, sd, _, by omega, by omega, rfl⟩

end Go.Proofs.YthlgbanhnlljkaaDoor.Tx
