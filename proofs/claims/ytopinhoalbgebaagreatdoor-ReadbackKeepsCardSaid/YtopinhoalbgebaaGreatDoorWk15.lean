/- Contracts (Wk7, Wk40, Wk8, Wk9, Wk11, Wk12, Wk13, Wk14, Wk15). -/
import Derived.Test.YtopinhoalbgebaaGreatDoorWk6
set_option linter.all false
/- Contracts: graphs of lists of types; closed graphs. -/
namespace Go.Proofs.YtopinhoalbgebaaGreatDoor.Tx
open Go.Lf Go.Lf.S Go.Lf.Duo
set_option maxRecDepth 100000

theorem ok_ref07_Build (l : List Ty) (hwf : ∀ t ∈ l, Wf t [] 0) (hz : Ty.szs l ≤ 274877906944) :
    ∃ (ds : List Nd) (rs : List Rf), Ok P F.ref07_Build [.sl (l.map Ty.enc)] (.tup [.sl (ds.map Nd.enc), .sl (rs.map Rf.enc)]) ∧ ds.length = gcs l ∧ rs.length = l.length ∧ (∀ d ∈ ds, NdOk 0 (gcs l) [] d) ∧
      (∀ (j : Nat) (r : Rf), rs[j]? = some r → 0 ≤ r.node ∧ r.node < gcs l ∧ 0 ≤ r.shift ∧ r.shift ≤ 1000000 ∧ 0 < gcs l) ∧ ds = belowsF l 0 [] [] ∧ rs = nextsF l 0 [] [] := by
  have hll := szs_len l
  have hgl := gcs_le l
  have := tx_ex (K := fun x => ∃ (ds : List Nd) (rs : List Rf), x = .tup [.sl (ds.map Nd.enc), .sl (rs.map Rf.enc)] ∧ ds.length = gcs l ∧ rs.length = l.length ∧ (∀ d ∈ ds, NdOk 0 (gcs l) [] d) ∧
      (∀ (j : Nat) (r : Rf), rs[j]? = some r → 0 ≤ r.node ∧ r.node < gcs l ∧ 0 ≤ r.shift ∧ r.shift ≤ 1000000 ∧ 0 < gcs l) ∧ ds = belowsF l 0 [] [] ∧ rs = nextsF l 0 [] []) k_ref07_Build (xs := [.sl (l.map Ty.enc)]) rfl (by simp [t_ref07_Build, T.dt]) (by
    refine den_loop (fun m ys => ∃ (j : Nat) (ds : List Nd) (rs : List Rf), j + m = l.length ∧ ds.length = gcs (l.take j) ∧ rs.length = j ∧ (∀ d ∈ ds, NdOk 0 (gcs l) [] d) ∧
      (∀ (j : Nat) (r : Rf), rs[j]? = some r → 0 ≤ r.node ∧ r.node < gcs l ∧ 0 ≤ r.shift ∧ r.shift ≤ 1000000 ∧ 0 < gcs l) ∧ ds = belowsF (l.take j) 0 [] [] ∧ rs = nextsF (l.take j) 0 [] [] ∧ ys = [i j, .sl (rs.map Rf.enc), .sl (ds.map Nd.enc)]) l.length
      ⟨0, [], [], by omega, by simp [gcs], rfl, (fun _ h => by cases h), (fun j r h => by simp at h), by simp [belowsF], by simp [nextsF], rfl⟩ ?_
    rintro m _ ⟨j, ds, rs, hj, hdl, hrl, hds, hrs, hdf, hrf, rfl⟩
    refine d_l _ e_len fun _ => d_l _ rfl fun _ => d_dec (fun h => ?_) fun h => ?_
    · have h : (j : Int) < ((l.map Ty.enc).length : Int) := h
      have hlt : j < l.length := by simp at h; omega
      have hmem : l[j] ∈ l := List.getElem_mem hlt
      have hgt := gcs_take l j hlt
      have hgt2 := gcs_take_le l (j + 1)
      have hsj := Ty.szs_mem hmem
      have hgj := gc_le l[j]
      have e1 : ((ds.map Nd.enc).length : Int) = (gcs (l.take j) : Int) := by simp [hdl]
      obtain ⟨r, hr, hrin, hre⟩ := ok_ref07_reference l[j] [] [] (gcs (l.take j) : Int) [] 0 (hwf _ hmem) (Nat.le_refl _) rfl (fun _ h => by cases h) (by simp)
      obtain ⟨es, he, hel, hek, hee⟩ := ok_ref07_nodes l[j] [] [] (gcs (l.take j) : Int) 0 (hwf _ hmem) (Nat.le_refl _) rfl (fun _ h => by cases h) (by simp; omega) (by omega) (by omega)
      refine d_l _ (e_idx (ty_at hlt) (Ty.okc_enc _)) fun _ => d_l (i (gcs (l.take j) : Int)) (by rw [← e1]; exact e_len) fun _ => d_call hr (d_l _ (e_lst (fun x hx => by simp at hx; subst hx; exact Rf.okc_enc r)) fun _ => d_l _ (e_app (fun x hx => by simp at hx; subst hx; exact Rf.okc_enc r) (by simp; omega) (by simp; omega)) fun _ => ?_)
      refine d_l _ (e_idx (ty_at hlt) (Ty.okc_enc _)) fun _ => d_l (i (gcs (l.take j) : Int)) (by rw [← e1]; exact e_len) fun _ => d_call he (d_l _ (e_app (all_map Nd.okc_enc _) (by simp; omega) (by simp; omega)) fun _ => d_l _ (e_inc (by omega)) fun _ => d_cont rfl ⟨m - 1, by omega, j + 1, ds ++ es, rs ++ [r], by omega, by simp; omega, by simp [hrl], fun d hd => ?_, fun j' r' hr' => ?_, by rw [belowsF_take l j hlt, ← hdf, Int.zero_add, ← hee], by rw [nextsF_take l j hlt, ← hrf, Int.zero_add, ← hre], by simp⟩)
      · rcases List.mem_append.1 hd with hd | hd
        · exact hds d hd
        · exact (hek d hd).weak (fun q hq => by cases hq) (by omega) (by omega)
      · rw [List.getElem?_append] at hr'
        split at hr'
        · exact hrs j' r' hr'
        · have : r' = r := by
            have := List.mem_of_getElem? hr'
            simpa using this
          subst this
          obtain ⟨h1, h2, h3⟩ := hrin
          rcases h1 with ⟨q, hq, _⟩ | ⟨h1, hp⟩
          · cases hq
          · simp at h3
            exact ⟨by omega, by omega, h2, h3, by omega⟩
    · have h : ¬ (j : Int) < ((l.map Ty.enc).length : Int) := h
      have ht : l.take j = l := List.take_of_length_le (by simp at h; omega)
      rw [ht] at hdl hdf hrf
      exact d_ret ⟨ds, rs, rfl, hdl, by simp at h; omega, hds, hrs, hdf, hrf⟩)
  obtain ⟨_, ⟨ds, rs, rfl, h1, h2, h3, h4, h5⟩, h⟩ := this
  exact ⟨ds, rs, h, h1, h2, h3, h4, h5⟩

theorem nd_at {ds : List Nd} {j : Nat} (h : j < ds.length) : (ds.map Nd.enc)[j]? = some (ds[j]).enc := by simp [h]
theorem take_enc {α : Type} {f : α → PV} {l : List α} {j : Nat} (h : j < l.length) : ((l.take j).map f) ++ [f l[j]] = (l.take (j + 1)).map f := by
  rw [List.take_succ_eq_append_getElem h, List.map_append]; rfl

/-- sizes of a node's lists -/
def NdLen (d : Nd) : Prop := d.labels.length ≤ 549755813888 ∧ d.next.length ≤ 549755813888
theorem NdOk.len {lo hi : Int} {refs : List Rf} {d : Nd} (h : NdOk lo hi refs d) : NdLen d := by
  refine ⟨h.ll, ?_⟩
  have h1 := h.k1; have h2 := h.n3; have h3 := h.n5; have h4 := h.n7; have h5 := h.ll
  omega

theorem ok_law08_Graph (l : List Ty) {ds : List Nd} {rs : List Rf} (hB : Ok P F.ref07_Build [.sl (l.map Ty.enc)] (.tup [.sl (ds.map Nd.enc), .sl (rs.map Rf.enc)])) (hl : ∀ d ∈ ds, NdLen d) (hd : ds.length ≤ 549755813888) (hr : rs.length ≤ 549755813888) :
    Ok P F.law08_Graph [.sl (l.map Ty.enc)] (.tup [.agg [.sl (ds.map Nd.enc)], .sl (rs.map Rf.enc)]) := by
  refine k_law08_Graph _ _ rfl (d_call hB (d_l _ rfl fun _ => d_l _ rfl fun _ => ?_))
  refine den_rounds (fun j => [i j, .sl ((ds.take j).map Nd.enc)]) ds.length rfl (fun j hj => ?_) ?_
  · refine d_l _ e_len fun _ => d_l _ rfl fun _ => d_dec (fun h => ?_) fun h => absurd (show (j : Int) < ((ds.map Nd.enc).length : Int) by simp; omega) h
    have hjd := hl ds[j] (List.getElem_mem hj)
    obtain ⟨hl1, hl2⟩ := hjd
    refine d_l _ (e_idx (nd_at hj) (Nd.okc_enc _)) fun _ => d_l _ (e_idx (nd_at hj) (Nd.okc_enc _)) fun _ => d_l _ rfl fun _ => d_l _ (e_idx (nd_at hj) (Nd.okc_enc _)) fun _ => d_l _ (e_app (all_map okc_str _) (by simp; omega) (by simp; omega)) fun _ => d_l _ (by rfl) fun _ => ?_
    refine den_rounds (fun k => [i k, i ds[j].kind, i ds[j].prio, .sl (ds[j].labels.map .str), .sl ((ds[j].next.take k).map Rf.enc)]) ds[j].next.length rfl (fun k hk => ?_) ?_
    · refine d_l _ (e_idx (nd_at hj) (Nd.okc_enc _)) fun _ => d_l _ e_len fun _ => d_l _ rfl fun _ => d_dec (fun h => ?_) fun h => absurd (show (k : Int) < ((ds[j].next.map Rf.enc).length : Int) by simp; omega) h
      refine d_l _ (e_idx (nd_at hj) (Nd.okc_enc _)) fun _ => d_l _ (e_idx (rf_at hk) (Rf.okc_enc _)) fun _ => d_l _ (e_idx (nd_at hj) (Nd.okc_enc _)) fun _ => d_l _ (e_idx (rf_at hk) (Rf.okc_enc _)) fun _ => d_l _ (by rfl) fun _ => d_l _ (by rfl) fun _ => d_l _ (e_app (fun x hx => by simp at hx; subst hx; rfl) (by simp; omega) (by simp; omega)) fun _ => d_l _ (e_inc (by omega)) fun _ => d_cont rfl ?_
      rw [← take_enc hk]; rfl
    · refine d_l _ (e_idx (nd_at hj) (Nd.okc_enc _)) fun _ => d_l _ e_len fun _ => d_l _ rfl fun _ => d_dec (fun h => ?_) fun h => ?_
      · have h : (ds[j].next.length : Int) < ((ds[j].next.map Rf.enc).length : Int) := h
        simp at h
      · refine d_l _ (by rfl) fun _ => d_l _ (e_app (fun x hx => by simp at hx; subst hx; rfl) (by simp; omega) (by simp; omega)) fun _ => d_l _ (e_inc (by omega)) fun _ => d_cont rfl ?_
        rw [← take_enc hj, List.take_of_length_le (Nat.le_refl _)]; rfl
  · refine d_l _ e_len fun _ => d_l _ rfl fun _ => d_dec (fun h => ?_) fun h => ?_
    · have h : (ds.length : Int) < ((ds.map Nd.enc).length : Int) := h
      simp at h
    refine den_rounds (fun j => [i j, .sl ((rs.take j).map Rf.enc)]) rs.length rfl (fun j hj => ?_) ?_
    · refine d_l _ e_len fun _ => d_l _ rfl fun _ => d_dec (fun h => ?_) fun h => absurd (show (j : Int) < ((rs.map Rf.enc).length : Int) by simp; omega) h
      refine d_l _ (e_idx (rf_at hj) (Rf.okc_enc _)) fun _ => d_l _ (e_idx (rf_at hj) (Rf.okc_enc _)) fun _ => d_l _ (by rfl) fun _ => d_l _ (by rfl) fun _ => d_l _ (e_app (fun x hx => by simp at hx; subst hx; rfl) (by simp; omega) (by simp; omega)) fun _ => d_l _ (e_inc (by omega)) fun _ => d_cont rfl ?_
      rw [← take_enc hj]; rfl
    · refine d_l _ e_len fun _ => d_l _ rfl fun _ => d_dec (fun h => ?_) fun h => d_ret ?_
      · have h : (rs.length : Int) < ((rs.map Rf.enc).length : Int) := h
        simp at h
      · simp

end Go.Proofs.YtopinhoalbgebaaGreatDoor.Tx

/- Where the nodes of a type stand. -/
namespace Go.Proofs.YtopinhoalbgebaaGreatDoor.Tx
open Go.Lf Go.Lf.S Go.Lf.Duo
set_option maxRecDepth 100000

theorem len_nodes : ∀ (t : Ty) (ns : List ByteArray) (g : Nat), Wf t ns g → ∀ (a : Int) (ns' : List ByteArray) (refs : List Rf), (nodesF t a ns' refs).length = gc t := by
  intro t
  induction t using Ty.ind with
  | _ t ih =>
  intro ns g h a ns' refs
  cases h with
  | mk _ _ _ h1 h9 h8 hk =>
  obtain ⟨k, p, nm, s, ls, ks⟩ := t
  unfold Wf1 at h1
  have h1 := h1.1
  simp only [Ty.kind, Ty.prio, Ty.shift, Ty.kids, Ty.labels] at h1
  by_cases hk8 : k = 8
  · have hl := (h1.2.2.2.2.2.1 hk8).1
    obtain ⟨x, hks⟩ := List.length_eq_one_iff.1 hl
    have hm : x ∈ ks := by rw [hks]; exact List.mem_cons_self
    rw [nodesF_8 hk8 hks, ih _ hm _ _ (h8 hk8 _ hm), gc_rec hk8 x hks]
  · by_cases hk9 : k = 9
    · have hks : ks = [] := List.eq_nil_of_length_eq_zero (h1.2.2.2.2.2.2 hk9).1
      rw [nodesF_9 hk9]
      subst hks; subst hk9
      simp [gc, gcs]
    · have hk7 : k ≤ 7 := by
        clear h8 h9 hk ih
        omega
      have key : ∀ (l : List Ty) (a : Int), (∀ x ∈ l, x ∈ ks) → (belowsF l a ns' refs).length = gcs l := by
        intro l
        induction l with
        | nil => intro a _; simp [belowsF, gcs]
        | cons x l ihl =>
          intro a hx
          have hxm := hx x List.mem_cons_self
          simp only [belowsF, List.length_append, gcs]
          rw [ih x hxm _ _ (hk hk8 x hxm), ihl _ fun y hy => hx y (List.mem_cons_of_mem _ hy)]
      rw [nodesF_o hk8 hk9]
      simp only [List.length_cons, gc]
      rw [key ks _ fun x hx => hx, if_pos hk7]
      omega

/-- nodes stand at a place of the graph -/
def Pl (ds : List Nd) (a : Int) (l : List Nd) : Prop := 0 ≤ a ∧ ∀ (i : Nat) (h : i < l.length), ds[a.toNat + i]? = some l[i]
theorem Pl.left {ds : List Nd} {a : Int} {l m : List Nd} (h : Pl ds a (l ++ m)) : Pl ds a l :=
  ⟨h.1, fun i hi => by rw [h.2 i (by simp; omega), List.getElem_append_left hi]⟩
theorem Pl.right {ds : List Nd} {a : Int} {l m : List Nd} {n : Nat} (hn : l.length = n) (h : Pl ds a (l ++ m)) : Pl ds (a + n) m := by
  have h0 := h.1
  refine ⟨by omega, fun i hi => ?_⟩
  have := h.2 (n + i) (by simp; omega)
  rw [show (a + (n : Int)).toNat + i = a.toNat + (n + i) by omega, this, List.getElem_append_right (by omega)]
  congr 2; omega
theorem Pl.kid {ds : List Nd} {ns : List ByteArray} {R : List Rf} : ∀ {ks : List Ty} {a : Int}, Pl ds a (belowsF ks a ns R) → (∀ x ∈ ks, ∀ a, (nodesF x a ns R).length = gc x) → ∀ (j : Nat) (h : j < ks.length), Pl ds (a + gcs (ks.take j)) (nodesF ks[j] (a + gcs (ks.take j)) ns R)
  | x :: ks, a, h, _, 0, _ => by
    simp only [belowsF] at h
    simp only [List.take_zero, gcs, List.getElem_cons_zero]
    rw [show a + ((0 : Nat) : Int) = a by omega]
    exact h.left
  | x :: ks, a, h, hl, j + 1, hj => by
    simp only [belowsF] at h
    have h2 := Pl.right (hl x List.mem_cons_self a) h
    have := Pl.kid h2 (fun y hy => hl y (List.mem_cons_of_mem _ hy)) j (by simpa using hj)
    simp only [List.take_succ_cons, gcs, List.getElem_cons_succ]
    rw [show a + ((gc x + gcs (ks.take j) : Nat) : Int) = a + (gc x : Int) + (gcs (ks.take j) : Int) by omega]
    exact this
theorem nextsF_at {ns : List ByteArray} {R : List Rf} : ∀ {ks : List Ty} {a : Int} (j : Nat) (h : j < ks.length), (nextsF ks a ns R)[j]? = some (refF ks[j] (a + gcs (ks.take j)) ns R)
  | x :: ks, a, 0, _ => by simp [nextsF, gcs]
  | x :: ks, a, j + 1, h => by
    have := nextsF_at (ns := ns) (R := R) (a := a + gc x) j (by simpa using h)
    simp only [nextsF, List.getElem?_cons_succ, this, List.take_succ_cons, gcs, List.getElem_cons_succ]
    congr 2; omega
theorem nextsF_len {ns : List ByteArray} {R : List Rf} : ∀ {ks : List Ty} {a : Int}, (nextsF ks a ns R).length = ks.length
  | [], _ => rfl
  | x :: ks, a => by simp [nextsF, nextsF_len (ks := ks)]

end Go.Proofs.YtopinhoalbgebaaGreatDoor.Tx

/- Contracts: closed graphs. -/
namespace Go.Proofs.YtopinhoalbgebaaGreatDoor.Tx
open Go.Lf Go.Lf.S Go.Lf.Duo
set_option maxRecDepth 100000

/-! the dual of a graph's nodes -/

/-- is the reference with an index to a rest? -/
def restB (kind : Int) (j : Nat) : Bool := decide (0 < j) || decide (kind = 6) || decide (kind = 7)
end Go.Proofs.YtopinhoalbgebaaGreatDoor.Tx

/- Contracts: the reference's closing, the dual of a reference, a graph read back. -/
namespace Go.Proofs.YtopinhoalbgebaaGreatDoor.Tx
open Go.Lf Go.Lf.S Go.Lf.Duo
set_option maxRecDepth 100000

theorem NdOk.node {n : Int} {d : Nd} (h : NdOk 0 n [] d) : ∀ r ∈ d.next, 0 ≤ r.node ∧ r.node < n := by
  intro r hr
  obtain ⟨a, b⟩ := h.nx r hr
  rcases a with ⟨q, hq, _⟩ | ⟨a1, a2⟩
  · cases hq
  · exact ⟨a1, a2⟩
theorem NdOk.rest {n : Int} {d : Nd} (h : NdOk 0 n [] d) {j : Nat} (hj : j < d.next.length) : restB d.kind j = (decide (j = 1) || decide (6 ≤ d.kind)) := by
  have h1 := h.k1; have h3 := h.n3; have h5 := h.n5
  clear h
  rw [Bool.eq_iff_iff]
  simp only [restB, Bool.or_eq_true, decide_eq_true_eq]
  by_cases a : d.kind ≤ 3
  · have := h3 a; omega
  · by_cases b : d.kind ≤ 5
    · have := h5 ⟨by omega, b⟩; omega
    · omega

/-! the two sides -/

end Go.Proofs.YtopinhoalbgebaaGreatDoor.Tx

/- Contracts: the package head (without the ranges over functions), slices.Index. -/
namespace Go.Proofs.YtopinhoalbgebaaGreatDoor.Tx
open Go.Lf Go.Lf.S Go.Lf.Duo
set_option maxRecDepth 100000

/-- a sum as the machine has it -/
def ad (a b : Int) : Int := IntKind.i64.wrap (a + b)
def act (k : Int) : Bool := decide (4 ≤ k ∧ k ≤ 7)

theorem ok_head_action (k : Int) : Ok P F.head_action [i k] (.bool (act k)) := by
  refine k_head_action _ _ rfl (d_l _ rfl fun _ => d_dec (fun h => d_l _ rfl fun _ => d_ret ?_) fun h => d_ret ?_)
  · have h : 4 ≤ k := h
    show PV.bool (decide (k ≤ 7)) = _
    simp [act, h]
  · have h : ¬ 4 ≤ k := h
    simp [act, h]

theorem ok_head_Prio (ds : List Nd) (a : Nat) (ha : a < ds.length) (s : Int) : Ok P F.head_Prio [.agg [.sl (ds.map Nd.enc)], .agg [i (a : Int), i s]] (if act ds[a].kind then .tup [i (ad ds[a].prio s), .bool true] else .tup [i 0, .bool false]) := by
  refine k_head_Prio _ _ rfl (d_l (.agg [.sl (ds.map Nd.enc)]) rfl fun _ => d_l (.agg [i (a : Int), i s]) rfl fun _ => d_l _ (e_idx (nd_at ha) (Nd.okc_enc _)) fun _ => d_l _ (e_okc (Nd.okc_enc _)) fun _ => d_call (ok_head_action ds[a].kind) (d_l _ rfl fun _ => d_ite (fun h => d_ret ?_) fun h => d_l _ rfl fun _ => d_ret ?_))
  · have : act ds[a].kind = false := by simpa using h
    rw [this]; rfl
  · have : act ds[a].kind = true := by simpa using h
    rw [this]; rfl

theorem ok_head_Raise (a s k : Int) : Ok P F.head_Raise [.agg [i a, i s], i k] (.agg [i a, i (ad s k)]) :=
  k_head_Raise _ _ rfl (d_l (.agg [i a, i s]) rfl fun _ => d_l _ rfl fun _ => d_l _ rfl fun _ => d_ret rfl)

theorem ok_head_Next (ds : List Nd) (a : Nat) (ha : a < ds.length) (s : Int) (k : Nat) (hk : k < ds[a].next.length) :
    Ok P F.head_Next [.agg [.sl (ds.map Nd.enc)], .agg [i (a : Int), i s], i (k : Int)] (.tup [.agg [i ds[a].next[k].node, i (ad ds[a].next[k].shift s)], .bool true]) := by
  refine k_head_Next _ _ rfl (d_l (.agg [.sl (ds.map Nd.enc)]) rfl fun _ => d_l (.agg [i (a : Int), i s]) rfl fun _ => d_l _ (e_idx (nd_at ha) (Nd.okc_enc _)) fun _ => d_l _ rfl fun _ => d_dec (fun h => ?_) fun _ => d_l _ e_len fun _ => d_l _ rfl fun _ => d_dec (fun h => ?_) fun _ => ?_)
  · have h : (k : Int) < 0 := h
    omega
  · have h : ((ds[a].next.map Rf.enc).length : Int) ≤ (k : Int) := h
    simp at h; omega
  · exact d_l _ (e_idx (rf_at hk) (Rf.okc_enc _)) fun _ => d_call (ok_head_Raise ds[a].next[k].node ds[a].next[k].shift s) (d_l (.agg [i ds[a].next[k].node, i (ad ds[a].next[k].shift s)]) rfl fun _ => d_ret rfl)

theorem ok_head_Next_no (ds : List Nd) (a : Nat) (ha : a < ds.length) (s k : Int) (hk : k < 0 ∨ (ds[a].next.length : Int) ≤ k) :
    Ok P F.head_Next [.agg [.sl (ds.map Nd.enc)], .agg [i (a : Int), i s], i k] (.tup [.agg [i 0, i 0], .bool false]) := by
  refine k_head_Next _ _ rfl (d_l (.agg [.sl (ds.map Nd.enc)]) rfl fun _ => d_l (.agg [i (a : Int), i s]) rfl fun _ => d_l _ (e_idx (nd_at ha) (Nd.okc_enc _)) fun _ => d_l _ rfl fun _ => d_dec (fun h => d_ret rfl) fun h => d_l _ e_len fun _ => d_l _ rfl fun _ => d_dec (fun h => d_ret rfl) fun h2 => ?_)
  have h : ¬ k < 0 := h
  have h2 : ¬ ((ds[a].next.map Rf.enc).length : Int) ≤ k := h2
  simp at h2; omega

/-- where a text stands first -/
def At (s : ByteArray) (l : List ByteArray) (r : Int) : Prop := (r = -1 ∧ s ∉ l) ∨ ∃ k : Nat, r = k ∧ l[k]? = some s ∧ ∀ j, j < k → l[j]? ≠ some s

theorem ok_slices_Index_string_string (l : List ByteArray) (s : ByteArray) (hl : l.length ≤ 549755813888) : ∃ r, Ok P F.slices_Index_string_string [.sl (l.map .str), .str s] (i r) ∧ At s l r := by
  have := tx_ex (K := fun x => ∃ r, x = i r ∧ At s l r) k_slices_Index_string_string (xs := [.sl (l.map .str), .str s]) rfl (by simp [t_slices_Index_string_string, T.dt]) (by
    refine d_l _ e_len fun _ => ?_
    refine den_loop (fun m ys => ∃ j : Nat, j + m = l.length ∧ (∀ q, q < j → l[q]? ≠ some s) ∧ ys = [i j]) l.length ⟨0, by omega, (fun q h => by omega), rfl⟩ ?_
    rintro m _ ⟨j, hj, hno, rfl⟩
    refine d_l _ rfl fun _ => d_dec (fun h => ?_) fun h => d_ret ⟨-1, rfl, .inl ⟨rfl, fun hm => ?_⟩⟩
    · have h : (j : Int) < ((l.map PV.str).length : Int) := h
      have hlt : j < l.length := by simp at h; omega
      refine d_l _ (e_idx (str_at hlt) rfl) fun _ => d_l _ rfl fun _ => d_dec (fun h => d_ret ⟨j, rfl, .inr ⟨j, rfl, ?_, hno⟩⟩) fun h => d_l _ (e_inc (by omega)) fun _ => d_cont rfl ⟨m - 1, by omega, j + 1, by omega, fun q hq => ?_, rfl⟩
      · have h : s = l[j] := h
        rw [List.getElem?_eq_getElem hlt, ← h]
      · have h : ¬ s = l[j] := h
        by_cases hqj : q < j
        · exact hno q hqj
        · have : q = j := by omega
          subst this
          rw [List.getElem?_eq_getElem hlt]
          intro he
          exact h (Option.some.inj he).symm
    · have h : ¬ (j : Int) < ((l.map PV.str).length : Int) := h
      simp at h
      obtain ⟨q, hq, he⟩ := List.getElem_of_mem hm
      exact hno q (by omega) (by rw [List.getElem?_eq_getElem hq, he]))
  obtain ⟨_, ⟨r, rfl, hr⟩, h⟩ := this
  exact ⟨r, h, hr⟩

end Go.Proofs.YtopinhoalbgebaaGreatDoor.Tx

/- Contracts: the keys and the map of a comparison. -/
namespace Go.Proofs.YtopinhoalbgebaaGreatDoor.Tx
open Go.Lf Go.Lf.S Go.Lf.Duo
set_option maxRecDepth 100000

/-- a pair of nodes, and the difference of their shifts -/
structure Key where
  a : Int
  b : Int
  d : Int
  deriving DecidableEq
def Key.enc (k : Key) : PV := .agg [i k.a, i k.b, i k.d]
abbrev kk3 : List CK := [.i .i64, .i .i64, .i .i64]
def mpOf (L : List Key) : PV := .mp (L.map Key.enc) (L.map fun _ => .bool true)

theorem keq_key (x y : Key) : PV.keq true kk3 x.enc y.enc = some (decide (x = y)) := by
  obtain ⟨a, b, c⟩ := x
  obtain ⟨a', b', c'⟩ := y
  simp only [PV.keq, Key.enc, PV.okc, PV.cells, PV.isAg, PV.isCell, kk3, PV.sameK, PV.same1, i]
  by_cases h1 : a = a' <;> by_cases h2 : b = b' <;> by_cases h3 : c = c' <;> simp [h1, h2, h3, PV.isCell]

theorem kfindGo_key (k : Key) : ∀ (L : List Key) (j : Nat), ∃ r, PV.kfindGo true kk3 k.enc (L.map Key.enc) j = some r ∧ (k ∈ L → ∃ q, r = some (j + q) ∧ L[q]? = some k) ∧ (k ∉ L → r = none)
  | [], j => ⟨none, rfl, (fun h => by cases h), fun _ => rfl⟩
  | x :: L, j => by
    obtain ⟨r, h1, h2, h3⟩ := kfindGo_key k L (j + 1)
    simp only [List.map_cons, PV.kfindGo, keq_key]
    by_cases he : k = x
    · subst he
      simp only [decide_true]
      exact ⟨_, rfl, fun _ => ⟨0, by simp, by simp⟩, fun h => absurd List.mem_cons_self h⟩
    · simp only [he, decide_false]
      refine ⟨r, h1, fun h => ?_, fun h => h3 fun hm => h (List.mem_cons_of_mem _ hm)⟩
      rcases List.mem_cons.1 h with e | e
      · exact absurd e he
      · obtain ⟨q, hq, hl⟩ := h2 e
        exact ⟨q + 1, by rw [hq]; congr 1; omega, by simpa using hl⟩

theorem e_mget (L : List Key) (k : Key) : (Prim.mget true kk3 (.bool false)).ev [mpOf L, k.enc] = some (.bool (decide (k ∈ L))) := by
  obtain ⟨r, h1, h2, h3⟩ := kfindGo_key k L 0
  have hf : PV.kfind true kk3 k.enc (L.map Key.enc) = some r := h1
  show (match PV.kfind true kk3 k.enc (L.map Key.enc) with
    | some (some i) => (L.map fun _ => PV.bool true)[i]?
    | some none => some (PV.bool false)
    | none => none) = _
  rw [hf]
  by_cases hm : k ∈ L
  · obtain ⟨q, rfl, hl⟩ := h2 hm
    have hq : q < L.length := (List.getElem?_eq_some_iff.1 hl).1
    simp [hm, hq]
  · rw [h3 hm]; simp [hm]

theorem e_mset (L : List Key) (k : Key) (hk : k ∉ L) : (Prim.mset true kk3).ev [mpOf L, k.enc, .bool true] = some (mpOf (L ++ [k])) := by
  obtain ⟨r, h1, h2, h3⟩ := kfindGo_key k L 0
  have hf : PV.kfind true kk3 k.enc (L.map Key.enc) = some r := h1
  show (match PV.kfind true kk3 k.enc (L.map Key.enc) with
    | some (some i) => some (PV.mp ((L.map Key.enc).set i k.enc) ((L.map fun _ => PV.bool true).set i (PV.bool true)))
    | some none => some (PV.mp (L.map Key.enc ++ [k.enc]) ((L.map fun _ => PV.bool true) ++ [PV.bool true]))
    | none => none) = _
  rw [hf, h3 hk]
  simp [mpOf]

/-- the key of two references -/
def keyOf (free : Bool) (a b s t : Int) : Key := ⟨a, b, if free then 0 else IntKind.i64.wrap (s - t)⟩
theorem ok_key (g m f : PV) (free : Bool) (a b s t : Int) (h4 : (PV.agg [g, m, f, .bool free]).okc 4 true = true) :
    Ok P F.equal_comparison_key [.box (.agg [g, m, f, .bool free]), .agg [i a, i s], .agg [i b, i t]] (keyOf free a b s t).enc := by
  refine k_equal_comparison_key _ _ rfl (d_l (.agg [i a, i s]) rfl fun _ => d_l (.agg [i b, i t]) rfl fun _ => d_l (.box (.agg [g, m, f, .bool free])) rfl fun _ => d_l (.agg [g, m, f, .bool free]) ?_ fun _ => d_ite (fun h => d_l _ rfl fun _ => d_ret ?_) fun h => d_l _ rfl fun _ => d_l _ rfl fun _ => d_ret ?_)
  · show (if _ then _ else _) = _
    rw [if_pos h4]
  · subst h; rfl
  · subst h; rfl
theorem key_gnd (k : Key) : Prim.gnd.ev [k.enc] = some k.enc := rfl

end Go.Proofs.YtopinhoalbgebaaGreatDoor.Tx

/- Contracts: how a comparison compares priorities. -/
namespace Go.Proofs.YtopinhoalbgebaaGreatDoor.Tx
open Go.Lf Go.Lf.S Go.Lf.Duo
set_option maxRecDepth 100000

theorem wrap_eq (x y : Int) : IntKind.i64.wrap x = IntKind.i64.wrap y ↔ (x - y) % 18446744073709551616 = 0 := by
  simp only [IntKind.wrap, IntKind.signed, IntKind.bits]
  simp
  omega
theorem wrap_mod (x : Int) : (IntKind.i64.wrap x - x) % 18446744073709551616 = 0 := by
  simp only [IntKind.wrap, IntKind.signed, IntKind.bits]
  simp
  omega

/-- the priority of a node's reference, or 0 -/
def prN (d : Nd) (s : Int) : Int := if act d.kind then ad d.prio s else 0

theorem ok_equal_Equal_1 (ds : List Nd) (a b : Nat) (ha : a < ds.length) (hb : b < ds.length) (s t : Int) :
    Ok P F.equal_Equal_1 [.agg [i (a : Int), i s], .agg [i (b : Int), i t], .box (.agg [.sl (ds.map Nd.enc)])] (.bool (decide (prN ds[a] s = prN ds[b] t))) := by
  have get : ∀ (d : Nd) (s : Int) (x : PV), x = (if act d.kind then PV.tup [i (ad d.prio s), .bool true] else .tup [i 0, .bool false]) → (Prim.tc 0).ev [x] = some (i (prN d s)) ∧ (Prim.tc 1).ev [x] = some (.bool (act d.kind)) := by
    intro d s x hx
    subst hx
    cases h : act d.kind
    · simp [prN, h]; exact ⟨rfl, rfl⟩
    · simp [prN, h]; exact ⟨rfl, rfl⟩
  obtain ⟨a1, a2⟩ := get ds[a] s _ rfl
  obtain ⟨b1, b2⟩ := get ds[b] t _ rfl
  exact k_equal_Equal_1 _ _ rfl (d_l (.agg [i (a : Int), i s]) rfl fun _ => d_l (.agg [i (b : Int), i t]) rfl fun _ => d_l (.agg [.sl (ds.map Nd.enc)]) rfl fun _ => d_call (ok_head_Prio ds a ha s) (d_l _ a1 fun _ => d_l _ a2 fun _ => d_l (.agg [.sl (ds.map Nd.enc)]) rfl fun _ => d_call (ok_head_Prio ds b hb t) (d_l _ b1 fun _ => d_l _ b2 fun _ => d_l _ rfl fun _ => d_ret rfl)))

/-- priorities alike: it depends on the difference of the shifts alone -/
theorem pr_iff {x y : Nd} (hk : x.kind = y.kind) (s t : Int) : prN x s = prN y t ↔ (act x.kind = true → ad x.prio (IntKind.i64.wrap (s - t)) = ad y.prio 0) := by
  unfold prN
  rw [← hk]
  cases h : act x.kind
  · simp
  · simp only [if_true, true_implies, ad, wrap_eq]
    have := wrap_mod (s - t)
    omega

/-- what the nodes of a key must have in common -/
def locB (ds : List Nd) (free : Bool) (k : Key) : Bool := match ds[k.a.toNat]?, ds[k.b.toNat]? with
  | some x, some y => decide (x.kind = y.kind) && decide (x.labels.length = y.labels.length) && (free || decide (act x.kind = true → ad x.prio k.d = ad y.prio 0))
  | _, _ => false

end Go.Proofs.YtopinhoalbgebaaGreatDoor.Tx

/- Closed lists of keys; how many pairs are left. -/
namespace Go.Proofs.YtopinhoalbgebaaGreatDoor.Tx
open Go.Lf Go.Lf.S Go.Lf.Duo
set_option maxRecDepth 100000

/-- the rest of y that belongs to a rest of x -/
def Sel (x y : Nd) (j q : Nat) : Prop := if 0 < x.labels.length then ∃ s, x.labels[j]? = some s ∧ y.labels[q]? = some s ∧ ∀ p, p < q → y.labels[p]? ≠ some s else q = j
/-- the key behind the rest j -/
def Nx (ds : List Nd) (free : Bool) (k : Key) (j : Nat) (k' : Key) : Prop :=
  ∃ x y, ds[k.a.toNat]? = some x ∧ ds[k.b.toNat]? = some y ∧ ∃ (u v : Rf) (q : Nat), x.next[j]? = some u ∧ y.next[q]? = some v ∧ Sel x y j q ∧
    k' = ⟨u.node, v.node, if free then 0 else IntKind.i64.wrap (u.shift - v.shift + k.d)⟩
/-- how many rests a key has -/
def arity (ds : List Nd) (k : Key) : Nat := match ds[k.a.toNat]? with
  | some x => x.next.length
  | none => 0
/-- a key is sound in a list -/
def KOk (ds : List Nd) (free : Bool) (L : List Key) (k : Key) : Prop := locB ds free k = true ∧ ∀ j, j < arity ds k → ∃ k', Nx ds free k j k' ∧ k' ∈ L
def Cl (ds : List Nd) (free : Bool) (L : List Key) : Prop := ∀ k ∈ L, KOk ds free L k
/-- the pair is equal: a closed list has it -/
def Eqv (ds : List Nd) (free : Bool) (k : Key) : Prop := ∃ L, Cl ds free L ∧ k ∈ L

/-- the pairs that no key has -/
def left (n : Nat) (L : List Key) : List (Nat × Nat) := ((List.range n).flatMap fun a => (List.range n).map fun b => (a, b)).filter fun p => !L.any fun k => decide (k.a = p.1 ∧ k.b = p.2)

theorem left_mem {n : Nat} {L : List Key} {a b : Nat} : (a, b) ∈ left n L ↔ (a < n ∧ b < n) ∧ ∀ k ∈ L, ¬ (k.a = a ∧ k.b = b) := by
  simp only [left, List.mem_filter, List.mem_flatMap, List.mem_range, List.mem_map, Bool.not_eq_true', List.any_eq_false, decide_eq_true_eq]
  constructor
  · rintro ⟨⟨a', ha, b', hb, he⟩, h⟩
    cases he
    exact ⟨⟨ha, hb⟩, h⟩
  · rintro ⟨⟨ha, hb⟩, h⟩
    exact ⟨⟨a, ha, b, hb, rfl⟩, h⟩

theorem left_mono {n : Nat} {L L' : List Key} (h : ∀ k ∈ L, k ∈ L') : (left n L').length ≤ (left n L).length := by
  have : left n L' = (left n L).filter fun p => !L'.any fun k => decide (k.a = p.1 ∧ k.b = p.2) := by
    unfold left
    rw [List.filter_filter]
    apply List.filter_congr
    intro p _
    cases hL' : L'.any fun k => decide (k.a = p.1 ∧ k.b = p.2)
    · have : (L.any fun k => decide (k.a = p.1 ∧ k.b = p.2)) = false := by
        rw [List.any_eq_false] at hL' ⊢
        exact fun k hk => hL' k (h k hk)
      rw [this]; rfl
    · simp
  rw [this]
  exact List.length_filter_le _ _

theorem left_lt {n : Nat} {L : List Key} {k : Key} {a b : Nat} (hm : (a, b) ∈ left n L) (ha : k.a = a) (hb : k.b = b) : (left n (L ++ [k])).length < (left n L).length := by
  have e : left n (L ++ [k]) = (left n L).filter fun p => !decide (k.a = p.1 ∧ k.b = p.2) := by
    unfold left
    rw [List.filter_filter]
    apply List.filter_congr
    intro p _
    simp [Bool.and_comm]
  rw [e]
  have h1 := List.length_filter_lt_length_iff_exists (l := left n L) (p := fun p => !decide (k.a = p.1 ∧ k.b = p.2))
  exact h1.2 ⟨(a, b), hm, by simp [ha, hb]⟩

end Go.Proofs.YtopinhoalbgebaaGreatDoor.Tx

/- Contract: a comparison decides the equality of two references. -/
namespace Go.Proofs.YtopinhoalbgebaaGreatDoor.Tx
open Go.Lf Go.Lf.S Go.Lf.Duo
set_option maxRecDepth 100000

theorem tx_exS {f : Nat} {sg : Sig} {t : List PV → T PV} (h : TxOkS P f sg t) {K : List PV → Prop} {xs : List PV} (hd : (t xs).dt) (hden : (t xs).den0 P (fun r => ∃ ys, r = .tup ys ∧ K ys) []) : ∃ ys, K ys ∧ OkS P f sg xs ys := by
  obtain ⟨r, ⟨ys, rfl, hk⟩, h1⟩ := den_ex (t xs) hd [] (fun _ => []) (fun _ => rfl) (fun j g ys h => by simp at h) hden
  exact ⟨ys, hk, h xs ys h1⟩

theorem NdOk.node' {n : Int} {d : Nd} (h : NdOk 0 n [] d) : ∀ r ∈ d.next, 0 ≤ r.node ∧ r.node < n := by
  intro r hr
  obtain ⟨a, b⟩ := h.nx r hr
  rcases a with ⟨q, hq, _⟩ | ⟨a1, a2⟩
  · cases hq
  · exact ⟨a1, a2⟩
def GrOk' (ds : List Nd) : Prop := ds.length ≤ 274877906944 ∧ ∀ d ∈ ds, NdOk 0 ds.length [] d

def ref (a s : Int) : PV := .agg [i a, i s]
def SameOk (ds : List Nd) (free : Bool) (f : Nat) (cs : List PV) : Prop :=
  ∀ (a b : Nat) (ha : a < ds.length) (hb : b < ds.length) (s t : Int), Ok P f ([] ++ [ref a s, ref b t] ++ cs) (.bool (free || decide (prN ds[a] s = prN ds[b] t)))

def InR (free : Bool) (k : Key) : Prop := (free = true → k.d = 0) ∧ IntKind.i64.wrap k.d = k.d
theorem wrap_wrap (x : Int) : IntKind.i64.wrap (IntKind.i64.wrap x) = IntKind.i64.wrap x := by
  rw [wrap_eq]; exact wrap_mod x
theorem inR_key (free : Bool) (a b s t : Int) : InR free (keyOf free a b s t) := by
  refine ⟨fun h => by simp [keyOf, h], ?_⟩
  cases free
  · exact wrap_wrap _
  · rfl

structure Res (ds : List Nd) (free : Bool) (L : List Key) (k : Key) (r : Bool) (L' : List Key) : Prop where
  sub : ∀ q ∈ L, q ∈ L'
  loc : ∀ q ∈ L', locB ds free q = true ∧ InR free q
  yes : r = true → k ∈ L' ∧ ∀ q ∈ L', q ∉ L → ∀ j, j < arity ds q → ∃ q', Nx ds free q j q' ∧ q' ∈ L'
  no : r = false → ¬ Eqv ds free k

theorem loc_key {ds : List Nd} {free : Bool} {a b : Nat} (ha : a < ds.length) (hb : b < ds.length) (s t : Int) :
    locB ds free (keyOf free a b s t) = (decide (ds[a].kind = ds[b].kind) && decide (ds[a].labels.length = ds[b].labels.length) && (free || decide (prN ds[a] s = prN ds[b] t))) := by
  simp only [locB, keyOf, Int.toNat_natCast, List.getElem?_eq_getElem ha, List.getElem?_eq_getElem hb]
  by_cases h : ds[a].kind = ds[b].kind
  · cases free
    · simp only [Bool.false_or, Bool.false_eq_true, if_false]
      congr 1
      exact decide_eq_decide.2 (pr_iff h s t).symm
    · simp
  · simp [h]
theorem eqv_loc {ds : List Nd} {free : Bool} {k : Key} (h : Eqv ds free k) : locB ds free k = true := by
  obtain ⟨L, hc, hk⟩ := h
  exact (hc k hk).1

theorem same_pair {ds : List Nd} {free : Bool} {q k : Key} (hq : locB ds free q = true ∧ InR free q) (hk : locB ds free k = true ∧ InR free k) (ha : q.a = k.a) (hb : q.b = k.b) {x : Nd} (hx : ds[k.a.toNat]? = some x) (hact : act x.kind = true) : q = k := by
  have hd : q.d = k.d := by
    cases free with
    | true => rw [hq.2.1 rfl, hk.2.1 rfl]
    | false =>
      obtain ⟨hq, _, hq2⟩ := hq
      obtain ⟨hk, _, hk2⟩ := hk
      simp only [locB, ha, hb, hx] at hq hk
      cases hy : ds[k.b.toNat]? with
      | none => rw [hy] at hk; cases hk
      | some y =>
        rw [hy] at hq hk
        simp only [Bool.false_or, Bool.and_eq_true, decide_eq_true_eq] at hq hk
        have h1 := hq.2 hact
        have h2 := hk.2 hact
        have h3 : ad x.prio q.d = ad x.prio k.d := h1.trans h2.symm
        simp only [ad, wrap_eq] at h3
        rw [← hq2, ← hk2, wrap_eq]
        omega
  obtain ⟨a, b, d⟩ := q
  obtain ⟨a', b', d'⟩ := k
  simp only at ha hb hd
  subst ha; subst hb; subst hd; rfl

/-- the key behind a rest, as the code finds it -/
theorem key_next (free : Bool) (u v : Rf) (a b s t : Int) : keyOf free u.node v.node (ad u.shift s) (ad v.shift t) = ⟨u.node, v.node, if free then 0 else IntKind.i64.wrap (u.shift - v.shift + (keyOf free a b s t).d)⟩ := by
  cases free
  · simp only [keyOf, Bool.false_eq_true, if_false, Key.mk.injEq, true_and]
    rw [wrap_eq]
    have h1 := wrap_mod (u.shift + s)
    have h2 := wrap_mod (v.shift + t)
    have h3 := wrap_mod (s - t)
    unfold ad
    omega
  · simp [keyOf]

theorem sel_fun {x y : Nd} {j q q' : Nat} (h : Sel x y j q) (h' : Sel x y j q') : q = q' := by
  unfold Sel at h h'
  split at h
  · rename_i h0
    rw [if_pos h0] at h'
    obtain ⟨s, h1, h2, h3⟩ := h
    obtain ⟨s', h1', h2', h3'⟩ := h'
    rw [h1] at h1'; cases h1'
    rcases Nat.lt_trichotomy q q' with hl | hl | hl
    · exact absurd h2 (h3' q hl)
    · exact hl
    · exact absurd h2' (h3 q' hl)
  · rename_i h0
    rw [if_neg h0] at h'
    rw [h, h']

end Go.Proofs.YtopinhoalbgebaaGreatDoor.Tx
