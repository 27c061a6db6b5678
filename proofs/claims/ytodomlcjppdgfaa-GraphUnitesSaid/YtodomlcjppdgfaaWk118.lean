/- The law: what is reached from a node is reached from the nodes behind it; all nodes of a type are reached from its reference. -/
import Derived.Test.YtodomlcjppdgfaaWk117
set_option linter.all false
namespace Go.Proofs.Ytodomlcjppdgfaa.Tx
open Go.Lf Go.Lf.S Go.Lf.Duo
set_option maxRecDepth 100000

theorem Rch.trans {ds : List Nd} {a m n : Nat} (h : Rch ds a m) (k : Rch ds m n) : Rch ds a n := by
  induction k with
  | base => exact h
  | step _ hd hv ih => exact .step ih hd hv
theorem rch_unite {ds : List Nd} {a : Nat} {d : Nd} (hd : ds[a]? = some d) (n : Nat) : Rch ds a n ↔ n = a ∨ ∃ v ∈ d.next, Rch ds v.node.toNat n := by
  constructor
  · intro h
    induction h with
    | base => exact .inl rfl
    | step h hd' hv ih =>
      rcases ih with rfl | ⟨v, hvm, hr⟩
      · rw [hd] at hd'; cases hd'
        exact .inr ⟨_, hv, .base⟩
      · exact .inr ⟨v, hvm, .step hr hd' hv⟩
  · rintro (rfl | ⟨v, hv, hr⟩)
    · exact .base
    · exact (Rch.step .base hd hv).trans hr

theorem gcs_split : ∀ (ks : List Ty) (m : Nat), m < gcs ks → ∃ j, ∃ h : j < ks.length, gcs (ks.take j) ≤ m ∧ m < gcs (ks.take j) + gc ks[j]
  | [], m, h => by simp [gcs] at h
  | t :: ts, m, h => by
    by_cases e : m < gc t
    · exact ⟨0, by simp, by simp [gcs], by simpa [gcs] using e⟩
    · simp only [gcs] at h
      obtain ⟨j, hj, h1, h2⟩ := gcs_split ts (m - gc t) (by omega)
      refine ⟨j + 1, by simpa using hj, ?_, ?_⟩
      · simp only [List.take_succ_cons, gcs]; omega
      · simp only [List.take_succ_cons, gcs, List.getElem_cons_succ]; omega
theorem strip_gc {t t' : Ty} {names : List ByteArray} (h : StripR t names t') : gc t = gc t' := by
  induction h with
  | done t h => rfl
  | step t k t' names h hk hs ih =>
    obtain ⟨kd, p, nm, s, ls, ks⟩ := t
    have h : kd = 8 := h
    have hk : ks = [k] := hk
    rw [← ih]
    exact gc_rec h k hk
/-- a type with nodes begins with one -/
theorem ref_pos {t : Ty} {ns : List ByteArray} {g : Nat} (h : Wf t ns g) (hg : 0 < gc t) (a : Int) (ns' : List ByteArray) (refs : List Rf) : refF t a ns' refs = ⟨a, 0⟩ := by
  obtain ⟨names, t', hs, h8, hw, _⟩ := strip_ex t ns g h
  have h9 : t'.kind ≠ 9 := fun e => by
    rw [strip_gc hs] at hg
    obtain ⟨k, p, nm, s, ls, ks⟩ := t'
    have e : k = 9 := e
    have hks : ks = [] := by
      cases hw with
      | mk _ _ _ h1 _ _ _ => exact List.eq_nil_of_length_eq_zero (h1.1.2.2.2.2.2.2 e).1
    subst hks e
    simp [gc, gcs] at hg
  rw [strip_ref hs, ref_o h8 h9]

/-- all nodes of a type are reached from the first -/
theorem all_rch {ds : List Nd} : ∀ (t : Ty) (ns : List ByteArray) (g : Nat), Wf t ns g → ∀ (a : Nat) (ns' : List ByteArray) (refs : List Rf), Pl ds (a : Int) (nodesF t a ns' refs) → ∀ n, a ≤ n → n < a + gc t → Rch ds a n := by
  intro t
  induction t using Ty.ind with
  | _ t ih =>
  intro ns g h a ns' refs hpl n hn1 hn2
  cases h with
  | mk _ _ _ h1 h9 h8 hk =>
  obtain ⟨k, p, nm, s, ls, ks⟩ := t
  unfold Wf1 at h1
  have h1 := h1.1
  simp only [Ty.kind, Ty.prio, Ty.shift, Ty.kids, Ty.labels] at h1
  by_cases hk8 : k = 8
  · have hl : ks.length = 1 := (h1.2.2.2.2.2.1 hk8).1
    obtain ⟨x, rfl⟩ : ∃ x, ks = [x] := by
      match ks, hl with
      | [x], _ => exact ⟨x, rfl⟩
    have hx : x ∈ (Ty.mk k p nm s ls [x]).kids := List.mem_cons_self
    rw [nodesF_8 hk8 rfl] at hpl
    rw [gc_rec hk8 x rfl] at hn2
    exact ih x hx _ _ (h8 hk8 x hx) a _ _ hpl n hn1 hn2
  · by_cases hk9 : k = 9
    · have hks : ks = [] := List.eq_nil_of_length_eq_zero (h1.2.2.2.2.2.2 hk9).1
      subst hks hk9
      simp [gc, gcs] at hn2
      omega
    · have hk7 : k ≤ 7 := by
        obtain ⟨_, h2⟩ := h1.1
        clear h8 h9 hk h1 ih
        omega
      rw [nodesF_o hk8 hk9] at hpl
      have hat := hpl.2 0 (by simp)
      simp only [Int.toNat_natCast, Nat.add_zero, List.getElem_cons_zero] at hat
      by_cases e : n = a
      · subst e; exact .base
      · have hgc : gc (.mk k p nm s ls ks) = 1 + gcs ks := by simp only [gc]; rw [if_pos hk7]
        rw [hgc] at hn2
        obtain ⟨j, hj, g1, g2⟩ := gcs_split ks (n - a - 1) (by omega)
        have hkm : ks[j] ∈ ks := List.getElem_mem hj
        have hwk : ∀ x ∈ ks, Wf x ns ns.length := fun x hx => hk hk8 x hx
        have hpb : Pl ds ((a : Int) + 1) (belowsF ks ((a : Int) + 1) ns' refs) := by
          have := Pl.right (l := [(⟨k, p, ls, nextsF ks ((a : Int) + 1) ns' refs⟩ : Nd)]) (m := belowsF ks ((a : Int) + 1) ns' refs) (n := 1) rfl hpl
          exact this
        have hpk := Pl.kid hpb (fun x hx q => len_nodes x ns ns.length (hwk x hx) q ns' refs) j hj
        have hpos : ((a : Int) + 1 + gcs (ks.take j)) = ((a + 1 + gcs (ks.take j) : Nat) : Int) := by omega
        rw [hpos] at hpk
        have hr := ih ks[j] hkm ns ns.length (hwk _ hkm) (a + 1 + gcs (ks.take j)) ns' refs hpk n (by omega) (by omega)
        have hnx := nextsF_at (ns := ns') (R := refs) (ks := ks) (a := (a : Int) + 1) j hj
        rw [hpos, ref_pos (hwk _ hkm) (by omega)] at hnx
        have hst : Rch ds a ((⟨((a + 1 + gcs (ks.take j) : Nat) : Int), 0⟩ : Rf).node.toNat) := .step .base hat (List.mem_of_getElem? hnx)
        exact hst.trans hr

theorem ok_back {ds : List Nd} (hg : Gr8 ds) (hll : ds.length ≤ 1000000) (hnx : ∀ d ∈ ds, d.next.length ≤ 549755813888) : Ok P F.law07_back [.agg [.sl (ds.map Nd.enc)]] (.tup [.sl (ds.map Nd.enc), .bool true]) := by
  have hlen : Prim.len.ev [c 0 (PV.agg [.sl (ds.map Nd.enc)])] = some (i (ds.length : Int)) := by
    show Prim.len.ev [.sl (ds.map Nd.enc)] = _
    rw [e_len]; simp
  refine k_law07_back _ _ rfl (d_l (.agg [.sl (ds.map Nd.enc)]) rfl fun _ => den_rounds (fun j => [i j, .sl ((ds.take j).map Nd.enc)]) ds.length (by simp) (fun j hj => ?_) ?_)
  · have hix : (Prim.idx 4 true).ev [c 0 (PV.agg [.sl (ds.map Nd.enc)]), i (j : Int)] = some ds[j].enc := e_idx (n := 4) (a := true) (ndAt hj) (Nd.okc_enc _)
    have hdj := List.getElem_mem hj
    have hdn := hnx _ hdj
    have hdg := hg.2 _ hdj
    have htk : ds.take (j + 1) = ds.take j ++ [ds[j]] := List.take_succ_eq_append_getElem hj
    refine d_l _ hlen fun _ => d_l (.bool (decide ((j : Int) < (ds.length : Int)))) rfl fun _ => d_dec (p := (j : Int) < (ds.length : Int)) (fun _ => ?_) fun h => by omega
    generalize ds[j] = d at *
    have hnl : Prim.len.ev [c 3 d.enc] = some (i (d.next.length : Int)) := by
      show Prim.len.ev [.sl (d.next.map Rf.enc)] = _
      rw [e_len]; simp
    refine d_l _ hix fun _ => d_l _ hix fun _ => d_l _ hix fun _ => d_l .nilI rfl fun _ => den_rounds (fun q => [i q, i d.kind, i d.prio, .sl (d.labels.map .str), .sl ((d.next.take q).map Rf.enc)]) d.next.length (by rw [List.take_zero]; rfl) (fun q hq => ?_) ?_
    · have hrix : (Prim.idx 2 true).ev [c 3 d.enc, i (q : Int)] = some d.next[q].enc := e_idx (n := 2) (a := true) (rfAt hq) (Rf.okc_enc _)
      have hrg := hdg _ (List.getElem_mem hq)
      have htq : d.next.take (q + 1) = d.next.take q ++ [d.next[q]] := List.take_succ_eq_append_getElem hq
      refine d_l _ hix fun _ => d_l _ hnl fun _ => d_l (.bool (decide ((q : Int) < (d.next.length : Int)))) rfl fun _ => d_dec (p := (q : Int) < (d.next.length : Int)) (fun _ => ?_) fun h => by omega
      generalize d.next[q] = r at *
      refine d_l _ hix fun _ => d_l _ hrix fun _ => d_l _ (e_okc (Rf.okc_enc r)) fun _ => d_l (.bool (decide (r.node < 0))) rfl fun _ => d_dec (p := r.node < 0) (fun h => by omega) fun _ => d_l _ hlen fun _ => d_l (.bool (decide ((ds.length : Int) ≤ r.node))) rfl fun _ => d_dec (p := (ds.length : Int) ≤ r.node) (fun h => by omega) fun _ => d_l .nilI rfl fun _ => d_l (.sl [r.enc]) rfl fun _ => d_l (.sl ((d.next.take q).map Rf.enc ++ [r.enc])) (e_app (l := (d.next.take q).map Rf.enc) (m := [r.enc]) (fun x hx => by simp at hx; subst hx; exact Rf.okc_enc _) (by simp; omega) (by simp; omega)) fun _ => d_l _ (e_inc (by omega)) fun _ => d_cont rfl ?_
      rw [htq, List.map_append]; rfl
    · refine d_l _ hix fun _ => d_l _ hnl fun _ => d_l (.bool (decide ((d.next.length : Int) < (d.next.length : Int)))) rfl fun _ => d_dec (p := (d.next.length : Int) < (d.next.length : Int)) (fun h => by omega) fun _ => ?_
      simp only [List.take_length]
      refine d_l (.sl [d.enc]) rfl fun _ => d_l (.sl ((ds.take j).map Nd.enc ++ [d.enc])) (e_app (l := (ds.take j).map Nd.enc) (m := [d.enc]) (fun x hx => by simp at hx; subst hx; exact Nd.okc_enc _) (by simp; omega) (by simp; omega)) fun _ => d_l _ (e_inc (by omega)) fun _ => d_cont rfl ?_
      rw [htk, List.map_append]; rfl
  · refine d_l _ hlen fun _ => d_l (.bool (decide ((ds.length : Int) < (ds.length : Int)))) rfl fun _ => d_dec (p := (ds.length : Int) < (ds.length : Int)) (fun h => by omega) fun _ => d_ret ?_
    rw [List.take_length]; rfl

theorem set_get {A : List Bool} {v n : Nat} (hv : v < A.length) : (A.set v true)[n]? = some true ↔ A[n]? = some true ∨ n = v := by
  constructor
  · exact set_true
  · rintro (h | rfl)
    · exact le_set A v n h
    · rw [List.getElem?_set_self hv]

theorem ok_law07_GraphUnites (aw : Ok P F.law07_awake [] (.bool true)) (t : Ty) (k : Int) (k0 : 0 ≤ k) (k1 : k ≤ 255) (ht : Lim t) : Ok P F.law07_GraphUnites [t.enc, .int .u8 k] (.bool true) := by
  obtain ⟨b, st, wt⟩ := ok_ref02_Small t ht 60 (by omega) (by omega)
  refine k_law07_GraphUnites _ _ rfl (d_l _ (e_okc (Ty.okc_enc t)) fun _ => d_call aw (d_l (.bool false) rfl fun _ => d_false (d_call st (d_l (.bool !b) rfl fun _ => d_ite (fun _ => d_call aw (d_ret rfl)) fun h1 => ?_))))
  obtain ⟨zt, wt⟩ := wt (by simpa using h1)
  have hz : Ty.szs [t] ≤ 274877906944 := by simp only [Ty.szs]; omega
  have hw1 : ∀ x ∈ [t], Wf x [] 0 := fun x hx => by simp at hx; subst hx; exact wt
  have hG := ok_graph_Build [t] hw1 hz
  have hdf : belowsF [t] 0 [] [] = nodesF t 0 [] [] := by simp [belowsF]
  have hrf : nextsF [t] 0 [] [] = [⟨0, 0⟩] := by simp only [nextsF, ref_top wt]
  rw [hdf, hrf] at hG
  have hdl := len_nodes t [] 0 wt 0 [] []
  have hpk := nodes_pk t [] 0 wt 0 [] []
  have hall := all_rch (ds := nodesF t 0 [] []) t [] 0 wt 0 [] [] ⟨Int.le_refl _, fun q hq => by
    show (nodesF t 0 [] [])[(0 : Int).toNat + q]? = _
    rw [show (0 : Int).toNat + q = q by simp]
    exact List.getElem?_eq_getElem hq⟩
  have hgc := gc_le t
  have hpos : 0 < gc t := by
    obtain ⟨names, t', hs, h8, hw, _⟩ := strip_ex t [] 0 wt
    have h9 : t'.kind ≠ 9 := fun e => by
      cases hw with
      | mk _ _ _ _ h _ _ => obtain ⟨j, hj, _⟩ := h e; omega
    rw [strip_gc hs]
    cases hw with
    | mk _ _ _ h1 _ _ _ =>
      obtain ⟨q, p, nm, s, ls, ks⟩ := t'
      have h8 : q ≠ 8 := h8
      have h9 : q ≠ 9 := h9
      have hq : q ≤ 9 := h1.1.1.2
      simp only [gc]; rw [if_pos (by omega)]; omega
  have hgr : Gr8 (nodesF t 0 [] []) := by
    obtain ⟨ds, rs, _, hdl', _, hdk, _, hds, _⟩ := ok_ref07_Build [t] hw1 hz
    rw [hdf] at hds
    subst hds
    refine ⟨by omega, fun d hd r hr => ?_⟩
    obtain ⟨a, _⟩ := (hdk d hd).nx r hr
    rcases a with ⟨q, hq, _⟩ | ⟨a1, a2⟩
    · cases hq
    · exact ⟨a1, by omega⟩
  generalize nodesF t 0 [] [] = ds at *
  have hnx : ∀ d ∈ ds, d.next.length ≤ 549755813888 := fun d hd => ((hpk d hd).resolve_right (by omega)).2.2.2.2
  obtain ⟨kn, rfl⟩ : ∃ kn : Nat, k = kn := ⟨k.toNat, by omega⟩
  have hdp : 0 < ds.length := by omega
  have ham : kn % ds.length < ds.length := Nat.mod_lt _ hdp
  have hcv : (Prim.conv .i64).ev [.int .u8 (kn : Int)] = some (i (kn : Int)) := by
    show some (PV.int .i64 (IntKind.i64.wrap (kn : Int))) = _
    rw [wrap_in (by omega) (by omega)]
  have hlen : Prim.len.ev [.sl (ds.map Nd.enc)] = some (i (ds.length : Int)) := by rw [e_len]; simp
  have hrep : (Prim.rep 1 false 1 (.bool false)).ev [i (ds.length : Int)] = some (.sl ((List.replicate ds.length false).map .bool)) := by
    show (if 0 ≤ (ds.length : Int) ∧ (ds.length : Int).toNat * 1 ≤ roomB ∧ (ds.length : Int) ≤ maxLen ∧ (PV.bool false).okc 1 false then some (PV.sl (List.replicate (ds.length : Int).toNat (.bool false))) else none) = _
    have hm : (1000001 : Int) ≤ maxLen := by decide
    rw [if_pos ⟨by omega, by unfold roomB; omega, by omega, rfl⟩, Int.toNat_natCast, List.map_replicate]
  have up : ∀ (B : List Bool) (v : Nat), v < B.length → (Prim.upd 1 false).ev [.sl (B.map .bool), i (v : Int), .bool true] = some (.sl ((B.set v true).map .bool)) := fun B v hv => by
    rw [e_updT (by simpa using hv) rfl, List.map_set]
  generalize hat : kn % ds.length = at_ at *
  have hra : at_ < (List.replicate ds.length false).length := by simpa using ham
  have hdat := e_idx (n := 4) (a := true) (ndAt ham) (Nd.okc_enc _)
  have hda : ds[at_]? = some ds[at_] := List.getElem?_eq_getElem ham
  have hdn := hnx _ (List.getElem_mem ham)
  have hdg := hgr.2 _ (List.getElem_mem ham)
  obtain ⟨zs, hZo, hZp, hZm⟩ := ok_Reach hgr (by omega) hnx at_ ham 5
  obtain ⟨z0, hY, hYp, hYm⟩ := ok_Reach hgr (by omega) hnx 0 hdp 0
  refine d_l (.sl ([t].map Ty.enc)) (e_lst (by intro x hx; simp at hx; subst hx; exact Ty.okc_enc _)) fun _ => d_call hG (d_l (.agg [.sl (ds.map Nd.enc)]) rfl fun _ => d_l (.sl [(⟨0, 0⟩ : Rf).enc]) rfl fun _ => d_l (.agg [.sl (ds.map Nd.enc)]) rfl fun _ => d_call (ok_back hgr (by omega) hnx) (d_l (.sl (ds.map Nd.enc)) rfl fun _ => d_l (.bool true) rfl fun _ => d_l (.bool false) rfl fun _ => d_false (d_l (i 1) rfl fun _ => d_l (.bool false) rfl fun _ => d_false (d_l (⟨0, 0⟩ : Rf).enc rfl fun _ => d_l (.bool false) rfl fun _ => d_false (d_l (⟨0, 0⟩ : Rf).enc rfl fun _ => d_l _ hlen fun _ => d_l (.bool (decide ((ds.length : Int) ≤ 0))) rfl fun _ => d_dec (p := (ds.length : Int) ≤ 0) (fun h => by omega) fun _ => ?_)))))
  have hrem := e_rem (n := kn) (k := ds.length) hdp
  rw [hat] at hrem
  refine d_l _ hcv fun _ => d_l _ hlen fun _ => d_l _ hrem fun _ => d_l _ hlen fun _ => d_l _ hrep fun _ => d_l _ (e_idx (bool_at hra) rfl) fun _ => d_l _ (up _ at_ hra) fun _ => ?_
  generalize hdd : ds[at_] = d at *
  have hnl : Prim.len.ev [c 3 d.enc] = some (i (d.next.length : Int)) := by
    show Prim.len.ev [.sl (d.next.map Rf.enc)] = _
    rw [e_len]; simp
  refine den_loop (fun m ys => ∃ (q : Nat) (B : List Bool), q + m = d.next.length ∧ B.length = ds.length ∧ (∀ n : Nat, B[n]? = some true ↔ n = at_ ∨ ∃ v ∈ d.next.take q, Rch ds v.node.toNat n) ∧ ys = [i q, .sl (B.map .bool)]) d.next.length ⟨0, _, by omega, by simp, (fun n => by
    rw [set_get hra]
    simp only [List.take_zero, List.not_mem_nil, false_and, exists_false, or_false]
    constructor
    · rintro (h | h)
      · rw [List.getElem?_replicate] at h
        split at h
        · cases h
        · cases h
      · exact h
    · exact .inr), rfl⟩ ?_
  rintro m _ ⟨q, B, hq, hBl, hB, rfl⟩
  refine d_l _ hdat fun _ => d_l _ hnl fun _ => d_l (.bool (decide ((q : Int) < (d.next.length : Int)))) rfl fun _ => d_dec (p := (q : Int) < (d.next.length : Int)) (fun h => ?_) fun h => ?_
  · have hql : q < d.next.length := by omega
    have hrix : (Prim.idx 2 true).ev [c 3 d.enc, i (q : Int)] = some d.next[q].enc := e_idx (n := 2) (a := true) (rfAt hql) (Rf.okc_enc _)
    have hvb := hdg _ (List.getElem_mem hql)
    have htk : d.next.take (q + 1) = d.next.take q ++ [d.next[q]] := List.take_succ_eq_append_getElem hql
    generalize d.next[q] = v at *
    obtain ⟨vn, hvn⟩ : ∃ vn : Nat, v.node = vn := ⟨v.node.toNat, by omega⟩
    rw [hvn] at hvb
    have hvl : vn < ds.length := by omega
    obtain ⟨xs, hXo, hXp, hXm⟩ := ok_Reach hgr (by omega) hnx vn hvl 0
    have hXo : Ok P F.graph_Reach [.agg [.sl (ds.map Nd.enc)], .agg [c 0 v.enc, i 0]] (.sl (xs.map ni)) := by
      have e : PV.agg [c 0 v.enc, i 0] = (⟨(vn : Int), 0⟩ : Rf).enc := by rw [← hvn]; rfl
      rw [e]; exact hXo
    have hxl : xs.length ≤ ds.length := nodup_len_le xs ds.length (by rw [List.nodup_iff_pairwise_ne]; exact hXp.imp fun h => by omega) fun x hx => Rch.lt hgr hvl ((hXm x).1 hx)
    have hlX : Prim.len.ev [.sl (xs.map ni)] = some (i (xs.length : Int)) := by rw [e_len]; simp
    refine d_l _ hdat fun _ => d_l _ hrix fun _ => d_l .nilI rfl fun _ => d_call hXo ?_
    refine den_loop (fun m' ys => ∃ (j : Nat) (B' : List Bool), j + m' = xs.length ∧ B'.length = ds.length ∧ (∀ n : Nat, B'[n]? = some true ↔ B[n]? = some true ∨ n ∈ xs.take j) ∧ ys = [i j, .sl (B'.map .bool)]) xs.length ⟨0, B, by omega, hBl, by simp, rfl⟩ ?_
    rintro m' _ ⟨j, B', hj, hBl', hB', rfl⟩
    refine d_l _ hlX fun _ => d_l (.bool (decide ((j : Int) < (xs.length : Int)))) rfl fun _ => d_dec (p := (j : Int) < (xs.length : Int)) (fun h => ?_) fun h => ?_
    · have hjl : j < xs.length := by omega
      have hxj := Rch.lt hgr hvl ((hXm _).1 (List.getElem_mem hjl))
      have hxi := e_idx (n := 1) (a := false) (ni_at hjl) rfl
      have hxb : xs[j] < B'.length := by rw [hBl']; exact hxj
      have htj : xs.take (j + 1) = xs.take j ++ [xs[j]] := List.take_succ_eq_append_getElem hjl
      generalize xs[j] = x at *
      refine d_l _ hxi fun _ => d_l (.bool (decide ((x : Int) < 0))) rfl fun _ => d_dec (p := (x : Int) < 0) (fun h => by omega) fun _ => d_l _ hxi fun _ => d_l _ hlen fun _ => d_l (.bool (decide ((ds.length : Int) ≤ (x : Int)))) rfl fun _ => d_dec (p := (ds.length : Int) ≤ (x : Int)) (fun h => by omega) fun _ => d_l _ hxi fun _ => d_l _ (e_idx (bool_at hxb) rfl) fun _ => d_l _ (up B' x hxb) fun _ => d_l _ (e_inc (by omega)) fun _ => d_cont rfl ⟨m' - 1, by omega, j + 1, _, by omega, by simpa using hBl', fun n => ?_, rfl⟩
      rw [set_get hxb, hB' n, htj, List.mem_append, List.mem_singleton, or_assoc]
    · have htj : xs.take j = xs := List.take_of_length_le (by omega)
      rw [htj] at hB'
      refine d_l _ (e_inc (by omega)) fun _ => d_cont rfl ⟨m - 1, by omega, q + 1, B', by omega, hBl', fun n => ?_, rfl⟩
      rw [hB' n, hB n, htk, hXm n]
      constructor
      · rintro ((h | ⟨v', hv', hr⟩) | h)
        · exact .inl h
        · exact .inr ⟨v', List.mem_append_left _ hv', hr⟩
        · exact .inr ⟨v, by simp, by rw [hvn, Int.toNat_natCast]; exact h⟩
      · rintro (h | ⟨v', hv', hr⟩)
        · exact .inl (.inl h)
        · rcases List.mem_append.1 hv' with hv' | hv'
          · exact .inl (.inr ⟨v', hv', hr⟩)
          · simp at hv'; subst hv'
            rw [hvn, Int.toNat_natCast] at hr
            exact .inr hr
  · have htk : d.next.take q = d.next := List.take_of_length_le (by omega)
    rw [htk] at hB
    have hBr : ∀ n : Nat, B[n]? = some true ↔ Rch ds at_ n := fun n => (hB n).trans (rch_unite hda n).symm
    have hzlt : ∀ z ∈ zs, z < B.length := fun z hz => by rw [hBl]; exact Rch.lt hgr ham ((hZm z).1 hz)
    have hlB : Prim.len.ev [.sl (B.map PV.bool)] = some (i (B.length : Int)) := by rw [e_len]; simp
    have hlZ : Prim.len.ev [.sl (zs.map ni)] = some (i (zs.length : Int)) := by rw [e_len]; simp
    refine d_l .nilI rfl fun _ => d_call hZo ?_
    refine den_rounds (fun j => [i j, i ((zs.filter fun z => decide (z < j)).length : Int)]) B.length (by rw [asc_zero]; rfl) (fun j hj => ?_) ?_
    · obtain ⟨c1, c2⟩ := asc_count zs hZp j
      refine d_l _ hlB fun _ => d_l (.bool (decide ((j : Int) < (B.length : Int)))) rfl fun _ => d_dec (p := (j : Int) < (B.length : Int)) (fun _ => ?_) fun h => by omega
      refine d_l _ (e_idx (bool_at hj) rfl) fun _ => d_l _ (e_idx (bool_at hj) rfl) fun _ => d_ite (fun hb => ?_) fun hb => ?_
      · obtain ⟨c3, c4⟩ := c1 ((hZm j).2 ((hBr j).1 (by rw [List.getElem?_eq_getElem hj, hb])))
        obtain ⟨hcl, hce⟩ := List.getElem?_eq_some_iff.1 c3
        have hzl : zs.length ≤ 300 := by
          have := nodup_len_le zs B.length (by rw [List.nodup_iff_pairwise_ne]; exact hZp.imp fun h => by omega) hzlt
          omega
        refine d_l _ hlZ fun _ => d_l (.bool (decide ((zs.length : Int) ≤ ((zs.filter fun z => decide (z < j)).length : Int)))) rfl fun _ => d_dec (p := (zs.length : Int) ≤ ((zs.filter fun z => decide (z < j)).length : Int)) (fun h => by omega) fun _ => ?_
        have hz0 : (Prim.idx 1 false).ev [.sl (zs.map ni), i ((zs.filter fun z => decide (z < j)).length : Int)] = some (ni j) := by rw [e_idx (ni_at hcl) rfl, hce]
        refine d_l (ni j) hz0 fun _ => d_l _ (neq_refl (j : Int)) fun _ => d_false (d_l _ (e_inc (by omega)) fun _ => d_l _ (e_inc (by omega)) fun _ => d_cont rfl ?_)
        rw [c4]
      · refine d_l _ (e_inc (by omega)) fun _ => d_cont rfl ?_
        rw [c2 fun hm => by
          have := (hBr j).2 ((hZm j).1 hm)
          rw [List.getElem?_eq_getElem hj, hb] at this
          cases this]
        rfl
    · refine d_l _ hlB fun _ => d_l (.bool (decide ((B.length : Int) < (B.length : Int)))) rfl fun _ => d_dec (p := (B.length : Int) < (B.length : Int)) (fun h => by omega) fun _ => d_l _ hlZ fun _ => ?_
      rw [asc_all hzlt]
      have hce : (Prim.cmp .eql .i64).ev [i (zs.length : Int), i (zs.length : Int)] = some (.bool true) := by
        show some (PV.bool (decide ((zs.length : Int) = (zs.length : Int)))) = _
        simp
      have hfull : z0.length = ds.length := by
        have key : ∀ j, j ≤ ds.length → (z0.filter fun z => decide (z < j)).length = j := by
          intro j
          induction j with
          | zero => intro _; exact asc_zero z0
          | succ j ih =>
            intro hj
            have hm : j ∈ z0 := (hYm j).2 (hall j (by omega) (by omega))
            rw [((asc_count z0 hYp j).1 hm).2, ih (by omega)]
        rw [← key ds.length (Nat.le_refl _), asc_all fun z hz => Rch.lt hgr hdp ((hYm z).1 hz)]
      have hlY : Prim.len.ev [.sl (z0.map ni)] = some (i (ds.length : Int)) := by rw [e_len, List.length_map, hfull]
      refine d_l _ hce fun _ => d_true (d_l (⟨0, 0⟩ : Rf).enc rfl fun _ => d_call hY (d_l _ hlY fun _ => d_l _ hlen fun _ => d_l (.bool true) ?_ fun _ => d_ret rfl))
      show some (PV.bool (decide ((ds.length : Int) = (ds.length : Int)))) = _
      simp
end Go.Proofs.Ytodomlcjppdgfaa.Tx
