/- The law: the graph of a list of types is the graphs one behind another; raising a type changes priorities only. -/
import Derived.Test.YtodomlcjppdgfaaWk112
import Derived.Test.YtodomlcjppdgfaaWk34
set_option linter.all false
namespace Go.Proofs.Ytodomlcjppdgfaa.Tx
open Go.Lf Go.Lf.S Go.Lf.Duo
set_option maxRecDepth 100000

theorem texts_refl7 (l : List ByteArray) (hl : l.length ≤ 549755813888) : Ok P F.ref02_texts [.sl (l.map .str), .sl (l.map .str)] (.bool true) := by
  refine k_ref02_texts _ _ rfl (d_l (i ((l.map PV.str).length : Int)) e_len fun _ => d_l (i ((l.map PV.str).length : Int)) e_len fun _ => d_l _ (neq_refl _) fun _ => d_false (den_rounds (fun j => [i j]) l.length rfl (fun j hj => ?_) ?_))
  · have he : (l.map PV.str)[j]? = some (.str l[j]) := by simp [hj]
    refine d_l _ e_len fun _ => d_l (.bool (decide ((j : Int) < ((l.map PV.str).length : Int)))) rfl fun _ => d_dec (p := (j : Int) < ((l.map PV.str).length : Int)) (fun _ => ?_) fun h => absurd (show (j : Int) < ((l.map PV.str).length : Int) by simp; omega) h
    exact d_l _ (e_idx he rfl) fun _ => d_l _ (e_idx he rfl) fun _ => d_l _ (sneq_refl' _) fun _ => d_false (d_l _ (e_inc (by omega)) fun _ => d_cont rfl rfl)
  · refine d_l _ e_len fun _ => d_l (.bool (decide ((l.length : Int) < ((l.map PV.str).length : Int)))) rfl fun _ => d_dec (p := (l.length : Int) < ((l.map PV.str).length : Int)) (fun h => ?_) fun _ => d_ret rfl
    simp at h
theorem same_refl7 : ∀ t : Ty, Ln t → Ok P F.ref02_Same [t.enc, t.enc] (.bool true) := by
  intro t
  induction t using Ty.ind with
  | _ t ih =>
  intro h
  cases h with
  | mk _ h1 h2 h =>
  obtain ⟨kd, p, nm, s, ls, ks⟩ := t
  have h1 : ls.length ≤ 549755813888 := h1
  have h2 : ks.length ≤ 549755813888 := h2
  rw [Ty.enc_mk]
  refine k_ref02_Same _ _ rfl (d_l (.agg [i kd, i p, .str nm, i s, .sl (ls.map .str), .sl (ks.map Ty.enc)]) rfl fun _ => d_l (.agg [i kd, i p, .str nm, i s, .sl (ls.map .str), .sl (ks.map Ty.enc)]) rfl fun _ => d_l _ (neq_refl _) fun _ => d_false (d_l _ (neq_refl _) fun _ => d_false (d_l _ (sneq_refl' _) fun _ => d_false (d_l _ (neq_refl _) fun _ => d_false (d_call (texts_refl7 ls h1) (d_l (.bool false) rfl fun _ => d_false (d_l (i ((ks.map Ty.enc).length : Int)) e_len fun _ => d_l (i ((ks.map Ty.enc).length : Int)) e_len fun _ => d_l _ (neq_refl _) fun _ => d_false ?_)))))))
  refine den_rounds (fun j => [i j]) ks.length rfl (fun j hj => ?_) ?_
  · refine d_l (i ((ks.map Ty.enc).length : Int)) e_len fun _ => d_l (.bool (decide ((j : Int) < ((ks.map Ty.enc).length : Int)))) rfl fun _ => d_dec (p := (j : Int) < ((ks.map Ty.enc).length : Int)) (fun _ => ?_) fun h => absurd (show (j : Int) < ((ks.map Ty.enc).length : Int) by simp; omega) h
    exact d_l _ (e_idx (ty_at' hj) (Ty.okc_enc _)) fun _ => d_l _ (e_idx (ty_at' hj) (Ty.okc_enc _)) fun _ => d_call (ih _ (List.getElem_mem hj) (h _ (List.getElem_mem hj))) (d_l (.bool false) rfl fun _ => d_false (d_l _ (e_inc (by omega)) fun _ => d_cont rfl rfl))
  · refine d_l (i ((ks.map Ty.enc).length : Int)) e_len fun _ => d_l (.bool (decide ((ks.length : Int) < ((ks.map Ty.enc).length : Int)))) rfl fun _ => d_dec (p := (ks.length : Int) < ((ks.map Ty.enc).length : Int)) (fun h => ?_) fun _ => d_ret rfl
    simp at h

theorem wf_raise0 : ∀ (t : Ty) (ns : List ByteArray) (g : Nat), Wf t ns g → raiseT 0 t = t := by
  intro t
  induction t using Ty.ind with
  | _ t ih =>
  intro ns g h
  cases h with
  | mk _ _ _ h1 h9 h8 hk =>
  obtain ⟨kd, p, nm, s, ls, ks⟩ := t
  have hp : 0 ≤ p ∧ p ≤ 1000000 := ⟨h1.1.2.1.1, h1.1.2.1.2.1⟩
  rw [raiseT_mk]
  congr 1
  · split
    · exact ad_0 hp.1 hp.2
    · rfl
  · conv => rhs; rw [← List.map_id ks]
    refine List.map_congr_left fun x hx => ?_
    by_cases e : kd = 8
    · exact ih x hx _ _ (h8 e x hx)
    · exact ih x hx _ _ (hk e x hx)

def raiseN (k : Int) (d : Nd) : Nd := ⟨d.kind, if 4 ≤ d.kind ∧ d.kind ≤ 7 then ad d.prio k else d.prio, d.labels, d.next⟩
theorem gc_raise (k : Int) : ∀ t : Ty, gc (raiseT k t) = gc t := by
  intro t
  induction t using Ty.ind with
  | _ t ih =>
  obtain ⟨kd, p, nm, s, ls, ks⟩ := t
  rw [raiseT_mk]
  have hs : ∀ l : List Ty, (∀ t ∈ l, t ∈ ks) → gcs (l.map (raiseT k)) = gcs l := by
    intro l
    induction l with
    | nil => intro _; rfl
    | cons x l ihl =>
      intro h
      simp only [List.map_cons, gcs]
      rw [ih x (h x List.mem_cons_self), ihl fun t ht => h t (List.mem_cons_of_mem _ ht)]
  simp only [gc]
  rw [hs ks fun _ h => h]
theorem ref_raise (k : Int) : ∀ (t : Ty) (a : Int) (ns : List ByteArray) (refs : List Rf), refF (raiseT k t) a ns refs = refF t a ns refs := by
  intro t
  induction t using Ty.ind with
  | _ t ih =>
  intro a ns refs
  obtain ⟨kd, p, nm, s, ls, ks⟩ := t
  rw [raiseT_mk]
  unfold refF
  split
  · cases ks with
    | nil => simp [refFs]
    | cons x ks => simp only [List.map_cons, refFs]; exact ih x List.mem_cons_self a ns refs
  · rfl
theorem nodes_raise (k : Int) : ∀ (t : Ty) (a : Int) (ns : List ByteArray) (refs : List Rf), nodesF (raiseT k t) a ns refs = (nodesF t a ns refs).map (raiseN k) := by
  intro t
  induction t using Ty.ind with
  | _ t ih =>
  intro a ns refs
  obtain ⟨kd, p, nm, s, ls, ks⟩ := t
  have hb : ∀ (l : List Ty), (∀ t ∈ l, t ∈ ks) → ∀ (a : Int) (ns : List ByteArray) (refs : List Rf), belowsF (l.map (raiseT k)) a ns refs = (belowsF l a ns refs).map (raiseN k) := by
    intro l
    induction l with
    | nil => intro _ a ns refs; rfl
    | cons x l ihl =>
      intro h a ns refs
      simp only [List.map_cons, belowsF, List.map_append]
      rw [ih x (h x List.mem_cons_self), gc_raise, ihl fun t ht => h t (List.mem_cons_of_mem _ ht)]
  have hn : ∀ (l : List Ty) (a : Int) (ns : List ByteArray) (refs : List Rf), nextsF (l.map (raiseT k)) a ns refs = nextsF l a ns refs := by
    intro l
    induction l with
    | nil => intro a ns refs; rfl
    | cons x l ihl =>
      intro a ns refs
      simp only [List.map_cons, nextsF]
      rw [ref_raise, gc_raise, ihl]
  have hr := ref_raise k (.mk kd p nm s ls ks) a ns refs
  rw [raiseT_mk] at hr ⊢
  unfold nodesF
  split
  · rw [hr, hb ks fun _ h => h]
  · split
    · rfl
    · simp only [List.map_cons]
      rw [hb ks fun _ h => h, hn]; rfl

theorem ref_top {t : Ty} (h : Wf t [] 0) (a : Int) : refF t a [] [] = ⟨a, 0⟩ := by
  obtain ⟨names, t', hs, h8, hw, _⟩ := strip_ex t [] 0 h
  have h9 : t'.kind ≠ 9 := fun e => by
    cases hw with
    | mk _ _ _ _ h _ _ => obtain ⟨j, hj, _⟩ := h e; omega
  rw [strip_ref hs, ref_o h8 h9]

theorem nodes_pk : ∀ (t : Ty) (ns : List ByteArray) (g : Nat), Wf t ns g → ∀ (a : Int) (ns' : List ByteArray) (refs : List Rf), ∀ d ∈ nodesF t a ns' refs, 0 ≤ d.prio ∧ d.prio ≤ 1000000 ∧ 1 ≤ d.kind ∧ d.kind ≤ 7 ∧ d.next.length ≤ 549755813888 ∨ 549755813888 < t.sz := by
  intro t
  induction t using Ty.ind with
  | _ t ih =>
  intro ns g h a ns' refs
  cases h with
  | mk _ _ _ h1 h9 h8 hk =>
  obtain ⟨k, p, nm, s, ls, ks⟩ := t
  have hsz : (Ty.mk k p nm s ls ks).sz = Ty.szs ks + 1 := by simp only [Ty.sz]
  have key : ∀ (l : List Ty) (a : Int) (ns' : List ByteArray) (refs : List Rf), (∀ x ∈ l, x ∈ ks) → ∀ d ∈ belowsF l a ns' refs, 0 ≤ d.prio ∧ d.prio ≤ 1000000 ∧ 1 ≤ d.kind ∧ d.kind ≤ 7 ∧ d.next.length ≤ 549755813888 ∨ 549755813888 < (Ty.mk k p nm s ls ks).sz := by
    intro l
    induction l with
    | nil => intro a ns' refs _ d hd; simp [belowsF] at hd
    | cons x l ihl =>
      intro a ns' refs hl d hd
      simp only [belowsF, List.mem_append] at hd
      rcases hd with hd | hd
      · have hx := hl x List.mem_cons_self
        have hxs := Ty.szs_mem hx
        have hw : ∃ ns g, Wf x ns g := by
          by_cases e : k = 8
          · exact ⟨_, _, h8 e x hx⟩
          · exact ⟨_, _, hk e x hx⟩
        obtain ⟨_, _, hw⟩ := hw
        rcases ih x hx _ _ hw _ _ _ d hd with h | h
        · exact .inl h
        · exact .inr (by omega)
      · exact ihl _ _ _ (fun y hy => hl y (List.mem_cons_of_mem _ hy)) d hd
  intro d hd
  unfold nodesF at hd
  split at hd
  · exact key ks _ _ _ (fun _ h => h) d hd
  · rename_i n8
    split at hd
    · cases hd
    · rename_i n9
      rcases List.mem_cons.1 hd with rfl | hd
      · by_cases hz : 549755813888 < (Ty.mk k p nm s ls ks).sz
        · exact .inr hz
        · have hksl := szs_len ks
          refine .inl ⟨h1.1.2.1.1, h1.1.2.1.2.1, h1.1.1.1, ?_, ?_⟩
          · have : k ≤ 9 := h1.1.1.2
            show k ≤ 7
            omega
          · show (nextsF ks (a + 1) ns' refs).length ≤ _
            rw [nextsF_len]; omega
      · exact key ks _ _ _ (fun _ h => h) d hd

theorem ok_law07_GraphCounts (aw : Ok P F.law07_awake [] (.bool true)) (a b : Ty) (k : Int) (k0 : 0 ≤ k) (k1 : k ≤ 255) (ha : Lim a) (hb : Lim b) : Ok P F.law07_GraphCounts [a.enc, b.enc, .int .u8 k] (.bool true) := by
  obtain ⟨ba, sa, wa⟩ := ok_ref02_Small a ha 100 (by omega) (by omega)
  obtain ⟨bb, sb, wb⟩ := ok_ref02_Small b hb 100 (by omega) (by omega)
  refine k_law07_GraphCounts _ _ rfl (d_l _ (e_okc (Ty.okc_enc a)) fun _ => d_l _ (e_okc (Ty.okc_enc b)) fun _ => d_call aw (d_l (.bool false) rfl fun _ => d_false (d_call sa (d_l (.bool !ba) rfl fun _ => d_ite (fun _ => d_call aw (d_ret rfl)) fun h1 => d_call sb (d_l (.bool !bb) rfl fun _ => d_ite (fun _ => d_call aw (d_ret rfl)) fun h2 => ?_)))))
  obtain ⟨za, wa⟩ := wa (by simpa using h1)
  obtain ⟨zb, wb⟩ := wb (by simpa using h2)
  have hLa := Wf.ln a [] 0 wa (by omega)
  have hcv : (Prim.conv .i64).ev [.int .u8 k] = some (i k) := by
    show some (PV.int .i64 (IntKind.i64.wrap k)) = _
    rw [wrap_in (by omega) (by omega)]
  have hLu : Lim (raiseT k a) := by
    have : ∀ {t : Ty}, Lim t → Lim (raiseT k t) := by
      intro t
      induction t using Ty.ind with
      | _ t ih =>
      intro h
      cases h with
      | mk _ hn hl hll hk h =>
      obtain ⟨kd, p, nm, s, ls, ks⟩ := t
      rw [raiseT_mk]
      refine .mk _ hn hl hll (by simpa [Ty.kids] using hk) fun x hx => ?_
      obtain ⟨y, hy, rfl⟩ := List.mem_map.1 hx
      exact ih y hy (h y hy)
    exact this ha
  have hzu : (raiseT k a).sz = a.sz := by
    have : ∀ t : Ty, (raiseT k t).sz = t.sz := by
      intro t
      induction t using Ty.ind with
      | _ t ih =>
      obtain ⟨kd, p, nm, s, ls, ks⟩ := t
      rw [raiseT_mk]
      have hs : ∀ l : List Ty, (∀ t ∈ l, (raiseT k t).sz = t.sz) → Ty.szs (l.map (raiseT k)) = Ty.szs l := by
        intro l
        induction l with
        | nil => intro _; rfl
        | cons x l ih =>
          intro h
          simp only [List.map_cons, Ty.szs]
          rw [h x List.mem_cons_self, ih fun t ht => h t (List.mem_cons_of_mem _ ht)]
      simp only [Ty.sz]
      rw [hs ks fun t ht => ih t ht]
    exact this a
  obtain ⟨e, he, wu⟩ := ok_ref02_Right (raiseT k a) hLu (by omega)
  have hR := ok_ref02_Raise a k hLa
  refine d_l _ hcv fun _ => d_call hR (d_call he (d_l (.bool (!decide (e = 0))) rfl fun _ => d_ndec (p := e = 0) (fun _ => d_ret rfl) fun h0 => ?_))
  have wu := wu h0
  have hR0 := ok_ref02_Raise a 0 hLa
  rw [wf_raise0 a [] 0 wa] at hR0
  have hB1 := ok_graph_Build [a, b] (fun t ht => by
    simp only [List.mem_cons, List.not_mem_nil, or_false] at ht
    rcases ht with rfl | rfl
    · exact wa
    · exact wb) (by simp only [Ty.szs]; omega)
  have hB2 := ok_graph_Build [raiseT k a] (fun t ht => by
    simp only [List.mem_cons, List.not_mem_nil, or_false] at ht
    subst ht; exact wu) (by simp only [Ty.szs]; omega)
  have hC1 := ok_ref07_Count a (by omega)
  have hC2 := ok_ref07_Count b (by omega)
  have ga := gc_le a
  have gb := gc_le b
  have la := len_nodes a [] 0 wa 0 [] []
  have lb := len_nodes b [] 0 wb (0 + gc a) [] []
  have e1 : belowsF [a, b] 0 [] [] = nodesF a 0 [] [] ++ nodesF b (0 + gc a) [] [] := by simp [belowsF]
  have e2 : belowsF [raiseT k a] 0 [] [] = (nodesF a 0 [] []).map (raiseN k) := by simp [belowsF, nodes_raise]
  have e3 : nextsF [a, b] 0 [] [] = [⟨0, 0⟩, ⟨gc a, 0⟩] := by
    simp only [nextsF, ref_top wa, ref_top wb, Int.zero_add]
  have e4 : nextsF [raiseT k a] 0 [] [] = [⟨0, 0⟩] := by simp only [nextsF, ref_top wu]
  rw [e1, e3] at hB1
  rw [e2, e4] at hB2
  have hpk := nodes_pk a [] 0 wa 0 [] []
  generalize nodesF a 0 [] [] = A at *
  generalize nodesF b (0 + gc a) [] [] = B at *
  have hl1 : Prim.len.ev [c 0 (PV.agg [.sl ((A ++ B).map Nd.enc)])] = some (i ((gc a + gc b : Nat) : Int)) := by
    show Prim.len.ev [.sl ((A ++ B).map Nd.enc)] = _
    rw [e_len, List.length_map, List.length_append, la, lb]
  have hl2 : Prim.len.ev [c 0 (PV.agg [.sl ((A.map (raiseN k)).map Nd.enc)])] = some (i (gc a : Int)) := by
    show Prim.len.ev [.sl ((A.map (raiseN k)).map Nd.enc)] = _
    rw [e_len, List.length_map, List.length_map, la]
  refine d_call hR0 (d_l _ (e_okc (Ty.okc_enc a)) fun _ => d_l (.sl [a.enc, b.enc]) (e_lst (by
    intro x hx
    simp only [List.mem_cons, List.not_mem_nil, or_false] at hx
    rcases hx with rfl | rfl <;> exact Ty.okc_enc _)) fun _ => d_call hB1 (d_l (.agg [.sl ((A ++ B).map Nd.enc)]) rfl fun _ => d_l (.sl [(⟨0, 0⟩ : Rf).enc, (⟨gc a, 0⟩ : Rf).enc]) rfl fun _ => d_l (.agg [.sl ((A ++ B).map Nd.enc)]) rfl fun _ => d_l _ hcv fun _ => d_call hR (d_l (.sl [(raiseT k a).enc]) (e_lst (by
    intro x hx
    simp only [List.mem_cons, List.not_mem_nil, or_false] at hx
    subst hx; exact Ty.okc_enc _)) fun _ => d_call hB2 (d_l (.agg [.sl ((A.map (raiseN k)).map Nd.enc)]) rfl fun _ => d_l (.sl [(⟨0, 0⟩ : Rf).enc]) rfl fun _ => d_l (.agg [.sl ((A.map (raiseN k)).map Nd.enc)]) rfl fun _ => ?_))))
  refine d_l _ hl1 fun _ => d_call hC1 (d_call hC2 (d_l (i ((gc a : Int) + gc b)) (e_add (by omega) (by omega)) fun _ => d_l (.bool false) (by
    rw [show ((gc a + gc b : Nat) : Int) = (gc a : Int) + gc b by omega]; exact neq_refl _) fun _ => d_false (d_l _ hl2 fun _ => d_call hC1 (d_l _ (neq_refl _) fun _ => d_false ?_))))
  refine d_l (i 2) rfl fun _ => d_l (.bool false) rfl fun _ => d_false (d_l (i 1) rfl fun _ => d_l (.bool false) rfl fun _ => d_false (d_l (⟨0, 0⟩ : Rf).enc rfl fun _ => d_l (⟨0, 0⟩ : Rf).enc rfl fun _ => d_l _ (acmp_refl ⟨0, 0⟩) fun _ => d_false (d_l (⟨gc a, 0⟩ : Rf).enc rfl fun _ => d_call hC1 (d_l _ (neq_refl _) fun _ => d_false ?_))))
  refine den_rounds (fun j => [i j]) A.length rfl (fun j hj => ?_) ?_
  · have hja : j < (A ++ B).length := by simp; omega
    have hjr : j < (A.map (raiseN k)).length := by simpa using hj
    have g1 : (Prim.idx 4 true).ev [.sl ((A ++ B).map Nd.enc), i (j : Int)] = some A[j].enc := by
      have := e_idx (n := 4) (a := true) (ndAt hja) (Nd.okc_enc _)
      rwa [List.getElem_append_left hj] at this
    have g2 : (Prim.idx 4 true).ev [.sl ((A.map (raiseN k)).map Nd.enc), i (j : Int)] = some (raiseN k A[j]).enc := by
      have := e_idx (n := 4) (a := true) (ndAt hjr) (Nd.okc_enc _)
      rwa [List.getElem_map] at this
    have hd := (hpk _ (List.getElem_mem hj)).resolve_right (by omega)
    generalize A[j] = d at *
    obtain ⟨q0, q1, q2, q3, q4⟩ := hd
    have hn : Prim.len.ev [c 3 d.enc] = some (i (d.next.length : Int)) := by
      show Prim.len.ev [.sl (d.next.map Rf.enc)] = _
      rw [e_len, List.length_map]
    have hn' : Prim.len.ev [c 3 (raiseN k d).enc] = some (i (d.next.length : Int)) := hn
    refine d_l _ hl2 fun _ => d_l (.bool (decide ((j : Int) < (gc a : Int)))) rfl fun _ => d_dec (p := (j : Int) < (gc a : Int)) (fun _ => ?_) fun h => by omega
    refine d_l _ g1 fun _ => d_l _ g1 fun _ => d_l (.bool (decide (4 ≤ d.kind))) rfl fun _ => d_dec (p := 4 ≤ d.kind) (fun h4 => ?_) fun h4 => ?_
    · have hp : (raiseN k d).prio = d.prio + k := by
        show (if 4 ≤ d.kind ∧ d.kind ≤ 7 then ad d.prio k else d.prio) = _
        rw [if_pos ⟨h4, q3⟩]
        exact wrap_in (by omega) (by omega)
      have hc : (Prim.cmp .neq .i64).ev [c 1 (raiseN k d).enc, i (d.prio + k)] = some (.bool false) := by
        show (Prim.cmp .neq .i64).ev [i (raiseN k d).prio, i (d.prio + k)] = _
        rw [hp]; exact neq_refl _
      exact d_l _ hcv fun _ => d_l (i (d.prio + k)) (e_add (by omega) (by omega)) fun _ => d_l _ g2 fun _ => d_l _ hc fun _ => d_false (d_l _ g2 fun _ => d_l _ g1 fun _ => d_l _ (neq_refl d.kind) fun _ => d_false (d_l _ g2 fun _ => d_l _ hn' fun _ => d_l _ g1 fun _ => d_l _ hn fun _ => d_l _ (neq_refl _) fun _ => d_false (d_l _ (e_inc (by omega)) fun _ => d_cont rfl rfl)))
    · have hp : (raiseN k d).prio = d.prio := by
        show (if 4 ≤ d.kind ∧ d.kind ≤ 7 then ad d.prio k else d.prio) = _
        rw [if_neg (fun h => h4 h.1)]
      have hc : (Prim.cmp .neq .i64).ev [c 1 (raiseN k d).enc, c 1 d.enc] = some (.bool false) := by
        show (Prim.cmp .neq .i64).ev [i (raiseN k d).prio, i d.prio] = _
        rw [hp]; exact neq_refl _
      exact d_l _ g2 fun _ => d_l _ hc fun _ => d_false (d_l _ g2 fun _ => d_l _ g1 fun _ => d_l _ (neq_refl d.kind) fun _ => d_false (d_l _ g2 fun _ => d_l _ hn' fun _ => d_l _ g1 fun _ => d_l _ hn fun _ => d_l _ (neq_refl _) fun _ => d_false (d_l _ (e_inc (by omega)) fun _ => d_cont rfl rfl)))
  · refine d_l _ hl2 fun _ => d_l (.bool (decide ((A.length : Int) < (gc a : Int)))) rfl fun _ => d_dec (p := (A.length : Int) < (gc a : Int)) (fun h => by omega) fun _ => ?_
    exact d_call (same_refl7 a hLa) (d_ret rfl)
end Go.Proofs.Ytodomlcjppdgfaa.Tx
