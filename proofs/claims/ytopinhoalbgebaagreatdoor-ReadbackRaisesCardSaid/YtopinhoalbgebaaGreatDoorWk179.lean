/- The law: the normal tree of a raised type. -/
import Derived.Test.YtopinhoalbgebaaGreatDoorWk178
set_option linter.all false
namespace Go.Proofs.YtopinhoalbgebaaGreatDoor.Tx
open Go.Lf Go.Lf.S Go.Lf.Duo
set_option maxRecDepth 100000

theorem pok0 {L : List Ty} {M : Nat} : POk L M [] := ⟨(fun p h => by cases h), (fun p h => by cases h), (fun p h => by cases h), List.nodup_nil⟩
/-- the graph of one type, and its reference -/
theorem one_graph {t : Ty} (hw : Wf t [] 0) (hz : t.sz ≤ 1000000) : GrOk' (belowsF [t] 0 [] []) ∧ nextsF [t] 0 [] [] = [⟨0, 0⟩] ∧ RT (belowsF [t] 0 [] []) ⟨0, 0⟩ t := by
  obtain ⟨ds, rs, _, _, hgr, hrl, hrs, hdf, hrf⟩ := built' [t] 1 1000000 (by simp) (by omega) (by
    intro x hx
    obtain rfl := List.mem_singleton.1 hx
    exact ⟨by omega, hw⟩)
  have hpl : Pl ds 0 (belowsF [t] 0 [] []) := ⟨Int.le_refl _, fun k hk => by
    rw [← hdf] at hk
    simp only [← hdf]
    rw [show (0 : Int).toNat + k = k by simp]
    exact List.getElem?_eq_getElem hk⟩
  have hln : ∀ x ∈ [t], ∀ q, (nodesF x q [] []).length = gc x := fun x hx q => len_nodes x [] 0 (by obtain rfl := List.mem_singleton.1 hx; exact hw) q [] []
  have p0 := Pl.kid hpl hln 0 (by simp)
  have q0 := nextsF_at (ks := [t]) (a := 0) (ns := []) (R := []) 0 (by simp)
  obtain ⟨R0, f0⟩ := rt_top (t := t) hw p0
  have hr0 : rs = [⟨0, 0⟩] := by
    rw [← hrf] at q0
    have e : rs = [rs[0]'(by simp at hrl; omega)] := by
      match rs, hrl with
      | [r], _ => rfl
    rw [List.getElem?_eq_getElem (by simp at hrl; omega)] at q0
    rw [e, Option.some.inj q0]
    simpa [gcs] using f0
  rw [← hdf, ← hrf]
  refine ⟨hgr, hr0, ?_⟩
  have : (⟨0, 0⟩ : Rf) = refF t 0 [] [] := by
    rw [← hrf, hr0] at q0
    have := Option.some.inj q0
    simpa [gcs] using this
  rw [this]
  simpa [gcs] using R0
theorem ok_Canonical {L : List Ty} {M : Nat} (hM : M ≤ 1000) (hL : L.length ≤ 99) {m : Nat} (hm : L.length ≤ m) {t : Ty} (hw : Wf t [] 0) (hz : t.sz ≤ 1000000) (hT : CL L M t) : Ok P F.readback_Canonical [t.enc] (nmT (m + 1) [] t).enc := by
  obtain ⟨g1, g2, g3⟩ := one_graph hw hz
  have hB := ok_graph_Build [t] (fun x hx => by obtain rfl := List.mem_singleton.1 hx; exact hw) (by simp [Ty.szs]; omega)
  rw [g2] at hB
  have hN := ok_Normal g1 hM hL hm hT g3
  refine k_readback_Canonical _ _ rfl (d_l _ (e_okc (Ty.okc_enc t)) fun _ => d_l (.sl ([t].map Ty.enc)) (e_lst fun x hx => by simp at hx; subst hx; exact Ty.okc_enc _) fun _ => d_call hB (d_l (.agg [.sl ((belowsF [t] 0 [] []).map Nd.enc)]) rfl fun _ => d_l (.sl [(⟨0, 0⟩ : Rf).enc]) rfl fun _ => d_l (.agg [.sl ((belowsF [t] 0 [] []).map Nd.enc)]) rfl fun _ => d_l (⟨0, 0⟩ : Rf).enc rfl fun _ => d_call hN (d_l _ (e_okc (Ty.okc_enc _)) fun _ => d_ret rfl)))

/-! raising -/
theorem lim_raise {k : Int} : ∀ {t : Ty}, Lim t → Lim (raiseT k t) := by
  intro t
  induction t using Ty.ind with
  | _ t ih =>
  intro h
  cases h with
  | mk _ hn hl hll hk h =>
  obtain ⟨kd, p, nm, s, ls, ks⟩ := t
  rw [raiseT_mk]
  refine .mk _ hn hl hll (by simpa [Ty.kids] using hk) fun x hx => ?_
  obtain ⟨y, hy, rfl⟩ := List.mem_map.1 hx
  exact ih y hy (h y hy)
theorem raise_sz (k : Int) : ∀ t : Ty, (raiseT k t).sz = t.sz := by
  intro t
  induction t using Ty.ind with
  | _ t ih =>
  obtain ⟨kd, p, nm, s, ls, ks⟩ := t
  rw [raiseT_mk]
  have hs : ∀ l : List Ty, (∀ t ∈ l, (raiseT k t).sz = t.sz) → Ty.szs (l.map (raiseT k)) = Ty.szs l := by
    intro l
    induction l with
    | nil => intro _; rfl
    | cons x l ih =>
      intro h
      simp only [List.map_cons, Ty.szs]
      rw [h x List.mem_cons_self, ih fun t ht => h t (List.mem_cons_of_mem _ ht)]
  simp only [Ty.sz]
  rw [hs ks fun t ht => ih t ht]
theorem off_raise {p u : Ty} (hp : act p.kind = true) (hu : act u.kind = true) (k : Int) : off (raiseT k p) (raiseT k u) = off p u := by
  unfold off
  rw [pz_act (by rw [raise_kind]; exact hp), pz_act hp, raise_prio _ _ hp, raise_prio _ _ hu]
  rw [wrap_eq]
  have g1 := wrap_mod (u.prio + k)
  have g2 := wrap_mod (p.prio + k)
  unfold ad; omega
theorem hit_raise {L : List Ty} {M : Nat} {p u : Ty} (cp : CL L M p) (cu : CL L M u) (up : unfT p = p) (uu : unfT u = u) (hp : act p.kind = true) (hu : act u.kind = true) (k : Int) : Hit (raiseT k p) (raiseT k u) ↔ Hit p u := by
  unfold Hit
  rw [off_raise hp hu]
  have e : raiseT (off p u) (raiseT k p) = raiseT k (raiseT (off p u) p) := by rw [raise_raise, raise_raise]; congr 1; omega
  rw [e]
  have h0 : raiseT 0 p = p := by have := raise0 cp; rwa [up] at this
  have h1 : raiseT 0 u = u := by have := raise0 cu; rwa [uu] at this
  refine eqP_raise_iff (cp.raise _) cu ?_ h1 k
  rw [raise_raise]; congr 1; omega
theorem kidAt_raise {M : Nat} {u : Ty} (hS : Shp M u) (k : Int) {s : ByteArray} (hs : s ∈ u.labels) : kidAt (raiseT k u) s = raiseT k (kidAt u s) := by
  obtain ⟨j, h1, h2⟩ := kidAt_ex hS hs
  exact kidAt_eq (by rw [raise_labels]; exact hS.nd) (by rw [raise_labels]; exact h1) (by rw [raise_kids, List.getElem?_map, h2]; rfl)
theorem ordK_raise {M : Nat} {u : Ty} (hS : Shp M u) (hM : M ≤ 549755813888) (k : Int) : ordK (raiseT k u) = (ordK u).map (raiseT k) := by
  unfold ordK
  rw [raise_labels]
  split
  · exact raise_kids k u
  · rw [List.map_map]
    have := (shp_lm hS).1
    exact List.map_congr_left fun s hs => kidAt_raise hS k ((srt_spec hS.nd (by omega)).2.1 s |>.1 hs)
theorem usB_raise (s : ByteArray) (k : Int) : ∀ t : Ty, usB s (raiseT k t) = usB s t := by
  intro t
  induction t using Ty.ind with
  | _ t ih =>
  obtain ⟨kd, p, nm, sh, ls, ks⟩ := t
  rw [raiseT_mk, usB_mk, usB_mk, List.any_map]
  congr 1
  rw [Bool.eq_iff_iff, List.any_eq_true, List.any_eq_true]
  constructor <;> rintro ⟨x, hx, h⟩
  · exact ⟨x, hx, by rw [← ih x hx]; exact h⟩
  · exact ⟨x, hx, by show usB s (raiseT k x) = true; rw [ih x hx]; exact h⟩
theorem wrap_raise (m : Nat) (k : Int) (t : Ty) : wrapT m (raiseT k t) = raiseT k (wrapT m t) := by
  have e : (raiseT k t).kids.any (usB (nmB m)) = t.kids.any (usB (nmB m)) := by
    rw [raise_kids, List.any_map]
    congr 1
    funext x
    exact usB_raise _ k x
  unfold wrapT
  rw [e]
  split
  · rw [raiseT_mk]; rfl
  · rfl
theorem nmT_raise {L : List Ty} {M : Nat} (hM : M ≤ 549755813888) (k : Int) : ∀ (m : Nat) (path : List Ty) (T : Ty), CL L M T → POk L M path → nmT m (path.map (raiseT k)) (raiseT k T) = raiseT k (nmT m path T) := by
  intro m
  induction m with
  | zero => intro path T _ _; rfl
  | succ m ih =>
    intro path T hT hp
    have hS := hT.unf.2.1
    have hur : unfT (raiseT k T) = raiseT k (unfT T) := unfT_raise k hT.ex
    by_cases h3 : (unfT T).kind ≤ 3
    · rw [nmT_lit h3, nmT_lit (by rw [hur, raise_kind]; exact h3), hur, raise_kind, litT, raiseT_mk, if_neg (by omega)]; rfl
    have hact : act (unfT T).kind = true := by
      have := hS.k1
      simp only [act, decide_eq_true_eq]; omega
    have h3' : ¬ (unfT (raiseT k T)).kind ≤ 3 := by rw [hur, raise_kind]; exact h3
    have hh : ∀ q (hq : q < path.length), Hit ((path.map (raiseT k))[q]'(by simpa using hq)) (unfT (raiseT k T)) ↔ Hit path[q] (unfT T) := fun q hq => by
      rw [List.getElem_map, hur]
      have hm := List.getElem_mem hq
      exact hit_raise (hp.cl _ hm) hT.unfC (hp.un _ hm) hT.uu (hp.ac _ hm) hact k
    cases hf : fnd path (unfT T) with
    | some j =>
      obtain ⟨hj, g1, g2⟩ := fnd_some hf
      have hf' : fnd (path.map (raiseT k)) (unfT (raiseT k T)) = some j := fnd_of (by simpa using hj) ((hh j hj).2 g1) fun q hq c => g2 q hq ((hh q (by omega)).1 c)
      rw [nmT_var h3 hf hj, nmT_var h3' hf' (by simpa using hj), List.getElem_map, hur, off_raise (hp.ac _ (List.getElem_mem hj)) hact, varT, raiseT_mk, if_neg (by omega)]; rfl
    | none =>
      have g := fnd_none hf
      have hf' : fnd (path.map (raiseT k)) (unfT (raiseT k T)) = none := fnd_of_none fun q hq c => g q (by simpa using hq) ((hh q (by simpa using hq)).1 c)
      rw [nmT_node h3 hf, nmT_node h3' hf', hur, ordK_raise hS hM, List.length_map, ← wrap_raise]
      have hp2 := hp.snoc hT hact hf
      have e : path.map (raiseT k) ++ [raiseT k (unfT T)] = (path ++ [unfT T]).map (raiseT k) := by simp
      have e2 : ((ordK (unfT T)).map (raiseT k)).map (nmT m (path.map (raiseT k) ++ [raiseT k (unfT T)])) = ((ordK (unfT T)).map (nmT m (path ++ [unfT T]))).map (raiseT k) := by
        rw [List.map_map, List.map_map, e]
        exact List.map_congr_left fun x hx => ih _ x (hT.unf.2.2 x (ordK_mem hS hM hx)) hp2
      rw [e2]
      congr 1
      unfold nodeT
      rw [raiseT_mk, raise_kind, raise_labels, raise_prio _ _ hact]
      have h47 : 4 ≤ (unfT T).kind ∧ (unfT T).kind ≤ 7 := by simpa [act] using hact
      rw [if_pos h47]

theorem ok_law12_ReadbackRaises (aw : Ok P F.law12_awake [] (.bool true)) (t : Ty) (k : Int) (k0 : 0 ≤ k) (k1 : k ≤ 255) (ht : Lim t) : Ok P F.law12_ReadbackRaises [t.enc, .int .u8 k] (.bool true) := by
  obtain ⟨b, s, w⟩ := ok_ref02_Small t ht 12 (by omega) (by omega)
  refine k_law12_ReadbackRaises _ _ rfl (d_l _ (e_okc (Ty.okc_enc t)) fun _ => d_call aw (d_l (.bool false) rfl fun _ => d_false (d_call s (d_l (.bool !b) rfl fun _ => d_ite (fun _ => d_call aw (d_ret rfl)) fun h1 => ?_))))
  obtain ⟨hz, hw⟩ := w (by simpa using h1)
  have hlen := occL_len [] [] t
  have ct : CL (occL [] [] t) 12 t := cl_topE hw (by omega) fun x hx => hx
  have hL : (occL [] [] t).length ≤ 99 := by omega
  generalize occL [] [] t = L at *
  have hcv : (Prim.conv .i64).ev [.int .u8 k] = some (i k) := by
    show some (PV.int .i64 (IntKind.i64.wrap k)) = _
    rw [wrap_in (by omega) (by omega)]
  have lnt := ct.ln (show 12 ≤ 549755813888 by omega)
  have oR := ok_ref02_Raise t k lnt
  have hzr : (raiseT k t).sz = t.sz := raise_sz k t
  obtain ⟨e, oG, he⟩ := ok_ref02_Right (raiseT k t) (lim_raise ht) (by omega)
  refine d_l _ hcv fun _ => d_call oR (d_l _ (e_okc (Ty.okc_enc _)) fun _ => d_call oG (d_l (.bool (!decide (e = 0))) rfl fun _ => d_ndec (fun _ => d_ret rfl) fun he0 => ?_))
  have hwr := he he0
  have c1 := ok_Canonical (m := L.length) (by omega) hL (by omega) hwr (by omega) (ct.raise k)
  have c2 := ok_Canonical (m := L.length) (by omega) hL (by omega) hw (by omega) ct
  have hln := nmT_ln (show 12 ≤ 549755813888 by omega) (L.length + 1) [] t ct
  have oR2 := ok_ref02_Raise (nmT (L.length + 1) [] t) k hln
  rw [← nmT_raise (show 12 ≤ 549755813888 by omega) k (L.length + 1) [] t ct pok0] at oR2
  have hln2 := nmT_ln (show 12 ≤ 549755813888 by omega) (L.length + 1) [] (raiseT k t) (ct.raise k)
  have oS := ok_same (nmT (L.length + 1) [] (raiseT k t)) (nmT (L.length + 1) [] (raiseT k t)) hln2
  rw [dq_t rfl] at oS
  exact d_call c1 (d_call c2 (d_l _ hcv fun _ => d_call oR2 (d_call oS (d_ret rfl))))
end Go.Proofs.YtopinhoalbgebaaGreatDoor.Tx
