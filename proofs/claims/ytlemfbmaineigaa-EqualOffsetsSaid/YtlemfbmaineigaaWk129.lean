/- The law: offsets. -/
import Derived.Test.YtlemfbmaineigaaWk128
set_option linter.all false
namespace Go.Proofs.Ytlemfbmaineigaa.Tx
open Go.Lf Go.Lf.S Go.Lf.Duo
set_option maxRecDepth 100000

theorem cl_topE {L : List Ty} {M : Nat} {t : Ty} (h : Wf t [] 0) (hz : t.sz ≤ M) (hL : ∀ x ∈ occL [] [] t, x ∈ L) : CL L M t := by
  have hp : Pl (nodesF t 0 [] []) 0 (nodesF t 0 [] []) := ⟨Int.le_refl _, fun q hq => by
    show (nodesF t 0 [] [])[(0 : Int).toNat + q]? = _
    rw [show (0 : Int).toNat + q = q by simp]
    exact List.getElem?_eq_getElem hq⟩
  have e : lkT [] [] = noE := by funext y; rfl
  exact ⟨_, _, 0, t, 0, [], [], [], 0, .top t 0 h hp hL (Wf.lm t [] 0 _ h hz), rfl, by rw [raise0_sub h, e, sub_id]⟩

theorem ok_law10_EqualOffsets (aw : Ok P F.law10_awake [] (.bool true)) (a b : Ty) (k : Int) (k0 : -32768 ≤ k) (k1 : k ≤ 32767) (ha : Lim a) (hb : Lim b) : Ok P F.law10_EqualOffsets [a.enc, b.enc, .int .i16 k] (.bool true) := by
  obtain ⟨ba, sa, wa⟩ := ok_ref02_Small a ha 20 (by omega) (by omega)
  obtain ⟨bb, sb, wb⟩ := ok_ref02_Small b hb 20 (by omega) (by omega)
  refine k_law10_EqualOffsets _ _ rfl (d_l _ (e_okc (Ty.okc_enc a)) fun _ => d_l _ (e_okc (Ty.okc_enc b)) fun _ => d_call aw (d_l (.bool false) rfl fun _ => d_false (d_call sa (d_l (.bool !ba) rfl fun _ => d_ite (fun _ => d_call aw (d_ret rfl)) fun h1 => d_call sb (d_l (.bool !bb) rfl fun _ => d_ite (fun _ => d_call aw (d_ret rfl)) fun h2 => ?_)))))
  obtain ⟨za, wa⟩ := wa (by simpa using h1)
  obtain ⟨zb, wb⟩ := wb (by simpa using h2)
  have hla := occL_len [] [] a
  have hlb := occL_len [] [] b
  have ca : CL (occL [] [] a ++ occL [] [] b) 20 a := cl_topE wa (by omega) fun x hx => List.mem_append_left _ hx
  have cb : CL (occL [] [] a ++ occL [] [] b) 20 b := cl_topE wb (by omega) fun x hx => List.mem_append_right _ hx
  have hLl : (occL [] [] a ++ occL [] [] b).length ≤ 1000 := by rw [List.length_append]; omega
  generalize occL [] [] a ++ occL [] [] b = L at *
  have hall : ∀ t ∈ [a, b], (t.sz : Int) ≤ (20 : Nat) ∧ Wf t [] 0 := by
    intro t ht
    simp only [List.mem_cons, List.not_mem_nil, or_false] at ht
    rcases ht with rfl | rfl
    · exact ⟨by omega, wa⟩
    · exact ⟨by omega, wb⟩
  obtain ⟨ds, rs, _, hG, hgr, hrl, hrs, hdf, hrf⟩ := built' [a, b] 2 20 (by simp) (by omega) hall
  have hg : GrOk' ds := hgr
  have hrl : rs.length = 2 := hrl
  match rs, hrl with
  | [r0, r1], _ =>
  obtain ⟨i0, j0, _⟩ := hrs 0 r0 rfl
  obtain ⟨i1, j1, _⟩ := hrs 1 r1 rfl
  have hln : ∀ x ∈ [a, b], ∀ q, (nodesF x q [] []).length = gc x := fun x hx q => len_nodes x [] 0 (hall x hx).2 q [] []
  have hpl : Pl ds 0 (belowsF [a, b] 0 [] []) := ⟨Int.le_refl _, fun k hk => by
    rw [← hdf] at hk
    simp only [← hdf]
    rw [show (0 : Int).toNat + k = k by simp]
    exact List.getElem?_eq_getElem hk⟩
  have p0 := Pl.kid hpl hln 0 (by simp)
  have p1 := Pl.kid hpl hln 1 (by simp)
  have q0 := nextsF_at (ks := [a, b]) (a := 0) (ns := []) (R := []) 0 (by simp)
  have q1 := nextsF_at (ks := [a, b]) (a := 0) (ns := []) (R := []) 1 (by simp)
  rw [← hrf] at q0 q1
  have q0 : r0 = _ := Option.some.inj q0
  have q1 : r1 = _ := Option.some.inj q1
  obtain ⟨R0, f0⟩ := rt_top (t := a) wa p0
  obtain ⟨R1, f1⟩ := rt_top (t := b) wb p1
  have T0 : RT ds r0 a := by rw [q0]; exact R0
  have T1 : RT ds r1 b := by rw [q1]; exact R1
  have s0 : r0.shift = 0 := by rw [q0]; exact congrArg Rf.shift f0
  have s1 : r1.shift = 0 := by rw [q1]; exact congrArg Rf.shift f1
  clear q0 q1 f0 f1 hrs hrf hdf R0 R1 p0 p1 hpl hln
  obtain ⟨n0, z0⟩ := r0
  obtain ⟨n1, z1⟩ := r1
  have s0 : z0 = 0 := s0
  have s1 : z1 = 0 := s1
  subst s0 s1
  obtain ⟨hU, sU, _⟩ := ca.unf
  obtain ⟨hV, sV, _⟩ := cb.unf
  have oU := ok_ref02_Unfold hU (ca.ln (by omega))
  have oV := ok_ref02_Unfold hV (cb.ln (by omega))
  have ua : ∃ u, Unf a u := ⟨_, hU⟩
  -- priorities
  have pzU : pz (unfT a) = (unfT a).prio := by
    unfold pz
    split
    · rfl
    · rename_i hna
      refine (sU.k3 ?_).2.2.symm
      simp only [act, decide_eq_true_eq] at hna
      have := sU.k1; omega
  have pzV : pz (unfT b) = (unfT b).prio := by
    unfold pz
    split
    · rfl
    · rename_i hna
      refine (sV.k3 ?_).2.2.symm
      simp only [act, decide_eq_true_eq] at hna
      have := sV.k1; omega
  have hadk : ad 0 k = k := by unfold ad; rw [Int.zero_add]; exact wrap_in (by omega) (by omega)
  have T0k : RT ds ⟨n0, k⟩ (raiseT k a) := by have := T0.raise k; rwa [hadk] at this
  -- the first offset
  obtain ⟨d, hd⟩ : ∃ d, d = IntKind.i64.wrap ((unfT b).prio - (unfT a).prio) := ⟨_, rfl⟩
  obtain ⟨b1, o1, c1⟩ := ok_Offset hg (r := ⟨n0, 0⟩) (r' := ⟨n1, 0⟩) i0 j0 i1 j1 (d := d) (by rw [pv_rt T0, pv_rt T1, pzU, pzV]; exact hd)
  -- the second one
  obtain ⟨e, he⟩ : ∃ e, e = IntKind.i64.wrap (pz (unfT (raiseT k a)) - pz (unfT a)) := ⟨_, rfl⟩
  obtain ⟨b2, o2, c2⟩ := ok_Offset hg (r := ⟨n0, 0⟩) (r' := ⟨n0, k⟩) i0 j0 i0 j0 (d := e) (by rw [pv_rt T0, pv_rt T0k]; exact he)
  rw [unfT_raise k ua] at he
  have hek : (act (unfT a).kind = true → e = k) ∧ (act (unfT a).kind = false → e = 0) := by
    constructor
    · intro hact
      rw [pz_act (by rw [raise_kind]; exact hact), pz_act hact, raise_prio _ _ hact] at he
      rw [he]
      have h3 : IntKind.i64.wrap (ad (unfT a).prio k - (unfT a).prio) = IntKind.i64.wrap k := by
        rw [wrap_eq]
        have := wrap_mod ((unfT a).prio + k)
        unfold ad; omega
      rw [h3, wrap_in (by omega) (by omega)]
    · intro hact
      have h0 : pz (raiseT k (unfT a)) = 0 := by unfold pz; rw [raise_kind, hact]; simp
      have h1 : pz (unfT a) = 0 := by unfold pz; rw [hact]; simp
      rw [he, h0, h1]; rfl
  have hb2 : b2 = true := by
    refine c2.2 ?_
    by_cases hact : act (unfT a).kind = true
    · rw [hek.1 hact, hadk]
      exact eqv_rt hg T0k T0k
    · have hact : act (unfT a).kind = false := by simpa using hact
      rw [hek.2 hact]
      have h1 := T0.unf hU
      have h2 := T0k.unf (hU.raise k)
      rw [raise_lit2 sU hact] at h2
      exact eqv_rt hg (s := ad 0 0) (by simpa [ad, wrap_0] using h1) h2
  -- the reference
  have cR : CL L 20 (raiseT d a) := ca.raise d
  have oR := ok_ref02_Raise a d (ca.ln (by omega))
  obtain ⟨q, oq, cq⟩ := ok_ref10_Equal (by omega) hLl cR cb
  have hlink := eqP_eqv cR cb (T0.raise d) T1
  have hbq : b1 = q := by rw [Bool.eq_iff_iff, c1, cq, hlink]
  subst hbq
  have hkind : b1 = true → (unfT a).kind = (unfT b).kind := fun h => by
    have := ((cq.1 h).step).1.1
    simp only at this
    rw [unfT_raise d ua, raise_kind] at this
    exact this
  subst hb2
  have x0 : (Prim.idx 2 true).ev [.sl [(⟨n0, 0⟩ : Rf).enc, (⟨n1, 0⟩ : Rf).enc], i 0] = some (⟨n0, 0⟩ : Rf).enc := rfl
  have x1 : (Prim.idx 2 true).ev [.sl [(⟨n0, 0⟩ : Rf).enc, (⟨n1, 0⟩ : Rf).enc], i 1] = some (⟨n1, 0⟩ : Rf).enc := rfl
  have hadd : (Prim.arith .add .i64).ev [i 0, i k] = some (i k) := by
    have := e_add (a := 0) (b := k) (by omega) (by omega)
    rwa [Int.zero_add] at this
  have hcv : (Prim.conv .i64).ev [.int .i16 k] = some (i k) := by
    show some (PV.int .i64 (IntKind.i64.wrap k)) = _
    rw [wrap_in (by omega) (by omega)]
  have c1e : ∀ t : Ty, c 1 t.enc = i t.prio := fun t => by cases t; rw [Ty.enc_mk]; rfl
  have c0e : ∀ t : Ty, c 0 t.enc = i t.kind := fun t => by cases t; rw [Ty.enc_mk]; rfl
  have hsub : (Prim.arith .sub .i64).ev [c 1 (unfT b).enc, c 1 (unfT a).enc] = some (i d) := by rw [c1e, c1e, hd]; rfl
  have bqq : (Prim.bcmp .eql).ev [.bool b1, .bool b1] = some (.bool true) := by cases b1 <;> rfl
  have icm : ∀ x y : Int, (Prim.cmp .eql .i64).ev [i x, i y] = some (.bool (decide (x = y))) := fun _ _ => rfl
  refine d_l (.sl [a.enc, b.enc]) (e_lst (by
    intro x hx
    simp only [List.mem_cons, List.not_mem_nil, or_false] at hx
    rcases hx with rfl | rfl <;> exact Ty.okc_enc _)) fun _ => d_call hG (d_l (.agg [.sl (ds.map Nd.enc)]) rfl fun _ => d_l (.sl [(⟨n0, 0⟩ : Rf).enc, (⟨n1, 0⟩ : Rf).enc]) rfl fun _ => d_l (.agg [.sl (ds.map Nd.enc)]) rfl fun _ => d_l _ x0 fun _ => d_l _ x1 fun _ => d_call o1 (d_l (i (if b1 then d else 0)) rfl fun _ => d_l (.bool b1) rfl fun _ => d_l _ x0 fun _ => d_l _ x0 fun _ => d_l _ x0 fun _ => d_l _ hcv fun _ => d_l _ hadd fun _ => d_l _ rfl fun _ => d_call o2 (d_l (i e) rfl fun _ => d_l (.bool true) rfl fun _ => d_call oU (d_l _ (e_okc (Ty.okc_enc _)) fun _ => d_call oV (d_l _ (e_okc (Ty.okc_enc _)) fun _ => d_l _ hsub fun _ => d_call oR (d_call oq ?_))))))
  refine d_l (.bool (decide ((unfT a).kind ≤ 3))) (by rw [c0e]; rfl) fun _ => d_dec (fun h3 => ?_) fun h3 => ?_
  · have hact : act (unfT a).kind = false := by simp only [act, decide_eq_false_iff_not]; omega
    refine d_true (d_l _ (icm e 0) fun _ => d_dec (fun _ => d_l _ bqq fun _ => d_true (d_l _ (icm _ 0) fun _ => d_ret ?_)) fun h => absurd (hek.2 hact) h)
    have : (if b1 = true then d else 0) = 0 := by
      by_cases hb : b1 = true
      · rw [if_pos hb, hd]
        have hk := hkind hb
        rw [(sU.k3 h3).2.2, (sV.k3 (by omega)).2.2]; rfl
      · rw [if_neg hb]
    rw [this]; rfl
  · have hact : act (unfT a).kind = true := by
      simp only [act, decide_eq_true_eq]
      have := sU.k1; omega
    refine d_true (d_l _ hcv fun _ => d_l _ (icm e k) fun _ => d_dec (fun _ => d_l _ bqq fun _ => d_true ?_) fun h => absurd (hek.1 hact) h)
    cases b1 with
    | true => exact d_true (d_l _ (icm d d) fun _ => d_dec (fun _ => d_ret rfl) fun h => absurd rfl h)
    | false => exact d_false (d_l (.bool true) rfl fun _ => d_true (d_l (.bool true) rfl fun _ => d_ret rfl))
end Go.Proofs.Ytlemfbmaineigaa.Tx
