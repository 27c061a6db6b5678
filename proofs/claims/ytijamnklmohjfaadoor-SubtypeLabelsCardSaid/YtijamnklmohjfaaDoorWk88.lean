/- The law: a further label makes a choice of the one kind a subtype, of the other kind a supertype. -/
import Derived.Test.YtijamnklmohjfaaDoorWk85
import Derived.Test.YtijamnklmohjfaaDoorWk45
set_option linter.all false
namespace Go.Proofs.YtijamnklmohjfaaDoor.Tx
open Go.Lf Go.Lf.S Go.Lf.Duo
set_option maxRecDepth 100000

theorem ok_ref02_RaiseLb (t : Ty) (k : Int) (h : Ln t) : OkS P F.ref02_Raise sg_ref02_Raise_Lb [t.enc, i k] (Ty.cellsOf (raiseT k t)) := by
  cases h with
  | mk _ h1 h2 h =>
  obtain ⟨kd, p, nm, s, ls, ks⟩ := t
  have h1 : ls.length ≤ 549755813888 := h1
  have h2 : ks.length ≤ 549755813888 := h2
  have hks : ∀ x ∈ ks, Ok P F.ref02_Raise [x.enc, i k] (raiseT k x).enc := fun x hx => ok_ref02_Raise x k (h x hx)
  rw [raiseT_mk, Ty.enc_mk]
  refine m_ref02_Raise_Lb _ _ (d_l _ (by rfl) fun _ => d_l (.sl []) rfl fun _ => d_l (.sl (ls.map .str)) (by
    show (Prim.app 1 false 16).ev [.sl [], .sl (ls.map .str)] = _
    rw [e_app (all_map okc_str ls) (by simp; omega) (by simp; omega)]; rfl) fun _ => d_l .nilI rfl fun _ => d_l _ rfl fun _ => d_dec (fun h4 => d_l _ rfl fun _ => d_dec (fun h7 => ?_) fun h7 => ?_) fun h4 => ?_)
  · rw [if_pos ⟨h4, h7⟩]
    exact d_l (i (ad p k)) rfl fun _ => d_l (i (ad p k)) rfl fun _ => raise_loop h2 hks (R := fun y => .tup [n y 1, n y 2, n y 3, n y 4, n y 5, n y 6]) rfl
  · rw [if_neg (fun hc => h7 hc.2)]
    exact raise_loop h2 hks (R := fun y => .tup [n y 1, n y 2, n y 3, n y 4, n y 5, n y 6]) rfl
  · rw [if_neg (fun hc => h4 hc.1)]
    exact raise_loop h2 hks (R := fun y => .tup [n y 1, n y 2, n y 3, n y 4, n y 5, n y 6]) rfl

theorem subE_of_ok {ds : List Nd} {k : Key} (h : SOk ds (SubE ds) k) : SubE ds k := by
  refine ⟨fun q => SOk ds (SubE ds) q, h, ?_⟩
  rintro q ⟨a0, b0, x, y, hx, hy, hl, hn⟩
  exact ⟨a0, b0, x, y, hx, hy, hl, fun k' hk => (hn k' hk).ok⟩

/-- the same type at two places -/
theorem rt_sub {ds : List Nd} (hg : GrOk' ds) {a b s t : Int} {T : Ty} (ha : RT ds ⟨a, s⟩ T) (hb : RT ds ⟨b, t⟩ T) : SubE ds (keyOf false a b s t) :=
  eqv_sub hg ha.step.1 hb.step.1 (eqv_rt hg ha hb)

theorem ad0 (x : Int) : ad (ad x 0) 0 = ad x 0 := by rw [ad_ad]; rfl
theorem raise00 (t : Ty) : raiseT 0 (raiseT 0 t) = raiseT 0 t := by rw [raise_raise]; rfl

/-- a type and the same with a further label: their nodes -/
structure Two (ds : List Nd) (a b : Int) (kd : Int) (x y : Nd) (ls : List ByteArray) (l : ByteArray) : Prop where
  a0 : 0 ≤ a
  b0 : 0 ≤ b
  hx : ds[a.toNat]? = some x
  hy : ds[b.toNat]? = some y
  kx : x.kind = kd
  ky : y.kind = kd
  pr : ad x.prio 0 = ad y.prio 0
  lx : x.labels = ls
  ly : y.labels = ls ++ [l]
  rest : ∀ (i j : Nat) (s : ByteArray) (u v : Rf), (ls ++ [l])[i]? = some s → ls[j]? = some s → y.next[i]? = some u → x.next[j]? = some v → ∃ K, RT ds ⟨u.node, ad u.shift 0⟩ K ∧ RT ds ⟨v.node, ad v.shift 0⟩ K

theorem two_of {ds : List Nd} {a b kd p : Int} {nm : ByteArray} {s : Int} {ls : List ByteArray} {ks : List Ty} {l : ByteArray} {rest : Ty} (hk : 6 ≤ kd ∧ kd ≤ 7) (hls : ks.length = ls.length) (hn : (ls ++ [l]).Nodup)
    (ha : RT ds ⟨a, 0⟩ (.mk kd p nm s ls ks)) (hb : RT ds ⟨b, 0⟩ (.mk kd (ad p 0) nm s (ls ++ [l]) (ks.map (raiseT 0) ++ [rest]))) : ∃ x y, Two ds a b kd x y ls l := by
  obtain ⟨ha0, u, x, hu, hx, k1, p1, l1, n1, r1⟩ := ha.step
  obtain ⟨hb0, w, y, hw, hy, k2, p2, l2, n2, r2⟩ := hb.step
  have k8 : ¬ kd = 8 := by omega
  have eu := unf_fun hu (Unf.done _ k8)
  have ew := unf_fun hw (Unf.done _ k8)
  rw [raiseT_mk, if_pos (by omega)] at eu ew
  subst eu ew
  simp only [Ty.kind, Ty.prio, Ty.labels, Ty.kids] at k1 p1 l1 n1 r1 k2 p2 l2 n2 r2
  have hact : act kd = true := by simp only [act, decide_eq_true_eq]; omega
  refine ⟨x, y, ha0, hb0, hx, hy, k1, k2, ?_, l1, l2, ?_⟩
  · rw [p1 (by rw [k1]; exact hact), p2 (by rw [k2]; exact hact), ad0]
  · intro i j st u v hi hj hu hv
    have hjl : j < ls.length := (List.getElem?_eq_some_iff.1 hj).1
    have hi' : (ls ++ [l])[j]? = some st := by rw [List.getElem?_append_left hjl]; exact hj
    obtain rfl := nodup_at hn hi hi'
    have hkj : ks[i]? = some ks[i] := List.getElem?_eq_getElem (by omega)
    refine ⟨raiseT 0 ks[i], ?_, ?_⟩
    · have := r2 i u (raiseT 0 (raiseT 0 ks[i])) hu (by
        rw [List.map_append, List.getElem?_append_left (by simp; omega), List.getElem?_map, List.getElem?_map, hkj]; rfl)
      rwa [raise00] at this
    · exact r1 i v (raiseT 0 ks[i]) hv (by rw [List.getElem?_map, hkj]; rfl)

theorem kSt_eq {u v : Rf} : keyOf false u.node v.node (ad u.shift 0) (ad v.shift 0) = kSt u v 0 := by
  simp only [keyOf, Bool.false_eq_true, if_false, kSt, Key.mk.injEq, true_and, ad]
  rw [wrap_eq]
  have h1 := wrap_mod (u.shift + 0)
  have h2 := wrap_mod (v.shift + 0)
  omega

theorem two_sel {ds : List Nd} (hg : GrOk' ds) {a b : Int} {x y : Nd} {ls : List ByteArray} {l : ByteArray} (h : Two ds a b 6 x y ls l) (hn : (ls ++ [l]).Nodup) : SubE ds ⟨b, a, 0⟩ ∧ ¬ SubE ds ⟨a, b, 0⟩ := by
  constructor
  · refine subE_of_ok ⟨h.b0, h.a0, y, x, h.hy, h.hx, ⟨h.ky.trans h.kx.symm, fun _ => h.pr.symm, fun _ s hs => ?_, fun h7 => ?_⟩, fun k' hk => ?_⟩
    · rw [h.lx] at hs; rw [h.ly]; exact List.mem_append_left _ hs
    · have := h.ky; omega
    · have hky := h.ky
      rcases hk with ⟨h4, _⟩ | ⟨h4, _⟩ | ⟨h5, _⟩ | ⟨_, i, j, u, v, s, hi, hj, hu, hv, rfl⟩
      · omega
      · omega
      · omega
      · rw [h.ly] at hi; rw [h.lx] at hj
        obtain ⟨K, e1, e2⟩ := h.rest i j s u v hi hj hu hv
        have := rt_sub hg e1 e2
        rwa [kSt_eq] at this
  · intro hs
    obtain ⟨_, _, x', y', hx, hy, ⟨_, _, l6, _⟩, _⟩ := hs.ok
    rw [h.hx] at hx; cases hx
    rw [h.hy] at hy; cases hy
    have := l6 h.kx l (by rw [h.ly]; simp)
    rw [h.lx] at this
    rw [List.nodup_append] at hn
    exact hn.2.2 l this l (by simp) rfl
theorem two_bra {ds : List Nd} (hg : GrOk' ds) {a b : Int} {x y : Nd} {ls : List ByteArray} {l : ByteArray} (h : Two ds a b 7 x y ls l) (hn : (ls ++ [l]).Nodup) : SubE ds ⟨a, b, 0⟩ ∧ ¬ SubE ds ⟨b, a, 0⟩ := by
  constructor
  · refine subE_of_ok ⟨h.a0, h.b0, x, y, h.hx, h.hy, ⟨h.kx.trans h.ky.symm, fun _ => h.pr, fun h6 => ?_, fun _ s hs => ?_⟩, fun k' hk => ?_⟩
    · have := h.kx; omega
    · rw [h.lx] at hs; rw [h.ly]; exact List.mem_append_left _ hs
    · have hkx := h.kx
      rcases hk with ⟨h4, _⟩ | ⟨h4, _⟩ | ⟨h5, _⟩ | ⟨_, i, j, u, v, s, hi, hj, hu, hv, rfl⟩
      · omega
      · omega
      · omega
      · rw [h.lx] at hi; rw [h.ly] at hj
        obtain ⟨K, e1, e2⟩ := h.rest j i s v u hj hi hv hu
        have := rt_sub hg e2 e1
        rwa [kSt_eq] at this
  · intro hs
    obtain ⟨_, _, y', x', hy, hx, ⟨_, _, _, l7⟩, _⟩ := hs.ok
    rw [h.hx] at hx; cases hx
    rw [h.hy] at hy; cases hy
    have := l7 h.ky l (by rw [h.ly]; simp)
    rw [h.lx] at this
    rw [List.nodup_append] at hn
    exact hn.2.2 l this l (by simp) rfl

theorem lim_raise {k : Int} : ∀ {t : Ty}, Lim t → Lim (raiseT k t) := by
  intro t
  induction t using Ty.ind with
  | _ t ih =>
  intro h
  cases h with
  | mk _ hn hl hll hk h =>
  obtain ⟨kd, p, nm, s, ls, ks⟩ := t
  rw [raiseT_mk]
  refine .mk _ hn hl hll (by simpa [Ty.kids] using hk) fun x hx => ?_
  obtain ⟨y, hy, rfl⟩ := List.mem_map.1 hx
  exact ih y hy (h y hy)
theorem sz_raise (k : Int) : ∀ t : Ty, (raiseT k t).sz = t.sz := by
  intro t
  induction t using Ty.ind with
  | _ t ih =>
  obtain ⟨kd, p, nm, s, ls, ks⟩ := t
  rw [raiseT_mk]
  have hs : ∀ l : List Ty, (∀ t ∈ l, (raiseT k t).sz = t.sz) → Ty.szs (l.map (raiseT k)) = Ty.szs l := by
    intro l
    induction l with
    | nil => intro _; rfl
    | cons x l ih =>
      intro h
      simp only [List.map_cons, Ty.szs]
      rw [h x List.mem_cons_self, ih fun t ht => h t (List.mem_cons_of_mem _ ht)]
  simp only [Ty.sz]
  rw [hs ks fun t ht => ih t ht]
theorem szs_app (l m : List Ty) : Ty.szs (l ++ m) = Ty.szs l + Ty.szs m := by
  induction l with
  | nil => simp [Ty.szs]
  | cons x l ih => simp only [List.cons_append, Ty.szs, ih]; omega

theorem ok_law11_SubtypeLabels (aw : Ok P F.law11_awake [] (.bool true)) (t rest : Ty) (l : ByteArray) (ht : Lim t) (hr : Lim rest) (hl : l.size ≤ maxLen) : Ok P F.law11_SubtypeLabels [t.enc, rest.enc, .str l] (.bool true) := by
  obtain ⟨ba, sa, wa⟩ := ok_ref02_Small t ht 40 (by omega) (by omega)
  obtain ⟨bb, sb, wb⟩ := ok_ref02_Small rest hr 40 (by omega) (by omega)
  have ea := ok_ref02_Session rest
  have hct : c 4 t.enc = .sl (t.labels.map .str) := by cases t; rw [Ty.enc_mk]; rfl
  refine k_law11_SubtypeLabels _ _ rfl (d_l _ (e_okc (Ty.okc_enc t)) fun _ => d_l _ (e_okc (Ty.okc_enc rest)) fun _ => d_call aw (d_l (.bool false) rfl fun _ => d_false (d_call sa (d_l (.bool !ba) rfl fun _ => d_ite (fun _ => d_call aw (d_ret rfl)) fun h1 => d_call sb (d_l (.bool !bb) rfl fun _ => d_ite (fun _ => d_call aw (d_ret rfl)) fun h2 => d_call ea (d_l _ rfl fun _ => d_ite (fun _ => d_call aw (d_ret rfl)) fun _ => ?_))))))
  obtain ⟨za, wa⟩ := wa (by simpa using h1)
  obtain ⟨zb, wb⟩ := wb (by simpa using h2)
  refine d_l (i ((t.labels.map PV.str).length : Int)) (by show Prim.len.ev [c 4 t.enc] = _; rw [hct]; exact e_len) fun _ => d_l (.bool (decide (((t.labels.map PV.str).length : Int) = 0))) rfl fun _ => d_dec (p := ((t.labels.map PV.str).length : Int) = 0) (fun _ => d_call aw (d_ret rfl)) fun h0 => ?_
  refine d_l (i l.size) rfl fun _ => d_l (.bool (decide ((l.size : Int) > 100))) rfl fun _ => d_dec (p := (l.size : Int) > 100) (fun _ => d_call aw (d_ret rfl)) fun h100 => ?_
  have hLn := Wf.ln t [] 0 wa (by omega)
  refine d_calls rfl (ok_ref02_RaiseLb t 0 hLn) ?_
  obtain ⟨kd, p, nm, s, ls, ks⟩ := t
  have hw1 : Wf1 (.mk kd p nm s ls ks) := by cases wa with | mk _ _ _ h1 _ _ _ => exact h1
  have h0 : ¬ ((ls.map PV.str).length : Int) = 0 := h0
  have hkd : 6 ≤ kd ∧ kd ≤ 7 ∧ ks.length = ls.length := by
    unfold Wf1 at hw1
    simp only [Ty.kind, Ty.prio, Ty.labels, Ty.kids, Ty.shift, List.length_map] at hw1 h0
    omega
  obtain ⟨k6, k7, hkl⟩ := hkd
  cases ht with
  | mk _ hn hlb hll hkk hsub =>
  have hks1 : ks.length ≤ 40 := by
    have : ks.length ≤ Ty.szs ks := szs_len ks
    have e : (Ty.mk kd p nm s ls ks).sz = Ty.szs ks + 1 := by simp only [Ty.sz]
    omega
  rw [raiseT_mk, if_pos ⟨by omega, k7⟩]
  refine d_l (.sl [.str l]) (e_lst fun x hx => by simp at hx; subst hx; rfl) fun _ => d_l (.sl (ls.map .str ++ [.str l])) (e_app (l := ls.map PV.str) (m := [PV.str l]) (fun x hx => by simp at hx; subst hx; rfl) (by simp; omega) (by simp; omega)) fun _ => d_l (.sl [rest.enc]) (e_lst fun x hx => by simp at hx; subst hx; exact Ty.okc_enc _) fun _ => d_l (.sl ((ks.map (raiseT 0)).map Ty.enc ++ [rest.enc])) (e_app (l := (ks.map (raiseT 0)).map Ty.enc) (m := [rest.enc]) (fun x hx => by simp at hx; subst hx; exact Ty.okc_enc _) (by simp; omega) (by simp; omega)) fun _ => ?_
  have hM : (PV.agg [i kd, i (ad p 0), .str nm, i s, .sl (ls.map .str ++ [.str l]), .sl ((ks.map (raiseT 0)).map Ty.enc ++ [rest.enc])]) = (Ty.mk kd (ad p 0) nm s (ls ++ [l]) (ks.map (raiseT 0) ++ [rest])).enc := by
    rw [Ty.enc_mk, List.map_append, List.map_append]; rfl
  have hML : Lim (Ty.mk kd (ad p 0) nm s (ls ++ [l]) (ks.map (raiseT 0) ++ [rest])) := by
    refine .mk _ hn (fun x hx => ?_) ?_ ?_ fun x hx => ?_
    · rcases List.mem_append.1 hx with hx | hx
      · exact hlb x hx
      · simp at hx; subst hx; exact hl
    · show (ls ++ [l]).length ≤ maxLen
      have : (40 : Nat) + 1 ≤ maxLen := by decide
      simp; omega
    · show (ks.map (raiseT 0) ++ [rest]).length ≤ maxLen
      have : (40 : Nat) + 1 ≤ maxLen := by decide
      simp; omega
    · rcases List.mem_append.1 hx with hx | hx
      · obtain ⟨y, hy, rfl⟩ := List.mem_map.1 hx
        exact lim_raise (hsub y hy)
      · simp at hx; subst hx; exact hr
  have hMz : (Ty.mk kd (ad p 0) nm s (ls ++ [l]) (ks.map (raiseT 0) ++ [rest])).sz ≤ 100 := by
    have e : (Ty.mk kd p nm s ls ks).sz = Ty.szs ks + 1 := by simp only [Ty.sz]
    have e2 : Ty.szs (ks.map (raiseT 0)) = Ty.szs ks := by
      have := sz_raise 0 (Ty.mk kd p nm s ls ks)
      rw [raiseT_mk] at this
      simp only [Ty.sz] at this; omega
    simp only [Ty.sz]
    rw [szs_app, e2]; simp only [Ty.szs]; omega
  obtain ⟨e, he, wm⟩ := ok_ref02_Right _ hML (by omega)
  rw [← hM] at he
  refine d_call he (d_l (.bool (!decide (e = 0))) rfl fun _ => d_ndec (fun h => d_ret rfl) fun h => ?_)
  have wm := wm h
  have hnd : (ls ++ [l]).Nodup := by cases wm with | mk _ _ _ h1 _ _ _ => exact h1.2
  generalize hmd : (Ty.mk kd (ad p 0) nm s (ls ++ [l]) (ks.map (raiseT 0) ++ [rest])) = m at wm hMz hML
  have hall : ∀ x ∈ [Ty.mk kd p nm s ls ks, m], (x.sz : Int) ≤ (100 : Nat) ∧ Wf x [] 0 := by
    intro x hx
    simp only [List.mem_cons, List.not_mem_nil, or_false] at hx
    rcases hx with rfl | rfl
    · exact ⟨by omega, wa⟩
    · exact ⟨by omega, wm⟩
  obtain ⟨ds, rs, _, hG, hgr, hrl, hrs, hdf, hrf⟩ := built' [Ty.mk kd p nm s ls ks, m] 2 100 (by simp) (by omega) hall
  have hg : GrOk' ds := hgr
  have hrl : rs.length = 2 := hrl
  match rs, hrl with
  | [r0, r1], _ =>
  obtain ⟨i0, j0, _⟩ := hrs 0 r0 rfl
  obtain ⟨i1, j1, _⟩ := hrs 1 r1 rfl
  have hln : ∀ x ∈ [Ty.mk kd p nm s ls ks, m], ∀ q, (nodesF x q [] []).length = gc x := fun x hx q => len_nodes x [] 0 (hall x hx).2 q [] []
  have hpl : Pl ds 0 (belowsF [Ty.mk kd p nm s ls ks, m] 0 [] []) := ⟨Int.le_refl _, fun k hk => by
    rw [← hdf] at hk
    simp only [← hdf]
    rw [show (0 : Int).toNat + k = k by simp]
    exact List.getElem?_eq_getElem hk⟩
  have p0 := Pl.kid hpl hln 0 (by simp)
  have p1 := Pl.kid hpl hln 1 (by simp)
  have q0 := nextsF_at (ks := [Ty.mk kd p nm s ls ks, m]) (a := 0) (ns := []) (R := []) 0 (by simp)
  have q1 := nextsF_at (ks := [Ty.mk kd p nm s ls ks, m]) (a := 0) (ns := []) (R := []) 1 (by simp)
  rw [← hrf] at q0 q1
  have q0 : r0 = _ := Option.some.inj q0
  have q1 : r1 = _ := Option.some.inj q1
  obtain ⟨R0, f0⟩ := rt_top (t := Ty.mk kd p nm s ls ks) wa p0
  obtain ⟨R1, f1⟩ := rt_top (t := m) wm p1
  have T0 : RT ds r0 (Ty.mk kd p nm s ls ks) := by rw [q0]; exact R0
  have T1 : RT ds r1 m := by rw [q1]; exact R1
  have s0 : r0.shift = 0 := by rw [q0]; exact congrArg Rf.shift f0
  have s1 : r1.shift = 0 := by rw [q1]; exact congrArg Rf.shift f1
  clear q0 q1 f0 f1 hrs hrf hdf R0 R1
  obtain ⟨n0, z0⟩ := r0
  obtain ⟨n1, z1⟩ := r1
  have s0 : z0 = 0 := s0
  have s1 : z1 = 0 := s1
  subst s0 s1
  subst hmd
  obtain ⟨x, y, hT⟩ := two_of ⟨k6, k7⟩ hkl hnd T0 T1
  obtain ⟨b1, o1, c1⟩ := ok_subtype_Sub hg (r := ⟨n1, 0⟩) (r' := ⟨n0, 0⟩) i1 j1 i0 j0
  obtain ⟨b2, o2, c2⟩ := ok_subtype_Sub hg (r := ⟨n0, 0⟩) (r' := ⟨n1, 0⟩) i0 j0 i1 j1
  have hz : ∀ a b : Int, keyOf false a b 0 0 = ⟨a, b, 0⟩ := fun a b => by
    simp only [keyOf, Bool.false_eq_true, if_false]
    rw [Int.sub_self, wrap_0]
  simp only [hz] at c1 c2
  have x0 : (Prim.idx 2 true).ev [.sl [(⟨n0, 0⟩ : Rf).enc, (⟨n1, 0⟩ : Rf).enc], i 0] = some (⟨n0, 0⟩ : Rf).enc := rfl
  have x1 : (Prim.idx 2 true).ev [.sl [(⟨n0, 0⟩ : Rf).enc, (⟨n1, 0⟩ : Rf).enc], i 1] = some (⟨n1, 0⟩ : Rf).enc := rfl
  refine d_l (.sl [(Ty.mk kd p nm s ls ks).enc, (Ty.mk kd (ad p 0) nm s (ls ++ [l]) (ks.map (raiseT 0) ++ [rest])).enc]) (by
    rw [← hM]
    exact e_lst (by
    intro x hx
    simp only [List.mem_cons, List.not_mem_nil, or_false] at hx
    rcases hx with rfl | rfl
    · exact Ty.okc_enc _
    · rfl)) fun _ => d_call hG (d_l (.agg [nds ds]) rfl fun _ => d_l (.sl [(⟨n0, 0⟩ : Rf).enc, (⟨n1, 0⟩ : Rf).enc]) rfl fun _ => d_l (.agg [nds ds]) rfl fun _ => d_l _ x1 fun _ => d_l _ x0 fun _ => d_call o1 (d_l _ x0 fun _ => d_l _ x1 fun _ => d_call o2 (d_l (.bool (decide (kd = 6))) (by rw [Ty.enc_mk]; rfl) fun _ => d_dec (p := kd = 6) (fun e6 => ?_) fun e6 => ?_)))
  · subst e6
    obtain ⟨e1, e2⟩ := two_sel hg hT hnd
    have h1 : b1 = true := c1.2 e1
    have h2 : b2 = false := by
      cases b2 with
      | false => rfl
      | true => exact absurd (c2.1 rfl) e2
    subst h1 h2
    exact d_true (d_l _ rfl fun _ => d_ret rfl)
  · obtain rfl : kd = 7 := by omega
    obtain ⟨e1, e2⟩ := two_bra hg hT hnd
    have h1 : b2 = true := c2.2 e1
    have h2 : b1 = false := by
      cases b1 with
      | false => rfl
      | true => exact absurd (c1.1 rfl) e2
    subst h1 h2
    exact d_true (d_l _ rfl fun _ => d_ret rfl)
end Go.Proofs.YtijamnklmohjfaaDoor.Tx
