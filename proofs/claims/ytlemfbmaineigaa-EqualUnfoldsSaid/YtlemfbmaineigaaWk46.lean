/- The law: a type is equal to its unfolding. -/
import Derived.Test.YtlemfbmaineigaaWk45
import Derived.Test.YtlemfbmaineigaaWk20
import Derived.Test.YtlemfbmaineigaaWb
set_option linter.all false
namespace Go.Proofs.Ytlemfbmaineigaa.Tx
open Go.Lf Go.Lf.S Go.Lf.Duo
set_option maxRecDepth 100000

theorem eqR {ds : List Nd} (hg : GrOk' ds) {r r' : Rf} (h0 : 0 ≤ r.node) (h1 : r.node < ds.length) (h0' : 0 ≤ r'.node) (h1' : r'.node < ds.length) :
    ∃ b, Ok P F.equal_Equal [.agg [.sl (ds.map Nd.enc)], r.enc, r'.enc] (.bool b) ∧ (b = true ↔ Eqv ds false (keyOf false r.node r'.node r.shift r'.shift)) := by
  have := ok_equal_Equal hg (a := r.node.toNat) (b := r'.node.toNat) (by omega) (by omega) r.shift r'.shift
  rw [Int.toNat_of_nonneg h0, Int.toNat_of_nonneg h0'] at this
  exact this
theorem alR {ds : List Nd} (hg : GrOk' ds) {r r' : Rf} (h0 : 0 ≤ r.node) (h1 : r.node < ds.length) (h0' : 0 ≤ r'.node) (h1' : r'.node < ds.length) :
    ∃ b, Ok P F.equal_Alike [.agg [.sl (ds.map Nd.enc)], r.enc, r'.enc] (.bool b) ∧ (b = true ↔ Eqv ds true (keyOf true r.node r'.node r.shift r'.shift)) := by
  have := ok_equal_Alike hg (a := r.node.toNat) (b := r'.node.toNat) (by omega) (by omega) r.shift r'.shift
  rw [Int.toNat_of_nonneg h0, Int.toNat_of_nonneg h0'] at this
  exact this

/-! lengths -/
theorem Lim.raise {k : Int} : ∀ {t : Ty}, Lim t → Lim (raiseT k t) := by
  intro t
  induction t using Ty.ind with
  | _ t ih =>
  intro h
  cases h with
  | mk _ hn hl hll hk h =>
  obtain ⟨kd, p, nm, s, ls, ks⟩ := t
  rw [raiseT_mk]
  refine .mk _ hn hl hll (by simpa [Ty.kids] using hk) fun x hx => ?_
  obtain ⟨y, hy, rfl⟩ := List.mem_map.1 hx
  exact ih y hy (h y hy)
theorem Lim.put {x : ByteArray} {b : Ty} (hb : Lim b) : ∀ {t : Ty}, Lim t → Lim (putT x b t) := by
  intro t
  induction t using Ty.ind with
  | _ t ih =>
  intro h
  have h' := h
  cases h with
  | mk _ hn hl hll hk h =>
  obtain ⟨kd, p, nm, s, ls, ks⟩ := t
  unfold putT
  split
  · exact Lim.raise hb
  · split
    · exact Lim.raise h'
    · rw [putTs_eq]
      refine .mk _ hn hl hll (by simpa [Ty.kids] using hk) fun y hy => ?_
      obtain ⟨z, hz, rfl⟩ := List.mem_map.1 hy
      exact ih z hz (h z hz)
theorem Lim.unf {t u : Ty} (h : Unf t u) : Lim t → Lim u := by
  induction h with
  | done t h => exact Lim.raise
  | step t k u r h hk hu ih =>
    intro hl
    have hk' : Lim k := by
      cases hl with
      | mk _ _ _ _ _ h => exact h k (by rw [hk]; simp)
    exact ih (Lim.put hl hk')

theorem raise_lit {k : Int} {u : Ty} {ns : List ByteArray} {g : Nat} (hw : Wf u ns g) (h3 : u.kind ≤ 3) : raiseT k u = u := by
  cases hw with
  | mk _ _ _ h1 _ _ _ =>
  unfold Wf1 at h1
  obtain ⟨kd, p, nm, s, ls, ks⟩ := u
  have h3 : kd ≤ 3 := h3
  have hk : ks = [] := List.eq_nil_of_length_eq_zero (h1.1.2.2.1 h3).1
  subst hk
  rw [raiseT_mk, if_neg (by omega)]; rfl

theorem wf_act {u : Ty} (hw : Wf u [] 0) (h8 : u.kind ≠ 8) (h3 : ¬ u.kind ≤ 3) : act u.kind = true ∧ 0 ≤ u.prio ∧ u.prio ≤ 1000000 := by
  cases hw with
  | mk _ _ _ h1 h9 _ _ =>
  unfold Wf1 at h1
  have h9' : u.kind ≠ 9 := fun e => by obtain ⟨j, hj, _⟩ := h9 e; omega
  refine ⟨?_, h1.1.2.1.1, h1.1.2.1.2.1⟩
  simp only [act, decide_eq_true_eq]
  omega

/-- raised by another number it is another -/
theorem neq_raise {ds : List Nd} {a b k : Int} {u : Ty} (ha : RT ds ⟨a, 0⟩ u) (hb : RT ds ⟨b, 0⟩ u) (hu : Unf u u) (hact : act u.kind = true) (p0 : 0 ≤ u.prio) (p1 : u.prio ≤ 1000000) (k0 : -32768 ≤ k) (k1 : k ≤ 32767) (he : Eqv ds false (keyOf false a b k 0)) : k = 0 := by
  obtain ⟨ha0, u1, x, hu1, hx, c1, c2, _⟩ := ha.step
  obtain ⟨hb0, u2, y, hu2, hy, d1, d2, _⟩ := hb.step
  obtain rfl := unf_fun hu hu1
  obtain rfl := unf_fun hu hu2
  have ha0 : 0 ≤ a := ha0
  have hb0 : 0 ≤ b := hb0
  obtain ⟨hal, hxe⟩ := List.getElem?_eq_some_iff.1 hx
  obtain ⟨hbl, hye⟩ := List.getElem?_eq_some_iff.1 hy
  simp only at hal hbl hxe hye
  obtain ⟨L, hL, hk⟩ := he
  have hloc := (hL _ hk).1
  have hke : keyOf false a b k 0 = keyOf false (a.toNat : Int) (b.toNat : Int) k 0 := by rw [Int.toNat_of_nonneg ha0, Int.toNat_of_nonneg hb0]
  rw [hke, loc_key hal hbl, hxe, hye] at hloc
  have hp : prN x k = prN y 0 := by
    simp only [Bool.false_or, Bool.and_eq_true, decide_eq_true_eq] at hloc
    exact hloc.2
  have hx1 : act x.kind = true := by rw [c1]; exact hact
  have hy1 : act y.kind = true := by rw [d1]; exact hact
  have c2 := c2 hx1
  have d2 := d2 hy1
  simp only at c2 d2
  unfold prN at hp
  rw [if_pos hx1, if_pos hy1, d2] at hp
  unfold ad at hp c2
  simp only [IntKind.wrap, IntKind.signed, IntKind.bits] at hp c2
  simp at hp c2
  omega

theorem ok_law10_EqualUnfolds (aw : Ok P F.law10_awake [] (.bool true)) (t : Ty) (k : Int) (k0 : -32768 ≤ k) (k1 : k ≤ 32767) (ht : Lim t) : Ok P F.law10_EqualUnfolds [t.enc, .int .i16 k] (.bool true) := by
  obtain ⟨bt, st, wt⟩ := ok_ref02_Small t ht 20 (by omega) (by omega)
  refine k_law10_EqualUnfolds _ _ rfl (d_l _ (e_okc (Ty.okc_enc t)) fun _ => d_call aw (d_l (.bool false) rfl fun _ => d_false (d_call st (d_l (.bool !bt) rfl fun _ => d_ite (fun _ => d_call aw (d_ret rfl)) fun h1 => ?_))))
  obtain ⟨zt, wt⟩ := wt (by simpa using h1)
  obtain ⟨nh, hh⟩ := Wf.hd t [] wt
  obtain ⟨u, hU, _⟩ := hh.unf
  have hLu := Lim.unf hU ht
  obtain ⟨bu, su, wu⟩ := ok_ref02_Small u hLu 400 (by omega) (by omega)
  refine d_call (ok_ref02_Unfold hU (Wf.ln t [] 0 wt (by omega))) (d_l _ (e_okc (Ty.okc_enc u)) fun _ => d_call su (d_l (.bool !bu) rfl fun _ => d_ite (fun _ => d_ret rfl) fun h2 => ?_))
  obtain ⟨zu, wu⟩ := wu (by simpa using h2)
  have hall : ∀ x ∈ [t, u], (x.sz : Int) ≤ (400 : Nat) ∧ Wf x [] 0 := by
    intro x hx
    simp only [List.mem_cons, List.not_mem_nil, or_false] at hx
    rcases hx with rfl | rfl
    · exact ⟨by omega, wt⟩
    · exact ⟨by omega, wu⟩
  obtain ⟨ds, rs, _, hG, hgr, hrl, hrs, hdf, hrf⟩ := built' [t, u] 2 400 (by simp) (by omega) hall
  have hg : GrOk' ds := hgr
  have hrl : rs.length = 2 := hrl
  match rs, hrl with
  | [r0, r1], _ =>
  obtain ⟨i0, j0, _⟩ := hrs 0 r0 rfl
  obtain ⟨i1, j1, _⟩ := hrs 1 r1 rfl
  have hln : ∀ x ∈ [t, u], ∀ q, (nodesF x q [] []).length = gc x := fun x hx q => len_nodes x [] 0 (hall x hx).2 q [] []
  have hpl : Pl ds 0 (belowsF [t, u] 0 [] []) := ⟨Int.le_refl _, fun k hk => by
    rw [← hdf] at hk
    simp only [← hdf]
    rw [show (0 : Int).toNat + k = k by simp]
    exact List.getElem?_eq_getElem hk⟩
  have p0 := Pl.kid hpl hln 0 (by simp)
  have p1 := Pl.kid hpl hln 1 (by simp)
  have q0 := nextsF_at (ks := [t, u]) (a := 0) (ns := []) (R := []) 0 (by simp)
  have q1 := nextsF_at (ks := [t, u]) (a := 0) (ns := []) (R := []) 1 (by simp)
  rw [← hrf] at q0 q1
  have q0 : r0 = _ := Option.some.inj q0
  have q1 : r1 = _ := Option.some.inj q1
  obtain ⟨R0, f0⟩ := rt_top (t := t) wt p0
  obtain ⟨R1, f1⟩ := rt_top (t := u) wu p1
  have R0 : RT ds r0 u := by rw [q0]; exact R0.unf hU
  have R1 : RT ds r1 u := by rw [q1]; exact R1
  have s0 : r0.shift = 0 := by rw [q0]; exact congrArg Rf.shift f0
  have s1 : r1.shift = 0 := by rw [q1]; exact congrArg Rf.shift f1
  clear q0 q1 f0 f1 hrs hrf hdf
  obtain ⟨n0, z0⟩ := r0
  obtain ⟨n1, z1⟩ := r1
  have s0 : z0 = 0 := s0
  have s1 : z1 = 0 := s1
  subst s0 s1
  have hadk : ad 0 k = k := by unfold ad; rw [Int.zero_add]; exact wrap_in (by omega) (by omega)
  have R0k : RT ds ⟨n0, k⟩ (raiseT k u) := by have := R0.raise k; rwa [hadk] at this
  have R1k : RT ds ⟨n1, k⟩ (raiseT k u) := by have := R1.raise k; rwa [hadk] at this
  obtain ⟨b1, o1, c1⟩ := eqR hg (r := ⟨n0, 0⟩) (r' := ⟨n1, 0⟩) i0 j0 i1 j1
  obtain ⟨b2, o2, c2⟩ := eqR hg (r := ⟨n0, k⟩) (r' := ⟨n1, k⟩) i0 j0 i1 j1
  obtain ⟨b3, o3, c3⟩ := alR hg (r := ⟨n0, k⟩) (r' := ⟨n1, 0⟩) i0 j0 i1 j1
  obtain ⟨b4, o4, c4⟩ := eqR hg (r := ⟨n0, k⟩) (r' := ⟨n1, 0⟩) i0 j0 i1 j1
  have h1 : b1 = true := c1.2 (eqv_rt hg R0 R1)
  have h2 : b2 = true := c2.2 (eqv_rt hg R0k R1k)
  have h3 : b3 = true := by
    refine c3.2 ?_
    have := keyOf_alike (eqv_rt hg R0 R1)
    simpa [keyOf] using this
  have h4 : b4 = true ↔ k = 0 ∨ u.kind ≤ 3 := by
    rw [c4]
    constructor
    · intro h
      by_cases hk3 : u.kind ≤ 3
      · exact .inr hk3
      · obtain ⟨a1, a2, a3⟩ := wf_act wu (unf_done hU).1 hk3
        exact .inl (neq_raise R0 R1 (unf_self hU) a1 a2 a3 k0 k1 h)
    · rintro (rfl | hk3)
      · exact eqv_rt hg R0 R1
      · have := R0k
        rw [raise_lit wu hk3] at this
        exact eqv_rt hg this R1
  subst h1 h2 h3
  have hadd : (Prim.arith .add .i64).ev [i 0, i k] = some (i k) := by
    have := e_add (a := 0) (b := k) (by omega) (by omega)
    rwa [Int.zero_add] at this
  have hcv : (Prim.conv .i64).ev [.int .i16 k] = some (i k) := by
    show some (PV.int .i64 (IntKind.i64.wrap k)) = _
    rw [wrap_in (by omega) (by omega)]
  have x0 : (Prim.idx 2 true).ev [.sl [(⟨n0, 0⟩ : Rf).enc, (⟨n1, 0⟩ : Rf).enc], i 0] = some (⟨n0, 0⟩ : Rf).enc := rfl
  have x1 : (Prim.idx 2 true).ev [.sl [(⟨n0, 0⟩ : Rf).enc, (⟨n1, 0⟩ : Rf).enc], i 1] = some (⟨n1, 0⟩ : Rf).enc := rfl
  refine d_l (.sl [t.enc, u.enc]) (e_lst (by
    intro x hx
    simp only [List.mem_cons, List.not_mem_nil, or_false] at hx
    rcases hx with rfl | rfl <;> exact Ty.okc_enc _)) fun _ => d_call hG (d_l (.agg [.sl (ds.map Nd.enc)]) rfl fun _ => d_l (.sl [(⟨n0, 0⟩ : Rf).enc, (⟨n1, 0⟩ : Rf).enc]) rfl fun _ => d_l (.agg [.sl (ds.map Nd.enc)]) rfl fun _ => d_l _ x0 fun _ => d_l _ x0 fun _ => d_l _ hcv fun _ => d_l _ hadd fun _ => d_l _ rfl fun _ => d_l _ x1 fun _ => d_l _ x1 fun _ => d_l _ hcv fun _ => d_l _ hadd fun _ => d_l _ rfl fun _ => d_l _ x0 fun _ => d_l _ x1 fun _ => d_call o1 (d_true (d_call o2 (d_true (d_l _ x1 fun _ => d_call o3 (d_true (d_l _ x1 fun _ => d_call o4 ?_)))))))
  have hk0 : c 0 u.enc = i u.kind := by cases u; rw [Ty.enc_mk]; rfl
  refine d_l (.bool (decide (k = 0))) rfl fun _ => d_dec (p := k = 0) (fun e => ?_) fun e => ?_
  · rw [h4.2 (.inl e)]
    exact d_l (.bool true) rfl fun _ => d_ret rfl
  · refine d_l (.bool (decide (u.kind ≤ 3))) (by rw [hk0]; rfl) fun _ => d_l (.bool true) ?_ fun _ => d_ret rfl
    have : b4 = decide (u.kind ≤ 3) := by
      rw [Bool.eq_iff_iff, h4, decide_eq_true_iff]
      exact ⟨fun h => h.resolve_left e, .inr⟩
    rw [this]
    show some (PV.bool (decide (u.kind ≤ 3) == decide (u.kind ≤ 3))) = _
    simp
end Go.Proofs.Ytlemfbmaineigaa.Tx
