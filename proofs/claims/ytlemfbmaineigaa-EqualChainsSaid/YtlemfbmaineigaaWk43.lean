/- The law: equality is transitive and symmetric, equal types are alike, the order of labels does not matter. -/
import Derived.Test.YtlemfbmaineigaaWk42
import Derived.Test.YtlemfbmaineigaaWb
set_option linter.all false
namespace Go.Proofs.Ytlemfbmaineigaa.Tx
open Go.Lf Go.Lf.S Go.Lf.Duo
set_option maxRecDepth 100000

theorem eq_refs {ds : List Nd} (hg : GrOk' ds) {r r' : Rf} (h0 : 0 ≤ r.node) (h1 : r.node < ds.length) (h0' : 0 ≤ r'.node) (h1' : r'.node < ds.length) :
    ∃ b, Ok P F.equal_Equal [.agg [.sl (ds.map Nd.enc)], r.enc, r'.enc] (.bool b) ∧ (b = true ↔ Eqv ds false (keyOf false r.node r'.node r.shift r'.shift)) := by
  have := ok_equal_Equal hg (a := r.node.toNat) (b := r'.node.toNat) (by omega) (by omega) r.shift r'.shift
  rw [Int.toNat_of_nonneg h0, Int.toNat_of_nonneg h0'] at this
  exact this
theorem al_refs {ds : List Nd} (hg : GrOk' ds) {r r' : Rf} (h0 : 0 ≤ r.node) (h1 : r.node < ds.length) (h0' : 0 ≤ r'.node) (h1' : r'.node < ds.length) :
    ∃ b, Ok P F.equal_Alike [.agg [.sl (ds.map Nd.enc)], r.enc, r'.enc] (.bool b) ∧ (b = true ↔ Eqv ds true (keyOf true r.node r'.node r.shift r'.shift)) := by
  have := ok_equal_Alike hg (a := r.node.toNat) (b := r'.node.toNat) (by omega) (by omega) r.shift r'.shift
  rw [Int.toNat_of_nonneg h0, Int.toNat_of_nonneg h0'] at this
  exact this

theorem bq (a : Bool) : (Prim.bcmp .eql).ev [.bool a, .bool a] = some (.bool true) := by cases a <;> rfl
theorem beq_iff' {a b : Bool} (h : a = true ↔ b = true) : a = b := by cases a <;> cases b <;> simp_all

theorem ok_law10_EqualChains (aw : Ok P F.law10_awake [] (.bool true)) (a b c : Ty) (ha : Lim a) (hb : Lim b) (hc : Lim c) : Ok P F.law10_EqualChains [a.enc, b.enc, c.enc] (.bool true) := by
  obtain ⟨ba, sa, wa⟩ := ok_ref02_Small a ha 40 (by omega) (by omega)
  obtain ⟨bb, sb, wb⟩ := ok_ref02_Small b hb 40 (by omega) (by omega)
  obtain ⟨bc, sc, wc⟩ := ok_ref02_Small c hc 40 (by omega) (by omega)
  refine k_law10_EqualChains _ _ rfl (d_l _ (e_okc (Ty.okc_enc a)) fun _ => d_l _ (e_okc (Ty.okc_enc b)) fun _ => d_l _ (e_okc (Ty.okc_enc c)) fun _ => d_call aw (d_l (.bool false) rfl fun _ => d_false (d_call sa (d_l (.bool !ba) rfl fun _ => d_ite (fun _ => d_call aw (d_ret rfl)) fun h1 => d_call sb (d_l (.bool !bb) rfl fun _ => d_ite (fun _ => d_call aw (d_ret rfl)) fun h2 => d_call sc (d_l (.bool !bc) rfl fun _ => d_ite (fun _ => d_call aw (d_ret rfl)) fun h3 => ?_))))))
  obtain ⟨za, wa⟩ := wa (by simpa using h1)
  obtain ⟨zb, wb⟩ := wb (by simpa using h2)
  obtain ⟨zc, wc⟩ := wc (by simpa using h3)
  have hT := ok_law10_turned a (Wf.lk a [] 0 wa (by omega))
  have hall : ∀ t ∈ [a, b, c, turnT a], (t.sz : Int) ≤ (40 : Nat) ∧ Wf t [] 0 := by
    intro t ht
    simp only [List.mem_cons, List.not_mem_nil, or_false] at ht
    rcases ht with rfl | rfl | rfl | rfl
    · exact ⟨by omega, wa⟩
    · exact ⟨by omega, wb⟩
    · exact ⟨by omega, wc⟩
    · exact ⟨by rw [turn_sz]; omega, Wf.turn a [] 0 wa⟩
  obtain ⟨ds, rs, _, hG, hgr, hrl, hrs, hdf, hrf⟩ := built' [a, b, c, turnT a] 4 40 (by simp) (by omega) hall
  have hg : GrOk' ds := hgr
  have hrl : rs.length = 4 := hrl
  match rs, hrl with
  | [r0, r1, r2, r3], _ =>
  obtain ⟨i0, j0, _⟩ := hrs 0 r0 rfl
  obtain ⟨i1, j1, _⟩ := hrs 1 r1 rfl
  obtain ⟨i2, j2, _⟩ := hrs 2 r2 rfl
  obtain ⟨i3, j3, _⟩ := hrs 3 r3 rfl
  obtain ⟨b01, o01, c01⟩ := eq_refs hg i0 j0 i1 j1
  obtain ⟨b12, o12, c12⟩ := eq_refs hg i1 j1 i2 j2
  obtain ⟨b02, o02, c02⟩ := eq_refs hg i0 j0 i2 j2
  obtain ⟨b10, o10, c10⟩ := eq_refs hg i1 j1 i0 j0
  obtain ⟨b03, o03, c03⟩ := eq_refs hg i0 j0 i3 j3
  obtain ⟨a01, p01, d01⟩ := al_refs hg i0 j0 i1 j1
  obtain ⟨a10, p10, d10⟩ := al_refs hg i1 j1 i0 j0
  have e10 : b01 = b10 := (beq_iff' (c10.trans ⟨fun h => c01.2 (keyOf_symm hg h), fun h => keyOf_symm hg (c01.1 h)⟩)).symm
  have f10 : a01 = a10 := (beq_iff' (d10.trans ⟨fun h => d01.2 (keyOf_symm hg h), fun h => keyOf_symm hg (d01.1 h)⟩)).symm
  subst e10; subst f10
  have e03 : b03 = true := by
    refine c03.2 ?_
    have hln : ∀ x ∈ [a, b, c, turnT a], ∀ q, (nodesF x q [] []).length = gc x := fun x hx q => len_nodes x [] 0 (hall x hx).2 q [] []
    have hpl : Pl ds 0 (belowsF [a, b, c, turnT a] 0 [] []) := ⟨Int.le_refl _, fun k hk => by
      rw [← hdf] at hk
      simp only [← hdf]
      rw [show (0 : Int).toNat + k = k by simp]
      exact List.getElem?_eq_getElem hk⟩
    have p0 := Pl.kid hpl hln 0 (by simp)
    have p3 := Pl.kid hpl hln 3 (by simp)
    obtain ⟨t1, t2⟩ := turn_eq wa p0 p3
    have q0 := nextsF_at (ks := [a, b, c, turnT a]) (a := 0) (ns := []) (R := []) 0 (by simp)
    have q3 := nextsF_at (ks := [a, b, c, turnT a]) (a := 0) (ns := []) (R := []) 3 (by simp)
    rw [← hrf] at q0 q3
    have q0 : r0 = _ := Option.some.inj q0
    have q3 : r3 = _ := Option.some.inj q3
    have t1 : r0.shift = r3.shift := by rw [q0, q3]; exact t1
    have t2 : Eqv ds false ⟨r0.node, r3.node, 0⟩ := by rw [q0, q3]; exact t2
    unfold keyOf
    rw [t1, Int.sub_self]
    exact t2
  subst e03
  have x0 : (Prim.idx 2 true).ev [.sl [r0.enc, r1.enc, r2.enc, r3.enc], i 0] = some r0.enc := rfl
  have x1 : (Prim.idx 2 true).ev [.sl [r0.enc, r1.enc, r2.enc, r3.enc], i 1] = some r1.enc := rfl
  have x2 : (Prim.idx 2 true).ev [.sl [r0.enc, r1.enc, r2.enc, r3.enc], i 2] = some r2.enc := rfl
  have x3 : (Prim.idx 2 true).ev [.sl [r0.enc, r1.enc, r2.enc, r3.enc], i 3] = some r3.enc := rfl
  have tl : (T.l (.idx 2 true) [.sl [r0.enc, r1.enc, r2.enc, r3.enc], i 1] fun x31 => .l (.idx 2 true) [.sl [r0.enc, r1.enc, r2.enc, r3.enc], i 0] fun x32 => .call F.equal_Equal [.agg [.sl (ds.map Nd.enc)], x31, x32] fun x33 => .l (.bcmp .eql) [.bool b01, x33] fun x34 =>
      .ite x34 (
          .l (.idx 2 true) [.sl [r0.enc, r1.enc, r2.enc, r3.enc], (i 0)] fun x35 =>
          .l (.idx 2 true) [.sl [r0.enc, r1.enc, r2.enc, r3.enc], (i 3)] fun x36 =>
          .call F.equal_Equal [.agg [.sl (ds.map Nd.enc)], x35, x36] fun x37 =>
          .ite x37 (
           .l (.idx 2 true) [.sl [r0.enc, r1.enc, r2.enc, r3.enc], (i 0)] fun x38 =>
           .l (.idx 2 true) [.sl [r0.enc, r1.enc, r2.enc, r3.enc], (i 1)] fun x39 =>
           .call F.equal_Alike [.agg [.sl (ds.map Nd.enc)], x38, x39] fun x40 =>
           .l (.idx 2 true) [.sl [r0.enc, r1.enc, r2.enc, r3.enc], (i 1)] fun x41 =>
           .l (.idx 2 true) [.sl [r0.enc, r1.enc, r2.enc, r3.enc], (i 0)] fun x42 =>
           .call F.equal_Alike [.agg [.sl (ds.map Nd.enc)], x41, x42] fun x43 =>
           .l (.bcmp .eql) [x40, x43] fun x44 =>
           .ret x44) (
           .ret (.bool false))) (
          .ret (.bool false))).den0 P (· = .bool true) [] :=
    d_l _ x1 fun _ => d_l _ x0 fun _ => d_call o10 (d_l _ (bq _) fun _ => d_true (d_l _ x0 fun _ => d_l _ x3 fun _ => d_call o03 (d_true (d_l _ x0 fun _ => d_l _ x1 fun _ => d_call p01 (d_l _ x1 fun _ => d_l _ x0 fun _ => d_call p10 (d_l _ (bq _) fun _ => d_ret rfl))))))
  refine d_call hT (d_l (.sl [a.enc, b.enc, c.enc, (turnT a).enc]) (e_lst (by
    intro x hx
    simp only [List.mem_cons, List.not_mem_nil, or_false] at hx
    rcases hx with rfl | rfl | rfl | rfl <;> exact Ty.okc_enc _)) fun _ => d_call hG (d_l (.agg [.sl (ds.map Nd.enc)]) rfl fun _ => d_l (.sl [r0.enc, r1.enc, r2.enc, r3.enc]) rfl fun _ => d_l (.agg [.sl (ds.map Nd.enc)]) rfl fun _ => d_l _ x0 fun _ => d_l _ x1 fun _ => d_call o01 (d_l _ x1 fun _ => d_l _ x2 fun _ => d_call o12 ?_)))
  have alike : b01 = true → a01 = true := fun h => d01.2 (keyOf_alike (c01.1 h))
  have chain : b01 = true → b12 = true → b02 = true := fun h h' => c02.2 (keyOf_trans (c01.1 h) (c12.1 h'))
  cases b01 with
  | false => exact d_false (d_false tl)
  | true =>
    have ha1 := alike rfl
    rw [ha1] at p01
    cases b12 with
    | false => exact d_true (d_false (d_true (d_l _ x0 fun _ => d_l _ x1 fun _ => d_call p01 (d_l (.bool false) rfl fun _ => d_false tl))))
    | true =>
      have h2 := chain rfl rfl
      rw [h2] at o02
      exact d_true (d_true (d_l _ x0 fun _ => d_l _ x2 fun _ => d_call o02 (d_l (.bool false) rfl fun _ => d_false (d_true (d_l _ x0 fun _ => d_l _ x1 fun _ => d_call p01 (d_l (.bool false) rfl fun _ => d_false tl))))))

end Go.Proofs.Ytlemfbmaineigaa.Tx
