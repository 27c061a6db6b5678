/- The law: subtyping is reflexive, transitive, kept by raising both; both ways it is equality. -/
import Derived.Test.YtijamnklmohjfaaDoorWk84
import Derived.Test.YtijamnklmohjfaaDoorWb
set_option linter.all false
namespace Go.Proofs.YtijamnklmohjfaaDoor.Tx
open Go.Lf Go.Lf.S Go.Lf.Duo
set_option maxRecDepth 100000

theorem eqR5 {ds : List Nd} (hg : GrOk' ds) {r r' : Rf} (h0 : 0 ≤ r.node) (h1 : r.node < ds.length) (h0' : 0 ≤ r'.node) (h1' : r'.node < ds.length) :
    ∃ b, Ok P F.equal_Equal [.agg [nds ds], r.enc, r'.enc] (.bool b) ∧ (b = true ↔ Eqv ds false (keyOf false r.node r'.node r.shift r'.shift)) := by
  have := ok_equal_Equal hg (a := r.node.toNat) (b := r'.node.toNat) (by omega) (by omega) r.shift r'.shift
  rw [Int.toNat_of_nonneg h0, Int.toNat_of_nonneg h0'] at this
  exact this
theorem ok_subtype_Same {ds : List Nd} (hg : GrOk' ds) {r r' : Rf} (h0 : 0 ≤ r.node) (h1 : r.node < ds.length) (h0' : 0 ≤ r'.node) (h1' : r'.node < ds.length) :
    ∃ b, Ok P F.subtype_Same [.agg [nds ds], r.enc, r'.enc] (.bool b) ∧ (b = true ↔ Eqv ds false (keyOf false r.node r'.node r.shift r'.shift)) := by
  obtain ⟨b1, o1, c1⟩ := ok_subtype_Sub hg h0 h1 h0' h1'
  obtain ⟨b2, o2, c2⟩ := ok_subtype_Sub hg h0' h1' h0 h1
  have he : (SubE ds (keyOf false r.node r'.node r.shift r'.shift) ∧ SubE ds (keyOf false r'.node r.node r'.shift r.shift)) ↔ Eqv ds false (keyOf false r.node r'.node r.shift r'.shift) := by
    constructor
    · rintro ⟨e1, e2⟩
      refine sub_both hg (wrap_wrap _) e1 ?_
      have : keyOf false r'.node r.node r'.shift r.shift = ⟨r'.node, r.node, IntKind.i64.wrap (-(if false = true then 0 else IntKind.i64.wrap (r.shift - r'.shift)))⟩ := by
        simp only [keyOf, Bool.false_eq_true, if_false, Key.mk.injEq, true_and]
        rw [wrap_neg]; congr 1; omega
      rw [this] at e2; exact e2
    · intro e
      exact ⟨eqv_sub hg h0 h0' e, eqv_sub hg h0' h0 (keyOf_symm hg e)⟩
  refine ⟨b1 && b2, k_subtype_Same _ _ rfl (d_l (.agg [nds ds]) rfl fun _ => d_l r.enc rfl fun _ => d_l r'.enc rfl fun _ => d_call o1 (d_ite (fun e => ?_) fun e => ?_)), ?_⟩
  · have e : b1 = true := e
    subst e
    exact d_call o2 (d_ret rfl)
  · have e : b1 = false := e
    subst e
    exact d_ret rfl
  · rw [Bool.and_eq_true, c1, c2, he]

def ordT (g rs kk x18 : PV) : T PV :=
  .l (.idx 2 true) [rs, (i 0)] fun x26 =>
  .l (.idx 2 true) [rs, (i 0)] fun x27 =>
  .l (.conv .i64) [kk] fun x28 =>
  .l (.arith .add .i64) [(c 1 x27), x28] fun x29 =>
  .l (.okcs [(1, false), (1, false)]) [(c 0 x26), x29] fun x30 =>
  .l (.idx 2 true) [rs, (i 1)] fun x31 =>
  .l (.idx 2 true) [rs, (i 1)] fun x32 =>
  .l (.conv .i64) [kk] fun x33 =>
  .l (.arith .add .i64) [(c 1 x32), x33] fun x34 =>
  .l (.okcs [(1, false), (1, false)]) [(c 0 x31), x34] fun x35 =>
  .l (.idx 2 true) [rs, (i 0)] fun x36 =>
  .l (.idx 2 true) [rs, (i 0)] fun x37 =>
  .call F.subtype_Sub [g, x36, x37] fun x38 =>
  .ite x38 (
   .call F.subtype_Sub [g, (.agg [(c 0 x26), x29]), (.agg [(c 0 x31), x34])] fun x39 =>
   .l (.bcmp .eql) [x39, x18] fun x40 =>
   .ite x40 (
    .l (.idx 2 true) [rs, (i 0)] fun x41 =>
    .l (.idx 2 true) [rs, (i 1)] fun x42 =>
    .call F.subtype_Same [g, x41, x42] fun x43 =>
    .l (.idx 2 true) [rs, (i 0)] fun x44 =>
    .l (.idx 2 true) [rs, (i 1)] fun x45 =>
    .call F.equal_Equal [g, x44, x45] fun x46 =>
    .l (.bcmp .eql) [x43, x46] fun x47 =>
    .ret x47) (
    .ret (.bool false))) (
   .ret (.bool false))

theorem bq5 (a : Bool) : (Prim.bcmp .eql).ev [.bool a, .bool a] = some (.bool true) := by cases a <;> rfl
theorem beq5 {a b : Bool} {p : Prop} (h : a = true ↔ p) (h' : b = true ↔ p) : a = b := by
  rw [Bool.eq_iff_iff, h, h']

theorem ok_law11_SubtypeOrders (aw : Ok P F.law11_awake [] (.bool true)) (a b c : Ty) (k : Int) (ha : Lim a) (hb : Lim b) (hc : Lim c) : Ok P F.law11_SubtypeOrders [a.enc, b.enc, c.enc, .int .i16 k] (.bool true) := by
  obtain ⟨ba, sa, wa⟩ := ok_ref02_Small a ha 40 (by omega) (by omega)
  obtain ⟨bb, sb, wb⟩ := ok_ref02_Small b hb 40 (by omega) (by omega)
  obtain ⟨bc, sc, wc⟩ := ok_ref02_Small c hc 40 (by omega) (by omega)
  refine k_law11_SubtypeOrders _ _ rfl (d_l _ (e_okc (Ty.okc_enc a)) fun _ => d_l _ (e_okc (Ty.okc_enc b)) fun _ => d_l _ (e_okc (Ty.okc_enc c)) fun _ => d_call aw (d_l (.bool false) rfl fun _ => d_false (d_call sa (d_l (.bool !ba) rfl fun _ => d_ite (fun _ => d_call aw (d_ret rfl)) fun h1 => d_call sb (d_l (.bool !bb) rfl fun _ => d_ite (fun _ => d_call aw (d_ret rfl)) fun h2 => d_call sc (d_l (.bool !bc) rfl fun _ => d_ite (fun _ => d_call aw (d_ret rfl)) fun h3 => ?_))))))
  obtain ⟨za, wa⟩ := wa (by simpa using h1)
  obtain ⟨zb, wb⟩ := wb (by simpa using h2)
  obtain ⟨zc, wc⟩ := wc (by simpa using h3)
  have hall : ∀ t ∈ [a, b, c], (t.sz : Int) ≤ (40 : Nat) ∧ Wf t [] 0 := by
    intro t ht
    simp only [List.mem_cons, List.not_mem_nil, or_false] at ht
    rcases ht with rfl | rfl | rfl
    · exact ⟨by omega, wa⟩
    · exact ⟨by omega, wb⟩
    · exact ⟨by omega, wc⟩
  obtain ⟨ds, rs, _, hG, hgr, hrl, hrs, _, _⟩ := built' [a, b, c] 3 40 (by simp) (by omega) hall
  have hg : GrOk' ds := hgr
  have hrl : rs.length = 3 := hrl
  match rs, hrl with
  | [r0, r1, r2], _ =>
  obtain ⟨i0, j0, _⟩ := hrs 0 r0 rfl
  obtain ⟨i1, j1, _⟩ := hrs 1 r1 rfl
  obtain ⟨i2, j2, _⟩ := hrs 2 r2 rfl
  obtain ⟨b01, o01, c01⟩ := ok_subtype_Sub hg i0 j0 i1 j1
  obtain ⟨b12, o12, c12⟩ := ok_subtype_Sub hg i1 j1 i2 j2
  obtain ⟨b02, o02, c02⟩ := ok_subtype_Sub hg i0 j0 i2 j2
  obtain ⟨b00, o00, c00⟩ := ok_subtype_Sub hg i0 j0 i0 j0
  obtain ⟨bup, oup, cup⟩ := ok_subtype_Sub hg (r := ⟨r0.node, IntKind.i64.wrap (r0.shift + IntKind.i64.wrap k)⟩) (r' := ⟨r1.node, IntKind.i64.wrap (r1.shift + IntKind.i64.wrap k)⟩) i0 j0 i1 j1
  obtain ⟨bs, os, cs⟩ := ok_subtype_Same hg i0 j0 i1 j1
  obtain ⟨be, oe, ce⟩ := eqR5 hg i0 j0 i1 j1
  have e00 : b00 = true := c00.2 (by
    have := sub_refl hg i0 j0
    have e : keyOf false r0.node r0.node r0.shift r0.shift = ⟨r0.node, r0.node, 0⟩ := by
      simp only [keyOf, Bool.false_eq_true, if_false, Key.mk.injEq, true_and]
      rw [Int.sub_self]; exact wrap_0
    rw [e]; exact this)
  have eup : bup = b01 := by
    have e : keyOf false r0.node r1.node (IntKind.i64.wrap (r0.shift + IntKind.i64.wrap k)) (IntKind.i64.wrap (r1.shift + IntKind.i64.wrap k)) = keyOf false r0.node r1.node r0.shift r1.shift := by
      simp only [keyOf, Bool.false_eq_true, if_false, Key.mk.injEq, true_and]
      rw [wrap_eq]
      have h1 := wrap_mod (r0.shift + IntKind.i64.wrap k)
      have h2 := wrap_mod (r1.shift + IntKind.i64.wrap k)
      omega
    refine beq5 cup (c01.trans ?_)
    show SubE ds _ ↔ SubE ds (keyOf false r0.node r1.node (IntKind.i64.wrap (r0.shift + IntKind.i64.wrap k)) (IntKind.i64.wrap (r1.shift + IntKind.i64.wrap k)))
    rw [e]
  have ebs : bs = be := beq5 cs ce
  have etr : b01 = true → b12 = true → b02 = true := fun h h' => c02.2 (by
    have := sub_trans hg (c01.1 h) (c12.1 h')
    have e : keyOf false r0.node r2.node r0.shift r2.shift = ⟨r0.node, r2.node, IntKind.i64.wrap ((if false = true then 0 else IntKind.i64.wrap (r0.shift - r1.shift)) + (if false = true then 0 else IntKind.i64.wrap (r1.shift - r2.shift)))⟩ := by
      simp only [keyOf, Bool.false_eq_true, if_false, Key.mk.injEq, true_and]
      rw [wrap_eq]
      have h1 := wrap_mod (r0.shift - r1.shift)
      have h2 := wrap_mod (r1.shift - r2.shift)
      omega
    rw [e]; exact this)
  subst e00 eup ebs
  have x0 : (Prim.idx 2 true).ev [.sl [r0.enc, r1.enc, r2.enc], i 0] = some r0.enc := rfl
  have x1 : (Prim.idx 2 true).ev [.sl [r0.enc, r1.enc, r2.enc], i 1] = some r1.enc := rfl
  have x2 : (Prim.idx 2 true).ev [.sl [r0.enc, r1.enc, r2.enc], i 2] = some r2.enc := rfl
  have tl : (ordT (.agg [nds ds]) (.sl [r0.enc, r1.enc, r2.enc]) (.int .i16 k) (.bool bup)).den0 P (· = .bool true) [] :=
    d_l _ x0 fun _ => d_l _ x0 fun _ => d_l (i (IntKind.i64.wrap k)) rfl fun _ => d_l (i (IntKind.i64.wrap (r0.shift + IntKind.i64.wrap k))) rfl fun _ => d_l _ rfl fun _ => d_l _ x1 fun _ => d_l _ x1 fun _ => d_l (i (IntKind.i64.wrap k)) rfl fun _ => d_l (i (IntKind.i64.wrap (r1.shift + IntKind.i64.wrap k))) rfl fun _ => d_l _ rfl fun _ => d_l _ x0 fun _ => d_l _ x0 fun _ => d_call o00 (d_true (d_call oup (d_l _ (bq5 _) fun _ => d_true (d_l _ x0 fun _ => d_l _ x1 fun _ => d_call os (d_l _ x0 fun _ => d_l _ x1 fun _ => d_call oe (d_l _ (bq5 _) fun _ => d_ret rfl))))))
  refine d_l (.sl [a.enc, b.enc, c.enc]) (e_lst (by
    intro x hx
    simp only [List.mem_cons, List.not_mem_nil, or_false] at hx
    rcases hx with rfl | rfl | rfl <;> exact Ty.okc_enc _)) fun _ => d_call hG (d_l (.agg [nds ds]) rfl fun _ => d_l (.sl [r0.enc, r1.enc, r2.enc]) rfl fun _ => d_l (.agg [nds ds]) rfl fun _ => d_l _ x0 fun _ => d_l _ x1 fun _ => d_call o01 (d_l _ x1 fun _ => d_l _ x2 fun _ => d_call o12 (d_ite (fun e => ?_) fun e => tl)))
  refine d_ite (fun e' => ?_) fun e' => tl
  have h2 := etr e e'
  subst h2
  exact d_l _ x0 fun _ => d_l _ x2 fun _ => d_call o02 (d_l (.bool false) rfl fun _ => d_false tl)
end Go.Proofs.YtijamnklmohjfaaDoor.Tx
