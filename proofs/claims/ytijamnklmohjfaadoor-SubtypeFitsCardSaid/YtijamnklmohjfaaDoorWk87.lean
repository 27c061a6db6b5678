/- The law: duals turn subtyping round. -/
import Derived.Test.YtijamnklmohjfaaDoorWk86
import Derived.Test.YtijamnklmohjfaaDoorWk40
set_option linter.all false
namespace Go.Proofs.YtijamnklmohjfaaDoor.Tx
open Go.Lf Go.Lf.S Go.Lf.Duo
set_option maxRecDepth 100000

theorem dl_dl {n : Nat} {a : Int} (h0 : 0 ≤ a) (h1 : a < 2 * n) : dl n (dl n a) = a := by
  unfold dl; split <;> split <;> omega
theorem len_eqN (l : List Nd) : Prim.len.ev [nds l] = some (i (l.length : Int)) := by
  rw [← List.length_map (f := Nd.enc)]; exact e_len
theorem ok_Fits {ds : List Nd} (hg : GrOk' ds) (hl : ds.length ≤ 137438953472) {r : Rf} (h0 : 0 ≤ r.node) (h1 : r.node < (closeD ds).length) (b : Nat) (hb : b < ds.length) (sd : Bool) (t : Int) :
    ∃ q, Ok P F.subtype_Fits [.agg [nds (closeD ds)], r.enc, ref (side ds.length b sd) t] (.bool q) ∧ (q = true ↔ SubE (closeD ds) (keyOf false r.node (side ds.length b (!sd)) r.shift t)) := by
  have hs : side ds.length b (!sd) < (closeD ds).length := by rw [closeD_len]; unfold side; split <;> omega
  obtain ⟨q, o, c⟩ := ok_subtype_Sub (closeOk hg hl) (r := r) (r' := ⟨(side ds.length b (!sd) : Nat), t⟩) h0 h1 (by show (0 : Int) ≤ ((side ds.length b (!sd) : Nat) : Int); omega) (by show ((side ds.length b (!sd) : Nat) : Int) < _; omega)
  exact ⟨q, k_subtype_Fits _ _ rfl (d_l (.agg [nds (closeD ds)]) rfl fun _ => d_l r.enc rfl fun _ => d_l (ref (side ds.length b sd) t) rfl fun _ => d_call (ok_dual_Of ds (by omega) b hb sd t) (d_call o (d_ret rfl))), c⟩

theorem ok_law11_SubtypeDuals (aw : Ok P F.law11_awake [] (.bool true)) (a b : Ty) (ha : Lim a) (hb : Lim b) : Ok P F.law11_SubtypeDuals [a.enc, b.enc] (.bool true) := by
  obtain ⟨ba, sa, wa⟩ := ok_ref02_Small a ha 40 (by omega) (by omega)
  obtain ⟨bb, sb, wb⟩ := ok_ref02_Small b hb 40 (by omega) (by omega)
  have ea := ok_ref02_Session a
  have eb := ok_ref02_Session b
  refine k_law11_SubtypeDuals _ _ rfl (d_l _ (e_okc (Ty.okc_enc a)) fun _ => d_l _ (e_okc (Ty.okc_enc b)) fun _ => d_call aw (d_l (.bool false) rfl fun _ => d_false (d_call sa (d_l (.bool !ba) rfl fun _ => d_ite (fun _ => d_call aw (d_ret rfl)) fun h1 => d_call sb (d_l (.bool !bb) rfl fun _ => d_ite (fun _ => d_call aw (d_ret rfl)) fun h2 => d_call ea (d_l _ rfl fun _ => d_ite (fun _ => d_call aw (d_ret rfl)) fun _ => d_call eb (d_l _ rfl fun _ => d_ite (fun _ => d_call aw (d_ret rfl)) fun _ => ?_)))))))
  obtain ⟨za, wa⟩ := wa (by simpa using h1)
  obtain ⟨zb, wb⟩ := wb (by simpa using h2)
  have hall : ∀ t ∈ [a, b], (t.sz : Int) ≤ (40 : Nat) ∧ Wf t [] 0 := by
    intro t ht
    simp only [List.mem_cons, List.not_mem_nil, or_false] at ht
    rcases ht with rfl | rfl
    · exact ⟨by omega, wa⟩
    · exact ⟨by omega, wb⟩
  obtain ⟨ds, rs, _, hG, hgr, hrl, hrs, hdf, _⟩ := built' [a, b] 2 40 (by simp) (by omega) hall
  have hg : GrOk' ds := hgr
  have hdl : ds.length ≤ 80 := by
    have e1 := len_nodes a [] 0 wa 0 [] []
    have e2 : ds = nodesF a 0 [] [] ++ (nodesF b (0 + gc a) [] [] ++ []) := by rw [hdf]; simp only [belowsF]
    have e3 := len_nodes b [] 0 wb (0 + gc a) [] []
    have g1 := gc_le a
    have g2 := gc_le b
    rw [e2]; simp only [List.length_append, List.length_nil, e1, e3]; omega
  have hrl : rs.length = 2 := hrl
  match rs, hrl with
  | [r0, r1], _ =>
  obtain ⟨i0, j0, _⟩ := hrs 0 r0 rfl
  obtain ⟨i1, j1, _⟩ := hrs 1 r1 rfl
  clear hdf hrs
  obtain ⟨n0, z0⟩ := r0
  obtain ⟨n1, z1⟩ := r1
  obtain ⟨a0, rfl⟩ : ∃ a0 : Nat, n0 = a0 := ⟨n0.toNat, (Int.toNat_of_nonneg i0).symm⟩
  obtain ⟨a1, rfl⟩ : ∃ a1 : Nat, n1 = a1 := ⟨n1.toNat, (Int.toNat_of_nonneg i1).symm⟩
  have j0 : a0 < ds.length := by have j0 : (a0 : Int) < ds.length := j0; omega
  have j1 : a1 < ds.length := by have j1 : (a1 : Int) < ds.length := j1; omega
  have hcl := closeD_len ds
  have hg' := hg
  have hC := ok_dual_Close ds ⟨hg.1, fun d hd => ⟨(hg.2 d hd).len, fun r hr => by have := (hg.2 d hd).node' r hr; have := hg.1; omega⟩⟩
  have hO0 := ok_dual_Of ds hg.1 a0 j0 false z0
  have hO1 := ok_dual_Of ds hg.1 a1 j1 false z1
  have s0 : ∀ (x : Nat), side ds.length x false = x := fun x => rfl
  have s1 : ∀ (x : Nat), side ds.length x true = x + ds.length := fun x => rfl
  have hcg := closeOk hg (by omega)
  have d0 : ∀ x : Nat, x < ds.length → dl ds.length (x : Int) = ((x + ds.length : Nat) : Int) := fun x hx => by unfold dl; rw [if_pos (by omega)]; omega
  have d1 : ∀ x : Nat, dl ds.length ((x + ds.length : Nat) : Int) = (x : Int) := fun x => by unfold dl; rw [if_neg (by omega)]; omega
  have wn : ∀ x y : Int, IntKind.i64.wrap (-IntKind.i64.wrap (x - y)) = IntKind.i64.wrap (y - x) := fun x y => by rw [wrap_neg]; congr 1; omega
  obtain ⟨b1, o1, c1⟩ := ok_subtype_Sub hcg (r := ⟨a0, z0⟩) (r' := ⟨a1, z1⟩) (by show (0 : Int) ≤ (a0 : Int); omega) (by show (a0 : Int) < _; omega) (by show (0 : Int) ≤ (a1 : Int); omega) (by show (a1 : Int) < _; omega)
  obtain ⟨b2, o2, c2⟩ := ok_subtype_Sub hcg (r := ⟨(a1 + ds.length : Nat), z1⟩) (r' := ⟨(a0 + ds.length : Nat), z0⟩) (by show (0 : Int) ≤ ((a1 + ds.length : Nat) : Int); omega) (by show ((a1 + ds.length : Nat) : Int) < _; omega) (by show (0 : Int) ≤ ((a0 + ds.length : Nat) : Int); omega) (by show ((a0 + ds.length : Nat) : Int) < _; omega)
  obtain ⟨b3, o3, c3⟩ := ok_Fits hg (by omega) (r := ⟨a0, z0⟩) (by show (0 : Int) ≤ (a0 : Int); omega) (by show (a0 : Int) < _; omega) a1 j1 true z1
  obtain ⟨b4, o4, c4⟩ := ok_Fits hg (by omega) (r := ⟨a0, z0⟩) (by show (0 : Int) ≤ (a0 : Int); omega) (by show (a0 : Int) < _; omega) a1 j1 false z1
  obtain ⟨b5, o5, c5⟩ := ok_Fits hg (by omega) (r := ⟨a1, z1⟩) (by show (0 : Int) ≤ (a1 : Int); omega) (by show (a1 : Int) < _; omega) a0 j0 false z0
  obtain ⟨b6, o6, c6⟩ := ok_Fits hg (by omega) (r := ⟨a0, z0⟩) (by show (0 : Int) ≤ (a0 : Int); omega) (by show (a0 : Int) < _; omega) a0 j0 true z0
  have e2 : b2 = b1 := by
    refine beq5 c2 (c1.trans ⟨fun h => ?_, fun h => ?_⟩)
    · have := dual_sub hg h
      rw [d0 a1 j1, d0 a0 j0] at this
      simp only [Bool.false_eq_true, if_false, wn] at this
      exact this
    · have := dual_sub hg h
      rw [d1 a1, d1 a0] at this
      simp only [Bool.false_eq_true, if_false, wn] at this
      exact this
  have e3 : b3 = b1 := beq5 c3 c1
  have e5 : b5 = b4 := by
    refine beq5 c5 (c4.trans ⟨fun h => ?_, fun h => ?_⟩)
    · have := dual_sub hg h
      rw [show ((side ds.length a1 (!false) : Nat) : Int) = ((a1 + ds.length : Nat) : Int) from rfl, d1 a1, d0 a0 j0] at this
      simp only [Bool.false_eq_true, if_false, wn] at this
      exact this
    · have := dual_sub hg h
      rw [show ((side ds.length a0 (!false) : Nat) : Int) = ((a0 + ds.length : Nat) : Int) from rfl, d1 a0, d0 a1 j1] at this
      simp only [Bool.false_eq_true, if_false, wn] at this
      exact this
  have e6 : b6 = true := c6.2 (by
    have := sub_refl hcg (a := (a0 : Int)) (by omega) (by omega)
    have e : keyOf false (a0 : Int) ((side ds.length a0 (!true) : Nat) : Int) z0 z0 = ⟨a0, a0, 0⟩ := by
      simp only [keyOf, Bool.false_eq_true, if_false]
      rw [Int.sub_self, wrap_0]; rfl
    show SubE _ (keyOf false (a0 : Int) ((side ds.length a0 (!true) : Nat) : Int) z0 z0)
    rw [e]; exact this)
  subst e2 e3 e5 e6
  have x0 : (Prim.idx 2 true).ev [.sl [(⟨a0, z0⟩ : Rf).enc, (⟨a1, z1⟩ : Rf).enc], i 0] = some (⟨a0, z0⟩ : Rf).enc := rfl
  have x1 : (Prim.idx 2 true).ev [.sl [(⟨a0, z0⟩ : Rf).enc, (⟨a1, z1⟩ : Rf).enc], i 1] = some (⟨a1, z1⟩ : Rf).enc := rfl
  have hlc : Prim.len.ev [nds (closeD ds)] = some (i ((2 * ds.length : Nat) : Int)) := by rw [← hcl]; exact len_eqN _
  refine d_l (.sl [a.enc, b.enc]) (e_lst (by
    intro x hx
    simp only [List.mem_cons, List.not_mem_nil, or_false] at hx
    rcases hx with rfl | rfl <;> exact Ty.okc_enc _)) fun _ => d_call hG (d_l (.agg [nds ds]) rfl fun _ => d_l (.sl [(⟨a0, z0⟩ : Rf).enc, (⟨a1, z1⟩ : Rf).enc]) rfl fun _ => d_l (.agg [nds ds]) rfl fun _ => d_call hC (d_l (.agg [nds (closeD ds)]) rfl fun _ => d_l _ hlc fun _ => d_l _ (len_eqN ds) fun _ => d_l _ (e_mul2 (by omega)) fun _ => d_l (.bool false) (by show some (PV.bool (!decide (((2 * ds.length : Nat) : Int) = ((2 * ds.length : Nat) : Int)))) = _; simp) fun _ => d_false ?_))
  refine d_l _ x0 fun _ => d_call hO0 (d_l (ref (a0 + ds.length : Nat) z0) rfl fun _ => d_l _ x1 fun _ => d_call hO1 (d_l (ref (a1 + ds.length : Nat) z1) rfl fun _ => ?_))
  refine d_l (.bool (decide (((a0 + ds.length : Nat) : Int) < 0))) rfl fun _ => d_dec (fun h => by omega) fun _ => d_l (.bool (decide (((a1 + ds.length : Nat) : Int) < 0))) rfl fun _ => d_dec (fun h => by omega) fun _ => ?_
  refine d_l _ hlc fun _ => d_l (.bool (decide (((2 * ds.length : Nat) : Int) ≤ ((a0 + ds.length : Nat) : Int)))) rfl fun _ => d_dec (fun h => by omega) fun _ => d_l _ hlc fun _ => d_l (.bool (decide (((2 * ds.length : Nat) : Int) ≤ ((a1 + ds.length : Nat) : Int)))) rfl fun _ => d_dec (fun h => by omega) fun _ => ?_
  exact d_l _ x0 fun _ => d_l _ x1 fun _ => d_call o1 (d_call o2 (d_l _ (bq5 _) fun _ => d_true (d_l _ x0 fun _ => d_call o3 (d_l _ (bq5 _) fun _ => d_true (d_l _ x0 fun _ => d_l _ x1 fun _ => d_call o4 (d_l _ x1 fun _ => d_l _ x0 fun _ => d_call o5 (d_l _ (bq5 _) fun _ => d_true (d_l _ x0 fun _ => d_call o6 (d_ret rfl)))))))))
end Go.Proofs.YtijamnklmohjfaaDoor.Tx
