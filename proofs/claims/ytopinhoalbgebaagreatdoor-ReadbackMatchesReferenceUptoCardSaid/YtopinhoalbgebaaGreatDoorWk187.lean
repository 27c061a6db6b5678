/- Texts of trees (2): what the reference makes. -/
import Derived.Test.YtopinhoalbgebaaGreatDoorWk186
set_option linter.all false
namespace Go.Proofs.YtopinhoalbgebaaGreatDoor.Tx
open Go.Lf Go.Lf.S Go.Lf.Duo
set_option maxRecDepth 100000

theorem mem_le_sum : ∀ {l : List Nat} {x : Nat}, x ∈ l → x ≤ l.sum
  | [], _, h => by cases h
  | a :: l, x, h => by
    rcases List.mem_cons.1 h with rfl | h
    · simp
    · have := mem_le_sum h
      simp only [List.sum_cons]; omega
theorem join_len2 (l : List (List UInt8)) : (Lib.join l [44, 32]).length ≤ (l.map fun x => x.length + 2).sum := join_len [44, 32] l
theorem dec_len {u : Nat} (h : u ≤ 9223372036854775807) : (Lib.decDigits u).length ≤ 20 := by
  by_cases h0 : u < 10
  · rw [Lib.decDigits_one h0]; simp
  · rw [Lib.decDigits_length]
    have := Lib.numDigits_eq u (by omega) (by omega)
    split at this <;> omega
theorem numB_len {p : Int} (h : p ≤ 2000000000) : (numB p).length ≤ 20 := by
  unfold numB; split
  · exact dec_len (by omega)
  · simp
theorem payB_len (k : Int) (t : List UInt8) : (payB k t).length ≤ t.length + 2 := by
  unfold payB; split
  · omega
  · simp
theorem labB_sum : ∀ (ls : List ByteArray) (ts : List (List UInt8)), ((labB ls ts).map fun x => x.length + 2).sum ≤ (ls.map fL).sum + (ts.map List.length).sum
  | [], ts => by simp [labB]
  | l :: ls, [] => by simp [labB]
  | l :: ls, t :: ts => by
    have ih := labB_sum ls ts
    have hb := bl_len l
    simp only [labB, List.map_cons, List.sum_cons, List.length_append, List.length_cons, List.length_nil, hb, fL] at ih ⊢
    omega
theorem txB_len : ∀ t : Ty, Tok t → (txB t).length ≤ wt fL t := by
  intro t
  induction t using Ty.ind with
  | _ t ih =>
  intro h
  cases h with
  | mk _ k1 k4 k5 k6 k8 k9 h =>
  obtain ⟨kd, p, nm, sh, ls, ks⟩ := t
  simp only [Ty.kind, Ty.prio, Ty.kids, Ty.labels, Ty.name, Ty.shift] at k1 k4 k5 k6 k8 k9 h ih
  have hs := sum_le (l := ks) (f := fun x => (txB x).length) (g := wt fL) fun x hx => ih x hx (h x hx)
  rw [txB_mk, wt_mk]
  unfold bodyB
  split
  · simp; omega
  split
  · simp; omega
  split
  · simp; omega
  split
  · rename_i h8
    obtain ⟨e1, e2⟩ := k8 h8
    obtain ⟨x, rfl⟩ := List.length_eq_one_iff.1 e1
    have := bl_len nm
    simp at hs ⊢; omega
  split
  · rename_i h9
    obtain ⟨e1, e2, e3, _⟩ := k9 h9
    have := bl_len nm
    split
    · have := dec_len (u := sh.toNat) (by omega)
      simp; omega
    · omega
  split
  · rename_i h6
    have h7 : 4 ≤ kd ∧ kd ≤ 7 := by omega
    have hn := numB_len (p := p) (by have := k4 h7; omega)
    have hj := join_len2 (labB ls (ks.map txB))
    have hl := labB_sum ls (ks.map txB)
    rw [List.map_map] at hl
    simp only [List.length_append, List.length_cons, List.length_nil, Function.comp_def] at hj hl ⊢
    omega
  · rename_i h1 h2 h3 h8 h9 h6
    have h7 : 4 ≤ kd ∧ kd ≤ 7 := by omega
    have hn := numB_len (p := p) (by have := k4 h7; omega)
    obtain ⟨x, y, rfl⟩ := two_list (k5 ⟨by omega, by omega⟩)
    have hp := payB_len (kd0 [x, y]) (txB x)
    simp only [List.map_cons, List.map_nil, List.getD_cons_zero, List.getD_cons_succ, List.sum_cons, List.sum_nil, List.length_append, List.length_cons, List.length_nil] at hs hp ⊢
    split
    · simp; omega
    · simp; omega

theorem strs_at {l : List (List UInt8)} {j : Nat} (h : j < l.length) : (l.map fun x => PV.str (mkB x))[j]? = some (.str (mkB l[j])) := by simp [h]
theorem ok_list (l : List (List UInt8)) (sep : List UInt8) (hl : l.length ≤ 549755813888) (hb : (l.map fun x => x.length + sep.length).sum ≤ 1099511627776) (hsep : sep.length ≤ 1000) :
    Ok P F.ref05_list [.sl (l.map fun x => .str (mkB x)), .str (mkB sep)] (.str (mkB (Lib.join l sep))) := by
  refine k_ref05_list _ _ rfl (den_loop (fun m' ys => ∃ j : Nat, j + m' = l.length ∧ ys = [i j, .str (mkB (Lib.join (l.take j) sep))]) l.length ⟨0, by omega, rfl⟩ ?_)
  rintro m' _ ⟨j, hj, rfl⟩
  refine d_l (i (l.length : Int)) (by show Prim.len.ev [.sl (l.map fun x => PV.str (mkB x))] = _; rw [e_len, List.length_map]) fun _ => d_l (.bool (decide ((j : Int) < (l.length : Int)))) rfl fun _ => d_dec (p := (j : Int) < (l.length : Int)) (fun h => ?_) fun h => d_ret ?_
  · have h1 : j < l.length := by omega
    have hp := join_pre sep l j
    have hp2 := join_pre sep l (j + 1)
    have hx := join_take sep l j h1
    refine d_l (.bool (decide ((j : Int) > 0))) rfl fun _ => d_dec (p := (j : Int) > 0) (fun h0 => ?_) fun h0 => ?_
    · rw [if_neg (by omega)] at hx
      rw [hx] at hp2
      simp only [List.length_append] at hp2
      refine d_l _ (ev_cat (by omega)) fun _ => d_l _ (e_idx (strs_at h1) rfl) fun _ => d_l _ (ev_cat (by rw [List.length_append]; omega)) fun _ => d_l _ (e_inc (by omega)) fun _ => d_cont rfl ⟨m' - 1, by omega, j + 1, by omega, by rw [hx] <;> rfl⟩
    · have e0 : j = 0 := by omega
      subst e0
      rw [if_pos rfl] at hx
      rw [hx] at hp2
      refine d_l _ (e_idx (strs_at h1) rfl) fun _ => d_l (.str (mkB ([] ++ l[0]))) (ev_cat (a := []) (by simp; omega)) fun _ => d_l _ (e_inc (by omega)) fun _ => d_cont rfl ⟨m' - 1, by omega, 0 + 1, by omega, by rw [hx] <;> rfl⟩
  · have e : l.take j = l := List.take_of_length_le (by omega)
    show PV.str (mkB (Lib.join (l.take j) sep)) = _
    rw [e]

section
variable {ks : List Ty} {ls : List ByteArray} {hs : List (List PV → Prop)}

/-- a transmission from the payload on -/
theorem plain_tail {x y : Ty} (hx : Ok P F.ref05_Type [x.enc] (.str (mkB (txB x)))) (hy : Ok P F.ref05_Type [y.enc] (.str (mkB (txB y)))) (sg : List UInt8) (X5 S : PV) (h5 : X5 = .sl [x.enc, y.enc]) (hS : S = .str (mkB sg)) (hb : sg.length + (txB x).length + (txB y).length ≤ 1099511627776) :
    (Lf.T.l (.idx 6 true) [X5, (i 0)] fun x11 =>
       .call F.ref05_Type [x11] fun x12 =>
       .l (.idx 6 true) [X5, (i 0)] fun x13 =>
       .l (.cmp .neq .i64) [(c 0 x13), (i 1)] fun x14 =>
       .ite x14 (
        .l (.cmp .neq .i64) [(c 0 x13), (i 2)] fun x15 =>
        .ite x15 (
         .l (.cmp .neq .i64) [(c 0 x13), (i 3)] fun x16 =>
         .ite x16 (
          .l (.cmp .neq .i64) [(c 0 x13), (i 9)] fun x17 =>
          .ite x17 (
           .l .cat [(.str ⟨#[40]⟩), x12] fun x18 =>
           .l .cat [x18, (.str ⟨#[41]⟩)] fun x19 =>
           .l .cat [S, x19] fun x20 =>
           .l .cat [x20, (.str ⟨#[46]⟩)] fun x21 =>
           .l (.idx 6 true) [X5, (i 1)] fun x22 =>
           .call F.ref05_Type [x22] fun x23 =>
           .l .cat [x21, x23] fun x24 =>
           .ret x24) (
           .l .cat [S, x12] fun x18 =>
           .l .cat [x18, (.str ⟨#[46]⟩)] fun x19 =>
           .l (.idx 6 true) [X5, (i 1)] fun x20 =>
           .call F.ref05_Type [x20] fun x21 =>
           .l .cat [x19, x21] fun x22 =>
           .ret x22)) (
          .l .cat [S, x12] fun x17 =>
          .l .cat [x17, (.str ⟨#[46]⟩)] fun x18 =>
          .l (.idx 6 true) [X5, (i 1)] fun x19 =>
          .call F.ref05_Type [x19] fun x20 =>
          .l .cat [x18, x20] fun x21 =>
          .ret x21)) (
         .l .cat [S, x12] fun x16 =>
         .l .cat [x16, (.str ⟨#[46]⟩)] fun x17 =>
         .l (.idx 6 true) [X5, (i 1)] fun x18 =>
         .call F.ref05_Type [x18] fun x19 =>
         .l .cat [x17, x19] fun x20 =>
         .ret x20)) (
        .l .cat [S, x12] fun x15 =>
        .l .cat [x15, (.str ⟨#[46]⟩)] fun x16 =>
        .l (.idx 6 true) [X5, (i 1)] fun x17 =>
        .call F.ref05_Type [x17] fun x18 =>
        .l .cat [x16, x18] fun x19 =>
        .ret x19)).den0 P (· = .str (mkB (sg ++ payB x.kind (txB x) ++ [46] ++ txB y))) hs := by
  subst h5 hS
  have i0 : (Prim.idx 6 true).ev [.sl [x.enc, y.enc], i 0] = some x.enc := e_idx (k := 0) rfl (Ty.okc_enc x)
  have i1 : (Prim.idx 6 true).ev [.sl [x.enc, y.enc], i 1] = some y.enc := e_idx (k := 1) rfl (Ty.okc_enc y)
  have nop : (x.kind = 1 ∨ x.kind = 2 ∨ x.kind = 3 ∨ x.kind = 9) →
      (Lf.T.l .cat [.str (mkB sg), .str (mkB (txB x))] fun x15 => .l .cat [x15, (.str ⟨#[46]⟩)] fun x16 => .l (.idx 6 true) [.sl [x.enc, y.enc], (i 1)] fun x17 => .call F.ref05_Type [x17] fun x18 => .l .cat [x16, x18] fun x19 => .ret x19).den0 P (· = .str (mkB (sg ++ payB x.kind (txB x) ++ [46] ++ txB y))) hs := fun hk => by
    have hp : payB x.kind (txB x) = txB x := by unfold payB; rw [if_pos hk]
    rw [hp]
    refine d_l _ (ev_cat (by omega)) fun _ => d_l (.str (mkB (sg ++ txB x ++ [46]))) (ev_cat (b := [46]) (by simp; omega)) fun _ => d_l _ i1 fun _ => d_call hy (d_l _ (ev_cat (by simp; omega)) fun _ => d_ret rfl)
  refine d_l _ i0 fun _ => d_call hx (d_l _ i0 fun _ => ?_)
  simp only [ty0]
  refine d_l (.bool (!decide (x.kind = 1))) rfl fun _ => d_ndec (fun h1 => ?_) fun h1 => nop (.inl h1)
  refine d_l (.bool (!decide (x.kind = 2))) rfl fun _ => d_ndec (fun h2 => ?_) fun h2 => nop (.inr (.inl h2))
  refine d_l (.bool (!decide (x.kind = 3))) rfl fun _ => d_ndec (fun h3 => ?_) fun h3 => nop (.inr (.inr (.inl h3)))
  refine d_l (.bool (!decide (x.kind = 9))) rfl fun _ => d_ndec (fun h9 => ?_) fun h9 => nop (.inr (.inr (.inr h9)))
  have hp : payB x.kind (txB x) = [40] ++ txB x ++ [41] := by
    unfold payB; rw [if_neg]
    rintro (c | c | c | c)
    · exact h1 c
    · exact h2 c
    · exact h3 c
    · exact h9 c
  rw [hp]
  refine d_l (.str (mkB ([40] ++ txB x))) (ev_cat (a := [40]) (by simp; omega)) fun _ => d_l (.str (mkB ([40] ++ txB x ++ [41]))) (ev_cat (b := [41]) (by simp; omega)) fun _ => d_l _ (ev_cat (by simp; omega)) fun _ => d_l (.str (mkB (sg ++ ([40] ++ txB x ++ [41]) ++ [46]))) (ev_cat (b := [46]) (by simp; omega)) fun _ => d_l _ i1 fun _ => d_call hy (d_l _ (ev_cat (by simp; omega)) fun _ => d_ret rfl)

/-- a choice from the list on -/
theorem choice_tail (hk : ∀ k ∈ ks, Ok P F.ref05_Type [k.enc] (.str (mkB (txB k)))) (hlen : ls.length = ks.length) (hkl : ks.length ≤ 549755813888) (sg : List UInt8) (X4 X5 S : PV) (h4 : X4 = .sl (ls.map .str)) (h5 : X5 = .sl (ks.map Ty.enc)) (hS : S = .str (mkB sg)) (hb : sg.length + ((labB ls (ks.map txB)).map fun x => x.length + 2).sum ≤ 1099511627776) :
    (Lf.T.loop [(i 0), (.sl [])] fun y9 =>
      .l .len [X5] fun x10 =>
      .l (.cmp .lss .i64) [(n y9 0), x10] fun x11 =>
      .ite x11 (
       .l (.idx 1 false) [X4, (n y9 0)] fun x12 =>
       .l .cat [x12, (.str ⟨#[58, 32]⟩)] fun x13 =>
       .l (.idx 6 true) [X5, (n y9 0)] fun x14 =>
       .call F.ref05_Type [x14] fun x15 =>
       .l .cat [x13, x15] fun x16 =>
       .l (.lst 1 false) [x16] fun x17 =>
       .l (.app 1 false 16) [(n y9 1), x17] fun x18 =>
       .l (.arith .add .i64) [(n y9 0), (i 1)] fun x19 =>
       .cont 0 [x19, x18]) (
       .l .cat [S, (.str ⟨#[123]⟩)] fun x12 =>
       .call F.ref05_list [(n y9 1), (.str ⟨#[44, 32]⟩)] fun x13 =>
       .l .cat [x12, x13] fun x14 =>
       .l .cat [x14, (.str ⟨#[125]⟩)] fun x15 =>
       .ret x15)).den0 P (· = .str (mkB (sg ++ [123] ++ Lib.join (labB ls (ks.map txB)) [44, 32] ++ [125]))) [] := by
  subst h4 h5 hS
  have hll := labB_len ls (ks.map txB) (by simpa using hlen)
  have each : ∀ j (h : j < (labB ls (ks.map txB)).length), ((labB ls (ks.map txB))[j]).length ≤ 1099511627776 := fun j h => by
    have : ((labB ls (ks.map txB))[j]).length + 2 ≤ ((labB ls (ks.map txB)).map fun x => x.length + 2).sum := mem_le_sum (List.mem_map.2 ⟨_, List.getElem_mem h, rfl⟩)
    omega
  refine den_loop (fun m' ys => ∃ j : Nat, j + m' = ks.length ∧ ys = [i j, .sl (((labB ls (ks.map txB)).take j).map fun x => .str (mkB x))]) ks.length ⟨0, by omega, rfl⟩ ?_
  rintro m' _ ⟨j, hj, rfl⟩
  refine d_l _ (len_ty ks) fun _ => d_l (.bool (decide ((j : Int) < (ks.length : Int)))) rfl fun _ => d_dec (p := (j : Int) < (ks.length : Int)) (fun h => ?_) fun h => ?_
  · have h1 : j < ks.length := by omega
    have h2 : j < ls.length := by omega
    have h3 : j < (labB ls (ks.map txB)).length := by omega
    have hat := labB_at ls (ks.map txB) j h2 (by simpa using h1) h3
    rw [List.getElem_map] at hat
    have he := each j h3
    rw [hat] at he
    simp only [List.length_append, List.length_cons, List.length_nil] at he
    have hstep : ((labB ls (ks.map txB)).take j).map (fun x => PV.str (mkB x)) ++ [.str (mkB (bl8 ls[j] ++ [58, 32] ++ txB ks[j]))] = ((labB ls (ks.map txB)).take (j + 1)).map fun x => PV.str (mkB x) := by
      rw [List.take_succ_eq_append_getElem h3, List.map_append, hat]; rfl
    have hlab : (Prim.idx 1 false).ev [.sl (ls.map .str), i (j : Int)] = some (.str (mkB (bl8 ls[j]))) := by rw [mkB_bl]; exact e_idx (str_at h2) rfl
    refine d_l _ hlab fun _ => d_l (.str (mkB (bl8 ls[j] ++ [58, 32]))) (ev_cat (b := [58, 32]) (by simp; omega)) fun _ => d_l _ (e_idx (ty_at' h1) (Ty.okc_enc _)) fun _ => d_call (hk _ (List.getElem_mem h1)) (d_l _ (ev_cat (by simp; omega)) fun _ => d_l (.sl [.str (mkB (bl8 ls[j] ++ [58, 32] ++ txB ks[j]))]) (e_lst fun x hx => by simp at hx; subst hx; rfl) fun _ => d_l _ (e_app (fun x hx => by simp at hx; subst hx; rfl) (by simp; omega) (by simp; omega)) fun _ => d_l _ (e_inc (by omega)) fun _ => d_cont rfl ⟨m' - 1, by omega, j + 1, by omega, by rw [hstep] <;> rfl⟩)
  · have e : (labB ls (ks.map txB)).take j = labB ls (ks.map txB) := List.take_of_length_le (by omega)
    rw [e]
    have hjl := join_len2 (labB ls (ks.map txB))
    have oL := ok_list (labB ls (ks.map txB)) [44, 32] (by omega) (Nat.le_trans (Nat.le_refl _) (show ((labB ls (ks.map txB)).map fun x => x.length + 2).sum ≤ _ by omega)) (by simp)
    refine d_l (.str (mkB (sg ++ [123]))) (ev_cat (b := [123]) (by simp; omega)) fun _ => d_call oL (d_l _ (ev_cat (by simp only [List.length_append, List.length_cons, List.length_nil]; omega)) fun _ => d_l (.str (mkB (sg ++ [123] ++ Lib.join (labB ls (ks.map txB)) [44, 32] ++ [125]))) (ev_cat (b := [125]) (by simp only [List.length_append, List.length_cons, List.length_nil]; omega)) fun _ => d_ret rfl)
end

theorem ok_ref05_Type : ∀ t : Ty, Tok t → Ln t → wt fL t ≤ 549755813888 → Ok P F.ref05_Type [t.enc] (.str (mkB (txB t))) := by
  intro t
  induction t using Ty.ind with
  | _ t ih =>
  intro hT hl hw
  have hbd := txB_len t hT
  cases hT with
  | mk _ k1 k4 k5 k6 k8 k9 h =>
  cases hl with
  | mk _ l1 l2 l3 =>
  obtain ⟨kd, p, nm, sh, ls, ks⟩ := t
  simp only [Ty.kind, Ty.prio, Ty.kids, Ty.labels, Ty.name, Ty.shift] at k1 k4 k5 k6 k8 k9 h ih l1 l2 l3
  rw [wt_mk] at hw
  have wk : ∀ x ∈ ks, wt fL x ≤ 549755813888 := fun x hx => by
    have : wt fL x ≤ (ks.map (wt fL)).sum := mem_le_sum (List.mem_map.2 ⟨x, hx, rfl⟩)
    omega
  have ihk : ∀ x ∈ ks, Ok P F.ref05_Type [x.enc] (.str (mkB (txB x))) := fun x hx => ih x hx (h x hx) (l3 x hx) (wk x hx)
  have hsum := sum_le (l := ks) (f := fun x => (txB x).length) (g := wt fL) fun x hx => txB_len x (h x hx)
  have hlab := labB_sum ls (ks.map txB)
  rw [List.map_map] at hlab
  simp only [Function.comp_def] at hlab
  rw [Ty.enc_mk, txB_mk]
  have hnm : PV.str nm = .str (mkB (bl8 nm)) := by rw [mkB_bl]
  have hnl := bl_len nm
  refine k_ref05_Type _ _ rfl (d_l (.agg [i kd, i p, .str nm, i sh, .sl (ls.map .str), .sl (ks.map Ty.enc)]) rfl fun _ => ?_)
  refine d_l (.bool (decide (kd = 1))) rfl fun _ => d_dec (fun e1 => d_ret ?_) fun e1 => ?_
  · have e1 : kd = 1 := e1
    unfold bodyB; rw [if_pos e1]; rfl
  have e1 : ¬ kd = 1 := e1
  refine d_l (.bool (decide (kd = 2))) rfl fun _ => d_dec (fun e2 => d_ret ?_) fun e2 => ?_
  · have e2 : kd = 2 := e2
    unfold bodyB; rw [if_neg e1, if_pos e2]; rfl
  have e2 : ¬ kd = 2 := e2
  refine d_l (.bool (decide (kd = 3))) rfl fun _ => d_dec (fun e3 => d_ret ?_) fun e3 => ?_
  · have e3 : kd = 3 := e3
    unfold bodyB; rw [if_neg e1, if_neg e2, if_pos e3]; rfl
  have e3 : ¬ kd = 3 := e3
  have gtr : (Prim.cmp .gtr .i64).ev [i p, i 0] = some (.bool (decide (0 < p))) := by
    show some (PV.bool (decide (p > 0))) = _
    rfl
  have oD : 0 < p → p ≤ 2000000000 → Ok P F.ref05_Decimal [i p] (.str (mkB (numB p))) := fun h0 h1 => by
    have := ok_Decimal p.toNat (by omega)
    rw [Int.toNat_of_nonneg (by omega)] at this
    unfold numB
    rw [if_pos h0]; exact this
  have two : 4 ≤ kd ∧ kd ≤ 5 → ∃ x y, ks = [x, y] := fun h => two_list (k5 h)
  -- a transmission
  have trans : 4 ≤ kd ∧ kd ≤ 5 → ∀ (sg : List UInt8), sg.length ≤ 50 → sg = [sgn kd] ++ numB p ++ (if 0 < p then [32] else []) → ∀ x y, ks = [x, y] → PV.str (mkB (sg ++ payB x.kind (txB x) ++ [46] ++ txB y)) = .str (mkB (bodyB kd p nm sh ls (kd0 ks) (ks.map txB))) := fun hk sg _ hsg x y hxy => by
    subst hxy
    unfold bodyB
    rw [if_neg e1, if_neg e2, if_neg e3, if_neg (by omega), if_neg (by omega), if_neg (by omega), ← hsg]
    rfl
  have plain : ∀ hk : 4 ≤ kd ∧ kd ≤ 5, ∀ (sg : List UInt8), sg.length ≤ 50 → sg = [sgn kd] ++ numB p ++ (if 0 < p then [32] else []) → ∃ x y, ks = [x, y] ∧ Ok P F.ref05_Type [x.enc] (.str (mkB (txB x))) ∧ Ok P F.ref05_Type [y.enc] (.str (mkB (txB y))) ∧ sg.length + (txB x).length + (txB y).length ≤ 1099511627776 ∧ PV.str (mkB (sg ++ payB x.kind (txB x) ++ [46] ++ txB y)) = .str (mkB (bodyB kd p nm sh ls (kd0 ks) (ks.map txB))) := fun hk sg hsl hsg => by
    obtain ⟨x, y, hxy⟩ := two hk
    refine ⟨x, y, hxy, ihk x (by rw [hxy]; simp), ihk y (by rw [hxy]; simp), ?_, trans hk sg hsl hsg x y hxy⟩
    rw [hxy] at hsum hw
    simp only [List.map_cons, List.map_nil, List.sum_cons, List.sum_nil] at hsum hw
    omega
  have cho : ∀ hk : 6 ≤ kd ∧ kd ≤ 7, ∀ (sg : List UInt8), sg.length ≤ 50 → sg = [sgn kd] ++ numB p → ls.length = ks.length ∧ sg.length + ((labB ls (ks.map txB)).map fun x => x.length + 2).sum ≤ 1099511627776 ∧ PV.str (mkB (sg ++ [123] ++ Lib.join (labB ls (ks.map txB)) [44, 32] ++ [125])) = .str (mkB (bodyB kd p nm sh ls (kd0 ks) (ks.map txB))) := fun hk sg hsl hsg => by
    refine ⟨k6 hk, by omega, ?_⟩
    unfold bodyB
    rw [if_neg e1, if_neg e2, if_neg e3, if_neg (by omega), if_neg (by omega), if_pos hk.1, ← hsg]
  have gq : (Prim.cmp .geq .i64).ev [i kd, i 6] = some (.bool (decide (kd ≥ 6))) := rfl
  have numl : 4 ≤ kd ∧ kd ≤ 7 → (numB p).length ≤ 20 := fun hk => numB_len (by have := k4 hk; omega)
  refine d_l (.bool (decide (kd = 4))) rfl fun _ => d_dec (fun e4 => ?_) fun e4 => ?_
  · have e4 : kd = 4 := e4
    have hk : 4 ≤ kd ∧ kd ≤ 7 := by omega
    have hp := k4 hk
    have hnu := numl hk
    have sg4 : sgn kd = 33 := by rw [e4]; rfl
    refine d_l _ gtr fun _ => d_dec (fun hp0 => ?_) fun hp0 => ?_
    · obtain ⟨x, y, hxy, ox, oy, hb, hfin⟩ := plain (by omega) ([33] ++ numB p ++ [32]) (by simp; omega) (by rw [sg4, if_pos hp0])
      rw [← hfin, hxy]
      exact d_call (oD hp0 hp.2) (d_l (.str (mkB ([33] ++ numB p))) (ev_cat (a := [33]) (by simp; omega)) fun _ => d_l _ gq fun _ => d_dec (fun h6 => by omega) fun _ => d_l _ gtr fun _ => d_dec (fun _ => d_l (.str (mkB ([33] ++ numB p ++ [32]))) (ev_cat (b := [32]) (by simp; omega)) fun _ => plain_tail ox oy _ _ _ rfl rfl hb) fun c => absurd hp0 c)
    · obtain ⟨x, y, hxy, ox, oy, hb, hfin⟩ := plain (by omega) [33] (by simp) (by rw [sg4, if_neg hp0]; unfold numB; rw [if_neg hp0]; rfl)
      rw [← hfin, hxy]
      exact d_l _ gq fun _ => d_dec (fun h6 => by omega) fun _ => d_l _ gtr fun _ => d_dec (fun c => absurd c hp0) fun _ => plain_tail ox oy _ _ _ rfl rfl hb
  have e4 : ¬ kd = 4 := e4
  refine d_l (.bool (decide (kd = 5))) rfl fun _ => d_dec (fun e5 => ?_) fun e5 => ?_
  · have e5 : kd = 5 := e5
    have hk : 4 ≤ kd ∧ kd ≤ 7 := by omega
    have hp := k4 hk
    have hnu := numl hk
    have sg5 : sgn kd = 63 := by rw [e5]; rfl
    refine d_l _ gtr fun _ => d_dec (fun hp0 => ?_) fun hp0 => ?_
    · obtain ⟨x, y, hxy, ox, oy, hb, hfin⟩ := plain (by omega) ([63] ++ numB p ++ [32]) (by simp; omega) (by rw [sg5, if_pos hp0])
      rw [← hfin, hxy]
      exact d_call (oD hp0 hp.2) (d_l (.str (mkB ([63] ++ numB p))) (ev_cat (a := [63]) (by simp; omega)) fun _ => d_l _ gq fun _ => d_dec (fun h6 => by omega) fun _ => d_l _ gtr fun _ => d_dec (fun _ => d_l (.str (mkB ([63] ++ numB p ++ [32]))) (ev_cat (b := [32]) (by simp; omega)) fun _ => plain_tail ox oy _ _ _ rfl rfl hb) fun c => absurd hp0 c)
    · obtain ⟨x, y, hxy, ox, oy, hb, hfin⟩ := plain (by omega) [63] (by simp) (by rw [sg5, if_neg hp0]; unfold numB; rw [if_neg hp0]; rfl)
      rw [← hfin, hxy]
      exact d_l _ gq fun _ => d_dec (fun h6 => by omega) fun _ => d_l _ gtr fun _ => d_dec (fun c => absurd c hp0) fun _ => plain_tail ox oy _ _ _ rfl rfl hb
  have e5 : ¬ kd = 5 := e5
  refine d_l (.bool (decide (kd = 6))) rfl fun _ => d_dec (fun e6 => ?_) fun e6 => ?_
  · have e6 : kd = 6 := e6
    have hk : 4 ≤ kd ∧ kd ≤ 7 := by omega
    have hp := k4 hk
    have hnu := numl hk
    have sg6 : sgn kd = 43 := by rw [e6]; rfl
    refine d_l _ gtr fun _ => d_dec (fun hp0 => ?_) fun hp0 => ?_
    · obtain ⟨hl, hb, hfin⟩ := cho (by omega) ([43] ++ numB p) (by simp; omega) (by rw [sg6])
      rw [← hfin]
      exact d_call (oD hp0 hp.2) (d_l (.str (mkB ([43] ++ numB p))) (ev_cat (a := [43]) (by simp; omega)) fun _ => d_l _ gq fun _ => d_dec (fun _ => choice_tail ihk hl l2 _ _ _ _ rfl rfl rfl hb) fun c => by omega)
    · obtain ⟨hl, hb, hfin⟩ := cho (by omega) [43] (by simp) (by rw [sg6]; unfold numB; rw [if_neg hp0]; rfl)
      rw [← hfin]
      exact d_l _ gq fun _ => d_dec (fun _ => choice_tail ihk hl l2 _ _ _ _ rfl rfl rfl hb) fun c => by omega
  have e6 : ¬ kd = 6 := e6
  refine d_l (.bool (decide (kd = 7))) rfl fun _ => d_dec (fun e7 => ?_) fun e7 => ?_
  · have e7 : kd = 7 := e7
    have hk : 4 ≤ kd ∧ kd ≤ 7 := by omega
    have hp := k4 hk
    have hnu := numl hk
    have sg7 : sgn kd = 38 := by rw [e7]; rfl
    refine d_l _ gtr fun _ => d_dec (fun hp0 => ?_) fun hp0 => ?_
    · obtain ⟨hl, hb, hfin⟩ := cho (by omega) ([38] ++ numB p) (by simp; omega) (by rw [sg7])
      rw [← hfin]
      exact d_call (oD hp0 hp.2) (d_l (.str (mkB ([38] ++ numB p))) (ev_cat (a := [38]) (by simp; omega)) fun _ => d_l _ gq fun _ => d_dec (fun _ => choice_tail ihk hl l2 _ _ _ _ rfl rfl rfl hb) fun c => by omega)
    · obtain ⟨hl, hb, hfin⟩ := cho (by omega) [38] (by simp) (by rw [sg7]; unfold numB; rw [if_neg hp0]; rfl)
      rw [← hfin]
      exact d_l _ gq fun _ => d_dec (fun _ => choice_tail ihk hl l2 _ _ _ _ rfl rfl rfl hb) fun c => by omega
  have e7 : ¬ kd = 7 := e7
  refine d_l (.bool (decide (kd = 8))) rfl fun _ => d_dec (fun e8 => ?_) fun e8 => ?_
  · have e8 : kd = 8 := e8
    obtain ⟨q1, q2⟩ := k8 e8
    obtain ⟨x, hx⟩ := List.length_eq_one_iff.1 q1
    have ox := ihk x (by rw [hx]; simp)
    have hxl := txB_len x (h x (by rw [hx]; simp))
    have hxw := wk x (by rw [hx]; simp)
    have hfin : PV.str (mkB ([114, 101, 99, 32] ++ bl8 nm ++ [46] ++ txB x)) = .str (mkB (bodyB kd p nm sh ls (kd0 ks) (ks.map txB))) := by
      unfold bodyB
      rw [if_neg e1, if_neg e2, if_neg e3, if_pos e8, hx]; rfl
    rw [← hfin, hx, hnm]
    have hi0 : (Prim.idx 6 true).ev [.sl ([x].map Ty.enc), i 0] = some x.enc := e_idx (k := 0) rfl (Ty.okc_enc x)
    refine d_l (.str (mkB ([114, 101, 99, 32] ++ bl8 nm))) (ev_cat (a := [114, 101, 99, 32]) (by simp; omega)) fun _ => d_l (.str (mkB ([114, 101, 99, 32] ++ bl8 nm ++ [46]))) (ev_cat (b := [46]) (by simp; omega)) fun _ => d_l _ hi0 fun _ => d_call ox (d_l _ (ev_cat (by simp; omega)) fun _ => d_ret rfl)
  · have e8 : ¬ kd = 8 := e8
    have e9 : kd = 9 := by omega
    obtain ⟨q1, q2, q3, _⟩ := k9 e9
    have hgt : (Prim.cmp .gtr .i64).ev [i sh, i 0] = some (.bool (decide (0 < sh))) := rfl
    refine d_l _ hgt fun _ => d_dec (fun hs0 => ?_) fun hs0 => d_ret ?_
    · have hfin : PV.str (mkB (bl8 nm ++ [43] ++ Lib.decDigits sh.toNat)) = .str (mkB (bodyB kd p nm sh ls (kd0 ks) (ks.map txB))) := by
        unfold bodyB
        rw [if_neg e1, if_neg e2, if_neg e3, if_neg e8, if_pos e9, if_pos hs0]
      have oS := ok_Decimal sh.toNat (by omega)
      rw [Int.toNat_of_nonneg (by omega)] at oS
      have hdl := dec_len (u := sh.toNat) (by omega)
      rw [← hfin, hnm]
      exact d_l (.str (mkB (bl8 nm ++ [43]))) (ev_cat (b := [43]) (by simp; omega)) fun _ => d_call oS (d_l (.str (mkB (bl8 nm ++ [43] ++ Lib.decDigits sh.toNat))) (ev_cat (b := Lib.decDigits sh.toNat) (by simp; omega)) fun _ => d_ret rfl)
    · unfold bodyB
      rw [if_neg e1, if_neg e2, if_neg e3, if_neg e8, if_pos e9, if_neg hs0, mkB_bl]; rfl
end Go.Proofs.YtopinhoalbgebaaGreatDoor.Tx
