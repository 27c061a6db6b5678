/- Contracts: the duals of types by the reference (2): dual, Dual; a type and its dual. -/
import Derived.Test.YtchedinkkliogaaDoorWk104
set_option linter.all false
namespace Go.Proofs.YtchedinkkliogaaDoor.Tx
open Go.Lf Go.Lf.S Go.Lf.Duo
set_option maxRecDepth 100000

/-- the round of dual over the kids -/
abbrev dlp (x0 L K0 : PV) (R : PV → PV) : T PV :=
  .loop [(i 0), K0] fun y4 =>
  .l .len [(c 5 x0)] fun x5 =>
  .l (.cmp .lss .i64) [(n y4 0), x5] fun x6 =>
  .ite x6 (
   .l (.cmp .eql .i64) [(n y4 0), (i 0)] fun x7 =>
   .ite x7 (
    .l (.cmp .eql .i64) [(c 0 x0), (i 4)] fun x8 =>
    .ite x8 (
     .l (.idx 6 true) [(c 5 x0), (i 0)] fun x9 =>
     .call F.ref14_closed [x9, L] fun x10 =>
     .l (.idx 6 true) [(n y4 1), (i 0)] fun _ =>
     .l (.upd 6 true) [(n y4 1), (i 0), x10] fun x12 =>
     .l (.arith .add .i64) [(n y4 0), (i 1)] fun x13 =>
     .cont 0 [x13, x12]) (
     .l (.cmp .eql .i64) [(c 0 x0), (i 5)] fun x9 =>
     .ite x9 (
      .l (.idx 6 true) [(c 5 x0), (i 0)] fun x10 =>
      .call F.ref14_closed [x10, L] fun x11 =>
      .l (.idx 6 true) [(n y4 1), (i 0)] fun _ =>
      .l (.upd 6 true) [(n y4 1), (i 0), x11] fun x13 =>
      .l (.arith .add .i64) [(n y4 0), (i 1)] fun x14 =>
      .cont 0 [x14, x13]) (
      .l (.idx 6 true) [(c 5 x0), (n y4 0)] fun x10 =>
      .call F.ref14_dual [x10, L] fun x11 =>
      .l (.idx 6 true) [(n y4 1), (n y4 0)] fun _ =>
      .l (.upd 6 true) [(n y4 1), (n y4 0), x11] fun x13 =>
      .l (.arith .add .i64) [(n y4 0), (i 1)] fun x14 =>
      .cont 0 [x14, x13]))) (
    .l (.idx 6 true) [(c 5 x0), (n y4 0)] fun x8 =>
    .call F.ref14_dual [x8, L] fun x9 =>
    .l (.idx 6 true) [(n y4 1), (n y4 0)] fun _ =>
    .l (.upd 6 true) [(n y4 1), (n y4 0), x9] fun x11 =>
    .l (.arith .add .i64) [(n y4 0), (i 1)] fun x12 =>
    .cont 0 [x12, x11])) (
   .ret (R (n y4 1)))

theorem du_loop {K : PV → Prop} {kd p : Int} {nm : ByteArray} {s : Int} {ls : List ByteArray} {ks : List Ty} {l : List Bn} (hk : ks.length ≤ 549755813888)
    (hc : ∀ t ∈ ks, Ok P F.ref14_closed [t.enc, .sl (l.map Bn.enc)] (clT l t).enc) (hd : ∀ t ∈ ks, Ok P F.ref14_dual [t.enc, .sl (l.map Bn.enc)] (duT l t).enc) {R : PV → PV}
    (hR : K (R (.sl ((ks.mapIdx (duK (decide (kd = 4) || decide (kd = 5)) l)).map Ty.enc)))) :
    (dlp (.agg [i kd, i p, .str nm, i s, .sl (ls.map .str), .sl (ks.map Ty.enc)]) (.sl (l.map Bn.enc)) (.sl ((ks.map (raiseT 0)).map Ty.enc)) R).den0 P K [] := by
  refine den_rounds (fun j => [i j, .sl (((ks.mapIdx (duK (decide (kd = 4) || decide (kd = 5)) l)).take j ++ (ks.map (raiseT 0)).drop j).map Ty.enc)]) ks.length (by simp) (fun j hj => ?_) ?_
  · have hlen : j < ((ks.mapIdx (duK (decide (kd = 4) || decide (kd = 5)) l)).take j ++ (ks.map (raiseT 0)).drop j).length := by simp; omega
    have hst : ∀ u : Ty, u = duK (decide (kd = 4) || decide (kd = 5)) l j ks[j] → (((ks.mapIdx (duK (decide (kd = 4) || decide (kd = 5)) l)).take j ++ (ks.map (raiseT 0)).drop j).map Ty.enc).set j u.enc = ((ks.mapIdx (duK (decide (kd = 4) || decide (kd = 5)) l)).take (j + 1) ++ (ks.map (raiseT 0)).drop (j + 1)).map Ty.enc := fun u hu => by
      rw [← List.map_set]
      have := set_next (A := ks.mapIdx (duK (decide (kd = 4) || decide (kd = 5)) l)) (B := ks.map (raiseT 0)) (by simp) (j := j) (by simpa using hj)
      simp only [List.getElem_mapIdx] at this
      rw [hu, this]
    have upd : ∀ u : Ty, (Prim.upd 6 true).ev [.sl (((ks.mapIdx (duK (decide (kd = 4) || decide (kd = 5)) l)).take j ++ (ks.map (raiseT 0)).drop j).map Ty.enc), i (j : Int), u.enc] = some (.sl ((((ks.mapIdx (duK (decide (kd = 4) || decide (kd = 5)) l)).take j ++ (ks.map (raiseT 0)).drop j).map Ty.enc).set j u.enc)) := fun u => e_updT (by rw [List.length_map]; exact hlen) (Ty.okc_enc _)
    refine d_l _ e_len fun _ => d_l (.bool (decide ((j : Int) < ((ks.map Ty.enc).length : Int)))) rfl fun _ => d_dec (p := (j : Int) < ((ks.map Ty.enc).length : Int)) (fun _ => ?_) fun h => absurd (show (j : Int) < ((ks.map Ty.enc).length : Int) by simp; omega) h
    have hix := e_idx (n := 6) (a := true) (ty_at' hj) (Ty.okc_enc _)
    have hiy := e_idx (n := 6) (a := true) (ty_at' hlen) (Ty.okc_enc _)
    refine d_l (.bool (decide ((j : Int) = 0))) rfl fun _ => d_dec (p := (j : Int) = 0) (fun h0 => ?_) fun h0 => ?_
    · have hj0 : j = 0 := by omega
      refine d_l (.bool (decide (kd = 4))) rfl fun _ => d_dec (p := kd = 4) (fun h4 => ?_) fun h4 => d_l (.bool (decide (kd = 5))) rfl fun _ => d_dec (p := kd = 5) (fun h5 => ?_) fun h5 => ?_
      · have hst' := hst (clT l ks[j]) (by simp [duK, h4, hj0])
        rw [← hst']
        subst hj0
        exact d_l _ hix fun _ => d_call (hc _ (List.getElem_mem hj)) (d_l _ hiy fun _ => d_l _ (upd _) fun _ => d_l _ (e_inc (by omega)) fun _ => d_cont rfl rfl)
      · have hst' := hst (clT l ks[j]) (by simp [duK, h5, hj0])
        rw [← hst']
        subst hj0
        exact d_l _ hix fun _ => d_call (hc _ (List.getElem_mem hj)) (d_l _ hiy fun _ => d_l _ (upd _) fun _ => d_l _ (e_inc (by omega)) fun _ => d_cont rfl rfl)
      · rw [← hst (duT l ks[j]) (by simp [duK, h4, h5])]
        exact d_l _ hix fun _ => d_call (hd _ (List.getElem_mem hj)) (d_l _ hiy fun _ => d_l _ (upd _) fun _ => d_l _ (e_inc (by omega)) fun _ => d_cont rfl rfl)
    · have hj0 : j ≠ 0 := by omega
      rw [← hst (duT l ks[j]) (by simp [duK, hj0])]
      exact d_l _ hix fun _ => d_call (hd _ (List.getElem_mem hj)) (d_l _ hiy fun _ => d_l _ (upd _) fun _ => d_l _ (e_inc (by omega)) fun _ => d_cont rfl rfl)
  · refine d_l _ e_len fun _ => d_l (.bool (decide ((ks.length : Int) < ((ks.map Ty.enc).length : Int)))) rfl fun _ => d_dec (p := (ks.length : Int) < ((ks.map Ty.enc).length : Int)) (fun h => ?_) fun h => d_ret ?_
    · simp at h
    · have e1 : (ks.mapIdx (duK (decide (kd = 4) || decide (kd = 5)) l)).take ks.length = ks.mapIdx (duK (decide (kd = 4) || decide (kd = 5)) l) := List.take_of_length_le (by simp)
      have e2 : (ks.map (raiseT 0)).drop ks.length = [] := List.drop_of_length_le (by simp)
      rw [e1, e2, List.append_nil]; exact hR

theorem lookB_mem {l : List Bn} {nm : ByteArray} {T : Ty} (h : lookB l nm = some T) : ∃ b ∈ l, b.2 = T := by
  simp only [lookB, Option.map_eq_some_iff] at h
  obtain ⟨b, hb, rfl⟩ := h
  exact ⟨b, by simpa using List.mem_of_find?_eq_some hb, rfl⟩
theorem Ln.cl : ∀ {t : Ty} {l : List Bn}, Ln t → (∀ b ∈ l, Ln b.2) → Ln (clT l t) := by
  intro t
  induction t using Ty.ind with
  | _ t ih =>
  intro l h hb
  have h' := h
  cases h with
  | mk _ h1 h2 h =>
  obtain ⟨kd, p, nm, s, ls, ks⟩ := t
  unfold clT
  split
  · cases hq : lookB l nm with
    | none => exact h'
    | some T =>
      obtain ⟨b, hbm, rfl⟩ := lookB_mem hq
      exact (hb b hbm).raise
  · rw [clTs_eq]
    refine .mk _ h1 (by show (ks.map _).length ≤ _; rw [List.length_map]; exact h2) fun x hx => ?_
    obtain ⟨y, hy, rfl⟩ := List.mem_map.1 hx
    refine ih y hy (h y hy) fun b hbm => ?_
    split at hbm
    · exact hb b (List.mem_filter.1 hbm).1
    · exact hb b hbm
theorem Lim.cl : ∀ {t : Ty} {l : List Bn}, Lim t → (∀ b ∈ l, Lim b.2) → Lim (clT l t) := by
  intro t
  induction t using Ty.ind with
  | _ t ih =>
  intro l h hb
  have h' := h
  cases h with
  | mk _ hn hl hll hk h =>
  obtain ⟨kd, p, nm, s, ls, ks⟩ := t
  unfold clT
  split
  · cases hq : lookB l nm with
    | none => exact h'
    | some T =>
      obtain ⟨b, hbm, rfl⟩ := lookB_mem hq
      exact lim_raise' (hb b hbm)
  · rw [clTs_eq]
    refine .mk _ hn hl hll (by show (ks.map _).length ≤ _; rw [List.length_map]; exact hk) fun x hx => ?_
    obtain ⟨y, hy, rfl⟩ := List.mem_map.1 hx
    refine ih y hy (h y hy) fun b hbm => ?_
    split at hbm
    · exact hb b (List.mem_filter.1 hbm).1
    · exact hb b hbm

def duL (l : List Bn) (t : Ty) : List Bn := if t.kind = 8 then l ++ [(t.name, clT l t)] else l
theorem duT_mk (l : List Bn) (kd p : Int) (nm : ByteArray) (s : Int) (ls : List ByteArray) (ks : List Ty) : duT l (.mk kd p nm s ls ks) = .mk (dk' kd) (if 4 ≤ kd ∧ kd ≤ 7 then ad p 0 else p) nm s ls (ks.mapIdx (duK (decide (kd = 4) || decide (kd = 5)) (duL l (.mk kd p nm s ls ks)))) := by
  conv => lhs; unfold duT
  rw [duTs_at]; rfl
theorem mapIdx_mem {f : Nat → Ty → Ty} {ks : List Ty} {x : Ty} (h : x ∈ ks.mapIdx f) : ∃ j k, ks[j]? = some k ∧ x = f j k := by
  obtain ⟨j, hj, rfl⟩ := List.getElem_of_mem h
  exact ⟨j, ks[j]'(by simpa using hj), List.getElem?_eq_getElem _, by simp⟩
theorem Lim.du : ∀ {t : Ty} {l : List Bn}, Lim t → (∀ b ∈ l, Lim b.2) → Lim (duT l t) := by
  intro t
  induction t using Ty.ind with
  | _ t ih =>
  intro l h hb
  have h' := h
  cases h with
  | mk _ hn hl hll hk h =>
  obtain ⟨kd, p, nm, s, ls, ks⟩ := t
  rw [duT_mk]
  have hb' : ∀ b ∈ duL l (.mk kd p nm s ls ks), Lim b.2 := fun b hbm => by
    unfold duL at hbm
    split at hbm
    · rcases List.mem_append.1 hbm with hbm | hbm
      · exact hb b hbm
      · simp at hbm; subst hbm; exact Lim.cl h' hb
    · exact hb b hbm
  refine .mk _ hn hl hll (by show (ks.mapIdx _).length ≤ _; rw [List.length_mapIdx]; exact hk) fun x hx => ?_
  obtain ⟨j, k, hk1, rfl⟩ := mapIdx_mem hx
  have hkm := List.mem_of_getElem? hk1
  unfold duK
  split
  · exact Lim.cl (h k hkm) hb'
  · exact ih k hkm (h k hkm) hb'

theorem ok_dual14 : ∀ (t : Ty) (l : List Bn), Ln t → (∀ b ∈ l, Ln b.2) → l.length + t.sz ≤ 549755813888 → Ok P F.ref14_dual [t.enc, .sl (l.map Bn.enc)] (duT l t).enc := by
  intro t
  induction t using Ty.ind with
  | _ t ih =>
  intro l h hb hl
  have hLn := h
  have hR := ok_ref02_RaiseS t 0 h
  have hsz : ∀ k ∈ t.kids, k.sz < t.sz := fun k hk => by obtain ⟨kd, p, nm, s, ls, ks⟩ := t; exact Ty.sz_kid hk
  have hC := ok_closed t l h hb (by omega)
  cases h with
  | mk _ h1 h2 h =>
  obtain ⟨kd, p, nm, s, ls, ks⟩ := t
  have h2 : ks.length ≤ 549755813888 := h2
  have hpos : 1 ≤ (Ty.mk kd p nm s ls ks).sz := by simp only [Ty.sz]; omega
  have hb2 : ∀ b ∈ duL l (.mk kd p nm s ls ks), Ln b.2 := fun b hbm => by
    unfold duL at hbm
    split at hbm
    · rcases List.mem_append.1 hbm with hbm | hbm
      · exact hb b hbm
      · simp at hbm; subst hbm; exact Ln.cl hLn hb
    · exact hb b hbm
  have hl2 : (duL l (.mk kd p nm s ls ks)).length ≤ l.length + 1 := by unfold duL; split <;> simp
  have hcl : ∀ x ∈ ks, Ok P F.ref14_closed [x.enc, .sl ((duL l (.mk kd p nm s ls ks)).map Bn.enc)] (clT (duL l (.mk kd p nm s ls ks)) x).enc := fun x hx => ok_closed x _ (h x hx) hb2 (by omega)
  have hdu : ∀ x ∈ ks, Ok P F.ref14_dual [x.enc, .sl ((duL l (.mk kd p nm s ls ks)).map Bn.enc)] (duT (duL l (.mk kd p nm s ls ks)) x).enc := fun x hx => ih x hx _ (h x hx) hb2 (by have := hsz x hx; omega)
  have hlp : ∀ {K : PV → Prop} {R : PV → PV}, K (R (.sl ((ks.mapIdx (duK (decide (kd = 4) || decide (kd = 5)) (duL l (.mk kd p nm s ls ks)))).map Ty.enc))) →
      (dlp (.agg [i kd, i p, .str nm, i s, .sl (ls.map .str), .sl (ks.map Ty.enc)]) (.sl ((duL l (.mk kd p nm s ls ks)).map Bn.enc)) (.sl ((ks.map (raiseT 0)).map Ty.enc)) R).den0 P K [] := fun hR => du_loop h2 hcl hdu hR
  rw [duT_mk]
  rw [raiseT_mk] at hR
  rw [Ty.enc_mk] at hR hC ⊢
  rw [Ty.enc_mk]
  have e8 : ¬ kd = 8 → duL l (.mk kd p nm s ls ks) = l := fun h => by unfold duL; rw [if_neg (show ¬ (Ty.mk kd p nm s ls ks).kind = 8 from h)]
  have e8' : kd = 8 → (duL l (.mk kd p nm s ls ks)).map Bn.enc = l.map Bn.enc ++ [.agg [.str nm, c 0 (clT l (.mk kd p nm s ls ks)).enc, c 1 (clT l (.mk kd p nm s ls ks)).enc, c 2 (clT l (.mk kd p nm s ls ks)).enc, c 3 (clT l (.mk kd p nm s ls ks)).enc, c 4 (clT l (.mk kd p nm s ls ks)).enc, c 5 (clT l (.mk kd p nm s ls ks)).enc]] := fun h => by
    unfold duL
    rw [if_pos (show (Ty.mk kd p nm s ls ks).kind = 8 from h), List.map_append]
    congr 1
    obtain ⟨a, b, e, d, f, g⟩ := clT l (.mk kd p nm s ls ks)
    rw [Ty.enc_mk]; rfl
  refine k_ref14_dual _ _ rfl (d_l (.agg [i kd, i p, .str nm, i s, .sl (ls.map .str), .sl (ks.map Ty.enc)]) rfl fun _ => d_calls rfl hR (d_l (.bool (decide (4 ≤ kd))) rfl fun _ => d_dec (p := 4 ≤ kd) (fun h4 => d_l (.bool (decide (kd ≤ 7))) rfl fun _ => d_dec (p := kd ≤ 7) (fun h7 => ?_) fun h7 => ?_) fun h4 => ?_))
  · have hkk : kd = 4 ∨ kd = 5 ∨ kd = 6 ∨ kd = 7 := by omega
    have h8 : ¬ kd = 8 := by omega
    have hlp := @hlp
    rw [e8 h8] at hlp ⊢
    have hlook : ∀ v : Int, (kd = 4 ∧ v = 5) ∨ (kd = 5 ∧ v = 4) ∨ (kd = 6 ∧ v = 7) ∨ (kd = 7 ∧ v = 6) → v = dk' kd ∧ (Prim.idx 1 false).ev [.sl [i 5, i 4, i 7, i 6], i (kd - 4)] = some (i v) := by
      rintro v (⟨rfl, rfl⟩ | ⟨rfl, rfl⟩ | ⟨rfl, rfl⟩ | ⟨rfl, rfl⟩) <;> exact ⟨rfl, rfl⟩
    obtain ⟨v, hv⟩ : ∃ v : Int, (kd = 4 ∧ v = 5) ∨ (kd = 5 ∧ v = 4) ∨ (kd = 6 ∧ v = 7) ∨ (kd = 7 ∧ v = 6) := by
      rcases hkk with h | h | h | h
      · exact ⟨5, .inl ⟨h, rfl⟩⟩
      · exact ⟨4, .inr (.inl ⟨h, rfl⟩)⟩
      · exact ⟨7, .inr (.inr (.inl ⟨h, rfl⟩))⟩
      · exact ⟨6, .inr (.inr (.inr ⟨h, rfl⟩))⟩
    obtain ⟨rfl, hix⟩ := hlook v hv
    refine d_l (.sl [i 5, i 4, i 7, i 6]) rfl fun _ => d_l (i (kd - 4)) (e_sub (by omega) (by omega)) fun _ => d_l _ hix fun _ => d_l (i (dk' kd)) rfl fun _ => d_l (.bool (decide (kd = 8))) rfl fun _ => d_dec (p := kd = 8) (fun h => absurd h h8) fun _ => ?_
    exact hlp (R := fun q => .agg [i (dk' kd), i (if 4 ≤ kd ∧ kd ≤ 7 then ad p 0 else p), .str nm, i s, .sl (ls.map .str), q]) rfl
  all_goals
    have hdk : dk' kd = kd := by unfold dk'; omega
    rw [hdk]
    refine d_l (.bool (decide (kd = 8))) rfl fun _ => d_dec (p := kd = 8) (fun h8 => ?_) fun h8 => ?_
    · have hlp := @hlp
      rw [e8' h8] at hlp
      refine d_l (.sl []) rfl fun _ => d_l (.sl ([] ++ l.map Bn.enc)) (e_app (l := []) (m := l.map Bn.enc) (all_map Bn.okc l) (by simp; omega) (by simp; omega)) fun _ => d_call hC (d_l .nilI ?_ fun _ => ?_)
      · obtain ⟨a, b, e, d, f, g⟩ := clT l (.mk kd p nm s ls ks)
        rw [Ty.enc_mk]; rfl
      · have hok : (PV.agg [.str nm, c 0 (clT l (.mk kd p nm s ls ks)).enc, c 1 (clT l (.mk kd p nm s ls ks)).enc, c 2 (clT l (.mk kd p nm s ls ks)).enc, c 3 (clT l (.mk kd p nm s ls ks)).enc, c 4 (clT l (.mk kd p nm s ls ks)).enc, c 5 (clT l (.mk kd p nm s ls ks)).enc]).okc 7 true = true := by
          obtain ⟨a, b, e, d, f, g⟩ := clT l (.mk kd p nm s ls ks)
          rw [Ty.enc_mk]; rfl
        refine d_l (.sl [.agg [.str nm, c 0 (clT l (.mk kd p nm s ls ks)).enc, c 1 (clT l (.mk kd p nm s ls ks)).enc, c 2 (clT l (.mk kd p nm s ls ks)).enc, c 3 (clT l (.mk kd p nm s ls ks)).enc, c 4 (clT l (.mk kd p nm s ls ks)).enc, c 5 (clT l (.mk kd p nm s ls ks)).enc]]) (e_lst fun x hx => by rw [List.mem_singleton.1 hx]; exact hok) fun _ => d_l (.sl (l.map Bn.enc ++ [.agg [.str nm, c 0 (clT l (.mk kd p nm s ls ks)).enc, c 1 (clT l (.mk kd p nm s ls ks)).enc, c 2 (clT l (.mk kd p nm s ls ks)).enc, c 3 (clT l (.mk kd p nm s ls ks)).enc, c 4 (clT l (.mk kd p nm s ls ks)).enc, c 5 (clT l (.mk kd p nm s ls ks)).enc]])) (e_app (l := l.map Bn.enc) (fun x hx => by rw [List.mem_singleton.1 hx]; exact hok) (by simp; omega) (by simp; omega)) fun _ => ?_
        exact hlp (R := fun q => .agg [i kd, i (if 4 ≤ kd ∧ kd ≤ 7 then ad p 0 else p), .str nm, i s, .sl (ls.map .str), q]) rfl
    · have hlp := @hlp
      rw [e8 h8] at hlp ⊢
      exact hlp (R := fun q => .agg [i kd, i (if 4 ≤ kd ∧ kd ≤ 7 then ad p 0 else p), .str nm, i s, .sl (ls.map .str), q]) rfl

theorem ok_Dual14 (t : Ty) (h : Ln t) (hz : t.sz ≤ 549755813888) : Ok P F.ref14_Dual [t.enc] (duT [] t).enc :=
  k_ref14_Dual _ _ rfl (d_l _ (e_okc (Ty.okc_enc t)) fun _ => d_call (ok_dual14 t [] h (fun b hb => by cases hb) (by simpa using hz)) (d_l _ (e_okc (Ty.okc_enc _)) fun _ => d_ret rfl))
end Go.Proofs.YtchedinkkliogaaDoor.Tx
