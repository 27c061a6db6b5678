/- Contracts (Wk105, Wk106, Wk107, Wk207). -/
import Derived.Test.YtkpnmgohbipjjaaGreatDoorWk104
import Derived.Test.YtkpnmgohbipjjaaGreatDoorWk202
set_option linter.all false
/- Contracts: the duals of types by the reference (2): dual, Dual; a type and its dual. -/
namespace Go.Proofs.YtkpnmgohbipjjaaGreatDoor.Tx
open Go.Lf Go.Lf.S Go.Lf.Duo
set_option maxRecDepth 100000
/-- the round of dual over the kids -/
abbrev dlp (x0 L K0 : PV) (R : PV → PV) : T PV :=
  .loop [(i 0), K0] fun y4 =>
  .l .len [(c 5 x0)] fun x5 =>
  .l (.cmp .lss .i64) [(n y4 0), x5] fun x6 =>
  .ite x6 (
   .l (.cmp .eql .i64) [(n y4 0), (i 0)] fun x7 =>
   .ite x7 (
    .l (.cmp .eql .i64) [(c 0 x0), (i 4)] fun x8 =>
    .ite x8 (
     .l (.idx 6 true) [(c 5 x0), (i 0)] fun x9 =>
     .call F.ref14_closed [x9, L] fun x10 =>
     .l (.idx 6 true) [(n y4 1), (i 0)] fun _ =>
     .l (.upd 6 true) [(n y4 1), (i 0), x10] fun x12 =>
     .l (.arith .add .i64) [(n y4 0), (i 1)] fun x13 =>
     .cont 0 [x13, x12]) (
     .l (.cmp .eql .i64) [(c 0 x0), (i 5)] fun x9 =>
     .ite x9 (
      .l (.idx 6 true) [(c 5 x0), (i 0)] fun x10 =>
      .call F.ref14_closed [x10, L] fun x11 =>
      .l (.idx 6 true) [(n y4 1), (i 0)] fun _ =>
      .l (.upd 6 true) [(n y4 1), (i 0), x11] fun x13 =>
      .l (.arith .add .i64) [(n y4 0), (i 1)] fun x14 =>
      .cont 0 [x14, x13]) (
      .l (.idx 6 true) [(c 5 x0), (n y4 0)] fun x10 =>
      .call F.ref14_dual [x10, L] fun x11 =>
      .l (.idx 6 true) [(n y4 1), (n y4 0)] fun _ =>
      .l (.upd 6 true) [(n y4 1), (n y4 0), x11] fun x13 =>
      .l (.arith .add .i64) [(n y4 0), (i 1)] fun x14 =>
      .cont 0 [x14, x13]))) (
    .l (.idx 6 true) [(c 5 x0), (n y4 0)] fun x8 =>
    .call F.ref14_dual [x8, L] fun x9 =>
    .l (.idx 6 true) [(n y4 1), (n y4 0)] fun _ =>
    .l (.upd 6 true) [(n y4 1), (n y4 0), x9] fun x11 =>
    .l (.arith .add .i64) [(n y4 0), (i 1)] fun x12 =>
    .cont 0 [x12, x11])) (
   .ret (R (n y4 1)))
theorem du_loop {K : PV → Prop} {kd p : Int} {nm : ByteArray} {s : Int} {ls : List ByteArray} {ks : List Ty} {l : List Bn} (hk : ks.length ≤ 549755813888)
  (hc : ∀ t ∈ ks, Ok P F.ref14_closed [t.enc, .sl (l.map Bn.enc)] (clT l t).enc) (hd : ∀ t ∈ ks, Ok P F.ref14_dual [t.enc, .sl (l.map Bn.enc)] (duT l t).enc) {R : PV → PV}
  (hR : K (R (.sl ((ks.mapIdx (duK (decide (kd = 4) || decide (kd = 5)) l)).map Ty.enc)))) :
  (dlp (.agg [i kd, i p, .str nm, i s, .sl (ls.map .str), .sl (ks.map Ty.enc)]) (.sl (l.map Bn.enc)) (.sl ((ks.map (raiseT 0)).map Ty.enc)) R).den0 P K [] := by
 refine den_rounds (fun j => [i j, .sl (((ks.mapIdx (duK (decide (kd = 4) || decide (kd = 5)) l)).take j ++ (ks.map (raiseT 0)).drop j).map Ty.enc)]) ks.length (by simp) (fun j hj => ?_) ?_
 ·have hlen : j < ((ks.mapIdx (duK (decide (kd = 4) || decide (kd = 5)) l)).take j ++ (ks.map (raiseT 0)).drop j).length := by simp; omega
  have hst : ∀ u : Ty, u = duK (decide (kd = 4) || decide (kd = 5)) l j ks[j] → (((ks.mapIdx (duK (decide (kd = 4) || decide (kd = 5)) l)).take j ++ (ks.map (raiseT 0)).drop j).map Ty.enc).set j u.enc = ((ks.mapIdx (duK (decide (kd = 4) || decide (kd = 5)) l)).take (j + 1) ++ (ks.map (raiseT 0)).drop (j + 1)).map Ty.enc := fun u hu => by
   rw [← List.map_set]
   have := set_next (A := ks.mapIdx (duK (decide (kd = 4) || decide (kd = 5)) l)) (B := ks.map (raiseT 0)) (by simp) (j := j) (by simpa using hj)
   simp only [List.getElem_mapIdx] at this
   rw [hu, this]
  have upd : ∀ u : Ty, (Prim.upd 6 true).ev [.sl (((ks.mapIdx (duK (decide (kd = 4) || decide (kd = 5)) l)).take j ++ (ks.map (raiseT 0)).drop j).map Ty.enc), i (j : Int), u.enc] = some (.sl ((((ks.mapIdx (duK (decide (kd = 4) || decide (kd = 5)) l)).take j ++ (ks.map (raiseT 0)).drop j).map Ty.enc).set j u.enc)) := fun u => e_updT (by rw [List.length_map]; exact hlen) (Ty.okc_enc _)
  refine d_l _ e_len fun _ => d_l (.bool (decide ((j : Int) < ((ks.map Ty.enc).length : Int)))) rfl fun _ => d_dec (p := (j : Int) < ((ks.map Ty.enc).length : Int)) (fun _ => ?_) fun h => absurd (show (j : Int) < ((ks.map Ty.enc).length : Int) by simp; omega) h
  have hix := e_idx (n := 6) (a := true) (ty_at' hj) (Ty.okc_enc _)
  have hiy := e_idx (n := 6) (a := true) (ty_at' hlen) (Ty.okc_enc _)
  refine d_l (.bool (decide ((j : Int) = 0))) rfl fun _ => d_dec (p := (j : Int) = 0) (fun h0 => ?_) fun h0 => ?_
  ·have hj0 : j = 0 := by omega
   refine d_l (.bool (decide (kd = 4))) rfl fun _ => d_dec (p := kd = 4) (fun h4 => ?_) fun h4 => d_l (.bool (decide (kd = 5))) rfl fun _ => d_dec (p := kd = 5) (fun h5 => ?_) fun h5 => ?_
   ·have hst' := hst (clT l ks[j]) (by simp [duK, h4, hj0])
    rw [← hst']
    subst hj0
    exact d_l _ hix fun _ => d_call (hc _ (List.getElem_mem hj)) (d_l _ hiy fun _ => d_l _ (upd _) fun _ => d_l _ (e_inc (by omega)) fun _ => d_cont rfl rfl)
   ·have hst' := hst (clT l ks[j]) (by simp [duK, h5, hj0])
    rw [← hst']
    subst hj0
    exact d_l _ hix fun _ => d_call (hc _ (List.getElem_mem hj)) (d_l _ hiy fun _ => d_l _ (upd _) fun _ => d_l _ (e_inc (by omega)) fun _ => d_cont rfl rfl)
   ·rw [← hst (duT l ks[j]) (by simp [duK, h4, h5])]
    exact d_l _ hix fun _ => d_call (hd _ (List.getElem_mem hj)) (d_l _ hiy fun _ => d_l _ (upd _) fun _ => d_l _ (e_inc (by omega)) fun _ => d_cont rfl rfl)
  ·have hj0 : j ≠ 0 := by omega
   rw [← hst (duT l ks[j]) (by simp [duK, hj0])]
   exact d_l _ hix fun _ => d_call (hd _ (List.getElem_mem hj)) (d_l _ hiy fun _ => d_l _ (upd _) fun _ => d_l _ (e_inc (by omega)) fun _ => d_cont rfl rfl)
 ·refine d_l _ e_len fun _ => d_l (.bool (decide ((ks.length : Int) < ((ks.map Ty.enc).length : Int)))) rfl fun _ => d_dec (p := (ks.length : Int) < ((ks.map Ty.enc).length : Int)) (fun h => ?_) fun h => d_ret ?_
  ·simp at h
  ·have e1 : (ks.mapIdx (duK (decide (kd = 4) || decide (kd = 5)) l)).take ks.length = ks.mapIdx (duK (decide (kd = 4) || decide (kd = 5)) l) := List.take_of_length_le (by simp)
   have e2 : (ks.map (raiseT 0)).drop ks.length = [] := List.drop_of_length_le (by simp)
   rw [e1, e2, List.append_nil]; exact hR
theorem lookB_mem {l : List Bn} {nm : ByteArray} {T : Ty} (h : lookB l nm = some T) : ∃ b ∈ l, b.2 = T := by
 simp only [lookB, Option.map_eq_some_iff] at h
 obtain ⟨b, hb, rfl⟩ := h
 exact ⟨b, by simpa using List.mem_of_find?_eq_some hb, rfl⟩
theorem Ln.cl : ∀ {t : Ty} {l : List Bn}, Ln t → (∀ b ∈ l, Ln b.2) → Ln (clT l t) := by
 intro t
 induction t using Ty.ind with
 | _ t ih =>
 intro l h hb
 have h' := h
 cases h with
 | mk _ h1 h2 h =>
 obtain ⟨kd, p, nm, s, ls, ks⟩ := t
 unfold clT
 split
 ·cases hq : lookB l nm with
  | none => exact h'
  | some T =>
   obtain ⟨b, hbm, rfl⟩ := lookB_mem hq
   exact (hb b hbm).raise
 ·rw [clTs_eq]
  refine .mk _ h1 (by show (ks.map _).length ≤ _; rw [List.length_map]; exact h2) fun x hx => ?_
  obtain ⟨y, hy, rfl⟩ := List.mem_map.1 hx
  refine ih y hy (h y hy) fun b hbm => ?_
  split at hbm
  ·exact hb b (List.mem_filter.1 hbm).1
  ·exact hb b hbm
theorem Lim.cl : ∀ {t : Ty} {l : List Bn}, Lim t → (∀ b ∈ l, Lim b.2) → Lim (clT l t) := by
 intro t
 induction t using Ty.ind with
 | _ t ih =>
 intro l h hb
 have h' := h
 cases h with
 | mk _ hn hl hll hk h =>
 obtain ⟨kd, p, nm, s, ls, ks⟩ := t
 unfold clT
 split
 ·cases hq : lookB l nm with
  | none => exact h'
  | some T =>
   obtain ⟨b, hbm, rfl⟩ := lookB_mem hq
   exact lim_raise' (hb b hbm)
 ·rw [clTs_eq]
  refine .mk _ hn hl hll (by show (ks.map _).length ≤ _; rw [List.length_map]; exact hk) fun x hx => ?_
  obtain ⟨y, hy, rfl⟩ := List.mem_map.1 hx
  refine ih y hy (h y hy) fun b hbm => ?_
  split at hbm
  ·exact hb b (List.mem_filter.1 hbm).1
  ·exact hb b hbm
def duL (l : List Bn) (t : Ty) : List Bn := if t.kind = 8 then l ++ [(t.name, clT l t)] else l
theorem duT_mk (l : List Bn) (kd p : Int) (nm : ByteArray) (s : Int) (ls : List ByteArray) (ks : List Ty) : duT l (.mk kd p nm s ls ks) = .mk (dk' kd) (if 4 ≤ kd ∧ kd ≤ 7 then ad p 0 else p) nm s ls (ks.mapIdx (duK (decide (kd = 4) || decide (kd = 5)) (duL l (.mk kd p nm s ls ks)))) := by
 conv => lhs; unfold duT
 rw [duTs_at]; rfl
theorem mapIdx_mem {f : Nat → Ty → Ty} {ks : List Ty} {x : Ty} (h : x ∈ ks.mapIdx f) : ∃ j k, ks[j]? = some k ∧ x = f j k := by
 obtain ⟨j, hj, rfl⟩ := List.getElem_of_mem h
 exact ⟨j, ks[j]'(by simpa using hj), List.getElem?_eq_getElem _, by simp⟩
theorem Lim.du : ∀ {t : Ty} {l : List Bn}, Lim t → (∀ b ∈ l, Lim b.2) → Lim (duT l t) := by
 intro t
 induction t using Ty.ind with
 | _ t ih =>
 intro l h hb
 have h' := h
 cases h with
 | mk _ hn hl hll hk h =>
 obtain ⟨kd, p, nm, s, ls, ks⟩ := t
 rw [duT_mk]
 have hb' : ∀ b ∈ duL l (.mk kd p nm s ls ks), Lim b.2 := fun b hbm => by
  unfold duL at hbm
  split at hbm
  ·rcases List.mem_append.1 hbm with hbm | hbm
   ·exact hb b hbm
   ·simp at hbm; subst hbm; exact Lim.cl h' hb
  ·exact hb b hbm
 refine .mk _ hn hl hll (by show (ks.mapIdx _).length ≤ _; rw [List.length_mapIdx]; exact hk) fun x hx => ?_
 obtain ⟨j, k, hk1, rfl⟩ := mapIdx_mem hx
 have hkm := List.mem_of_getElem? hk1
 unfold duK
 split
 ·exact Lim.cl (h k hkm) hb'
 ·exact ih k hkm (h k hkm) hb'
theorem ok_dual14 : ∀ (t : Ty) (l : List Bn), Ln t → (∀ b ∈ l, Ln b.2) → l.length + t.sz ≤ 549755813888 → Ok P F.ref14_dual [t.enc, .sl (l.map Bn.enc)] (duT l t).enc := by
 intro t
 induction t using Ty.ind with
 | _ t ih =>
 intro l h hb hl
 have hLn := h
 have hR := ok_ref02_RaiseS t 0 h
 have hsz : ∀ k ∈ t.kids, k.sz < t.sz := fun k hk => by obtain ⟨kd, p, nm, s, ls, ks⟩ := t; exact Ty.sz_kid hk
 have hC := ok_closed t l h hb (by omega)
 cases h with
 | mk _ h1 h2 h =>
 obtain ⟨kd, p, nm, s, ls, ks⟩ := t
 have h2 : ks.length ≤ 549755813888 := h2
 have hpos : 1 ≤ (Ty.mk kd p nm s ls ks).sz := by simp only [Ty.sz]; omega
 have hb2 : ∀ b ∈ duL l (.mk kd p nm s ls ks), Ln b.2 := fun b hbm => by
  unfold duL at hbm
  split at hbm
  ·rcases List.mem_append.1 hbm with hbm | hbm
   ·exact hb b hbm
   ·simp at hbm; subst hbm; exact Ln.cl hLn hb
  ·exact hb b hbm
 have hl2 : (duL l (.mk kd p nm s ls ks)).length ≤ l.length + 1 := by unfold duL; split <;> simp
 have hcl : ∀ x ∈ ks, Ok P F.ref14_closed [x.enc, .sl ((duL l (.mk kd p nm s ls ks)).map Bn.enc)] (clT (duL l (.mk kd p nm s ls ks)) x).enc := fun x hx => ok_closed x _ (h x hx) hb2 (by omega)
 have hdu : ∀ x ∈ ks, Ok P F.ref14_dual [x.enc, .sl ((duL l (.mk kd p nm s ls ks)).map Bn.enc)] (duT (duL l (.mk kd p nm s ls ks)) x).enc := fun x hx => ih x hx _ (h x hx) hb2 (by have := hsz x hx; omega)
 have hlp : ∀ {K : PV → Prop} {R : PV → PV}, K (R (.sl ((ks.mapIdx (duK (decide (kd = 4) || decide (kd = 5)) (duL l (.mk kd p nm s ls ks)))).map Ty.enc))) →
   (dlp (.agg [i kd, i p, .str nm, i s, .sl (ls.map .str), .sl (ks.map Ty.enc)]) (.sl ((duL l (.mk kd p nm s ls ks)).map Bn.enc)) (.sl ((ks.map (raiseT 0)).map Ty.enc)) R).den0 P K [] := fun hR => du_loop h2 hcl hdu hR
 rw [duT_mk]
 rw [raiseT_mk] at hR
 rw [Ty.enc_mk] at hR hC ⊢
 rw [Ty.enc_mk]
 have e8 : ¬ kd = 8 → duL l (.mk kd p nm s ls ks) = l := fun h => by unfold duL; rw [if_neg (show ¬ (Ty.mk kd p nm s ls ks).kind = 8 from h)]
 have e8' : kd = 8 → (duL l (.mk kd p nm s ls ks)).map Bn.enc = l.map Bn.enc ++ [.agg [.str nm, c 0 (clT l (.mk kd p nm s ls ks)).enc, c 1 (clT l (.mk kd p nm s ls ks)).enc, c 2 (clT l (.mk kd p nm s ls ks)).enc, c 3 (clT l (.mk kd p nm s ls ks)).enc, c 4 (clT l (.mk kd p nm s ls ks)).enc, c 5 (clT l (.mk kd p nm s ls ks)).enc]] := fun h => by
  unfold duL
  rw [if_pos (show (Ty.mk kd p nm s ls ks).kind = 8 from h), List.map_append]
  congr 1
  obtain ⟨a, b, e, d, f, g⟩ := clT l (.mk kd p nm s ls ks)
  rw [Ty.enc_mk]; rfl
 refine k_ref14_dual _ _ rfl (d_l (.agg [i kd, i p, .str nm, i s, .sl (ls.map .str), .sl (ks.map Ty.enc)]) rfl fun _ => d_calls rfl hR (d_l (.bool (decide (4 ≤ kd))) rfl fun _ => d_dec (p := 4 ≤ kd) (fun h4 => d_l (.bool (decide (kd ≤ 7))) rfl fun _ => d_dec (p := kd ≤ 7) (fun h7 => ?_) fun h7 => ?_) fun h4 => ?_))
 ·have hkk : kd = 4 ∨ kd = 5 ∨ kd = 6 ∨ kd = 7 := by omega
  have h8 : ¬ kd = 8 := by omega
  have hlp := @hlp
  rw [e8 h8] at hlp ⊢
  have hlook : ∀ v : Int, (kd = 4 ∧ v = 5) ∨ (kd = 5 ∧ v = 4) ∨ (kd = 6 ∧ v = 7) ∨ (kd = 7 ∧ v = 6) → v = dk' kd ∧ (Prim.idx 1 false).ev [.sl [i 5, i 4, i 7, i 6], i (kd - 4)] = some (i v) := by
   rintro v (⟨rfl, rfl⟩ | ⟨rfl, rfl⟩ | ⟨rfl, rfl⟩ | ⟨rfl, rfl⟩) <;> exact ⟨rfl, rfl⟩
  obtain ⟨v, hv⟩ : ∃ v : Int, (kd = 4 ∧ v = 5) ∨ (kd = 5 ∧ v = 4) ∨ (kd = 6 ∧ v = 7) ∨ (kd = 7 ∧ v = 6) := by
   rcases hkk with h | h | h | h
   ·exact ⟨5, .inl ⟨h, rfl⟩⟩
   ·exact ⟨4, .inr (.inl ⟨h, rfl⟩)⟩
   ·exact ⟨7, .inr (.inr (.inl ⟨h, rfl⟩))⟩
   ·exact ⟨6, .inr (.inr (.inr ⟨h, rfl⟩))⟩
  obtain ⟨rfl, hix⟩ := hlook v hv
  refine d_l (.sl [i 5, i 4, i 7, i 6]) rfl fun _ => d_l (i (kd - 4)) (e_sub (by omega) (by omega)) fun _ => d_l _ hix fun _ => d_l (i (dk' kd)) rfl fun _ => d_l (.bool (decide (kd = 8))) rfl fun _ => d_dec (p := kd = 8) (fun h => absurd h h8) fun _ => ?_
  exact hlp (R := fun q => .agg [i (dk' kd), i (if 4 ≤ kd ∧ kd ≤ 7 then ad p 0 else p), .str nm, i s, .sl (ls.map .str), q]) rfl
 all_goals
  have hdk : dk' kd = kd := by unfold dk'; omega
  rw [hdk]
  refine d_l (.bool (decide (kd = 8))) rfl fun _ => d_dec (p := kd = 8) (fun h8 => ?_) fun h8 => ?_
  ·have hlp := @hlp
   rw [e8' h8] at hlp
   refine d_l (.sl []) rfl fun _ => d_l (.sl ([] ++ l.map Bn.enc)) (e_app (l := []) (m := l.map Bn.enc) (all_map Bn.okc l) (by simp; omega) (by simp; omega)) fun _ => d_call hC (d_l .nilI ?_ fun _ => ?_)
   ·obtain ⟨a, b, e, d, f, g⟩ := clT l (.mk kd p nm s ls ks)
    rw [Ty.enc_mk]; rfl
   ·have hok : (PV.agg [.str nm, c 0 (clT l (.mk kd p nm s ls ks)).enc, c 1 (clT l (.mk kd p nm s ls ks)).enc, c 2 (clT l (.mk kd p nm s ls ks)).enc, c 3 (clT l (.mk kd p nm s ls ks)).enc, c 4 (clT l (.mk kd p nm s ls ks)).enc, c 5 (clT l (.mk kd p nm s ls ks)).enc]).okc 7 true = true := by
     obtain ⟨a, b, e, d, f, g⟩ := clT l (.mk kd p nm s ls ks)
     rw [Ty.enc_mk]; rfl
    refine d_l (.sl [.agg [.str nm, c 0 (clT l (.mk kd p nm s ls ks)).enc, c 1 (clT l (.mk kd p nm s ls ks)).enc, c 2 (clT l (.mk kd p nm s ls ks)).enc, c 3 (clT l (.mk kd p nm s ls ks)).enc, c 4 (clT l (.mk kd p nm s ls ks)).enc, c 5 (clT l (.mk kd p nm s ls ks)).enc]]) (e_lst fun x hx => by rw [List.mem_singleton.1 hx]; exact hok) fun _ => d_l (.sl (l.map Bn.enc ++ [.agg [.str nm, c 0 (clT l (.mk kd p nm s ls ks)).enc, c 1 (clT l (.mk kd p nm s ls ks)).enc, c 2 (clT l (.mk kd p nm s ls ks)).enc, c 3 (clT l (.mk kd p nm s ls ks)).enc, c 4 (clT l (.mk kd p nm s ls ks)).enc, c 5 (clT l (.mk kd p nm s ls ks)).enc]])) (e_app (l := l.map Bn.enc) (fun x hx => by rw [List.mem_singleton.1 hx]; exact hok) (by simp; omega) (by simp; omega)) fun _ => ?_
    exact hlp (R := fun q => .agg [i kd, i (if 4 ≤ kd ∧ kd ≤ 7 then ad p 0 else p), .str nm, i s, .sl (ls.map .str), q]) rfl
  ·have hlp := @hlp
   rw [e8 h8] at hlp ⊢
   exact hlp (R := fun q => .agg [i kd, i (if 4 ≤ kd ∧ kd ≤ 7 then ad p 0 else p), .str nm, i s, .sl (ls.map .str), q]) rfl
theorem ok_Dual14 (t : Ty) (h : Ln t) (hz : t.sz ≤ 549755813888) : Ok P F.ref14_Dual [t.enc] (duT [] t).enc :=
 k_ref14_Dual _ _ rfl (d_l _ (e_okc (Ty.okc_enc t)) fun _ => d_call (ok_dual14 t [] h (fun b hb => by cases hb) (by simpa using hz)) (d_l _ (e_okc (Ty.okc_enc _)) fun _ => d_ret rfl))
end Go.Proofs.YtkpnmgohbipjjaaGreatDoor.Tx
/- Contracts: the reference observes; types blown up; a monitor settled. -/
namespace Go.Proofs.YtkpnmgohbipjjaaGreatDoor.Tx
open Go.Lf Go.Lf.S Go.Lf.Duo
set_option maxRecDepth 100000
end Go.Proofs.YtkpnmgohbipjjaaGreatDoor.Tx
/- The law: monitors of a type and of its dual. -/
namespace Go.Proofs.YtkpnmgohbipjjaaGreatDoor.Tx
open Go.Lf Go.Lf.S Go.Lf.Duo
set_option maxRecDepth 100000
/-- what kind of a payload a monitor tells apart -/
def pc (k : Int) : Int := if k = 1 then 1 else if k = 2 then 2 else 0
theorem dk'_dk' (a : Int) : dk' (dk' a) = a := by
 unfold dk'; repeat' split
 all_goals omega
theorem dk'_inj {a b : Int} (h : dk' a = dk' b) : a = b := by rw [← dk'_dk' a, h, dk'_dk']
theorem dk'_o {a : Int} (h : ¬ (4 ≤ a ∧ a ≤ 7)) : dk' a = a := by
 unfold dk'; repeat' split
 all_goals omega
theorem dk'_ne {a b : Int} (hb : ¬ (4 ≤ b ∧ b ≤ 7)) : dk' a = b ↔ a = b := by
 constructor
 ·intro h; exact dk'_inj (h.trans (dk'_o hb).symm)
 ·rintro rfl; exact dk'_o hb
/-- a type and another one with the kinds exchanged, but for priorities and payloads -/
inductive SR : Ty → Ty → Prop
 | mk (t d : Ty) (hk : d.kind = dk' t.kind) (hn : d.name = t.name) (hl : d.labels = t.labels) (hlen : d.kids.length = t.kids.length)
  (pay : (t.kind = 4 ∨ t.kind = 5) → ∀ p q, t.kids[0]? = some p → d.kids[0]? = some q → pc q.kind = pc p.kind)
  (rest : ∀ (j : Nat) (p q : Ty), ¬ (j = 0 ∧ (t.kind = 4 ∨ t.kind = 5)) → t.kids[j]? = some p → d.kids[j]? = some q → SR p q) : SR t d
theorem raise_name (k : Int) (t : Ty) : (raiseT k t).name = t.name := by obtain ⟨a, b, c, d, e, f⟩ := t; rw [raiseT_mk]; rfl
theorem SR.raise {t d : Ty} (h : SR t d) (a b : Int) : SR (raiseT a t) (raiseT b d) := by
 induction h with
 | mk t d hk hn hl hlen pay rest ih =>
 refine .mk _ _ (by rw [raise_kind, raise_kind, hk]) (by rw [raise_name, raise_name, hn]) (by rw [raise_labels, raise_labels, hl]) (by rw [raise_kids, raise_kids, List.length_map, List.length_map, hlen]) ?_ ?_
 ·intro hkd p q hp hq
  rw [raise_kind] at hkd
  rw [raise_kids, List.getElem?_map, Option.map_eq_some_iff] at hp hq
  obtain ⟨p0, hp, rfl⟩ := hp
  obtain ⟨q0, hq, rfl⟩ := hq
  rw [raise_kind, raise_kind]; exact pay hkd _ _ hp hq
 ·intro j p q hj hp hq
  rw [raise_kind] at hj
  rw [raise_kids, List.getElem?_map, Option.map_eq_some_iff] at hp hq
  obtain ⟨p0, hp, rfl⟩ := hp
  obtain ⟨q0, hq, rfl⟩ := hq
  exact ih j p0 q0 hj hp hq
theorem put_o {x : ByteArray} {b t : Ty} (h9 : ¬ (t.kind = 9 ∧ t.name = x)) (h8 : ¬ (t.kind = 8 ∧ t.name = x)) : (putT x b t).kind = t.kind ∧ (putT x b t).name = t.name ∧ (putT x b t).labels = t.labels ∧ (putT x b t).kids = t.kids.map (putT x b) := by
 obtain ⟨kd, p, nm, s, ls, ks⟩ := t
 have h9 : ¬ (kd = 9 ∧ nm = x) := h9
 have h8 : ¬ (kd = 8 ∧ nm = x) := h8
 unfold putT
 rw [if_neg h9, if_neg h8, putTs_eq]
 exact ⟨rfl, rfl, rfl, rfl⟩
theorem put_9 {x : ByteArray} {b t : Ty} (h9 : t.kind = 9 ∧ t.name = x) : putT x b t = raiseT t.shift b := by
 obtain ⟨kd, p, nm, s, ls, ks⟩ := t
 have h9 : kd = 9 ∧ nm = x := h9
 unfold putT
 rw [if_pos h9]; rfl
theorem put_8 {x : ByteArray} {b t : Ty} (h8 : t.kind = 8 ∧ t.name = x) : putT x b t = raiseT 0 t := by
 obtain ⟨kd, p, nm, s, ls, ks⟩ := t
 have h8 : kd = 8 ∧ nm = x := h8
 unfold putT
 rw [if_neg (fun h => by omega), if_pos h8]
theorem pc_put {x : ByteArray} {b : Ty} (hb : b.kind = 8) (p : Ty) : pc (putT x b p).kind = pc p.kind := by
 by_cases h9 : p.kind = 9 ∧ p.name = x
 ·rw [put_9 h9, raise_kind, hb, h9.1]; rfl
 ·by_cases h8 : p.kind = 8 ∧ p.name = x
  ·rw [put_8 h8, raise_kind]
  ·rw [(put_o h9 h8).1]
theorem SR.put {x : ByteArray} {b b' : Ty} (hb : SR b b') (hb8 : b.kind = 8) (hb8' : b'.kind = 8) {t d : Ty} (h : SR t d) : SR (putT x b t) (putT x b' d) := by
 induction h with
 | mk t d hk hn hl hlen pay rest ih =>
 have k9 : (d.kind = 9 ∧ d.name = x) ↔ (t.kind = 9 ∧ t.name = x) := by rw [hk, hn, dk'_ne (by omega)]
 have k8 : (d.kind = 8 ∧ d.name = x) ↔ (t.kind = 8 ∧ t.name = x) := by rw [hk, hn, dk'_ne (by omega)]
 by_cases h9 : t.kind = 9 ∧ t.name = x
 ·rw [put_9 h9, put_9 (k9.2 h9)]
  exact hb.raise _ _
 ·by_cases h8 : t.kind = 8 ∧ t.name = x
  ·rw [put_8 h8, put_8 (k8.2 h8)]
   exact (SR.mk t d hk hn hl hlen pay rest).raise 0 0
  ·obtain ⟨a1, a2, a3, a4⟩ := put_o (b := b) h9 h8
   obtain ⟨b1, b2, b3, b4⟩ := put_o (b := b') (fun h => h9 (k9.1 h)) (fun h => h8 (k8.1 h))
   refine .mk _ _ (by rw [a1, b1, hk]) (by rw [a2, b2, hn]) (by rw [a3, b3, hl]) (by rw [a4, b4, List.length_map, List.length_map, hlen]) ?_ ?_
   ·intro hkd p q hp hq
    rw [a1] at hkd
    rw [a4, List.getElem?_map, Option.map_eq_some_iff] at hp
    rw [b4, List.getElem?_map, Option.map_eq_some_iff] at hq
    obtain ⟨p0, hp, rfl⟩ := hp
    obtain ⟨q0, hq, rfl⟩ := hq
    rw [pc_put hb8, pc_put hb8']; exact pay hkd _ _ hp hq
   ·intro j p q hj hp hq
    rw [a1] at hj
    rw [a4, List.getElem?_map, Option.map_eq_some_iff] at hp
    rw [b4, List.getElem?_map, Option.map_eq_some_iff] at hq
    obtain ⟨p0, hp, rfl⟩ := hp
    obtain ⟨q0, hq, rfl⟩ := hq
    exact ih j p0 q0 hj hp hq
theorem SR.unf {t u : Ty} (hU : Unf t u) : ∀ {d : Ty}, SR t d → ∃ w, Unf d w ∧ SR u w := by
 induction hU with
 | done t h =>
  intro d hs
  refine ⟨raiseT 0 d, .done d ?_, hs.raise 0 0⟩
  cases hs with
  | mk _ _ hk _ _ _ _ _ => rw [hk]; exact fun hc => h ((dk'_ne (by omega)).1 hc)
 | step t k u r h hk hu ih =>
  intro d hs
  have hs' := hs
  cases hs with
  | mk _ _ hkd hn hl hlen pay rest =>
  have hd8 : d.kind = 8 := by rw [hkd, h]; rfl
  obtain ⟨k', r', hk'⟩ : ∃ k' r', d.kids = k' :: r' := by
   match hdk : d.kids, hlen with
   | [], hlen => rw [hk] at hlen; simp at hlen
   | a :: b, _ => exact ⟨a, b, rfl⟩
  have hkk : SR k k' := rest 0 k k' (by omega) (by rw [hk]; rfl) (by rw [hk']; rfl)
  have hp := SR.put (x := t.name) hs' h hd8 hkk
  obtain ⟨w, hw, hsw⟩ := ih hp
  exact ⟨w, .step d k' w r' hd8 hk' (by rw [hn]; exact hw), hsw⟩
theorem cl_kind (l : List Bn) (hl : ∀ b ∈ l, b.2.kind = 8) (t : Ty) : pc (clT l t).kind = pc t.kind ∧ (t.kind = 8 → (clT l t).kind = 8) := by
 obtain ⟨kd, p, nm, s, ls, ks⟩ := t
 unfold clT
 by_cases h9 : kd = 9
 ·rw [if_pos h9]
  cases hq : lookB l nm with
  | none => exact ⟨rfl, fun h => h⟩
  | some T =>
   obtain ⟨b, hbm, rfl⟩ := lookB_mem hq
   refine ⟨?_, fun h => ?_⟩
   ·show pc (raiseT s b.2).kind = pc kd
    rw [raise_kind, hl b hbm, h9]; rfl
   ·show (raiseT s b.2).kind = 8
    rw [raise_kind, hl b hbm]
 ·rw [if_neg h9]; exact ⟨rfl, fun h => h⟩
theorem sr_du : ∀ (t : Ty) (l : List Bn), (∀ b ∈ l, b.2.kind = 8) → SR t (duT l t) := by
 intro t
 induction t using Ty.ind with
 | _ t ih =>
 intro l hl
 have hl2 : ∀ b ∈ duL l t, b.2.kind = 8 := fun b hbm => by
  unfold duL at hbm
  split at hbm
  ·rename_i h8
   rcases List.mem_append.1 hbm with hbm | hbm
   ·exact hl b hbm
   ·simp at hbm; subst hbm; exact (cl_kind l hl t).2 h8
  ·exact hl b hbm
 obtain ⟨kd, p, nm, s, ls, ks⟩ := t
 rw [duT_mk]
 refine .mk _ _ rfl rfl rfl (by show (ks.mapIdx _).length = ks.length; rw [List.length_mapIdx]) ?_ ?_
 ·intro hk p q hp hq
  have hp : ks[0]? = some p := hp
  have hk : kd = 4 ∨ kd = 5 := hk
  have hq : (ks.mapIdx (duK (decide (kd = 4) || decide (kd = 5)) (duL l (.mk kd _ nm s ls ks))))[0]? = some q := hq
  rw [List.getElem?_mapIdx, hp] at hq
  simp only [Option.map_some, Option.some.injEq] at hq
  subst hq
  have : (decide (kd = 4) || decide (kd = 5)) = true := by simpa using hk
  rw [this]
  simp only [duK, Bool.true_and, decide_true, if_true]
  exact (cl_kind _ hl2 p).1
 ·intro j p' q hj hp hq
  have hp : ks[j]? = some p' := hp
  have hj : ¬ (j = 0 ∧ (kd = 4 ∨ kd = 5)) := hj
  have hq : (ks.mapIdx (duK (decide (kd = 4) || decide (kd = 5)) (duL l (.mk kd p nm s ls ks))))[j]? = some q := hq
  rw [List.getElem?_mapIdx, hp] at hq
  simp only [Option.map_some, Option.some.injEq] at hq
  subst hq
  have hd : duK (decide (kd = 4) || decide (kd = 5)) (duL l (.mk kd p nm s ls ks)) j p' = duT (duL l (.mk kd p nm s ls ks)) p' := by
   unfold duK
   rw [if_neg]
   simp only [Bool.and_eq_true, Bool.or_eq_true, decide_eq_true_eq]
   exact fun h => hj ⟨h.2, h.1⟩
  rw [hd]
  exact ih p' (List.mem_of_getElem? hp) _ hl2
/-! ### an event and the same from the other end -/
def Ev.flip (e : Ev) : Ev := { e with plus := !e.plus }
/-- the cases, by the type of the channel -/
theorem Obs.at {e : Ev} {us us' : List Ty} {r : Int} (h : Obs e us r us') {t : Ty} (h0 : 0 ≤ e.ch) (ht : us[e.ch.toNat]? = some t) :
  (t.kind ≠ wantK e ∧ r = 8 ∧ us' = us) ∨ (t.kind = wantK e ∧ e.label ≠ ⟨#[]⟩ ∧ e.label ∉ t.labels ∧ r = 9 ∧ us' = us) ∨
  (t.kind = wantK e ∧ e.label ≠ ⟨#[]⟩ ∧ ∃ (j : Nat) (k w : Ty), t.labels[j]? = some e.label ∧ (∀ q : Nat, q < j → t.labels[q]? ≠ some e.label) ∧ t.kids[j]? = some k ∧ Unf k w ∧ r = 0 ∧ us' = us.set e.ch.toNat w) ∨
  (t.kind = wantK e ∧ e.label = ⟨#[]⟩ ∧ ∃ p, t.kids[0]? = some p ∧ fitK e.v.kind p.kind = false ∧ r = 8 ∧ us' = us) ∨
  (t.kind = wantK e ∧ e.label = ⟨#[]⟩ ∧ ∃ p k w, t.kids[0]? = some p ∧ fitK e.v.kind p.kind = true ∧ t.kids[1]? = some k ∧ Unf k w ∧ r = 0 ∧ us' = us.set e.ch.toNat w) := by
 cases h with
 | arg h => have := (List.getElem?_eq_some_iff.1 ht).1; omega
 | kind h0 t' ht' h => rw [ht] at ht'; cases ht'; exact .inl ⟨h, rfl, rfl⟩
 | nolabel h0 t' ht' h hl hm => rw [ht] at ht'; cases ht'; exact .inr (.inl ⟨h, hl, hm, rfl, rfl⟩)
 | label h0 t' ht' h hl j hj hf k w hk hw => rw [ht] at ht'; cases ht'; exact .inr (.inr (.inl ⟨h, hl, j, k, w, hj, hf, hk, hw, rfl, rfl⟩))
 | nofit h0 t' ht' h hl p hp hn => rw [ht] at ht'; cases ht'; exact .inr (.inr (.inr (.inl ⟨h, hl, p, hp, hn, rfl, rfl⟩)))
 | fit h0 t' ht' h hl p hp hn k w hk hw => rw [ht] at ht'; cases ht'; exact .inr (.inr (.inr (.inr ⟨h, hl, p, k, w, hp, hn, hk, hw, rfl, rfl⟩)))
end Go.Proofs.YtkpnmgohbipjjaaGreatDoor.Tx
/- The law: the trace of the dual of a simple type is that of the type with the senders exchanged. -/
namespace Go.Proofs.YtkpnmgohbipjjaaGreatDoor.Tx
open Go.Lf Go.Lf.S Go.Lf.Duo
set_option maxRecDepth 100000
/-- payloads are numbers or booleans, throughout -/
inductive Pl26 : Ty → Prop
 | mk (t : Ty) (hp : 4 ≤ t.kind ∧ t.kind ≤ 5 → ∀ p, t.kids[0]? = some p → p.kind = 1 ∨ p.kind = 2) (hk : ∀ (j : Nat) (k : Ty), ¬ (j = 0 ∧ 4 ≤ t.kind ∧ t.kind ≤ 5) → t.kids[j]? = some k → Pl26 k) : Pl26 t
theorem Pl26.raise (k : Int) : ∀ {t : Ty}, Pl26 t → Pl26 (raiseT k t) := by
 intro t
 induction t using Ty.ind with
 | _ t ih =>
 intro h
 cases h with
 | mk _ hp hk =>
 refine .mk _ (fun hc p hx => ?_) fun j x hj hx => ?_
 ·rw [raise_kind] at hc
  rw [raise_kids, List.getElem?_map, Option.map_eq_some_iff] at hx
  obtain ⟨y, hy, rfl⟩ := hx
  rw [raise_kind]; exact hp hc y hy
 ·rw [raise_kind] at hj
  rw [raise_kids, List.getElem?_map, Option.map_eq_some_iff] at hx
  obtain ⟨y, hy, rfl⟩ := hx
  exact ih y (List.mem_of_getElem? hy) (hk j y hj hy)
theorem put_lit {x : ByteArray} {b t : Ty} (h : t.kind = 1 ∨ t.kind = 2) : (putT x b t).kind = t.kind := by
 obtain ⟨kd, p, nm, s, ls, ks⟩ := t
 have h : kd = 1 ∨ kd = 2 := h
 unfold putT
 split
 ·rename_i hc; omega
 ·split
  ·rw [raise_kind]
  ·rfl
theorem Pl26.put {x : ByteArray} {b : Ty} (hb : Pl26 b) : ∀ {t : Ty}, Pl26 t → Pl26 (putT x b t) := by
 intro t
 induction t using Ty.ind with
 | _ t ih =>
 intro h
 have h0 := h
 cases h with
 | mk _ hp hk =>
 obtain ⟨kd, p, nm, s, ls, ks⟩ := t
 unfold putT
 split
 ·exact hb.raise s
 ·split
  ·exact h0.raise 0
  ·rw [putTs_eq]
   refine .mk _ (fun hc p hx => ?_) fun j k hj hjk => ?_
   ·have hx : (ks.map (putT x b))[0]? = some p := hx
    rw [List.getElem?_map, Option.map_eq_some_iff] at hx
    obtain ⟨y, hy, rfl⟩ := hx
    have := hp hc y hy
    rw [put_lit this]; exact this
   ·have hjk : (ks.map (putT x b))[j]? = some k := hjk
    rw [List.getElem?_map, Option.map_eq_some_iff] at hjk
    obtain ⟨y, hy, rfl⟩ := hjk
    exact ih y (List.mem_of_getElem? hy) (hk j y hj hy)
theorem Pl26.unf {t u : Ty} (h : Unf t u) : Pl26 t → Pl26 u := by
 induction h with
 | done t h => exact fun g => g.raise 0
 | step t q u r h hk hu ih =>
  intro g
  have g0 := g
  cases g with
  | mk _ hp hkk => exact ih (g0.put (hkk 0 q (by omega) (by rw [hk]; rfl)))
theorem pl_of : ∀ {t : Ty}, plB t = true → Pl26 t := by
 intro t
 induction t using Ty.ind with
 | _ t ih =>
 intro h
 obtain ⟨k, p, nm, s, ls, ks⟩ := t
 simp only [plB] at h
 have all : ∀ (l : List Ty), plBs false l = true → ∀ x ∈ l, plB x = true := by
  intro l
  induction l with
  | nil => exact fun _ x hx => by cases hx
  | cons a l ih =>
   intro h x hx
   rw [plBs_cons, Bool.and_eq_true] at h
   rcases List.mem_cons.1 hx with rfl | hx
   ·simpa using h.1
   ·exact ih h.2 x hx
 refine .mk _ (fun hc q hq => ?_) fun j x hj hx => ?_
 ·have hc : 4 ≤ k ∧ k ≤ 5 := hc
  have hq : ks[0]? = some q := hq
  match ks, hq with
  | a :: l, hq =>
   obtain rfl : a = q := by simpa using hq
   rw [plBs_cons, Bool.and_eq_true, decide_eq_true (by omega)] at h
   have h1 := h.1
   simp only [if_true, ssB, Bool.not_eq_true', decide_eq_false_iff_not] at h1
   omega
 ·have hx : ks[j]? = some x := hx
  have hj : ¬ (j = 0 ∧ 4 ≤ k ∧ k ≤ 5) := hj
  have hm : x ∈ ks := List.mem_of_getElem? hx
  refine ih x hm ?_
  match ks, hx, h, hm with
  | a :: l, hx, h, hm =>
   rw [plBs_cons, Bool.and_eq_true] at h
   cases j with
   | zero =>
    obtain rfl : a = x := by simpa using hx
    have : decide (k = 4 ∨ k = 5) = false := decide_eq_false (by omega)
    rw [this] at h
    simpa using h.1
   | succ j =>
    exact all l h.2 x (List.mem_of_getElem? (by simpa using hx))
/-- a simple type's graph: sessions, payloads plain -/
structure Sm (t : Ty) : Prop where
 gd : Gd t
 ss : sesB t.kind = true
 pl : Pl26 t
theorem Sm.unf {t u : Ty} (h : Sm t) (hU : Unf t u) : Sm u := ⟨(h.gd.unf hU).1, (h.gd.unf hU).2 h.ss, h.pl.unf hU⟩
theorem Sm.rest {u : Ty} (h : Sm u) {j : Nat} {k : Ty} (hj : ¬ (j = 0 ∧ 4 ≤ u.kind ∧ u.kind ≤ 5)) (hk : u.kids[j]? = some k) : Sm k := by
 have hm := List.mem_of_getElem? hk
 obtain ⟨h1, h2, h3⟩ := h
 cases h1 with
 | mk _ _ _ _ hs hkk =>
 cases h3 with
 | mk _ _ hp => exact ⟨hkk k hm, (hs j k hk).resolve_left hj, hp j k hj hk⟩
theorem Sm.pay {u : Ty} (h : Sm u) (hu : 4 ≤ u.kind ∧ u.kind ≤ 5) {p : Ty} (hp : u.kids[0]? = some p) : p.kind = 1 ∨ p.kind = 2 := by
 cases h.pl with
 | mk _ h1 _ => exact h1 hu p hp
theorem rt_cl {ds : List Nd} {r : Rf} {T : Ty} (h : RT ds r T) : RT (closeD ds) r T := by
 refine ⟨RT ds, h, fun r T h => ?_⟩
 obtain ⟨h0, u, d, h1, h2, h3⟩ := h.step
 obtain ⟨hl, hd⟩ := List.getElem?_eq_some_iff.1 h2
 refine ⟨h0, u, d, h1, ?_, h3⟩
 unfold closeD
 rw [List.getElem?_append_left hl]; exact h2
def Evt.flip (e : Evt) : Evt := { e with plus := !e.plus }
/-- a node that stands for an unfolded type -/
theorem nxR_rt {ds : List Nd} {d : Nd} {u : Ty} {s : Int} (hn : d.next.length = u.kids.length) (hr : ∀ (j : Nat) (v : Rf) (k : Ty), d.next[j]? = some v → u.kids[j]? = some k → RT ds ⟨v.node, ad v.shift s⟩ k) {j : Nat} {k : Ty} (hk : u.kids[j]? = some k) : RT ds (nxR d s j) k := by
 have hj : j < d.next.length := by rw [hn]; exact (List.getElem?_eq_some_iff.1 hk).1
 unfold nxR
 rw [List.getElem?_eq_getElem hj]
 exact hr j _ k (List.getElem?_eq_getElem hj) hk
theorem vlE_rt {ds : List Nd} {d : Nd} {u : Ty} {s : Int} (hn : d.next.length = u.kids.length) (hr : ∀ (j : Nat) (v : Rf) (k : Ty), d.next[j]? = some v → u.kids[j]? = some k → RT ds ⟨v.node, ad v.shift s⟩ k) {p : Ty} (hp : u.kids[0]? = some p) (hlit : p.kind = 1 ∨ p.kind = 2) : vlE ds d s = if p.kind = 1 then (2, 0) else (3, 1) := by
 obtain ⟨h0, w, x, h1, h2, h3, _⟩ := (nxR_rt hn hr hp).step
 have hw : w.kind = p.kind := by
  cases h1 with
  | done _ _ => rw [raise_kind]
  | step _ _ _ _ h8 => omega
 unfold vlE
 rw [h2]
 simp only [h3, hw]
theorem trc_dual {ds ds' : List Nd} (hg : GrOk' ds) (hg' : GrOk' ds') (c : Int) : ∀ (k : Nat) (r r' : Rf) (T D : Ty), RT ds r T → RT ds' r' D → SR T D → Sm T → Sm D → (trc ds c k r).map Evt.flip = trc ds' c k r' := by
 intro k
 induction k with
 | zero => intro r r' T D _ _ _ _ _; rfl
 | succ k ih =>
  intro r r' T D hT hD hS mT mD
  obtain ⟨h0, u, d, h1, h2, h3, _, h5, h6, h7⟩ := hT.step
  obtain ⟨g0, v, e, g1, g2, g3, _, g5, g6, g7⟩ := hD.step
  obtain ⟨v', hv', hs⟩ := SR.unf h1 hS
  obtain rfl := unf_fun hv' g1
  have mu := mT.unf h1
  have mv := mD.unf g1
  cases hs with
  | mk _ _ hk hn hl hlen pay rest =>
  have su := mu.ss
  simp only [sesB, decide_eq_true_eq] at su
  simp only [trc, evS, h2, g2]
  have ek : e.kind = dk' d.kind := by rw [g3, h3, hk]
  have el : e.labels = d.labels := by rw [g5, h5, hl]
  by_cases c3 : d.kind = 3
  ·have : e.kind = 3 := by rw [ek, c3]; rfl
   rw [if_pos c3, if_pos this]; rfl
  ·have c3' : ¬ e.kind = 3 := by rw [ek]; exact fun h => c3 ((dk'_ne (by omega)).1 h)
   rw [if_neg c3, if_neg c3', el]
   have hd := hg.2 d (List.mem_of_getElem? h2)
   have he := hg'.2 e (List.mem_of_getElem? g2)
   have k1 := hd.k1
   have h47 : 4 ≤ u.kind ∧ u.kind ≤ 7 := by omega
   have plus : (decide (e.kind = 4) || decide (e.kind = 6)) = !(decide (d.kind = 4) || decide (d.kind = 6)) := by
    rw [ek, h3]
    have : u.kind = 4 ∨ u.kind = 5 ∨ u.kind = 6 ∨ u.kind = 7 := by omega
    rcases this with e | e | e | e <;> rw [e] <;> rfl
   have vk : v'.kind = dk' u.kind := hk
   have vk5 : (4 ≤ v'.kind ∧ v'.kind ≤ 5) ↔ (4 ≤ u.kind ∧ u.kind ≤ 5) := by
    rw [vk]
    have : u.kind = 4 ∨ u.kind = 5 ∨ u.kind = 6 ∨ u.kind = 7 := by omega
    rcases this with e | e | e | e <;> rw [e] <;> simp [dk']
   -- what is behind
   have nx : ∀ (j : Nat), j < u.kids.length → ¬ (j = 0 ∧ 4 ≤ u.kind ∧ u.kind ≤ 5) → (trc ds c k (nxR d r.shift j)).map Evt.flip = trc ds' c k (nxR e r'.shift j) := fun j hj hnp => by
    have p1 : u.kids[j]? = some (u.kids[j]) := List.getElem?_eq_getElem hj
    have p2 : v'.kids[j]? = some (v'.kids[j]'(by omega)) := List.getElem?_eq_getElem (by omega)
    exact ih _ _ _ _ (nxR_rt h6 h7 p1) (nxR_rt g6 g7 p2) (rest j _ _ (fun hc => hnp ⟨hc.1, by omega, by omega⟩) p1 p2) (mu.rest hnp p1) (mv.rest (fun hc => hnp ⟨hc.1, vk5.1 hc.2⟩) p2)
   by_cases c5 : u.kind ≤ 5
   ·have hn5 := hd.n5 (by omega)
    rw [if_neg (by omega), if_neg (by omega)]
    have z1 : u.kids[0]? = some (u.kids[0]'(by omega)) := List.getElem?_eq_getElem (by omega)
    have z2 : v'.kids[0]? = some (v'.kids[0]'(by omega)) := List.getElem?_eq_getElem (by omega)
    have q1 := mu.pay ⟨by omega, c5⟩ z1
    have q2 := mv.pay (vk5.2 ⟨by omega, c5⟩) z2
    have hpc := pay (by omega) _ _ z1 z2
    have hqk : (v'.kids[0]'(by omega)).kind = (u.kids[0]'(by omega)).kind := by
     rcases q1 with e1 | e1 <;> rcases q2 with e2 | e2 <;> rw [e1, e2] at hpc <;> first | (rw [e1, e2]; done) | (simp [pc] at hpc)
    rw [vlE_rt h6 h7 z1 q1, vlE_rt g6 g7 z2 q2, hqk, plus]
    simp only [List.map_cons, Evt.flip]
    rw [nx 1 (by omega) (by omega)]
   ·have hn7 := hd.n7 (by omega)
    rw [if_pos hn7.2, if_pos hn7.2, plus]
    obtain ⟨w1, _⟩ := chs_lt (c := c) hn7.2
    simp only [List.map_cons, Evt.flip]
    rw [nx (chs c d.labels.length) (by omega) (by omega)]
theorem ok_SimpleG (t : Ty) (hlim : Lim t) (hz : t.sz ≤ 1000) : ∃ b, Ok P F.ref26_Simple [t.enc] (.bool b) ∧ (b = true → Wf t [] 0 ∧ Sm t) := by
 have he := okx_ref02_Right t hlim (by omega)
 have hS := ok_ref02_Session t
 have hP := ok_plain26 t hlim
 have := tx_ex (K := fun x => ∃ b, x = .bool b ∧ (b = true → Wf t [] 0 ∧ Sm t)) k_ref26_Simple (xs := [t.enc]) rfl (by simp [t_ref26_Simple, T.dt]) (by
  refine d_l _ (e_okc (Ty.okc_enc t)) fun _ => d_call he (d_l (.bool (decide (rightE t = 0))) rfl fun _ => d_dec (fun h0 => d_call hS (d_ite (fun hs => d_call hP (d_ret ⟨_, rfl, fun h => ?_⟩)) fun _ => d_ret ⟨false, rfl, fun h => by cases h⟩)) fun _ => d_ret ⟨false, rfl, fun h => by cases h⟩)
  unfold rightE at h0
  split at h0
  ·exact absurd h0 (by decide)
  ·exact ⟨wf_of h0, (gd_of hlim h0).1, hs, pl_of h⟩)
 obtain ⟨_, ⟨b, rfl, hb⟩, h⟩ := this
 exact ⟨b, h, hb⟩
theorem szs_mapIdx : ∀ (ks : List Ty) (f : Nat → Ty → Ty), (∀ (j : Nat) (k : Ty), ks[j]? = some k → (f j k).sz = k.sz) → Ty.szs (ks.mapIdx f) = Ty.szs ks
 | [], _, _ => rfl
 | k :: ks, f, h => by
  rw [List.mapIdx_cons]
  simp only [Ty.szs]
  rw [h 0 k rfl, szs_mapIdx ks (fun i => f (i + 1)) fun j x hx => h (j + 1) x (by simpa using hx)]
/-- the dual of a simple type has its size -/
theorem duT_sz : ∀ (t : Ty) (l : List Bn) (ns : List ByteArray) (g : Nat), Pl26 t → Wf t ns g → (duT l t).sz = t.sz := by
 intro t
 induction t using Ty.ind with
 | _ t ih =>
 intro l ns g hp hw
 have hp0 := hp
 have hw0 := hw
 cases hp with
 | mk _ hpay hrest =>
 cases hw with
 | mk _ _ _ h1 h9 h8 hk =>
 obtain ⟨k, p, nm, s, ls, ks⟩ := t
 have hwk : ∀ x ∈ ks, ∃ ns' g', Wf x ns' g' := fun x hx => by
  by_cases c8 : k = 8
  ·exact ⟨_, _, h8 c8 x hx⟩
  ·exact ⟨_, _, hk c8 x hx⟩
 rw [duT_mk]
 simp only [Ty.sz]
 rw [szs_mapIdx ks _ fun j x hx => ?_]
 have hm := List.mem_of_getElem? hx
 obtain ⟨ns', g', hwx⟩ := hwk x hm
 unfold duK
 split
 ·rename_i hc
  simp only [Bool.and_eq_true, Bool.or_eq_true, decide_eq_true_eq] at hc
  obtain ⟨c1, rfl⟩ := hc
  have hlit := hpay (by show 4 ≤ k ∧ k ≤ 5; omega) x hx
  have hnk : x.kids = [] := by
   have hx3 : x.kind ≤ 3 := by rcases hlit with e | e <;> rw [e] <;> decide
   cases hwx with
   | mk _ _ _ w1 _ _ _ =>
   unfold Wf1 at w1
   exact List.eq_nil_of_length_eq_zero (w1.1.2.2.1 hx3).1
  obtain ⟨k', p', nm', s', ls', ks'⟩ := x
  have hnk : ks' = [] := hnk
  have hlit : k' = 1 ∨ k' = 2 := hlit
  subst hnk
  have h9 : ¬ k' = 9 := by omega
  simp only [clT, clTs, Ty.sz, Ty.szs]
  rw [if_neg h9]
  rfl
 ·rename_i hc
  simp only [Bool.and_eq_true, Bool.or_eq_true, decide_eq_true_eq] at hc
  exact ih x hm _ ns' g' (hrest j x (fun h => hc ⟨by have := h.2; have h4 : 4 ≤ k ∧ k ≤ 5 := this; omega, h.1⟩) hx) hwx
theorem ok_law26_WitnessDuals (aw : Ok P F.law26_awake [] (.bool true)) (t : Ty) (ht : Lim t) (c : Int) (hc : -9223372036854775808 ≤ c ∧ c ≤ 9223372036854775807) (a : Int) (a0 : 0 ≤ a) (a1 : a ≤ 255) : Ok P F.law26_WitnessDuals [t.enc, i c, .int .u8 a] (.bool true) := by
 obtain ⟨a, rfl⟩ : ∃ n : Nat, a = n := ⟨a.toNat, by omega⟩
 obtain ⟨bf, hF, hz⟩ := ok_ref02_Few t ht 25 (by omega) (by omega)
 have cv : (Prim.conv .i64).ev [.int .u8 (a : Int)] = some (i (a : Int)) := by
  show some (PV.int .i64 (IntKind.i64.wrap a)) = _
  rw [wrap_in (by omega) (by omega)]
 refine k_law26_WitnessDuals _ _ rfl (d_l _ (e_okc (Ty.okc_enc t)) fun _ => d_call aw (d_l (.bool false) rfl fun _ => d_false (d_call hF (d_l (.bool !bf) rfl fun _ => d_ite (fun _ => d_call aw (d_ret rfl)) fun hb => ?_))))
 have hz := hz (by simpa using hb)
 obtain ⟨bs, hSi, hsi⟩ := ok_SimpleG t ht (by omega)
 refine d_call hSi (d_l (.bool !bs) rfl fun _ => d_ite (fun _ => d_call aw (d_ret rfl)) fun hb2 => ?_)
 obtain ⟨hw, hsm⟩ := hsi (by simpa using hb2)
 have hln : Ln t := (Wf.lm t [] 0 25 hw (by omega)).ln (by omega)
 have hD := ok_Dual14 t hln (by omega)
 have hDl : Lim (duT [] t) := Lim.du ht (fun b hb => by cases hb)
 have hDz : (duT [] t).sz ≤ 1000 := by rw [duT_sz t [] [] 0 hsm.pl hw]; omega
 obtain ⟨bs', hSi', hsi'⟩ := ok_SimpleG (duT [] t) hDl hDz
 refine d_call hD (d_l _ (e_okc (Ty.okc_enc _)) fun _ => d_call hSi' (d_l (.bool !bs') rfl fun _ => d_ite (fun _ => d_ret rfl) fun hb3 => ?_))
 obtain ⟨hw', hsm'⟩ := hsi' (by simpa using hb3)
 have o1 := ok_Trace hw (by omega) c hc a (by omega)
 have o2 := ok_Trace hw' hDz c hc a (by omega)
 obtain ⟨g1, _, R1, _⟩ := one_g hw (by omega)
 obtain ⟨g2, _, R2, _⟩ := one_g hw' (by omega)
 have lb : ∀ x : Ty, Wf x [] 0 → x.sz ≤ 1000 → (belowsF [x] 0 [] []).length ≤ 137438953472 := fun x hx hxz => by
  have := gcs_le [x]
  have hb := belows_len [x] [] 0 (fun y hy => by obtain rfl := List.mem_singleton.1 hy; exact hx) 0 [] []
  simp only [Ty.szs] at this
  omega
 have hfl := trc_dual (clOk g1 (lb t hw (by omega))) (clOk g2 (lb _ hw' hDz)) c a ⟨0, 0⟩ ⟨0, 0⟩ t (duT [] t) (rt_cl R1) (rt_cl R2) (sr_du t [] fun b hb => by cases hb) hsm hsm'
 rw [show closeD (belowsF [t] 0 [] []) = cg t from rfl, show closeD (belowsF [duT [] t] 0 [] []) = cg (duT [] t) from rfl] at hfl
 have l1 := trc_len (cg t) c a ⟨0, 0⟩
 generalize trc (cg t) c a ⟨0, 0⟩ = X at *
 generalize trc (cg (duT [] t)) c a ⟨0, 0⟩ = Y at *
 subst hfl
 have hlY : Prim.len.ev [.sl ((X.map Evt.flip).map Evt.enc)] = some (i (X.length : Int)) := by rw [e_len]; simp
 refine d_l _ cv fun _ => d_call o1 (d_l _ cv fun _ => d_call o2 (d_l _ (evt_len X) fun _ => d_l _ hlY fun _ => d_l (.bool (!decide ((X.length : Int) = (X.length : Int)))) rfl fun _ => d_ndec (fun h => absurd rfl h) fun _ => den_rounds (fun j => [i (j : Int)]) X.length rfl (fun j hj => ?_) ?_))
 ·have hY : ((X.map Evt.flip).map Evt.enc)[j]? = some (X[j]).flip.enc := by simp [hj]
  have hff : (Evt.enc ⟨!(X[j]).flip.plus, (X[j]).flip.lab, (X[j]).flip.k, (X[j]).flip.v⟩) = (X[j]).enc := by simp [Evt.flip]
  refine d_l _ (evt_len X) fun _ => d_l (.bool (decide ((j : Int) < (X.length : Int)))) rfl fun _ => d_dec (fun _ => d_l _ (e_idx hY (Evt.okc_enc _)) fun _ => d_l _ (e_okc (Evt.okc_enc _)) fun _ => d_l (.bool !(X[j]).flip.plus) rfl fun _ => d_l _ rfl fun _ => d_l _ (e_idx (evt_at hj) (Evt.okc_enc _)) fun _ => d_l (.bool false) (by
   show (Prim.acmp .neq [.i .i64, .b, .s, .i .i64, .s, .i .i64]).ev [(X[j]).enc, Evt.enc ⟨!(X[j]).flip.plus, (X[j]).flip.lab, (X[j]).flip.k, (X[j]).flip.v⟩] = _
   rw [hff]; exact evt_same _) fun _ => d_false (d_l _ (e_inc (by omega)) fun _ => d_cont rfl rfl)) fun h => absurd (by omega) h
 ·exact d_l _ (evt_len X) fun _ => d_l (.bool (decide ((X.length : Int) < (X.length : Int)))) rfl fun _ => d_dec (fun h => absurd h (by omega)) fun _ => d_ret rfl
end Go.Proofs.YtkpnmgohbipjjaaGreatDoor.Tx
