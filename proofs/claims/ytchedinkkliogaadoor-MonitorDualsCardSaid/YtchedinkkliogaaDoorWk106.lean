/- Contracts: the reference observes; types blown up; a monitor settled. -/
import Derived.Test.YtchedinkkliogaaDoorWk105
set_option linter.all false
namespace Go.Proofs.YtchedinkkliogaaDoor.Tx
open Go.Lf Go.Lf.S Go.Lf.Duo
set_option maxRecDepth 100000

/-- the end of the reference's Observe -/
abbrev obt (lv x6 x0 : PV) (a0 : Int) : T PV :=
  .loop [(i 0), (i a0)] fun y19 =>
  .l .len [(c 4 x6)] fun x20 =>
  .l (.cmp .lss .i64) [(n y19 0), x20] fun x21 =>
  .ite x21 (
   .l (.idx 1 false) [(c 4 x6), (n y19 0)] fun x22 =>
   .l (.scmp .eql) [x22, (c 2 x0)] fun x23 =>
   .ite x23 (
    .l (.arith .add .i64) [(n y19 0), (i 1)] fun x24 =>
    .cont 0 [x24, (n y19 0)]) (
    .l (.arith .add .i64) [(n y19 0), (i 1)] fun x24 =>
    .cont 0 [x24, (n y19 1)])) (
   .l (.cmp .lss .i64) [(n y19 1), (i 0)] fun x22 =>
   .ite x22 (
    .ret (.tup [lv, (i 9)])) (
    .l (.lst 6 true) [] fun x23 =>
    .l (.app 6 true 88) [x23, lv] fun x24 =>
    .l (.idx 6 true) [(c 5 x6), (n y19 1)] fun x25 =>
    .l (.idx 6 true) [x24, (c 0 x0)] fun _ =>
    .l (.upd 6 true) [x24, (c 0 x0), x25] fun x27 =>
    .ret (.tup [x27, (i 0)])))

theorem obt_den {K : PV → Prop} {l : List Ty} {t : Ty} {e : Ev} {k : Nat} (hk : e.ch = (k : Int)) (hkl : k < l.length) (hl : l.length ≤ 1000) (hln : t.labels.length ≤ 549755813888) {a0 : Int}
    (hA : (a0 = 1 ∧ t.kids.length = 2 ∧ t.labels.length = 0) ∨ (a0 = -1 ∧ t.kids.length = t.labels.length)) (hK1 : K (.tup [.sl (l.map Ty.enc), i 9])) (hK2 : ∀ x ∈ t.kids, K (.tup [.sl ((l.set k x).map Ty.enc), i 0])) :
    (obt (.sl (l.map Ty.enc)) t.enc e.enc a0).den0 P K [] := by
  refine den_loop (fun m ys => ∃ (j : Nat) (a : Int), j + m = t.labels.length ∧ ys = [i j, i a] ∧ (a = a0 ∨ ∃ q : Nat, q < t.labels.length ∧ a = q)) t.labels.length ⟨0, a0, by omega, rfl, .inl rfl⟩ ?_
  rintro m _ ⟨j, a, hj, rfl, ha⟩
  have h4 : Prim.len.ev [c 4 t.enc] = some (i (t.labels.length : Int)) := by rw [Ty.c4, e_len]; simp
  refine d_l _ h4 fun _ => d_l (.bool (decide ((j : Int) < (t.labels.length : Int)))) rfl fun _ => d_dec (p := (j : Int) < (t.labels.length : Int)) (fun h => ?_) fun h => ?_
  · have hjl : j < t.labels.length := by omega
    have hix : (Prim.idx 1 false).ev [c 4 t.enc, i (j : Int)] = some (.str t.labels[j]) := by
      rw [Ty.c4]; exact e_idx (by simp [hjl]) rfl
    refine d_l _ hix fun _ => d_l (.bool (decide (t.labels[j] = e.label))) rfl fun _ => d_ite (fun _ => ?_) fun _ => ?_
    · exact d_l _ (e_inc (by omega)) fun _ => d_cont rfl ⟨m - 1, by omega, j + 1, j, by omega, rfl, .inr ⟨j, hjl, rfl⟩⟩
    · exact d_l _ (e_inc (by omega)) fun _ => d_cont rfl ⟨m - 1, by omega, j + 1, a, by omega, rfl, ha⟩
  · refine d_l (.bool (decide (a < 0))) rfl fun _ => d_dec (p := a < 0) (fun h => d_ret hK1) fun h => ?_
    obtain ⟨q, hq, rfl⟩ : ∃ q : Nat, q < t.kids.length ∧ a = q := by
      rcases ha with ha | ⟨q, hq, ha⟩
      · rcases hA with ⟨h1, h2, _⟩ | ⟨h1, _⟩
        · exact ⟨1, by omega, by omega⟩
        · omega
      · rcases hA with ⟨h1, h2, h3⟩ | ⟨h1, h2⟩
        · omega
        · exact ⟨q, by omega, ha⟩
    have hix : (Prim.idx 6 true).ev [c 5 t.enc, i (q : Int)] = some t.kids[q].enc := by rw [Ty.c5]; exact e_idx (ty_at' hq) (Ty.okc_enc _)
    have hil : (Prim.idx 6 true).ev [.sl (l.map Ty.enc), c 0 e.enc] = some l[k].enc := by
      show (Prim.idx 6 true).ev [.sl (l.map Ty.enc), i e.ch] = _
      rw [hk]; exact e_idx (ty_at' hkl) (Ty.okc_enc _)
    have hup : (Prim.upd 6 true).ev [.sl (l.map Ty.enc), c 0 e.enc, t.kids[q].enc] = some (.sl ((l.set k t.kids[q]).map Ty.enc)) := by
      show (Prim.upd 6 true).ev [.sl (l.map Ty.enc), i e.ch, t.kids[q].enc] = _
      rw [hk, e_updT (by simpa using hkl) (Ty.okc_enc _), List.map_set]
    exact d_l (.sl []) rfl fun _ => d_l (.sl (l.map Ty.enc)) (by
      have := e_app (n := 6) (a := true) (b := 88) (l := []) (m := l.map Ty.enc) (all_map Ty.okc_enc l) (by simp; omega) (by simp; omega)
      rwa [List.nil_append] at this) fun _ => d_l _ hix fun _ => d_l _ hil fun _ => d_l _ hup fun _ => d_ret (hK2 _ (List.getElem_mem hq))

theorem ok_ref21_Observe (l : List Ty) (e : Ev) (hm : ∀ t ∈ l, Md t) (hl : l.length ≤ 1000) : ∃ (l' : List Ty) (r : Int), Ok P F.ref21_Observe [.sl (l.map Ty.enc), e.enc] (.tup [.sl (l'.map Ty.enc), i r]) ∧ l'.length = l.length ∧ ∀ t ∈ l', Md t := by
  have := tx_ex (K := fun x => ∃ (l' : List Ty) (r : Int), x = .tup [.sl (l'.map Ty.enc), i r] ∧ l'.length = l.length ∧ ∀ t ∈ l', Md t) k_ref21_Observe (xs := [.sl (l.map Ty.enc), e.enc]) rfl (by simp [t_ref21_Observe, T.dt]) (by
    have same : ∀ r : Int, ∃ (l' : List Ty) (r' : Int), PV.tup [.sl (l.map Ty.enc), i r] = .tup [.sl (l'.map Ty.enc), i r'] ∧ l'.length = l.length ∧ ∀ t ∈ l', Md t := fun r => ⟨l, r, rfl, rfl, hm⟩
    refine d_l e.enc rfl fun _ => d_l (.bool (decide (e.ch < 0))) rfl fun _ => d_dec (p := e.ch < 0) (fun _ => d_ret (same 12)) fun h0 => d_l (i ((l.map Ty.enc).length : Int)) e_len fun _ => d_l (.bool (decide (((l.map Ty.enc).length : Int) ≤ e.ch))) rfl fun _ => d_dec (p := ((l.map Ty.enc).length : Int) ≤ e.ch) (fun _ => d_ret (same 12)) fun h1 => ?_
    obtain ⟨k, hk⟩ : ∃ k : Nat, e.ch = k := ⟨e.ch.toNat, by omega⟩
    have hkl : k < l.length := by simp at h1; omega
    have hil : (Prim.idx 6 true).ev [.sl (l.map Ty.enc), c 0 e.enc] = some l[k].enc := by
      show (Prim.idx 6 true).ev [.sl (l.map Ty.enc), i e.ch] = _
      rw [hk]; exact e_idx (ty_at' hkl) (Ty.okc_enc _)
    have hmk := hm l[k] (List.getElem_mem hkl)
    obtain ⟨t, hU, hmt, hun, hsh⟩ := hmk.unf
    have hln : t.labels.length ≤ 549755813888 := by cases hmt.1 with | mk _ h _ _ => exact h
    have hset : ∀ x ∈ t.kids, ∃ (l' : List Ty) (r' : Int), PV.tup [.sl ((l.set k x).map Ty.enc), i 0] = .tup [.sl (l'.map Ty.enc), i r'] ∧ l'.length = l.length ∧ ∀ t ∈ l', Md t := fun x hx => by
      refine ⟨l.set k x, 0, rfl, by simp, fun y hy => ?_⟩
      rcases List.mem_or_eq_of_mem_set hy with hy | rfl
      · exact hm y hy
      · exact hmt.kid hun hx
    have tail := fun (a0 : Int) (hA : (a0 = 1 ∧ t.kids.length = 2 ∧ t.labels.length = 0) ∨ (a0 = -1 ∧ t.kids.length = t.labels.length)) => obt_den (K := fun x => ∃ (l' : List Ty) (r : Int), x = .tup [.sl (l'.map Ty.enc), i r] ∧ l'.length = l.length ∧ ∀ t ∈ l', Md t) hk hkl hl hln hA (same 9) hset
    have hc0 : ∀ v : Int, (Prim.cmp .neq .i64).ev [c 0 t.enc, i v] = some (.bool (!decide (t.kind = v))) := fun v => by rw [Ty.c0]; rfl
    have hlab : (Prim.scmp .neq).ev [c 2 e.enc, .str ⟨#[]⟩] = some (.bool (!decide (e.label = ⟨#[]⟩))) := rfl
    have hlab' : (Prim.scmp .eql).ev [c 2 e.enc, .str ⟨#[]⟩] = some (.bool (decide (e.label = ⟨#[]⟩))) := rfl
    refine d_l _ hil fun _ => d_call (ok_ref02_Unfold hU hmk.1) (d_l _ (e_okc (Ty.okc_enc t)) fun _ => d_l _ hlab fun _ => ?_)
    by_cases hL : e.label = ⟨#[]⟩
    · refine d_ndec (p := e.label = ⟨#[]⟩) (fun h => absurd hL h) fun _ => ?_
      have pay : 4 ≤ t.kind ∧ t.kind ≤ 5 → ∃ p0 p1, t.kids = [p0, p1] := fun h => by
        have h2 := hsh.n5 h
        match hks : t.kids, h2 with
        | [a, b], _ => exact ⟨a, b, rfl⟩
      have tl := fun (h : 4 ≤ t.kind ∧ t.kind ≤ 5) => tail 1 (.inl ⟨rfl, hsh.n5 h, hsh.l5 h⟩)
      refine d_l (.bool (!e.plus)) rfl fun _ => d_ite (fun _ => ?_) fun _ => ?_
      · refine d_l (i 5) rfl fun _ => d_l _ (hc0 5) fun _ => d_ndec (p := t.kind = 5) (fun _ => d_ret (same 8)) fun h5 => d_l _ hlab' fun _ => d_dec (p := e.label = ⟨#[]⟩) (fun _ => ?_) fun h => absurd hL h
        have tl := tl (by omega)
        obtain ⟨p0, p1, hp⟩ := pay (by omega)
        have hi0 : (Prim.idx 6 true).ev [c 5 t.enc, i 0] = some p0.enc := by rw [Ty.c5, hp]; exact e_idx (k := 0) rfl (Ty.okc_enc _)
        obtain ⟨pa, pb, pc, pd, pe, pf⟩ := p0
        rw [Ty.enc_mk] at hi0
        refine d_l _ hi0 fun _ => ?_
        repeat' first
          | exact tl
          | exact d_ret (same 8)
          | refine d_l _ rfl fun _ => ?_
          | refine d_ite (fun _ => ?_) (fun _ => ?_)
      · refine d_l _ (hc0 4) fun _ => d_ndec (p := t.kind = 4) (fun _ => d_ret (same 8)) fun h5 => d_l _ hlab' fun _ => d_dec (p := e.label = ⟨#[]⟩) (fun _ => ?_) fun h => absurd hL h
        have tl := tl (by omega)
        obtain ⟨p0, p1, hp⟩ := pay (by omega)
        have hi0 : (Prim.idx 6 true).ev [c 5 t.enc, i 0] = some p0.enc := by rw [Ty.c5, hp]; exact e_idx (k := 0) rfl (Ty.okc_enc _)
        obtain ⟨pa, pb, pc, pd, pe, pf⟩ := p0
        rw [Ty.enc_mk] at hi0
        refine d_l _ hi0 fun _ => ?_
        repeat' first
          | exact tl
          | exact d_ret (same 8)
          | refine d_l _ rfl fun _ => ?_
          | refine d_ite (fun _ => ?_) (fun _ => ?_)
    · refine d_ndec (p := e.label = ⟨#[]⟩) (fun _ => ?_) fun h => absurd h hL
      have tl := fun (h : 6 ≤ t.kind ∧ t.kind ≤ 7) => tail (-1) (.inr ⟨rfl, hsh.n7 h⟩)
      refine d_l (.bool (!e.plus)) rfl fun _ => d_ite (fun _ => ?_) fun _ => ?_
      · exact d_l (i 7) rfl fun _ => d_l _ (hc0 7) fun _ => d_ndec (p := t.kind = 7) (fun _ => d_ret (same 8)) fun h5 => d_l _ hlab' fun _ => d_dec (p := e.label = ⟨#[]⟩) (fun h => absurd h hL) fun _ => tl (by omega)
      · exact d_l _ (hc0 6) fun _ => d_ndec (p := t.kind = 6) (fun _ => d_ret (same 8)) fun h5 => d_l _ hlab' fun _ => d_dec (p := e.label = ⟨#[]⟩) (fun h => absurd h hL) fun _ => tl (by omega))
  obtain ⟨_, ⟨l', r, rfl, h1, h2⟩, h⟩ := this
  exact ⟨l', r, h, h1, h2⟩

theorem ok_Blown (l : List Ty) (hm : ∀ t ∈ l, Md t) (hl : l.length ≤ 1000) : ∃ b, Ok P F.ref21_Blown [.sl (l.map Ty.enc)] (.bool b) := by
  have := tx_ex (K := fun x => ∃ b, x = .bool b) k_ref21_Blown (xs := [.sl (l.map Ty.enc)]) rfl (by simp [t_ref21_Blown, T.dt]) (by
    refine den_loop (fun m' ys => ∃ j : Nat, j + m' = l.length ∧ ys = [i j]) l.length ⟨0, by omega, rfl⟩ ?_
    rintro m' _ ⟨j, hj, rfl⟩
    refine d_l (i ((l.map Ty.enc).length : Int)) e_len fun _ => d_l (.bool (decide ((j : Int) < ((l.map Ty.enc).length : Int)))) rfl fun _ => d_dec (p := (j : Int) < ((l.map Ty.enc).length : Int)) (fun h => ?_) fun h => d_ret ⟨false, rfl⟩
    have hlt : j < l.length := by simp at h; omega
    have hmj := hm _ (List.getElem_mem hlt)
    obtain ⟨u, hU, hmu, _⟩ := hmj.unf
    obtain ⟨b, hb, _⟩ := ok_ref02_Few u hmu.2.2.1 2000 (by omega) (by omega)
    exact d_l _ (e_idx (ty_at' hlt) (Ty.okc_enc _)) fun _ => d_call (ok_ref02_Unfold hU hmj.1) (d_call hb (d_l (.bool (!b)) rfl fun _ => d_ite (fun _ => d_ret ⟨true, rfl⟩) fun _ => d_l _ (e_inc (by omega)) fun _ => d_cont rfl ⟨m' - 1, by omega, j + 1, by omega, rfl⟩)))
  obtain ⟨_, ⟨b, rfl⟩, h⟩ := this
  exact ⟨b, h⟩

theorem ok_Settled1 (t : Ty) : Ok P F.monitor_Monitor_Settled_1 [t.enc] (.bool (!decide (t.kind = 3))) := by
  refine k_monitor_Monitor_Settled_1 _ _ rfl (d_l _ (e_okc (Ty.okc_enc t)) fun _ => d_l (.bool (!decide (t.kind = 3))) (by show (Prim.cmp .neq .i64).ev [c 0 t.enc, i 3] = _; rw [Ty.c0]; rfl) fun _ => d_ret rfl)
theorem ok_Settled (us : List Ty) (hl : us.length ≤ 1000) : Ok P F.monitor_Monitor_Settled [mb us] (.bool (us.all fun u => decide (u.kind = 3))) := by
  have hI : ∃ r : Int, Ok P F.slices_IndexFunc_api_Type_api_Type [.sl (us.map Ty.enc), .fn F.monitor_Monitor_Settled_1 [] []] (i r) ∧ ((0 ≤ r) ↔ (us.all fun u => decide (u.kind = 3)) = false) := by
    have := tx_ex (K := fun x => ∃ r : Int, x = i r ∧ ((0 ≤ r) ↔ (us.all fun u => decide (u.kind = 3)) = false)) k_slices_IndexFunc_api_Type_api_Type (xs := [.sl (us.map Ty.enc), .fn F.monitor_Monitor_Settled_1 [] []]) rfl (by simp [t_slices_IndexFunc_api_Type_api_Type, T.dt]) (by
      refine d_l (i ((us.map Ty.enc).length : Int)) e_len fun _ => den_loop (fun m' ys => ∃ j : Nat, j + m' = us.length ∧ (∀ u ∈ us.take j, u.kind = 3) ∧ ys = [i j]) us.length ⟨0, by omega, by simp, rfl⟩ ?_
      rintro m' _ ⟨j, hj, hd, rfl⟩
      refine d_l (.bool (decide ((j : Int) < ((us.map Ty.enc).length : Int)))) rfl fun _ => d_dec (p := (j : Int) < ((us.map Ty.enc).length : Int)) (fun h => ?_) fun h => d_ret ⟨-1, rfl, ?_⟩
      · have hlt : j < us.length := by simp at h; omega
        refine d_l _ (e_idx (ty_at' hlt) (Ty.okc_enc _)) fun _ => d_callv (ok_Settled1 us[j]) (d_ndec (p := us[j].kind = 3) (fun h3 => d_ret ⟨j, rfl, ?_⟩) fun h3 => d_l _ (e_inc (by omega)) fun _ => d_cont rfl ⟨m' - 1, by omega, j + 1, by omega, fun u hu => ?_, rfl⟩)
        · refine ⟨fun _ => ?_, fun _ => by omega⟩
          rw [List.all_eq_false]
          exact ⟨us[j], List.getElem_mem hlt, by simpa using h3⟩
        · rw [List.take_succ_eq_append_getElem hlt] at hu
          rcases List.mem_append.1 hu with hu | hu
          · exact hd u hu
          · obtain rfl : u = us[j] := by simpa using hu
            exact h3
      · have ht : us.take j = us := List.take_of_length_le (by simp at h; omega)
        rw [ht] at hd
        refine ⟨fun h => by omega, fun h => ?_⟩
        rw [List.all_eq_false] at h
        obtain ⟨u, hu, h⟩ := h
        exact absurd (hd u hu) (by simpa using h))
    obtain ⟨_, ⟨r, rfl, h1⟩, h⟩ := this
    exact ⟨r, h, h1⟩
  obtain ⟨r, hr, hiff⟩ := hI
  have hC : Ok P F.slices_ContainsFunc_api_Type_api_Type [.sl (us.map Ty.enc), .fn F.monitor_Monitor_Settled_1 [] []] (.bool (decide (0 ≤ r))) :=
    k_slices_ContainsFunc_api_Type_api_Type _ _ rfl (d_call hr (d_l (.bool (decide (0 ≤ r))) rfl fun _ => d_ret rfl))
  refine k_monitor_Monitor_Settled _ _ rfl (d_l (.bool true) rfl fun _ => d_true (d_l (mb us) rfl fun _ => d_l (.agg [.sl (us.map Ty.enc)]) rfl fun _ => d_call hC (d_l (.bool (!decide (0 ≤ r))) rfl fun _ => d_ret ?_)))
  cases ha : us.all fun u => decide (u.kind = 3) with
  | false => rw [decide_eq_true (hiff.2 ha)]; rfl
  | true => rw [decide_eq_false (fun h => by rw [hiff.1 h] at ha; cases ha)]; rfl
end Go.Proofs.YtchedinkkliogaaDoor.Tx
