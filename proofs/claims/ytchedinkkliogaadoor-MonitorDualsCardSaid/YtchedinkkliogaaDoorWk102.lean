/- Contracts: a monitor observes; MonitorApart. -/
import Derived.Test.YtchedinkkliogaaDoorWk101
set_option linter.all false
namespace Go.Proofs.YtchedinkkliogaaDoor.Tx
open Go.Lf Go.Lf.S Go.Lf.Duo
set_option maxRecDepth 100000

theorem mu_set {us : List Ty} {w : Ty} (h : ∀ u ∈ us, Mu u) (hw : Mu w) (k : Nat) : ∀ u ∈ us.set k w, Mu u := by
  intro u hu
  rcases List.mem_or_eq_of_mem_set hu with hu | rfl
  · exact h u hu
  · exact hw

theorem Ty.c0 (t : Ty) : c 0 t.enc = i t.kind := by obtain ⟨a, b, c, d, e, f⟩ := t; rw [Ty.enc_mk]; rfl
theorem Ty.c4 (t : Ty) : c 4 t.enc = .sl (t.labels.map .str) := by obtain ⟨a, b, c, d, e, f⟩ := t; rw [Ty.enc_mk]; rfl
theorem Ty.c5 (t : Ty) : c 5 t.enc = .sl (t.kids.map Ty.enc) := by obtain ⟨a, b, c, d, e, f⟩ := t; rw [Ty.enc_mk]; rfl

theorem okS_Observe (e : Ev) (us : List Ty) (hm : ∀ u ∈ us, Mu u) (h1 : us.length ≤ 1000) :
    ∃ r us', Obs e us r us' ∧ OkS P F.monitor_Monitor_Observe sg_monitor_Monitor_Observe [e.enc, .sl (us.map Ty.enc)] [i r, .sl (us'.map Ty.enc)] ∧ (∀ u ∈ us', Mu u) := by
  have hh := ok_has us e.ch
  by_cases hr : 0 ≤ e.ch ∧ e.ch < (us.length : Int)
  case neg =>
    refine ⟨12, us, .arg hr, ?_, hm⟩
    rw [decide_eq_false hr] at hh
    exact m_monitor_Monitor_Observe _ _ (d_l e.enc rfl fun _ => d_call hh (d_l (.bool false) rfl fun _ => d_l (.bool true) rfl fun _ => d_true (d_ret rfl)))
  rw [decide_eq_true hr] at hh
  have hw := ok_want e
  obtain ⟨h0, hlt⟩ := hr
  generalize hk : e.ch.toNat = k at *
  have hch : e.ch = (k : Int) := by omega
  have hkl : k < us.length := by omega
  have htm := hm us[k] (List.getElem_mem hkl)
  have ht : us[e.ch.toNat]? = some us[k] := by rw [hk]; exact List.getElem?_eq_getElem hkl
  have hi : (Prim.idx 6 true).ev [.sl (us.map Ty.enc), c 0 e.enc] = some us[k].enc := by
    show (Prim.idx 6 true).ev [.sl (us.map Ty.enc), i e.ch] = _
    rw [hch]; exact e_idx (ty_at' hkl) (Ty.okc_enc _)
  have hset : ∀ w : Ty, (Prim.upd 6 true).ev [.sl (us.map Ty.enc), c 0 e.enc, w.enc] = some (.sl ((us.set k w).map Ty.enc)) := fun w => by
    show (Prim.upd 6 true).ev [.sl (us.map Ty.enc), i e.ch, w.enc] = _
    rw [hch, e_updT (by simpa using hkl) (Ty.okc_enc _), List.map_set]
  generalize us[k] = t at *
  obtain ⟨hmd, hun⟩ := htm
  have hsh := hmd.sh hun
  have hln : t.labels.length ≤ 549755813888 := by cases hmd.1 with | mk _ h _ _ => exact h
  have hcmp : (Prim.cmp .neq .i64).ev [c 0 t.enc, i (wantK e)] = some (.bool (!decide (t.kind = wantK e))) := by rw [Ty.c0]; rfl
  have pre : ∀ (r : Int) (us' : List Ty), (t.kind ≠ wantK e → r = 8 ∧ us' = us) → (t.kind = wantK e → (T.l (.scmp .neq) [(c 2 e.enc), (.str ⟨#[]⟩)] fun x9 =>
  .ite x9 (
   .call F.slices_Index_string_string [(c 4 t.enc), (c 2 e.enc)] fun x10 =>
   .l (.cmp .lss .i64) [x10, (i 0)] fun x11 =>
   .ite x11 (
    .ret (.tup [(i 9), .sl (us.map Ty.enc)])) (
    .l (.idx 6 true) [(c 5 t.enc), x10] fun x12 =>
    .call F.typetree_Unfold [x12] fun x13 =>
    .l (.idx 6 true) [.sl (us.map Ty.enc), (c 0 e.enc)] fun _ =>
    .l (.upd 6 true) [.sl (us.map Ty.enc), (c 0 e.enc), x13] fun x15 =>
    .ret (.tup [(i 0), x15]))) (
   .l (.idx 6 true) [(c 5 t.enc), (i 0)] fun x10 =>
   .call F.monitor_fits [(sb 3 3 e.enc), x10] fun x11 =>
   .l .bnot [x11] fun x12 =>
   .ite x12 (
    .ret (.tup [(i 8), .sl (us.map Ty.enc)])) (
    .l (.idx 6 true) [(c 5 t.enc), (i 1)] fun x13 =>
    .call F.typetree_Unfold [x13] fun x14 =>
    .l (.idx 6 true) [.sl (us.map Ty.enc), (c 0 e.enc)] fun _ =>
    .l (.upd 6 true) [.sl (us.map Ty.enc), (c 0 e.enc), x14] fun x16 =>
    .ret (.tup [(i 0), x16])))).den0 P (· = .tup [i r, .sl (us'.map Ty.enc)]) []) →
      OkS P F.monitor_Monitor_Observe sg_monitor_Monitor_Observe [e.enc, .sl (us.map Ty.enc)] [i r, .sl (us'.map Ty.enc)] := by
    intro r us' g1 g2
    refine m_monitor_Monitor_Observe _ _ (d_l e.enc rfl fun _ => d_call hh (d_l (.bool true) rfl fun _ => d_l (.bool false) rfl fun _ => d_false (d_l _ hi fun _ => d_l _ hi fun _ => d_l _ (e_okc (Ty.okc_enc t)) fun _ => d_call hw (d_l _ hcmp fun _ => d_ndec (p := t.kind = wantK e) (fun h => ?_) fun h => g2 h))))
    obtain ⟨rfl, rfl⟩ := g1 h
    exact d_ret rfl
  by_cases hK : t.kind = wantK e
  case neg => exact ⟨8, us, .kind h0 t ht hK, pre 8 us (fun _ => ⟨rfl, rfl⟩) fun h => absurd h hK, hm⟩
  have hlab : (Prim.scmp .neq).ev [c 2 e.enc, .str ⟨#[]⟩] = some (.bool (!decide (e.label = ⟨#[]⟩))) := rfl
  by_cases hL : e.label = ⟨#[]⟩
  · have hk5 : 4 ≤ t.kind ∧ t.kind ≤ 5 := by
      rw [hK]; unfold wantK; rw [if_pos hL]; split <;> omega
    have hl2 := hsh.n5 hk5
    obtain ⟨p0, p1, hp⟩ : ∃ a b, t.kids = [a, b] := by
      match hks : t.kids, hl2 with
      | [a, b], _ => exact ⟨a, b, rfl⟩
    have i0 : (Prim.idx 6 true).ev [c 5 t.enc, i 0] = some p0.enc := by rw [Ty.c5, hp]; exact e_idx (k := 0) rfl (Ty.okc_enc _)
    have i1 : (Prim.idx 6 true).ev [c 5 t.enc, i 1] = some p1.enc := by rw [Ty.c5, hp]; exact e_idx (k := 1) rfl (Ty.okc_enc _)
    have hf := ok_fits e.v p0
    cases hfk : fitK e.v.kind p0.kind with
    | false =>
      refine ⟨8, us, .nofit h0 t ht hK hL p0 (by rw [hp]; rfl) hfk, pre 8 us (fun h => absurd hK h) fun _ => ?_, hm⟩
      rw [hfk] at hf
      exact d_l _ hlab fun _ => d_ndec (p := e.label = ⟨#[]⟩) (fun h => absurd hL h) fun _ => d_l _ i0 fun _ => d_call hf (d_l (.bool true) rfl fun _ => d_true (d_ret rfl))
    | true =>
      have hmk : Md p1 := hmd.kid hun (by rw [hp]; simp)
      obtain ⟨w, hw1, hw2, hw3, _⟩ := hmk.unf
      refine ⟨0, us.set k w, by rw [← hk]; exact .fit h0 t ht hK hL p0 (by rw [hp]; rfl) hfk p1 w (by rw [hp]; rfl) hw1, pre 0 _ (fun h => absurd hK h) fun _ => ?_, mu_set hm ⟨hw2, hw3⟩ k⟩
      rw [hfk] at hf
      exact d_l _ hlab fun _ => d_ndec (p := e.label = ⟨#[]⟩) (fun h => absurd hL h) fun _ => d_l _ i0 fun _ => d_call hf (d_l (.bool false) rfl fun _ => d_false (d_l _ i1 fun _ => d_call (ok_tt_Unfold hw1 hmk.1 hmk.2.1) (d_l _ hi fun _ => d_l _ (hset w) fun _ => d_ret rfl)))
  · have hk7 : 6 ≤ t.kind ∧ t.kind ≤ 7 := by
      rw [hK]; unfold wantK; rw [if_neg hL]; split <;> omega
    have hl7 := hsh.n7 hk7
    obtain ⟨r, hix, hat⟩ := ok_slices_Index_string_string t.labels e.label hln
    have hix : Ok P F.slices_Index_string_string [c 4 t.enc, c 2 e.enc] (i r) := by rw [Ty.c4]; exact hix
    rcases hat with ⟨rfl, hno⟩ | ⟨j, rfl, hj, hfst⟩
    · refine ⟨9, us, .nolabel h0 t ht hK hL hno, pre 9 us (fun h => absurd hK h) fun _ => ?_, hm⟩
      exact d_l _ hlab fun _ => d_ndec (p := e.label = ⟨#[]⟩) (fun _ => d_call hix (d_l (.bool true) rfl fun _ => d_true (d_ret rfl))) fun h => absurd h hL
    · have hjl : j < t.kids.length := by rw [hl7]; exact (List.getElem?_eq_some_iff.1 hj).1
      have hmk : Md t.kids[j] := hmd.kid hun (List.getElem_mem hjl)
      obtain ⟨w, hw1, hw2, hw3, _⟩ := hmk.unf
      have ij : (Prim.idx 6 true).ev [c 5 t.enc, i (j : Int)] = some t.kids[j].enc := by rw [Ty.c5]; exact e_idx (ty_at' hjl) (Ty.okc_enc _)
      refine ⟨0, us.set k w, by rw [← hk]; exact .label h0 t ht hK hL j hj hfst _ w (List.getElem?_eq_getElem hjl) hw1, pre 0 _ (fun h => absurd hK h) fun _ => ?_, mu_set hm ⟨hw2, hw3⟩ k⟩
      exact d_l _ hlab fun _ => d_ndec (p := e.label = ⟨#[]⟩) (fun _ => d_call hix (d_l (.bool (decide ((j : Int) < 0))) rfl fun _ => d_dec (p := (j : Int) < 0) (fun h => by omega) fun _ => d_l _ ij fun _ => d_call (ok_tt_Unfold hw1 hmk.1 hmk.2.1) (d_l _ hi fun _ => d_l _ (hset w) fun _ => d_ret rfl))) fun h => absurd h hL

/-! ### the same type -/

theorem bneq_refl (x : Int) : (Prim.cmp .neq .i64).ev [i x, i x] = some (.bool false) := by
  show some (PV.bool (!decide (x = x))) = _
  simp
theorem sneq_refl (x : ByteArray) : (Prim.scmp .neq).ev [.str x, .str x] = some (.bool false) := by
  show some (PV.bool (!decide (x = x))) = _
  simp
theorem ok_texts_refl (l : List ByteArray) (hl : l.length ≤ 549755813888) : Ok P F.ref02_texts [.sl (l.map .str), .sl (l.map .str)] (.bool true) := by
  refine k_ref02_texts _ _ rfl (d_l (i ((l.map PV.str).length : Int)) e_len fun _ => d_l (i ((l.map PV.str).length : Int)) e_len fun _ => d_l _ (bneq_refl _) fun _ => d_false (den_rounds (fun j => [i j]) l.length rfl (fun j hj => ?_) ?_))
  · have he : (l.map PV.str)[j]? = some (.str l[j]) := by simp [hj]
    refine d_l _ e_len fun _ => d_l (.bool (decide ((j : Int) < ((l.map PV.str).length : Int)))) rfl fun _ => d_dec (p := (j : Int) < ((l.map PV.str).length : Int)) (fun _ => ?_) fun h => absurd (show (j : Int) < ((l.map PV.str).length : Int) by simp; omega) h
    exact d_l _ (e_idx he rfl) fun _ => d_l _ (e_idx he rfl) fun _ => d_l _ (sneq_refl _) fun _ => d_false (d_l _ (e_inc (by omega)) fun _ => d_cont rfl rfl)
  · refine d_l _ e_len fun _ => d_l (.bool (decide ((l.length : Int) < ((l.map PV.str).length : Int)))) rfl fun _ => d_dec (p := (l.length : Int) < ((l.map PV.str).length : Int)) (fun h => ?_) fun _ => d_ret rfl
    simp at h
theorem ok_Same_refl : ∀ t : Ty, Ln t → Ok P F.ref02_Same [t.enc, t.enc] (.bool true) := by
  intro t
  induction t using Ty.ind with
  | _ t ih =>
  intro h
  cases h with
  | mk _ h1 h2 h =>
  obtain ⟨kd, p, nm, s, ls, ks⟩ := t
  have h1 : ls.length ≤ 549755813888 := h1
  have h2 : ks.length ≤ 549755813888 := h2
  rw [Ty.enc_mk]
  refine k_ref02_Same _ _ rfl (d_l (.agg [i kd, i p, .str nm, i s, .sl (ls.map .str), .sl (ks.map Ty.enc)]) rfl fun _ => d_l (.agg [i kd, i p, .str nm, i s, .sl (ls.map .str), .sl (ks.map Ty.enc)]) rfl fun _ => d_l _ (bneq_refl _) fun _ => d_false (d_l _ (bneq_refl _) fun _ => d_false (d_l _ (sneq_refl _) fun _ => d_false (d_l _ (bneq_refl _) fun _ => d_false (d_call (ok_texts_refl ls h1) (d_l (.bool false) rfl fun _ => d_false (d_l (i ((ks.map Ty.enc).length : Int)) e_len fun _ => d_l (i ((ks.map Ty.enc).length : Int)) e_len fun _ => d_l _ (bneq_refl _) fun _ => d_false ?_)))))))
  refine den_rounds (fun j => [i j]) ks.length rfl (fun j hj => ?_) ?_
  · refine d_l (i ((ks.map Ty.enc).length : Int)) e_len fun _ => d_l (.bool (decide ((j : Int) < ((ks.map Ty.enc).length : Int)))) rfl fun _ => d_dec (p := (j : Int) < ((ks.map Ty.enc).length : Int)) (fun _ => ?_) fun h => absurd (show (j : Int) < ((ks.map Ty.enc).length : Int) by simp; omega) h
    exact d_l _ (e_idx (ty_at' hj) (Ty.okc_enc _)) fun _ => d_l _ (e_idx (ty_at' hj) (Ty.okc_enc _)) fun _ => d_call (ih _ (List.getElem_mem hj) (h _ (List.getElem_mem hj))) (d_l (.bool false) rfl fun _ => d_false (d_l _ (e_inc (by omega)) fun _ => d_cont rfl rfl))
  · refine d_l (i ((ks.map Ty.enc).length : Int)) e_len fun _ => d_l (.bool (decide ((ks.length : Int) < ((ks.map Ty.enc).length : Int)))) rfl fun _ => d_dec (p := (ks.length : Int) < ((ks.map Ty.enc).length : Int)) (fun h => ?_) fun _ => d_ret rfl
    simp at h

/-- right types, and few -/
theorem ok_ref21_Right (l : List Ty) (hlim : ∀ t ∈ l, Lim t) (hll : l.length ≤ 9223372036854775807) : ∃ b, Ok P F.ref21_Right [.sl (l.map Ty.enc)] (.bool b) ∧ (b = true → l.length ≤ 8 ∧ ∀ t ∈ l, (t.sz : Int) ≤ 25 ∧ Wf t [] 0) := by
  have := tx_ex (K := fun x => ∃ b, x = .bool b ∧ (b = true → l.length ≤ 8 ∧ ∀ t ∈ l, (t.sz : Int) ≤ 25 ∧ Wf t [] 0)) k_ref21_Right (xs := [.sl (l.map Ty.enc)]) rfl (by simp [t_ref21_Right, T.dt]) (by
    refine den_loop (fun m' ys => ∃ j : Nat, j + m' = 9 ∧ j ≤ l.length ∧ (∀ t ∈ l.take j, (t.sz : Int) ≤ 25 ∧ Wf t [] 0) ∧ ys = [i j]) 9 ⟨0, by omega, by omega, by simp, rfl⟩ ?_
    rintro m' _ ⟨j, hj, hjl, hdone, rfl⟩
    refine d_l (i ((l.map Ty.enc).length : Int)) e_len fun _ => d_l (.bool (decide ((j : Int) < ((l.map Ty.enc).length : Int)))) rfl fun _ => d_dec (p := (j : Int) < ((l.map Ty.enc).length : Int)) (fun h => ?_) fun h => ?_
    · have hlt : j < l.length := by simp at h; omega
      have hmem : l[j] ∈ l := List.getElem_mem hlt
      refine d_l (.bool (decide ((j : Int) ≤ 8))) rfl fun _ => d_dec (p := (j : Int) ≤ 8) (fun h8 => ?_) fun h8 => ?_
      · obtain ⟨b, hs, hb⟩ := ok_ref02_Small l[j] (hlim _ hmem) 25 (by omega) (by omega)
        have hse := ok_ref02_Session l[j]
        refine d_l _ (e_idx (ty_at' hlt) (Ty.okc_enc _)) fun _ => d_call hs (d_l (.bool (!b)) rfl fun _ => d_ite (fun _ => d_ret ⟨false, rfl, fun h => by cases h⟩) fun hb1 => ?_)
        refine d_l _ (e_idx (ty_at' hlt) (Ty.okc_enc _)) fun _ => d_call hse (d_l _ rfl fun _ => d_ite (fun _ => d_ret ⟨false, rfl, fun h => by cases h⟩) fun _ => d_l _ (e_inc (by omega)) fun _ => d_cont rfl ⟨m' - 1, by omega, j + 1, by omega, by omega, fun x hx => ?_, rfl⟩)
        rw [List.take_succ_eq_append_getElem hlt] at hx
        rcases List.mem_append.1 hx with hx | hx
        · exact hdone x hx
        · obtain rfl : x = l[j] := by simpa using hx
          exact hb (by simpa using hb1)
      · refine d_l (i ((l.map Ty.enc).length : Int)) e_len fun _ => d_l (.bool (decide (((l.map Ty.enc).length : Int) ≤ 8))) rfl fun _ => d_ret ⟨_, rfl, fun h => ?_⟩
        have := of_decide_eq_true h
        simp at this
        omega
    · have hjl' : ¬ j < l.length := by simp at h; omega
      refine d_l (i ((l.map Ty.enc).length : Int)) e_len fun _ => d_l (.bool (decide (((l.map Ty.enc).length : Int) ≤ 8))) rfl fun _ => d_ret ⟨_, rfl, fun h => ?_⟩
      have := of_decide_eq_true h
      have ht : l.take j = l := List.take_of_length_le (by omega)
      rw [ht] at hdone
      exact ⟨by simp at this; omega, hdone⟩)
  obtain ⟨_, ⟨b, rfl, hb⟩, h⟩ := this
  exact ⟨b, h, hb⟩

/-- what an event leaves -/
theorem Obs.apart {e : Ev} {us us' : List Ty} {r : Int} (h : Obs e us r us') : us'.length = us.length ∧ (r ≠ 0 → us' = us) ∧ (r = 0 → 0 ≤ e.ch ∧ e.ch < (us.length : Int) ∧ ∀ (j : Nat), (j : Int) ≠ e.ch → us'[j]? = us[j]?) := by
  have st : ∀ (t w : Ty), 0 ≤ e.ch → us[e.ch.toNat]? = some t → (us.set e.ch.toNat w).length = us.length ∧ ((0 : Int) ≠ 0 → us.set e.ch.toNat w = us) ∧ ((0 : Int) = 0 → 0 ≤ e.ch ∧ e.ch < (us.length : Int) ∧ ∀ (j : Nat), (j : Int) ≠ e.ch → (us.set e.ch.toNat w)[j]? = us[j]?) := fun t w h0 ht => by
    have := (List.getElem?_eq_some_iff.1 ht).1
    refine ⟨by simp, fun h => absurd rfl h, fun _ => ⟨h0, by omega, fun j hj => ?_⟩⟩
    rw [List.getElem?_set_ne (by omega)]
  cases h with
  | arg h => exact ⟨rfl, fun _ => rfl, fun h => by cases h⟩
  | kind h0 t ht h => exact ⟨rfl, fun _ => rfl, fun h => by cases h⟩
  | nolabel h0 t ht h hl hm => exact ⟨rfl, fun _ => rfl, fun h => by cases h⟩
  | label h0 t ht h hl j hj hf k w hk hw => exact st t w h0 ht
  | nofit h0 t ht h hl p hp hn => exact ⟨rfl, fun _ => rfl, fun h => by cases h⟩
  | fit h0 t ht h hl p hp hn k w hk hw => exact st t w h0 ht

theorem ok_law21_MonitorApart (aw : Ok P F.law21_awake [] (.bool true)) (l : List Ty) (e : Ev) (hlim : ∀ t ∈ l, Lim t) (hll : l.length ≤ 9223372036854775807) : Ok P F.law21_MonitorApart [.sl (l.map Ty.enc), e.enc] (.bool true) := by
  obtain ⟨b, hb, hw⟩ := ok_ref21_Right l hlim hll
  refine k_law21_MonitorApart _ _ rfl (d_l e.enc rfl fun _ => d_call aw (d_l (.bool false) rfl fun _ => d_false (d_call hb (d_l (.bool !b) rfl fun _ => d_ite (fun _ => d_call aw (d_ret rfl)) fun h1 => ?_))))
  obtain ⟨hl8, hwf⟩ := hw (by simpa using h1)
  have hmd : ∀ t ∈ l, Md t := fun t ht => md_top (hwf t ht).2 (hlim t ht) (by have := (hwf t ht).1; omega)
  obtain ⟨us, hU, hM⟩ := unfL_ex l hmd
  have hul : us.length = l.length := hU.1
  obtain ⟨r, us', hO, hok, hM'⟩ := okS_Observe e us hM (by omega)
  obtain ⟨a1, a2, a3⟩ := hO.apart
  have hln : ∀ u ∈ us, Ln u := fun u hu => (hM u hu).1.1
  have hln' : ∀ u ∈ us', Ln u := fun u hu => (hM' u hu).1.1
  have len_ : ∀ ws : List Ty, ws.length = l.length → Prim.len.ev [.sl (ws.map Ty.enc)] = some (i (l.length : Int)) := fun ws h => by
    rw [e_len]; simp [h]
  refine d_calls rfl (okS_New l us hU hmd (by omega)) (d_calls rfl (okS_states us (by omega) hln) (d_calls rfl hok (d_calls rfl (okS_states us' (by omega) hln') ?_)))
  refine d_l _ (len_ us hul) fun _ => d_l _ (len_ l rfl) fun _ => d_l _ (bneq_refl _) fun _ => d_false (d_l _ (len_ us' (by omega)) fun _ => d_l _ (len_ l rfl) fun _ => d_l _ (bneq_refl _) fun _ => d_false ?_)
  refine den_rounds (fun j => [i j]) l.length rfl (fun j hj => ?_) ?_
  · refine d_l _ (len_ l rfl) fun _ => d_l (.bool (decide ((j : Int) < (l.length : Int)))) rfl fun _ => d_dec (p := (j : Int) < (l.length : Int)) (fun _ => ?_) fun h => by omega
    have hju : j < us.length := by omega
    have hju' : j < us'.length := by omega
    have same : us'[j] = us[j] → (T.l (.idx 6 true) [.sl (us.map Ty.enc), i j] fun x19 =>
        .l (.idx 6 true) [.sl (us'.map Ty.enc), i j] fun x20 =>
        .call F.ref02_Same [x19, x20] fun x21 =>
        .l .bnot [x21] fun x22 =>
        .ite x22 (.ret (.bool false)) (.l (.arith .add .i64) [i j, i 1] fun x23 => .cont 0 [x23])).den0 P (· = .bool true) ([] ++ [fun zs => zs = [i ((j + 1 : Nat) : Int)]]) := fun hs => by
      refine d_l _ (e_idx (ty_at' hju) (Ty.okc_enc _)) fun _ => d_l _ (e_idx (ty_at' hju') (Ty.okc_enc _)) fun _ => ?_
      rw [hs]
      exact d_call (ok_Same_refl _ (hln _ (List.getElem_mem hju))) (d_l (.bool false) rfl fun _ => d_false (d_l _ (e_inc (by omega)) fun _ => d_cont rfl rfl))
    refine d_l (.bool (!decide ((j : Int) = e.ch))) rfl fun _ => d_ndec (p := (j : Int) = e.ch) (fun hne => same ?_) fun heq => ?_
    · by_cases hr : r = 0
      · have := (a3 hr).2.2 j hne
        rw [List.getElem?_eq_getElem hju', List.getElem?_eq_getElem hju] at this
        exact Option.some.inj this
      · have := a2 hr
        subst this; rfl
    · refine d_l (.bool (!decide (r = 0))) rfl fun _ => d_ndec (p := r = 0) (fun hr => same ?_) fun hr => d_l _ (e_inc (by omega)) fun _ => d_cont rfl rfl
      have := a2 hr
      subst this; rfl
  · refine d_l _ (len_ l rfl) fun _ => d_l (.bool (decide ((l.length : Int) < (l.length : Int)))) rfl fun _ => d_dec (p := (l.length : Int) < (l.length : Int)) (fun h => by omega) fun _ => ?_
    refine d_l (.bool (!decide (r = 0))) rfl fun _ => d_ndec (p := r = 0) (fun _ => d_ret rfl) fun hr => ?_
    obtain ⟨h0, h1, _⟩ := a3 hr
    refine d_l (.bool (decide (0 ≤ e.ch))) rfl fun _ => d_dec (p := 0 ≤ e.ch) (fun _ => ?_) fun h => absurd h0 h
    refine d_l _ (len_ l rfl) fun _ => d_l (.bool (decide (e.ch < (l.length : Int)))) rfl fun _ => d_ret ?_
    rw [decide_eq_true (by omega)]
end Go.Proofs.YtchedinkkliogaaDoor.Tx
