/- Contracts: typetree.mapped, Copy, Raise, replace, Unfold: exactly. -/
import Derived.Test.YtchedinkkliogaaDoorWk45
set_option linter.all false
namespace Go.Proofs.YtchedinkkliogaaDoor.Tx
open Go.Lf Go.Lf.S Go.Lf.Duo
set_option maxRecDepth 100000

/-- priorities are numbers of the machine, and a recursive type has one body -/
inductive Pk : Ty → Prop
  | mk (t : Ty) (hp : IntKind.i64.wrap t.prio = t.prio) (h8 : t.kind = 8 → t.kids.length = 1) (h : ∀ k ∈ t.kids, Pk k) : Pk t
theorem ad_pk {p : Int} (h : IntKind.i64.wrap p = p) : ad p 0 = p := by unfold ad; rw [Int.add_zero]; exact h
theorem wrap_ww (x : Int) : IntKind.i64.wrap (IntKind.i64.wrap x) = IntKind.i64.wrap x := by
  simp only [IntKind.wrap, IntKind.signed, IntKind.bits]; simp; omega
theorem Pk.raise0 : ∀ {t : Ty}, Pk t → raiseT 0 t = t := by
  intro t
  induction t using Ty.ind with
  | _ t ih =>
  intro h
  cases h with
  | mk _ hp h8 h =>
  obtain ⟨kd, p, nm, s, ls, ks⟩ := t
  have hp : IntKind.i64.wrap p = p := hp
  rw [raiseT_mk]
  congr 1
  · split
    · exact ad_pk hp
    · rfl
  · conv => rhs; rw [← List.map_id ks]
    exact List.map_congr_left fun x hx => ih x hx (h x hx)
theorem Pk.raise {k : Int} : ∀ {t : Ty}, Pk t → Pk (raiseT k t) := by
  intro t
  induction t using Ty.ind with
  | _ t ih =>
  intro h
  cases h with
  | mk _ hp h8 h =>
  obtain ⟨kd, p, nm, s, ls, ks⟩ := t
  have hp : IntKind.i64.wrap p = p := hp
  rw [raiseT_mk]
  refine .mk _ ?_ (fun e => by show (ks.map (raiseT k)).length = 1; rw [List.length_map]; exact h8 e) fun x hx => ?_
  · show IntKind.i64.wrap (if 4 ≤ kd ∧ kd ≤ 7 then ad p k else p) = if 4 ≤ kd ∧ kd ≤ 7 then ad p k else p
    split
    · exact wrap_ww _
    · exact hp
  · obtain ⟨y, hy, rfl⟩ := List.mem_map.1 hx
    exact ih y hy (h y hy)
theorem Pk.put {x : ByteArray} {b : Ty} (hb : Pk b) : ∀ {t : Ty}, Pk t → Pk (putT x b t) := by
  intro t
  induction t using Ty.ind with
  | _ t ih =>
  intro h
  have h' := h
  cases h with
  | mk _ hp h8 h =>
  obtain ⟨kd, p, nm, s, ls, ks⟩ := t
  have hp : IntKind.i64.wrap p = p := hp
  unfold putT
  split
  · exact hb.raise
  · split
    · exact h'.raise
    · rw [putTs_eq]
      refine .mk _ ?_ (fun e => by show (ks.map (putT x b)).length = 1; rw [List.length_map]; exact h8 e) fun y hy => ?_
      · show IntKind.i64.wrap (if 4 ≤ kd ∧ kd ≤ 7 then ad p 0 else p) = if 4 ≤ kd ∧ kd ≤ 7 then ad p 0 else p
        split
        · exact wrap_ww _
        · exact hp
      · obtain ⟨z, hz, rfl⟩ := List.mem_map.1 hy
        exact ih z hz (h z hz)
theorem Pk.unf {t u : Ty} (h : Unf t u) : Pk t → Pk u := by
  induction h with
  | done t h => exact Pk.raise
  | step t k u r h hk hu ih =>
    intro hl
    have hk' : Pk k := by
      cases hl with
      | mk _ _ _ h => exact h k (by rw [hk]; exact List.mem_cons_self)
    exact ih (Pk.put hl hk')
theorem Ln.unf {t u : Ty} (h : Unf t u) : Ln t → Ln u := by
  induction h with
  | done t h => exact Ln.raise
  | step t k u r h hk hu ih =>
    intro hl
    have hk' : Ln k := by
      cases hl with
      | mk _ _ _ h => exact h k (by rw [hk]; exact List.mem_cons_self)
    exact ih (Ln.put hl hk')
theorem Wf.pk : ∀ {t : Ty} {ns : List ByteArray} {g : Nat}, Wf t ns g → Pk t := by
  intro t
  induction t using Ty.ind with
  | _ t ih =>
  intro ns g h
  cases h with
  | mk _ _ _ h1 h9 h8 hk =>
  have hp := h1.1.2.1
  have h8k := h1.1.2.2.2.2.2.1
  refine .mk _ (wrap_in (by omega) (by omega)) (fun e => (h8k e).1) fun k hkm => ?_
  by_cases e : t.kind = 8
  · exact ih k hkm (h8 e k hkm)
  · exact ih k hkm (hk e k hkm)

theorem ok_clone21 (l : List ByteArray) (hl : l.length ≤ 549755813888) : Ok P F.slices_Clone_string_string [.sl (l.map .str)] (.sl (l.map .str)) :=
  k_slices_Clone_string_string _ _ rfl (d_nilq (fun h => d_ret (by rw [h])) (d_l (.sl []) rfl fun _ => d_l _ (e_app (l := []) (m := l.map .str) (all_map okc_str _) (by simp; omega) (by simp; omega)) fun _ => d_ret (by rw [List.nil_append])))

theorem ok_tt_mapped (kd p : Int) (nm : ByteArray) (s : Int) (ls : List ByteArray) (ks : List Ty) (g : Nat) (fs cs : List PV) (F' : Ty → Ty) (h1 : ls.length ≤ 549755813888) (h2 : ks.length ≤ 549755813888) (hf : ∀ k ∈ ks, Ok P g (fs ++ [k.enc] ++ cs) (F' k).enc) :
    Ok P F.typetree_mapped [(Ty.mk kd p nm s ls ks).enc, .fn g fs cs] (Ty.mk kd p nm s ls (ks.map F')).enc := by
  rw [Ty.enc_mk, Ty.enc_mk]
  refine k_typetree_mapped _ _ rfl (d_l (.agg [i kd, i p, .str nm, i s, .sl (ls.map .str), .sl (ks.map Ty.enc)]) (by rfl) fun _ => d_call (ok_clone21 ls h1) (d_l (.sl (ls.map .str)) rfl fun _ => d_l (i ((ks.map Ty.enc).length : Int)) e_len fun _ => ?_))
  refine den_rounds (fun j => [i j, .sl (((ks.take j).map F').map Ty.enc)]) ks.length (by simp) (fun j hj => ?_) ?_
  · refine d_l (.bool (decide ((j : Int) < ((ks.map Ty.enc).length : Int)))) rfl fun _ => d_dec (fun _ => ?_) fun h => absurd (show (j : Int) < ((ks.map Ty.enc).length : Int) by simp; omega) h
    refine d_l _ (e_idx (ty_at' hj) (Ty.okc_enc _)) fun _ => d_l _ (e_okc (Ty.okc_enc _)) fun _ => d_callv (hf _ (List.getElem_mem hj)) (d_l (.sl [(F' ks[j]).enc]) (e_lst (fun x hx => by simp at hx; subst hx; exact Ty.okc_enc _)) fun _ => d_l (.sl (((ks.take j).map F').map Ty.enc ++ [(F' ks[j]).enc])) (e_app (l := ((ks.take j).map F').map Ty.enc) (m := [(F' ks[j]).enc]) (fun x hx => by simp at hx; subst hx; exact Ty.okc_enc _) (by simp; omega) (by simp; omega)) fun _ => d_l _ (e_inc (by omega)) fun _ => d_cont rfl ?_)
    rw [List.take_succ_eq_append_getElem hj, List.map_append, List.map_append]; rfl
  · refine d_l (.bool (decide ((ks.length : Int) < ((ks.map Ty.enc).length : Int)))) rfl fun _ => d_dec (fun h => ?_) fun h => d_ret ?_
    · simp at h
    · rw [List.take_length]; rfl

theorem ok_tt_Copy : ∀ t : Ty, Ln t → Ok P F.typetree_Copy [t.enc] t.enc := by
  intro t
  induction t using Ty.ind with
  | _ t ih =>
  intro h
  cases h with
  | mk _ h1 h2 h =>
  have hm : Ok P F.typetree_mapped [t.enc, .fn F.typetree_Copy [] []] t.enc := by
    obtain ⟨kd, p, nm, s, ls, ks⟩ := t
    have := ok_tt_mapped kd p nm s ls ks F.typetree_Copy [] [] id h1 h2 fun k hk => ih k hk (h k hk)
    rwa [List.map_id] at this
  exact k_typetree_Copy _ _ rfl (d_l _ (e_okc (Ty.okc_enc t)) fun _ => d_call hm (d_l _ (e_okc (Ty.okc_enc t)) fun _ => d_ret rfl))

theorem ok_tt_Raise : ∀ (t : Ty) (k : Int), Ln t → Ok P F.typetree_Raise [t.enc, i k] (raiseT k t).enc := by
  intro t
  induction t using Ty.ind with
  | _ t ih =>
  intro k h
  cases h with
  | mk _ h1 h2 h =>
  obtain ⟨kd, p, nm, s, ls, ks⟩ := t
  have hm := ok_tt_mapped kd p nm s ls ks F.typetree_Raise_1 [] [.box (i k)] (raiseT k) h1 h2 fun x hx => by
    exact k_typetree_Raise_1 _ _ rfl (d_l _ (e_okc (Ty.okc_enc x)) fun _ => d_l (i k) rfl fun _ => d_call (ih x hx k (h x hx)) (d_l _ (e_okc (Ty.okc_enc _)) fun _ => d_ret rfl))
  rw [raiseT_mk]
  have e0 : c 0 (Ty.mk kd p nm s ls ks).enc = i kd := by rw [Ty.enc_mk]; rfl
  refine k_typetree_Raise _ _ rfl (d_l _ (e_okc (Ty.okc_enc _)) fun _ => d_l (i k) rfl fun _ => d_call hm (d_l _ (e_okc (Ty.okc_enc _)) fun _ => d_l (.bool (decide (4 ≤ kd))) (by show (Prim.cmp .geq .i64).ev [c 0 (Ty.mk kd p nm s ls ks).enc, i 4] = _; rw [e0]; rfl) fun _ => d_dec (p := 4 ≤ kd) (fun h4 => d_l (.bool (decide (kd ≤ 7))) (by show (Prim.cmp .leq .i64).ev [c 0 (Ty.mk kd p nm s ls ks).enc, i 7] = _; rw [e0]; rfl) fun _ => d_dec (p := kd ≤ 7) (fun h7 => ?_) fun h7 => ?_) fun h4 => ?_))
  · rw [if_pos ⟨h4, h7⟩]
    refine d_l (i (ad p k)) (by rw [Ty.enc_mk]; rfl) fun _ => d_l (i (ad p k)) rfl fun _ => d_ret ?_
    rw [Ty.enc_mk, Ty.enc_mk]; rfl
  · rw [if_neg (fun hc => h7 hc.2)]
    exact d_l _ (e_okc (Ty.okc_enc _)) fun _ => d_ret rfl
  · rw [if_neg (fun hc => h4 hc.1)]
    exact d_l _ (e_okc (Ty.okc_enc _)) fun _ => d_ret rfl

theorem ok_tt_replace (x : ByteArray) {b : Ty} (hb : Ln b) : ∀ (t : Ty), Ln t → Pk t → Ok P F.typetree_replace [t.enc, .str x, b.enc] (putT x b t).enc := by
  intro t
  induction t using Ty.ind with
  | _ t ih =>
  intro h hpk
  have hln := h
  have hpk' := hpk
  cases h with
  | mk _ h1 h2 h =>
  cases hpk with
  | mk _ hp h8k hpk =>
  obtain ⟨kd, p, nm, s, ls, ks⟩ := t
  have hp : IntKind.i64.wrap p = p := hp
  have hm := ok_tt_mapped kd p nm s ls ks F.typetree_replace_1 [] [.box (.str x), .box b.enc] (putT x b) h1 h2 fun y hy => by
    exact k_typetree_replace_1 _ _ rfl (d_l _ (e_okc (Ty.okc_enc y)) fun _ => d_l (.str x) rfl fun _ => d_l b.enc (by show (if b.enc.okc 6 true then some b.enc else none) = _; rw [if_pos (Ty.okc_enc b)]) fun _ => d_call (ih y hy (h y hy) (hpk y hy)) (d_l _ (e_okc (Ty.okc_enc _)) fun _ => d_ret rfl))
  have e0 : c 0 (Ty.mk kd p nm s ls ks).enc = i kd := by rw [Ty.enc_mk]; rfl
  have e2 : c 2 (Ty.mk kd p nm s ls ks).enc = .str nm := by rw [Ty.enc_mk]; rfl
  have e3 : c 3 (Ty.mk kd p nm s ls ks).enc = i s := by rw [Ty.enc_mk]; rfl
  have hq : (if 4 ≤ kd ∧ kd ≤ 7 then ad p 0 else p) = p := by
    split
    · exact ad_pk hp
    · rfl
  have hR : Ok P F.typetree_Raise [b.enc, c 3 (Ty.mk kd p nm s ls ks).enc] (raiseT s b).enc := by rw [e3]; exact ok_tt_Raise b s hb
  have ev0 : ∀ v : Int, (Prim.cmp .eql .i64).ev [c 0 (Ty.mk kd p nm s ls ks).enc, i v] = some (.bool (decide (kd = v))) := fun v => by rw [e0]; rfl
  have ev2 : (Prim.scmp .eql).ev [c 2 (Ty.mk kd p nm s ls ks).enc, .str x] = some (.bool (decide (nm = x))) := by rw [e2]; rfl
  have hmid : ¬ (kd = 9 ∧ nm = x) → ¬ (kd = 8 ∧ nm = x) → (Ty.mk kd p nm s ls (ks.map (putT x b))) = putT x b (.mk kd p nm s ls ks) := fun q1 q2 => by
    unfold putT
    rw [if_neg q1, if_neg q2, hq, putTs_eq]
  have hcp : kd = 8 → nm = x → (Ty.mk kd p nm s ls ks) = putT x b (.mk kd p nm s ls ks) := fun q1 q2 => by
    have := hpk'.raise0
    unfold putT
    rw [if_neg (fun hc => by omega), if_pos ⟨q1, q2⟩, this]
  refine k_typetree_replace _ _ rfl (d_l _ (e_okc (Ty.okc_enc _)) fun _ => d_l (.str x) rfl fun _ => d_l _ (e_okc (Ty.okc_enc b)) fun _ => d_l _ (ev0 9) fun _ => d_dec (p := kd = 9) (fun h9 => d_l _ ev2 fun _ => d_dec (p := nm = x) (fun hn => ?_) fun hn => ?_) fun h9 => ?_)
  · refine d_call hR (d_l _ (e_okc (Ty.okc_enc _)) fun _ => d_ret ?_)
    unfold putT; rw [if_pos ⟨h9, hn⟩]
  · refine d_l _ (ev0 8) fun _ => d_dec (p := kd = 8) (fun h8 => absurd h8 (by omega)) fun h8 => d_call hm (d_l _ (e_okc (Ty.okc_enc _)) fun _ => d_ret ?_)
    rw [hmid (fun hc => hn hc.2) (fun hc => h8 hc.1)]
  · refine d_l _ (ev0 8) fun _ => d_dec (p := kd = 8) (fun h8 => d_l _ ev2 fun _ => d_dec (p := nm = x) (fun hn => ?_) fun hn => ?_) fun h8 => ?_
    · refine d_call (ok_tt_Copy _ hln) (d_l _ (e_okc (Ty.okc_enc _)) fun _ => d_ret ?_)
      conv => lhs; rw [hcp h8 hn]
    · refine d_call hm (d_l _ (e_okc (Ty.okc_enc _)) fun _ => d_ret ?_)
      rw [hmid (fun hc => h9 hc.1) (fun hc => hn hc.2)]
    · refine d_call hm (d_l _ (e_okc (Ty.okc_enc _)) fun _ => d_ret ?_)
      rw [hmid (fun hc => h9 hc.1) (fun hc => h8 hc.1)]

/-- the same in so many steps -/
inductive UnfN : Nat → Ty → Ty → Prop
  | done (t : Ty) (h : t.kind ≠ 8) : UnfN 0 t (raiseT 0 t)
  | step (n : Nat) (t k u : Ty) (r : List Ty) (h : t.kind = 8) (hk : t.kids = k :: r) (hu : UnfN n (putT t.name t k) u) : UnfN (n + 1) t u
theorem unfN_of {t u : Ty} (h : Unf t u) : ∃ n, UnfN n t u := by
  induction h with
  | done t h => exact ⟨0, .done t h⟩
  | step t k u r h hk _ ih => obtain ⟨n, hn⟩ := ih; exact ⟨n + 1, .step n t k u r h hk hn⟩

theorem ok_tt_Unfold {t u : Ty} (h : Unf t u) (hl : Ln t) (hp : Pk t) : Ok P F.typetree_Unfold [t.enc] u.enc := by
  obtain ⟨n, hn⟩ := unfN_of h
  refine k_typetree_Unfold _ _ rfl (d_l _ (e_okc (Ty.okc_enc t)) fun _ => den_loop (fun m ys => ∃ t : Ty, ys = [t.enc] ∧ UnfN m t u ∧ Ln t ∧ Pk t) n ⟨t, rfl, hn, hl, hp⟩ ?_)
  clear hn hl hp h t
  rintro m _ ⟨t, rfl, hn, hl, hp⟩
  have e0 : c 0 t.enc = i t.kind := by obtain ⟨a, b, c, d, e, f⟩ := t; rw [Ty.enc_mk]; rfl
  have e2 : c 2 t.enc = .str t.name := by obtain ⟨a, b, c, d, e, f⟩ := t; rw [Ty.enc_mk]; rfl
  have e5 : c 5 t.enc = .sl (t.kids.map Ty.enc) := by obtain ⟨a, b, c, d, e, f⟩ := t; rw [Ty.enc_mk]; rfl
  refine d_l (.bool (decide (t.kind = 8))) (by show (Prim.cmp .eql .i64).ev [c 0 t.enc, i 8] = _; rw [e0]; rfl) fun _ => d_dec (p := t.kind = 8) (fun h8 => ?_) fun h8 => ?_
  · cases hn with
    | done _ h => exact absurd h8 h
    | step m _ k _ r _ hk hu =>
      have h1 : t.kids.length = 1 := by cases hp with | mk _ _ h _ => exact h h8
      obtain rfl : r = [] := List.eq_nil_of_length_eq_zero (by rw [hk] at h1; simpa using h1)
      have hlk : Ln k := by cases hl with | mk _ _ _ h => exact h k (by rw [hk]; exact List.mem_cons_self)
      have hpk : Pk k := by cases hp with | mk _ _ _ h => exact h k (by rw [hk]; exact List.mem_cons_self)
      refine d_l (i 1) (by show Prim.len.ev [c 5 t.enc] = _; rw [e5, hk]; rfl) fun _ => d_l (.bool true) rfl fun _ => d_true (d_l k.enc (by show (Prim.idx 6 true).ev [c 5 t.enc, i 0] = _; rw [e5, hk]; exact e_idx (k := 0) rfl (Ty.okc_enc _)) fun _ => ?_)
      have hr : Ok P F.typetree_replace [k.enc, c 2 t.enc, t.enc] (putT t.name t k).enc := by rw [e2]; exact ok_tt_replace t.name hl k hlk hpk
      exact d_call hr (d_l _ (e_okc (Ty.okc_enc _)) fun _ => d_cont rfl ⟨m, by omega, _, rfl, hu, hl.put hlk, Pk.put hp hpk⟩)
  · cases hn with
    | done _ h =>
      rw [hp.raise0]
      exact d_call (ok_tt_Copy t hl) (d_l _ (e_okc (Ty.okc_enc _)) fun _ => d_ret rfl)
    | step m _ k _ r h _ _ => exact absurd h h8
end Go.Proofs.YtchedinkkliogaaDoor.Tx
