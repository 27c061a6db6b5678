/- Contracts (Wk120, Wk121, Wk122, Wk126). -/
import Derived.Test.YtopinhoalbgebaaGreatDoorWk45
import Derived.Test.YtopinhoalbgebaaGreatDoorWk33
import Derived.Lib.Strings
set_option linter.all false
/- The reference's subtyping (1): pairs of closed types, what is compared: Same, Prio, Lower, Label, Seen, index. -/
namespace Go.Proofs.YtopinhoalbgebaaGreatDoor.Tx
open Go.Lf Go.Lf.S Go.Lf.Duo
set_option maxRecDepth 100000

noncomputable def dq (p : Prop) : Bool := @decide p (Classical.propDecidable p)
theorem dq_iff {p : Prop} : dq p = true ↔ p := by unfold dq; exact @decide_eq_true_iff p (Classical.propDecidable p)
theorem dq_t {p : Prop} (h : p) : dq p = true := dq_iff.2 h
theorem dq_f {p : Prop} (h : ¬ p) : dq p = false := by
  cases e : dq p with
  | false => rfl
  | true => exact absurd (dq_iff.1 e) h

theorem len_str (l : List ByteArray) : Prim.len.ev [.sl (l.map .str)] = some (i (l.length : Int)) := by rw [e_len, List.length_map]
theorem len_ty (l : List Ty) : Prim.len.ev [.sl (l.map Ty.enc)] = some (i (l.length : Int)) := by rw [e_len, List.length_map]
theorem take_step {α : Type} {l m : List α} {j : Nat} (hl : j < l.length) (hm : j < m.length) (h : l.take j = m.take j) (e : l[j] = m[j]) : l.take (j + 1) = m.take (j + 1) := by
  rw [List.take_succ_eq_append_getElem hl, List.take_succ_eq_append_getElem hm, h, e]
theorem get_eq {α : Type} {l m : List α} (e : l = m) {j : Nat} (hl : j < l.length) (hm : j < m.length) : l[j] = m[j] := by subst e; rfl

theorem ok_texts2 (l m : List ByteArray) (hl : l.length ≤ 549755813888) : Ok P F.ref02_texts [.sl (l.map .str), .sl (m.map .str)] (.bool (dq (l = m))) := by
  refine k_ref02_texts _ _ rfl (d_l _ (len_str l) fun _ => d_l _ (len_str m) fun _ => d_l (.bool (!decide ((l.length : Int) = (m.length : Int)))) rfl fun _ => d_ndec (fun h => d_ret ?_) fun h => ?_)
  · rw [dq_f fun e => h (by rw [e])]
  · have hlm : l.length = m.length := by omega
    refine den_loop (fun m' ys => ∃ j : Nat, j + m' = l.length ∧ l.take j = m.take j ∧ ys = [i j]) l.length ⟨0, by omega, by simp, rfl⟩ ?_
    rintro m' _ ⟨j, hj, ht, rfl⟩
    refine d_l _ (len_str l) fun _ => d_l (.bool (decide ((j : Int) < (l.length : Int)))) rfl fun _ => d_dec (p := (j : Int) < (l.length : Int)) (fun h => ?_) fun h => d_ret ?_
    · have h1 : j < l.length := by omega
      have h2 : j < m.length := by omega
      refine d_l _ (e_idx (str_at h1) rfl) fun _ => d_l _ (e_idx (str_at h2) rfl) fun _ => d_l (.bool (!decide (l[j] = m[j]))) rfl fun _ => d_ndec (fun h => d_ret ?_) fun h => d_l _ (e_inc (by omega)) fun _ => d_cont rfl ⟨m' - 1, by omega, j + 1, by omega, take_step h1 h2 ht h, rfl⟩
      rw [dq_f fun e => h (get_eq e h1 h2)]
    · rw [dq_t]
      have e1 : l.take j = l := List.take_of_length_le (by omega)
      have e2 : m.take j = m := List.take_of_length_le (by omega)
      rw [← e1, ht, e2]

theorem ok_same : ∀ a b : Ty, Ln a → Ok P F.ref02_Same [a.enc, b.enc] (.bool (dq (a = b))) := by
  intro a
  induction a using Ty.ind with
  | _ a ih =>
  intro b ha
  cases ha with
  | mk _ h1 h2 h =>
  obtain ⟨kd, p, nm, s, ls, ks⟩ := a
  obtain ⟨kd', p', nm', s', ls', ks'⟩ := b
  have h1 : ls.length ≤ 549755813888 := h1
  have h2 : ks.length ≤ 549755813888 := h2
  have ih : ∀ x ∈ ks, ∀ b, Ok P F.ref02_Same [x.enc, b.enc] (.bool (dq (x = b))) := fun x hx b => ih x hx b (h x hx)
  rw [Ty.enc_mk, Ty.enc_mk]
  refine k_ref02_Same _ _ rfl (d_l (.agg [i kd, i p, .str nm, i s, .sl (ls.map .str), .sl (ks.map Ty.enc)]) rfl fun _ => d_l (.agg [i kd', i p', .str nm', i s', .sl (ls'.map .str), .sl (ks'.map Ty.enc)]) rfl fun _ =>
    d_l (.bool (!decide (kd = kd'))) rfl fun _ => d_ndec (fun h => d_ret ?_) fun e1 => d_l (.bool (!decide (p = p'))) rfl fun _ => d_ndec (fun h => d_ret ?_) fun e2 => d_l (.bool (!decide (nm = nm'))) rfl fun _ => d_ndec (fun h => d_ret ?_) fun e3 => d_l (.bool (!decide (s = s'))) rfl fun _ => d_ndec (fun h => d_ret ?_) fun e4 =>
    d_call (ok_texts2 ls ls' h1) (d_l (.bool (!dq (ls = ls'))) rfl fun _ => d_ite (fun h => d_ret ?_) fun e5 => d_l _ (len_ty ks) fun _ => d_l _ (len_ty ks') fun _ => d_l (.bool (!decide ((ks.length : Int) = (ks'.length : Int)))) rfl fun _ => d_ndec (fun h => d_ret ?_) fun e6 => ?_))
  · rw [dq_f fun e => h (by cases e; rfl)]
  · rw [dq_f fun e => h (by cases e; rfl)]
  · rw [dq_f fun e => h (by cases e; rfl)]
  · rw [dq_f fun e => h (by cases e; rfl)]
  · rw [dq_f fun e => ?_]
    cases e
    rw [dq_t rfl] at h
    cases h
  · rw [dq_f fun e => h (by cases e; rfl)]
  · have e5 : ls = ls' := dq_iff.1 (by simpa using e5)
    have hlm : ks.length = ks'.length := by omega
    refine den_loop (fun m' ys => ∃ j : Nat, j + m' = ks.length ∧ ks.take j = ks'.take j ∧ ys = [i j]) ks.length ⟨0, by omega, by simp, rfl⟩ ?_
    rintro m' _ ⟨j, hj, ht, rfl⟩
    refine d_l _ (len_ty ks) fun _ => d_l (.bool (decide ((j : Int) < (ks.length : Int)))) rfl fun _ => d_dec (p := (j : Int) < (ks.length : Int)) (fun h => ?_) fun h => d_ret ?_
    · have h1 : j < ks.length := by omega
      have h2 : j < ks'.length := by omega
      refine d_l _ (e_idx (ty_at' h1) (Ty.okc_enc _)) fun _ => d_l _ (e_idx (ty_at' h2) (Ty.okc_enc _)) fun _ => d_call (ih _ (List.getElem_mem h1) ks'[j]) (d_l (.bool (!dq (ks[j] = ks'[j]))) rfl fun _ => d_ite (fun h => d_ret ?_) fun h => d_l _ (e_inc (by omega)) fun _ => d_cont rfl ⟨m' - 1, by omega, j + 1, by omega, take_step h1 h2 ht (dq_iff.1 (by simpa using h)), rfl⟩)
      rw [dq_f fun e => ?_]
      have : dq (ks[j] = ks'[j]) = true := dq_t (get_eq (by cases e; rfl) h1 h2)
      rw [this] at h; cases h
    · rw [dq_t]
      have e7 : ks.take j = ks := List.take_of_length_le (by omega)
      have e8 : ks'.take j = ks' := List.take_of_length_le (by omega)
      rw [← e7, ht, e8, e1, e2, e3, e4, e5]

/-! pairs -/
def pe (p : Ty × Ty) : PV := .agg (Ty.cellsOf p.1 ++ Ty.cellsOf p.2)
theorem pe_okc (p : Ty × Ty) : (pe p).okc 12 true = true := rfl
theorem pe_1 (p : Ty × Ty) : sb 0 6 (pe p) = p.1.enc := by
  obtain ⟨⟨a, b, c, d, e, f⟩, ⟨a', b', c', d', e', f'⟩⟩ := p
  rw [Ty.enc_mk]; rfl
theorem pe_2 (p : Ty × Ty) : sb 6 6 (pe p) = p.2.enc := by
  obtain ⟨⟨a, b, c, d, e, f⟩, ⟨a', b', c', d', e', f'⟩⟩ := p
  rw [Ty.enc_mk]; rfl
theorem pr_at {l : List (Ty × Ty)} {j : Nat} (h : j < l.length) : (l.map pe)[j]? = some (pe l[j]) := by simp [h]
theorem len_pr (l : List (Ty × Ty)) : Prim.len.ev [.sl (l.map pe)] = some (i (l.length : Int)) := by rw [e_len, List.length_map]

noncomputable def unfT (T : Ty) : Ty := open Classical in if h : ∃ u, Unf T u then Classical.choose h else T
theorem unfT_eq {T u : Ty} (h : Unf T u) : unfT T = u := by
  unfold unfT
  rw [dif_pos ⟨u, h⟩]
  exact unf_fun (Classical.choose_spec (⟨u, h⟩ : ∃ u, Unf T u)) h
def pz (u : Ty) : Int := if act u.kind then u.prio else 0
noncomputable def lw (p : Ty × Ty) : Ty × Ty := (raiseT (-pz (unfT p.1)) p.1, raiseT (-pz (unfT p.1)) p.2)

theorem ok_prio_unf {t u : Ty} (h : Unf t u) (hl : Ln t) : Ok P F.ref08_Prio [t.enc] (.tup [i (pz u), .bool (act u.kind)]) := by
  have hU := ok_ref02_Unfold h hl
  obtain ⟨k, p, nm, s, ls, ks⟩ := u
  rw [Ty.enc_mk] at hU
  show Ok P F.ref08_Prio [t.enc] (.tup [i (if act k then p else 0), .bool (act k)])
  refine k_ref08_Prio _ _ rfl (d_l _ (e_okc (Ty.okc_enc t)) fun _ => d_call hU (d_l (.agg [i k, i p, .str nm, i s, .sl (ls.map .str), .sl (ks.map Ty.enc)]) rfl fun _ => d_l _ rfl fun _ => d_dec (fun h4 => d_l _ rfl fun _ => d_dec (fun h7 => d_ret ?_) fun h7 => d_ret ?_) fun h4 => d_ret ?_))
  · have h4 : 4 ≤ k := h4
    have h7 : k ≤ 7 := h7
    have : act k = true := by simp [act, h4, h7]
    rw [this]; rfl
  · have h7 : ¬ k ≤ 7 := h7
    have : act k = false := by simp [act, h7]
    rw [this]; rfl
  · have h4 : ¬ 4 ≤ k := h4
    have : act k = false := by simp [act, h4]
    rw [this]; rfl

theorem raise_wr (k : Int) : ∀ t : Ty, raiseT (IntKind.i64.wrap k) t = raiseT k t := by
  intro t
  induction t using Ty.ind with
  | _ t ih =>
  obtain ⟨kd, p, nm, s, ls, ks⟩ := t
  rw [raiseT_mk, raiseT_mk, ad_wr]
  congr 1
  exact List.map_congr_left fun x hx => ih x hx

theorem ok_Lower {A B u : Ty} (hA : Unf A u) (lA : Ln A) (lB : Ln B) : Ok P F.ref10_Lower [A.enc, B.enc] (pe (lw (A, B))) := by
  have e : lw (A, B) = (raiseT (IntKind.i64.wrap (-pz u)) A, raiseT (IntKind.i64.wrap (-pz u)) B) := by
    unfold lw; rw [show unfT (A, B).1 = u from unfT_eq hA, raise_wr, raise_wr]
  have h1 := ok_ref02_Raise A (IntKind.i64.wrap (-pz u)) lA
  have h2 := ok_ref02_Raise B (IntKind.i64.wrap (-pz u)) lB
  rw [e]
  generalize raiseT (IntKind.i64.wrap (-pz u)) A = A' at *
  generalize raiseT (IntKind.i64.wrap (-pz u)) B = B' at *
  have hn : (Prim.neg .i64).ev [i (pz u)] = some (i (IntKind.i64.wrap (-pz u))) := by
    show some (PV.int .i64 (IntKind.i64.wrap (0 - pz u))) = _
    rw [Int.zero_sub]
  refine k_ref10_Lower _ _ rfl (d_l _ (e_okc (Ty.okc_enc A)) fun _ => d_l _ (e_okc (Ty.okc_enc B)) fun _ => d_call (ok_prio_unf hA lA) (d_l (i (pz u)) rfl fun _ => d_l (.bool (act u.kind)) rfl fun _ => d_l _ hn fun _ => d_call h1 (d_l _ hn fun _ => d_call h2 ?_)))
  obtain ⟨a, b, c, d, e, f⟩ := A'
  obtain ⟨a', b', c', d', e', f'⟩ := B'
  rw [Ty.enc_mk, Ty.enc_mk]
  exact d_l _ rfl fun _ => d_ret rfl

def lbV : Option Ty → PV
  | some k => .tup [k.enc, .bool true]
  | none => .tup [.agg [i 0, i 0, .str ⟨#[]⟩, i 0, .sl [], .sl []], .bool false]
theorem ok_Label {t u : Ty} (h : Unf t u) (hl : Ln t) (hm : u.labels.length ≤ 549755813888) (hk : u.kids.length = u.labels.length) (s : ByteArray) :
    ∃ o, Ok P F.ref08_Label [t.enc, .str s] (lbV o) ∧ (∀ k, o = some k → ∃ j : Nat, u.labels[j]? = some s ∧ u.kids[j]? = some k) ∧ (o = none → s ∉ u.labels) := by
  have hU := ok_ref02_Unfold h hl
  have := tx_ex (K := fun x => ∃ o, x = lbV o ∧ (∀ k, o = some k → ∃ j : Nat, u.labels[j]? = some s ∧ u.kids[j]? = some k) ∧ (o = none → s ∉ u.labels)) k_ref08_Label (xs := [t.enc, .str s]) rfl (by simp [t_ref08_Label, T.dt]) (by
    obtain ⟨k, p, nm, sh, ls, ks⟩ := u
    rw [Ty.enc_mk] at hU
    have hm : ls.length ≤ 549755813888 := hm
    have hk : ks.length = ls.length := hk
    refine d_l _ (e_okc (Ty.okc_enc t)) fun _ => d_call hU (d_l (.agg [i k, i p, .str nm, i sh, .sl (ls.map .str), .sl (ks.map Ty.enc)]) rfl fun _ => den_loop (fun m' ys => ∃ j : Nat, j + m' = ls.length ∧ s ∉ ls.take j ∧ ys = [i j]) ls.length ⟨0, by omega, by simp, rfl⟩ ?_)
    rintro m' _ ⟨j, hj, ht, rfl⟩
    refine d_l _ (len_str ls) fun _ => d_l (.bool (decide ((j : Int) < (ls.length : Int)))) rfl fun _ => d_dec (p := (j : Int) < (ls.length : Int)) (fun h => ?_) fun h => d_ret ⟨none, rfl, (fun _ h => by cases h), fun _ => ?_⟩
    · have h1 : j < ls.length := by omega
      have h2 : j < ks.length := by omega
      refine d_l _ (e_idx (str_at h1) rfl) fun _ => d_l (.bool (decide (ls[j] = s))) rfl fun _ => d_dec (p := ls[j] = s) (fun e => ?_) fun e => d_l _ (e_inc (by omega)) fun _ => d_cont rfl ⟨m' - 1, by omega, j + 1, by omega, ?_, rfl⟩
      · refine d_l _ (e_idx (ty_at' h2) (Ty.okc_enc _)) fun _ => d_l _ (e_okc (Ty.okc_enc _)) fun _ => d_ret ⟨some ks[j], rfl, fun k hk => ?_, fun h => by cases h⟩
        cases hk
        exact ⟨j, by show ls[j]? = _; rw [List.getElem?_eq_getElem h1, e], by show ks[j]? = _; rw [List.getElem?_eq_getElem h2]⟩
      · rw [List.take_succ_eq_append_getElem h1]
        intro hc
        rcases List.mem_append.1 hc with hc | hc
        · exact ht hc
        · exact e (List.mem_singleton.1 hc).symm
    · have e : ls.take j = ls := List.take_of_length_le (by omega)
      rw [e] at ht; exact ht)
  obtain ⟨_, ⟨o, rfl, h1, h2⟩, h⟩ := this
  exact ⟨o, h, h1, h2⟩

theorem two_same {q r : Ty × Ty} : q = r ↔ q.1 = r.1 ∧ q.2 = r.2 := Prod.ext_iff
theorem ok_Seen (l : List (Ty × Ty)) (p : Ty × Ty) (hl : l.length ≤ 549755813888) (hL : ∀ q ∈ l, Ln q.1 ∧ Ln q.2) : Ok P F.ref10_Seen [.sl (l.map pe), pe p] (.bool (dq (p ∈ l))) := by
  refine k_ref10_Seen _ _ rfl (d_l _ (e_okc (pe_okc p)) fun _ => den_loop (fun m' ys => ∃ j : Nat, j + m' = l.length ∧ p ∉ l.take j ∧ ys = [i j]) l.length ⟨0, by omega, by simp, rfl⟩ ?_)
  rintro m' _ ⟨j, hj, ht, rfl⟩
  refine d_l _ (len_pr l) fun _ => d_l (.bool (decide ((j : Int) < (l.length : Int)))) rfl fun _ => d_dec (p := (j : Int) < (l.length : Int)) (fun h => ?_) fun h => d_ret ?_
  · have h1 : j < l.length := by omega
    have hL1 := hL _ (List.getElem_mem h1)
    have hno : l[j] ≠ p → p ∉ l.take (j + 1) := fun e hc => by
      rw [List.take_succ_eq_append_getElem h1] at hc
      rcases List.mem_append.1 hc with hc | hc
      · exact ht hc
      · exact e (List.mem_singleton.1 hc).symm
    have s1 := ok_same l[j].1 p.1 hL1.1
    have s2 := ok_same l[j].2 p.2 hL1.2
    rw [← pe_1, ← pe_1] at s1
    rw [← pe_2, ← pe_2] at s2
    refine d_l _ (e_idx (pr_at h1) (pe_okc _)) fun _ => d_call s1 (d_ite (fun h2 => ?_) fun h2 => ?_)
    · refine d_l _ (e_idx (pr_at h1) (pe_okc _)) fun _ => d_call s2 (d_ite (fun h3 => d_ret ?_) fun h3 => ?_)
      · rw [dq_t]
        have e : l[j] = p := two_same.2 ⟨dq_iff.1 h2, dq_iff.1 h3⟩
        rw [← e]; exact List.getElem_mem h1
      · refine d_l _ (e_inc (by omega)) fun _ => d_cont rfl ⟨m' - 1, by omega, j + 1, by omega, hno fun e => ?_, rfl⟩
        rw [dq_t (by rw [e])] at h3; cases h3
    · refine d_l _ (e_inc (by omega)) fun _ => d_cont rfl ⟨m' - 1, by omega, j + 1, by omega, hno fun e => ?_, rfl⟩
      rw [dq_t (by rw [e])] at h2; cases h2
  · rw [dq_f]
    have e : l.take j = l := List.take_of_length_le (by omega)
    rw [e] at ht; exact ht
end Go.Proofs.YtopinhoalbgebaaGreatDoor.Tx

/- The reference's subtyping (2): closed types of a finite set, and what a pair needs. -/
namespace Go.Proofs.YtopinhoalbgebaaGreatDoor.Tx
open Go.Lf Go.Lf.S Go.Lf.Duo
set_option maxRecDepth 100000

/-- a closed type of the list's, raised -/
def CL (L : List Ty) (M : Nat) (T : Ty) : Prop := ∃ ds r, OccR ds L M r T

theorem Occ.mem {ds : List Nd} {L : List Ty} {M : Nat} {t : Ty} {a : Int} {ns : List ByteArray} {refs : List Rf} {Ts : List Ty} {g : Nat} (h : Occ ds L M t a ns refs Ts g) : ∀ x ∈ occL ns Ts t, x ∈ L := by
  induction h with
  | top t a h hp hL hM => exact hL
  | down k p nm s ls x a ns refs Ts g h8 h ih =>
    intro y hy
    refine ih y ?_
    simp only [occL, if_pos h8, occLs, List.append_nil]
    exact List.mem_cons_of_mem _ hy
  | kid k p nm s ls ks a ns refs Ts g h8 h9 h j hj ih =>
    intro y hy
    refine ih y ?_
    simp only [occL, if_neg h8]
    exact List.mem_cons_of_mem _ (occLs_mem (List.getElem_mem hj) hy)

theorem CL.step {L : List Ty} {M : Nat} {T : Ty} (h : CL L M T) : ∃ u, Unf T u ∧ Shp M u ∧ ∀ k ∈ u.kids, CL L M k := by
  obtain ⟨ds, r, σ, t, a, ns, refs, Ts, g, ho, rfl, rfl⟩ := h
  obtain ⟨_, u, d, h1, h2, _, _, _, _, hl, hk⟩ := occ_step t ho (σ := σ)
  refine ⟨u, h1, h2, fun k hm => ?_⟩
  obtain ⟨j, hj, rfl⟩ := List.getElem_of_mem hm
  have hj' : j < d.next.length := by omega
  exact ⟨ds, _, hk j _ _ (List.getElem?_eq_getElem hj') (List.getElem?_eq_getElem hj)⟩
theorem CL.raise {L : List Ty} {M : Nat} {T : Ty} (k : Int) (h : CL L M T) : CL L M (raiseT k T) := by
  obtain ⟨ds, r, σ, t, a, ns, refs, Ts, g, ho, rfl, rfl⟩ := h
  exact ⟨ds, _, σ + k, t, a, ns, refs, Ts, g, ho, rfl, by rw [raise_raise]⟩
theorem CL.lm {L : List Ty} {M : Nat} {T : Ty} (h : CL L M T) : Lm M T := by
  obtain ⟨ds, r, σ, t, a, ns, refs, Ts, g, ho, rfl, rfl⟩ := h
  exact (Lm.sub (fun y T hy => ho.i.lts T (lkT_mem _ _ _ _ hy)) ho.i.lm).raise
theorem CL.base {L : List Ty} {M : Nat} {T : Ty} (h : CL L M T) : ∃ σ s, s ∈ L ∧ T = raiseT σ s ∧ CL L M s := by
  obtain ⟨ds, r, σ, t, a, ns, refs, Ts, g, ho, rfl, rfl⟩ := h
  exact ⟨σ, _, ho.mem _ (occL_self ns Ts t), rfl, ds, _, 0, t, a, ns, refs, Ts, g, ho, rfl, (raise0_sub ho.i.wf).symm⟩
theorem CL.ln {L : List Ty} {M : Nat} (hM : M ≤ 549755813888) {T : Ty} (h : CL L M T) : Ln T := h.lm.ln hM
theorem CL.unf {L : List Ty} {M : Nat} {T : Ty} (h : CL L M T) : Unf T (unfT T) ∧ Shp M (unfT T) ∧ ∀ k ∈ (unfT T).kids, CL L M k := by
  obtain ⟨u, h1, h2, h3⟩ := h.step
  rw [unfT_eq h1]; exact ⟨h1, h2, h3⟩
theorem Unf.to_unfT {T u : Ty} (h : Unf T u) : Unf T (unfT T) := by rw [unfT_eq h]; exact h

/-! what a pair needs -/
def LRaw (x y : Ty) (s : ByteArray) (r : Ty × Ty) : Prop := ∃ i j : Nat, x.labels[i]? = some s ∧ y.labels[j]? = some s ∧ x.kids[i]? = some r.1 ∧ y.kids[j]? = some r.2
def TRaw (x y : Ty) (r : Ty × Ty) : Prop :=
  (x.kind = 4 ∧ y.kids[0]? = some r.1 ∧ x.kids[0]? = some r.2) ∨ (x.kind = 4 ∧ x.kids[1]? = some r.1 ∧ y.kids[1]? = some r.2) ∨
  (x.kind = 5 ∧ ∃ j : Nat, j < 2 ∧ x.kids[j]? = some r.1 ∧ y.kids[j]? = some r.2) ∨ ((x.kind = 6 ∨ x.kind = 7) ∧ ∃ s, LRaw x y s r)
theorem two_list {α : Type} {l : List α} (h : l.length = 2) : ∃ a b, l = [a, b] := by
  match l, h with
  | [a, b], _ => exact ⟨a, b, rfl⟩

end Go.Proofs.YtopinhoalbgebaaGreatDoor.Tx

/- The reference's subtyping (3): the pairs that are reached are finitely many. -/
namespace Go.Proofs.YtopinhoalbgebaaGreatDoor.Tx
open Go.Lf Go.Lf.S Go.Lf.Duo
set_option maxRecDepth 100000

theorem nodup_leU {α : Type} : ∀ {l U : List α}, l.Nodup → (∀ x ∈ l, x ∈ U) → l.length ≤ U.length
  | [], _, _, _ => by simp
  | a :: l, U, hn, h => by
    obtain ⟨s, t, rfl⟩ := List.append_of_mem (h a List.mem_cons_self)
    rw [List.nodup_cons] at hn
    have := nodup_leU (l := l) (U := s ++ t) hn.2 fun x hx => by
      have := h x (List.mem_cons_of_mem _ hx)
      simp only [List.mem_append, List.mem_cons] at this ⊢
      rcases this with h | rfl | h
      · exact .inl h
      · exact absurd hx hn.1
      · exact .inr h
    simp only [List.length_append, List.length_cons] at this ⊢
    omega
theorem flat_le {α β : Type} {f : α → List β} {c : Nat} : ∀ {l : List α}, (∀ x ∈ l, (f x).length ≤ c) → (l.flatMap f).length ≤ l.length * c
  | [], _ => by simp
  | a :: l, h => by
    have h1 := h a List.mem_cons_self
    have h2 := flat_le (l := l) (f := f) (c := c) fun x hx => h x (List.mem_cons_of_mem _ hx)
    simp only [List.flatMap_cons, List.length_append, List.length_cons, Nat.add_mul, Nat.one_mul]
    omega

theorem raise_congr {a b : Int} (h : IntKind.i64.wrap a = IntKind.i64.wrap b) (t : Ty) : raiseT a t = raiseT b t := by rw [← raise_wr a, h, raise_wr]
theorem pz_act {u : Ty} (h : act u.kind = true) : pz u = u.prio := by unfold pz; rw [if_pos h]
theorem unfT_raise {T : Ty} (k : Int) (h : ∃ u, Unf T u) : unfT (raiseT k T) = raiseT k (unfT T) := by
  obtain ⟨u, h⟩ := h
  rw [unfT_eq h, unfT_eq (h.raise k)]

/-- a lowered pair -/
def Lwd (L : List Ty) (M : Nat) (q : Ty × Ty) : Prop := ∃ A B, CL L M A ∧ CL L M B ∧ q = lw (A, B)
theorem Lwd.cl {L : List Ty} {M : Nat} {q : Ty × Ty} (h : Lwd L M q) : CL L M q.1 ∧ CL L M q.2 := by
  obtain ⟨A, B, h1, h2, rfl⟩ := h
  exact ⟨h1.raise _, h2.raise _⟩

theorem TRaw.cl {L : List Ty} {M : Nat} {x y : Ty} (hx : ∀ k ∈ x.kids, CL L M k) (hy : ∀ k ∈ y.kids, CL L M k) {r : Ty × Ty} (h : TRaw x y r) : CL L M r.1 ∧ CL L M r.2 := by
  rcases h with ⟨_, e1, e2⟩ | ⟨_, e1, e2⟩ | ⟨_, j, _, e1, e2⟩ | ⟨_, s, i, j, _, _, e1, e2⟩
  · exact ⟨hy _ (List.mem_of_getElem? e1), hx _ (List.mem_of_getElem? e2)⟩
  · exact ⟨hx _ (List.mem_of_getElem? e1), hy _ (List.mem_of_getElem? e2)⟩
  · exact ⟨hx _ (List.mem_of_getElem? e1), hy _ (List.mem_of_getElem? e2)⟩
  · exact ⟨hx _ (List.mem_of_getElem? e1), hy _ (List.mem_of_getElem? e2)⟩
end Go.Proofs.YtopinhoalbgebaaGreatDoor.Tx

/- The reference's equality (1): lists of labels in order. -/
namespace Go.Proofs.YtopinhoalbgebaaGreatDoor.Tx
open Go.Lf Go.Lf.S Go.Lf.Duo
set_option maxRecDepth 100000

theorem bytes_lt : ∀ (x y : List UInt8), Op.bytesLess x y = decide (x < y)
  | [], [] => by simp [Op.bytesLess]
  | _ :: _, [] => by simp [Op.bytesLess]
  | [], _ :: _ => by simp [Op.bytesLess]
  | a :: x, b :: y => by
    rw [Op.bytesLess, bytes_lt x y]
    simp only [List.cons_lt_cons_iff]
    by_cases h1 : a < b <;> by_cases h2 : a = b <;> by_cases h3 : x < y <;> simp [h1, h2, h3]
def bl (x y : ByteArray) : Bool := Op.bytesLess x.toList y.toList
theorem bl_iff {x y : ByteArray} : bl x y = true ↔ x.toList < y.toList := by unfold bl; rw [bytes_lt, decide_eq_true_iff]
theorem bl_asymm {x y : ByteArray} (h : bl x y = true) : bl y x = false := by
  cases e : bl y x with
  | false => rfl
  | true => exact absurd (List.lt_trans (bl_iff.1 h) (bl_iff.1 e)) (List.lt_irrefl _)
theorem bl_trans {x y z : ByteArray} (h : bl x y = true) (h2 : bl y z = true) : bl x z = true := bl_iff.2 (List.lt_trans (bl_iff.1 h) (bl_iff.1 h2))
theorem bl_total {x y : ByteArray} (h : bl x y = false) (h2 : bl y x = false) : x = y := by
  have e : x.toList = y.toList := by
    have a : ¬ x.toList < y.toList := fun c => by rw [bl_iff.2 c] at h; cases h
    have b : ¬ y.toList < x.toList := fun c => by rw [bl_iff.2 c] at h2; cases h2
    exact List.le_antisymm (List.not_lt.1 b) (List.not_lt.1 a)
  rw [Lib.toList_data, Lib.toList_data] at e
  exact ByteArray.ext (Array.toList_inj.1 e)

def Srt (m : Nat) (o : List ByteArray) : Prop := ∀ (p q : Nat) x y, p < m → p < q → o[p]? = some x → o[q]? = some y → bl y x = false
def Shuf (o l : List ByteArray) : Prop := ∃ σ τ : Nat → Nat, (∀ x, σ (τ x) = x ∧ τ (σ x) = x) ∧ ∀ x : Nat, o[x]? = l[σ x]?
theorem Shuf.mem {o l : List ByteArray} (h : Shuf o l) (s : ByteArray) : s ∈ o ↔ s ∈ l := by
  obtain ⟨σ, τ, h1, h2⟩ := h
  rw [List.mem_iff_getElem?, List.mem_iff_getElem?]
  constructor
  · rintro ⟨x, hx⟩
    exact ⟨σ x, by rw [← h2]; exact hx⟩
  · rintro ⟨x, hx⟩
    exact ⟨τ x, by rw [h2, (h1 x).1]; exact hx⟩
theorem Shuf.nodup {o l : List ByteArray} (h : Shuf o l) (hn : l.Nodup) : o.Nodup := by
  obtain ⟨σ, τ, h1, h2⟩ := h
  rw [List.Nodup, List.pairwise_iff_getElem]
  intro i j hi hj hij hee
  have he : o[i]? = o[j]? := by rw [List.getElem?_eq_getElem hi, List.getElem?_eq_getElem hj, hee]
  rw [h2, h2] at he
  have hjl : σ j < l.length := by
    have : o[j]? ≠ none := by rw [List.getElem?_eq_getElem hj]; simp
    rw [h2] at this
    rcases Nat.lt_or_ge (σ j) l.length with h | h
    · exact h
    · exact absurd (List.getElem?_eq_none h) this
  have hil : σ i < l.length := by
    rcases Nat.lt_or_ge (σ i) l.length with h | h
    · exact h
    · rw [List.getElem?_eq_none h, List.getElem?_eq_getElem hjl] at he; cases he
  rw [List.getElem?_eq_getElem hil, List.getElem?_eq_getElem hjl] at he
  have : σ i = σ j := nodup_at hn (List.getElem?_eq_getElem hil) (by rw [List.getElem?_eq_getElem hjl, Option.some.inj he])
  have : τ (σ i) = τ (σ j) := by rw [this]
  rw [(h1 i).2, (h1 j).2] at this
  omega
theorem sorted_eq {l m o1 o2 : List ByteArray} (hl : l.Nodup) (hm : m.Nodup) (h1 : Shuf o1 l) (s1 : Srt o1.length o1) (h2 : Shuf o2 m) (s2 : Srt o2.length o2) : o1 = o2 ↔ ∀ s, s ∈ l ↔ s ∈ m := by
  constructor
  · intro e s
    rw [← h1.mem, ← h2.mem, e]
  · intro h
    have pw : ∀ {o : List ByteArray}, Srt o.length o → o.Pairwise fun a b => bl b a = false := fun {o} hs => by
      rw [List.pairwise_iff_getElem]
      intro i j hi hj hij
      exact hs i j _ _ hi hij (List.getElem?_eq_getElem hi) (List.getElem?_eq_getElem hj)
    refine List.Perm.eq_of_pairwise (le := fun a b => bl b a = false) (fun a b _ _ g1 g2 => bl_total g2 g1) (pw s1) (pw s2) ?_
    rw [List.perm_ext_iff_of_nodup (h1.nodup hl) (h2.nodup hm)]
    intro s
    rw [h1.mem, h2.mem]; exact h s

theorem swap_at {α : Type} {o : List α} {a k : Nat} (ha : a < o.length) (hk : k < o.length) (hak : a ≠ k) (x : Nat) : ((o.set a o[k]).set k o[a])[x]? = o[if x = k then a else if x = a then k else x]? := by
  by_cases e : x = k
  · subst e
    rw [if_pos rfl, List.getElem?_set_self (by simpa using hk), List.getElem?_eq_getElem ha]
  · rw [if_neg e, List.getElem?_set_ne (by omega)]
    by_cases e2 : x = a
    · subst e2
      rw [if_pos rfl, List.getElem?_set_self ha, List.getElem?_eq_getElem hk]
    · rw [if_neg e2, List.getElem?_set_ne (by omega)]

theorem ok_Sorted (l : List ByteArray) (hl : l.length ≤ 549755813888) : ∃ o, Ok P F.ref08_Sorted [.sl (l.map .str)] (.sl (o.map .str)) ∧ o.length = l.length ∧ Shuf o l ∧ Srt o.length o := by
  have := tx_ex (K := fun x => ∃ o, x = .sl (o.map .str) ∧ o.length = l.length ∧ Shuf o l ∧ Srt o.length o) k_ref08_Sorted (xs := [.sl (l.map .str)]) rfl (by simp [t_ref08_Sorted, T.dt]) (by
    refine d_l (.sl []) rfl fun _ => d_l (.sl (l.map .str)) (by
      show (Prim.app 1 false 16).ev [.sl [], .sl (l.map .str)] = _
      rw [e_app (all_map okc_str l) (by simp; omega) (by simp; omega)]; rfl) fun _ => ?_
    refine den_loop (fun m' ys => ∃ (a : Nat) (o : List ByteArray), a + m' = l.length ∧ o.length = l.length ∧ Shuf o l ∧ Srt a o ∧ ys = [i a, .sl (o.map .str)]) l.length ⟨0, l, by omega, rfl, ⟨id, id, fun x => ⟨rfl, rfl⟩, fun x => rfl⟩, fun p q x y h => by omega, rfl⟩ ?_
    rintro m' _ ⟨a, o, ha, ho, hsh, hsr, rfl⟩
    refine d_l _ (len_str o) fun _ => d_l (.bool (decide ((a : Int) < (o.length : Int)))) rfl fun _ => d_dec (p := (a : Int) < (o.length : Int)) (fun h => ?_) fun h => d_ret ⟨o, rfl, ho, hsh, by rw [show o.length = a by omega]; exact hsr⟩
    have hal : a < l.length := by omega
    refine d_l _ (e_inc (by omega)) fun _ => ?_
    refine den_loop (fun m2 ys => ∃ (k : Nat) (o : List ByteArray), k + m2 = l.length ∧ a < k ∧ o.length = l.length ∧ Shuf o l ∧ Srt a o ∧ (∀ (q : Nat) x y, a < q → q < k → o[a]? = some x → o[q]? = some y → bl y x = false) ∧ ys = [i k, .sl (o.map .str)]) (l.length - (a + 1)) ⟨a + 1, o, by omega, by omega, ho, hsh, hsr, (fun q x y h1 h2 => by omega), rfl⟩ ?_
    clear hsh hsr ho h
    rintro m2 _ ⟨k, o, hk, hak, ho, hsh, hsr, hin, rfl⟩
    refine d_l _ (len_str o) fun _ => d_l (.bool (decide ((k : Int) < (o.length : Int)))) rfl fun _ => d_dec (p := (k : Int) < (o.length : Int)) (fun h => ?_) fun h => ?_
    · have hko : k < o.length := by omega
      have hao : a < o.length := by omega
      have ek := e_idx (n := 1) (a := false) (str_at hko) rfl
      have ea := e_idx (n := 1) (a := false) (str_at hao) rfl
      refine d_l _ ek fun _ => d_l _ ek fun _ => d_l _ ea fun _ => d_l _ ea fun _ => d_l (.bool (bl o[k] o[a])) rfl fun _ => d_ite (fun hb => ?_) fun hb => ?_
      · have u1 : (Prim.upd 1 false).ev [.sl (o.map .str), i (a : Int), .str o[k]] = some (.sl ((o.set a o[k]).map .str)) := by rw [e_updT (by simpa using hao) rfl, List.map_set]
        have u2 : (Prim.upd 1 false).ev [.sl ((o.set a o[k]).map .str), i (k : Int), .str o[a]] = some (.sl (((o.set a o[k]).set k o[a]).map .str)) := by
          rw [e_updT (by simpa using hko) rfl]
          simp only [List.map_set]
        have hks : k < (o.set a o[k]).length := by simpa using hko
        have ek2 := e_idx (n := 1) (a := false) (str_at hks) rfl
        refine d_l _ ek fun _ => d_l _ ek fun _ => d_l _ ea fun _ => d_l _ ea fun _ => d_l _ ea fun _ => d_l _ u1 fun _ => d_l _ ek2 fun _ => d_l _ u2 fun _ => d_l _ (e_inc (by omega)) fun _ => d_cont rfl ?_
        have hget := swap_at hao hko (by omega : a ≠ k)
        have oa : o[a]? = some o[a] := List.getElem?_eq_getElem hao
        have ok' : o[k]? = some o[k] := List.getElem?_eq_getElem hko
        have hol : ((o.set a o[k]).set k o[a]).length = l.length := by simpa using ho
        generalize o[k] = vk at *
        generalize o[a] = va at *
        generalize (o.set a vk).set k va = o' at *
        refine ⟨m2 - 1, by omega, k + 1, o', by omega, by omega, hol, ?_, ?_, ?_, rfl⟩
        · obtain ⟨σ, τ, g1, g2⟩ := hsh
          refine ⟨fun x => σ (if x = k then a else if x = a then k else x), fun x => (if τ x = k then a else if τ x = a then k else τ x), fun x => ⟨?_, ?_⟩, fun x => by rw [hget, g2]⟩
          · have : (if (if τ x = k then a else if τ x = a then k else τ x) = k then a else if (if τ x = k then a else if τ x = a then k else τ x) = a then k else (if τ x = k then a else if τ x = a then k else τ x)) = τ x := by
              split <;> (try split) <;> (try split) <;> omega
            show σ (if (if τ x = k then a else if τ x = a then k else τ x) = k then a else if (if τ x = k then a else if τ x = a then k else τ x) = a then k else (if τ x = k then a else if τ x = a then k else τ x)) = x
            rw [this]; exact (g1 x).1
          · have e := (g1 (if x = k then a else if x = a then k else x)).2
            simp only [e]
            split <;> (try split) <;> (try split) <;> omega
        · intro p q x y hp hpq hx hy
          rw [hget] at hx hy
          rw [if_neg (by omega), if_neg (by omega)] at hx
          by_cases e : q = k
          · rw [if_pos e] at hy
            exact hsr p a x y hp hp hx hy
          · rw [if_neg e] at hy
            by_cases e2 : q = a
            · rw [if_pos e2] at hy
              exact hsr p k x y hp (by omega) hx hy
            · rw [if_neg e2] at hy
              exact hsr p q x y hp hpq hx hy
        · intro q x y hq hqk hx hy
          rw [hget] at hx hy
          rw [if_neg (by omega), if_pos rfl, ok'] at hx
          cases hx
          by_cases e : q = k
          · rw [if_pos e, oa] at hy
            cases hy
            exact bl_asymm hb
          · rw [if_neg e, if_neg (by omega)] at hy
            have := hin q va y hq (by omega) oa hy
            cases c : bl y vk with
            | false => rfl
            | true => rw [bl_trans c hb] at this; cases this
      · refine d_l _ (e_inc (by omega)) fun _ => d_cont rfl ⟨m2 - 1, by omega, k + 1, o, by omega, by omega, ho, hsh, hsr, fun q x y hq hqk hx hy => ?_, rfl⟩
        by_cases e : q = k
        · subst e
          rw [List.getElem?_eq_getElem hao] at hx
          rw [List.getElem?_eq_getElem hko] at hy
          cases hx; cases hy
          exact hb
        · exact hin q x y hq (by omega) hx hy
    · refine d_l _ (e_inc (by omega)) fun _ => d_cont rfl ⟨m' - 1, by omega, a + 1, o, by omega, ho, hsh, fun p q x y hp hpq hx hy => ?_, rfl⟩
      by_cases e : p = a
      · subst e
        have := (List.getElem?_eq_some_iff.1 hy).1
        exact hin q x y hpq (by omega) hx hy
      · exact hsr p q x y (by omega) hpq hx hy)
  obtain ⟨_, ⟨o, rfl, h1, h2, h3⟩, h⟩ := this
  exact ⟨o, h, h1, h2, h3⟩

theorem ok_texts3 (l m : List ByteArray) (hl : l.length ≤ 549755813888) : Ok P F.ref03_Texts [.sl (l.map .str), .sl (m.map .str)] (.bool (dq (l = m))) := by
  refine k_ref03_Texts _ _ rfl (d_l _ (len_str l) fun _ => d_l _ (len_str m) fun _ => d_l (.bool (!decide ((l.length : Int) = (m.length : Int)))) rfl fun _ => d_ndec (fun h => d_ret ?_) fun h => ?_)
  · rw [dq_f fun e => h (by rw [e])]
  · have hlm : l.length = m.length := by omega
    refine den_loop (fun m' ys => ∃ j : Nat, j + m' = l.length ∧ l.take j = m.take j ∧ ys = [i j]) l.length ⟨0, by omega, by simp, rfl⟩ ?_
    rintro m' _ ⟨j, hj, ht, rfl⟩
    refine d_l _ (len_str l) fun _ => d_l (.bool (decide ((j : Int) < (l.length : Int)))) rfl fun _ => d_dec (p := (j : Int) < (l.length : Int)) (fun h => ?_) fun h => d_ret ?_
    · have h1 : j < l.length := by omega
      have h2 : j < m.length := by omega
      refine d_l _ (e_idx (str_at h1) rfl) fun _ => d_l _ (e_idx (str_at h2) rfl) fun _ => d_l (.bool (!decide (l[j] = m[j]))) rfl fun _ => d_ndec (fun h => d_ret ?_) fun h => d_l _ (e_inc (by omega)) fun _ => d_cont rfl ⟨m' - 1, by omega, j + 1, by omega, take_step h1 h2 ht h, rfl⟩
      rw [dq_f fun e => h (get_eq e h1 h2)]
    · rw [dq_t]
      have e1 : l.take j = l := List.take_of_length_le (by omega)
      have e2 : m.take j = m := List.take_of_length_le (by omega)
      rw [← e1, ht, e2]
end Go.Proofs.YtopinhoalbgebaaGreatDoor.Tx
