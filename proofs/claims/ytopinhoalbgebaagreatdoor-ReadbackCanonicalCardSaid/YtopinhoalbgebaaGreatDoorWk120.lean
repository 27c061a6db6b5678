/- The reference's subtyping (1): pairs of closed types, what is compared: Same, Prio, Lower, Label, Seen, index. -/
import Derived.Test.YtopinhoalbgebaaGreatDoorWk45
set_option linter.all false
namespace Go.Proofs.YtopinhoalbgebaaGreatDoor.Tx
open Go.Lf Go.Lf.S Go.Lf.Duo
set_option maxRecDepth 100000

noncomputable def dq (p : Prop) : Bool := @decide p (Classical.propDecidable p)
theorem dq_iff {p : Prop} : dq p = true ↔ p := by unfold dq; exact @decide_eq_true_iff p (Classical.propDecidable p)
theorem dq_t {p : Prop} (h : p) : dq p = true := dq_iff.2 h
theorem dq_f {p : Prop} (h : ¬ p) : dq p = false := by
  cases e : dq p with
  | false => rfl
  | true => exact absurd (dq_iff.1 e) h

theorem len_str (l : List ByteArray) : Prim.len.ev [.sl (l.map .str)] = some (i (l.length : Int)) := by rw [e_len, List.length_map]
theorem len_ty (l : List Ty) : Prim.len.ev [.sl (l.map Ty.enc)] = some (i (l.length : Int)) := by rw [e_len, List.length_map]
theorem take_step {α : Type} {l m : List α} {j : Nat} (hl : j < l.length) (hm : j < m.length) (h : l.take j = m.take j) (e : l[j] = m[j]) : l.take (j + 1) = m.take (j + 1) := by
  rw [List.take_succ_eq_append_getElem hl, List.take_succ_eq_append_getElem hm, h, e]
theorem get_eq {α : Type} {l m : List α} (e : l = m) {j : Nat} (hl : j < l.length) (hm : j < m.length) : l[j] = m[j] := by subst e; rfl

theorem ok_texts2 (l m : List ByteArray) (hl : l.length ≤ 549755813888) : Ok P F.ref02_texts [.sl (l.map .str), .sl (m.map .str)] (.bool (dq (l = m))) := by
  refine k_ref02_texts _ _ rfl (d_l _ (len_str l) fun _ => d_l _ (len_str m) fun _ => d_l (.bool (!decide ((l.length : Int) = (m.length : Int)))) rfl fun _ => d_ndec (fun h => d_ret ?_) fun h => ?_)
  · rw [dq_f fun e => h (by rw [e])]
  · have hlm : l.length = m.length := by omega
    refine den_loop (fun m' ys => ∃ j : Nat, j + m' = l.length ∧ l.take j = m.take j ∧ ys = [i j]) l.length ⟨0, by omega, by simp, rfl⟩ ?_
    rintro m' _ ⟨j, hj, ht, rfl⟩
    refine d_l _ (len_str l) fun _ => d_l (.bool (decide ((j : Int) < (l.length : Int)))) rfl fun _ => d_dec (p := (j : Int) < (l.length : Int)) (fun h => ?_) fun h => d_ret ?_
    · have h1 : j < l.length := by omega
      have h2 : j < m.length := by omega
      refine d_l _ (e_idx (str_at h1) rfl) fun _ => d_l _ (e_idx (str_at h2) rfl) fun _ => d_l (.bool (!decide (l[j] = m[j]))) rfl fun _ => d_ndec (fun h => d_ret ?_) fun h => d_l _ (e_inc (by omega)) fun _ => d_cont rfl ⟨m' - 1, by omega, j + 1, by omega, take_step h1 h2 ht h, rfl⟩
      rw [dq_f fun e => h (get_eq e h1 h2)]
    · rw [dq_t]
      have e1 : l.take j = l := List.take_of_length_le (by omega)
      have e2 : m.take j = m := List.take_of_length_le (by omega)
      rw [← e1, ht, e2]

theorem ok_same : ∀ a b : Ty, Ln a → Ok P F.ref02_Same [a.enc, b.enc] (.bool (dq (a = b))) := by
  intro a
  induction a using Ty.ind with
  | _ a ih =>
  intro b ha
  cases ha with
  | mk _ h1 h2 h =>
  obtain ⟨kd, p, nm, s, ls, ks⟩ := a
  obtain ⟨kd', p', nm', s', ls', ks'⟩ := b
  have h1 : ls.length ≤ 549755813888 := h1
  have h2 : ks.length ≤ 549755813888 := h2
  have ih : ∀ x ∈ ks, ∀ b, Ok P F.ref02_Same [x.enc, b.enc] (.bool (dq (x = b))) := fun x hx b => ih x hx b (h x hx)
  rw [Ty.enc_mk, Ty.enc_mk]
  refine k_ref02_Same _ _ rfl (d_l (.agg [i kd, i p, .str nm, i s, .sl (ls.map .str), .sl (ks.map Ty.enc)]) rfl fun _ => d_l (.agg [i kd', i p', .str nm', i s', .sl (ls'.map .str), .sl (ks'.map Ty.enc)]) rfl fun _ =>
    d_l (.bool (!decide (kd = kd'))) rfl fun _ => d_ndec (fun h => d_ret ?_) fun e1 => d_l (.bool (!decide (p = p'))) rfl fun _ => d_ndec (fun h => d_ret ?_) fun e2 => d_l (.bool (!decide (nm = nm'))) rfl fun _ => d_ndec (fun h => d_ret ?_) fun e3 => d_l (.bool (!decide (s = s'))) rfl fun _ => d_ndec (fun h => d_ret ?_) fun e4 =>
    d_call (ok_texts2 ls ls' h1) (d_l (.bool (!dq (ls = ls'))) rfl fun _ => d_ite (fun h => d_ret ?_) fun e5 => d_l _ (len_ty ks) fun _ => d_l _ (len_ty ks') fun _ => d_l (.bool (!decide ((ks.length : Int) = (ks'.length : Int)))) rfl fun _ => d_ndec (fun h => d_ret ?_) fun e6 => ?_))
  · rw [dq_f fun e => h (by cases e; rfl)]
  · rw [dq_f fun e => h (by cases e; rfl)]
  · rw [dq_f fun e => h (by cases e; rfl)]
  · rw [dq_f fun e => h (by cases e; rfl)]
  · rw [dq_f fun e => ?_]
    cases e
    rw [dq_t rfl] at h
    cases h
  · rw [dq_f fun e => h (by cases e; rfl)]
  · have e5 : ls = ls' := dq_iff.1 (by simpa using e5)
    have hlm : ks.length = ks'.length := by omega
    refine den_loop (fun m' ys => ∃ j : Nat, j + m' = ks.length ∧ ks.take j = ks'.take j ∧ ys = [i j]) ks.length ⟨0, by omega, by simp, rfl⟩ ?_
    rintro m' _ ⟨j, hj, ht, rfl⟩
    refine d_l _ (len_ty ks) fun _ => d_l (.bool (decide ((j : Int) < (ks.length : Int)))) rfl fun _ => d_dec (p := (j : Int) < (ks.length : Int)) (fun h => ?_) fun h => d_ret ?_
    · have h1 : j < ks.length := by omega
      have h2 : j < ks'.length := by omega
      refine d_l _ (e_idx (ty_at' h1) (Ty.okc_enc _)) fun _ => d_l _ (e_idx (ty_at' h2) (Ty.okc_enc _)) fun _ => d_call (ih _ (List.getElem_mem h1) ks'[j]) (d_l (.bool (!dq (ks[j] = ks'[j]))) rfl fun _ => d_ite (fun h => d_ret ?_) fun h => d_l _ (e_inc (by omega)) fun _ => d_cont rfl ⟨m' - 1, by omega, j + 1, by omega, take_step h1 h2 ht (dq_iff.1 (by simpa using h)), rfl⟩)
      rw [dq_f fun e => ?_]
      have : dq (ks[j] = ks'[j]) = true := dq_t (get_eq (by cases e; rfl) h1 h2)
      rw [this] at h; cases h
    · rw [dq_t]
      have e7 : ks.take j = ks := List.take_of_length_le (by omega)
      have e8 : ks'.take j = ks' := List.take_of_length_le (by omega)
      rw [← e7, ht, e8, e1, e2, e3, e4, e5]

/-! pairs -/
def pe (p : Ty × Ty) : PV := .agg (Ty.cellsOf p.1 ++ Ty.cellsOf p.2)
theorem pe_okc (p : Ty × Ty) : (pe p).okc 12 true = true := rfl
theorem pe_1 (p : Ty × Ty) : sb 0 6 (pe p) = p.1.enc := by
  obtain ⟨⟨a, b, c, d, e, f⟩, ⟨a', b', c', d', e', f'⟩⟩ := p
  rw [Ty.enc_mk]; rfl
theorem pe_2 (p : Ty × Ty) : sb 6 6 (pe p) = p.2.enc := by
  obtain ⟨⟨a, b, c, d, e, f⟩, ⟨a', b', c', d', e', f'⟩⟩ := p
  rw [Ty.enc_mk]; rfl
theorem pr_at {l : List (Ty × Ty)} {j : Nat} (h : j < l.length) : (l.map pe)[j]? = some (pe l[j]) := by simp [h]
theorem len_pr (l : List (Ty × Ty)) : Prim.len.ev [.sl (l.map pe)] = some (i (l.length : Int)) := by rw [e_len, List.length_map]

noncomputable def unfT (T : Ty) : Ty := open Classical in if h : ∃ u, Unf T u then Classical.choose h else T
theorem unfT_eq {T u : Ty} (h : Unf T u) : unfT T = u := by
  unfold unfT
  rw [dif_pos ⟨u, h⟩]
  exact unf_fun (Classical.choose_spec (⟨u, h⟩ : ∃ u, Unf T u)) h
def pz (u : Ty) : Int := if act u.kind then u.prio else 0
noncomputable def lw (p : Ty × Ty) : Ty × Ty := (raiseT (-pz (unfT p.1)) p.1, raiseT (-pz (unfT p.1)) p.2)

theorem ok_prio_unf {t u : Ty} (h : Unf t u) (hl : Ln t) : Ok P F.ref08_Prio [t.enc] (.tup [i (pz u), .bool (act u.kind)]) := by
  have hU := ok_ref02_Unfold h hl
  obtain ⟨k, p, nm, s, ls, ks⟩ := u
  rw [Ty.enc_mk] at hU
  show Ok P F.ref08_Prio [t.enc] (.tup [i (if act k then p else 0), .bool (act k)])
  refine k_ref08_Prio _ _ rfl (d_l _ (e_okc (Ty.okc_enc t)) fun _ => d_call hU (d_l (.agg [i k, i p, .str nm, i s, .sl (ls.map .str), .sl (ks.map Ty.enc)]) rfl fun _ => d_l _ rfl fun _ => d_dec (fun h4 => d_l _ rfl fun _ => d_dec (fun h7 => d_ret ?_) fun h7 => d_ret ?_) fun h4 => d_ret ?_))
  · have h4 : 4 ≤ k := h4
    have h7 : k ≤ 7 := h7
    have : act k = true := by simp [act, h4, h7]
    rw [this]; rfl
  · have h7 : ¬ k ≤ 7 := h7
    have : act k = false := by simp [act, h7]
    rw [this]; rfl
  · have h4 : ¬ 4 ≤ k := h4
    have : act k = false := by simp [act, h4]
    rw [this]; rfl

theorem raise_wr (k : Int) : ∀ t : Ty, raiseT (IntKind.i64.wrap k) t = raiseT k t := by
  intro t
  induction t using Ty.ind with
  | _ t ih =>
  obtain ⟨kd, p, nm, s, ls, ks⟩ := t
  rw [raiseT_mk, raiseT_mk, ad_wr]
  congr 1
  exact List.map_congr_left fun x hx => ih x hx

theorem ok_Lower {A B u : Ty} (hA : Unf A u) (lA : Ln A) (lB : Ln B) : Ok P F.ref10_Lower [A.enc, B.enc] (pe (lw (A, B))) := by
  have e : lw (A, B) = (raiseT (IntKind.i64.wrap (-pz u)) A, raiseT (IntKind.i64.wrap (-pz u)) B) := by
    unfold lw; rw [show unfT (A, B).1 = u from unfT_eq hA, raise_wr, raise_wr]
  have h1 := ok_ref02_Raise A (IntKind.i64.wrap (-pz u)) lA
  have h2 := ok_ref02_Raise B (IntKind.i64.wrap (-pz u)) lB
  rw [e]
  generalize raiseT (IntKind.i64.wrap (-pz u)) A = A' at *
  generalize raiseT (IntKind.i64.wrap (-pz u)) B = B' at *
  have hn : (Prim.neg .i64).ev [i (pz u)] = some (i (IntKind.i64.wrap (-pz u))) := by
    show some (PV.int .i64 (IntKind.i64.wrap (0 - pz u))) = _
    rw [Int.zero_sub]
  refine k_ref10_Lower _ _ rfl (d_l _ (e_okc (Ty.okc_enc A)) fun _ => d_l _ (e_okc (Ty.okc_enc B)) fun _ => d_call (ok_prio_unf hA lA) (d_l (i (pz u)) rfl fun _ => d_l (.bool (act u.kind)) rfl fun _ => d_l _ hn fun _ => d_call h1 (d_l _ hn fun _ => d_call h2 ?_)))
  obtain ⟨a, b, c, d, e, f⟩ := A'
  obtain ⟨a', b', c', d', e', f'⟩ := B'
  rw [Ty.enc_mk, Ty.enc_mk]
  exact d_l _ rfl fun _ => d_ret rfl

def lbV : Option Ty → PV
  | some k => .tup [k.enc, .bool true]
  | none => .tup [.agg [i 0, i 0, .str ⟨#[]⟩, i 0, .sl [], .sl []], .bool false]
theorem ok_Label {t u : Ty} (h : Unf t u) (hl : Ln t) (hm : u.labels.length ≤ 549755813888) (hk : u.kids.length = u.labels.length) (s : ByteArray) :
    ∃ o, Ok P F.ref08_Label [t.enc, .str s] (lbV o) ∧ (∀ k, o = some k → ∃ j : Nat, u.labels[j]? = some s ∧ u.kids[j]? = some k) ∧ (o = none → s ∉ u.labels) := by
  have hU := ok_ref02_Unfold h hl
  have := tx_ex (K := fun x => ∃ o, x = lbV o ∧ (∀ k, o = some k → ∃ j : Nat, u.labels[j]? = some s ∧ u.kids[j]? = some k) ∧ (o = none → s ∉ u.labels)) k_ref08_Label (xs := [t.enc, .str s]) rfl (by simp [t_ref08_Label, T.dt]) (by
    obtain ⟨k, p, nm, sh, ls, ks⟩ := u
    rw [Ty.enc_mk] at hU
    have hm : ls.length ≤ 549755813888 := hm
    have hk : ks.length = ls.length := hk
    refine d_l _ (e_okc (Ty.okc_enc t)) fun _ => d_call hU (d_l (.agg [i k, i p, .str nm, i sh, .sl (ls.map .str), .sl (ks.map Ty.enc)]) rfl fun _ => den_loop (fun m' ys => ∃ j : Nat, j + m' = ls.length ∧ s ∉ ls.take j ∧ ys = [i j]) ls.length ⟨0, by omega, by simp, rfl⟩ ?_)
    rintro m' _ ⟨j, hj, ht, rfl⟩
    refine d_l _ (len_str ls) fun _ => d_l (.bool (decide ((j : Int) < (ls.length : Int)))) rfl fun _ => d_dec (p := (j : Int) < (ls.length : Int)) (fun h => ?_) fun h => d_ret ⟨none, rfl, (fun _ h => by cases h), fun _ => ?_⟩
    · have h1 : j < ls.length := by omega
      have h2 : j < ks.length := by omega
      refine d_l _ (e_idx (str_at h1) rfl) fun _ => d_l (.bool (decide (ls[j] = s))) rfl fun _ => d_dec (p := ls[j] = s) (fun e => ?_) fun e => d_l _ (e_inc (by omega)) fun _ => d_cont rfl ⟨m' - 1, by omega, j + 1, by omega, ?_, rfl⟩
      · refine d_l _ (e_idx (ty_at' h2) (Ty.okc_enc _)) fun _ => d_l _ (e_okc (Ty.okc_enc _)) fun _ => d_ret ⟨some ks[j], rfl, fun k hk => ?_, fun h => by cases h⟩
        cases hk
        exact ⟨j, by show ls[j]? = _; rw [List.getElem?_eq_getElem h1, e], by show ks[j]? = _; rw [List.getElem?_eq_getElem h2]⟩
      · rw [List.take_succ_eq_append_getElem h1]
        intro hc
        rcases List.mem_append.1 hc with hc | hc
        · exact ht hc
        · exact e (List.mem_singleton.1 hc).symm
    · have e : ls.take j = ls := List.take_of_length_le (by omega)
      rw [e] at ht; exact ht)
  obtain ⟨_, ⟨o, rfl, h1, h2⟩, h⟩ := this
  exact ⟨o, h, h1, h2⟩

theorem two_same {q r : Ty × Ty} : q = r ↔ q.1 = r.1 ∧ q.2 = r.2 := Prod.ext_iff
theorem ok_Seen (l : List (Ty × Ty)) (p : Ty × Ty) (hl : l.length ≤ 549755813888) (hL : ∀ q ∈ l, Ln q.1 ∧ Ln q.2) : Ok P F.ref10_Seen [.sl (l.map pe), pe p] (.bool (dq (p ∈ l))) := by
  refine k_ref10_Seen _ _ rfl (d_l _ (e_okc (pe_okc p)) fun _ => den_loop (fun m' ys => ∃ j : Nat, j + m' = l.length ∧ p ∉ l.take j ∧ ys = [i j]) l.length ⟨0, by omega, by simp, rfl⟩ ?_)
  rintro m' _ ⟨j, hj, ht, rfl⟩
  refine d_l _ (len_pr l) fun _ => d_l (.bool (decide ((j : Int) < (l.length : Int)))) rfl fun _ => d_dec (p := (j : Int) < (l.length : Int)) (fun h => ?_) fun h => d_ret ?_
  · have h1 : j < l.length := by omega
    have hL1 := hL _ (List.getElem_mem h1)
    have hno : l[j] ≠ p → p ∉ l.take (j + 1) := fun e hc => by
      rw [List.take_succ_eq_append_getElem h1] at hc
      rcases List.mem_append.1 hc with hc | hc
      · exact ht hc
      · exact e (List.mem_singleton.1 hc).symm
    have s1 := ok_same l[j].1 p.1 hL1.1
    have s2 := ok_same l[j].2 p.2 hL1.2
    rw [← pe_1, ← pe_1] at s1
    rw [← pe_2, ← pe_2] at s2
    refine d_l _ (e_idx (pr_at h1) (pe_okc _)) fun _ => d_call s1 (d_ite (fun h2 => ?_) fun h2 => ?_)
    · refine d_l _ (e_idx (pr_at h1) (pe_okc _)) fun _ => d_call s2 (d_ite (fun h3 => d_ret ?_) fun h3 => ?_)
      · rw [dq_t]
        have e : l[j] = p := two_same.2 ⟨dq_iff.1 h2, dq_iff.1 h3⟩
        rw [← e]; exact List.getElem_mem h1
      · refine d_l _ (e_inc (by omega)) fun _ => d_cont rfl ⟨m' - 1, by omega, j + 1, by omega, hno fun e => ?_, rfl⟩
        rw [dq_t (by rw [e])] at h3; cases h3
    · refine d_l _ (e_inc (by omega)) fun _ => d_cont rfl ⟨m' - 1, by omega, j + 1, by omega, hno fun e => ?_, rfl⟩
      rw [dq_t (by rw [e])] at h2; cases h2
  · rw [dq_f]
    have e : l.take j = l := List.take_of_length_le (by omega)
    rw [e] at ht; exact ht
end Go.Proofs.YtopinhoalbgebaaGreatDoor.Tx
