/- The reference's subtyping (1): pairs of closed types, what is compared: Same, Prio, Lower, Label, Seen, index. -/
import Derived.Test.YtopinhoalbgebaaGreatDoorWk45
set_option linter.all false
namespace Go.Proofs.YtopinhoalbgebaaGreatDoor.Tx
open Go.Lf Go.Lf.S Go.Lf.Duo
set_option maxRecDepth 100000

noncomputable def dq (p : Prop) : Bool := @decide p (Classical.propDecidable p)
theorem dq_iff {p : Prop} : dq p = true ↔ p := by unfold dq; exact @decide_eq_true_iff p (Classical.propDecidable p)
theorem dq_t {p : Prop} (h : p) : dq p = true := dq_iff.2 h
theorem dq_f {p : Prop} (h : ¬ p) : dq p = false := by
  cases e : dq p with
  | false => rfl
  | true => exact absurd (dq_iff.1 e) h

theorem len_str (l : List ByteArray) : Prim.len.ev [.sl (l.map .str)] = some (i (l.length : Int)) := by rw [e_len, List.length_map]
theorem len_ty (l : List Ty) : Prim.len.ev [.sl (l.map Ty.enc)] = some (i (l.length : Int)) := by rw [e_len, List.length_map]
theorem take_step {α : Type} {l m : List α} {j : Nat} (hl : j < l.length) (hm : j < m.length) (h : l.take j = m.take j) (e : l[j] = m[j]) : l.take (j + 1) = m.take (j + 1) := by
  rw [List.take_succ_eq_append_getElem hl, List.take_succ_eq_append_getElem hm, h, e]
theorem get_eq {α : Type} {l m : List α} (e : l = m) {j : Nat} (hl : j < l.length) (hm : j < m.length) : l[j] = m[j] := by subst e; rfl

theorem ok_texts2 (l m : List ByteArray) (hl : l.length ≤ 549755813888) : Ok P F.ref02_texts [.sl (l.map .str), .sl (m.map .str)] (.bool (dq (l = m))) := by
  refine k_ref02_texts _ _ rfl (d_l _ (len_str l) fun _ => d_l _ (len_str m) fun _ => d_l (.bool (!decide ((l.length : Int) = (m.length : Int)))) rfl fun _ => d_ndec (fun h => d_ret ?_) fun h => ?_)
  · rw [dq_f fun e => h (by rw [e])]
  · have hlm : l.length = m.length := by omega
    refine den_loop (fun m' ys => ∃ j : Nat, j + m' = l.length ∧ l.take j = m.take j ∧ ys = [i j]) l.length ⟨0, by omega, by simp, rfl⟩ ?_
    rintro m' _ ⟨j, hj, ht, rfl⟩
    refine d_l _ (len_str l) fun _ => d_l (.bool (decide ((j : Int) < (l.length : Int)))) rfl fun _ => d_dec (p := (j : Int) < (l.length : Int)) (fun h => ?_) fun h => d_ret ?_
    · have h1 : j < l.length := by omega
      have h2 : j < m.length := by omega
      refine d_l _ (e_idx (str_at h1) rfl) fun _ => d_l _ (e_idx (str_at h2) rfl) fun _ => d_l (.bool (!decide (l[j] = m[j]))) rfl fun _ => d_ndec (fun h => d_ret ?_) fun h => d_l _ (e_inc (by omega)) fun _ => d_cont rfl ⟨m' - 1, by omega, j + 1, by omega, take_step h1 h2 ht h, rfl⟩
      rw [dq_f fun e => h (get_eq e h1 h2)]
    · rw [dq_t]
      have e1 : l.take j = l := List.take_of_length_le (by omega)
      have e2 : m.take j = m := List.take_of_length_le (by omega)
      rw [← e1, ht, e2]

theorem ok_same : ∀ a b : Ty, Ln a → Ok P F.ref02_Same [a.enc, b.enc] (.bool (dq (a = b))) := by
  intro a
  induction a using Ty.ind with
  | _ a ih =>
  intro b ha
  cases ha with
  | mk _ h1 h2 h =>
  obtain ⟨kd, p, nm, s, ls, ks⟩ := a
  obtain ⟨kd', p', nm', s', ls', ks'⟩ := b
  have h1 : ls.length ≤ 549755813888 := h1
  have h2 : ks.length ≤ 549755813888 := h2
  have ih : ∀ x ∈ ks, ∀ b, Ok P F.ref02_Same [x.enc, b.enc] (.bool (dq (x = b))) := fun x hx b => ih x hx b (h x hx)
  rw [Ty.enc_mk, Ty.enc_mk]
  refine k_ref02_Same _ _ rfl (d_l (.agg [i kd, i p, .str nm, i s, .sl (ls.map .str), .sl (ks.map Ty.enc)]) rfl fun _ => d_l (.agg [i kd', i p', .str nm', i s', .sl (ls'.map .str), .sl (ks'.map Ty.enc)]) rfl fun _ =>
    d_l (.bool (!decide (kd = kd'))) rfl fun _ => d_ndec (fun h => d_ret ?_) fun e1 => d_l (.bool (!decide (p = p'))) rfl fun _ => d_ndec (fun h => d_ret ?_) fun e2 => d_l (.bool (!decide (nm = nm'))) rfl fun _ => d_ndec (fun h => d_ret ?_) fun e3 => d_l (.bool (!decide (s = s'))) rfl fun _ => d_ndec (fun h => d_ret ?_) fun e4 =>
    d_call (ok_texts2 ls ls' h1) (d_l (.bool (!dq (ls = ls'))) rfl fun _ => d_ite (fun h => d_ret ?_) fun e5 => d_l _ (len_ty ks) fun _ => d_l _ (len_ty ks') fun _ => d_l (.bool (!decide ((ks.length : Int) = (ks'.length : Int)))) rfl fun _ => d_ndec (fun h => d_ret ?_) fun e6 => ?_))
  · rw [dq_f fun e => h (by cases e; rfl)]
  · rw [dq_f fun e => h (by cases e; rfl)]
  · rw [dq_f fun e => h (by cases e; rfl)]
  · rw [dq_f fun e => h (by cases e; rfl)]
  · rw [dq_f fun e => ?_]
    cases e
    rw [dq_t rfl] at h
    cases h
  · rw [dq_f fun e => h (by cases e; rfl)]
  · have e5 : ls = ls' := dq_iff.1 (by simpa using e5)
    have hlm : ks.length = ks'.length := by omega
    refine den_loop (fun m' ys => ∃ j : Nat, j + m' = ks.length ∧ ks.take j = ks'.take j ∧ ys = [i j]) ks.length ⟨0, by omega, by simp, rfl⟩ ?_
    rintro m' _ ⟨j, hj, ht, rfl⟩
    refine d_l _ (len_ty ks) fun _ => d_l (.bool (decide ((j : Int) < (ks.length : Int)))) rfl fun _ => d_dec (p := (j : Int) < (ks.length : Int)) (fun h => ?_) fun h => d_ret ?_
    · have h1 : j < ks.length := by omega
      have h2 : j < ks'.length := by omega
      refine d_l _ (e_idx (ty_at' h1) (Ty.okc_enc _)) fun _ => d_l _ (e_idx (ty_at' h2) (Ty.okc_enc _)) fun _ => d_call (ih _ (List.getElem_mem h1) ks'[j]) (d_l (.bool (!dq (ks[j] = ks'[j]))) rfl fun _ => d_ite (fun h => d_ret ?_) fun h => d_l _ (e_inc (by omega)) fun _ => d_cont rfl ⟨m' - 1, by omega, j + 1, by omega, take_step h1 h2 ht (dq_iff.1 (by simpa using h)), rfl⟩)
      rw [dq_f fun e => ?_]
      have : dq (ks[j] = ks'[j]) = true := dq_t (get_eq (by cases e; rfl) h1 h2)
      rw [this] at h; cases h
    · rw [dq_t]
      have e7 : ks.take j = ks := List.take_of_length_le (by omega)
      have e8 : ks'.take j = ks' := List.take_of_length_le (by omega)
      rw [← e7, ht, e8, e1, e2, e3, e4, e5]

/-! pairs -/
noncomputable def unfT (T : Ty) : Ty := open Classical in if h : ∃ u, Unf T u then Classical.choose h else T
theorem unfT_eq {T u : Ty} (h : Unf T u) : unfT T = u := by
  unfold unfT
  rw [dif_pos ⟨u, h⟩]
  exact unf_fun (Classical.choose_spec (⟨u, h⟩ : ∃ u, Unf T u)) h
def pz (u : Ty) : Int := if act u.kind then u.prio else 0
noncomputable def lw (p : Ty × Ty) : Ty × Ty := (raiseT (-pz (unfT p.1)) p.1, raiseT (-pz (unfT p.1)) p.2)

theorem raise_wr (k : Int) : ∀ t : Ty, raiseT (IntKind.i64.wrap k) t = raiseT k t := by
  intro t
  induction t using Ty.ind with
  | _ t ih =>
  obtain ⟨kd, p, nm, s, ls, ks⟩ := t
  rw [raiseT_mk, raiseT_mk, ad_wr]
  congr 1
  exact List.map_congr_left fun x hx => ih x hx

end Go.Proofs.YtopinhoalbgebaaGreatDoor.Tx
