/- Contracts: right types. -/
import Derived.Test.YtopinhoalbgebaaGreatDoorWk2
set_option linter.all false
namespace Go.Proofs.YtopinhoalbgebaaGreatDoor.Tx
open Go.Lf Go.Lf.S Go.Lf.Duo
set_option maxRecDepth 100000

theorem str_at {ls : List ByteArray} {j : Nat} (h : j < ls.length) : (ls.map PV.str)[j]? = some (.str ls[j]) := by simp [h]

theorem ok_ref02_in (s : ByteArray) (ls : List ByteArray) (hl : ls.length ≤ 9223372036854775807) : Ok P F.ref02_in [.str s, .sl (ls.map .str)] (.bool (memB s ls)) := by
  refine k_ref02_in _ _ rfl ?_
  refine den_loop (fun m ys => ∃ j : Nat, j + m = ls.length ∧ (s ∈ ls ↔ s ∈ ls.drop j) ∧ ys = [i j]) ls.length ⟨0, by omega, by simp, rfl⟩ ?_
  rintro m _ ⟨j, hj, hs, rfl⟩
  refine d_l _ e_len fun _ => d_l _ rfl fun _ => d_dec (fun h => ?_) fun h => d_ret ?_
  · have h : (j : Int) < ((ls.map PV.str).length : Int) := h
    have hlt : j < ls.length := by simp at h; omega
    have hd : ls.drop j = ls[j] :: ls.drop (j + 1) := List.drop_eq_getElem_cons hlt
    rw [hd] at hs
    refine d_l _ (e_idx (str_at hlt) rfl) fun _ => d_l _ rfl fun _ => d_dec (fun h => d_ret ?_) fun h => ?_
    · have h : ls[j] = s := h
      have : s ∈ ls := by rw [hs, h]; exact List.mem_cons_self
      rw [memB_iff.2 this]
    · have h : ¬ ls[j] = s := h
      refine d_l _ (e_inc (by omega)) fun _ => d_cont rfl ⟨m - 1, by omega, j + 1, by omega, ?_, rfl⟩
      rw [hs, List.mem_cons]
      constructor
      · rintro (e | e)
        · exact absurd e.symm h
        · exact e
      · exact .inr
  · have h : ¬ (j : Int) < ((ls.map PV.str).length : Int) := h
    have hd : ls.drop j = [] := List.drop_eq_nil_of_le (by simp at h; omega)
    rw [hd] at hs
    have : ¬ s ∈ ls := by rw [hs]; simp
    have : memB s ls = false := by rw [Bool.eq_false_iff]; exact fun e => this (memB_iff.1 e)
    rw [this]

theorem ok_ref02_Labels (ls : List ByteArray) (hl : ls.length ≤ 9223372036854775807) (hs : ∀ s ∈ ls, s.size ≤ 9223372036854775807) : ∃ r, Ok P F.ref02_Labels [.sl (ls.map .str)] (.bool r) ∧ (r = true → ls.Nodup) := by
  have := tx_ex (K := fun x => ∃ r, x = .bool r ∧ (r = true → ls.Nodup)) k_ref02_Labels (xs := [.sl (ls.map .str)]) rfl (by simp [t_ref02_Labels, T.dt]) (by
    refine den_loop (fun m ys => ∃ j : Nat, j + m = ls.length ∧ (ls.take j).Nodup ∧ ys = [i j]) ls.length ⟨0, by omega, by simp, rfl⟩ ?_
    rintro m _ ⟨j, hj, hnd, rfl⟩
    refine d_l _ e_len fun _ => d_l _ rfl fun _ => d_dec (fun h => ?_) fun h => d_ret ⟨true, rfl, fun _ => ?_⟩
    rotate_left
    · have h : ¬ (j : Int) < ((ls.map PV.str).length : Int) := h
      rw [List.take_of_length_le (by simp at h; omega)] at hnd
      exact hnd
    have h : (j : Int) < ((ls.map PV.str).length : Int) := h
    have hlt : j < ls.length := by simp at h; omega
    obtain ⟨r, hr⟩ := ok_ref01_Name ls[j] (hs _ (List.getElem_mem hlt))
    refine d_l _ (e_idx (str_at hlt) rfl) fun _ => d_call hr (d_l _ rfl fun _ => d_ite (fun _ => d_ret ⟨false, rfl, fun h => by cases h⟩) fun _ => ?_)
    refine d_l _ (e_idx (str_at hlt) rfl) fun _ => d_l _ (e_slcT (all_map okc_str _) (by simp; omega)) fun _ => ?_
    have hc := ok_ref02_in ls[j] (ls.take j) (by simp; omega)
    rw [List.map_take] at hc
    refine d_call hc (d_ite (fun _ => d_ret ⟨false, rfl, fun h => by cases h⟩) fun hno => d_l _ (e_inc (by omega)) fun _ => d_cont rfl ⟨m - 1, by omega, j + 1, by omega, ?_, rfl⟩)
    rw [List.take_succ_eq_append_getElem hlt, List.nodup_append]
    refine ⟨hnd, by simp, fun x hx y hy he => ?_⟩
    have hy : y = ls[j] := by simpa using hy
    subst he; subst hy
    have : memB ls[j] (ls.take j) = true := memB_iff.2 hx
    rw [this] at hno; cases hno)
  obtain ⟨_, ⟨r, rfl, hr⟩, h⟩ := this
  exact ⟨r, h, hr⟩

theorem ok_ref02_shape (t : Ty) (hlim : Lim t) : ∃ b, Ok P F.ref02_shape [t.enc] (.bool b) ∧ (b = true → Wf1 t) := by
  cases hlim with
  | mk _ hn hl hll hkl hkk =>
  obtain ⟨k, p, nm, s, ls, ks⟩ := t
  obtain ⟨nb, hnb⟩ := ok_ref01_Name nm hn
  obtain ⟨lb, hlb, hlnd⟩ := ok_ref02_Labels ls hll hl
  have hp := ok_ref02_prio p
  have hs := ok_ref02_prio s
  have := tx_ex (K := fun x => ∃ b, x = .bool b ∧ (b = true → Wf1 (.mk k p nm s ls ks))) k_ref02_shape (xs := [(Ty.mk k p nm s ls ks).enc]) rfl (by simp [t_ref02_shape, T.dt]) (by
    rw [Ty.enc_mk]
    refine d_l _ (by rfl) fun _ => ?_
    repeat' (first
      | exact d_ret ⟨false, rfl, fun h => by cases h⟩
      | refine d_call hp ?_
      | refine d_call hs ?_
      | refine d_call hnb ?_
      | refine d_call hlb ?_
      | refine d_dec (fun _ => ?_) (fun _ => ?_)
      | refine d_ite (fun _ => ?_) (fun _ => ?_)
      | refine d_l _ rfl fun _ => ?_)
    all_goals
      refine d_ret ⟨_, rfl, fun _ => ?_⟩
      simp only [decide_eq_true_eq, List.length_map] at *
      unfold Wf1
      simp only [Ty.kind, Ty.prio, Ty.shift, Ty.kids, Ty.labels]
      refine ⟨by omega, ?_⟩
      first
        | exact hlnd (by assumption)
        | exact hlnd (by simpa using (by assumption : (!lb) = false))
        | (have hz : ls = [] := List.eq_nil_of_length_eq_zero (by omega)
           rw [hz]; exact List.nodup_nil))
  obtain ⟨_, ⟨b, rfl, hb⟩, h⟩ := this
  exact ⟨b, h, hb⟩

end Go.Proofs.YtopinhoalbgebaaGreatDoor.Tx
