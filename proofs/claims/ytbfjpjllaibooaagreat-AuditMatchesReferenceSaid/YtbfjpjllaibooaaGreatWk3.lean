/- Contracts: right types. -/
import Derived.Test.YtbfjpjllaibooaaGreatWk2
set_option linter.all false
namespace Go.Proofs.YtbfjpjllaibooaaGreat.Tx
open Go.Lf Go.Lf.S Go.Lf.Duo
set_option maxRecDepth 100000

theorem str_at {ls : List ByteArray} {j : Nat} (h : j < ls.length) : (ls.map PV.str)[j]? = some (.str ls[j]) := by simp [h]

theorem ok_ref02_in (s : ByteArray) (ls : List ByteArray) (hl : ls.length ≤ 9223372036854775807) : Ok P F.ref02_in [.str s, .sl (ls.map .str)] (.bool (memB s ls)) := by
  refine k_ref02_in _ _ rfl ?_
  refine den_loop (fun m ys => ∃ j : Nat, j + m = ls.length ∧ (s ∈ ls ↔ s ∈ ls.drop j) ∧ ys = [i j]) ls.length ⟨0, by omega, by simp, rfl⟩ ?_
  rintro m _ ⟨j, hj, hs, rfl⟩
  refine d_l _ e_len fun _ => d_l _ rfl fun _ => d_dec (fun h => ?_) fun h => d_ret ?_
  · have h : (j : Int) < ((ls.map PV.str).length : Int) := h
    have hlt : j < ls.length := by simp at h; omega
    have hd : ls.drop j = ls[j] :: ls.drop (j + 1) := List.drop_eq_getElem_cons hlt
    rw [hd] at hs
    refine d_l _ (e_idx (str_at hlt) rfl) fun _ => d_l _ rfl fun _ => d_dec (fun h => d_ret ?_) fun h => ?_
    · have h : ls[j] = s := h
      have : s ∈ ls := by rw [hs, h]; exact List.mem_cons_self
      rw [memB_iff.2 this]
    · have h : ¬ ls[j] = s := h
      refine d_l _ (e_inc (by omega)) fun _ => d_cont rfl ⟨m - 1, by omega, j + 1, by omega, ?_, rfl⟩
      rw [hs, List.mem_cons]
      constructor
      · rintro (e | e)
        · exact absurd e.symm h
        · exact e
      · exact .inr
  · have h : ¬ (j : Int) < ((ls.map PV.str).length : Int) := h
    have hd : ls.drop j = [] := List.drop_eq_nil_of_le (by simp at h; omega)
    rw [hd] at hs
    have : ¬ s ∈ ls := by rw [hs]; simp
    have : memB s ls = false := by rw [Bool.eq_false_iff]; exact fun e => this (memB_iff.1 e)
    rw [this]

end Go.Proofs.YtbfjpjllaibooaaGreat.Tx
