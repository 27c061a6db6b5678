/- Contracts: the package head (without the ranges over functions), slices.Index. -/
import Derived.Test.YtchedinkkliogaaDoorWk7
set_option linter.all false
namespace Go.Proofs.YtchedinkkliogaaDoor.Tx
open Go.Lf Go.Lf.S Go.Lf.Duo
set_option maxRecDepth 100000

/-- a sum as the machine has it -/
def ad (a b : Int) : Int := IntKind.i64.wrap (a + b)
def act (k : Int) : Bool := decide (4 ≤ k ∧ k ≤ 7)

/-- where a text stands first -/
def At (s : ByteArray) (l : List ByteArray) (r : Int) : Prop := (r = -1 ∧ s ∉ l) ∨ ∃ k : Nat, r = k ∧ l[k]? = some s ∧ ∀ j, j < k → l[j]? ≠ some s

theorem ok_slices_Index_string_string (l : List ByteArray) (s : ByteArray) (hl : l.length ≤ 549755813888) : ∃ r, Ok P F.slices_Index_string_string [.sl (l.map .str), .str s] (i r) ∧ At s l r := by
  have := tx_ex (K := fun x => ∃ r, x = i r ∧ At s l r) k_slices_Index_string_string (xs := [.sl (l.map .str), .str s]) rfl (by simp [t_slices_Index_string_string, T.dt]) (by
    refine d_l _ e_len fun _ => ?_
    refine den_loop (fun m ys => ∃ j : Nat, j + m = l.length ∧ (∀ q, q < j → l[q]? ≠ some s) ∧ ys = [i j]) l.length ⟨0, by omega, (fun q h => by omega), rfl⟩ ?_
    rintro m _ ⟨j, hj, hno, rfl⟩
    refine d_l _ rfl fun _ => d_dec (fun h => ?_) fun h => d_ret ⟨-1, rfl, .inl ⟨rfl, fun hm => ?_⟩⟩
    · have h : (j : Int) < ((l.map PV.str).length : Int) := h
      have hlt : j < l.length := by simp at h; omega
      refine d_l _ (e_idx (str_at hlt) rfl) fun _ => d_l _ rfl fun _ => d_dec (fun h => d_ret ⟨j, rfl, .inr ⟨j, rfl, ?_, hno⟩⟩) fun h => d_l _ (e_inc (by omega)) fun _ => d_cont rfl ⟨m - 1, by omega, j + 1, by omega, fun q hq => ?_, rfl⟩
      · have h : s = l[j] := h
        rw [List.getElem?_eq_getElem hlt, ← h]
      · have h : ¬ s = l[j] := h
        by_cases hqj : q < j
        · exact hno q hqj
        · have : q = j := by omega
          subst this
          rw [List.getElem?_eq_getElem hlt]
          intro he
          exact h (Option.some.inj he).symm
    · have h : ¬ (j : Int) < ((l.map PV.str).length : Int) := h
      simp at h
      obtain ⟨q, hq, he⟩ := List.getElem_of_mem hm
      exact hno q (by omega) (by rw [List.getElem?_eq_getElem hq, he]))
  obtain ⟨_, ⟨r, rfl, hr⟩, h⟩ := this
  exact ⟨r, h, hr⟩

end Go.Proofs.YtchedinkkliogaaDoor.Tx
