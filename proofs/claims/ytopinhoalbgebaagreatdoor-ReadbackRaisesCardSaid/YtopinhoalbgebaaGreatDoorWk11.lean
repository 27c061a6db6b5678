/- Contracts: the package head (without the ranges over functions), slices.Index. -/
import Derived.Test.YtopinhoalbgebaaGreatDoorWk7
set_option linter.all false
namespace Go.Proofs.YtopinhoalbgebaaGreatDoor.Tx
open Go.Lf Go.Lf.S Go.Lf.Duo
set_option maxRecDepth 100000

/-- a sum as the machine has it -/
def ad (a b : Int) : Int := IntKind.i64.wrap (a + b)
def act (k : Int) : Bool := decide (4 ≤ k ∧ k ≤ 7)

theorem ok_head_action (k : Int) : Ok P F.head_action [i k] (.bool (act k)) := by
  refine k_head_action _ _ rfl (d_l _ rfl fun _ => d_dec (fun h => d_l _ rfl fun _ => d_ret ?_) fun h => d_ret ?_)
  · have h : 4 ≤ k := h
    show PV.bool (decide (k ≤ 7)) = _
    simp [act, h]
  · have h : ¬ 4 ≤ k := h
    simp [act, h]

theorem ok_head_Prio (ds : List Nd) (a : Nat) (ha : a < ds.length) (s : Int) : Ok P F.head_Prio [.agg [.sl (ds.map Nd.enc)], .agg [i (a : Int), i s]] (if act ds[a].kind then .tup [i (ad ds[a].prio s), .bool true] else .tup [i 0, .bool false]) := by
  refine k_head_Prio _ _ rfl (d_l (.agg [.sl (ds.map Nd.enc)]) rfl fun _ => d_l (.agg [i (a : Int), i s]) rfl fun _ => d_l _ (e_idx (nd_at ha) (Nd.okc_enc _)) fun _ => d_l _ (e_okc (Nd.okc_enc _)) fun _ => d_call (ok_head_action ds[a].kind) (d_l _ rfl fun _ => d_ite (fun h => d_ret ?_) fun h => d_l _ rfl fun _ => d_ret ?_))
  · have : act ds[a].kind = false := by simpa using h
    rw [this]; rfl
  · have : act ds[a].kind = true := by simpa using h
    rw [this]; rfl

theorem ok_head_Raise (a s k : Int) : Ok P F.head_Raise [.agg [i a, i s], i k] (.agg [i a, i (ad s k)]) :=
  k_head_Raise _ _ rfl (d_l (.agg [i a, i s]) rfl fun _ => d_l _ rfl fun _ => d_l _ rfl fun _ => d_ret rfl)

theorem ok_head_Next (ds : List Nd) (a : Nat) (ha : a < ds.length) (s : Int) (k : Nat) (hk : k < ds[a].next.length) :
    Ok P F.head_Next [.agg [.sl (ds.map Nd.enc)], .agg [i (a : Int), i s], i (k : Int)] (.tup [.agg [i ds[a].next[k].node, i (ad ds[a].next[k].shift s)], .bool true]) := by
  refine k_head_Next _ _ rfl (d_l (.agg [.sl (ds.map Nd.enc)]) rfl fun _ => d_l (.agg [i (a : Int), i s]) rfl fun _ => d_l _ (e_idx (nd_at ha) (Nd.okc_enc _)) fun _ => d_l _ rfl fun _ => d_dec (fun h => ?_) fun _ => d_l _ e_len fun _ => d_l _ rfl fun _ => d_dec (fun h => ?_) fun _ => ?_)
  · have h : (k : Int) < 0 := h
    omega
  · have h : ((ds[a].next.map Rf.enc).length : Int) ≤ (k : Int) := h
    simp at h; omega
  · exact d_l _ (e_idx (rf_at hk) (Rf.okc_enc _)) fun _ => d_call (ok_head_Raise ds[a].next[k].node ds[a].next[k].shift s) (d_l (.agg [i ds[a].next[k].node, i (ad ds[a].next[k].shift s)]) rfl fun _ => d_ret rfl)

theorem ok_head_Next_no (ds : List Nd) (a : Nat) (ha : a < ds.length) (s k : Int) (hk : k < 0 ∨ (ds[a].next.length : Int) ≤ k) :
    Ok P F.head_Next [.agg [.sl (ds.map Nd.enc)], .agg [i (a : Int), i s], i k] (.tup [.agg [i 0, i 0], .bool false]) := by
  refine k_head_Next _ _ rfl (d_l (.agg [.sl (ds.map Nd.enc)]) rfl fun _ => d_l (.agg [i (a : Int), i s]) rfl fun _ => d_l _ (e_idx (nd_at ha) (Nd.okc_enc _)) fun _ => d_l _ rfl fun _ => d_dec (fun h => d_ret rfl) fun h => d_l _ e_len fun _ => d_l _ rfl fun _ => d_dec (fun h => d_ret rfl) fun h2 => ?_)
  have h : ¬ k < 0 := h
  have h2 : ¬ ((ds[a].next.map Rf.enc).length : Int) ≤ k := h2
  simp at h2; omega

/-- where a text stands first -/
def At (s : ByteArray) (l : List ByteArray) (r : Int) : Prop := (r = -1 ∧ s ∉ l) ∨ ∃ k : Nat, r = k ∧ l[k]? = some s ∧ ∀ j, j < k → l[j]? ≠ some s

theorem ok_slices_Index_string_string (l : List ByteArray) (s : ByteArray) (hl : l.length ≤ 549755813888) : ∃ r, Ok P F.slices_Index_string_string [.sl (l.map .str), .str s] (i r) ∧ At s l r := by
  have := tx_ex (K := fun x => ∃ r, x = i r ∧ At s l r) k_slices_Index_string_string (xs := [.sl (l.map .str), .str s]) rfl (by simp [t_slices_Index_string_string, T.dt]) (by
    refine d_l _ e_len fun _ => ?_
    refine den_loop (fun m ys => ∃ j : Nat, j + m = l.length ∧ (∀ q, q < j → l[q]? ≠ some s) ∧ ys = [i j]) l.length ⟨0, by omega, (fun q h => by omega), rfl⟩ ?_
    rintro m _ ⟨j, hj, hno, rfl⟩
    refine d_l _ rfl fun _ => d_dec (fun h => ?_) fun h => d_ret ⟨-1, rfl, .inl ⟨rfl, fun hm => ?_⟩⟩
    · have h : (j : Int) < ((l.map PV.str).length : Int) := h
      have hlt : j < l.length := by simp at h; omega
      refine d_l _ (e_idx (str_at hlt) rfl) fun _ => d_l _ rfl fun _ => d_dec (fun h => d_ret ⟨j, rfl, .inr ⟨j, rfl, ?_, hno⟩⟩) fun h => d_l _ (e_inc (by omega)) fun _ => d_cont rfl ⟨m - 1, by omega, j + 1, by omega, fun q hq => ?_, rfl⟩
      · have h : s = l[j] := h
        rw [List.getElem?_eq_getElem hlt, ← h]
      · have h : ¬ s = l[j] := h
        by_cases hqj : q < j
        · exact hno q hqj
        · have : q = j := by omega
          subst this
          rw [List.getElem?_eq_getElem hlt]
          intro he
          exact h (Option.some.inj he).symm
    · have h : ¬ (j : Int) < ((l.map PV.str).length : Int) := h
      simp at h
      obtain ⟨q, hq, he⟩ := List.getElem_of_mem hm
      exact hno q (by omega) (by rw [List.getElem?_eq_getElem hq, he]))
  obtain ⟨_, ⟨r, rfl, hr⟩, h⟩ := this
  exact ⟨r, h, hr⟩

end Go.Proofs.YtopinhoalbgebaaGreatDoor.Tx
