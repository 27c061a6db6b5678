/- The reference of the package scope: one node and what is below it, exactly (2). -/
import Derived.Test.YtfmbddfenghnlaaGreatDoorWk136
set_option linter.all false
namespace Go.Proofs.YtfmbddfenghnlaaGreatDoor.Tx
open Go.Lf Go.Lf.S Go.Lf.Duo
set_option maxRecDepth 100000

def pfx (k : Int) : Bool := decide (2 ≤ k) && decide (k ≤ 5)
def fstD (ds : List Df) (s : ByteArray) : Option Df := ds.find? fun d => decide (d.name = s)
theorem ok_In06 (s : ByteArray) (l : List ByteArray) (hl : l.length ≤ 549755813888) : Ok P F.ref03_In [.str s, .sl (l.map .str)] (.bool (pb (s ∈ l))) := by
  refine k_ref03_In _ _ rfl ?_
  refine den_loop (fun m' ys => ∃ j : Nat, j + m' = l.length ∧ s ∉ l.take j ∧ ys = [i j]) l.length ⟨0, by omega, by simp, rfl⟩ ?_
  rintro m' _ ⟨j, hj, hno, rfl⟩
  refine d_l _ (len_eq l) fun _ => d_l (.bool (decide ((j : Int) < (l.length : Int)))) rfl fun _ => d_dec (p := (j : Int) < (l.length : Int)) (fun h => ?_) fun h => d_ret ?_
  · have hjl : j < l.length := by omega
    refine d_l _ (e_idx (mp_at (f := PV.str) hjl) rfl) fun _ => d_l (.bool (decide (l[j] = s))) rfl fun _ => d_dec (p := l[j] = s) (fun e => d_ret ?_) fun e => d_l _ (e_inc (by omega)) fun _ => d_cont rfl ⟨m' - 1, by omega, j + 1, by omega, fun hc => ?_, rfl⟩
    · rw [pb_iff.2 (e ▸ List.getElem_mem hjl)]
    · rw [List.take_succ_eq_append_getElem hjl] at hc
      rcases List.mem_append.1 hc with hc | hc
      · exact hno hc
      · exact e (List.mem_singleton.1 hc).symm
  · rw [List.take_of_length_le (by omega)] at hno
    rw [pb_false.2 hno]

theorem ok_Find06 (w : Pg) (s : ByteArray) (hl : w.defs.length ≤ 1000000) : ∃ r : Int, Ok P F.ref06_Find [w.enc, .str s] (i r) ∧
    ((r < 0 ∧ fstD w.defs s = none) ∨ ∃ (j : Nat) (d : Df), r = j ∧ w.defs[j]? = some d ∧ d.name = s ∧ fstD w.defs s = some d ∧ ∀ q d', q < j → w.defs[q]? = some d' → d'.name ≠ s) := by
  have := tx_ex (K := fun x => ∃ r : Int, x = i r ∧ ((r < 0 ∧ fstD w.defs s = none) ∨ ∃ (j : Nat) (d : Df), r = j ∧ w.defs[j]? = some d ∧ d.name = s ∧ fstD w.defs s = some d ∧ ∀ q d', q < j → w.defs[q]? = some d' → d'.name ≠ s)) k_ref06_Find (xs := [w.enc, .str s]) rfl (by simp [t_ref06_Find, T.dt]) (by
    refine d_l _ (e_okc (Pg.okc_enc w)) fun _ => ?_
    refine den_loop (fun m' ys => ∃ j : Nat, j + m' = w.defs.length ∧ (∀ d ∈ w.defs.take j, d.name ≠ s) ∧ ys = [i j]) w.defs.length ⟨0, by omega, by simp, rfl⟩ ?_
    rintro m' _ ⟨j, hj, hno, rfl⟩
    refine d_l _ (len_eq w.defs) fun _ => d_l (.bool (decide ((j : Int) < (w.defs.length : Int)))) rfl fun _ => d_dec (p := (j : Int) < (w.defs.length : Int)) (fun h => ?_) fun h => d_ret ⟨-1, rfl, .inl ⟨by omega, ?_⟩⟩
    · have hjl : j < w.defs.length := by omega
      refine d_l _ (e_idx (mp_at (f := Df.enc) hjl) (Df.okc_enc _)) fun _ => d_l (.bool (decide (w.defs[j].name = s))) rfl fun _ => d_dec (p := w.defs[j].name = s) (fun e => d_ret ⟨j, rfl, .inr ⟨j, w.defs[j], rfl, List.getElem?_eq_getElem hjl, e, ?_, ?_⟩⟩) fun e => d_l _ (e_inc (by omega)) fun _ => d_cont rfl ⟨m' - 1, by omega, j + 1, by omega, fun d hd => ?_, rfl⟩
      · unfold fstD
        rw [List.find?_eq_some_iff_getElem]
        refine ⟨by simpa using e, j, hjl, rfl, fun q hq => ?_⟩
        have := hno w.defs[q] (List.mem_take_iff_getElem.2 ⟨q, by omega, rfl⟩)
        simpa using this
      · intro q d' hq hd
        have hql := (List.getElem?_eq_some_iff.1 hd).1
        exact hno d' (List.mem_take_iff_getElem.2 ⟨q, by omega, (List.getElem?_eq_some_iff.1 hd).2⟩)
      · rw [List.take_succ_eq_append_getElem hjl] at hd
        rcases List.mem_append.1 hd with hd | hd
        · exact hno d hd
        · obtain rfl := List.mem_singleton.1 hd; exact e
    · rw [List.take_of_length_le (by omega)] at hno
      unfold fstD
      rw [List.find?_eq_none]
      exact fun d hd => by simpa using hno d hd)
  obtain ⟨_, ⟨r, rfl, hr⟩, h⟩ := this
  exact ⟨r, h, hr⟩

end Go.Proofs.YtfmbddfenghnlaaGreatDoor.Tx
