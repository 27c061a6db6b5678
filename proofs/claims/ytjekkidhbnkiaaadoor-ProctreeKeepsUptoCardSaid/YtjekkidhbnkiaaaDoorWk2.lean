/- Contracts: sizes of types. -/
import Derived.Test.YtjekkidhbnkiaaaDoorWk1
set_option linter.all false
namespace Go.Proofs.YtjekkidhbnkiaaaDoor.Tx
open Go.Lf Go.Lf.S Go.Lf.Duo
set_option maxRecDepth 100000
/-! sizes -/
theorem szs_len (l : List Ty) : l.length ≤ Ty.szs l := by
 induction l with
 | nil => simp
 | cons x l ih => simp only [List.length_cons, Ty.szs]; have : 1 ≤ Ty.sz x := by { cases x; simp [Ty.sz] }; omega
mutual
def dep : Ty → Nat
 | .mk _ _ _ _ _ ks => deps ks + 1
def deps : List Ty → Nat
 | [] => 0
 | k :: ks => max (dep k) (deps ks)
end
theorem deps_take (l : List Ty) (j : Nat) (h : j < l.length) : deps (l.take (j + 1)) = max (deps (l.take j)) (dep l[j]) := by
 induction l generalizing j with
 | nil => simp at h
 | cons x l ih =>
  cases j with
  | zero => simp [deps]
  | succ j =>
   simp only [List.take_succ_cons, deps, List.getElem_cons_succ]
   rw [ih j (by simpa using h)]; omega
mutual
theorem dep_le : ∀ t : Ty, dep t ≤ t.sz
 | .mk _ _ _ _ _ ks => by simp only [dep, Ty.sz]; have := deps_le ks; omega
theorem deps_le : ∀ l : List Ty, deps l ≤ Ty.szs l
 | [] => by simp [deps]
 | k :: ks => by simp only [deps, Ty.szs]; have := dep_le k; have := deps_le ks; omega
end
theorem ok_ref02_Depth : ∀ t : Ty, t.sz ≤ 1099511627776 → Ok P F.ref02_Depth [t.enc] (i (dep t)) := by
 intro t
 induction t using Ty.ind with
 | _ t ih =>
 obtain ⟨k, p, nm, s, ls, ks⟩ := t
 intro hz
 simp only [Ty.sz] at hz
 simp only [dep]
 have hlen := szs_len ks
 have hdl := deps_le ks
 rw [Ty.enc_mk]
 refine k_ref02_Depth _ _ rfl (d_l _ (by rfl) fun _ => ?_)
 refine den_rounds (fun j => [i j, i ((deps (ks.take j) : Nat) : Int)]) ks.length rfl (fun j hj => ?_) ?_
 ·refine d_l _ e_len fun _ => d_l _ rfl fun _ => d_dec (fun h => ?_) fun h => absurd (show (j : Int) < ((ks.map Ty.enc).length : Int) by simp; omega) h
  have hk : (ks.map Ty.enc)[j]? = some (ks[j]).enc := by simp [hj]
  have hmem : ks[j] ∈ ks := List.getElem_mem hj
  have hs1 := Ty.szs_mem hmem
  refine d_l _ (e_idx hk (Ty.okc_enc _)) fun _ => d_call (ih _ hmem (by omega)) (d_l _ rfl fun _ => d_l _ (e_inc (by omega)) fun _ => d_cont rfl ?_)
  show [_, _] = [_, _]
  rw [deps_take ks j hj]
  congr 2
  simp only [S.i]; congr 1
  split <;> omega
 ·refine d_l _ e_len fun _ => d_l _ rfl fun _ => d_dec (fun h => ?_) fun h => d_l _ (e_add (by simp; omega) (by simp; omega)) fun _ => d_ret ?_
  ·have h : (ks.length : Int) < ((ks.map Ty.enc).length : Int) := h
   simp at h
  ·simp
/-! count -/
mutual
def cnt : Ty → Int → Int
 | .mk _ _ _ _ _ ks, m => cnts ks (m - 1)
def cnts : List Ty → Int → Int
 | [], m => m
 | k :: ks, m => if 0 ≤ m then cnts ks (cnt k m) else m
end
mutual
theorem cnt_spec : ∀ (t : Ty) (m : Int), 0 ≤ m → -1 ≤ cnt t m ∧ cnt t m ≤ m ∧ (0 ≤ cnt t m → cnt t m = m - t.sz)
 | .mk _ _ _ _ _ ks, m, h => by
  simp only [cnt, Ty.sz]
  by_cases h1 : 0 ≤ m - 1
  ·obtain ⟨a, b, c⟩ := cnts_spec ks (m - 1) (by omega)
   exact ⟨a, by omega, fun h => by have := c h; omega⟩
  ·obtain ⟨a, b, c⟩ := cnts_spec ks (m - 1) (by omega)
   exact ⟨a, by omega, fun h => by have := c h; omega⟩
theorem cnts_spec : ∀ (l : List Ty) (m : Int), -1 ≤ m → -1 ≤ cnts l m ∧ cnts l m ≤ m ∧ (0 ≤ cnts l m → cnts l m = m - Ty.szs l)
 | [], m, h => by simp only [cnts, Ty.szs]; exact ⟨h, Int.le_refl _, fun _ => by omega⟩
 | k :: ks, m, h => by
  simp only [cnts, Ty.szs]
  split
  ·rename_i h0
   obtain ⟨a, b, c⟩ := cnt_spec k m h0
   obtain ⟨d, e, f⟩ := cnts_spec ks (cnt k m) a
   exact ⟨d, by omega, fun h => by have := f h; have := c (by omega); omega⟩
  ·exact ⟨h, Int.le_refl _, fun h => by omega⟩
end
theorem ok_ref02_count : ∀ (t : Ty) (m : Int), Lim t → 0 ≤ m → m ≤ 1099511627776 → Ok P F.ref02_count [t.enc, i m] (i (cnt t m)) := by
 intro t
 induction t using Ty.ind with
 | _ t ih =>
 intro m hlim h0 h1
 cases hlim with
 | mk _ _ _ _ hkl hkk =>
 obtain ⟨k, p, nm, s, ls, ks⟩ := t
 have hkl : ks.length ≤ 9223372036854775807 := hkl
 rw [Ty.enc_mk]
 refine k_ref02_count _ _ rfl (d_l _ (by rfl) fun _ => d_l _ (e_sub (by omega) (by omega)) fun _ => ?_)
 refine den_loop (fun r ys => ∃ (j : Nat) (q : Int), j + r = ks.length ∧ -1 ≤ q ∧ q ≤ m ∧ cnts (ks.drop j) q = cnts ks (m - 1) ∧ ys = [i j, i q]) ks.length ⟨0, m - 1, by omega, by omega, by omega, rfl, rfl⟩ ?_
 rintro r _ ⟨j, q, hj, hq0, hq1, hq, rfl⟩
 refine d_l _ e_len fun _ => d_l _ rfl fun _ => d_dec (fun h => ?_) fun h => ?_
 ·have h : (j : Int) < ((ks.map Ty.enc).length : Int) := h
  have hlt : j < ks.length := by simp at h; omega
  have hd : ks.drop j = ks[j] :: ks.drop (j + 1) := List.drop_eq_getElem_cons hlt
  rw [hd] at hq
  simp only [cnts] at hq
  refine d_l _ rfl fun _ => d_dec (fun h => ?_) fun h => ?_
  ·have h : (0 : Int) ≤ q := h
   rw [if_pos h] at hq
   have hk : (ks.map Ty.enc)[j]? = some (ks[j]).enc := by simp [hlt]
   have hmem : ks[j] ∈ ks := List.getElem_mem hlt
   obtain ⟨c1, c2, _⟩ := cnt_spec ks[j] q h
   exact d_l _ (e_idx hk (Ty.okc_enc _)) fun _ => d_call (ih _ hmem q (hkk _ hmem) h (by omega)) (d_l _ (e_inc (by omega)) fun _ => d_cont rfl ⟨r - 1, by omega, j + 1, _, by omega, c1, by omega, hq, rfl⟩)
  ·have h : ¬ (0 : Int) ≤ q := h
   rw [if_neg h] at hq
   exact d_ret (by rw [hq]; rfl)
 ·have h : ¬ (j : Int) < ((ks.map Ty.enc).length : Int) := h
  have hd : ks.drop j = [] := List.drop_eq_nil_of_le (by simp at h; omega)
  rw [hd] at hq
  simp only [cnts] at hq
  exact d_ret (by rw [hq]; rfl)
end Go.Proofs.YtjekkidhbnkiaaaDoor.Tx
