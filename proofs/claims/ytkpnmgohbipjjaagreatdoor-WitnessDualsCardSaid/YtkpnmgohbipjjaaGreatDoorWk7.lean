/- Contracts (Wk1, Wk2, Wk3, Wk4, Wk5, Wk6, Wk7). -/
import Derived.Test.YtkpnmgohbipjjaaGreatDoorTx
import Derived.Test.YtkpnmgohbipjjaaGreatDoorLfD
set_option linter.all false
/- Contracts: words, right types. -/
namespace Go.Proofs.YtkpnmgohbipjjaaGreatDoor.Tx
open Go.Lf Go.Lf.S Go.Lf.Duo
set_option maxRecDepth 100000
theorem ok_ref01_Letters : Ok P F.ref01_Letters [] (t_ref01_Letters [] |> fun | .ret x => x | _ => .nilI) := k_ref01_Letters [] _ rfl (d_ret rfl)
theorem ok_ref01_digits : Ok P F.ref01_digits [] (t_ref01_digits [] |> fun | .ret x => x | _ => .nilI) := k_ref01_digits [] _ rfl (d_ret rfl)
end Go.Proofs.YtkpnmgohbipjjaaGreatDoor.Tx
/- Contracts: sizes of types. -/
namespace Go.Proofs.YtkpnmgohbipjjaaGreatDoor.Tx
open Go.Lf Go.Lf.S Go.Lf.Duo
set_option maxRecDepth 100000
theorem ok_ref02_prio (k : Int) : Ok P F.ref02_prio [i k] (.bool (decide (0 ≤ k ∧ k ≤ 1000000))) := by
 refine k_ref02_prio _ _ rfl (d_l _ rfl fun _ => d_dec (fun h => d_l _ rfl fun _ => d_ret (congrArg PV.bool ?_)) fun h => d_ret (congrArg PV.bool ?_))
 ·have : 0 ≤ k := h; simp [this]
 ·have : ¬ 0 ≤ k := h; simp [this]
theorem ok_ref02_Session (t : Ty) : Ok P F.ref02_Session [t.enc] (.bool (decide (t.kind ≠ 1 ∧ t.kind ≠ 2))) := by
 obtain ⟨k, p, nm, s, ls, ks⟩ := t
 rw [Ty.enc_mk]
 refine k_ref02_Session _ _ rfl (d_l _ rfl fun _ => d_l _ rfl fun _ => d_ndec (fun h => d_l _ rfl fun _ => d_ret (congrArg PV.bool ?_)) fun h => d_ret (congrArg PV.bool ?_))
 ·have : ¬ k = 1 := h; simp [Ty.kind, this]
 ·have : k = 1 := h; simp [Ty.kind, this]
/-! sizes -/
theorem szs_take (l : List Ty) (j : Nat) (h : j < l.length) : Ty.szs (l.take (j + 1)) = Ty.szs (l.take j) + Ty.sz l[j] := by
 induction l generalizing j with
 | nil => simp at h
 | cons x l ih =>
  cases j with
  | zero => simp [Ty.szs]
  | succ j =>
   simp only [List.take_succ_cons, Ty.szs, List.getElem_cons_succ]
   rw [ih j (by simpa using h)]; omega
theorem szs_take_le (l : List Ty) (j : Nat) : Ty.szs (l.take j) ≤ Ty.szs l := by
 induction l generalizing j with
 | nil => simp
 | cons x l ih =>
  cases j with
  | zero => simp [Ty.szs]
  | succ j => simp only [List.take_succ_cons, Ty.szs]; have := ih j; omega
theorem szs_len (l : List Ty) : l.length ≤ Ty.szs l := by
 induction l with
 | nil => simp
 | cons x l ih => simp only [List.length_cons, Ty.szs]; have : 1 ≤ Ty.sz x := by { cases x; simp [Ty.sz] }; omega
theorem ok_ref02_Size : ∀ t : Ty, t.sz ≤ 1099511627776 → Ok P F.ref02_Size [t.enc] (i t.sz) := by
 intro t
 induction t using Ty.ind with
 | _ t ih =>
 obtain ⟨k, p, nm, s, ls, ks⟩ := t
 intro hz
 simp only [Ty.sz] at hz ⊢
 have hlen := szs_len ks
 rw [Ty.enc_mk]
 refine k_ref02_Size _ _ rfl (d_l _ (by rfl) fun _ => ?_)
 refine den_rounds (fun j => [i j, i ((Ty.szs (ks.take j) + 1 : Nat) : Int)]) ks.length rfl (fun j hj => ?_) ?_
 ·refine d_l _ e_len fun _ => d_l _ rfl fun _ => d_dec (fun h => ?_) fun h => absurd (show (j : Int) < ((ks.map Ty.enc).length : Int) by simp; omega) h
  have hk : (ks.map Ty.enc)[j]? = some (ks[j]).enc := by simp [hj]
  have hmem : ks[j] ∈ ks := List.getElem_mem hj
  have hs1 := Ty.szs_mem hmem
  have hs2 := szs_take ks j hj
  have hs3 := szs_take_le ks (j + 1)
  refine d_l _ (e_idx hk (Ty.okc_enc _)) fun _ => d_call (ih _ hmem (by omega)) (d_l _ (e_add (by omega) (by omega)) fun _ => d_l _ (e_inc (by omega)) fun _ => d_cont rfl ?_)
  show [_, _] = [_, _]
  rw [hs2]
  congr 2
  simp only [S.i]; congr 1; omega
 ·refine d_l _ e_len fun _ => d_l _ rfl fun _ => d_dec (fun h => ?_) fun h => d_ret ?_
  ·have h : (ks.length : Int) < ((ks.map Ty.enc).length : Int) := h
   simp at h
  ·simp
mutual
def dep : Ty → Nat
 | .mk _ _ _ _ _ ks => deps ks + 1
def deps : List Ty → Nat
 | [] => 0
 | k :: ks => max (dep k) (deps ks)
end
theorem deps_take (l : List Ty) (j : Nat) (h : j < l.length) : deps (l.take (j + 1)) = max (deps (l.take j)) (dep l[j]) := by
 induction l generalizing j with
 | nil => simp at h
 | cons x l ih =>
  cases j with
  | zero => simp [deps]
  | succ j =>
   simp only [List.take_succ_cons, deps, List.getElem_cons_succ]
   rw [ih j (by simpa using h)]; omega
mutual
theorem dep_le : ∀ t : Ty, dep t ≤ t.sz
 | .mk _ _ _ _ _ ks => by simp only [dep, Ty.sz]; have := deps_le ks; omega
theorem deps_le : ∀ l : List Ty, deps l ≤ Ty.szs l
 | [] => by simp [deps]
 | k :: ks => by simp only [deps, Ty.szs]; have := dep_le k; have := deps_le ks; omega
end
theorem ok_ref02_Depth : ∀ t : Ty, t.sz ≤ 1099511627776 → Ok P F.ref02_Depth [t.enc] (i (dep t)) := by
 intro t
 induction t using Ty.ind with
 | _ t ih =>
 obtain ⟨k, p, nm, s, ls, ks⟩ := t
 intro hz
 simp only [Ty.sz] at hz
 simp only [dep]
 have hlen := szs_len ks
 have hdl := deps_le ks
 rw [Ty.enc_mk]
 refine k_ref02_Depth _ _ rfl (d_l _ (by rfl) fun _ => ?_)
 refine den_rounds (fun j => [i j, i ((deps (ks.take j) : Nat) : Int)]) ks.length rfl (fun j hj => ?_) ?_
 ·refine d_l _ e_len fun _ => d_l _ rfl fun _ => d_dec (fun h => ?_) fun h => absurd (show (j : Int) < ((ks.map Ty.enc).length : Int) by simp; omega) h
  have hk : (ks.map Ty.enc)[j]? = some (ks[j]).enc := by simp [hj]
  have hmem : ks[j] ∈ ks := List.getElem_mem hj
  have hs1 := Ty.szs_mem hmem
  refine d_l _ (e_idx hk (Ty.okc_enc _)) fun _ => d_call (ih _ hmem (by omega)) (d_l _ rfl fun _ => d_l _ (e_inc (by omega)) fun _ => d_cont rfl ?_)
  show [_, _] = [_, _]
  rw [deps_take ks j hj]
  congr 2
  simp only [S.i]; congr 1
  split <;> omega
 ·refine d_l _ e_len fun _ => d_l _ rfl fun _ => d_dec (fun h => ?_) fun h => d_l _ (e_add (by simp; omega) (by simp; omega)) fun _ => d_ret ?_
  ·have h : (ks.length : Int) < ((ks.map Ty.enc).length : Int) := h
   simp at h
  ·simp
/-! count -/
mutual
def cnt : Ty → Int → Int
 | .mk _ _ _ _ _ ks, m => cnts ks (m - 1)
def cnts : List Ty → Int → Int
 | [], m => m
 | k :: ks, m => if 0 ≤ m then cnts ks (cnt k m) else m
end
mutual
theorem cnt_spec : ∀ (t : Ty) (m : Int), 0 ≤ m → -1 ≤ cnt t m ∧ cnt t m ≤ m ∧ (0 ≤ cnt t m → cnt t m = m - t.sz)
 | .mk _ _ _ _ _ ks, m, h => by
  simp only [cnt, Ty.sz]
  by_cases h1 : 0 ≤ m - 1
  ·obtain ⟨a, b, c⟩ := cnts_spec ks (m - 1) (by omega)
   exact ⟨a, by omega, fun h => by have := c h; omega⟩
  ·obtain ⟨a, b, c⟩ := cnts_spec ks (m - 1) (by omega)
   exact ⟨a, by omega, fun h => by have := c h; omega⟩
theorem cnts_spec : ∀ (l : List Ty) (m : Int), -1 ≤ m → -1 ≤ cnts l m ∧ cnts l m ≤ m ∧ (0 ≤ cnts l m → cnts l m = m - Ty.szs l)
 | [], m, h => by simp only [cnts, Ty.szs]; exact ⟨h, Int.le_refl _, fun _ => by omega⟩
 | k :: ks, m, h => by
  simp only [cnts, Ty.szs]
  split
  ·rename_i h0
   obtain ⟨a, b, c⟩ := cnt_spec k m h0
   obtain ⟨d, e, f⟩ := cnts_spec ks (cnt k m) a
   exact ⟨d, by omega, fun h => by have := f h; have := c (by omega); omega⟩
  ·exact ⟨h, Int.le_refl _, fun h => by omega⟩
end
theorem ok_ref02_count : ∀ (t : Ty) (m : Int), Lim t → 0 ≤ m → m ≤ 1099511627776 → Ok P F.ref02_count [t.enc, i m] (i (cnt t m)) := by
 intro t
 induction t using Ty.ind with
 | _ t ih =>
 intro m hlim h0 h1
 cases hlim with
 | mk _ _ _ _ hkl hkk =>
 obtain ⟨k, p, nm, s, ls, ks⟩ := t
 have hkl : ks.length ≤ 9223372036854775807 := hkl
 rw [Ty.enc_mk]
 refine k_ref02_count _ _ rfl (d_l _ (by rfl) fun _ => d_l _ (e_sub (by omega) (by omega)) fun _ => ?_)
 refine den_loop (fun r ys => ∃ (j : Nat) (q : Int), j + r = ks.length ∧ -1 ≤ q ∧ q ≤ m ∧ cnts (ks.drop j) q = cnts ks (m - 1) ∧ ys = [i j, i q]) ks.length ⟨0, m - 1, by omega, by omega, by omega, rfl, rfl⟩ ?_
 rintro r _ ⟨j, q, hj, hq0, hq1, hq, rfl⟩
 refine d_l _ e_len fun _ => d_l _ rfl fun _ => d_dec (fun h => ?_) fun h => ?_
 ·have h : (j : Int) < ((ks.map Ty.enc).length : Int) := h
  have hlt : j < ks.length := by simp at h; omega
  have hd : ks.drop j = ks[j] :: ks.drop (j + 1) := List.drop_eq_getElem_cons hlt
  rw [hd] at hq
  simp only [cnts] at hq
  refine d_l _ rfl fun _ => d_dec (fun h => ?_) fun h => ?_
  ·have h : (0 : Int) ≤ q := h
   rw [if_pos h] at hq
   have hk : (ks.map Ty.enc)[j]? = some (ks[j]).enc := by simp [hlt]
   have hmem : ks[j] ∈ ks := List.getElem_mem hlt
   obtain ⟨c1, c2, _⟩ := cnt_spec ks[j] q h
   exact d_l _ (e_idx hk (Ty.okc_enc _)) fun _ => d_call (ih _ hmem q (hkk _ hmem) h (by omega)) (d_l _ (e_inc (by omega)) fun _ => d_cont rfl ⟨r - 1, by omega, j + 1, _, by omega, c1, by omega, hq, rfl⟩)
  ·have h : ¬ (0 : Int) ≤ q := h
   rw [if_neg h] at hq
   exact d_ret (by rw [hq]; rfl)
 ·have h : ¬ (j : Int) < ((ks.map Ty.enc).length : Int) := h
  have hd : ks.drop j = [] := List.drop_eq_nil_of_le (by simp at h; omega)
  rw [hd] at hq
  simp only [cnts] at hq
  exact d_ret (by rw [hq]; rfl)
end Go.Proofs.YtkpnmgohbipjjaaGreatDoor.Tx
/- Contracts: right types. -/
namespace Go.Proofs.YtkpnmgohbipjjaaGreatDoor.Tx
open Go.Lf Go.Lf.S Go.Lf.Duo
set_option maxRecDepth 100000
theorem str_at {ls : List ByteArray} {j : Nat} (h : j < ls.length) : (ls.map PV.str)[j]? = some (.str ls[j]) := by simp [h]
theorem ok_ref02_in (s : ByteArray) (ls : List ByteArray) (hl : ls.length ≤ 9223372036854775807) : Ok P F.ref02_in [.str s, .sl (ls.map .str)] (.bool (memB s ls)) := by
 refine k_ref02_in _ _ rfl ?_
 refine den_loop (fun m ys => ∃ j : Nat, j + m = ls.length ∧ (s ∈ ls ↔ s ∈ ls.drop j) ∧ ys = [i j]) ls.length ⟨0, by omega, by simp, rfl⟩ ?_
 rintro m _ ⟨j, hj, hs, rfl⟩
 refine d_l _ e_len fun _ => d_l _ rfl fun _ => d_dec (fun h => ?_) fun h => d_ret ?_
 ·have h : (j : Int) < ((ls.map PV.str).length : Int) := h
  have hlt : j < ls.length := by simp at h; omega
  have hd : ls.drop j = ls[j] :: ls.drop (j + 1) := List.drop_eq_getElem_cons hlt
  rw [hd] at hs
  refine d_l _ (e_idx (str_at hlt) rfl) fun _ => d_l _ rfl fun _ => d_dec (fun h => d_ret ?_) fun h => ?_
  ·have h : ls[j] = s := h
   have : s ∈ ls := by rw [hs, h]; exact List.mem_cons_self
   rw [memB_iff.2 this]
  ·have h : ¬ ls[j] = s := h
   refine d_l _ (e_inc (by omega)) fun _ => d_cont rfl ⟨m - 1, by omega, j + 1, by omega, ?_, rfl⟩
   rw [hs, List.mem_cons]
   constructor
   ·rintro (e | e)
    ·exact absurd e.symm h
    ·exact e
   ·exact .inr
 ·have h : ¬ (j : Int) < ((ls.map PV.str).length : Int) := h
  have hd : ls.drop j = [] := List.drop_eq_nil_of_le (by simp at h; omega)
  rw [hd] at hs
  have : ¬ s ∈ ls := by rw [hs]; simp
  have : memB s ls = false := by rw [Bool.eq_false_iff]; exact fun e => this (memB_iff.1 e)
  rw [this]
end Go.Proofs.YtkpnmgohbipjjaaGreatDoor.Tx
/- Contracts: right types, small ones. -/
namespace Go.Proofs.YtkpnmgohbipjjaaGreatDoor.Tx
open Go.Lf Go.Lf.S Go.Lf.Duo
set_option maxRecDepth 100000
theorem ty_at {ks : List Ty} {j : Nat} (h : j < ks.length) : (ks.map Ty.enc)[j]? = some (ks[j]).enc := by simp [h]
theorem ok_ref02_Few (t : Ty) (hlim : Lim t) (m : Int) (h0 : 0 ≤ m) (h1 : m ≤ 549755813888) : ∃ b, Ok P F.ref02_Few [t.enc, i m] (.bool b) ∧ (b = true → (t.sz : Int) ≤ m) := by
 have hc := ok_ref02_count t m hlim h0 (by omega)
 have hk := Ty.okc_enc t
 obtain ⟨c1, c2, c3⟩ := cnt_spec t m h0
 have := tx_ex (K := fun x => ∃ b, x = .bool b ∧ (b = true → (t.sz : Int) ≤ m)) k_ref02_Few (xs := [t.enc, i m]) rfl (by simp [t_ref02_Few, T.dt]) (by
  refine d_l _ (e_okc hk) fun _ => d_call hc (d_l _ rfl fun _ => d_dec (fun h => ?_) fun _ => d_ret ⟨false, rfl, fun h => by cases h⟩)
  have h : (0 : Int) ≤ cnt t m := h
  have := c3 h
  exact d_call (ok_ref02_Depth t (by omega)) (d_l _ rfl fun _ => d_ret ⟨_, rfl, fun _ => by omega⟩))
 obtain ⟨_, ⟨b, rfl, hb⟩, h⟩ := this
 exact ⟨b, h, hb⟩
end Go.Proofs.YtkpnmgohbipjjaaGreatDoor.Tx
/- Contracts: the reference's graph. -/
namespace Go.Proofs.YtkpnmgohbipjjaaGreatDoor.Tx
open Go.Lf Go.Lf.S Go.Lf.Duo
set_option maxRecDepth 100000
mutual
/-- how many nodes the graph has -/
def gc : Ty → Nat
 | .mk k _ _ _ _ ks => (if k ≤ 7 then 1 else 0) + gcs ks
def gcs : List Ty → Nat
 | [] => 0
 | k :: ks => gc k + gcs ks
end
theorem gcs_take (l : List Ty) (j : Nat) (h : j < l.length) : gcs (l.take (j + 1)) = gcs (l.take j) + gc l[j] := by
 induction l generalizing j with
 | nil => simp at h
 | cons x l ih =>
  cases j with
  | zero => simp [gcs]
  | succ j =>
   simp only [List.take_succ_cons, gcs, List.getElem_cons_succ]
   rw [ih j (by simpa using h)]; omega
theorem gcs_take_le (l : List Ty) (j : Nat) : gcs (l.take j) ≤ gcs l := by
 induction l generalizing j with
 | nil => simp
 | cons x l ih =>
  cases j with
  | zero => simp [gcs]
  | succ j => simp only [List.take_succ_cons, gcs]; have := ih j; omega
mutual
theorem gc_le : ∀ t : Ty, gc t ≤ t.sz
 | .mk k _ _ _ _ ks => by simp only [gc, Ty.sz]; have := gcs_le ks; split <;> omega
theorem gcs_le : ∀ l : List Ty, gcs l ≤ Ty.szs l
 | [] => by simp [gcs]
 | k :: ks => by simp only [gcs, Ty.szs]; have := gc_le k; have := gcs_le ks; omega
end
theorem ok_ref07_Count : ∀ t : Ty, t.sz ≤ 1099511627776 → Ok P F.ref07_Count [t.enc] (i (gc t)) := by
 intro t
 induction t using Ty.ind with
 | _ t ih =>
 obtain ⟨k, p, nm, s, ls, ks⟩ := t
 intro hz
 simp only [Ty.sz] at hz
 have hlen := szs_len ks
 have hgl := gcs_le ks
 rw [Ty.enc_mk]
 refine k_ref07_Count _ _ rfl (d_l _ (by rfl) fun _ => d_l _ rfl fun _ => d_dec (fun h7 => ?_) fun h7 => ?_)
 ·have h7 : k ≤ 7 := h7
  refine den_rounds (fun j => [i j, i ((1 + gcs (ks.take j) : Nat) : Int)]) ks.length rfl (fun j hj => ?_) ?_
  ·refine d_l _ e_len fun _ => d_l _ rfl fun _ => d_dec (fun h => ?_) fun h => absurd (show (j : Int) < ((ks.map Ty.enc).length : Int) by simp; omega) h
   have hmem : ks[j] ∈ ks := List.getElem_mem hj
   have hs1 := Ty.szs_mem hmem
   have hs2 := gcs_take ks j hj
   have hs3 := gcs_take_le ks (j + 1)
   refine d_l _ (e_idx (ty_at hj) (Ty.okc_enc _)) fun _ => d_call (ih _ hmem (by omega)) (d_l _ (e_add (by omega) (by omega)) fun _ => d_l _ (e_inc (by omega)) fun _ => d_cont rfl ?_)
   show [_, _] = [_, _]
   rw [hs2]
   congr 2
   simp only [S.i]; congr 1; omega
  ·refine d_l _ e_len fun _ => d_l _ rfl fun _ => d_dec (fun h => ?_) fun h => d_ret ?_
   ·have h : (ks.length : Int) < ((ks.map Ty.enc).length : Int) := h
    simp at h
   ·simp [gc, h7]
 ·have h7 : ¬ k ≤ 7 := h7
  refine den_rounds (fun j => [i j, i ((gcs (ks.take j) : Nat) : Int)]) ks.length rfl (fun j hj => ?_) ?_
  ·refine d_l _ e_len fun _ => d_l _ rfl fun _ => d_dec (fun h => ?_) fun h => absurd (show (j : Int) < ((ks.map Ty.enc).length : Int) by simp; omega) h
   have hmem : ks[j] ∈ ks := List.getElem_mem hj
   have hs1 := Ty.szs_mem hmem
   have hs2 := gcs_take ks j hj
   have hs3 := gcs_take_le ks (j + 1)
   refine d_l _ (e_idx (ty_at hj) (Ty.okc_enc _)) fun _ => d_call (ih _ hmem (by omega)) (d_l _ (e_add (by omega) (by omega)) fun _ => d_l _ (e_inc (by omega)) fun _ => d_cont rfl ?_)
   show [_, _] = [_, _]
   rw [hs2]
   congr 2
  ·refine d_l _ e_len fun _ => d_l _ rfl fun _ => d_dec (fun h => ?_) fun h => d_ret ?_
   ·have h : (ks.length : Int) < ((ks.map Ty.enc).length : Int) := h
    simp at h
   ·simp [gc, h7]
/-- what a name stands for: the last one -/
def lookLast : List ByteArray → List Rf → ByteArray → Option Rf
 | n :: ns, r :: rs, nm => match lookLast ns rs nm with
  | some q => some q
  | none => if n = nm then some r else none
 | _, _, _ => none
mutual
/-- the reference of a type whose nodes begin at a place -/
def refF : Ty → Int → List ByteArray → List Rf → Rf
 | .mk k _ nm s _ ks, a, ns, refs => if k = 8 then refFs ks a ns refs else if k = 9 then (match lookLast ns refs nm with
  | some q => ⟨q.node, q.shift + s⟩
  | none => ⟨a, 0⟩) else ⟨a, 0⟩
def refFs : List Ty → Int → List ByteArray → List Rf → Rf
 | [], a, _, _ => ⟨a, 0⟩
 | t :: _, a, ns, refs => refF t a ns refs
end
/-- the references of types whose nodes stand one behind another -/
def nextsF : List Ty → Int → List ByteArray → List Rf → List Rf
 | [], _, _, _ => []
 | t :: ts, a, ns, refs => refF t a ns refs :: nextsF ts (a + gc t) ns refs
mutual
/-- the nodes of a type -/
def nodesF : Ty → Int → List ByteArray → List Rf → List Nd
 | .mk k p nm s ls ks, a, ns, refs => if k = 8 then belowsF ks a (ns ++ [nm]) (refs ++ [refF (.mk k p nm s ls ks) a ns refs]) else if k = 9 then [] else ⟨k, p, ls, nextsF ks (a + 1) ns refs⟩ :: belowsF ks (a + 1) ns refs
def belowsF : List Ty → Int → List ByteArray → List Rf → List Nd
 | [], _, _, _ => []
 | t :: ts, a, ns, refs => nodesF t a ns refs ++ belowsF ts (a + gc t) ns refs
end
theorem refF_8 {k p : Int} {nm : ByteArray} {s : Int} {ls : List ByteArray} {ks : List Ty} (h : k = 8) {x : Ty} (hk : ks = [x]) {a : Int} {ns : List ByteArray} {refs : List Rf} : refF (.mk k p nm s ls ks) a ns refs = refF x a ns refs := by
 subst hk; simp [refF, refFs, h]
theorem refF_9 {k p : Int} {nm : ByteArray} {s : Int} {ls : List ByteArray} {ks : List Ty} (h : k = 9) {q : Rf} {a : Int} {ns : List ByteArray} {refs : List Rf} (hq : lookLast ns refs nm = some q) : refF (.mk k p nm s ls ks) a ns refs = ⟨q.node, q.shift + s⟩ := by
 simp [refF, h, hq]
theorem refF_o {k p : Int} {nm : ByteArray} {s : Int} {ls : List ByteArray} {ks : List Ty} (h : ¬ k = 8) (h9 : ¬ k = 9) {a : Int} {ns : List ByteArray} {refs : List Rf} : refF (.mk k p nm s ls ks) a ns refs = ⟨a, 0⟩ := by
 simp [refF, h, h9]
theorem nodesF_8 {k p : Int} {nm : ByteArray} {s : Int} {ls : List ByteArray} {ks : List Ty} (h : k = 8) {x : Ty} (hk : ks = [x]) {a : Int} {ns : List ByteArray} {refs : List Rf} :
  nodesF (.mk k p nm s ls ks) a ns refs = nodesF x a (ns ++ [nm]) (refs ++ [refF (.mk k p nm s ls ks) a ns refs]) := by
 subst hk; simp [nodesF, belowsF, h]
theorem nodesF_9 {k p : Int} {nm : ByteArray} {s : Int} {ls : List ByteArray} {ks : List Ty} (h : k = 9) {a : Int} {ns : List ByteArray} {refs : List Rf} : nodesF (.mk k p nm s ls ks) a ns refs = [] := by
 simp [nodesF, h]
theorem nodesF_o {k p : Int} {nm : ByteArray} {s : Int} {ls : List ByteArray} {ks : List Ty} (h : ¬ k = 8) (h9 : ¬ k = 9) {a : Int} {ns : List ByteArray} {refs : List Rf} :
  nodesF (.mk k p nm s ls ks) a ns refs = ⟨k, p, ls, nextsF ks (a + 1) ns refs⟩ :: belowsF ks (a + 1) ns refs := by
 simp [nodesF, h, h9]
theorem nextsF_take : ∀ (ks : List Ty) (j : Nat) (h : j < ks.length) (a : Int) (ns : List ByteArray) (refs : List Rf), nextsF (ks.take (j + 1)) a ns refs = nextsF (ks.take j) a ns refs ++ [refF ks[j] (a + gcs (ks.take j)) ns refs]
 | t :: ts, 0, _, a, ns, refs => by simp [nextsF, gcs]
 | t :: ts, j + 1, h, a, ns, refs => by
  have := nextsF_take ts j (by simpa using h) (a + gc t) ns refs
  simp only [List.take_succ_cons, nextsF, this, List.cons_append, List.getElem_cons_succ, gcs]
  congr 4
  omega
theorem belowsF_take : ∀ (ks : List Ty) (j : Nat) (h : j < ks.length) (a : Int) (ns : List ByteArray) (refs : List Rf), belowsF (ks.take (j + 1)) a ns refs = belowsF (ks.take j) a ns refs ++ nodesF ks[j] (a + gcs (ks.take j)) ns refs
 | t :: ts, 0, _, a, ns, refs => by simp [belowsF, gcs]
 | t :: ts, j + 1, h, a, ns, refs => by
  have := belowsF_take ts j (by simpa using h) (a + gc t) ns refs
  simp only [List.take_succ_cons, belowsF, this, List.append_assoc, List.getElem_cons_succ, gcs]
  congr 3
  omega
theorem look_none : ∀ (ns : List ByteArray) (refs : List Rf) (nm : ByteArray), (∀ i : Nat, ns[i]? ≠ some nm) → lookLast ns refs nm = none
 | [], _, _, _ => by simp [lookLast]
 | n :: ns, [], _, _ => by simp [lookLast]
 | n :: ns, r :: rs, nm, h => by
  have h0 := h 0
  simp at h0
  rw [lookLast, look_none ns rs nm fun i => by simpa using h (i + 1)]
  simp [h0]
theorem look_at : ∀ (ns : List ByteArray) (refs : List Rf) (nm : ByteArray) (j : Nat), ns[j]? = some nm → (∀ i : Nat, j < i → ns[i]? ≠ some nm) → (h : j < refs.length) → lookLast ns refs nm = some refs[j]
 | [], _, _, _, h, _, _ => by simp at h
 | n :: ns, [], _, _, _, _, h => by simp at h
 | n :: ns, r :: rs, nm, 0, h, hl, _ => by
  simp at h
  rw [lookLast, look_none ns rs nm fun i => by simpa using hl (i + 1) (by omega)]
  simp [h]
 | n :: ns, r :: rs, nm, j + 1, h, hl, hj => by
  rw [lookLast, look_at ns rs nm j (by simpa using h) (fun i hi => by simpa using hl (i + 1) (by omega)) (by simpa using hj)]
  simp
/-- references of the recursive types around -/
def RefsOk (refs : List Rf) : Prop := ∀ q ∈ refs, 0 ≤ q.shift ∧ q.shift ≤ 1000000 * (refs.length : Int)
def RefIn (r : Rf) (at_ : Int) (t : Ty) (refs : List Rf) : Prop := ((∃ q ∈ refs, r.node = q.node) ∨ (r.node = at_ ∧ 0 < gc t)) ∧ 0 ≤ r.shift ∧ r.shift ≤ 1000000 * ((refs.length : Int) + 1)
theorem rf_at {rs : List Rf} {j : Nat} (h : j < rs.length) : (rs.map Rf.enc)[j]? = some (rs[j]).enc := by simp [h]
theorem ok_ref07_reference : ∀ (t : Ty) (ns : List ByteArray) (refs : List Rf) (at_ : Int) (ext : List ByteArray) (g : Nat), Wf t (ns ++ ext) g → g ≤ ns.length → refs.length = ns.length → RefsOk refs → ns.length ≤ 1099511627776 →
  ∃ r : Rf, Ok P F.ref07_reference [t.enc, i at_, .sl (ns.map .str), .sl (refs.map Rf.enc)] r.enc ∧ RefIn r at_ t refs ∧ r = refF t at_ ns refs := by
 intro t
 induction t using Ty.ind with
 | _ t ih =>
 intro ns refs at_ ext g hwf hg hrl hro hnl
 cases hwf with
 | mk _ _ _ h1 h9 h8 hk =>
 obtain ⟨k, p, nm, s, ls, ks⟩ := t
 unfold Wf1 at h1
 have hnd := h1.2
 have h1 := h1.1
 simp only [Ty.kind, Ty.prio, Ty.shift, Ty.kids, Ty.labels] at h1
 have := tx_ex (K := fun x => ∃ r : Rf, x = r.enc ∧ RefIn r at_ (.mk k p nm s ls ks) refs ∧ r = refF (.mk k p nm s ls ks) at_ ns refs) k_ref07_reference
  (xs := [(Ty.mk k p nm s ls ks).enc, i at_, .sl (ns.map .str), .sl (refs.map Rf.enc)]) rfl (by simp [t_ref07_reference, T.dt]) (by
  rw [Ty.enc_mk]
  refine d_l _ (by rfl) fun _ => d_l _ rfl fun _ => d_dec (fun h => ?_) fun h => ?_
  ·have h8' : k = 8 := h
   have hk1 : ks.length = 1 := (h1.2.2.2.2.2.1 h8').1
   have hm0 : ks[0] ∈ ks := List.getElem_mem (by omega)
   obtain ⟨r, hr0, hr, hrf⟩ := ih ks[0] hm0 ns refs at_ (ext ++ [nm]) g (by rw [← List.append_assoc]; exact h8 h8' _ hm0) hg hrl hro hnl
   have hks : ks = [ks[0]] := by
    match ks, hk1 with
    | [x], _ => rfl
   have hgc : gc (.mk k p nm s ls ks) = gc ks[0] := by
    simp only [gc, if_neg (show ¬ k ≤ 7 by omega)]
    conv => lhs; rw [hks]
    simp [gcs]
   exact d_l _ (e_idx (k := 0) (ty_at (by omega)) (Ty.okc_enc _)) fun _ => d_call hr0 (d_l _ (e_okc (Rf.okc_enc r)) fun _ => d_ret ⟨r, rfl, ⟨by rw [hgc]; exact hr.1, hr.2⟩, hrf.trans (refF_8 h8' hks).symm⟩)
  ·have h8' : ¬ k = 8 := h
   refine d_l _ rfl fun _ => d_dec (fun h => ?_) fun h => ?_
   ·have h9' : k = 9 := h
    obtain ⟨j, hj, hl, hlast⟩ := h9 h9'
    simp only [Ty.name] at hl hlast
    have hjn : j < ns.length := by omega
    rw [List.getElem?_append_left hjn] at hl
    have hl' : ns[j] = nm := by rw [List.getElem?_eq_getElem hjn] at hl; exact Option.some.inj hl
    refine d_l _ e_len fun _ => d_l _ (e_sub (by simp; omega) (by simp; omega)) fun _ => ?_
    refine den_loop (fun m ys => ∃ q : Nat, q + 1 = m ∧ q < ns.length ∧ j ≤ q ∧ ys = [i q]) ns.length ⟨ns.length - 1, by omega, by omega, by omega, by simp; omega⟩ ?_
    rintro m _ ⟨q, hq1, hq2, hq3, rfl⟩
    refine d_l _ rfl fun _ => d_dec (fun _ => ?_) fun h => absurd (show (0 : Int) ≤ (q : Int) by omega) h
    refine d_l _ (e_idx (str_at hq2) rfl) fun _ => d_l _ rfl fun _ => d_dec (fun he => ?_) fun he => ?_
    ·have he : ns[q] = nm := he
     have hqj : q = j := by
      rcases Nat.lt_or_ge j q with h | h
      ·have := hlast q h
       rw [List.getElem?_append_left hq2, List.getElem?_eq_getElem hq2, he] at this
       exact absurd rfl this
      ·omega
     subst hqj
     have hqr : q < refs.length := by omega
     have hqs := hro refs[q] (List.getElem_mem hqr)
     refine d_l _ (e_idx (rf_at hqr) (Rf.okc_enc _)) fun _ => d_l _ (e_idx (rf_at hqr) (Rf.okc_enc _)) fun _ => d_l (i (refs[q].shift + s)) (e_add (by omega) (by omega)) fun _ => d_l _ (by rfl) fun _ => d_ret ⟨⟨refs[q].node, refs[q].shift + s⟩, rfl, ⟨.inl ⟨_, List.getElem_mem hqr, rfl⟩, by show 0 ≤ refs[q].shift + s; omega, by show refs[q].shift + s ≤ _; omega⟩,
      (refF_9 h9' (look_at ns refs nm q hl (fun i hi => by
       intro hc
       have hin := (List.getElem?_eq_some_iff.1 hc).1
       exact hlast i hi (by rw [List.getElem?_append_left hin]; exact hc)) hqr)).symm⟩
    ·have he : ¬ ns[q] = nm := he
     have : j ≠ q := fun e => he (by subst e; exact hl')
     refine d_l _ (e_sub (by omega) (by omega)) fun _ => d_cont rfl ⟨m - 1, by omega, q - 1, by omega, by omega, by omega, ?_⟩
     simp only [S.i]; congr 2; omega
   ·have h9' : ¬ k = 9 := h
    exact d_l _ (by rfl) fun _ => d_ret ⟨⟨at_, 0⟩, rfl, ⟨.inr ⟨rfl, by simp only [gc]; rw [if_pos (by omega)]; omega⟩, Int.le_refl _, by simp; omega⟩, (refF_o h8' h9').symm⟩)
 obtain ⟨_, ⟨r, rfl, hr⟩, h⟩ := this
 exact ⟨r, h, hr⟩
end Go.Proofs.YtkpnmgohbipjjaaGreatDoor.Tx
/- Contracts: the reference's graph (2). -/
namespace Go.Proofs.YtkpnmgohbipjjaaGreatDoor.Tx
open Go.Lf Go.Lf.S Go.Lf.Duo
set_option maxRecDepth 100000
structure NdOk (lo hi : Int) (refs : List Rf) (d : Nd) : Prop where
 k1 : 1 ≤ d.kind ∧ d.kind ≤ 7
 p : 0 ≤ d.prio ∧ d.prio ≤ 1000000
 n3 : d.kind ≤ 3 → d.next.length = 0 ∧ d.labels.length = 0
 n5 : 4 ≤ d.kind ∧ d.kind ≤ 5 → d.next.length = 2 ∧ d.labels.length = 0
 n7 : 6 ≤ d.kind ∧ d.kind ≤ 7 → d.next.length = d.labels.length ∧ 0 < d.labels.length
 ll : d.labels.length ≤ 549755813888
 nd : d.labels.Nodup
 nx : ∀ r ∈ d.next, ((∃ q ∈ refs, r.node = q.node) ∨ (lo ≤ r.node ∧ r.node < hi)) ∧ 0 ≤ r.shift ∧ r.shift ≤ 2305843009213693952
theorem NdOk.weak {lo hi lo' hi' : Int} {refs refs' : List Rf} {d : Nd} (h : NdOk lo hi refs d) (hr : ∀ q ∈ refs, (∃ q' ∈ refs', q.node = q'.node) ∨ (lo' ≤ q.node ∧ q.node < hi')) (h1 : lo' ≤ lo) (h2 : hi ≤ hi') : NdOk lo' hi' refs' d := by
 refine ⟨h.k1, h.p, h.n3, h.n5, h.n7, h.ll, h.nd, fun r hr' => ?_⟩
 obtain ⟨a, b⟩ := h.nx r hr'
 refine ⟨?_, b⟩
 rcases a with ⟨q, hq, e⟩ | ⟨e1, e2⟩
 ·rcases hr q hq with ⟨q', hq', e'⟩ | ⟨e1, e2⟩
  ·exact .inl ⟨q', hq', e.trans e'⟩
  ·exact .inr ⟨by omega, by omega⟩
 ·exact .inr ⟨by omega, by omega⟩
theorem gc_rec {k p : Int} {nm : ByteArray} {s : Int} {ls : List ByteArray} {ks : List Ty} (h8 : k = 8) (x : Ty) (hks : ks = [x]) : gc (.mk k p nm s ls ks) = gc x := by
 subst hks; subst h8
 simp [gc, gcs]
theorem refsOk_snoc {refs : List Rf} {r : Rf} (h : RefsOk refs) (h0 : 0 ≤ r.shift) (h1 : r.shift ≤ 1000000 * ((refs.length : Int) + 1)) : RefsOk (refs ++ [r]) := by
 intro q hq
 rcases List.mem_append.1 hq with hq | hq
 ·obtain ⟨a, b⟩ := h q hq
  refine ⟨a, ?_⟩
  simp; omega
 ·obtain rfl : q = r := by simpa using hq
  refine ⟨h0, ?_⟩
  simp; omega
theorem ok_ref07_nodes : ∀ (t : Ty) (ns : List ByteArray) (refs : List Rf) (a : Int) (g : Nat), Wf t ns g → g ≤ ns.length → refs.length = ns.length → RefsOk refs → ns.length + t.sz ≤ 549755813888 → 0 ≤ a → a ≤ 549755813888 - t.sz →
  ∃ ds : List Nd, Ok P F.ref07_nodes [t.enc, i a, .sl (ns.map .str), .sl (refs.map Rf.enc)] (.sl (ds.map Nd.enc)) ∧ ds.length = gc t ∧ (∀ d ∈ ds, NdOk a (a + gc t) refs d) ∧ ds = nodesF t a ns refs := by
 intro t
 induction t using Ty.ind with
 | _ t ih =>
 intro ns refs a g hwf hg hrl hro hz ha0 ha1
 have hgl := gc_le t
 have href := ok_ref07_reference t ns refs a [] g (by rw [List.append_nil]; exact hwf) hg hrl hro (by omega)
 have hwf' := hwf
 cases hwf with
 | mk _ _ _ h1 h9 h8 hk =>
 obtain ⟨k, p, nm, s, ls, ks⟩ := t
 have hzk : ∀ x ∈ ks, x.sz < (Ty.mk k p nm s ls ks).sz := fun x hx => Ty.sz_kid hx
 have hsz : (Ty.mk k p nm s ls ks).sz = Ty.szs ks + 1 := by simp [Ty.sz]
 have hszl := szs_len ks
 unfold Wf1 at h1
 have hnd := h1.2
 have h1 := h1.1
 simp only [Ty.kind, Ty.prio, Ty.shift, Ty.kids, Ty.labels] at h1
 have := tx_ex (K := fun x => ∃ ds : List Nd, x = .sl (ds.map Nd.enc) ∧ ds.length = gc (.mk k p nm s ls ks) ∧ (∀ d ∈ ds, NdOk a (a + gc (.mk k p nm s ls ks)) refs d) ∧ ds = nodesF (.mk k p nm s ls ks) a ns refs) k_ref07_nodes
  (xs := [(Ty.mk k p nm s ls ks).enc, i a, .sl (ns.map .str), .sl (refs.map Rf.enc)]) rfl (by simp [t_ref07_nodes, T.dt]) (by
  obtain ⟨r0, hr0, hri, hrf⟩ := href
  rw [Ty.enc_mk] at hr0 ⊢
  refine d_l _ (by rfl) fun _ => d_l _ rfl fun _ => d_dec (fun h => ?_) fun h => ?_
  ·have h8' : k = 8 := h
   have hk1 : ks.length = 1 := (h1.2.2.2.2.2.1 h8').1
   have hm0 : ks[0] ∈ ks := List.getElem_mem (by omega)
   have hks : ks = [ks[0]] := by
    match ks, hk1 with
    | [x], _ => rfl
   have hgc := gc_rec (p := p) (nm := nm) (s := s) (ls := ls) h8' ks[0] hks
   obtain ⟨ds, hd, hdl, hdk, hdf⟩ := ih ks[0] hm0 (ns ++ [nm]) (refs ++ [r0]) a g (h8 h8' _ hm0) (by simp; omega) (by simp [hrl]) (refsOk_snoc hro hri.2.1 hri.2.2) (by have := hzk _ hm0; simp; omega) ha0 (by have := hzk _ hm0; omega)
   rw [List.map_append, List.map_append] at hd
   refine d_call hr0 (d_l _ (e_okc (Rf.okc_enc r0)) fun _ => d_l _ (e_idx (k := 0) (ty_at (by omega)) (Ty.okc_enc _)) fun _ => d_l _ rfl fun _ => d_l _ (e_app (all_map okc_str _) (by simp; omega) (by simp; omega)) fun _ => d_l _ rfl fun _ => d_l _ (e_app (fun x hx => by simp at hx; subst hx; rfl) (by simp; omega) (by simp; omega)) fun _ => ?_)
   refine d_l _ rfl fun _ => d_l _ (e_app (all_map Rf.okc_enc _) (by simp; omega) (by simp; omega)) fun _ => d_l _ (e_lst (fun x hx => by simp at hx; subst hx; exact Rf.okc_enc r0)) fun _ => d_l _ (e_app (fun x hx => by simp at hx; subst hx; exact Rf.okc_enc r0) (by simp; omega) (by simp; omega)) fun _ => d_call hd (d_ret ⟨ds, rfl, by rw [hdl, hgc], fun d hdm => ?_, by rw [nodesF_8 h8' hks, ← hrf]; exact hdf⟩)
   refine (hdk d hdm).weak (fun q hq => ?_) (Int.le_refl _) (by rw [hgc]; omega)
   rcases List.mem_append.1 hq with hq | hq
   ·exact .inl ⟨q, hq, rfl⟩
   ·obtain rfl : q = r0 := by simpa using hq
    rcases hri.1 with h | ⟨h, hp⟩
    ·exact .inl h
    ·exact .inr ⟨by omega, by omega⟩
  ·have h8' : ¬ k = 8 := h
   refine d_l _ rfl fun _ => d_dec (fun h => ?_) fun h => ?_
   ·have h9' : k = 9 := h
    have hks : ks = [] := List.eq_nil_of_length_eq_zero (h1.2.2.2.2.2.2 h9').1
    exact d_ret ⟨[], rfl, by subst hks; subst h9'; simp [gc, gcs], (fun d hd => by cases hd), (nodesF_9 h9').symm⟩
   ·have h9' : ¬ k = 9 := h
    have hk7 : k ≤ 7 := by
     obtain ⟨_, h2⟩ := h1.1
     have h8n : k ≠ 8 := h8'
     have h9n : k ≠ 9 := h9'
     clear h8 h9 hk hwf' h1 h8' h9' ih
     omega
    have hg7 : gc (.mk k p nm s ls ks) = 1 + gcs ks := by simp only [gc]; rw [if_pos hk7]
    have hgs := gcs_le ks
    refine d_l _ (by rfl) fun _ => d_l _ (e_add (by omega) (by omega)) fun _ => ?_
    refine den_loop (fun m ys => ∃ (j : Nat) (bs : List Nd) (rs : List Rf), j + m = ks.length ∧ bs.length = gcs (ks.take j) ∧ rs.length = j ∧ (∀ d ∈ bs, NdOk a (a + gc (.mk k p nm s ls ks)) refs d) ∧
      (∀ r ∈ rs, ((∃ q ∈ refs, r.node = q.node) ∨ (a ≤ r.node ∧ r.node < a + gc (.mk k p nm s ls ks))) ∧ 0 ≤ r.shift ∧ r.shift ≤ 2305843009213693952) ∧
      bs = belowsF (ks.take j) (a + 1) ns refs ∧ rs = nextsF (ks.take j) (a + 1) ns refs ∧ ys = [i j, i (a + 1 + (gcs (ks.take j) : Int)), .sl (bs.map Nd.enc), i k, i p, .sl (ls.map .str), .sl (rs.map Rf.enc)]) ks.length ⟨0, [], [], by omega, by simp [gcs], rfl, (fun _ h => by cases h), (fun _ h => by cases h), by simp [belowsF], by simp [nextsF], by show _ = [i 0, i (a + 1 + 0), .sl [], i k, i p, .sl (ls.map .str), .sl []]; rw [Int.add_zero]; rfl⟩ ?_
    rintro m _ ⟨j, bs, rs, hj, hbl, hrl', hbs, hrs, hbf, hnf, rfl⟩
    refine d_l _ e_len fun _ => d_l _ rfl fun _ => d_dec (fun h => ?_) fun h => ?_
    ·have h : (j : Int) < ((ks.map Ty.enc).length : Int) := h
     have hlt : j < ks.length := by simp at h; omega
     have hmem : ks[j] ∈ ks := List.getElem_mem hlt
     have hgt := gcs_take ks j hlt
     have hgt2 := gcs_take_le ks (j + 1)
     have hsj := Ty.szs_mem hmem
     have hgj := gc_le ks[j]
     have hwk : Wf ks[j] ns ns.length := hk h8' _ hmem
     obtain ⟨r, hr, hrin, hrf⟩ := ok_ref07_reference ks[j] ns refs (a + 1 + (gcs (ks.take j) : Int)) [] ns.length (by rw [List.append_nil]; exact hwk) (Nat.le_refl _) hrl hro (by omega)
     obtain ⟨ds, hd, hdl, hdk, hdf⟩ := ih ks[j] hmem ns refs (a + 1 + (gcs (ks.take j) : Int)) ns.length hwk (Nat.le_refl _) hrl hro (by have := hzk _ hmem; omega) (by omega) (by
      have h2 : gcs (ks.take j) + ks[j].sz ≤ Ty.szs ks := by
       have h3 := szs_take ks j hlt
       have h4 := szs_take_le ks (j + 1)
       have h5 := gcs_le (ks.take j)
       omega
      omega)
     refine d_l _ (e_idx (ty_at hlt) (Ty.okc_enc _)) fun _ => d_call hr (d_l _ (e_lst (fun x hx => by simp at hx; subst hx; exact Rf.okc_enc r)) fun _ => d_l _ (e_app (fun x hx => by simp at hx; subst hx; exact Rf.okc_enc r) (by simp; omega) (by simp; omega)) fun _ => ?_)
     refine d_l _ (e_idx (ty_at hlt) (Ty.okc_enc _)) fun _ => d_call hd (d_l _ (e_app (all_map Nd.okc_enc _) (by simp; omega) (by simp; omega)) fun _ => ?_)
     refine d_l _ (e_idx (ty_at hlt) (Ty.okc_enc _)) fun _ => d_call (ok_ref07_Count ks[j] (by have := hzk _ hmem; omega)) (d_l _ (e_add (by omega) (by omega)) fun _ => d_l _ (e_inc (by omega)) fun _ => d_cont rfl ⟨m - 1, by omega, j + 1, bs ++ ds, rs ++ [r], by omega, by simp; omega, by simp [hrl'], ?_, ?_, by rw [belowsF_take ks j hlt, ← hbf, ← hdf], by rw [nextsF_take ks j hlt, ← hnf, ← hrf], ?_⟩)
     ·intro d hdm
      rcases List.mem_append.1 hdm with hdm | hdm
      ·exact hbs d hdm
      ·exact (hdk d hdm).weak (fun q hq => .inl ⟨q, hq, rfl⟩) (by omega) (by rw [hg7]; omega)
     ·intro q hq
      rcases List.mem_append.1 hq with hq | hq
      ·exact hrs q hq
      ·obtain rfl : q = r := by simpa using hq
       obtain ⟨h3, h4, h5⟩ := hrin
       refine ⟨?_, h4, by omega⟩
       rcases h3 with h3 | ⟨h3, hp⟩
       ·exact .inl h3
       ·exact .inr ⟨by omega, by rw [hg7]; omega⟩
     ·rw [hgt]
      simp only [List.map_append, List.map_cons, List.map_nil]
      congr 2
      simp only [S.i]; congr 1; omega
    ·have h : ¬ (j : Int) < ((ks.map Ty.enc).length : Int) := h
     have hjl : j = ks.length := by simp at h; omega
     have ht : ks.take j = ks := List.take_of_length_le (by omega)
     rw [ht] at hbl hbf hnf
     refine d_l _ (by rfl) fun _ => d_l _ (e_app (all_map Nd.okc_enc _) (by simp; omega) (by simp; omega)) fun _ => d_ret ⟨⟨k, p, ls, rs⟩ :: bs, rfl, by simp; omega, fun d hdm => ?_, by rw [nodesF_o h8' h9', hbf, hnf]⟩
     rcases List.mem_cons.1 hdm with rfl | hdm
     ·refine ⟨⟨h1.1.1, hk7⟩, ⟨h1.2.1.1, h1.2.1.2.1⟩, fun h => ?_, fun h => ?_, fun h => ?_, ?_, hnd, fun r hr => hrs r hr⟩
      ·have h : k ≤ 3 := h
       have := h1.2.2.1 h
       exact ⟨by show rs.length = 0; omega, this.2.1⟩
      ·have h : 4 ≤ k ∧ k ≤ 5 := h
       have := h1.2.2.2.1 h
       exact ⟨by show rs.length = 2; omega, this.2⟩
      ·have h : 6 ≤ k ∧ k ≤ 7 := h
       have := h1.2.2.2.2.1 h
       exact ⟨by show rs.length = ls.length; omega, this.2⟩
      ·show ls.length ≤ 549755813888
       have h3 : ls.length = 0 ∨ ls.length = ks.length := by
        clear h9 h8 hk hwf' ih
        omega
       omega
     ·exact hbs d hdm)
 obtain ⟨_, ⟨ds, rfl, hl, hd, hf⟩, h⟩ := this
 exact ⟨ds, h, hl, hd, hf⟩
end Go.Proofs.YtkpnmgohbipjjaaGreatDoor.Tx
/- Contracts: graphs of lists of types; closed graphs. -/
namespace Go.Proofs.YtkpnmgohbipjjaaGreatDoor.Tx
open Go.Lf Go.Lf.S Go.Lf.Duo
set_option maxRecDepth 100000
theorem ok_ref07_Build (l : List Ty) (hwf : ∀ t ∈ l, Wf t [] 0) (hz : Ty.szs l ≤ 274877906944) :
  ∃ (ds : List Nd) (rs : List Rf), Ok P F.ref07_Build [.sl (l.map Ty.enc)] (.tup [.sl (ds.map Nd.enc), .sl (rs.map Rf.enc)]) ∧ ds.length = gcs l ∧ rs.length = l.length ∧ (∀ d ∈ ds, NdOk 0 (gcs l) [] d) ∧
   (∀ (j : Nat) (r : Rf), rs[j]? = some r → 0 ≤ r.node ∧ r.node < gcs l ∧ 0 ≤ r.shift ∧ r.shift ≤ 1000000 ∧ 0 < gcs l) ∧ ds = belowsF l 0 [] [] ∧ rs = nextsF l 0 [] [] := by
 have hll := szs_len l
 have hgl := gcs_le l
 have := tx_ex (K := fun x => ∃ (ds : List Nd) (rs : List Rf), x = .tup [.sl (ds.map Nd.enc), .sl (rs.map Rf.enc)] ∧ ds.length = gcs l ∧ rs.length = l.length ∧ (∀ d ∈ ds, NdOk 0 (gcs l) [] d) ∧
   (∀ (j : Nat) (r : Rf), rs[j]? = some r → 0 ≤ r.node ∧ r.node < gcs l ∧ 0 ≤ r.shift ∧ r.shift ≤ 1000000 ∧ 0 < gcs l) ∧ ds = belowsF l 0 [] [] ∧ rs = nextsF l 0 [] []) k_ref07_Build (xs := [.sl (l.map Ty.enc)]) rfl (by simp [t_ref07_Build, T.dt]) (by
  refine den_loop (fun m ys => ∃ (j : Nat) (ds : List Nd) (rs : List Rf), j + m = l.length ∧ ds.length = gcs (l.take j) ∧ rs.length = j ∧ (∀ d ∈ ds, NdOk 0 (gcs l) [] d) ∧
   (∀ (j : Nat) (r : Rf), rs[j]? = some r → 0 ≤ r.node ∧ r.node < gcs l ∧ 0 ≤ r.shift ∧ r.shift ≤ 1000000 ∧ 0 < gcs l) ∧ ds = belowsF (l.take j) 0 [] [] ∧ rs = nextsF (l.take j) 0 [] [] ∧ ys = [i j, .sl (rs.map Rf.enc), .sl (ds.map Nd.enc)]) l.length
   ⟨0, [], [], by omega, by simp [gcs], rfl, (fun _ h => by cases h), (fun j r h => by simp at h), by simp [belowsF], by simp [nextsF], rfl⟩ ?_
  rintro m _ ⟨j, ds, rs, hj, hdl, hrl, hds, hrs, hdf, hrf, rfl⟩
  refine d_l _ e_len fun _ => d_l _ rfl fun _ => d_dec (fun h => ?_) fun h => ?_
  ·have h : (j : Int) < ((l.map Ty.enc).length : Int) := h
   have hlt : j < l.length := by simp at h; omega
   have hmem : l[j] ∈ l := List.getElem_mem hlt
   have hgt := gcs_take l j hlt
   have hgt2 := gcs_take_le l (j + 1)
   have hsj := Ty.szs_mem hmem
   have hgj := gc_le l[j]
   have e1 : ((ds.map Nd.enc).length : Int) = (gcs (l.take j) : Int) := by simp [hdl]
   obtain ⟨r, hr, hrin, hre⟩ := ok_ref07_reference l[j] [] [] (gcs (l.take j) : Int) [] 0 (hwf _ hmem) (Nat.le_refl _) rfl (fun _ h => by cases h) (by simp)
   obtain ⟨es, he, hel, hek, hee⟩ := ok_ref07_nodes l[j] [] [] (gcs (l.take j) : Int) 0 (hwf _ hmem) (Nat.le_refl _) rfl (fun _ h => by cases h) (by simp; omega) (by omega) (by omega)
   refine d_l _ (e_idx (ty_at hlt) (Ty.okc_enc _)) fun _ => d_l (i (gcs (l.take j) : Int)) (by rw [← e1]; exact e_len) fun _ => d_call hr (d_l _ (e_lst (fun x hx => by simp at hx; subst hx; exact Rf.okc_enc r)) fun _ => d_l _ (e_app (fun x hx => by simp at hx; subst hx; exact Rf.okc_enc r) (by simp; omega) (by simp; omega)) fun _ => ?_)
   refine d_l _ (e_idx (ty_at hlt) (Ty.okc_enc _)) fun _ => d_l (i (gcs (l.take j) : Int)) (by rw [← e1]; exact e_len) fun _ => d_call he (d_l _ (e_app (all_map Nd.okc_enc _) (by simp; omega) (by simp; omega)) fun _ => d_l _ (e_inc (by omega)) fun _ => d_cont rfl ⟨m - 1, by omega, j + 1, ds ++ es, rs ++ [r], by omega, by simp; omega, by simp [hrl], fun d hd => ?_, fun j' r' hr' => ?_, by rw [belowsF_take l j hlt, ← hdf, Int.zero_add, ← hee], by rw [nextsF_take l j hlt, ← hrf, Int.zero_add, ← hre], by simp⟩)
   ·rcases List.mem_append.1 hd with hd | hd
    ·exact hds d hd
    ·exact (hek d hd).weak (fun q hq => by cases hq) (by omega) (by omega)
   ·rw [List.getElem?_append] at hr'
    split at hr'
    ·exact hrs j' r' hr'
    ·have : r' = r := by
      have := List.mem_of_getElem? hr'
      simpa using this
     subst this
     obtain ⟨h1, h2, h3⟩ := hrin
     rcases h1 with ⟨q, hq, _⟩ | ⟨h1, hp⟩
     ·cases hq
     ·simp at h3
      exact ⟨by omega, by omega, h2, h3, by omega⟩
  ·have h : ¬ (j : Int) < ((l.map Ty.enc).length : Int) := h
   have ht : l.take j = l := List.take_of_length_le (by simp at h; omega)
   rw [ht] at hdl hdf hrf
   exact d_ret ⟨ds, rs, rfl, hdl, by simp at h; omega, hds, hrs, hdf, hrf⟩)
 obtain ⟨_, ⟨ds, rs, rfl, h1, h2, h3, h4, h5⟩, h⟩ := this
 exact ⟨ds, rs, h, h1, h2, h3, h4, h5⟩
theorem nd_at {ds : List Nd} {j : Nat} (h : j < ds.length) : (ds.map Nd.enc)[j]? = some (ds[j]).enc := by simp [h]
theorem take_enc {α : Type} {f : α → PV} {l : List α} {j : Nat} (h : j < l.length) : ((l.take j).map f) ++ [f l[j]] = (l.take (j + 1)).map f := by
 rw [List.take_succ_eq_append_getElem h, List.map_append]; rfl
/-- sizes of a node's lists -/
def NdLen (d : Nd) : Prop := d.labels.length ≤ 549755813888 ∧ d.next.length ≤ 549755813888
theorem NdOk.len {lo hi : Int} {refs : List Rf} {d : Nd} (h : NdOk lo hi refs d) : NdLen d := by
 refine ⟨h.ll, ?_⟩
 have h1 := h.k1; have h2 := h.n3; have h3 := h.n5; have h4 := h.n7; have h5 := h.ll
 omega
end Go.Proofs.YtkpnmgohbipjjaaGreatDoor.Tx
