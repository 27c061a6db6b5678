/- Contracts (Wk1, Wk2, Wk3, Wk4, Wk5). -/
import Derived.Test.YtkpnmgohbipjjaaGreatDoorTx
import Derived.Test.YtkpnmgohbipjjaaGreatDoorLfD
set_option linter.all false
/- Contracts: words, right types. -/
namespace Go.Proofs.YtkpnmgohbipjjaaGreatDoor.Tx
open Go.Lf Go.Lf.S Go.Lf.Duo
set_option maxRecDepth 100000

theorem ok_ref01_in (b : Int) (s : ByteArray) (hs : s.size ≤ 9223372036854775807) : ∃ r, Ok P F.ref01_in [.int .u8 b, .str s] (.bool r) := by
  have := tx_ex (K := fun x => ∃ r, x = .bool r) k_ref01_in (xs := [.int .u8 b, .str s]) rfl (by simp [t_ref01_in, T.dt]) (by
    refine den_loop (fun m ys => ∃ j : Nat, j + m = s.size ∧ ys = [i j]) s.size ⟨0, by omega, rfl⟩ ?_
    rintro m _ ⟨j, hj, rfl⟩
    refine d_l _ rfl fun _ => d_l _ rfl fun _ => d_dec (fun h => ?_) fun h => d_ret ⟨_, rfl⟩
    have hlt : j < s.size := by have : (j : Int) < (s.size : Int) := h; omega
    refine d_l _ (e_sidx hlt) fun _ => d_l _ rfl fun _ => d_dec (fun _ => d_ret ⟨_, rfl⟩) fun _ => d_l _ (e_inc (by omega)) fun _ => d_cont rfl ⟨m - 1, by omega, j + 1, by omega, rfl⟩)
  obtain ⟨_, ⟨r, rfl⟩, h⟩ := this
  exact ⟨r, h⟩

theorem ok_ref01_Letters : Ok P F.ref01_Letters [] (t_ref01_Letters [] |> fun | .ret x => x | _ => .nilI) := k_ref01_Letters [] _ rfl (d_ret rfl)
theorem ok_ref01_digits : Ok P F.ref01_digits [] (t_ref01_digits [] |> fun | .ret x => x | _ => .nilI) := k_ref01_digits [] _ rfl (d_ret rfl)

theorem ok_ref01_Word (s : ByteArray) (hs : s.size ≤ 9223372036854775807) : ∃ r, Ok P F.ref01_Word [.str s] (.bool r) := by
  have := tx_ex (K := fun x => ∃ r, x = .bool r) k_ref01_Word (xs := [.str s]) rfl (by simp [t_ref01_Word, T.dt]) (by
    refine d_l _ rfl fun _ => d_l _ rfl fun _ => d_dec (fun h => d_ret ⟨_, rfl⟩) fun h => ?_
    have h0 : 0 < s.size := by have : ¬ (s.size : Int) = 0 := h; omega
    refine d_l _ (e_sidx (k := 0) h0) fun _ => d_call ok_ref01_Letters ?_
    obtain ⟨r, hr⟩ := ok_ref01_in (s[0]).toNat ⟨#[65, 66, 67, 68, 69, 70, 71, 72, 73, 74, 75, 76, 77, 78, 79, 80, 81, 82, 83, 84, 85, 86, 87, 88, 89, 90, 97, 98, 99, 100, 101, 102, 103, 104, 105, 106, 107, 108, 109, 110, 111, 112, 113, 114, 115, 116, 117, 118, 119, 120, 121, 122, 95]⟩ (by decide)
    refine d_call hr (d_l _ rfl fun _ => d_ite (fun _ => d_ret ⟨_, rfl⟩) fun _ => ?_)
    refine den_loop (fun m ys => ∃ j : Nat, j + m = s.size ∧ ys = [i j]) (s.size - 1) ⟨1, by omega, rfl⟩ ?_
    rintro m _ ⟨j, hj, rfl⟩
    refine d_l _ rfl fun _ => d_l _ rfl fun _ => d_dec (fun h => ?_) fun h => d_ret ⟨_, rfl⟩
    have hlt : j < s.size := by have : (j : Int) < (s.size : Int) := h; omega
    refine d_l _ (e_sidx hlt) fun _ => d_call ok_ref01_Letters ?_
    obtain ⟨r, hr⟩ := ok_ref01_in (s[j]).toNat ⟨#[65, 66, 67, 68, 69, 70, 71, 72, 73, 74, 75, 76, 77, 78, 79, 80, 81, 82, 83, 84, 85, 86, 87, 88, 89, 90, 97, 98, 99, 100, 101, 102, 103, 104, 105, 106, 107, 108, 109, 110, 111, 112, 113, 114, 115, 116, 117, 118, 119, 120, 121, 122, 95]⟩ (by decide)
    have go : ∀ {H : List PV → Prop}, (∀ ys, ys = [i ((j + 1 : Nat) : Int)] → H ys) → ((T.l (.arith .add .i64) [i j, i 1] fun x => .cont 0 [x]) : T PV).den0 P (fun x => ∃ r, x = .bool r) ([] ++ [H]) :=
      fun hH => d_l _ (e_inc (by omega)) fun _ => d_cont rfl (hH _ rfl)
    have hnext : ∀ ys, ys = [i ((j + 1 : Nat) : Int)] → ∃ m', m' < m ∧ ∃ j : Nat, j + m' = s.size ∧ ys = [i j] := fun ys e => ⟨m - 1, by omega, j + 1, by omega, e⟩
    refine d_call hr (d_l _ rfl fun _ => d_ite (fun _ => ?_) fun _ => go hnext)
    refine d_l _ (e_sidx hlt) fun _ => d_call ok_ref01_digits ?_
    obtain ⟨r, hr⟩ := ok_ref01_in (s[j]).toNat ⟨#[48, 49, 50, 51, 52, 53, 54, 55, 56, 57]⟩ (by decide)
    exact d_call hr (d_l _ rfl fun _ => d_ite (fun _ => d_ret ⟨_, rfl⟩) fun _ => go hnext))
  obtain ⟨_, ⟨r, rfl⟩, h⟩ := this
  exact ⟨r, h⟩

theorem ok_ref01_Keyword (s : ByteArray) : ∃ r, Ok P F.ref01_Keyword [.str s] (.bool r) := by
  have := tx_ex (K := fun x => ∃ r, x = .bool r) k_ref01_Keyword (xs := [.str s]) rfl (by simp [t_ref01_Keyword, T.dt]) (by
    refine d_l _ rfl fun _ => ?_
    refine den_loop (fun m ys => ∃ j : Nat, j + m = 10 ∧ ys = [i j]) 10 ⟨0, by omega, rfl⟩ ?_
    rintro m _ ⟨j, hj, rfl⟩
    refine d_l _ rfl fun _ => d_l _ rfl fun _ => d_dec (fun h => ?_) fun h => d_ret ⟨_, rfl⟩
    have hlt : j < 10 := by have : (j : Int) < 10 := h; omega
    have : j = 0 ∨ j = 1 ∨ j = 2 ∨ j = 3 ∨ j = 4 ∨ j = 5 ∨ j = 6 ∨ j = 7 ∨ j = 8 ∨ j = 9 := by omega
    rcases this with rfl | rfl | rfl | rfl | rfl | rfl | rfl | rfl | rfl | rfl <;>
      exact d_l _ rfl fun _ => d_l _ rfl fun _ => d_dec (fun _ => d_ret ⟨_, rfl⟩) fun _ => d_l _ (e_inc (by omega)) fun _ => d_cont rfl ⟨m - 1, by omega, _, by omega, rfl⟩)
  obtain ⟨_, ⟨r, rfl⟩, h⟩ := this
  exact ⟨r, h⟩

theorem ok_ref01_Name (s : ByteArray) (hs : s.size ≤ 9223372036854775807) : ∃ r, Ok P F.ref01_Name [.str s] (.bool r) := by
  obtain ⟨r1, h1⟩ := ok_ref01_Word s hs
  obtain ⟨r2, h2⟩ := ok_ref01_Keyword s
  cases r1 with
  | true => exact ⟨_, k_ref01_Name [.str s] _ rfl (d_call h1 (d_true (d_call h2 (d_l _ rfl fun _ => d_ret rfl))))⟩
  | false => exact ⟨_, k_ref01_Name [.str s] _ rfl (d_call h1 (d_false (d_ret rfl)))⟩

end Go.Proofs.YtkpnmgohbipjjaaGreatDoor.Tx

/- Contracts: sizes of types. -/
namespace Go.Proofs.YtkpnmgohbipjjaaGreatDoor.Tx
open Go.Lf Go.Lf.S Go.Lf.Duo
set_option maxRecDepth 100000

theorem ok_ref02_prio (k : Int) : Ok P F.ref02_prio [i k] (.bool (decide (0 ≤ k ∧ k ≤ 1000000))) := by
  refine k_ref02_prio _ _ rfl (d_l _ rfl fun _ => d_dec (fun h => d_l _ rfl fun _ => d_ret (congrArg PV.bool ?_)) fun h => d_ret (congrArg PV.bool ?_))
  · have : 0 ≤ k := h; simp [this]
  · have : ¬ 0 ≤ k := h; simp [this]

theorem ok_ref02_Session (t : Ty) : Ok P F.ref02_Session [t.enc] (.bool (decide (t.kind ≠ 1 ∧ t.kind ≠ 2))) := by
  obtain ⟨k, p, nm, s, ls, ks⟩ := t
  rw [Ty.enc_mk]
  refine k_ref02_Session _ _ rfl (d_l _ rfl fun _ => d_l _ rfl fun _ => d_ndec (fun h => d_l _ rfl fun _ => d_ret (congrArg PV.bool ?_)) fun h => d_ret (congrArg PV.bool ?_))
  · have : ¬ k = 1 := h; simp [Ty.kind, this]
  · have : k = 1 := h; simp [Ty.kind, this]

/-! sizes -/

theorem szs_take (l : List Ty) (j : Nat) (h : j < l.length) : Ty.szs (l.take (j + 1)) = Ty.szs (l.take j) + Ty.sz l[j] := by
  induction l generalizing j with
  | nil => simp at h
  | cons x l ih =>
    cases j with
    | zero => simp [Ty.szs]
    | succ j =>
      simp only [List.take_succ_cons, Ty.szs, List.getElem_cons_succ]
      rw [ih j (by simpa using h)]; omega
theorem szs_take_le (l : List Ty) (j : Nat) : Ty.szs (l.take j) ≤ Ty.szs l := by
  induction l generalizing j with
  | nil => simp
  | cons x l ih =>
    cases j with
    | zero => simp [Ty.szs]
    | succ j => simp only [List.take_succ_cons, Ty.szs]; have := ih j; omega
theorem szs_len (l : List Ty) : l.length ≤ Ty.szs l := by
  induction l with
  | nil => simp
  | cons x l ih => simp only [List.length_cons, Ty.szs]; have : 1 ≤ Ty.sz x := by { cases x; simp [Ty.sz] }; omega

theorem ok_ref02_Size : ∀ t : Ty, t.sz ≤ 1099511627776 → Ok P F.ref02_Size [t.enc] (i t.sz) := by
  intro t
  induction t using Ty.ind with
  | _ t ih =>
  obtain ⟨k, p, nm, s, ls, ks⟩ := t
  intro hz
  simp only [Ty.sz] at hz ⊢
  have hlen := szs_len ks
  rw [Ty.enc_mk]
  refine k_ref02_Size _ _ rfl (d_l _ (by rfl) fun _ => ?_)
  refine den_rounds (fun j => [i j, i ((Ty.szs (ks.take j) + 1 : Nat) : Int)]) ks.length rfl (fun j hj => ?_) ?_
  · refine d_l _ e_len fun _ => d_l _ rfl fun _ => d_dec (fun h => ?_) fun h => absurd (show (j : Int) < ((ks.map Ty.enc).length : Int) by simp; omega) h
    have hk : (ks.map Ty.enc)[j]? = some (ks[j]).enc := by simp [hj]
    have hmem : ks[j] ∈ ks := List.getElem_mem hj
    have hs1 := Ty.szs_mem hmem
    have hs2 := szs_take ks j hj
    have hs3 := szs_take_le ks (j + 1)
    refine d_l _ (e_idx hk (Ty.okc_enc _)) fun _ => d_call (ih _ hmem (by omega)) (d_l _ (e_add (by omega) (by omega)) fun _ => d_l _ (e_inc (by omega)) fun _ => d_cont rfl ?_)
    show [_, _] = [_, _]
    rw [hs2]
    congr 2
    simp only [S.i]; congr 1; omega
  · refine d_l _ e_len fun _ => d_l _ rfl fun _ => d_dec (fun h => ?_) fun h => d_ret ?_
    · have h : (ks.length : Int) < ((ks.map Ty.enc).length : Int) := h
      simp at h
    · simp

mutual
def dep : Ty → Nat
  | .mk _ _ _ _ _ ks => deps ks + 1
def deps : List Ty → Nat
  | [] => 0
  | k :: ks => max (dep k) (deps ks)
end
theorem deps_take (l : List Ty) (j : Nat) (h : j < l.length) : deps (l.take (j + 1)) = max (deps (l.take j)) (dep l[j]) := by
  induction l generalizing j with
  | nil => simp at h
  | cons x l ih =>
    cases j with
    | zero => simp [deps]
    | succ j =>
      simp only [List.take_succ_cons, deps, List.getElem_cons_succ]
      rw [ih j (by simpa using h)]; omega
mutual
theorem dep_le : ∀ t : Ty, dep t ≤ t.sz
  | .mk _ _ _ _ _ ks => by simp only [dep, Ty.sz]; have := deps_le ks; omega
theorem deps_le : ∀ l : List Ty, deps l ≤ Ty.szs l
  | [] => by simp [deps]
  | k :: ks => by simp only [deps, Ty.szs]; have := dep_le k; have := deps_le ks; omega
end

theorem ok_ref02_Depth : ∀ t : Ty, t.sz ≤ 1099511627776 → Ok P F.ref02_Depth [t.enc] (i (dep t)) := by
  intro t
  induction t using Ty.ind with
  | _ t ih =>
  obtain ⟨k, p, nm, s, ls, ks⟩ := t
  intro hz
  simp only [Ty.sz] at hz
  simp only [dep]
  have hlen := szs_len ks
  have hdl := deps_le ks
  rw [Ty.enc_mk]
  refine k_ref02_Depth _ _ rfl (d_l _ (by rfl) fun _ => ?_)
  refine den_rounds (fun j => [i j, i ((deps (ks.take j) : Nat) : Int)]) ks.length rfl (fun j hj => ?_) ?_
  · refine d_l _ e_len fun _ => d_l _ rfl fun _ => d_dec (fun h => ?_) fun h => absurd (show (j : Int) < ((ks.map Ty.enc).length : Int) by simp; omega) h
    have hk : (ks.map Ty.enc)[j]? = some (ks[j]).enc := by simp [hj]
    have hmem : ks[j] ∈ ks := List.getElem_mem hj
    have hs1 := Ty.szs_mem hmem
    refine d_l _ (e_idx hk (Ty.okc_enc _)) fun _ => d_call (ih _ hmem (by omega)) (d_l _ rfl fun _ => d_l _ (e_inc (by omega)) fun _ => d_cont rfl ?_)
    show [_, _] = [_, _]
    rw [deps_take ks j hj]
    congr 2
    simp only [S.i]; congr 1
    split <;> omega
  · refine d_l _ e_len fun _ => d_l _ rfl fun _ => d_dec (fun h => ?_) fun h => d_l _ (e_add (by simp; omega) (by simp; omega)) fun _ => d_ret ?_
    · have h : (ks.length : Int) < ((ks.map Ty.enc).length : Int) := h
      simp at h
    · simp

/-! count -/
mutual
def cnt : Ty → Int → Int
  | .mk _ _ _ _ _ ks, m => cnts ks (m - 1)
def cnts : List Ty → Int → Int
  | [], m => m
  | k :: ks, m => if 0 ≤ m then cnts ks (cnt k m) else m
end
mutual
theorem cnt_spec : ∀ (t : Ty) (m : Int), 0 ≤ m → -1 ≤ cnt t m ∧ cnt t m ≤ m ∧ (0 ≤ cnt t m → cnt t m = m - t.sz)
  | .mk _ _ _ _ _ ks, m, h => by
    simp only [cnt, Ty.sz]
    by_cases h1 : 0 ≤ m - 1
    · obtain ⟨a, b, c⟩ := cnts_spec ks (m - 1) (by omega)
      exact ⟨a, by omega, fun h => by have := c h; omega⟩
    · obtain ⟨a, b, c⟩ := cnts_spec ks (m - 1) (by omega)
      exact ⟨a, by omega, fun h => by have := c h; omega⟩
theorem cnts_spec : ∀ (l : List Ty) (m : Int), -1 ≤ m → -1 ≤ cnts l m ∧ cnts l m ≤ m ∧ (0 ≤ cnts l m → cnts l m = m - Ty.szs l)
  | [], m, h => by simp only [cnts, Ty.szs]; exact ⟨h, Int.le_refl _, fun _ => by omega⟩
  | k :: ks, m, h => by
    simp only [cnts, Ty.szs]
    split
    · rename_i h0
      obtain ⟨a, b, c⟩ := cnt_spec k m h0
      obtain ⟨d, e, f⟩ := cnts_spec ks (cnt k m) a
      exact ⟨d, by omega, fun h => by have := f h; have := c (by omega); omega⟩
    · exact ⟨h, Int.le_refl _, fun h => by omega⟩
end

theorem ok_ref02_count : ∀ (t : Ty) (m : Int), Lim t → 0 ≤ m → m ≤ 1099511627776 → Ok P F.ref02_count [t.enc, i m] (i (cnt t m)) := by
  intro t
  induction t using Ty.ind with
  | _ t ih =>
  intro m hlim h0 h1
  cases hlim with
  | mk _ _ _ _ hkl hkk =>
  obtain ⟨k, p, nm, s, ls, ks⟩ := t
  have hkl : ks.length ≤ 9223372036854775807 := hkl
  rw [Ty.enc_mk]
  refine k_ref02_count _ _ rfl (d_l _ (by rfl) fun _ => d_l _ (e_sub (by omega) (by omega)) fun _ => ?_)
  refine den_loop (fun r ys => ∃ (j : Nat) (q : Int), j + r = ks.length ∧ -1 ≤ q ∧ q ≤ m ∧ cnts (ks.drop j) q = cnts ks (m - 1) ∧ ys = [i j, i q]) ks.length ⟨0, m - 1, by omega, by omega, by omega, rfl, rfl⟩ ?_
  rintro r _ ⟨j, q, hj, hq0, hq1, hq, rfl⟩
  refine d_l _ e_len fun _ => d_l _ rfl fun _ => d_dec (fun h => ?_) fun h => ?_
  · have h : (j : Int) < ((ks.map Ty.enc).length : Int) := h
    have hlt : j < ks.length := by simp at h; omega
    have hd : ks.drop j = ks[j] :: ks.drop (j + 1) := List.drop_eq_getElem_cons hlt
    rw [hd] at hq
    simp only [cnts] at hq
    refine d_l _ rfl fun _ => d_dec (fun h => ?_) fun h => ?_
    · have h : (0 : Int) ≤ q := h
      rw [if_pos h] at hq
      have hk : (ks.map Ty.enc)[j]? = some (ks[j]).enc := by simp [hlt]
      have hmem : ks[j] ∈ ks := List.getElem_mem hlt
      obtain ⟨c1, c2, _⟩ := cnt_spec ks[j] q h
      exact d_l _ (e_idx hk (Ty.okc_enc _)) fun _ => d_call (ih _ hmem q (hkk _ hmem) h (by omega)) (d_l _ (e_inc (by omega)) fun _ => d_cont rfl ⟨r - 1, by omega, j + 1, _, by omega, c1, by omega, hq, rfl⟩)
    · have h : ¬ (0 : Int) ≤ q := h
      rw [if_neg h] at hq
      exact d_ret (by rw [hq]; rfl)
  · have h : ¬ (j : Int) < ((ks.map Ty.enc).length : Int) := h
    have hd : ks.drop j = [] := List.drop_eq_nil_of_le (by simp at h; omega)
    rw [hd] at hq
    simp only [cnts] at hq
    exact d_ret (by rw [hq]; rfl)

end Go.Proofs.YtkpnmgohbipjjaaGreatDoor.Tx

/- Contracts: right types. -/
namespace Go.Proofs.YtkpnmgohbipjjaaGreatDoor.Tx
open Go.Lf Go.Lf.S Go.Lf.Duo
set_option maxRecDepth 100000

theorem str_at {ls : List ByteArray} {j : Nat} (h : j < ls.length) : (ls.map PV.str)[j]? = some (.str ls[j]) := by simp [h]

theorem ok_ref02_in (s : ByteArray) (ls : List ByteArray) (hl : ls.length ≤ 9223372036854775807) : Ok P F.ref02_in [.str s, .sl (ls.map .str)] (.bool (memB s ls)) := by
  refine k_ref02_in _ _ rfl ?_
  refine den_loop (fun m ys => ∃ j : Nat, j + m = ls.length ∧ (s ∈ ls ↔ s ∈ ls.drop j) ∧ ys = [i j]) ls.length ⟨0, by omega, by simp, rfl⟩ ?_
  rintro m _ ⟨j, hj, hs, rfl⟩
  refine d_l _ e_len fun _ => d_l _ rfl fun _ => d_dec (fun h => ?_) fun h => d_ret ?_
  · have h : (j : Int) < ((ls.map PV.str).length : Int) := h
    have hlt : j < ls.length := by simp at h; omega
    have hd : ls.drop j = ls[j] :: ls.drop (j + 1) := List.drop_eq_getElem_cons hlt
    rw [hd] at hs
    refine d_l _ (e_idx (str_at hlt) rfl) fun _ => d_l _ rfl fun _ => d_dec (fun h => d_ret ?_) fun h => ?_
    · have h : ls[j] = s := h
      have : s ∈ ls := by rw [hs, h]; exact List.mem_cons_self
      rw [memB_iff.2 this]
    · have h : ¬ ls[j] = s := h
      refine d_l _ (e_inc (by omega)) fun _ => d_cont rfl ⟨m - 1, by omega, j + 1, by omega, ?_, rfl⟩
      rw [hs, List.mem_cons]
      constructor
      · rintro (e | e)
        · exact absurd e.symm h
        · exact e
      · exact .inr
  · have h : ¬ (j : Int) < ((ls.map PV.str).length : Int) := h
    have hd : ls.drop j = [] := List.drop_eq_nil_of_le (by simp at h; omega)
    rw [hd] at hs
    have : ¬ s ∈ ls := by rw [hs]; simp
    have : memB s ls = false := by rw [Bool.eq_false_iff]; exact fun e => this (memB_iff.1 e)
    rw [this]

theorem ok_ref02_Labels (ls : List ByteArray) (hl : ls.length ≤ 9223372036854775807) (hs : ∀ s ∈ ls, s.size ≤ 9223372036854775807) : ∃ r, Ok P F.ref02_Labels [.sl (ls.map .str)] (.bool r) ∧ (r = true → ls.Nodup) := by
  have := tx_ex (K := fun x => ∃ r, x = .bool r ∧ (r = true → ls.Nodup)) k_ref02_Labels (xs := [.sl (ls.map .str)]) rfl (by simp [t_ref02_Labels, T.dt]) (by
    refine den_loop (fun m ys => ∃ j : Nat, j + m = ls.length ∧ (ls.take j).Nodup ∧ ys = [i j]) ls.length ⟨0, by omega, by simp, rfl⟩ ?_
    rintro m _ ⟨j, hj, hnd, rfl⟩
    refine d_l _ e_len fun _ => d_l _ rfl fun _ => d_dec (fun h => ?_) fun h => d_ret ⟨true, rfl, fun _ => ?_⟩
    rotate_left
    · have h : ¬ (j : Int) < ((ls.map PV.str).length : Int) := h
      rw [List.take_of_length_le (by simp at h; omega)] at hnd
      exact hnd
    have h : (j : Int) < ((ls.map PV.str).length : Int) := h
    have hlt : j < ls.length := by simp at h; omega
    obtain ⟨r, hr⟩ := ok_ref01_Name ls[j] (hs _ (List.getElem_mem hlt))
    refine d_l _ (e_idx (str_at hlt) rfl) fun _ => d_call hr (d_l _ rfl fun _ => d_ite (fun _ => d_ret ⟨false, rfl, fun h => by cases h⟩) fun _ => ?_)
    refine d_l _ (e_idx (str_at hlt) rfl) fun _ => d_l _ (e_slcT (all_map okc_str _) (by simp; omega)) fun _ => ?_
    have hc := ok_ref02_in ls[j] (ls.take j) (by simp; omega)
    rw [List.map_take] at hc
    refine d_call hc (d_ite (fun _ => d_ret ⟨false, rfl, fun h => by cases h⟩) fun hno => d_l _ (e_inc (by omega)) fun _ => d_cont rfl ⟨m - 1, by omega, j + 1, by omega, ?_, rfl⟩)
    rw [List.take_succ_eq_append_getElem hlt, List.nodup_append]
    refine ⟨hnd, by simp, fun x hx y hy he => ?_⟩
    have hy : y = ls[j] := by simpa using hy
    subst he; subst hy
    have : memB ls[j] (ls.take j) = true := memB_iff.2 hx
    rw [this] at hno; cases hno)
  obtain ⟨_, ⟨r, rfl, hr⟩, h⟩ := this
  exact ⟨r, h, hr⟩

theorem ok_ref02_shape (t : Ty) (hlim : Lim t) : ∃ b, Ok P F.ref02_shape [t.enc] (.bool b) ∧ (b = true → Wf1 t) := by
  cases hlim with
  | mk _ hn hl hll hkl hkk =>
  obtain ⟨k, p, nm, s, ls, ks⟩ := t
  obtain ⟨nb, hnb⟩ := ok_ref01_Name nm hn
  obtain ⟨lb, hlb, hlnd⟩ := ok_ref02_Labels ls hll hl
  have hp := ok_ref02_prio p
  have hs := ok_ref02_prio s
  have := tx_ex (K := fun x => ∃ b, x = .bool b ∧ (b = true → Wf1 (.mk k p nm s ls ks))) k_ref02_shape (xs := [(Ty.mk k p nm s ls ks).enc]) rfl (by simp [t_ref02_shape, T.dt]) (by
    rw [Ty.enc_mk]
    refine d_l _ (by rfl) fun _ => ?_
    repeat' (first
      | exact d_ret ⟨false, rfl, fun h => by cases h⟩
      | refine d_call hp ?_
      | refine d_call hs ?_
      | refine d_call hnb ?_
      | refine d_call hlb ?_
      | refine d_dec (fun _ => ?_) (fun _ => ?_)
      | refine d_ite (fun _ => ?_) (fun _ => ?_)
      | refine d_l _ rfl fun _ => ?_)
    all_goals
      refine d_ret ⟨_, rfl, fun _ => ?_⟩
      simp only [decide_eq_true_eq, List.length_map] at *
      unfold Wf1
      simp only [Ty.kind, Ty.prio, Ty.shift, Ty.kids, Ty.labels]
      refine ⟨by omega, ?_⟩
      first
        | exact hlnd (by assumption)
        | exact hlnd (by simpa using (by assumption : (!lb) = false))
        | (have hz : ls = [] := List.eq_nil_of_length_eq_zero (by omega)
           rw [hz]; exact List.nodup_nil))
  obtain ⟨_, ⟨b, rfl, hb⟩, h⟩ := this
  exact ⟨b, h, hb⟩

end Go.Proofs.YtkpnmgohbipjjaaGreatDoor.Tx

/- Contracts: right types, small ones. -/
namespace Go.Proofs.YtkpnmgohbipjjaaGreatDoor.Tx
open Go.Lf Go.Lf.S Go.Lf.Duo
set_option maxRecDepth 100000

theorem ty_at {ks : List Ty} {j : Nat} (h : j < ks.length) : (ks.map Ty.enc)[j]? = some (ks[j]).enc := by simp [h]

theorem ok_ref02_node : ∀ (t : Ty), Lim t → ∀ (ns : List ByteArray) (g : Nat) (ses : Bool), ns.length + t.sz ≤ 1099511627776 →
    ∃ e : Int, Ok P F.ref02_node [t.enc, .sl (ns.map .str), i g, .bool ses] (i e) ∧ (e = 0 → Wf t ns g) := by
  intro t
  induction t using Ty.ind with
  | _ t ih =>
  intro hlim ns g ses hz
  obtain ⟨b, hb, hwf⟩ := ok_ref02_shape t hlim
  have hse := ok_ref02_Session t
  cases hlim with
  | mk _ hn hl hll hkl hkk =>
  obtain ⟨k, p, nm, s, ls, ks⟩ := t
  have hkl : ks.length ≤ 9223372036854775807 := hkl
  have hzk : ∀ x ∈ ks, x.sz < (Ty.mk k p nm s ls ks).sz := fun x hx => Ty.sz_kid hx
  have hns : ns.length ≤ 1099511627776 := by omega
  rw [Ty.enc_mk] at hb hse ⊢
  have := tx_ex (K := fun x => ∃ e : Int, x = i e ∧ (e = 0 → Wf (.mk k p nm s ls ks) ns g)) k_ref02_node (xs := [.agg [.int .i64 k, .int .i64 p, .str nm, .int .i64 s, .sl (ls.map .str), .sl (ks.map Ty.enc)], .sl (ns.map .str), i g, .bool ses]) rfl (by simp [t_ref02_node, T.dt]) (by
    refine d_l _ (by rfl) fun _ => d_call hb (d_l _ rfl fun _ => d_ite (fun _ => d_ret ⟨3, rfl, fun h => by cases h⟩) fun hbt => ?_)
    have hw1 := hwf (by simpa using hbt)
    have hw1' := hw1
    unfold Wf1 at hw1'
    have hw1' := hw1'.1
    simp only [Ty.kind, Ty.prio, Ty.shift, Ty.kids, Ty.labels] at hw1'
    -- the three ways behind
    have nm9 : k = 9 → (∃ j, j < g ∧ LastAt nm ns j) → Wf (.mk k p nm s ls ks) ns g := fun h9 hm => .mk _ _ _ hw1 (fun _ => hm) (fun h8 => by simp only [Ty.kind] at h8; omega) (fun _ x hx => by
      have : ks = [] := List.eq_nil_of_length_eq_zero (by omega)
      simp [Ty.kids, this] at hx)
    refine d_ite (fun _ => d_call hse (d_l _ rfl fun _ => d_ite (fun _ => d_ret ⟨3, rfl, fun h => by cases h⟩) fun _ => ?_)) fun _ => ?_
    all_goals
      refine d_l _ rfl fun _ => d_dec (fun h9 => ?_) fun h9 => ?_
      · have h9 : k = 9 := h9
        refine d_l _ e_len fun _ => d_l _ (e_sub (by simp; omega) (by simp; omega)) fun _ => ?_
        refine den_loop (fun m ys => ∃ q : Int, q + 1 = m ∧ q < ns.length ∧ (∀ x : Nat, q < x → ns[x]? ≠ some nm) ∧ ys = [i q]) ns.length ⟨ns.length - 1, by omega, by omega, fun x hx => by rw [List.getElem?_eq_none (by omega)]; simp, by simp⟩ ?_
        rintro m _ ⟨q, hq1, hq2, hq3, rfl⟩
        refine d_l _ rfl fun _ => d_dec (fun h => ?_) fun h => d_ret ⟨4, rfl, fun h => by cases h⟩
        have h : (0 : Int) ≤ q := h
        obtain ⟨j, rfl⟩ : ∃ j : Nat, q = j := ⟨q.toNat, by omega⟩
        have hlt : j < ns.length := by omega
        refine d_l _ (e_idx (str_at hlt) rfl) fun _ => d_l _ rfl fun _ => d_dec (fun he => ?_) fun he => ?_
        · have he : ns[j] = nm := he
          refine d_l _ rfl fun _ => d_dec (fun hg => d_ret ⟨0, rfl, fun _ => nm9 h9 ⟨j, ?_, by rw [List.getElem?_eq_getElem hlt, he], fun x hx => hq3 x (by omega)⟩⟩) fun _ => d_ret ⟨3, rfl, fun h => by cases h⟩
          have hg : (j : Int) < (g : Int) := hg
          omega
        · refine d_l _ (e_sub (by omega) (by omega)) fun _ => d_cont rfl ⟨m - 1, by omega, (j : Int) - 1, by omega, by omega, fun x hx => ?_, rfl⟩
          by_cases hxj : x = j
          · subst hxj; rw [List.getElem?_eq_getElem hlt]; intro e; exact he (Option.some.inj e)
          · exact hq3 x (by omega)
      · have h9 : ¬ k = 9 := h9
        refine d_l _ rfl fun _ => d_dec (fun h8 => ?_) fun h8 => ?_
        · have h8 : k = 8 := h8
          have hk1 : ks.length = 1 := (hw1'.2.2.2.2.2.1 h8).1
          have hm0 : ks[0] ∈ ks := List.getElem_mem (by omega)
          obtain ⟨e, he, hew⟩ := ih ks[0] hm0 (hkk _ hm0) (ns ++ [nm]) g true (by have := hzk _ hm0; simp; omega)
          refine d_l _ (e_idx (k := 0) (ty_at (by omega)) (Ty.okc_enc _)) fun _ => d_l _ rfl fun _ => d_l _ (e_app (all_map okc_str _) (by simp; omega) (by simp; omega)) fun _ => d_l _ rfl fun _ => d_l _ (e_app (fun x hx => by simp at hx; subst hx; rfl) (by simp; omega) (by simp; omega)) fun _ => ?_
          rw [List.map_append] at he
          refine d_call he (d_ret ⟨e, rfl, fun h0 => .mk _ _ _ hw1 (fun h => by simp only [Ty.kind] at h; omega) (fun _ x hx => ?_) (fun h => absurd h8 h)⟩)
          have : ks = [ks[0]] := by
            match ks, hk1 with
            | [x], _ => rfl
          simp only [Ty.kids] at hx
          rw [this] at hx
          obtain rfl : x = ks[0] := by simpa using hx
          exact hew h0
        · have h8 : ¬ k = 8 := h8
          refine den_loop (fun m ys => ∃ j : Nat, j + m = ks.length ∧ (∀ x ∈ ks.take j, Wf x ns ns.length) ∧ ys = [i j]) ks.length ⟨0, by omega, by simp, rfl⟩ ?_
          rintro m _ ⟨j, hj, hdone, rfl⟩
          refine d_l _ e_len fun _ => d_l _ rfl fun _ => d_dec (fun h => ?_) fun h => d_ret ⟨0, rfl, fun _ => .mk _ _ _ hw1 (fun h => absurd h h9) (fun h => absurd h h8) (fun _ x hx => ?_)⟩
          · have h : (j : Int) < ((ks.map Ty.enc).length : Int) := h
            have hlt : j < ks.length := by simp at h; omega
            have hmem : ks[j] ∈ ks := List.getElem_mem hlt
            have nxt : Wf ks[j] ns ns.length → ∀ x ∈ ks.take (j + 1), Wf x ns ns.length := fun hw x hx => by
              rw [List.take_succ_eq_append_getElem hlt] at hx
              rcases List.mem_append.1 hx with hx | hx
              · exact hdone x hx
              · obtain rfl : x = ks[j] := by simpa using hx
                exact hw
            refine d_l _ (e_idx (ty_at hlt) (Ty.okc_enc _)) fun _ => d_l (i (ns.length : Int)) (by rw [← List.length_map (f := PV.str)]; exact e_len) fun _ => d_l _ rfl fun _ => d_dec (fun _ => ?_) fun _ => ?_
            · obtain ⟨e, he, hew⟩ := ih ks[j] hmem (hkk _ hmem) ns ns.length true (by have := hzk _ hmem; omega)
              exact d_call he (d_l _ rfl fun _ => d_ndec (fun h0 => d_ret ⟨e, rfl, fun h => absurd h h0⟩) fun h0 => d_l _ (e_inc (by omega)) fun _ => d_cont rfl ⟨m - 1, by omega, j + 1, by omega, nxt (hew h0), rfl⟩)
            · refine d_l _ rfl fun _ => ?_
              obtain ⟨e, he, hew⟩ := ih ks[j] hmem (hkk _ hmem) ns ns.length (decide (5 < k)) (by have := hzk _ hmem; omega)
              exact d_call he (d_l _ rfl fun _ => d_ndec (fun h0 => d_ret ⟨e, rfl, fun h => absurd h h0⟩) fun h0 => d_l _ (e_inc (by omega)) fun _ => d_cont rfl ⟨m - 1, by omega, j + 1, by omega, nxt (hew h0), rfl⟩)
          · have h : ¬ (j : Int) < ((ks.map Ty.enc).length : Int) := h
            have : ks.take j = ks := List.take_of_length_le (by simp at h; omega)
            rw [this] at hdone
            exact hdone x hx)
  obtain ⟨_, ⟨e, rfl, he⟩, h⟩ := this
  exact ⟨e, h, he⟩

theorem ok_ref02_Right (t : Ty) (hlim : Lim t) (hz : t.sz ≤ 549755813888) : ∃ e : Int, Ok P F.ref02_Right [t.enc] (i e) ∧ (e = 0 → Wf t [] 0) := by
  have hd := ok_ref02_Depth t (by omega)
  have hs := ok_ref02_Size t (by omega)
  obtain ⟨e, he, hew⟩ := ok_ref02_node t hlim [] 0 false (by simp; omega)
  have hk := Ty.okc_enc t
  have := tx_ex (K := fun x => ∃ e : Int, x = i e ∧ (e = 0 → Wf t [] 0)) k_ref02_Right (xs := [t.enc]) rfl (by simp [t_ref02_Right, T.dt]) (by
    exact d_l _ (e_okc hk) fun _ => d_call hd (d_l _ rfl fun _ => d_dec (fun _ => d_ret ⟨2, rfl, fun h => by cases h⟩) fun _ => d_call hs (d_l _ rfl fun _ => d_dec (fun _ => d_ret ⟨2, rfl, fun h => by cases h⟩) fun _ => d_call he (d_ret ⟨e, rfl, hew⟩))))
  obtain ⟨_, ⟨e, rfl, he⟩, h⟩ := this
  exact ⟨e, h, he⟩

theorem ok_ref02_Few (t : Ty) (hlim : Lim t) (m : Int) (h0 : 0 ≤ m) (h1 : m ≤ 549755813888) : ∃ b, Ok P F.ref02_Few [t.enc, i m] (.bool b) ∧ (b = true → (t.sz : Int) ≤ m) := by
  have hc := ok_ref02_count t m hlim h0 (by omega)
  have hk := Ty.okc_enc t
  obtain ⟨c1, c2, c3⟩ := cnt_spec t m h0
  have := tx_ex (K := fun x => ∃ b, x = .bool b ∧ (b = true → (t.sz : Int) ≤ m)) k_ref02_Few (xs := [t.enc, i m]) rfl (by simp [t_ref02_Few, T.dt]) (by
    refine d_l _ (e_okc hk) fun _ => d_call hc (d_l _ rfl fun _ => d_dec (fun h => ?_) fun _ => d_ret ⟨false, rfl, fun h => by cases h⟩)
    have h : (0 : Int) ≤ cnt t m := h
    have := c3 h
    exact d_call (ok_ref02_Depth t (by omega)) (d_l _ rfl fun _ => d_ret ⟨_, rfl, fun _ => by omega⟩))
  obtain ⟨_, ⟨b, rfl, hb⟩, h⟩ := this
  exact ⟨b, h, hb⟩

end Go.Proofs.YtkpnmgohbipjjaaGreatDoor.Tx

/- Contracts: the reference's graph. -/
namespace Go.Proofs.YtkpnmgohbipjjaaGreatDoor.Tx
open Go.Lf Go.Lf.S Go.Lf.Duo
set_option maxRecDepth 100000

mutual
/-- how many nodes the graph has -/
def gc : Ty → Nat
  | .mk k _ _ _ _ ks => (if k ≤ 7 then 1 else 0) + gcs ks
def gcs : List Ty → Nat
  | [] => 0
  | k :: ks => gc k + gcs ks
end
theorem gcs_take (l : List Ty) (j : Nat) (h : j < l.length) : gcs (l.take (j + 1)) = gcs (l.take j) + gc l[j] := by
  induction l generalizing j with
  | nil => simp at h
  | cons x l ih =>
    cases j with
    | zero => simp [gcs]
    | succ j =>
      simp only [List.take_succ_cons, gcs, List.getElem_cons_succ]
      rw [ih j (by simpa using h)]; omega
theorem gcs_take_le (l : List Ty) (j : Nat) : gcs (l.take j) ≤ gcs l := by
  induction l generalizing j with
  | nil => simp
  | cons x l ih =>
    cases j with
    | zero => simp [gcs]
    | succ j => simp only [List.take_succ_cons, gcs]; have := ih j; omega
mutual
theorem gc_le : ∀ t : Ty, gc t ≤ t.sz
  | .mk k _ _ _ _ ks => by simp only [gc, Ty.sz]; have := gcs_le ks; split <;> omega
theorem gcs_le : ∀ l : List Ty, gcs l ≤ Ty.szs l
  | [] => by simp [gcs]
  | k :: ks => by simp only [gcs, Ty.szs]; have := gc_le k; have := gcs_le ks; omega
end

theorem ok_ref07_Count : ∀ t : Ty, t.sz ≤ 1099511627776 → Ok P F.ref07_Count [t.enc] (i (gc t)) := by
  intro t
  induction t using Ty.ind with
  | _ t ih =>
  obtain ⟨k, p, nm, s, ls, ks⟩ := t
  intro hz
  simp only [Ty.sz] at hz
  have hlen := szs_len ks
  have hgl := gcs_le ks
  rw [Ty.enc_mk]
  refine k_ref07_Count _ _ rfl (d_l _ (by rfl) fun _ => d_l _ rfl fun _ => d_dec (fun h7 => ?_) fun h7 => ?_)
  · have h7 : k ≤ 7 := h7
    refine den_rounds (fun j => [i j, i ((1 + gcs (ks.take j) : Nat) : Int)]) ks.length rfl (fun j hj => ?_) ?_
    · refine d_l _ e_len fun _ => d_l _ rfl fun _ => d_dec (fun h => ?_) fun h => absurd (show (j : Int) < ((ks.map Ty.enc).length : Int) by simp; omega) h
      have hmem : ks[j] ∈ ks := List.getElem_mem hj
      have hs1 := Ty.szs_mem hmem
      have hs2 := gcs_take ks j hj
      have hs3 := gcs_take_le ks (j + 1)
      refine d_l _ (e_idx (ty_at hj) (Ty.okc_enc _)) fun _ => d_call (ih _ hmem (by omega)) (d_l _ (e_add (by omega) (by omega)) fun _ => d_l _ (e_inc (by omega)) fun _ => d_cont rfl ?_)
      show [_, _] = [_, _]
      rw [hs2]
      congr 2
      simp only [S.i]; congr 1; omega
    · refine d_l _ e_len fun _ => d_l _ rfl fun _ => d_dec (fun h => ?_) fun h => d_ret ?_
      · have h : (ks.length : Int) < ((ks.map Ty.enc).length : Int) := h
        simp at h
      · simp [gc, h7]
  · have h7 : ¬ k ≤ 7 := h7
    refine den_rounds (fun j => [i j, i ((gcs (ks.take j) : Nat) : Int)]) ks.length rfl (fun j hj => ?_) ?_
    · refine d_l _ e_len fun _ => d_l _ rfl fun _ => d_dec (fun h => ?_) fun h => absurd (show (j : Int) < ((ks.map Ty.enc).length : Int) by simp; omega) h
      have hmem : ks[j] ∈ ks := List.getElem_mem hj
      have hs1 := Ty.szs_mem hmem
      have hs2 := gcs_take ks j hj
      have hs3 := gcs_take_le ks (j + 1)
      refine d_l _ (e_idx (ty_at hj) (Ty.okc_enc _)) fun _ => d_call (ih _ hmem (by omega)) (d_l _ (e_add (by omega) (by omega)) fun _ => d_l _ (e_inc (by omega)) fun _ => d_cont rfl ?_)
      show [_, _] = [_, _]
      rw [hs2]
      congr 2
    · refine d_l _ e_len fun _ => d_l _ rfl fun _ => d_dec (fun h => ?_) fun h => d_ret ?_
      · have h : (ks.length : Int) < ((ks.map Ty.enc).length : Int) := h
        simp at h
      · simp [gc, h7]

/-- what a name stands for: the last one -/
def lookLast : List ByteArray → List Rf → ByteArray → Option Rf
  | n :: ns, r :: rs, nm => match lookLast ns rs nm with
    | some q => some q
    | none => if n = nm then some r else none
  | _, _, _ => none
mutual
/-- the reference of a type whose nodes begin at a place -/
def refF : Ty → Int → List ByteArray → List Rf → Rf
  | .mk k _ nm s _ ks, a, ns, refs => if k = 8 then refFs ks a ns refs else if k = 9 then (match lookLast ns refs nm with
    | some q => ⟨q.node, q.shift + s⟩
    | none => ⟨a, 0⟩) else ⟨a, 0⟩
def refFs : List Ty → Int → List ByteArray → List Rf → Rf
  | [], a, _, _ => ⟨a, 0⟩
  | t :: _, a, ns, refs => refF t a ns refs
end
/-- the references of types whose nodes stand one behind another -/
def nextsF : List Ty → Int → List ByteArray → List Rf → List Rf
  | [], _, _, _ => []
  | t :: ts, a, ns, refs => refF t a ns refs :: nextsF ts (a + gc t) ns refs
mutual
/-- the nodes of a type -/
def nodesF : Ty → Int → List ByteArray → List Rf → List Nd
  | .mk k p nm s ls ks, a, ns, refs => if k = 8 then belowsF ks a (ns ++ [nm]) (refs ++ [refF (.mk k p nm s ls ks) a ns refs]) else if k = 9 then [] else ⟨k, p, ls, nextsF ks (a + 1) ns refs⟩ :: belowsF ks (a + 1) ns refs
def belowsF : List Ty → Int → List ByteArray → List Rf → List Nd
  | [], _, _, _ => []
  | t :: ts, a, ns, refs => nodesF t a ns refs ++ belowsF ts (a + gc t) ns refs
end
theorem refF_8 {k p : Int} {nm : ByteArray} {s : Int} {ls : List ByteArray} {ks : List Ty} (h : k = 8) {x : Ty} (hk : ks = [x]) {a : Int} {ns : List ByteArray} {refs : List Rf} : refF (.mk k p nm s ls ks) a ns refs = refF x a ns refs := by
  subst hk; simp [refF, refFs, h]
theorem refF_9 {k p : Int} {nm : ByteArray} {s : Int} {ls : List ByteArray} {ks : List Ty} (h : k = 9) {q : Rf} {a : Int} {ns : List ByteArray} {refs : List Rf} (hq : lookLast ns refs nm = some q) : refF (.mk k p nm s ls ks) a ns refs = ⟨q.node, q.shift + s⟩ := by
  simp [refF, h, hq]
theorem refF_o {k p : Int} {nm : ByteArray} {s : Int} {ls : List ByteArray} {ks : List Ty} (h : ¬ k = 8) (h9 : ¬ k = 9) {a : Int} {ns : List ByteArray} {refs : List Rf} : refF (.mk k p nm s ls ks) a ns refs = ⟨a, 0⟩ := by
  simp [refF, h, h9]
theorem nodesF_8 {k p : Int} {nm : ByteArray} {s : Int} {ls : List ByteArray} {ks : List Ty} (h : k = 8) {x : Ty} (hk : ks = [x]) {a : Int} {ns : List ByteArray} {refs : List Rf} :
    nodesF (.mk k p nm s ls ks) a ns refs = nodesF x a (ns ++ [nm]) (refs ++ [refF (.mk k p nm s ls ks) a ns refs]) := by
  subst hk; simp [nodesF, belowsF, h]
theorem nodesF_9 {k p : Int} {nm : ByteArray} {s : Int} {ls : List ByteArray} {ks : List Ty} (h : k = 9) {a : Int} {ns : List ByteArray} {refs : List Rf} : nodesF (.mk k p nm s ls ks) a ns refs = [] := by
  simp [nodesF, h]
theorem nodesF_o {k p : Int} {nm : ByteArray} {s : Int} {ls : List ByteArray} {ks : List Ty} (h : ¬ k = 8) (h9 : ¬ k = 9) {a : Int} {ns : List ByteArray} {refs : List Rf} :
    nodesF (.mk k p nm s ls ks) a ns refs = ⟨k, p, ls, nextsF ks (a + 1) ns refs⟩ :: belowsF ks (a + 1) ns refs := by
  simp [nodesF, h, h9]
theorem nextsF_take : ∀ (ks : List Ty) (j : Nat) (h : j < ks.length) (a : Int) (ns : List ByteArray) (refs : List Rf), nextsF (ks.take (j + 1)) a ns refs = nextsF (ks.take j) a ns refs ++ [refF ks[j] (a + gcs (ks.take j)) ns refs]
  | t :: ts, 0, _, a, ns, refs => by simp [nextsF, gcs]
  | t :: ts, j + 1, h, a, ns, refs => by
    have := nextsF_take ts j (by simpa using h) (a + gc t) ns refs
    simp only [List.take_succ_cons, nextsF, this, List.cons_append, List.getElem_cons_succ, gcs]
    congr 4
    omega
theorem belowsF_take : ∀ (ks : List Ty) (j : Nat) (h : j < ks.length) (a : Int) (ns : List ByteArray) (refs : List Rf), belowsF (ks.take (j + 1)) a ns refs = belowsF (ks.take j) a ns refs ++ nodesF ks[j] (a + gcs (ks.take j)) ns refs
  | t :: ts, 0, _, a, ns, refs => by simp [belowsF, gcs]
  | t :: ts, j + 1, h, a, ns, refs => by
    have := belowsF_take ts j (by simpa using h) (a + gc t) ns refs
    simp only [List.take_succ_cons, belowsF, this, List.append_assoc, List.getElem_cons_succ, gcs]
    congr 3
    omega
theorem look_none : ∀ (ns : List ByteArray) (refs : List Rf) (nm : ByteArray), (∀ i : Nat, ns[i]? ≠ some nm) → lookLast ns refs nm = none
  | [], _, _, _ => by simp [lookLast]
  | n :: ns, [], _, _ => by simp [lookLast]
  | n :: ns, r :: rs, nm, h => by
    have h0 := h 0
    simp at h0
    rw [lookLast, look_none ns rs nm fun i => by simpa using h (i + 1)]
    simp [h0]
theorem look_at : ∀ (ns : List ByteArray) (refs : List Rf) (nm : ByteArray) (j : Nat), ns[j]? = some nm → (∀ i : Nat, j < i → ns[i]? ≠ some nm) → (h : j < refs.length) → lookLast ns refs nm = some refs[j]
  | [], _, _, _, h, _, _ => by simp at h
  | n :: ns, [], _, _, _, _, h => by simp at h
  | n :: ns, r :: rs, nm, 0, h, hl, _ => by
    simp at h
    rw [lookLast, look_none ns rs nm fun i => by simpa using hl (i + 1) (by omega)]
    simp [h]
  | n :: ns, r :: rs, nm, j + 1, h, hl, hj => by
    rw [lookLast, look_at ns rs nm j (by simpa using h) (fun i hi => by simpa using hl (i + 1) (by omega)) (by simpa using hj)]
    simp

/-- references of the recursive types around -/
def RefsOk (refs : List Rf) : Prop := ∀ q ∈ refs, 0 ≤ q.shift ∧ q.shift ≤ 1000000 * (refs.length : Int)
def RefIn (r : Rf) (at_ : Int) (t : Ty) (refs : List Rf) : Prop := ((∃ q ∈ refs, r.node = q.node) ∨ (r.node = at_ ∧ 0 < gc t)) ∧ 0 ≤ r.shift ∧ r.shift ≤ 1000000 * ((refs.length : Int) + 1)

theorem rf_at {rs : List Rf} {j : Nat} (h : j < rs.length) : (rs.map Rf.enc)[j]? = some (rs[j]).enc := by simp [h]

theorem ok_ref07_reference : ∀ (t : Ty) (ns : List ByteArray) (refs : List Rf) (at_ : Int) (ext : List ByteArray) (g : Nat), Wf t (ns ++ ext) g → g ≤ ns.length → refs.length = ns.length → RefsOk refs → ns.length ≤ 1099511627776 →
    ∃ r : Rf, Ok P F.ref07_reference [t.enc, i at_, .sl (ns.map .str), .sl (refs.map Rf.enc)] r.enc ∧ RefIn r at_ t refs ∧ r = refF t at_ ns refs := by
  intro t
  induction t using Ty.ind with
  | _ t ih =>
  intro ns refs at_ ext g hwf hg hrl hro hnl
  cases hwf with
  | mk _ _ _ h1 h9 h8 hk =>
  obtain ⟨k, p, nm, s, ls, ks⟩ := t
  unfold Wf1 at h1
  have hnd := h1.2
  have h1 := h1.1
  simp only [Ty.kind, Ty.prio, Ty.shift, Ty.kids, Ty.labels] at h1
  have := tx_ex (K := fun x => ∃ r : Rf, x = r.enc ∧ RefIn r at_ (.mk k p nm s ls ks) refs ∧ r = refF (.mk k p nm s ls ks) at_ ns refs) k_ref07_reference
    (xs := [(Ty.mk k p nm s ls ks).enc, i at_, .sl (ns.map .str), .sl (refs.map Rf.enc)]) rfl (by simp [t_ref07_reference, T.dt]) (by
    rw [Ty.enc_mk]
    refine d_l _ (by rfl) fun _ => d_l _ rfl fun _ => d_dec (fun h => ?_) fun h => ?_
    · have h8' : k = 8 := h
      have hk1 : ks.length = 1 := (h1.2.2.2.2.2.1 h8').1
      have hm0 : ks[0] ∈ ks := List.getElem_mem (by omega)
      obtain ⟨r, hr0, hr, hrf⟩ := ih ks[0] hm0 ns refs at_ (ext ++ [nm]) g (by rw [← List.append_assoc]; exact h8 h8' _ hm0) hg hrl hro hnl
      have hks : ks = [ks[0]] := by
        match ks, hk1 with
        | [x], _ => rfl
      have hgc : gc (.mk k p nm s ls ks) = gc ks[0] := by
        simp only [gc, if_neg (show ¬ k ≤ 7 by omega)]
        conv => lhs; rw [hks]
        simp [gcs]
      exact d_l _ (e_idx (k := 0) (ty_at (by omega)) (Ty.okc_enc _)) fun _ => d_call hr0 (d_l _ (e_okc (Rf.okc_enc r)) fun _ => d_ret ⟨r, rfl, ⟨by rw [hgc]; exact hr.1, hr.2⟩, hrf.trans (refF_8 h8' hks).symm⟩)
    · have h8' : ¬ k = 8 := h
      refine d_l _ rfl fun _ => d_dec (fun h => ?_) fun h => ?_
      · have h9' : k = 9 := h
        obtain ⟨j, hj, hl, hlast⟩ := h9 h9'
        simp only [Ty.name] at hl hlast
        have hjn : j < ns.length := by omega
        rw [List.getElem?_append_left hjn] at hl
        have hl' : ns[j] = nm := by rw [List.getElem?_eq_getElem hjn] at hl; exact Option.some.inj hl
        refine d_l _ e_len fun _ => d_l _ (e_sub (by simp; omega) (by simp; omega)) fun _ => ?_
        refine den_loop (fun m ys => ∃ q : Nat, q + 1 = m ∧ q < ns.length ∧ j ≤ q ∧ ys = [i q]) ns.length ⟨ns.length - 1, by omega, by omega, by omega, by simp; omega⟩ ?_
        rintro m _ ⟨q, hq1, hq2, hq3, rfl⟩
        refine d_l _ rfl fun _ => d_dec (fun _ => ?_) fun h => absurd (show (0 : Int) ≤ (q : Int) by omega) h
        refine d_l _ (e_idx (str_at hq2) rfl) fun _ => d_l _ rfl fun _ => d_dec (fun he => ?_) fun he => ?_
        · have he : ns[q] = nm := he
          have hqj : q = j := by
            rcases Nat.lt_or_ge j q with h | h
            · have := hlast q h
              rw [List.getElem?_append_left hq2, List.getElem?_eq_getElem hq2, he] at this
              exact absurd rfl this
            · omega
          subst hqj
          have hqr : q < refs.length := by omega
          have hqs := hro refs[q] (List.getElem_mem hqr)
          refine d_l _ (e_idx (rf_at hqr) (Rf.okc_enc _)) fun _ => d_l _ (e_idx (rf_at hqr) (Rf.okc_enc _)) fun _ => d_l (i (refs[q].shift + s)) (e_add (by omega) (by omega)) fun _ => d_l _ (by rfl) fun _ => d_ret ⟨⟨refs[q].node, refs[q].shift + s⟩, rfl, ⟨.inl ⟨_, List.getElem_mem hqr, rfl⟩, by show 0 ≤ refs[q].shift + s; omega, by show refs[q].shift + s ≤ _; omega⟩,
            (refF_9 h9' (look_at ns refs nm q hl (fun i hi => by
              intro hc
              have hin := (List.getElem?_eq_some_iff.1 hc).1
              exact hlast i hi (by rw [List.getElem?_append_left hin]; exact hc)) hqr)).symm⟩
        · have he : ¬ ns[q] = nm := he
          have : j ≠ q := fun e => he (by subst e; exact hl')
          refine d_l _ (e_sub (by omega) (by omega)) fun _ => d_cont rfl ⟨m - 1, by omega, q - 1, by omega, by omega, by omega, ?_⟩
          simp only [S.i]; congr 2; omega
      · have h9' : ¬ k = 9 := h
        exact d_l _ (by rfl) fun _ => d_ret ⟨⟨at_, 0⟩, rfl, ⟨.inr ⟨rfl, by simp only [gc]; rw [if_pos (by omega)]; omega⟩, Int.le_refl _, by simp; omega⟩, (refF_o h8' h9').symm⟩)
  obtain ⟨_, ⟨r, rfl, hr⟩, h⟩ := this
  exact ⟨r, h, hr⟩

end Go.Proofs.YtkpnmgohbipjjaaGreatDoor.Tx
