/- Contracts (Wk1, Wk50, Wk2, Wk3, Wk51, Wk52, Wk53, Wk54, Wk55, Wk56). -/
import Derived.Test.YtbfjpjllaibooaaGreatTx
import Derived.Test.YtbfjpjllaibooaaGreatLfD
set_option linter.all false
/- Contracts: words, right types. -/
namespace Go.Proofs.YtbfjpjllaibooaaGreat.Tx
open Go.Lf Go.Lf.S Go.Lf.Duo
set_option maxRecDepth 100000
theorem ok_ref01_Letters : Ok P F.ref01_Letters [] (t_ref01_Letters [] |> fun | .ret x => x | _ => .nilI) := k_ref01_Letters [] _ rfl (d_ret rfl)
theorem ok_ref01_digits : Ok P F.ref01_digits [] (t_ref01_digits [] |> fun | .ret x => x | _ => .nilI) := k_ref01_digits [] _ rfl (d_ret rfl)
end Go.Proofs.YtbfjpjllaibooaaGreat.Tx
/- Contracts: words and names, exactly, of the program and of the reference. -/
namespace Go.Proofs.YtbfjpjllaibooaaGreat.Tx
open Go.Lf Go.Lf.S Go.Lf.Duo
set_option maxRecDepth 100000
noncomputable def pb (p : Prop) : Bool := @decide p (Classical.propDecidable p)
theorem pb_of {r : Bool} {p : Prop} (h : r = true ↔ p) : r = pb p := by
 unfold pb
 cases r with
 | true => exact (@decide_eq_true p (Classical.propDecidable p) (h.1 rfl)).symm
 | false => exact (@decide_eq_false p (Classical.propDecidable p) fun hp => by cases h.2 hp).symm
theorem pb_iff {p : Prop} : pb p = true ↔ p := ⟨fun h => @of_decide_eq_true p (Classical.propDecidable p) h, fun h => @decide_eq_true p (Classical.propDecidable p) h⟩
theorem pb_false {p : Prop} : pb p = false ↔ ¬ p := by
 constructor
 ·intro h hp
  rw [pb_iff.2 hp] at h; cases h
 ·intro h
  cases hb : pb p with
  | true => exact absurd (pb_iff.1 hb) h
  | false => rfl
theorem pb_congr {p q : Prop} (h : p ↔ q) : pb p = pb q := pb_of (pb_iff.trans h)
def IsB (p : Prop) (x : PV) : Prop := ∃ r, x = .bool r ∧ (r = true ↔ p)
theorem isB_t {p : Prop} (h : p) : IsB p (.bool true) := ⟨true, rfl, fun _ => h, fun _ => rfl⟩
theorem isB_f {p : Prop} (h : ¬ p) : IsB p (.bool false) := ⟨false, rfl, (fun e => by cases e), fun e => absurd e h⟩
theorem isB_p {p q : Prop} (h : p ↔ q) : IsB q (.bool (pb p)) := ⟨_, rfl, pb_iff.trans h⟩
theorem isB_d {p q : Prop} [Decidable p] (h : p ↔ q) : IsB q (.bool (decide p)) := ⟨_, rfl, decide_eq_true_iff.trans h⟩
theorem tx_pb {f m : Nat} {t : List PV → T PV} (h : TxOk P f m t) {p : Prop} {xs : List PV} (hl : xs.length = m) (hd : (t xs).dt) (hden : (t xs).den0 P (IsB p) []) : Ok P f xs (.bool (pb p)) := by
 obtain ⟨_, ⟨r, rfl, hr⟩, h⟩ := tx_ex h hl hd hden
 rw [← pb_of hr]; exact h
def letB (b : Nat) : Bool := (decide (65 ≤ b) && decide (b ≤ 90)) || (decide (97 ≤ b) && decide (b ≤ 122)) || decide (b = 95)
def digB (b : Nat) : Bool := decide (48 ≤ b) && decide (b ≤ 57)
def alnB (b : Nat) : Bool := letB b || digB b
theorem letB_aln {b : Nat} (h : letB b = true) : alnB b = true := by simp [alnB, h]
theorem good1 : GoodEv P (evAll tb tbS 1000 8).1 (evAll tb tbS 1000 8).2 := evAll_good allOk allOkS 8
def ck (f : Nat) (l : List PV) (g : Nat → Bool) : Bool := (List.range 256).all fun b => match (evAll tb tbS 1000 8).1 f (.int .u8 (b : Int) :: l) with
 | some (.bool r) => r == g b
 | _ => false
theorem ok_ck {f : Nat} {l : List PV} {g : Nat → Bool} (h : ck f l g = true) (b : UInt8) : Ok P f (.int .u8 (b.toNat : Int) :: l) (.bool (g b.toNat)) := by
 have h1 := (List.all_eq_true.1 h) b.toNat (List.mem_range.2 b.toNat_lt)
 split at h1
 ·rename_i r hr
  have : r = g b.toNat := by simpa using h1
  rw [← this]; exact good1.1 _ _ _ hr
 ·cases h1
def lettersV : PV := .str ⟨#[65, 66, 67, 68, 69, 70, 71, 72, 73, 74, 75, 76, 77, 78, 79, 80, 81, 82, 83, 84, 85, 86, 87, 88, 89, 90, 97, 98, 99, 100, 101, 102, 103, 104, 105, 106, 107, 108, 109, 110, 111, 112, 113, 114, 115, 116, 117, 118, 119, 120, 121, 122, 95]⟩
def digitsV : PV := .str ⟨#[48, 49, 50, 51, 52, 53, 54, 55, 56, 57]⟩
theorem ok_in_let (b : UInt8) : Ok P F.ref01_in [.int .u8 (b.toNat : Int), lettersV] (.bool (letB b.toNat)) := ok_ck (l := [lettersV]) (by kernel_rfl) b
theorem ok_in_dig (b : UInt8) : Ok P F.ref01_in [.int .u8 (b.toNat : Int), digitsV] (.bool (digB b.toNat)) := ok_ck (l := [digitsV]) (by kernel_rfl) b
def wordP (s : ByteArray) : Prop := ∃ h : 0 < s.size, letB (s[0]).toNat = true ∧ ∀ (j : Nat) (h : j < s.size), 1 ≤ j → alnB (s[j]).toNat = true
def kwds : List ByteArray := [⟨#[100, 101, 102]⟩, ⟨#[109, 97, 105, 110]⟩, ⟨#[115, 116, 111, 112]⟩, ⟨#[110, 101, 119]⟩, ⟨#[105, 110, 116]⟩, ⟨#[98, 111, 111, 108]⟩, ⟨#[101, 110, 100]⟩, ⟨#[114, 101, 99]⟩, ⟨#[116, 114, 117, 101]⟩, ⟨#[102, 97, 108, 115, 101]⟩]
def nameP (s : ByteArray) : Prop := wordP s ∧ s ∉ kwds
theorem okx_ref01_Word (s : ByteArray) (hs : s.size ≤ 9223372036854775807) : Ok P F.ref01_Word [.str s] (.bool (pb (wordP s))) := by
 refine tx_pb k_ref01_Word rfl (by simp [t_ref01_Word, T.dt]) ?_
 refine d_l _ rfl fun _ => d_l _ rfl fun _ => d_dec (fun h => d_ret (isB_f fun ⟨h1, _⟩ => by have : (s.size : Int) = 0 := h; omega)) fun h => ?_
 have h0 : 0 < s.size := by have : ¬ (s.size : Int) = 0 := h; omega
 refine d_l _ (e_sidx (k := 0) h0) fun _ => d_call ok_ref01_Letters (d_call (ok_in_let s[0]) (d_l _ rfl fun _ => ?_))
 refine d_ite (fun hb => d_ret (isB_f fun ⟨_, h1, _⟩ => by rw [h1] at hb; cases hb)) fun hb => ?_
 have hb : letB (s[0]).toNat = true := by simpa using hb
 refine den_loop (fun m ys => ∃ j : Nat, j + m = s.size ∧ 1 ≤ j ∧ (∀ (k : Nat) (h : k < s.size), 1 ≤ k → k < j → alnB (s[k]).toNat = true) ∧ ys = [i j]) (s.size - 1) ⟨1, by omega, Nat.le_refl _, fun k _ h1 h2 => by omega, rfl⟩ ?_
 rintro m _ ⟨j, hj, hj1, hall, rfl⟩
 refine d_l _ rfl fun _ => d_l _ rfl fun _ => d_dec (fun h => ?_) fun h => d_ret (isB_t ⟨h0, hb, fun k hk h1 => hall k hk h1 (by have : ¬ (j : Int) < (s.size : Int) := h; omega)⟩)
 have hlt : j < s.size := by have : (j : Int) < (s.size : Int) := h; omega
 refine d_l _ (e_sidx hlt) fun _ => d_call ok_ref01_Letters (d_call (ok_in_let s[j]) (d_l _ rfl fun _ => ?_))
 have next : alnB (s[j]).toNat = true → ∃ m', m' < m ∧ ∃ j' : Nat, j' + m' = s.size ∧ 1 ≤ j' ∧ (∀ (k : Nat) (h : k < s.size), 1 ≤ k → k < j' → alnB (s[k]).toNat = true) ∧ [i ((j + 1 : Nat) : Int)] = [i (j' : Int)] := fun ha =>
  ⟨m - 1, by omega, j + 1, by omega, by omega, fun k hk h1 h2 => by
   by_cases e : k = j
   ·subst e; exact ha
   ·exact hall k hk h1 (by omega), rfl⟩
 refine d_ite (fun hl => ?_) fun hl => d_l _ (e_inc (by omega)) fun _ => d_cont rfl (next (letB_aln (by simpa using hl)))
 have hl : letB (s[j]).toNat = false := by simpa using hl
 refine d_l _ (e_sidx hlt) fun _ => d_call ok_ref01_digits (d_call (ok_in_dig s[j]) (d_l _ rfl fun _ => ?_))
 refine d_ite (fun hd => d_ret (isB_f fun ⟨_, _, h1⟩ => ?_)) fun hd => d_l _ (e_inc (by omega)) fun _ => d_cont rfl (next (by simp only [alnB, hl, Bool.false_or]; simpa using hd))
 have := h1 j hlt hj1
 simp [alnB, hl] at this
 simp [this] at hd
theorem okx_ref01_Keyword (s : ByteArray) : Ok P F.ref01_Keyword [.str s] (.bool (pb (s ∈ kwds))) := by
 refine tx_pb k_ref01_Keyword rfl (by simp [t_ref01_Keyword, T.dt]) ?_
 refine d_l _ rfl fun _ => ?_
 refine den_loop (fun m ys => ∃ j : Nat, j + m = 10 ∧ s ∉ kwds.take j ∧ ys = [i j]) 10 ⟨0, by omega, (fun h => by cases h), rfl⟩ ?_
 rintro m _ ⟨j, hj, hn, rfl⟩
 refine d_l _ rfl fun _ => d_l _ rfl fun _ => d_dec (fun h => ?_) fun h => d_ret (isB_f ?_)
 ·have hlt : j < 10 := by have : (j : Int) < 10 := h; omega
  have : j = 0 ∨ j = 1 ∨ j = 2 ∨ j = 3 ∨ j = 4 ∨ j = 5 ∨ j = 6 ∨ j = 7 ∨ j = 8 ∨ j = 9 := by omega
  rcases this with rfl | rfl | rfl | rfl | rfl | rfl | rfl | rfl | rfl | rfl <;>
   exact d_l _ rfl fun _ => d_l _ rfl fun _ => d_dec (fun h => d_ret (isB_t (by have h : _ = s := h; simp [kwds, ← h]))) fun h => d_l _ (e_inc (by omega)) fun _ => d_cont rfl ⟨m - 1, by omega, _, by omega, (by have h : ¬ _ = s := h; simp [kwds] at hn ⊢; simp [hn, Ne.symm h]; try exact fun e => h e.symm), rfl⟩
 ·have hlt : j = 10 := by have : ¬ (j : Int) < 10 := h; omega
  subst hlt; exact hn
theorem okx_ref01_Name (s : ByteArray) (hs : s.size ≤ 9223372036854775807) : Ok P F.ref01_Name [.str s] (.bool (pb (nameP s))) := by
 refine tx_pb k_ref01_Name rfl (by simp [t_ref01_Name, T.dt]) ?_
 refine d_call (okx_ref01_Word s hs) (d_ite (fun h => d_call (okx_ref01_Keyword s) (d_l _ rfl fun _ => d_ret ⟨_, rfl, ?_⟩)) fun h => d_ret (isB_f fun hp => pb_false.1 h hp.1))
 simp only [Bool.not_eq_true', pb_false]
 exact ⟨fun h2 => ⟨pb_iff.1 h, h2⟩, fun h2 => h2.2⟩
/-! the program's -/
end Go.Proofs.YtbfjpjllaibooaaGreat.Tx
/- Contracts: sizes of types. -/
namespace Go.Proofs.YtbfjpjllaibooaaGreat.Tx
open Go.Lf Go.Lf.S Go.Lf.Duo
set_option maxRecDepth 100000
theorem ok_ref02_prio (k : Int) : Ok P F.ref02_prio [i k] (.bool (decide (0 ≤ k ∧ k ≤ 1000000))) := by
 refine k_ref02_prio _ _ rfl (d_l _ rfl fun _ => d_dec (fun h => d_l _ rfl fun _ => d_ret (congrArg PV.bool ?_)) fun h => d_ret (congrArg PV.bool ?_))
 ·have : 0 ≤ k := h; simp [this]
 ·have : ¬ 0 ≤ k := h; simp [this]
theorem ok_ref02_Session (t : Ty) : Ok P F.ref02_Session [t.enc] (.bool (decide (t.kind ≠ 1 ∧ t.kind ≠ 2))) := by
 obtain ⟨k, p, nm, s, ls, ks⟩ := t
 rw [Ty.enc_mk]
 refine k_ref02_Session _ _ rfl (d_l _ rfl fun _ => d_l _ rfl fun _ => d_ndec (fun h => d_l _ rfl fun _ => d_ret (congrArg PV.bool ?_)) fun h => d_ret (congrArg PV.bool ?_))
 ·have : ¬ k = 1 := h; simp [Ty.kind, this]
 ·have : k = 1 := h; simp [Ty.kind, this]
/-! sizes -/
theorem szs_take (l : List Ty) (j : Nat) (h : j < l.length) : Ty.szs (l.take (j + 1)) = Ty.szs (l.take j) + Ty.sz l[j] := by
 induction l generalizing j with
 | nil => simp at h
 | cons x l ih =>
  cases j with
  | zero => simp [Ty.szs]
  | succ j =>
   simp only [List.take_succ_cons, Ty.szs, List.getElem_cons_succ]
   rw [ih j (by simpa using h)]; omega
theorem szs_take_le (l : List Ty) (j : Nat) : Ty.szs (l.take j) ≤ Ty.szs l := by
 induction l generalizing j with
 | nil => simp
 | cons x l ih =>
  cases j with
  | zero => simp [Ty.szs]
  | succ j => simp only [List.take_succ_cons, Ty.szs]; have := ih j; omega
theorem szs_len (l : List Ty) : l.length ≤ Ty.szs l := by
 induction l with
 | nil => simp
 | cons x l ih => simp only [List.length_cons, Ty.szs]; have : 1 ≤ Ty.sz x := by { cases x; simp [Ty.sz] }; omega
theorem ok_ref02_Size : ∀ t : Ty, t.sz ≤ 1099511627776 → Ok P F.ref02_Size [t.enc] (i t.sz) := by
 intro t
 induction t using Ty.ind with
 | _ t ih =>
 obtain ⟨k, p, nm, s, ls, ks⟩ := t
 intro hz
 simp only [Ty.sz] at hz ⊢
 have hlen := szs_len ks
 rw [Ty.enc_mk]
 refine k_ref02_Size _ _ rfl (d_l _ (by rfl) fun _ => ?_)
 refine den_rounds (fun j => [i j, i ((Ty.szs (ks.take j) + 1 : Nat) : Int)]) ks.length rfl (fun j hj => ?_) ?_
 ·refine d_l _ e_len fun _ => d_l _ rfl fun _ => d_dec (fun h => ?_) fun h => absurd (show (j : Int) < ((ks.map Ty.enc).length : Int) by simp; omega) h
  have hk : (ks.map Ty.enc)[j]? = some (ks[j]).enc := by simp [hj]
  have hmem : ks[j] ∈ ks := List.getElem_mem hj
  have hs1 := Ty.szs_mem hmem
  have hs2 := szs_take ks j hj
  have hs3 := szs_take_le ks (j + 1)
  refine d_l _ (e_idx hk (Ty.okc_enc _)) fun _ => d_call (ih _ hmem (by omega)) (d_l _ (e_add (by omega) (by omega)) fun _ => d_l _ (e_inc (by omega)) fun _ => d_cont rfl ?_)
  show [_, _] = [_, _]
  rw [hs2]
  congr 2
  simp only [S.i]; congr 1; omega
 ·refine d_l _ e_len fun _ => d_l _ rfl fun _ => d_dec (fun h => ?_) fun h => d_ret ?_
  ·have h : (ks.length : Int) < ((ks.map Ty.enc).length : Int) := h
   simp at h
  ·simp
mutual
def dep : Ty → Nat
 | .mk _ _ _ _ _ ks => deps ks + 1
def deps : List Ty → Nat
 | [] => 0
 | k :: ks => max (dep k) (deps ks)
end
theorem deps_take (l : List Ty) (j : Nat) (h : j < l.length) : deps (l.take (j + 1)) = max (deps (l.take j)) (dep l[j]) := by
 induction l generalizing j with
 | nil => simp at h
 | cons x l ih =>
  cases j with
  | zero => simp [deps]
  | succ j =>
   simp only [List.take_succ_cons, deps, List.getElem_cons_succ]
   rw [ih j (by simpa using h)]; omega
mutual
theorem dep_le : ∀ t : Ty, dep t ≤ t.sz
 | .mk _ _ _ _ _ ks => by simp only [dep, Ty.sz]; have := deps_le ks; omega
theorem deps_le : ∀ l : List Ty, deps l ≤ Ty.szs l
 | [] => by simp [deps]
 | k :: ks => by simp only [deps, Ty.szs]; have := dep_le k; have := deps_le ks; omega
end
theorem ok_ref02_Depth : ∀ t : Ty, t.sz ≤ 1099511627776 → Ok P F.ref02_Depth [t.enc] (i (dep t)) := by
 intro t
 induction t using Ty.ind with
 | _ t ih =>
 obtain ⟨k, p, nm, s, ls, ks⟩ := t
 intro hz
 simp only [Ty.sz] at hz
 simp only [dep]
 have hlen := szs_len ks
 have hdl := deps_le ks
 rw [Ty.enc_mk]
 refine k_ref02_Depth _ _ rfl (d_l _ (by rfl) fun _ => ?_)
 refine den_rounds (fun j => [i j, i ((deps (ks.take j) : Nat) : Int)]) ks.length rfl (fun j hj => ?_) ?_
 ·refine d_l _ e_len fun _ => d_l _ rfl fun _ => d_dec (fun h => ?_) fun h => absurd (show (j : Int) < ((ks.map Ty.enc).length : Int) by simp; omega) h
  have hk : (ks.map Ty.enc)[j]? = some (ks[j]).enc := by simp [hj]
  have hmem : ks[j] ∈ ks := List.getElem_mem hj
  have hs1 := Ty.szs_mem hmem
  refine d_l _ (e_idx hk (Ty.okc_enc _)) fun _ => d_call (ih _ hmem (by omega)) (d_l _ rfl fun _ => d_l _ (e_inc (by omega)) fun _ => d_cont rfl ?_)
  show [_, _] = [_, _]
  rw [deps_take ks j hj]
  congr 2
  simp only [S.i]; congr 1
  split <;> omega
 ·refine d_l _ e_len fun _ => d_l _ rfl fun _ => d_dec (fun h => ?_) fun h => d_l _ (e_add (by simp; omega) (by simp; omega)) fun _ => d_ret ?_
  ·have h : (ks.length : Int) < ((ks.map Ty.enc).length : Int) := h
   simp at h
  ·simp
/-! count -/
mutual
def cnt : Ty → Int → Int
 | .mk _ _ _ _ _ ks, m => cnts ks (m - 1)
def cnts : List Ty → Int → Int
 | [], m => m
 | k :: ks, m => if 0 ≤ m then cnts ks (cnt k m) else m
end
mutual
theorem cnt_spec : ∀ (t : Ty) (m : Int), 0 ≤ m → -1 ≤ cnt t m ∧ cnt t m ≤ m ∧ (0 ≤ cnt t m → cnt t m = m - t.sz)
 | .mk _ _ _ _ _ ks, m, h => by
  simp only [cnt, Ty.sz]
  by_cases h1 : 0 ≤ m - 1
  ·obtain ⟨a, b, c⟩ := cnts_spec ks (m - 1) (by omega)
   exact ⟨a, by omega, fun h => by have := c h; omega⟩
  ·obtain ⟨a, b, c⟩ := cnts_spec ks (m - 1) (by omega)
   exact ⟨a, by omega, fun h => by have := c h; omega⟩
theorem cnts_spec : ∀ (l : List Ty) (m : Int), -1 ≤ m → -1 ≤ cnts l m ∧ cnts l m ≤ m ∧ (0 ≤ cnts l m → cnts l m = m - Ty.szs l)
 | [], m, h => by simp only [cnts, Ty.szs]; exact ⟨h, Int.le_refl _, fun _ => by omega⟩
 | k :: ks, m, h => by
  simp only [cnts, Ty.szs]
  split
  ·rename_i h0
   obtain ⟨a, b, c⟩ := cnt_spec k m h0
   obtain ⟨d, e, f⟩ := cnts_spec ks (cnt k m) a
   exact ⟨d, by omega, fun h => by have := f h; have := c (by omega); omega⟩
  ·exact ⟨h, Int.le_refl _, fun h => by omega⟩
end
theorem ok_ref02_count : ∀ (t : Ty) (m : Int), Lim t → 0 ≤ m → m ≤ 1099511627776 → Ok P F.ref02_count [t.enc, i m] (i (cnt t m)) := by
 intro t
 induction t using Ty.ind with
 | _ t ih =>
 intro m hlim h0 h1
 cases hlim with
 | mk _ _ _ _ hkl hkk =>
 obtain ⟨k, p, nm, s, ls, ks⟩ := t
 have hkl : ks.length ≤ 9223372036854775807 := hkl
 rw [Ty.enc_mk]
 refine k_ref02_count _ _ rfl (d_l _ (by rfl) fun _ => d_l _ (e_sub (by omega) (by omega)) fun _ => ?_)
 refine den_loop (fun r ys => ∃ (j : Nat) (q : Int), j + r = ks.length ∧ -1 ≤ q ∧ q ≤ m ∧ cnts (ks.drop j) q = cnts ks (m - 1) ∧ ys = [i j, i q]) ks.length ⟨0, m - 1, by omega, by omega, by omega, rfl, rfl⟩ ?_
 rintro r _ ⟨j, q, hj, hq0, hq1, hq, rfl⟩
 refine d_l _ e_len fun _ => d_l _ rfl fun _ => d_dec (fun h => ?_) fun h => ?_
 ·have h : (j : Int) < ((ks.map Ty.enc).length : Int) := h
  have hlt : j < ks.length := by simp at h; omega
  have hd : ks.drop j = ks[j] :: ks.drop (j + 1) := List.drop_eq_getElem_cons hlt
  rw [hd] at hq
  simp only [cnts] at hq
  refine d_l _ rfl fun _ => d_dec (fun h => ?_) fun h => ?_
  ·have h : (0 : Int) ≤ q := h
   rw [if_pos h] at hq
   have hk : (ks.map Ty.enc)[j]? = some (ks[j]).enc := by simp [hlt]
   have hmem : ks[j] ∈ ks := List.getElem_mem hlt
   obtain ⟨c1, c2, _⟩ := cnt_spec ks[j] q h
   exact d_l _ (e_idx hk (Ty.okc_enc _)) fun _ => d_call (ih _ hmem q (hkk _ hmem) h (by omega)) (d_l _ (e_inc (by omega)) fun _ => d_cont rfl ⟨r - 1, by omega, j + 1, _, by omega, c1, by omega, hq, rfl⟩)
  ·have h : ¬ (0 : Int) ≤ q := h
   rw [if_neg h] at hq
   exact d_ret (by rw [hq]; rfl)
 ·have h : ¬ (j : Int) < ((ks.map Ty.enc).length : Int) := h
  have hd : ks.drop j = [] := List.drop_eq_nil_of_le (by simp at h; omega)
  rw [hd] at hq
  simp only [cnts] at hq
  exact d_ret (by rw [hq]; rfl)
end Go.Proofs.YtbfjpjllaibooaaGreat.Tx
/- Contracts: right types. -/
namespace Go.Proofs.YtbfjpjllaibooaaGreat.Tx
open Go.Lf Go.Lf.S Go.Lf.Duo
set_option maxRecDepth 100000
theorem str_at {ls : List ByteArray} {j : Nat} (h : j < ls.length) : (ls.map PV.str)[j]? = some (.str ls[j]) := by simp [h]
theorem ok_ref02_in (s : ByteArray) (ls : List ByteArray) (hl : ls.length ≤ 9223372036854775807) : Ok P F.ref02_in [.str s, .sl (ls.map .str)] (.bool (memB s ls)) := by
 refine k_ref02_in _ _ rfl ?_
 refine den_loop (fun m ys => ∃ j : Nat, j + m = ls.length ∧ (s ∈ ls ↔ s ∈ ls.drop j) ∧ ys = [i j]) ls.length ⟨0, by omega, by simp, rfl⟩ ?_
 rintro m _ ⟨j, hj, hs, rfl⟩
 refine d_l _ e_len fun _ => d_l _ rfl fun _ => d_dec (fun h => ?_) fun h => d_ret ?_
 ·have h : (j : Int) < ((ls.map PV.str).length : Int) := h
  have hlt : j < ls.length := by simp at h; omega
  have hd : ls.drop j = ls[j] :: ls.drop (j + 1) := List.drop_eq_getElem_cons hlt
  rw [hd] at hs
  refine d_l _ (e_idx (str_at hlt) rfl) fun _ => d_l _ rfl fun _ => d_dec (fun h => d_ret ?_) fun h => ?_
  ·have h : ls[j] = s := h
   have : s ∈ ls := by rw [hs, h]; exact List.mem_cons_self
   rw [memB_iff.2 this]
  ·have h : ¬ ls[j] = s := h
   refine d_l _ (e_inc (by omega)) fun _ => d_cont rfl ⟨m - 1, by omega, j + 1, by omega, ?_, rfl⟩
   rw [hs, List.mem_cons]
   constructor
   ·rintro (e | e)
    ·exact absurd e.symm h
    ·exact e
   ·exact .inr
 ·have h : ¬ (j : Int) < ((ls.map PV.str).length : Int) := h
  have hd : ls.drop j = [] := List.drop_eq_nil_of_le (by simp at h; omega)
  rw [hd] at hs
  have : ¬ s ∈ ls := by rw [hs]; simp
  have : memB s ls = false := by rw [Bool.eq_false_iff]; exact fun e => this (memB_iff.1 e)
  rw [this]
end Go.Proofs.YtbfjpjllaibooaaGreat.Tx
/- Maps whose keys are texts; sets of texts. -/
namespace Go.Proofs.YtbfjpjllaibooaaGreat.Tx
open Go.Lf Go.Lf.S Go.Lf.Duo
set_option maxRecDepth 100000
def idxS (s : ByteArray) : List ByteArray → Nat → Option Nat
 | [], _ => none
 | x :: r, n => if s = x then some n else idxS s r (n + 1)
theorem kfindGo_str (s : ByteArray) : ∀ (ls : List ByteArray) (n : Nat), PV.kfindGo false [.s] (.str s) (ls.map .str) n = some (idxS s ls n)
 | [], _ => rfl
 | x :: r, n => by
  have h : PV.keq false [.s] (.str s) (.str x) = some (decide (s = x)) := by
   show (match (some (decide (s = x)) : Option Bool) with
    | some true => some true
    | some false => some false
    | none => none) = _
   cases decide (s = x) <;> rfl
  simp only [List.map_cons, PV.kfindGo, h, idxS]
  by_cases e : s = x
  ·rw [decide_eq_true e, if_pos e]
  ·rw [decide_eq_false e, if_neg e]; exact kfindGo_str s r (n + 1)
theorem kfind_str (s : ByteArray) (ls : List ByteArray) : PV.kfind false [.s] (.str s) (ls.map .str) = some (idxS s ls 0) := kfindGo_str s ls 0
theorem idxS_none {s : ByteArray} : ∀ {ls : List ByteArray} {n : Nat}, idxS s ls n = none ↔ s ∉ ls
 | [], n => by simp [idxS]
 | x :: r, n => by
  simp only [idxS, List.mem_cons, not_or]
  by_cases e : s = x
  ·simp [e]
  ·simp only [if_neg e, e, not_false_eq_true, true_and]; exact idxS_none
theorem idxS_some {s : ByteArray} : ∀ {ls : List ByteArray} {n j : Nat}, idxS s ls n = some j → n ≤ j ∧ ls[j - n]? = some s ∧ ∀ k, k < j - n → ls[k]? ≠ some s
 | [], n, j, h => by cases h
 | x :: r, n, j, h => by
  simp only [idxS] at h
  by_cases e : s = x
  ·rw [if_pos e] at h; cases h
   exact ⟨Nat.le_refl _, by simp [e], fun k hk => by omega⟩
  ·rw [if_neg e] at h
   obtain ⟨h1, h2, h3⟩ := idxS_some h
   refine ⟨by omega, ?_, fun k hk => ?_⟩
   ·obtain ⟨d, rfl⟩ : ∃ d, j = n + 1 + d := ⟨j - (n + 1), by omega⟩
    rw [show n + 1 + d - n = d + 1 by omega]
    rw [show n + 1 + d - (n + 1) = d by omega] at h2
    simpa using h2
   ·cases k with
    | zero => simpa using Ne.symm e
    | succ k => simpa using h3 k (by omega)
theorem set_same51 {α : Type} {l : List α} {j : Nat} {x : α} (h : l[j]? = some x) : l.set j x = l := by
 apply List.ext_getElem?
 intro k
 rw [List.getElem?_set]
 split
 ·rename_i e; subst e
  split
  ·exact h.symm
  ·rename_i hn; exact absurd (List.getElem?_eq_some_iff.1 h).1 hn
 ·rfl
/-- a set of texts -/
def setV (ls : List ByteArray) : PV := .mp (ls.map .str) (ls.map fun _ => .bool true)
theorem e_mgetS {s : ByteArray} {ls : List ByteArray} : (Prim.mget false [.s] (.bool false)).ev [setV ls, .str s] = some (.bool (pb (s ∈ ls))) := by
 show (match PV.kfind false [.s] (.str s) (ls.map .str) with
  | some (some i) => (ls.map fun _ => PV.bool true)[i]?
  | some none => some (.bool false)
  | none => none) = _
 rw [kfind_str]
 cases h : idxS s ls 0 with
 | none => rw [pb_false.2 (idxS_none.1 h)]
 | some j =>
  obtain ⟨_, h2, _⟩ := idxS_some h
  have hm : s ∈ ls := List.mem_of_getElem? h2
  rw [pb_iff.2 hm]
  have := (List.getElem?_eq_some_iff.1 h2).1
  simp only [List.getElem?_map]
  rw [show j = j - 0 from rfl, h2]; rfl
def addS (s : ByteArray) (ls : List ByteArray) : List ByteArray := if memB s ls then ls else ls ++ [s]
theorem addS_in {s : ByteArray} {ls : List ByteArray} (h : s ∈ ls) : addS s ls = ls := if_pos (memB_iff.2 h)
theorem addS_new {s : ByteArray} {ls : List ByteArray} (h : s ∉ ls) : addS s ls = ls ++ [s] := if_neg fun e => h (memB_iff.1 e)
theorem mem_addS {s x : ByteArray} {ls : List ByteArray} : x ∈ addS s ls ↔ x ∈ ls ∨ x = s := by
 by_cases h : s ∈ ls
 ·rw [addS_in h]; exact ⟨.inl, fun e => e.elim id fun e => e ▸ h⟩
 ·rw [addS_new h]; simp
theorem e_msetS {s : ByteArray} {ls : List ByteArray} : (Prim.mset false [.s]).ev [setV ls, .str s, .bool true] = some (setV (addS s ls)) := by
 show (match PV.kfind false [.s] (.str s) (ls.map .str) with
  | some (some i) => some (PV.mp ((ls.map PV.str).set i (.str s)) ((ls.map fun _ => PV.bool true).set i (.bool true)))
  | some none => some (PV.mp (ls.map PV.str ++ [PV.str s]) ((ls.map fun _ => PV.bool true) ++ [PV.bool true]))
  | none => none) = _
 rw [kfind_str]
 cases h : idxS s ls 0 with
 | none =>
  rw [addS_new (idxS_none.1 h)]
  simp [setV]
 | some j =>
  obtain ⟨_, h2, _⟩ := idxS_some h
  have hm : s ∈ ls := List.mem_of_getElem? h2
  rw [addS_in hm]
  have h2 : ls[j]? = some s := h2
  simp only [setV]
  rw [set_same51 (by simp [h2]), set_same51 (by simp [h2])]
def labP (ls : List ByteArray) : Prop := (∀ s ∈ ls, nameP s) ∧ ls.Nodup
theorem labP_snoc {ls : List ByteArray} {j : Nat} (h : j < ls.length) : labP (ls.take (j + 1)) ↔ labP (ls.take j) ∧ nameP ls[j] ∧ ls[j] ∉ ls.take j := by
 unfold labP
 rw [← List.take_append_getElem h]
 simp only [List.mem_append, List.mem_singleton, List.nodup_append, List.nodup_cons, List.not_mem_nil, not_false_eq_true, List.nodup_nil, true_and, and_true]
 constructor
 ·rintro ⟨h1, h2, h3⟩
  exact ⟨⟨fun s hs => h1 s (.inl hs), h2⟩, h1 _ (.inr rfl), fun hm => h3 _ hm _ rfl rfl⟩
 ·rintro ⟨⟨h1, h2⟩, h3, h4⟩
  exact ⟨fun s hs => hs.elim (h1 s) fun e => e ▸ h3, h2, fun a ha b hb e => h4 (by rw [← hb, ← e]; exact ha)⟩
theorem labP_take {ls : List ByteArray} {j : Nat} (h : labP ls) : labP (ls.take j) := ⟨fun s hs => h.1 s (List.mem_of_mem_take hs), h.2.sublist (List.take_sublist _ _)⟩
theorem okx_ref02_Labels (ls : List ByteArray) (hl : ls.length ≤ 9223372036854775807) (hs : ∀ s ∈ ls, s.size ≤ 9223372036854775807) : Ok P F.ref02_Labels [.sl (ls.map .str)] (.bool (pb (labP ls))) := by
 refine tx_pb k_ref02_Labels rfl (by simp [t_ref02_Labels, T.dt]) ?_
 refine den_loop (fun m ys => ∃ j : Nat, j + m = ls.length ∧ labP (ls.take j) ∧ ys = [i j]) ls.length ⟨0, by omega, ⟨by simp, by simp⟩, rfl⟩ ?_
 rintro m _ ⟨j, hj, hnd, rfl⟩
 refine d_l _ e_len fun _ => d_l _ rfl fun _ => d_dec (fun h => ?_) fun h => d_ret (isB_t ?_)
 rotate_left
 ·have h : ¬ (j : Int) < ((ls.map PV.str).length : Int) := h
  rw [List.take_of_length_le (by simp at h; omega)] at hnd
  exact hnd
 have h : (j : Int) < ((ls.map PV.str).length : Int) := h
 have hlt : j < ls.length := by simp at h; omega
 refine d_l _ (e_idx (str_at hlt) rfl) fun _ => d_call (okx_ref01_Name ls[j] (hs _ (List.getElem_mem hlt))) (d_l _ rfl fun _ => d_ite (fun hn => d_ret (isB_f fun hp => ?_)) fun hn => ?_)
 ·have := pb_iff.2 ((labP_snoc hlt).1 (labP_take hp)).2.1
  rw [this] at hn; cases hn
 have hnm : nameP ls[j] := pb_iff.1 (by simpa using hn)
 refine d_l _ (e_idx (str_at hlt) rfl) fun _ => d_l _ (e_slcT (all_map okc_str _) (by simp; omega)) fun _ => ?_
 have hc := ok_ref02_in ls[j] (ls.take j) (by simp; omega)
 rw [List.map_take] at hc
 refine d_call hc (d_ite (fun hy => d_ret (isB_f fun hp => ((labP_snoc hlt).1 (labP_take hp)).2.2 (memB_iff.1 hy))) fun hno => d_l _ (e_inc (by omega)) fun _ => d_cont rfl ⟨m - 1, by omega, j + 1, by omega, ?_, rfl⟩)
 exact (labP_snoc hlt).2 ⟨hnd, hnm, fun hm => by rw [memB_iff.2 hm] at hno; cases hno⟩
end Go.Proofs.YtbfjpjllaibooaaGreat.Tx
/- Contracts: the shape of a type's node, exactly, of the program and of the reference. -/
namespace Go.Proofs.YtbfjpjllaibooaaGreat.Tx
open Go.Lf Go.Lf.S Go.Lf.Duo
set_option maxRecDepth 100000
def prP (n : Int) : Prop := 0 ≤ n ∧ n ≤ 1000000
def noB : ByteArray := ⟨#[]⟩
def shP (k p : Int) (nm : ByteArray) (s : Int) (ls : List ByteArray) (n : Nat) : Prop :=
 (k = 1 ∧ p = 0 ∧ nm = noB ∧ s = 0 ∧ ls.length = 0 ∧ n = 0) ∨ (k = 2 ∧ p = 0 ∧ nm = noB ∧ s = 0 ∧ ls.length = 0 ∧ n = 0) ∨ (k = 3 ∧ p = 0 ∧ nm = noB ∧ s = 0 ∧ ls.length = 0 ∧ n = 0) ∨
 (k = 4 ∧ prP p ∧ nm = noB ∧ s = 0 ∧ ls.length = 0 ∧ n = 2) ∨ (k = 5 ∧ prP p ∧ nm = noB ∧ s = 0 ∧ ls.length = 0 ∧ n = 2) ∨
 (k = 6 ∧ prP p ∧ nm = noB ∧ s = 0 ∧ 0 < ls.length ∧ labP ls ∧ n = ls.length) ∨ (k = 7 ∧ prP p ∧ nm = noB ∧ s = 0 ∧ 0 < ls.length ∧ labP ls ∧ n = ls.length) ∨
 (k = 8 ∧ p = 0 ∧ nameP nm ∧ s = 0 ∧ ls.length = 0 ∧ n = 1) ∨ (k = 9 ∧ p = 0 ∧ nameP nm ∧ prP s ∧ ls.length = 0 ∧ n = 0)
def shapeP (t : Ty) : Prop := shP t.kind t.prio t.name t.shift t.labels t.kids.length
theorem okx_ref02_shape (t : Ty) (hlim : Lim t) : Ok P F.ref02_shape [t.enc] (.bool (pb (shapeP t))) := by
  cases hlim with
  | mk _ hn hl hll hkl hkk =>
  obtain ⟨k, p, nm, s, ls, ks⟩ := t
  have hnb := okx_ref01_Name nm hn
  have hlb := okx_ref02_Labels ls hll hl
  have hp := ok_ref02_prio p
  have hs := ok_ref02_prio s
  refine tx_pb k_ref02_shape rfl (by simp [t_ref02_shape, T.dt]) ?_
  rw [Ty.enc_mk]
  refine d_l _ (by rfl) fun _ => ?_
  repeat' (first
    | refine d_call hp ?_
    | refine d_call hs ?_
    | refine d_call hnb ?_
    | refine d_call hlb ?_
    | refine d_dec (fun _ => ?_) (fun _ => ?_)
    | refine d_ite (fun _ => ?_) (fun _ => ?_)
    | refine d_l _ rfl fun _ => ?_)
  all_goals
    refine d_ret ?_
    try simp only [decide_eq_true_eq, decide_eq_false_iff_not, List.length_map, pb_iff, pb_false] at *
    first
      | (refine isB_f ?_
         simp only [shapeP, shP, Ty.kind, Ty.prio, Ty.shift, Ty.kids, Ty.labels, Ty.name, prP, noB]
         grind)
      | (refine isB_d ?_
         simp only [shapeP, shP, Ty.kind, Ty.prio, Ty.shift, Ty.kids, Ty.labels, Ty.name, prP, noB]
         grind)
end Go.Proofs.YtbfjpjllaibooaaGreat.Tx
/- Contracts: fields of types, exactly; where a name is bound. -/
namespace Go.Proofs.YtbfjpjllaibooaaGreat.Tx
open Go.Lf Go.Lf.S Go.Lf.Duo
set_option maxRecDepth 100000
/-! where a name is bound -/
/-- the last place of a text -/
def lastI (s : ByteArray) : List ByteArray → Option Nat
 | [] => none
 | x :: r => match lastI s r with
  | some j => some (j + 1)
  | none => if x = s then some 0 else none
theorem lastI_none {s : ByteArray} : ∀ {ns : List ByteArray}, lastI s ns = none → ∀ j : Nat, ns[j]? ≠ some s
 | [], _, j => by simp
 | x :: r, h, j => by
  simp only [lastI] at h
  split at h
  ·cases h
  ·rename_i hr
   split at h
   ·cases h
   ·rename_i hx
    cases j with
    | zero => simpa using hx
    | succ j => simpa using lastI_none hr j
theorem lastI_some {s : ByteArray} : ∀ {ns : List ByteArray} {q : Nat}, lastI s ns = some q → ns[q]? = some s ∧ ∀ j, q < j → ns[j]? ≠ some s
 | [], q, h => by cases h
 | x :: r, q, h => by
  simp only [lastI] at h
  split at h
  ·rename_i q' hr
   cases h
   obtain ⟨h1, h2⟩ := lastI_some hr
   refine ⟨by simpa using h1, fun j hj => ?_⟩
   cases j with
   | zero => omega
   | succ j => simpa using h2 j (by omega)
  ·rename_i hr
   split at h
   ·rename_i hx
    cases h
    refine ⟨by simp [hx], fun j hj => ?_⟩
    cases j with
    | zero => omega
    | succ j => simpa using lastI_none hr j
   ·cases h
theorem lastI_is {s : ByteArray} {ns : List ByteArray} {q : Nat} (h1 : ns[q]? = some s) (h2 : ∀ j, q < j → ns[j]? ≠ some s) : lastI s ns = some q := by
 cases h : lastI s ns with
 | none => exact absurd h1 (lastI_none h q)
 | some q' =>
  obtain ⟨g1, g2⟩ := lastI_some h
  by_cases e : q = q'
  ·rw [e]
  ·rcases Nat.lt_or_gt_of_ne e with e | e
   ·exact absurd g1 (h2 q' e)
   ·exact absurd h1 (g2 q e)
theorem lastI_not {s : ByteArray} {ns : List ByteArray} (h : ∀ j : Nat, ns[j]? ≠ some s) : lastI s ns = none := by
 cases h' : lastI s ns with
 | none => rfl
 | some q => exact absurd (lastI_some h').1 (h q)
/-- the error of a node of a type, and those below -/
def sesB (k : Int) : Bool := decide (k ≠ 1 ∧ k ≠ 2)
mutual
noncomputable def nodeE : Ty → List ByteArray → Nat → Bool → Int
 | .mk k p nm s ls ks, ns, g, ses => if pb (¬ shP k p nm s ls ks.length) || (ses && !sesB k) then 3 else
   if k = 9 then (match lastI nm ns with
    | some q => if q < g then 0 else 3
    | none => 4)
   else nodeEs ks (decide (4 ≤ k ∧ k ≤ 5)) (if k = 8 then ns ++ [nm] else ns) (if k = 8 then g else ns.length)
/-- the first error; 'pay': the first one may be a payload -/
noncomputable def nodeEs : List Ty → Bool → List ByteArray → Nat → Int
 | [], _, _, _ => 0
 | t :: r, pay, ns, g => if nodeE t ns g (!pay) ≠ 0 then nodeE t ns g (!pay) else nodeEs r false ns g
end
theorem nodeEs_nil {pay : Bool} {ns : List ByteArray} {g : Nat} : nodeEs [] pay ns g = 0 := by simp [nodeEs]
theorem nodeEs_cons {t : Ty} {r : List Ty} {pay : Bool} {ns : List ByteArray} {g : Nat} : nodeEs (t :: r) pay ns g = if nodeE t ns g (!pay) ≠ 0 then nodeE t ns g (!pay) else nodeEs r false ns g := by simp only [nodeEs]
/-- the kids from j on -/
theorem nodeEs_drop {ks : List Ty} {j : Nat} (h : j < ks.length) {pay : Bool} {ns : List ByteArray} {g : Nat} :
  nodeEs (ks.drop j) pay ns g = if nodeE ks[j] ns g (!pay) ≠ 0 then nodeE ks[j] ns g (!pay) else nodeEs (ks.drop (j + 1)) false ns g := by
 rw [List.drop_eq_getElem_cons h, nodeEs_cons]
end Go.Proofs.YtbfjpjllaibooaaGreat.Tx
/- Contracts: the nodes of a type one by one, few, sizes; lists backward. -/
namespace Go.Proofs.YtbfjpjllaibooaaGreat.Tx
open Go.Lf Go.Lf.S Go.Lf.Duo
set_option maxRecDepth 100000
section
variable {K : PV → Prop} {hs : List (List PV → Prop)}
end
def e1 (t : Ty) : List PV := [t.enc]
/-! a list backward -/
end Go.Proofs.YtbfjpjllaibooaaGreat.Tx
/- Contracts: the error of a type, exactly, of the program and of the reference. -/
namespace Go.Proofs.YtbfjpjllaibooaaGreat.Tx
open Go.Lf Go.Lf.S Go.Lf.Duo
set_option maxRecDepth 100000
theorem nodeE_if {k p : Int} {nm : ByteArray} {s : Int} {ls : List ByteArray} {ks : List Ty} {ses : Bool} {A B : Int} (h : shapeP (.mk k p nm s ls ks)) (hs : ses = true → sesB k = true) : (if (pb (¬ shP k p nm s ls ks.length) || (ses && !sesB k)) = true then A else B) = B := by
 have h1 : pb (¬ shP k p nm s ls ks.length) = false := pb_false.2 fun e => e h
 rw [h1]
 cases ses with
 | false => rfl
 | true => rw [hs rfl]; rfl
theorem nodeE_3 {k p : Int} {nm : ByteArray} {s : Int} {ls : List ByteArray} {ks : List Ty} {ns : List ByteArray} {g : Nat} {ses : Bool} (h : ¬ shapeP (.mk k p nm s ls ks)) : nodeE (.mk k p nm s ls ks) ns g ses = 3 := by
 have h1 : pb (¬ shP k p nm s ls ks.length) = true := pb_iff.2 h
 simp only [nodeE, h1, Bool.true_or, if_true]
theorem nodeE_3s {k p : Int} {nm : ByteArray} {s : Int} {ls : List ByteArray} {ks : List Ty} {ns : List ByteArray} {g : Nat} {ses : Bool} (hs : ses = true) (h : sesB k = false) : nodeE (.mk k p nm s ls ks) ns g ses = 3 := by
 simp only [nodeE, hs, h]
 simp
theorem nodeE_9 {k p : Int} {nm : ByteArray} {s : Int} {ls : List ByteArray} {ks : List Ty} {ns : List ByteArray} {g : Nat} {ses : Bool} (h : shapeP (.mk k p nm s ls ks)) (hs : ses = true → sesB k = true) (h9 : k = 9) :
  nodeE (.mk k p nm s ls ks) ns g ses = match lastI nm ns with
   | some q => if q < g then 0 else 3
   | none => 4 := by
 simp only [nodeE]
 rw [nodeE_if h hs, if_pos h9] <;> rfl
theorem nodeE_o {k p : Int} {nm : ByteArray} {s : Int} {ls : List ByteArray} {ks : List Ty} {ns : List ByteArray} {g : Nat} {ses : Bool} (h : shapeP (.mk k p nm s ls ks)) (hs : ses = true → sesB k = true) (h9 : ¬ k = 9) :
  nodeE (.mk k p nm s ls ks) ns g ses = nodeEs ks (decide (4 ≤ k ∧ k ≤ 5)) (if k = 8 then ns ++ [nm] else ns) (if k = 8 then g else ns.length) := by
 rw [nodeE, nodeE_if h hs, if_neg h9]
end Go.Proofs.YtbfjpjllaibooaaGreat.Tx
/- Contracts: depth, sameness of types; lists compared and searched by a function. -/
namespace Go.Proofs.YtbfjpjllaibooaaGreat.Tx
open Go.Lf Go.Lf.S Go.Lf.Duo
set_option maxRecDepth 100000
/-! a list searched by a function -/
/-! lists compared by a function -/
theorem len_eq {α : Type} {f : α → PV} (l : List α) : Prim.len.ev [.sl (l.map f)] = some (i (l.length : Int)) := by
 rw [← List.length_map (f := f)]; exact e_len
theorem mp_at {α : Type} {f : α → PV} {l : List α} {j : Nat} (h : j < l.length) : (l.map f)[j]? = some (f l[j]) := by simp [h]
theorem list_eq_of {α : Type} {l r : List α} (hl : l.length = r.length) (h : ∀ j (h1 : j < l.length) (h2 : j < r.length), l[j] = r[j]) : l = r := List.ext_getElem hl fun j h1 h2 => h j h1 h2
theorem okx_ref02_texts {l r : List ByteArray} (hl : l.length ≤ 9223372036854775807) : Ok P F.ref02_texts [.sl (l.map .str), .sl (r.map .str)] (.bool (pb (l = r))) := by
 refine tx_pb k_ref02_texts rfl (by simp [t_ref02_texts, T.dt]) ?_
 refine d_l _ (len_eq l) fun _ => d_l _ (len_eq r) fun _ => d_l _ rfl fun _ => d_ndec (fun h => d_ret (isB_f fun e => h (by rw [e]))) fun h => ?_
 have h : (l.length : Int) = (r.length : Int) := h
 refine den_loop (fun m ys => ∃ j : Nat, j + m = l.length ∧ (∀ k (hk : k < l.length) (hk' : k < r.length), k < j → l[k] = r[k]) ∧ ys = [i j]) l.length ⟨0, by omega, fun k _ _ h => by omega, rfl⟩ ?_
 rintro m _ ⟨j, hj, hno, rfl⟩
 refine d_l _ (len_eq l) fun _ => d_l _ rfl fun _ => d_dec (fun h1 => ?_) fun h1 => d_ret (isB_t (list_eq_of (by omega) fun k hk hk' => hno k hk hk' (by have h1 : ¬ (j : Int) < (l.length : Int) := h1; omega)))
 have hlt : j < l.length := by have h1 : (j : Int) < (l.length : Int) := h1; omega
 have hlt' : j < r.length := by omega
 refine d_l _ (e_idx (mp_at hlt) rfl) fun _ => d_l _ (e_idx (mp_at hlt') rfl) fun _ => d_l _ rfl fun _ => d_ndec (fun hb => d_ret (isB_f fun e => ?_)) fun hb => d_l _ (e_inc (by omega)) fun _ => d_cont rfl ⟨m - 1, by omega, j + 1, by omega, fun k hk hk' h1 => ?_, rfl⟩
 ·subst e; exact hb rfl
 ·by_cases e : k = j
  ·subst e; exact hb
  ·exact hno k hk hk' (by omega)
/-! types -/
theorem okx_ref02_Same : ∀ (a b : Ty), Lim a → Ok P F.ref02_Same [a.enc, b.enc] (.bool (pb (a = b))) := by
 intro a
 induction a using Ty.ind with
 | _ a ih =>
 intro b hlim
 cases hlim with
 | mk _ hn hl hll hkl hkk =>
 obtain ⟨k, p, nm, s, ls, ks⟩ := a
 obtain ⟨k', p', nm', s', ls', ks'⟩ := b
 have hkl : ks.length ≤ 9223372036854775807 := hkl
 have h2 := okx_ref02_texts (l := ls) (r := ls') hll
 rw [Ty.enc_mk, Ty.enc_mk]
 refine tx_pb k_ref02_Same rfl (by simp [t_ref02_Same, T.dt]) ?_
 refine d_l (.agg [.int .i64 k, .int .i64 p, .str nm, .int .i64 s, .sl (ls.map .str), .sl (ks.map Ty.enc)]) rfl fun _ => d_l (.agg [.int .i64 k', .int .i64 p', .str nm', .int .i64 s', .sl (ls'.map .str), .sl (ks'.map Ty.enc)]) rfl fun _ => ?_
 refine d_l _ rfl fun _ => d_ndec (fun e1 => d_ret (isB_f fun e => e1 (by cases e; rfl))) fun e1 => ?_
 refine d_l _ rfl fun _ => d_ndec (fun e2 => d_ret (isB_f fun e => e2 (by cases e; rfl))) fun e2 => ?_
 refine d_l _ rfl fun _ => d_ndec (fun e3 => d_ret (isB_f fun e => e3 (by cases e; rfl))) fun e3 => ?_
 refine d_l _ rfl fun _ => d_ndec (fun e4 => d_ret (isB_f fun e => e4 (by cases e; rfl))) fun e4 => ?_
 refine d_call h2 (d_l _ rfl fun _ => d_ite (fun e5 => d_ret (isB_f fun e => pb_false.1 (by simpa using e5) (by cases e; rfl))) fun e5 => ?_)
 have e1 : k = k' := e1
 have e2 : p = p' := e2
 have e3 : nm = nm' := e3
 have e4 : s = s' := e4
 have e5 : ls = ls' := pb_iff.1 (by simpa using e5)
 subst e1 e2 e3 e4 e5
 refine d_l _ (len_eq ks) fun _ => d_l _ (len_eq ks') fun _ => d_l _ rfl fun _ => d_ndec (fun h => d_ret (isB_f fun e => h (by cases e; rfl))) fun h => ?_
 have h : (ks.length : Int) = (ks'.length : Int) := h
 refine den_loop (fun m ys => ∃ j : Nat, j + m = ks.length ∧ (∀ k (hk : k < ks.length) (hk' : k < ks'.length), k < j → ks[k] = ks'[k]) ∧ ys = [i j]) ks.length ⟨0, by omega, fun k _ _ h => by omega, rfl⟩ ?_
 rintro m _ ⟨j, hj, hno, rfl⟩
 refine d_l _ (len_eq ks) fun _ => d_l _ rfl fun _ => d_dec (fun h1 => ?_) fun h1 => d_ret (isB_t (by rw [list_eq_of (l := ks) (r := ks') (by omega) fun k hk hk' => hno k hk hk' (by have h1 : ¬ (j : Int) < (ks.length : Int) := h1; omega)]))
 have hlt : j < ks.length := by have h1 : (j : Int) < (ks.length : Int) := h1; omega
 have hlt' : j < ks'.length := by omega
 refine d_l _ (e_idx (mp_at hlt) (Ty.okc_enc _)) fun _ => d_l _ (e_idx (mp_at hlt') (Ty.okc_enc _)) fun _ => d_call (ih _ (List.getElem_mem hlt) _ (hkk _ (List.getElem_mem hlt))) (d_l _ rfl fun _ => d_ite (fun hb => d_ret (isB_f fun e => ?_)) fun hb => d_l _ (e_inc (by omega)) fun _ => d_cont rfl ⟨m - 1, by omega, j + 1, by omega, fun k hk hk' h1 => ?_, rfl⟩)
 ·have hb : pb (ks[j] = ks'[j]) = false := by simpa using hb
  cases e
  exact pb_false.1 hb rfl
 ·have hb : pb (ks[j] = ks'[j]) = true := by simpa using hb
  by_cases e : k = j
  ·subst e; exact pb_iff.1 hb
  ·exact hno k hk hk' (by omega)
end Go.Proofs.YtbfjpjllaibooaaGreat.Tx
