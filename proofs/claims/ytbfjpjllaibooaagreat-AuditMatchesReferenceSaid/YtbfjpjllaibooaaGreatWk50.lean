/- Contracts: words and names, exactly, of the program and of the reference. -/
import Derived.Test.YtbfjpjllaibooaaGreatWk1
set_option linter.all false
namespace Go.Proofs.YtbfjpjllaibooaaGreat.Tx
open Go.Lf Go.Lf.S Go.Lf.Duo
set_option maxRecDepth 100000

noncomputable def pb (p : Prop) : Bool := @decide p (Classical.propDecidable p)
theorem pb_of {r : Bool} {p : Prop} (h : r = true ↔ p) : r = pb p := by
  unfold pb
  cases r with
  | true => exact (@decide_eq_true p (Classical.propDecidable p) (h.1 rfl)).symm
  | false => exact (@decide_eq_false p (Classical.propDecidable p) fun hp => by cases h.2 hp).symm
theorem pb_iff {p : Prop} : pb p = true ↔ p := ⟨fun h => @of_decide_eq_true p (Classical.propDecidable p) h, fun h => @decide_eq_true p (Classical.propDecidable p) h⟩
theorem pb_false {p : Prop} : pb p = false ↔ ¬ p := by
  constructor
  · intro h hp
    rw [pb_iff.2 hp] at h; cases h
  · intro h
    cases hb : pb p with
    | true => exact absurd (pb_iff.1 hb) h
    | false => rfl
theorem pb_congr {p q : Prop} (h : p ↔ q) : pb p = pb q := pb_of (pb_iff.trans h)
def IsB (p : Prop) (x : PV) : Prop := ∃ r, x = .bool r ∧ (r = true ↔ p)
theorem isB_t {p : Prop} (h : p) : IsB p (.bool true) := ⟨true, rfl, fun _ => h, fun _ => rfl⟩
theorem isB_f {p : Prop} (h : ¬ p) : IsB p (.bool false) := ⟨false, rfl, (fun e => by cases e), fun e => absurd e h⟩
theorem isB_p {p q : Prop} (h : p ↔ q) : IsB q (.bool (pb p)) := ⟨_, rfl, pb_iff.trans h⟩
theorem isB_d {p q : Prop} [Decidable p] (h : p ↔ q) : IsB q (.bool (decide p)) := ⟨_, rfl, decide_eq_true_iff.trans h⟩
theorem tx_pb {f m : Nat} {t : List PV → T PV} (h : TxOk P f m t) {p : Prop} {xs : List PV} (hl : xs.length = m) (hd : (t xs).dt) (hden : (t xs).den0 P (IsB p) []) : Ok P f xs (.bool (pb p)) := by
  obtain ⟨_, ⟨r, rfl, hr⟩, h⟩ := tx_ex h hl hd hden
  rw [← pb_of hr]; exact h

def letB (b : Nat) : Bool := (decide (65 ≤ b) && decide (b ≤ 90)) || (decide (97 ≤ b) && decide (b ≤ 122)) || decide (b = 95)
def digB (b : Nat) : Bool := decide (48 ≤ b) && decide (b ≤ 57)
def alnB (b : Nat) : Bool := letB b || digB b
theorem letB_aln {b : Nat} (h : letB b = true) : alnB b = true := by simp [alnB, h]
theorem good1 : GoodEv P (evAll tb tbS 1000 8).1 (evAll tb tbS 1000 8).2 := evAll_good allOk allOkS 8
def ck (f : Nat) (l : List PV) (g : Nat → Bool) : Bool := (List.range 256).all fun b => match (evAll tb tbS 1000 8).1 f (.int .u8 (b : Int) :: l) with
  | some (.bool r) => r == g b
  | _ => false
theorem ok_ck {f : Nat} {l : List PV} {g : Nat → Bool} (h : ck f l g = true) (b : UInt8) : Ok P f (.int .u8 (b.toNat : Int) :: l) (.bool (g b.toNat)) := by
  have h1 := (List.all_eq_true.1 h) b.toNat (List.mem_range.2 b.toNat_lt)
  split at h1
  · rename_i r hr
    have : r = g b.toNat := by simpa using h1
    rw [← this]; exact good1.1 _ _ _ hr
  · cases h1
def lettersV : PV := .str ⟨#[65, 66, 67, 68, 69, 70, 71, 72, 73, 74, 75, 76, 77, 78, 79, 80, 81, 82, 83, 84, 85, 86, 87, 88, 89, 90, 97, 98, 99, 100, 101, 102, 103, 104, 105, 106, 107, 108, 109, 110, 111, 112, 113, 114, 115, 116, 117, 118, 119, 120, 121, 122, 95]⟩
def digitsV : PV := .str ⟨#[48, 49, 50, 51, 52, 53, 54, 55, 56, 57]⟩
theorem ok_in_let (b : UInt8) : Ok P F.ref01_in [.int .u8 (b.toNat : Int), lettersV] (.bool (letB b.toNat)) := ok_ck (l := [lettersV]) (by kernel_rfl) b
theorem ok_in_dig (b : UInt8) : Ok P F.ref01_in [.int .u8 (b.toNat : Int), digitsV] (.bool (digB b.toNat)) := ok_ck (l := [digitsV]) (by kernel_rfl) b

def wordP (s : ByteArray) : Prop := ∃ h : 0 < s.size, letB (s[0]).toNat = true ∧ ∀ (j : Nat) (h : j < s.size), 1 ≤ j → alnB (s[j]).toNat = true
def kwds : List ByteArray := [⟨#[100, 101, 102]⟩, ⟨#[109, 97, 105, 110]⟩, ⟨#[115, 116, 111, 112]⟩, ⟨#[110, 101, 119]⟩, ⟨#[105, 110, 116]⟩, ⟨#[98, 111, 111, 108]⟩, ⟨#[101, 110, 100]⟩, ⟨#[114, 101, 99]⟩, ⟨#[116, 114, 117, 101]⟩, ⟨#[102, 97, 108, 115, 101]⟩]
def nameP (s : ByteArray) : Prop := wordP s ∧ s ∉ kwds

theorem okx_ref01_Word (s : ByteArray) (hs : s.size ≤ 9223372036854775807) : Ok P F.ref01_Word [.str s] (.bool (pb (wordP s))) := by
  refine tx_pb k_ref01_Word rfl (by simp [t_ref01_Word, T.dt]) ?_
  refine d_l _ rfl fun _ => d_l _ rfl fun _ => d_dec (fun h => d_ret (isB_f fun ⟨h1, _⟩ => by have : (s.size : Int) = 0 := h; omega)) fun h => ?_
  have h0 : 0 < s.size := by have : ¬ (s.size : Int) = 0 := h; omega
  refine d_l _ (e_sidx (k := 0) h0) fun _ => d_call ok_ref01_Letters (d_call (ok_in_let s[0]) (d_l _ rfl fun _ => ?_))
  refine d_ite (fun hb => d_ret (isB_f fun ⟨_, h1, _⟩ => by rw [h1] at hb; cases hb)) fun hb => ?_
  have hb : letB (s[0]).toNat = true := by simpa using hb
  refine den_loop (fun m ys => ∃ j : Nat, j + m = s.size ∧ 1 ≤ j ∧ (∀ (k : Nat) (h : k < s.size), 1 ≤ k → k < j → alnB (s[k]).toNat = true) ∧ ys = [i j]) (s.size - 1) ⟨1, by omega, Nat.le_refl _, fun k _ h1 h2 => by omega, rfl⟩ ?_
  rintro m _ ⟨j, hj, hj1, hall, rfl⟩
  refine d_l _ rfl fun _ => d_l _ rfl fun _ => d_dec (fun h => ?_) fun h => d_ret (isB_t ⟨h0, hb, fun k hk h1 => hall k hk h1 (by have : ¬ (j : Int) < (s.size : Int) := h; omega)⟩)
  have hlt : j < s.size := by have : (j : Int) < (s.size : Int) := h; omega
  refine d_l _ (e_sidx hlt) fun _ => d_call ok_ref01_Letters (d_call (ok_in_let s[j]) (d_l _ rfl fun _ => ?_))
  have next : alnB (s[j]).toNat = true → ∃ m', m' < m ∧ ∃ j' : Nat, j' + m' = s.size ∧ 1 ≤ j' ∧ (∀ (k : Nat) (h : k < s.size), 1 ≤ k → k < j' → alnB (s[k]).toNat = true) ∧ [i ((j + 1 : Nat) : Int)] = [i (j' : Int)] := fun ha =>
    ⟨m - 1, by omega, j + 1, by omega, by omega, fun k hk h1 h2 => by
      by_cases e : k = j
      · subst e; exact ha
      · exact hall k hk h1 (by omega), rfl⟩
  refine d_ite (fun hl => ?_) fun hl => d_l _ (e_inc (by omega)) fun _ => d_cont rfl (next (letB_aln (by simpa using hl)))
  have hl : letB (s[j]).toNat = false := by simpa using hl
  refine d_l _ (e_sidx hlt) fun _ => d_call ok_ref01_digits (d_call (ok_in_dig s[j]) (d_l _ rfl fun _ => ?_))
  refine d_ite (fun hd => d_ret (isB_f fun ⟨_, _, h1⟩ => ?_)) fun hd => d_l _ (e_inc (by omega)) fun _ => d_cont rfl (next (by simp only [alnB, hl, Bool.false_or]; simpa using hd))
  have := h1 j hlt hj1
  simp [alnB, hl] at this
  simp [this] at hd

theorem okx_ref01_Keyword (s : ByteArray) : Ok P F.ref01_Keyword [.str s] (.bool (pb (s ∈ kwds))) := by
  refine tx_pb k_ref01_Keyword rfl (by simp [t_ref01_Keyword, T.dt]) ?_
  refine d_l _ rfl fun _ => ?_
  refine den_loop (fun m ys => ∃ j : Nat, j + m = 10 ∧ s ∉ kwds.take j ∧ ys = [i j]) 10 ⟨0, by omega, (fun h => by cases h), rfl⟩ ?_
  rintro m _ ⟨j, hj, hn, rfl⟩
  refine d_l _ rfl fun _ => d_l _ rfl fun _ => d_dec (fun h => ?_) fun h => d_ret (isB_f ?_)
  · have hlt : j < 10 := by have : (j : Int) < 10 := h; omega
    have : j = 0 ∨ j = 1 ∨ j = 2 ∨ j = 3 ∨ j = 4 ∨ j = 5 ∨ j = 6 ∨ j = 7 ∨ j = 8 ∨ j = 9 := by omega
    rcases this with rfl | rfl | rfl | rfl | rfl | rfl | rfl | rfl | rfl | rfl <;>
      exact d_l _ rfl fun _ => d_l _ rfl fun _ => d_dec (fun h => d_ret (isB_t (by have h : _ = s := h; simp [kwds, ← h]))) fun h => d_l _ (e_inc (by omega)) fun _ => d_cont rfl ⟨m - 1, by omega, _, by omega, (by have h : ¬ _ = s := h; simp [kwds] at hn ⊢; simp [hn, Ne.symm h]; try exact fun e => h e.symm), rfl⟩
  · have hlt : j = 10 := by have : ¬ (j : Int) < 10 := h; omega
    subst hlt; exact hn

theorem okx_ref01_Name (s : ByteArray) (hs : s.size ≤ 9223372036854775807) : Ok P F.ref01_Name [.str s] (.bool (pb (nameP s))) := by
  refine tx_pb k_ref01_Name rfl (by simp [t_ref01_Name, T.dt]) ?_
  refine d_call (okx_ref01_Word s hs) (d_ite (fun h => d_call (okx_ref01_Keyword s) (d_l _ rfl fun _ => d_ret ⟨_, rfl, ?_⟩)) fun h => d_ret (isB_f fun hp => pb_false.1 h hp.1))
  simp only [Bool.not_eq_true', pb_false]
  exact ⟨fun h2 => ⟨pb_iff.1 h, h2⟩, fun h2 => h2.2⟩

/-! the program's -/

end Go.Proofs.YtbfjpjllaibooaaGreat.Tx
