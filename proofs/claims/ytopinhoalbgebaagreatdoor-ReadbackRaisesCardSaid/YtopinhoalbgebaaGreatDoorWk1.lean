/- Contracts: words, right types. -/
import Derived.Test.YtopinhoalbgebaaGreatDoorTx
import Derived.Test.YtopinhoalbgebaaGreatDoorLfD
set_option linter.all false
namespace Go.Proofs.YtopinhoalbgebaaGreatDoor.Tx
open Go.Lf Go.Lf.S Go.Lf.Duo
set_option maxRecDepth 100000

theorem ok_ref01_in (b : Int) (s : ByteArray) (hs : s.size ≤ 9223372036854775807) : ∃ r, Ok P F.ref01_in [.int .u8 b, .str s] (.bool r) := by
  have := tx_ex (K := fun x => ∃ r, x = .bool r) k_ref01_in (xs := [.int .u8 b, .str s]) rfl (by simp [t_ref01_in, T.dt]) (by
    refine den_loop (fun m ys => ∃ j : Nat, j + m = s.size ∧ ys = [i j]) s.size ⟨0, by omega, rfl⟩ ?_
    rintro m _ ⟨j, hj, rfl⟩
    refine d_l _ rfl fun _ => d_l _ rfl fun _ => d_dec (fun h => ?_) fun h => d_ret ⟨_, rfl⟩
    have hlt : j < s.size := by have : (j : Int) < (s.size : Int) := h; omega
    refine d_l _ (e_sidx hlt) fun _ => d_l _ rfl fun _ => d_dec (fun _ => d_ret ⟨_, rfl⟩) fun _ => d_l _ (e_inc (by omega)) fun _ => d_cont rfl ⟨m - 1, by omega, j + 1, by omega, rfl⟩)
  obtain ⟨_, ⟨r, rfl⟩, h⟩ := this
  exact ⟨r, h⟩

theorem ok_ref01_Letters : Ok P F.ref01_Letters [] (t_ref01_Letters [] |> fun | .ret x => x | _ => .nilI) := k_ref01_Letters [] _ rfl (d_ret rfl)
theorem ok_ref01_digits : Ok P F.ref01_digits [] (t_ref01_digits [] |> fun | .ret x => x | _ => .nilI) := k_ref01_digits [] _ rfl (d_ret rfl)

theorem ok_ref01_Word (s : ByteArray) (hs : s.size ≤ 9223372036854775807) : ∃ r, Ok P F.ref01_Word [.str s] (.bool r) := by
  have := tx_ex (K := fun x => ∃ r, x = .bool r) k_ref01_Word (xs := [.str s]) rfl (by simp [t_ref01_Word, T.dt]) (by
    refine d_l _ rfl fun _ => d_l _ rfl fun _ => d_dec (fun h => d_ret ⟨_, rfl⟩) fun h => ?_
    have h0 : 0 < s.size := by have : ¬ (s.size : Int) = 0 := h; omega
    refine d_l _ (e_sidx (k := 0) h0) fun _ => d_call ok_ref01_Letters ?_
    obtain ⟨r, hr⟩ := ok_ref01_in (s[0]).toNat ⟨#[65, 66, 67, 68, 69, 70, 71, 72, 73, 74, 75, 76, 77, 78, 79, 80, 81, 82, 83, 84, 85, 86, 87, 88, 89, 90, 97, 98, 99, 100, 101, 102, 103, 104, 105, 106, 107, 108, 109, 110, 111, 112, 113, 114, 115, 116, 117, 118, 119, 120, 121, 122, 95]⟩ (by decide)
    refine d_call hr (d_l _ rfl fun _ => d_ite (fun _ => d_ret ⟨_, rfl⟩) fun _ => ?_)
    refine den_loop (fun m ys => ∃ j : Nat, j + m = s.size ∧ ys = [i j]) (s.size - 1) ⟨1, by omega, rfl⟩ ?_
    rintro m _ ⟨j, hj, rfl⟩
    refine d_l _ rfl fun _ => d_l _ rfl fun _ => d_dec (fun h => ?_) fun h => d_ret ⟨_, rfl⟩
    have hlt : j < s.size := by have : (j : Int) < (s.size : Int) := h; omega
    refine d_l _ (e_sidx hlt) fun _ => d_call ok_ref01_Letters ?_
    obtain ⟨r, hr⟩ := ok_ref01_in (s[j]).toNat ⟨#[65, 66, 67, 68, 69, 70, 71, 72, 73, 74, 75, 76, 77, 78, 79, 80, 81, 82, 83, 84, 85, 86, 87, 88, 89, 90, 97, 98, 99, 100, 101, 102, 103, 104, 105, 106, 107, 108, 109, 110, 111, 112, 113, 114, 115, 116, 117, 118, 119, 120, 121, 122, 95]⟩ (by decide)
    have go : ∀ {H : List PV → Prop}, (∀ ys, ys = [i ((j + 1 : Nat) : Int)] → H ys) → ((T.l (.arith .add .i64) [i j, i 1] fun x => .cont 0 [x]) : T PV).den0 P (fun x => ∃ r, x = .bool r) ([] ++ [H]) :=
      fun hH => d_l _ (e_inc (by omega)) fun _ => d_cont rfl (hH _ rfl)
    have hnext : ∀ ys, ys = [i ((j + 1 : Nat) : Int)] → ∃ m', m' < m ∧ ∃ j : Nat, j + m' = s.size ∧ ys = [i j] := fun ys e => ⟨m - 1, by omega, j + 1, by omega, e⟩
    refine d_call hr (d_l _ rfl fun _ => d_ite (fun _ => ?_) fun _ => go hnext)
    refine d_l _ (e_sidx hlt) fun _ => d_call ok_ref01_digits ?_
    obtain ⟨r, hr⟩ := ok_ref01_in (s[j]).toNat ⟨#[48, 49, 50, 51, 52, 53, 54, 55, 56, 57]⟩ (by decide)
    exact d_call hr (d_l _ rfl fun _ => d_ite (fun _ => d_ret ⟨_, rfl⟩) fun _ => go hnext))
  obtain ⟨_, ⟨r, rfl⟩, h⟩ := this
  exact ⟨r, h⟩

theorem ok_ref01_Keyword (s : ByteArray) : ∃ r, Ok P F.ref01_Keyword [.str s] (.bool r) := by
  have := tx_ex (K := fun x => ∃ r, x = .bool r) k_ref01_Keyword (xs := [.str s]) rfl (by simp [t_ref01_Keyword, T.dt]) (by
    refine d_l _ rfl fun _ => ?_
    refine den_loop (fun m ys => ∃ j : Nat, j + m = 10 ∧ ys = [i j]) 10 ⟨0, by omega, rfl⟩ ?_
    rintro m _ ⟨j, hj, rfl⟩
    refine d_l _ rfl fun _ => d_l _ rfl fun _ => d_dec (fun h => ?_) fun h => d_ret ⟨_, rfl⟩
    have hlt : j < 10 := by have : (j : Int) < 10 := h; omega
    have : j = 0 ∨ j = 1 ∨ j = 2 ∨ j = 3 ∨ j = 4 ∨ j = 5 ∨ j = 6 ∨ j = 7 ∨ j = 8 ∨ j = 9 := by omega
    rcases this with rfl | rfl | rfl | rfl | rfl | rfl | rfl | rfl | rfl | rfl <;>
      exact d_l _ rfl fun _ => d_l _ rfl fun _ => d_dec (fun _ => d_ret ⟨_, rfl⟩) fun _ => d_l _ (e_inc (by omega)) fun _ => d_cont rfl ⟨m - 1, by omega, _, by omega, rfl⟩)
  obtain ⟨_, ⟨r, rfl⟩, h⟩ := this
  exact ⟨r, h⟩

theorem ok_ref01_Name (s : ByteArray) (hs : s.size ≤ 9223372036854775807) : ∃ r, Ok P F.ref01_Name [.str s] (.bool r) := by
  obtain ⟨r1, h1⟩ := ok_ref01_Word s hs
  obtain ⟨r2, h2⟩ := ok_ref01_Keyword s
  cases r1 with
  | true => exact ⟨_, k_ref01_Name [.str s] _ rfl (d_call h1 (d_true (d_call h2 (d_l _ rfl fun _ => d_ret rfl))))⟩
  | false => exact ⟨_, k_ref01_Name [.str s] _ rfl (d_call h1 (d_false (d_ret rfl)))⟩

end Go.Proofs.YtopinhoalbgebaaGreatDoor.Tx
