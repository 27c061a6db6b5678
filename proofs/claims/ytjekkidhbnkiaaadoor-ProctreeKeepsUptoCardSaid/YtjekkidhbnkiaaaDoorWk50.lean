/- Contracts: words and names, exactly, of the program and of the reference. -/
import Derived.Test.YtjekkidhbnkiaaaDoorWk1
set_option linter.all false
namespace Go.Proofs.YtjekkidhbnkiaaaDoor.Tx
open Go.Lf Go.Lf.S Go.Lf.Duo
set_option maxRecDepth 100000
noncomputable def pb (p : Prop) : Bool := @decide p (Classical.propDecidable p)
theorem pb_of {r : Bool} {p : Prop} (h : r = true ↔ p) : r = pb p := by
 unfold pb
 cases r with
 | true => exact (@decide_eq_true p (Classical.propDecidable p) (h.1 rfl)).symm
 | false => exact (@decide_eq_false p (Classical.propDecidable p) fun hp => by cases h.2 hp).symm
theorem pb_iff {p : Prop} : pb p = true ↔ p := ⟨fun h => @of_decide_eq_true p (Classical.propDecidable p) h, fun h => @decide_eq_true p (Classical.propDecidable p) h⟩
theorem pb_false {p : Prop} : pb p = false ↔ ¬ p := by
 constructor
 ·intro h hp
  rw [pb_iff.2 hp] at h; cases h
 ·intro h
  cases hb : pb p with
  | true => exact absurd (pb_iff.1 hb) h
  | false => rfl
def IsB (p : Prop) (x : PV) : Prop := ∃ r, x = .bool r ∧ (r = true ↔ p)
theorem isB_t {p : Prop} (h : p) : IsB p (.bool true) := ⟨true, rfl, fun _ => h, fun _ => rfl⟩
theorem isB_f {p : Prop} (h : ¬ p) : IsB p (.bool false) := ⟨false, rfl, (fun e => by cases e), fun e => absurd e h⟩
theorem tx_pb {f m : Nat} {t : List PV → T PV} (h : TxOk P f m t) {p : Prop} {xs : List PV} (hl : xs.length = m) (hd : (t xs).dt) (hden : (t xs).den0 P (IsB p) []) : Ok P f xs (.bool (pb p)) := by
 obtain ⟨_, ⟨r, rfl, hr⟩, h⟩ := tx_ex h hl hd hden
 rw [← pb_of hr]; exact h
def ck (f : Nat) (l : List PV) (g : Nat → Bool) : Bool := (List.range 256).all fun b => match (evAll tb tbS 1000 8).1 f (.int .u8 (b : Int) :: l) with
 | some (.bool r) => r == g b
 | _ => false
/-! the program's -/
end Go.Proofs.YtjekkidhbnkiaaaDoor.Tx
