/- The reference of the package scope: one node, Check, exactly; law 6, ScopeChecks. -/
import Derived.Test.YtfmbddfenghnlaaGreatDoorWk153
import Derived.Test.YtfmbddfenghnlaaGreatDoorDAwake06
set_option linter.all false
namespace Go.Proofs.YtfmbddfenghnlaaGreatDoor.Tx
open Go.Lf Go.Lf.S Go.Lf.Duo
set_option maxRecDepth 100000

theorem fltE_cases (e0 : Int) (p : Pg) : ∃ b : Int, fltE e0 p = .agg [i (chk e0 p).1, i b] ∧ ((chk e0 p).1 = 0 → b = 0) ∧ ((chk e0 p).1 ≠ 0 → b = ((chk e0 p).2 : Nat)) := by
  by_cases h : (chk e0 p).1 = 0
  · exact ⟨0, by unfold fltE; rw [if_pos h, h], fun _ => rfl, fun hn => absurd h hn⟩
  · exact ⟨_, by unfold fltE; rw [if_neg h], fun hn => absurd hn h, fun _ => rfl⟩

end Go.Proofs.YtfmbddfenghnlaaGreatDoor.Tx
