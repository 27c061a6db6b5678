/- Contracts: Equal, Alike. -/
import Derived.Test.YtchedinkkliogaaDoorWk16
set_option linter.all false
namespace Go.Proofs.YtchedinkkliogaaDoor.Tx
open Go.Lf Go.Lf.S Go.Lf.Duo
set_option maxRecDepth 100000

theorem res_iff {ds : List Nd} {free : Bool} {k : Key} {r : Bool} {L : List Key} (h : Res ds free [] k r L) : r = true ↔ Eqv ds free k := by
  cases r with
  | true => exact ⟨fun _ => ⟨L, fun q hq => ⟨(h.loc q hq).1, (h.yes rfl).2 q hq (by simp)⟩, (h.yes rfl).1⟩, fun _ => rfl⟩
  | false => exact ⟨(fun h => by cases h), fun he => absurd he (h.no rfl)⟩

end Go.Proofs.YtchedinkkliogaaDoor.Tx
