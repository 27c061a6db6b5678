/- Contracts: words, right types. -/
import Derived.Test.YtbfjpjllaibooaaGreatTx
import Derived.Test.YtbfjpjllaibooaaGreatLfD
set_option linter.all false
namespace Go.Proofs.YtbfjpjllaibooaaGreat.Tx
open Go.Lf Go.Lf.S Go.Lf.Duo
set_option maxRecDepth 100000

theorem ok_ref01_Letters : Ok P F.ref01_Letters [] (t_ref01_Letters [] |> fun | .ret x => x | _ => .nilI) := k_ref01_Letters [] _ rfl (d_ret rfl)
theorem ok_ref01_digits : Ok P F.ref01_digits [] (t_ref01_digits [] |> fun | .ret x => x | _ => .nilI) := k_ref01_digits [] _ rfl (d_ret rfl)

end Go.Proofs.YtbfjpjllaibooaaGreat.Tx
