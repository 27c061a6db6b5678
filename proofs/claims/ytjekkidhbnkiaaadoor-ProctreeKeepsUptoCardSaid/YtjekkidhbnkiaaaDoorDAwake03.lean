/- The fixed results of law 03 are as its awake asks: by evaluation, with the functions that range over nodes from their contracts. -/
import Derived.Test.YtjekkidhbnkiaaaDoorWk61
set_option linter.all false
namespace Go.Proofs.YtjekkidhbnkiaaaDoor.Tx
open Go.Lf Go.Lf.S Go.Lf.Duo
set_option maxRecDepth 100000
def tyEnd : Ty := .mk 3 0 noB 0 [] []
theorem fewEx3 (t : Ty) (h : t.sz ≤ 10000) : Ok P F.typetree_few [t.enc, i 10000] (.bool true) := by
 have := ok_typetree_few t (by omega) 10000 (by omega)
 rwa [decide_eq_true h] at this
def ex03 : List (Nat × List PV × PV) := [(F.typetree_few, [tyEnd.enc, i 10000], .bool true), (F.typetree_Size, [tyEnd.enc], i 1)]
theorem ex03Ok : ExOk P ex03 := ⟨fewEx3 _ (by decide), ok_typetree_Size _ (by decide), trivial⟩
theorem good03 (n : Nat) : GoodEv P (evEx ex03 tb tbS 100000 n).1 (evEx ex03 tb tbS 100000 n).2 := evEx_good ex03Ok allOk allOkS n
theorem awake03 : Ok P F.law03_awake [] (.bool true) := (good03 60).1 _ [] _ (by kernel_rfl)
end Go.Proofs.YtjekkidhbnkiaaaDoor.Tx
