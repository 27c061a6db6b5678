/- The normal tree (4): the reference computes nmT. -/
import Derived.Test.YtopinhoalbgebaaGreatDoorWk173
set_option linter.all false
namespace Go.Proofs.YtopinhoalbgebaaGreatDoor.Tx
open Go.Lf Go.Lf.S Go.Lf.Duo
set_option maxRecDepth 100000

theorem take_map1 {α β : Type} {f : α → β} {l : List α} {j : Nat} (h : j < l.length) : (l.take j).map f ++ [f l[j]] = (l.take (j + 1)).map f := by
  rw [List.take_succ_eq_append_getElem h, List.map_append]; rfl
theorem enc_node (u : Ty) (ts : List Ty) : (nodeT u ts).enc = .agg [i u.kind, i u.prio, .str ⟨#[]⟩, i 0, .sl ((srt u.labels).map .str), .sl (ts.map Ty.enc)] := by rw [nodeT, Ty.enc_mk]

end Go.Proofs.YtopinhoalbgebaaGreatDoor.Tx
