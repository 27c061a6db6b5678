/- Law 6, ScopeOrders: the order of the definitions. -/
import Derived.Test.YtfmbddfenghnlaaGreatDoorWk155
set_option linter.all false
namespace Go.Proofs.YtfmbddfenghnlaaGreatDoor.Tx
open Go.Lf Go.Lf.S Go.Lf.Duo
set_option maxRecDepth 100000

theorem callE_fst {w w' : Pg} {ch : ByteArray} {m : Nat} {g : Bool} (h : fstD w.defs ch = fstD w'.defs ch) : callE w ch m g = callE w' ch m g := by
  unfold callE; rw [h]
theorem dws_append : ∀ (a b : List Df), dws (a ++ b) = dws a + dws b
  | [], b => by simp [dws]
  | d :: a, b => by simp only [List.cons_append, dws, dws_append a b]; omega
theorem first_iff : ∀ {l : List Df}, firstE l = 0 ↔ ∀ d ∈ l, prightE d.body = 0
  | [] => by simp [firstE]
  | d :: r => by
    rw [firstE]
    by_cases h : prightE d.body = 0
    · rw [if_pos h, first_iff (l := r)]; simp [h]
    · rw [if_neg h]; simp [h]
theorem prog_iff {p : Pg} : progE p = 0 ↔ ¬ 10000 < total p ∧ (∀ d ∈ p.defs, prightE d.body = 0) ∧ prightE p.main = 0 ∧ ∀ d ∈ p.defs, dfP d := by
  unfold progE
  rw [← first_iff]
  by_cases h1 : 10000 < total p
  · rw [if_pos h1]; simp [h1]
  · rw [if_neg h1]
    by_cases h2 : firstE p.defs = 0
    · rw [if_neg (by simp [h2])]
      by_cases h3 : prightE p.main = 0
      · rw [if_neg (by simp [h3])]
        by_cases h4 : ∀ d ∈ p.defs, dfP d
        · rw [if_pos (pb_iff.2 h4)]; simp [h1, h2, h3]; exact h4
        · rw [if_neg (fun h => h4 (pb_iff.1 h))]; simp only [h1, h2, h3, h4]; simp
      · rw [if_pos h3]; simp [h1, h2, h3]
    · rw [if_pos h2]; simp [h1, h2]

theorem app_df {l m : List Df} (h : l.length + m.length ≤ 500000000) : (Prim.app 14 true 240).ev [.sl (l.map Df.enc), .sl (m.map Df.enc)] = some (.sl ((l ++ m).map Df.enc)) := by
  rw [e_app (all_map Df.okc_enc m) (by simp; omega) (by simp; omega), List.map_append]

end Go.Proofs.YtfmbddfenghnlaaGreatDoor.Tx
