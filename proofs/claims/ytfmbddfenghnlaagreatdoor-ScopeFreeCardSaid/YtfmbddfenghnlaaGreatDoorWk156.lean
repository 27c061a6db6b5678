/- Law 6, ScopeOrders: the order of the definitions. -/
import Derived.Test.YtfmbddfenghnlaaGreatDoorWk155
set_option linter.all false
namespace Go.Proofs.YtfmbddfenghnlaaGreatDoor.Tx
open Go.Lf Go.Lf.S Go.Lf.Duo
set_option maxRecDepth 100000

theorem chk_0 {e0 : Int} {p : Pg} : (chk e0 p).1 = 0 ↔ e0 = 0 ∧ (∀ q, q < p.defs.length → D06 p.defs q) ∧ (∀ q, q < p.defs.length → bdE p q = 0) ∧ e06 p p.main [] true = 0 := by
  by_cases h0 : e0 = 0
  · subst h0
    by_cases hD : ∀ q, q < p.defs.length → D06 p.defs q
    · by_cases hB : ∀ q, q < p.defs.length → bdE p q = 0
      · rw [chk_m hD hB]
        exact ⟨fun h => ⟨rfl, hD, hB, h⟩, fun h => h.2.2.2⟩
      · obtain ⟨j, hj, hjb, hm⟩ : ∃ j, j < p.defs.length ∧ bdE p j ≠ 0 ∧ ∀ q, q < j → bdE p q = 0 := by
          have : ∃ j, j < p.defs.length ∧ bdE p j ≠ 0 := by
            apply Classical.byContradiction
            intro hc
            exact hB fun q hq => Classical.byContradiction fun hn => hc ⟨q, hq, hn⟩
          obtain ⟨j, hj⟩ := this
          induction j using Nat.strongRecOn with
          | _ j ih =>
            by_cases hq : ∀ q, q < j → bdE p q = 0
            · exact ⟨j, hj.1, hj.2, hq⟩
            · have : ∃ q, q < j ∧ bdE p q ≠ 0 := by
                apply Classical.byContradiction
                intro hc
                exact hq fun q hq => Classical.byContradiction fun hn => hc ⟨q, hq, hn⟩
              obtain ⟨q, hq, hn⟩ := this
              exact ih q hq ⟨by omega, hn⟩
        rw [chk_b hj hD hjb hm]
        exact ⟨fun h => absurd h hjb, fun h => absurd (h.2.2.1 j hj) hjb⟩
    · obtain ⟨j, hj, hjb, hm⟩ : ∃ j, j < p.defs.length ∧ ¬ D06 p.defs j ∧ ∀ q, q < j → D06 p.defs q := by
        have : ∃ j, j < p.defs.length ∧ ¬ D06 p.defs j := by
          apply Classical.byContradiction
          intro hc
          exact hD fun q hq => Classical.byContradiction fun hn => hc ⟨q, hq, hn⟩
        obtain ⟨j, hj⟩ := this
        induction j using Nat.strongRecOn with
        | _ j ih =>
          by_cases hq : ∀ q, q < j → D06 p.defs q
          · exact ⟨j, hj.1, hj.2, hq⟩
          · have : ∃ q, q < j ∧ ¬ D06 p.defs q := by
              apply Classical.byContradiction
              intro hc
              exact hq fun q hq => Classical.byContradiction fun hn => hc ⟨q, hq, hn⟩
            obtain ⟨q, hq, hn⟩ := this
            exact ih q hq ⟨by omega, hn⟩
      rw [chk_d hj hjb hm]
      exact ⟨fun h => by simp at h, fun h => absurd (h.2.1 j hj) hjb⟩
  · rw [chk_p h0]
    exact ⟨fun h => absurd h h0, fun h => absurd h.1 h0⟩

theorem bd_all {p : Pg} : (∀ q, q < p.defs.length → bdE p q = 0) ↔ ∀ d ∈ p.defs, e06 p d.body (prN06 d) false = 0 := by
  constructor
  · intro h d hd
    obtain ⟨j, hj, rfl⟩ := List.getElem_of_mem hd
    have := h j hj
    unfold bdE at this
    rwa [List.getElem?_eq_getElem hj] at this
  · intro h q hq
    unfold bdE
    rw [List.getElem?_eq_getElem hq]
    exact h _ (List.getElem_mem hq)
theorem first_iff : ∀ {l : List Df}, firstE l = 0 ↔ ∀ d ∈ l, prightE d.body = 0
  | [] => by simp [firstE]
  | d :: r => by
    rw [firstE]
    by_cases h : prightE d.body = 0
    · rw [if_pos h, first_iff (l := r)]; simp [h]
    · rw [if_neg h]; simp [h]
theorem prog_iff {p : Pg} : progE p = 0 ↔ ¬ 10000 < total p ∧ (∀ d ∈ p.defs, prightE d.body = 0) ∧ prightE p.main = 0 ∧ ∀ d ∈ p.defs, dfP d := by
  unfold progE
  rw [← first_iff]
  by_cases h1 : 10000 < total p
  · rw [if_pos h1]; simp [h1]
  · rw [if_neg h1]
    by_cases h2 : firstE p.defs = 0
    · rw [if_neg (by simp [h2])]
      by_cases h3 : prightE p.main = 0
      · rw [if_neg (by simp [h3])]
        by_cases h4 : ∀ d ∈ p.defs, dfP d
        · rw [if_pos (pb_iff.2 h4)]; simp [h1, h2, h3]; exact h4
        · rw [if_neg (fun h => h4 (pb_iff.1 h))]; simp only [h1, h2, h3, h4]; simp
      · rw [if_pos h3]; simp [h1, h2, h3]
    · rw [if_pos h2]; simp [h1, h2]

end Go.Proofs.YtfmbddfenghnlaaGreatDoor.Tx
