/- Contracts: fields of types, exactly; where a name is bound. -/
import Derived.Test.YtbfjpjllaibooaaGreatWk52
set_option linter.all false
namespace Go.Proofs.YtbfjpjllaibooaaGreat.Tx
open Go.Lf Go.Lf.S Go.Lf.Duo
set_option maxRecDepth 100000

/-! where a name is bound -/

/-- the last place of a text -/
def lastI (s : ByteArray) : List ByteArray → Option Nat
  | [] => none
  | x :: r => match lastI s r with
    | some j => some (j + 1)
    | none => if x = s then some 0 else none
theorem lastI_none {s : ByteArray} : ∀ {ns : List ByteArray}, lastI s ns = none → ∀ j : Nat, ns[j]? ≠ some s
  | [], _, j => by simp
  | x :: r, h, j => by
    simp only [lastI] at h
    split at h
    · cases h
    · rename_i hr
      split at h
      · cases h
      · rename_i hx
        cases j with
        | zero => simpa using hx
        | succ j => simpa using lastI_none hr j
theorem lastI_some {s : ByteArray} : ∀ {ns : List ByteArray} {q : Nat}, lastI s ns = some q → ns[q]? = some s ∧ ∀ j, q < j → ns[j]? ≠ some s
  | [], q, h => by cases h
  | x :: r, q, h => by
    simp only [lastI] at h
    split at h
    · rename_i q' hr
      cases h
      obtain ⟨h1, h2⟩ := lastI_some hr
      refine ⟨by simpa using h1, fun j hj => ?_⟩
      cases j with
      | zero => omega
      | succ j => simpa using h2 j (by omega)
    · rename_i hr
      split at h
      · rename_i hx
        cases h
        refine ⟨by simp [hx], fun j hj => ?_⟩
        cases j with
        | zero => omega
        | succ j => simpa using lastI_none hr j
      · cases h
theorem lastI_is {s : ByteArray} {ns : List ByteArray} {q : Nat} (h1 : ns[q]? = some s) (h2 : ∀ j, q < j → ns[j]? ≠ some s) : lastI s ns = some q := by
  cases h : lastI s ns with
  | none => exact absurd h1 (lastI_none h q)
  | some q' =>
    obtain ⟨g1, g2⟩ := lastI_some h
    by_cases e : q = q'
    · rw [e]
    · rcases Nat.lt_or_gt_of_ne e with e | e
      · exact absurd g1 (h2 q' e)
      · exact absurd h1 (g2 q e)
theorem lastI_not {s : ByteArray} {ns : List ByteArray} (h : ∀ j : Nat, ns[j]? ≠ some s) : lastI s ns = none := by
  cases h' : lastI s ns with
  | none => rfl
  | some q => exact absurd (lastI_some h').1 (h q)

/-- the error of a node of a type, and those below -/
def sesB (k : Int) : Bool := decide (k ≠ 1 ∧ k ≠ 2)
mutual
noncomputable def nodeE : Ty → List ByteArray → Nat → Bool → Int
  | .mk k p nm s ls ks, ns, g, ses => if pb (¬ shP k p nm s ls ks.length) || (ses && !sesB k) then 3 else
      if k = 9 then (match lastI nm ns with
        | some q => if q < g then 0 else 3
        | none => 4)
      else nodeEs ks (decide (4 ≤ k ∧ k ≤ 5)) (if k = 8 then ns ++ [nm] else ns) (if k = 8 then g else ns.length)
/-- the first error; 'pay': the first one may be a payload -/
noncomputable def nodeEs : List Ty → Bool → List ByteArray → Nat → Int
  | [], _, _, _ => 0
  | t :: r, pay, ns, g => if nodeE t ns g (!pay) ≠ 0 then nodeE t ns g (!pay) else nodeEs r false ns g
end
theorem nodeEs_nil {pay : Bool} {ns : List ByteArray} {g : Nat} : nodeEs [] pay ns g = 0 := by simp [nodeEs]
theorem nodeEs_cons {t : Ty} {r : List Ty} {pay : Bool} {ns : List ByteArray} {g : Nat} : nodeEs (t :: r) pay ns g = if nodeE t ns g (!pay) ≠ 0 then nodeE t ns g (!pay) else nodeEs r false ns g := by simp only [nodeEs]
/-- the kids from j on -/
theorem nodeEs_drop {ks : List Ty} {j : Nat} (h : j < ks.length) {pay : Bool} {ns : List ByteArray} {g : Nat} :
    nodeEs (ks.drop j) pay ns g = if nodeE ks[j] ns g (!pay) ≠ 0 then nodeE ks[j] ns g (!pay) else nodeEs (ks.drop (j + 1)) false ns g := by
  rw [List.drop_eq_getElem_cons h, nodeEs_cons]
end Go.Proofs.YtbfjpjllaibooaaGreat.Tx
