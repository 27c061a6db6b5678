/- Closed lists of keys; how many pairs are left. -/
import Derived.Test.YtopinhoalbgebaaGreatDoorWk13
set_option linter.all false
namespace Go.Proofs.YtopinhoalbgebaaGreatDoor.Tx
open Go.Lf Go.Lf.S Go.Lf.Duo
set_option maxRecDepth 100000

/-- the rest of y that belongs to a rest of x -/
def Sel (x y : Nd) (j q : Nat) : Prop := if 0 < x.labels.length then ∃ s, x.labels[j]? = some s ∧ y.labels[q]? = some s ∧ ∀ p, p < q → y.labels[p]? ≠ some s else q = j
/-- the key behind the rest j -/
def Nx (ds : List Nd) (free : Bool) (k : Key) (j : Nat) (k' : Key) : Prop :=
  ∃ x y, ds[k.a.toNat]? = some x ∧ ds[k.b.toNat]? = some y ∧ ∃ (u v : Rf) (q : Nat), x.next[j]? = some u ∧ y.next[q]? = some v ∧ Sel x y j q ∧
    k' = ⟨u.node, v.node, if free then 0 else IntKind.i64.wrap (u.shift - v.shift + k.d)⟩
/-- how many rests a key has -/
def arity (ds : List Nd) (k : Key) : Nat := match ds[k.a.toNat]? with
  | some x => x.next.length
  | none => 0
/-- a key is sound in a list -/
def KOk (ds : List Nd) (free : Bool) (L : List Key) (k : Key) : Prop := locB ds free k = true ∧ ∀ j, j < arity ds k → ∃ k', Nx ds free k j k' ∧ k' ∈ L
def Cl (ds : List Nd) (free : Bool) (L : List Key) : Prop := ∀ k ∈ L, KOk ds free L k
/-- the pair is equal: a closed list has it -/
def Eqv (ds : List Nd) (free : Bool) (k : Key) : Prop := ∃ L, Cl ds free L ∧ k ∈ L

/-- the pairs that no key has -/
def left (n : Nat) (L : List Key) : List (Nat × Nat) := ((List.range n).flatMap fun a => (List.range n).map fun b => (a, b)).filter fun p => !L.any fun k => decide (k.a = p.1 ∧ k.b = p.2)

theorem left_mem {n : Nat} {L : List Key} {a b : Nat} : (a, b) ∈ left n L ↔ (a < n ∧ b < n) ∧ ∀ k ∈ L, ¬ (k.a = a ∧ k.b = b) := by
  simp only [left, List.mem_filter, List.mem_flatMap, List.mem_range, List.mem_map, Bool.not_eq_true', List.any_eq_false, decide_eq_true_eq]
  constructor
  · rintro ⟨⟨a', ha, b', hb, he⟩, h⟩
    cases he
    exact ⟨⟨ha, hb⟩, h⟩
  · rintro ⟨⟨ha, hb⟩, h⟩
    exact ⟨⟨a, ha, b, hb, rfl⟩, h⟩

theorem left_mono {n : Nat} {L L' : List Key} (h : ∀ k ∈ L, k ∈ L') : (left n L').length ≤ (left n L).length := by
  have : left n L' = (left n L).filter fun p => !L'.any fun k => decide (k.a = p.1 ∧ k.b = p.2) := by
    unfold left
    rw [List.filter_filter]
    apply List.filter_congr
    intro p _
    cases hL' : L'.any fun k => decide (k.a = p.1 ∧ k.b = p.2)
    · have : (L.any fun k => decide (k.a = p.1 ∧ k.b = p.2)) = false := by
        rw [List.any_eq_false] at hL' ⊢
        exact fun k hk => hL' k (h k hk)
      rw [this]; rfl
    · simp
  rw [this]
  exact List.length_filter_le _ _

theorem left_lt {n : Nat} {L : List Key} {k : Key} {a b : Nat} (hm : (a, b) ∈ left n L) (ha : k.a = a) (hb : k.b = b) : (left n (L ++ [k])).length < (left n L).length := by
  have e : left n (L ++ [k]) = (left n L).filter fun p => !decide (k.a = p.1 ∧ k.b = p.2) := by
    unfold left
    rw [List.filter_filter]
    apply List.filter_congr
    intro p _
    simp [Bool.and_comm]
  rw [e]
  have h1 := List.length_filter_lt_length_iff_exists (l := left n L) (p := fun p => !decide (k.a = p.1 ∧ k.b = p.2))
  exact h1.2 ⟨(a, b), hm, by simp [ha, hb]⟩

end Go.Proofs.YtopinhoalbgebaaGreatDoor.Tx
