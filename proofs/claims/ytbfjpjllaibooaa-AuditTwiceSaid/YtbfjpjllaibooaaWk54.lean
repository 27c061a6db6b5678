/- Contracts: the nodes of a type one by one, few, sizes; lists backward. -/
import Derived.Test.YtbfjpjllaibooaaWk53
set_option linter.all false
namespace Go.Proofs.Ytbfjpjllaibooaa.Tx
open Go.Lf Go.Lf.S Go.Lf.Duo
set_option maxRecDepth 100000

section
variable {K : PV → Prop} {hs : List (List PV → Prop)}
/-- a range over a function that may be left -/
theorem d_iterG {x : PV} {n : Nat} {xs : List PV} {bC bS : List PV → List PV → T PV} {after : List PV → T PV} {L : List (List PV)} (hL : ItsV P x L) (hn : ∀ y ∈ L, y.length = n)
    (I : Nat → List PV → Prop) (h0 : I 0 xs) (hs1 : ∀ (j : Nat) (y : List PV), L[j]? = some y → ∀ zs, I j zs → (∃ zs', (bC y zs).den0 P K (hs ++ [fun us => us = zs']) ∧ I (j + 1) zs') ∨ (bS y zs).den0 P K hs)
    (ha : ∀ zs, I L.length zs → (after zs).den0 P K hs) : (T.iter x n xs bC bS after).den0 P K hs := by
  refine ⟨L, hL, hn, ?_⟩
  clear hL hn
  induction L generalizing xs I with
  | nil => exact ha _ h0
  | cons y L ih =>
    rcases hs1 0 y rfl xs h0 with ⟨zs', h1, h2⟩ | h1
    · exact .inl ⟨zs', h1, ih (fun j => I (j + 1)) h2 (fun j y hy zs hz => hs1 (j + 1) y (by simpa using hy) zs hz) fun zs hz => ha zs hz⟩
    · exact .inr h1
end

/-- the elements, one by one, till the party has enough: has it not? -/
def runs2 (X : Xt) : List (List PV) → PV → Option (Bool × PV)
  | [], x => some (true, x)
  | y :: l, x => match X.step x y with
    | some (true, x') => runs2 X l x'
    | some (false, x') => some (false, x')
    | none => none
theorem runs2_app (X : Xt) : ∀ (l r : List (List PV)) (x : PV), runs2 X (l ++ r) x = match runs2 X l x with
    | some (true, x') => runs2 X r x'
    | o => o
  | [], r, x => rfl
  | y :: l, r, x => by
    simp only [List.cons_append, runs2]
    split
    · exact runs2_app X l r _
    · rfl
    · rfl
theorem runs_2 (X : Xt) : ∀ (l : List (List PV)) (x s : PV), X.runs l x = some s → ∃ b, runs2 X l x = some (b, s)
  | [], x, s, h => ⟨true, by simp only [Xt.runs] at h; cases h; rfl⟩
  | y :: l, x, s, h => by
    simp only [Xt.runs] at h
    simp only [runs2]
    split at h
    · rename_i x' hx; rw [hx]; exact runs_2 X l x' s h
    · rename_i x' hx; cases h; rw [hx]; exact ⟨false, rfl⟩
    · cases h

mutual
/-- the nodes, each before its kids -/
def pre : Ty → List Ty
  | .mk k p nm s ls ks => .mk k p nm s ls ks :: pres ks
def pres : List Ty → List Ty
  | [] => []
  | t :: r => pre t ++ pres r
end
mutual
theorem pre_len : ∀ t : Ty, (pre t).length = t.sz
  | .mk k p nm s ls ks => by simp only [pre, List.length_cons, Ty.sz]; rw [pres_len ks]
theorem pres_len : ∀ l : List Ty, (pres l).length = Ty.szs l
  | [] => rfl
  | t :: r => by simp only [pres, List.length_append, Ty.szs]; rw [pre_len t, pres_len r]
end
theorem pres_drop {l : List Ty} {j : Nat} (h : j < l.length) : pres (l.drop j) = pre l[j] ++ pres (l.drop (j + 1)) := by
  rw [List.drop_eq_getElem_cons h]; rfl
def e1 (t : Ty) : List PV := [t.enc]
theorem ty_at0 {ks : List Ty} {j : Nat} (h : j < ks.length) : (ks.map Ty.enc)[j]? = some (ks[j]).enc := by simp [h]

/-! a list backward -/

def bk (l : List PV) : Nat → List (List PV)
  | 0 => []
  | m + 1 => [i (m : Int), l.getD m .nilI] :: bk l m
theorem bk_at (l : List PV) : ∀ (m j : Nat), j < m → (bk l m)[j]? = some [i ((m - 1 - j : Nat) : Int), l.getD (m - 1 - j) .nilI]
  | 0, j, h => by omega
  | m + 1, 0, h => by simp [bk]
  | m + 1, j + 1, h => by
    simp only [bk, List.getElem?_cons_succ]
    rw [bk_at l m j (by omega)]
    congr 3 <;> (try congr 1) <;> omega
theorem bk_len (l : List PV) : ∀ m, (bk l m).length = m
  | 0 => rfl
  | m + 1 => by simp [bk, bk_len l m]

end Go.Proofs.Ytbfjpjllaibooaa.Tx
