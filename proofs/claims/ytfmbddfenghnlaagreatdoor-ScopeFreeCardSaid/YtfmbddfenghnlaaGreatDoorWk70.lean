/- The free names (1): arguments of bounded number; what is free. -/
import Derived.Test.YtfmbddfenghnlaaGreatDoorWk61
set_option linter.all false
namespace Go.Proofs.YtfmbddfenghnlaaGreatDoor.Tx
open Go.Lf Go.Lf.S Go.Lf.Duo
set_option maxRecDepth 100000

/-- at most so many arguments at each node -/
inductive PA (b : Nat) : Pr → Prop
  | mk (p : Pr) (h : p.args.length ≤ b) (hk : ∀ k ∈ p.kids, PA b k) : PA b p
/-! what is free -/

def aN (ar : List Vl) : List ByteArray := (ar.filter fun a => decide (a.kind = 1)).map Vl.name
def uN (k : Int) (c : ByteArray) (ar : List Vl) : List ByteArray := (if 2 ≤ k ∧ k ≤ 5 then [c] else []) ++ aN ar
def bnd (k : Int) (c v : ByteArray) (b : List ByteArray) : List ByteArray := if k = 3 then b ++ [v] else if k = 6 then b ++ [c, v] else b
mutual
def usF : Pr → List ByteArray → List ByteArray
  | .mk k c v _ ar _ ks, b => (uN k c ar).filter (fun s => !memB s b) ++ usFs ks (bnd k c v b)
def usFs : List Pr → List ByteArray → List ByteArray
  | [], _ => []
  | k :: r, b => usF k b ++ usFs r b
end
mutual
def nU : Pr → Nat
  | .mk _ _ _ _ ar _ ks => ar.length + 1 + nUs ks
def nUs : List Pr → Nat
  | [] => 0
  | k :: r => nU k + nUs r
end
theorem aN_len (ar : List Vl) : (aN ar).length ≤ ar.length := by
  unfold aN; rw [List.length_map]; exact List.length_filter_le _ _
theorem uN_len (k : Int) (c : ByteArray) (ar : List Vl) : (uN k c ar).length ≤ ar.length + 1 := by
  have := aN_len ar
  unfold uN; rw [List.length_append]; split <;> simp <;> omega
mutual
theorem usF_len : ∀ (p : Pr) (b : List ByteArray), (usF p b).length ≤ nU p
  | .mk k c v ls ar t ks, b => by
    have h1 := usFs_len ks (bnd k c v b)
    have h2 := uN_len k c ar
    have h3 := List.length_filter_le (fun s => !memB s b) (uN k c ar)
    simp only [usF, nU, List.length_append]; omega
theorem usFs_len : ∀ (l : List Pr) (b : List ByteArray), (usFs l b).length ≤ nUs l
  | [], b => by simp [usFs, nUs]
  | p :: r, b => by
    have h1 := usF_len p b
    have h2 := usFs_len r b
    simp only [usFs, nUs, List.length_append]; omega
end
mutual
theorem nU_le {B : Nat} : ∀ p : Pr, PA B p → nU p ≤ p.sz * (B + 1)
  | .mk k c v ls ar t ks, h => by
    cases h with
    | mk _ h hk =>
    have h2 := nUs_le ks hk
    have h : ar.length ≤ B := h
    simp only [nU, Pr.sz]
    rw [Nat.add_mul]; omega
theorem nUs_le {B : Nat} : ∀ l : List Pr, (∀ k ∈ l, PA B k) → nUs l ≤ Pr.szs l * (B + 1)
  | [], _ => by simp [nUs, Pr.szs]
  | p :: r, h => by
    have h1 := nU_le p (h p List.mem_cons_self)
    have h2 := nUs_le r fun k hk => h k (List.mem_cons_of_mem _ hk)
    simp only [nUs, Pr.szs]
    rw [Nat.add_mul]; omega
end
theorem usFs_take (l : List Pr) (b : List ByteArray) (j : Nat) (h : j < l.length) : usFs (l.take (j + 1)) b = usFs (l.take j) b ++ usF l[j] b := by
  induction l generalizing j with
  | nil => simp at h
  | cons x l ih =>
    cases j with
    | zero => simp [usFs]
    | succ j => simp only [List.take_succ_cons, usFs, List.getElem_cons_succ, ih j (by simpa using h), List.append_assoc]
theorem nUs_take (l : List Pr) (j : Nat) (h : j < l.length) : nUs (l.take j) + nU l[j] ≤ nUs l := by
  induction l generalizing j with
  | nil => simp at h
  | cons x l ih =>
    cases j with
    | zero => simp [nUs]
    | succ j =>
      have := ih j (by simpa using h)
      simp only [List.take_succ_cons, nUs, List.getElem_cons_succ]; omega

/-- added where they are not yet -/
def addAll (o l : List ByteArray) : List ByteArray := l.foldl (fun o s => addS s o) o
theorem addAll_app (o l m : List ByteArray) : addAll o (l ++ m) = addAll (addAll o l) m := List.foldl_append
theorem addS_len (s : ByteArray) (o : List ByteArray) : (addS s o).length ≤ o.length + 1 := by
  unfold addS; split <;> simp
theorem addAll_len (l : List ByteArray) : ∀ o : List ByteArray, (addAll o l).length ≤ o.length + l.length := by
  induction l with
  | nil => intro o; simp [addAll]
  | cons s l ih =>
    intro o
    have h1 := ih (addS s o)
    have h2 := addS_len s o
    show (addAll (addS s o) l).length ≤ _
    rw [List.length_cons]; omega
def fltB (b l : List ByteArray) : List ByteArray := l.filter fun s => !memB s b
theorem fltB_app (b l m : List ByteArray) : fltB b (l ++ m) = fltB b l ++ fltB b m := List.filter_append ..
theorem aN_take (ar : List Vl) (j : Nat) (h : j < ar.length) : aN (ar.take (j + 1)) = aN (ar.take j) ++ (if ar[j].kind = 1 then [ar[j].name] else []) := by
  unfold aN
  rw [List.take_succ, List.getElem?_eq_getElem h]
  simp only [Option.toList_some, List.filter_append, List.map_append]
  congr 1
  by_cases h1 : ar[j].kind = 1 <;> simp [h1]
theorem aN_take_len (ar : List Vl) (j : Nat) (h : j ≤ ar.length) : (aN (ar.take j)).length ≤ j := by
  have := aN_len (ar.take j)
  rw [List.length_take] at this; omega
theorem memB_pb (s : ByteArray) (l : List ByteArray) : pb (s ∈ l) = memB s l := (pb_of memB_iff).symm
end Go.Proofs.YtfmbddfenghnlaaGreatDoor.Tx
