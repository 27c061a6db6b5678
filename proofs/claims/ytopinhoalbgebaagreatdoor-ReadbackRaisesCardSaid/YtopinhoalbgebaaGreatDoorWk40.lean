/- Where the nodes of a type stand. -/
import Derived.Test.YtopinhoalbgebaaGreatDoorWk7
set_option linter.all false
namespace Go.Proofs.YtopinhoalbgebaaGreatDoor.Tx
open Go.Lf Go.Lf.S Go.Lf.Duo
set_option maxRecDepth 100000

theorem len_nodes : ∀ (t : Ty) (ns : List ByteArray) (g : Nat), Wf t ns g → ∀ (a : Int) (ns' : List ByteArray) (refs : List Rf), (nodesF t a ns' refs).length = gc t := by
  intro t
  induction t using Ty.ind with
  | _ t ih =>
  intro ns g h a ns' refs
  cases h with
  | mk _ _ _ h1 h9 h8 hk =>
  obtain ⟨k, p, nm, s, ls, ks⟩ := t
  unfold Wf1 at h1
  have h1 := h1.1
  simp only [Ty.kind, Ty.prio, Ty.shift, Ty.kids, Ty.labels] at h1
  by_cases hk8 : k = 8
  · have hl := (h1.2.2.2.2.2.1 hk8).1
    obtain ⟨x, hks⟩ := List.length_eq_one_iff.1 hl
    have hm : x ∈ ks := by rw [hks]; exact List.mem_cons_self
    rw [nodesF_8 hk8 hks, ih _ hm _ _ (h8 hk8 _ hm), gc_rec hk8 x hks]
  · by_cases hk9 : k = 9
    · have hks : ks = [] := List.eq_nil_of_length_eq_zero (h1.2.2.2.2.2.2 hk9).1
      rw [nodesF_9 hk9]
      subst hks; subst hk9
      simp [gc, gcs]
    · have hk7 : k ≤ 7 := by
        clear h8 h9 hk ih
        omega
      have key : ∀ (l : List Ty) (a : Int), (∀ x ∈ l, x ∈ ks) → (belowsF l a ns' refs).length = gcs l := by
        intro l
        induction l with
        | nil => intro a _; simp [belowsF, gcs]
        | cons x l ihl =>
          intro a hx
          have hxm := hx x List.mem_cons_self
          simp only [belowsF, List.length_append, gcs]
          rw [ih x hxm _ _ (hk hk8 x hxm), ihl _ fun y hy => hx y (List.mem_cons_of_mem _ hy)]
      rw [nodesF_o hk8 hk9]
      simp only [List.length_cons, gc]
      rw [key ks _ fun x hx => hx, if_pos hk7]
      omega

/-- nodes stand at a place of the graph -/
def Pl (ds : List Nd) (a : Int) (l : List Nd) : Prop := 0 ≤ a ∧ ∀ (i : Nat) (h : i < l.length), ds[a.toNat + i]? = some l[i]
theorem Pl.left {ds : List Nd} {a : Int} {l m : List Nd} (h : Pl ds a (l ++ m)) : Pl ds a l :=
  ⟨h.1, fun i hi => by rw [h.2 i (by simp; omega), List.getElem_append_left hi]⟩
theorem Pl.right {ds : List Nd} {a : Int} {l m : List Nd} {n : Nat} (hn : l.length = n) (h : Pl ds a (l ++ m)) : Pl ds (a + n) m := by
  have h0 := h.1
  refine ⟨by omega, fun i hi => ?_⟩
  have := h.2 (n + i) (by simp; omega)
  rw [show (a + (n : Int)).toNat + i = a.toNat + (n + i) by omega, this, List.getElem_append_right (by omega)]
  congr 2; omega
theorem Pl.kid {ds : List Nd} {ns : List ByteArray} {R : List Rf} : ∀ {ks : List Ty} {a : Int}, Pl ds a (belowsF ks a ns R) → (∀ x ∈ ks, ∀ a, (nodesF x a ns R).length = gc x) → ∀ (j : Nat) (h : j < ks.length), Pl ds (a + gcs (ks.take j)) (nodesF ks[j] (a + gcs (ks.take j)) ns R)
  | x :: ks, a, h, _, 0, _ => by
    simp only [belowsF] at h
    simp only [List.take_zero, gcs, List.getElem_cons_zero]
    rw [show a + ((0 : Nat) : Int) = a by omega]
    exact h.left
  | x :: ks, a, h, hl, j + 1, hj => by
    simp only [belowsF] at h
    have h2 := Pl.right (hl x List.mem_cons_self a) h
    have := Pl.kid h2 (fun y hy => hl y (List.mem_cons_of_mem _ hy)) j (by simpa using hj)
    simp only [List.take_succ_cons, gcs, List.getElem_cons_succ]
    rw [show a + ((gc x + gcs (ks.take j) : Nat) : Int) = a + (gc x : Int) + (gcs (ks.take j) : Int) by omega]
    exact this
theorem nextsF_at {ns : List ByteArray} {R : List Rf} : ∀ {ks : List Ty} {a : Int} (j : Nat) (h : j < ks.length), (nextsF ks a ns R)[j]? = some (refF ks[j] (a + gcs (ks.take j)) ns R)
  | x :: ks, a, 0, _ => by simp [nextsF, gcs]
  | x :: ks, a, j + 1, h => by
    have := nextsF_at (ns := ns) (R := R) (a := a + gc x) j (by simpa using h)
    simp only [nextsF, List.getElem?_cons_succ, this, List.take_succ_cons, gcs, List.getElem_cons_succ]
    congr 2; omega
theorem nextsF_len {ns : List ByteArray} {R : List Rf} : ∀ {ks : List Ty} {a : Int}, (nextsF ks a ns R).length = ks.length
  | [], _ => rfl
  | x :: ks, a => by simp [nextsF, nextsF_len (ks := ks)]

end Go.Proofs.YtopinhoalbgebaaGreatDoor.Tx
