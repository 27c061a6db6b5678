/- The reference's subtyping (2): closed types of a finite set, and what a pair needs. -/
import Derived.Test.YtopinhoalbgebaaGreatDoorWk120
set_option linter.all false
namespace Go.Proofs.YtopinhoalbgebaaGreatDoor.Tx
open Go.Lf Go.Lf.S Go.Lf.Duo
set_option maxRecDepth 100000

/-- a closed type of the list's, raised -/
def CL (L : List Ty) (M : Nat) (T : Ty) : Prop := ∃ ds r, OccR ds L M r T

theorem Occ.mem {ds : List Nd} {L : List Ty} {M : Nat} {t : Ty} {a : Int} {ns : List ByteArray} {refs : List Rf} {Ts : List Ty} {g : Nat} (h : Occ ds L M t a ns refs Ts g) : ∀ x ∈ occL ns Ts t, x ∈ L := by
  induction h with
  | top t a h hp hL hM => exact hL
  | down k p nm s ls x a ns refs Ts g h8 h ih =>
    intro y hy
    refine ih y ?_
    simp only [occL, if_pos h8, occLs, List.append_nil]
    exact List.mem_cons_of_mem _ hy
  | kid k p nm s ls ks a ns refs Ts g h8 h9 h j hj ih =>
    intro y hy
    refine ih y ?_
    simp only [occL, if_neg h8]
    exact List.mem_cons_of_mem _ (occLs_mem (List.getElem_mem hj) hy)

theorem CL.step {L : List Ty} {M : Nat} {T : Ty} (h : CL L M T) : ∃ u, Unf T u ∧ Shp M u ∧ ∀ k ∈ u.kids, CL L M k := by
  obtain ⟨ds, r, σ, t, a, ns, refs, Ts, g, ho, rfl, rfl⟩ := h
  obtain ⟨_, u, d, h1, h2, _, _, _, _, hl, hk⟩ := occ_step t ho (σ := σ)
  refine ⟨u, h1, h2, fun k hm => ?_⟩
  obtain ⟨j, hj, rfl⟩ := List.getElem_of_mem hm
  have hj' : j < d.next.length := by omega
  exact ⟨ds, _, hk j _ _ (List.getElem?_eq_getElem hj') (List.getElem?_eq_getElem hj)⟩
theorem CL.raise {L : List Ty} {M : Nat} {T : Ty} (k : Int) (h : CL L M T) : CL L M (raiseT k T) := by
  obtain ⟨ds, r, σ, t, a, ns, refs, Ts, g, ho, rfl, rfl⟩ := h
  exact ⟨ds, _, σ + k, t, a, ns, refs, Ts, g, ho, rfl, by rw [raise_raise]⟩
theorem CL.lm {L : List Ty} {M : Nat} {T : Ty} (h : CL L M T) : Lm M T := by
  obtain ⟨ds, r, σ, t, a, ns, refs, Ts, g, ho, rfl, rfl⟩ := h
  exact (Lm.sub (fun y T hy => ho.i.lts T (lkT_mem _ _ _ _ hy)) ho.i.lm).raise
theorem CL.base {L : List Ty} {M : Nat} {T : Ty} (h : CL L M T) : ∃ σ s, s ∈ L ∧ T = raiseT σ s ∧ CL L M s := by
  obtain ⟨ds, r, σ, t, a, ns, refs, Ts, g, ho, rfl, rfl⟩ := h
  exact ⟨σ, _, ho.mem _ (occL_self ns Ts t), rfl, ds, _, 0, t, a, ns, refs, Ts, g, ho, rfl, (raise0_sub ho.i.wf).symm⟩
theorem CL.ln {L : List Ty} {M : Nat} (hM : M ≤ 549755813888) {T : Ty} (h : CL L M T) : Ln T := h.lm.ln hM
theorem CL.unf {L : List Ty} {M : Nat} {T : Ty} (h : CL L M T) : Unf T (unfT T) ∧ Shp M (unfT T) ∧ ∀ k ∈ (unfT T).kids, CL L M k := by
  obtain ⟨u, h1, h2, h3⟩ := h.step
  rw [unfT_eq h1]; exact ⟨h1, h2, h3⟩
theorem Unf.to_unfT {T u : Ty} (h : Unf T u) : Unf T (unfT T) := by rw [unfT_eq h]; exact h

/-! what a pair needs -/
def LRaw (x y : Ty) (s : ByteArray) (r : Ty × Ty) : Prop := ∃ i j : Nat, x.labels[i]? = some s ∧ y.labels[j]? = some s ∧ x.kids[i]? = some r.1 ∧ y.kids[j]? = some r.2
def TRaw (x y : Ty) (r : Ty × Ty) : Prop :=
  (x.kind = 4 ∧ y.kids[0]? = some r.1 ∧ x.kids[0]? = some r.2) ∨ (x.kind = 4 ∧ x.kids[1]? = some r.1 ∧ y.kids[1]? = some r.2) ∨
  (x.kind = 5 ∧ ∃ j : Nat, j < 2 ∧ x.kids[j]? = some r.1 ∧ y.kids[j]? = some r.2) ∨ ((x.kind = 6 ∨ x.kind = 7) ∧ ∃ s, LRaw x y s r)
end Go.Proofs.YtopinhoalbgebaaGreatDoor.Tx
