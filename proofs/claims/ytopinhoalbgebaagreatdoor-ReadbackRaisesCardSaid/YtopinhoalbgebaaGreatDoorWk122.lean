/- The reference's subtyping (3): the pairs that are reached are finitely many. -/
import Derived.Test.YtopinhoalbgebaaGreatDoorWk121
import Derived.Test.YtopinhoalbgebaaGreatDoorWk20
set_option linter.all false
namespace Go.Proofs.YtopinhoalbgebaaGreatDoor.Tx
open Go.Lf Go.Lf.S Go.Lf.Duo
set_option maxRecDepth 100000

theorem nodup_leU {α : Type} : ∀ {l U : List α}, l.Nodup → (∀ x ∈ l, x ∈ U) → l.length ≤ U.length
  | [], _, _, _ => by simp
  | a :: l, U, hn, h => by
    obtain ⟨s, t, rfl⟩ := List.append_of_mem (h a List.mem_cons_self)
    rw [List.nodup_cons] at hn
    have := nodup_leU (l := l) (U := s ++ t) hn.2 fun x hx => by
      have := h x (List.mem_cons_of_mem _ hx)
      simp only [List.mem_append, List.mem_cons] at this ⊢
      rcases this with h | rfl | h
      · exact .inl h
      · exact absurd hx hn.1
      · exact .inr h
    simp only [List.length_append, List.length_cons] at this ⊢
    omega
theorem raise_congr {a b : Int} (h : IntKind.i64.wrap a = IntKind.i64.wrap b) (t : Ty) : raiseT a t = raiseT b t := by rw [← raise_wr a, h, raise_wr]
theorem pz_act {u : Ty} (h : act u.kind = true) : pz u = u.prio := by unfold pz; rw [if_pos h]
theorem unfT_raise {T : Ty} (k : Int) (h : ∃ u, Unf T u) : unfT (raiseT k T) = raiseT k (unfT T) := by
  obtain ⟨u, h⟩ := h
  rw [unfT_eq h, unfT_eq (h.raise k)]

/-- a lowered pair -/
def Lwd (L : List Ty) (M : Nat) (q : Ty × Ty) : Prop := ∃ A B, CL L M A ∧ CL L M B ∧ q = lw (A, B)
theorem Lwd.cl {L : List Ty} {M : Nat} {q : Ty × Ty} (h : Lwd L M q) : CL L M q.1 ∧ CL L M q.2 := by
  obtain ⟨A, B, h1, h2, rfl⟩ := h
  exact ⟨h1.raise _, h2.raise _⟩

theorem TRaw.cl {L : List Ty} {M : Nat} {x y : Ty} (hx : ∀ k ∈ x.kids, CL L M k) (hy : ∀ k ∈ y.kids, CL L M k) {r : Ty × Ty} (h : TRaw x y r) : CL L M r.1 ∧ CL L M r.2 := by
  rcases h with ⟨_, e1, e2⟩ | ⟨_, e1, e2⟩ | ⟨_, j, _, e1, e2⟩ | ⟨_, s, i, j, _, _, e1, e2⟩
  · exact ⟨hy _ (List.mem_of_getElem? e1), hx _ (List.mem_of_getElem? e2)⟩
  · exact ⟨hx _ (List.mem_of_getElem? e1), hy _ (List.mem_of_getElem? e2)⟩
  · exact ⟨hx _ (List.mem_of_getElem? e1), hy _ (List.mem_of_getElem? e2)⟩
  · exact ⟨hx _ (List.mem_of_getElem? e1), hy _ (List.mem_of_getElem? e2)⟩
end Go.Proofs.YtopinhoalbgebaaGreatDoor.Tx
