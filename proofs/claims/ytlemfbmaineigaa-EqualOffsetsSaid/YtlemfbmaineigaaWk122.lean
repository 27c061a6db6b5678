/- The reference's subtyping (3): the pairs that are reached are finitely many. -/
import Derived.Test.YtlemfbmaineigaaWk121
import Derived.Test.YtlemfbmaineigaaWk20
set_option linter.all false
namespace Go.Proofs.Ytlemfbmaineigaa.Tx
open Go.Lf Go.Lf.S Go.Lf.Duo
set_option maxRecDepth 100000

theorem nodup_leU {α : Type} : ∀ {l U : List α}, l.Nodup → (∀ x ∈ l, x ∈ U) → l.length ≤ U.length
  | [], _, _, _ => by simp
  | a :: l, U, hn, h => by
    obtain ⟨s, t, rfl⟩ := List.append_of_mem (h a List.mem_cons_self)
    rw [List.nodup_cons] at hn
    have := nodup_leU (l := l) (U := s ++ t) hn.2 fun x hx => by
      have := h x (List.mem_cons_of_mem _ hx)
      simp only [List.mem_append, List.mem_cons] at this ⊢
      rcases this with h | rfl | h
      · exact .inl h
      · exact absurd hx hn.1
      · exact .inr h
    simp only [List.length_append, List.length_cons] at this ⊢
    omega
theorem flat_le {α β : Type} {f : α → List β} {c : Nat} : ∀ {l : List α}, (∀ x ∈ l, (f x).length ≤ c) → (l.flatMap f).length ≤ l.length * c
  | [], _ => by simp
  | a :: l, h => by
    have h1 := h a List.mem_cons_self
    have h2 := flat_le (l := l) (f := f) (c := c) fun x hx => h x (List.mem_cons_of_mem _ hx)
    simp only [List.flatMap_cons, List.length_append, List.length_cons, Nat.add_mul, Nat.one_mul]
    omega

theorem raise_congr {a b : Int} (h : IntKind.i64.wrap a = IntKind.i64.wrap b) (t : Ty) : raiseT a t = raiseT b t := by rw [← raise_wr a, h, raise_wr]
noncomputable def nrm (a : Ty) : Ty := raiseT (-pz (unfT a)) a
theorem act_raise (k : Int) (t : Ty) : act (raiseT k t).kind = act t.kind := by rw [raise_kind]
theorem pz_act {u : Ty} (h : act u.kind = true) : pz u = u.prio := by unfold pz; rw [if_pos h]
theorem unfT_raise {T : Ty} (k : Int) (h : ∃ u, Unf T u) : unfT (raiseT k T) = raiseT k (unfT T) := by
  obtain ⟨u, h⟩ := h
  rw [unfT_eq h, unfT_eq (h.raise k)]

/-- a lowered pair -/
def Lwd (L : List Ty) (M : Nat) (q : Ty × Ty) : Prop := ∃ A B, CL L M A ∧ CL L M B ∧ q = lw (A, B)
theorem Lwd.cl {L : List Ty} {M : Nat} {q : Ty × Ty} (h : Lwd L M q) : CL L M q.1 ∧ CL L M q.2 := by
  obtain ⟨A, B, h1, h2, rfl⟩ := h
  exact ⟨h1.raise _, h2.raise _⟩

/-- a lowered pair that begins with actions of the same priority is one of finitely many -/
theorem Lwd.nrm {L : List Ty} {M : Nat} {q : Ty × Ty} (h : Lwd L M q) (hl : TLoc (unfT q.1) (unfT q.2)) (ha : act (unfT q.1).kind = true) : ∃ a b, a ∈ L ∧ b ∈ L ∧ q = (nrm a, nrm b) := by
  obtain ⟨A, B, h1, h2, rfl⟩ := h
  obtain ⟨σ, a, la, rfl, ca⟩ := h1.base
  obtain ⟨τ, b, lb, rfl, cb⟩ := h2.base
  have ua : ∃ u, Unf a u := ⟨_, ca.unf.1⟩
  have ub : ∃ u, Unf b u := ⟨_, cb.unf.1⟩
  simp only [lw] at hl ha ⊢
  rw [unfT_raise σ ua] at hl ha ⊢
  rw [raise_raise] at hl ha ⊢
  rw [raise_raise] at hl ⊢
  rw [unfT_raise _ ua] at hl ha
  rw [unfT_raise _ ub] at hl
  obtain ⟨l1, l2, _⟩ := hl
  rw [raise_kind, raise_kind] at l1
  rw [raise_kind] at ha
  have hb : act (unfT b).kind = true := by rw [← l1]; exact ha
  have hpa : pz (raiseT σ (unfT a)) = ad (unfT a).prio σ := by rw [pz_act (by rw [raise_kind]; exact ha), raise_prio _ _ ha]
  rw [raise_prio _ _ ha, raise_prio _ _ hb, hpa] at l2
  rw [hpa]
  refine ⟨a, b, la, lb, Prod.ext ?_ ?_⟩
  · unfold Tx.nrm
    refine raise_congr ?_ a
    rw [pz_act ha, wrap_eq]
    have := wrap_mod ((unfT a).prio + σ)
    unfold ad; omega
  · unfold Tx.nrm
    refine raise_congr ?_ b
    rw [pz_act hb, wrap_eq]
    unfold ad at l2 ⊢
    rw [wrap_eq] at l2
    have := wrap_mod ((unfT a).prio + σ)
    omega

noncomputable def Un (L : List Ty) (M : Nat) (ne : Ty × Ty → Option (List (Ty × Ty))) (p : Ty × Ty) : List (Ty × Ty) := p :: L.flatMap fun a => L.flatMap fun b => ((ne (nrm a, nrm b)).getD []).take (M + 2)
theorem len_Un (L : List Ty) (M : Nat) (ne : Ty × Ty → Option (List (Ty × Ty))) (p : Ty × Ty) : (Un L M ne p).length ≤ 1 + L.length * (L.length * (M + 2)) := by
  have := flat_le (f := fun a => L.flatMap fun b => ((ne (nrm a, nrm b)).getD []).take (M + 2)) (c := L.length * (M + 2)) (l := L) fun a _ => flat_le fun b _ => by simp; omega
  simp only [Un, List.length_cons]
  omega

theorem TRaw.cl {L : List Ty} {M : Nat} {x y : Ty} (hx : ∀ k ∈ x.kids, CL L M k) (hy : ∀ k ∈ y.kids, CL L M k) {r : Ty × Ty} (h : TRaw x y r) : CL L M r.1 ∧ CL L M r.2 := by
  rcases h with ⟨_, e1, e2⟩ | ⟨_, e1, e2⟩ | ⟨_, j, _, e1, e2⟩ | ⟨_, s, i, j, _, _, e1, e2⟩
  · exact ⟨hy _ (List.mem_of_getElem? e1), hx _ (List.mem_of_getElem? e2)⟩
  · exact ⟨hx _ (List.mem_of_getElem? e1), hy _ (List.mem_of_getElem? e2)⟩
  · exact ⟨hx _ (List.mem_of_getElem? e1), hy _ (List.mem_of_getElem? e2)⟩
  · exact ⟨hx _ (List.mem_of_getElem? e1), hy _ (List.mem_of_getElem? e2)⟩
theorem TRaw.isact {x y : Ty} {r : Ty × Ty} (h : TRaw x y r) : act x.kind = true := by
  simp only [act, decide_eq_true_eq]
  rcases h with ⟨h, _⟩ | ⟨h, _⟩ | ⟨h, _⟩ | ⟨h, _⟩ <;> omega

end Go.Proofs.Ytlemfbmaineigaa.Tx
