/- The reference's equality (2): what compare computes. -/
import Derived.Test.YtopinhoalbgebaaGreatDoorWk126
set_option linter.all false
namespace Go.Proofs.YtopinhoalbgebaaGreatDoor.Tx
open Go.Lf Go.Lf.S Go.Lf.Duo
set_option maxRecDepth 100000

def ELoc (x y : Ty) : Prop := x.kind = y.kind ∧ x.prio = y.prio ∧ ∀ s, s ∈ x.labels ↔ s ∈ y.labels
def ERaw (x y : Ty) (w : Ty × Ty) : Prop := (x.labels = [] ∧ ∃ j : Nat, x.kids[j]? = some w.1 ∧ y.kids[j]? = some w.2) ∨ (x.labels ≠ [] ∧ ∃ s, LRaw x y s w)
/-- equal as trees -/
def EqP (p : Ty × Ty) : Prop := ∃ R : Ty × Ty → Prop, R p ∧ ∀ q, R q → ELoc (unfT q.1) (unfT q.2) ∧ ∀ w, ERaw (unfT q.1) (unfT q.2) w → R w
theorem EqP.step {p : Ty × Ty} (h : EqP p) : ELoc (unfT p.1) (unfT p.2) ∧ ∀ w, ERaw (unfT p.1) (unfT p.2) w → EqP w := by
  obtain ⟨R, h1, h2⟩ := h
  obtain ⟨h3, h4⟩ := h2 p h1
  exact ⟨h3, fun w hw => ⟨R, h4 w hw, h2⟩⟩

theorem ERaw.cl {L : List Ty} {M : Nat} {x y : Ty} (hx : ∀ k ∈ x.kids, CL L M k) (hy : ∀ k ∈ y.kids, CL L M k) {r : Ty × Ty} (h : ERaw x y r) : CL L M r.1 ∧ CL L M r.2 := by
  rcases h with ⟨_, j, e1, e2⟩ | ⟨_, s, i, j, _, _, e1, e2⟩
  · exact ⟨hx _ (List.mem_of_getElem? e1), hy _ (List.mem_of_getElem? e2)⟩
  · exact ⟨hx _ (List.mem_of_getElem? e1), hy _ (List.mem_of_getElem? e2)⟩

noncomputable def lx (p : Ty × Ty) : Ty × Ty := lw (unfT p.1, unfT p.2)
noncomputable def nu (a : Ty) : Ty := raiseT (-pz (unfT a)) (unfT a)
theorem raise_lit2 {M : Nat} {u : Ty} (h : Shp M u) (ha : act u.kind = false) (k : Int) : raiseT k u = u := by
  have h1 := h.k1
  simp only [act, decide_eq_false_iff_not] at ha
  have h3 := h.k3 (by omega)
  obtain ⟨kd, p, nm, s, ls, ks⟩ := u
  simp only [Ty.kind, Ty.kids] at h1 ha h3
  rw [raiseT_mk, if_neg ha, h3.1]; rfl
theorem unf_unf {T : Ty} (h : ∃ u, Unf T u) : unfT (unfT T) = unfT T := by
  obtain ⟨u, h⟩ := h
  rw [unfT_eq h, unfT_eq (unf_self h)]

theorem lx_nu {L : List Ty} {M : Nat} {a b : Ty} (ca : CL L M a) (cb : CL L M b) (σ τ : Int) (h : ELoc (unfT (raiseT σ a)) (unfT (raiseT τ b))) : lx (raiseT σ a, raiseT τ b) = (nu a, nu b) := by
  have ua : ∃ u, Unf a u := ⟨_, ca.unf.1⟩
  have ub : ∃ u, Unf b u := ⟨_, cb.unf.1⟩
  have sa := ca.unf.2.1
  have sb := cb.unf.2.1
  have uua : ∃ u, Unf (unfT a) u := ⟨_, unf_self ca.unf.1⟩
  rw [unfT_raise _ ua, unfT_raise _ ub] at h
  obtain ⟨h1, h2, _⟩ := h
  rw [raise_kind, raise_kind] at h1
  simp only [lx, lw, unfT_raise _ ua, unfT_raise _ ub, unfT_raise _ uua, unf_unf ua]
  unfold nu
  by_cases ha : act (unfT a).kind = true
  · have hb : act (unfT b).kind = true := by rw [← h1]; exact ha
    rw [raise_prio _ _ ha, raise_prio _ _ hb] at h2
    rw [pz_act ha, pz_act hb, pz_act (by rw [raise_kind]; exact ha), raise_prio _ _ ha, raise_raise, raise_raise]
    refine Prod.ext (raise_congr ?_ _) (raise_congr ?_ _)
    · rw [wrap_eq]
      have := wrap_mod ((unfT a).prio + σ)
      unfold ad; omega
    · rw [wrap_eq]
      unfold ad at h2 ⊢
      have g1 := wrap_mod ((unfT a).prio + σ)
      have g2 := wrap_mod ((unfT b).prio + τ)
      omega
  · have ha : act (unfT a).kind = false := by simpa using ha
    have hb : act (unfT b).kind = false := by rw [← h1]; exact ha
    simp only [raise_lit2 sa ha, raise_lit2 sb hb]
theorem ELoc.raise {x y : Ty} (h : ELoc x y) (k : Int) : ELoc (raiseT k x) (raiseT k y) := by
  obtain ⟨h1, h2, h3⟩ := h
  refine ⟨by rw [raise_kind, raise_kind]; exact h1, ?_, by rw [raise_labels, raise_labels]; exact h3⟩
  by_cases ha : act x.kind = true
  · rw [raise_prio _ _ ha, raise_prio _ _ (by rw [← h1]; exact ha), h2]
  · have e : ∀ t : Ty, act t.kind = false → (raiseT k t).prio = t.prio := fun t ht => by
      obtain ⟨kd, p, nm, s, ls, ks⟩ := t
      have ht : decide (4 ≤ kd ∧ kd ≤ 7) = false := ht
      rw [raiseT_mk, if_neg (of_decide_eq_false ht)]; rfl
    have ha : act x.kind = false := by simpa using ha
    rw [e x ha, e y (by rw [← h1]; exact ha)]; exact h2

def Don (l : List (Ty × Ty)) (p : Ty × Ty) : Prop := ELoc (unfT p.1) (unfT p.2) ∧ lx p ∈ l
def ClP (L : List Ty) (M : Nat) (l : List (Ty × Ty)) (q : Ty × Ty) : Prop := ∃ A B, CL L M A ∧ CL L M B ∧ q = lx (A, B) ∧ ∀ w, ERaw (unfT A) (unfT B) w → Don l w
theorem Don.mono {l l' : List (Ty × Ty)} (h : ∀ q ∈ l, q ∈ l') {p : Ty × Ty} (hd : Don l p) : Don l' p := ⟨hd.1, h _ hd.2⟩
theorem ClP.mono {L : List Ty} {M : Nat} {l l' : List (Ty × Ty)} (h : ∀ q ∈ l, q ∈ l') {p : Ty × Ty} (hd : ClP L M l p) : ClP L M l' p := by
  obtain ⟨A, B, h1, h2, h3, h4⟩ := hd
  exact ⟨A, B, h1, h2, h3, fun w hw => (h4 w hw).mono h⟩

theorem Don.raise {L : List Ty} {M : Nat} {l : List (Ty × Ty)} {A B : Ty} (hA : CL L M A) (hB : CL L M B) (k : Int) (h : Don l (A, B)) : Don l (raiseT k A, raiseT k B) := by
  obtain ⟨h1, h2⟩ := h
  have uA : ∃ u, Unf A u := ⟨_, hA.unf.1⟩
  have uB : ∃ u, Unf B u := ⟨_, hB.unf.1⟩
  have e : ELoc (unfT (raiseT k A)) (unfT (raiseT k B)) := by rw [unfT_raise k uA, unfT_raise k uB]; exact h1.raise k
  refine ⟨e, ?_⟩
  obtain ⟨σ, a, la, rfl, ca⟩ := hA.base
  obtain ⟨τ, b, lb, rfl, cb⟩ := hB.base
  rw [lx_nu ca cb σ τ h1] at h2
  rw [raise_raise, raise_raise] at e ⊢
  rw [lx_nu ca cb _ _ e]; exact h2

end Go.Proofs.YtopinhoalbgebaaGreatDoor.Tx
