/- The law: the same normal tree exactly for equal types. -/
import Derived.Test.YtopinhoalbgebaaGreatDoorWk179
set_option linter.all false
namespace Go.Proofs.YtopinhoalbgebaaGreatDoor.Tx
open Go.Lf Go.Lf.S Go.Lf.Duo
set_option maxRecDepth 100000

/-- the trees along two paths are the same -/
structure Two (L : List Ty) (M N : Nat) (pa pb : List Ty) : Prop where
  a : POk L M pa
  b : POk L M pb
  len : pa.length = pb.length

/-! equal types have the same normal tree -/
def Al (pa pb : List Ty) : Prop := ∀ j (h1 : j < pa.length) (h2 : j < pb.length), EqP (pa[j], pb[j])
theorem Al.snoc {pa pb : List Ty} (hl : pa.length = pb.length) (h : Al pa pb) {u v : Ty} (huv : EqP (u, v)) : Al (pa ++ [u]) (pb ++ [v]) := by
  intro j h1 h2
  by_cases e : j < pa.length
  · rw [List.getElem_append_left e, List.getElem_append_left (by omega)]
    exact h j e _
  · have hj : j = pa.length := by rw [List.length_append, List.length_singleton] at h1; omega
    have e1 : (pa ++ [u])[j]? = some u := by rw [hj]; simp
    have e2 : (pb ++ [v])[j]? = some v := by rw [hj, hl]; simp
    rw [List.getElem?_eq_getElem h1] at e1
    rw [List.getElem?_eq_getElem h2] at e2
    rw [Option.some.inj e1, Option.some.inj e2]; exact huv
theorem eqP_u {L : List Ty} {M : Nat} {A B : Ty} (cA : CL L M A) (cB : CL L M B) (h : EqP (A, B)) : EqP (unfT A, unfT B) :=
  eqP_trans cA.unfC cA (eqP_symm (eqP_unf cA)) (eqP_trans cA cB h (eqP_unf cB))
theorem hit_eq {L : List Ty} {M : Nat} {p q u v : Ty} (cp : CL L M p) (cq : CL L M q) (cu : CL L M u) (cv : CL L M v) (hpa : act p.kind = true) (hp : unfT p = p) (hq : unfT q = q) (hu : unfT u = u) (hv : unfT v = v) (h1 : EqP (p, q)) (h2 : EqP (u, v)) : (Hit p u → Hit q v) ∧ off p u = off q v := by
  have l1 := h1.step.1
  have l2 := h2.step.1
  simp only [hp, hq] at l1
  simp only [hu, hv] at l2
  have e : off p u = off q v := by
    unfold off
    rw [l2.2.1, pz_act hpa, pz_act (by rw [← l1.1]; exact hpa), l1.2.1]
  refine ⟨fun h => ?_, e⟩
  unfold Hit at h ⊢
  rw [← e]
  refine eqP_trans (cq.raise _) (cp.raise _) (eqP_symm (eqP_raise cp cq _ h1)) (eqP_trans (cp.raise _) cu h h2)
theorem kid_pair {L : List Ty} {M : Nat} (hM : M ≤ 549755813888) {A B : Ty} (cA : CL L M A) (cB : CL L M B) (h : ELoc (unfT A) (unfT B)) : (ordK (unfT A)).length = (ordK (unfT B)).length ∧ srt (unfT A).labels = srt (unfT B).labels ∧
    ∀ j (h1 : j < (ordK (unfT A)).length) (h2 : j < (ordK (unfT B)).length), ERaw (unfT A) (unfT B) ((ordK (unfT A))[j], (ordK (unfT B))[j]) := by
  have sA := cA.unf.2.1
  have sB := cB.unf.2.1
  have mA := shp_lm sA
  have mB := shp_lm sB
  have hs : srt (unfT A).labels = srt (unfT B).labels := (srt_set sA.nd sB.nd (by omega) (by omega)).2 h.2.2
  refine ⟨by rw [ordK_len sA hM, ordK_len sB hM, h.len sA sB], hs, fun j h1 h2 => ?_⟩
  by_cases e : (unfT A).labels = []
  · have e2 := h.nil.1 e
    have o1 : ordK (unfT A) = (unfT A).kids := by unfold ordK; rw [if_pos e]
    have o2 : ordK (unfT B) = (unfT B).kids := by unfold ordK; rw [if_pos e2]
    exact .inl ⟨e, j, by simp only [o1] at h1 ⊢; exact List.getElem?_eq_getElem h1, by simp only [o2] at h2 ⊢; exact List.getElem?_eq_getElem h2⟩
  · have e2 : (unfT B).labels ≠ [] := fun c => e (h.nil.2 c)
    have o1 : ordK (unfT A) = (srt (unfT A).labels).map (kidAt (unfT A)) := by unfold ordK; rw [if_neg e]
    have o2 : ordK (unfT B) = (srt (unfT A).labels).map (kidAt (unfT B)) := by unfold ordK; rw [if_neg e2, hs]
    have hj : j < (srt (unfT A).labels).length := by simp only [o1, List.length_map] at h1; exact h1
    have hm : (srt (unfT A).labels)[j] ∈ (unfT A).labels := ((srt_spec sA.nd (by omega)).2.1 _).1 (List.getElem_mem hj)
    obtain ⟨p, p1, p2⟩ := kidAt_ex sA hm
    obtain ⟨q, q1, q2⟩ := kidAt_ex sB ((h.2.2 _).1 hm)
    have g1 : (ordK (unfT A))[j] = kidAt (unfT A) (srt (unfT A).labels)[j] := by simp only [o1, List.getElem_map]
    have g2 : (ordK (unfT B))[j] = kidAt (unfT B) (srt (unfT A).labels)[j] := by simp only [o2, List.getElem_map]
    rw [g1, g2]
    exact .inr ⟨e, _, p, q, p1, q1, p2, q2⟩
theorem nmT_eqP {L : List Ty} {M : Nat} (hM : M ≤ 549755813888) : ∀ (m : Nat) (pa pb : List Ty) (A B : Ty), CL L M A → CL L M B → POk L M pa → POk L M pb → pa.length = pb.length → Al pa pb → EqP (A, B) → L.length < pa.length + m → nmT m pa A = nmT m pb B := by
  intro m
  induction m with
  | zero => intro pa pb A B _ _ hpa _ _ _ _ hm; have := hpa.len; omega
  | succ m ih =>
    intro pa pb A B cA cB hpa hpb hl hal h hm
    obtain ⟨hloc, hst⟩ := h.step
    simp only at hloc hst
    have sA := cA.unf.2.1
    have hu := eqP_u cA cB h
    by_cases h3 : (unfT A).kind ≤ 3
    · rw [nmT_lit h3, nmT_lit (by rw [← hloc.1]; exact h3), hloc.1]
    have h3b : ¬ (unfT B).kind ≤ 3 := by rw [← hloc.1]; exact h3
    have hact : act (unfT A).kind = true := by
      have := sA.k1
      simp only [act, decide_eq_true_eq]; omega
    have hh : ∀ q (h1 : q < pa.length) (h2 : q < pb.length), (Hit pa[q] (unfT A) ↔ Hit pb[q] (unfT B)) ∧ off pa[q] (unfT A) = off pb[q] (unfT B) := fun q h1 h2 => by
      have m1 := List.getElem_mem h1
      have m2 := List.getElem_mem h2
      obtain ⟨g1, g2⟩ := hit_eq (hpa.cl _ m1) (hpb.cl _ m2) cA.unfC cB.unfC (hpa.ac _ m1) (hpa.un _ m1) (hpb.un _ m2) cA.uu cB.uu (hal q h1 h2) hu
      obtain ⟨g3, _⟩ := hit_eq (hpb.cl _ m2) (hpa.cl _ m1) cB.unfC cA.unfC (hpb.ac _ m2) (hpb.un _ m2) (hpa.un _ m1) cB.uu cA.uu (eqP_symm (hal q h1 h2)) (eqP_symm hu)
      exact ⟨⟨g1, g3⟩, g2⟩
    cases hf : fnd pa (unfT A) with
    | some j =>
      obtain ⟨hj, g1, g2⟩ := fnd_some hf
      have hf' : fnd pb (unfT B) = some j := fnd_of (by omega) ((hh j hj (by omega)).1.1 g1) fun q hq c => g2 q hq ((hh q (by omega) (by omega)).1.2 c)
      rw [nmT_var h3 hf hj, nmT_var h3b hf' (by omega), (hh j hj (by omega)).2]
    | none =>
      have g := fnd_none hf
      have hf' : fnd pb (unfT B) = none := fnd_of_none fun q hq c => g q (by omega) ((hh q (by omega) hq).1.2 c)
      obtain ⟨k1, k2, k3⟩ := kid_pair hM cA cB hloc
      rw [nmT_node h3 hf, nmT_node h3b hf', hl]
      congr 1
      unfold nodeT
      rw [hloc.1, hloc.2.1, k2]
      congr 1
      have hpa2 := hpa.snoc cA hact hf
      have hpb2 := hpb.snoc cB (by rw [← hloc.1]; exact hact) hf'
      refine List.ext_getElem (by simpa using k1) fun q q1 q2 => ?_
      rw [List.getElem_map, List.getElem_map]
      have q1 : q < (ordK (unfT A)).length := by simpa using q1
      have q2 : q < (ordK (unfT B)).length := by simpa using q2
      have hr := k3 q q1 q2
      have hc := hr.cl cA.unf.2.2 cB.unf.2.2
      exact ih _ _ _ _ hc.1 hc.2 hpa2 hpb2 (by simp [hl]) (hal.snoc hl hu) (hst _ hr) (by simp; omega)
end Go.Proofs.YtopinhoalbgebaaGreatDoor.Tx
