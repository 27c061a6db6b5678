/- Contracts (Wk127, Wk128, Wk129). -/
import Derived.Test.YtopinhoalbgebaaGreatDoorWk126
import Derived.Test.YtopinhoalbgebaaGreatDoorWk33
set_option linter.all false
/- The reference's equality (2): what compare computes. -/
namespace Go.Proofs.YtopinhoalbgebaaGreatDoor.Tx
open Go.Lf Go.Lf.S Go.Lf.Duo
set_option maxRecDepth 100000

def ELoc (x y : Ty) : Prop := x.kind = y.kind ∧ x.prio = y.prio ∧ ∀ s, s ∈ x.labels ↔ s ∈ y.labels
def ERaw (x y : Ty) (w : Ty × Ty) : Prop := (x.labels = [] ∧ ∃ j : Nat, x.kids[j]? = some w.1 ∧ y.kids[j]? = some w.2) ∨ (x.labels ≠ [] ∧ ∃ s, LRaw x y s w)
/-- equal as trees -/
def EqP (p : Ty × Ty) : Prop := ∃ R : Ty × Ty → Prop, R p ∧ ∀ q, R q → ELoc (unfT q.1) (unfT q.2) ∧ ∀ w, ERaw (unfT q.1) (unfT q.2) w → R w
theorem EqP.step {p : Ty × Ty} (h : EqP p) : ELoc (unfT p.1) (unfT p.2) ∧ ∀ w, ERaw (unfT p.1) (unfT p.2) w → EqP w := by
  obtain ⟨R, h1, h2⟩ := h
  obtain ⟨h3, h4⟩ := h2 p h1
  exact ⟨h3, fun w hw => ⟨R, h4 w hw, h2⟩⟩

theorem ERaw.cl {L : List Ty} {M : Nat} {x y : Ty} (hx : ∀ k ∈ x.kids, CL L M k) (hy : ∀ k ∈ y.kids, CL L M k) {r : Ty × Ty} (h : ERaw x y r) : CL L M r.1 ∧ CL L M r.2 := by
  rcases h with ⟨_, j, e1, e2⟩ | ⟨_, s, i, j, _, _, e1, e2⟩
  · exact ⟨hx _ (List.mem_of_getElem? e1), hy _ (List.mem_of_getElem? e2)⟩
  · exact ⟨hx _ (List.mem_of_getElem? e1), hy _ (List.mem_of_getElem? e2)⟩

noncomputable def lx (p : Ty × Ty) : Ty × Ty := lw (unfT p.1, unfT p.2)
noncomputable def nu (a : Ty) : Ty := raiseT (-pz (unfT a)) (unfT a)
noncomputable def U10 (L : List Ty) : List (Ty × Ty) := L.flatMap fun a => L.map fun b => (nu a, nu b)
theorem len_U10 (L : List Ty) : (U10 L).length ≤ L.length * L.length := flat_le fun a _ => by simp

theorem raise_lit2 {M : Nat} {u : Ty} (h : Shp M u) (ha : act u.kind = false) (k : Int) : raiseT k u = u := by
  have h1 := h.k1
  simp only [act, decide_eq_false_iff_not] at ha
  have h3 := h.k3 (by omega)
  obtain ⟨kd, p, nm, s, ls, ks⟩ := u
  simp only [Ty.kind, Ty.kids] at h1 ha h3
  rw [raiseT_mk, if_neg ha, h3.1]; rfl
theorem unf_unf {T : Ty} (h : ∃ u, Unf T u) : unfT (unfT T) = unfT T := by
  obtain ⟨u, h⟩ := h
  rw [unfT_eq h, unfT_eq (unf_self h)]

theorem lx_nu {L : List Ty} {M : Nat} {a b : Ty} (ca : CL L M a) (cb : CL L M b) (σ τ : Int) (h : ELoc (unfT (raiseT σ a)) (unfT (raiseT τ b))) : lx (raiseT σ a, raiseT τ b) = (nu a, nu b) := by
  have ua : ∃ u, Unf a u := ⟨_, ca.unf.1⟩
  have ub : ∃ u, Unf b u := ⟨_, cb.unf.1⟩
  have sa := ca.unf.2.1
  have sb := cb.unf.2.1
  have uua : ∃ u, Unf (unfT a) u := ⟨_, unf_self ca.unf.1⟩
  rw [unfT_raise _ ua, unfT_raise _ ub] at h
  obtain ⟨h1, h2, _⟩ := h
  rw [raise_kind, raise_kind] at h1
  simp only [lx, lw, unfT_raise _ ua, unfT_raise _ ub, unfT_raise _ uua, unf_unf ua]
  unfold nu
  by_cases ha : act (unfT a).kind = true
  · have hb : act (unfT b).kind = true := by rw [← h1]; exact ha
    rw [raise_prio _ _ ha, raise_prio _ _ hb] at h2
    rw [pz_act ha, pz_act hb, pz_act (by rw [raise_kind]; exact ha), raise_prio _ _ ha, raise_raise, raise_raise]
    refine Prod.ext (raise_congr ?_ _) (raise_congr ?_ _)
    · rw [wrap_eq]
      have := wrap_mod ((unfT a).prio + σ)
      unfold ad; omega
    · rw [wrap_eq]
      unfold ad at h2 ⊢
      have g1 := wrap_mod ((unfT a).prio + σ)
      have g2 := wrap_mod ((unfT b).prio + τ)
      omega
  · have ha : act (unfT a).kind = false := by simpa using ha
    have hb : act (unfT b).kind = false := by rw [← h1]; exact ha
    simp only [raise_lit2 sa ha, raise_lit2 sb hb]
theorem lx_in {L : List Ty} {M : Nat} {A B : Ty} (hA : CL L M A) (hB : CL L M B) (h : ELoc (unfT A) (unfT B)) : lx (A, B) ∈ U10 L := by
  obtain ⟨σ, a, la, rfl, ca⟩ := hA.base
  obtain ⟨τ, b, lb, rfl, cb⟩ := hB.base
  rw [lx_nu ca cb σ τ h]
  exact List.mem_flatMap.2 ⟨a, la, List.mem_map.2 ⟨b, lb, rfl⟩⟩
theorem ELoc.raise {x y : Ty} (h : ELoc x y) (k : Int) : ELoc (raiseT k x) (raiseT k y) := by
  obtain ⟨h1, h2, h3⟩ := h
  refine ⟨by rw [raise_kind, raise_kind]; exact h1, ?_, by rw [raise_labels, raise_labels]; exact h3⟩
  by_cases ha : act x.kind = true
  · rw [raise_prio _ _ ha, raise_prio _ _ (by rw [← h1]; exact ha), h2]
  · have e : ∀ t : Ty, act t.kind = false → (raiseT k t).prio = t.prio := fun t ht => by
      obtain ⟨kd, p, nm, s, ls, ks⟩ := t
      have ht : decide (4 ≤ kd ∧ kd ≤ 7) = false := ht
      rw [raiseT_mk, if_neg (of_decide_eq_false ht)]; rfl
    have ha : act x.kind = false := by simpa using ha
    rw [e x ha, e y (by rw [← h1]; exact ha)]; exact h2

def Don (l : List (Ty × Ty)) (p : Ty × Ty) : Prop := ELoc (unfT p.1) (unfT p.2) ∧ lx p ∈ l
def ClP (L : List Ty) (M : Nat) (l : List (Ty × Ty)) (q : Ty × Ty) : Prop := ∃ A B, CL L M A ∧ CL L M B ∧ q = lx (A, B) ∧ ∀ w, ERaw (unfT A) (unfT B) w → Don l w
theorem Don.mono {l l' : List (Ty × Ty)} (h : ∀ q ∈ l, q ∈ l') {p : Ty × Ty} (hd : Don l p) : Don l' p := ⟨hd.1, h _ hd.2⟩
theorem ClP.mono {L : List Ty} {M : Nat} {l l' : List (Ty × Ty)} (h : ∀ q ∈ l, q ∈ l') {p : Ty × Ty} (hd : ClP L M l p) : ClP L M l' p := by
  obtain ⟨A, B, h1, h2, h3, h4⟩ := hd
  exact ⟨A, B, h1, h2, h3, fun w hw => (h4 w hw).mono h⟩

theorem Don.raise {L : List Ty} {M : Nat} {l : List (Ty × Ty)} {A B : Ty} (hA : CL L M A) (hB : CL L M B) (k : Int) (h : Don l (A, B)) : Don l (raiseT k A, raiseT k B) := by
  obtain ⟨h1, h2⟩ := h
  have uA : ∃ u, Unf A u := ⟨_, hA.unf.1⟩
  have uB : ∃ u, Unf B u := ⟨_, hB.unf.1⟩
  have e : ELoc (unfT (raiseT k A)) (unfT (raiseT k B)) := by rw [unfT_raise k uA, unfT_raise k uB]; exact h1.raise k
  refine ⟨e, ?_⟩
  obtain ⟨σ, a, la, rfl, ca⟩ := hA.base
  obtain ⟨τ, b, lb, rfl, cb⟩ := hB.base
  rw [lx_nu ca cb σ τ h1] at h2
  rw [raise_raise, raise_raise] at e ⊢
  rw [lx_nu ca cb _ _ e]; exact h2

/-- a closed list is an equality -/
theorem eqP_of {L : List Ty} {M : Nat} {l : List (Ty × Ty)} (hc : ∀ q ∈ l, ClP L M l q) {A B : Ty} (hA : CL L M A) (hB : CL L M B) (h : Don l (A, B)) : EqP (A, B) := by
  refine ⟨fun q => CL L M q.1 ∧ CL L M q.2 ∧ Don l q, ⟨hA, hB, h⟩, ?_⟩
  clear h hA hB
  rintro ⟨A, B⟩ ⟨hA, hB, h⟩
  refine ⟨h.1, fun w hw => ?_⟩
  have hcl := hw.cl hA.unf.2.2 hB.unf.2.2
  refine ⟨hcl.1, hcl.2, ?_⟩
  obtain ⟨A', B', cA, cB, he, hin⟩ := hc _ h.2
  obtain ⟨δ, e1, e2⟩ : ∃ δ, unfT A = raiseT δ (unfT A') ∧ unfT B = raiseT δ (unfT B') := by
    simp only [lx, lw, Prod.mk.injEq] at he
    obtain ⟨g1, g2⟩ := he
    generalize -pz (unfT (unfT A)) = e1 at *
    generalize -pz (unfT (unfT A')) = e2 at *
    refine ⟨e2 + -e1, ?_, ?_⟩
    · have := congrArg (raiseT (-e1)) g1
      rw [raise_raise, raise_raise, show e1 + -e1 = 0 by omega, (unf_done hA.unf.1).2] at this
      exact this
    · have := congrArg (raiseT (-e1)) g2
      rw [raise_raise, raise_raise, show e1 + -e1 = 0 by omega, (unf_done hB.unf.1).2] at this
      exact this
  rw [show unfT (A, B).1 = raiseT δ (unfT A') from e1, show unfT (A, B).2 = raiseT δ (unfT B') from e2] at hw
  have : ∃ w', ERaw (unfT A') (unfT B') w' ∧ w = (raiseT δ w'.1, raiseT δ w'.2) := by
    rcases hw with ⟨g0, j, g1, g2⟩ | ⟨g0, s, i, j, f1, f2, g1, g2⟩
    · rw [raise_labels] at g0
      rw [raise_kids, List.getElem?_map, Option.map_eq_some_iff] at g1 g2
      obtain ⟨u, hu, e3⟩ := g1
      obtain ⟨v, hv, e4⟩ := g2
      exact ⟨(u, v), .inl ⟨g0, j, hu, hv⟩, Prod.ext e3.symm e4.symm⟩
    · rw [raise_labels] at g0 f1 f2
      rw [raise_kids, List.getElem?_map, Option.map_eq_some_iff] at g1 g2
      obtain ⟨u, hu, e3⟩ := g1
      obtain ⟨v, hv, e4⟩ := g2
      exact ⟨(u, v), .inr ⟨g0, s, i, j, f1, f2, hu, hv⟩, Prod.ext e3.symm e4.symm⟩
  obtain ⟨w', hw', rfl⟩ := this
  have hcl' := hw'.cl cA.unf.2.2 cB.unf.2.2
  exact (hin w' hw').raise hcl'.1 hcl'.2 δ

structure CInv (L : List Ty) (l : List (Ty × Ty)) : Prop where
  nd : l.Nodup
  u : ∀ q ∈ l, q ∈ U10 L
  ln : ∀ q ∈ l, Ln q.1 ∧ Ln q.2

theorem ok_compare {L : List Ty} {M : Nat} (hM : M ≤ 1000) (hL : L.length ≤ 1000) : ∀ (n : Nat) (A B : Ty) (l : List (Ty × Ty)), CL L M A → CL L M B → CInv L l → (U10 L).length ≤ n + l.length →
    ∃ r l', OkS P F.ref10_compare sg_ref10_compare [A.enc, B.enc, .sl (l.map pe)] [.bool r, .sl (l'.map pe)] ∧ CInv L l' ∧ (∀ q ∈ l, q ∈ l') ∧ (r = false → ¬ EqP (A, B)) ∧ (r = true → Don l' (A, B) ∧ ∀ q ∈ l', q ∉ l → ClP L M l' q) := by
  have hU : (U10 L).length ≤ 1000000 := by
    have h1 := len_U10 L
    have h2 : L.length * L.length ≤ 1000 * 1000 := Nat.mul_le_mul hL hL
    omega
  intro n
  induction n using Nat.strongRecOn with
  | _ n ih =>
  intro A B l hA hB hI hn
  obtain ⟨hx, sx, kx⟩ := hA.unf
  obtain ⟨hy, sy, ky⟩ := hB.unf
  have hU1 := ok_ref02_Unfold hx (hA.ln (by omega))
  have hU2 := ok_ref02_Unfold hy (hB.ln (by omega))
  have hlU := nodup_leU hI.nd hI.u
  have lnx := sx.lm.ln (show M ≤ 549755813888 by omega)
  have lny := sy.lm.ln (show M ≤ 549755813888 by omega)
  have mx : (unfT A).labels.length ≤ M ∧ (unfT A).kids.length ≤ M := by cases sx.lm with | mk _ h h' _ => exact ⟨h, h'⟩
  have my : (unfT B).labels.length ≤ M ∧ (unfT B).kids.length ≤ M := by cases sy.lm with | mk _ h h' _ => exact ⟨h, h'⟩
  have hxx := unf_self hx
  have hyy := unf_self hy
  obtain ⟨o1, os1, ol1, sh1, st1⟩ := ok_Sorted (unfT A).labels (by omega)
  obtain ⟨o2, os2, ol2, sh2, st2⟩ := ok_Sorted (unfT B).labels (by omega)
  have hT := ok_texts3 o1 o2 (by omega)
  have hseq := sorted_eq sx.nd sy.nd sh1 st1 sh2 st2
  have hlow : Ok P F.ref10_Lower [(unfT A).enc, (unfT B).enc] (pe (lx (A, B))) := ok_Lower hxx lnx lny
  have hseen := ok_Seen l (lx (A, B)) (by omega) hI.ln
  have lnp : Ln (lx (A, B)).1 ∧ Ln (lx (A, B)).2 := ⟨lnx.raise, lny.raise⟩
  have hin := lx_in hA hB
  have nloc : ¬ ELoc (unfT A) (unfT B) → ¬ EqP (A, B) := fun h he => h he.step.1
  have := tx_exS m_ref10_compare (K := fun ys => ∃ r l', CInv L l' ∧ (∀ q ∈ l, q ∈ l') ∧ (r = false → ¬ EqP (A, B)) ∧ (r = true → Don l' (A, B) ∧ ∀ q ∈ l', q ∉ l → ClP L M l' q) ∧ ys = [.bool r, .sl (l'.map pe)])
    (xs := [A.enc, B.enc, .sl (l.map pe)]) (by simp [u_ref10_compare, T.dt]) (by
    have lbY : (unfT B).kids.length = (unfT B).labels.length → ∀ s, _ := fun hk => ok_Label hyy lny (by omega) hk
    have hx5 := sx.k5; have hy5 := sy.k5; have hx7 := sx.k7; have hy7 := sy.k7; have hx3 := sx.k3; have hy3 := sy.k3; have hk1 := sx.k1
    have hxn := sx.nd; have hyn := sy.nd
    have hDon : ELoc (unfT A) (unfT B) → ∀ l', lx (A, B) ∈ l' → Don l' (A, B) := fun h l' hm => ⟨h, hm⟩
    have hCl : ∀ l', (∀ w, ERaw (unfT A) (unfT B) w → Don l' w) → ClP L M l' (lx (A, B)) := fun l' h => ⟨A, B, hA, hB, rfl, h⟩
    have hstp : ∀ w, ERaw (unfT A) (unfT B) w → ¬ EqP w → ¬ EqP (A, B) := fun w hw hn he => hn (he.step.2 w hw)
    clear hxx hyy sx sy st1 st2 sh1 sh2
    generalize hp : lx (A, B) = p at *
    generalize unfT A = x at *
    generalize unfT B = y at *
    obtain ⟨kd, pr, nm, s, ls, ks⟩ := x
    obtain ⟨kd', pr', nm', s', ls', ks'⟩ := y
    rw [Ty.enc_mk] at hU1 hU2 lbY
    rw [Ty.enc_mk, Ty.enc_mk] at hlow
    simp only [Ty.kind, Ty.prio, Ty.labels, Ty.kids] at *
    have keep : ¬ ELoc (.mk kd pr nm s ls ks) (.mk kd' pr' nm' s' ls' ks') → ∃ ys, PV.tup [.bool false, .sl (l.map pe)] = .tup ys ∧ ∃ r l', CInv L l' ∧ (∀ q ∈ l, q ∈ l') ∧ (r = false → ¬ EqP (A, B)) ∧ (r = true → Don l' (A, B) ∧ ∀ q ∈ l', q ∉ l → ClP L M l' q) ∧ ys = [.bool r, .sl (l'.map pe)] :=
      fun h => ⟨_, rfl, false, l, hI, fun _ h => h, fun _ => nloc h, (fun h => by cases h), rfl⟩
    refine d_l _ (e_okc (Ty.okc_enc A)) fun _ => d_l _ (e_okc (Ty.okc_enc B)) fun _ => d_call hU1 (d_l (.agg [i kd, i pr, .str nm, i s, .sl (ls.map .str), .sl (ks.map Ty.enc)]) rfl fun _ => d_call hU2 (d_l (.agg [i kd', i pr', .str nm', i s', .sl (ls'.map .str), .sl (ks'.map Ty.enc)]) rfl fun _ => ?_))
    refine d_l (.bool (!decide (kd = kd'))) rfl fun _ => d_ndec (fun h => d_ret (keep fun hc => h hc.1)) fun ek => d_l (.bool (!decide (pr = pr'))) rfl fun _ => d_ndec (fun h => d_ret (keep fun hc => h hc.2.1)) fun ep => ?_
    refine d_call os1 (d_call os2 (d_call hT (d_l (.bool (!dq (o1 = o2))) rfl fun _ => d_ite (fun h => d_ret (keep fun hc => ?_)) fun h => ?_)))
    · rw [dq_t (hseq.2 hc.2.2)] at h; cases h
    have hlab := hseq.1 (dq_iff.1 (by simpa using h))
    have hloc : ELoc (.mk kd pr nm s ls ks) (.mk kd' pr' nm' s' ls' ks') := ⟨ek, ep, hlab⟩
    have hin := hin hloc
    refine d_call hlow (d_l _ (e_okc (pe_okc p)) fun _ => d_call hseen (d_ite (fun hs => d_ret ⟨_, rfl, true, l, hI, fun _ h => h, (fun h => by cases h), fun _ => ⟨hDon hloc l (dq_iff.1 hs), fun q h1 h2 => absurd h1 h2⟩, rfl⟩) fun hs => ?_))
    have hno : p ∉ l := fun hm => by rw [dq_t hm] at hs; cases hs
    have hI2 : CInv L (l ++ [p]) := by
      refine ⟨?_, fun q hq => ?_, fun q hq => ?_⟩
      · rw [List.nodup_append]
        exact ⟨hI.nd, by simp, fun a ha b hb e => by simp at hb; subst hb; subst e; exact hno ha⟩
      · rcases List.mem_append.1 hq with h | h
        · exact hI.u q h
        · obtain rfl := List.mem_singleton.1 h; exact hin
      · rcases List.mem_append.1 hq with h | h
        · exact hI.ln q h
        · obtain rfl := List.mem_singleton.1 h; exact lnp
    have hlU2 := nodup_leU hI2.nd hI2.u
    rw [List.length_append, List.length_singleton] at hlU2
    refine d_l (.sl [pe p]) (e_lst fun x hx => by simp at hx; subst hx; exact pe_okc _) fun _ => d_l (.sl (l.map pe ++ [pe p])) (e_app (l := l.map pe) (m := [pe p]) (fun x hx => by simp at hx; subst hx; exact pe_okc _) (by simp; omega) (by simp; omega)) fun _ => ?_
    have hkk : ks.length = ks'.length ∧ (ls ≠ [] → ks.length = ls.length ∧ ks'.length = ls'.length) := by
      have hle : ls.length = ls'.length := by
        have a := nodup_leU hxn fun s h => (hlab s).1 h
        have b := nodup_leU hyn fun s h => (hlab s).2 h
        omega
      by_cases c3 : kd ≤ 3
      · have a := hx3 c3
        have b := hy3 (by omega)
        exact ⟨by rw [a.1, b.1], fun h => absurd a.2.1 h⟩
      · by_cases c5 : kd ≤ 5
        · have a := hx5 ⟨by omega, c5⟩
          have b := hy5 ⟨by omega, by omega⟩
          exact ⟨by omega, fun h => absurd a.2 h⟩
        · have a := hx7 ⟨by omega, hk1.2⟩
          have b := hy7 ⟨by omega, by omega⟩
          exact ⟨by omega, fun _ => ⟨a, b⟩⟩
    refine den_loop (fun m' ys => ∃ (j : Nat) (l2 : List (Ty × Ty)), j + m' = ks.length ∧ CInv L l2 ∧ (∀ q ∈ l ++ [p], q ∈ l2) ∧ (∀ q ∈ l2, q ∉ l → q = p ∨ ClP L M l2 q) ∧
      (∀ (a : Nat) u v, a < j → ks[a]? = some u → (ls = [] → ks'[a]? = some v → Don l2 (u, v)) ∧ (ls ≠ [] → ∀ (t : ByteArray) (b : Nat), ls[a]? = some t → ls'[b]? = some t → ks'[b]? = some v → Don l2 (u, v))) ∧ ys = [i j, .sl (l2.map pe)]) ks.length
      ⟨0, l ++ [p], by omega, hI2, fun _ h => h, (fun q hq hq2 => .inl (by rcases List.mem_append.1 hq with h | h; exact absurd h hq2; exact List.mem_singleton.1 h)), (fun a u v h => by omega), by rw [List.map_append]; rfl⟩ ?_
    rintro m' _ ⟨j, l2, hj, hJ, hsub, hnew, hdone, rfl⟩
    refine d_l _ (len_ty ks) fun _ => d_l (.bool (decide ((j : Int) < (ks.length : Int)))) rfl fun _ => d_dec (p := (j : Int) < (ks.length : Int)) (fun h => ?_) fun h => d_ret ⟨_, rfl, true, l2, hJ, fun q hq => hsub q (List.mem_append_left _ hq), (fun h => by cases h), fun _ => ⟨hDon hloc l2 (hsub p (by simp)), fun q h1 h2 => ?_⟩, rfl⟩
    · have hjk : j < ks.length := by omega
      have hjk' : j < ks'.length := by omega
      have hku : ks[j]? = some ks[j] := List.getElem?_eq_getElem hjk
      have hkv : ks'[j]? = some ks'[j] := List.getElem?_eq_getElem hjk'
      have cu : CL L M ks[j] := kx _ (List.getElem_mem hjk)
      have hl2 : l.length + 1 ≤ l2.length := by
        have := nodup_leU hI2.nd hsub
        simpa using this
      -- a child
      have child : ∀ (v : Ty), CL L M v → ERaw (.mk kd pr nm s ls ks) (.mk kd' pr' nm' s' ls' ks') (ks[j], v) → (∀ w, (ls = [] → ks'[j]? = some w → w = v) ∧ (ls ≠ [] → ∀ (t : ByteArray) (b : Nat), ls[j]? = some t → ls'[b]? = some t → ks'[b]? = some w → w = v)) →
          ∃ r l3, OkS P F.ref10_compare sg_ref10_compare [ks[j].enc, v.enc, .sl (l2.map pe)] [.bool r, .sl (l3.map pe)] ∧ (r = false → CInv L l3 ∧ (∀ q ∈ l, q ∈ l3) ∧ ¬ EqP (A, B)) ∧
            (r = true → ∃ m'' < m', ∃ (j' : Nat) (l2' : List (Ty × Ty)), j' + m'' = ks.length ∧ CInv L l2' ∧ (∀ q ∈ l ++ [p], q ∈ l2') ∧ (∀ q ∈ l2', q ∉ l → q = p ∨ ClP L M l2' q) ∧
              (∀ (a : Nat) u v, a < j' → ks[a]? = some u → (ls = [] → ks'[a]? = some v → Don l2' (u, v)) ∧ (ls ≠ [] → ∀ (t : ByteArray) (b : Nat), ls[a]? = some t → ls'[b]? = some t → ks'[b]? = some v → Don l2' (u, v))) ∧ [i ((j + 1 : Nat) : Int), .sl (l3.map pe)] = [i j', .sl (l2'.map pe)]) := by
        intro v cv hraw huniq
        obtain ⟨r, l3, hok, hI3, hs3, hf3, ht3⟩ := ih (n - 1) (by omega) ks[j] v l2 cu cv hJ (by omega)
        refine ⟨r, l3, hok, fun hr => ⟨hI3, fun q hq => hs3 q (hsub q (List.mem_append_left _ hq)), hstp _ hraw (hf3 hr)⟩, fun hr => ?_⟩
        obtain ⟨hd3, hc3⟩ := ht3 hr
        refine ⟨m' - 1, by omega, j + 1, l3, by omega, hI3, fun q hq => hs3 q (hsub q hq), fun q hq hql => ?_, fun a u w ha hu => ?_, rfl⟩
        · by_cases e : q ∈ l2
          · rcases hnew q e hql with h | h
            · exact .inl h
            · exact .inr (h.mono hs3)
          · exact .inr (hc3 q hq e)
        · by_cases e : a = j
          · subst e
            rw [hku] at hu; cases hu
            refine ⟨fun h1 h2 => ?_, fun h1 t b h2 h3 h4 => ?_⟩
            · rw [(huniq w).1 h1 h2]; exact hd3
            · rw [(huniq w).2 h1 t b h2 h3 h4]; exact hd3
          · obtain ⟨g1, g2⟩ := hdone a u w (by omega) hu
            exact ⟨fun h1 h2 => (g1 h1 h2).mono hs3, fun h1 t b h2 h3 h4 => (g2 h1 t b h2 h3 h4).mono hs3⟩
      refine d_l _ (e_idx (ty_at' hjk) (Ty.okc_enc _)) fun _ => d_l _ (e_okc (Ty.okc_enc _)) fun _ => d_l _ (e_idx (ty_at' hjk') (Ty.okc_enc _)) fun _ => d_l _ (e_okc (Ty.okc_enc _)) fun _ => d_l _ (len_str ls) fun _ => d_l (.bool (decide ((ls.length : Int) > 0))) rfl fun _ => d_dec (p := (ls.length : Int) > 0) (fun hls => ?_) fun hls => ?_
      · have hne : ls ≠ [] := fun e => by rw [e] at hls; simp at hls
        obtain ⟨c1, c2⟩ := hkk.2 hne
        have hjl : j < ls.length := by omega
        have hlt : ls[j]? = some ls[j] := List.getElem?_eq_getElem hjl
        obtain ⟨o, oY, sY, nY⟩ := lbY c2 ls[j]
        refine d_l _ (e_idx (str_at hjl) rfl) fun _ => d_call oY ?_
        cases o with
        | none => exact absurd ((hlab ls[j]).1 (List.getElem_mem hjl)) (nY rfl)
        | some v =>
          obtain ⟨b, hb1, hb2⟩ := sY v rfl
          have cv : CL L M v := ky v (List.mem_of_getElem? hb2)
          obtain ⟨r, l3, hok, hf, ht⟩ := child v cv (.inr ⟨hne, ls[j], j, b, hlt, hb1, hku, hb2⟩) fun w => ⟨fun e => absurd e hne, fun _ t b' h1 h2 h3 => by
            rw [hlt] at h1; cases h1
            obtain rfl := nodup_at hyn hb1 h2
            exact Option.some.inj (h3.symm.trans hb2)⟩
          refine d_l v.enc rfl fun _ => d_l (.bool true) rfl fun _ => d_l _ (e_okc (Ty.okc_enc v)) fun _ => d_calls rfl hok (d_l (.bool !r) rfl fun _ => d_ite (fun hr => d_ret ?_) fun hr => d_l _ (e_inc (by omega)) fun _ => d_cont rfl (ht (by simpa using hr)))
          obtain ⟨g1, g2, g3⟩ := hf (by simpa using hr)
          exact ⟨_, rfl, false, l3, g1, g2, fun _ => g3, (fun h => by cases h), by rw [show r = false by simpa using hr]; rfl⟩
      · have he : ls = [] := List.eq_nil_of_length_eq_zero (by omega)
        have cv : CL L M ks'[j] := ky _ (List.getElem_mem hjk')
        obtain ⟨r, l3, hok, hf, ht⟩ := child ks'[j] cv (.inl ⟨he, j, hku, hkv⟩) fun w => ⟨fun _ h => Option.some.inj (h.symm.trans hkv), fun hc => absurd he hc⟩
        refine d_calls rfl hok (d_l (.bool !r) rfl fun _ => d_ite (fun hr => d_ret ?_) fun hr => d_l _ (e_inc (by omega)) fun _ => d_cont rfl (ht (by simpa using hr)))
        obtain ⟨g1, g2, g3⟩ := hf (by simpa using hr)
        exact ⟨_, rfl, false, l3, g1, g2, fun _ => g3, (fun h => by cases h), by rw [show r = false by simpa using hr]; rfl⟩
    · rcases hnew q h1 h2 with rfl | hq
      · refine hCl l2 fun w hw => ?_
        rcases hw with ⟨g0, a, g1, g2⟩ | ⟨g0, t, a, b, f1, f2, g1, g2⟩
        · have := (List.getElem?_eq_some_iff.1 g1).1
          have : a < ks.length := this
          exact (hdone a w.1 w.2 (by omega) g1).1 g0 g2
        · have := (List.getElem?_eq_some_iff.1 g1).1
          have : a < ks.length := this
          exact (hdone a w.1 w.2 (by omega) g1).2 g0 t b f1 f2 g2
      · exact hq)
  obtain ⟨_, ⟨r, l', h1, h2, h3, h4, rfl⟩, h⟩ := this
  exact ⟨r, l', h, h1, h2, h3, h4⟩

theorem ok_ref10_Equal {L : List Ty} {M : Nat} (hM : M ≤ 1000) (hL : L.length ≤ 1000) {A B : Ty} (hA : CL L M A) (hB : CL L M B) : ∃ r, Ok P F.ref10_Equal [A.enc, B.enc] (.bool r) ∧ (r = true ↔ EqP (A, B)) := by
  obtain ⟨r, l', h, _, _, h1, h2⟩ := ok_compare hM hL (U10 L).length A B [] hA hB ⟨by simp, (fun q h => by cases h), fun q h => by cases h⟩ (by simp)
  refine ⟨r, k_ref10_Equal _ _ rfl (d_l _ (e_okc (Ty.okc_enc A)) fun _ => d_l _ (e_okc (Ty.okc_enc B)) fun _ => d_calls rfl h (d_ret rfl)), fun hr => ?_, fun he => ?_⟩
  · obtain ⟨g1, g2⟩ := h2 hr
    exact eqP_of (fun q hq => g2 q hq (by simp)) hA hB g1
  · cases hr : r with
    | true => rfl
    | false => exact absurd he (h1 hr)
end Go.Proofs.YtopinhoalbgebaaGreatDoor.Tx

/- The reference's equality (3): it is that of the references that stand for the types. The law: offsets. -/
namespace Go.Proofs.YtopinhoalbgebaaGreatDoor.Tx
open Go.Lf Go.Lf.S Go.Lf.Duo
set_option maxRecDepth 100000

structure RtE (ds : List Nd) (a s : Int) (u : Ty) (x : Nd) : Prop where
  a0 : 0 ≤ a
  hx : ds[a.toNat]? = some x
  k : x.kind = u.kind
  p : act x.kind = true → ad x.prio s = u.prio
  l : x.labels = u.labels
  nl : x.next.length = u.kids.length
  dn : ∀ (j : Nat) (v : Rf) k, x.next[j]? = some v → u.kids[j]? = some k → RT ds ⟨v.node, ad v.shift s⟩ k
theorem RT.se {ds : List Nd} {a s : Int} {A : Ty} (h : RT ds ⟨a, s⟩ A) : ∃ x, RtE ds a s (unfT A) x := by
  obtain ⟨h0, u, d, h1, h2, h3, h4, h5, h6, h7⟩ := h.step
  rw [unfT_eq h1]
  exact ⟨d, h0, h2, h3, h4, h5, h6, h7⟩
theorem RtE.prN {ds : List Nd} {a s : Int} {u : Ty} {x : Nd} (h : RtE ds a s u x) : prN x s = pz u := by
  unfold Tx.prN pz
  rw [h.k]
  cases ha : act u.kind with
  | false => rfl
  | true => simp only [if_true]; exact h.p (by rw [h.k]; exact ha)

theorem same_set {l m : List ByteArray} (hl : l.Nodup) (hm : m.Nodup) (h : ∀ s, s ∈ l ↔ s ∈ m) : l.length = m.length := by
  have a := nodup_leU hl fun s hs => (h s).1 hs
  have b := nodup_leU hm fun s hs => (h s).2 hs
  omega
theorem set_same {l m : List ByteArray} (hl : l.Nodup) (hlen : l.length = m.length) (h : ∀ s ∈ l, s ∈ m) (s : ByteArray) : s ∈ l ↔ s ∈ m := by
  refine ⟨h s, fun hs => ?_⟩
  by_cases e : s ∈ l
  · exact e
  · have := nodup_leU (l := s :: l) (U := m) (by rw [List.nodup_cons]; exact ⟨e, hl⟩) fun x hx => by
      rcases List.mem_cons.1 hx with rfl | hx
      · exact hs
      · exact h x hx
    simp only [List.length_cons] at this
    omega

theorem eqP_eqv {L : List Ty} {M : Nat} {ds : List Nd} {a b s t : Int} {A B : Ty} (hA : CL L M A) (hB : CL L M B) (ra : RT ds ⟨a, s⟩ A) (rb : RT ds ⟨b, t⟩ B) : EqP (A, B) ↔ Eqv ds false (keyOf false a b s t) := by
  constructor
  · intro h
    refine eqv_of_pred (fun k => ∃ a b s t A B, RT ds ⟨a, s⟩ A ∧ RT ds ⟨b, t⟩ B ∧ CL L M A ∧ CL L M B ∧ EqP (A, B) ∧ k = keyOf false a b s t) ?_ ?_ ⟨a, b, s, t, A, B, ra, rb, hA, hB, h, rfl⟩
    · rintro k ⟨a, b, s, t, A, B, ra, rb, _, _, _, rfl⟩
      refine ⟨ra.step.1, rb.step.1, ?_⟩
      simp only [keyOf, Bool.false_eq_true, if_false]
      rw [wrap_eq]
      exact wrap_mod _
    · clear h ra rb hA hB
      rintro k ⟨a, b, s, t, A, B, ra, rb, hA, hB, h, rfl⟩
      obtain ⟨x, hx⟩ := ra.se
      obtain ⟨y, hy⟩ := rb.se
      obtain ⟨⟨e1, e2, e3⟩, hst⟩ := h.step
      have sA := hA.unf
      have sB := hB.unf
      simp only at e1 e2 e3 hst
      obtain ⟨hal, hxe⟩ := List.getElem?_eq_some_iff.1 hx.hx
      obtain ⟨hbl, hye⟩ := List.getElem?_eq_some_iff.1 hy.hx
      have ha0 := hx.a0
      have hb0 := hy.a0
      have hke : keyOf false a b s t = keyOf false (a.toNat : Int) (b.toNat : Int) s t := by rw [Int.toNat_of_nonneg ha0, Int.toNat_of_nonneg hb0]
      have hlen := same_set sA.2.1.nd sB.2.1.nd e3
      have hpz : pz (unfT A) = pz (unfT B) := by unfold pz; rw [e1, e2]
      refine ⟨?_, fun j hj => ?_⟩
      · rw [hke, loc_key hal hbl, hxe, hye]
        simp only [hx.k, hy.k, e1, hx.l, hy.l, hlen, hx.prN, hy.prN, hpz, decide_true, Bool.or_true, Bool.and_true]
      · have hj : j < x.next.length := by
          unfold arity at hj
          rw [show ds[(keyOf false a b s t).a.toNat]? = some x from hx.hx] at hj; exact hj
        have hjk : j < (unfT A).kids.length := by have := hx.nl; omega
        have hu := List.getElem?_eq_getElem hj
        have hk := List.getElem?_eq_getElem hjk
        have rt1 := hx.dn j _ _ hu hk
        have fin : ∀ (q : Nat) v k', y.next[q]? = some v → (unfT B).kids[q]? = some k' → Sel x y j q → ERaw (unfT A) (unfT B) ((unfT A).kids[j], k') → ∃ k'', Nx ds false (keyOf false a b s t) j k'' ∧ ∃ a b s t A B, RT ds ⟨a, s⟩ A ∧ RT ds ⟨b, t⟩ B ∧ CL L M A ∧ CL L M B ∧ EqP (A, B) ∧ k'' = keyOf false a b s t := by
          intro q v k' hv hk' hs hraw
          refine ⟨_, ⟨x, y, hx.hx, hy.hx, _, v, q, hu, hv, hs, rfl⟩, _, _, _, _, _, _, rt1, hy.dn q v k' hv hk', sA.2.2 _ (List.mem_of_getElem? hk), sB.2.2 _ (List.mem_of_getElem? hk'), hst _ hraw, ?_⟩
          exact (key_next false x.next[j] v a b s t).symm
        by_cases hl0 : (unfT A).labels = []
        · have hyl : (unfT B).kids.length = (unfT A).kids.length := by
            have k1 := sA.2.1.k1
            have a3 := sA.2.1.k3; have a5 := sA.2.1.k5; have a7 := sA.2.1.k7
            have b5 := sB.2.1.k5; have b7 := sB.2.1.k7
            have z : (unfT A).labels.length = 0 := by rw [hl0]; rfl
            by_cases c3 : (unfT A).kind ≤ 3
            · have := (a3 c3).1; rw [this] at hjk; simp at hjk
            · by_cases c5 : (unfT A).kind ≤ 5
              · have := (a5 ⟨by omega, c5⟩).1
                have := (b5 ⟨by omega, by omega⟩).1
                omega
              · have := a7 ⟨by omega, k1.2⟩
                omega
          have hjb : j < (unfT B).kids.length := by omega
          have hjy : j < y.next.length := by have := hy.nl; omega
          refine fin j _ _ (List.getElem?_eq_getElem hjy) (List.getElem?_eq_getElem hjb) ?_ (.inl ⟨hl0, j, hk, List.getElem?_eq_getElem hjb⟩)
          unfold Sel
          rw [if_neg (by rw [hx.l, hl0]; simp)]
        · have k1 := sA.2.1.k1
          have hk67 : 6 ≤ (unfT A).kind ∧ (unfT A).kind ≤ 7 := by
            refine ⟨?_, k1.2⟩
            by_cases c3 : (unfT A).kind ≤ 3
            · exact absurd (sA.2.1.k3 c3).2.1 hl0
            · by_cases c5 : (unfT A).kind ≤ 5
              · exact absurd (sA.2.1.k5 ⟨by omega, c5⟩).2 hl0
              · omega
          have a7 := sA.2.1.k7 hk67
          have b7 := sB.2.1.k7 (by rw [← e1]; exact hk67)
          have hjl : j < (unfT A).labels.length := by omega
          have hlt := List.getElem?_eq_getElem hjl
          obtain ⟨q, hq, hqs⟩ := List.getElem_of_mem ((e3 _).1 (List.getElem_mem hjl))
          have hq' : (unfT B).labels[q]? = some (unfT A).labels[j] := by rw [List.getElem?_eq_getElem hq, hqs]
          have hqb : q < (unfT B).kids.length := by omega
          have hqy : q < y.next.length := by have := hy.nl; omega
          refine fin q _ _ (List.getElem?_eq_getElem hqy) (List.getElem?_eq_getElem hqb) ?_ (.inr ⟨hl0, _, j, q, hlt, hq', hk, List.getElem?_eq_getElem hqb⟩)
          unfold Sel
          rw [if_pos (by rw [hx.l]; omega)]
          refine ⟨_, by rw [hx.l]; exact hlt, by rw [hy.l]; exact hq', fun p hp hc => ?_⟩
          rw [hy.l] at hc
          have := nodup_at sB.2.1.nd hc hq'
          omega
  · intro h
    refine ⟨fun q => ∃ a b s t, CL L M q.1 ∧ CL L M q.2 ∧ RT ds ⟨a, s⟩ q.1 ∧ RT ds ⟨b, t⟩ q.2 ∧ Eqv ds false (keyOf false a b s t), ⟨a, b, s, t, hA, hB, ra, rb, h⟩, ?_⟩
    clear h ra rb hA hB
    rintro ⟨A, B⟩ ⟨a, b, s, t, hA, hB, ra, rb, K, hK, hk⟩
    simp only at hA hB ra rb
    obtain ⟨x, hx⟩ := ra.se
    obtain ⟨y, hy⟩ := rb.se
    have sA := hA.unf
    have sB := hB.unf
    obtain ⟨hal, hxe⟩ := List.getElem?_eq_some_iff.1 hx.hx
    obtain ⟨hbl, hye⟩ := List.getElem?_eq_some_iff.1 hy.hx
    have ha0 := hx.a0
    have hb0 := hy.a0
    obtain ⟨hloc, hnx⟩ := hK _ hk
    have hke : keyOf false a b s t = keyOf false (a.toNat : Int) (b.toNat : Int) s t := by rw [Int.toNat_of_nonneg ha0, Int.toNat_of_nonneg hb0]
    rw [hke, loc_key hal hbl, hxe, hye, hx.prN, hy.prN, hx.k, hy.k, hx.l, hy.l] at hloc
    simp only [Bool.false_or, Bool.and_eq_true, decide_eq_true_eq] at hloc
    obtain ⟨⟨e1, elen⟩, epz⟩ := hloc
    have har : arity ds (keyOf false a b s t) = (unfT A).kids.length := by
      unfold arity
      rw [show ds[(keyOf false a b s t).a.toNat]? = some x from hx.hx, ← hx.nl]
    rw [har] at hnx
    -- what a rest gives
    have nx : ∀ j, j < (unfT A).kids.length → ∃ (q : Nat) (u v : Rf), x.next[j]? = some u ∧ y.next[q]? = some v ∧ Sel x y j q ∧ Eqv ds false (keyOf false u.node v.node (ad u.shift s) (ad v.shift t)) := fun j hj => by
      obtain ⟨k', ⟨x', y', g1, g2, u, v, q, g3, g4, g5, rfl⟩, hm⟩ := hnx j hj
      have g1 : ds[a.toNat]? = some x' := g1
      have g2 : ds[b.toNat]? = some y' := g2
      rw [hx.hx] at g1; cases g1
      rw [hy.hx] at g2; cases g2
      exact ⟨q, u, v, g3, g4, g5, K, hK, by rw [key_next false u v a b s t]; exact hm⟩
    have hk67 : (unfT A).labels ≠ [] → (unfT A).kids.length = (unfT A).labels.length := fun hl0 => by
      have k1 := sA.2.1.k1
      refine sA.2.1.k7 ⟨?_, k1.2⟩
      by_cases c3 : (unfT A).kind ≤ 3
      · exact absurd (sA.2.1.k3 c3).2.1 hl0
      · by_cases c5 : (unfT A).kind ≤ 5
        · exact absurd (sA.2.1.k5 ⟨by omega, c5⟩).2 hl0
        · omega
    have hset : ∀ st, st ∈ (unfT A).labels ↔ st ∈ (unfT B).labels := set_same sA.2.1.nd elen fun st hst => by
      obtain ⟨j, hj, rfl⟩ := List.getElem_of_mem hst
      have hne : (unfT A).labels ≠ [] := fun e => by have hj' := hj; rw [e] at hj'; simp at hj'
      obtain ⟨q, u, v, g3, g4, g5, _⟩ := nx j (by rw [hk67 hne]; exact hj)
      unfold Sel at g5
      rw [if_pos (by rw [hx.l]; omega)] at g5
      obtain ⟨s', f1, f2, _⟩ := g5
      rw [hx.l, List.getElem?_eq_getElem hj] at f1
      cases f1
      rw [hy.l] at f2
      exact List.mem_of_getElem? f2
    have epr : (unfT A).prio = (unfT B).prio := by
      by_cases ha : act (unfT A).kind = true
      · rw [pz_act ha, pz_act (by rw [← e1]; exact ha)] at epz; exact epz
      · have hk3 : (unfT A).kind ≤ 3 := by
          simp only [act, decide_eq_true_eq] at ha
          have := sA.2.1.k1
          omega
        rw [(sA.2.1.k3 hk3).2.2, (sB.2.1.k3 (by omega)).2.2]
    refine ⟨⟨e1, epr, hset⟩, fun w hw => ?_⟩
    have hcl := hw.cl sA.2.2 sB.2.2
    rcases hw with ⟨g0, j, f1, f2⟩ | ⟨g0, st, i0, j0, f1, f2, f3, f4⟩
    · have g0 : (unfT A).labels = [] := g0
      obtain ⟨q, u, v, g3, g4, g5, g6⟩ := nx j (List.getElem?_eq_some_iff.1 f1).1
      unfold Sel at g5
      rw [if_neg (by rw [hx.l, g0]; simp)] at g5
      subst g5
      exact ⟨_, _, _, _, hcl.1, hcl.2, hx.dn q u _ g3 f1, hy.dn q v _ g4 f2, g6⟩
    · obtain ⟨q, u, v, g3, g4, g5, g6⟩ := nx i0 (List.getElem?_eq_some_iff.1 f3).1
      have hil : i0 < (unfT A).labels.length := (List.getElem?_eq_some_iff.1 f1).1
      unfold Sel at g5
      rw [if_pos (by rw [hx.l]; omega)] at g5
      obtain ⟨s', h1, h2, _⟩ := g5
      rw [hx.l] at h1
      rw [hy.l] at h2
      have f1 : (unfT A).labels[i0]? = some st := f1
      rw [f1] at h1; cases h1
      obtain rfl := nodup_at sB.2.1.nd h2 f2
      exact ⟨_, _, _, _, hcl.1, hcl.2, hx.dn i0 u _ g3 f3, hy.dn q v _ g4 f4, g6⟩

/-! offsets -/
def pv (o : Option Int) : Int := o.getD 0
theorem eqRf {ds : List Nd} (hg : GrOk' ds) {r r' : Rf} (h0 : 0 ≤ r.node) (h1 : r.node < ds.length) (h0' : 0 ≤ r'.node) (h1' : r'.node < ds.length) :
    ∃ b, Ok P F.equal_Equal [.agg [.sl (ds.map Nd.enc)], r.enc, r'.enc] (.bool b) ∧ (b = true ↔ Eqv ds false (keyOf false r.node r'.node r.shift r'.shift)) := by
  have := ok_equal_Equal hg (a := r.node.toNat) (b := r'.node.toNat) (by omega) (by omega) r.shift r'.shift
  rw [Int.toNat_of_nonneg h0, Int.toNat_of_nonneg h0'] at this
  exact this
theorem ok_Offset {ds : List Nd} (hg : GrOk' ds) {r r' : Rf} (h0 : 0 ≤ r.node) (h1 : r.node < ds.length) (h0' : 0 ≤ r'.node) (h1' : r'.node < ds.length) {d : Int} (hd : d = IntKind.i64.wrap (pv (pr ds r') - pv (pr ds r))) :
    ∃ b, Ok P F.equal_Offset [.agg [.sl (ds.map Nd.enc)], r.enc, r'.enc] (.tup [i (if b then d else 0), .bool b]) ∧ (b = true ↔ Eqv ds false (keyOf false r.node r'.node (ad r.shift d) r'.shift)) := by
  have g : ∀ r : Rf, InG ds r → ∃ (z : Int) (b' : Bool), Ok P F.head_Prio [.agg [.sl (ds.map Nd.enc)], r.enc] (.tup [i z, .bool b']) ∧ z = pv (pr ds r) := fun r h => by
    have h := ok_head_Prio' h
    cases e : pr ds r with
    | none => rw [e] at h; exact ⟨0, false, h, rfl⟩
    | some p => rw [e] at h; exact ⟨p, true, h, rfl⟩
  obtain ⟨z1, b1, p1, f1⟩ := g r ⟨h0, h1⟩
  obtain ⟨z2, b2, p2, f2⟩ := g r' ⟨h0', h1'⟩
  have hr : Ok P F.head_Raise [r.enc, i d] (⟨r.node, ad r.shift d⟩ : Rf).enc := ok_head_Raise r.node r.shift d
  obtain ⟨b, ob, cb⟩ := eqRf hg (r := ⟨r.node, ad r.shift d⟩) (r' := r') h0 h1 h0' h1'
  refine ⟨b, ?_, cb⟩
  have hoff : Ok P F.equal_offset [i d, .bool b] (.tup [i (if b then d else 0), .bool b]) := by
    refine k_equal_offset _ _ rfl ?_
    cases b with
    | true => exact d_l (.bool false) rfl fun _ => d_false (d_ret rfl)
    | false => exact d_l (.bool true) rfl fun _ => d_true (d_ret rfl)
  rw [← f1, ← f2] at hd
  have hs : (Prim.arith .sub .i64).ev [i z2, i z1] = some (i d) := by rw [hd]; rfl
  exact k_equal_Offset _ _ rfl (d_l (.agg [.sl (ds.map Nd.enc)]) rfl fun _ => d_l r.enc rfl fun _ => d_l r'.enc rfl fun _ => d_call p1 (d_l (i z1) rfl fun _ => d_l (.bool b1) rfl fun _ => d_call p2 (d_l (i z2) rfl fun _ => d_l (.bool b2) rfl fun _ => d_l _ hs fun _ => d_l _ hs fun _ => d_call hr (d_call ob (d_call hoff (d_l (i (if b then d else 0)) rfl fun _ => d_l (.bool b) rfl fun _ => d_ret rfl))))))

theorem pv_rt {ds : List Nd} {a s : Int} {A : Ty} (h : RT ds ⟨a, s⟩ A) : pv (pr ds ⟨a, s⟩) = pz (unfT A) := by
  obtain ⟨x, hx⟩ := h.se
  rw [← hx.prN]
  unfold pv pr Tx.prN
  rw [show ds[(⟨a, s⟩ : Rf).node.toNat]? = some x from hx.hx]
  simp only
  split <;> rfl
end Go.Proofs.YtopinhoalbgebaaGreatDoor.Tx

/- The law: offsets. -/
namespace Go.Proofs.YtopinhoalbgebaaGreatDoor.Tx
open Go.Lf Go.Lf.S Go.Lf.Duo
set_option maxRecDepth 100000

theorem cl_topE {L : List Ty} {M : Nat} {t : Ty} (h : Wf t [] 0) (hz : t.sz ≤ M) (hL : ∀ x ∈ occL [] [] t, x ∈ L) : CL L M t := by
  have hp : Pl (nodesF t 0 [] []) 0 (nodesF t 0 [] []) := ⟨Int.le_refl _, fun q hq => by
    show (nodesF t 0 [] [])[(0 : Int).toNat + q]? = _
    rw [show (0 : Int).toNat + q = q by simp]
    exact List.getElem?_eq_getElem hq⟩
  have e : lkT [] [] = noE := by funext y; rfl
  exact ⟨_, _, 0, t, 0, [], [], [], 0, .top t 0 h hp hL (Wf.lm t [] 0 _ h hz), rfl, by rw [raise0_sub h, e, sub_id]⟩

end Go.Proofs.YtopinhoalbgebaaGreatDoor.Tx
