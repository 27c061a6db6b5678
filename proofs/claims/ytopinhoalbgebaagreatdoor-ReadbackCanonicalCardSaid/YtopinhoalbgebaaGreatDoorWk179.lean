/- The law: the normal tree of a raised type. -/
import Derived.Test.YtopinhoalbgebaaGreatDoorWk178
set_option linter.all false
namespace Go.Proofs.YtopinhoalbgebaaGreatDoor.Tx
open Go.Lf Go.Lf.S Go.Lf.Duo
set_option maxRecDepth 100000

theorem pok0 {L : List Ty} {M : Nat} : POk L M [] := ⟨(fun p h => by cases h), (fun p h => by cases h), (fun p h => by cases h), List.nodup_nil⟩
/-- the graph of one type, and its reference -/
theorem one_graph {t : Ty} (hw : Wf t [] 0) (hz : t.sz ≤ 1000000) : GrOk' (belowsF [t] 0 [] []) ∧ nextsF [t] 0 [] [] = [⟨0, 0⟩] ∧ RT (belowsF [t] 0 [] []) ⟨0, 0⟩ t := by
  obtain ⟨ds, rs, _, _, hgr, hrl, hrs, hdf, hrf⟩ := built' [t] 1 1000000 (by simp) (by omega) (by
    intro x hx
    obtain rfl := List.mem_singleton.1 hx
    exact ⟨by omega, hw⟩)
  have hpl : Pl ds 0 (belowsF [t] 0 [] []) := ⟨Int.le_refl _, fun k hk => by
    rw [← hdf] at hk
    simp only [← hdf]
    rw [show (0 : Int).toNat + k = k by simp]
    exact List.getElem?_eq_getElem hk⟩
  have hln : ∀ x ∈ [t], ∀ q, (nodesF x q [] []).length = gc x := fun x hx q => len_nodes x [] 0 (by obtain rfl := List.mem_singleton.1 hx; exact hw) q [] []
  have p0 := Pl.kid hpl hln 0 (by simp)
  have q0 := nextsF_at (ks := [t]) (a := 0) (ns := []) (R := []) 0 (by simp)
  obtain ⟨R0, f0⟩ := rt_top (t := t) hw p0
  have hr0 : rs = [⟨0, 0⟩] := by
    rw [← hrf] at q0
    have e : rs = [rs[0]'(by simp at hrl; omega)] := by
      match rs, hrl with
      | [r], _ => rfl
    rw [List.getElem?_eq_getElem (by simp at hrl; omega)] at q0
    rw [e, Option.some.inj q0]
    simpa [gcs] using f0
  rw [← hdf, ← hrf]
  refine ⟨hgr, hr0, ?_⟩
  have : (⟨0, 0⟩ : Rf) = refF t 0 [] [] := by
    rw [← hrf, hr0] at q0
    have := Option.some.inj q0
    simpa [gcs] using this
  rw [this]
  simpa [gcs] using R0
theorem ok_Canonical {L : List Ty} {M : Nat} (hM : M ≤ 1000) (hL : L.length ≤ 99) {m : Nat} (hm : L.length ≤ m) {t : Ty} (hw : Wf t [] 0) (hz : t.sz ≤ 1000000) (hT : CL L M t) : Ok P F.readback_Canonical [t.enc] (nmT (m + 1) [] t).enc := by
  obtain ⟨g1, g2, g3⟩ := one_graph hw hz
  have hB := ok_graph_Build [t] (fun x hx => by obtain rfl := List.mem_singleton.1 hx; exact hw) (by simp [Ty.szs]; omega)
  rw [g2] at hB
  have hN := ok_Normal g1 hM hL hm hT g3
  refine k_readback_Canonical _ _ rfl (d_l _ (e_okc (Ty.okc_enc t)) fun _ => d_l (.sl ([t].map Ty.enc)) (e_lst fun x hx => by simp at hx; subst hx; exact Ty.okc_enc _) fun _ => d_call hB (d_l (.agg [.sl ((belowsF [t] 0 [] []).map Nd.enc)]) rfl fun _ => d_l (.sl [(⟨0, 0⟩ : Rf).enc]) rfl fun _ => d_l (.agg [.sl ((belowsF [t] 0 [] []).map Nd.enc)]) rfl fun _ => d_l (⟨0, 0⟩ : Rf).enc rfl fun _ => d_call hN (d_l _ (e_okc (Ty.okc_enc _)) fun _ => d_ret rfl)))

/-! raising -/
end Go.Proofs.YtopinhoalbgebaaGreatDoor.Tx
