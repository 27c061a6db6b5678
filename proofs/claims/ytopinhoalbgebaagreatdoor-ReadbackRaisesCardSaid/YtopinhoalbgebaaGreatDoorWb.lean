/- Contracts: the graphs of a short list of small types (no dual). -/
import Derived.Test.YtopinhoalbgebaaGreatDoorWk7
set_option linter.all false
namespace Go.Proofs.YtopinhoalbgebaaGreatDoor.Tx
open Go.Lf Go.Lf.S Go.Lf.Duo
set_option maxRecDepth 100000

theorem szs_bound' (m : Nat) : ∀ l : List Ty, (∀ t ∈ l, t.sz ≤ m) → Ty.szs l ≤ l.length * m
  | [], _ => by simp [Ty.szs]
  | t :: l, h => by
    have h1 := h t List.mem_cons_self
    have h2 := szs_bound' m l fun x hx => h x (List.mem_cons_of_mem _ hx)
    simp only [Ty.szs, List.length_cons, Nat.add_mul, Nat.one_mul]
    omega

theorem built' (l : List Ty) (a m : Nat) (hl : (l.length : Int) ≤ a) (ham : a * m ≤ 274877906944) (hs : ∀ t ∈ l, (t.sz : Int) ≤ m ∧ Wf t [] 0) :
    ∃ (ds : List Nd) (rs : List Rf), Ok P F.ref07_Build [.sl (l.map Ty.enc)] (.tup [.sl (ds.map Nd.enc), .sl (rs.map Rf.enc)]) ∧
      Ok P F.law08_Graph [.sl (l.map Ty.enc)] (.tup [.agg [.sl (ds.map Nd.enc)], .sl (rs.map Rf.enc)]) ∧ (ds.length ≤ 274877906944 ∧ ∀ d ∈ ds, NdOk 0 ds.length [] d) ∧ rs.length = l.length ∧
      (∀ (j : Nat) (r : Rf), rs[j]? = some r → 0 ≤ r.node ∧ r.node < ds.length ∧ 0 < ds.length) ∧ ds = belowsF l 0 [] [] ∧ rs = nextsF l 0 [] [] := by
  have hz : Ty.szs l ≤ l.length * m := szs_bound' m l fun t ht => by have := (hs t ht).1; omega
  have hz2 : l.length * m ≤ a * m := Nat.mul_le_mul_right _ (by omega)
  have hll := szs_len l
  have hgl := gcs_le l
  obtain ⟨ds, rs, hB, hd, hr, hds, hrs, hdf, hrf⟩ := ok_ref07_Build l (fun t ht => (hs t ht).2) (by omega)
  refine ⟨ds, rs, hB, ok_law08_Graph l hB (fun d hd' => (hds d hd').len) (by omega) (by omega), ⟨by omega, ?_⟩, hr, fun j r hj => ?_, hdf, hrf⟩
  · rw [hd]; exact hds
  · obtain ⟨h1, h2, _, _, h3⟩ := hrs j r hj
    omega

/-! lists of numbers -/
end Go.Proofs.YtopinhoalbgebaaGreatDoor.Tx
