/- Contracts: right types, exactly, of the program and of the reference; few nodes. -/
import Derived.Test.YtjekkidhbnkiaaaDoorWk56
set_option linter.all false
namespace Go.Proofs.YtjekkidhbnkiaaaDoor.Tx
open Go.Lf Go.Lf.S Go.Lf.Duo
set_option maxRecDepth 100000
theorem okx_ref02_Few (t : Ty) (hlim : Lim t) (m : Int) (h0 : 0 ≤ m) (h1 : m ≤ 549755813888) : ∃ b, Ok P F.ref02_Few [t.enc, i m] (.bool b) ∧ (b = true → (t.sz : Int) ≤ m ∧ dep t ≤ 150) := by
 have hc := ok_ref02_count t m hlim h0 (by omega)
 have hk := Ty.okc_enc t
 obtain ⟨c1, c2, c3⟩ := cnt_spec t m h0
 have := tx_ex (K := fun x => ∃ b, x = .bool b ∧ (b = true → (t.sz : Int) ≤ m ∧ dep t ≤ 150)) k_ref02_Few (xs := [t.enc, i m]) rfl (by simp [t_ref02_Few, T.dt]) (by
  refine d_l _ (e_okc hk) fun _ => d_call hc (d_l _ rfl fun _ => d_dec (fun h => ?_) fun h => d_ret ⟨false, rfl, fun h => by cases h⟩)
  have h : 0 ≤ cnt t m := h
  have hz := c3 h
  refine d_call (ok_ref02_Depth t (by omega)) (d_l _ rfl fun _ => d_ret ⟨_, rfl, fun h2 => ⟨by omega, ?_⟩⟩)
  have h2 : ((dep t : Nat) : Int) ≤ 150 := of_decide_eq_true h2
  omega)
 obtain ⟨_, ⟨b, rfl, hb⟩, h⟩ := this
 exact ⟨b, h, hb⟩
end Go.Proofs.YtjekkidhbnkiaaaDoor.Tx
