/- Contracts: Equal, Alike. -/
import Derived.Test.YtopinhoalbgebaaGreatDoorWk16
set_option linter.all false
namespace Go.Proofs.YtopinhoalbgebaaGreatDoor.Tx
open Go.Lf Go.Lf.S Go.Lf.Duo
set_option maxRecDepth 100000

theorem res_iff {ds : List Nd} {free : Bool} {k : Key} {r : Bool} {L : List Key} (h : Res ds free [] k r L) : r = true ↔ Eqv ds free k := by
  cases r with
  | true => exact ⟨fun _ => ⟨L, fun q hq => ⟨(h.loc q hq).1, (h.yes rfl).2 q hq (by simp)⟩, (h.yes rfl).1⟩, fun _ => rfl⟩
  | false => exact ⟨(fun h => by cases h), fun he => absurd he (h.no rfl)⟩

theorem same_Equal (ds : List Nd) : SameOk ds false F.equal_Equal_1 [.box (.agg [.sl (ds.map Nd.enc)])] := fun a b ha hb s t => ok_equal_Equal_1 ds a b ha hb s t
theorem ok_equal_Equal {ds : List Nd} (hg : GrOk' ds) {a b : Nat} (ha : a < ds.length) (hb : b < ds.length) (s t : Int) :
    ∃ r, Ok P F.equal_Equal [.agg [.sl (ds.map Nd.enc)], ref a s, ref b t] (.bool r) ∧ (r = true ↔ Eqv ds false (keyOf false a b s t)) := by
  obtain ⟨r, L', hR, hok⟩ := ok_comparison_equal hg (same_Equal ds) _ [] (fun q hq => by cases hq) (Nat.le_refl _) a b ha hb s t
  exact ⟨r, k_equal_Equal _ _ rfl (d_l (.agg [.sl (ds.map Nd.enc)]) rfl fun _ => d_l (ref a s) rfl fun _ => d_l (ref b t) rfl fun _ => d_l _ rfl fun _ => d_calls rfl hok (d_ret rfl)), res_iff hR⟩
end Go.Proofs.YtopinhoalbgebaaGreatDoor.Tx
