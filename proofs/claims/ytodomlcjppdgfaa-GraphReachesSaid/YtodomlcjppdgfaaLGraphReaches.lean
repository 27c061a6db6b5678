/- The law GraphReaches: true for every input; its frame (the row, its witness). -/
import Derived.Test.YtodomlcjppdgfaaDAwake07
import Derived.Test.YtodomlcjppdgfaaWk117
import Derived.Test.YtodomlcjppdgfaaRows
import Derived.Deep.DeepHandedRow
import Derived.ProofKit
import Derived.WalkKit
set_option linter.all false
namespace Go.Proofs.Ytodomlcjppdgfaa.Tx
open Go.Lf Go.Lf.S Go.Lf.Duo
open Go.ChangeShapes Go.WideShapes Go.ChangeAt Go.RowKit
set_option maxRecDepth 100000
theorem own : ownKnob Try.prog.godebug = none := by kernel_rfl
theorem laidOut : laidOutB Try.prog = true := by kernel_rfl
theorem glOk {W : World} (h : laidMetH Try.prog Rows.graphReachesRow.laid W) : GlOk (fun b _ => b < W.heap.size) W := fun e he => by cases he
noncomputable def laidWorld (os : Os) : World := World.holding Try.prog os ⟨#[], #[], []⟩
theorem laid_met (os : Os) : laidMet Try.prog Rows.graphReachesRow.laid ((laidWorld os).forCall (fun _ _ => 0) ⟨#[], #[Value.slice none 0 0, Value.int .u8 0], []⟩).memory :=
  laidMet_of_run' 8 (by kernel_rfl) (by kernel_rfl)
theorem reads (os : Os) {H : Type} (enc : TypeId × Value → H) : ∃ places, DataW.whole enc Try.prog ((laidWorld os).forCall (fun _ _ => 0) ⟨#[], #[Value.slice none 0 0, Value.int .u8 0], []⟩).memory Try.f4.params.toList Rows.graphReachesSpec.vars false #[Value.slice none 0 0, Value.int .u8 0].toList 8 = some ([.nil, .lit (.int .u8 0)], [], places) :=
  ⟨[], by kernel_rfl⟩

theorem contract (H : Type) (enc : TypeId × Value → H) (W : World) (base : Nat) (args : Array Value) (ds gs : List (DataW H)) (before : List MemPlace)
    (hval : ∀ (j : Nat) t v, Try.f4.params[j]? = some t → args[j]? = some v → Value.okWide Try.prog W .any base t v)
    (hW : DataW.Whole enc Try.prog Try.f4.params.toList Rows.graphReachesSpec.vars false W args.toList ds gs before) (hL : laidMetH Try.prog Rows.graphReachesRow.laid W) :
    Calls Try.prog 4 args W fun e W' => ∃ v, e = .returned v ∧ Rows.graphReachesSpec.post enc Try.prog Try.f4 false true false false W args v W' := by
  refine law_contract (tys := [47, 3, 9, 45, 22, 5]) (tb := 4) (m := dbulks ds) (by kernel_rfl) (by rw [Try.params4]; decide) (by rw [Try.params4]; intro t ht; simp only [List.mem_cons, List.not_mem_nil, or_false] at ht; rcases ht with rfl | rfl <;> exact ⟨by kernel_rfl, of_decide_eq_true (by kernel_rfl)⟩) laidOut (by kernel_rfl) Try.underlying4 rfl (fun H ds hl => ?_) ?_ W base args ds gs before hval (glOk hL) (Nat.le_refl _) hW
  · rw [Try.params4] at hl
    match ds, hl with
    | [d0, d1], _ => rfl
  · rintro xs hl ⟨ms, hm, _, h⟩
    rw [Try.params4] at hl h
    match xs, ms, hl, hm with
    | [x0, x1], [m0, m1], _, _ =>
      obtain ⟨l, rfl, hll, hlim⟩ := (ty_of Try.underlying47 rfl Try.underlying3 Try.underlying9 Try.underlying45 Try.underlying22 (h 0 22 x0 m0 rfl rfl rfl)).2 rfl
      obtain ⟨k, rfl, hk0, hk1⟩ := hasT_int Try.underlying5 (h 1 5 x1 m1 rfl rfl rfl)
      have hk0 : (0 : Int) ≤ k := hk0
      have hk1 : k ≤ (255 : Int) := hk1
      exact ok_law07_GraphReaches awake07 l k hk0 hk1 hll hlim

theorem lifted (os : Os) (started : os.Started) (H : Type) (enc : TypeId × Value → H) (F : Stop.Interp) :
    ReturnsInHanded {} Try.checked os 4 .any ((OpenSpec.ofChange Rows.graphReachesSpec).preRow enc Try.prog Try.f4 Rows.graphReachesRow.domain false Rows.graphReachesRow.laid) (((OpenSpec.ofChange Rows.graphReachesSpec).at F).post enc Try.prog Try.f4 false true false false) := by
  obtain ⟨places, hx⟩ := reads os enc
  refine returnsInHanded_of_row (C := Try.checked) (s := (OpenSpec.ofChange Rows.graphReachesSpec)) own started (by kernel_rfl) Try.func4
    (witness_row_at (enc := enc) (C := Try.checked) false (laidWorld os) #[Value.slice none 0 0, Value.int .u8 0] rfl (by kernel_rfl) (by kernel_rfl) (by kernel_rfl)
      (OpenSpec.preRow_of_cond 8 hx (by kernel_rfl) (fun k hk => by cases hk) (by kernel_rfl) (laid_met os))) ?_
  intro W base args ds gs before hval hW _ _ _ hL _ _
  exact contract H enc W base args ds gs before hval hW hL

theorem said : Rows.GraphReachesSaid :=
  OpenClaim.holds_of_cond 4 Try.f4 rfl rfl rfl rfl rfl rfl rfl ⟨rfl, rfl, rfl, rfl, rfl⟩ rfl rfl rfl rfl rfl (by kernel_rfl) Try.func4 (by kernel_rfl)
    (of_decide_eq_true (by kernel_rfl)) (by unfold Func.isWrapper; first | (rw [if_pos (by decide +kernel)]; kernel_rfl) | (rw [if_neg (by decide +kernel)]; exact ⟨rfl, rfl⟩))
    (fun os started H enc _ F => by rw [OpenClaim.pre_eq_preRow]; exact lifted os started H enc F)

end Go.Proofs.Ytodomlcjppdgfaa.Tx
namespace Go.Proofs.Ytodomlcjppdgfaa
/-- The reached nodes are those of the reference implementation: for every input. -/
theorem graphReaches_holds : Rows.GraphReachesSaid := Tx.said
end Go.Proofs.Ytodomlcjppdgfaa
#print axioms Go.Proofs.Ytodomlcjppdgfaa.graphReaches_holds
