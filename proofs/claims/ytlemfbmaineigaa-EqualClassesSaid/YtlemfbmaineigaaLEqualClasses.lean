/- The law EqualClasses: true for every input; its frame (the row, its witness). No condition. -/
import Derived.Test.YtlemfbmaineigaaDAwake10
import Derived.Test.YtlemfbmaineigaaWk21
import Derived.Test.YtlemfbmaineigaaRows
import Derived.Deep.DeepHandedRow
import Derived.ProofKit
import Derived.WalkKit
set_option linter.all false
namespace Go.Proofs.Ytlemfbmaineigaa.Tx
open Go.Lf Go.Lf.S Go.Lf.Duo
open Go.ChangeShapes Go.WideShapes Go.ChangeAt Go.RowKit
set_option maxRecDepth 100000
theorem own : ownKnob Try.prog.godebug = none := by kernel_rfl
theorem laidOut : laidOutB Try.prog = true := by kernel_rfl
theorem glOk {W : World} (h : laidMetH Try.prog Rows.equalClassesRow.laid W) : GlOk (fun b _ => b < W.heap.size) W := fun e he => by cases he
noncomputable def laidWorld (os : Os) : World := World.holding Try.prog os ⟨#[], #[], []⟩
theorem laid_met (os : Os) : laidMet Try.prog Rows.equalClassesRow.laid ((laidWorld os).forCall (fun _ _ => 0) ⟨#[], #[Value.slice none 0 0], []⟩).memory :=
  laidMet_of_run' 8 (by kernel_rfl) (by kernel_rfl)
theorem reads (os : Os) {H : Type} (enc : TypeId × Value → H) : ∃ places, DataW.whole enc Try.prog ((laidWorld os).forCall (fun _ _ => 0) ⟨#[], #[Value.slice none 0 0], []⟩).memory Try.f5.params.toList Rows.equalClassesSpec.vars false #[Value.slice none 0 0].toList 8 = some ([.nil], [], places) :=
  ⟨[], by kernel_rfl⟩

theorem contract (H : Type) (enc : TypeId × Value → H) (W : World) (base : Nat) (args : Array Value) (ds gs : List (DataW H)) (before : List MemPlace)
    (hval : ∀ (j : Nat) t v, Try.f5.params[j]? = some t → args[j]? = some v → Value.okWide Try.prog W .any base t v)
    (hW : DataW.Whole enc Try.prog Try.f5.params.toList Rows.equalClassesSpec.vars false W args.toList ds gs before) (hL : laidMetH Try.prog Rows.equalClassesRow.laid W) :
    Calls Try.prog 5 args W fun e W' => ∃ v, e = .returned v ∧ Rows.equalClassesSpec.post enc Try.prog Try.f5 false true false false W args v W' := by
  refine law_contract (tys := [25, 3, 9, 22, 23]) (tb := 4) (m := dbulks ds) (by kernel_rfl) (by rw [Try.params5]; decide) (by rw [Try.params5]; intro t ht; simp only [List.mem_cons, List.not_mem_nil, or_false] at ht; rcases ht with rfl <;> exact ⟨by kernel_rfl, of_decide_eq_true (by kernel_rfl)⟩) laidOut (by kernel_rfl) Try.underlying4 rfl (fun H ds hl => ?_) ?_ W base args ds gs before hval (glOk hL) (Nat.le_refl _) hW
  · rw [Try.params5] at hl
    match ds, hl with
    | [d0], _ => rfl
  · rintro xs hl ⟨ms, hm, _, h⟩
    rw [Try.params5] at hl h
    match xs, ms, hl, hm with
    | [x0], [m0], _, _ =>
      obtain ⟨l, rfl, hll, hlim⟩ := (ty_of Try.underlying25 rfl Try.underlying3 Try.underlying9 Try.underlying22 Try.underlying23 (h 0 23 x0 m0 rfl rfl rfl)).2 rfl
      exact ok_law10_EqualClasses awake l hll hlim

theorem lifted (os : Os) (started : os.Started) (H : Type) (enc : TypeId × Value → H) (F : Stop.Interp) :
    ReturnsInHanded {} Try.checked os 5 .any ((OpenSpec.ofChange Rows.equalClassesSpec).preRow enc Try.prog Try.f5 Rows.equalClassesRow.domain false Rows.equalClassesRow.laid) (((OpenSpec.ofChange Rows.equalClassesSpec).at F).post enc Try.prog Try.f5 false true false false) := by
  obtain ⟨places, hx⟩ := reads os enc
  refine returnsInHanded_of_row (C := Try.checked) (s := OpenSpec.ofChange Rows.equalClassesSpec) own started (by kernel_rfl) Try.func5
    (witness_row_at (enc := enc) (C := Try.checked) false (laidWorld os) #[Value.slice none 0 0] rfl (by kernel_rfl) (by kernel_rfl) (by kernel_rfl)
      (OpenSpec.preRow_of_cond 8 hx (by kernel_rfl) (fun k hk => by cases hk) (by kernel_rfl) (laid_met os))) ?_
  intro W base args ds gs before hval hW _ _ _ hL _ _
  exact contract H enc W base args ds gs before hval hW hL

theorem said : Rows.EqualClassesSaid :=
  OpenClaim.holds_of_cond 5 Try.f5 rfl rfl rfl rfl rfl rfl rfl ⟨rfl, rfl, rfl, rfl, rfl⟩ rfl rfl rfl rfl rfl (by kernel_rfl) Try.func5 (by kernel_rfl)
    (of_decide_eq_true (by kernel_rfl)) (by unfold Func.isWrapper; first | (rw [if_pos (by decide +kernel)]; kernel_rfl) | (rw [if_neg (by decide +kernel)]; exact ⟨rfl, rfl⟩))
    (fun os started H enc _ F => by rw [OpenClaim.pre_eq_preRow]; exact lifted os started H enc F)

end Go.Proofs.Ytlemfbmaineigaa.Tx
namespace Go.Proofs.Ytlemfbmaineigaa
/-- The class of each node is the least node that is equal to it; classes are the same exactly for equal nodes: for every input. -/
theorem equalClasses_holds : Rows.EqualClassesSaid := Tx.said
end Go.Proofs.Ytlemfbmaineigaa
#print axioms Go.Proofs.Ytlemfbmaineigaa.equalClasses_holds
