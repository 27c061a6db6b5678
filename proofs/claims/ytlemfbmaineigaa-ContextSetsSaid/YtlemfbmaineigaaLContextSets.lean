/- The law ContextSets: true for every input; its frame (the row, its witness). No condition. -/
import Derived.Test.YtlemfbmaineigaaDAwake13
import Derived.Test.YtlemfbmaineigaaWk32
import Derived.Test.YtlemfbmaineigaaRows
import Derived.Deep.DeepHandedRow
import Derived.ProofKit
import Derived.WalkKit
set_option linter.all false
namespace Go.Proofs.Ytlemfbmaineigaa.Tx
open Go.Lf Go.Lf.S Go.Lf.Duo
open Go.ChangeShapes Go.WideShapes Go.ChangeAt Go.RowKit
set_option maxRecDepth 100000
theorem own : ownKnob Try.prog.godebug = none := by kernel_rfl
theorem laidOut : laidOutB Try.prog = true := by kernel_rfl
theorem glOk {W : World} (h : laidMetH Try.prog Rows.contextSetsRow.laid W) : GlOk (fun b _ => b < W.heap.size) W := fun e he => by cases he
noncomputable def laidWorld (os : Os) : World := World.holding Try.prog os ⟨#[], #[], []⟩
theorem laid_met (os : Os) : laidMet Try.prog Rows.contextSetsRow.laid ((laidWorld os).forCall (fun _ _ => 0) ⟨#[], #[Value.slice none 0 0, Value.string ByteArray.empty, Value.agg #[.int .i64 0, .int .i64 0]], []⟩).memory :=
  laidMet_of_run' 8 (by kernel_rfl) (by kernel_rfl)
theorem reads (os : Os) {H : Type} (enc : TypeId × Value → H) : ∃ places, DataW.whole enc Try.prog ((laidWorld os).forCall (fun _ _ => 0) ⟨#[], #[Value.slice none 0 0, Value.string ByteArray.empty, Value.agg #[.int .i64 0, .int .i64 0]], []⟩).memory Try.f7.params.toList Rows.contextSetsSpec.vars false #[Value.slice none 0 0, Value.string ByteArray.empty, Value.agg #[.int .i64 0, .int .i64 0]].toList 8 = some ([.nil, .lit (.string []), .agg [.lit (.int .i64 0), .lit (.int .i64 0)]], [], places) :=
  ⟨[], by kernel_rfl⟩

theorem contract (H : Type) (enc : TypeId × Value → H) (W : World) (base : Nat) (args : Array Value) (ds gs : List (DataW H)) (before : List MemPlace)
    (hval : ∀ (j : Nat) t v, Try.f7.params[j]? = some t → args[j]? = some v → Value.okWide Try.prog W .any base t v)
    (hW : DataW.Whole enc Try.prog Try.f7.params.toList Rows.contextSetsSpec.vars false W args.toList ds gs before) (hL : laidMetH Try.prog Rows.contextSetsRow.laid W) :
    Calls Try.prog 7 args W fun e W' => ∃ v, e = .returned v ∧ Rows.contextSetsSpec.post enc Try.prog Try.f7 false true false false W args v W' := by
  refine law_contract (tys := [50, 55, 9, 37, 3]) (tb := 4) (m := dbulks ds) (by kernel_rfl) (by rw [Try.params7]; decide) (by rw [Try.params7]; intro t ht; simp only [List.mem_cons, List.not_mem_nil, or_false] at ht; rcases ht with rfl | rfl | rfl <;> exact ⟨by kernel_rfl, of_decide_eq_true (by kernel_rfl)⟩) laidOut (by kernel_rfl) Try.underlying4 rfl (fun H ds hl => ?_) ?_ W base args ds gs before hval (glOk hL) (Nat.le_refl _) hW
  · rw [Try.params7] at hl
    match ds, hl with
    | [d0, d1, d2], _ => rfl
  · rintro xs hl ⟨ms, hm, _, h⟩
    rw [Try.params7] at hl h
    match xs, ms, hl, hm with
    | [x0, x1, x2], [m0, m1, m2], _, _ =>
      obtain ⟨es, rfl, hl⟩ := list_of Try.underlying50 (fun y k hy => en_of Try.underlying55 rfl Try.underlying9 Try.underlying37 rfl Try.underlying3 hy) (h 0 50 x0 m0 rfl rfl rfl)
      obtain ⟨s, rfl, _⟩ := hasT_str Try.underlying9 (h 1 9 x1 m1 rfl rfl rfl)
      obtain ⟨r, rfl⟩ := rf_of Try.underlying37 rfl Try.underlying3 (h 2 37 x2 m2 rfl rfl rfl)
      exact ok_law13_ContextSets es s r hl

theorem lifted (os : Os) (started : os.Started) (H : Type) (enc : TypeId × Value → H) (F : Stop.Interp) :
    ReturnsInHanded {} Try.checked os 7 .any ((OpenSpec.ofChange Rows.contextSetsSpec).preRow enc Try.prog Try.f7 Rows.contextSetsRow.domain false Rows.contextSetsRow.laid) (((OpenSpec.ofChange Rows.contextSetsSpec).at F).post enc Try.prog Try.f7 false true false false) := by
  obtain ⟨places, hx⟩ := reads os enc
  refine returnsInHanded_of_row (C := Try.checked) (s := OpenSpec.ofChange Rows.contextSetsSpec) own started (by kernel_rfl) Try.func7
    (witness_row_at (enc := enc) (C := Try.checked) false (laidWorld os) #[Value.slice none 0 0, Value.string ByteArray.empty, Value.agg #[.int .i64 0, .int .i64 0]] rfl (by kernel_rfl) (by kernel_rfl) (by kernel_rfl)
      (OpenSpec.preRow_of_cond 8 hx (by kernel_rfl) (fun k hk => by cases hk) (by kernel_rfl) (laid_met os))) ?_
  intro W base args ds gs before hval hW _ _ _ hL _ _
  exact contract H enc W base args ds gs before hval hW hL

theorem said : Rows.ContextSetsSaid :=
  OpenClaim.holds_of_cond 7 Try.f7 rfl rfl rfl rfl rfl rfl rfl ⟨rfl, rfl, rfl, rfl, rfl⟩ rfl rfl rfl rfl rfl (by kernel_rfl) Try.func7 (by kernel_rfl)
    (of_decide_eq_true (by kernel_rfl)) (by unfold Func.isWrapper; first | (rw [if_pos (by decide +kernel)]; kernel_rfl) | (rw [if_neg (by decide +kernel)]; exact ⟨rfl, rfl⟩))
    (fun os started H enc _ F => by rw [OpenClaim.pre_eq_preRow]; exact lifted os started H enc F)

end Go.Proofs.Ytlemfbmaineigaa.Tx
namespace Go.Proofs.Ytlemfbmaineigaa
/-- After setting a name, it has the reference, the others have those that they had, and the order stays: for every input. -/
theorem contextSets_holds : Rows.ContextSetsSaid := Tx.said
end Go.Proofs.Ytlemfbmaineigaa
#print axioms Go.Proofs.Ytlemfbmaineigaa.contextSets_holds
