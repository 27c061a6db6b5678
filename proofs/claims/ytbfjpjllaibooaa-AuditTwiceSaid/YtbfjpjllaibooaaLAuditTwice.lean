/- The law AuditTwice: true for every input; its frame (the row, its witness). -/
import Derived.Test.YtbfjpjllaibooaaDAwake27
import Derived.Test.YtbfjpjllaibooaaWk141
import Derived.Test.YtbfjpjllaibooaaRows
import Derived.Deep.DeepHandedRow
import Derived.ProofKit
import Derived.WalkKit
set_option linter.all false
namespace Go.Proofs.Ytbfjpjllaibooaa.Tx
open Go.Lf Go.Lf.S Go.Lf.Duo
open Go.ChangeShapes Go.WideShapes Go.ChangeAt Go.RowKit
set_option maxRecDepth 100000
theorem own : ownKnob Try.prog.godebug = none := by kernel_rfl
theorem laidOut : laidOutB Try.prog = true := by kernel_rfl
theorem glOk {W : World} (h : laidMetH Try.prog Rows.auditTwiceRow.laid W) : GlOk (fun b _ => b < W.heap.size) W := fun e he => by cases he
noncomputable def laidWorld (os : Os) : World := World.holding Try.prog os ⟨#[], #[], []⟩
theorem laid_met (os : Os) : laidMet Try.prog Rows.auditTwiceRow.laid ((laidWorld os).forCall (fun _ _ => 0) ⟨#[], #[Value.agg #[.slice none 0 0, .int .i64 0, .string ByteArray.empty, .string ByteArray.empty, .slice none 0 0, .slice none 0 0, .int .i64 0, .int .i64 0, .string ByteArray.empty, .int .i64 0, .slice none 0 0, .slice none 0 0, .slice none 0 0]], []⟩).memory :=
  laidMet_of_run' 8 (by kernel_rfl) (by kernel_rfl)
theorem reads (os : Os) {H : Type} (enc : TypeId × Value → H) : ∃ places, DataW.whole enc Try.prog ((laidWorld os).forCall (fun _ _ => 0) ⟨#[], #[Value.agg #[.slice none 0 0, .int .i64 0, .string ByteArray.empty, .string ByteArray.empty, .slice none 0 0, .slice none 0 0, .int .i64 0, .int .i64 0, .string ByteArray.empty, .int .i64 0, .slice none 0 0, .slice none 0 0, .slice none 0 0]], []⟩).memory Try.f3.params.toList Rows.auditTwiceSpec.vars false #[Value.agg #[.slice none 0 0, .int .i64 0, .string ByteArray.empty, .string ByteArray.empty, .slice none 0 0, .slice none 0 0, .int .i64 0, .int .i64 0, .string ByteArray.empty, .int .i64 0, .slice none 0 0, .slice none 0 0, .slice none 0 0]].toList 8 = some ([.agg [.nil, .agg [.lit (.int .i64 0), .lit (.string []), .lit (.string []), .nil, .nil, .agg [.lit (.int .i64 0), .lit (.int .i64 0), .lit (.string []), .lit (.int .i64 0), .nil, .nil], .nil]]], [], places) :=
  ⟨[], by kernel_rfl⟩

theorem contract (H : Type) (enc : TypeId × Value → H) (W : World) (base : Nat) (args : Array Value) (ds gs : List (DataW H)) (before : List MemPlace)
    (hval : ∀ (j : Nat) t v, Try.f3.params[j]? = some t → args[j]? = some v → Value.okWide Try.prog W .any base t v)
    (hW : DataW.Whole enc Try.prog Try.f3.params.toList Rows.auditTwiceSpec.vars false W args.toList ds gs before) (hL : laidMetH Try.prog Rows.auditTwiceRow.laid W) :
    Calls Try.prog 3 args W fun e W' => ∃ v, e = .returned v ∧ Rows.auditTwiceSpec.post enc Try.prog Try.f3 false true false false W args v W' := by
  refine law_contract (tys := [32, 22, 50, 48, 57, 30, 3, 9, 23, 24, 81, 2, 28, 27, 25]) (tb := 4) (m := dbulks ds) (by kernel_rfl) (by rw [Try.params3]; decide) (by rw [Try.params3]; intro t ht; simp only [List.mem_cons, List.not_mem_nil, or_false] at ht; rcases ht with rfl <;> exact ⟨by kernel_rfl, of_decide_eq_true (by kernel_rfl)⟩) laidOut (by kernel_rfl) Try.underlying4 rfl (fun H ds hl => ?_) ?_ W base args ds gs before hval (glOk hL) (Nat.le_refl _) hW
  · rw [Try.params3] at hl
    match ds, hl with
    | [d0], _ => rfl
  · rintro xs hl ⟨ms, hm, _, h⟩
    rw [Try.params3] at hl h
    match xs, ms, hl, hm with
    | [x0], [m0], _, _ =>
      obtain ⟨p, rfl, hlp⟩ := pg_of Try.underlying32 rfl Try.underlying22 (fun x m hx => df_of Try.underlying50 rfl Try.underlying9 Try.underlying48 (fun x m hx => el_of Try.underlying57 rfl Try.underlying9 (fun x m hx => (ty_of Try.underlying27 rfl Try.underlying3 Try.underlying9 Try.underlying23 Try.underlying25 hx).1 rfl) hx) (fun x m hx => (pr_of Try.underlying30 rfl Try.underlying3 Try.underlying9 Try.underlying23 Try.underlying24 Try.underlying81 rfl Try.underlying2 Try.underlying28 (fun x m hx => (ty_of Try.underlying27 rfl Try.underlying3 Try.underlying9 Try.underlying23 Try.underlying25 hx).1 rfl) hx).1 rfl) hx) (fun x m hx => (pr_of Try.underlying30 rfl Try.underlying3 Try.underlying9 Try.underlying23 Try.underlying24 Try.underlying81 rfl Try.underlying2 Try.underlying28 (fun x m hx => (ty_of Try.underlying27 rfl Try.underlying3 Try.underlying9 Try.underlying23 Try.underlying25 hx).1 rfl) hx).1 rfl) (h 0 32 x0 m0 rfl rfl rfl)
      exact ok_law27_AuditTwice p hlp

theorem lifted (os : Os) (started : os.Started) (H : Type) (enc : TypeId × Value → H) (F : Stop.Interp) :
    ReturnsInHanded {} Try.checked os 3 .any ((OpenSpec.ofChange Rows.auditTwiceSpec).preRow enc Try.prog Try.f3 Rows.auditTwiceRow.domain false Rows.auditTwiceRow.laid) (((OpenSpec.ofChange Rows.auditTwiceSpec).at F).post enc Try.prog Try.f3 false true false false) := by
  obtain ⟨places, hx⟩ := reads os enc
  refine returnsInHanded_of_row (C := Try.checked) (s := (OpenSpec.ofChange Rows.auditTwiceSpec)) own started (by kernel_rfl) Try.func3
    (witness_row_at (enc := enc) (C := Try.checked) false (laidWorld os) #[Value.agg #[.slice none 0 0, .int .i64 0, .string ByteArray.empty, .string ByteArray.empty, .slice none 0 0, .slice none 0 0, .int .i64 0, .int .i64 0, .string ByteArray.empty, .int .i64 0, .slice none 0 0, .slice none 0 0, .slice none 0 0]] rfl (by kernel_rfl) (by kernel_rfl) (by kernel_rfl)
      (OpenSpec.preRow_of_cond 8 hx (by kernel_rfl) (fun k hk => by cases hk) (by kernel_rfl) (laid_met os))) ?_
  intro W base args ds gs before hval hW _ _ _ hL _ _
  exact contract H enc W base args ds gs before hval hW hL

theorem said : Rows.AuditTwiceSaid :=
  OpenClaim.holds_of_cond 3 Try.f3 rfl rfl rfl rfl rfl rfl rfl ⟨rfl, rfl, rfl, rfl, rfl⟩ rfl rfl rfl rfl rfl (by kernel_rfl) Try.func3 (by kernel_rfl)
    (of_decide_eq_true (by kernel_rfl)) (by unfold Func.isWrapper; first | (rw [if_pos (by decide +kernel)]; kernel_rfl) | (rw [if_neg (by decide +kernel)]; exact ⟨rfl, rfl⟩))
    (fun os started H enc _ F => by rw [OpenClaim.pre_eq_preRow]; exact lifted os started H enc F)

end Go.Proofs.Ytbfjpjllaibooaa.Tx
namespace Go.Proofs.Ytbfjpjllaibooaa
/-- Pruning twice is pruning once, and a pruned program has no unused definitions; reached and unused definitions are all of them: for every input. -/
theorem auditTwice_holds : Rows.AuditTwiceSaid := Tx.said
end Go.Proofs.Ytbfjpjllaibooaa
#print axioms Go.Proofs.Ytbfjpjllaibooaa.auditTwice_holds
