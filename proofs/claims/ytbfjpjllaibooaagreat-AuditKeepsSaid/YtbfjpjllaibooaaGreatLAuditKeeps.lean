/- The law AuditKeeps: true for every input; its frame (the row, its witness). -/
import Derived.Test.YtbfjpjllaibooaaGreatDAwake27
import Derived.Test.YtbfjpjllaibooaaGreatWk219
import Derived.Test.YtbfjpjllaibooaaGreatRows
import Derived.Deep.DeepHandedRow
import Derived.ProofKit
import Derived.WalkKit
set_option linter.all false
namespace Go.Proofs.YtbfjpjllaibooaaGreat.Tx
open Go.Lf Go.Lf.S Go.Lf.Duo
open Go.ChangeShapes Go.WideShapes Go.ChangeAt Go.RowKit
set_option maxRecDepth 100000
theorem own : ownKnob Tryz.prog.godebug = none := by kernel_rfl
theorem laidOut : laidOutB Tryz.prog = true := by kernel_rfl
theorem glOk {W : World} (h : laidMetH Tryz.prog Rows.auditKeepsRow.laid W) : GlOk (fun b _ => b < W.heap.size) W := ⟨Nat.zero_le _, fun e he => by cases he⟩
noncomputable def laidWorld (os : Os) : World := World.holding Tryz.prog os ⟨#[], #[], []⟩
theorem laid_met (os : Os) : laidMet Tryz.prog Rows.auditKeepsRow.laid ((laidWorld os).forCall (fun _ _ => 0) ⟨#[], #[Value.agg #[.slice none 0 0, .int .i64 0, .string ByteArray.empty, .string ByteArray.empty, .slice none 0 0, .slice none 0 0, .int .i64 0, .int .i64 0, .string ByteArray.empty, .int .i64 0, .slice none 0 0, .slice none 0 0, .slice none 0 0]], []⟩).memory :=
 laidMet_of_run' 8 (by kernel_rfl) (by kernel_rfl)
theorem reads (os : Os) {H : Type} (enc : TypeId × Value → H) : ∃ places, DataW.whole enc Tryz.prog ((laidWorld os).forCall (fun _ _ => 0) ⟨#[], #[Value.agg #[.slice none 0 0, .int .i64 0, .string ByteArray.empty, .string ByteArray.empty, .slice none 0 0, .slice none 0 0, .int .i64 0, .int .i64 0, .string ByteArray.empty, .int .i64 0, .slice none 0 0, .slice none 0 0, .slice none 0 0]], []⟩).memory Tryz.f4.params.toList Rows.auditKeepsSpec.vars false #[Value.agg #[.slice none 0 0, .int .i64 0, .string ByteArray.empty, .string ByteArray.empty, .slice none 0 0, .slice none 0 0, .int .i64 0, .int .i64 0, .string ByteArray.empty, .int .i64 0, .slice none 0 0, .slice none 0 0, .slice none 0 0]].toList 8 = some ([.agg [.nil, .agg [.lit (.int .i64 0), .lit (.string []), .lit (.string []), .nil, .nil, .agg [.lit (.int .i64 0), .lit (.int .i64 0), .lit (.string []), .lit (.int .i64 0), .nil, .nil], .nil]]], [], places) :=
 ⟨[], by kernel_rfl⟩
theorem contract (H : Type) (enc : TypeId × Value → H) (W : World) (base : Nat) (args : Array Value) (ds gs : List (DataW H)) (before : List MemPlace)
  (hval : ∀ (j : Nat) t v, Tryz.f4.params[j]? = some t → args[j]? = some v → Value.okWide Tryz.prog W .any base t v)
  (hW : DataW.Whole enc Tryz.prog Tryz.f4.params.toList Rows.auditKeepsSpec.vars false W args.toList ds gs before) (hL : laidMetH Tryz.prog Rows.auditKeepsRow.laid W) :
  Calls Tryz.prog 4 args W fun e W' => ∃ v, e = .returned v ∧ Rows.auditKeepsSpec.post enc Tryz.prog Tryz.f4 false true false false W args v W' := by
 refine law_contract (tys := [32, 22, 50, 48, 52, 30, 3, 9, 23, 24, 76, 2, 28, 27, 25]) (tb := 4) (m := dbulks ds) (by kernel_rfl) (by rw [Tryz.params4]; decide) (by rw [Tryz.params4]; intro t ht; simp only [List.mem_cons, List.not_mem_nil, or_false] at ht; rcases ht with rfl <;> exact ⟨by kernel_rfl, of_decide_eq_true (by kernel_rfl)⟩) laidOut (by kernel_rfl) Tryz.underlying4 rfl (fun H ds hl => ?_) ?_ W base args ds gs before hval (glOk hL) (Nat.le_refl _) hW
 ·rw [Tryz.params4] at hl
  match ds, hl with
  | [d0], _ => rfl
 ·rintro xs hl ⟨ms, hm, _, h⟩
  rw [Tryz.params4] at hl h
  match xs, ms, hl, hm with
  | [x0], [m0], _, _ =>
   have hB := bd_of (h 0 32 x0 m0 rfl rfl rfl) m0 (Nat.le_refl _)
   obtain ⟨p, rfl, hlp⟩ := pg_of Tryz.underlying32 rfl Tryz.underlying22 (fun x m hx => df_of Tryz.underlying50 rfl Tryz.underlying9 Tryz.underlying48 (fun x m hx => el_of Tryz.underlying52 rfl Tryz.underlying9 (fun x m hx => (ty_of Tryz.underlying27 rfl Tryz.underlying3 Tryz.underlying9 Tryz.underlying23 Tryz.underlying25 hx).1 rfl) hx) (fun x m hx => (pr_of Tryz.underlying30 rfl Tryz.underlying3 Tryz.underlying9 Tryz.underlying23 Tryz.underlying24 Tryz.underlying76 rfl Tryz.underlying2 Tryz.underlying28 (fun x m hx => (ty_of Tryz.underlying27 rfl Tryz.underlying3 Tryz.underlying9 Tryz.underlying23 Tryz.underlying25 hx).1 rfl) hx).1 rfl) hx) (fun x m hx => (pr_of Tryz.underlying30 rfl Tryz.underlying3 Tryz.underlying9 Tryz.underlying23 Tryz.underlying24 Tryz.underlying76 rfl Tryz.underlying2 Tryz.underlying28 (fun x m hx => (ty_of Tryz.underlying27 rfl Tryz.underlying3 Tryz.underlying9 Tryz.underlying23 Tryz.underlying25 hx).1 rfl) hx).1 rfl) (h 0 32 x0 m0 rfl rfl rfl)
   exact ok_law27_AuditKeeps awake27 p hlp hB
theorem lifted (os : Os) (started : os.Started) (H : Type) (enc : TypeId × Value → H) (F : Stop.Interp) :
  ReturnsInHanded {} Tryz.checked os 4 .any ((OpenSpec.ofChange Rows.auditKeepsSpec).preRow enc Tryz.prog Tryz.f4 Rows.auditKeepsRow.domain false Rows.auditKeepsRow.laid) (((OpenSpec.ofChange Rows.auditKeepsSpec).at F).post enc Tryz.prog Tryz.f4 false true false false) := by
 obtain ⟨places, hx⟩ := reads os enc
 refine returnsInHanded_of_row (C := Tryz.checked) (s := (OpenSpec.ofChange Rows.auditKeepsSpec)) own started (by kernel_rfl) Tryz.func4
  (witness_row_at (enc := enc) (C := Tryz.checked) false (laidWorld os) #[Value.agg #[.slice none 0 0, .int .i64 0, .string ByteArray.empty, .string ByteArray.empty, .slice none 0 0, .slice none 0 0, .int .i64 0, .int .i64 0, .string ByteArray.empty, .int .i64 0, .slice none 0 0, .slice none 0 0, .slice none 0 0]] rfl (by kernel_rfl) (by kernel_rfl) (by kernel_rfl)
   (OpenSpec.preRow_of_cond 8 hx (by kernel_rfl) (fun k hk => by cases hk) (by kernel_rfl) (laid_met os))) ?_
 intro W base args ds gs before hval hW _ _ _ hL _ _
 exact contract H enc W base args ds gs before hval hW hL
theorem said : Rows.AuditKeepsSaid :=
 OpenClaim.holds_of_cond 4 Tryz.f4 rfl rfl rfl rfl rfl rfl rfl ⟨rfl, rfl, rfl, rfl, rfl⟩ rfl rfl rfl rfl rfl (by kernel_rfl) Tryz.func4 (by kernel_rfl)
  (of_decide_eq_true (by kernel_rfl)) (by unfold Func.isWrapper; first | (rw [if_pos (by decide +kernel)]; kernel_rfl) | (rw [if_neg (by decide +kernel)]; exact ⟨rfl, rfl⟩))
  (fun os started H enc _ F => by rw [OpenClaim.pre_eq_preRow]; exact lifted os started H enc F)
end Go.Proofs.YtbfjpjllaibooaaGreat.Tx
namespace Go.Proofs.YtbfjpjllaibooaaGreat
/-- A program is not modified by pruning it, also if the pruned program is changed: for every input. -/
theorem auditKeeps_holds : Rows.AuditKeepsSaid := Tx.said
end Go.Proofs.YtbfjpjllaibooaaGreat
#print axioms Go.Proofs.YtbfjpjllaibooaaGreat.auditKeeps_holds
