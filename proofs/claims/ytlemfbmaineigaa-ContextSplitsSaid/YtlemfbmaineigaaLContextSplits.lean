/- The law ContextSplits: true for every input; its frame (the row, its witness). No condition. -/
import Derived.Test.YtlemfbmaineigaaDAwake13
import Derived.Test.YtlemfbmaineigaaWk37
import Derived.Test.YtlemfbmaineigaaRows
import Derived.Deep.DeepHandedRow
import Derived.ProofKit
import Derived.WalkKit
set_option linter.all false
namespace Go.Proofs.Ytlemfbmaineigaa.Tx
open Go.Lf Go.Lf.S Go.Lf.Duo
open Go.ChangeShapes Go.WideShapes Go.ChangeAt Go.RowKit
set_option maxRecDepth 100000
theorem own : ownKnob Try.prog.godebug = none := by kernel_rfl
theorem laidOut : laidOutB Try.prog = true := by kernel_rfl
theorem glOk {W : World} (h : laidMetH Try.prog Rows.contextSplitsRow.laid W) : GlOk (fun b _ => b < W.heap.size) W := fun e he => by cases he
noncomputable def laidWorld (os : Os) : World := World.holding Try.prog os ⟨#[], #[], []⟩
theorem laid_met (os : Os) : laidMet Try.prog Rows.contextSplitsRow.laid ((laidWorld os).forCall (fun _ _ => 0) ⟨#[], #[Value.slice none 0 0, Value.slice none 0 0], []⟩).memory :=
  laidMet_of_run' 8 (by kernel_rfl) (by kernel_rfl)
theorem reads (os : Os) {H : Type} (enc : TypeId × Value → H) : ∃ places, DataW.whole enc Try.prog ((laidWorld os).forCall (fun _ _ => 0) ⟨#[], #[Value.slice none 0 0, Value.slice none 0 0], []⟩).memory Try.f8.params.toList Rows.contextSplitsSpec.vars false #[Value.slice none 0 0, Value.slice none 0 0].toList 8 = some ([.nil, .nil], [], places) :=
  ⟨[], by kernel_rfl⟩

theorem contract (H : Type) (enc : TypeId × Value → H) (W : World) (base : Nat) (args : Array Value) (ds gs : List (DataW H)) (before : List MemPlace)
    (hval : ∀ (j : Nat) t v, Try.f8.params[j]? = some t → args[j]? = some v → Value.okWide Try.prog W .any base t v)
    (hW : DataW.Whole enc Try.prog Try.f8.params.toList Rows.contextSplitsSpec.vars false W args.toList ds gs before) (hz : (DataW.weightsEach Try.prog (Try.f8.params.toList ++ (OpenSpec.ofChange Rows.contextSplitsSpec).bare.plain.varTypes Try.prog) (ds ++ gs)).all (· ≤ reachBytes) = true) (hL : laidMetH Try.prog Rows.contextSplitsRow.laid W) :
    Calls Try.prog 8 args W fun e W' => ∃ v, e = .returned v ∧ Rows.contextSplitsSpec.post enc Try.prog Try.f8 false true false false W args v W' := by
  refine law_contractW (vs := (OpenSpec.ofChange Rows.contextSplitsSpec).bare.plain.varTypes Try.prog) (tys := [57, 67, 25, 3, 9, 22, 23]) (tb := 4) (m := dbulks ds) (by kernel_rfl) (by rw [Try.params8]; decide) (by rw [Try.params8]; intro t ht; simp only [List.mem_cons, List.not_mem_nil, or_false] at ht; rcases ht with rfl | rfl <;> exact ⟨by kernel_rfl, of_decide_eq_true (by kernel_rfl)⟩) laidOut (by kernel_rfl) Try.underlying4 rfl (fun H ds hl => ?_) ?_ W base args ds gs before hval (glOk hL) (Nat.le_refl _) hz hW
  · rw [Try.params8] at hl
    match ds, hl with
    | [d0, d1], _ => rfl
  · rintro xs hl ⟨ms, hm, _, h⟩ hsz
    rw [Try.params8] at hl h
    match xs, ms, hl, hm with
    | [x0, x1], [m0, m1], _, _ =>
      have hby : Try.prog.bytesOf 67 = 104 := by kernel_rfl
      obtain ⟨c, rfl, _, hlim⟩ := list_ofP Try.underlying57 (fun y k hy => et_of Try.underlying67 rfl Try.underlying9 (fun x m hx => (ty_of Try.underlying25 rfl Try.underlying3 Try.underlying9 Try.underlying22 Try.underlying23 hx).1 rfl) hy) (h 0 57 x0 m0 rfl rfl rfl)
      have hcl := hsz 0 57 67 _ (by rw [Try.params8]; rfl) Try.underlying57 rfl
      rw [hby, List.length_map] at hcl
      have hcl : c.length ≤ 1400000000000 := by simp only [reachBytes] at hcl; omega
      obtain ⟨ns, rfl, hnl, _⟩ := strs_of Try.underlying9 Try.underlying22 (h 1 22 x1 m1 rfl rfl rfl)
      exact ok_law13_ContextSplits c ns hcl hlim hnl

theorem lifted (os : Os) (started : os.Started) (H : Type) (enc : TypeId × Value → H) (F : Stop.Interp) :
    ReturnsInHanded {} Try.checked os 8 .any ((OpenSpec.ofChange Rows.contextSplitsSpec).preRow enc Try.prog Try.f8 Rows.contextSplitsRow.domain false Rows.contextSplitsRow.laid) (((OpenSpec.ofChange Rows.contextSplitsSpec).at F).post enc Try.prog Try.f8 false true false false) := by
  obtain ⟨places, hx⟩ := reads os enc
  refine returnsInHanded_of_row (C := Try.checked) (s := OpenSpec.ofChange Rows.contextSplitsSpec) own started (by kernel_rfl) Try.func8
    (witness_row_at (enc := enc) (C := Try.checked) false (laidWorld os) #[Value.slice none 0 0, Value.slice none 0 0] rfl (by kernel_rfl) (by kernel_rfl) (by kernel_rfl)
      (OpenSpec.preRow_of_cond 8 hx (by kernel_rfl) (fun k hk => by cases hk) (by kernel_rfl) (laid_met os))) ?_
  intro W base args ds gs before hval hW _ _ hz hL _ _
  exact contract H enc W base args ds gs before hval hW hz hL

theorem said : Rows.ContextSplitsSaid :=
  OpenClaim.holds_of_cond 8 Try.f8 rfl rfl rfl rfl rfl rfl rfl ⟨rfl, rfl, rfl, rfl, rfl⟩ rfl rfl rfl rfl rfl (by kernel_rfl) Try.func8 (by kernel_rfl)
    (of_decide_eq_true (by kernel_rfl)) (by unfold Func.isWrapper; first | (rw [if_pos (by decide +kernel)]; kernel_rfl) | (rw [if_neg (by decide +kernel)]; exact ⟨rfl, rfl⟩))
    (fun os started H enc _ F => by rw [OpenClaim.pre_eq_preRow]; exact lifted os started H enc F)

end Go.Proofs.Ytlemfbmaineigaa.Tx
namespace Go.Proofs.Ytlemfbmaineigaa
/-- A context is split as the reference implementation does; each live entry is in exactly one part, and each other one in both: for every input. -/
theorem contextSplits_holds : Rows.ContextSplitsSaid := Tx.said
end Go.Proofs.Ytlemfbmaineigaa
#print axioms Go.Proofs.Ytlemfbmaineigaa.contextSplits_holds
