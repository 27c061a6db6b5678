/- The law DualPaths: true for every input; its frame (the row, its witness, its card). -/
import Derived.Test.YthlgbanhnlljkaaDoorDAwake
import Derived.Test.YthlgbanhnlljkaaDoorWk10
import Derived.Test.YthlgbanhnlljkaaDoorCards
import Derived.Test.YthlgbanhnlljkaaDoorTie
import Derived.Deep.DeepHandedRow
import Derived.ProofKit
import Derived.WalkKit
set_option linter.all false
namespace Go.Proofs.YthlgbanhnlljkaaDoor.Tx
open Go.Lf Go.Lf.S Go.Lf.Duo
open Go.ChangeShapes Go.WideShapes Go.ChangeAt Go.RowKit
set_option maxRecDepth 100000
theorem own : ownKnob Tryd.prog.godebug = none := by kernel_rfl
theorem laidOut : laidOutB Tryd.prog = true := by kernel_rfl
theorem gTab : Tryd.prog.globalNamed "duologue/dual.duals" = some 0 := by kernel_rfl
theorem gTabType : (Tryd.prog.globals[0]?).map (·.type) = some 70 := by kernel_rfl
theorem cells70 : Tryd.prog.cellsOf 70 = 8 := by kernel_rfl
theorem cells3 : Tryd.prog.cellsOf 3 = 1 := by kernel_rfl
theorem glOk {W : World} (h : laidMetH Tryd.prog Rows.dualPathsRow.laid W) : GlOk (fun b _ => b < W.heap.size) W := by
  have ht : Lib.TabIs Tryd.prog W "duologue/dual.duals" .i64 [0, 1, 2, 3, 5, 4, 7, 6] := Lib.tabIs_of_head (rest := []) gTab gTabType Tryd.underlying70 Tryd.underlying3 cells3 cells70 h
  intro e he
  obtain rfl : e = _ := List.mem_singleton.1 he
  exact gl_ints ht gTab (by decide)
noncomputable def laidWorld (os : Os) : World :=
  { World.holding Tryd.prog os ⟨#[], #[], []⟩ with heap := (World.holding Tryd.prog os ⟨#[], #[], []⟩).heap.modify 0 fun
      | .cells _ t frozen => .cells #[.int .i64 0, .int .i64 1, .int .i64 2, .int .i64 3, .int .i64 5, .int .i64 4, .int .i64 7, .int .i64 6] t frozen
      | o => o }
theorem laid_met (os : Os) : laidMet Tryd.prog Rows.dualPathsRow.laid ((laidWorld os).forCall (fun _ _ => 0) ⟨#[], #[Value.agg #[.int .i64 0, .int .i64 0, .string ByteArray.empty, .int .i64 0, .slice none 0 0, .slice none 0 0], Value.slice none 0 0], []⟩).memory :=
  laidMet_of_run' 8 (by kernel_rfl) (by kernel_rfl)
theorem reads (os : Os) {H : Type} (enc : TypeId × Value → H) : ∃ places, DataW.whole enc Tryd.prog ((laidWorld os).forCall (fun _ _ => 0) ⟨#[], #[Value.agg #[.int .i64 0, .int .i64 0, .string ByteArray.empty, .int .i64 0, .slice none 0 0, .slice none 0 0], Value.slice none 0 0], []⟩).memory Tryd.f6.params.toList Rows.dualPathsSpec.vars false #[Value.agg #[.int .i64 0, .int .i64 0, .string ByteArray.empty, .int .i64 0, .slice none 0 0, .slice none 0 0], Value.slice none 0 0].toList 8 = some ([.agg [.lit (.int .i64 0), .lit (.int .i64 0), .lit (.string []), .lit (.int .i64 0), .nil, .nil], .nil], [], places) :=
  ⟨[], by kernel_rfl⟩

theorem contract (H : Type) (enc : TypeId × Value → H) (W : World) (base : Nat) (args : Array Value) (ds gs : List (DataW H)) (before : List MemPlace)
    (hval : ∀ (j : Nat) t v, Tryd.f6.params[j]? = some t → args[j]? = some v → Value.okWide Tryd.prog W .any base t v)
    (hW : DataW.Whole enc Tryd.prog Tryd.f6.params.toList Rows.dualPathsSpec.vars false W args.toList ds gs before) (hL : laidMetH Tryd.prog Rows.dualPathsRow.laid W) :
    Calls Tryd.prog 6 args W fun e W' => ∃ v, e = .returned v ∧ Rows.dualPathsSpec.post enc Tryd.prog Tryd.f6 false true false false W args v W' := by
  refine law_contract (tys := [22, 50, 3, 9, 44, 5, 51]) (tb := 4) (m := dbulks ds) (by kernel_rfl) (by rw [Tryd.params6]; decide) (by rw [Tryd.params6]; intro t ht; simp only [List.mem_cons, List.not_mem_nil, or_false] at ht; rcases ht with rfl | rfl <;> exact ⟨by kernel_rfl, of_decide_eq_true (by kernel_rfl)⟩) laidOut (by kernel_rfl) Tryd.underlying4 rfl (fun H ds hl => ?_) ?_ W base args ds gs before hval (glOk hL) (Nat.le_refl _) hW
  · rw [Tryd.params6] at hl
    match ds, hl with
    | [d0, d1], _ => rfl
  · rintro xs hl ⟨ms, hm, _, h⟩
    rw [Tryd.params6] at hl h
    match xs, ms, hl, hm with
    | [x0, x1], [m0, m1], _, _ =>
      obtain ⟨t, rfl, hlim⟩ := (ty_of Tryd.underlying50 rfl Tryd.underlying3 Tryd.underlying9 Tryd.underlying44 Tryd.underlying22 (h 0 50 x0 m0 rfl rfl rfl)).1 rfl
      obtain ⟨ps, rfl, _, hps⟩ := bytes_of Tryd.underlying5 Tryd.underlying51 (h 1 51 x1 m1 rfl rfl rfl)
      exact ok_law09_DualPaths awake t hlim ps hps

theorem lifted (os : Os) (started : os.Started) (H : Type) (enc : TypeId × Value → H) (F : Stop.Interp) :
    ReturnsInHanded {} Tryd.checked os 6 .any ((OpenSpec.ofChange Rows.dualPathsSpec).preRow enc Tryd.prog Tryd.f6 Rows.dualPathsRow.domain false Rows.dualPathsRow.laid) (((OpenSpec.ofChange Rows.dualPathsSpec).at F).post enc Tryd.prog Tryd.f6 false true false false) := by
  obtain ⟨places, hx⟩ := reads os enc
  refine returnsInHanded_of_row (C := Tryd.checked) (s := OpenSpec.ofChange Rows.dualPathsSpec) own started (by kernel_rfl) Tryd.func6
    (witness_row_at (enc := enc) (C := Tryd.checked) false (laidWorld os) #[Value.agg #[.int .i64 0, .int .i64 0, .string ByteArray.empty, .int .i64 0, .slice none 0 0, .slice none 0 0], Value.slice none 0 0] rfl (by kernel_rfl) (by kernel_rfl) (by kernel_rfl)
      (OpenSpec.preRow_of_cond 8 hx (by kernel_rfl) (fun k hk => by cases hk) (by kernel_rfl) (laid_met os))) ?_
  intro W base args ds gs before hval hW _ _ _ hL _ _
  exact contract H enc W base args ds gs before hval hW hL

theorem said : Rows.DualPathsSaid :=
  OpenClaim.holds_of_cond 6 Tryd.f6 rfl rfl rfl rfl rfl rfl rfl ⟨rfl, rfl, rfl, rfl, rfl⟩ rfl rfl rfl rfl rfl (by kernel_rfl) Tryd.func6 (by kernel_rfl)
    (of_decide_eq_true (by kernel_rfl)) (by unfold Func.isWrapper; first | (rw [if_pos (by decide +kernel)]; kernel_rfl) | (rw [if_neg (by decide +kernel)]; exact ⟨rfl, rfl⟩))
    (fun os started H enc _ F => by rw [OpenClaim.pre_eq_preRow]; exact lifted os started H enc F)

theorem plain (f : FuncId) (fn : Func) (hf : Tryd.pinned.checked.prog.funcNamed "duologue/duologuelaw09.DualPaths" = some f) (hfn : Tryd.pinned.checked.prog.funcs[f]? = some fn) :
    false = Tryd.pinned.checked.prog.looks [] ∧ ∀ (j : Nat) t, fn.params[j]? = some t → Tryd.pinned.checked.prog.wantsStandIn t = false := by
  obtain rfl : f = 6 := Option.some.inj ((show Tryd.prog.funcNamed "duologue/duologuelaw09.DualPaths" = some 6 by kernel_rfl).symm.trans hf) |>.symm
  obtain rfl : fn = Tryd.f6 := (Option.some.inj (Tryd.func6.symm.trans hfn)).symm
  refine ⟨by kernel_rfl, fun j t ht => ?_⟩
  rw [Tryd.params6] at ht
  have ht := Array.mem_of_getElem? ht
  simp at ht
  rcases ht with rfl | rfl
  · exact (show Tryd.prog.wantsStandIn 50 = false by kernel_rfl)
  · exact (show Tryd.prog.wantsStandIn 51 = false by kernel_rfl)

theorem card : Rows.DualPathsCardSaid :=
  Claim7.holds_tied_plain_at .later [] _ _ _ _ said (fun _ h => by cases h) (by kernel_rfl) (fun _ h => by cases h) dualPaths_row_tie rfl ⟨rfl, rfl⟩ (by kernel_rfl) rfl plain (by kernel_rfl)
end Go.Proofs.YthlgbanhnlljkaaDoor.Tx
namespace Go.Proofs.YthlgbanhnlljkaaDoor
/-- Along any path of rests and labels the dual of what one comes to is what one comes to from the dual: for every input. -/
theorem dualPaths_holds : Rows.DualPathsCardSaid := Tx.card
end Go.Proofs.YthlgbanhnlljkaaDoor
#print axioms Go.Proofs.YthlgbanhnlljkaaDoor.dualPaths_holds
