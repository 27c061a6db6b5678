/- The law MonitorDuals: true for every input; its frame (the row, its witness, its card). -/
import Derived.Test.YtchedinkkliogaaDoorDAwake21
import Derived.Test.YtchedinkkliogaaDoorWk107
import Derived.Test.YtchedinkkliogaaDoorRows
import Derived.Test.YtchedinkkliogaaDoorCards
import Derived.Test.YtchedinkkliogaaDoorTie
import Derived.Deep.DeepHandedRow
import Derived.ProofKit
import Derived.WalkKit
set_option linter.all false
namespace Go.Proofs.YtchedinkkliogaaDoor.Tx
open Go.Lf Go.Lf.S Go.Lf.Duo
open Go.ChangeShapes Go.WideShapes Go.ChangeAt Go.RowKit
set_option maxRecDepth 100000
theorem own : ownKnob Tryd.prog.godebug = none := by kernel_rfl
theorem laidOut : laidOutB Tryd.prog = true := by kernel_rfl
theorem gTab0 : Tryd.prog.globalNamed "duologue/dual.duals" = some 1 := by kernel_rfl
theorem gTabType0 : (Tryd.prog.globals[1]?).map (·.type) = some 76 := by kernel_rfl
theorem cellsT0 : Tryd.prog.cellsOf 76 = 8 := by kernel_rfl
theorem cellsE0 : Tryd.prog.cellsOf 3 = 1 := by kernel_rfl
theorem gTab1 : Tryd.prog.globalNamed "duologue/monitor.given" = some 0 := by kernel_rfl
theorem gTabType1 : (Tryd.prog.globals[0]?).map (·.type) = some 68 := by kernel_rfl
theorem cellsT1 : Tryd.prog.cellsOf 68 = 2 := by kernel_rfl
theorem cellsE1 : Tryd.prog.cellsOf 3 = 1 := by kernel_rfl
theorem laid_tail {P : Program} {x : String × DataW Unit} {r : List (String × DataW Unit)} {w : World} (h : laidMet P (x :: r) w) : laidMet P r w := by
  obtain ⟨ps, ⟨g, t, cs, fuel, p, q, _, _, _, _, hr, rfl⟩, hn, hh⟩ := h
  exact ⟨q, hr, (List.nodup_append.1 hn).2.1, fun b off hm => hh b off (List.mem_append_right _ hm)⟩
theorem glOk {W : World} (h : laidMetH Tryd.prog Rows.monitorDualsRow.laid W) : GlOk (fun b _ => b < W.heap.size) W := by
  have ht0 : Lib.TabIs Tryd.prog W "duologue/dual.duals" .i64 [0, 1, 2, 3, 5, 4, 7, 6] := Lib.tabIs_of_head (rest := _) gTab0 gTabType0 Tryd.underlying76 Tryd.underlying3 cellsE0 cellsT0 h
  have ht1 : Lib.TabIs Tryd.prog W "duologue/monitor.given" .i64 [4, 6] := Lib.tabIs_of_head (rest := _) gTab1 gTabType1 Tryd.underlying68 Tryd.underlying3 cellsE1 cellsT1 (laid_tail h)
  intro e he
  simp only [Gl.l, List.mem_cons, List.not_mem_nil, or_false] at he
  rcases he with rfl | rfl
  · exact gl_ints ht1 gTab1 (by decide)
  · exact gl_ints ht0 gTab0 (by decide)
noncomputable def laidWorld (os : Os) : World :=
  { World.holding Tryd.prog os ⟨#[], #[], []⟩ with heap := (((World.holding Tryd.prog os ⟨#[], #[], []⟩).heap.modify 1 fun
      | .cells _ t frozen => .cells #[.int .i64 0, .int .i64 1, .int .i64 2, .int .i64 3, .int .i64 5, .int .i64 4, .int .i64 7, .int .i64 6] t frozen
      | o => o).modify 0 fun
      | .cells _ t frozen => .cells #[.int .i64 4, .int .i64 6] t frozen
      | o => o) }
theorem laid_met (os : Os) : laidMet Tryd.prog Rows.monitorDualsRow.laid ((laidWorld os).forCall (fun _ _ => 0) ⟨#[], #[Value.agg #[.int .i64 0, .int .i64 0, .string ByteArray.empty, .int .i64 0, .slice none 0 0, .slice none 0 0], Value.slice none 0 0], []⟩).memory :=
  laidMet_of_run' 8 (by kernel_rfl) (by kernel_rfl)
theorem reads (os : Os) {H : Type} (enc : TypeId × Value → H) : ∃ places, DataW.whole enc Tryd.prog ((laidWorld os).forCall (fun _ _ => 0) ⟨#[], #[Value.agg #[.int .i64 0, .int .i64 0, .string ByteArray.empty, .int .i64 0, .slice none 0 0, .slice none 0 0], Value.slice none 0 0], []⟩).memory Tryd.f3.params.toList Rows.monitorDualsSpec.vars false #[Value.agg #[.int .i64 0, .int .i64 0, .string ByteArray.empty, .int .i64 0, .slice none 0 0, .slice none 0 0], Value.slice none 0 0].toList 8 = some ([.agg [.lit (.int .i64 0), .lit (.int .i64 0), .lit (.string []), .lit (.int .i64 0), .nil, .nil], .nil], [], places) :=
  ⟨[], by kernel_rfl⟩

theorem contract (H : Type) (enc : TypeId × Value → H) (W : World) (base : Nat) (args : Array Value) (ds gs : List (DataW H)) (before : List MemPlace)
    (hval : ∀ (j : Nat) t v, Tryd.f3.params[j]? = some t → args[j]? = some v → Value.okWide Tryd.prog W .any base t v)
    (hW : DataW.Whole enc Tryd.prog Tryd.f3.params.toList Rows.monitorDualsSpec.vars false W args.toList ds gs before) (hL : laidMetH Tryd.prog Rows.monitorDualsRow.laid W) :
    Calls Tryd.prog 3 args W fun e W' => ∃ v, e = .returned v ∧ Rows.monitorDualsSpec.post enc Tryd.prog Tryd.f3 false true false false W args v W' := by
  refine law_contract (tys := [25, 3, 9, 22, 23, 26, 37, 4, 35, 2]) (tb := 4) (m := dbulks ds) (by kernel_rfl) (by rw [Tryd.params3]; decide) (by rw [Tryd.params3]; intro t ht; simp only [List.mem_cons, List.not_mem_nil, or_false] at ht; rcases ht with rfl | rfl <;> exact ⟨by kernel_rfl, of_decide_eq_true (by kernel_rfl)⟩) laidOut (by kernel_rfl) Tryd.underlying4 rfl (fun H ds hl => ?_) ?_ W base args ds gs before hval (glOk hL) (Nat.le_refl _) hW
  · rw [Tryd.params3] at hl
    match ds, hl with
    | [d0, d1], _ => rfl
  · rintro xs hl ⟨ms, hm, _, h⟩
    rw [Tryd.params3] at hl h
    match xs, ms, hl, hm with
    | [x0, x1], [m0, m1], _, _ =>
      obtain ⟨a, rfl, hla⟩ := (ty_of Tryd.underlying25 rfl Tryd.underlying3 Tryd.underlying9 Tryd.underlying22 Tryd.underlying23 (h 0 25 x0 m0 rfl rfl rfl)).1 rfl
      obtain ⟨es, rfl, hes⟩ := list_of Tryd.underlying26 (fun y k hy => ev_of Tryd.underlying37 rfl Tryd.underlying3 Tryd.underlying4 Tryd.underlying9 Tryd.underlying35 rfl Tryd.underlying2 hy) (h 1 26 x1 m1 rfl rfl rfl)
      exact ok_law21_MonitorDuals awake21 a es hla

theorem lifted (os : Os) (started : os.Started) (H : Type) (enc : TypeId × Value → H) (F : Stop.Interp) :
    ReturnsInHanded {} Tryd.checked os 3 .any ((OpenSpec.ofChange Rows.monitorDualsSpec).preRow enc Tryd.prog Tryd.f3 Rows.monitorDualsRow.domain false Rows.monitorDualsRow.laid) (((OpenSpec.ofChange Rows.monitorDualsSpec).at F).post enc Tryd.prog Tryd.f3 false true false false) := by
  obtain ⟨places, hx⟩ := reads os enc
  refine returnsInHanded_of_row (C := Tryd.checked) (s := (OpenSpec.ofChange Rows.monitorDualsSpec)) own started (by kernel_rfl) Tryd.func3
    (witness_row_at (enc := enc) (C := Tryd.checked) false (laidWorld os) #[Value.agg #[.int .i64 0, .int .i64 0, .string ByteArray.empty, .int .i64 0, .slice none 0 0, .slice none 0 0], Value.slice none 0 0] rfl (by kernel_rfl) (by kernel_rfl) (by kernel_rfl)
      (OpenSpec.preRow_of_cond 8 hx (by kernel_rfl) (fun k hk => by cases hk) (by kernel_rfl) (laid_met os))) ?_
  intro W base args ds gs before hval hW _ _ _ hL _ _
  exact contract H enc W base args ds gs before hval hW hL

theorem said : Rows.MonitorDualsSaid :=
  OpenClaim.holds_of_cond 3 Tryd.f3 rfl rfl rfl rfl rfl rfl rfl ⟨rfl, rfl, rfl, rfl, rfl⟩ rfl rfl rfl rfl rfl (by kernel_rfl) Tryd.func3 (by kernel_rfl)
    (of_decide_eq_true (by kernel_rfl)) (by unfold Func.isWrapper; first | (rw [if_pos (by decide +kernel)]; kernel_rfl) | (rw [if_neg (by decide +kernel)]; exact ⟨rfl, rfl⟩))
    (fun os started H enc _ F => by rw [OpenClaim.pre_eq_preRow]; exact lifted os started H enc F)

theorem plain (f : FuncId) (fn : Func) (hf : Tryd.pinned.checked.prog.funcNamed "duologue/duologuelaw21.MonitorDuals" = some f) (hfn : Tryd.pinned.checked.prog.funcs[f]? = some fn) :
    false = Tryd.pinned.checked.prog.looks [] ∧ ∀ (j : Nat) t, fn.params[j]? = some t → Tryd.pinned.checked.prog.wantsStandIn t = false := by
  obtain rfl : f = 3 := Option.some.inj ((show Tryd.prog.funcNamed "duologue/duologuelaw21.MonitorDuals" = some 3 by kernel_rfl).symm.trans hf) |>.symm
  obtain rfl : fn = Tryd.f3 := (Option.some.inj (Tryd.func3.symm.trans hfn)).symm
  refine ⟨by kernel_rfl, fun j t ht => ?_⟩
  rw [Tryd.params3] at ht
  have ht := Array.mem_of_getElem? ht
  simp at ht
  rcases ht with rfl | rfl
  · exact (show Tryd.prog.wantsStandIn 25 = false by kernel_rfl)
  · exact (show Tryd.prog.wantsStandIn 26 = false by kernel_rfl)

theorem card : Rows.MonitorDualsCardSaid :=
  Claim7.holds_tied_plain_at .later [] _ _ _ _ said (fun _ h => by cases h) (by kernel_rfl) (fun _ h => by cases h) monitorDuals_row_tie rfl ⟨rfl, rfl⟩ (by kernel_rfl) rfl plain (by kernel_rfl)
end Go.Proofs.YtchedinkkliogaaDoor.Tx
namespace Go.Proofs.YtchedinkkliogaaDoor
/-- A monitor for the dual type permits the events with the sender exchanged exactly if a monitor for the type permits the events: for every input. -/
theorem monitorDuals_holds : Rows.MonitorDualsCardSaid := Tx.card
end Go.Proofs.YtchedinkkliogaaDoor
#print axioms Go.Proofs.YtchedinkkliogaaDoor.monitorDuals_holds
