/- The law SubtypeFits: true for every input; its frame (the row, its witness, its card). -/
import Derived.Test.YtijamnklmohjfaaDoorDAwake11
import Derived.Test.YtijamnklmohjfaaDoorWk125
import Derived.Test.YtijamnklmohjfaaDoorRows
import Derived.Test.YtijamnklmohjfaaDoorCards
import Derived.Test.YtijamnklmohjfaaDoorTie
import Derived.Deep.DeepHandedRow
import Derived.ProofKit
import Derived.WalkKit
set_option linter.all false
namespace Go.Proofs.YtijamnklmohjfaaDoor.Tx
open Go.Lf Go.Lf.S Go.Lf.Duo
open Go.ChangeShapes Go.WideShapes Go.ChangeAt Go.RowKit
set_option maxRecDepth 100000
theorem own : ownKnob Tryd.prog.godebug = none := by kernel_rfl
theorem laidOut : laidOutB Tryd.prog = true := by kernel_rfl
theorem gTab0 : Tryd.prog.globalNamed "duologue/dual.duals" = some 0 := by kernel_rfl
theorem gTabType0 : (Tryd.prog.globals[0]?).map (·.type) = some 118 := by kernel_rfl
theorem cellsT0 : Tryd.prog.cellsOf 118 = 8 := by kernel_rfl
theorem cellsE0 : Tryd.prog.cellsOf 3 = 1 := by kernel_rfl
theorem glOk {W : World} (h : laidMetH Tryd.prog Rows.subtypeFitsRow.laid W) : GlOk (fun b _ => b < W.heap.size) W := by
  have ht0 : Lib.TabIs Tryd.prog W "duologue/dual.duals" .i64 [0, 1, 2, 3, 5, 4, 7, 6] := Lib.tabIs_of_head (rest := _) gTab0 gTabType0 Tryd.underlying118 Tryd.underlying3 cellsE0 cellsT0 h
  intro e he
  obtain rfl : e = _ := List.mem_singleton.1 he
  exact gl_ints ht0 gTab0 (by decide)
noncomputable def laidWorld (os : Os) : World :=
  { World.holding Tryd.prog os ⟨#[], #[], []⟩ with heap := ((World.holding Tryd.prog os ⟨#[], #[], []⟩).heap.modify 0 fun
      | .cells _ t frozen => .cells #[.int .i64 0, .int .i64 1, .int .i64 2, .int .i64 3, .int .i64 5, .int .i64 4, .int .i64 7, .int .i64 6] t frozen
      | o => o) }
theorem laid_met (os : Os) : laidMet Tryd.prog Rows.subtypeFitsRow.laid ((laidWorld os).forCall (fun _ _ => 0) ⟨#[], #[Value.agg #[.int .i64 0, .int .i64 0, .string ByteArray.empty, .int .i64 0, .slice none 0 0, .slice none 0 0], Value.agg #[.int .i64 0, .int .i64 0, .string ByteArray.empty, .int .i64 0, .slice none 0 0, .slice none 0 0]], []⟩).memory :=
  laidMet_of_run' 8 (by kernel_rfl) (by kernel_rfl)
theorem reads (os : Os) {H : Type} (enc : TypeId × Value → H) : ∃ places, DataW.whole enc Tryd.prog ((laidWorld os).forCall (fun _ _ => 0) ⟨#[], #[Value.agg #[.int .i64 0, .int .i64 0, .string ByteArray.empty, .int .i64 0, .slice none 0 0, .slice none 0 0], Value.agg #[.int .i64 0, .int .i64 0, .string ByteArray.empty, .int .i64 0, .slice none 0 0, .slice none 0 0]], []⟩).memory Tryd.f4.params.toList Rows.subtypeFitsSpec.vars false #[Value.agg #[.int .i64 0, .int .i64 0, .string ByteArray.empty, .int .i64 0, .slice none 0 0, .slice none 0 0], Value.agg #[.int .i64 0, .int .i64 0, .string ByteArray.empty, .int .i64 0, .slice none 0 0, .slice none 0 0]].toList 8 = some ([.agg [.lit (.int .i64 0), .lit (.int .i64 0), .lit (.string []), .lit (.int .i64 0), .nil, .nil], .agg [.lit (.int .i64 0), .lit (.int .i64 0), .lit (.string []), .lit (.int .i64 0), .nil, .nil]], [], places) :=
  ⟨[], by kernel_rfl⟩

theorem contract (H : Type) (enc : TypeId × Value → H) (W : World) (base : Nat) (args : Array Value) (ds gs : List (DataW H)) (before : List MemPlace)
    (hval : ∀ (j : Nat) t v, Tryd.f4.params[j]? = some t → args[j]? = some v → Value.okWide Tryd.prog W .any base t v)
    (hW : DataW.Whole enc Tryd.prog Tryd.f4.params.toList Rows.subtypeFitsSpec.vars false W args.toList ds gs before) (hL : laidMetH Tryd.prog Rows.subtypeFitsRow.laid W) :
    Calls Tryd.prog 4 args W fun e W' => ∃ v, e = .returned v ∧ Rows.subtypeFitsSpec.post enc Tryd.prog Tryd.f4 false true false false W args v W' := by
  refine law_contract (tys := [25, 3, 9, 22, 23]) (tb := 4) (m := dbulks ds) (by kernel_rfl) (by rw [Tryd.params4]; decide) (by rw [Tryd.params4]; intro t ht; simp only [List.mem_cons, List.not_mem_nil, or_false] at ht; rcases ht with rfl | rfl <;> exact ⟨by kernel_rfl, of_decide_eq_true (by kernel_rfl)⟩) laidOut (by kernel_rfl) Tryd.underlying4 rfl (fun H ds hl => ?_) ?_ W base args ds gs before hval (glOk hL) (Nat.le_refl _) hW
  · rw [Tryd.params4] at hl
    match ds, hl with
    | [d0, d1], _ => rfl
  · rintro xs hl ⟨ms, hm, _, h⟩
    rw [Tryd.params4] at hl h
    match xs, ms, hl, hm with
    | [x0, x1], [m0, m1], _, _ =>
      obtain ⟨a, rfl, hla⟩ := (ty_of Tryd.underlying25 rfl Tryd.underlying3 Tryd.underlying9 Tryd.underlying22 Tryd.underlying23 (h 0 25 x0 m0 rfl rfl rfl)).1 rfl
      obtain ⟨b, rfl, hlb⟩ := (ty_of Tryd.underlying25 rfl Tryd.underlying3 Tryd.underlying9 Tryd.underlying22 Tryd.underlying23 (h 1 25 x1 m1 rfl rfl rfl)).1 rfl
      exact ok_law11_SubtypeFits awake11 a b hla hlb

theorem lifted (os : Os) (started : os.Started) (H : Type) (enc : TypeId × Value → H) (F : Stop.Interp) :
    ReturnsInHanded {} Tryd.checked os 4 .any ((OpenSpec.ofChange Rows.subtypeFitsSpec).preRow enc Tryd.prog Tryd.f4 Rows.subtypeFitsRow.domain false Rows.subtypeFitsRow.laid) (((OpenSpec.ofChange Rows.subtypeFitsSpec).at F).post enc Tryd.prog Tryd.f4 false true false false) := by
  obtain ⟨places, hx⟩ := reads os enc
  refine returnsInHanded_of_row (C := Tryd.checked) (s := (OpenSpec.ofChange Rows.subtypeFitsSpec)) own started (by kernel_rfl) Tryd.func4
    (witness_row_at (enc := enc) (C := Tryd.checked) false (laidWorld os) #[Value.agg #[.int .i64 0, .int .i64 0, .string ByteArray.empty, .int .i64 0, .slice none 0 0, .slice none 0 0], Value.agg #[.int .i64 0, .int .i64 0, .string ByteArray.empty, .int .i64 0, .slice none 0 0, .slice none 0 0]] rfl (by kernel_rfl) (by kernel_rfl) (by kernel_rfl)
      (OpenSpec.preRow_of_cond 8 hx (by kernel_rfl) (fun k hk => by cases hk) (by kernel_rfl) (laid_met os))) ?_
  intro W base args ds gs before hval hW _ _ _ hL _ _
  exact contract H enc W base args ds gs before hval hW hL

theorem said : Rows.SubtypeFitsSaid :=
  OpenClaim.holds_of_cond 4 Tryd.f4 rfl rfl rfl rfl rfl rfl rfl ⟨rfl, rfl, rfl, rfl, rfl⟩ rfl rfl rfl rfl rfl (by kernel_rfl) Tryd.func4 (by kernel_rfl)
    (of_decide_eq_true (by kernel_rfl)) (by unfold Func.isWrapper; first | (rw [if_pos (by decide +kernel)]; kernel_rfl) | (rw [if_neg (by decide +kernel)]; exact ⟨rfl, rfl⟩))
    (fun os started H enc _ F => by rw [OpenClaim.pre_eq_preRow]; exact lifted os started H enc F)

theorem plain (f : FuncId) (fn : Func) (hf : Tryd.pinned.checked.prog.funcNamed "duologue/duologuelaw11.SubtypeFits" = some f) (hfn : Tryd.pinned.checked.prog.funcs[f]? = some fn) :
    false = Tryd.pinned.checked.prog.looks [] ∧ ∀ (j : Nat) t, fn.params[j]? = some t → Tryd.pinned.checked.prog.wantsStandIn t = false := by
  obtain rfl : f = 4 := Option.some.inj ((show Tryd.prog.funcNamed "duologue/duologuelaw11.SubtypeFits" = some 4 by kernel_rfl).symm.trans hf) |>.symm
  obtain rfl : fn = Tryd.f4 := (Option.some.inj (Tryd.func4.symm.trans hfn)).symm
  refine ⟨by kernel_rfl, fun j t ht => ?_⟩
  rw [Tryd.params4] at ht
  have ht := Array.mem_of_getElem? ht
  simp at ht
  rcases ht with rfl
  · exact (show Tryd.prog.wantsStandIn 25 = false by kernel_rfl)

theorem card : Rows.SubtypeFitsCardSaid :=
  Claim7.holds_tied_plain_at .later [] _ _ _ _ said (fun _ h => by cases h) (by kernel_rfl) (fun _ h => by cases h) subtypeFits_row_tie rfl ⟨rfl, rfl⟩ (by kernel_rfl) rfl plain (by kernel_rfl)
end Go.Proofs.YtijamnklmohjfaaDoor.Tx
namespace Go.Proofs.YtijamnklmohjfaaDoor
/-- A type fits another one, in which no recursive variable stands in a payload, exactly if it is a subtype of the dual tree of this one: for every input. -/
theorem subtypeFits_holds : Rows.SubtypeFitsCardSaid := Tx.card
end Go.Proofs.YtijamnklmohjfaaDoor
#print axioms Go.Proofs.YtijamnklmohjfaaDoor.subtypeFits_holds
