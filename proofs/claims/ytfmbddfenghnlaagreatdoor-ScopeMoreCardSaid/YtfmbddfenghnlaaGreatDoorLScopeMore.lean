/- The law ScopeMore: true for every input; its frame (the row, its witness, its card). -/
import Derived.Test.YtfmbddfenghnlaaGreatDoorDAwake06
import Derived.Test.YtfmbddfenghnlaaGreatDoorWk158
import Derived.Test.YtfmbddfenghnlaaGreatDoorRows
import Derived.Test.YtfmbddfenghnlaaGreatDoorCards
import Derived.Test.YtfmbddfenghnlaaGreatDoorTie
import Derived.Deep.DeepHandedRow
import Derived.ProofKit
import Derived.WalkKit
set_option linter.all false
namespace Go.Proofs.YtfmbddfenghnlaaGreatDoor.Tx
open Go.Lf Go.Lf.S Go.Lf.Duo
open Go.ChangeShapes Go.WideShapes Go.ChangeAt Go.RowKit
set_option maxRecDepth 100000
theorem own : ownKnob Tryz.prog.godebug = none := by kernel_rfl
theorem laidOut : laidOutB Tryz.prog = true := by kernel_rfl
theorem gTab0 : Tryz.prog.globalNamed "duologue/lex.keywords" = some 0 := by kernel_rfl
theorem gTabType0 : (Tryz.prog.globals[0]?).map (·.type) = some 117 := by kernel_rfl
theorem cellsT0 : Tryz.prog.cellsOf 117 = 10 := by kernel_rfl
theorem cellsE0 : Tryz.prog.cellsOf 9 = 1 := by kernel_rfl
theorem glOk {W : World} (h : laidMetH Tryz.prog Rows.scopeMoreRow.laid W) : GlOk (fun b _ => b < W.heap.size) W := by
  have ht0 : StrsIs Tryz.prog W "duologue/lex.keywords" [[100, 101, 102], [109, 97, 105, 110], [115, 116, 111, 112], [110, 101, 119], [105, 110, 116], [98, 111, 111, 108], [101, 110, 100], [114, 101, 99], [116, 114, 117, 101], [102, 97, 108, 115, 101]] := strsIs_of_head (rest := _) gTab0 gTabType0 Tryz.underlying117 Tryz.underlying9 cellsE0 cellsT0 h
  intro e he
  obtain rfl : e = _ := List.mem_singleton.1 he
  exact gl_strs ht0 gTab0 (by decide)
noncomputable def laidWorld (os : Os) : World :=
  { World.holding Tryz.prog os ⟨#[], #[], []⟩ with heap := ((World.holding Tryz.prog os ⟨#[], #[], []⟩).heap.modify 0 fun
      | .cells _ t frozen => .cells #[.string ⟨#[100, 101, 102]⟩, .string ⟨#[109, 97, 105, 110]⟩, .string ⟨#[115, 116, 111, 112]⟩, .string ⟨#[110, 101, 119]⟩, .string ⟨#[105, 110, 116]⟩, .string ⟨#[98, 111, 111, 108]⟩, .string ⟨#[101, 110, 100]⟩, .string ⟨#[114, 101, 99]⟩, .string ⟨#[116, 114, 117, 101]⟩, .string ⟨#[102, 97, 108, 115, 101]⟩] t frozen
      | o => o) }
theorem laid_met (os : Os) : laidMet Tryz.prog Rows.scopeMoreRow.laid ((laidWorld os).forCall (fun _ _ => 0) ⟨#[], #[Value.agg #[.slice none 0 0, .int .i64 0, .string ByteArray.empty, .string ByteArray.empty, .slice none 0 0, .slice none 0 0, .int .i64 0, .int .i64 0, .string ByteArray.empty, .int .i64 0, .slice none 0 0, .slice none 0 0, .slice none 0 0], Value.string ByteArray.empty], []⟩).memory :=
  laidMet_of_run' 8 (by kernel_rfl) (by kernel_rfl)
theorem reads (os : Os) {H : Type} (enc : TypeId × Value → H) : ∃ places, DataW.whole enc Tryz.prog ((laidWorld os).forCall (fun _ _ => 0) ⟨#[], #[Value.agg #[.slice none 0 0, .int .i64 0, .string ByteArray.empty, .string ByteArray.empty, .slice none 0 0, .slice none 0 0, .int .i64 0, .int .i64 0, .string ByteArray.empty, .int .i64 0, .slice none 0 0, .slice none 0 0, .slice none 0 0], Value.string ByteArray.empty], []⟩).memory Tryz.f6.params.toList Rows.scopeMoreSpec.vars false #[Value.agg #[.slice none 0 0, .int .i64 0, .string ByteArray.empty, .string ByteArray.empty, .slice none 0 0, .slice none 0 0, .int .i64 0, .int .i64 0, .string ByteArray.empty, .int .i64 0, .slice none 0 0, .slice none 0 0, .slice none 0 0], Value.string ByteArray.empty].toList 8 = some ([.agg [.nil, .agg [.lit (.int .i64 0), .lit (.string []), .lit (.string []), .nil, .nil, .agg [.lit (.int .i64 0), .lit (.int .i64 0), .lit (.string []), .lit (.int .i64 0), .nil, .nil], .nil]], .lit (.string [])], [], places) :=
  ⟨[], by kernel_rfl⟩

theorem contract (H : Type) (enc : TypeId × Value → H) (W : World) (base : Nat) (args : Array Value) (ds gs : List (DataW H)) (before : List MemPlace)
    (hval : ∀ (j : Nat) t v, Tryz.f6.params[j]? = some t → args[j]? = some v → Value.okWide Tryz.prog W .any base t v)
    (hW : DataW.Whole enc Tryz.prog Tryz.f6.params.toList Rows.scopeMoreSpec.vars false W args.toList ds gs before) (hL : laidMetH Tryz.prog Rows.scopeMoreRow.laid W) :
    Calls Tryz.prog 6 args W fun e W' => ∃ v, e = .returned v ∧ Rows.scopeMoreSpec.post enc Tryz.prog Tryz.f6 false true false false W args v W' := by
  refine law_contract (tys := [32, 22, 51, 49, 53, 30, 3, 9, 23, 24, 58, 2, 28, 27, 25]) (tb := 4) (m := dbulks ds) (by kernel_rfl) (by rw [Tryz.params6]; decide) (by rw [Tryz.params6]; intro t ht; simp only [List.mem_cons, List.not_mem_nil, or_false] at ht; rcases ht with rfl | rfl <;> exact ⟨by kernel_rfl, of_decide_eq_true (by kernel_rfl)⟩) laidOut (by kernel_rfl) Tryz.underlying4 rfl (fun H ds hl => ?_) ?_ W base args ds gs before hval (glOk hL) (Nat.le_refl _) hW
  · rw [Tryz.params6] at hl
    match ds, hl with
    | [d0, d1], _ => rfl
  · rintro xs hl ⟨ms, hm, _, h⟩
    rw [Tryz.params6] at hl h
    match xs, ms, hl, hm with
    | [x0, x1], [m0, m1], _, _ =>
      obtain ⟨p, rfl, hlp⟩ := pg_of Tryz.underlying32 rfl Tryz.underlying22 (fun x m hx => df_of Tryz.underlying51 rfl Tryz.underlying9 Tryz.underlying49 (fun x m hx => el_of Tryz.underlying53 rfl Tryz.underlying9 (fun x m hx => (ty_of Tryz.underlying27 rfl Tryz.underlying3 Tryz.underlying9 Tryz.underlying23 Tryz.underlying25 hx).1 rfl) hx) (fun x m hx => (pr_of Tryz.underlying30 rfl Tryz.underlying3 Tryz.underlying9 Tryz.underlying23 Tryz.underlying24 Tryz.underlying58 rfl Tryz.underlying2 Tryz.underlying28 (fun x m hx => (ty_of Tryz.underlying27 rfl Tryz.underlying3 Tryz.underlying9 Tryz.underlying23 Tryz.underlying25 hx).1 rfl) hx).1 rfl) hx) (fun x m hx => (pr_of Tryz.underlying30 rfl Tryz.underlying3 Tryz.underlying9 Tryz.underlying23 Tryz.underlying24 Tryz.underlying58 rfl Tryz.underlying2 Tryz.underlying28 (fun x m hx => (ty_of Tryz.underlying27 rfl Tryz.underlying3 Tryz.underlying9 Tryz.underlying23 Tryz.underlying25 hx).1 rfl) hx).1 rfl) (h 0 32 x0 m0 rfl rfl rfl)
      have hh := h 1 9 x1 m1 rfl rfl rfl
      obtain ⟨s, rfl, _⟩ := hasT_str Tryz.underlying9 hh
      exact ok_law06_ScopeMore p s hlp (hasT_bound hh)

theorem lifted (os : Os) (started : os.Started) (H : Type) (enc : TypeId × Value → H) (F : Stop.Interp) :
    ReturnsInHanded {} Tryz.checked os 6 .any ((OpenSpec.ofChange Rows.scopeMoreSpec).preRow enc Tryz.prog Tryz.f6 Rows.scopeMoreRow.domain false Rows.scopeMoreRow.laid) (((OpenSpec.ofChange Rows.scopeMoreSpec).at F).post enc Tryz.prog Tryz.f6 false true false false) := by
  obtain ⟨places, hx⟩ := reads os enc
  refine returnsInHanded_of_row (C := Tryz.checked) (s := (OpenSpec.ofChange Rows.scopeMoreSpec)) own started (by kernel_rfl) Tryz.func6
    (witness_row_at (enc := enc) (C := Tryz.checked) false (laidWorld os) #[Value.agg #[.slice none 0 0, .int .i64 0, .string ByteArray.empty, .string ByteArray.empty, .slice none 0 0, .slice none 0 0, .int .i64 0, .int .i64 0, .string ByteArray.empty, .int .i64 0, .slice none 0 0, .slice none 0 0, .slice none 0 0], Value.string ByteArray.empty] rfl (by kernel_rfl) (by kernel_rfl) (by kernel_rfl)
      (OpenSpec.preRow_of_cond 8 hx (by kernel_rfl) (fun k hk => by cases hk) (by kernel_rfl) (laid_met os))) ?_
  intro W base args ds gs before hval hW _ _ _ hL _ _
  exact contract H enc W base args ds gs before hval hW hL

theorem said : Rows.ScopeMoreSaid :=
  OpenClaim.holds_of_cond 6 Tryz.f6 rfl rfl rfl rfl rfl rfl rfl ⟨rfl, rfl, rfl, rfl, rfl⟩ rfl rfl rfl rfl rfl (by kernel_rfl) Tryz.func6 (by kernel_rfl)
    (of_decide_eq_true (by kernel_rfl)) (by unfold Func.isWrapper; first | (rw [if_pos (by decide +kernel)]; kernel_rfl) | (rw [if_neg (by decide +kernel)]; exact ⟨rfl, rfl⟩))
    (fun os started H enc _ F => by rw [OpenClaim.pre_eq_preRow]; exact lifted os started H enc F)

theorem plain (f : FuncId) (fn : Func) (hf : Tryz.pinned.checked.prog.funcNamed "duologue/duologuelaw06.ScopeMore" = some f) (hfn : Tryz.pinned.checked.prog.funcs[f]? = some fn) :
    true = Tryz.pinned.checked.prog.looks [] ∧ ∀ (j : Nat) t, fn.params[j]? = some t → Tryz.pinned.checked.prog.wantsStandIn t = false := by
  obtain rfl : f = 6 := Option.some.inj ((show Tryz.prog.funcNamed "duologue/duologuelaw06.ScopeMore" = some 6 by kernel_rfl).symm.trans hf) |>.symm
  obtain rfl : fn = Tryz.f6 := (Option.some.inj (Tryz.func6.symm.trans hfn)).symm
  refine ⟨by kernel_rfl, fun j t ht => ?_⟩
  rw [Tryz.params6] at ht
  have ht := Array.mem_of_getElem? ht
  simp at ht
  rcases ht with rfl | rfl
  · exact (show Tryz.prog.wantsStandIn 32 = false by kernel_rfl)
  · exact (show Tryz.prog.wantsStandIn 9 = false by kernel_rfl)

theorem card : Rows.ScopeMoreCardSaid :=
  Claim7.holds_tied_plain_at .later [] _ _ _ _ said (fun _ h => by cases h) (by kernel_rfl) (fun _ h => by cases h) scopeMore_row_tie rfl ⟨rfl, rfl⟩ (by kernel_rfl) rfl plain (by kernel_rfl)
end Go.Proofs.YtfmbddfenghnlaaGreatDoor.Tx
namespace Go.Proofs.YtfmbddfenghnlaaGreatDoor
/-- A further definition with a new name, which nobody calls and whose body is stop, changes no fault but its place, if the program stays within its size: for every input. -/
theorem scopeMore_holds : Rows.ScopeMoreCardSaid := Tx.card
end Go.Proofs.YtfmbddfenghnlaaGreatDoor
#print axioms Go.Proofs.YtfmbddfenghnlaaGreatDoor.scopeMore_holds
