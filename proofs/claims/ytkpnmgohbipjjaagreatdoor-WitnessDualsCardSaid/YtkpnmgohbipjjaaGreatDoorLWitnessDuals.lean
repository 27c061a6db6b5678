/- The law WitnessDuals: true for every input; its frame (the row, its witness, its card). -/
import Derived.Test.YtkpnmgohbipjjaaGreatDoorDAwake26
import Derived.Test.YtkpnmgohbipjjaaGreatDoorWk207
import Derived.Test.YtkpnmgohbipjjaaGreatDoorRows
import Derived.Test.YtkpnmgohbipjjaaGreatDoorCards
import Derived.Test.YtkpnmgohbipjjaaGreatDoorTie
import Derived.Deep.DeepHandedRow
import Derived.ProofKit
import Derived.WalkKit
set_option linter.all false
namespace Go.Proofs.YtkpnmgohbipjjaaGreatDoor.Tx
open Go.Lf Go.Lf.S Go.Lf.Duo
open Go.ChangeShapes Go.WideShapes Go.ChangeAt Go.RowKit
set_option maxRecDepth 100000
theorem own : ownKnob Tryz.prog.godebug = none := by kernel_rfl
theorem laidOut : laidOutB Tryz.prog = true := by kernel_rfl
theorem gTab0 : Tryz.prog.globalNamed "math/bits.deBruijn32tab" = some 3 := by kernel_rfl
theorem gTabType0 : (Tryz.prog.globals[3]?).map (·.type) = some 320 := by kernel_rfl
theorem cellsT0 : Tryz.prog.cellsOf 320 = 32 := by kernel_rfl
theorem cellsE0 : Tryz.prog.cellsOf 5 = 1 := by kernel_rfl
theorem gTab1 : Tryz.prog.globalNamed "math/bits.deBruijn64tab" = some 4 := by kernel_rfl
theorem gTabType1 : (Tryz.prog.globals[4]?).map (·.type) = some 321 := by kernel_rfl
theorem cellsT1 : Tryz.prog.cellsOf 321 = 64 := by kernel_rfl
theorem cellsE1 : Tryz.prog.cellsOf 5 = 1 := by kernel_rfl
theorem gTab2 : Tryz.prog.globalNamed "internal/strconv.uint64pow10" = some 2 := by kernel_rfl
theorem gTabType2 : (Tryz.prog.globals[2]?).map (·.type) = some 301 := by kernel_rfl
theorem cellsT2 : Tryz.prog.cellsOf 301 = 20 := by kernel_rfl
theorem cellsE2 : Tryz.prog.cellsOf 181 = 1 := by kernel_rfl
theorem gTab3 : Tryz.prog.globalNamed "duologue/dual.duals" = some 0 := by kernel_rfl
theorem gTabType3 : (Tryz.prog.globals[0]?).map (·.type) = some 230 := by kernel_rfl
theorem cellsT3 : Tryz.prog.cellsOf 230 = 8 := by kernel_rfl
theorem cellsE3 : Tryz.prog.cellsOf 3 = 1 := by kernel_rfl
theorem gTab4 : Tryz.prog.globalNamed "duologue/lex.keywords" = some 1 := by kernel_rfl
theorem gTabType4 : (Tryz.prog.globals[1]?).map (·.type) = some 287 := by kernel_rfl
theorem cellsT4 : Tryz.prog.cellsOf 287 = 10 := by kernel_rfl
theorem cellsE4 : Tryz.prog.cellsOf 9 = 1 := by kernel_rfl
theorem laid_tail {P : Program} {x : String × DataW Unit} {r : List (String × DataW Unit)} {w : World} (h : laidMet P (x :: r) w) : laidMet P r w := by
 obtain ⟨ps, ⟨g, t, cs, fuel, p, q, _, _, _, _, hr, rfl⟩, hn, hh⟩ := h
 exact ⟨q, hr, (List.nodup_append.1 hn).2.1, fun b off hm => hh b off (List.mem_append_right _ hm)⟩
theorem glOk {W : World} (h : laidMetH Tryz.prog Rows.witnessDualsRow.laid W) : GlOk (fun b _ => b < W.heap.size) W := by
 have ht2 : Lib.TabIs Tryz.prog W "internal/strconv.uint64pow10" .u64 [1, 10, 100, 1000, 10000, 100000, 1000000, 10000000, 100000000, 1000000000, 10000000000, 100000000000, 1000000000000, 10000000000000, 100000000000000, 1000000000000000, 10000000000000000, 100000000000000000, 1000000000000000000, 10000000000000000000] := Lib.tabIs_of_head (rest := _) gTab2 gTabType2 Tryz.underlying301 Tryz.underlying181 cellsE2 cellsT2 (laid_tail (laid_tail h))
 have ht3 : Lib.TabIs Tryz.prog W "duologue/dual.duals" .i64 [0, 1, 2, 3, 5, 4, 7, 6] := Lib.tabIs_of_head (rest := _) gTab3 gTabType3 Tryz.underlying230 Tryz.underlying3 cellsE3 cellsT3 (laid_tail (laid_tail (laid_tail h)))
 have ht4 : StrsIs Tryz.prog W "duologue/lex.keywords" [[100, 101, 102], [109, 97, 105, 110], [115, 116, 111, 112], [110, 101, 119], [105, 110, 116], [98, 111, 111, 108], [101, 110, 100], [114, 101, 99], [116, 114, 117, 101], [102, 97, 108, 115, 101]] := strsIs_of_head (rest := _) gTab4 gTabType4 Tryz.underlying287 Tryz.underlying9 cellsE4 cellsT4 (laid_tail (laid_tail (laid_tail (laid_tail h))))
 intro e he
 simp only [Gl.l, List.mem_cons, List.not_mem_nil, or_false] at he
 rcases he with rfl | rfl | rfl
 ·exact gl_ints ht3 gTab3 (by decide)
 ·exact gl_strs ht4 gTab4 (by decide)
 ·exact gl_ints ht2 gTab2 (by decide)
noncomputable def laidWorld (os : Os) : World :=
  { World.holding Tryz.prog os ⟨#[], #[], []⟩ with heap := ((((((World.holding Tryz.prog os ⟨#[], #[], []⟩).heap.modify 3 fun
      | .cells _ t frozen => .cells #[.int .u8 0, .int .u8 1, .int .u8 28, .int .u8 2, .int .u8 29, .int .u8 14, .int .u8 24, .int .u8 3, .int .u8 30, .int .u8 22, .int .u8 20, .int .u8 15, .int .u8 25, .int .u8 17, .int .u8 4, .int .u8 8, .int .u8 31, .int .u8 27, .int .u8 13, .int .u8 23, .int .u8 21, .int .u8 19, .int .u8 16, .int .u8 7, .int .u8 26, .int .u8 12, .int .u8 18, .int .u8 6, .int .u8 11, .int .u8 5, .int .u8 10, .int .u8 9] t frozen
      | o => o).modify 4 fun
      | .cells _ t frozen => .cells #[.int .u8 0, .int .u8 1, .int .u8 56, .int .u8 2, .int .u8 57, .int .u8 49, .int .u8 28, .int .u8 3, .int .u8 61, .int .u8 58, .int .u8 42, .int .u8 50, .int .u8 38, .int .u8 29, .int .u8 17, .int .u8 4, .int .u8 62, .int .u8 47, .int .u8 59, .int .u8 36, .int .u8 45, .int .u8 43, .int .u8 51, .int .u8 22, .int .u8 53, .int .u8 39, .int .u8 33, .int .u8 30, .int .u8 24, .int .u8 18, .int .u8 12, .int .u8 5, .int .u8 63, .int .u8 55, .int .u8 48, .int .u8 27, .int .u8 60, .int .u8 41, .int .u8 37, .int .u8 16, .int .u8 46, .int .u8 35, .int .u8 44, .int .u8 21, .int .u8 52, .int .u8 32, .int .u8 23, .int .u8 11, .int .u8 54, .int .u8 26, .int .u8 40, .int .u8 15, .int .u8 34, .int .u8 20, .int .u8 31, .int .u8 10, .int .u8 25, .int .u8 14, .int .u8 19, .int .u8 9, .int .u8 13, .int .u8 8, .int .u8 7, .int .u8 6] t frozen
      | o => o).modify 2 fun
      | .cells _ t frozen => .cells #[.int .u64 1, .int .u64 10, .int .u64 100, .int .u64 1000, .int .u64 10000, .int .u64 100000, .int .u64 1000000, .int .u64 10000000, .int .u64 100000000, .int .u64 1000000000, .int .u64 10000000000, .int .u64 100000000000, .int .u64 1000000000000, .int .u64 10000000000000, .int .u64 100000000000000, .int .u64 1000000000000000, .int .u64 10000000000000000, .int .u64 100000000000000000, .int .u64 1000000000000000000, .int .u64 10000000000000000000] t frozen
      | o => o).modify 0 fun
      | .cells _ t frozen => .cells #[.int .i64 0, .int .i64 1, .int .i64 2, .int .i64 3, .int .i64 5, .int .i64 4, .int .i64 7, .int .i64 6] t frozen
      | o => o).modify 1 fun
      | .cells _ t frozen => .cells #[.string ⟨#[100, 101, 102]⟩, .string ⟨#[109, 97, 105, 110]⟩, .string ⟨#[115, 116, 111, 112]⟩, .string ⟨#[110, 101, 119]⟩, .string ⟨#[105, 110, 116]⟩, .string ⟨#[98, 111, 111, 108]⟩, .string ⟨#[101, 110, 100]⟩, .string ⟨#[114, 101, 99]⟩, .string ⟨#[116, 114, 117, 101]⟩, .string ⟨#[102, 97, 108, 115, 101]⟩] t frozen
      | o => o) }
theorem laid_met (os : Os) : laidMet Tryz.prog Rows.witnessDualsRow.laid ((laidWorld os).forCall (fun _ _ => 0) ⟨#[], #[Value.agg #[.int .i64 0, .int .i64 0, .string ByteArray.empty, .int .i64 0, .slice none 0 0, .slice none 0 0], Value.int .i64 0, Value.int .u8 0], []⟩).memory :=
 laidMet_of_run' 8 (by kernel_rfl) (by kernel_rfl)
theorem reads (os : Os) {H : Type} (enc : TypeId × Value → H) : ∃ places, DataW.whole enc Tryz.prog ((laidWorld os).forCall (fun _ _ => 0) ⟨#[], #[Value.agg #[.int .i64 0, .int .i64 0, .string ByteArray.empty, .int .i64 0, .slice none 0 0, .slice none 0 0], Value.int .i64 0, Value.int .u8 0], []⟩).memory Tryz.f6.params.toList Rows.witnessDualsSpec.vars false #[Value.agg #[.int .i64 0, .int .i64 0, .string ByteArray.empty, .int .i64 0, .slice none 0 0, .slice none 0 0], Value.int .i64 0, Value.int .u8 0].toList 8 = some ([.agg [.lit (.int .i64 0), .lit (.int .i64 0), .lit (.string []), .lit (.int .i64 0), .nil, .nil], .lit (.int .i64 0), .lit (.int .u8 0)], [], places) :=
 ⟨[], by kernel_rfl⟩
theorem contract (H : Type) (enc : TypeId × Value → H) (W : World) (base : Nat) (args : Array Value) (ds gs : List (DataW H)) (before : List MemPlace)
  (hval : ∀ (j : Nat) t v, Tryz.f6.params[j]? = some t → args[j]? = some v → Value.okWide Tryz.prog W .any base t v)
  (hW : DataW.Whole enc Tryz.prog Tryz.f6.params.toList Rows.witnessDualsSpec.vars false W args.toList ds gs before) (hL : laidMetH Tryz.prog Rows.witnessDualsRow.laid W) :
  Calls Tryz.prog 6 args W fun e W' => ∃ v, e = .returned v ∧ Rows.witnessDualsSpec.post enc Tryz.prog Tryz.f6 false true false false W args v W' := by
 refine law_contract (tys := [25, 3, 9, 22, 23, 5]) (tb := 4) (m := dbulks ds) (by kernel_rfl) (by rw [Tryz.params6]; decide) (by rw [Tryz.params6]; intro t ht; simp only [List.mem_cons, List.not_mem_nil, or_false] at ht; rcases ht with rfl | rfl | rfl <;> exact ⟨by kernel_rfl, of_decide_eq_true (by kernel_rfl)⟩) laidOut (by kernel_rfl) Tryz.underlying4 rfl (fun H ds hl => ?_) ?_ W base args ds gs before hval (glOk hL) (Nat.le_refl _) hW
 ·rw [Tryz.params6] at hl
  match ds, hl with
  | [d0, d1, d2], _ => rfl
 ·rintro xs hl ⟨ms, hm, _, h⟩
  rw [Tryz.params6] at hl h
  match xs, ms, hl, hm with
  | [x0, x1, x2], [m0, m1, m2], _, _ =>
   obtain ⟨a, rfl, hla⟩ := (ty_of Tryz.underlying25 rfl Tryz.underlying3 Tryz.underlying9 Tryz.underlying22 Tryz.underlying23 (h 0 25 x0 m0 rfl rfl rfl)).1 rfl
   obtain ⟨c, rfl, hc0, hc1⟩ := hasT_int Tryz.underlying3 (h 1 3 x1 m1 rfl rfl rfl)
   have hc0 : (-9223372036854775808 : Int) ≤ c := hc0
   have hc1 : c ≤ (9223372036854775807 : Int) := hc1
   obtain ⟨p, rfl, hp0, hp1⟩ := hasT_int Tryz.underlying5 (h 2 5 x2 m2 rfl rfl rfl)
   have hp0 : (0 : Int) ≤ p := hp0
   have hp1 : p ≤ (255 : Int) := hp1
   exact ok_law26_WitnessDuals awake26 a hla c ⟨hc0, hc1⟩ p hp0 hp1
theorem lifted (os : Os) (started : os.Started) (H : Type) (enc : TypeId × Value → H) (F : Stop.Interp) :
  ReturnsInHanded {} Tryz.checked os 6 .any ((OpenSpec.ofChange Rows.witnessDualsSpec).preRow enc Tryz.prog Tryz.f6 Rows.witnessDualsRow.domain false Rows.witnessDualsRow.laid) (((OpenSpec.ofChange Rows.witnessDualsSpec).at F).post enc Tryz.prog Tryz.f6 false true false false) := by
 obtain ⟨places, hx⟩ := reads os enc
 refine returnsInHanded_of_row (C := Tryz.checked) (s := (OpenSpec.ofChange Rows.witnessDualsSpec)) own started (by kernel_rfl) Tryz.func6
  (witness_row_at (enc := enc) (C := Tryz.checked) false (laidWorld os) #[Value.agg #[.int .i64 0, .int .i64 0, .string ByteArray.empty, .int .i64 0, .slice none 0 0, .slice none 0 0], Value.int .i64 0, Value.int .u8 0] rfl (by kernel_rfl) (by kernel_rfl) (by kernel_rfl)
   (OpenSpec.preRow_of_cond 8 hx (by kernel_rfl) (fun k hk => by cases hk) (by kernel_rfl) (laid_met os))) ?_
 intro W base args ds gs before hval hW _ _ _ hL _ _
 exact contract H enc W base args ds gs before hval hW hL
theorem said : Rows.WitnessDualsSaid :=
 OpenClaim.holds_of_cond 6 Tryz.f6 rfl rfl rfl rfl rfl rfl rfl ⟨rfl, rfl, rfl, rfl, rfl⟩ rfl rfl rfl rfl rfl (by kernel_rfl) Tryz.func6 (by kernel_rfl)
  (of_decide_eq_true (by kernel_rfl)) (by unfold Func.isWrapper; first | (rw [if_pos (by decide +kernel)]; kernel_rfl) | (rw [if_neg (by decide +kernel)]; exact ⟨rfl, rfl⟩))
  (fun os started H enc _ F => by rw [OpenClaim.pre_eq_preRow]; exact lifted os started H enc F)
theorem plain (f : FuncId) (fn : Func) (hf : Tryz.pinned.checked.prog.funcNamed "duologue/duologuelaw26.WitnessDuals" = some f) (hfn : Tryz.pinned.checked.prog.funcs[f]? = some fn) :
  true = Tryz.pinned.checked.prog.looks [] ∧ ∀ (j : Nat) t, fn.params[j]? = some t → Tryz.pinned.checked.prog.wantsStandIn t = false := by
 obtain rfl : f = 6 := Option.some.inj ((show Tryz.prog.funcNamed "duologue/duologuelaw26.WitnessDuals" = some 6 by kernel_rfl).symm.trans hf) |>.symm
 obtain rfl : fn = Tryz.f6 := (Option.some.inj (Tryz.func6.symm.trans hfn)).symm
 refine ⟨by kernel_rfl, fun j t ht => ?_⟩
 rw [Tryz.params6] at ht
 have ht := Array.mem_of_getElem? ht
 simp at ht
 rcases ht with rfl | rfl | rfl
 ·exact (show Tryz.prog.wantsStandIn 25 = false by kernel_rfl)
 ·exact (show Tryz.prog.wantsStandIn 3 = false by kernel_rfl)
 ·exact (show Tryz.prog.wantsStandIn 5 = false by kernel_rfl)
theorem card : Rows.WitnessDualsCardSaid :=
 Claim7.holds_tied_plain_at .later [] _ _ _ _ said (fun _ h => by cases h) (by kernel_rfl) (fun _ h => by cases h) witnessDuals_row_tie rfl ⟨rfl, rfl⟩ (by kernel_rfl) rfl plain (by kernel_rfl)
end Go.Proofs.YtkpnmgohbipjjaaGreatDoor.Tx
namespace Go.Proofs.YtkpnmgohbipjjaaGreatDoor
/-- The trace of the dual of a simple type is that of the type with the senders exchanged: for every input. -/
theorem witnessDuals_holds : Rows.WitnessDualsCardSaid := Tx.card
end Go.Proofs.YtkpnmgohbipjjaaGreatDoor
#print axioms Go.Proofs.YtkpnmgohbipjjaaGreatDoor.witnessDuals_holds
