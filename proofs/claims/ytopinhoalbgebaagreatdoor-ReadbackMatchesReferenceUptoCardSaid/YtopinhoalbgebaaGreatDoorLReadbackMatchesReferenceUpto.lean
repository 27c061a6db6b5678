/- The law ReadbackMatchesReference: true for every input within the bound; its frame (the row, its witness, its card). -/
import Derived.Test.YtopinhoalbgebaaGreatDoorDAwake12
import Derived.Test.YtopinhoalbgebaaGreatDoorWk189
import Derived.Test.YtopinhoalbgebaaGreatDoorRows
import Derived.Test.YtopinhoalbgebaaGreatDoorCards
import Derived.Test.YtopinhoalbgebaaGreatDoorTie
import Derived.Deep.DeepHandedRow
import Derived.ProofKit
import Derived.WalkKit
set_option linter.all false
namespace Go.Proofs.YtopinhoalbgebaaGreatDoor.Tx
open Go.Lf Go.Lf.S Go.Lf.Duo
open Go.ChangeShapes Go.WideShapes Go.ChangeAt Go.RowKit
set_option maxRecDepth 100000
theorem own : ownKnob Tryz.prog.godebug = none := by kernel_rfl
theorem laidOut : laidOutB Tryz.prog = true := by kernel_rfl
theorem gTab0 : Tryz.prog.globalNamed "math/bits.deBruijn32tab" = some 3 := by kernel_rfl
theorem gTabType0 : (Tryz.prog.globals[3]?).map (·.type) = some 186 := by kernel_rfl
theorem cellsT0 : Tryz.prog.cellsOf 186 = 32 := by kernel_rfl
theorem cellsE0 : Tryz.prog.cellsOf 5 = 1 := by kernel_rfl
theorem gTab1 : Tryz.prog.globalNamed "math/bits.deBruijn64tab" = some 4 := by kernel_rfl
theorem gTabType1 : (Tryz.prog.globals[4]?).map (·.type) = some 187 := by kernel_rfl
theorem cellsT1 : Tryz.prog.cellsOf 187 = 64 := by kernel_rfl
theorem cellsE1 : Tryz.prog.cellsOf 5 = 1 := by kernel_rfl
theorem gTab2 : Tryz.prog.globalNamed "internal/strconv.uint64pow10" = some 1 := by kernel_rfl
theorem gTabType2 : (Tryz.prog.globals[1]?).map (·.type) = some 165 := by kernel_rfl
theorem cellsT2 : Tryz.prog.cellsOf 165 = 20 := by kernel_rfl
theorem cellsE2 : Tryz.prog.cellsOf 154 = 1 := by kernel_rfl
theorem laid_tail {P : Program} {x : String × DataW Unit} {r : List (String × DataW Unit)} {w : World} (h : laidMet P (x :: r) w) : laidMet P r w := by
  obtain ⟨ps, ⟨g, t, cs, fuel, p, q, _, _, _, _, hr, rfl⟩, hn, hh⟩ := h
  exact ⟨q, hr, (List.nodup_append.1 hn).2.1, fun b off hm => hh b off (List.mem_append_right _ hm)⟩
theorem glOk {W : World} (h : laidMetH Tryz.prog Rows.readbackMatchesReferenceUptoRow.laid W) : GlOk (fun b _ => b < W.heap.size) W := by
  have ht2 : Lib.TabIs Tryz.prog W "internal/strconv.uint64pow10" .u64 [1, 10, 100, 1000, 10000, 100000, 1000000, 10000000, 100000000, 1000000000, 10000000000, 100000000000, 1000000000000, 10000000000000, 100000000000000, 1000000000000000, 10000000000000000, 100000000000000000, 1000000000000000000, 10000000000000000000] := Lib.tabIs_of_head (rest := _) gTab2 gTabType2 Tryz.underlying165 Tryz.underlying154 cellsE2 cellsT2 (laid_tail (laid_tail h))
  intro e he
  obtain rfl : e = _ := List.mem_singleton.1 he
  exact gl_ints ht2 gTab2 (by decide)
noncomputable def laidWorld (os : Os) : World :=
  { World.holding Tryz.prog os ⟨#[], #[], []⟩ with heap := ((((World.holding Tryz.prog os ⟨#[], #[], []⟩).heap.modify 3 fun
      | .cells _ t frozen => .cells #[.int .u8 0, .int .u8 1, .int .u8 28, .int .u8 2, .int .u8 29, .int .u8 14, .int .u8 24, .int .u8 3, .int .u8 30, .int .u8 22, .int .u8 20, .int .u8 15, .int .u8 25, .int .u8 17, .int .u8 4, .int .u8 8, .int .u8 31, .int .u8 27, .int .u8 13, .int .u8 23, .int .u8 21, .int .u8 19, .int .u8 16, .int .u8 7, .int .u8 26, .int .u8 12, .int .u8 18, .int .u8 6, .int .u8 11, .int .u8 5, .int .u8 10, .int .u8 9] t frozen
      | o => o).modify 4 fun
      | .cells _ t frozen => .cells #[.int .u8 0, .int .u8 1, .int .u8 56, .int .u8 2, .int .u8 57, .int .u8 49, .int .u8 28, .int .u8 3, .int .u8 61, .int .u8 58, .int .u8 42, .int .u8 50, .int .u8 38, .int .u8 29, .int .u8 17, .int .u8 4, .int .u8 62, .int .u8 47, .int .u8 59, .int .u8 36, .int .u8 45, .int .u8 43, .int .u8 51, .int .u8 22, .int .u8 53, .int .u8 39, .int .u8 33, .int .u8 30, .int .u8 24, .int .u8 18, .int .u8 12, .int .u8 5, .int .u8 63, .int .u8 55, .int .u8 48, .int .u8 27, .int .u8 60, .int .u8 41, .int .u8 37, .int .u8 16, .int .u8 46, .int .u8 35, .int .u8 44, .int .u8 21, .int .u8 52, .int .u8 32, .int .u8 23, .int .u8 11, .int .u8 54, .int .u8 26, .int .u8 40, .int .u8 15, .int .u8 34, .int .u8 20, .int .u8 31, .int .u8 10, .int .u8 25, .int .u8 14, .int .u8 19, .int .u8 9, .int .u8 13, .int .u8 8, .int .u8 7, .int .u8 6] t frozen
      | o => o).modify 1 fun
      | .cells _ t frozen => .cells #[.int .u64 1, .int .u64 10, .int .u64 100, .int .u64 1000, .int .u64 10000, .int .u64 100000, .int .u64 1000000, .int .u64 10000000, .int .u64 100000000, .int .u64 1000000000, .int .u64 10000000000, .int .u64 100000000000, .int .u64 1000000000000, .int .u64 10000000000000, .int .u64 100000000000000, .int .u64 1000000000000000, .int .u64 10000000000000000, .int .u64 100000000000000000, .int .u64 1000000000000000000, .int .u64 10000000000000000000] t frozen
      | o => o) }
theorem laid_met (os : Os) : laidMet Tryz.prog Rows.readbackMatchesReferenceUptoRow.laid ((laidWorld os).forCall (fun _ _ => 0) ⟨#[], #[Value.agg #[.int .i64 0, .int .i64 0, .string ByteArray.empty, .int .i64 0, .slice none 0 0, .slice none 0 0], Value.agg #[.int .i64 0, .int .i64 0, .string ByteArray.empty, .int .i64 0, .slice none 0 0, .slice none 0 0]], []⟩).memory :=
  laidMet_of_run' 8 (by kernel_rfl) (by kernel_rfl)
theorem reads (os : Os) {H : Type} (enc : TypeId × Value → H) : ∃ places, DataW.whole enc Tryz.prog ((laidWorld os).forCall (fun _ _ => 0) ⟨#[], #[Value.agg #[.int .i64 0, .int .i64 0, .string ByteArray.empty, .int .i64 0, .slice none 0 0, .slice none 0 0], Value.agg #[.int .i64 0, .int .i64 0, .string ByteArray.empty, .int .i64 0, .slice none 0 0, .slice none 0 0]], []⟩).memory Tryz.f3.params.toList Rows.readbackMatchesReferenceSpec.vars false #[Value.agg #[.int .i64 0, .int .i64 0, .string ByteArray.empty, .int .i64 0, .slice none 0 0, .slice none 0 0], Value.agg #[.int .i64 0, .int .i64 0, .string ByteArray.empty, .int .i64 0, .slice none 0 0, .slice none 0 0]].toList 8 = some ([.agg [.lit (.int .i64 0), .lit (.int .i64 0), .lit (.string []), .lit (.int .i64 0), .nil, .nil], .agg [.lit (.int .i64 0), .lit (.int .i64 0), .lit (.string []), .lit (.int .i64 0), .nil, .nil]], [], places) :=
  ⟨[], by kernel_rfl⟩

mutual
theorem bulk_le {H : Type} : ∀ d : DataW H, dbulk d ≤ Rows.uptoBulk d
  | .lit l => by cases l <;> simp [dbulk, Rows.uptoBulk]
  | .nil => by simp [dbulk, Rows.uptoBulk]
  | .ptr d => by simp [dbulk, Rows.uptoBulk]
  | .slice es sp => by
    have h1 := bulks_le es
    have h2 := bulks_le sp
    simp only [dbulk, Rows.uptoBulk]; omega
  | .agg ps => by
    have h1 := bulks_le ps
    simp only [dbulk, Rows.uptoBulk]; omega
  | .iface _ d => by simp [dbulk, Rows.uptoBulk]
  | .map es => by simp [dbulk, Rows.uptoBulk]
  | .held _ => by simp [dbulk, Rows.uptoBulk]
theorem bulks_le {H : Type} : ∀ l : List (DataW H), dbulks l ≤ Rows.uptoBulkAll l
  | [] => by simp [dbulks, Rows.uptoBulkAll]
  | d :: r => by
    have h1 := bulk_le d
    have h2 := bulks_le r
    simp only [dbulks, Rows.uptoBulkAll]; omega
end
theorem bulks_app {H : Type} (l r : List (DataW H)) : Rows.uptoBulkAll l ≤ Rows.uptoBulkAll (l ++ r) := by
  induction l with
  | nil => simp [Rows.uptoBulkAll]
  | cons x l ih => simp only [List.cons_append, Rows.uptoBulkAll]; omega
theorem dbulks_upto {H : Type} {ds gs : List (DataW H)} (h : Rows.uptoSmall H (ds ++ gs) = true) : dbulks ds ≤ 1048576 := by
  have h1 : Rows.uptoBulkAll (ds ++ gs) ≤ 1048576 := of_decide_eq_true h
  have h2 := bulks_le ds
  have h3 := bulks_app ds gs
  omega
theorem contract (H : Type) (enc : TypeId × Value → H) (W : World) (base : Nat) (args : Array Value) (ds gs : List (DataW H)) (before : List MemPlace)
    (hval : ∀ (j : Nat) t v, Tryz.f3.params[j]? = some t → args[j]? = some v → Value.okWide Tryz.prog W .any base t v)
    (hW : DataW.Whole enc Tryz.prog Tryz.f3.params.toList Rows.readbackMatchesReferenceSpec.vars false W args.toList ds gs before) (hcond : Rows.uptoSmall H (ds ++ gs) = true) (hL : laidMetH Tryz.prog Rows.readbackMatchesReferenceUptoRow.laid W) :
    Calls Tryz.prog 3 args W fun e W' => ∃ v, e = .returned v ∧ Rows.readbackMatchesReferenceSpec.post enc Tryz.prog Tryz.f3 false true false false W args v W' := by
  refine law_contract (tys := [25, 3, 9, 22, 23]) (tb := 4) (m := 1048576) (by kernel_rfl) (by rw [Tryz.params3]; decide) (by rw [Tryz.params3]; intro t ht; simp only [List.mem_cons, List.not_mem_nil, or_false] at ht; rcases ht with rfl | rfl <;> exact ⟨by kernel_rfl, of_decide_eq_true (by kernel_rfl)⟩) laidOut (by kernel_rfl) Tryz.underlying4 rfl (fun H ds hl => ?_) ?_ W base args ds gs before hval (glOk hL) (dbulks_upto hcond) hW
  · rw [Tryz.params3] at hl
    match ds, hl with
    | [d0, d1], _ => rfl
  · rintro xs hl ⟨ms, hm, hs, h⟩
    rw [Tryz.params3] at hl h
    match xs, ms, hl, hm, hs with
    | [x0, x1], [m0, m1], _, _, hs =>
      obtain ⟨a, rfl, hla, hwa⟩ := (ty_ofW Tryz.underlying25 rfl Tryz.underlying3 Tryz.underlying9 Tryz.underlying22 Tryz.underlying23 (h 0 25 x0 m0 rfl rfl rfl)).1 rfl
      obtain ⟨b, rfl, hlb, hwb⟩ := (ty_ofW Tryz.underlying25 rfl Tryz.underlying3 Tryz.underlying9 Tryz.underlying22 Tryz.underlying23 (h 1 25 x1 m1 rfl rfl rfl)).1 rfl
      have hm1 : m1 ≤ 1048576 := by simp at hs; omega
      exact ok_law12_ReadbackMatchesReference awake12 a b hla hlb (by omega)

theorem lifted (os : Os) (started : os.Started) (H : Type) (enc : TypeId × Value → H) (F : Stop.Interp) :
    ReturnsInHanded {} Tryz.checked os 3 .any ((Rows.OpenSpec.upto Rows.readbackMatchesReferenceSpec).preRow enc Tryz.prog Tryz.f3 Rows.readbackMatchesReferenceUptoRow.domain false Rows.readbackMatchesReferenceUptoRow.laid) (((Rows.OpenSpec.upto Rows.readbackMatchesReferenceSpec).at F).post enc Tryz.prog Tryz.f3 false true false false) := by
  obtain ⟨places, hx⟩ := reads os enc
  refine returnsInHanded_of_row (C := Tryz.checked) (s := (Rows.OpenSpec.upto Rows.readbackMatchesReferenceSpec)) own started (by kernel_rfl) Tryz.func3
    (witness_row_at (enc := enc) (C := Tryz.checked) false (laidWorld os) #[Value.agg #[.int .i64 0, .int .i64 0, .string ByteArray.empty, .int .i64 0, .slice none 0 0, .slice none 0 0], Value.agg #[.int .i64 0, .int .i64 0, .string ByteArray.empty, .int .i64 0, .slice none 0 0, .slice none 0 0]] rfl (by kernel_rfl) (by kernel_rfl) (by kernel_rfl)
      (OpenSpec.preRow_of_cond 8 hx (by kernel_rfl) (fun k hk => by obtain rfl : Rows.uptoSmall = k := Option.some.inj hk; kernel_rfl) (by kernel_rfl) (laid_met os))) ?_
  intro W base args ds gs before hval hW _ hc _ hL _ _
  exact contract H enc W base args ds gs before hval hW (hc _ rfl) hL

theorem said : Rows.ReadbackMatchesReferenceUptoSaid :=
  OpenClaim.holds_of_cond 3 Tryz.f3 rfl rfl rfl rfl rfl rfl rfl ⟨rfl, rfl, rfl, rfl, rfl⟩ rfl rfl rfl rfl rfl (by kernel_rfl) Tryz.func3 (by kernel_rfl)
    (of_decide_eq_true (by kernel_rfl)) (by unfold Func.isWrapper; first | (rw [if_pos (by decide +kernel)]; kernel_rfl) | (rw [if_neg (by decide +kernel)]; exact ⟨rfl, rfl⟩))
    (fun os started H enc _ F => by rw [OpenClaim.pre_eq_preRow]; exact lifted os started H enc F)

theorem plain (f : FuncId) (fn : Func) (hf : Tryz.pinned.checked.prog.funcNamed "duologue/duologuelaw12.ReadbackMatchesReference" = some f) (hfn : Tryz.pinned.checked.prog.funcs[f]? = some fn) :
    true = Tryz.pinned.checked.prog.looks [] ∧ ∀ (j : Nat) t, fn.params[j]? = some t → Tryz.pinned.checked.prog.wantsStandIn t = false := by
  obtain rfl : f = 3 := Option.some.inj ((show Tryz.prog.funcNamed "duologue/duologuelaw12.ReadbackMatchesReference" = some 3 by kernel_rfl).symm.trans hf) |>.symm
  obtain rfl : fn = Tryz.f3 := (Option.some.inj (Tryz.func3.symm.trans hfn)).symm
  refine ⟨by kernel_rfl, fun j t ht => ?_⟩
  rw [Tryz.params3] at ht
  have ht := Array.mem_of_getElem? ht
  simp at ht
  rcases ht with rfl
  · exact (show Tryz.prog.wantsStandIn 25 = false by kernel_rfl)

theorem card : Rows.ReadbackMatchesReferenceUptoCardSaid :=
  Claim7.holds_tied_plain_at .later [] _ _ _ _ said (fun _ h => by cases h) (by kernel_rfl) (fun _ h => by cases h) readbackMatchesReferenceUpto_row_tie rfl ⟨rfl, rfl⟩ (by kernel_rfl) rfl plain (by kernel_rfl)
end Go.Proofs.YtopinhoalbgebaaGreatDoor.Tx
namespace Go.Proofs.YtopinhoalbgebaaGreatDoor
/-- Right types have the normal trees, and texts, of the reference implementation: for every input within the bound. -/
theorem readbackMatchesReferenceUpto_holds : Rows.ReadbackMatchesReferenceUptoCardSaid := Tx.card
end Go.Proofs.YtopinhoalbgebaaGreatDoor
#print axioms Go.Proofs.YtopinhoalbgebaaGreatDoor.readbackMatchesReferenceUpto_holds
