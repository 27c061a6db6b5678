/- The law ProctreeKeeps: true for every input within the bound; its frame (the row, its witness, its card). -/
import Derived.Test.YtjekkidhbnkiaaaDoorDAwake03
import Derived.Test.YtjekkidhbnkiaaaDoorWk215
import Derived.Test.YtjekkidhbnkiaaaDoorRows
import Derived.Test.YtjekkidhbnkiaaaDoorCards
import Derived.Test.YtjekkidhbnkiaaaDoorTie
import Derived.Deep.DeepHandedRow
import Derived.ProofKit
import Derived.WalkKit
set_option linter.all false
namespace Go.Proofs.YtjekkidhbnkiaaaDoor.Tx
open Go.Lf Go.Lf.S Go.Lf.Duo
open Go.ChangeShapes Go.WideShapes Go.ChangeAt Go.RowKit
set_option maxRecDepth 100000
theorem own : ownKnob Tryd.prog.godebug = none := by kernel_rfl
theorem laidOut : laidOutB Tryd.prog = true := by kernel_rfl
theorem gTab0 : Tryd.prog.globalNamed "duologue/lex.keywords" = some 0 := by kernel_rfl
theorem gTabType0 : (Tryd.prog.globals[0]?).map (·.type) = some 101 := by kernel_rfl
theorem cellsT0 : Tryd.prog.cellsOf 101 = 10 := by kernel_rfl
theorem cellsE0 : Tryd.prog.cellsOf 9 = 1 := by kernel_rfl
theorem glOk {W : World} (h : laidMetH Tryd.prog Rows.proctreeKeepsUptoRow.laid W) : GlOk (fun b _ => b < W.heap.size) W := by
 have ht0 : StrsIs Tryd.prog W "duologue/lex.keywords" [[100, 101, 102], [109, 97, 105, 110], [115, 116, 111, 112], [110, 101, 119], [105, 110, 116], [98, 111, 111, 108], [101, 110, 100], [114, 101, 99], [116, 114, 117, 101], [102, 97, 108, 115, 101]] := strsIs_of_head (rest := _) gTab0 gTabType0 Tryd.underlying101 Tryd.underlying9 cellsE0 cellsT0 h
 refine ⟨Nat.zero_le _, ?_⟩
 intro e he
 obtain rfl : e = _ := List.mem_singleton.1 he
 exact gl_strs ht0 gTab0 (by decide)
noncomputable def laidWorld (os : Os) : World :=
  { World.holding Tryd.prog os ⟨#[], #[], []⟩ with heap := ((World.holding Tryd.prog os ⟨#[], #[], []⟩).heap.modify 0 fun
      | .cells _ t frozen => .cells #[.string ⟨#[100, 101, 102]⟩, .string ⟨#[109, 97, 105, 110]⟩, .string ⟨#[115, 116, 111, 112]⟩, .string ⟨#[110, 101, 119]⟩, .string ⟨#[105, 110, 116]⟩, .string ⟨#[98, 111, 111, 108]⟩, .string ⟨#[101, 110, 100]⟩, .string ⟨#[114, 101, 99]⟩, .string ⟨#[116, 114, 117, 101]⟩, .string ⟨#[102, 97, 108, 115, 101]⟩] t frozen
      | o => o) }
theorem laid_met (os : Os) : laidMet Tryd.prog Rows.proctreeKeepsUptoRow.laid ((laidWorld os).forCall (fun _ _ => 0) ⟨#[], #[Value.agg #[.int .i64 0, .string ByteArray.empty, .string ByteArray.empty, .slice none 0 0, .slice none 0 0, .int .i64 0, .int .i64 0, .string ByteArray.empty, .int .i64 0, .slice none 0 0, .slice none 0 0, .slice none 0 0]], []⟩).memory :=
 laidMet_of_run' 8 (by kernel_rfl) (by kernel_rfl)
theorem reads (os : Os) {H : Type} (enc : TypeId × Value → H) : ∃ places, DataW.whole enc Tryd.prog ((laidWorld os).forCall (fun _ _ => 0) ⟨#[], #[Value.agg #[.int .i64 0, .string ByteArray.empty, .string ByteArray.empty, .slice none 0 0, .slice none 0 0, .int .i64 0, .int .i64 0, .string ByteArray.empty, .int .i64 0, .slice none 0 0, .slice none 0 0, .slice none 0 0]], []⟩).memory Tryd.f5.params.toList Rows.proctreeKeepsSpec.vars false #[Value.agg #[.int .i64 0, .string ByteArray.empty, .string ByteArray.empty, .slice none 0 0, .slice none 0 0, .int .i64 0, .int .i64 0, .string ByteArray.empty, .int .i64 0, .slice none 0 0, .slice none 0 0, .slice none 0 0]].toList 8 = some ([.agg [.lit (.int .i64 0), .lit (.string []), .lit (.string []), .nil, .nil, .agg [.lit (.int .i64 0), .lit (.int .i64 0), .lit (.string []), .lit (.int .i64 0), .nil, .nil], .nil]], [], places) :=
 ⟨[], by kernel_rfl⟩
mutual
theorem bulk_le {H : Type} : ∀ d : DataW H, dbulk d ≤ Rows.uptoBulk d
 | .lit l => by cases l <;> simp [dbulk, Rows.uptoBulk]
 | .nil => by simp [dbulk, Rows.uptoBulk]
 | .ptr d => by simp [dbulk, Rows.uptoBulk]
 | .slice es sp => by
  have h1 := bulks_le es
  have h2 := bulks_le sp
  simp only [dbulk, Rows.uptoBulk]; omega
 | .agg ps => by
  have h1 := bulks_le ps
  simp only [dbulk, Rows.uptoBulk]; omega
 | .iface _ d => by simp [dbulk, Rows.uptoBulk]
 | .map es => by simp [dbulk, Rows.uptoBulk]
 | .held _ => by simp [dbulk, Rows.uptoBulk]
theorem bulks_le {H : Type} : ∀ l : List (DataW H), dbulks l ≤ Rows.uptoBulkAll l
 | [] => by simp [dbulks, Rows.uptoBulkAll]
 | d :: r => by
  have h1 := bulk_le d
  have h2 := bulks_le r
  simp only [dbulks, Rows.uptoBulkAll]; omega
end
theorem bulks_app {H : Type} (l r : List (DataW H)) : Rows.uptoBulkAll l ≤ Rows.uptoBulkAll (l ++ r) := by
 induction l with
 | nil => simp [Rows.uptoBulkAll]
 | cons x l ih => simp only [List.cons_append, Rows.uptoBulkAll]; omega
theorem dbulks_upto {H : Type} {ds gs : List (DataW H)} (h : Rows.uptoSmall H (ds ++ gs) = true) : dbulks ds ≤ 1048576 := by
 have h1 : Rows.uptoBulkAll (ds ++ gs) ≤ 1048576 := of_decide_eq_true h
 have h2 := bulks_le ds
 have h3 := bulks_app ds gs
 omega
theorem contract (H : Type) (enc : TypeId × Value → H) (W : World) (base : Nat) (args : Array Value) (ds gs : List (DataW H)) (before : List MemPlace)
  (hval : ∀ (j : Nat) t v, Tryd.f5.params[j]? = some t → args[j]? = some v → Value.okWide Tryd.prog W .any base t v)
  (hW : DataW.Whole enc Tryd.prog Tryd.f5.params.toList Rows.proctreeKeepsSpec.vars false W args.toList ds gs before) (hcond : Rows.uptoSmall H (ds ++ gs) = true) (hL : laidMetH Tryd.prog Rows.proctreeKeepsUptoRow.laid W) :
  Calls Tryd.prog 5 args W fun e W' => ∃ v, e = .returned v ∧ Rows.proctreeKeepsSpec.post enc Tryd.prog Tryd.f5 false true false false W args v W' := by
 refine law_contract (tys := [29, 3, 9, 22, 23, 46, 2, 27, 26, 24]) (tb := 4) (m := 1048576) (by kernel_rfl) (by rw [Tryd.params5]; decide) (by rw [Tryd.params5]; intro t ht; simp only [List.mem_cons, List.not_mem_nil, or_false] at ht; rcases ht with rfl <;> exact ⟨by kernel_rfl, of_decide_eq_true (by kernel_rfl)⟩) laidOut (by kernel_rfl) Tryd.underlying4 rfl (fun H ds hl => ?_) ?_ W base args ds gs before hval (glOk hL) (dbulks_upto hcond) hW
 ·rw [Tryd.params5] at hl
  match ds, hl with
  | [d0], _ => rfl
 ·rintro xs hl ⟨ms, hm, hs, h⟩
  rw [Tryd.params5] at hl h
  match xs, ms, hl, hm, hs with
  | [x0], [m0], _, _, hs =>
   have hm0 : m0 ≤ 1048576 := by simp at hs; omega
   have hB := bd_of (h 0 29 x0 m0 rfl rfl rfl) 1048576 hm0
   obtain ⟨p, rfl, hlp⟩ := (pr_of Tryd.underlying29 rfl Tryd.underlying3 Tryd.underlying9 Tryd.underlying22 Tryd.underlying23 Tryd.underlying46 rfl Tryd.underlying2 Tryd.underlying27 (fun x m hx => (ty_of Tryd.underlying26 rfl Tryd.underlying3 Tryd.underlying9 Tryd.underlying22 Tryd.underlying24 hx).1 rfl) (h 0 29 x0 m0 rfl rfl rfl)).1 rfl
   exact ok_law03_ProctreeKeeps awake03 p hlp (pbd_of p hB)
theorem lifted (os : Os) (started : os.Started) (H : Type) (enc : TypeId × Value → H) (F : Stop.Interp) :
  ReturnsInHanded {} Tryd.checked os 5 .any ((Rows.OpenSpec.upto Rows.proctreeKeepsSpec).preRow enc Tryd.prog Tryd.f5 Rows.proctreeKeepsUptoRow.domain false Rows.proctreeKeepsUptoRow.laid) (((Rows.OpenSpec.upto Rows.proctreeKeepsSpec).at F).post enc Tryd.prog Tryd.f5 false true false false) := by
 obtain ⟨places, hx⟩ := reads os enc
 refine returnsInHanded_of_row (C := Tryd.checked) (s := (Rows.OpenSpec.upto Rows.proctreeKeepsSpec)) own started (by kernel_rfl) Tryd.func5
  (witness_row_at (enc := enc) (C := Tryd.checked) false (laidWorld os) #[Value.agg #[.int .i64 0, .string ByteArray.empty, .string ByteArray.empty, .slice none 0 0, .slice none 0 0, .int .i64 0, .int .i64 0, .string ByteArray.empty, .int .i64 0, .slice none 0 0, .slice none 0 0, .slice none 0 0]] rfl (by kernel_rfl) (by kernel_rfl) (by kernel_rfl)
   (OpenSpec.preRow_of_cond 8 hx (by kernel_rfl) (fun k hk => by obtain rfl : Rows.uptoSmall = k := Option.some.inj hk; kernel_rfl) (by kernel_rfl) (laid_met os))) ?_
 intro W base args ds gs before hval hW _ hc _ hL _ _
 exact contract H enc W base args ds gs before hval hW (hc _ rfl) hL
theorem said : Rows.ProctreeKeepsUptoSaid :=
 OpenClaim.holds_of_cond 5 Tryd.f5 rfl rfl rfl rfl rfl rfl rfl ⟨rfl, rfl, rfl, rfl, rfl⟩ rfl rfl rfl rfl rfl (by kernel_rfl) Tryd.func5 (by kernel_rfl)
  (of_decide_eq_true (by kernel_rfl)) (by unfold Func.isWrapper; first | (rw [if_pos (by decide +kernel)]; kernel_rfl) | (rw [if_neg (by decide +kernel)]; exact ⟨rfl, rfl⟩))
  (fun os started H enc _ F => by rw [OpenClaim.pre_eq_preRow]; exact lifted os started H enc F)
theorem plain (f : FuncId) (fn : Func) (hf : Tryd.pinned.checked.prog.funcNamed "duologue/duologuelaw03.ProctreeKeeps" = some f) (hfn : Tryd.pinned.checked.prog.funcs[f]? = some fn) :
  false = Tryd.pinned.checked.prog.looks [] ∧ ∀ (j : Nat) t, fn.params[j]? = some t → Tryd.pinned.checked.prog.wantsStandIn t = false := by
 obtain rfl : f = 5 := Option.some.inj ((show Tryd.prog.funcNamed "duologue/duologuelaw03.ProctreeKeeps" = some 5 by kernel_rfl).symm.trans hf) |>.symm
 obtain rfl : fn = Tryd.f5 := (Option.some.inj (Tryd.func5.symm.trans hfn)).symm
 refine ⟨by kernel_rfl, fun j t ht => ?_⟩
 rw [Tryd.params5] at ht
 have ht := Array.mem_of_getElem? ht
 simp at ht
 rcases ht with rfl
 ·exact (show Tryd.prog.wantsStandIn 29 = false by kernel_rfl)
theorem card : Rows.ProctreeKeepsUptoCardSaid :=
 Claim7.holds_tied_plain_at .later [] _ _ _ _ said (fun _ h => by cases h) (by kernel_rfl) (fun _ h => by cases h) proctreeKeepsUpto_row_tie rfl ⟨rfl, rfl⟩ (by kernel_rfl) rfl plain (by kernel_rfl)
end Go.Proofs.YtjekkidhbnkiaaaDoor.Tx
namespace Go.Proofs.YtjekkidhbnkiaaaDoor
/-- A copy of a process is the same, and changing it does not change the process: for every input within the bound. -/
theorem proctreeKeepsUpto_holds : Rows.ProctreeKeepsUptoCardSaid := Tx.card
end Go.Proofs.YtjekkidhbnkiaaaDoor
#print axioms Go.Proofs.YtjekkidhbnkiaaaDoor.proctreeKeepsUpto_holds
