/- The law HeadRaises: true for every input; its frame (the row, its witness). -/
import Derived.Test.YtodomlcjppdgfaaDAwake08
import Derived.Test.YtodomlcjppdgfaaWk114
import Derived.Test.YtodomlcjppdgfaaRows
import Derived.Deep.DeepHandedRow
import Derived.ProofKit
import Derived.WalkKit
set_option linter.all false
namespace Go.Proofs.Ytodomlcjppdgfaa.Tx
open Go.Lf Go.Lf.S Go.Lf.Duo
open Go.ChangeShapes Go.WideShapes Go.ChangeAt Go.RowKit
set_option maxRecDepth 100000
theorem own : ownKnob Try.prog.godebug = none := by kernel_rfl
theorem laidOut : laidOutB Try.prog = true := by kernel_rfl
theorem glOk {W : World} (h : laidMetH Try.prog Rows.headRaisesRow.laid W) : GlOk (fun b _ => b < W.heap.size) W := fun e he => by cases he
noncomputable def laidWorld (os : Os) : World := World.holding Try.prog os ⟨#[], #[], []⟩
theorem laid_met (os : Os) : laidMet Try.prog Rows.headRaisesRow.laid ((laidWorld os).forCall (fun _ _ => 0) ⟨#[], #[Value.slice none 0 0, Value.int .i16 0, Value.slice none 0 0], []⟩).memory :=
  laidMet_of_run' 8 (by kernel_rfl) (by kernel_rfl)
theorem reads (os : Os) {H : Type} (enc : TypeId × Value → H) : ∃ places, DataW.whole enc Try.prog ((laidWorld os).forCall (fun _ _ => 0) ⟨#[], #[Value.slice none 0 0, Value.int .i16 0, Value.slice none 0 0], []⟩).memory Try.f7.params.toList Rows.headRaisesSpec.vars false #[Value.slice none 0 0, Value.int .i16 0, Value.slice none 0 0].toList 8 = some ([.nil, .lit (.int .i16 0), .nil], [], places) :=
  ⟨[], by kernel_rfl⟩

theorem contract (H : Type) (enc : TypeId × Value → H) (W : World) (base : Nat) (args : Array Value) (ds gs : List (DataW H)) (before : List MemPlace)
    (hval : ∀ (j : Nat) t v, Try.f7.params[j]? = some t → args[j]? = some v → Value.okWide Try.prog W .any base t v)
    (hW : DataW.Whole enc Try.prog Try.f7.params.toList Rows.headRaisesSpec.vars false W args.toList ds gs before) (hL : laidMetH Try.prog Rows.headRaisesRow.laid W) :
    Calls Try.prog 7 args W fun e W' => ∃ v, e = .returned v ∧ Rows.headRaisesSpec.post enc Try.prog Try.f7 false true false false W args v W' := by
  refine law_contract (tys := [47, 3, 9, 45, 22, 60, 42]) (tb := 4) (m := dbulks ds) (by kernel_rfl) (by rw [Try.params7]; decide) (by rw [Try.params7]; intro t ht; simp only [List.mem_cons, List.not_mem_nil, or_false] at ht; rcases ht with rfl | rfl | rfl <;> exact ⟨by kernel_rfl, of_decide_eq_true (by kernel_rfl)⟩) laidOut (by kernel_rfl) Try.underlying4 rfl (fun H ds hl => ?_) ?_ W base args ds gs before hval (glOk hL) (Nat.le_refl _) hW
  · rw [Try.params7] at hl
    match ds, hl with
    | [d0, d1, d2], _ => rfl
  · rintro xs hl ⟨ms, hm, _, h⟩
    rw [Try.params7] at hl h
    match xs, ms, hl, hm with
    | [x0, x1, x2], [m0, m1, m2], _, _ =>
      obtain ⟨l, rfl, hll, hlim⟩ := (ty_of Try.underlying47 rfl Try.underlying3 Try.underlying9 Try.underlying45 Try.underlying22 (h 0 22 x0 m0 rfl rfl rfl)).2 rfl
      obtain ⟨k, rfl, hk0, hk1⟩ := hasT_int Try.underlying60 (h 1 60 x1 m1 rfl rfl rfl)
      have hk0 : (-32768 : Int) ≤ k := hk0
      have hk1 : k ≤ (32767 : Int) := hk1
      obtain ⟨ps, rfl, hps⟩ := list_of (f := Go.Lf.S.i) Try.underlying42 (fun y k hy => by obtain ⟨n, rfl, _⟩ := hasT_int Try.underlying3 hy; exact ⟨n, rfl⟩) (h 2 42 x2 m2 rfl rfl rfl)
      exact ok_law08_HeadRaises awake08 l k ps hk0 hk1 hll hlim

theorem lifted (os : Os) (started : os.Started) (H : Type) (enc : TypeId × Value → H) (F : Stop.Interp) :
    ReturnsInHanded {} Try.checked os 7 .any ((OpenSpec.ofChange Rows.headRaisesSpec).preRow enc Try.prog Try.f7 Rows.headRaisesRow.domain false Rows.headRaisesRow.laid) (((OpenSpec.ofChange Rows.headRaisesSpec).at F).post enc Try.prog Try.f7 false true false false) := by
  obtain ⟨places, hx⟩ := reads os enc
  refine returnsInHanded_of_row (C := Try.checked) (s := (OpenSpec.ofChange Rows.headRaisesSpec)) own started (by kernel_rfl) Try.func7
    (witness_row_at (enc := enc) (C := Try.checked) false (laidWorld os) #[Value.slice none 0 0, Value.int .i16 0, Value.slice none 0 0] rfl (by kernel_rfl) (by kernel_rfl) (by kernel_rfl)
      (OpenSpec.preRow_of_cond 8 hx (by kernel_rfl) (fun k hk => by cases hk) (by kernel_rfl) (laid_met os))) ?_
  intro W base args ds gs before hval hW _ _ _ hL _ _
  exact contract H enc W base args ds gs before hval hW hL

theorem said : Rows.HeadRaisesSaid :=
  OpenClaim.holds_of_cond 7 Try.f7 rfl rfl rfl rfl rfl rfl rfl ⟨rfl, rfl, rfl, rfl, rfl⟩ rfl rfl rfl rfl rfl (by kernel_rfl) Try.func7 (by kernel_rfl)
    (of_decide_eq_true (by kernel_rfl)) (by unfold Func.isWrapper; first | (rw [if_pos (by decide +kernel)]; kernel_rfl) | (rw [if_neg (by decide +kernel)]; exact ⟨rfl, rfl⟩))
    (fun os started H enc _ F => by rw [OpenClaim.pre_eq_preRow]; exact lifted os started H enc F)

end Go.Proofs.Ytodomlcjppdgfaa.Tx
namespace Go.Proofs.Ytodomlcjppdgfaa
/-- Raising a reference raises the references behind it, and the least priority of raised references is raised: for every input. -/
theorem headRaises_holds : Rows.HeadRaisesSaid := Tx.said
end Go.Proofs.Ytodomlcjppdgfaa
#print axioms Go.Proofs.Ytodomlcjppdgfaa.headRaises_holds
