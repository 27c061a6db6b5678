/- The fixed results of law 13 are as its awake asks: by evaluation, with the least priorities from their contract. -/
import Derived.Test.YtlemfbmaineigaaWk31
set_option linter.all false
namespace Go.Proofs.Ytlemfbmaineigaa.Tx
open Go.Lf Go.Lf.S Go.Lf.Duo
set_option maxRecDepth 100000
def ds13 : List Nd := [⟨3, 0, [], []⟩, ⟨4, 3, [], [⟨2, 0⟩, ⟨3, 0⟩]⟩, ⟨1, 0, [], []⟩, ⟨3, 0, [], []⟩]
def es13 : List En := [⟨⟨#[97]⟩, ⟨0, 0⟩⟩, ⟨⟨#[98]⟩, ⟨1, 0⟩⟩]
def gr13 : PV := .agg [.sl (ds13.map Nd.enc)]
def cx13 : PV := .sl (es13.map En.enc)
theorem in13 : ∀ e ∈ es13, InG ds13 e.r := by
  intro e he
  simp only [es13, List.mem_cons, List.not_mem_nil, or_false] at he
  rcases he with rfl | rfl <;> exact ⟨by decide, by decide⟩
def ex13 : List (Nat × List PV × PV) := [(F.context_Lowest, [gr13, cx13, .str ⟨#[97]⟩], .tup [i 3, .bool true]), (F.context_Lowest, [gr13, cx13, .str ⟨#[98]⟩], .tup [i 0, .bool false])]
theorem ex13Ok : ExOk P ex13 := ⟨ok_context_Lowest ds13 es13 ⟨#[97]⟩ (by decide) in13, ok_context_Lowest ds13 es13 ⟨#[98]⟩ (by decide) in13, trivial⟩
theorem good13 (n : Nat) : GoodEv P (evEx ex13 tb tbS 100000 n).1 (evEx ex13 tb tbS 100000 n).2 := evEx_good ex13Ok allOk allOkS n
theorem awake13 : Ok P F.law13_awake [] (.bool true) := (good13 60).1 _ [] _ (by kernel_rfl)
end Go.Proofs.Ytlemfbmaineigaa.Tx
