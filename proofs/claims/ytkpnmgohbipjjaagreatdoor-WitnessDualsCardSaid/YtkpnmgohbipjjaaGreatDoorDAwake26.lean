/- The fixed results of law 26 are as its awake asks: by evaluation, with rules for the library's calls. -/
import Derived.Test.YtkpnmgohbipjjaaGreatDoorWk204
set_option linter.all false
namespace Go.Proofs.YtkpnmgohbipjjaaGreatDoor.Tx
open Go.Lf Go.Lf.S Go.Lf.Duo
set_option maxRecDepth 100000
def int26 : Ty := .mk 1 0 ⟨#[]⟩ 0 [] []
def end26 : Ty := .mk 3 0 ⟨#[]⟩ 0 [] []
def t26 : Ty := .mk 4 3 ⟨#[]⟩ 0 [] [int26, end26]
def r26 : Ty := .mk 5 3 ⟨#[]⟩ 0 [] [int26, end26]
def u26 : Ty := .mk 4 0 ⟨#[]⟩ 0 [] [t26, t26]
theorem wf_lit26 {k : Int} (hk : 1 ≤ k ∧ k ≤ 3) (ns : List ByteArray) (g : Nat) : Wf (.mk k 0 ⟨#[]⟩ 0 [] []) ns g := .mk _ _ _ (by simp [Wf1, Ty.kind, Ty.prio, Ty.shift, Ty.kids, Ty.labels]; omega) (fun h => by simp only [Ty.kind] at h; omega) (fun h => by simp only [Ty.kind] at h; omega) (fun _ k hk => by simp [Ty.kids] at hk)
theorem wf_t26 : Wf t26 [] 0 := .mk _ _ _ (by simp [Wf1, t26, Ty.kind, Ty.prio, Ty.shift, Ty.kids, Ty.labels]) (fun h => by simp [t26, Ty.kind] at h) (fun h => by simp [t26, Ty.kind] at h) (fun _ k hk => by
 simp only [t26, Ty.kids, List.mem_cons, List.not_mem_nil, or_false] at hk
 rcases hk with rfl | rfl
 ·exact wf_lit26 ⟨by omega, by omega⟩ _ _
 ·exact wf_lit26 ⟨by omega, by omega⟩ _ _)
theorem few26 (t : Ty) (h : t.sz ≤ 10000) : Ok P F.typetree_few [t.enc, i 10000] (.bool true) := by
 have := ok_typetree_few t (by omega) 10000 (by omega)
 rwa [decide_eq_true h] at this
def e26 : Evt := ⟨true, ⟨#[]⟩, 2, 0⟩
theorem trace26 : Ok P F.witness_Trace [t26.enc, i 0, i 9] (.sl [e26.enc]) := by
 have h := ok_Trace (t := t26) wf_t26 (by decide) 0 (by omega) 9 (by omega)
 have e : trc (cg t26) 0 9 ⟨0, 0⟩ = [e26] := by kernel_rfl
 rw [e] at h
 exact h
def ex26 : List (Nat × List PV × PV) := [(F.witness_Trace, [t26.enc, i 0, i 9], .sl [e26.enc]), (F.typetree_few, [t26.enc, i 10000], .bool true), (F.typetree_few, [r26.enc, i 10000], .bool true), (F.typetree_few, [int26.enc, i 10000], .bool true), (F.typetree_few, [end26.enc, i 10000], .bool true), (F.typetree_few, [u26.enc, i 10000], .bool true), (F.typetree_Size, [t26.enc], i 3), (F.typetree_Size, [r26.enc], i 3), (F.typetree_Size, [end26.enc], i 1)]
theorem ex26Ok : ExOk P ex26 := ⟨trace26, few26 _ (by decide), few26 _ (by decide), few26 _ (by decide), few26 _ (by decide), few26 _ (by decide), ok_typetree_Size _ (by decide), ok_typetree_Size _ (by decide), ok_typetree_Size _ (by decide), trivial⟩
theorem good26 (n : Nat) : GoodEv P (evRl (exAt ex26) xS26 tb tbS 100000 n).1 (evRl (exAt ex26) xS26 tb tbS 100000 n).2 := evRl_good (fun f xs r h => exAt_ok ex26Ok h) xS26_ok allOk allOkS n
theorem awake26 : Ok P F.law26_awake [] (.bool true) := (good26 80).1 _ [] _ (by kernel_rfl)
end Go.Proofs.YtkpnmgohbipjjaaGreatDoor.Tx
