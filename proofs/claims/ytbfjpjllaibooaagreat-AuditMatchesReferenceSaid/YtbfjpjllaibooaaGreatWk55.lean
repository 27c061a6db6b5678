/- Contracts: the error of a type, exactly, of the program and of the reference. -/
import Derived.Test.YtbfjpjllaibooaaGreatWk54
set_option linter.all false
namespace Go.Proofs.YtbfjpjllaibooaaGreat.Tx
open Go.Lf Go.Lf.S Go.Lf.Duo
set_option maxRecDepth 100000

theorem nodeE_if {k p : Int} {nm : ByteArray} {s : Int} {ls : List ByteArray} {ks : List Ty} {ses : Bool} {A B : Int} (h : shapeP (.mk k p nm s ls ks)) (hs : ses = true → sesB k = true) : (if (pb (¬ shP k p nm s ls ks.length) || (ses && !sesB k)) = true then A else B) = B := by
  have h1 : pb (¬ shP k p nm s ls ks.length) = false := pb_false.2 fun e => e h
  rw [h1]
  cases ses with
  | false => rfl
  | true => rw [hs rfl]; rfl
theorem nodeE_3 {k p : Int} {nm : ByteArray} {s : Int} {ls : List ByteArray} {ks : List Ty} {ns : List ByteArray} {g : Nat} {ses : Bool} (h : ¬ shapeP (.mk k p nm s ls ks)) : nodeE (.mk k p nm s ls ks) ns g ses = 3 := by
  have h1 : pb (¬ shP k p nm s ls ks.length) = true := pb_iff.2 h
  simp only [nodeE, h1, Bool.true_or, if_true]
theorem nodeE_3s {k p : Int} {nm : ByteArray} {s : Int} {ls : List ByteArray} {ks : List Ty} {ns : List ByteArray} {g : Nat} {ses : Bool} (hs : ses = true) (h : sesB k = false) : nodeE (.mk k p nm s ls ks) ns g ses = 3 := by
  simp only [nodeE, hs, h]
  simp
theorem nodeE_9 {k p : Int} {nm : ByteArray} {s : Int} {ls : List ByteArray} {ks : List Ty} {ns : List ByteArray} {g : Nat} {ses : Bool} (h : shapeP (.mk k p nm s ls ks)) (hs : ses = true → sesB k = true) (h9 : k = 9) :
    nodeE (.mk k p nm s ls ks) ns g ses = match lastI nm ns with
      | some q => if q < g then 0 else 3
      | none => 4 := by
  simp only [nodeE]
  rw [nodeE_if h hs, if_pos h9]
  rfl
theorem nodeE_o {k p : Int} {nm : ByteArray} {s : Int} {ls : List ByteArray} {ks : List Ty} {ns : List ByteArray} {g : Nat} {ses : Bool} (h : shapeP (.mk k p nm s ls ks)) (hs : ses = true → sesB k = true) (h9 : ¬ k = 9) :
    nodeE (.mk k p nm s ls ks) ns g ses = nodeEs ks (decide (4 ≤ k ∧ k ≤ 5)) (if k = 8 then ns ++ [nm] else ns) (if k = 8 then g else ns.length) := by
  rw [nodeE, nodeE_if h hs, if_neg h9]

end Go.Proofs.YtbfjpjllaibooaaGreat.Tx
