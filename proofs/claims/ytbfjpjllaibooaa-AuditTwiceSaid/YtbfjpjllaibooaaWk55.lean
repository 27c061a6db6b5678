/- Contracts: the error of a type, exactly, of the program and of the reference. -/
import Derived.Test.YtbfjpjllaibooaaWk54
set_option linter.all false
namespace Go.Proofs.Ytbfjpjllaibooaa.Tx
open Go.Lf Go.Lf.S Go.Lf.Duo
set_option maxRecDepth 100000

/-- bounds: the names, and whether there is an action between -/
def bv (ns : List ByteArray) (g : Nat) : List PV := ns.zipIdx.map fun p => .agg [.str p.1, .bool (decide (p.2 < g))]
theorem bv_len (ns : List ByteArray) (g : Nat) : (bv ns g).length = ns.length := by simp [bv]
theorem bv_at {ns : List ByteArray} {g q : Nat} (h : q < ns.length) : (bv ns g)[q]? = some (.agg [.str ns[q], .bool (decide (q < g))]) := by simp [bv, h]
theorem bv_okc (ns : List ByteArray) (g : Nat) : ∀ x ∈ bv ns g, x.okc 2 true = true := by
  intro x hx
  obtain ⟨p, _, rfl⟩ := List.mem_map.1 hx
  rfl
theorem bv_snoc {ns : List ByteArray} {g : Nat} {nm : ByteArray} (h : g ≤ ns.length) : bv ns g ++ [.agg [.str nm, .bool false]] = bv (ns ++ [nm]) g := by
  simp [bv, List.zipIdx_append]
  omega

def findV (ns : List ByteArray) (g : Nat) (nm : ByteArray) : PV := match lastI nm ns with
  | some q => .tup [.agg [.str nm, .bool (decide (q < g))], .bool true]
  | none => .tup [.agg [.str noB, .bool false], .bool false]
theorem d_contL {K : PV → Prop} {hs : List (List PV → Prop)} {xs : List PV} {g : List PV → Prop} (h : g xs) : (T.cont hs.length xs).den0 P K (hs ++ [g]) := d_cont (by rw [List.getElem?_append_right (Nat.le_refl _)]; simp) h

theorem nodeE_if {k p : Int} {nm : ByteArray} {s : Int} {ls : List ByteArray} {ks : List Ty} {ses : Bool} {A B : Int} (h : shapeP (.mk k p nm s ls ks)) (hs : ses = true → sesB k = true) : (if (pb (¬ shP k p nm s ls ks.length) || (ses && !sesB k)) = true then A else B) = B := by
  have h1 : pb (¬ shP k p nm s ls ks.length) = false := pb_false.2 fun e => e h
  rw [h1]
  cases ses with
  | false => rfl
  | true => rw [hs rfl]; rfl
theorem nodeE_3 {k p : Int} {nm : ByteArray} {s : Int} {ls : List ByteArray} {ks : List Ty} {ns : List ByteArray} {g : Nat} {ses : Bool} (h : ¬ shapeP (.mk k p nm s ls ks)) : nodeE (.mk k p nm s ls ks) ns g ses = 3 := by
  have h1 : pb (¬ shP k p nm s ls ks.length) = true := pb_iff.2 h
  simp only [nodeE, h1, Bool.true_or, if_true]
theorem nodeE_3s {k p : Int} {nm : ByteArray} {s : Int} {ls : List ByteArray} {ks : List Ty} {ns : List ByteArray} {g : Nat} {ses : Bool} (hs : ses = true) (h : sesB k = false) : nodeE (.mk k p nm s ls ks) ns g ses = 3 := by
  simp only [nodeE, hs, h]
  simp
theorem nodeE_9 {k p : Int} {nm : ByteArray} {s : Int} {ls : List ByteArray} {ks : List Ty} {ns : List ByteArray} {g : Nat} {ses : Bool} (h : shapeP (.mk k p nm s ls ks)) (hs : ses = true → sesB k = true) (h9 : k = 9) :
    nodeE (.mk k p nm s ls ks) ns g ses = match lastI nm ns with
      | some q => if q < g then 0 else 3
      | none => 4 := by
  simp only [nodeE]
  rw [nodeE_if h hs, if_pos h9]
  rfl
theorem nodeE_o {k p : Int} {nm : ByteArray} {s : Int} {ls : List ByteArray} {ks : List Ty} {ns : List ByteArray} {g : Nat} {ses : Bool} (h : shapeP (.mk k p nm s ls ks)) (hs : ses = true → sesB k = true) (h9 : ¬ k = 9) :
    nodeE (.mk k p nm s ls ks) ns g ses = nodeEs ks (decide (4 ≤ k ∧ k ≤ 5)) (if k = 8 then ns ++ [nm] else ns) (if k = 8 then g else ns.length) := by
  rw [nodeE, nodeE_if h hs, if_neg h9]

end Go.Proofs.Ytbfjpjllaibooaa.Tx
