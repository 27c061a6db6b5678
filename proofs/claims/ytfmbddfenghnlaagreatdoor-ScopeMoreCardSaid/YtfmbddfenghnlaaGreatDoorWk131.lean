/- The package scope: what is collected of all nodes: calls, binders. -/
import Derived.Test.YtfmbddfenghnlaaGreatDoorWk61
set_option linter.all false
namespace Go.Proofs.YtfmbddfenghnlaaGreatDoor.Tx
open Go.Lf Go.Lf.S Go.Lf.Duo
set_option maxRecDepth 100000

mutual
def coll (f : Int → ByteArray → ByteArray → List ByteArray) : Pr → List ByteArray
  | .mk k ch v _ _ _ ks => f k ch v ++ colls f ks
def colls (f : Int → ByteArray → ByteArray → List ByteArray) : List Pr → List ByteArray
  | [] => []
  | p :: r => coll f p ++ colls f r
end
def callF (k : Int) (ch _v : ByteArray) : List ByteArray := if k = 8 then [ch] else []
def bindF (k : Int) (ch v : ByteArray) : List ByteArray := if k = 3 then [v] else if k = 6 then [ch, v] else []
theorem colls_take (f : Int → ByteArray → ByteArray → List ByteArray) : ∀ (l : List Pr) (j : Nat) (h : j < l.length), colls f (l.take (j + 1)) = colls f (l.take j) ++ coll f l[j]
  | x :: l, 0, _ => by simp [colls]
  | x :: l, j + 1, h => by
    have := colls_take f l j (by simpa using h)
    simp only [List.take_succ_cons, colls, List.getElem_cons_succ, this, List.append_assoc]
mutual
theorem coll_len {f : Int → ByteArray → ByteArray → List ByteArray} (hf : ∀ k a b, (f k a b).length ≤ 2) : ∀ p : Pr, (coll f p).length ≤ 2 * p.sz
  | .mk k ch v _ _ _ ks => by
    have h1 := hf k ch v
    have h2 := colls_len hf ks
    simp only [coll, Pr.sz, List.length_append]; omega
theorem colls_len {f : Int → ByteArray → ByteArray → List ByteArray} (hf : ∀ k a b, (f k a b).length ≤ 2) : ∀ l : List Pr, (colls f l).length ≤ 2 * Pr.szs l
  | [] => by simp [colls]
  | p :: r => by
    have h1 := coll_len hf p
    have h2 := colls_len hf r
    simp only [colls, Pr.szs, List.length_append]; omega
end
theorem call_le (k : Int) (a b : ByteArray) : (callF k a b).length ≤ 2 := by unfold callF; split <;> simp
theorem bind_le (k : Int) (a b : ByteArray) : (bindF k a b).length ≤ 2 := by unfold bindF; split <;> (try split) <;> simp

theorem app_str {l m : List ByteArray} (h : l.length + m.length ≤ 8796093022208) : (Prim.app 1 false 16).ev [.sl (l.map .str), .sl (m.map .str)] = some (.sl ((l ++ m).map .str)) := by
  rw [e_app (all_map okc_str m) (by simp; omega) (by simp; omega), List.map_append]

end Go.Proofs.YtfmbddfenghnlaaGreatDoor.Tx
