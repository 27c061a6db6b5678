/- Contracts: the keys and the map of a comparison. -/
import Derived.Test.YtopinhoalbgebaaGreatDoorWk11
set_option linter.all false
namespace Go.Proofs.YtopinhoalbgebaaGreatDoor.Tx
open Go.Lf Go.Lf.S Go.Lf.Duo
set_option maxRecDepth 100000

/-- a pair of nodes, and the difference of their shifts -/
structure Key where
  a : Int
  b : Int
  d : Int
  deriving DecidableEq
def Key.enc (k : Key) : PV := .agg [i k.a, i k.b, i k.d]
abbrev kk3 : List CK := [.i .i64, .i .i64, .i .i64]
def mpOf (L : List Key) : PV := .mp (L.map Key.enc) (L.map fun _ => .bool true)

theorem keq_key (x y : Key) : PV.keq true kk3 x.enc y.enc = some (decide (x = y)) := by
  obtain ⟨a, b, c⟩ := x
  obtain ⟨a', b', c'⟩ := y
  simp only [PV.keq, Key.enc, PV.okc, PV.cells, PV.isAg, PV.isCell, kk3, PV.sameK, PV.same1, i]
  by_cases h1 : a = a' <;> by_cases h2 : b = b' <;> by_cases h3 : c = c' <;> simp [h1, h2, h3, PV.isCell]

theorem kfindGo_key (k : Key) : ∀ (L : List Key) (j : Nat), ∃ r, PV.kfindGo true kk3 k.enc (L.map Key.enc) j = some r ∧ (k ∈ L → ∃ q, r = some (j + q) ∧ L[q]? = some k) ∧ (k ∉ L → r = none)
  | [], j => ⟨none, rfl, (fun h => by cases h), fun _ => rfl⟩
  | x :: L, j => by
    obtain ⟨r, h1, h2, h3⟩ := kfindGo_key k L (j + 1)
    simp only [List.map_cons, PV.kfindGo, keq_key]
    by_cases he : k = x
    · subst he
      simp only [decide_true]
      exact ⟨_, rfl, fun _ => ⟨0, by simp, by simp⟩, fun h => absurd List.mem_cons_self h⟩
    · simp only [he, decide_false]
      refine ⟨r, h1, fun h => ?_, fun h => h3 fun hm => h (List.mem_cons_of_mem _ hm)⟩
      rcases List.mem_cons.1 h with e | e
      · exact absurd e he
      · obtain ⟨q, hq, hl⟩ := h2 e
        exact ⟨q + 1, by rw [hq]; congr 1; omega, by simpa using hl⟩

theorem e_mget (L : List Key) (k : Key) : (Prim.mget true kk3 (.bool false)).ev [mpOf L, k.enc] = some (.bool (decide (k ∈ L))) := by
  obtain ⟨r, h1, h2, h3⟩ := kfindGo_key k L 0
  have hf : PV.kfind true kk3 k.enc (L.map Key.enc) = some r := h1
  show (match PV.kfind true kk3 k.enc (L.map Key.enc) with
    | some (some i) => (L.map fun _ => PV.bool true)[i]?
    | some none => some (PV.bool false)
    | none => none) = _
  rw [hf]
  by_cases hm : k ∈ L
  · obtain ⟨q, rfl, hl⟩ := h2 hm
    have hq : q < L.length := (List.getElem?_eq_some_iff.1 hl).1
    simp [hm, hq]
  · rw [h3 hm]; simp [hm]

theorem e_mset (L : List Key) (k : Key) (hk : k ∉ L) : (Prim.mset true kk3).ev [mpOf L, k.enc, .bool true] = some (mpOf (L ++ [k])) := by
  obtain ⟨r, h1, h2, h3⟩ := kfindGo_key k L 0
  have hf : PV.kfind true kk3 k.enc (L.map Key.enc) = some r := h1
  show (match PV.kfind true kk3 k.enc (L.map Key.enc) with
    | some (some i) => some (PV.mp ((L.map Key.enc).set i k.enc) ((L.map fun _ => PV.bool true).set i (PV.bool true)))
    | some none => some (PV.mp (L.map Key.enc ++ [k.enc]) ((L.map fun _ => PV.bool true) ++ [PV.bool true]))
    | none => none) = _
  rw [hf, h3 hk]
  simp [mpOf]

/-- the key of two references -/
def keyOf (free : Bool) (a b s t : Int) : Key := ⟨a, b, if free then 0 else IntKind.i64.wrap (s - t)⟩
theorem ok_key (g m f : PV) (free : Bool) (a b s t : Int) (h4 : (PV.agg [g, m, f, .bool free]).okc 4 true = true) :
    Ok P F.equal_comparison_key [.box (.agg [g, m, f, .bool free]), .agg [i a, i s], .agg [i b, i t]] (keyOf free a b s t).enc := by
  refine k_equal_comparison_key _ _ rfl (d_l (.agg [i a, i s]) rfl fun _ => d_l (.agg [i b, i t]) rfl fun _ => d_l (.box (.agg [g, m, f, .bool free])) rfl fun _ => d_l (.agg [g, m, f, .bool free]) ?_ fun _ => d_ite (fun h => d_l _ rfl fun _ => d_ret ?_) fun h => d_l _ rfl fun _ => d_l _ rfl fun _ => d_ret ?_)
  · show (if _ then _ else _) = _
    rw [if_pos h4]
  · subst h; rfl
  · subst h; rfl
theorem key_gnd (k : Key) : Prim.gnd.ev [k.enc] = some k.enc := rfl

end Go.Proofs.YtopinhoalbgebaaGreatDoor.Tx
