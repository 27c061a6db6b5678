/- Contracts: the reference's closing, the dual of a reference, a graph read back. -/
import Derived.Test.YtijamnklmohjfaaDoorWk8
set_option linter.all false
namespace Go.Proofs.YtijamnklmohjfaaDoor.Tx
open Go.Lf Go.Lf.S Go.Lf.Duo
set_option maxRecDepth 100000

theorem NdOk.node {n : Int} {d : Nd} (h : NdOk 0 n [] d) : ∀ r ∈ d.next, 0 ≤ r.node ∧ r.node < n := by
  intro r hr
  obtain ⟨a, b⟩ := h.nx r hr
  rcases a with ⟨q, hq, _⟩ | ⟨a1, a2⟩
  · cases hq
  · exact ⟨a1, a2⟩
theorem NdOk.rest {n : Int} {d : Nd} (h : NdOk 0 n [] d) {j : Nat} (hj : j < d.next.length) : restB d.kind j = (decide (j = 1) || decide (6 ≤ d.kind)) := by
  have h1 := h.k1; have h3 := h.n3; have h5 := h.n5
  clear h
  rw [Bool.eq_iff_iff]
  simp only [restB, Bool.or_eq_true, decide_eq_true_eq]
  by_cases a : d.kind ≤ 3
  · have := h3 a; omega
  · by_cases b : d.kind ≤ 5
    · have := h5 ⟨by omega, b⟩; omega
    · omega

/-- what a closed graph needs -/
def GrOk (ds : List Nd) : Prop := ds.length ≤ 274877906944 ∧ ∀ d ∈ ds, NdOk 0 ds.length [] d
theorem GrOk.close {ds : List Nd} (h : GrOk ds) : NdClose ds := ⟨h.1, fun d hd => ⟨(h.2 d hd).len, fun r hr => by have := (h.2 d hd).node r hr; have := h.1; omega⟩⟩

theorem take_mapIdx {α β : Type} {f : β → PV} {g : Nat → α → β} {l : List α} {j : Nat} (h : j < l.length) : ((l.mapIdx g).take (j + 1)).map f = ((l.mapIdx g).take j).map f ++ [f (g j l[j])] := by
  have hj' : j < (l.mapIdx g).length := by simpa using h
  rw [← take_enc hj', mapIdx_at h]
theorem take_map1 {α β : Type} {f : β → PV} {g : α → β} {l : List α} {j : Nat} (h : j < l.length) : ((l.map g).take (j + 1)).map f = ((l.map g).take j).map f ++ [f (g l[j])] := by
  have hj' : j < (l.map g).length := by simpa using h
  rw [← take_enc hj']; simp

/-! the two sides -/

def side (n a : Nat) (b : Bool) : Nat := if b then a + n else a
def ndS (n : Nat) (d : Nd) (b : Bool) : Nd := if b then dualN n d else d
theorem closeD_at {ds : List Nd} {a : Nat} (h : a < ds.length) (b : Bool) : ((closeD ds).map Nd.enc)[side ds.length a b]? = some (ndS ds.length ds[a] b).enc := by
  cases b
  · simp [side, ndS, closeD, List.getElem?_append, h]
  · simp [side, ndS, closeD, List.getElem?_append, h]
theorem closeD_len (ds : List Nd) : (closeD ds).length = 2 * ds.length := by simp [closeD]; omega

theorem e_quo2 {n : Nat} (h : n ≤ 1099511627776) : (Prim.arith .quo .i64).ev [i ((2 * n : Nat) : Int), i 2] = some (i (n : Int)) := by
  show ((arithV .quo .i64 ((2 * n : Nat) : Int) 2).map (PV.int .i64)) = _
  have : (((2 * n : Nat) : Int)).tdiv 2 = n := by
    rw [Int.tdiv_eq_ediv_of_nonneg (by omega)]; omega
  simp only [arithV, this, wrap_in (x := (n : Int)) (by omega) (by omega)]
  rfl
theorem e_mul2 {n : Nat} (h : n ≤ 1099511627776) : (Prim.arith .mul .i64).ev [i 2, i (n : Int)] = some (i ((2 * n : Nat) : Int)) := by
  show ((arithV .mul .i64 2 (n : Int)).map (PV.int .i64)) = _
  have : (2 * (n : Int)) = ((2 * n : Nat) : Int) := by omega
  simp only [arithV, this, wrap_in (x := ((2 * n : Nat) : Int)) (by omega) (by omega)]
  rfl
theorem e_rem {x : Nat} {m : Nat} (h : 0 < m) : (Prim.arith .rem .i64).ev [i (x : Int), i (m : Int)] = some (i ((x % m : Nat) : Int)) := by
  show ((arithV .rem .i64 (x : Int) (m : Int)).map (PV.int .i64)) = _
  have e : ¬ (m : Int) = 0 := by omega
  have : ((x : Int)).tmod (m : Int) = ((x % m : Nat) : Int) := by
    rw [Int.tmod_eq_emod_of_nonneg (by omega)]; rfl
  simp only [arithV, e, if_false, this]
  rfl

theorem ok_dual_Of (ds : List Nd) (hd : ds.length ≤ 274877906944) (a : Nat) (ha : a < ds.length) (b : Bool) (s : Int) :
    Ok P F.dual_Of [.agg [.sl ((closeD ds).map Nd.enc)], .agg [i (side ds.length a b), i s]] (.agg [i (side ds.length a (!b)), i s]) := by
  have hlen : (((closeD ds).map Nd.enc).length : Int) = ((2 * ds.length : Nat) : Int) := by rw [List.length_map, closeD_len]
  refine k_dual_Of _ _ rfl (d_l (.agg [.sl ((closeD ds).map Nd.enc)]) (by rfl) fun _ => d_l (.agg [i (side ds.length a b), i s]) (by rfl) fun _ => d_l (i ((2 * ds.length : Nat) : Int)) (by rw [← hlen]; exact e_len) fun _ => d_l _ (e_quo2 (by omega)) fun _ => d_l _ rfl fun _ => d_dec (fun h => ?_) fun h => ?_)
  · have h : ((side ds.length a b : Nat) : Int) < (ds.length : Int) := h
    cases b
    · have e : ((side ds.length a false : Nat) : Int) = a := by simp [side]
      refine d_l _ (e_add (by omega) (by omega)) fun _ => d_l _ rfl fun _ => d_ret ?_
      exact congrArg (fun x => PV.agg [i x, i s]) (by simp [side])
    · have e : ((side ds.length a true : Nat) : Int) = a + ds.length := by simp [side]
      omega
  · have h : ¬ ((side ds.length a b : Nat) : Int) < (ds.length : Int) := h
    cases b
    · have e : ((side ds.length a false : Nat) : Int) = a := by simp [side]
      omega
    · have e : ((side ds.length a true : Nat) : Int) = a + ds.length := by simp [side]
      refine d_l _ (e_sub (by omega) (by omega)) fun _ => d_l _ rfl fun _ => d_ret ?_
      exact congrArg (fun x => PV.agg [i x, i s]) (by simp [side])

end Go.Proofs.YtijamnklmohjfaaDoor.Tx
