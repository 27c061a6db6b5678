/- Contracts: the reference's graph. -/
import Derived.Test.YtchedinkkliogaaDoorWk4
set_option linter.all false
namespace Go.Proofs.YtchedinkkliogaaDoor.Tx
open Go.Lf Go.Lf.S Go.Lf.Duo
set_option maxRecDepth 100000

mutual
/-- how many nodes the graph has -/
def gc : Ty → Nat
  | .mk k _ _ _ _ ks => (if k ≤ 7 then 1 else 0) + gcs ks
def gcs : List Ty → Nat
  | [] => 0
  | k :: ks => gc k + gcs ks
end
theorem gcs_take (l : List Ty) (j : Nat) (h : j < l.length) : gcs (l.take (j + 1)) = gcs (l.take j) + gc l[j] := by
  induction l generalizing j with
  | nil => simp at h
  | cons x l ih =>
    cases j with
    | zero => simp [gcs]
    | succ j =>
      simp only [List.take_succ_cons, gcs, List.getElem_cons_succ]
      rw [ih j (by simpa using h)]; omega
theorem gcs_take_le (l : List Ty) (j : Nat) : gcs (l.take j) ≤ gcs l := by
  induction l generalizing j with
  | nil => simp
  | cons x l ih =>
    cases j with
    | zero => simp [gcs]
    | succ j => simp only [List.take_succ_cons, gcs]; have := ih j; omega
mutual
theorem gc_le : ∀ t : Ty, gc t ≤ t.sz
  | .mk k _ _ _ _ ks => by simp only [gc, Ty.sz]; have := gcs_le ks; split <;> omega
theorem gcs_le : ∀ l : List Ty, gcs l ≤ Ty.szs l
  | [] => by simp [gcs]
  | k :: ks => by simp only [gcs, Ty.szs]; have := gc_le k; have := gcs_le ks; omega
end

/-- what a name stands for: the last one -/
def lookLast : List ByteArray → List Rf → ByteArray → Option Rf
  | n :: ns, r :: rs, nm => match lookLast ns rs nm with
    | some q => some q
    | none => if n = nm then some r else none
  | _, _, _ => none
mutual
/-- the reference of a type whose nodes begin at a place -/
def refF : Ty → Int → List ByteArray → List Rf → Rf
  | .mk k _ nm s _ ks, a, ns, refs => if k = 8 then refFs ks a ns refs else if k = 9 then (match lookLast ns refs nm with
    | some q => ⟨q.node, q.shift + s⟩
    | none => ⟨a, 0⟩) else ⟨a, 0⟩
def refFs : List Ty → Int → List ByteArray → List Rf → Rf
  | [], a, _, _ => ⟨a, 0⟩
  | t :: _, a, ns, refs => refF t a ns refs
end
/-- the references of types whose nodes stand one behind another -/
def nextsF : List Ty → Int → List ByteArray → List Rf → List Rf
  | [], _, _, _ => []
  | t :: ts, a, ns, refs => refF t a ns refs :: nextsF ts (a + gc t) ns refs
mutual
/-- the nodes of a type -/
def nodesF : Ty → Int → List ByteArray → List Rf → List Nd
  | .mk k p nm s ls ks, a, ns, refs => if k = 8 then belowsF ks a (ns ++ [nm]) (refs ++ [refF (.mk k p nm s ls ks) a ns refs]) else if k = 9 then [] else ⟨k, p, ls, nextsF ks (a + 1) ns refs⟩ :: belowsF ks (a + 1) ns refs
def belowsF : List Ty → Int → List ByteArray → List Rf → List Nd
  | [], _, _, _ => []
  | t :: ts, a, ns, refs => nodesF t a ns refs ++ belowsF ts (a + gc t) ns refs
end
theorem refF_8 {k p : Int} {nm : ByteArray} {s : Int} {ls : List ByteArray} {ks : List Ty} (h : k = 8) {x : Ty} (hk : ks = [x]) {a : Int} {ns : List ByteArray} {refs : List Rf} : refF (.mk k p nm s ls ks) a ns refs = refF x a ns refs := by
  subst hk; simp [refF, refFs, h]
theorem refF_9 {k p : Int} {nm : ByteArray} {s : Int} {ls : List ByteArray} {ks : List Ty} (h : k = 9) {q : Rf} {a : Int} {ns : List ByteArray} {refs : List Rf} (hq : lookLast ns refs nm = some q) : refF (.mk k p nm s ls ks) a ns refs = ⟨q.node, q.shift + s⟩ := by
  simp [refF, h, hq]
theorem refF_o {k p : Int} {nm : ByteArray} {s : Int} {ls : List ByteArray} {ks : List Ty} (h : ¬ k = 8) (h9 : ¬ k = 9) {a : Int} {ns : List ByteArray} {refs : List Rf} : refF (.mk k p nm s ls ks) a ns refs = ⟨a, 0⟩ := by
  simp [refF, h, h9]
theorem nodesF_8 {k p : Int} {nm : ByteArray} {s : Int} {ls : List ByteArray} {ks : List Ty} (h : k = 8) {x : Ty} (hk : ks = [x]) {a : Int} {ns : List ByteArray} {refs : List Rf} :
    nodesF (.mk k p nm s ls ks) a ns refs = nodesF x a (ns ++ [nm]) (refs ++ [refF (.mk k p nm s ls ks) a ns refs]) := by
  subst hk; simp [nodesF, belowsF, h]
theorem nodesF_9 {k p : Int} {nm : ByteArray} {s : Int} {ls : List ByteArray} {ks : List Ty} (h : k = 9) {a : Int} {ns : List ByteArray} {refs : List Rf} : nodesF (.mk k p nm s ls ks) a ns refs = [] := by
  simp [nodesF, h]
theorem nodesF_o {k p : Int} {nm : ByteArray} {s : Int} {ls : List ByteArray} {ks : List Ty} (h : ¬ k = 8) (h9 : ¬ k = 9) {a : Int} {ns : List ByteArray} {refs : List Rf} :
    nodesF (.mk k p nm s ls ks) a ns refs = ⟨k, p, ls, nextsF ks (a + 1) ns refs⟩ :: belowsF ks (a + 1) ns refs := by
  simp [nodesF, h, h9]
theorem nextsF_take : ∀ (ks : List Ty) (j : Nat) (h : j < ks.length) (a : Int) (ns : List ByteArray) (refs : List Rf), nextsF (ks.take (j + 1)) a ns refs = nextsF (ks.take j) a ns refs ++ [refF ks[j] (a + gcs (ks.take j)) ns refs]
  | t :: ts, 0, _, a, ns, refs => by simp [nextsF, gcs]
  | t :: ts, j + 1, h, a, ns, refs => by
    have := nextsF_take ts j (by simpa using h) (a + gc t) ns refs
    simp only [List.take_succ_cons, nextsF, this, List.cons_append, List.getElem_cons_succ, gcs]
    congr 4
    omega
theorem belowsF_take : ∀ (ks : List Ty) (j : Nat) (h : j < ks.length) (a : Int) (ns : List ByteArray) (refs : List Rf), belowsF (ks.take (j + 1)) a ns refs = belowsF (ks.take j) a ns refs ++ nodesF ks[j] (a + gcs (ks.take j)) ns refs
  | t :: ts, 0, _, a, ns, refs => by simp [belowsF, gcs]
  | t :: ts, j + 1, h, a, ns, refs => by
    have := belowsF_take ts j (by simpa using h) (a + gc t) ns refs
    simp only [List.take_succ_cons, belowsF, this, List.append_assoc, List.getElem_cons_succ, gcs]
    congr 3
    omega
theorem look_none : ∀ (ns : List ByteArray) (refs : List Rf) (nm : ByteArray), (∀ i : Nat, ns[i]? ≠ some nm) → lookLast ns refs nm = none
  | [], _, _, _ => by simp [lookLast]
  | n :: ns, [], _, _ => by simp [lookLast]
  | n :: ns, r :: rs, nm, h => by
    have h0 := h 0
    simp at h0
    rw [lookLast, look_none ns rs nm fun i => by simpa using h (i + 1)]
    simp [h0]
theorem look_at : ∀ (ns : List ByteArray) (refs : List Rf) (nm : ByteArray) (j : Nat), ns[j]? = some nm → (∀ i : Nat, j < i → ns[i]? ≠ some nm) → (h : j < refs.length) → lookLast ns refs nm = some refs[j]
  | [], _, _, _, h, _, _ => by simp at h
  | n :: ns, [], _, _, _, _, h => by simp at h
  | n :: ns, r :: rs, nm, 0, h, hl, _ => by
    simp at h
    rw [lookLast, look_none ns rs nm fun i => by simpa using hl (i + 1) (by omega)]
    simp [h]
  | n :: ns, r :: rs, nm, j + 1, h, hl, hj => by
    rw [lookLast, look_at ns rs nm j (by simpa using h) (fun i hi => by simpa using hl (i + 1) (by omega)) (by simpa using hj)]
    simp

/-- references of the recursive types around -/
def RefsOk (refs : List Rf) : Prop := ∀ q ∈ refs, 0 ≤ q.shift ∧ q.shift ≤ 1000000 * (refs.length : Int)
def RefIn (r : Rf) (at_ : Int) (t : Ty) (refs : List Rf) : Prop := ((∃ q ∈ refs, r.node = q.node) ∨ (r.node = at_ ∧ 0 < gc t)) ∧ 0 ≤ r.shift ∧ r.shift ≤ 1000000 * ((refs.length : Int) + 1)

theorem rf_at {rs : List Rf} {j : Nat} (h : j < rs.length) : (rs.map Rf.enc)[j]? = some (rs[j]).enc := by simp [h]

end Go.Proofs.YtchedinkkliogaaDoor.Tx
