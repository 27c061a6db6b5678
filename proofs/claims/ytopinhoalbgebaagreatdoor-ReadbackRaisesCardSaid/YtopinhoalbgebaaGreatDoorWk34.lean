/- Contracts: the kind and the priority that a type begins with: of the unfolded type, and in the graph. -/
import Derived.Test.YtopinhoalbgebaaGreatDoorWk33
import Derived.Test.YtopinhoalbgebaaGreatDoorWk30
set_option linter.all false
namespace Go.Proofs.YtopinhoalbgebaaGreatDoor.Tx
open Go.Lf Go.Lf.S Go.Lf.Duo
set_option maxRecDepth 100000

mutual
/-- what a type begins with -/
def hd : Ty → Int × Int
  | .mk k p _ _ _ ks => if k = 8 then hds ks (k, p) else (k, p)
def hds : List Ty → Int × Int → Int × Int
  | [], d => d
  | t :: _, _ => hd t
end
theorem hd_8 {k p : Int} {nm : ByteArray} {s : Int} {ls : List ByteArray} {ks : List Ty} (h : k = 8) {x : Ty} (hk : ks = [x]) : hd (.mk k p nm s ls ks) = hd x := by
  subst hk; simp [hd, hds, h]
theorem hd_o {k p : Int} {nm : ByteArray} {s : Int} {ls : List ByteArray} {ks : List Ty} (h : k ≠ 8) : hd (.mk k p nm s ls ks) = (k, p) := by
  simp [hd, h]

/-- it begins with something, behind n recursive types -/
inductive Hd : Nat → Ty → Prop
  | done (t : Ty) (h8 : t.kind ≠ 8) (h9 : t.kind ≠ 9) (p0 : 0 ≤ t.prio) (p1 : t.prio ≤ 1000000) : Hd 0 t
  | step (n : Nat) (t k : Ty) (h : t.kind = 8) (hk : t.kids = [k]) (hh : Hd n k) : Hd (n + 1) t

theorem ad_0 {p : Int} (h0 : 0 ≤ p) (h1 : p ≤ 1000000) : ad p 0 = p := by
  unfold ad; rw [Int.add_zero]; exact wrap_in (by omega) (by omega)

theorem Hd.raise : ∀ {n : Nat} {t : Ty}, Hd n t → Hd n (raiseT 0 t) ∧ hd (raiseT 0 t) = hd t := by
  intro n t h
  induction h with
  | done t h8 h9 p0 p1 =>
    obtain ⟨k, p, nm, s, ls, ks⟩ := t
    have h8 : k ≠ 8 := h8
    have p0 : 0 ≤ p := p0
    have p1 : p ≤ 1000000 := p1
    have e : (if 4 ≤ k ∧ k ≤ 7 then ad p 0 else p) = p := by rw [ad_0 p0 p1]; simp
    rw [raiseT_mk, e, hd_o h8, hd_o h8]
    exact ⟨.done _ h8 h9 p0 p1, rfl⟩
  | step n t k h hk hh ih =>
    obtain ⟨kd, p, nm, s, ls, ks⟩ := t
    have hq : kd = 8 := h
    have hk : ks = [k] := hk
    subst hk
    rw [raiseT_mk, List.map_cons, List.map_nil, hd_8 hq rfl, hd_8 hq rfl]
    exact ⟨.step n _ (raiseT 0 k) hq rfl ih.1, ih.2⟩

theorem Hd.put {x : ByteArray} {b : Ty} : ∀ {n : Nat} {t : Ty}, Hd n t → Hd n (putT x b t) ∧ hd (putT x b t) = hd t := by
  intro n t h
  induction h with
  | done t h8 h9 p0 p1 =>
    obtain ⟨k, p, nm, s, ls, ks⟩ := t
    have h8 : k ≠ 8 := h8
    have h9 : k ≠ 9 := h9
    have p0 : 0 ≤ p := p0
    have p1 : p ≤ 1000000 := p1
    have e : (if 4 ≤ k ∧ k ≤ 7 then ad p 0 else p) = p := by rw [ad_0 p0 p1]; simp
    unfold putT
    rw [if_neg (fun hc => h9 hc.1), if_neg (fun hc => h8 hc.1), e, hd_o h8, hd_o h8]
    exact ⟨.done _ h8 h9 p0 p1, rfl⟩
  | step n t k h hk hh ih =>
    have hr := (Hd.step n t k h hk hh).raise
    obtain ⟨kd, p, nm, s, ls, ks⟩ := t
    have hq : kd = 8 := h
    have hk : ks = [k] := hk
    subst hk
    unfold putT
    rw [if_neg (fun hc => by have := hc.1; omega)]
    split
    · exact hr
    · rw [putTs_eq, List.map_cons, List.map_nil, hd_8 hq rfl, hd_8 hq rfl]
      exact ⟨.step n _ (putT x b k) hq rfl ih.1, ih.2⟩

theorem Hd.unf : ∀ {n : Nat} {t : Ty}, Hd n t → ∃ u, Unf t u ∧ (u.kind, u.prio) = hd t := by
  intro n
  induction n with
  | zero =>
    intro t h
    have hr := h.raise.2
    cases h with
    | done _ h8 h9 p0 p1 =>
      refine ⟨_, .done t h8, ?_⟩
      rw [← hr]
      obtain ⟨k, p, nm, s, ls, ks⟩ := t
      have h8 : k ≠ 8 := h8
      rw [raiseT_mk, hd_o h8]
      rfl
  | succ n ih =>
    intro t h
    cases h with
    | step _ _ k h hk hh =>
      obtain ⟨u, h1, h2⟩ := ih (hh.put (x := t.name) (b := t)).1
      refine ⟨u, .step t k u [] h hk h1, ?_⟩
      rw [h2, hh.put.2]
      obtain ⟨kd, p, nm, s, ls, ks⟩ := t
      have h : kd = 8 := h
      have hk : ks = [k] := hk
      rw [hd_8 h hk]

theorem Wf.hd : ∀ (t : Ty) (ns : List ByteArray), Wf t ns 0 → ∃ n, Hd n t := by
  intro t
  induction t using Ty.ind with
  | _ t ih =>
  intro ns h
  cases h with
  | mk _ _ _ h1 h9 h8 hk =>
  unfold Wf1 at h1
  have h1 := h1.1
  by_cases hk8 : t.kind = 8
  · have hl := (h1.2.2.2.2.2.1 hk8).1
    obtain ⟨x, hks⟩ := List.length_eq_one_iff.1 hl
    have hm : x ∈ t.kids := by rw [hks]; exact List.mem_cons_self
    obtain ⟨n, hn⟩ := ih _ hm (ns ++ [t.name]) (h8 hk8 _ hm)
    exact ⟨n + 1, .step n t _ hk8 hks hn⟩
  · have hk9 : t.kind ≠ 9 := fun h => by
      obtain ⟨j, hj, _⟩ := h9 h
      omega
    exact ⟨0, .done t hk8 hk9 h1.2.1.1 h1.2.1.2.1⟩

theorem Wf.ln : ∀ (t : Ty) (ns : List ByteArray) (g : Nat), Wf t ns g → t.sz ≤ 549755813888 → Ln t := by
  intro t
  induction t using Ty.ind with
  | _ t ih =>
  intro ns g h hz
  cases h with
  | mk _ _ _ h1 h9 h8 hk =>
  unfold Wf1 at h1
  have h1 := h1.1
  have hkl : t.kids.length ≤ t.sz := by
    obtain ⟨k, p, nm, s, ls, ks⟩ := t
    have := szs_len ks
    simp only [Ty.sz, Ty.kids]
    omega
  have hll : t.labels.length = 0 ∨ t.labels.length = t.kids.length := by
    clear h8 h9 hk ih
    omega
  refine .mk t (by omega) (by omega) fun k hkm => ?_
  have hs := Ty.sz_kid hkm
  by_cases hk8 : t.kind = 8
  · exact ih k hkm _ _ (h8 hk8 k hkm) (by omega)
  · exact ih k hkm _ _ (hk hk8 k hkm) (by omega)

/-! in the graph -/
end Go.Proofs.YtopinhoalbgebaaGreatDoor.Tx
