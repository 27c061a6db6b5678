/- Contracts: the kind and the priority that a type begins with: of the unfolded type, and in the graph. -/
import Derived.Test.YtlemfbmaineigaaWk33
import Derived.Test.YtlemfbmaineigaaWk30
set_option linter.all false
namespace Go.Proofs.Ytlemfbmaineigaa.Tx
open Go.Lf Go.Lf.S Go.Lf.Duo
set_option maxRecDepth 100000

mutual
/-- what a type begins with -/
def hd : Ty → Int × Int
  | .mk k p _ _ _ ks => if k = 8 then hds ks (k, p) else (k, p)
def hds : List Ty → Int × Int → Int × Int
  | [], d => d
  | t :: _, _ => hd t
end
theorem hd_8 {k p : Int} {nm : ByteArray} {s : Int} {ls : List ByteArray} {ks : List Ty} (h : k = 8) {x : Ty} (hk : ks = [x]) : hd (.mk k p nm s ls ks) = hd x := by
  subst hk; simp [hd, hds, h]
theorem hd_o {k p : Int} {nm : ByteArray} {s : Int} {ls : List ByteArray} {ks : List Ty} (h : k ≠ 8) : hd (.mk k p nm s ls ks) = (k, p) := by
  simp [hd, h]

/-- it begins with something, behind n recursive types -/
inductive Hd : Nat → Ty → Prop
  | done (t : Ty) (h8 : t.kind ≠ 8) (h9 : t.kind ≠ 9) (p0 : 0 ≤ t.prio) (p1 : t.prio ≤ 1000000) : Hd 0 t
  | step (n : Nat) (t k : Ty) (h : t.kind = 8) (hk : t.kids = [k]) (hh : Hd n k) : Hd (n + 1) t

theorem ad_0 {p : Int} (h0 : 0 ≤ p) (h1 : p ≤ 1000000) : ad p 0 = p := by
  unfold ad; rw [Int.add_zero]; exact wrap_in (by omega) (by omega)

theorem Hd.raise : ∀ {n : Nat} {t : Ty}, Hd n t → Hd n (raiseT 0 t) ∧ hd (raiseT 0 t) = hd t := by
  intro n t h
  induction h with
  | done t h8 h9 p0 p1 =>
    obtain ⟨k, p, nm, s, ls, ks⟩ := t
    have h8 : k ≠ 8 := h8
    have p0 : 0 ≤ p := p0
    have p1 : p ≤ 1000000 := p1
    have e : (if 4 ≤ k ∧ k ≤ 7 then ad p 0 else p) = p := by rw [ad_0 p0 p1]; simp
    rw [raiseT_mk, e, hd_o h8, hd_o h8]
    exact ⟨.done _ h8 h9 p0 p1, rfl⟩
  | step n t k h hk hh ih =>
    obtain ⟨kd, p, nm, s, ls, ks⟩ := t
    have hq : kd = 8 := h
    have hk : ks = [k] := hk
    subst hk
    rw [raiseT_mk, List.map_cons, List.map_nil, hd_8 hq rfl, hd_8 hq rfl]
    exact ⟨.step n _ (raiseT 0 k) hq rfl ih.1, ih.2⟩

theorem Hd.put {x : ByteArray} {b : Ty} : ∀ {n : Nat} {t : Ty}, Hd n t → Hd n (putT x b t) ∧ hd (putT x b t) = hd t := by
  intro n t h
  induction h with
  | done t h8 h9 p0 p1 =>
    obtain ⟨k, p, nm, s, ls, ks⟩ := t
    have h8 : k ≠ 8 := h8
    have h9 : k ≠ 9 := h9
    have p0 : 0 ≤ p := p0
    have p1 : p ≤ 1000000 := p1
    have e : (if 4 ≤ k ∧ k ≤ 7 then ad p 0 else p) = p := by rw [ad_0 p0 p1]; simp
    unfold putT
    rw [if_neg (fun hc => h9 hc.1), if_neg (fun hc => h8 hc.1), e, hd_o h8, hd_o h8]
    exact ⟨.done _ h8 h9 p0 p1, rfl⟩
  | step n t k h hk hh ih =>
    have hr := (Hd.step n t k h hk hh).raise
    obtain ⟨kd, p, nm, s, ls, ks⟩ := t
    have hq : kd = 8 := h
    have hk : ks = [k] := hk
    subst hk
    unfold putT
    rw [if_neg (fun hc => by have := hc.1; omega)]
    split
    · exact hr
    · rw [putTs_eq, List.map_cons, List.map_nil, hd_8 hq rfl, hd_8 hq rfl]
      exact ⟨.step n _ (putT x b k) hq rfl ih.1, ih.2⟩

theorem Hd.unf : ∀ {n : Nat} {t : Ty}, Hd n t → ∃ u, Unf t u ∧ (u.kind, u.prio) = hd t := by
  intro n
  induction n with
  | zero =>
    intro t h
    have hr := h.raise.2
    cases h with
    | done _ h8 h9 p0 p1 =>
      refine ⟨_, .done t h8, ?_⟩
      rw [← hr]
      obtain ⟨k, p, nm, s, ls, ks⟩ := t
      have h8 : k ≠ 8 := h8
      rw [raiseT_mk, hd_o h8]
      rfl
  | succ n ih =>
    intro t h
    cases h with
    | step _ _ k h hk hh =>
      obtain ⟨u, h1, h2⟩ := ih (hh.put (x := t.name) (b := t)).1
      refine ⟨u, .step t k u [] h hk h1, ?_⟩
      rw [h2, hh.put.2]
      obtain ⟨kd, p, nm, s, ls, ks⟩ := t
      have h : kd = 8 := h
      have hk : ks = [k] := hk
      rw [hd_8 h hk]

theorem Wf.hd : ∀ (t : Ty) (ns : List ByteArray), Wf t ns 0 → ∃ n, Hd n t := by
  intro t
  induction t using Ty.ind with
  | _ t ih =>
  intro ns h
  cases h with
  | mk _ _ _ h1 h9 h8 hk =>
  unfold Wf1 at h1
  have h1 := h1.1
  by_cases hk8 : t.kind = 8
  · have hl := (h1.2.2.2.2.2.1 hk8).1
    obtain ⟨x, hks⟩ := List.length_eq_one_iff.1 hl
    have hm : x ∈ t.kids := by rw [hks]; exact List.mem_cons_self
    obtain ⟨n, hn⟩ := ih _ hm (ns ++ [t.name]) (h8 hk8 _ hm)
    exact ⟨n + 1, .step n t _ hk8 hks hn⟩
  · have hk9 : t.kind ≠ 9 := fun h => by
      obtain ⟨j, hj, _⟩ := h9 h
      omega
    exact ⟨0, .done t hk8 hk9 h1.2.1.1 h1.2.1.2.1⟩

theorem Wf.ln : ∀ (t : Ty) (ns : List ByteArray) (g : Nat), Wf t ns g → t.sz ≤ 549755813888 → Ln t := by
  intro t
  induction t using Ty.ind with
  | _ t ih =>
  intro ns g h hz
  cases h with
  | mk _ _ _ h1 h9 h8 hk =>
  unfold Wf1 at h1
  have h1 := h1.1
  have hkl : t.kids.length ≤ t.sz := by
    obtain ⟨k, p, nm, s, ls, ks⟩ := t
    have := szs_len ks
    simp only [Ty.sz, Ty.kids]
    omega
  have hll : t.labels.length = 0 ∨ t.labels.length = t.kids.length := by
    clear h8 h9 hk ih
    omega
  refine .mk t (by omega) (by omega) fun k hkm => ?_
  have hs := Ty.sz_kid hkm
  by_cases hk8 : t.kind = 8
  · exact ih k hkm _ _ (h8 hk8 k hkm) (by omega)
  · exact ih k hkm _ _ (hk hk8 k hkm) (by omega)

/-- the priority of a type, if it begins with an action -/
def prT (t : Ty) : Option Int := if act (hd t).1 then some (hd t).2 else none
def prV (o : Option Int) : PV := match o with | some p => .tup [i p, .bool true] | none => .tup [i 0, .bool false]

theorem ok_ref08_Prio {n : Nat} {t : Ty} (h : Hd n t) (hl : Ln t) : Ok P F.ref08_Prio [t.enc] (prV (prT t)) := by
  obtain ⟨u, hu, he⟩ := h.unf
  have hU := ok_ref02_Unfold hu hl
  have hp : prT t = if act u.kind then some u.prio else none := by
    unfold prT; rw [← he]
  rw [hp]
  obtain ⟨k, p, nm, s, ls, ks⟩ := u
  rw [Ty.enc_mk] at hU
  show Ok P F.ref08_Prio [t.enc] (prV (if act k then some p else none))
  refine k_ref08_Prio _ _ rfl (d_l _ (e_okc (Ty.okc_enc t)) fun _ => d_call hU (d_l (.agg [i k, i p, .str nm, i s, .sl (ls.map .str), .sl (ks.map Ty.enc)]) rfl fun _ => d_l _ rfl fun _ => d_dec (fun h4 => d_l _ rfl fun _ => d_dec (fun h7 => d_ret ?_) fun h7 => d_ret ?_) fun h4 => d_ret ?_))
  · have h4 : 4 ≤ k := h4
    have h7 : k ≤ 7 := h7
    have : act k = true := by simp [act, h4, h7]
    rw [this]; rfl
  · have h7 : ¬ k ≤ 7 := h7
    have : act k = false := by simp [act, h7]
    rw [this]; rfl
  · have h4 : ¬ 4 ≤ k := h4
    have : act k = false := by simp [act, h4]
    rw [this]; rfl

/-! in the graph -/
theorem nodes_len : ∀ (t : Ty) (ns : List ByteArray) (g : Nat), Wf t ns g → ∀ (a : Int) (ns' : List ByteArray) (refs : List Rf), (nodesF t a ns' refs).length = gc t := by
  intro t
  induction t using Ty.ind with
  | _ t ih =>
  intro ns g h a ns' refs
  cases h with
  | mk _ _ _ h1 h9 h8 hk =>
  obtain ⟨k, p, nm, s, ls, ks⟩ := t
  unfold Wf1 at h1
  have h1 := h1.1
  simp only [Ty.kind, Ty.prio, Ty.shift, Ty.kids, Ty.labels] at h1
  by_cases hk8 : k = 8
  · have hl := (h1.2.2.2.2.2.1 hk8).1
    have hks : ks = [ks[0]] := by
      match ks, hl with
      | [x], _ => rfl
    have hm : ks[0] ∈ ks := List.getElem_mem (by omega)
    rw [nodesF_8 hk8 hks, ih _ hm _ _ (h8 hk8 _ hm), gc_rec hk8 ks[0] hks]
  · by_cases hk9 : k = 9
    · have hks : ks = [] := List.eq_nil_of_length_eq_zero (h1.2.2.2.2.2.2 hk9).1
      rw [nodesF_9 hk9]
      subst hks; subst hk9
      simp [gc, gcs]
    · have hk7 : k ≤ 7 := by
        clear h8 h9 hk ih
        omega
      have key : ∀ (l : List Ty) (a : Int), (∀ x ∈ l, x ∈ ks) → (belowsF l a ns' refs).length = gcs l := by
        intro l
        induction l with
        | nil => intro a _; simp [belowsF, gcs]
        | cons x l ihl =>
          intro a hx
          have hxm := hx x List.mem_cons_self
          simp only [belowsF, List.length_append, gcs]
          rw [ih x hxm _ _ (hk hk8 x hxm), ihl _ fun y hy => hx y (List.mem_cons_of_mem _ hy)]
      rw [nodesF_o hk8 hk9]
      simp only [List.length_cons, gc]
      rw [key ks _ fun x hx => hx, if_pos hk7]
      omega

theorem node_head {n : Nat} {t : Ty} (h : Hd n t) : ∀ (a : Int) (ns : List ByteArray) (refs : List Rf), refF t a ns refs = ⟨a, 0⟩ ∧ ∃ d r, nodesF t a ns refs = d :: r ∧ (d.kind, d.prio) = hd t := by
  induction h with
  | done t h8 h9 p0 p1 =>
    intro a ns refs
    obtain ⟨k, p, nm, s, ls, ks⟩ := t
    have h8 : k ≠ 8 := h8
    have h9 : k ≠ 9 := h9
    refine ⟨refF_o h8 h9, _, _, nodesF_o h8 h9, ?_⟩
    rw [hd_o h8]
  | step n t k h hk hh ih =>
    intro a ns refs
    obtain ⟨kd, p, nm, s, ls, ks⟩ := t
    have h : kd = 8 := h
    have hk : ks = [k] := hk
    rw [refF_8 h hk, nodesF_8 h hk, hd_8 h hk]
    exact ⟨(ih a ns refs).1, (ih _ _ _).2⟩

theorem root_at : ∀ (l : List Ty) (a : Int) (j : Nat) (h : j < l.length), (∀ t ∈ l, Wf t [] 0) → (nextsF l a [] [])[j]? = some ⟨a + gcs (l.take j), 0⟩ ∧ ∃ d, (belowsF l a [] [])[gcs (l.take j)]? = some d ∧ (d.kind, d.prio) = hd l[j]
  | t :: ts, a, 0, _, hw => by
    obtain ⟨n, hn⟩ := Wf.hd t [] (hw t List.mem_cons_self)
    obtain ⟨h1, d, r, h2, h3⟩ := node_head hn a [] []
    simp only [nextsF, belowsF, h1, h2, List.take_zero, gcs]
    exact ⟨by simp, d, by simp, h3⟩
  | t :: ts, a, j + 1, h, hw => by
    have hl := nodes_len t [] 0 (hw t List.mem_cons_self) a [] []
    obtain ⟨h1, d, h2, h3⟩ := root_at ts (a + gc t) j (by simpa using h) fun x hx => hw x (List.mem_cons_of_mem _ hx)
    simp only [nextsF, belowsF, List.take_succ_cons, gcs, List.getElem?_cons_succ, List.getElem_cons_succ]
    refine ⟨?_, d, ?_, h3⟩
    · rw [h1]; congr 2; omega
    · rw [List.getElem?_append_right (by omega), hl, Nat.add_sub_cancel_left]; exact h2

theorem hd_prio {n : Nat} {t : Ty} (h : Hd n t) : 0 ≤ (hd t).2 ∧ (hd t).2 ≤ 1000000 := by
  induction h with
  | done t h8 h9 p0 p1 =>
    obtain ⟨k, p, nm, s, ls, ks⟩ := t
    have h8 : k ≠ 8 := h8
    rw [hd_o h8]; exact ⟨p0, p1⟩
  | step n t k h hk hh ih =>
    obtain ⟨kd, p, nm, s, ls, ks⟩ := t
    have hq : kd = 8 := h
    have hk : ks = [k] := hk
    rw [hd_8 hq hk]; exact ih

/-- the priority of a reference of the graph is that of the type -/
theorem pr_root (l : List Ty) (hw : ∀ t ∈ l, Wf t [] 0) (j : Nat) (h : j < l.length) : ∃ r, (nextsF l 0 [] [])[j]? = some r ∧ pr (belowsF l 0 [] []) r = prT l[j] := by
  obtain ⟨h1, d, h2, h3⟩ := root_at l 0 j h hw
  obtain ⟨n, hn⟩ := Wf.hd l[j] [] (hw _ (List.getElem_mem h))
  have hp := hd_prio hn
  refine ⟨_, h1, ?_⟩
  unfold pr prT
  have : ((0 + (gcs (l.take j) : Int)).toNat) = gcs (l.take j) := by omega
  simp only [this, h2]
  rw [← h3] at hp ⊢
  simp only
  rw [ad_0 hp.1 hp.2]

end Go.Proofs.Ytlemfbmaineigaa.Tx
