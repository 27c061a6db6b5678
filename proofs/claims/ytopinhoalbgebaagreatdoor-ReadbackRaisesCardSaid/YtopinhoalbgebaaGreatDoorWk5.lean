/- Contracts: the reference's graph. -/
import Derived.Test.YtopinhoalbgebaaGreatDoorWk4
set_option linter.all false
namespace Go.Proofs.YtopinhoalbgebaaGreatDoor.Tx
open Go.Lf Go.Lf.S Go.Lf.Duo
set_option maxRecDepth 100000

mutual
/-- how many nodes the graph has -/
def gc : Ty → Nat
  | .mk k _ _ _ _ ks => (if k ≤ 7 then 1 else 0) + gcs ks
def gcs : List Ty → Nat
  | [] => 0
  | k :: ks => gc k + gcs ks
end
theorem gcs_take (l : List Ty) (j : Nat) (h : j < l.length) : gcs (l.take (j + 1)) = gcs (l.take j) + gc l[j] := by
  induction l generalizing j with
  | nil => simp at h
  | cons x l ih =>
    cases j with
    | zero => simp [gcs]
    | succ j =>
      simp only [List.take_succ_cons, gcs, List.getElem_cons_succ]
      rw [ih j (by simpa using h)]; omega
theorem gcs_take_le (l : List Ty) (j : Nat) : gcs (l.take j) ≤ gcs l := by
  induction l generalizing j with
  | nil => simp
  | cons x l ih =>
    cases j with
    | zero => simp [gcs]
    | succ j => simp only [List.take_succ_cons, gcs]; have := ih j; omega
mutual
theorem gc_le : ∀ t : Ty, gc t ≤ t.sz
  | .mk k _ _ _ _ ks => by simp only [gc, Ty.sz]; have := gcs_le ks; split <;> omega
theorem gcs_le : ∀ l : List Ty, gcs l ≤ Ty.szs l
  | [] => by simp [gcs]
  | k :: ks => by simp only [gcs, Ty.szs]; have := gc_le k; have := gcs_le ks; omega
end

theorem ok_ref07_Count : ∀ t : Ty, t.sz ≤ 1099511627776 → Ok P F.ref07_Count [t.enc] (i (gc t)) := by
  intro t
  induction t using Ty.ind with
  | _ t ih =>
  obtain ⟨k, p, nm, s, ls, ks⟩ := t
  intro hz
  simp only [Ty.sz] at hz
  have hlen := szs_len ks
  have hgl := gcs_le ks
  rw [Ty.enc_mk]
  refine k_ref07_Count _ _ rfl (d_l _ (by rfl) fun _ => d_l _ rfl fun _ => d_dec (fun h7 => ?_) fun h7 => ?_)
  · have h7 : k ≤ 7 := h7
    refine den_rounds (fun j => [i j, i ((1 + gcs (ks.take j) : Nat) : Int)]) ks.length rfl (fun j hj => ?_) ?_
    · refine d_l _ e_len fun _ => d_l _ rfl fun _ => d_dec (fun h => ?_) fun h => absurd (show (j : Int) < ((ks.map Ty.enc).length : Int) by simp; omega) h
      have hmem : ks[j] ∈ ks := List.getElem_mem hj
      have hs1 := Ty.szs_mem hmem
      have hs2 := gcs_take ks j hj
      have hs3 := gcs_take_le ks (j + 1)
      refine d_l _ (e_idx (ty_at hj) (Ty.okc_enc _)) fun _ => d_call (ih _ hmem (by omega)) (d_l _ (e_add (by omega) (by omega)) fun _ => d_l _ (e_inc (by omega)) fun _ => d_cont rfl ?_)
      show [_, _] = [_, _]
      rw [hs2]
      congr 2
      simp only [S.i]; congr 1; omega
    · refine d_l _ e_len fun _ => d_l _ rfl fun _ => d_dec (fun h => ?_) fun h => d_ret ?_
      · have h : (ks.length : Int) < ((ks.map Ty.enc).length : Int) := h
        simp at h
      · simp [gc, h7]
  · have h7 : ¬ k ≤ 7 := h7
    refine den_rounds (fun j => [i j, i ((gcs (ks.take j) : Nat) : Int)]) ks.length rfl (fun j hj => ?_) ?_
    · refine d_l _ e_len fun _ => d_l _ rfl fun _ => d_dec (fun h => ?_) fun h => absurd (show (j : Int) < ((ks.map Ty.enc).length : Int) by simp; omega) h
      have hmem : ks[j] ∈ ks := List.getElem_mem hj
      have hs1 := Ty.szs_mem hmem
      have hs2 := gcs_take ks j hj
      have hs3 := gcs_take_le ks (j + 1)
      refine d_l _ (e_idx (ty_at hj) (Ty.okc_enc _)) fun _ => d_call (ih _ hmem (by omega)) (d_l _ (e_add (by omega) (by omega)) fun _ => d_l _ (e_inc (by omega)) fun _ => d_cont rfl ?_)
      show [_, _] = [_, _]
      rw [hs2]
      congr 2
    · refine d_l _ e_len fun _ => d_l _ rfl fun _ => d_dec (fun h => ?_) fun h => d_ret ?_
      · have h : (ks.length : Int) < ((ks.map Ty.enc).length : Int) := h
        simp at h
      · simp [gc, h7]

/-- what a name stands for: the last one -/
def lookLast : List ByteArray → List Rf → ByteArray → Option Rf
  | n :: ns, r :: rs, nm => match lookLast ns rs nm with
    | some q => some q
    | none => if n = nm then some r else none
  | _, _, _ => none
mutual
/-- the reference of a type whose nodes begin at a place -/
def refF : Ty → Int → List ByteArray → List Rf → Rf
  | .mk k _ nm s _ ks, a, ns, refs => if k = 8 then refFs ks a ns refs else if k = 9 then (match lookLast ns refs nm with
    | some q => ⟨q.node, q.shift + s⟩
    | none => ⟨a, 0⟩) else ⟨a, 0⟩
def refFs : List Ty → Int → List ByteArray → List Rf → Rf
  | [], a, _, _ => ⟨a, 0⟩
  | t :: _, a, ns, refs => refF t a ns refs
end
/-- the references of types whose nodes stand one behind another -/
def nextsF : List Ty → Int → List ByteArray → List Rf → List Rf
  | [], _, _, _ => []
  | t :: ts, a, ns, refs => refF t a ns refs :: nextsF ts (a + gc t) ns refs
mutual
/-- the nodes of a type -/
def nodesF : Ty → Int → List ByteArray → List Rf → List Nd
  | .mk k p nm s ls ks, a, ns, refs => if k = 8 then belowsF ks a (ns ++ [nm]) (refs ++ [refF (.mk k p nm s ls ks) a ns refs]) else if k = 9 then [] else ⟨k, p, ls, nextsF ks (a + 1) ns refs⟩ :: belowsF ks (a + 1) ns refs
def belowsF : List Ty → Int → List ByteArray → List Rf → List Nd
  | [], _, _, _ => []
  | t :: ts, a, ns, refs => nodesF t a ns refs ++ belowsF ts (a + gc t) ns refs
end
theorem refF_8 {k p : Int} {nm : ByteArray} {s : Int} {ls : List ByteArray} {ks : List Ty} (h : k = 8) {x : Ty} (hk : ks = [x]) {a : Int} {ns : List ByteArray} {refs : List Rf} : refF (.mk k p nm s ls ks) a ns refs = refF x a ns refs := by
  subst hk; simp [refF, refFs, h]
theorem refF_9 {k p : Int} {nm : ByteArray} {s : Int} {ls : List ByteArray} {ks : List Ty} (h : k = 9) {q : Rf} {a : Int} {ns : List ByteArray} {refs : List Rf} (hq : lookLast ns refs nm = some q) : refF (.mk k p nm s ls ks) a ns refs = ⟨q.node, q.shift + s⟩ := by
  simp [refF, h, hq]
theorem refF_o {k p : Int} {nm : ByteArray} {s : Int} {ls : List ByteArray} {ks : List Ty} (h : ¬ k = 8) (h9 : ¬ k = 9) {a : Int} {ns : List ByteArray} {refs : List Rf} : refF (.mk k p nm s ls ks) a ns refs = ⟨a, 0⟩ := by
  simp [refF, h, h9]
theorem nodesF_8 {k p : Int} {nm : ByteArray} {s : Int} {ls : List ByteArray} {ks : List Ty} (h : k = 8) {x : Ty} (hk : ks = [x]) {a : Int} {ns : List ByteArray} {refs : List Rf} :
    nodesF (.mk k p nm s ls ks) a ns refs = nodesF x a (ns ++ [nm]) (refs ++ [refF (.mk k p nm s ls ks) a ns refs]) := by
  subst hk; simp [nodesF, belowsF, h]
theorem nodesF_9 {k p : Int} {nm : ByteArray} {s : Int} {ls : List ByteArray} {ks : List Ty} (h : k = 9) {a : Int} {ns : List ByteArray} {refs : List Rf} : nodesF (.mk k p nm s ls ks) a ns refs = [] := by
  simp [nodesF, h]
theorem nodesF_o {k p : Int} {nm : ByteArray} {s : Int} {ls : List ByteArray} {ks : List Ty} (h : ¬ k = 8) (h9 : ¬ k = 9) {a : Int} {ns : List ByteArray} {refs : List Rf} :
    nodesF (.mk k p nm s ls ks) a ns refs = ⟨k, p, ls, nextsF ks (a + 1) ns refs⟩ :: belowsF ks (a + 1) ns refs := by
  simp [nodesF, h, h9]
theorem nextsF_take : ∀ (ks : List Ty) (j : Nat) (h : j < ks.length) (a : Int) (ns : List ByteArray) (refs : List Rf), nextsF (ks.take (j + 1)) a ns refs = nextsF (ks.take j) a ns refs ++ [refF ks[j] (a + gcs (ks.take j)) ns refs]
  | t :: ts, 0, _, a, ns, refs => by simp [nextsF, gcs]
  | t :: ts, j + 1, h, a, ns, refs => by
    have := nextsF_take ts j (by simpa using h) (a + gc t) ns refs
    simp only [List.take_succ_cons, nextsF, this, List.cons_append, List.getElem_cons_succ, gcs]
    congr 4
    omega
theorem belowsF_take : ∀ (ks : List Ty) (j : Nat) (h : j < ks.length) (a : Int) (ns : List ByteArray) (refs : List Rf), belowsF (ks.take (j + 1)) a ns refs = belowsF (ks.take j) a ns refs ++ nodesF ks[j] (a + gcs (ks.take j)) ns refs
  | t :: ts, 0, _, a, ns, refs => by simp [belowsF, gcs]
  | t :: ts, j + 1, h, a, ns, refs => by
    have := belowsF_take ts j (by simpa using h) (a + gc t) ns refs
    simp only [List.take_succ_cons, belowsF, this, List.append_assoc, List.getElem_cons_succ, gcs]
    congr 3
    omega
theorem look_none : ∀ (ns : List ByteArray) (refs : List Rf) (nm : ByteArray), (∀ i : Nat, ns[i]? ≠ some nm) → lookLast ns refs nm = none
  | [], _, _, _ => by simp [lookLast]
  | n :: ns, [], _, _ => by simp [lookLast]
  | n :: ns, r :: rs, nm, h => by
    have h0 := h 0
    simp at h0
    rw [lookLast, look_none ns rs nm fun i => by simpa using h (i + 1)]
    simp [h0]
theorem look_at : ∀ (ns : List ByteArray) (refs : List Rf) (nm : ByteArray) (j : Nat), ns[j]? = some nm → (∀ i : Nat, j < i → ns[i]? ≠ some nm) → (h : j < refs.length) → lookLast ns refs nm = some refs[j]
  | [], _, _, _, h, _, _ => by simp at h
  | n :: ns, [], _, _, _, _, h => by simp at h
  | n :: ns, r :: rs, nm, 0, h, hl, _ => by
    simp at h
    rw [lookLast, look_none ns rs nm fun i => by simpa using hl (i + 1) (by omega)]
    simp [h]
  | n :: ns, r :: rs, nm, j + 1, h, hl, hj => by
    rw [lookLast, look_at ns rs nm j (by simpa using h) (fun i hi => by simpa using hl (i + 1) (by omega)) (by simpa using hj)]
    simp

/-- references of the recursive types around -/
def RefsOk (refs : List Rf) : Prop := ∀ q ∈ refs, 0 ≤ q.shift ∧ q.shift ≤ 1000000 * (refs.length : Int)
def RefIn (r : Rf) (at_ : Int) (t : Ty) (refs : List Rf) : Prop := ((∃ q ∈ refs, r.node = q.node) ∨ (r.node = at_ ∧ 0 < gc t)) ∧ 0 ≤ r.shift ∧ r.shift ≤ 1000000 * ((refs.length : Int) + 1)

theorem rf_at {rs : List Rf} {j : Nat} (h : j < rs.length) : (rs.map Rf.enc)[j]? = some (rs[j]).enc := by simp [h]

theorem ok_ref07_reference : ∀ (t : Ty) (ns : List ByteArray) (refs : List Rf) (at_ : Int) (ext : List ByteArray) (g : Nat), Wf t (ns ++ ext) g → g ≤ ns.length → refs.length = ns.length → RefsOk refs → ns.length ≤ 1099511627776 →
    ∃ r : Rf, Ok P F.ref07_reference [t.enc, i at_, .sl (ns.map .str), .sl (refs.map Rf.enc)] r.enc ∧ RefIn r at_ t refs ∧ r = refF t at_ ns refs := by
  intro t
  induction t using Ty.ind with
  | _ t ih =>
  intro ns refs at_ ext g hwf hg hrl hro hnl
  cases hwf with
  | mk _ _ _ h1 h9 h8 hk =>
  obtain ⟨k, p, nm, s, ls, ks⟩ := t
  unfold Wf1 at h1
  have hnd := h1.2
  have h1 := h1.1
  simp only [Ty.kind, Ty.prio, Ty.shift, Ty.kids, Ty.labels] at h1
  have := tx_ex (K := fun x => ∃ r : Rf, x = r.enc ∧ RefIn r at_ (.mk k p nm s ls ks) refs ∧ r = refF (.mk k p nm s ls ks) at_ ns refs) k_ref07_reference
    (xs := [(Ty.mk k p nm s ls ks).enc, i at_, .sl (ns.map .str), .sl (refs.map Rf.enc)]) rfl (by simp [t_ref07_reference, T.dt]) (by
    rw [Ty.enc_mk]
    refine d_l _ (by rfl) fun _ => d_l _ rfl fun _ => d_dec (fun h => ?_) fun h => ?_
    · have h8' : k = 8 := h
      have hk1 : ks.length = 1 := (h1.2.2.2.2.2.1 h8').1
      have hm0 : ks[0] ∈ ks := List.getElem_mem (by omega)
      obtain ⟨r, hr0, hr, hrf⟩ := ih ks[0] hm0 ns refs at_ (ext ++ [nm]) g (by rw [← List.append_assoc]; exact h8 h8' _ hm0) hg hrl hro hnl
      have hks : ks = [ks[0]] := by
        match ks, hk1 with
        | [x], _ => rfl
      have hgc : gc (.mk k p nm s ls ks) = gc ks[0] := by
        simp only [gc, if_neg (show ¬ k ≤ 7 by omega)]
        conv => lhs; rw [hks]
        simp [gcs]
      exact d_l _ (e_idx (k := 0) (ty_at (by omega)) (Ty.okc_enc _)) fun _ => d_call hr0 (d_l _ (e_okc (Rf.okc_enc r)) fun _ => d_ret ⟨r, rfl, ⟨by rw [hgc]; exact hr.1, hr.2⟩, hrf.trans (refF_8 h8' hks).symm⟩)
    · have h8' : ¬ k = 8 := h
      refine d_l _ rfl fun _ => d_dec (fun h => ?_) fun h => ?_
      · have h9' : k = 9 := h
        obtain ⟨j, hj, hl, hlast⟩ := h9 h9'
        simp only [Ty.name] at hl hlast
        have hjn : j < ns.length := by omega
        rw [List.getElem?_append_left hjn] at hl
        have hl' : ns[j] = nm := by rw [List.getElem?_eq_getElem hjn] at hl; exact Option.some.inj hl
        refine d_l _ e_len fun _ => d_l _ (e_sub (by simp; omega) (by simp; omega)) fun _ => ?_
        refine den_loop (fun m ys => ∃ q : Nat, q + 1 = m ∧ q < ns.length ∧ j ≤ q ∧ ys = [i q]) ns.length ⟨ns.length - 1, by omega, by omega, by omega, by simp; omega⟩ ?_
        rintro m _ ⟨q, hq1, hq2, hq3, rfl⟩
        refine d_l _ rfl fun _ => d_dec (fun _ => ?_) fun h => absurd (show (0 : Int) ≤ (q : Int) by omega) h
        refine d_l _ (e_idx (str_at hq2) rfl) fun _ => d_l _ rfl fun _ => d_dec (fun he => ?_) fun he => ?_
        · have he : ns[q] = nm := he
          have hqj : q = j := by
            rcases Nat.lt_or_ge j q with h | h
            · have := hlast q h
              rw [List.getElem?_append_left hq2, List.getElem?_eq_getElem hq2, he] at this
              exact absurd rfl this
            · omega
          subst hqj
          have hqr : q < refs.length := by omega
          have hqs := hro refs[q] (List.getElem_mem hqr)
          refine d_l _ (e_idx (rf_at hqr) (Rf.okc_enc _)) fun _ => d_l _ (e_idx (rf_at hqr) (Rf.okc_enc _)) fun _ => d_l (i (refs[q].shift + s)) (e_add (by omega) (by omega)) fun _ => d_l _ (by rfl) fun _ => d_ret ⟨⟨refs[q].node, refs[q].shift + s⟩, rfl, ⟨.inl ⟨_, List.getElem_mem hqr, rfl⟩, by show 0 ≤ refs[q].shift + s; omega, by show refs[q].shift + s ≤ _; omega⟩,
            (refF_9 h9' (look_at ns refs nm q hl (fun i hi => by
              intro hc
              have hin := (List.getElem?_eq_some_iff.1 hc).1
              exact hlast i hi (by rw [List.getElem?_append_left hin]; exact hc)) hqr)).symm⟩
        · have he : ¬ ns[q] = nm := he
          have : j ≠ q := fun e => he (by subst e; exact hl')
          refine d_l _ (e_sub (by omega) (by omega)) fun _ => d_cont rfl ⟨m - 1, by omega, q - 1, by omega, by omega, by omega, ?_⟩
          simp only [S.i]; congr 2; omega
      · have h9' : ¬ k = 9 := h
        exact d_l _ (by rfl) fun _ => d_ret ⟨⟨at_, 0⟩, rfl, ⟨.inr ⟨rfl, by simp only [gc]; rw [if_pos (by omega)]; omega⟩, Int.le_refl _, by simp; omega⟩, (refF_o h8' h9').symm⟩)
  obtain ⟨_, ⟨r, rfl, hr⟩, h⟩ := this
  exact ⟨r, h, hr⟩

end Go.Proofs.YtopinhoalbgebaaGreatDoor.Tx
