/- Contracts (Wk184, Wk185, Wk186). -/
import Derived.Test.YtopinhoalbgebaaGreatDoorWk179
import Derived.Lib.Join
set_option linter.all false
/- The normal tree of a right type: its numbers. -/
namespace Go.Proofs.YtopinhoalbgebaaGreatDoor.Tx
open Go.Lf Go.Lf.S Go.Lf.Duo
set_option maxRecDepth 100000

/-- what a type unfolds to: a node of the list's, raised by a bounded number -/
def NdB (L : List Ty) (M : Nat) (lo hi : Int) (T : Ty) : Prop := ∃ ds σ k p nm s ls ks a ns refs Ts g, Occ ds L M (.mk k p nm s ls ks) a ns refs Ts g ∧ ¬ k = 8 ∧ ¬ k = 9 ∧ lo ≤ σ ∧ σ ≤ hi ∧ Unf T (raiseT σ (sub (lkT ns Ts) (.mk k p nm s ls ks)))
theorem NdB.mono {L : List Ty} {M : Nat} {lo hi lo' hi' : Int} {T : Ty} (h : NdB L M lo hi T) (h1 : lo' ≤ lo) (h2 : hi ≤ hi') : NdB L M lo' hi' T := by
  obtain ⟨ds, σ, k, p, nm, s, ls, ks, a, ns, refs, Ts, g, h3, h8, h9, h4, h5, h6⟩ := h
  exact ⟨ds, σ, k, p, nm, s, ls, ks, a, ns, refs, Ts, g, h3, h8, h9, by omega, by omega, h6⟩
theorem ndB_rec {ds : List Nd} {L : List Ty} {M : Nat} {k p : Int} {nm : ByteArray} {s : Int} {ls : List ByteArray} {x : Ty} {a : Int} {ns : List ByteArray} {refs : List Rf} {Ts : List Ty} {g : Nat} {σ lo hi : Int} (h8 : k = 8) (h : Occ ds L M (.mk k p nm s ls [x]) a ns refs Ts g)
    (hs : NdB L M lo hi (raiseT σ (sub (lkT (ns ++ [nm]) (Ts ++ [sub (lkT ns Ts) (.mk k p nm s ls [x])])) x))) :
    NdB L M lo hi (raiseT σ (sub (lkT ns Ts) (.mk k p nm s ls [x]))) := by
  have hi' := h.i
  obtain ⟨x', hx', hw⟩ := wf_kid8 hi'.wf h8
  cases hx'
  rw [lkT_snoc _ _ _ _ hi'.l2.symm, ← put_sub hw (fun y T hy _ => hi'.clo T (lkT_mem _ _ _ _ hy) nm), ← raise_put] at hs
  obtain ⟨ds, σ', k', p', nm', s', ls', ks', a', ns', refs', Ts', g', h3, h8', h9, h4, h5, h1⟩ := hs
  refine ⟨ds, σ', k', p', nm', s', ls', ks', a', ns', refs', Ts', g', h3, h8', h9, h4, h5, ?_⟩
  have e : raiseT σ (sub (lkT ns Ts) (.mk k p nm s ls [x])) = .mk k p nm s ls [raiseT σ (sub ((lkT ns Ts).del nm) x)] := by
    rw [sub_8 h8, raiseT_mk, if_neg (by omega)]; rfl
  refine .step _ (raiseT σ (sub ((lkT ns Ts).del nm) x)) _ [] (by rw [e]; exact h8) (by rw [e]; rfl) ?_
  have en : (raiseT σ (sub (lkT ns Ts) (.mk k p nm s ls [x]))).name = nm := by rw [e]; rfl
  rw [en]; exact h1
theorem ndB_node {ds : List Nd} {L : List Ty} {M : Nat} {k p : Int} {nm : ByteArray} {s : Int} {ls : List ByteArray} {ks : List Ty} {a : Int} {ns : List ByteArray} {refs : List Rf} {Ts : List Ty} {g : Nat} {σ : Int} (h8 : ¬ k = 8) (h9 : ¬ k = 9) (h : Occ ds L M (.mk k p nm s ls ks) a ns refs Ts g) :
    NdB L M σ σ (raiseT σ (sub (lkT ns Ts) (.mk k p nm s ls ks))) := by
  refine ⟨ds, σ, k, p, nm, s, ls, ks, a, ns, refs, Ts, g, h, h8, h9, Int.le_refl _, Int.le_refl _, ?_⟩
  have e : raiseT σ (sub (lkT ns Ts) (.mk k p nm s ls ks)) = .mk k (if 4 ≤ k ∧ k ≤ 7 then ad p σ else p) nm s ls ((ks.map (sub (lkT ns Ts))).map (raiseT σ)) := by rw [sub_o h8 h9, raiseT_mk]
  have := Unf.done (raiseT σ (sub (lkT ns Ts) (.mk k p nm s ls ks))) (by rw [e]; exact h8)
  rw [raise_raise] at this
  simpa using this
theorem ndB_hd {ds : List Nd} {L : List Ty} {M : Nat} : ∀ (n : Nat) {t : Ty} {a : Int} {ns : List ByteArray} {refs : List Rf} {Ts : List Ty} {g : Nat} {σ : Int}, Hd n t → Occ ds L M t a ns refs Ts g →
    NdB L M σ σ (raiseT σ (sub (lkT ns Ts) t)) := by
  intro n
  induction n with
  | zero =>
    intro t a ns refs Ts g σ hh h
    obtain ⟨k, p, nm, s, ls, ks⟩ := t
    cases hh with
    | done _ h8 h9 _ _ => exact ndB_node h8 h9 h
  | succ n ih =>
    intro t a ns refs Ts g σ hh h
    obtain ⟨k, p, nm, s, ls, ks⟩ := t
    cases hh with
    | step _ _ x h8 hk hh =>
      have hk : ks = [x] := hk
      subst hk
      exact ndB_rec h8 h (ih hh (.down k p nm s ls x a ns refs Ts g h8 h))
theorem wf_shift {t : Ty} {ns : List ByteArray} {g : Nat} (h : Wf t ns g) : 0 ≤ t.shift ∧ t.shift ≤ 1000000 ∧ 0 ≤ t.prio ∧ t.prio ≤ 1000000 := by
  cases h with
  | mk _ _ _ h1 _ _ _ =>
  unfold Wf1 at h1
  exact ⟨h1.1.2.1.2.2.1, h1.1.2.1.2.2.2, h1.1.2.1.1, h1.1.2.1.2.1⟩
theorem ndB_occ {ds : List Nd} {L : List Ty} {M : Nat} : ∀ (t : Ty) {a : Int} {ns : List ByteArray} {refs : List Rf} {Ts : List Ty} {g : Nat} {σ : Int}, Occ ds L M t a ns refs Ts g →
    NdB L M σ (σ + 1000000) (raiseT σ (sub (lkT ns Ts) t)) := by
  intro t
  induction t using Ty.ind with
  | _ t ih =>
  intro a ns refs Ts g σ h
  have hi := h.i
  have hsh := wf_shift hi.wf
  obtain ⟨k, p, nm, s, ls, ks⟩ := t
  by_cases h9 : k = 9
  · obtain ⟨j, hj, hla⟩ := wf_var hi.wf h9
    have hjn : j < ns.length := Nat.lt_of_lt_of_le hj hi.gle
    have hl1 := hi.l1
    have hl2 := hi.l2
    have h2 := lkT_at ns Ts nm j hla.1 hla.2 (by omega)
    obtain ⟨t', a', ns', refs', Ts', g', e1, e2, e3, e4⟩ := hi.ent j (by omega) (by omega)
    obtain ⟨m, hm⟩ := e4 (.inl hj)
    rw [sub_9 h9 h2, raise_raise, e3]
    have h0 : 0 ≤ s := hsh.1
    have h1 : s ≤ 1000000 := hsh.2.1
    exact (ndB_hd m hm e1).mono (by omega) (by omega)
  · by_cases h8 : k = 8
    · obtain ⟨x, rfl, hw⟩ := wf_kid8 hi.wf h8
      exact ndB_rec h8 h (ih x (by simp [Ty.kids]) (.down k p nm s ls x a ns refs Ts g h8 h))
    · exact (ndB_node h8 h9 h).mono (by omega) (by omega)

/-- a type of the list's, raised by at most B -/
def CB (L : List Ty) (M : Nat) (B : Int) (T : Ty) : Prop := ∃ ds σ t a ns refs Ts g, Occ ds L M t a ns refs Ts g ∧ 0 ≤ σ ∧ σ ≤ B ∧ T = raiseT σ (sub (lkT ns Ts) t)
theorem CB.cl {L : List Ty} {M : Nat} {B : Int} {T : Ty} (h : CB L M B T) : CL L M T := by
  obtain ⟨ds, σ, t, a, ns, refs, Ts, g, ho, _, _, rfl⟩ := h
  exact ⟨ds, _, σ, t, a, ns, refs, Ts, g, ho, rfl, rfl⟩
theorem CB.step {L : List Ty} {M : Nat} {B : Int} {T : Ty} (h : CB L M B T) (hB : B ≤ 4611686018427387904) : (act (unfT T).kind = true → 0 ≤ (unfT T).prio ∧ (unfT T).prio ≤ B + 2000000) ∧ ∀ k ∈ (unfT T).kids, CB L M (B + 1000000) k := by
  obtain ⟨ds, σ, t, a, ns, refs, Ts, g, ho, h0, h1, rfl⟩ := h
  obtain ⟨ds', σ', k, p, nm, s, ls, ks, a', ns', refs', Ts', g', h3, h8, h9, h4, h5, hU⟩ := ndB_occ t ho (σ := σ)
  rw [unfT_eq hU]
  have hsh := wf_shift h3.i.wf
  have e : raiseT σ' (sub (lkT ns' Ts') (.mk k p nm s ls ks)) = .mk k (if 4 ≤ k ∧ k ≤ 7 then ad p σ' else p) nm s ls ((ks.map (sub (lkT ns' Ts'))).map (raiseT σ')) := by rw [sub_o h8 h9, raiseT_mk]
  rw [e]
  have hp0 : 0 ≤ p := hsh.2.2.1
  have hp1 : p ≤ 1000000 := hsh.2.2.2
  refine ⟨fun ha => ?_, fun q hq => ?_⟩
  · have ha : 4 ≤ k ∧ k ≤ 7 := of_decide_eq_true ha
    simp only [Ty.prio, if_pos ha]
    unfold ad
    rw [wrap_in (by omega) (by omega)]
    omega
  · simp only [Ty.kids, List.mem_map] at hq
    obtain ⟨_, ⟨x, hx, rfl⟩, rfl⟩ := hq
    obtain ⟨j, hj, rfl⟩ := List.getElem_of_mem hx
    exact ⟨ds', σ', ks[j], _, ns', refs', Ts', ns'.length, .kid k p nm s ls ks a' ns' refs' Ts' g' h8 h9 h3 j hj, by omega, by omega, rfl⟩
theorem cb_top {L : List Ty} {M : Nat} {t : Ty} (h : Wf t [] 0) (hz : t.sz ≤ M) (hL : ∀ x ∈ occL [] [] t, x ∈ L) : CB L M 0 t := by
  have hp : Pl (nodesF t 0 [] []) 0 (nodesF t 0 [] []) := ⟨Int.le_refl _, fun q hq => by
    show (nodesF t 0 [] [])[(0 : Int).toNat + q]? = _
    rw [show (0 : Int).toNat + q = q by simp]
    exact List.getElem?_eq_getElem hq⟩
  have e : lkT [] [] = noE := by funext y; rfl
  exact ⟨_, 0, t, 0, [], [], [], 0, .top t 0 h hp hL (Wf.lm t [] 0 _ h hz), Int.le_refl _, Int.le_refl _, by rw [raise0_sub h, e, sub_id]⟩

/-! what is below -/
inductive Rch (A : Ty) : Nat → Ty → Prop
  | zero : Rch A 0 A
  | succ (n : Nat) (B C : Ty) (h : Rch A n B) (hk : C ∈ (unfT B).kids) : Rch A (n + 1) C
theorem Rch.trans {A B C : Ty} {n m : Nat} (h1 : Rch A n B) (h2 : Rch B m C) : Rch A (n + m) C := by
  induction h2 with
  | zero => exact h1
  | succ m X Y h hk ih => exact .succ _ X Y ih hk
theorem Rch.cb {L : List Ty} {M : Nat} {B : Int} {A C : Ty} {n : Nat} (h : Rch A n C) (hA : CB L M B A) (hB : B + n * 1000000 ≤ 4611686018427387904) : CB L M (B + n * 1000000) C := by
  induction h with
  | zero => simpa using hA
  | succ n X Y h hk ih =>
    have := ((ih (by omega)).step (by omega)).2 Y hk
    rw [show B + ((n + 1 : Nat) : Int) * 1000000 = B + n * 1000000 + 1000000 by omega]
    exact this
theorem Rch.raise {L : List Ty} {M : Nat} {A C : Ty} {n : Nat} (k : Int) (h : Rch A n C) (hA : CL L M A) : Rch (raiseT k A) n (raiseT k C) ∧ CL L M C := by
  induction h with
  | zero => exact ⟨.zero, hA⟩
  | succ n X Y h hk ih =>
    refine ⟨.succ n _ _ ih.1 ?_, ih.2.unf.2.2 Y hk⟩
    rw [unfT_raise k ih.2.ex, raise_kids]
    exact List.mem_map_of_mem hk
/-- equal types have equal ones below -/
theorem Rch.sim {L : List Ty} {M : Nat} {A C A' : Ty} {n : Nat} (h : Rch A n C) (hA : CL L M A) (hA' : CL L M A') (he : EqP (A, A')) : ∃ C', Rch A' n C' ∧ EqP (C, C') ∧ CL L M C ∧ CL L M C' := by
  induction h with
  | zero => exact ⟨A', .zero, he, hA, hA'⟩
  | succ n X Y h hk ih =>
    obtain ⟨X', h1, h2, h3, h4⟩ := ih
    obtain ⟨hl, hn⟩ := h2.step
    simp only at hl hn
    have sX := h3.unf.2.1
    have sX' := h4.unf.2.1
    obtain ⟨j, hj, rfl⟩ := List.getElem_of_mem hk
    have hlen := hl.len sX sX'
    by_cases e : (unfT X).labels = []
    · refine ⟨(unfT X').kids[j]'(by omega), .succ n _ _ h1 (List.getElem_mem _), hn ((unfT X).kids[j], (unfT X').kids[j]'(by omega)) (.inl ⟨e, j, List.getElem?_eq_getElem hj, List.getElem?_eq_getElem (by omega)⟩), h3.unf.2.2 _ (List.getElem_mem hj), h4.unf.2.2 _ (List.getElem_mem _)⟩
    · have k1 := sX.k1
      have hkl : (unfT X).kids.length = (unfT X).labels.length := by
        by_cases c3 : (unfT X).kind ≤ 3
        · exact absurd (sX.k3 c3).2.1 e
        · by_cases c5 : (unfT X).kind ≤ 5
          · exact absurd (sX.k5 ⟨by omega, c5⟩).2 e
          · exact sX.k7 ⟨by omega, k1.2⟩
      have hjl : j < (unfT X).labels.length := by omega
      obtain ⟨q, q1, q2⟩ := kidAt_ex sX' ((hl.2.2 _).1 (List.getElem_mem hjl))
      refine ⟨_, .succ n _ _ h1 (List.mem_of_getElem? q2), hn ((unfT X).kids[j], _) (.inr ⟨e, _, j, q, List.getElem?_eq_getElem hjl, q1, List.getElem?_eq_getElem hj, q2⟩), h3.unf.2.2 _ (List.getElem_mem hj), h4.unf.2.2 _ (List.mem_of_getElem? q2)⟩

/-- a type above one that is equal to it, raised: raised by no negative number -/
theorem no_neg {L : List Ty} {M : Nat} {p u : Ty} {w : Nat} {k : Int} (hw : w ≤ 1000) (hp : CB L M 1000000000 p) (hpu : Rch p w u) (hact : act (unfT p).kind = true) (he : EqP (raiseT k p, u)) (hk : -2000000000 ≤ k) : 0 ≤ k := by
  have key : ∀ n : Nat, ∃ v, Rch p (n * w) v ∧ EqP (raiseT (n * k) p, v) ∧ CL L M v := by
    intro n
    have cp := hp.cl
    induction n with
    | zero =>
      refine ⟨p, by rw [Nat.zero_mul]; exact .zero, ?_, cp⟩
      have h0 := eqP_unf cp
      have h1 := eqP_raise cp cp.unfC 0 h0
      rw [raise0 cp] at h1
      simp only [Int.natCast_zero, Int.zero_mul]
      exact eqP_trans (cp.raise 0) cp.unfC h1 (eqP_symm h0)
    | succ n ih =>
      obtain ⟨v, h1, h2, cv⟩ := ih
      have cu : CL L M u := (Rch.raise 0 hpu cp).2
      -- raise (n k) p goes to raise (n k) u
      have g1 := (Rch.raise (n * k) hpu cp).1
      obtain ⟨v', g2, g3, _, cv'⟩ := g1.sim (cp.raise _) cv h2
      refine ⟨v', by rw [Nat.succ_mul]; exact h1.trans g2, ?_, cv'⟩
      have g4 := eqP_raise (cp.raise k) cu (n * k) he
      rw [raise_raise] at g4
      rw [show ((n + 1 : Nat) : Int) * k = k + n * k by rw [Int.natCast_add, Int.add_mul]; omega]
      exact eqP_trans (cp.raise _) (cu.raise _) g4 g3
  rcases Int.lt_or_le k 0 with hneg | hneg
  · exfalso
    obtain ⟨v, h1, h2, _⟩ := key 1100000000
    have cp := hp.cl
    have hpr := (hp.step (by omega)).1 hact
    have cbv := h1.cb hp (by omega)
    have hloc := h2.step.1
    simp only [unfT_raise _ cp.ex] at hloc
    have hav : act (unfT v).kind = true := by rw [← hloc.1, raise_kind]; exact hact
    have hpv := (cbv.step (by omega)).1 hav
    rw [← hloc.2.1, raise_prio _ _ hact] at hpv
    unfold ad at hpv
    have hlo : (unfT p).prio + ((1100000000 : Nat) : Int) * k < 0 := by omega
    have hlo2 : -9223372036854775808 ≤ (unfT p).prio + ((1100000000 : Nat) : Int) * k := by omega
    rw [wrap_in hlo2 (by omega)] at hpv
    omega
  · exact hneg
end Go.Proofs.YtopinhoalbgebaaGreatDoor.Tx

/- The normal tree of a right type: its numbers (2), its weight. -/
namespace Go.Proofs.YtopinhoalbgebaaGreatDoor.Tx
open Go.Lf Go.Lf.S Go.Lf.Duo
set_option maxRecDepth 100000

theorem CB.unfC {L : List Ty} {M : Nat} {B : Int} {T : Ty} (h : CB L M B T) : CB L M (B + 1000000) (unfT T) := by
  obtain ⟨ds, σ, t, a, ns, refs, Ts, g, ho, h0, h1, rfl⟩ := h
  obtain ⟨ds', σ', k, p, nm, s, ls, ks, a', ns', refs', Ts', g', h3, h8, h9, h4, h5, hU⟩ := ndB_occ t ho (σ := σ)
  rw [unfT_eq hU]
  exact ⟨ds', σ', _, a', ns', refs', Ts', g', h3, by omega, by omega, rfl⟩
theorem CB.mono {L : List Ty} {M : Nat} {B B' : Int} {T : Ty} (h : CB L M B T) (hB : B ≤ B') : CB L M B' T := by
  obtain ⟨ds, σ, t, a, ns, refs, Ts, g, ho, h0, h1, h2⟩ := h
  exact ⟨ds, σ, t, a, ns, refs, Ts, g, ho, h0, by omega, h2⟩

/-- a tree whose text can be made -/
inductive Tok : Ty → Prop
  | mk (t : Ty) (k1 : 1 ≤ t.kind ∧ t.kind ≤ 9) (k4 : 4 ≤ t.kind ∧ t.kind ≤ 7 → 0 ≤ t.prio ∧ t.prio ≤ 2000000000) (k5 : 4 ≤ t.kind ∧ t.kind ≤ 5 → t.kids.length = 2) (k6 : 6 ≤ t.kind ∧ t.kind ≤ 7 → t.labels.length = t.kids.length)
      (k8 : t.kind = 8 → t.kids.length = 1 ∧ t.name.size ≤ 10) (k9 : t.kind = 9 → 0 ≤ t.shift ∧ t.shift ≤ 2000000000 ∧ t.name.size ≤ 10 ∧ t.kids = []) (h : ∀ k ∈ t.kids, Tok k) : Tok t
theorem nmB_size {j : Nat} (h : j < 100) : (nmB j).size ≤ 10 := by
  have := decS_size h
  show ((⟨#[114]⟩ : ByteArray) ++ decS j).size ≤ 10
  rw [ByteArray.size_append]
  show 1 + (decS j).size ≤ 10
  omega
theorem lit_tok {k : Int} (h : 1 ≤ k ∧ k ≤ 3) : Tok (litT k) := by
  refine .mk _ ⟨h.1, by show k ≤ 9; omega⟩ (fun c => ?_) (fun c => ?_) (fun c => ?_) (fun c => ?_) (fun c => ?_) (fun x hx => by cases hx)
  all_goals (simp only [litT, Ty.kind] at c; omega)
theorem var_tok {j : Nat} {s : Int} (hj : j < 100) (h0 : 0 ≤ s) (h1 : s ≤ 2000000000) : Tok (varT j s) := by
  refine .mk _ ⟨by show (1 : Int) ≤ 9; omega, by show (9 : Int) ≤ 9; omega⟩ (fun c => ?_) (fun c => ?_) (fun c => ?_) (fun c => ?_) (fun _ => ⟨h0, h1, nmB_size hj, rfl⟩) (fun x hx => by cases hx)
  all_goals (simp only [varT, Ty.kind] at c; omega)
theorem wrap_tok {m : Nat} {t : Ty} (hm : m < 100) (h : Tok t) : Tok (wrapT m t) := by
  unfold wrapT
  split
  · refine .mk _ ⟨by show (1 : Int) ≤ 8; omega, by show (8 : Int) ≤ 9; omega⟩ (fun c => ?_) (fun c => ?_) (fun c => ?_) (fun _ => ⟨rfl, nmB_size hm⟩) (fun c => ?_) (fun x hx => by
      rw [List.mem_singleton.1 hx]; exact h)
    all_goals (simp only [Ty.kind] at c; omega)
  · exact h
structure Anc (L : List Ty) (M : Nat) (path : List Ty) (T : Ty) : Prop where
  cb : ∀ p ∈ path, CB L M 1000000000 p
  rc : ∀ p ∈ path, ∃ w, w ≤ path.length ∧ Rch p w T
theorem nmT_tok {L : List Ty} {M : Nat} (hM : M ≤ 549755813888) (hL : L.length ≤ 99) : ∀ (m : Nat) (path : List Ty) (T : Ty), CB L M (path.length * 1000000) T → POk L M path → Anc L M path T → L.length < path.length + m → Tok (nmT m path T) := by
  intro m
  induction m with
  | zero => intro path T _ hp _ hm; have := hp.len; omega
  | succ m ih =>
    intro path T hT hp hA hm
    have hpl := hp.len
    have cT := hT.cl
    have hS := cT.unf.2.1
    have k1 := hS.k1
    have hst := hT.step (by omega)
    by_cases h3 : (unfT T).kind ≤ 3
    · rw [nmT_lit h3]; exact lit_tok ⟨k1.1, h3⟩
    have hact : act (unfT T).kind = true := by simp only [act, decide_eq_true_eq]; omega
    have hpr := hst.1 hact
    cases hf : fnd path (unfT T) with
    | some j =>
      obtain ⟨hj, hh, _⟩ := fnd_some hf
      rw [nmT_var h3 hf hj]
      have hmem := List.getElem_mem hj
      have cbp := hA.cb _ hmem
      have hup := hp.un _ hmem
      have hap := hp.ac _ hmem
      obtain ⟨w, hw, hr⟩ := hA.rc _ hmem
      have hpp := (cbp.step (by omega)).1 (by rw [hup]; exact hap)
      rw [hup] at hpp
      have hoff : off path[j] (unfT T) = (unfT T).prio - path[j].prio := by
        unfold off
        rw [pz_act hap, wrap_in (by omega) (by omega)]
      unfold Hit at hh
      have he : EqP (raiseT (off path[j] (unfT T)) path[j], T) := eqP_trans (cbp.cl.raise _) cT.unfC hh (eqP_symm (eqP_unf cT))
      have hnn := no_neg (by omega) cbp hr (by rw [hup]; exact hap) he (by rw [hoff]; omega)
      exact var_tok (by omega) hnn (by rw [hoff]; omega)
    | none =>
      rw [nmT_node h3 hf]
      have hol := ordK_len hS hM
      have hlm := shp_lm hS
      have hp2 := hp.snoc cT hact hf
      have hl2 : (path ++ [unfT T]).length = path.length + 1 := by simp
      have cu := hT.unfC
      refine wrap_tok (by omega) (.mk _ ⟨k1.1, by show (unfT T).kind ≤ 9; omega⟩ (fun _ => ⟨hpr.1, by show (unfT T).prio ≤ _; omega⟩) (fun c => ?_) (fun c => ?_) (fun c => ?_) (fun c => ?_) (fun k hk => ?_))
      · show ((ordK (unfT T)).map _).length = 2
        rw [List.length_map, hol]; exact (hS.k5 c).1
      · show (srt (unfT T).labels).length = ((ordK (unfT T)).map _).length
        rw [List.length_map, hol, (srt_spec hS.nd (by omega)).1]; exact (hS.k7 c).symm
      · have c : (unfT T).kind = 8 := c
        omega
      · have c : (unfT T).kind = 9 := c
        omega
      · obtain ⟨x, hx, rfl⟩ := List.mem_map.1 (show k ∈ (ordK (unfT T)).map _ from hk)
        have hxk := ordK_mem hS hM hx
        refine ih _ x ?_ hp2 ⟨fun p hp' => ?_, fun p hp' => ?_⟩ (by omega)
        · rw [hl2]
          exact (hst.2 x hxk).mono (by omega)
        · rcases List.mem_append.1 hp' with h | h
          · exact hA.cb p h
          · rw [List.mem_singleton.1 h]; exact cu.mono (by omega)
        · rcases List.mem_append.1 hp' with h | h
          · obtain ⟨w, hw, hr⟩ := hA.rc p h
            exact ⟨w + 1, by omega, .succ _ _ _ hr hxk⟩
          · rw [List.mem_singleton.1 h]
            exact ⟨1, by omega, .succ 0 _ _ .zero (by rw [cT.uu]; exact hxk)⟩

/-! weights -/
mutual
def wt (f : ByteArray → Nat) : Ty → Nat
  | .mk _ _ _ _ ls ks => 100 + (ls.map f).sum + wts f ks
def wts (f : ByteArray → Nat) : List Ty → Nat
  | [] => 0
  | t :: ts => wt f t + wts f ts
end
theorem wts_eq (f : ByteArray → Nat) : ∀ l : List Ty, wts f l = (l.map (wt f)).sum
  | [] => by simp [wts]
  | t :: ts => by simp [wts, wts_eq f ts]
theorem wt_mk (f : ByteArray → Nat) (kd p : Int) (nm : ByteArray) (s : Int) (ls : List ByteArray) (ks : List Ty) : wt f (.mk kd p nm s ls ks) = 100 + (ls.map f).sum + (ks.map (wt f)).sum := by simp only [wt, wts_eq]
theorem sum_le {α : Type} {f g : α → Nat} : ∀ {l : List α}, (∀ x ∈ l, f x ≤ g x) → (l.map f).sum ≤ (l.map g).sum
  | [], _ => by simp
  | x :: l, h => by
    have h1 := h x (by simp)
    have h2 := sum_le (l := l) fun y hy => h y (by simp [hy])
    simp only [List.map_cons, List.sum_cons]; omega
theorem sum_mul2 {α : Type} {f : α → Nat} : ∀ l : List α, (l.map fun x => 2 * f x).sum = 2 * (l.map f).sum
  | [] => rfl
  | x :: l => by simp only [List.map_cons, List.sum_cons, sum_mul2 l]; omega
theorem srt_perm {l : List ByteArray} (hn : l.Nodup) (hl : l.length ≤ 549755813888) : (srt l).Perm l := by
  obtain ⟨_, h2, h3, _⟩ := srt_spec hn hl
  rw [List.perm_ext_iff_of_nodup h3 hn]
  exact h2
theorem ordK_perm {M : Nat} {u : Ty} (hS : Shp M u) (hM : M ≤ 549755813888) : (ordK u).Perm u.kids := by
  unfold ordK
  split
  · exact List.Perm.refl _
  · rename_i hne
    have hlm := shp_lm hS
    refine ((srt_perm hS.nd (by omega)).map (kidAt u)).trans ?_
    have e : u.labels.map (kidAt u) = u.kids := by
      have hk : u.kids.length = u.labels.length := by
        have k1 := hS.k1
        by_cases c3 : u.kind ≤ 3
        · exact absurd (hS.k3 c3).2.1 hne
        · by_cases c5 : u.kind ≤ 5
          · exact absurd (hS.k5 ⟨by omega, c5⟩).2 hne
          · exact hS.k7 ⟨by omega, k1.2⟩
      refine List.ext_getElem (by rw [List.length_map]; omega) fun q h1 h2 => ?_
      rw [List.getElem_map]
      exact kidAt_eq hS.nd (List.getElem?_eq_getElem (by simpa using h1)) (List.getElem?_eq_getElem h2)
    rw [e]
theorem nmT_congr {m : Nat} {path : List Ty} {A B : Ty} (h : unfT A = unfT B) : nmT (m + 1) path A = nmT (m + 1) path B := by
  by_cases h3 : (unfT A).kind ≤ 3
  · rw [nmT_lit h3, nmT_lit (by rw [← h]; exact h3), h]
  · cases hf : fnd path (unfT A) with
    | none => rw [nmT_node h3 hf, nmT_node (by rw [← h]; exact h3) (by rw [← h]; exact hf), h]
    | some j =>
      obtain ⟨hj, _⟩ := fnd_some hf
      rw [nmT_var h3 hf hj, nmT_var (by rw [← h]; exact h3) (by rw [← h]; exact hf) hj, h]
theorem hit_nu {L : List Ty} {M : Nat} {p u : Ty} (hpa : act p.kind = true) (hp : unfT p = p) (cu : CL L M u) (hu : unfT u = u) (hua : act u.kind = true) (h : nu p = nu u) : Hit p u := by
  unfold Hit
  have e : raiseT (off p u) p = u := by
    unfold nu at h
    rw [hp, hu, pz_act hua, pz_act hpa] at h
    have := congrArg (raiseT u.prio) h
    have h0 := raise0 cu
    rw [hu] at h0
    rw [raise_raise, raise_raise, show -u.prio + u.prio = 0 by omega, h0] at this
    refine Eq.trans ?_ this
    unfold off
    rw [raise_wr, pz_act hpa]
    congr 1; omega
  rw [e]
  exact eqP_refl cu
theorem rec_unf {ds : List Nd} {L : List Ty} {M : Nat} {k p : Int} {nm : ByteArray} {s : Int} {ls : List ByteArray} {x : Ty} {a : Int} {ns : List ByteArray} {refs : List Rf} {Ts : List Ty} {g : Nat} {σ : Int} (h8 : k = 8) (h : Occ ds L M (.mk k p nm s ls [x]) a ns refs Ts g) :
    unfT (raiseT σ (sub (lkT ns Ts) (.mk k p nm s ls [x]))) = unfT (raiseT σ (sub (lkT (ns ++ [nm]) (Ts ++ [sub (lkT ns Ts) (.mk k p nm s ls [x])])) x)) := by
  have hi' := h.i
  obtain ⟨x', hx', hw⟩ := wf_kid8 hi'.wf h8
  cases hx'
  have hd := Occ.down k p nm s ls x a ns refs Ts g h8 h
  obtain ⟨u, hu, _⟩ := occU x hd (σ := σ)
  rw [unfT_eq hu]
  rw [lkT_snoc _ _ _ _ hi'.l2.symm, ← put_sub hw (fun y T hy _ => hi'.clo T (lkT_mem _ _ _ _ hy) nm), ← raise_put] at hu
  refine unfT_eq ?_
  have e : raiseT σ (sub (lkT ns Ts) (.mk k p nm s ls [x])) = .mk k p nm s ls [raiseT σ (sub ((lkT ns Ts).del nm) x)] := by
    rw [sub_8 h8, raiseT_mk, if_neg (by omega)]; rfl
  refine .step _ (raiseT σ (sub ((lkT ns Ts).del nm) x)) _ [] (by rw [e]; exact h8) (by rw [e]; rfl) ?_
  have en : (raiseT σ (sub (lkT ns Ts) (.mk k p nm s ls [x]))).name = nm := by rw [e]; rfl
  rw [en]; exact hu
theorem node_unf {ds : List Nd} {L : List Ty} {M : Nat} {k p : Int} {nm : ByteArray} {s : Int} {ls : List ByteArray} {ks : List Ty} {a : Int} {ns : List ByteArray} {refs : List Rf} {Ts : List Ty} {g : Nat} {σ : Int} (h8 : ¬ k = 8) (h9 : ¬ k = 9) (h : Occ ds L M (.mk k p nm s ls ks) a ns refs Ts g) :
    unfT (raiseT σ (sub (lkT ns Ts) (.mk k p nm s ls ks))) = .mk k (if 4 ≤ k ∧ k ≤ 7 then ad p σ else p) nm s ls ((ks.map (sub (lkT ns Ts))).map (raiseT σ)) := by
  have e : raiseT σ (sub (lkT ns Ts) (.mk k p nm s ls ks)) = .mk k (if 4 ≤ k ∧ k ≤ 7 then ad p σ else p) nm s ls ((ks.map (sub (lkT ns Ts))).map (raiseT σ)) := by rw [sub_o h8 h9, raiseT_mk]
  have := Unf.done (raiseT σ (sub (lkT ns Ts) (.mk k p nm s ls ks))) (by rw [e]; exact h8)
  rw [raise_raise] at this
  have h2 : Unf (raiseT σ (sub (lkT ns Ts) (.mk k p nm s ls ks))) (raiseT σ (sub (lkT ns Ts) (.mk k p nm s ls ks))) := by simpa using this
  rw [unfT_eq h2, e]

theorem nmT_wt (f : ByteArray → Nat) {ds : List Nd} {L : List Ty} {M : Nat} (hM : M ≤ 549755813888) : ∀ (t : Ty) (a : Int) (ns : List ByteArray) (refs : List Rf) (Ts : List Ty) (g : Nat) (σ : Int) (m : Nat) (path : List Ty), Occ ds L M t a ns refs Ts g → POk L M path → L.length < path.length + m →
    (∀ i (hi : i < Ts.length), i < g → ∃ τ, unfT (raiseT τ Ts[i]) ∈ path) → (∀ i (hi : i < Ts.length), g ≤ i → unfT (raiseT σ Ts[i]) = unfT (raiseT σ (sub (lkT ns Ts) t))) → wt f (nmT m path (raiseT σ (sub (lkT ns Ts) t))) ≤ 2 * wt f t := by
  intro t
  induction t using Ty.ind with
  | _ t ih =>
  intro a ns refs Ts g σ m path h hp hm hlo hhi
  have hpl := hp.len
  obtain ⟨m, rfl⟩ : ∃ m', m = m' + 1 := ⟨m - 1, by omega⟩
  have hi := h.i
  have cT : CL L M (raiseT σ (sub (lkT ns Ts) t)) := ⟨ds, _, σ, t, a, ns, refs, Ts, g, h, rfl, rfl⟩
  have small : ∀ j s, wt f (varT j s) ≤ 2 * wt f t := fun j s => by
    obtain ⟨kd, p, nm, s', ls, ks⟩ := t
    rw [wt_mk, varT, wt_mk]; simp; omega
  obtain ⟨k, p, nm, s, ls, ks⟩ := t
  by_cases h9 : k = 9
  · obtain ⟨j, hj, hla⟩ := wf_var hi.wf h9
    have hjn : j < ns.length := Nat.lt_of_lt_of_le hj hi.gle
    have hl1 := hi.l1
    have hl2 := hi.l2
    have h2 := lkT_at ns Ts nm j hla.1 hla.2 (by omega)
    obtain ⟨t', a', ns', refs', Ts', g', e1, e2, e3, e4⟩ := hi.ent j (by omega) (by omega)
    have cj : CL L M (Ts[j]'(by omega)) := by
      rw [e3]
      exact ⟨ds, _, 0, t', a', ns', refs', Ts', g', e1, rfl, (raise0_sub e1.i.wf).symm⟩
    obtain ⟨τ, hτ⟩ := hlo j (by omega) hj
    have hTe : raiseT σ (sub (lkT ns Ts) (.mk k p nm s ls ks)) = raiseT (s + σ) (Ts[j]'(by omega)) := by rw [sub_9 h9 h2, raise_raise]
    rw [hTe] at cT ⊢
    have hpa := hp.ac _ hτ
    rw [unfT_raise τ cj.ex, raise_kind] at hpa
    have hua : act (unfT (raiseT (s + σ) (Ts[j]'(by omega)))).kind = true := by rw [unfT_raise _ cj.ex, raise_kind]; exact hpa
    have nuu : ∀ {X : Ty}, CL L M X → nu (unfT X) = nu X := fun {X} hX => by unfold nu; rw [hX.uu]
    have hnu : nu (unfT (raiseT τ (Ts[j]'(by omega)))) = nu (unfT (raiseT (s + σ) (Ts[j]'(by omega)))) := by
      rw [nuu (cj.raise _), nuu (cj.raise _), nu_raise cj.ex hpa, nu_raise cj.ex hpa]
    have hh : Hit (unfT (raiseT τ (Ts[j]'(by omega)))) (unfT (raiseT (s + σ) (Ts[j]'(by omega)))) := hit_nu (hp.ac _ hτ) (hp.un _ hτ) (cj.raise _).unfC (cj.raise _).uu hua hnu
    have h3 : ¬ (unfT (raiseT (s + σ) (Ts[j]'(by omega)))).kind ≤ 3 := by
      simp only [act, decide_eq_true_eq] at hua; omega
    cases hf : fnd path (unfT (raiseT (s + σ) (Ts[j]'(by omega)))) with
    | none =>
      obtain ⟨q, hq, hqe⟩ := List.getElem_of_mem hτ
      exact absurd (by rw [hqe]; exact hh) (fnd_none hf q hq)
    | some q =>
      rw [nmT_var h3 hf (fnd_some hf).1]
      exact small _ _
  · by_cases h8 : k = 8
    · obtain ⟨x, rfl, hw⟩ := wf_kid8 hi.wf h8
      have hru := rec_unf (σ := σ) h8 h
      rw [nmT_congr hru]
      have hd := Occ.down k p nm s ls x a ns refs Ts g h8 h
      have := ih x (by simp [Ty.kids]) a (ns ++ [nm]) (refs ++ [refF (.mk k p nm s ls [x]) a ns refs]) (Ts ++ [sub (lkT ns Ts) (.mk k p nm s ls [x])]) g σ (m + 1) path hd hp hm (fun i hi' hig => ?_) (fun i hi' hig => ?_)
      · refine Nat.le_trans this ?_
        rw [wt_mk]; simp; omega
      · by_cases e : i < Ts.length
        · obtain ⟨τ, hτ⟩ := hlo i e hig
          exact ⟨τ, by rw [List.getElem_append_left e]; exact hτ⟩
        · have := hi.gle; have := hi.l2; omega
      · rw [← hru]
        by_cases e : i < Ts.length
        · rw [List.getElem_append_left e]; exact hhi i e hig
        · have e1 : (Ts ++ [sub (lkT ns Ts) (.mk k p nm s ls [x])])[i] = sub (lkT ns Ts) (.mk k p nm s ls [x]) := by
            rw [List.getElem_append_right (by omega)]; simp
          rw [e1]
    · have hS := cT.unf.2.1
      have hu := node_unf (σ := σ) h8 h9 h
      have k1 := hS.k1
      by_cases h3 : (unfT (raiseT σ (sub (lkT ns Ts) (.mk k p nm s ls ks)))).kind ≤ 3
      · rw [nmT_lit h3, litT, wt_mk, wt_mk]; simp; omega
      have hact : act (unfT (raiseT σ (sub (lkT ns Ts) (.mk k p nm s ls ks)))).kind = true := by simp only [act, decide_eq_true_eq]; omega
      cases hf : fnd path (unfT (raiseT σ (sub (lkT ns Ts) (.mk k p nm s ls ks)))) with
      | some q =>
        rw [nmT_var h3 hf (fnd_some hf).1]
        exact small _ _
      | none =>
        rw [nmT_node h3 hf]
        have hp2 := hp.snoc cT hact hf
        have wrapL : ∀ (q : Nat) (X : Ty), wt f (wrapT q X) ≤ 100 + wt f X := fun q X => by
          unfold wrapT; split
          · rw [wt_mk]; simp
          · omega
        refine Nat.le_trans (wrapL _ _) ?_
        have hpm := (ordK_perm hS hM).map (fun x => wt f (nmT m (path ++ [unfT (raiseT σ (sub (lkT ns Ts) (.mk k p nm s ls ks)))]) x))
        have hlm := shp_lm hS
        have hsp := (srt_perm hS.nd (by omega)).map f
        rw [nodeT, wt_mk, wt_mk, List.map_map, List.Perm.sum_nat hsp]
        rw [show (List.map (wt f ∘ nmT m (path ++ [unfT (raiseT σ (sub (lkT ns Ts) (.mk k p nm s ls ks)))])) (ordK (unfT (raiseT σ (sub (lkT ns Ts) (.mk k p nm s ls ks)))))).sum = _ from List.Perm.sum_nat hpm]
        have hkk : (unfT (raiseT σ (sub (lkT ns Ts) (.mk k p nm s ls ks)))).kids = (ks.map (sub (lkT ns Ts))).map (raiseT σ) := by rw [hu]; rfl
        have hll : (unfT (raiseT σ (sub (lkT ns Ts) (.mk k p nm s ls ks)))).labels = ls := by rw [hu]; rfl
        rw [hkk, hll, List.map_map, List.map_map]
        have := sum_le (l := ks) (f := fun x => wt f (nmT m (path ++ [unfT (raiseT σ (sub (lkT ns Ts) (.mk k p nm s ls ks)))]) (raiseT σ (sub (lkT ns Ts) x)))) (g := fun x => 2 * wt f x) (fun x hx => by
          obtain ⟨j, hj, rfl⟩ := List.getElem_of_mem hx
          refine ih ks[j] (by simp only [Ty.kids]; exact List.getElem_mem hj) _ ns refs Ts ns.length σ m _ (.kid k p nm s ls ks a ns refs Ts g h8 h9 h j hj) hp2 (by simp; omega) (fun i hi' hig => ?_) (fun i hi' hig => ?_)
          · by_cases e : i < g
            · obtain ⟨τ, hτ⟩ := hlo i hi' e
              exact ⟨τ, List.mem_append_left _ hτ⟩
            · exact ⟨σ, List.mem_append_right _ (by rw [hhi i hi' (by omega)]; simp)⟩
          · have := hi.l2; omega)
        rw [sum_mul2] at this
        simp only [Function.comp_def] at this ⊢
        omega
theorem nmT_wt0 (f : ByteArray → Nat) {L : List Ty} {M : Nat} (hM : M ≤ 549755813888) {m : Nat} (hm : L.length ≤ m) {t : Ty} (h : Wf t [] 0) (hz : t.sz ≤ M) (hL : ∀ x ∈ occL [] [] t, x ∈ L) : wt f (nmT (m + 1) [] t) ≤ 2 * wt f t := by
  have hp : Pl (nodesF t 0 [] []) 0 (nodesF t 0 [] []) := ⟨Int.le_refl _, fun q hq => by
    show (nodesF t 0 [] [])[(0 : Int).toNat + q]? = _
    rw [show (0 : Int).toNat + q = q by simp]
    exact List.getElem?_eq_getElem hq⟩
  have e : lkT [] [] = noE := by funext y; rfl
  have := nmT_wt f hM t 0 [] [] [] 0 0 (m + 1) [] (.top t 0 h hp hL (Wf.lm t [] 0 _ h hz)) pok0 (by simp; omega) (fun i hi _ => by simp at hi) (fun i hi _ => by simp at hi)
  rw [raise0_sub h, e, sub_id] at this
  exact this
end Go.Proofs.YtopinhoalbgebaaGreatDoor.Tx

/- Texts of trees: what the reference makes. -/
namespace Go.Proofs.YtopinhoalbgebaaGreatDoor.Tx
open Go.Lf Go.Lf.S Go.Lf.Duo
set_option maxRecDepth 100000

def mkB (l : List UInt8) : ByteArray := ⟨l.toArray⟩
def bl8 (b : ByteArray) : List UInt8 := b.data.toList
theorem mkB_bl (b : ByteArray) : mkB (bl8 b) = b := by unfold mkB bl8; rfl
theorem bl_mkB (l : List UInt8) : bl8 (mkB l) = l := by unfold mkB bl8; simp
theorem bl_len (b : ByteArray) : (bl8 b).length = b.size := by
  show b.data.toList.length = b.data.size
  simp
theorem ev_cat {a b : List UInt8} (h : a.length + b.length ≤ 9223372036854775807) : (Prim.cat).ev [.str (mkB a), .str (mkB b)] = some (.str (mkB (a ++ b))) := by
  show (if a.toArray.size + b.toArray.size ≤ maxLen then some (PV.str (mkB a ++ mkB b)) else none) = _
  have e : mkB a ++ mkB b = mkB (a ++ b) := by
    apply ByteArray.ext
    rw [ByteArray.data_append]
    unfold mkB
    simp
  rw [if_pos (by rw [List.size_toArray, List.size_toArray]; unfold maxLen; omega), e]

def sgn (k : Int) : UInt8 := if k = 4 then 33 else if k = 5 then 63 else if k = 6 then 43 else 38
def numB (p : Int) : List UInt8 := if 0 < p then Lib.decDigits p.toNat else []
def payB (k : Int) (t : List UInt8) : List UInt8 := if k = 1 ∨ k = 2 ∨ k = 3 ∨ k = 9 then t else [40] ++ t ++ [41]
def labB : List ByteArray → List (List UInt8) → List (List UInt8)
  | l :: ls, t :: ts => (bl8 l ++ [58, 32] ++ t) :: labB ls ts
  | _, _ => []
def kd0 : List Ty → Int
  | t :: _ => t.kind
  | [] => 0
def bodyB (kd p : Int) (nm : ByteArray) (sh : Int) (ls : List ByteArray) (k0 : Int) (ts : List (List UInt8)) : List UInt8 :=
  if kd = 1 then [105, 110, 116] else if kd = 2 then [98, 111, 111, 108] else if kd = 3 then [101, 110, 100]
  else if kd = 8 then [114, 101, 99, 32] ++ bl8 nm ++ [46] ++ ts.getD 0 []
  else if kd = 9 then (if 0 < sh then bl8 nm ++ [43] ++ Lib.decDigits sh.toNat else bl8 nm)
  else if 6 ≤ kd then [sgn kd] ++ numB p ++ [123] ++ Lib.join (labB ls ts) [44, 32] ++ [125]
  else [sgn kd] ++ numB p ++ (if 0 < p then [32] else []) ++ payB k0 (ts.getD 0 []) ++ [46] ++ ts.getD 1 []
mutual
def txB : Ty → List UInt8
  | .mk kd p nm sh ls ks => bodyB kd p nm sh ls (kd0 ks) (txBs ks)
def txBs : List Ty → List (List UInt8)
  | [] => []
  | t :: ts => txB t :: txBs ts
end
theorem txBs_eq : ∀ l : List Ty, txBs l = l.map txB
  | [] => by simp [txBs]
  | t :: ts => by simp [txBs, txBs_eq ts]
theorem txB_mk (kd p : Int) (nm : ByteArray) (sh : Int) (ls : List ByteArray) (ks : List Ty) : txB (.mk kd p nm sh ls ks) = bodyB kd p nm sh ls (kd0 ks) (ks.map txB) := by simp only [txB, txBs_eq]
theorem labB_len : ∀ (ls : List ByteArray) (ts : List (List UInt8)), ls.length = ts.length → (labB ls ts).length = ls.length
  | [], [], _ => rfl
  | l :: ls, t :: ts, h => by simp [labB, labB_len ls ts (by simpa using h)]
theorem labB_at : ∀ (ls : List ByteArray) (ts : List (List UInt8)) (j : Nat) (h1 : j < ls.length) (h2 : j < ts.length) (h3 : j < (labB ls ts).length), (labB ls ts)[j] = bl8 ls[j] ++ [58, 32] ++ ts[j]
  | l :: ls, t :: ts, 0, _, _, _ => rfl
  | l :: ls, t :: ts, j + 1, h1, h2, h3 => by
    simp only [labB, List.getElem_cons_succ]
    exact labB_at ls ts j (by simpa using h1) (by simpa using h2) _
def fL (s : ByteArray) : Nat := s.size + 10
theorem join_snoc (sep : List UInt8) : ∀ (l : List (List UInt8)) (x : List UInt8), l ≠ [] → Lib.join (l ++ [x]) sep = Lib.join l sep ++ sep ++ x
  | [], _, h => absurd rfl h
  | [a], x, _ => by
    simp [Lib.join, List.intercalate, List.intersperse]
  | a :: b :: r, x, _ => by
    have ih := join_snoc sep (b :: r) x (by simp)
    simp only [Lib.join, List.intercalate, List.cons_append, List.intersperse_cons₂, List.flatten_cons, List.append_assoc] at ih ⊢
    rw [ih]
theorem join_len (sep : List UInt8) : ∀ l : List (List UInt8), (Lib.join l sep).length ≤ (l.map fun x => x.length + sep.length).sum
  | [] => by simp [Lib.join, List.intercalate]
  | [a] => by simp [Lib.join, List.intercalate, List.intersperse]
  | a :: b :: r => by
    have ih := join_len sep (b :: r)
    simp only [Lib.join, List.intercalate, List.intersperse_cons₂, List.flatten_cons, List.length_append] at ih ⊢
    simp only [List.map_cons, List.sum_cons] at ih ⊢
    omega
theorem join_take (sep : List UInt8) (l : List (List UInt8)) (j : Nat) (h : j < l.length) : Lib.join (l.take (j + 1)) sep = if j = 0 then l[j] else Lib.join (l.take j) sep ++ sep ++ l[j] := by
  rw [List.take_succ_eq_append_getElem h]
  split
  · rename_i e
    subst e
    simp [Lib.join, List.intercalate]
  · exact join_snoc sep _ _ (by
      intro c
      have := congrArg List.length c
      rw [List.length_take, List.length_nil] at this
      omega)
theorem sum_take : ∀ (l : List Nat) (j : Nat), (l.take j).sum ≤ l.sum
  | [], _ => by simp
  | a :: l, 0 => by simp
  | a :: l, j + 1 => by
    have := sum_take l j
    simp only [List.take_succ_cons, List.sum_cons]; omega
theorem join_pre (sep : List UInt8) (l : List (List UInt8)) : ∀ j : Nat, (Lib.join (l.take j) sep).length ≤ (l.map fun x => x.length + sep.length).sum := fun j => by
  refine Nat.le_trans (join_len sep _) ?_
  rw [List.map_take]
  exact sum_take _ _
end Go.Proofs.YtopinhoalbgebaaGreatDoor.Tx
