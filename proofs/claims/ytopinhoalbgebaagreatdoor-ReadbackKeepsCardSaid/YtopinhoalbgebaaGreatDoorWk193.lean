/- Contracts (Wk192, Wk193). -/
import Derived.Test.YtopinhoalbgebaaGreatDoorWk191
import Derived.Test.YtopinhoalbgebaaGreatDoorWk184
set_option linter.all false
/- The normal tree of a right type is equal to it. -/
namespace Go.Proofs.YtopinhoalbgebaaGreatDoor.Tx
open Go.Lf Go.Lf.S Go.Lf.Duo
set_option maxRecDepth 100000

/-- an occurrence in a normal tree: what it is the tree of, and what its names stand for -/
inductive Nv (ds : List Nd) (L : List Ty) (M : Nat) : Ty → List ByteArray → List Ty → List Ty → Ty → Nat → Prop
  | mk (x : Ty) (ns : List ByteArray) (Ts : List Ty) (path : List Ty) (T : Ty) (m : Nat) (J : Nat → Nat) (X : Nat → Ty) (NS : Nat → List ByteArray) (TS : Nat → List Ty) (V : Nat → Ty) (K : Nat → Nat)
      (ho : ∃ a refs g, Occ ds L M x a ns refs Ts g) (hx : x = nmT m path T) (hp : POk L M path) (hT : CL L M T) (hm : L.length < path.length + m)
      (he : ∀ i, i < ns.length → J i < path.length ∧ ns[i]? = some (nmB (J i)) ∧ Ts[i]? = some (sub (lkT (NS i) (TS i)) (X i)) ∧ path[J i]? = some (unfT (V i)) ∧ fnd (path.take (J i)) (unfT (V i)) = none)
      (hn : ∀ i, i < ns.length → Nv ds L M (X i) (NS i) (TS i) (path.take (J i)) (V i) (K i)) : Nv ds L M x ns Ts path T m
theorem Nv.occ {ds : List Nd} {L : List Ty} {M : Nat} {x : Ty} {ns : List ByteArray} {Ts path : List Ty} {T : Ty} {m : Nat} (h : Nv ds L M x ns Ts path T m) : ∃ a refs g, Occ ds L M x a ns refs Ts g := by
  cases h with | mk _ _ _ _ _ _ _ _ _ _ _ _ ho => exact ho
theorem Nv.cl {ds : List Nd} {L : List Ty} {M : Nat} {x : Ty} {ns : List ByteArray} {Ts path : List Ty} {T : Ty} {m : Nat} (h : Nv ds L M x ns Ts path T m) : CL L M T := by
  cases h with | mk _ _ _ _ _ _ _ _ _ _ _ _ _ _ _ hT => exact hT
theorem Nv.pok {ds : List Nd} {L : List Ty} {M : Nat} {x : Ty} {ns : List ByteArray} {Ts path : List Ty} {T : Ty} {m : Nat} (h : Nv ds L M x ns Ts path T m) : POk L M path ∧ x = nmT m path T ∧ L.length < path.length + m := by
  cases h with | mk _ _ _ _ _ _ _ _ _ _ _ _ _ hx hp _ hm => exact ⟨hp, hx, hm⟩
/-- a kid of a node -/
theorem Nv.kid {ds : List Nd} {L : List Ty} {M : Nat} {u : Ty} {ts : List Ty} {a : Int} {ns : List ByteArray} {refs : List Rf} {Ts : List Ty} {g : Nat} {path : List Ty} {k : Ty} {m : Nat} {J : Nat → Nat} {X : Nat → Ty} {NS : Nat → List ByteArray} {TS : Nat → List Ty} {V : Nat → Ty} {K : Nat → Nat}
    (h8 : ¬ u.kind = 8) (h9 : ¬ u.kind = 9) (ho : Occ ds L M (nodeT u ts) a ns refs Ts g) {j : Nat} (hj : ts[j]? = some (nmT m path k)) (hp : POk L M path) (hT : CL L M k) (hm : L.length < path.length + m)
    (he : ∀ i, i < ns.length → J i < path.length ∧ ns[i]? = some (nmB (J i)) ∧ Ts[i]? = some (sub (lkT (NS i) (TS i)) (X i)) ∧ path[J i]? = some (unfT (V i)) ∧ fnd (path.take (J i)) (unfT (V i)) = none)
    (hn : ∀ i, i < ns.length → Nv ds L M (X i) (NS i) (TS i) (path.take (J i)) (V i) (K i)) : Nv ds L M (nmT m path k) ns Ts path k m := by
  obtain ⟨hlt, e⟩ := List.getElem?_eq_some_iff.1 hj
  have := Occ.kid u.kind u.prio ⟨#[]⟩ 0 (srt u.labels) ts a ns refs Ts g h8 h9 ho j hlt
  rw [e] at this
  exact .mk _ _ _ _ _ _ J X NS TS V K ⟨_, _, _, this⟩ rfl hp hT hm he hn

/-- one step of a node of the tree -/
theorem Nv.step {ds : List Nd} {L : List Ty} {M : Nat} {x : Ty} {ns : List ByteArray} {Ts path : List Ty} {T : Ty} {m : Nat} (hM : M ≤ 549755813888) (h : Nv ds L M x ns Ts path T m) (h3 : ¬ (unfT T).kind ≤ 3) (hf : fnd path (unfT T) = none) (σ : Int) :
    ∃ KS : List Ty, unfT (raiseT σ (sub (lkT ns Ts) x)) = .mk (unfT T).kind (ad (unfT T).prio σ) ⟨#[]⟩ 0 (srt (unfT T).labels) KS ∧ KS.length = (ordK (unfT T)).length ∧
      ∀ (j : Nat) (k : Ty), (ordK (unfT T))[j]? = some k → ∃ x' ns' Ts' path' m', KS[j]? = some (raiseT σ (sub (lkT ns' Ts') x')) ∧ Nv ds L M x' ns' Ts' path' k m' := by
  have h0 := h
  cases h with
  | mk _ _ _ _ _ _ J X NS TS V K ho hx hp cT hm he hn =>
  have hpl := hp.len
  have hS := cT.unf.2.1
  have k1 := hS.k1
  have hact : act (unfT T).kind = true := by simp only [act, decide_eq_true_eq]; omega
  have h47 : 4 ≤ (unfT T).kind ∧ (unfT T).kind ≤ 7 := ⟨by omega, k1.2⟩
  have hp2 := hp.snoc cT hact hf
  obtain ⟨m, rfl⟩ : ∃ m', m = m' + 1 := ⟨m - 1, by omega⟩
  rw [nmT_node h3 hf] at hx
  obtain ⟨a, refs, g, ho⟩ := ho
  by_cases hw : ((nodeT (unfT T) ((ordK (unfT T)).map (nmT m (path ++ [unfT T])))).kids.any (usB (nmB path.length))) = true
  · rw [wrapT, if_pos hw] at hx
    subst hx
    have hd := Occ.down _ _ _ _ _ _ _ _ _ _ _ rfl ho
    have hl2 := ho.i.l2
    rw [rec_unf rfl ho]
    have hu := node_unf (σ := σ) (by omega) (by omega) hd
    refine ⟨(((ordK (unfT T)).map (nmT m (path ++ [unfT T]))).map (sub (lkT (ns ++ [nmB path.length]) (Ts ++ [sub (lkT ns Ts) (.mk 8 0 (nmB path.length) 0 [] [nodeT (unfT T) ((ordK (unfT T)).map (nmT m (path ++ [unfT T])))])])))).map (raiseT σ), ?_, ?_, fun j k hjk => ?_⟩
    rotate_left 2
    · refine ⟨nmT m (path ++ [unfT T]) k, ns ++ [nmB path.length], Ts ++ [sub (lkT ns Ts) (.mk 8 0 (nmB path.length) 0 [] [nodeT (unfT T) ((ordK (unfT T)).map (nmT m (path ++ [unfT T])))])], path ++ [unfT T], m, ?_, ?_⟩
      · rw [List.getElem?_map, List.getElem?_map, List.getElem?_map, hjk]; rfl
      · refine Nv.kid (J := fun i => if i < ns.length then J i else path.length) (X := fun i => if i < ns.length then X i else .mk 8 0 (nmB path.length) 0 [] [nodeT (unfT T) ((ordK (unfT T)).map (nmT m (path ++ [unfT T])))]) (NS := fun i => if i < ns.length then NS i else ns) (TS := fun i => if i < ns.length then TS i else Ts) (V := fun i => if i < ns.length then V i else T) (K := fun i => if i < ns.length then K i else m + 1)
          (by omega) (by omega) hd (j := j) (by rw [List.getElem?_map, hjk]; rfl) hp2 (cT.unf.2.2 k (ordK_mem hS hM (List.mem_of_getElem? hjk))) (by simp; omega) (fun i hi => ?_) (fun i hi => ?_)
        · by_cases c : i < ns.length
          · obtain ⟨e1, e2, e3, e4, e5⟩ := he i c
            simp only [if_pos c]
            refine ⟨by simp; omega, by rw [List.getElem?_append_left c]; exact e2, by rw [List.getElem?_append_left (by omega)]; exact e3, by rw [List.getElem?_append_left e1]; exact e4, by rw [List.take_append_of_le_length (by omega)]; exact e5⟩
          · have hi' : i = ns.length := by simp at hi; omega
            simp only [if_neg c]
            refine ⟨by simp, by rw [hi']; simp, by rw [hi', ← hl2]; simp, by simp, by rw [List.take_left' rfl]; exact hf⟩
        · by_cases c : i < ns.length
          · obtain ⟨e1, _⟩ := he i c
            simp only [if_pos c]
            rw [List.take_append_of_le_length (by omega)]
            exact hn i c
          · simp only [if_neg c]
            rw [List.take_left' rfl]
            exact h0
    · rw [show nodeT (unfT T) ((ordK (unfT T)).map (nmT m (path ++ [unfT T]))) = .mk (unfT T).kind (unfT T).prio ⟨#[]⟩ 0 (srt (unfT T).labels) ((ordK (unfT T)).map (nmT m (path ++ [unfT T]))) from rfl] at hu ⊢
      rw [hu, if_pos h47]
    · simp
  · rw [wrapT, if_neg hw] at hx
    subst hx
    have hu := node_unf (σ := σ) (by omega) (by omega) ho
    refine ⟨(((ordK (unfT T)).map (nmT m (path ++ [unfT T]))).map (sub (lkT ns Ts))).map (raiseT σ), ?_, ?_, fun j k hjk => ?_⟩
    rotate_left 2
    · refine ⟨nmT m (path ++ [unfT T]) k, ns, Ts, path ++ [unfT T], m, ?_, ?_⟩
      · rw [List.getElem?_map, List.getElem?_map, List.getElem?_map, hjk]; rfl
      · refine Nv.kid (J := J) (X := X) (NS := NS) (TS := TS) (V := V) (K := K) (by omega) (by omega) ho (j := j) (by rw [List.getElem?_map, hjk]; rfl) hp2 (cT.unf.2.2 k (ordK_mem hS hM (List.mem_of_getElem? hjk))) (by simp; omega) (fun i c => ?_) (fun i c => ?_)
        · obtain ⟨e1, e2, e3, e4, e5⟩ := he i c
          exact ⟨by simp; omega, e2, e3, by rw [List.getElem?_append_left e1]; exact e4, by rw [List.take_append_of_le_length (by omega)]; exact e5⟩
        · obtain ⟨e1, _⟩ := he i c
          rw [List.take_append_of_le_length (by omega)]
          exact hn i c
    · rw [if_pos h47] at hu
      exact hu
    · simp

/-- a literal -/
theorem Nv.lit {ds : List Nd} {L : List Ty} {M : Nat} {x : Ty} {ns : List ByteArray} {Ts path : List Ty} {T : Ty} {m : Nat} (h : Nv ds L M x ns Ts path T m) (h3 : (unfT T).kind ≤ 3) (σ : Int) : unfT (raiseT σ (sub (lkT ns Ts) x)) = litT (unfT T).kind := by
  obtain ⟨hp, hx, hm⟩ := h.pok
  obtain ⟨a, refs, g, ho⟩ := h.occ
  have hpl := hp.len
  have k1 := h.cl.unf.2.1.k1
  obtain ⟨m, rfl⟩ : ∃ m', m = m' + 1 := ⟨m - 1, by omega⟩
  rw [nmT_lit h3, litT] at hx
  subst hx
  rw [node_unf (by omega) (by omega) ho, if_neg (by omega)]; rfl

/-- a variable: the same of what it stands for -/
theorem Nv.var {ds : List Nd} {L : List Ty} {M : Nat} {x : Ty} {ns : List ByteArray} {Ts path : List Ty} {T : Ty} {m : Nat} (h : Nv ds L M x ns Ts path T m) (h3 : ¬ (unfT T).kind ≤ 3) {j : Nat} (hf : fnd path (unfT T) = some j) :
    ∃ s X NS TS path' V K, (∀ σ, raiseT σ (sub (lkT ns Ts) x) = raiseT (s + σ) (sub (lkT NS TS) X)) ∧ Nv ds L M X NS TS path' V K ∧ fnd path' (unfT V) = none ∧ EqP (raiseT s (unfT V), unfT T) := by
  cases h with
  | mk _ _ _ _ _ _ J X NS TS V K ho hx hp cT hm he hn =>
  have hpl := hp.len
  obtain ⟨m, rfl⟩ : ∃ m', m = m' + 1 := ⟨m - 1, by omega⟩
  obtain ⟨hj, hh, _⟩ := fnd_some hf
  rw [nmT_var h3 hf hj, varT] at hx
  subst hx
  obtain ⟨a, refs, g, ho⟩ := ho
  have hi := ho.i
  obtain ⟨i, hig, hla⟩ := wf_var hi.wf rfl
  have hin : i < ns.length := Nat.lt_of_lt_of_le hig hi.gle
  have hl2 := hi.l2
  have hat := lkT_at ns Ts _ i hla.1 hla.2 (by omega)
  obtain ⟨e1, e2, e3, e4, e5⟩ := he i hin
  have hJ : J i = j := by
    rw [hla.1] at e2
    exact (nmB_inj (Option.some.inj e2)).symm
  rw [List.getElem?_eq_getElem (by omega)] at e3
  have e3 := Option.some.inj e3
  refine ⟨off path[j] (unfT T), X i, NS i, TS i, path.take (J i), V i, K i, fun σ => ?_, hn i hin, e5, ?_⟩
  · rw [sub_9 rfl hat, raise_raise, e3]
  · have : path[j] = unfT (V i) := by
      rw [hJ, List.getElem?_eq_getElem hj] at e4
      exact Option.some.inj e4
    rw [← this]
    exact hh

theorem ELoc.trans {x y z : Ty} (h1 : ELoc x y) (h2 : ELoc y z) : ELoc x z := ⟨h1.1.trans h2.1, h1.2.1.trans h2.2.1, fun s => (h1.2.2 s).trans (h2.2.2 s)⟩

/-- one step of a type and of the tree that is equal to it -/
theorem Nv.sim {ds : List Nd} {L : List Ty} {M : Nat} {x : Ty} {ns : List ByteArray} {Ts path : List Ty} {T : Ty} {m : Nat} (hM : M ≤ 549755813888) (h : Nv ds L M x ns Ts path T m) (hc : (unfT T).kind ≤ 3 ∨ fnd path (unfT T) = none) (σ : Int) :
    ELoc (unfT (raiseT σ T)) (unfT (raiseT σ (sub (lkT ns Ts) x))) ∧ ∀ w, ERaw (unfT (raiseT σ T)) (unfT (raiseT σ (sub (lkT ns Ts) x))) w → ∃ x' ns' Ts' path' k m', Nv ds L M x' ns' Ts' path' k m' ∧ w = (raiseT σ k, raiseT σ (sub (lkT ns' Ts') x')) := by
  have cT := h.cl
  have hS := cT.unf.2.1
  have hlm := shp_lm hS
  rw [unfT_raise σ cT.ex]
  by_cases h3 : (unfT T).kind ≤ 3
  · rw [h.lit h3]
    obtain ⟨x1, x2, x3⟩ := hS.k3 h3
    have y1 : (raiseT σ (unfT T)).kids = [] := by rw [raise_kids, x1]; rfl
    have y2 : (raiseT σ (unfT T)).labels = [] := by rw [raise_labels, x2]
    have y3 : (raiseT σ (unfT T)).prio = 0 := by
      have := (cT.raise σ).unf.2.1.k3
      rw [unfT_raise σ cT.ex, raise_kind] at this
      exact (this h3).2.2
    refine ⟨⟨raise_kind _ _, y3, fun s => by rw [y2]; exact Iff.rfl⟩, fun w hw => ?_⟩
    rcases hw with ⟨_, j, f1, _⟩ | ⟨e, _⟩
    · rw [y1] at f1; simp at f1
    · exact absurd y2 e
  · have hf : fnd path (unfT T) = none := hc.resolve_left h3
    obtain ⟨KS, hu, hl, hk⟩ := h.step hM h3 hf σ
    have hact : act (unfT T).kind = true := by
      have := hS.k1
      simp only [act, decide_eq_true_eq]; omega
    have hsp := srt_spec hS.nd (by omega)
    rw [hu]
    have fin : ∀ (j : Nat) (k : Ty) (w : Ty × Ty), (ordK (unfT T))[j]? = some k → w.1 = raiseT σ k → KS[j]? = some w.2 → ∃ x' ns' Ts' path' k m', Nv ds L M x' ns' Ts' path' k m' ∧ w = (raiseT σ k, raiseT σ (sub (lkT ns' Ts') x')) := by
      intro j k w hjk h1 h2
      obtain ⟨x', ns', Ts', path', m', g1, g2⟩ := hk j k hjk
      rw [g1] at h2
      exact ⟨x', ns', Ts', path', k, m', g2, Prod.ext h1 (Option.some.inj h2).symm⟩
    refine ⟨⟨raise_kind _ _, raise_prio _ _ hact, fun s => by rw [raise_labels]; exact (hsp.2.1 s).symm⟩, fun w hw => ?_⟩
    rcases hw with ⟨e, j, f1, f2⟩ | ⟨e, s, i, j, f1, f2, g1, g2⟩
    · rw [raise_labels] at e
      rw [raise_kids, List.getElem?_map, Option.map_eq_some_iff] at f1
      obtain ⟨k, hk1, hk2⟩ := f1
      have : ordK (unfT T) = (unfT T).kids := by unfold ordK; rw [if_pos e]
      exact fin j k w (by rw [this]; exact hk1) hk2.symm f2
    · rw [raise_labels] at e f1
      rw [raise_kids, List.getElem?_map, Option.map_eq_some_iff] at g1
      obtain ⟨k, hk1, hk2⟩ := g1
      have : ordK (unfT T) = (srt (unfT T).labels).map (kidAt (unfT T)) := by unfold ordK; rw [if_neg e]
      refine fin j k w ?_ hk2.symm g2
      have f2 : (srt (unfT T).labels)[j]? = some s := f2
      rw [this, List.getElem?_map, f2, Option.map_some, kidAt_eq hS.nd f1 hk1]

/-- the relation of types and trees -/
def NRel (ds : List Nd) (L : List Ty) (M : Nat) (q : Ty × Ty) : Prop := ∃ σ x ns Ts path T m, CL L M q.1 ∧ EqP (q.1, raiseT σ T) ∧ Nv ds L M x ns Ts path T m ∧ q.2 = raiseT σ (sub (lkT ns Ts) x)
theorem NRel.var {ds : List Nd} {L : List Ty} {M : Nat} {q : Ty × Ty} (h : NRel ds L M q) : ∃ σ x ns Ts path T m, CL L M q.1 ∧ EqP (q.1, raiseT σ T) ∧ Nv ds L M x ns Ts path T m ∧ q.2 = raiseT σ (sub (lkT ns Ts) x) ∧ ((unfT T).kind ≤ 3 ∨ fnd path (unfT T) = none) := by
  obtain ⟨σ, x, ns, Ts, path, T, m, cA, hE, hN, hB⟩ := h
  by_cases h3 : (unfT T).kind ≤ 3
  · exact ⟨σ, x, ns, Ts, path, T, m, cA, hE, hN, hB, .inl h3⟩
  cases hf : fnd path (unfT T) with
  | none => exact ⟨σ, x, ns, Ts, path, T, m, cA, hE, hN, hB, .inr hf⟩
  | some j =>
    obtain ⟨s, X, NS, TS, path', V, K, e1, e2, e3, e4⟩ := hN.var h3 hf
    refine ⟨s + σ, X, NS, TS, path', V, K, cA, ?_, e2, by rw [hB, e1], .inr e3⟩
    have cT := hN.cl
    have cV := e2.cl
    -- A ~ σ T ~ σ u ~ σ s v ~ (s + σ) V
    have a1 := eqP_unf (cT.raise σ)
    rw [unfT_raise σ cT.ex] at a1
    have a2 := eqP_raise (cV.unfC.raise s) cT.unfC σ e4
    rw [raise_raise] at a2
    have a3 := eqP_unf (cV.raise (s + σ))
    rw [unfT_raise (s + σ) cV.ex] at a3
    exact eqP_trans cA (cT.raise σ) hE (eqP_trans (cT.raise σ) (cT.unfC.raise σ) a1 (eqP_trans (cT.unfC.raise σ) (cV.unfC.raise _) (eqP_symm a2) (eqP_symm a3)))
theorem NRel.eqP {ds : List Nd} {L : List Ty} {M : Nat} (hM : M ≤ 549755813888) {q : Ty × Ty} (h : NRel ds L M q) : EqP q := by
  refine ⟨NRel ds L M, h, ?_⟩
  clear h q
  intro q h
  obtain ⟨σ, x, ns, Ts, path, T, m, cA, hE, hN, hB, hc⟩ := h.var
  obtain ⟨l1, s1⟩ := hE.step
  obtain ⟨l2, s2⟩ := hN.sim hM hc σ
  simp only at l1 s1
  rw [hB]
  refine ⟨l1.trans l2, fun w hw => ?_⟩
  obtain ⟨v, w1, w2⟩ := ERaw.mid l1 l2 cA.unf.2.1 (hN.cl.raise σ).unf.2.1 hw
  have hcl := w1.cl cA.unf.2.2 (hN.cl.raise σ).unf.2.2
  obtain ⟨x', ns', Ts', path', k, m', n1, n2⟩ := s2 _ w2
  have e1 : v = raiseT σ k := congrArg Prod.fst n2
  have e2 : w.2 = raiseT σ (sub (lkT ns' Ts') x') := congrArg Prod.snd n2
  exact ⟨σ, x', ns', Ts', path', k, m', hcl.1, by rw [← e1]; exact s1 _ w1, n1, e2⟩

/-- a type is equal to its tree, if that is right -/
theorem eqP_nm {L : List Ty} {M : Nat} (hM : M ≤ 549755813888) {m : Nat} (hm : L.length ≤ m) {t : Ty} (ct : CL L M t) (hw : Wf (nmT (m + 1) [] t) [] 0) (hz : (nmT (m + 1) [] t).sz ≤ M) (hL : ∀ x ∈ occL [] [] (nmT (m + 1) [] t), x ∈ L) : EqP (t, nmT (m + 1) [] t) := by
  have hp : Pl (nodesF (nmT (m + 1) [] t) 0 [] []) 0 (nodesF (nmT (m + 1) [] t) 0 [] []) := ⟨Int.le_refl _, fun q hq => by
    show (nodesF _ 0 [] [])[(0 : Int).toNat + q]? = _
    rw [show (0 : Int).toNat + q = q by simp]
    exact List.getElem?_eq_getElem hq⟩
  have e : lkT [] [] = noE := by funext y; rfl
  have hN : Nv (nodesF (nmT (m + 1) [] t) 0 [] []) L M (nmT (m + 1) [] t) [] [] [] t (m + 1) :=
    .mk _ _ _ _ _ _ (fun i => i) (fun _ => t) (fun _ => []) (fun _ => []) (fun _ => t) (fun i => i) ⟨_, _, _, .top _ 0 hw hp hL (Wf.lm _ [] 0 _ hw hz)⟩ rfl pok0 ct (by simp; omega) (fun i hi => by simp at hi) (fun i hi => by simp at hi)
  refine NRel.eqP hM ⟨0, _, _, _, _, t, _, ct, ?_, hN, ?_⟩
  · have a1 := eqP_unf (ct.raise 0)
    rw [unfT_raise 0 ct.ex, raise0 ct] at a1
    exact eqP_trans ct ct.unfC (eqP_unf ct) (eqP_symm a1)
  · rw [e]
    show nmT (m + 1) [] t = _
    have := raise0_sub (δ := noE) hw
    rw [this, sub_id]
end Go.Proofs.YtopinhoalbgebaaGreatDoor.Tx

/- The law: the normal tree of a right type is right, equal to the type, and its own normal tree. -/
namespace Go.Proofs.YtopinhoalbgebaaGreatDoor.Tx
open Go.Lf Go.Lf.S Go.Lf.Duo
set_option maxRecDepth 100000

mutual
theorem cnt_eq : ∀ (t : Ty) (m : Int), (t.sz : Int) ≤ m → cnt t m = m - t.sz
  | .mk _ _ _ _ _ ks, m, h => by
    simp only [cnt, Ty.sz] at h ⊢
    rw [cnts_eq ks (m - 1) (by omega)]; omega
theorem cnts_eq : ∀ (ks : List Ty) (m : Int), (Ty.szs ks : Int) ≤ m → cnts ks m = m - Ty.szs ks
  | [], m, h => by simp [cnts, Ty.szs]
  | k :: ks, m, h => by
    simp only [cnts, Ty.szs] at h ⊢
    rw [if_pos (by omega), cnt_eq k m (by omega), cnts_eq ks _ (by omega)]; omega
end
theorem ok_few_t (t : Ty) (hlim : Lim t) (hz : t.sz ≤ 150) : Ok P F.ref02_Few [t.enc, i 2000] (.bool true) := by
  have hc := ok_ref02_count t 2000 hlim (by omega) (by omega)
  rw [cnt_eq t 2000 (by omega)] at hc
  have hd := dep_le t
  refine k_ref02_Few _ _ rfl (d_l _ (e_okc (Ty.okc_enc t)) fun _ => d_call hc (d_l (.bool (decide ((2000 : Int) - t.sz ≥ 0))) rfl fun _ => d_dec (fun _ => d_call (ok_ref02_Depth t (by omega)) (d_l (.bool (decide ((dep t : Int) ≤ 150))) rfl fun _ => d_ret ?_)) fun h => absurd (show (2000 : Int) - t.sz ≥ 0 by omega) h))
  rw [decide_eq_true (by omega)]
theorem ok_SmallG (t : Ty) (hlim : Lim t) (m : Int) (h0 : 0 ≤ m) (h1 : m ≤ 549755813888) : ∃ b, Ok P F.ref02_Small [t.enc, i m] (.bool b) ∧ (b = true → (t.sz : Int) ≤ m ∧ Wf t [] 0 ∧ Gd t) := by
  obtain ⟨b, hf, hb⟩ := ok_ref02_Few t hlim m h0 h1
  have hk := Ty.okc_enc t
  have := tx_ex (K := fun x => ∃ b, x = .bool b ∧ (b = true → (t.sz : Int) ≤ m ∧ Wf t [] 0 ∧ Gd t)) k_ref02_Small (xs := [t.enc, i m]) rfl (by simp [t_ref02_Small, T.dt]) (by
    refine d_l _ (e_okc hk) fun _ => d_call hf (d_ite (fun h => ?_) fun _ => d_ret ⟨false, rfl, fun h => by cases h⟩)
    have hz := hb h
    have he := okx_ref02_Right t hlim (by omega)
    refine d_call he (d_l (.bool (decide (rightE t = 0))) rfl fun _ => d_ret ⟨_, rfl, fun h => ?_⟩)
    have h : rightE t = 0 := of_decide_eq_true h
    unfold rightE at h
    split at h
    · exact absurd h (by decide)
    · exact ⟨hz, wf_of h, (gd_of hlim h).1⟩)
  obtain ⟨_, ⟨b, rfl, hb⟩, h⟩ := this
  exact ⟨b, h, hb⟩
theorem ok_tall : ∀ t : Ty, Lim t → Ok P F.law12_tall [t.enc] (.bool (tallB t)) := by
  intro t
  induction t using Ty.ind with
  | _ t ih =>
  intro hlim
  cases hlim with
  | mk _ hn hl hll hk hkk =>
  obtain ⟨k, p, nm, s, ls, ks⟩ := t
  have hks : ks.length ≤ maxLen := hk
  have hmx : maxLen ≤ 9223372036854775807 := by decide
  rw [tallB_mk, Ty.enc_mk]
  refine k_law12_tall _ _ rfl (d_l (.agg [.int .i64 k, .int .i64 p, .str nm, .int .i64 s, .sl (ls.map .str), .sl (ks.map Ty.enc)]) rfl fun _ => d_l (.bool (decide (1000000 < p))) rfl fun _ => d_dec (fun h => d_ret ?_) fun h => d_l (.bool (decide (1000000 < s))) rfl fun _ => d_dec (fun h2 => d_ret ?_) fun h2 => ?_)
  · rw [decide_eq_true h, Bool.true_or, Bool.true_or]
  · rw [decide_eq_true h2, Bool.or_true, Bool.true_or]
  · rw [decide_eq_false h, decide_eq_false h2, Bool.false_or, Bool.false_or]
    refine den_loop (fun m ys => ∃ j : Nat, j + m = ks.length ∧ (ks.take j).any tallB = false ∧ ys = [i j]) ks.length ⟨0, by omega, by simp, rfl⟩ ?_
    rintro m _ ⟨j, hj, hdone, rfl⟩
    refine d_l _ (len_eq ks) fun _ => d_l (.bool (decide ((j : Int) < (ks.length : Int)))) rfl fun _ => d_dec (fun h => ?_) fun h => d_ret ?_
    · have hlt : j < ks.length := by omega
      have hmem : ks[j] ∈ ks := List.getElem_mem hlt
      refine d_l _ (e_idx (mp_at hlt) (Ty.okc_enc _)) fun _ => d_call (ih _ hmem (hkk _ hmem)) (d_ite (fun ht => d_ret ?_) fun ht => d_l _ (e_inc (by omega)) fun _ => d_cont rfl ⟨m - 1, by omega, j + 1, by omega, ?_, rfl⟩)
      · have : ks.any tallB = true := List.any_eq_true.2 ⟨_, hmem, ht⟩
        rw [this]
      · rw [List.take_succ_eq_append_getElem hlt, List.any_append, hdone]
        simp [ht]
    · rw [List.take_of_length_le (by omega)] at hdone
      rw [hdone]
theorem wt0 : ∀ t : Ty, wt (fun _ => 0) t = 100 * t.sz := by
  intro t
  induction t using Ty.ind with
  | _ t ih =>
  obtain ⟨k, p, nm, s, ls, ks⟩ := t
  have h1 : (ls.map fun _ : ByteArray => 0).sum = 0 := by
    clear ih
    induction ls with
    | nil => rfl
    | cons x l ih => simp only [List.map_cons, List.sum_cons, ih]
  have h2 : ∀ l : List Ty, (∀ x ∈ l, wt (fun _ => 0) x = 100 * x.sz) → (l.map (wt fun _ => 0)).sum = 100 * Ty.szs l := by
    intro l
    induction l with
    | nil => intro _; rfl
    | cons x l ih =>
      intro h
      simp only [List.map_cons, List.sum_cons, Ty.szs]
      rw [h x List.mem_cons_self, ih fun y hy => h y (List.mem_cons_of_mem _ hy)]; omega
  rw [wt_mk, h1, h2 ks fun x hx => ih x hx]
  simp only [Ty.sz]; omega

theorem ok_law12_ReadbackKeeps (aw : Ok P F.law12_awake [] (.bool true)) (t : Ty) (ht : Lim t) : Ok P F.law12_ReadbackKeeps [t.enc] (.bool true) := by
  obtain ⟨b, s, w⟩ := ok_SmallG t ht 12 (by omega) (by omega)
  refine k_law12_ReadbackKeeps _ _ rfl (d_l _ (e_okc (Ty.okc_enc t)) fun _ => d_call aw (d_l (.bool false) rfl fun _ => d_false (d_call s (d_l (.bool !b) rfl fun _ => d_ite (fun _ => d_call aw (d_ret rfl)) fun h1 => ?_))))
  obtain ⟨hz, hw, hG⟩ := w (by simpa using h1)
  have hlen := occL_len [] [] t
  have c0 : CL (occL [] [] t) 12 t := cl_topE hw (by omega) fun x hx => hx
  have hnz : (nmT 61 [] t).sz ≤ 24 := by
    have : wt (fun _ => 0) (nmT 61 [] t) ≤ 2 * wt (fun _ => 0) t := nmT_wt0 (fun _ => 0) (M := 12) (L := occL [] [] t) (by omega) (m := 60) (by omega) hw (by omega) fun x hx => hx
    rw [wt0, wt0] at this
    omega
  have hlim : Lim (nmT 61 [] t) := nmT_lim (show 12 ≤ 549755813888 by omega) (by omega) 61 [] t c0 pok0 (by simp; omega) hG
  have htok : Tok (nmT 61 [] t) := nmT_tok (show 12 ≤ 549755813888 by omega) (show (occL [] [] t).length ≤ 99 by omega) 61 [] t (by
    have := cb_top (L := occL [] [] t) hw (show t.sz ≤ 12 by omega) fun x hx => hx
    simpa using this) pok0 ⟨(fun p hp => by cases hp), fun p hp => by cases hp⟩ (by simp; omega)
  have c1 := ok_Canonical (M := 12) (L := occL [] [] t) (m := 60) (by omega) (by omega) (by omega) hw (by omega) c0
  have oF := ok_few_t (nmT 61 [] t) hlim (by omega)
  have oR := okx_ref02_Right (nmT 61 [] t) hlim (by omega)
  have oT := ok_tall (nmT 61 [] t) hlim
  have hright := nmT_right (show 12 ≤ 549755813888 by omega) 61 [] t [] false c0 pok0 (by simp; omega) hG (fun h => by cases h) htok
  refine d_call c1 (d_l _ (e_okc (Ty.okc_enc _)) fun _ => d_call oF (d_l (.bool false) rfl fun _ => d_false (d_call oR (d_l (.bool (!decide (rightE (nmT 61 [] t) = 0))) rfl fun _ => d_ndec (fun h => d_call oT (d_ret ?_)) fun h => ?_))))
  · cases htl : tallB (nmT 61 [] t) with
    | true => rfl
    | false =>
      exfalso
      refine h ?_
      have := dep_le (nmT 61 [] t)
      unfold rightE
      rw [if_neg (by omega)]
      exact hright htl fun j hj => by simp at hj
  have hwn : Wf (nmT 61 [] t) [] 0 := by
    unfold rightE at h
    split at h
    · exact absurd h (by decide)
    · exact wf_of h
  have hln := occL_len [] [] (nmT 61 [] t)
  have hLl : (occL [] [] t ++ occL [] [] (nmT 61 [] t)).length ≤ 36 := by rw [List.length_append]; omega
  have hLn : ∀ x ∈ occL [] [] (nmT 61 [] t), x ∈ occL [] [] t ++ occL [] [] (nmT 61 [] t) := fun x hx => List.mem_append_right _ hx
  have ct : CL (occL [] [] t ++ occL [] [] (nmT 61 [] t)) 24 t := cl_topE hw (by omega) fun x hx => List.mem_append_left _ hx
  have cn : CL (occL [] [] t ++ occL [] [] (nmT 61 [] t)) 24 (nmT 61 [] t) := cl_topE hwn hnz hLn
  generalize occL [] [] t ++ occL [] [] (nmT 61 [] t) = L at *
  have hE : EqP (t, nmT 61 [] t) := eqP_nm (show 24 ≤ 549755813888 by omega) (m := 60) (by omega) ct hwn hnz hLn
  have hnn : nmT 61 [] (nmT 61 [] t) = nmT 61 [] t := nmT_eqP (show 24 ≤ 549755813888 by omega) 61 [] [] (nmT 61 [] t) t cn ct pok0 pok0 rfl (fun j h => by simp at h) (eqP_symm hE) (by simp; omega)
  have c2 := ok_Canonical (M := 24) (L := L) (m := 60) (by omega) (by omega) (by omega) hwn (by omega) cn
  rw [show 60 + 1 = 61 from rfl, hnn] at c2
  have oS := ok_same (nmT 61 [] t) (nmT 61 [] t) (cn.ln (by omega))
  rw [dq_t rfl] at oS
  -- the graph of both
  generalize nmT 61 [] t = n at *
  have hall : ∀ x ∈ [t, n], (x.sz : Int) ≤ (24 : Nat) ∧ Wf x [] 0 := by
    intro x hx
    simp only [List.mem_cons, List.not_mem_nil, or_false] at hx
    rcases hx with rfl | rfl
    · exact ⟨by omega, hw⟩
    · exact ⟨by omega, hwn⟩
  obtain ⟨ds, rs, _, oG, hgr, hrl, hrs, hdf, hrf⟩ := built' [t, n] 2 24 (by simp) (by omega) hall
  have hg : GrOk' ds := hgr
  have hrl : rs.length = 2 := hrl
  match rs, hrl with
  | [r0, r1], _ =>
  obtain ⟨i0, j0, _⟩ := hrs 0 r0 rfl
  obtain ⟨i1, j1, _⟩ := hrs 1 r1 rfl
  have hlnn : ∀ x ∈ [t, n], ∀ q, (nodesF x q [] []).length = gc x := fun x hx q => len_nodes x [] 0 (hall x hx).2 q [] []
  have hpl : Pl ds 0 (belowsF [t, n] 0 [] []) := ⟨Int.le_refl _, fun k hk => by
    rw [← hdf] at hk
    simp only [← hdf]
    rw [show (0 : Int).toNat + k = k by simp]
    exact List.getElem?_eq_getElem hk⟩
  have p0 := Pl.kid hpl hlnn 0 (by simp)
  have p1 := Pl.kid hpl hlnn 1 (by simp)
  have q0 := nextsF_at (ks := [t, n]) (a := 0) (ns := []) (R := []) 0 (by simp)
  have q1 := nextsF_at (ks := [t, n]) (a := 0) (ns := []) (R := []) 1 (by simp)
  rw [← hrf] at q0 q1
  have q0 : r0 = _ := Option.some.inj q0
  have q1 : r1 = _ := Option.some.inj q1
  obtain ⟨R0, f0⟩ := rt_top (t := t) hw p0
  obtain ⟨R1, f1⟩ := rt_top (t := n) hwn p1
  have T0 : RT ds r0 t := by rw [q0]; exact R0
  have T1 : RT ds r1 n := by rw [q1]; exact R1
  clear q0 q1 f0 f1 hrs hrf hdf R0 R1 p0 p1 hpl hlnn
  obtain ⟨be, oE, hbe⟩ := eqRf hg i0 j0 i1 j1
  obtain ⟨n0, z0⟩ := r0
  obtain ⟨n1, z1⟩ := r1
  obtain rfl : be = true := hbe.2 ((eqP_eqv ct cn T0 T1).1 hE)
  refine d_l (.sl ([t, n].map Ty.enc)) (e_lst fun x hx => by
    simp only [List.mem_cons, List.not_mem_nil, or_false] at hx
    rcases hx with rfl | rfl <;> exact Ty.okc_enc _) fun _ => d_call oG (d_l (.agg [.sl (ds.map Nd.enc)]) rfl fun _ => d_l (.sl [(⟨n0, z0⟩ : Rf).enc, (⟨n1, z1⟩ : Rf).enc]) rfl fun _ => d_l (.agg [.sl (ds.map Nd.enc)]) rfl fun _ => d_l (⟨n0, z0⟩ : Rf).enc rfl fun _ => d_l (⟨n1, z1⟩ : Rf).enc rfl fun _ => d_call oE (d_true (d_call c2 (d_call oS (d_ret rfl)))))
end Go.Proofs.YtopinhoalbgebaaGreatDoor.Tx
