/- The law: the same normal tree exactly for equal types (2). -/
import Derived.Test.YtopinhoalbgebaaGreatDoorWk180
set_option linter.all false
namespace Go.Proofs.YtopinhoalbgebaaGreatDoor.Tx
open Go.Lf Go.Lf.S Go.Lf.Duo
set_option maxRecDepth 100000

theorem POk.take {L : List Ty} {M : Nat} {p : List Ty} (h : POk L M p) (j : Nat) : POk L M (p.take j) :=
  ⟨fun x hx => h.cl x (List.mem_of_mem_take hx), fun x hx => h.ac x (List.mem_of_mem_take hx), fun x hx => h.un x (List.mem_of_mem_take hx), by rw [List.map_take]; exact h.nd.sublist (List.take_sublist _ _)⟩
structure Hist (N : Nat) (pa pb : List Ty) : Prop where
  eq : ∀ j (h1 : j < pa.length) (h2 : j < pb.length), nmT (N - j) (pa.take j) pa[j] = nmT (N - j) (pb.take j) pb[j]
  na : ∀ j (h1 : j < pa.length), fnd (pa.take j) pa[j] = none
  nb : ∀ j (h2 : j < pb.length), fnd (pb.take j) pb[j] = none
theorem Hist.take {N : Nat} {pa pb : List Ty} (h : Hist N pa pb) (q : Nat) : Hist N (pa.take q) (pb.take q) := by
  refine ⟨fun j h1 h2 => ?_, fun j h1 => ?_, fun j h2 => ?_⟩
  · rw [List.length_take] at h1 h2
    rw [List.take_take, List.take_take, Nat.min_eq_left (by omega), List.getElem_take, List.getElem_take]
    exact h.eq j (by omega) (by omega)
  · rw [List.length_take] at h1
    rw [List.take_take, Nat.min_eq_left (by omega), List.getElem_take]
    exact h.na j (by omega)
  · rw [List.length_take] at h2
    rw [List.take_take, Nat.min_eq_left (by omega), List.getElem_take]
    exact h.nb j (by omega)
theorem snoc_take {α : Type} (p : List α) (x : α) (j : Nat) (h : j < (p ++ [x]).length) : (j < p.length ∧ (p ++ [x]).take j = p.take j ∧ ∃ h' : j < p.length, (p ++ [x])[j] = p[j]) ∨ (j = p.length ∧ (p ++ [x]).take j = p ∧ (p ++ [x])[j] = x) := by
  by_cases e : j < p.length
  · exact .inl ⟨e, List.take_append_of_le_length (by omega), e, List.getElem_append_left e⟩
  · have hj : j = p.length := by rw [List.length_append, List.length_singleton] at h; omega
    subst hj
    exact .inr ⟨rfl, List.take_left' rfl, by simp⟩
theorem Hist.snoc {N : Nat} {pa pb : List Ty} (h : Hist N pa pb) (hl : pa.length = pb.length) {u v : Ty} (he : nmT (N - pa.length) pa u = nmT (N - pa.length) pb v) (ha : fnd pa u = none) (hb : fnd pb v = none) : Hist N (pa ++ [u]) (pb ++ [v]) := by
  refine ⟨fun j h1 h2 => ?_, fun j h1 => ?_, fun j h2 => ?_⟩
  · rcases snoc_take pa u j h1 with ⟨e, t1, e', g1⟩ | ⟨e, t1, g1⟩
    · rcases snoc_take pb v j h2 with ⟨_, t2, e2', g2⟩ | ⟨e2, _, _⟩
      · rw [t1, t2, g1, g2]; exact h.eq j e' e2'
      · omega
    · rcases snoc_take pb v j h2 with ⟨e2, _, _⟩ | ⟨_, t2, g2⟩
      · omega
      · rw [t1, t2, g1, g2, e]; exact he
  · rcases snoc_take pa u j h1 with ⟨e, t1, e', g1⟩ | ⟨e, t1, g1⟩
    · rw [t1, g1]; exact h.na j e'
    · rw [t1, g1]; exact ha
  · rcases snoc_take pb v j h2 with ⟨e, t1, e', g1⟩ | ⟨e, t1, g1⟩
    · rw [t1, g1]; exact h.nb j e'
    · rw [t1, g1]; exact hb

/-- the same tree, at one place; not a variable -/
structure StT (L : List Ty) (M : Nat) (A B : Ty) (pa pb : List Ty) : Prop where
  cA : CL L M A
  cB : CL L M B
  wa : POk L M pa
  wb : POk L M pb
  len : pa.length = pb.length
  hist : Hist (L.length + 1) pa pb
  eq : nmT (L.length + 1 - pa.length) pa A = nmT (L.length + 1 - pa.length) pb B
theorem wrap_kind (m : Nat) (t : Ty) : (wrapT m t).kind = 8 ∨ (wrapT m t).kind = t.kind := by
  unfold wrapT; split
  · exact .inl rfl
  · exact .inr rfl
theorem wrap_inj {m : Nat} {s t : Ty} (hs : s.kind ≠ 8) (ht : t.kind ≠ 8) (h : wrapT m s = wrapT m t) : s = t := by
  unfold wrapT at h
  split at h <;> split at h
  · have := congrArg Ty.kids h
    simpa [Ty.kids] using this
  · exact absurd (congrArg Ty.kind h).symm ht
  · exact absurd (congrArg Ty.kind h) hs
  · exact h
theorem ord_at {M : Nat} (hM : M ≤ 549755813888) {x y : Ty} (sx : Shp M x) (sy : Shp M y) (h : ELoc x y) {w : Ty × Ty} (hw : ERaw x y w) : ∃ j : Nat, (ordK x)[j]? = some w.1 ∧ (ordK y)[j]? = some w.2 := by
  have mx := shp_lm sx
  have my := shp_lm sy
  rcases hw with ⟨e, j, e1, e2⟩ | ⟨e, s, i, j, f1, f2, e1, e2⟩
  · have o1 : ordK x = x.kids := by unfold ordK; rw [if_pos e]
    have o2 : ordK y = y.kids := by unfold ordK; rw [if_pos (h.nil.1 e)]
    exact ⟨j, by rw [o1]; exact e1, by rw [o2]; exact e2⟩
  · have e' : y.labels ≠ [] := fun c => e (h.nil.2 c)
    have hs : srt x.labels = srt y.labels := (srt_set sx.nd sy.nd (by omega) (by omega)).2 h.2.2
    have o1 : ordK x = (srt x.labels).map (kidAt x) := by unfold ordK; rw [if_neg e]
    have o2 : ordK y = (srt x.labels).map (kidAt y) := by unfold ordK; rw [if_neg e', hs]
    obtain ⟨q, hq, hqs⟩ := List.getElem_of_mem (((srt_spec sx.nd (by omega)).2.1 s).2 (List.mem_of_getElem? f1))
    have hq' : (srt x.labels)[q]? = some s := by rw [List.getElem?_eq_getElem hq, hqs]
    refine ⟨q, ?_, ?_⟩
    · rw [o1, List.getElem?_map, hq', Option.map_some, kidAt_eq sx.nd f1 e1]
    · rw [o2, List.getElem?_map, hq', Option.map_some, kidAt_eq sy.nd f2 e2]

/-- one step of two types with the same tree -/
theorem StT.step {L : List Ty} {M : Nat} (hM : M ≤ 549755813888) {A B : Ty} {pa pb : List Ty} (h : StT L M A B pa pb) :
    (ELoc (unfT A) (unfT B) ∧ ∀ w, ERaw (unfT A) (unfT B) w → ∃ pa pb, StT L M w.1 w.2 pa pb) ∨
    fnd pa (unfT A) ≠ none ∧ ∃ s X Y pa pb, EqP (raiseT s X, unfT A) ∧ EqP (raiseT s Y, unfT B) ∧ StT L M X Y pa pb ∧ fnd pa X = none ∧ fnd pb Y = none ∧ act X.kind = true ∧ act Y.kind = true ∧ unfT X = X ∧ unfT Y = Y := by
  have hpl := h.wa.len
  obtain ⟨m, hm⟩ : ∃ m, L.length + 1 - pa.length = m + 1 := ⟨L.length - pa.length, by omega⟩
  have heq := h.eq
  have hl := h.len
  rw [hm] at heq
  have sA := h.cA.unf.2.1
  have sB := h.cB.unf.2.1
  have mA := shp_lm sA
  have mB := shp_lm sB
  have kA := sA.k1
  have kB := sB.k1
  have kinds := congrArg Ty.kind heq
  by_cases a3 : (unfT A).kind ≤ 3
  · rw [nmT_lit a3] at heq kinds
    have e1 : (litT (unfT A).kind).kind = (unfT A).kind := rfl
    by_cases b3 : (unfT B).kind ≤ 3
    · rw [nmT_lit b3] at kinds
      have hk : (unfT A).kind = (unfT B).kind := kinds
      obtain ⟨x1, x2, x3⟩ := sA.k3 a3
      obtain ⟨y1, y2, y3⟩ := sB.k3 b3
      refine .inl ⟨⟨hk, by rw [x3, y3], fun s => by rw [x2, y2]⟩, fun w hw => ?_⟩
      rcases hw with ⟨_, j, f1, _⟩ | ⟨e, _⟩
      · rw [x1] at f1; simp at f1
      · exact absurd x2 e
    · exfalso
      cases hf : fnd pb (unfT B) with
      | some j =>
        rw [nmT_var b3 hf (fnd_some hf).1] at kinds
        have : (unfT A).kind = 9 := kinds
        omega
      | none =>
        rw [nmT_node b3 hf] at kinds
        rcases wrap_kind pb.length (nodeT (unfT B) ((ordK (unfT B)).map (nmT m (pb ++ [unfT B])))) with e | e <;> rw [e, e1] at kinds
        · omega
        · have : (unfT A).kind = (unfT B).kind := kinds
          omega
  · have aA : act (unfT A).kind = true := by simp only [act, decide_eq_true_eq]; omega
    cases hfa : fnd pa (unfT A) with
    | some j =>
      obtain ⟨hj, hA, _⟩ := fnd_some hfa
      rw [nmT_var a3 hfa hj] at heq kinds
      have e1 : (varT j (off pa[j] (unfT A))).kind = 9 := rfl
      by_cases b3 : (unfT B).kind ≤ 3
      · rw [nmT_lit b3] at kinds
        have : (9 : Int) = (unfT B).kind := kinds
        omega
      have aB : act (unfT B).kind = true := by simp only [act, decide_eq_true_eq]; omega
      cases hfb : fnd pb (unfT B) with
      | none =>
        exfalso
        rw [nmT_node b3 hfb] at kinds
        rcases wrap_kind pb.length (nodeT (unfT B) ((ordK (unfT B)).map (nmT m (pb ++ [unfT B])))) with e | e <;> rw [e, e1] at kinds
        · omega
        · have : (9 : Int) = (unfT B).kind := kinds
          omega
      | some j' =>
        obtain ⟨hj', hB, _⟩ := fnd_some hfb
        rw [nmT_var b3 hfb hj'] at heq
        unfold varT at heq
        injection heq with _ _ hn hs _ _
        obtain rfl := nmB_inj hn
        have m1 := List.getElem_mem hj
        have m2 := List.getElem_mem hj'
        unfold Hit at hA hB
        rw [← hs] at hB
        refine .inr ⟨by simp, _, pa[j], pb[j], pa.take j, pb.take j, hA, hB, ⟨h.wa.cl _ m1, h.wb.cl _ m2, h.wa.take j, h.wb.take j, by rw [List.length_take, List.length_take, hl], h.hist.take j, ?_⟩, h.hist.na j hj, h.hist.nb j hj', h.wa.ac _ m1, h.wb.ac _ m2, h.wa.un _ m1, h.wb.un _ m2⟩
        rw [List.length_take, Nat.min_eq_left (by omega)]
        exact h.hist.eq j hj hj'
    | none =>
      rw [nmT_node a3 hfa] at heq kinds
      have wk := wrap_kind pa.length (nodeT (unfT A) ((ordK (unfT A)).map (nmT m (pa ++ [unfT A]))))
      have nk : (nodeT (unfT A) ((ordK (unfT A)).map (nmT m (pa ++ [unfT A])))).kind = (unfT A).kind := rfl
      by_cases b3 : (unfT B).kind ≤ 3
      · exfalso
        rw [nmT_lit b3] at kinds
        have e2 : (litT (unfT B).kind).kind = (unfT B).kind := rfl
        rw [e2] at kinds
        rcases wk with e | e <;> rw [e] at kinds
        · omega
        · omega
      have aB : act (unfT B).kind = true := by simp only [act, decide_eq_true_eq]; omega
      cases hfb : fnd pb (unfT B) with
      | some j' =>
        exfalso
        rw [nmT_var b3 hfb (fnd_some hfb).1] at kinds
        have e2 : (varT j' (off (pb[j']'(fnd_some hfb).1) (unfT B))).kind = 9 := rfl
        rw [e2] at kinds
        rcases wk with e | e <;> rw [e] at kinds
        · omega
        · omega
      | none =>
        rw [nmT_node b3 hfb, ← hl] at heq
        have hi := wrap_inj (by rw [nk]; omega) (by show (unfT B).kind ≠ 8; omega) heq
        unfold nodeT at hi
        injection hi with i1 i2 _ _ i5 i6
        have hloc : ELoc (unfT A) (unfT B) := ⟨i1, i2, (srt_set sA.nd sB.nd (by omega) (by omega)).1 i5⟩
        refine .inl ⟨hloc, fun w hw => ?_⟩
        have hc := hw.cl h.cA.unf.2.2 h.cB.unf.2.2
        obtain ⟨j, j1, j2⟩ := ord_at hM sA sB hloc hw
        refine ⟨pa ++ [unfT A], pb ++ [unfT B], hc.1, hc.2, h.wa.snoc h.cA aA hfa, h.wb.snoc h.cB aB hfb, by simp [hl], h.hist.snoc hl ?_ hfa hfb, ?_⟩
        · rw [hm, nmT_unf h.cA, nmT_unf h.cB]
          have := h.eq
          rwa [hm] at this
        · have := congrArg (fun l : List Ty => l[j]?) i6
          simp only [List.getElem?_map, j1, j2, Option.map_some] at this
          rw [List.length_append, List.length_singleton, show L.length + 1 - (pa.length + 1) = m by omega]
          exact Option.some.inj this

def Rn (L : List Ty) (M : Nat) (q : Ty × Ty) : Prop := CL L M q.1 ∧ CL L M q.2 ∧ ∃ k A B pa pb, EqP (q.1, raiseT k A) ∧ EqP (raiseT k B, q.2) ∧ StT L M A B pa pb
theorem rn_step {L : List Ty} {M : Nat} (hM : M ≤ 549755813888) {q : Ty × Ty} (h : Rn L M q) : ELoc (unfT q.1) (unfT q.2) ∧ ∀ w, ERaw (unfT q.1) (unfT q.2) w → Rn L M w := by
  obtain ⟨c1, c2, k, A, B, pa, pb, h1, h2, hst⟩ := h
  have fin : ∀ k A B pa pb, EqP (q.1, raiseT k A) → EqP (raiseT k B, q.2) → StT L M A B pa pb → (ELoc (unfT A) (unfT B) ∧ ∀ w, ERaw (unfT A) (unfT B) w → ∃ pa pb, StT L M w.1 w.2 pa pb) → ELoc (unfT q.1) (unfT q.2) ∧ ∀ w, ERaw (unfT q.1) (unfT q.2) w → Rn L M w := by
    clear hst h1 h2
    intro k A B pa pb h1 h2 hst ⟨hl, hn⟩
    have cA := hst.cA
    have cB := hst.cB
    obtain ⟨l1, n1⟩ := h1.step
    obtain ⟨l2, n2⟩ := h2.step
    simp only [unfT_raise k cA.ex] at l1 n1
    simp only [unfT_raise k cB.ex] at l2 n2
    have l3 := hl.raise k
    have s1 := c1.unf.2.1
    have sA := (cA.raise k).unf.2.1
    have sB := (cB.raise k).unf.2.1
    rw [unfT_raise k cA.ex] at sA
    rw [unfT_raise k cB.ex] at sB
    have l4 : ELoc (raiseT k (unfT A)) (unfT q.2) := ⟨l3.1.trans l2.1, l3.2.1.trans l2.2.1, fun s => (l3.2.2 s).trans (l2.2.2 s)⟩
    refine ⟨⟨l1.1.trans l4.1, l1.2.1.trans l4.2.1, fun s => (l1.2.2 s).trans (l4.2.2 s)⟩, fun w hw => ?_⟩
    obtain ⟨v, w1, w2⟩ := ERaw.mid l1 l4 s1 sA hw
    obtain ⟨v', w3, w4⟩ := ERaw.mid l3 l2 sA sB w2
    obtain ⟨x, hx, e⟩ := w3.unraise
    obtain ⟨pa', pb', hs'⟩ := hn x hx
    have hcw := hw.cl c1.unf.2.2 c2.unf.2.2
    have e1 : v = raiseT k x.1 := congrArg Prod.fst e
    have e2 : v' = raiseT k x.2 := congrArg Prod.snd e
    refine ⟨hcw.1, hcw.2, k, x.1, x.2, pa', pb', ?_, ?_, hs'⟩
    · rw [← e1]; exact n1 _ w1
    · rw [← e2]; exact n2 _ w4
  rcases hst.step hM with hs | ⟨_, s, X, Y, pa', pb', e1, e2, hs', f1, f2, aX, aY, uX, uY⟩
  · exact fin k A B pa pb h1 h2 hst hs
  · have cA := hst.cA
    have cB := hst.cB
    have cX := hs'.cA
    have cY := hs'.cB
    -- one step further it is no variable
    rcases hs'.step hM with hs2 | ⟨hno, _⟩
    · refine fin (s + k) X Y pa' pb' ?_ ?_ hs' hs2
      · have g1 := eqP_raise cA.unfC (cX.raise s) k (eqP_symm e1)
        rw [raise_raise] at g1
        have g0 := eqP_raise cA cA.unfC k (eqP_unf cA)
        exact eqP_trans c1 (cA.raise k) h1 (eqP_trans (cA.raise k) (cA.unfC.raise k) g0 g1)
      · have g1 := eqP_raise (cY.raise s) cB.unfC k e2
        rw [raise_raise] at g1
        have g0 := eqP_raise cB.unfC cB k (eqP_symm (eqP_unf cB))
        exact eqP_trans (cY.raise _) (cB.unfC.raise k) g1 (eqP_trans (cB.unfC.raise k) (cB.raise k) g0 h2)
    · rw [uX] at hno; exact absurd f1 hno
theorem eqP_of_nmT {L : List Ty} {M : Nat} (hM : M ≤ 549755813888) {A B : Ty} (cA : CL L M A) (cB : CL L M B) (h : nmT (L.length + 1) [] A = nmT (L.length + 1) [] B) : EqP (A, B) := by
  refine ⟨Rn L M, ⟨cA, cB, 0, unfT A, unfT B, [], [], ?_, ?_, cA.unfC, cB.unfC, pok0, pok0, rfl, ⟨(fun j h => by simp at h), (fun j h => by simp at h), (fun j h => by simp at h)⟩, ?_⟩, fun q hq => rn_step hM hq⟩
  · rw [raise0 cA]; exact eqP_unf cA
  · rw [raise0 cB]; exact eqP_symm (eqP_unf cB)
  · show nmT (L.length + 1) [] _ = nmT (L.length + 1) [] _
    rw [nmT_unf cA, nmT_unf cB]; exact h

theorem ok_law12_ReadbackCanonical (aw : Ok P F.law12_awake [] (.bool true)) (a b : Ty) (ha : Lim a) (hb : Lim b) : Ok P F.law12_ReadbackCanonical [a.enc, b.enc] (.bool true) := by
  obtain ⟨ba, sa, wa⟩ := ok_ref02_Small a ha 12 (by omega) (by omega)
  obtain ⟨bb, sb, wb⟩ := ok_ref02_Small b hb 12 (by omega) (by omega)
  refine k_law12_ReadbackCanonical _ _ rfl (d_l _ (e_okc (Ty.okc_enc a)) fun _ => d_l _ (e_okc (Ty.okc_enc b)) fun _ => d_call aw (d_l (.bool false) rfl fun _ => d_false (d_call sa (d_l (.bool !ba) rfl fun _ => d_ite (fun _ => d_call aw (d_ret rfl)) fun h1 => d_call sb (d_l (.bool !bb) rfl fun _ => d_ite (fun _ => d_call aw (d_ret rfl)) fun h2 => ?_)))))
  obtain ⟨za, wa⟩ := wa (by simpa using h1)
  obtain ⟨zb, wb⟩ := wb (by simpa using h2)
  have hla := occL_len [] [] a
  have hlb := occL_len [] [] b
  have ca : CL (occL [] [] a ++ occL [] [] b) 12 a := cl_topE wa (by omega) fun x hx => List.mem_append_left _ hx
  have cb : CL (occL [] [] a ++ occL [] [] b) 12 b := cl_topE wb (by omega) fun x hx => List.mem_append_right _ hx
  have hL : (occL [] [] a ++ occL [] [] b).length ≤ 99 := by rw [List.length_append]; omega
  generalize occL [] [] a ++ occL [] [] b = L at *
  have c1 := ok_Canonical (m := L.length) (by omega) hL (by omega) wa (by omega) ca
  have c2 := ok_Canonical (m := L.length) (by omega) hL (by omega) wb (by omega) cb
  have oS := ok_same (nmT (L.length + 1) [] a) (nmT (L.length + 1) [] b) (nmT_ln (show 12 ≤ 549755813888 by omega) _ _ _ ca)
  obtain ⟨r, oE, hr⟩ := ok_ref10_Equal (show 12 ≤ 1000 by omega) (by omega) ca cb
  have e : dq (nmT (L.length + 1) [] a = nmT (L.length + 1) [] b) = r := by
    rw [Bool.eq_iff_iff, dq_iff, hr]
    exact ⟨eqP_of_nmT (by omega) ca cb, fun h => nmT_eqP (by omega) _ _ _ _ _ ca cb pok0 pok0 rfl (fun j h => by simp at h) h (by simp)⟩
  rw [e] at oS
  exact d_call c1 (d_call c2 (d_call oS (d_call oE (d_l (.bool true) (by cases r <;> rfl) fun _ => d_ret rfl))))
end Go.Proofs.YtopinhoalbgebaaGreatDoor.Tx
