/- Contracts (Wk180, Wk181, Wk184). -/
import Derived.Test.YtopinhoalbgebaaGreatDoorWk179
set_option linter.all false
/- The law: the same normal tree exactly for equal types. -/
namespace Go.Proofs.YtopinhoalbgebaaGreatDoor.Tx
open Go.Lf Go.Lf.S Go.Lf.Duo
set_option maxRecDepth 100000

/-! equal types have the same normal tree -/
def Al (pa pb : List Ty) : Prop := ∀ j (h1 : j < pa.length) (h2 : j < pb.length), EqP (pa[j], pb[j])
theorem Al.snoc {pa pb : List Ty} (hl : pa.length = pb.length) (h : Al pa pb) {u v : Ty} (huv : EqP (u, v)) : Al (pa ++ [u]) (pb ++ [v]) := by
  intro j h1 h2
  by_cases e : j < pa.length
  · rw [List.getElem_append_left e, List.getElem_append_left (by omega)]
    exact h j e _
  · have hj : j = pa.length := by rw [List.length_append, List.length_singleton] at h1; omega
    have e1 : (pa ++ [u])[j]? = some u := by rw [hj]; simp
    have e2 : (pb ++ [v])[j]? = some v := by rw [hj, hl]; simp
    rw [List.getElem?_eq_getElem h1] at e1
    rw [List.getElem?_eq_getElem h2] at e2
    rw [Option.some.inj e1, Option.some.inj e2]; exact huv
theorem eqP_u {L : List Ty} {M : Nat} {A B : Ty} (cA : CL L M A) (cB : CL L M B) (h : EqP (A, B)) : EqP (unfT A, unfT B) :=
  eqP_trans cA.unfC cA (eqP_symm (eqP_unf cA)) (eqP_trans cA cB h (eqP_unf cB))
theorem hit_eq {L : List Ty} {M : Nat} {p q u v : Ty} (cp : CL L M p) (cq : CL L M q) (cu : CL L M u) (cv : CL L M v) (hpa : act p.kind = true) (hp : unfT p = p) (hq : unfT q = q) (hu : unfT u = u) (hv : unfT v = v) (h1 : EqP (p, q)) (h2 : EqP (u, v)) : (Hit p u → Hit q v) ∧ off p u = off q v := by
  have l1 := h1.step.1
  have l2 := h2.step.1
  simp only [hp, hq] at l1
  simp only [hu, hv] at l2
  have e : off p u = off q v := by
    unfold off
    rw [l2.2.1, pz_act hpa, pz_act (by rw [← l1.1]; exact hpa), l1.2.1]
  refine ⟨fun h => ?_, e⟩
  unfold Hit at h ⊢
  rw [← e]
  refine eqP_trans (cq.raise _) (cp.raise _) (eqP_symm (eqP_raise cp cq _ h1)) (eqP_trans (cp.raise _) cu h h2)
theorem kid_pair {L : List Ty} {M : Nat} (hM : M ≤ 549755813888) {A B : Ty} (cA : CL L M A) (cB : CL L M B) (h : ELoc (unfT A) (unfT B)) : (ordK (unfT A)).length = (ordK (unfT B)).length ∧ srt (unfT A).labels = srt (unfT B).labels ∧
    ∀ j (h1 : j < (ordK (unfT A)).length) (h2 : j < (ordK (unfT B)).length), ERaw (unfT A) (unfT B) ((ordK (unfT A))[j], (ordK (unfT B))[j]) := by
  have sA := cA.unf.2.1
  have sB := cB.unf.2.1
  have mA := shp_lm sA
  have mB := shp_lm sB
  have hs : srt (unfT A).labels = srt (unfT B).labels := (srt_set sA.nd sB.nd (by omega) (by omega)).2 h.2.2
  refine ⟨by rw [ordK_len sA hM, ordK_len sB hM, h.len sA sB], hs, fun j h1 h2 => ?_⟩
  by_cases e : (unfT A).labels = []
  · have e2 := h.nil.1 e
    have o1 : ordK (unfT A) = (unfT A).kids := by unfold ordK; rw [if_pos e]
    have o2 : ordK (unfT B) = (unfT B).kids := by unfold ordK; rw [if_pos e2]
    exact .inl ⟨e, j, by simp only [o1] at h1 ⊢; exact List.getElem?_eq_getElem h1, by simp only [o2] at h2 ⊢; exact List.getElem?_eq_getElem h2⟩
  · have e2 : (unfT B).labels ≠ [] := fun c => e (h.nil.2 c)
    have o1 : ordK (unfT A) = (srt (unfT A).labels).map (kidAt (unfT A)) := by unfold ordK; rw [if_neg e]
    have o2 : ordK (unfT B) = (srt (unfT A).labels).map (kidAt (unfT B)) := by unfold ordK; rw [if_neg e2, hs]
    have hj : j < (srt (unfT A).labels).length := by simp only [o1, List.length_map] at h1; exact h1
    have hm : (srt (unfT A).labels)[j] ∈ (unfT A).labels := ((srt_spec sA.nd (by omega)).2.1 _).1 (List.getElem_mem hj)
    obtain ⟨p, p1, p2⟩ := kidAt_ex sA hm
    obtain ⟨q, q1, q2⟩ := kidAt_ex sB ((h.2.2 _).1 hm)
    have g1 : (ordK (unfT A))[j] = kidAt (unfT A) (srt (unfT A).labels)[j] := by simp only [o1, List.getElem_map]
    have g2 : (ordK (unfT B))[j] = kidAt (unfT B) (srt (unfT A).labels)[j] := by simp only [o2, List.getElem_map]
    rw [g1, g2]
    exact .inr ⟨e, _, p, q, p1, q1, p2, q2⟩
theorem nmT_eqP {L : List Ty} {M : Nat} (hM : M ≤ 549755813888) : ∀ (m : Nat) (pa pb : List Ty) (A B : Ty), CL L M A → CL L M B → POk L M pa → POk L M pb → pa.length = pb.length → Al pa pb → EqP (A, B) → L.length < pa.length + m → nmT m pa A = nmT m pb B := by
  intro m
  induction m with
  | zero => intro pa pb A B _ _ hpa _ _ _ _ hm; have := hpa.len; omega
  | succ m ih =>
    intro pa pb A B cA cB hpa hpb hl hal h hm
    obtain ⟨hloc, hst⟩ := h.step
    simp only at hloc hst
    have sA := cA.unf.2.1
    have hu := eqP_u cA cB h
    by_cases h3 : (unfT A).kind ≤ 3
    · rw [nmT_lit h3, nmT_lit (by rw [← hloc.1]; exact h3), hloc.1]
    have h3b : ¬ (unfT B).kind ≤ 3 := by rw [← hloc.1]; exact h3
    have hact : act (unfT A).kind = true := by
      have := sA.k1
      simp only [act, decide_eq_true_eq]; omega
    have hh : ∀ q (h1 : q < pa.length) (h2 : q < pb.length), (Hit pa[q] (unfT A) ↔ Hit pb[q] (unfT B)) ∧ off pa[q] (unfT A) = off pb[q] (unfT B) := fun q h1 h2 => by
      have m1 := List.getElem_mem h1
      have m2 := List.getElem_mem h2
      obtain ⟨g1, g2⟩ := hit_eq (hpa.cl _ m1) (hpb.cl _ m2) cA.unfC cB.unfC (hpa.ac _ m1) (hpa.un _ m1) (hpb.un _ m2) cA.uu cB.uu (hal q h1 h2) hu
      obtain ⟨g3, _⟩ := hit_eq (hpb.cl _ m2) (hpa.cl _ m1) cB.unfC cA.unfC (hpb.ac _ m2) (hpb.un _ m2) (hpa.un _ m1) cB.uu cA.uu (eqP_symm (hal q h1 h2)) (eqP_symm hu)
      exact ⟨⟨g1, g3⟩, g2⟩
    cases hf : fnd pa (unfT A) with
    | some j =>
      obtain ⟨hj, g1, g2⟩ := fnd_some hf
      have hf' : fnd pb (unfT B) = some j := fnd_of (by omega) ((hh j hj (by omega)).1.1 g1) fun q hq c => g2 q hq ((hh q (by omega) (by omega)).1.2 c)
      rw [nmT_var h3 hf hj, nmT_var h3b hf' (by omega), (hh j hj (by omega)).2]
    | none =>
      have g := fnd_none hf
      have hf' : fnd pb (unfT B) = none := fnd_of_none fun q hq c => g q (by omega) ((hh q (by omega) hq).1.2 c)
      obtain ⟨k1, k2, k3⟩ := kid_pair hM cA cB hloc
      rw [nmT_node h3 hf, nmT_node h3b hf', hl]
      congr 1
      unfold nodeT
      rw [hloc.1, hloc.2.1, k2]
      congr 1
      have hpa2 := hpa.snoc cA hact hf
      have hpb2 := hpb.snoc cB (by rw [← hloc.1]; exact hact) hf'
      refine List.ext_getElem (by simpa using k1) fun q q1 q2 => ?_
      rw [List.getElem_map, List.getElem_map]
      have q1 : q < (ordK (unfT A)).length := by simpa using q1
      have q2 : q < (ordK (unfT B)).length := by simpa using q2
      have hr := k3 q q1 q2
      have hc := hr.cl cA.unf.2.2 cB.unf.2.2
      exact ih _ _ _ _ hc.1 hc.2 hpa2 hpb2 (by simp [hl]) (hal.snoc hl hu) (hst _ hr) (by simp; omega)
end Go.Proofs.YtopinhoalbgebaaGreatDoor.Tx

/- The law: the same normal tree exactly for equal types (2). -/
namespace Go.Proofs.YtopinhoalbgebaaGreatDoor.Tx
open Go.Lf Go.Lf.S Go.Lf.Duo
set_option maxRecDepth 100000

theorem POk.take {L : List Ty} {M : Nat} {p : List Ty} (h : POk L M p) (j : Nat) : POk L M (p.take j) :=
  ⟨fun x hx => h.cl x (List.mem_of_mem_take hx), fun x hx => h.ac x (List.mem_of_mem_take hx), fun x hx => h.un x (List.mem_of_mem_take hx), by rw [List.map_take]; exact h.nd.sublist (List.take_sublist _ _)⟩
structure Hist (N : Nat) (pa pb : List Ty) : Prop where
  eq : ∀ j (h1 : j < pa.length) (h2 : j < pb.length), nmT (N - j) (pa.take j) pa[j] = nmT (N - j) (pb.take j) pb[j]
  na : ∀ j (h1 : j < pa.length), fnd (pa.take j) pa[j] = none
  nb : ∀ j (h2 : j < pb.length), fnd (pb.take j) pb[j] = none
theorem Hist.take {N : Nat} {pa pb : List Ty} (h : Hist N pa pb) (q : Nat) : Hist N (pa.take q) (pb.take q) := by
  refine ⟨fun j h1 h2 => ?_, fun j h1 => ?_, fun j h2 => ?_⟩
  · rw [List.length_take] at h1 h2
    rw [List.take_take, List.take_take, Nat.min_eq_left (by omega), List.getElem_take, List.getElem_take]
    exact h.eq j (by omega) (by omega)
  · rw [List.length_take] at h1
    rw [List.take_take, Nat.min_eq_left (by omega), List.getElem_take]
    exact h.na j (by omega)
  · rw [List.length_take] at h2
    rw [List.take_take, Nat.min_eq_left (by omega), List.getElem_take]
    exact h.nb j (by omega)
theorem snoc_take {α : Type} (p : List α) (x : α) (j : Nat) (h : j < (p ++ [x]).length) : (j < p.length ∧ (p ++ [x]).take j = p.take j ∧ ∃ h' : j < p.length, (p ++ [x])[j] = p[j]) ∨ (j = p.length ∧ (p ++ [x]).take j = p ∧ (p ++ [x])[j] = x) := by
  by_cases e : j < p.length
  · exact .inl ⟨e, List.take_append_of_le_length (by omega), e, List.getElem_append_left e⟩
  · have hj : j = p.length := by rw [List.length_append, List.length_singleton] at h; omega
    subst hj
    exact .inr ⟨rfl, List.take_left' rfl, by simp⟩
theorem Hist.snoc {N : Nat} {pa pb : List Ty} (h : Hist N pa pb) (hl : pa.length = pb.length) {u v : Ty} (he : nmT (N - pa.length) pa u = nmT (N - pa.length) pb v) (ha : fnd pa u = none) (hb : fnd pb v = none) : Hist N (pa ++ [u]) (pb ++ [v]) := by
  refine ⟨fun j h1 h2 => ?_, fun j h1 => ?_, fun j h2 => ?_⟩
  · rcases snoc_take pa u j h1 with ⟨e, t1, e', g1⟩ | ⟨e, t1, g1⟩
    · rcases snoc_take pb v j h2 with ⟨_, t2, e2', g2⟩ | ⟨e2, _, _⟩
      · rw [t1, t2, g1, g2]; exact h.eq j e' e2'
      · omega
    · rcases snoc_take pb v j h2 with ⟨e2, _, _⟩ | ⟨_, t2, g2⟩
      · omega
      · rw [t1, t2, g1, g2, e]; exact he
  · rcases snoc_take pa u j h1 with ⟨e, t1, e', g1⟩ | ⟨e, t1, g1⟩
    · rw [t1, g1]; exact h.na j e'
    · rw [t1, g1]; exact ha
  · rcases snoc_take pb v j h2 with ⟨e, t1, e', g1⟩ | ⟨e, t1, g1⟩
    · rw [t1, g1]; exact h.nb j e'
    · rw [t1, g1]; exact hb

/-- the same tree, at one place; not a variable -/
structure StT (L : List Ty) (M : Nat) (A B : Ty) (pa pb : List Ty) : Prop where
  cA : CL L M A
  cB : CL L M B
  wa : POk L M pa
  wb : POk L M pb
  len : pa.length = pb.length
  hist : Hist (L.length + 1) pa pb
  eq : nmT (L.length + 1 - pa.length) pa A = nmT (L.length + 1 - pa.length) pb B
theorem wrap_kind (m : Nat) (t : Ty) : (wrapT m t).kind = 8 ∨ (wrapT m t).kind = t.kind := by
  unfold wrapT; split
  · exact .inl rfl
  · exact .inr rfl
theorem wrap_inj {m : Nat} {s t : Ty} (hs : s.kind ≠ 8) (ht : t.kind ≠ 8) (h : wrapT m s = wrapT m t) : s = t := by
  unfold wrapT at h
  split at h <;> split at h
  · have := congrArg Ty.kids h
    simpa [Ty.kids] using this
  · exact absurd (congrArg Ty.kind h).symm ht
  · exact absurd (congrArg Ty.kind h) hs
  · exact h
theorem ord_at {M : Nat} (hM : M ≤ 549755813888) {x y : Ty} (sx : Shp M x) (sy : Shp M y) (h : ELoc x y) {w : Ty × Ty} (hw : ERaw x y w) : ∃ j : Nat, (ordK x)[j]? = some w.1 ∧ (ordK y)[j]? = some w.2 := by
  have mx := shp_lm sx
  have my := shp_lm sy
  rcases hw with ⟨e, j, e1, e2⟩ | ⟨e, s, i, j, f1, f2, e1, e2⟩
  · have o1 : ordK x = x.kids := by unfold ordK; rw [if_pos e]
    have o2 : ordK y = y.kids := by unfold ordK; rw [if_pos (h.nil.1 e)]
    exact ⟨j, by rw [o1]; exact e1, by rw [o2]; exact e2⟩
  · have e' : y.labels ≠ [] := fun c => e (h.nil.2 c)
    have hs : srt x.labels = srt y.labels := (srt_set sx.nd sy.nd (by omega) (by omega)).2 h.2.2
    have o1 : ordK x = (srt x.labels).map (kidAt x) := by unfold ordK; rw [if_neg e]
    have o2 : ordK y = (srt x.labels).map (kidAt y) := by unfold ordK; rw [if_neg e', hs]
    obtain ⟨q, hq, hqs⟩ := List.getElem_of_mem (((srt_spec sx.nd (by omega)).2.1 s).2 (List.mem_of_getElem? f1))
    have hq' : (srt x.labels)[q]? = some s := by rw [List.getElem?_eq_getElem hq, hqs]
    refine ⟨q, ?_, ?_⟩
    · rw [o1, List.getElem?_map, hq', Option.map_some, kidAt_eq sx.nd f1 e1]
    · rw [o2, List.getElem?_map, hq', Option.map_some, kidAt_eq sy.nd f2 e2]

/-- one step of two types with the same tree -/
theorem StT.step {L : List Ty} {M : Nat} (hM : M ≤ 549755813888) {A B : Ty} {pa pb : List Ty} (h : StT L M A B pa pb) :
    (ELoc (unfT A) (unfT B) ∧ ∀ w, ERaw (unfT A) (unfT B) w → ∃ pa pb, StT L M w.1 w.2 pa pb) ∨
    fnd pa (unfT A) ≠ none ∧ ∃ s X Y pa pb, EqP (raiseT s X, unfT A) ∧ EqP (raiseT s Y, unfT B) ∧ StT L M X Y pa pb ∧ fnd pa X = none ∧ fnd pb Y = none ∧ act X.kind = true ∧ act Y.kind = true ∧ unfT X = X ∧ unfT Y = Y := by
  have hpl := h.wa.len
  obtain ⟨m, hm⟩ : ∃ m, L.length + 1 - pa.length = m + 1 := ⟨L.length - pa.length, by omega⟩
  have heq := h.eq
  have hl := h.len
  rw [hm] at heq
  have sA := h.cA.unf.2.1
  have sB := h.cB.unf.2.1
  have mA := shp_lm sA
  have mB := shp_lm sB
  have kA := sA.k1
  have kB := sB.k1
  have kinds := congrArg Ty.kind heq
  by_cases a3 : (unfT A).kind ≤ 3
  · rw [nmT_lit a3] at heq kinds
    have e1 : (litT (unfT A).kind).kind = (unfT A).kind := rfl
    by_cases b3 : (unfT B).kind ≤ 3
    · rw [nmT_lit b3] at kinds
      have hk : (unfT A).kind = (unfT B).kind := kinds
      obtain ⟨x1, x2, x3⟩ := sA.k3 a3
      obtain ⟨y1, y2, y3⟩ := sB.k3 b3
      refine .inl ⟨⟨hk, by rw [x3, y3], fun s => by rw [x2, y2]⟩, fun w hw => ?_⟩
      rcases hw with ⟨_, j, f1, _⟩ | ⟨e, _⟩
      · rw [x1] at f1; simp at f1
      · exact absurd x2 e
    · exfalso
      cases hf : fnd pb (unfT B) with
      | some j =>
        rw [nmT_var b3 hf (fnd_some hf).1] at kinds
        have : (unfT A).kind = 9 := kinds
        omega
      | none =>
        rw [nmT_node b3 hf] at kinds
        rcases wrap_kind pb.length (nodeT (unfT B) ((ordK (unfT B)).map (nmT m (pb ++ [unfT B])))) with e | e <;> rw [e, e1] at kinds
        · omega
        · have : (unfT A).kind = (unfT B).kind := kinds
          omega
  · have aA : act (unfT A).kind = true := by simp only [act, decide_eq_true_eq]; omega
    cases hfa : fnd pa (unfT A) with
    | some j =>
      obtain ⟨hj, hA, _⟩ := fnd_some hfa
      rw [nmT_var a3 hfa hj] at heq kinds
      have e1 : (varT j (off pa[j] (unfT A))).kind = 9 := rfl
      by_cases b3 : (unfT B).kind ≤ 3
      · rw [nmT_lit b3] at kinds
        have : (9 : Int) = (unfT B).kind := kinds
        omega
      have aB : act (unfT B).kind = true := by simp only [act, decide_eq_true_eq]; omega
      cases hfb : fnd pb (unfT B) with
      | none =>
        exfalso
        rw [nmT_node b3 hfb] at kinds
        rcases wrap_kind pb.length (nodeT (unfT B) ((ordK (unfT B)).map (nmT m (pb ++ [unfT B])))) with e | e <;> rw [e, e1] at kinds
        · omega
        · have : (9 : Int) = (unfT B).kind := kinds
          omega
      | some j' =>
        obtain ⟨hj', hB, _⟩ := fnd_some hfb
        rw [nmT_var b3 hfb hj'] at heq
        unfold varT at heq
        injection heq with _ _ hn hs _ _
        obtain rfl := nmB_inj hn
        have m1 := List.getElem_mem hj
        have m2 := List.getElem_mem hj'
        unfold Hit at hA hB
        rw [← hs] at hB
        refine .inr ⟨by simp, _, pa[j], pb[j], pa.take j, pb.take j, hA, hB, ⟨h.wa.cl _ m1, h.wb.cl _ m2, h.wa.take j, h.wb.take j, by rw [List.length_take, List.length_take, hl], h.hist.take j, ?_⟩, h.hist.na j hj, h.hist.nb j hj', h.wa.ac _ m1, h.wb.ac _ m2, h.wa.un _ m1, h.wb.un _ m2⟩
        rw [List.length_take, Nat.min_eq_left (by omega)]
        exact h.hist.eq j hj hj'
    | none =>
      rw [nmT_node a3 hfa] at heq kinds
      have wk := wrap_kind pa.length (nodeT (unfT A) ((ordK (unfT A)).map (nmT m (pa ++ [unfT A]))))
      have nk : (nodeT (unfT A) ((ordK (unfT A)).map (nmT m (pa ++ [unfT A])))).kind = (unfT A).kind := rfl
      by_cases b3 : (unfT B).kind ≤ 3
      · exfalso
        rw [nmT_lit b3] at kinds
        have e2 : (litT (unfT B).kind).kind = (unfT B).kind := rfl
        rw [e2] at kinds
        rcases wk with e | e <;> rw [e] at kinds
        · omega
        · omega
      have aB : act (unfT B).kind = true := by simp only [act, decide_eq_true_eq]; omega
      cases hfb : fnd pb (unfT B) with
      | some j' =>
        exfalso
        rw [nmT_var b3 hfb (fnd_some hfb).1] at kinds
        have e2 : (varT j' (off (pb[j']'(fnd_some hfb).1) (unfT B))).kind = 9 := rfl
        rw [e2] at kinds
        rcases wk with e | e <;> rw [e] at kinds
        · omega
        · omega
      | none =>
        rw [nmT_node b3 hfb, ← hl] at heq
        have hi := wrap_inj (by rw [nk]; omega) (by show (unfT B).kind ≠ 8; omega) heq
        unfold nodeT at hi
        injection hi with i1 i2 _ _ i5 i6
        have hloc : ELoc (unfT A) (unfT B) := ⟨i1, i2, (srt_set sA.nd sB.nd (by omega) (by omega)).1 i5⟩
        refine .inl ⟨hloc, fun w hw => ?_⟩
        have hc := hw.cl h.cA.unf.2.2 h.cB.unf.2.2
        obtain ⟨j, j1, j2⟩ := ord_at hM sA sB hloc hw
        refine ⟨pa ++ [unfT A], pb ++ [unfT B], hc.1, hc.2, h.wa.snoc h.cA aA hfa, h.wb.snoc h.cB aB hfb, by simp [hl], h.hist.snoc hl ?_ hfa hfb, ?_⟩
        · rw [hm, nmT_unf h.cA, nmT_unf h.cB]
          have := h.eq
          rwa [hm] at this
        · have := congrArg (fun l : List Ty => l[j]?) i6
          simp only [List.getElem?_map, j1, j2, Option.map_some] at this
          rw [List.length_append, List.length_singleton, show L.length + 1 - (pa.length + 1) = m by omega]
          exact Option.some.inj this

end Go.Proofs.YtopinhoalbgebaaGreatDoor.Tx

/- The normal tree of a right type: its numbers. -/
namespace Go.Proofs.YtopinhoalbgebaaGreatDoor.Tx
open Go.Lf Go.Lf.S Go.Lf.Duo
set_option maxRecDepth 100000

/-- what a type unfolds to: a node of the list's, raised by a bounded number -/
def NdB (L : List Ty) (M : Nat) (lo hi : Int) (T : Ty) : Prop := ∃ ds σ k p nm s ls ks a ns refs Ts g, Occ ds L M (.mk k p nm s ls ks) a ns refs Ts g ∧ ¬ k = 8 ∧ ¬ k = 9 ∧ lo ≤ σ ∧ σ ≤ hi ∧ Unf T (raiseT σ (sub (lkT ns Ts) (.mk k p nm s ls ks)))
theorem NdB.mono {L : List Ty} {M : Nat} {lo hi lo' hi' : Int} {T : Ty} (h : NdB L M lo hi T) (h1 : lo' ≤ lo) (h2 : hi ≤ hi') : NdB L M lo' hi' T := by
  obtain ⟨ds, σ, k, p, nm, s, ls, ks, a, ns, refs, Ts, g, h3, h8, h9, h4, h5, h6⟩ := h
  exact ⟨ds, σ, k, p, nm, s, ls, ks, a, ns, refs, Ts, g, h3, h8, h9, by omega, by omega, h6⟩
theorem ndB_rec {ds : List Nd} {L : List Ty} {M : Nat} {k p : Int} {nm : ByteArray} {s : Int} {ls : List ByteArray} {x : Ty} {a : Int} {ns : List ByteArray} {refs : List Rf} {Ts : List Ty} {g : Nat} {σ lo hi : Int} (h8 : k = 8) (h : Occ ds L M (.mk k p nm s ls [x]) a ns refs Ts g)
    (hs : NdB L M lo hi (raiseT σ (sub (lkT (ns ++ [nm]) (Ts ++ [sub (lkT ns Ts) (.mk k p nm s ls [x])])) x))) :
    NdB L M lo hi (raiseT σ (sub (lkT ns Ts) (.mk k p nm s ls [x]))) := by
  have hi' := h.i
  obtain ⟨x', hx', hw⟩ := wf_kid8 hi'.wf h8
  cases hx'
  rw [lkT_snoc _ _ _ _ hi'.l2.symm, ← put_sub hw (fun y T hy _ => hi'.clo T (lkT_mem _ _ _ _ hy) nm), ← raise_put] at hs
  obtain ⟨ds, σ', k', p', nm', s', ls', ks', a', ns', refs', Ts', g', h3, h8', h9, h4, h5, h1⟩ := hs
  refine ⟨ds, σ', k', p', nm', s', ls', ks', a', ns', refs', Ts', g', h3, h8', h9, h4, h5, ?_⟩
  have e : raiseT σ (sub (lkT ns Ts) (.mk k p nm s ls [x])) = .mk k p nm s ls [raiseT σ (sub ((lkT ns Ts).del nm) x)] := by
    rw [sub_8 h8, raiseT_mk, if_neg (by omega)]; rfl
  refine .step _ (raiseT σ (sub ((lkT ns Ts).del nm) x)) _ [] (by rw [e]; exact h8) (by rw [e]; rfl) ?_
  have en : (raiseT σ (sub (lkT ns Ts) (.mk k p nm s ls [x]))).name = nm := by rw [e]; rfl
  rw [en]; exact h1
theorem ndB_node {ds : List Nd} {L : List Ty} {M : Nat} {k p : Int} {nm : ByteArray} {s : Int} {ls : List ByteArray} {ks : List Ty} {a : Int} {ns : List ByteArray} {refs : List Rf} {Ts : List Ty} {g : Nat} {σ : Int} (h8 : ¬ k = 8) (h9 : ¬ k = 9) (h : Occ ds L M (.mk k p nm s ls ks) a ns refs Ts g) :
    NdB L M σ σ (raiseT σ (sub (lkT ns Ts) (.mk k p nm s ls ks))) := by
  refine ⟨ds, σ, k, p, nm, s, ls, ks, a, ns, refs, Ts, g, h, h8, h9, Int.le_refl _, Int.le_refl _, ?_⟩
  have e : raiseT σ (sub (lkT ns Ts) (.mk k p nm s ls ks)) = .mk k (if 4 ≤ k ∧ k ≤ 7 then ad p σ else p) nm s ls ((ks.map (sub (lkT ns Ts))).map (raiseT σ)) := by rw [sub_o h8 h9, raiseT_mk]
  have := Unf.done (raiseT σ (sub (lkT ns Ts) (.mk k p nm s ls ks))) (by rw [e]; exact h8)
  rw [raise_raise] at this
  simpa using this
theorem ndB_hd {ds : List Nd} {L : List Ty} {M : Nat} : ∀ (n : Nat) {t : Ty} {a : Int} {ns : List ByteArray} {refs : List Rf} {Ts : List Ty} {g : Nat} {σ : Int}, Hd n t → Occ ds L M t a ns refs Ts g →
    NdB L M σ σ (raiseT σ (sub (lkT ns Ts) t)) := by
  intro n
  induction n with
  | zero =>
    intro t a ns refs Ts g σ hh h
    obtain ⟨k, p, nm, s, ls, ks⟩ := t
    cases hh with
    | done _ h8 h9 _ _ => exact ndB_node h8 h9 h
  | succ n ih =>
    intro t a ns refs Ts g σ hh h
    obtain ⟨k, p, nm, s, ls, ks⟩ := t
    cases hh with
    | step _ _ x h8 hk hh =>
      have hk : ks = [x] := hk
      subst hk
      exact ndB_rec h8 h (ih hh (.down k p nm s ls x a ns refs Ts g h8 h))
theorem wf_shift {t : Ty} {ns : List ByteArray} {g : Nat} (h : Wf t ns g) : 0 ≤ t.shift ∧ t.shift ≤ 1000000 ∧ 0 ≤ t.prio ∧ t.prio ≤ 1000000 := by
  cases h with
  | mk _ _ _ h1 _ _ _ =>
  unfold Wf1 at h1
  exact ⟨h1.1.2.1.2.2.1, h1.1.2.1.2.2.2, h1.1.2.1.1, h1.1.2.1.2.1⟩
theorem ndB_occ {ds : List Nd} {L : List Ty} {M : Nat} : ∀ (t : Ty) {a : Int} {ns : List ByteArray} {refs : List Rf} {Ts : List Ty} {g : Nat} {σ : Int}, Occ ds L M t a ns refs Ts g →
    NdB L M σ (σ + 1000000) (raiseT σ (sub (lkT ns Ts) t)) := by
  intro t
  induction t using Ty.ind with
  | _ t ih =>
  intro a ns refs Ts g σ h
  have hi := h.i
  have hsh := wf_shift hi.wf
  obtain ⟨k, p, nm, s, ls, ks⟩ := t
  by_cases h9 : k = 9
  · obtain ⟨j, hj, hla⟩ := wf_var hi.wf h9
    have hjn : j < ns.length := Nat.lt_of_lt_of_le hj hi.gle
    have hl1 := hi.l1
    have hl2 := hi.l2
    have h2 := lkT_at ns Ts nm j hla.1 hla.2 (by omega)
    obtain ⟨t', a', ns', refs', Ts', g', e1, e2, e3, e4⟩ := hi.ent j (by omega) (by omega)
    obtain ⟨m, hm⟩ := e4 (.inl hj)
    rw [sub_9 h9 h2, raise_raise, e3]
    have h0 : 0 ≤ s := hsh.1
    have h1 : s ≤ 1000000 := hsh.2.1
    exact (ndB_hd m hm e1).mono (by omega) (by omega)
  · by_cases h8 : k = 8
    · obtain ⟨x, rfl, hw⟩ := wf_kid8 hi.wf h8
      exact ndB_rec h8 h (ih x (by simp [Ty.kids]) (.down k p nm s ls x a ns refs Ts g h8 h))
    · exact (ndB_node h8 h9 h).mono (by omega) (by omega)

/-- a type of the list's, raised by at most B -/
def CB (L : List Ty) (M : Nat) (B : Int) (T : Ty) : Prop := ∃ ds σ t a ns refs Ts g, Occ ds L M t a ns refs Ts g ∧ 0 ≤ σ ∧ σ ≤ B ∧ T = raiseT σ (sub (lkT ns Ts) t)
theorem CB.cl {L : List Ty} {M : Nat} {B : Int} {T : Ty} (h : CB L M B T) : CL L M T := by
  obtain ⟨ds, σ, t, a, ns, refs, Ts, g, ho, _, _, rfl⟩ := h
  exact ⟨ds, _, σ, t, a, ns, refs, Ts, g, ho, rfl, rfl⟩
theorem CB.step {L : List Ty} {M : Nat} {B : Int} {T : Ty} (h : CB L M B T) (hB : B ≤ 4611686018427387904) : (act (unfT T).kind = true → 0 ≤ (unfT T).prio ∧ (unfT T).prio ≤ B + 2000000) ∧ ∀ k ∈ (unfT T).kids, CB L M (B + 1000000) k := by
  obtain ⟨ds, σ, t, a, ns, refs, Ts, g, ho, h0, h1, rfl⟩ := h
  obtain ⟨ds', σ', k, p, nm, s, ls, ks, a', ns', refs', Ts', g', h3, h8, h9, h4, h5, hU⟩ := ndB_occ t ho (σ := σ)
  rw [unfT_eq hU]
  have hsh := wf_shift h3.i.wf
  have e : raiseT σ' (sub (lkT ns' Ts') (.mk k p nm s ls ks)) = .mk k (if 4 ≤ k ∧ k ≤ 7 then ad p σ' else p) nm s ls ((ks.map (sub (lkT ns' Ts'))).map (raiseT σ')) := by rw [sub_o h8 h9, raiseT_mk]
  rw [e]
  have hp0 : 0 ≤ p := hsh.2.2.1
  have hp1 : p ≤ 1000000 := hsh.2.2.2
  refine ⟨fun ha => ?_, fun q hq => ?_⟩
  · have ha : 4 ≤ k ∧ k ≤ 7 := of_decide_eq_true ha
    simp only [Ty.prio, if_pos ha]
    unfold ad
    rw [wrap_in (by omega) (by omega)]
    omega
  · simp only [Ty.kids, List.mem_map] at hq
    obtain ⟨_, ⟨x, hx, rfl⟩, rfl⟩ := hq
    obtain ⟨j, hj, rfl⟩ := List.getElem_of_mem hx
    exact ⟨ds', σ', ks[j], _, ns', refs', Ts', ns'.length, .kid k p nm s ls ks a' ns' refs' Ts' g' h8 h9 h3 j hj, by omega, by omega, rfl⟩
theorem cb_top {L : List Ty} {M : Nat} {t : Ty} (h : Wf t [] 0) (hz : t.sz ≤ M) (hL : ∀ x ∈ occL [] [] t, x ∈ L) : CB L M 0 t := by
  have hp : Pl (nodesF t 0 [] []) 0 (nodesF t 0 [] []) := ⟨Int.le_refl _, fun q hq => by
    show (nodesF t 0 [] [])[(0 : Int).toNat + q]? = _
    rw [show (0 : Int).toNat + q = q by simp]
    exact List.getElem?_eq_getElem hq⟩
  have e : lkT [] [] = noE := by funext y; rfl
  exact ⟨_, 0, t, 0, [], [], [], 0, .top t 0 h hp hL (Wf.lm t [] 0 _ h hz), Int.le_refl _, Int.le_refl _, by rw [raise0_sub h, e, sub_id]⟩

/-! what is below -/
inductive Rch (A : Ty) : Nat → Ty → Prop
  | zero : Rch A 0 A
  | succ (n : Nat) (B C : Ty) (h : Rch A n B) (hk : C ∈ (unfT B).kids) : Rch A (n + 1) C
theorem Rch.trans {A B C : Ty} {n m : Nat} (h1 : Rch A n B) (h2 : Rch B m C) : Rch A (n + m) C := by
  induction h2 with
  | zero => exact h1
  | succ m X Y h hk ih => exact .succ _ X Y ih hk
theorem Rch.cb {L : List Ty} {M : Nat} {B : Int} {A C : Ty} {n : Nat} (h : Rch A n C) (hA : CB L M B A) (hB : B + n * 1000000 ≤ 4611686018427387904) : CB L M (B + n * 1000000) C := by
  induction h with
  | zero => simpa using hA
  | succ n X Y h hk ih =>
    have := ((ih (by omega)).step (by omega)).2 Y hk
    rw [show B + ((n + 1 : Nat) : Int) * 1000000 = B + n * 1000000 + 1000000 by omega]
    exact this
theorem Rch.raise {L : List Ty} {M : Nat} {A C : Ty} {n : Nat} (k : Int) (h : Rch A n C) (hA : CL L M A) : Rch (raiseT k A) n (raiseT k C) ∧ CL L M C := by
  induction h with
  | zero => exact ⟨.zero, hA⟩
  | succ n X Y h hk ih =>
    refine ⟨.succ n _ _ ih.1 ?_, ih.2.unf.2.2 Y hk⟩
    rw [unfT_raise k ih.2.ex, raise_kids]
    exact List.mem_map_of_mem hk
/-- equal types have equal ones below -/
theorem Rch.sim {L : List Ty} {M : Nat} {A C A' : Ty} {n : Nat} (h : Rch A n C) (hA : CL L M A) (hA' : CL L M A') (he : EqP (A, A')) : ∃ C', Rch A' n C' ∧ EqP (C, C') ∧ CL L M C ∧ CL L M C' := by
  induction h with
  | zero => exact ⟨A', .zero, he, hA, hA'⟩
  | succ n X Y h hk ih =>
    obtain ⟨X', h1, h2, h3, h4⟩ := ih
    obtain ⟨hl, hn⟩ := h2.step
    simp only at hl hn
    have sX := h3.unf.2.1
    have sX' := h4.unf.2.1
    obtain ⟨j, hj, rfl⟩ := List.getElem_of_mem hk
    have hlen := hl.len sX sX'
    by_cases e : (unfT X).labels = []
    · refine ⟨(unfT X').kids[j]'(by omega), .succ n _ _ h1 (List.getElem_mem _), hn ((unfT X).kids[j], (unfT X').kids[j]'(by omega)) (.inl ⟨e, j, List.getElem?_eq_getElem hj, List.getElem?_eq_getElem (by omega)⟩), h3.unf.2.2 _ (List.getElem_mem hj), h4.unf.2.2 _ (List.getElem_mem _)⟩
    · have k1 := sX.k1
      have hkl : (unfT X).kids.length = (unfT X).labels.length := by
        by_cases c3 : (unfT X).kind ≤ 3
        · exact absurd (sX.k3 c3).2.1 e
        · by_cases c5 : (unfT X).kind ≤ 5
          · exact absurd (sX.k5 ⟨by omega, c5⟩).2 e
          · exact sX.k7 ⟨by omega, k1.2⟩
      have hjl : j < (unfT X).labels.length := by omega
      obtain ⟨q, q1, q2⟩ := kidAt_ex sX' ((hl.2.2 _).1 (List.getElem_mem hjl))
      refine ⟨_, .succ n _ _ h1 (List.mem_of_getElem? q2), hn ((unfT X).kids[j], _) (.inr ⟨e, _, j, q, List.getElem?_eq_getElem hjl, q1, List.getElem?_eq_getElem hj, q2⟩), h3.unf.2.2 _ (List.getElem_mem hj), h4.unf.2.2 _ (List.mem_of_getElem? q2)⟩

/-- a type above one that is equal to it, raised: raised by no negative number -/
theorem no_neg {L : List Ty} {M : Nat} {p u : Ty} {w : Nat} {k : Int} (hw : w ≤ 1000) (hp : CB L M 1000000000 p) (hpu : Rch p w u) (hact : act (unfT p).kind = true) (he : EqP (raiseT k p, u)) (hk : -2000000000 ≤ k) : 0 ≤ k := by
  have key : ∀ n : Nat, ∃ v, Rch p (n * w) v ∧ EqP (raiseT (n * k) p, v) ∧ CL L M v := by
    intro n
    have cp := hp.cl
    induction n with
    | zero =>
      refine ⟨p, by rw [Nat.zero_mul]; exact .zero, ?_, cp⟩
      have h0 := eqP_unf cp
      have h1 := eqP_raise cp cp.unfC 0 h0
      rw [raise0 cp] at h1
      simp only [Int.natCast_zero, Int.zero_mul]
      exact eqP_trans (cp.raise 0) cp.unfC h1 (eqP_symm h0)
    | succ n ih =>
      obtain ⟨v, h1, h2, cv⟩ := ih
      have cu : CL L M u := (Rch.raise 0 hpu cp).2
      -- raise (n k) p goes to raise (n k) u
      have g1 := (Rch.raise (n * k) hpu cp).1
      obtain ⟨v', g2, g3, _, cv'⟩ := g1.sim (cp.raise _) cv h2
      refine ⟨v', by rw [Nat.succ_mul]; exact h1.trans g2, ?_, cv'⟩
      have g4 := eqP_raise (cp.raise k) cu (n * k) he
      rw [raise_raise] at g4
      rw [show ((n + 1 : Nat) : Int) * k = k + n * k by rw [Int.natCast_add, Int.add_mul]; omega]
      exact eqP_trans (cp.raise _) (cu.raise _) g4 g3
  rcases Int.lt_or_le k 0 with hneg | hneg
  · exfalso
    obtain ⟨v, h1, h2, _⟩ := key 1100000000
    have cp := hp.cl
    have hpr := (hp.step (by omega)).1 hact
    have cbv := h1.cb hp (by omega)
    have hloc := h2.step.1
    simp only [unfT_raise _ cp.ex] at hloc
    have hav : act (unfT v).kind = true := by rw [← hloc.1, raise_kind]; exact hact
    have hpv := (cbv.step (by omega)).1 hav
    rw [← hloc.2.1, raise_prio _ _ hact] at hpv
    unfold ad at hpv
    have hlo : (unfT p).prio + ((1100000000 : Nat) : Int) * k < 0 := by omega
    have hlo2 : -9223372036854775808 ≤ (unfT p).prio + ((1100000000 : Nat) : Int) * k := by omega
    rw [wrap_in hlo2 (by omega)] at hpv
    omega
  · exact hneg
end Go.Proofs.YtopinhoalbgebaaGreatDoor.Tx
