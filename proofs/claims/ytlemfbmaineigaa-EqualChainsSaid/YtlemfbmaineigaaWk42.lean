/- A type is equal to the turned one: pairs of nodes that stand at the same place of the tree. -/
import Derived.Test.YtlemfbmaineigaaWk41
import Derived.Test.YtlemfbmaineigaaWk20
set_option linter.all false
namespace Go.Proofs.Ytlemfbmaineigaa.Tx
open Go.Lf Go.Lf.S Go.Lf.Duo
set_option maxRecDepth 100000

/-- from a relation of nodes that goes on to a closed list -/
theorem eqv_of_rel {ds : List Nd} {R : Int → Int → Prop} (hR : ∀ a b, R a b → 0 ≤ a ∧ 0 ≤ b ∧ ∃ x y, ds[a.toNat]? = some x ∧ ds[b.toNat]? = some y ∧ x.kind = y.kind ∧ x.prio = y.prio ∧ x.labels.length = y.labels.length ∧
      ∀ (j : Nat) (u : Rf), x.next[j]? = some u → ∃ (v : Rf) (q : Nat), y.next[q]? = some v ∧ Sel x y j q ∧ u.shift = v.shift ∧ R u.node v.node) {a b : Int} (hab : R a b) : Eqv ds false ⟨a, b, 0⟩ := by
  classical
  let L : List Key := ((List.range ds.length).flatMap fun p : Nat => (List.range ds.length).map fun q : Nat => (⟨(p : Int), (q : Int), 0⟩ : Key)).filter fun k => decide (R k.a k.b)
  have mem : ∀ a b, R a b → (⟨a, b, 0⟩ : Key) ∈ L := by
    intro a b h
    obtain ⟨h0, h1, x, y, hx, hy, _⟩ := hR a b h
    have ha := (List.getElem?_eq_some_iff.1 hx).1
    have hb := (List.getElem?_eq_some_iff.1 hy).1
    simp only [L, List.mem_filter, List.mem_flatMap, List.mem_map, List.mem_range, decide_eq_true_eq]
    refine ⟨⟨a.toNat, ha, b.toNat, hb, ?_⟩, h⟩
    rw [Int.toNat_of_nonneg h0, Int.toNat_of_nonneg h1]
  refine ⟨L, fun k hk => ?_, mem a b hab⟩
  simp only [L, List.mem_filter, List.mem_flatMap, List.mem_map, List.mem_range, decide_eq_true_eq] at hk
  obtain ⟨⟨p, hp, q, hq, rfl⟩, hr⟩ := hk
  obtain ⟨_, _, x, y, hx, hy, hk1, hk2, hk3, hn⟩ := hR _ _ hr
  refine ⟨?_, fun j hj => ?_⟩
  · unfold locB
    simp only [hx, hy, hk1, hk2, hk3]
    simp
  · unfold arity at hj
    simp only [hx] at hj
    obtain ⟨v, q', h1, h2, h3, h4⟩ := hn j _ (List.getElem?_eq_getElem hj)
    refine ⟨⟨x.next[j].node, v.node, 0⟩, ⟨x, y, hx, hy, x.next[j], v, q', List.getElem?_eq_getElem hj, h1, h2, ?_⟩, mem _ _ h4⟩
    simp only [Bool.false_eq_true, if_false, Key.mk.injEq, true_and]
    rw [h3, show v.shift - v.shift + (0 : Int) = 0 by omega]; rfl

def sg (t : Ty) (j : Nat) : Nat := if t.labels = [] then j else t.kids.length - 1 - j
theorem turn_at (t : Ty) (j : Nat) (hj : j < t.kids.length) : ∃ h : sg t j < (turnT t).kids.length, (turnT t).kids[sg t j] = turnT t.kids[j] := by
  have hl : sg t j < (turnT t).kids.length := by rw [turn_len]; unfold sg; split <;> omega
  refine ⟨hl, ?_⟩
  have : (turnT t).kids[sg t j]? = some (turnT t.kids[j]) := by
    rw [turn_kids]
    unfold sg
    split
    · simp [hj]
    · rw [List.getElem?_reverse (by simp; omega)]
      simp only [List.length_map, List.getElem?_map]
      rw [show t.kids.length - 1 - (t.kids.length - 1 - j) = j by omega]
      simp [hj]
  rw [List.getElem?_eq_getElem hl] at this
  exact Option.some.inj this

/-- a type's place in a type, and in the turned one -/
inductive Occ (t0 : Ty) (α β : Int) : Ty → Int → Int → List ByteArray → List Rf → List Rf → Prop
  | root : Occ t0 α β t0 α β [] [] []
  | mu (t k : Ty) (a a' : Int) (ns : List ByteArray) (R R' : List Rf) (h : Occ t0 α β t a a' ns R R') (h8 : t.kind = 8) (hk : t.kids = [k]) : Occ t0 α β k a a' (ns ++ [t.name]) (R ++ [refF t a ns R]) (R' ++ [refF (turnT t) a' ns R'])
  | kid (t : Ty) (a a' : Int) (ns : List ByteArray) (R R' : List Rf) (h : Occ t0 α β t a a' ns R R') (h8 : t.kind ≠ 8) (h9 : t.kind ≠ 9) (j : Nat) (hj : j < t.kids.length) :
      Occ t0 α β t.kids[j] (a + 1 + gcs (t.kids.take j)) (a' + 1 + gcs ((turnT t).kids.take (sg t j))) ns R R'

def Rel (t0 : Ty) (α β a a' : Int) : Prop := ∃ t ns R R', Occ t0 α β t a a' ns R R' ∧ t.kind ≠ 8 ∧ t.kind ≠ 9
def Er (t0 : Ty) (α β : Int) (R R' : List Rf) : Prop := ∀ (i : Nat) (q q' : Rf), R[i]? = some q → R'[i]? = some q' → q.shift = q'.shift ∧ Rel t0 α β q.node q'.node

theorem ref_rel {t0 : Ty} {α β : Int} : ∀ (t : Ty) (a a' : Int) (ns ext : List ByteArray) (R R' E E' : List Rf) (g : Nat), Occ t0 α β t a a' (ns ++ ext) (R ++ E) (R' ++ E') → Wf t (ns ++ ext) g → g ≤ ns.length → R.length = ns.length → R'.length = ns.length → Er t0 α β R R' →
    (refF t a ns R).shift = (refF (turnT t) a' ns R').shift ∧ Rel t0 α β (refF t a ns R).node (refF (turnT t) a' ns R').node := by
  intro t
  induction t using Ty.ind with
  | _ t ih =>
  intro a a' ns ext R R' E E' g ho hw hg hR hR' he
  cases hw with
  | mk _ _ _ h1 h9 h8 hk =>
  obtain ⟨k, p, nm, s, ls, ks⟩ := t
  unfold Wf1 at h1
  have h1 := h1.1
  simp only [Ty.kind, Ty.prio, Ty.shift, Ty.kids, Ty.labels] at h1
  by_cases hk8 : k = 8
  · have hl := (h1.2.2.2.2.2.1 hk8).1
    obtain ⟨x, hks⟩ := List.length_eq_one_iff.1 hl
    have hm : x ∈ ks := by rw [hks]; exact List.mem_cons_self
    have hturn : turnT (.mk k p nm s ls ks) = .mk k p nm s ls.reverse [turnT x] := by
      rw [turnT_mk, hks]; split <;> rfl
    have ho' := Occ.mu _ x _ _ _ _ _ ho hk8 hks
    simp only [Ty.name, List.append_assoc] at ho'
    have := ih x hm a a' ns (ext ++ [nm]) R R' _ _ g ho' (by rw [← List.append_assoc]; exact h8 hk8 x hm) hg hR hR' he
    rw [refF_8 hk8 hks, hturn, refF_8 hk8 rfl]
    exact this
  · by_cases hk9 : k = 9
    · obtain ⟨j, hj, hl, hlast⟩ := h9 hk9
      simp only [Ty.name] at hl hlast
      have hjn : j < ns.length := by omega
      rw [List.getElem?_append_left hjn] at hl
      have hlast' : ∀ i : Nat, j < i → ns[i]? ≠ some nm := fun i hi hc => by
        have hin := (List.getElem?_eq_some_iff.1 hc).1
        exact hlast i hi (by rw [List.getElem?_append_left hin]; exact hc)
      have l1 := look_at ns R nm j hl hlast' (by omega)
      have l2 := look_at ns R' nm j hl hlast' (by omega)
      obtain ⟨e1, e2⟩ := he j _ _ (List.getElem?_eq_getElem (by omega)) (List.getElem?_eq_getElem (by omega))
      rw [turnT_mk, refF_9 hk9 l1, refF_9 hk9 l2]
      exact ⟨by show _ + s = _ + s; rw [e1], e2⟩
    · rw [turnT_mk, refF_o hk8 hk9, refF_o hk8 hk9]
      exact ⟨rfl, _, _, _, _, ho, hk8, hk9⟩

structure Inv (ds : List Nd) (t0 : Ty) (α β : Int) (t : Ty) (a a' : Int) (ns : List ByteArray) (R R' : List Rf) (g : Nat) : Prop where
  w : Wf t ns g
  g : g ≤ ns.length
  r : R.length = ns.length
  r' : R'.length = ns.length
  e : Er t0 α β R R'
  p : Pl ds a (nodesF t a ns R)
  p' : Pl ds a' (nodesF (turnT t) a' ns R')

theorem occ_inv {ds : List Nd} {t0 : Ty} {α β : Int} (hw : Wf t0 [] 0) (hp : Pl ds α (nodesF t0 α [] [])) (hp' : Pl ds β (nodesF (turnT t0) β [] [])) {t : Ty} {a a' : Int} {ns : List ByteArray} {R R' : List Rf} (h : Occ t0 α β t a a' ns R R') :
    ∃ g, Inv ds t0 α β t a a' ns R R' g := by
  induction h with
  | root => exact ⟨0, hw, Nat.le_refl _, rfl, rfl, (fun i q q' h => by simp at h), hp, hp'⟩
  | mu t k a a' ns R R' h h8 hk ih =>
    obtain ⟨g, hi⟩ := ih
    have hrel := ref_rel t a a' ns [] R R' [] [] g (by simpa using h) (by simpa using hi.w) hi.g hi.r hi.r' hi.e
    have hw := hi.w
    have p1 := hi.p
    have p2 := hi.p'
    cases hw with
    | mk _ _ _ _ _ h8' _ =>
    refine ⟨g, h8' h8 k (by rw [hk]; exact List.mem_cons_self), ?_, ?_, ?_, fun i q q' hq hq' => ?_, ?_, ?_⟩
    · have := hi.g; simp; omega
    · simp [hi.r]
    · simp [hi.r']
    · rw [List.getElem?_append] at hq hq'
      split at hq
      · rename_i hlt
        rw [if_pos (by have := hi.r; have := hi.r'; omega)] at hq'
        exact hi.e i q q' hq hq'
      · rename_i hge
        rw [if_neg (by have := hi.r; have := hi.r'; omega)] at hq'
        have e1 := List.mem_of_getElem? hq
        have e2 := List.mem_of_getElem? hq'
        simp only [List.mem_singleton] at e1 e2
        rw [e1, e2]; exact hrel
    · obtain ⟨kd, p, nm, s, ls, ks⟩ := t
      have h8q : kd = 8 := h8
      have hkq : ks = [k] := hk
      rw [nodesF_8 h8q hkq] at p1
      exact p1
    · obtain ⟨kd, p, nm, s, ls, ks⟩ := t
      have h8q : kd = 8 := h8
      have hkq : ks = [k] := hk
      have hturn : turnT (.mk kd p nm s ls ks) = .mk kd p nm s ls.reverse [turnT k] := by
        rw [turnT_mk, hkq]; split <;> rfl
      rw [hturn, nodesF_8 h8q rfl, ← hturn] at p2
      exact p2
  | kid t a a' ns R R' h h8 h9 j hj ih =>
    obtain ⟨g, hi⟩ := ih
    have hw := hi.w
    have hwt := Wf.turn t ns g hw
    have p1 := hi.p
    have p2 := hi.p'
    obtain ⟨hq, heq⟩ := turn_at t j hj
    have ek : (turnT t).kind = t.kind := by
      obtain ⟨kd, p, nm, s, ls, ks⟩ := t
      rw [turnT_mk]; rfl
    have split1 : ∀ (t : Ty) (g : Nat) (a : Int) (R : List Rf), Wf t ns g → t.kind ≠ 8 → t.kind ≠ 9 → Pl ds a (nodesF t a ns R) → ∀ j (hj : j < t.kids.length), Pl ds (a + 1 + gcs (t.kids.take j)) (nodesF t.kids[j] (a + 1 + gcs (t.kids.take j)) ns R) := by
      intro t g a R hw h8 h9 hpl j hj
      cases hw with
      | mk _ _ _ _ _ _ hk =>
      obtain ⟨kd, p, nm, s, ls, ks⟩ := t
      have h8 : kd ≠ 8 := h8
      have h9 : kd ≠ 9 := h9
      rw [nodesF_o h8 h9] at hpl
      have hpl : Pl ds a ([⟨kd, p, ls, nextsF ks (a + 1) ns R⟩] ++ belowsF ks (a + 1) ns R) := hpl
      have := Pl.right (n := 1) rfl hpl
      exact Pl.kid this (fun x hx a => len_nodes x _ _ (hk h8 x hx) a _ _) j hj
    have q1 := split1 t g a R hw h8 h9 p1 j hj
    have q2 := split1 (turnT t) g a' R' hwt (by rw [ek]; exact h8) (by rw [ek]; exact h9) p2 _ hq
    rw [heq] at q2
    cases hw with
    | mk _ _ _ _ _ _ hk =>
    exact ⟨ns.length, hk h8 _ (List.getElem_mem hj), Nat.le_refl _, hi.r, hi.r', hi.e, q1, q2⟩

theorem rel_closed {ds : List Nd} {t0 : Ty} {α β : Int} (hw : Wf t0 [] 0) (hp : Pl ds α (nodesF t0 α [] [])) (hp' : Pl ds β (nodesF (turnT t0) β [] [])) (a b : Int) (h : Rel t0 α β a b) :
    0 ≤ a ∧ 0 ≤ b ∧ ∃ x y, ds[a.toNat]? = some x ∧ ds[b.toNat]? = some y ∧ x.kind = y.kind ∧ x.prio = y.prio ∧ x.labels.length = y.labels.length ∧
      ∀ (j : Nat) (u : Rf), x.next[j]? = some u → ∃ (v : Rf) (q : Nat), y.next[q]? = some v ∧ Sel x y j q ∧ u.shift = v.shift ∧ Rel t0 α β u.node v.node := by
  obtain ⟨t, ns, R, R', ho, h8, h9⟩ := h
  obtain ⟨g, hi⟩ := occ_inv hw hp hp' ho
  have p1 := hi.p
  have p2 := hi.p'
  have hwt := hi.w
  cases hwt with
  | mk _ _ _ w1 _ _ hk =>
  have hkid := fun j hj => Occ.kid t a b ns R R' ho h8 h9 j hj
  have hat := fun j hj => turn_at t j hj
  obtain ⟨kd, p, nm, s, ls, ks⟩ := t
  have h8 : kd ≠ 8 := h8
  have h9 : kd ≠ 9 := h9
  rw [nodesF_o h8 h9] at p1
  have htk : (turnT (.mk kd p nm s ls ks)).kids = if ls = [] then ks.map turnT else (ks.map turnT).reverse := by rw [turnT_mk]; rfl
  rw [turnT_mk, nodesF_o h8 h9, ← htk] at p2
  have e1 := p1.2 0 (by simp)
  have e2 := p2.2 0 (by simp)
  refine ⟨p1.1, p2.1, _, _, e1, e2, rfl, rfl, by simp, fun j u hu => ?_⟩
  simp only [List.getElem_cons_zero] at hu ⊢
  have hj : j < ks.length := by
    have := (List.getElem?_eq_some_iff.1 hu).1
    rw [nextsF_len] at this; exact this
  rw [nextsF_at j hj] at hu
  have hu := Option.some.inj hu
  obtain ⟨hq, heq⟩ := hat j hj
  refine ⟨_, sg (.mk kd p nm s ls ks) j, nextsF_at _ hq, ?_, ?_⟩
  · unfold Sel
    simp only
    split
    · rename_i h0
      have hne : ls ≠ [] := by rintro rfl; simp at h0
      have hll : ks.length = ls.length := by
        unfold Wf1 at w1
        have w1 := w1.1
        simp only [Ty.kind, Ty.prio, Ty.shift, Ty.kids, Ty.labels] at w1
        clear hk
        omega
      have hjl : j < ls.length := by omega
      have hsg : sg (.mk kd p nm s ls ks) j = ls.length - 1 - j := by
        unfold sg
        rw [if_neg (show ¬ (Ty.mk kd p nm s ls ks).labels = [] from hne)]
        show ks.length - 1 - j = _
        omega
      refine ⟨ls[j], List.getElem?_eq_getElem hjl, ?_, fun q hqs hc => ?_⟩
      · rw [hsg, List.getElem?_reverse (by omega), show ls.length - 1 - (ls.length - 1 - j) = j by omega]
        exact List.getElem?_eq_getElem hjl
      · rw [hsg] at hqs
        rw [List.getElem?_reverse (by omega)] at hc
        have hnd : ls.Nodup := w1.2
        have hql : ls.length - 1 - q < ls.length := by omega
        rw [List.getElem?_eq_getElem hql] at hc
        have hc := Option.some.inj hc
        have := (List.getElem_inj hnd).1 hc
        omega
    · rename_i h0
      have hne : ls = [] := by
        cases ls with
        | nil => rfl
        | cons x l => simp at h0
      unfold sg
      rw [if_pos (show (Ty.mk kd p nm s ls ks).labels = [] from hne)]
  · have := ref_rel _ _ _ ns [] R R' [] [] ns.length (by simpa using hkid j hj) (by rw [List.append_nil]; exact hk h8 _ (List.getElem_mem hj)) (Nat.le_refl _) hi.r hi.r' hi.e
    rw [← hu, heq]
    exact this

/-- a type and the turned one are equal -/
theorem turn_eq {ds : List Nd} {t0 : Ty} {α β : Int} (hw : Wf t0 [] 0) (hp : Pl ds α (nodesF t0 α [] [])) (hp' : Pl ds β (nodesF (turnT t0) β [] [])) :
    (refF t0 α [] []).shift = (refF (turnT t0) β [] []).shift ∧ Eqv ds false ⟨(refF t0 α [] []).node, (refF (turnT t0) β [] []).node, 0⟩ := by
  obtain ⟨h1, h2⟩ := ref_rel (t0 := t0) (α := α) (β := β) t0 α β [] [] [] [] [] [] 0 .root hw (Nat.le_refl _) rfl rfl (fun i q q' h => by simp at h)
  exact ⟨h1, eqv_of_rel (rel_closed hw hp hp') h2⟩

end Go.Proofs.Ytlemfbmaineigaa.Tx
