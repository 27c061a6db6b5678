/- A pruned program has no fault. -/
import Derived.Test.YtbfjpjllaibooaaWk138
import Derived.Test.YtbfjpjllaibooaaWk135
set_option linter.all false
namespace Go.Proofs.Ytbfjpjllaibooaa.Tx
open Go.Lf Go.Lf.S Go.Lf.Duo
set_option maxRecDepth 100000

theorem firstE_iff : ∀ {l : List Df}, firstE l = 0 ↔ ∀ d ∈ l, prightE d.body = 0
  | [] => by simp [firstE]
  | d :: r => by
    rw [firstE]
    by_cases h : prightE d.body = 0
    · rw [if_pos h, firstE_iff]; simp [h]
    · rw [if_neg h]; simp [h]
theorem dws_filter (f : Df → Bool) : ∀ l : List Df, dws (l.filter f) ≤ dws l
  | [] => by simp
  | d :: r => by
    have := dws_filter f r
    rw [List.filter_cons]
    split
    · simp only [dws]; omega
    · simp only [dws]; omega
theorem progE_iff {p : Pg} : progE p = 0 ↔ ¬ 10000 < total p ∧ firstE p.defs = 0 ∧ prightE p.main = 0 ∧ ∀ d ∈ p.defs, dfP d := by
  unfold progE
  by_cases h1 : 10000 < total p
  · rw [if_pos h1]; simp [h1]
  · rw [if_neg h1]
    by_cases h2 : firstE p.defs ≠ 0
    · rw [if_pos h2]; simp [h2]
    · rw [if_neg h2]
      by_cases h3 : prightE p.main ≠ 0
      · rw [if_pos h3]; simp [h3]
      · rw [if_neg h3]
        have h2 : firstE p.defs = 0 := Classical.not_not.1 h2
        have h3 : prightE p.main = 0 := Classical.not_not.1 h3
        by_cases h4 : ∀ d ∈ p.defs, dfP d
        · rw [pb_iff.2 h4]; simp [h1, h2, h3]; exact h4
        · rw [pb_false.2 h4]; simp only [Bool.false_eq_true, if_false]
          exact ⟨fun h => by omega, fun h => absurd h.2.2.2 h4⟩

theorem D06_iff {ds : List Df} : (∀ j, D06 ds j) ↔ ds.Pairwise (fun a b => a.name ≠ b.name) ∧ ∀ d ∈ ds, (prN06 d).Nodup := by
  constructor
  · intro h
    refine ⟨?_, fun d hd => ?_⟩
    · rw [List.pairwise_iff_getElem]
      intro a b ha hb hab
      exact (h b ds[b] (List.getElem?_eq_getElem hb)).1 a ds[a] hab (List.getElem?_eq_getElem ha)
    · obtain ⟨j, hj⟩ := List.getElem?_of_mem hd
      exact (h j d hj).2
  · rintro ⟨h1, h2⟩ j d hd
    refine ⟨fun q d' hq hd' => ?_, h2 d (List.mem_of_getElem? hd)⟩
    rw [List.pairwise_iff_getElem] at h1
    obtain ⟨a1, a2⟩ := List.getElem?_eq_some_iff.1 hd
    obtain ⟨b1, b2⟩ := List.getElem?_eq_some_iff.1 hd'
    have := h1 q j b1 a1 hq
    rwa [a2, b2] at this
theorem one_name : ∀ {ds : List Df}, ds.Pairwise (fun a b => a.name ≠ b.name) → ∀ {d d' : Df}, d ∈ ds → d' ∈ ds → d.name = d'.name → d = d'
  | x :: r, h, d, d', hd, hd', e => by
    rw [List.pairwise_cons] at h
    rcases List.mem_cons.1 hd with h1 | h1
    · rcases List.mem_cons.1 hd' with h2 | h2
      · rw [h1, h2]
      · exact absurd (h1 ▸ e) (h.1 d' h2)
    · rcases List.mem_cons.1 hd' with h2 | h2
      · exact absurd (h2 ▸ e.symm) (h.1 d h1)
      · exact one_name h.2 h1 h2 e

theorem kvOf_in (ds : List Df) : ∀ j, j ≤ ds.length → ∀ d ∈ ds.take j, ∃ d' ∈ ds, d'.name = d.name ∧ gk (kvOf (ds.take j)).1 (kvOf (ds.take j)).2 d.name = coll callF d'.body := by
  intro j
  induction j with
  | zero => intro _ d hd; simp at hd
  | succ j ih =>
    intro h d hd
    have hj : j < ds.length := by omega
    rw [kvOf_take hj, gk_upd (kvOf_ok ds j (by omega)).1]
    by_cases e : d.name = ds[j].name
    · rw [if_pos e]
      exact ⟨ds[j], List.getElem_mem _, e.symm, rfl⟩
    · rw [if_neg e]
      rw [List.take_succ_eq_append_getElem hj] at hd
      rcases List.mem_append.1 hd with hd | hd
      · exact ih (by omega) d hd
      · obtain rfl := List.mem_singleton.1 hd
        exact absurd rfl e
theorem gP_def {p : Pg} (hn : p.defs.Pairwise (fun a b => a.name ≠ b.name)) {d : Df} (h : d ∈ p.defs) : gP p d.name = coll callF d.body := by
  obtain ⟨d', h1, h2, h3⟩ := kvOf_in p.defs p.defs.length (Nat.le_refl _) d (by rw [List.take_length]; exact h)
  rw [List.take_length] at h3
  obtain rfl := one_name hn h1 h h2
  exact h3
theorem gP_some {p : Pg} {s x : ByteArray} (h : x ∈ gP p s) : ∃ d ∈ p.defs, d.name = s := by
  obtain ⟨_, hg⟩ := kvOf_ok p.defs p.defs.length (Nat.le_refl _)
  rw [List.take_length] at hg
  rcases hg s with e | ⟨d, hd, e, _⟩
  · unfold gP at h; rw [e] at h; cases h
  · exact ⟨d, hd, e⟩

/-- reached from the main process -/
def Rm (p : Pg) (s : ByteArray) : Prop := Rc (gP p) (coll callF p.main) s
theorem mem_reN {p : Pg} {s : ByteArray} : s ∈ reN p ↔ (∃ d ∈ p.defs, d.name = s) ∧ Rm p s := by
  unfold reN
  simp only [List.mem_map, List.mem_filter, pb_iff]
  constructor
  · rintro ⟨d, ⟨h1, h2⟩, rfl⟩; exact ⟨⟨d, h1, rfl⟩, h2⟩
  · rintro ⟨⟨d, h1, rfl⟩, h2⟩; exact ⟨d, ⟨h1, h2⟩, rfl⟩
theorem mem_prun {p : Pg} {d : Df} : d ∈ (prunP p).defs ↔ d ∈ p.defs ∧ Rm p d.name := by
  unfold prunP
  simp only [List.mem_filter, pb_iff, mem_reN]
  exact ⟨fun ⟨h1, h2⟩ => ⟨h1, h2.2⟩, fun ⟨h1, h2⟩ => ⟨h1, ⟨d, h1, rfl⟩, h2⟩⟩

theorem fst_filter {f : Df → Bool} {s : ByteArray} : ∀ {ds : List Df}, (∀ d ∈ ds, d.name = s → f d = true) → fstD (ds.filter f) s = fstD ds s
  | [], _ => rfl
  | d :: r, h => by
    have ih := fst_filter (f := f) (s := s) (ds := r) fun x hx => h x (List.mem_cons_of_mem _ hx)
    unfold fstD at ih ⊢
    by_cases e : d.name = s
    · rw [List.filter_cons, if_pos (h d List.mem_cons_self e)]
      simp [List.find?_cons, e]
    · rw [List.filter_cons]
      split
      · simp only [List.find?_cons, e, decide_false]; exact ih
      · simp only [List.find?_cons, e, decide_false]; exact ih

theorem N06_prun {p : Pg} : ∀ (x : Pr) (sc : List ByteArray) (g : Bool), (∀ s ∈ coll callF x, Rm p s) → N06 p x sc g → N06 (prunP p) x sc g := by
  intro x
  induction x using Pr.ind with
  | _ x ih =>
  intro sc g hc h
  obtain ⟨k, ch, v, ls, ar, t, ks⟩ := x
  have ih : ∀ y ∈ ks, ∀ (sc : List ByteArray) (g : Bool), (∀ s ∈ coll callF y, Rm p s) → N06 p y sc g → N06 (prunP p) y sc g := ih
  simp only [N06, N06s_iff] at h ⊢
  simp only [coll, List.mem_append] at hc
  have hks : ∀ l : List Pr, (∀ y ∈ l, y ∈ ks) → (∀ s ∈ colls callF l, Rm p s) → ∀ y ∈ l, ∀ s ∈ coll callF y, Rm p s := by
    intro l
    induction l with
    | nil => intro _ _ y hy; cases hy
    | cons z l ihl =>
      intro h1 h2 y hy s hs
      simp only [colls, List.mem_append] at h2
      rcases List.mem_cons.1 hy with rfl | hy
      · exact h2 s (.inl hs)
      · exact ihl (fun y hy => h1 y (List.mem_cons_of_mem _ hy)) (fun s hs => h2 s (.inr hs)) y hy s hs
  refine ⟨h.1, h.2.1, h.2.2.1, fun h8 => ?_, fun y hy => ih y hy _ _ (hks ks (fun _ h => h) (fun s hs => hc s (.inr hs)) y hy) (h.2.2.2.2 y hy)⟩
  obtain ⟨⟨d, hd, hl⟩, hg⟩ := h.2.2.2.1 h8
  refine ⟨⟨d, ?_, hl⟩, hg⟩
  have hr : Rm p ch := hc ch (.inl (by unfold callF; rw [if_pos h8]; simp))
  rw [← hd]
  refine fst_filter fun d' hd' e => pb_iff.2 (mem_reN.2 ⟨⟨d', hd', rfl⟩, by rw [e]; exact hr⟩)

/-- the pruned program has no fault -/
theorem RP.prun {p : Pg} (h : RP p) : RP (prunP p) := by
  obtain ⟨h1, h2, h3, h4⟩ := h
  obtain ⟨e1, e2, e3, e4⟩ := progE_iff.1 h1
  obtain ⟨n1, n2⟩ := D06_iff.1 h2
  refine ⟨progE_iff.2 ⟨?_, firstE_iff.2 fun d hd => firstE_iff.1 e2 d (mem_prun.1 hd).1, e3, fun d hd => e4 d (mem_prun.1 hd).1⟩, D06_iff.2 ⟨List.Pairwise.filter _ n1, fun d hd => n2 d (mem_prun.1 hd).1⟩, fun d hd => ?_, N06_prun _ _ _ (fun s hs => .base hs) h4⟩
  · have := dws_filter (fun d => pb (d.name ∈ reN p)) p.defs
    unfold total at e1 ⊢
    show ¬ 10000 < wgt p.main + dws (p.defs.filter _)
    omega
  · obtain ⟨d1, d2⟩ := mem_prun.1 hd
    exact N06_prun _ _ _ (fun s hs => .step d2 (by rw [gP_def n1 d1]; exact hs)) (h3 d d1)

/-- all that is left is reached -/
theorem Rm.prun {p : Pg} (h : RP p) {s : ByteArray} (hs : Rm p s) : Rm (prunP p) s := by
  have n1 := (D06_iff.1 h.2.1).1
  have n2 := (D06_iff.1 h.prun.2.1).1
  unfold Rm at hs
  induction hs with
  | base h => exact .base h
  | @step x y hx hy ih =>
    refine .step ih ?_
    obtain ⟨d, hd, rfl⟩ := gP_some hy
    rw [gP_def n2 (mem_prun.2 ⟨hd, hx⟩)]
    rwa [gP_def n1 hd] at hy
theorem unN_prun {p : Pg} (h : RP p) : unN (prunP p) = [] := by
  unfold unN
  rw [List.map_eq_nil_iff, List.filter_eq_nil_iff]
  intro d hd
  have : Rm (prunP p) d.name := Rm.prun h (mem_prun.1 hd).2
  have this : Rc (gP (prunP p)) (coll callF (prunP p).main) d.name := this
  rw [pb_iff.2 this]; simp
theorem prun_prun {p : Pg} (h : RP p) : prunP (prunP p) = prunP p := by
  have : ∀ d ∈ (prunP p).defs, pb (d.name ∈ reN (prunP p)) = true := fun d hd => pb_iff.2 (mem_reN.2 ⟨⟨d, hd, rfl⟩, Rm.prun h (mem_prun.1 hd).2⟩)
  unfold prunP at this ⊢
  congr 1
  rw [List.filter_eq_self]
  exact this
theorem len_prun {p : Pg} : (prunP p).defs.length = (reN p).length := by
  unfold prunP
  have : p.defs.filter (fun d => pb (d.name ∈ reN p)) = p.defs.filter fun d => pb (Rc (gP p) (coll callF p.main) d.name) := by
    refine List.filter_congr fun d hd => pb_congr ?_
    rw [mem_reN]
    exact ⟨fun h => h.2, fun h => ⟨⟨d, hd, rfl⟩, h⟩⟩
  show (p.defs.filter _).length = _
  rw [this]
  unfold reN
  rw [List.length_map]
theorem len_both {p : Pg} : (reN p).length + (unN p).length = p.defs.length := by
  unfold reN unN
  rw [List.length_map, List.length_map]
  have key : ∀ (f : Df → Bool) (l : List Df), (l.filter f).length + (l.filter fun d => !f d).length = l.length := by
    intro f l
    induction l with
    | nil => rfl
    | cons d r ih =>
      rw [List.filter_cons, List.filter_cons]
      cases f d <;> simp <;> omega
  exact key _ _
end Go.Proofs.Ytbfjpjllaibooaa.Tx
