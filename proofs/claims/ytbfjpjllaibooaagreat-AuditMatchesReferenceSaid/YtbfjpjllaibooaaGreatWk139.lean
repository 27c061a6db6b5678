/- A pruned program has no fault. -/
import Derived.Test.YtbfjpjllaibooaaGreatWk138
import Derived.Test.YtbfjpjllaibooaaGreatWk135
set_option linter.all false
namespace Go.Proofs.YtbfjpjllaibooaaGreat.Tx
open Go.Lf Go.Lf.S Go.Lf.Duo
set_option maxRecDepth 100000

theorem firstE_iff : ∀ {l : List Df}, firstE l = 0 ↔ ∀ d ∈ l, prightE d.body = 0
  | [] => by simp [firstE]
  | d :: r => by
    rw [firstE]
    by_cases h : prightE d.body = 0
    · rw [if_pos h, firstE_iff]; simp [h]
    · rw [if_neg h]; simp [h]
theorem progE_iff {p : Pg} : progE p = 0 ↔ ¬ 10000 < total p ∧ firstE p.defs = 0 ∧ prightE p.main = 0 ∧ ∀ d ∈ p.defs, dfP d := by
  unfold progE
  by_cases h1 : 10000 < total p
  · rw [if_pos h1]; simp [h1]
  · rw [if_neg h1]
    by_cases h2 : firstE p.defs ≠ 0
    · rw [if_pos h2]; simp [h2]
    · rw [if_neg h2]
      by_cases h3 : prightE p.main ≠ 0
      · rw [if_pos h3]; simp [h3]
      · rw [if_neg h3]
        have h2 : firstE p.defs = 0 := Classical.not_not.1 h2
        have h3 : prightE p.main = 0 := Classical.not_not.1 h3
        by_cases h4 : ∀ d ∈ p.defs, dfP d
        · rw [pb_iff.2 h4]; simp [h1, h2, h3]; exact h4
        · rw [pb_false.2 h4]; simp only [Bool.false_eq_true, if_false]
          exact ⟨fun h => by omega, fun h => absurd h.2.2.2 h4⟩

theorem D06_iff {ds : List Df} : (∀ j, D06 ds j) ↔ ds.Pairwise (fun a b => a.name ≠ b.name) ∧ ∀ d ∈ ds, (prN06 d).Nodup := by
  constructor
  · intro h
    refine ⟨?_, fun d hd => ?_⟩
    · rw [List.pairwise_iff_getElem]
      intro a b ha hb hab
      exact (h b ds[b] (List.getElem?_eq_getElem hb)).1 a ds[a] hab (List.getElem?_eq_getElem ha)
    · obtain ⟨j, hj⟩ := List.getElem?_of_mem hd
      exact (h j d hj).2
  · rintro ⟨h1, h2⟩ j d hd
    refine ⟨fun q d' hq hd' => ?_, h2 d (List.mem_of_getElem? hd)⟩
    rw [List.pairwise_iff_getElem] at h1
    obtain ⟨a1, a2⟩ := List.getElem?_eq_some_iff.1 hd
    obtain ⟨b1, b2⟩ := List.getElem?_eq_some_iff.1 hd'
    have := h1 q j b1 a1 hq
    rwa [a2, b2] at this
theorem one_name : ∀ {ds : List Df}, ds.Pairwise (fun a b => a.name ≠ b.name) → ∀ {d d' : Df}, d ∈ ds → d' ∈ ds → d.name = d'.name → d = d'
  | x :: r, h, d, d', hd, hd', e => by
    rw [List.pairwise_cons] at h
    rcases List.mem_cons.1 hd with h1 | h1
    · rcases List.mem_cons.1 hd' with h2 | h2
      · rw [h1, h2]
      · exact absurd (h1 ▸ e) (h.1 d' h2)
    · rcases List.mem_cons.1 hd' with h2 | h2
      · exact absurd (h2 ▸ e.symm) (h.1 d h1)
      · exact one_name h.2 h1 h2 e

theorem kvOf_in (ds : List Df) : ∀ j, j ≤ ds.length → ∀ d ∈ ds.take j, ∃ d' ∈ ds, d'.name = d.name ∧ gk (kvOf (ds.take j)).1 (kvOf (ds.take j)).2 d.name = coll callF d'.body := by
  intro j
  induction j with
  | zero => intro _ d hd; simp at hd
  | succ j ih =>
    intro h d hd
    have hj : j < ds.length := by omega
    rw [kvOf_take hj, gk_upd (kvOf_ok ds j (by omega)).1]
    by_cases e : d.name = ds[j].name
    · rw [if_pos e]
      exact ⟨ds[j], List.getElem_mem _, e.symm, rfl⟩
    · rw [if_neg e]
      rw [List.take_succ_eq_append_getElem hj] at hd
      rcases List.mem_append.1 hd with hd | hd
      · exact ih (by omega) d hd
      · obtain rfl := List.mem_singleton.1 hd
        exact absurd rfl e
theorem gP_def {p : Pg} (hn : p.defs.Pairwise (fun a b => a.name ≠ b.name)) {d : Df} (h : d ∈ p.defs) : gP p d.name = coll callF d.body := by
  obtain ⟨d', h1, h2, h3⟩ := kvOf_in p.defs p.defs.length (Nat.le_refl _) d (by rw [List.take_length]; exact h)
  rw [List.take_length] at h3
  obtain rfl := one_name hn h1 h h2
  exact h3
theorem gP_some {p : Pg} {s x : ByteArray} (h : x ∈ gP p s) : ∃ d ∈ p.defs, d.name = s := by
  obtain ⟨_, hg⟩ := kvOf_ok p.defs p.defs.length (Nat.le_refl _)
  rw [List.take_length] at hg
  rcases hg s with e | ⟨d, hd, e, _⟩
  · unfold gP at h; rw [e] at h; cases h
  · exact ⟨d, hd, e⟩

/-- reached from the main process -/
def Rm (p : Pg) (s : ByteArray) : Prop := Rc (gP p) (coll callF p.main) s
theorem mem_reN {p : Pg} {s : ByteArray} : s ∈ reN p ↔ (∃ d ∈ p.defs, d.name = s) ∧ Rm p s := by
  unfold reN
  simp only [List.mem_map, List.mem_filter, pb_iff]
  constructor
  · rintro ⟨d, ⟨h1, h2⟩, rfl⟩; exact ⟨⟨d, h1, rfl⟩, h2⟩
  · rintro ⟨⟨d, h1, rfl⟩, h2⟩; exact ⟨d, ⟨h1, h2⟩, rfl⟩
theorem mem_prun {p : Pg} {d : Df} : d ∈ (prunP p).defs ↔ d ∈ p.defs ∧ Rm p d.name := by
  unfold prunP
  simp only [List.mem_filter, pb_iff, mem_reN]
  exact ⟨fun ⟨h1, h2⟩ => ⟨h1, h2.2⟩, fun ⟨h1, h2⟩ => ⟨h1, ⟨d, h1, rfl⟩, h2⟩⟩

end Go.Proofs.YtbfjpjllaibooaaGreat.Tx
