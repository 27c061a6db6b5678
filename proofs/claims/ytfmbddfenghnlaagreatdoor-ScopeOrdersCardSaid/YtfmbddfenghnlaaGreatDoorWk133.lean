/- The package audit: Reached, Unused, Loops, exactly. -/
import Derived.Test.YtfmbddfenghnlaaGreatDoorWk132
set_option linter.all false
namespace Go.Proofs.YtfmbddfenghnlaaGreatDoor.Tx
open Go.Lf Go.Lf.S Go.Lf.Duo
set_option maxRecDepth 100000

structure PB (p : Pg) : Prop where
  dl : p.defs.length ≤ 1000000
  body : ∀ d ∈ p.defs, d.body.sz ≤ 1000000
  main : p.main.sz ≤ 1000000

theorem sb_bodyA (d : Df) : sb 2 12 d.enc = d.body.enc := by
  obtain ⟨nm, ps, ⟨k, ch, v, ls, ar, t, ks⟩⟩ := d
  simp only [Df.enc, Pr.enc_mk]; rfl
theorem sb_mainA (p : Pg) : sb 1 12 p.enc = p.main.enc := by
  obtain ⟨ds, ⟨k, ch, v, ls, ar, t, ks⟩⟩ := p
  simp only [Pg.enc, Pr.enc_mk]; rfl
theorem c0_pg (p : Pg) : c 0 p.enc = .sl (p.defs.map Df.enc) := rfl
theorem c0_df (d : Df) : c 0 d.enc = .str d.name := rfl

/-- who calls whom -/
def kvOf (ds : List Df) : List ByteArray × List (List ByteArray) := ds.foldl (fun kv d => updC kv.1 kv.2 d.name (coll callF d.body)) ([], [])
theorem kvOf_take {ds : List Df} {j : Nat} (h : j < ds.length) : kvOf (ds.take (j + 1)) = updC (kvOf (ds.take j)).1 (kvOf (ds.take j)).2 ds[j].name (coll callF ds[j].body) := by
  unfold kvOf
  rw [List.take_succ_eq_append_getElem h, List.foldl_append]; rfl
theorem kvOf_ok (ds : List Df) : ∀ j, j ≤ ds.length → (kvOf (ds.take j)).1.length = (kvOf (ds.take j)).2.length ∧ ∀ s, gk (kvOf (ds.take j)).1 (kvOf (ds.take j)).2 s = [] ∨ ∃ d ∈ ds, d.name = s ∧ gk (kvOf (ds.take j)).1 (kvOf (ds.take j)).2 s = coll callF d.body := by
  intro j
  induction j with
  | zero => intro _; exact ⟨rfl, fun s => .inl rfl⟩
  | succ j ih =>
    intro h
    obtain ⟨h1, h2⟩ := ih (by omega)
    rw [kvOf_take (by omega : j < ds.length)]
    refine ⟨updC_len h1, fun s => ?_⟩
    rw [gk_upd h1]
    by_cases e : s = ds[j].name
    · rw [if_pos e]
      exact .inr ⟨ds[j], List.getElem_mem _, e.symm, rfl⟩
    · rw [if_neg e]; exact h2 s
def gP (p : Pg) : ByteArray → List ByteArray := gk (kvOf p.defs).1 (kvOf p.defs).2

/-- the names of the definitions that are reached, that are not, that reach themselves -/
noncomputable def reN (p : Pg) : List ByteArray := (p.defs.filter fun d => pb (Rc (gP p) (coll callF p.main) d.name)).map Df.name
noncomputable def unN (p : Pg) : List ByteArray := (p.defs.filter fun d => !pb (Rc (gP p) (coll callF p.main) d.name)).map Df.name
noncomputable def loN (p : Pg) : List ByteArray := (p.defs.filter fun d => pb (Rc (gP p) (coll callF d.body) d.name)).map Df.name

end Go.Proofs.YtfmbddfenghnlaaGreatDoor.Tx
