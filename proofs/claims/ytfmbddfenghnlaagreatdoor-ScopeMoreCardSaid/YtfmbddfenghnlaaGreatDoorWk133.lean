/- The package audit: Reached, Unused, Loops, exactly. -/
import Derived.Test.YtfmbddfenghnlaaGreatDoorWk132
set_option linter.all false
namespace Go.Proofs.YtfmbddfenghnlaaGreatDoor.Tx
open Go.Lf Go.Lf.S Go.Lf.Duo
set_option maxRecDepth 100000

theorem sb_bodyA (d : Df) : sb 2 12 d.enc = d.body.enc := by
  obtain ⟨nm, ps, ⟨k, ch, v, ls, ar, t, ks⟩⟩ := d
  simp only [Df.enc, Pr.enc_mk]; rfl
theorem sb_mainA (p : Pg) : sb 1 12 p.enc = p.main.enc := by
  obtain ⟨ds, ⟨k, ch, v, ls, ar, t, ks⟩⟩ := p
  simp only [Pg.enc, Pr.enc_mk]; rfl
end Go.Proofs.YtfmbddfenghnlaaGreatDoor.Tx
