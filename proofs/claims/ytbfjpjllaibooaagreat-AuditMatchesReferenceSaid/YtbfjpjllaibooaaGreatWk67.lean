/- Contracts: right nodes of processes (2). -/
import Derived.Test.YtbfjpjllaibooaaGreatWk66
set_option linter.all false
namespace Go.Proofs.YtbfjpjllaibooaaGreat.Tx
open Go.Lf Go.Lf.S Go.Lf.Duo
set_option maxRecDepth 100000

def bodP (p : Pr) : Prop :=
  (p.kind = 1 ∧ p.chan = eB ∧ p.var = eB ∧ p.args.length = 0 ∧ p.labels.length = 0 ∧ p.kids.length = 0 ∧ p.t = zeroTy) ∨
  (p.kind = 2 ∧ nameP p.chan ∧ p.var = eB ∧ p.args.length = 1 ∧ p.labels.length = 0 ∧ p.kids.length = 1 ∧ p.t = zeroTy) ∨
  (p.kind = 3 ∧ nameP p.chan ∧ nameP p.var ∧ p.args.length = 0 ∧ p.labels.length = 0 ∧ p.kids.length = 1 ∧ p.t = zeroTy) ∨
  (p.kind = 4 ∧ nameP p.chan ∧ p.var = eB ∧ p.args.length = 0 ∧ p.labels.length = 1 ∧ labP p.labels ∧ p.kids.length = 1 ∧ p.t = zeroTy) ∨
  (p.kind = 5 ∧ nameP p.chan ∧ p.var = eB ∧ p.args.length = 0 ∧ 0 < p.labels.length ∧ labP p.labels ∧ p.kids.length = p.labels.length ∧ p.t = zeroTy) ∨
  (p.kind = 6 ∧ nameP p.chan ∧ nameP p.var ∧ p.chan ≠ p.var ∧ p.args.length = 0 ∧ p.labels.length = 0 ∧ p.kids.length = 1 ∧ rightE p.t = 0 ∧ sesB p.t.kind = true) ∨
  (p.kind = 7 ∧ (∀ x ∈ p.kids, x.kind ≠ 7) ∧ p.chan = eB ∧ p.var = eB ∧ p.args.length = 0 ∧ p.labels.length = 0 ∧ 2 ≤ p.kids.length ∧ p.t = zeroTy) ∨
  (p.kind = 8 ∧ nameP p.chan ∧ p.var = eB ∧ p.labels.length = 0 ∧ p.kids.length = 0 ∧ p.t = zeroTy)
def nodeP (p : Pr) : Prop := (∀ a ∈ p.args, valP a) ∧ bodP p

theorem labP_one {s : ByteArray} : labP [s] ↔ nameP s := by simp [labP]
end Go.Proofs.YtbfjpjllaibooaaGreat.Tx
