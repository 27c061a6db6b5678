/-
  NARROWER THAN 'FOR EVERY INPUT', by the rows' own cells (each row's printed sentence says how): AuditTwice: loops · AuditTotals: loops.
  DERIVED. THE GIVEN ROWS OF THIS SEAT. 2 by the template 'for every input the law returns true; each argument reads behind the call as it read before'; 0 by the template 'total and deterministic' (their statements: YtbfjpjllaibooaaTotals.lean).
  GIVEN WITH THE SEED: the statements are not yours to turn. If you find one false, say at which input.
  Laid BY PROGRAM, IN A SANDBOX (cutbox-rows.mjs): the forced cells as the released guide's own fill.sh prints them over the translation fb02f6c71da861ac… (all of the seat's roots in one cut). By AI agents, Wed Nov 11 2026. No macro, syntax, notation, axiom, sorry.
-/
import Derived.Test.YtbfjpjllaibooaaChecked
import GoSem.Claim
import GoSem.ClaimJoined
import GoSem.ClaimMapViews
import Derived.JoinedTies
import Derived.KernelRfl
namespace Go.Proofs.Ytbfjpjllaibooaa
/- THE CELL 'sum', in the pinned program and in every row, IS THE sha256 OF THE DUMP (.gsa) THAT YtbfjpjllaibooaaProg.lean LOADS. Nothing in Lean hashes anything: it is a label: what it is worth is what the hold of that sum in a sandbox is worth. -/
noncomputable def Try.pinned : Pinned := { name := "ytbfjpjllaibooaa", sum := "fb02f6c71da861ac8c9e87f18575c461871a94c8d47988473336c0a97ae62575", checked := Try.checked }
namespace Rows
def none {H : Type} : Left H := { results := [], args := [] }

/-- 'duologuelaw27.AuditTwice': WHATEVER THE INPUT: true; the input reads as it did. -/
def auditTwiceSpec : ChangeSpec := { name := "auditTwice", fn := fun _ => fun
  | [d] => { results := [.lit (.bool true)], args := [d] }
  | _ => none }
def auditTwiceRow : OpenClaim := { program := "ytbfjpjllaibooaa", sum := "fb02f6c71da861ac8c9e87f18575c461871a94c8d47988473336c0a97ae62575", func := "duologue/duologuelaw27.AuditTwice", spec := "auditTwice", unfollowed := true, recurses := true, loops := true, apart := false }
def AuditTwiceSaid : Prop := auditTwiceRow.holds Try.pinned (OpenSpec.ofChange auditTwiceSpec)

/-- ITS FALSE NEIGHBOUR: 'it returns false'. Refute it at one input. -/
def auditTwiceWrong : ChangeSpec := { name := "auditTwice", fn := fun _ => fun
  | [d] => { results := [.lit (.bool false)], args := [d] }
  | _ => none }
def AuditTwiceWrongFalsely : Prop := auditTwiceRow.holds Try.pinned (OpenSpec.ofChange auditTwiceWrong)

/-- 'duologuelaw27.AuditTotals': WHATEVER THE INPUT: true; the input reads as it did. -/
def auditTotalsSpec : ChangeSpec := { name := "auditTotals", fn := fun _ => fun
  | [d1, d2] => { results := [.lit (.bool true)], args := [d1, d2] }
  | _ => none }
def auditTotalsRow : OpenClaim := { program := "ytbfjpjllaibooaa", sum := "fb02f6c71da861ac8c9e87f18575c461871a94c8d47988473336c0a97ae62575", func := "duologue/duologuelaw27.AuditTotals", spec := "auditTotals", unfollowed := true, recurses := true, loops := true, apart := false }
def AuditTotalsSaid : Prop := auditTotalsRow.holds Try.pinned (OpenSpec.ofChange auditTotalsSpec)

/-- ITS FALSE NEIGHBOUR: 'it returns false'. Refute it at one input. -/
def auditTotalsWrong : ChangeSpec := { name := "auditTotals", fn := fun _ => fun
  | [d1, d2] => { results := [.lit (.bool false)], args := [d1, d2] }
  | _ => none }
def AuditTotalsWrongFalsely : Prop := auditTotalsRow.holds Try.pinned (OpenSpec.ofChange auditTotalsWrong)

/- THE SECOND FORM. 'bulk': how many values and letters a reading holds, each counted each time it is reached (what is shared counts as often as it is met; a slice's spare places count too). A statement '..UptoSaid' is the law's where the arguments, and the package variables that the reading takes, are together of bulk at most 1048576: NARROWER than '..Said'. Prove '..Said' where nothing that the law and all that it calls make is longer than what came in: it says more and counts as full. Else prove '..UptoSaid'. A law counts once. -/
mutual
def uptoBulk {H : Type} : DataW H → Nat
  | .lit (.string bytes) => bytes.length + 1
  | .lit _ => 1
  | .nil => 1
  | .ptr d => uptoBulk d + 1
  | .slice elems spare => uptoBulkAll elems + uptoBulkAll spare + 1
  | .agg parts => uptoBulkAll parts + 1
  | .iface _ d => uptoBulk d + 1
  | .map entries => uptoBulkEntries entries + 1
  | .held _ => 1
def uptoBulkAll {H : Type} : List (DataW H) → Nat
  | [] => 0
  | d :: r => uptoBulk d + uptoBulkAll r
def uptoBulkEntries {H : Type} : List (Lit × DataW H) → Nat
  | [] => 0
  | x :: r => uptoBulkEntry x + uptoBulkEntries r
def uptoBulkEntry {H : Type} : Lit × DataW H → Nat
  | (.string bytes, d) => bytes.length + uptoBulk d + 1
  | (_, d) => uptoBulk d + 1
 end
def uptoSmall : (H : Type) → List (DataW H) → Bool := fun _ ds => decide (uptoBulkAll ds ≤ 1048576)
def OpenSpec.upto (s : _root_.Go.ChangeSpec) : _root_.Go.OpenSpec := { _root_.Go.OpenSpec.ofChange s with cond := some uptoSmall }

/-- 'duologuelaw27.AuditTwice', WHERE WHAT IT READS IS OF BULK AT MOST 1048576: true; the input reads as it did. -/
def auditTwiceUptoRow : OpenClaim := { program := "ytbfjpjllaibooaa", sum := "fb02f6c71da861ac8c9e87f18575c461871a94c8d47988473336c0a97ae62575", func := "duologue/duologuelaw27.AuditTwice", spec := "auditTwice", unfollowed := true, recurses := true, loops := true, apart := false, narrowed := true }
def AuditTwiceUptoSaid : Prop := auditTwiceUptoRow.holds Try.pinned (OpenSpec.upto auditTwiceSpec)

/-- 'duologuelaw27.AuditTotals', WHERE WHAT IT READS IS OF BULK AT MOST 1048576: true; the input reads as it did. -/
def auditTotalsUptoRow : OpenClaim := { program := "ytbfjpjllaibooaa", sum := "fb02f6c71da861ac8c9e87f18575c461871a94c8d47988473336c0a97ae62575", func := "duologue/duologuelaw27.AuditTotals", spec := "auditTotals", unfollowed := true, recurses := true, loops := true, apart := false, narrowed := true }
def AuditTotalsUptoSaid : Prop := auditTotalsUptoRow.holds Try.pinned (OpenSpec.upto auditTotalsSpec)

end Rows
end Go.Proofs.Ytbfjpjllaibooaa
