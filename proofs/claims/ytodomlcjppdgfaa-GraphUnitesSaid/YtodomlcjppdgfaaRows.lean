/-
  NARROWER THAN 'FOR EVERY INPUT', by the rows' own cells (each row's printed sentence says how): GraphMatchesReference: loops · GraphReaches: loops · GraphCounts: loops · GraphUnites: loops · HeadRaises: loops.
  DERIVED. THE GIVEN ROWS OF THIS SEAT. 5 by the template 'for every input the law returns true; each argument reads behind the call as it read before'; 0 by the template 'total and deterministic' (their statements: YtodomlcjppdgfaaTotals.lean).
  GIVEN WITH THE SEED: the statements are not yours to turn. If you find one false, say at which input.
  Laid BY PROGRAM, IN A SANDBOX (cutbox-rows.mjs): the forced cells as the released guide's own fill.sh prints them over the translation e6b5402630fe08ac… (all of the seat's roots in one cut). By AI agents, Wed Nov 11 2026. No macro, syntax, notation, axiom, sorry.
-/
import Derived.Test.YtodomlcjppdgfaaChecked
import GoSem.Claim
import GoSem.ClaimJoined
import GoSem.ClaimMapViews
import Derived.JoinedTies
import Derived.KernelRfl
namespace Go.Proofs.Ytodomlcjppdgfaa
/- THE CELL 'sum', in the pinned program and in every row, IS THE sha256 OF THE DUMP (.gsa) THAT YtodomlcjppdgfaaProg.lean LOADS. Nothing in Lean hashes anything: it is a label: what it is worth is what the hold of that sum in a sandbox is worth. -/
noncomputable def Try.pinned : Pinned := { name := "ytodomlcjppdgfaa", sum := "e6b5402630fe08acda4bacefb06f0fa0207c4ebe43bb04c1ec2633fbb57d4bfe", checked := Try.checked }
namespace Rows
def none {H : Type} : Left H := { results := [], args := [] }

/-- 'duologuelaw07.GraphMatchesReference': WHATEVER THE INPUT: true; the input reads as it did. -/
def graphMatchesReferenceSpec : ChangeSpec := { name := "graphMatchesReference", fn := fun _ => fun
  | [d] => { results := [.lit (.bool true)], args := [d] }
  | _ => none }
def graphMatchesReferenceRow : OpenClaim := { program := "ytodomlcjppdgfaa", sum := "e6b5402630fe08acda4bacefb06f0fa0207c4ebe43bb04c1ec2633fbb57d4bfe", func := "duologue/duologuelaw07.GraphMatchesReference", spec := "graphMatchesReference", inPlace := ["maps.clone"], recurses := true, loops := true, apart := false }
def GraphMatchesReferenceSaid : Prop := graphMatchesReferenceRow.holds Try.pinned (OpenSpec.ofChange graphMatchesReferenceSpec)

/-- ITS FALSE NEIGHBOUR: 'it returns false'. Refute it at one input. -/
def graphMatchesReferenceWrong : ChangeSpec := { name := "graphMatchesReference", fn := fun _ => fun
  | [d] => { results := [.lit (.bool false)], args := [d] }
  | _ => none }
def GraphMatchesReferenceWrongFalsely : Prop := graphMatchesReferenceRow.holds Try.pinned (OpenSpec.ofChange graphMatchesReferenceWrong)

/-- 'duologuelaw07.GraphReaches': WHATEVER THE INPUT: true; the input reads as it did. -/
def graphReachesSpec : ChangeSpec := { name := "graphReaches", fn := fun _ => fun
  | [d1, d2] => { results := [.lit (.bool true)], args := [d1, d2] }
  | _ => none }
def graphReachesRow : OpenClaim := { program := "ytodomlcjppdgfaa", sum := "e6b5402630fe08acda4bacefb06f0fa0207c4ebe43bb04c1ec2633fbb57d4bfe", func := "duologue/duologuelaw07.GraphReaches", spec := "graphReaches", inPlace := ["maps.clone"], recurses := true, loops := true, apart := false }
def GraphReachesSaid : Prop := graphReachesRow.holds Try.pinned (OpenSpec.ofChange graphReachesSpec)

/-- ITS FALSE NEIGHBOUR: 'it returns false'. Refute it at one input. -/
def graphReachesWrong : ChangeSpec := { name := "graphReaches", fn := fun _ => fun
  | [d1, d2] => { results := [.lit (.bool false)], args := [d1, d2] }
  | _ => none }
def GraphReachesWrongFalsely : Prop := graphReachesRow.holds Try.pinned (OpenSpec.ofChange graphReachesWrong)

/-- 'duologuelaw07.GraphCounts': WHATEVER THE INPUT: true; the input reads as it did. -/
def graphCountsSpec : ChangeSpec := { name := "graphCounts", fn := fun _ => fun
  | [d1, d2, d3] => { results := [.lit (.bool true)], args := [d1, d2, d3] }
  | _ => none }
def graphCountsRow : OpenClaim := { program := "ytodomlcjppdgfaa", sum := "e6b5402630fe08acda4bacefb06f0fa0207c4ebe43bb04c1ec2633fbb57d4bfe", func := "duologue/duologuelaw07.GraphCounts", spec := "graphCounts", inPlace := ["maps.clone"], recurses := true, loops := true, apart := false }
def GraphCountsSaid : Prop := graphCountsRow.holds Try.pinned (OpenSpec.ofChange graphCountsSpec)

/-- ITS FALSE NEIGHBOUR: 'it returns false'. Refute it at one input. -/
def graphCountsWrong : ChangeSpec := { name := "graphCounts", fn := fun _ => fun
  | [d1, d2, d3] => { results := [.lit (.bool false)], args := [d1, d2, d3] }
  | _ => none }
def GraphCountsWrongFalsely : Prop := graphCountsRow.holds Try.pinned (OpenSpec.ofChange graphCountsWrong)

/-- 'duologuelaw07.GraphUnites': WHATEVER THE INPUT: true; the input reads as it did. -/
def graphUnitesSpec : ChangeSpec := { name := "graphUnites", fn := fun _ => fun
  | [d1, d2] => { results := [.lit (.bool true)], args := [d1, d2] }
  | _ => none }
def graphUnitesRow : OpenClaim := { program := "ytodomlcjppdgfaa", sum := "e6b5402630fe08acda4bacefb06f0fa0207c4ebe43bb04c1ec2633fbb57d4bfe", func := "duologue/duologuelaw07.GraphUnites", spec := "graphUnites", inPlace := ["maps.clone"], recurses := true, loops := true, apart := false }
def GraphUnitesSaid : Prop := graphUnitesRow.holds Try.pinned (OpenSpec.ofChange graphUnitesSpec)

/-- ITS FALSE NEIGHBOUR: 'it returns false'. Refute it at one input. -/
def graphUnitesWrong : ChangeSpec := { name := "graphUnites", fn := fun _ => fun
  | [d1, d2] => { results := [.lit (.bool false)], args := [d1, d2] }
  | _ => none }
def GraphUnitesWrongFalsely : Prop := graphUnitesRow.holds Try.pinned (OpenSpec.ofChange graphUnitesWrong)

/-- 'duologuelaw08.HeadRaises': WHATEVER THE INPUT: true; the input reads as it did. -/
def headRaisesSpec : ChangeSpec := { name := "headRaises", fn := fun _ => fun
  | [d1, d2, d3] => { results := [.lit (.bool true)], args := [d1, d2, d3] }
  | _ => none }
def headRaisesRow : OpenClaim := { program := "ytodomlcjppdgfaa", sum := "e6b5402630fe08acda4bacefb06f0fa0207c4ebe43bb04c1ec2633fbb57d4bfe", func := "duologue/duologuelaw08.HeadRaises", spec := "headRaises", unfollowed := true, recurses := true, loops := true, apart := false }
def HeadRaisesSaid : Prop := headRaisesRow.holds Try.pinned (OpenSpec.ofChange headRaisesSpec)

/-- ITS FALSE NEIGHBOUR: 'it returns false'. Refute it at one input. -/
def headRaisesWrong : ChangeSpec := { name := "headRaises", fn := fun _ => fun
  | [d1, d2, d3] => { results := [.lit (.bool false)], args := [d1, d2, d3] }
  | _ => none }
def HeadRaisesWrongFalsely : Prop := headRaisesRow.holds Try.pinned (OpenSpec.ofChange headRaisesWrong)

/- THE SECOND FORM. 'bulk': how many values and letters a reading holds, each counted each time it is reached (what is shared counts as often as it is met; a slice's spare places count too). A statement '..UptoSaid' is the law's where the arguments, and the package variables that the reading takes, are together of bulk at most 1048576: NARROWER than '..Said'. Prove '..Said' where nothing that the law and all that it calls make is longer than what came in: it says more and counts as full. Else prove '..UptoSaid'. A law counts once. -/
mutual
def uptoBulk {H : Type} : DataW H → Nat
  | .lit (.string bytes) => bytes.length + 1
  | .lit _ => 1
  | .nil => 1
  | .ptr d => uptoBulk d + 1
  | .slice elems spare => uptoBulkAll elems + uptoBulkAll spare + 1
  | .agg parts => uptoBulkAll parts + 1
  | .iface _ d => uptoBulk d + 1
  | .map entries => uptoBulkEntries entries + 1
  | .held _ => 1
def uptoBulkAll {H : Type} : List (DataW H) → Nat
  | [] => 0
  | d :: r => uptoBulk d + uptoBulkAll r
def uptoBulkEntries {H : Type} : List (Lit × DataW H) → Nat
  | [] => 0
  | x :: r => uptoBulkEntry x + uptoBulkEntries r
def uptoBulkEntry {H : Type} : Lit × DataW H → Nat
  | (.string bytes, d) => bytes.length + uptoBulk d + 1
  | (_, d) => uptoBulk d + 1
 end
def uptoSmall : (H : Type) → List (DataW H) → Bool := fun _ ds => decide (uptoBulkAll ds ≤ 1048576)
def OpenSpec.upto (s : _root_.Go.ChangeSpec) : _root_.Go.OpenSpec := { _root_.Go.OpenSpec.ofChange s with cond := some uptoSmall }

/-- 'duologuelaw07.GraphMatchesReference', WHERE WHAT IT READS IS OF BULK AT MOST 1048576: true; the input reads as it did. -/
def graphMatchesReferenceUptoRow : OpenClaim := { program := "ytodomlcjppdgfaa", sum := "e6b5402630fe08acda4bacefb06f0fa0207c4ebe43bb04c1ec2633fbb57d4bfe", func := "duologue/duologuelaw07.GraphMatchesReference", spec := "graphMatchesReference", inPlace := ["maps.clone"], recurses := true, loops := true, apart := false, narrowed := true }
def GraphMatchesReferenceUptoSaid : Prop := graphMatchesReferenceUptoRow.holds Try.pinned (OpenSpec.upto graphMatchesReferenceSpec)

/-- 'duologuelaw07.GraphReaches', WHERE WHAT IT READS IS OF BULK AT MOST 1048576: true; the input reads as it did. -/
def graphReachesUptoRow : OpenClaim := { program := "ytodomlcjppdgfaa", sum := "e6b5402630fe08acda4bacefb06f0fa0207c4ebe43bb04c1ec2633fbb57d4bfe", func := "duologue/duologuelaw07.GraphReaches", spec := "graphReaches", inPlace := ["maps.clone"], recurses := true, loops := true, apart := false, narrowed := true }
def GraphReachesUptoSaid : Prop := graphReachesUptoRow.holds Try.pinned (OpenSpec.upto graphReachesSpec)

/-- 'duologuelaw07.GraphCounts', WHERE WHAT IT READS IS OF BULK AT MOST 1048576: true; the input reads as it did. -/
def graphCountsUptoRow : OpenClaim := { program := "ytodomlcjppdgfaa", sum := "e6b5402630fe08acda4bacefb06f0fa0207c4ebe43bb04c1ec2633fbb57d4bfe", func := "duologue/duologuelaw07.GraphCounts", spec := "graphCounts", inPlace := ["maps.clone"], recurses := true, loops := true, apart := false, narrowed := true }
def GraphCountsUptoSaid : Prop := graphCountsUptoRow.holds Try.pinned (OpenSpec.upto graphCountsSpec)

/-- 'duologuelaw07.GraphUnites', WHERE WHAT IT READS IS OF BULK AT MOST 1048576: true; the input reads as it did. -/
def graphUnitesUptoRow : OpenClaim := { program := "ytodomlcjppdgfaa", sum := "e6b5402630fe08acda4bacefb06f0fa0207c4ebe43bb04c1ec2633fbb57d4bfe", func := "duologue/duologuelaw07.GraphUnites", spec := "graphUnites", inPlace := ["maps.clone"], recurses := true, loops := true, apart := false, narrowed := true }
def GraphUnitesUptoSaid : Prop := graphUnitesUptoRow.holds Try.pinned (OpenSpec.upto graphUnitesSpec)

/-- 'duologuelaw08.HeadRaises', WHERE WHAT IT READS IS OF BULK AT MOST 1048576: true; the input reads as it did. -/
def headRaisesUptoRow : OpenClaim := { program := "ytodomlcjppdgfaa", sum := "e6b5402630fe08acda4bacefb06f0fa0207c4ebe43bb04c1ec2633fbb57d4bfe", func := "duologue/duologuelaw08.HeadRaises", spec := "headRaises", unfollowed := true, recurses := true, loops := true, apart := false, narrowed := true }
def HeadRaisesUptoSaid : Prop := headRaisesUptoRow.holds Try.pinned (OpenSpec.upto headRaisesSpec)

end Rows
end Go.Proofs.Ytodomlcjppdgfaa
