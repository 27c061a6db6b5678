/-
  NARROWER THAN 'FOR EVERY INPUT', by the rows' own cells (each row's printed sentence says how): ProctreeShapes: loops, laid · ProctreeMeasures: loops, laid.
  DERIVED. THE GIVEN ROWS OF THIS SEAT. 2 by the template 'for every input the law returns true; each argument reads behind the call as it read before'; 0 by the template 'total and deterministic' (their statements: YtjekkidhbnkiaaaGreatDoorTotals.lean).
  GIVEN WITH THE SEED: the statements are not yours to turn. If you find one false, say at which input.
  Laid BY PROGRAM, IN A SANDBOX (cutbox-rows.mjs): the forced cells as the released guide's own fill.sh prints them over the translation 8d0ff9a6ce08eca3… (all of the seat's roots in one cut). By AI agents, Wed Nov 11 2026. No macro, syntax, notation, axiom, sorry.
-/
import Derived.Test.YtjekkidhbnkiaaaGreatDoorChecked
import GoSem.Claim
import GoSem.ClaimJoined
import GoSem.ClaimMapViews
import Derived.JoinedTies
import Derived.KernelRfl
namespace Go.Proofs.YtjekkidhbnkiaaaGreatDoor
/- THE CELL 'sum', in the pinned program and in every row, IS THE sha256 OF THE DUMP (.gsa) THAT YtjekkidhbnkiaaaGreatDoorProg.lean LOADS. Nothing in Lean hashes anything: it is a label: what it is worth is what the hold of that sum in a sandbox is worth. -/
noncomputable def Tryz.pinned : Pinned := { name := "ytjekkidhbnkiaaagreatdoor", sum := "8d0ff9a6ce08eca337dce2d443d3eed94a1d498ac8834510e95d57de6b186a2c", checked := Tryz.checked }
namespace Rows
def none {H : Type} : Left H := { results := [], args := [] }

/- WHAT THE LISTED PACKAGE-LEVEL VARIABLES READ AS WHEN THE CALL BEGINS. Each datum BY PROGRAM (the guide's laid-datum.mjs) off the statement by which the dump's own 'gosem.cut.vars' lays the variable. In a bare row this is a premise. The card (YtjekkidhbnkiaaaGreatDoorCards.lean) ties it to the program's text. -/
def laid_duologue_lex_keywords {H : Type} : DataW H := .agg [.lit (.string [100, 101, 102]), .lit (.string [109, 97, 105, 110]), .lit (.string [115, 116, 111, 112]), .lit (.string [110, 101, 119]), .lit (.string [105, 110, 116]), .lit (.string [98, 111, 111, 108]), .lit (.string [101, 110, 100]), .lit (.string [114, 101, 99]), .lit (.string [116, 114, 117, 101]), .lit (.string [102, 97, 108, 115, 101])]

/-- 'duologuelaw03.ProctreeShapes': WHATEVER THE INPUT: true; the input reads as it did. -/
def proctreeShapesSpec : ChangeSpec := { name := "proctreeShapes", fn := fun _ => fun
  | [d1, d2] => { results := [.lit (.bool true)], args := [d1, d2] }
  | _ => none }
def proctreeShapesRow : OpenClaim := { program := "ytjekkidhbnkiaaagreatdoor", sum := "8d0ff9a6ce08eca337dce2d443d3eed94a1d498ac8834510e95d57de6b186a2c", func := "duologue/duologuelaw03.ProctreeShapes", spec := "proctreeShapes", unfollowed := true, recurses := true, named := ["duologue/lex.keywords"], loops := true, apart := false, laid := [("duologue/lex.keywords", laid_duologue_lex_keywords)] }
def ProctreeShapesSaid : Prop := proctreeShapesRow.holds Tryz.pinned (OpenSpec.ofChange proctreeShapesSpec)

/-- ITS FALSE NEIGHBOUR: 'it returns false'. Refute it at one input. -/
def proctreeShapesWrong : ChangeSpec := { name := "proctreeShapes", fn := fun _ => fun
  | [d1, d2] => { results := [.lit (.bool false)], args := [d1, d2] }
  | _ => none }
def ProctreeShapesWrongFalsely : Prop := proctreeShapesRow.holds Tryz.pinned (OpenSpec.ofChange proctreeShapesWrong)

/-- 'duologuelaw03.ProctreeMeasures': WHATEVER THE INPUT: true; the input reads as it did. -/
def proctreeMeasuresSpec : ChangeSpec := { name := "proctreeMeasures", fn := fun _ => fun
  | [d1, d2, d3, d4] => { results := [.lit (.bool true)], args := [d1, d2, d3, d4] }
  | _ => none }
def proctreeMeasuresRow : OpenClaim := { program := "ytjekkidhbnkiaaagreatdoor", sum := "8d0ff9a6ce08eca337dce2d443d3eed94a1d498ac8834510e95d57de6b186a2c", func := "duologue/duologuelaw03.ProctreeMeasures", spec := "proctreeMeasures", unfollowed := true, recurses := true, named := ["duologue/lex.keywords"], loops := true, apart := false, laid := [("duologue/lex.keywords", laid_duologue_lex_keywords)] }
def ProctreeMeasuresSaid : Prop := proctreeMeasuresRow.holds Tryz.pinned (OpenSpec.ofChange proctreeMeasuresSpec)

/-- ITS FALSE NEIGHBOUR: 'it returns false'. Refute it at one input. -/
def proctreeMeasuresWrong : ChangeSpec := { name := "proctreeMeasures", fn := fun _ => fun
  | [d1, d2, d3, d4] => { results := [.lit (.bool false)], args := [d1, d2, d3, d4] }
  | _ => none }
def ProctreeMeasuresWrongFalsely : Prop := proctreeMeasuresRow.holds Tryz.pinned (OpenSpec.ofChange proctreeMeasuresWrong)

/- THE SECOND FORM. 'bulk': how many values and letters a reading holds, each counted each time it is reached (what is shared counts as often as it is met; a slice's spare places count too). A statement '..UptoSaid' is the law's where the arguments, and the package variables that the reading takes, are together of bulk at most 1048576: NARROWER than '..Said'. Prove '..Said' where nothing that the law and all that it calls make is longer than what came in: it says more and counts as full. Else prove '..UptoSaid'. A law counts once. -/
mutual
def uptoBulk {H : Type} : DataW H → Nat
  | .lit (.string bytes) => bytes.length + 1
  | .lit _ => 1
  | .nil => 1
  | .ptr d => uptoBulk d + 1
  | .slice elems spare => uptoBulkAll elems + uptoBulkAll spare + 1
  | .agg parts => uptoBulkAll parts + 1
  | .iface _ d => uptoBulk d + 1
  | .map entries => uptoBulkEntries entries + 1
  | .held _ => 1
def uptoBulkAll {H : Type} : List (DataW H) → Nat
  | [] => 0
  | d :: r => uptoBulk d + uptoBulkAll r
def uptoBulkEntries {H : Type} : List (Lit × DataW H) → Nat
  | [] => 0
  | x :: r => uptoBulkEntry x + uptoBulkEntries r
def uptoBulkEntry {H : Type} : Lit × DataW H → Nat
  | (.string bytes, d) => bytes.length + uptoBulk d + 1
  | (_, d) => uptoBulk d + 1
 end
def uptoSmall : (H : Type) → List (DataW H) → Bool := fun _ ds => decide (uptoBulkAll ds ≤ 1048576)
def OpenSpec.upto (s : _root_.Go.ChangeSpec) : _root_.Go.OpenSpec := { _root_.Go.OpenSpec.ofChange s with cond := some uptoSmall }

/-- 'duologuelaw03.ProctreeShapes', WHERE WHAT IT READS IS OF BULK AT MOST 1048576: true; the input reads as it did. -/
def proctreeShapesUptoRow : OpenClaim := { program := "ytjekkidhbnkiaaagreatdoor", sum := "8d0ff9a6ce08eca337dce2d443d3eed94a1d498ac8834510e95d57de6b186a2c", func := "duologue/duologuelaw03.ProctreeShapes", spec := "proctreeShapes", unfollowed := true, recurses := true, named := ["duologue/lex.keywords"], loops := true, apart := false, laid := [("duologue/lex.keywords", laid_duologue_lex_keywords)], narrowed := true }
def ProctreeShapesUptoSaid : Prop := proctreeShapesUptoRow.holds Tryz.pinned (OpenSpec.upto proctreeShapesSpec)

/-- 'duologuelaw03.ProctreeMeasures', WHERE WHAT IT READS IS OF BULK AT MOST 1048576: true; the input reads as it did. -/
def proctreeMeasuresUptoRow : OpenClaim := { program := "ytjekkidhbnkiaaagreatdoor", sum := "8d0ff9a6ce08eca337dce2d443d3eed94a1d498ac8834510e95d57de6b186a2c", func := "duologue/duologuelaw03.ProctreeMeasures", spec := "proctreeMeasures", unfollowed := true, recurses := true, named := ["duologue/lex.keywords"], loops := true, apart := false, laid := [("duologue/lex.keywords", laid_duologue_lex_keywords)], narrowed := true }
def ProctreeMeasuresUptoSaid : Prop := proctreeMeasuresUptoRow.holds Tryz.pinned (OpenSpec.upto proctreeMeasuresSpec)

end Rows
end Go.Proofs.YtjekkidhbnkiaaaGreatDoor
