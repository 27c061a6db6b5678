/-
  NARROWER THAN 'FOR EVERY INPUT', by the rows' own cells (each row's printed sentence says how): ProctreeFree: loops, laid · ProctreeBinds: loops, laid · ProctreeKeeps: loops, laid · ProctreeSizes: loops, laid.
  DERIVED. THE GIVEN ROWS OF THIS SEAT. 4 by the template 'for every input the law returns true; each argument reads behind the call as it read before'; 0 by the template 'total and deterministic' (their statements: YtjekkidhbnkiaaaDoorTotals.lean).
  GIVEN WITH THE SEED: the statements are not yours to turn. If you find one false, say at which input.
  Laid BY PROGRAM, IN A SANDBOX (cutbox-rows.mjs): the forced cells as the released guide's own fill.sh prints them over the translation 6b98b756267c3290… (all of the seat's roots in one cut). By AI agents, Wed Nov 11 2026. No macro, syntax, notation, axiom, sorry.
-/
import Derived.Test.YtjekkidhbnkiaaaDoorChecked
import GoSem.Claim
import GoSem.ClaimJoined
import GoSem.ClaimMapViews
import Derived.JoinedTies
import Derived.KernelRfl
namespace Go.Proofs.YtjekkidhbnkiaaaDoor
/- THE CELL 'sum', in the pinned program and in every row, IS THE sha256 OF THE DUMP (.gsa) THAT YtjekkidhbnkiaaaDoorProg.lean LOADS. Nothing in Lean hashes anything: it is a label: what it is worth is what the hold of that sum in a sandbox is worth. -/
noncomputable def Tryd.pinned : Pinned := { name := "ytjekkidhbnkiaaadoor", sum := "6b98b756267c32903ab6bead43c219c097af979eadd652b1875c21c8da945327", checked := Tryd.checked }
namespace Rows
def none {H : Type} : Left H := { results := [], args := [] }

/- WHAT THE LISTED PACKAGE-LEVEL VARIABLES READ AS WHEN THE CALL BEGINS. Each datum BY PROGRAM (the guide's laid-datum.mjs) off the statement by which the dump's own 'gosem.cut.vars' lays the variable. In a bare row this is a premise. The card (YtjekkidhbnkiaaaDoorCards.lean) ties it to the program's text. -/
def laid_duologue_lex_keywords {H : Type} : DataW H := .agg [.lit (.string [100, 101, 102]), .lit (.string [109, 97, 105, 110]), .lit (.string [115, 116, 111, 112]), .lit (.string [110, 101, 119]), .lit (.string [105, 110, 116]), .lit (.string [98, 111, 111, 108]), .lit (.string [101, 110, 100]), .lit (.string [114, 101, 99]), .lit (.string [116, 114, 117, 101]), .lit (.string [102, 97, 108, 115, 101])]

/-- 'duologuelaw03.ProctreeFree': WHATEVER THE INPUT: true; the input reads as it did. -/
def proctreeFreeSpec : ChangeSpec := { name := "proctreeFree", fn := fun _ => fun
  | [d] => { results := [.lit (.bool true)], args := [d] }
  | _ => none }
def proctreeFreeRow : OpenClaim := { program := "ytjekkidhbnkiaaadoor", sum := "6b98b756267c32903ab6bead43c219c097af979eadd652b1875c21c8da945327", func := "duologue/duologuelaw03.ProctreeFree", spec := "proctreeFree", unfollowed := true, recurses := true, named := ["duologue/lex.keywords"], loops := true, apart := false, laid := [("duologue/lex.keywords", laid_duologue_lex_keywords)] }
def ProctreeFreeSaid : Prop := proctreeFreeRow.holds Tryd.pinned (OpenSpec.ofChange proctreeFreeSpec)

/-- ITS FALSE NEIGHBOUR: 'it returns false'. Refute it at one input. -/
def proctreeFreeWrong : ChangeSpec := { name := "proctreeFree", fn := fun _ => fun
  | [d] => { results := [.lit (.bool false)], args := [d] }
  | _ => none }
def ProctreeFreeWrongFalsely : Prop := proctreeFreeRow.holds Tryd.pinned (OpenSpec.ofChange proctreeFreeWrong)

/-- 'duologuelaw03.ProctreeBinds': WHATEVER THE INPUT: true; the input reads as it did. -/
def proctreeBindsSpec : ChangeSpec := { name := "proctreeBinds", fn := fun _ => fun
  | [d1, d2, d3, d4] => { results := [.lit (.bool true)], args := [d1, d2, d3, d4] }
  | _ => none }
def proctreeBindsRow : OpenClaim := { program := "ytjekkidhbnkiaaadoor", sum := "6b98b756267c32903ab6bead43c219c097af979eadd652b1875c21c8da945327", func := "duologue/duologuelaw03.ProctreeBinds", spec := "proctreeBinds", unfollowed := true, recurses := true, named := ["duologue/lex.keywords"], loops := true, apart := false, laid := [("duologue/lex.keywords", laid_duologue_lex_keywords)] }
def ProctreeBindsSaid : Prop := proctreeBindsRow.holds Tryd.pinned (OpenSpec.ofChange proctreeBindsSpec)

/-- ITS FALSE NEIGHBOUR: 'it returns false'. Refute it at one input. -/
def proctreeBindsWrong : ChangeSpec := { name := "proctreeBinds", fn := fun _ => fun
  | [d1, d2, d3, d4] => { results := [.lit (.bool false)], args := [d1, d2, d3, d4] }
  | _ => none }
def ProctreeBindsWrongFalsely : Prop := proctreeBindsRow.holds Tryd.pinned (OpenSpec.ofChange proctreeBindsWrong)

/-- 'duologuelaw03.ProctreeKeeps': WHATEVER THE INPUT: true; the input reads as it did. -/
def proctreeKeepsSpec : ChangeSpec := { name := "proctreeKeeps", fn := fun _ => fun
  | [d] => { results := [.lit (.bool true)], args := [d] }
  | _ => none }
def proctreeKeepsRow : OpenClaim := { program := "ytjekkidhbnkiaaadoor", sum := "6b98b756267c32903ab6bead43c219c097af979eadd652b1875c21c8da945327", func := "duologue/duologuelaw03.ProctreeKeeps", spec := "proctreeKeeps", unfollowed := true, recurses := true, named := ["duologue/lex.keywords"], loops := true, apart := false, laid := [("duologue/lex.keywords", laid_duologue_lex_keywords)] }
def ProctreeKeepsSaid : Prop := proctreeKeepsRow.holds Tryd.pinned (OpenSpec.ofChange proctreeKeepsSpec)

/-- ITS FALSE NEIGHBOUR: 'it returns false'. Refute it at one input. -/
def proctreeKeepsWrong : ChangeSpec := { name := "proctreeKeeps", fn := fun _ => fun
  | [d] => { results := [.lit (.bool false)], args := [d] }
  | _ => none }
def ProctreeKeepsWrongFalsely : Prop := proctreeKeepsRow.holds Tryd.pinned (OpenSpec.ofChange proctreeKeepsWrong)

/-- 'duologuelaw03.ProctreeSizes': WHATEVER THE INPUT: true; the input reads as it did. -/
def proctreeSizesSpec : ChangeSpec := { name := "proctreeSizes", fn := fun _ => fun
  | [d1, d2] => { results := [.lit (.bool true)], args := [d1, d2] }
  | _ => none }
def proctreeSizesRow : OpenClaim := { program := "ytjekkidhbnkiaaadoor", sum := "6b98b756267c32903ab6bead43c219c097af979eadd652b1875c21c8da945327", func := "duologue/duologuelaw03.ProctreeSizes", spec := "proctreeSizes", unfollowed := true, recurses := true, named := ["duologue/lex.keywords"], loops := true, apart := false, laid := [("duologue/lex.keywords", laid_duologue_lex_keywords)] }
def ProctreeSizesSaid : Prop := proctreeSizesRow.holds Tryd.pinned (OpenSpec.ofChange proctreeSizesSpec)

/-- ITS FALSE NEIGHBOUR: 'it returns false'. Refute it at one input. -/
def proctreeSizesWrong : ChangeSpec := { name := "proctreeSizes", fn := fun _ => fun
  | [d1, d2] => { results := [.lit (.bool false)], args := [d1, d2] }
  | _ => none }
def ProctreeSizesWrongFalsely : Prop := proctreeSizesRow.holds Tryd.pinned (OpenSpec.ofChange proctreeSizesWrong)

/- THE SECOND FORM. 'bulk': how many values and letters a reading holds, each counted each time it is reached (what is shared counts as often as it is met; a slice's spare places count too). A statement '..UptoSaid' is the law's where the arguments, and the package variables that the reading takes, are together of bulk at most 1048576: NARROWER than '..Said'. Prove '..Said' where nothing that the law and all that it calls make is longer than what came in: it says more and counts as full. Else prove '..UptoSaid'. A law counts once. -/
mutual
def uptoBulk {H : Type} : DataW H → Nat
  | .lit (.string bytes) => bytes.length + 1
  | .lit _ => 1
  | .nil => 1
  | .ptr d => uptoBulk d + 1
  | .slice elems spare => uptoBulkAll elems + uptoBulkAll spare + 1
  | .agg parts => uptoBulkAll parts + 1
  | .iface _ d => uptoBulk d + 1
  | .map entries => uptoBulkEntries entries + 1
  | .held _ => 1
def uptoBulkAll {H : Type} : List (DataW H) → Nat
  | [] => 0
  | d :: r => uptoBulk d + uptoBulkAll r
def uptoBulkEntries {H : Type} : List (Lit × DataW H) → Nat
  | [] => 0
  | x :: r => uptoBulkEntry x + uptoBulkEntries r
def uptoBulkEntry {H : Type} : Lit × DataW H → Nat
  | (.string bytes, d) => bytes.length + uptoBulk d + 1
  | (_, d) => uptoBulk d + 1
 end
def uptoSmall : (H : Type) → List (DataW H) → Bool := fun _ ds => decide (uptoBulkAll ds ≤ 1048576)
def OpenSpec.upto (s : _root_.Go.ChangeSpec) : _root_.Go.OpenSpec := { _root_.Go.OpenSpec.ofChange s with cond := some uptoSmall }

/-- 'duologuelaw03.ProctreeFree', WHERE WHAT IT READS IS OF BULK AT MOST 1048576: true; the input reads as it did. -/
def proctreeFreeUptoRow : OpenClaim := { program := "ytjekkidhbnkiaaadoor", sum := "6b98b756267c32903ab6bead43c219c097af979eadd652b1875c21c8da945327", func := "duologue/duologuelaw03.ProctreeFree", spec := "proctreeFree", unfollowed := true, recurses := true, named := ["duologue/lex.keywords"], loops := true, apart := false, laid := [("duologue/lex.keywords", laid_duologue_lex_keywords)], narrowed := true }
def ProctreeFreeUptoSaid : Prop := proctreeFreeUptoRow.holds Tryd.pinned (OpenSpec.upto proctreeFreeSpec)

/-- 'duologuelaw03.ProctreeBinds', WHERE WHAT IT READS IS OF BULK AT MOST 1048576: true; the input reads as it did. -/
def proctreeBindsUptoRow : OpenClaim := { program := "ytjekkidhbnkiaaadoor", sum := "6b98b756267c32903ab6bead43c219c097af979eadd652b1875c21c8da945327", func := "duologue/duologuelaw03.ProctreeBinds", spec := "proctreeBinds", unfollowed := true, recurses := true, named := ["duologue/lex.keywords"], loops := true, apart := false, laid := [("duologue/lex.keywords", laid_duologue_lex_keywords)], narrowed := true }
def ProctreeBindsUptoSaid : Prop := proctreeBindsUptoRow.holds Tryd.pinned (OpenSpec.upto proctreeBindsSpec)

/-- 'duologuelaw03.ProctreeKeeps', WHERE WHAT IT READS IS OF BULK AT MOST 1048576: true; the input reads as it did. -/
def proctreeKeepsUptoRow : OpenClaim := { program := "ytjekkidhbnkiaaadoor", sum := "6b98b756267c32903ab6bead43c219c097af979eadd652b1875c21c8da945327", func := "duologue/duologuelaw03.ProctreeKeeps", spec := "proctreeKeeps", unfollowed := true, recurses := true, named := ["duologue/lex.keywords"], loops := true, apart := false, laid := [("duologue/lex.keywords", laid_duologue_lex_keywords)], narrowed := true }
def ProctreeKeepsUptoSaid : Prop := proctreeKeepsUptoRow.holds Tryd.pinned (OpenSpec.upto proctreeKeepsSpec)

/-- 'duologuelaw03.ProctreeSizes', WHERE WHAT IT READS IS OF BULK AT MOST 1048576: true; the input reads as it did. -/
def proctreeSizesUptoRow : OpenClaim := { program := "ytjekkidhbnkiaaadoor", sum := "6b98b756267c32903ab6bead43c219c097af979eadd652b1875c21c8da945327", func := "duologue/duologuelaw03.ProctreeSizes", spec := "proctreeSizes", unfollowed := true, recurses := true, named := ["duologue/lex.keywords"], loops := true, apart := false, laid := [("duologue/lex.keywords", laid_duologue_lex_keywords)], narrowed := true }
def ProctreeSizesUptoSaid : Prop := proctreeSizesUptoRow.holds Tryd.pinned (OpenSpec.upto proctreeSizesSpec)

end Rows
end Go.Proofs.YtjekkidhbnkiaaaDoor
