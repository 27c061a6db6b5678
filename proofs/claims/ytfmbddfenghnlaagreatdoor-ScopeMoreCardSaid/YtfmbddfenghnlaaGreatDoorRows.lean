/-
  NARROWER THAN 'FOR EVERY INPUT', by the rows' own cells (each row's printed sentence says how): ScopeChecks: loops, laid · ScopeFinds: loops, laid · ScopeFree: loops, laid · ScopeMore: loops, laid · ScopeOrders: loops, laid.
  DERIVED. THE GIVEN ROWS OF THIS SEAT. 5 by the template 'for every input the law returns true; each argument reads behind the call as it read before'; 0 by the template 'total and deterministic' (their statements: YtfmbddfenghnlaaGreatDoorTotals.lean).
  GIVEN WITH THE SEED: the statements are not yours to turn. If you find one false, say at which input.
  Laid BY PROGRAM, IN A SANDBOX (cutbox-rows.mjs): the forced cells as the released guide's own fill.sh prints them over the translation 0bd81b2c045579ff… (all of the seat's roots in one cut). By AI agents, Wed Nov 11 2026. No macro, syntax, notation, axiom, sorry.
-/
import Derived.Test.YtfmbddfenghnlaaGreatDoorChecked
import GoSem.Claim
import GoSem.ClaimJoined
import GoSem.ClaimMapViews
import Derived.JoinedTies
import Derived.KernelRfl
namespace Go.Proofs.YtfmbddfenghnlaaGreatDoor
/- THE CELL 'sum', in the pinned program and in every row, IS THE sha256 OF THE DUMP (.gsa) THAT YtfmbddfenghnlaaGreatDoorProg.lean LOADS. Nothing in Lean hashes anything: it is a label: what it is worth is what the hold of that sum in a sandbox is worth. -/
noncomputable def Tryz.pinned : Pinned := { name := "ytfmbddfenghnlaagreatdoor", sum := "0bd81b2c045579ff48984702d77c5e104911d5011603558444c626f776e165f5", checked := Tryz.checked }
namespace Rows
def none {H : Type} : Left H := { results := [], args := [] }

/- WHAT THE LISTED PACKAGE-LEVEL VARIABLES READ AS WHEN THE CALL BEGINS. Each datum BY PROGRAM (the guide's laid-datum.mjs) off the statement by which the dump's own 'gosem.cut.vars' lays the variable. In a bare row this is a premise. The card (YtfmbddfenghnlaaGreatDoorCards.lean) ties it to the program's text. -/
def laid_duologue_lex_keywords {H : Type} : DataW H := .agg [.lit (.string [100, 101, 102]), .lit (.string [109, 97, 105, 110]), .lit (.string [115, 116, 111, 112]), .lit (.string [110, 101, 119]), .lit (.string [105, 110, 116]), .lit (.string [98, 111, 111, 108]), .lit (.string [101, 110, 100]), .lit (.string [114, 101, 99]), .lit (.string [116, 114, 117, 101]), .lit (.string [102, 97, 108, 115, 101])]

/-- 'duologuelaw06.ScopeChecks': WHATEVER THE INPUT: true; the input reads as it did. -/
def scopeChecksSpec : ChangeSpec := { name := "scopeChecks", fn := fun _ => fun
  | [d] => { results := [.lit (.bool true)], args := [d] }
  | _ => none }
def scopeChecksRow : OpenClaim := { program := "ytfmbddfenghnlaagreatdoor", sum := "0bd81b2c045579ff48984702d77c5e104911d5011603558444c626f776e165f5", func := "duologue/duologuelaw06.ScopeChecks", spec := "scopeChecks", inPlace := ["maps.clone"], unfollowed := true, recurses := true, named := ["duologue/lex.keywords"], loops := true, apart := false, laid := [("duologue/lex.keywords", laid_duologue_lex_keywords)] }
def ScopeChecksSaid : Prop := scopeChecksRow.holds Tryz.pinned (OpenSpec.ofChange scopeChecksSpec)

/-- ITS FALSE NEIGHBOUR: 'it returns false'. Refute it at one input. -/
def scopeChecksWrong : ChangeSpec := { name := "scopeChecks", fn := fun _ => fun
  | [d] => { results := [.lit (.bool false)], args := [d] }
  | _ => none }
def ScopeChecksWrongFalsely : Prop := scopeChecksRow.holds Tryz.pinned (OpenSpec.ofChange scopeChecksWrong)

/-- 'duologuelaw06.ScopeFinds': WHATEVER THE INPUT: true; the input reads as it did. -/
def scopeFindsSpec : ChangeSpec := { name := "scopeFinds", fn := fun _ => fun
  | [d1, d2, d3] => { results := [.lit (.bool true)], args := [d1, d2, d3] }
  | _ => none }
def scopeFindsRow : OpenClaim := { program := "ytfmbddfenghnlaagreatdoor", sum := "0bd81b2c045579ff48984702d77c5e104911d5011603558444c626f776e165f5", func := "duologue/duologuelaw06.ScopeFinds", spec := "scopeFinds", inPlace := ["maps.clone"], unfollowed := true, recurses := true, named := ["duologue/lex.keywords"], loops := true, apart := false, laid := [("duologue/lex.keywords", laid_duologue_lex_keywords)] }
def ScopeFindsSaid : Prop := scopeFindsRow.holds Tryz.pinned (OpenSpec.ofChange scopeFindsSpec)

/-- ITS FALSE NEIGHBOUR: 'it returns false'. Refute it at one input. -/
def scopeFindsWrong : ChangeSpec := { name := "scopeFinds", fn := fun _ => fun
  | [d1, d2, d3] => { results := [.lit (.bool false)], args := [d1, d2, d3] }
  | _ => none }
def ScopeFindsWrongFalsely : Prop := scopeFindsRow.holds Tryz.pinned (OpenSpec.ofChange scopeFindsWrong)

/-- 'duologuelaw06.ScopeFree': WHATEVER THE INPUT: true; the input reads as it did. -/
def scopeFreeSpec : ChangeSpec := { name := "scopeFree", fn := fun _ => fun
  | [d] => { results := [.lit (.bool true)], args := [d] }
  | _ => none }
def scopeFreeRow : OpenClaim := { program := "ytfmbddfenghnlaagreatdoor", sum := "0bd81b2c045579ff48984702d77c5e104911d5011603558444c626f776e165f5", func := "duologue/duologuelaw06.ScopeFree", spec := "scopeFree", inPlace := ["maps.clone"], unfollowed := true, recurses := true, named := ["duologue/lex.keywords"], loops := true, apart := false, laid := [("duologue/lex.keywords", laid_duologue_lex_keywords)] }
def ScopeFreeSaid : Prop := scopeFreeRow.holds Tryz.pinned (OpenSpec.ofChange scopeFreeSpec)

/-- ITS FALSE NEIGHBOUR: 'it returns false'. Refute it at one input. -/
def scopeFreeWrong : ChangeSpec := { name := "scopeFree", fn := fun _ => fun
  | [d] => { results := [.lit (.bool false)], args := [d] }
  | _ => none }
def ScopeFreeWrongFalsely : Prop := scopeFreeRow.holds Tryz.pinned (OpenSpec.ofChange scopeFreeWrong)

/-- 'duologuelaw06.ScopeMore': WHATEVER THE INPUT: true; the input reads as it did. -/
def scopeMoreSpec : ChangeSpec := { name := "scopeMore", fn := fun _ => fun
  | [d1, d2] => { results := [.lit (.bool true)], args := [d1, d2] }
  | _ => none }
def scopeMoreRow : OpenClaim := { program := "ytfmbddfenghnlaagreatdoor", sum := "0bd81b2c045579ff48984702d77c5e104911d5011603558444c626f776e165f5", func := "duologue/duologuelaw06.ScopeMore", spec := "scopeMore", inPlace := ["maps.clone"], unfollowed := true, recurses := true, named := ["duologue/lex.keywords"], loops := true, apart := false, laid := [("duologue/lex.keywords", laid_duologue_lex_keywords)] }
def ScopeMoreSaid : Prop := scopeMoreRow.holds Tryz.pinned (OpenSpec.ofChange scopeMoreSpec)

/-- ITS FALSE NEIGHBOUR: 'it returns false'. Refute it at one input. -/
def scopeMoreWrong : ChangeSpec := { name := "scopeMore", fn := fun _ => fun
  | [d1, d2] => { results := [.lit (.bool false)], args := [d1, d2] }
  | _ => none }
def ScopeMoreWrongFalsely : Prop := scopeMoreRow.holds Tryz.pinned (OpenSpec.ofChange scopeMoreWrong)

/-- 'duologuelaw06.ScopeOrders': WHATEVER THE INPUT: true; the input reads as it did. -/
def scopeOrdersSpec : ChangeSpec := { name := "scopeOrders", fn := fun _ => fun
  | [d] => { results := [.lit (.bool true)], args := [d] }
  | _ => none }
def scopeOrdersRow : OpenClaim := { program := "ytfmbddfenghnlaagreatdoor", sum := "0bd81b2c045579ff48984702d77c5e104911d5011603558444c626f776e165f5", func := "duologue/duologuelaw06.ScopeOrders", spec := "scopeOrders", inPlace := ["maps.clone"], unfollowed := true, recurses := true, named := ["duologue/lex.keywords"], loops := true, apart := false, laid := [("duologue/lex.keywords", laid_duologue_lex_keywords)] }
def ScopeOrdersSaid : Prop := scopeOrdersRow.holds Tryz.pinned (OpenSpec.ofChange scopeOrdersSpec)

/-- ITS FALSE NEIGHBOUR: 'it returns false'. Refute it at one input. -/
def scopeOrdersWrong : ChangeSpec := { name := "scopeOrders", fn := fun _ => fun
  | [d] => { results := [.lit (.bool false)], args := [d] }
  | _ => none }
def ScopeOrdersWrongFalsely : Prop := scopeOrdersRow.holds Tryz.pinned (OpenSpec.ofChange scopeOrdersWrong)

/- THE SECOND FORM. 'bulk': how many values and letters a reading holds, each counted each time it is reached (what is shared counts as often as it is met; a slice's spare places count too). A statement '..UptoSaid' is the law's where the arguments, and the package variables that the reading takes, are together of bulk at most 1048576: NARROWER than '..Said'. Prove '..Said' where nothing that the law and all that it calls make is longer than what came in: it says more and counts as full. Else prove '..UptoSaid'. A law counts once. -/
mutual
def uptoBulk {H : Type} : DataW H → Nat
  | .lit (.string bytes) => bytes.length + 1
  | .lit _ => 1
  | .nil => 1
  | .ptr d => uptoBulk d + 1
  | .slice elems spare => uptoBulkAll elems + uptoBulkAll spare + 1
  | .agg parts => uptoBulkAll parts + 1
  | .iface _ d => uptoBulk d + 1
  | .map entries => uptoBulkEntries entries + 1
  | .held _ => 1
def uptoBulkAll {H : Type} : List (DataW H) → Nat
  | [] => 0
  | d :: r => uptoBulk d + uptoBulkAll r
def uptoBulkEntries {H : Type} : List (Lit × DataW H) → Nat
  | [] => 0
  | x :: r => uptoBulkEntry x + uptoBulkEntries r
def uptoBulkEntry {H : Type} : Lit × DataW H → Nat
  | (.string bytes, d) => bytes.length + uptoBulk d + 1
  | (_, d) => uptoBulk d + 1
 end
def uptoSmall : (H : Type) → List (DataW H) → Bool := fun _ ds => decide (uptoBulkAll ds ≤ 1048576)
def OpenSpec.upto (s : _root_.Go.ChangeSpec) : _root_.Go.OpenSpec := { _root_.Go.OpenSpec.ofChange s with cond := some uptoSmall }

/-- 'duologuelaw06.ScopeChecks', WHERE WHAT IT READS IS OF BULK AT MOST 1048576: true; the input reads as it did. -/
def scopeChecksUptoRow : OpenClaim := { program := "ytfmbddfenghnlaagreatdoor", sum := "0bd81b2c045579ff48984702d77c5e104911d5011603558444c626f776e165f5", func := "duologue/duologuelaw06.ScopeChecks", spec := "scopeChecks", inPlace := ["maps.clone"], unfollowed := true, recurses := true, named := ["duologue/lex.keywords"], loops := true, apart := false, laid := [("duologue/lex.keywords", laid_duologue_lex_keywords)], narrowed := true }
def ScopeChecksUptoSaid : Prop := scopeChecksUptoRow.holds Tryz.pinned (OpenSpec.upto scopeChecksSpec)

/-- 'duologuelaw06.ScopeFinds', WHERE WHAT IT READS IS OF BULK AT MOST 1048576: true; the input reads as it did. -/
def scopeFindsUptoRow : OpenClaim := { program := "ytfmbddfenghnlaagreatdoor", sum := "0bd81b2c045579ff48984702d77c5e104911d5011603558444c626f776e165f5", func := "duologue/duologuelaw06.ScopeFinds", spec := "scopeFinds", inPlace := ["maps.clone"], unfollowed := true, recurses := true, named := ["duologue/lex.keywords"], loops := true, apart := false, laid := [("duologue/lex.keywords", laid_duologue_lex_keywords)], narrowed := true }
def ScopeFindsUptoSaid : Prop := scopeFindsUptoRow.holds Tryz.pinned (OpenSpec.upto scopeFindsSpec)

/-- 'duologuelaw06.ScopeFree', WHERE WHAT IT READS IS OF BULK AT MOST 1048576: true; the input reads as it did. -/
def scopeFreeUptoRow : OpenClaim := { program := "ytfmbddfenghnlaagreatdoor", sum := "0bd81b2c045579ff48984702d77c5e104911d5011603558444c626f776e165f5", func := "duologue/duologuelaw06.ScopeFree", spec := "scopeFree", inPlace := ["maps.clone"], unfollowed := true, recurses := true, named := ["duologue/lex.keywords"], loops := true, apart := false, laid := [("duologue/lex.keywords", laid_duologue_lex_keywords)], narrowed := true }
def ScopeFreeUptoSaid : Prop := scopeFreeUptoRow.holds Tryz.pinned (OpenSpec.upto scopeFreeSpec)

/-- 'duologuelaw06.ScopeMore', WHERE WHAT IT READS IS OF BULK AT MOST 1048576: true; the input reads as it did. -/
def scopeMoreUptoRow : OpenClaim := { program := "ytfmbddfenghnlaagreatdoor", sum := "0bd81b2c045579ff48984702d77c5e104911d5011603558444c626f776e165f5", func := "duologue/duologuelaw06.ScopeMore", spec := "scopeMore", inPlace := ["maps.clone"], unfollowed := true, recurses := true, named := ["duologue/lex.keywords"], loops := true, apart := false, laid := [("duologue/lex.keywords", laid_duologue_lex_keywords)], narrowed := true }
def ScopeMoreUptoSaid : Prop := scopeMoreUptoRow.holds Tryz.pinned (OpenSpec.upto scopeMoreSpec)

/-- 'duologuelaw06.ScopeOrders', WHERE WHAT IT READS IS OF BULK AT MOST 1048576: true; the input reads as it did. -/
def scopeOrdersUptoRow : OpenClaim := { program := "ytfmbddfenghnlaagreatdoor", sum := "0bd81b2c045579ff48984702d77c5e104911d5011603558444c626f776e165f5", func := "duologue/duologuelaw06.ScopeOrders", spec := "scopeOrders", inPlace := ["maps.clone"], unfollowed := true, recurses := true, named := ["duologue/lex.keywords"], loops := true, apart := false, laid := [("duologue/lex.keywords", laid_duologue_lex_keywords)], narrowed := true }
def ScopeOrdersUptoSaid : Prop := scopeOrdersUptoRow.holds Tryz.pinned (OpenSpec.upto scopeOrdersSpec)

end Rows
end Go.Proofs.YtfmbddfenghnlaaGreatDoor
