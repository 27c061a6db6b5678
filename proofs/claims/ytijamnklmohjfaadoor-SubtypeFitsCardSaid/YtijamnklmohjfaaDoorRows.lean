/-
  NARROWER THAN 'FOR EVERY INPUT', by the rows' own cells (each row's printed sentence says how): SubtypeDuals: loops, laid · SubtypeFits: loops, laid · SubtypeLabels: loops, laid · MonitorDuals: loops, laid · MonitorApart: loops, laid · SubtypeOrders: loops, laid.
  DERIVED. THE GIVEN ROWS OF THIS SEAT. 6 by the template 'for every input the law returns true; each argument reads behind the call as it read before'; 0 by the template 'total and deterministic' (their statements: YtijamnklmohjfaaDoorTotals.lean).
  GIVEN WITH THE SEED: the statements are not yours to turn. If you find one false, say at which input.
  Laid BY PROGRAM, IN A SANDBOX (cutbox-rows.mjs): the forced cells as the released guide's own fill.sh prints them over the translation 2b80ce69a27ff88c… (all of the seat's roots in one cut). By AI agents, Wed Nov 11 2026. No macro, syntax, notation, axiom, sorry.
-/
import Derived.Test.YtijamnklmohjfaaDoorChecked
import GoSem.Claim
import GoSem.ClaimJoined
import GoSem.ClaimMapViews
import Derived.JoinedTies
import Derived.KernelRfl
namespace Go.Proofs.YtijamnklmohjfaaDoor
/- THE CELL 'sum', in the pinned program and in every row, IS THE sha256 OF THE DUMP (.gsa) THAT YtijamnklmohjfaaDoorProg.lean LOADS. Nothing in Lean hashes anything: it is a label: what it is worth is what the hold of that sum in a sandbox is worth. -/
noncomputable def Tryd.pinned : Pinned := { name := "ytijamnklmohjfaadoor", sum := "2b80ce69a27ff88cddb4ac7e94baa6546f7b67390fc323eeac9a8ed172605106", checked := Tryd.checked }
namespace Rows
def none {H : Type} : Left H := { results := [], args := [] }

/- WHAT THE LISTED PACKAGE-LEVEL VARIABLES READ AS WHEN THE CALL BEGINS. Each datum BY PROGRAM (the guide's laid-datum.mjs) off the statement by which the dump's own 'gosem.cut.vars' lays the variable. In a bare row this is a premise. The card (YtijamnklmohjfaaDoorCards.lean) ties it to the program's text. -/
def laid_duologue_dual_duals {H : Type} : DataW H := .agg [.lit (.int .i64 0), .lit (.int .i64 1), .lit (.int .i64 2), .lit (.int .i64 3), .lit (.int .i64 5), .lit (.int .i64 4), .lit (.int .i64 7), .lit (.int .i64 6)]
def laid_duologue_monitor_given {H : Type} : DataW H := .agg [.lit (.int .i64 4), .lit (.int .i64 6)]

/-- 'duologuelaw11.SubtypeDuals': WHATEVER THE INPUT: true; the input reads as it did. -/
def subtypeDualsSpec : ChangeSpec := { name := "subtypeDuals", fn := fun _ => fun
  | [d1, d2] => { results := [.lit (.bool true)], args := [d1, d2] }
  | _ => none }
def subtypeDualsRow : OpenClaim := { program := "ytijamnklmohjfaadoor", sum := "2b80ce69a27ff88cddb4ac7e94baa6546f7b67390fc323eeac9a8ed172605106", func := "duologue/duologuelaw11.SubtypeDuals", spec := "subtypeDuals", unfollowed := true, recurses := true, named := ["duologue/dual.duals"], loops := true, plainKeys := false, apart := false, laid := [("duologue/dual.duals", laid_duologue_dual_duals)] }
def SubtypeDualsSaid : Prop := subtypeDualsRow.holds Tryd.pinned (OpenSpec.ofChange subtypeDualsSpec)

/-- ITS FALSE NEIGHBOUR: 'it returns false'. Refute it at one input. -/
def subtypeDualsWrong : ChangeSpec := { name := "subtypeDuals", fn := fun _ => fun
  | [d1, d2] => { results := [.lit (.bool false)], args := [d1, d2] }
  | _ => none }
def SubtypeDualsWrongFalsely : Prop := subtypeDualsRow.holds Tryd.pinned (OpenSpec.ofChange subtypeDualsWrong)

/-- 'duologuelaw11.SubtypeFits': WHATEVER THE INPUT: true; the input reads as it did. -/
def subtypeFitsSpec : ChangeSpec := { name := "subtypeFits", fn := fun _ => fun
  | [d1, d2] => { results := [.lit (.bool true)], args := [d1, d2] }
  | _ => none }
def subtypeFitsRow : OpenClaim := { program := "ytijamnklmohjfaadoor", sum := "2b80ce69a27ff88cddb4ac7e94baa6546f7b67390fc323eeac9a8ed172605106", func := "duologue/duologuelaw11.SubtypeFits", spec := "subtypeFits", unfollowed := true, recurses := true, named := ["duologue/dual.duals"], loops := true, plainKeys := false, apart := false, laid := [("duologue/dual.duals", laid_duologue_dual_duals)] }
def SubtypeFitsSaid : Prop := subtypeFitsRow.holds Tryd.pinned (OpenSpec.ofChange subtypeFitsSpec)

/-- ITS FALSE NEIGHBOUR: 'it returns false'. Refute it at one input. -/
def subtypeFitsWrong : ChangeSpec := { name := "subtypeFits", fn := fun _ => fun
  | [d1, d2] => { results := [.lit (.bool false)], args := [d1, d2] }
  | _ => none }
def SubtypeFitsWrongFalsely : Prop := subtypeFitsRow.holds Tryd.pinned (OpenSpec.ofChange subtypeFitsWrong)

/-- 'duologuelaw11.SubtypeLabels': WHATEVER THE INPUT: true; the input reads as it did. -/
def subtypeLabelsSpec : ChangeSpec := { name := "subtypeLabels", fn := fun _ => fun
  | [d1, d2, d3] => { results := [.lit (.bool true)], args := [d1, d2, d3] }
  | _ => none }
def subtypeLabelsRow : OpenClaim := { program := "ytijamnklmohjfaadoor", sum := "2b80ce69a27ff88cddb4ac7e94baa6546f7b67390fc323eeac9a8ed172605106", func := "duologue/duologuelaw11.SubtypeLabels", spec := "subtypeLabels", unfollowed := true, recurses := true, named := ["duologue/dual.duals"], loops := true, plainKeys := false, apart := false, laid := [("duologue/dual.duals", laid_duologue_dual_duals)] }
def SubtypeLabelsSaid : Prop := subtypeLabelsRow.holds Tryd.pinned (OpenSpec.ofChange subtypeLabelsSpec)

/-- ITS FALSE NEIGHBOUR: 'it returns false'. Refute it at one input. -/
def subtypeLabelsWrong : ChangeSpec := { name := "subtypeLabels", fn := fun _ => fun
  | [d1, d2, d3] => { results := [.lit (.bool false)], args := [d1, d2, d3] }
  | _ => none }
def SubtypeLabelsWrongFalsely : Prop := subtypeLabelsRow.holds Tryd.pinned (OpenSpec.ofChange subtypeLabelsWrong)

/-- 'duologuelaw21.MonitorDuals': WHATEVER THE INPUT: true; the input reads as it did. -/
def monitorDualsSpec : ChangeSpec := { name := "monitorDuals", fn := fun _ => fun
  | [d1, d2] => { results := [.lit (.bool true)], args := [d1, d2] }
  | _ => none }
def monitorDualsRow : OpenClaim := { program := "ytijamnklmohjfaadoor", sum := "2b80ce69a27ff88cddb4ac7e94baa6546f7b67390fc323eeac9a8ed172605106", func := "duologue/duologuelaw21.MonitorDuals", spec := "monitorDuals", unfollowed := true, recurses := true, named := ["duologue/monitor.given", "duologue/dual.duals"], loops := true, plainKeys := false, apart := false, laid := [("duologue/dual.duals", laid_duologue_dual_duals), ("duologue/monitor.given", laid_duologue_monitor_given)] }
def MonitorDualsSaid : Prop := monitorDualsRow.holds Tryd.pinned (OpenSpec.ofChange monitorDualsSpec)

/-- ITS FALSE NEIGHBOUR: 'it returns false'. Refute it at one input. -/
def monitorDualsWrong : ChangeSpec := { name := "monitorDuals", fn := fun _ => fun
  | [d1, d2] => { results := [.lit (.bool false)], args := [d1, d2] }
  | _ => none }
def MonitorDualsWrongFalsely : Prop := monitorDualsRow.holds Tryd.pinned (OpenSpec.ofChange monitorDualsWrong)

/-- 'duologuelaw21.MonitorApart': WHATEVER THE INPUT: true; the input reads as it did. -/
def monitorApartSpec : ChangeSpec := { name := "monitorApart", fn := fun _ => fun
  | [d1, d2] => { results := [.lit (.bool true)], args := [d1, d2] }
  | _ => none }
def monitorApartRow : OpenClaim := { program := "ytijamnklmohjfaadoor", sum := "2b80ce69a27ff88cddb4ac7e94baa6546f7b67390fc323eeac9a8ed172605106", func := "duologue/duologuelaw21.MonitorApart", spec := "monitorApart", unfollowed := true, recurses := true, named := ["duologue/monitor.given", "duologue/dual.duals"], loops := true, plainKeys := false, apart := false, laid := [("duologue/dual.duals", laid_duologue_dual_duals), ("duologue/monitor.given", laid_duologue_monitor_given)] }
def MonitorApartSaid : Prop := monitorApartRow.holds Tryd.pinned (OpenSpec.ofChange monitorApartSpec)

/-- ITS FALSE NEIGHBOUR: 'it returns false'. Refute it at one input. -/
def monitorApartWrong : ChangeSpec := { name := "monitorApart", fn := fun _ => fun
  | [d1, d2] => { results := [.lit (.bool false)], args := [d1, d2] }
  | _ => none }
def MonitorApartWrongFalsely : Prop := monitorApartRow.holds Tryd.pinned (OpenSpec.ofChange monitorApartWrong)

/-- 'duologuelaw11.SubtypeOrders': WHATEVER THE INPUT: true; the input reads as it did. -/
def subtypeOrdersSpec : ChangeSpec := { name := "subtypeOrders", fn := fun _ => fun
  | [d1, d2, d3, d4] => { results := [.lit (.bool true)], args := [d1, d2, d3, d4] }
  | _ => none }
def subtypeOrdersRow : OpenClaim := { program := "ytijamnklmohjfaadoor", sum := "2b80ce69a27ff88cddb4ac7e94baa6546f7b67390fc323eeac9a8ed172605106", func := "duologue/duologuelaw11.SubtypeOrders", spec := "subtypeOrders", unfollowed := true, recurses := true, named := ["duologue/dual.duals"], loops := true, plainKeys := false, apart := false, laid := [("duologue/dual.duals", laid_duologue_dual_duals)] }
def SubtypeOrdersSaid : Prop := subtypeOrdersRow.holds Tryd.pinned (OpenSpec.ofChange subtypeOrdersSpec)

/-- ITS FALSE NEIGHBOUR: 'it returns false'. Refute it at one input. -/
def subtypeOrdersWrong : ChangeSpec := { name := "subtypeOrders", fn := fun _ => fun
  | [d1, d2, d3, d4] => { results := [.lit (.bool false)], args := [d1, d2, d3, d4] }
  | _ => none }
def SubtypeOrdersWrongFalsely : Prop := subtypeOrdersRow.holds Tryd.pinned (OpenSpec.ofChange subtypeOrdersWrong)

/- THE SECOND FORM. 'bulk': how many values and letters a reading holds, each counted each time it is reached (what is shared counts as often as it is met; a slice's spare places count too). A statement '..UptoSaid' is the law's where the arguments, and the package variables that the reading takes, are together of bulk at most 1048576: NARROWER than '..Said'. Prove '..Said' where nothing that the law and all that it calls make is longer than what came in: it says more and counts as full. Else prove '..UptoSaid'. A law counts once. -/
mutual
def uptoBulk {H : Type} : DataW H → Nat
  | .lit (.string bytes) => bytes.length + 1
  | .lit _ => 1
  | .nil => 1
  | .ptr d => uptoBulk d + 1
  | .slice elems spare => uptoBulkAll elems + uptoBulkAll spare + 1
  | .agg parts => uptoBulkAll parts + 1
  | .iface _ d => uptoBulk d + 1
  | .map entries => uptoBulkEntries entries + 1
  | .held _ => 1
def uptoBulkAll {H : Type} : List (DataW H) → Nat
  | [] => 0
  | d :: r => uptoBulk d + uptoBulkAll r
def uptoBulkEntries {H : Type} : List (Lit × DataW H) → Nat
  | [] => 0
  | x :: r => uptoBulkEntry x + uptoBulkEntries r
def uptoBulkEntry {H : Type} : Lit × DataW H → Nat
  | (.string bytes, d) => bytes.length + uptoBulk d + 1
  | (_, d) => uptoBulk d + 1
 end
def uptoSmall : (H : Type) → List (DataW H) → Bool := fun _ ds => decide (uptoBulkAll ds ≤ 1048576)
def OpenSpec.upto (s : _root_.Go.ChangeSpec) : _root_.Go.OpenSpec := { _root_.Go.OpenSpec.ofChange s with cond := some uptoSmall }

/-- 'duologuelaw11.SubtypeDuals', WHERE WHAT IT READS IS OF BULK AT MOST 1048576: true; the input reads as it did. -/
def subtypeDualsUptoRow : OpenClaim := { program := "ytijamnklmohjfaadoor", sum := "2b80ce69a27ff88cddb4ac7e94baa6546f7b67390fc323eeac9a8ed172605106", func := "duologue/duologuelaw11.SubtypeDuals", spec := "subtypeDuals", unfollowed := true, recurses := true, named := ["duologue/dual.duals"], loops := true, plainKeys := false, apart := false, laid := [("duologue/dual.duals", laid_duologue_dual_duals)], narrowed := true }
def SubtypeDualsUptoSaid : Prop := subtypeDualsUptoRow.holds Tryd.pinned (OpenSpec.upto subtypeDualsSpec)

/-- 'duologuelaw11.SubtypeFits', WHERE WHAT IT READS IS OF BULK AT MOST 1048576: true; the input reads as it did. -/
def subtypeFitsUptoRow : OpenClaim := { program := "ytijamnklmohjfaadoor", sum := "2b80ce69a27ff88cddb4ac7e94baa6546f7b67390fc323eeac9a8ed172605106", func := "duologue/duologuelaw11.SubtypeFits", spec := "subtypeFits", unfollowed := true, recurses := true, named := ["duologue/dual.duals"], loops := true, plainKeys := false, apart := false, laid := [("duologue/dual.duals", laid_duologue_dual_duals)], narrowed := true }
def SubtypeFitsUptoSaid : Prop := subtypeFitsUptoRow.holds Tryd.pinned (OpenSpec.upto subtypeFitsSpec)

/-- 'duologuelaw11.SubtypeLabels', WHERE WHAT IT READS IS OF BULK AT MOST 1048576: true; the input reads as it did. -/
def subtypeLabelsUptoRow : OpenClaim := { program := "ytijamnklmohjfaadoor", sum := "2b80ce69a27ff88cddb4ac7e94baa6546f7b67390fc323eeac9a8ed172605106", func := "duologue/duologuelaw11.SubtypeLabels", spec := "subtypeLabels", unfollowed := true, recurses := true, named := ["duologue/dual.duals"], loops := true, plainKeys := false, apart := false, laid := [("duologue/dual.duals", laid_duologue_dual_duals)], narrowed := true }
def SubtypeLabelsUptoSaid : Prop := subtypeLabelsUptoRow.holds Tryd.pinned (OpenSpec.upto subtypeLabelsSpec)

/-- 'duologuelaw21.MonitorDuals', WHERE WHAT IT READS IS OF BULK AT MOST 1048576: true; the input reads as it did. -/
def monitorDualsUptoRow : OpenClaim := { program := "ytijamnklmohjfaadoor", sum := "2b80ce69a27ff88cddb4ac7e94baa6546f7b67390fc323eeac9a8ed172605106", func := "duologue/duologuelaw21.MonitorDuals", spec := "monitorDuals", unfollowed := true, recurses := true, named := ["duologue/monitor.given", "duologue/dual.duals"], loops := true, plainKeys := false, apart := false, laid := [("duologue/dual.duals", laid_duologue_dual_duals), ("duologue/monitor.given", laid_duologue_monitor_given)], narrowed := true }
def MonitorDualsUptoSaid : Prop := monitorDualsUptoRow.holds Tryd.pinned (OpenSpec.upto monitorDualsSpec)

/-- 'duologuelaw21.MonitorApart', WHERE WHAT IT READS IS OF BULK AT MOST 1048576: true; the input reads as it did. -/
def monitorApartUptoRow : OpenClaim := { program := "ytijamnklmohjfaadoor", sum := "2b80ce69a27ff88cddb4ac7e94baa6546f7b67390fc323eeac9a8ed172605106", func := "duologue/duologuelaw21.MonitorApart", spec := "monitorApart", unfollowed := true, recurses := true, named := ["duologue/monitor.given", "duologue/dual.duals"], loops := true, plainKeys := false, apart := false, laid := [("duologue/dual.duals", laid_duologue_dual_duals), ("duologue/monitor.given", laid_duologue_monitor_given)], narrowed := true }
def MonitorApartUptoSaid : Prop := monitorApartUptoRow.holds Tryd.pinned (OpenSpec.upto monitorApartSpec)

/-- 'duologuelaw11.SubtypeOrders', WHERE WHAT IT READS IS OF BULK AT MOST 1048576: true; the input reads as it did. -/
def subtypeOrdersUptoRow : OpenClaim := { program := "ytijamnklmohjfaadoor", sum := "2b80ce69a27ff88cddb4ac7e94baa6546f7b67390fc323eeac9a8ed172605106", func := "duologue/duologuelaw11.SubtypeOrders", spec := "subtypeOrders", unfollowed := true, recurses := true, named := ["duologue/dual.duals"], loops := true, plainKeys := false, apart := false, laid := [("duologue/dual.duals", laid_duologue_dual_duals)], narrowed := true }
def SubtypeOrdersUptoSaid : Prop := subtypeOrdersUptoRow.holds Tryd.pinned (OpenSpec.upto subtypeOrdersSpec)

end Rows
end Go.Proofs.YtijamnklmohjfaaDoor
