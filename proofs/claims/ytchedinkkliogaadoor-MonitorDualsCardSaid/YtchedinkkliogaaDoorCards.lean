/-
  DERIVED. GIVEN WITH THE SEED: THE CARDS: each row of YtchedinkkliogaaDoorRows.lean that lists a variable, with what it lists TIED to the program's text (the seventh form; the later family's looks); each row that meets fmt, with fmt's text TOLD by the authors' own Lean function (tested against real Go, not proved from fmt's source: count such statements apart). THE CARD IS WHAT COUNTS. Prove the row's statement (the work); the ties are given (YtchedinkkliogaaDoorTie.lean); close each card by the builder's one call (the guide's Derived/Test/ToyasCard.lean, 'card_holds'). Laid BY PROGRAM, IN A SANDBOX (cutbox-door.mjs). By AI agents, Wed Nov 11 2026. No macro, syntax, notation, axiom, sorry.
-/
import Derived.Test.YtchedinkkliogaaDoorRows
import GoSem.ClaimSeven
namespace Go.Proofs.YtchedinkkliogaaDoor
namespace Rows

/-- THE TIED CARD OF 'duologuelaw21.MonitorDuals'. -/
def monitorDualsCard : Claim7 := { stood := { row := monitorDualsRow, standIns := [], harness := (true, "124838f09a746976eafd2eeb6b003d3fc11ecea27c4613727693abd6bbde0761"), looks := false }, kinds := [], alts := [], laidByText := true, laidKinds := [.data, .data], laidTests := true, laidLooks := .later }
def MonitorDualsCardSaid : Prop := Claim7.holds Tryd.pinned (.plain (OpenSpec.ofChange monitorDualsSpec)) monitorDualsCard

/-- THE TIED CARD OF 'duologuelaw21.MonitorApart'. -/
def monitorApartCard : Claim7 := { stood := { row := monitorApartRow, standIns := [], harness := (true, "124838f09a746976eafd2eeb6b003d3fc11ecea27c4613727693abd6bbde0761"), looks := false }, kinds := [], alts := [], laidByText := true, laidKinds := [.data, .data], laidTests := true, laidLooks := .later }
def MonitorApartCardSaid : Prop := Claim7.holds Tryd.pinned (.plain (OpenSpec.ofChange monitorApartSpec)) monitorApartCard

/-- THE SECOND FORM's CARD OF 'duologuelaw21.MonitorDuals'. -/
def monitorDualsUptoCard : Claim7 := { stood := { row := monitorDualsUptoRow, standIns := [], harness := (true, "124838f09a746976eafd2eeb6b003d3fc11ecea27c4613727693abd6bbde0761"), looks := false }, kinds := [], alts := [], laidByText := true, laidKinds := [.data, .data], laidTests := true, laidLooks := .later }
def MonitorDualsUptoCardSaid : Prop := Claim7.holds Tryd.pinned (.plain (OpenSpec.upto monitorDualsSpec)) monitorDualsUptoCard

/-- THE SECOND FORM's CARD OF 'duologuelaw21.MonitorApart'. -/
def monitorApartUptoCard : Claim7 := { stood := { row := monitorApartUptoRow, standIns := [], harness := (true, "124838f09a746976eafd2eeb6b003d3fc11ecea27c4613727693abd6bbde0761"), looks := false }, kinds := [], alts := [], laidByText := true, laidKinds := [.data, .data], laidTests := true, laidLooks := .later }
def MonitorApartUptoCardSaid : Prop := Claim7.holds Tryd.pinned (.plain (OpenSpec.upto monitorApartSpec)) monitorApartUptoCard
end Rows
end Go.Proofs.YtchedinkkliogaaDoor
