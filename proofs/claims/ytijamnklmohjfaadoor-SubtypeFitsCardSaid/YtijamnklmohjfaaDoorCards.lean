/-
  DERIVED. GIVEN WITH THE SEED: THE CARDS: each row of YtijamnklmohjfaaDoorRows.lean that lists a variable, with what it lists TIED to the program's text (the seventh form; the later family's looks); each row that meets fmt, with fmt's text TOLD by the authors' own Lean function (tested against real Go, not proved from fmt's source: count such statements apart). THE CARD IS WHAT COUNTS. Prove the row's statement (the work); the ties are given (YtijamnklmohjfaaDoorTie.lean); close each card by the builder's one call (the guide's Derived/Test/ToyasCard.lean, 'card_holds'). Laid BY PROGRAM, IN A SANDBOX (cutbox-door.mjs). By AI agents, Wed Nov 11 2026. No macro, syntax, notation, axiom, sorry.
-/
import Derived.Test.YtijamnklmohjfaaDoorRows
import GoSem.ClaimSeven
namespace Go.Proofs.YtijamnklmohjfaaDoor
namespace Rows

/-- THE TIED CARD OF 'duologuelaw11.SubtypeDuals'. -/
def subtypeDualsCard : Claim7 := { stood := { row := subtypeDualsRow, standIns := [], harness := (true, "2a9cd29c7e4b61bfb2322623dc8526aed21d9a23d3521028b811f2aa46f2064d"), looks := false }, kinds := [], alts := [], laidByText := true, laidKinds := [.data], laidTests := true, laidLooks := .later }
def SubtypeDualsCardSaid : Prop := Claim7.holds Tryd.pinned (.plain (OpenSpec.ofChange subtypeDualsSpec)) subtypeDualsCard

/-- THE TIED CARD OF 'duologuelaw11.SubtypeFits'. -/
def subtypeFitsCard : Claim7 := { stood := { row := subtypeFitsRow, standIns := [], harness := (true, "2a9cd29c7e4b61bfb2322623dc8526aed21d9a23d3521028b811f2aa46f2064d"), looks := false }, kinds := [], alts := [], laidByText := true, laidKinds := [.data], laidTests := true, laidLooks := .later }
def SubtypeFitsCardSaid : Prop := Claim7.holds Tryd.pinned (.plain (OpenSpec.ofChange subtypeFitsSpec)) subtypeFitsCard

/-- THE TIED CARD OF 'duologuelaw11.SubtypeLabels'. -/
def subtypeLabelsCard : Claim7 := { stood := { row := subtypeLabelsRow, standIns := [], harness := (true, "2a9cd29c7e4b61bfb2322623dc8526aed21d9a23d3521028b811f2aa46f2064d"), looks := false }, kinds := [], alts := [], laidByText := true, laidKinds := [.data], laidTests := true, laidLooks := .later }
def SubtypeLabelsCardSaid : Prop := Claim7.holds Tryd.pinned (.plain (OpenSpec.ofChange subtypeLabelsSpec)) subtypeLabelsCard

/-- THE TIED CARD OF 'duologuelaw21.MonitorDuals'. -/
def monitorDualsCard : Claim7 := { stood := { row := monitorDualsRow, standIns := [], harness := (true, "2a9cd29c7e4b61bfb2322623dc8526aed21d9a23d3521028b811f2aa46f2064d"), looks := false }, kinds := [], alts := [], laidByText := true, laidKinds := [.data, .data], laidTests := true, laidLooks := .later }
def MonitorDualsCardSaid : Prop := Claim7.holds Tryd.pinned (.plain (OpenSpec.ofChange monitorDualsSpec)) monitorDualsCard

/-- THE TIED CARD OF 'duologuelaw21.MonitorApart'. -/
def monitorApartCard : Claim7 := { stood := { row := monitorApartRow, standIns := [], harness := (true, "2a9cd29c7e4b61bfb2322623dc8526aed21d9a23d3521028b811f2aa46f2064d"), looks := false }, kinds := [], alts := [], laidByText := true, laidKinds := [.data, .data], laidTests := true, laidLooks := .later }
def MonitorApartCardSaid : Prop := Claim7.holds Tryd.pinned (.plain (OpenSpec.ofChange monitorApartSpec)) monitorApartCard

/-- THE TIED CARD OF 'duologuelaw11.SubtypeOrders'. -/
def subtypeOrdersCard : Claim7 := { stood := { row := subtypeOrdersRow, standIns := [], harness := (true, "2a9cd29c7e4b61bfb2322623dc8526aed21d9a23d3521028b811f2aa46f2064d"), looks := false }, kinds := [], alts := [], laidByText := true, laidKinds := [.data], laidTests := true, laidLooks := .later }
def SubtypeOrdersCardSaid : Prop := Claim7.holds Tryd.pinned (.plain (OpenSpec.ofChange subtypeOrdersSpec)) subtypeOrdersCard

/-- THE SECOND FORM's CARD OF 'duologuelaw11.SubtypeDuals'. -/
def subtypeDualsUptoCard : Claim7 := { stood := { row := subtypeDualsUptoRow, standIns := [], harness := (true, "2a9cd29c7e4b61bfb2322623dc8526aed21d9a23d3521028b811f2aa46f2064d"), looks := false }, kinds := [], alts := [], laidByText := true, laidKinds := [.data], laidTests := true, laidLooks := .later }
def SubtypeDualsUptoCardSaid : Prop := Claim7.holds Tryd.pinned (.plain (OpenSpec.upto subtypeDualsSpec)) subtypeDualsUptoCard

/-- THE SECOND FORM's CARD OF 'duologuelaw11.SubtypeFits'. -/
def subtypeFitsUptoCard : Claim7 := { stood := { row := subtypeFitsUptoRow, standIns := [], harness := (true, "2a9cd29c7e4b61bfb2322623dc8526aed21d9a23d3521028b811f2aa46f2064d"), looks := false }, kinds := [], alts := [], laidByText := true, laidKinds := [.data], laidTests := true, laidLooks := .later }
def SubtypeFitsUptoCardSaid : Prop := Claim7.holds Tryd.pinned (.plain (OpenSpec.upto subtypeFitsSpec)) subtypeFitsUptoCard

/-- THE SECOND FORM's CARD OF 'duologuelaw11.SubtypeLabels'. -/
def subtypeLabelsUptoCard : Claim7 := { stood := { row := subtypeLabelsUptoRow, standIns := [], harness := (true, "2a9cd29c7e4b61bfb2322623dc8526aed21d9a23d3521028b811f2aa46f2064d"), looks := false }, kinds := [], alts := [], laidByText := true, laidKinds := [.data], laidTests := true, laidLooks := .later }
def SubtypeLabelsUptoCardSaid : Prop := Claim7.holds Tryd.pinned (.plain (OpenSpec.upto subtypeLabelsSpec)) subtypeLabelsUptoCard

/-- THE SECOND FORM's CARD OF 'duologuelaw21.MonitorDuals'. -/
def monitorDualsUptoCard : Claim7 := { stood := { row := monitorDualsUptoRow, standIns := [], harness := (true, "2a9cd29c7e4b61bfb2322623dc8526aed21d9a23d3521028b811f2aa46f2064d"), looks := false }, kinds := [], alts := [], laidByText := true, laidKinds := [.data, .data], laidTests := true, laidLooks := .later }
def MonitorDualsUptoCardSaid : Prop := Claim7.holds Tryd.pinned (.plain (OpenSpec.upto monitorDualsSpec)) monitorDualsUptoCard

/-- THE SECOND FORM's CARD OF 'duologuelaw21.MonitorApart'. -/
def monitorApartUptoCard : Claim7 := { stood := { row := monitorApartUptoRow, standIns := [], harness := (true, "2a9cd29c7e4b61bfb2322623dc8526aed21d9a23d3521028b811f2aa46f2064d"), looks := false }, kinds := [], alts := [], laidByText := true, laidKinds := [.data, .data], laidTests := true, laidLooks := .later }
def MonitorApartUptoCardSaid : Prop := Claim7.holds Tryd.pinned (.plain (OpenSpec.upto monitorApartSpec)) monitorApartUptoCard

/-- THE SECOND FORM's CARD OF 'duologuelaw11.SubtypeOrders'. -/
def subtypeOrdersUptoCard : Claim7 := { stood := { row := subtypeOrdersUptoRow, standIns := [], harness := (true, "2a9cd29c7e4b61bfb2322623dc8526aed21d9a23d3521028b811f2aa46f2064d"), looks := false }, kinds := [], alts := [], laidByText := true, laidKinds := [.data], laidTests := true, laidLooks := .later }
def SubtypeOrdersUptoCardSaid : Prop := Claim7.holds Tryd.pinned (.plain (OpenSpec.upto subtypeOrdersSpec)) subtypeOrdersUptoCard
end Rows
end Go.Proofs.YtijamnklmohjfaaDoor
