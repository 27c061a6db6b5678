/-
  DERIVED. GIVEN WITH THE SEED: THE CARDS: each row of YtopinhoalbgebaaGreatDoorRows.lean that lists a variable, with what it lists TIED to the program's text (the seventh form; the later family's looks); each row that meets fmt, with fmt's text TOLD by the authors' own Lean function (tested against real Go, not proved from fmt's source: count such statements apart). THE CARD IS WHAT COUNTS. Prove the row's statement (the work); the ties are given (YtopinhoalbgebaaGreatDoorTie.lean); close each card by the builder's one call (the guide's Derived/Test/ToyasCard.lean, 'card_holds'). Laid BY PROGRAM, IN A SANDBOX (cutbox-door.mjs). By AI agents, Wed Nov 11 2026. No macro, syntax, notation, axiom, sorry.
-/
import Derived.Test.YtopinhoalbgebaaGreatDoorRows
import GoSem.ClaimSeven
namespace Go.Proofs.YtopinhoalbgebaaGreatDoor
namespace Rows

/-- THE TIED CARD OF 'duologuelaw12.ReadbackMatchesReference'. -/
def readbackMatchesReferenceCard : Claim7 := { stood := { row := readbackMatchesReferenceRow, standIns := [], harness := (true, "6975ea70426275ed20781a277a1f5719524bbbed24376197dd436bca9a620fa8"), looks := true }, kinds := [], alts := [], laidByText := true, laidKinds := [.data, .data, .data], laidTests := true, laidLooks := .later }
def ReadbackMatchesReferenceCardSaid : Prop := Claim7.holds Tryz.pinned (.plain (OpenSpec.ofChange readbackMatchesReferenceSpec)) readbackMatchesReferenceCard

/-- THE TIED CARD OF 'duologuelaw12.ReadbackCanonical'. -/
def readbackCanonicalCard : Claim7 := { stood := { row := readbackCanonicalRow, standIns := [], harness := (true, "6975ea70426275ed20781a277a1f5719524bbbed24376197dd436bca9a620fa8"), looks := true }, kinds := [], alts := [], laidByText := true, laidKinds := [.data, .data, .data], laidTests := true, laidLooks := .later }
def ReadbackCanonicalCardSaid : Prop := Claim7.holds Tryz.pinned (.plain (OpenSpec.ofChange readbackCanonicalSpec)) readbackCanonicalCard

/-- THE TIED CARD OF 'duologuelaw12.ReadbackKeeps'. -/
def readbackKeepsCard : Claim7 := { stood := { row := readbackKeepsRow, standIns := [], harness := (true, "6975ea70426275ed20781a277a1f5719524bbbed24376197dd436bca9a620fa8"), looks := true }, kinds := [], alts := [], laidByText := true, laidKinds := [.data, .data, .data], laidTests := true, laidLooks := .later }
def ReadbackKeepsCardSaid : Prop := Claim7.holds Tryz.pinned (.plain (OpenSpec.ofChange readbackKeepsSpec)) readbackKeepsCard

/-- THE TIED CARD OF 'duologuelaw12.ReadbackRaises'. -/
def readbackRaisesCard : Claim7 := { stood := { row := readbackRaisesRow, standIns := [], harness := (true, "6975ea70426275ed20781a277a1f5719524bbbed24376197dd436bca9a620fa8"), looks := true }, kinds := [], alts := [], laidByText := true, laidKinds := [.data, .data, .data], laidTests := true, laidLooks := .later }
def ReadbackRaisesCardSaid : Prop := Claim7.holds Tryz.pinned (.plain (OpenSpec.ofChange readbackRaisesSpec)) readbackRaisesCard

/-- THE TIED CARD OF 'duologuelaw12.ReadbackDuals'. -/
def readbackDualsCard : Claim7 := { stood := { row := readbackDualsRow, standIns := [], harness := (true, "6975ea70426275ed20781a277a1f5719524bbbed24376197dd436bca9a620fa8"), looks := true }, kinds := [], alts := [], laidByText := true, laidKinds := [.data, .data, .data, .data], laidTests := true, laidLooks := .later }
def ReadbackDualsCardSaid : Prop := Claim7.holds Tryz.pinned (.plain (OpenSpec.ofChange readbackDualsSpec)) readbackDualsCard

/-- THE SECOND FORM's CARD OF 'duologuelaw12.ReadbackMatchesReference'. -/
def readbackMatchesReferenceUptoCard : Claim7 := { stood := { row := readbackMatchesReferenceUptoRow, standIns := [], harness := (true, "6975ea70426275ed20781a277a1f5719524bbbed24376197dd436bca9a620fa8"), looks := true }, kinds := [], alts := [], laidByText := true, laidKinds := [.data, .data, .data], laidTests := true, laidLooks := .later }
def ReadbackMatchesReferenceUptoCardSaid : Prop := Claim7.holds Tryz.pinned (.plain (OpenSpec.upto readbackMatchesReferenceSpec)) readbackMatchesReferenceUptoCard

/-- THE SECOND FORM's CARD OF 'duologuelaw12.ReadbackCanonical'. -/
def readbackCanonicalUptoCard : Claim7 := { stood := { row := readbackCanonicalUptoRow, standIns := [], harness := (true, "6975ea70426275ed20781a277a1f5719524bbbed24376197dd436bca9a620fa8"), looks := true }, kinds := [], alts := [], laidByText := true, laidKinds := [.data, .data, .data], laidTests := true, laidLooks := .later }
def ReadbackCanonicalUptoCardSaid : Prop := Claim7.holds Tryz.pinned (.plain (OpenSpec.upto readbackCanonicalSpec)) readbackCanonicalUptoCard

/-- THE SECOND FORM's CARD OF 'duologuelaw12.ReadbackKeeps'. -/
def readbackKeepsUptoCard : Claim7 := { stood := { row := readbackKeepsUptoRow, standIns := [], harness := (true, "6975ea70426275ed20781a277a1f5719524bbbed24376197dd436bca9a620fa8"), looks := true }, kinds := [], alts := [], laidByText := true, laidKinds := [.data, .data, .data], laidTests := true, laidLooks := .later }
def ReadbackKeepsUptoCardSaid : Prop := Claim7.holds Tryz.pinned (.plain (OpenSpec.upto readbackKeepsSpec)) readbackKeepsUptoCard

/-- THE SECOND FORM's CARD OF 'duologuelaw12.ReadbackRaises'. -/
def readbackRaisesUptoCard : Claim7 := { stood := { row := readbackRaisesUptoRow, standIns := [], harness := (true, "6975ea70426275ed20781a277a1f5719524bbbed24376197dd436bca9a620fa8"), looks := true }, kinds := [], alts := [], laidByText := true, laidKinds := [.data, .data, .data], laidTests := true, laidLooks := .later }
def ReadbackRaisesUptoCardSaid : Prop := Claim7.holds Tryz.pinned (.plain (OpenSpec.upto readbackRaisesSpec)) readbackRaisesUptoCard

/-- THE SECOND FORM's CARD OF 'duologuelaw12.ReadbackDuals'. -/
def readbackDualsUptoCard : Claim7 := { stood := { row := readbackDualsUptoRow, standIns := [], harness := (true, "6975ea70426275ed20781a277a1f5719524bbbed24376197dd436bca9a620fa8"), looks := true }, kinds := [], alts := [], laidByText := true, laidKinds := [.data, .data, .data, .data], laidTests := true, laidLooks := .later }
def ReadbackDualsUptoCardSaid : Prop := Claim7.holds Tryz.pinned (.plain (OpenSpec.upto readbackDualsSpec)) readbackDualsUptoCard
end Rows
end Go.Proofs.YtopinhoalbgebaaGreatDoor
