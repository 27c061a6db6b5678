/-
  DERIVED. GIVEN WITH THE SEED: THE CARDS: each row of YtkpnmgohbipjjaaGreatDoorRows.lean that lists a variable, with what it lists TIED to the program's text (the seventh form; the later family's looks); each row that meets fmt, with fmt's text TOLD by the authors' own Lean function (tested against real Go, not proved from fmt's source: count such statements apart). THE CARD IS WHAT COUNTS. Prove the row's statement (the work); the ties are given (YtkpnmgohbipjjaaGreatDoorTie.lean); close each card by the builder's one call (the guide's Derived/Test/ToyasCard.lean, 'card_holds'). Laid BY PROGRAM, IN A SANDBOX (cutbox-door.mjs). By AI agents, Wed Nov 11 2026. No macro, syntax, notation, axiom, sorry.
-/
import Derived.Test.YtkpnmgohbipjjaaGreatDoorRows
import GoSem.ClaimSeven
namespace Go.Proofs.YtkpnmgohbipjjaaGreatDoor
namespace Rows

/-- THE TIED CARD OF 'duologuelaw26.WitnessMatchesReference'. -/
def witnessMatchesReferenceCard : Claim7 := { stood := { row := witnessMatchesReferenceRow, standIns := [], harness := (true, "4f758293290f4e07e0cbb2460cd181bf08878dadc45f912cf5caa4d55c4d3ed5"), looks := true }, kinds := [], alts := [], laidByText := true, laidKinds := [.data, .data, .data, .data, .widerDeep], laidTests := true, laidLooks := .later }
def WitnessMatchesReferenceCardSaid : Prop := Claim7.holds Tryz.pinned (.plain (OpenSpec.ofChange witnessMatchesReferenceSpec)) witnessMatchesReferenceCard

/-- THE TIED CARD OF 'duologuelaw26.WitnessPrefixes'. -/
def witnessPrefixesCard : Claim7 := { stood := { row := witnessPrefixesRow, standIns := [], harness := (true, "4f758293290f4e07e0cbb2460cd181bf08878dadc45f912cf5caa4d55c4d3ed5"), looks := true }, kinds := [], alts := [], laidByText := true, laidKinds := [.data, .data, .data, .data, .widerDeep], laidTests := true, laidLooks := .later }
def WitnessPrefixesCardSaid : Prop := Claim7.holds Tryz.pinned (.plain (OpenSpec.ofChange witnessPrefixesSpec)) witnessPrefixesCard

/-- THE TIED CARD OF 'duologuelaw26.WitnessRaises'. -/
def witnessRaisesCard : Claim7 := { stood := { row := witnessRaisesRow, standIns := [], harness := (true, "4f758293290f4e07e0cbb2460cd181bf08878dadc45f912cf5caa4d55c4d3ed5"), looks := true }, kinds := [], alts := [], laidByText := true, laidKinds := [.data, .data, .data, .data, .widerDeep], laidTests := true, laidLooks := .later }
def WitnessRaisesCardSaid : Prop := Claim7.holds Tryz.pinned (.plain (OpenSpec.ofChange witnessRaisesSpec)) witnessRaisesCard

/-- THE TIED CARD OF 'duologuelaw26.WitnessDuals'. -/
def witnessDualsCard : Claim7 := { stood := { row := witnessDualsRow, standIns := [], harness := (true, "4f758293290f4e07e0cbb2460cd181bf08878dadc45f912cf5caa4d55c4d3ed5"), looks := true }, kinds := [], alts := [], laidByText := true, laidKinds := [.data, .data, .data, .data, .widerDeep], laidTests := true, laidLooks := .later }
def WitnessDualsCardSaid : Prop := Claim7.holds Tryz.pinned (.plain (OpenSpec.ofChange witnessDualsSpec)) witnessDualsCard

/-- THE SECOND FORM's CARD OF 'duologuelaw26.WitnessMatchesReference'. -/
def witnessMatchesReferenceUptoCard : Claim7 := { stood := { row := witnessMatchesReferenceUptoRow, standIns := [], harness := (true, "4f758293290f4e07e0cbb2460cd181bf08878dadc45f912cf5caa4d55c4d3ed5"), looks := true }, kinds := [], alts := [], laidByText := true, laidKinds := [.data, .data, .data, .data, .widerDeep], laidTests := true, laidLooks := .later }
def WitnessMatchesReferenceUptoCardSaid : Prop := Claim7.holds Tryz.pinned (.plain (OpenSpec.upto witnessMatchesReferenceSpec)) witnessMatchesReferenceUptoCard

/-- THE SECOND FORM's CARD OF 'duologuelaw26.WitnessPrefixes'. -/
def witnessPrefixesUptoCard : Claim7 := { stood := { row := witnessPrefixesUptoRow, standIns := [], harness := (true, "4f758293290f4e07e0cbb2460cd181bf08878dadc45f912cf5caa4d55c4d3ed5"), looks := true }, kinds := [], alts := [], laidByText := true, laidKinds := [.data, .data, .data, .data, .widerDeep], laidTests := true, laidLooks := .later }
def WitnessPrefixesUptoCardSaid : Prop := Claim7.holds Tryz.pinned (.plain (OpenSpec.upto witnessPrefixesSpec)) witnessPrefixesUptoCard

/-- THE SECOND FORM's CARD OF 'duologuelaw26.WitnessRaises'. -/
def witnessRaisesUptoCard : Claim7 := { stood := { row := witnessRaisesUptoRow, standIns := [], harness := (true, "4f758293290f4e07e0cbb2460cd181bf08878dadc45f912cf5caa4d55c4d3ed5"), looks := true }, kinds := [], alts := [], laidByText := true, laidKinds := [.data, .data, .data, .data, .widerDeep], laidTests := true, laidLooks := .later }
def WitnessRaisesUptoCardSaid : Prop := Claim7.holds Tryz.pinned (.plain (OpenSpec.upto witnessRaisesSpec)) witnessRaisesUptoCard

/-- THE SECOND FORM's CARD OF 'duologuelaw26.WitnessDuals'. -/
def witnessDualsUptoCard : Claim7 := { stood := { row := witnessDualsUptoRow, standIns := [], harness := (true, "4f758293290f4e07e0cbb2460cd181bf08878dadc45f912cf5caa4d55c4d3ed5"), looks := true }, kinds := [], alts := [], laidByText := true, laidKinds := [.data, .data, .data, .data, .widerDeep], laidTests := true, laidLooks := .later }
def WitnessDualsUptoCardSaid : Prop := Claim7.holds Tryz.pinned (.plain (OpenSpec.upto witnessDualsSpec)) witnessDualsUptoCard
end Rows
end Go.Proofs.YtkpnmgohbipjjaaGreatDoor
