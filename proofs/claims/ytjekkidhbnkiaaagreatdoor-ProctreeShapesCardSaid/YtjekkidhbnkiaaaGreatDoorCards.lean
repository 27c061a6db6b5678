/-
  DERIVED. GIVEN WITH THE SEED: THE CARDS: each row of YtjekkidhbnkiaaaGreatDoorRows.lean that lists a variable, with what it lists TIED to the program's text (the seventh form; the later family's looks); each row that meets fmt, with fmt's text TOLD by the authors' own Lean function (tested against real Go, not proved from fmt's source: count such statements apart). THE CARD IS WHAT COUNTS. Prove the row's statement (the work); the ties are given (YtjekkidhbnkiaaaGreatDoorTie.lean); close each card by the builder's one call (the guide's Derived/Test/ToyasCard.lean, 'card_holds'). Laid BY PROGRAM, IN A SANDBOX (cutbox-door.mjs). By AI agents, Wed Nov 11 2026. No macro, syntax, notation, axiom, sorry.
-/
import Derived.Test.YtjekkidhbnkiaaaGreatDoorRows
import GoSem.ClaimSeven
namespace Go.Proofs.YtjekkidhbnkiaaaGreatDoor
namespace Rows

/-- THE TIED CARD OF 'duologuelaw03.ProctreeShapes'. -/
def proctreeShapesCard : Claim7 := { stood := { row := proctreeShapesRow, standIns := [], harness := (true, "948a0ca7eb273efc2968178c75c86e6b3a5acbd1b99fdf5f5fa12ca26661a786"), looks := false }, kinds := [], alts := [], laidByText := true, laidKinds := [.widerDeep], laidTests := true, laidLooks := .later }
def ProctreeShapesCardSaid : Prop := Claim7.holds Tryz.pinned (.plain (OpenSpec.ofChange proctreeShapesSpec)) proctreeShapesCard

/-- THE TIED CARD OF 'duologuelaw03.ProctreeMeasures'. -/
def proctreeMeasuresCard : Claim7 := { stood := { row := proctreeMeasuresRow, standIns := [], harness := (true, "948a0ca7eb273efc2968178c75c86e6b3a5acbd1b99fdf5f5fa12ca26661a786"), looks := false }, kinds := [], alts := [], laidByText := true, laidKinds := [.widerDeep], laidTests := true, laidLooks := .later }
def ProctreeMeasuresCardSaid : Prop := Claim7.holds Tryz.pinned (.plain (OpenSpec.ofChange proctreeMeasuresSpec)) proctreeMeasuresCard

/-- THE SECOND FORM's CARD OF 'duologuelaw03.ProctreeShapes'. -/
def proctreeShapesUptoCard : Claim7 := { stood := { row := proctreeShapesUptoRow, standIns := [], harness := (true, "948a0ca7eb273efc2968178c75c86e6b3a5acbd1b99fdf5f5fa12ca26661a786"), looks := false }, kinds := [], alts := [], laidByText := true, laidKinds := [.widerDeep], laidTests := true, laidLooks := .later }
def ProctreeShapesUptoCardSaid : Prop := Claim7.holds Tryz.pinned (.plain (OpenSpec.upto proctreeShapesSpec)) proctreeShapesUptoCard

/-- THE SECOND FORM's CARD OF 'duologuelaw03.ProctreeMeasures'. -/
def proctreeMeasuresUptoCard : Claim7 := { stood := { row := proctreeMeasuresUptoRow, standIns := [], harness := (true, "948a0ca7eb273efc2968178c75c86e6b3a5acbd1b99fdf5f5fa12ca26661a786"), looks := false }, kinds := [], alts := [], laidByText := true, laidKinds := [.widerDeep], laidTests := true, laidLooks := .later }
def ProctreeMeasuresUptoCardSaid : Prop := Claim7.holds Tryz.pinned (.plain (OpenSpec.upto proctreeMeasuresSpec)) proctreeMeasuresUptoCard
end Rows
end Go.Proofs.YtjekkidhbnkiaaaGreatDoor
