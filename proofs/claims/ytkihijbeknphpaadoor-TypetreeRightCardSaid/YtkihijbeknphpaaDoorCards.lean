/-
  DERIVED. GIVEN WITH THE SEED: THE CARDS: each row of YtkihijbeknphpaaDoorRows.lean that lists a variable, with what it lists TIED to the program's text (the seventh form; the later family's looks); each row that meets fmt, with fmt's text TOLD by the authors' own Lean function (tested against real Go, not proved from fmt's source: count such statements apart). THE CARD IS WHAT COUNTS. Prove the row's statement (the work); the ties are given (YtkihijbeknphpaaDoorTie.lean); close each card by the builder's one call (the guide's Derived/Test/ToyasCard.lean, 'card_holds'). Laid BY PROGRAM, IN A SANDBOX (cutbox-door.mjs). By AI agents, Wed Nov 11 2026. No macro, syntax, notation, axiom, sorry.
-/
import Derived.Test.YtkihijbeknphpaaDoorRows
import GoSem.ClaimSeven
namespace Go.Proofs.YtkihijbeknphpaaDoor
namespace Rows

/-- THE TIED CARD OF 'duologuelaw02.TypetreeRight'. -/
def typetreeRightCard : Claim7 := { stood := { row := typetreeRightRow, standIns := [], harness := (true, "c8625a0b236cfabda75686c67e4b6787bf8330963ecbd62ac8322726e134c8b4"), looks := false }, kinds := [], alts := [], laidByText := true, laidKinds := [.widerDeep], laidTests := true, laidLooks := .later }
def TypetreeRightCardSaid : Prop := Claim7.holds Tryd.pinned (.plain (OpenSpec.ofChange typetreeRightSpec)) typetreeRightCard

/-- THE TIED CARD OF 'duologuelaw02.TypetreeMeasures'. -/
def typetreeMeasuresCard : Claim7 := { stood := { row := typetreeMeasuresRow, standIns := [], harness := (true, "c8625a0b236cfabda75686c67e4b6787bf8330963ecbd62ac8322726e134c8b4"), looks := false }, kinds := [], alts := [], laidByText := true, laidKinds := [.widerDeep], laidTests := true, laidLooks := .later }
def TypetreeMeasuresCardSaid : Prop := Claim7.holds Tryd.pinned (.plain (OpenSpec.ofChange typetreeMeasuresSpec)) typetreeMeasuresCard

/-- THE SECOND FORM's CARD OF 'duologuelaw02.TypetreeRight'. -/
def typetreeRightUptoCard : Claim7 := { stood := { row := typetreeRightUptoRow, standIns := [], harness := (true, "c8625a0b236cfabda75686c67e4b6787bf8330963ecbd62ac8322726e134c8b4"), looks := false }, kinds := [], alts := [], laidByText := true, laidKinds := [.widerDeep], laidTests := true, laidLooks := .later }
def TypetreeRightUptoCardSaid : Prop := Claim7.holds Tryd.pinned (.plain (OpenSpec.upto typetreeRightSpec)) typetreeRightUptoCard

/-- THE SECOND FORM's CARD OF 'duologuelaw02.TypetreeMeasures'. -/
def typetreeMeasuresUptoCard : Claim7 := { stood := { row := typetreeMeasuresUptoRow, standIns := [], harness := (true, "c8625a0b236cfabda75686c67e4b6787bf8330963ecbd62ac8322726e134c8b4"), looks := false }, kinds := [], alts := [], laidByText := true, laidKinds := [.widerDeep], laidTests := true, laidLooks := .later }
def TypetreeMeasuresUptoCardSaid : Prop := Claim7.holds Tryd.pinned (.plain (OpenSpec.upto typetreeMeasuresSpec)) typetreeMeasuresUptoCard
end Rows
end Go.Proofs.YtkihijbeknphpaaDoor
