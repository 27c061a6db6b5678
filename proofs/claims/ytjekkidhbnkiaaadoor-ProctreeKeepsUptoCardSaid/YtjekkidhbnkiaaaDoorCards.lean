/-
  DERIVED. GIVEN WITH THE SEED: THE CARDS: each row of YtjekkidhbnkiaaaDoorRows.lean that lists a variable, with what it lists TIED to the program's text (the seventh form; the later family's looks); each row that meets fmt, with fmt's text TOLD by the authors' own Lean function (tested against real Go, not proved from fmt's source: count such statements apart). THE CARD IS WHAT COUNTS. Prove the row's statement (the work); the ties are given (YtjekkidhbnkiaaaDoorTie.lean); close each card by the builder's one call (the guide's Derived/Test/ToyasCard.lean, 'card_holds'). Laid BY PROGRAM, IN A SANDBOX (cutbox-door.mjs). By AI agents, Wed Nov 11 2026. No macro, syntax, notation, axiom, sorry.
-/
import Derived.Test.YtjekkidhbnkiaaaDoorRows
import GoSem.ClaimSeven
namespace Go.Proofs.YtjekkidhbnkiaaaDoor
namespace Rows

/-- THE TIED CARD OF 'duologuelaw03.ProctreeFree'. -/
def proctreeFreeCard : Claim7 := { stood := { row := proctreeFreeRow, standIns := [], harness := (true, "6575a83a77d7a4776ef9c157ad185901d6352c13f71febb662b88e7f1e368800"), looks := false }, kinds := [], alts := [], laidByText := true, laidKinds := [.widerDeep], laidTests := true, laidLooks := .later }
def ProctreeFreeCardSaid : Prop := Claim7.holds Tryd.pinned (.plain (OpenSpec.ofChange proctreeFreeSpec)) proctreeFreeCard

/-- THE TIED CARD OF 'duologuelaw03.ProctreeBinds'. -/
def proctreeBindsCard : Claim7 := { stood := { row := proctreeBindsRow, standIns := [], harness := (true, "6575a83a77d7a4776ef9c157ad185901d6352c13f71febb662b88e7f1e368800"), looks := false }, kinds := [], alts := [], laidByText := true, laidKinds := [.widerDeep], laidTests := true, laidLooks := .later }
def ProctreeBindsCardSaid : Prop := Claim7.holds Tryd.pinned (.plain (OpenSpec.ofChange proctreeBindsSpec)) proctreeBindsCard

/-- THE TIED CARD OF 'duologuelaw03.ProctreeKeeps'. -/
def proctreeKeepsCard : Claim7 := { stood := { row := proctreeKeepsRow, standIns := [], harness := (true, "6575a83a77d7a4776ef9c157ad185901d6352c13f71febb662b88e7f1e368800"), looks := false }, kinds := [], alts := [], laidByText := true, laidKinds := [.widerDeep], laidTests := true, laidLooks := .later }
def ProctreeKeepsCardSaid : Prop := Claim7.holds Tryd.pinned (.plain (OpenSpec.ofChange proctreeKeepsSpec)) proctreeKeepsCard

/-- THE TIED CARD OF 'duologuelaw03.ProctreeSizes'. -/
def proctreeSizesCard : Claim7 := { stood := { row := proctreeSizesRow, standIns := [], harness := (true, "6575a83a77d7a4776ef9c157ad185901d6352c13f71febb662b88e7f1e368800"), looks := false }, kinds := [], alts := [], laidByText := true, laidKinds := [.widerDeep], laidTests := true, laidLooks := .later }
def ProctreeSizesCardSaid : Prop := Claim7.holds Tryd.pinned (.plain (OpenSpec.ofChange proctreeSizesSpec)) proctreeSizesCard

/-- THE SECOND FORM's CARD OF 'duologuelaw03.ProctreeFree'. -/
def proctreeFreeUptoCard : Claim7 := { stood := { row := proctreeFreeUptoRow, standIns := [], harness := (true, "6575a83a77d7a4776ef9c157ad185901d6352c13f71febb662b88e7f1e368800"), looks := false }, kinds := [], alts := [], laidByText := true, laidKinds := [.widerDeep], laidTests := true, laidLooks := .later }
def ProctreeFreeUptoCardSaid : Prop := Claim7.holds Tryd.pinned (.plain (OpenSpec.upto proctreeFreeSpec)) proctreeFreeUptoCard

/-- THE SECOND FORM's CARD OF 'duologuelaw03.ProctreeBinds'. -/
def proctreeBindsUptoCard : Claim7 := { stood := { row := proctreeBindsUptoRow, standIns := [], harness := (true, "6575a83a77d7a4776ef9c157ad185901d6352c13f71febb662b88e7f1e368800"), looks := false }, kinds := [], alts := [], laidByText := true, laidKinds := [.widerDeep], laidTests := true, laidLooks := .later }
def ProctreeBindsUptoCardSaid : Prop := Claim7.holds Tryd.pinned (.plain (OpenSpec.upto proctreeBindsSpec)) proctreeBindsUptoCard

/-- THE SECOND FORM's CARD OF 'duologuelaw03.ProctreeKeeps'. -/
def proctreeKeepsUptoCard : Claim7 := { stood := { row := proctreeKeepsUptoRow, standIns := [], harness := (true, "6575a83a77d7a4776ef9c157ad185901d6352c13f71febb662b88e7f1e368800"), looks := false }, kinds := [], alts := [], laidByText := true, laidKinds := [.widerDeep], laidTests := true, laidLooks := .later }
def ProctreeKeepsUptoCardSaid : Prop := Claim7.holds Tryd.pinned (.plain (OpenSpec.upto proctreeKeepsSpec)) proctreeKeepsUptoCard

/-- THE SECOND FORM's CARD OF 'duologuelaw03.ProctreeSizes'. -/
def proctreeSizesUptoCard : Claim7 := { stood := { row := proctreeSizesUptoRow, standIns := [], harness := (true, "6575a83a77d7a4776ef9c157ad185901d6352c13f71febb662b88e7f1e368800"), looks := false }, kinds := [], alts := [], laidByText := true, laidKinds := [.widerDeep], laidTests := true, laidLooks := .later }
def ProctreeSizesUptoCardSaid : Prop := Claim7.holds Tryd.pinned (.plain (OpenSpec.upto proctreeSizesSpec)) proctreeSizesUptoCard
end Rows
end Go.Proofs.YtjekkidhbnkiaaaDoor
