/-
  DERIVED. GIVEN WITH THE SEED: THE CARDS: each row of YtfmbddfenghnlaaGreatDoorRows.lean that lists a variable, with what it lists TIED to the program's text (the seventh form; the later family's looks); each row that meets fmt, with fmt's text TOLD by the authors' own Lean function (tested against real Go, not proved from fmt's source: count such statements apart). THE CARD IS WHAT COUNTS. Prove the row's statement (the work); the ties are given (YtfmbddfenghnlaaGreatDoorTie.lean); close each card by the builder's one call (the guide's Derived/Test/ToyasCard.lean, 'card_holds'). Laid BY PROGRAM, IN A SANDBOX (cutbox-door.mjs). By AI agents, Wed Nov 11 2026. No macro, syntax, notation, axiom, sorry.
-/
import Derived.Test.YtfmbddfenghnlaaGreatDoorRows
import GoSem.ClaimSeven
namespace Go.Proofs.YtfmbddfenghnlaaGreatDoor
namespace Rows

/-- THE TIED CARD OF 'duologuelaw06.ScopeChecks'. -/
def scopeChecksCard : Claim7 := { stood := { row := scopeChecksRow, standIns := [], harness := (true, "32c52e681f2e0be1123e347b0918b3c38ed32ddb2011a60cf84e758654b6479c"), looks := true }, kinds := [], alts := [], laidByText := true, laidKinds := [.widerDeep], laidTests := true, laidLooks := .later }
def ScopeChecksCardSaid : Prop := Claim7.holds Tryz.pinned (.plain (OpenSpec.ofChange scopeChecksSpec)) scopeChecksCard

/-- THE TIED CARD OF 'duologuelaw06.ScopeFinds'. -/
def scopeFindsCard : Claim7 := { stood := { row := scopeFindsRow, standIns := [], harness := (true, "32c52e681f2e0be1123e347b0918b3c38ed32ddb2011a60cf84e758654b6479c"), looks := true }, kinds := [], alts := [], laidByText := true, laidKinds := [.widerDeep], laidTests := true, laidLooks := .later }
def ScopeFindsCardSaid : Prop := Claim7.holds Tryz.pinned (.plain (OpenSpec.ofChange scopeFindsSpec)) scopeFindsCard

/-- THE TIED CARD OF 'duologuelaw06.ScopeFree'. -/
def scopeFreeCard : Claim7 := { stood := { row := scopeFreeRow, standIns := [], harness := (true, "32c52e681f2e0be1123e347b0918b3c38ed32ddb2011a60cf84e758654b6479c"), looks := true }, kinds := [], alts := [], laidByText := true, laidKinds := [.widerDeep], laidTests := true, laidLooks := .later }
def ScopeFreeCardSaid : Prop := Claim7.holds Tryz.pinned (.plain (OpenSpec.ofChange scopeFreeSpec)) scopeFreeCard

/-- THE TIED CARD OF 'duologuelaw06.ScopeMore'. -/
def scopeMoreCard : Claim7 := { stood := { row := scopeMoreRow, standIns := [], harness := (true, "32c52e681f2e0be1123e347b0918b3c38ed32ddb2011a60cf84e758654b6479c"), looks := true }, kinds := [], alts := [], laidByText := true, laidKinds := [.widerDeep], laidTests := true, laidLooks := .later }
def ScopeMoreCardSaid : Prop := Claim7.holds Tryz.pinned (.plain (OpenSpec.ofChange scopeMoreSpec)) scopeMoreCard

/-- THE TIED CARD OF 'duologuelaw06.ScopeOrders'. -/
def scopeOrdersCard : Claim7 := { stood := { row := scopeOrdersRow, standIns := [], harness := (true, "32c52e681f2e0be1123e347b0918b3c38ed32ddb2011a60cf84e758654b6479c"), looks := true }, kinds := [], alts := [], laidByText := true, laidKinds := [.widerDeep], laidTests := true, laidLooks := .later }
def ScopeOrdersCardSaid : Prop := Claim7.holds Tryz.pinned (.plain (OpenSpec.ofChange scopeOrdersSpec)) scopeOrdersCard

/-- THE SECOND FORM's CARD OF 'duologuelaw06.ScopeChecks'. -/
def scopeChecksUptoCard : Claim7 := { stood := { row := scopeChecksUptoRow, standIns := [], harness := (true, "32c52e681f2e0be1123e347b0918b3c38ed32ddb2011a60cf84e758654b6479c"), looks := true }, kinds := [], alts := [], laidByText := true, laidKinds := [.widerDeep], laidTests := true, laidLooks := .later }
def ScopeChecksUptoCardSaid : Prop := Claim7.holds Tryz.pinned (.plain (OpenSpec.upto scopeChecksSpec)) scopeChecksUptoCard

/-- THE SECOND FORM's CARD OF 'duologuelaw06.ScopeFinds'. -/
def scopeFindsUptoCard : Claim7 := { stood := { row := scopeFindsUptoRow, standIns := [], harness := (true, "32c52e681f2e0be1123e347b0918b3c38ed32ddb2011a60cf84e758654b6479c"), looks := true }, kinds := [], alts := [], laidByText := true, laidKinds := [.widerDeep], laidTests := true, laidLooks := .later }
def ScopeFindsUptoCardSaid : Prop := Claim7.holds Tryz.pinned (.plain (OpenSpec.upto scopeFindsSpec)) scopeFindsUptoCard

/-- THE SECOND FORM's CARD OF 'duologuelaw06.ScopeFree'. -/
def scopeFreeUptoCard : Claim7 := { stood := { row := scopeFreeUptoRow, standIns := [], harness := (true, "32c52e681f2e0be1123e347b0918b3c38ed32ddb2011a60cf84e758654b6479c"), looks := true }, kinds := [], alts := [], laidByText := true, laidKinds := [.widerDeep], laidTests := true, laidLooks := .later }
def ScopeFreeUptoCardSaid : Prop := Claim7.holds Tryz.pinned (.plain (OpenSpec.upto scopeFreeSpec)) scopeFreeUptoCard

/-- THE SECOND FORM's CARD OF 'duologuelaw06.ScopeMore'. -/
def scopeMoreUptoCard : Claim7 := { stood := { row := scopeMoreUptoRow, standIns := [], harness := (true, "32c52e681f2e0be1123e347b0918b3c38ed32ddb2011a60cf84e758654b6479c"), looks := true }, kinds := [], alts := [], laidByText := true, laidKinds := [.widerDeep], laidTests := true, laidLooks := .later }
def ScopeMoreUptoCardSaid : Prop := Claim7.holds Tryz.pinned (.plain (OpenSpec.upto scopeMoreSpec)) scopeMoreUptoCard

/-- THE SECOND FORM's CARD OF 'duologuelaw06.ScopeOrders'. -/
def scopeOrdersUptoCard : Claim7 := { stood := { row := scopeOrdersUptoRow, standIns := [], harness := (true, "32c52e681f2e0be1123e347b0918b3c38ed32ddb2011a60cf84e758654b6479c"), looks := true }, kinds := [], alts := [], laidByText := true, laidKinds := [.widerDeep], laidTests := true, laidLooks := .later }
def ScopeOrdersUptoCardSaid : Prop := Claim7.holds Tryz.pinned (.plain (OpenSpec.upto scopeOrdersSpec)) scopeOrdersUptoCard
end Rows
end Go.Proofs.YtfmbddfenghnlaaGreatDoor
