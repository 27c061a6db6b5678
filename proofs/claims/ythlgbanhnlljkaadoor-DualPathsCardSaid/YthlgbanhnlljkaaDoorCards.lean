/-
  DERIVED. GIVEN WITH THE SEED: THE CARDS: each row of YthlgbanhnlljkaaDoorRows.lean that lists a variable, with what it lists TIED to the program's text (the seventh form; the later family's looks); each row that meets fmt, with fmt's text TOLD by the authors' own Lean function (tested against real Go, not proved from fmt's source: count such statements apart). THE CARD IS WHAT COUNTS. Prove the row's statement (the work); the ties are given (YthlgbanhnlljkaaDoorTie.lean); close each card by the builder's one call (the guide's Derived/Test/ToyasCard.lean, 'card_holds'). Laid BY PROGRAM, IN A SANDBOX (cutbox-door.mjs). By AI agents, Wed Nov 11 2026. No macro, syntax, notation, axiom, sorry.
-/
import Derived.Test.YthlgbanhnlljkaaDoorRows
import GoSem.ClaimSeven
namespace Go.Proofs.YthlgbanhnlljkaaDoor
namespace Rows

/-- THE TIED CARD OF 'duologuelaw09.DualMatchesReference'. -/
def dualMatchesReferenceCard : Claim7 := { stood := { row := dualMatchesReferenceRow, standIns := [], harness := (true, "613994a042b1ae7366147a0236993bf11be075bf17c7c7e6603c58f885aad528"), looks := false }, kinds := [], alts := [], laidByText := true, laidKinds := [.data], laidTests := true, laidLooks := .later }
def DualMatchesReferenceCardSaid : Prop := Claim7.holds Tryd.pinned (.plain (OpenSpec.ofChange dualMatchesReferenceSpec)) dualMatchesReferenceCard

/-- THE TIED CARD OF 'duologuelaw09.DualInvolution'. -/
def dualInvolutionCard : Claim7 := { stood := { row := dualInvolutionRow, standIns := [], harness := (true, "613994a042b1ae7366147a0236993bf11be075bf17c7c7e6603c58f885aad528"), looks := false }, kinds := [], alts := [], laidByText := true, laidKinds := [.data], laidTests := true, laidLooks := .later }
def DualInvolutionCardSaid : Prop := Claim7.holds Tryd.pinned (.plain (OpenSpec.ofChange dualInvolutionSpec)) dualInvolutionCard

/-- THE TIED CARD OF 'duologuelaw09.DualKinds'. -/
def dualKindsCard : Claim7 := { stood := { row := dualKindsRow, standIns := [], harness := (true, "613994a042b1ae7366147a0236993bf11be075bf17c7c7e6603c58f885aad528"), looks := false }, kinds := [], alts := [], laidByText := true, laidKinds := [.data], laidTests := true, laidLooks := .later }
def DualKindsCardSaid : Prop := Claim7.holds Tryd.pinned (.plain (OpenSpec.ofChange dualKindsSpec)) dualKindsCard

/-- THE TIED CARD OF 'duologuelaw09.DualPaths'. -/
def dualPathsCard : Claim7 := { stood := { row := dualPathsRow, standIns := [], harness := (true, "613994a042b1ae7366147a0236993bf11be075bf17c7c7e6603c58f885aad528"), looks := false }, kinds := [], alts := [], laidByText := true, laidKinds := [.data], laidTests := true, laidLooks := .later }
def DualPathsCardSaid : Prop := Claim7.holds Tryd.pinned (.plain (OpenSpec.ofChange dualPathsSpec)) dualPathsCard

/-- THE SECOND FORM's CARD OF 'duologuelaw09.DualMatchesReference'. -/
def dualMatchesReferenceUptoCard : Claim7 := { stood := { row := dualMatchesReferenceUptoRow, standIns := [], harness := (true, "613994a042b1ae7366147a0236993bf11be075bf17c7c7e6603c58f885aad528"), looks := false }, kinds := [], alts := [], laidByText := true, laidKinds := [.data], laidTests := true, laidLooks := .later }
def DualMatchesReferenceUptoCardSaid : Prop := Claim7.holds Tryd.pinned (.plain (OpenSpec.upto dualMatchesReferenceSpec)) dualMatchesReferenceUptoCard

/-- THE SECOND FORM's CARD OF 'duologuelaw09.DualInvolution'. -/
def dualInvolutionUptoCard : Claim7 := { stood := { row := dualInvolutionUptoRow, standIns := [], harness := (true, "613994a042b1ae7366147a0236993bf11be075bf17c7c7e6603c58f885aad528"), looks := false }, kinds := [], alts := [], laidByText := true, laidKinds := [.data], laidTests := true, laidLooks := .later }
def DualInvolutionUptoCardSaid : Prop := Claim7.holds Tryd.pinned (.plain (OpenSpec.upto dualInvolutionSpec)) dualInvolutionUptoCard

/-- THE SECOND FORM's CARD OF 'duologuelaw09.DualKinds'. -/
def dualKindsUptoCard : Claim7 := { stood := { row := dualKindsUptoRow, standIns := [], harness := (true, "613994a042b1ae7366147a0236993bf11be075bf17c7c7e6603c58f885aad528"), looks := false }, kinds := [], alts := [], laidByText := true, laidKinds := [.data], laidTests := true, laidLooks := .later }
def DualKindsUptoCardSaid : Prop := Claim7.holds Tryd.pinned (.plain (OpenSpec.upto dualKindsSpec)) dualKindsUptoCard

/-- THE SECOND FORM's CARD OF 'duologuelaw09.DualPaths'. -/
def dualPathsUptoCard : Claim7 := { stood := { row := dualPathsUptoRow, standIns := [], harness := (true, "613994a042b1ae7366147a0236993bf11be075bf17c7c7e6603c58f885aad528"), looks := false }, kinds := [], alts := [], laidByText := true, laidKinds := [.data], laidTests := true, laidLooks := .later }
def DualPathsUptoCardSaid : Prop := Claim7.holds Tryd.pinned (.plain (OpenSpec.upto dualPathsSpec)) dualPathsUptoCard
end Rows
end Go.Proofs.YthlgbanhnlljkaaDoor
