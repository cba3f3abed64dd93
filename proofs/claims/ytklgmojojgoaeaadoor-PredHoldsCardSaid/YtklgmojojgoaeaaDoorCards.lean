/-
  DERIVED. GIVEN WITH THE SEED: THE CARDS: each row of YtklgmojojgoaeaaDoorRows.lean that lists a variable, with what it lists TIED to the program's text (the seventh form; the later family's looks); each row that meets fmt, with fmt's text TOLD by the authors' own Lean function (tested against real Go, not proved from fmt's source: count such statements apart). THE CARD IS WHAT COUNTS. Prove the row's statement (the work); the ties are given (YtklgmojojgoaeaaDoorTie.lean); close each card by the builder's one call (the guide's Derived/Test/ToyasCard.lean, 'card_holds'). Laid BY PROGRAM, IN A SANDBOX (cutbox-door.mjs). By AI agents, Wed Nov 11 2026. No macro, syntax, notation, axiom, sorry.
-/
import Derived.Test.YtklgmojojgoaeaaDoorRows
import GoSem.ClaimSeven
namespace Go.Proofs.YtklgmojojgoaeaaDoor
namespace Rows

/-- THE TIED CARD OF 'pilasterlaw18.PredEvals'. -/
def predEvalsCard : Claim7 := { stood := { row := predEvalsRow, standIns := [], harness := (true, "892e9c7958fb20978e7aa3df45f9dcf279d9160a6342239ca8a1cb7b9e6b89dd"), looks := false }, kinds := [], alts := [], laidByText := true, laidKinds := [.data, .pinned], laidTests := true, laidLooks := .later }
def PredEvalsCardSaid : Prop := Claim7.holds Tryd.pinned (.plain (OpenSpec.ofChange predEvalsSpec)) predEvalsCard

/-- THE TIED CARD OF 'pilasterlaw18.PredTurned'. -/
def predTurnedCard : Claim7 := { stood := { row := predTurnedRow, standIns := [], harness := (true, "892e9c7958fb20978e7aa3df45f9dcf279d9160a6342239ca8a1cb7b9e6b89dd"), looks := false }, kinds := [], alts := [], laidByText := true, laidKinds := [.data, .pinned], laidTests := true, laidLooks := .later }
def PredTurnedCardSaid : Prop := Claim7.holds Tryd.pinned (.plain (OpenSpec.ofChange predTurnedSpec)) predTurnedCard

/-- THE TIED CARD OF 'pilasterlaw18.PredKnows'. -/
def predKnowsCard : Claim7 := { stood := { row := predKnowsRow, standIns := [], harness := (true, "892e9c7958fb20978e7aa3df45f9dcf279d9160a6342239ca8a1cb7b9e6b89dd"), looks := false }, kinds := [], alts := [], laidByText := true, laidKinds := [.data, .pinned], laidTests := true, laidLooks := .later }
def PredKnowsCardSaid : Prop := Claim7.holds Tryd.pinned (.plain (OpenSpec.ofChange predKnowsSpec)) predKnowsCard

/-- THE TIED CARD OF 'pilasterlaw18.PredHolds'. -/
def predHoldsCard : Claim7 := { stood := { row := predHoldsRow, standIns := [], harness := (true, "892e9c7958fb20978e7aa3df45f9dcf279d9160a6342239ca8a1cb7b9e6b89dd"), looks := false }, kinds := [], alts := [], laidByText := true, laidKinds := [.data, .pinned], laidTests := true, laidLooks := .later }
def PredHoldsCardSaid : Prop := Claim7.holds Tryd.pinned (.plain (OpenSpec.ofChange predHoldsSpec)) predHoldsCard

/-- THE TIED CARD OF 'pilasterlaw18.PredMay'. -/
def predMayCard : Claim7 := { stood := { row := predMayRow, standIns := [], harness := (true, "892e9c7958fb20978e7aa3df45f9dcf279d9160a6342239ca8a1cb7b9e6b89dd"), looks := false }, kinds := [], alts := [], laidByText := true, laidKinds := [.data, .pinned], laidTests := true, laidLooks := .later }
def PredMayCardSaid : Prop := Claim7.holds Tryd.pinned (.plain (OpenSpec.ofChange predMaySpec)) predMayCard

/-- THE SECOND FORM's CARD OF 'pilasterlaw18.PredEvals'. -/
def predEvalsUptoCard : Claim7 := { stood := { row := predEvalsUptoRow, standIns := [], harness := (true, "892e9c7958fb20978e7aa3df45f9dcf279d9160a6342239ca8a1cb7b9e6b89dd"), looks := false }, kinds := [], alts := [], laidByText := true, laidKinds := [.data, .pinned], laidTests := true, laidLooks := .later }
def PredEvalsUptoCardSaid : Prop := Claim7.holds Tryd.pinned (.plain (OpenSpec.upto predEvalsSpec)) predEvalsUptoCard

/-- THE SECOND FORM's CARD OF 'pilasterlaw18.PredTurned'. -/
def predTurnedUptoCard : Claim7 := { stood := { row := predTurnedUptoRow, standIns := [], harness := (true, "892e9c7958fb20978e7aa3df45f9dcf279d9160a6342239ca8a1cb7b9e6b89dd"), looks := false }, kinds := [], alts := [], laidByText := true, laidKinds := [.data, .pinned], laidTests := true, laidLooks := .later }
def PredTurnedUptoCardSaid : Prop := Claim7.holds Tryd.pinned (.plain (OpenSpec.upto predTurnedSpec)) predTurnedUptoCard

/-- THE SECOND FORM's CARD OF 'pilasterlaw18.PredKnows'. -/
def predKnowsUptoCard : Claim7 := { stood := { row := predKnowsUptoRow, standIns := [], harness := (true, "892e9c7958fb20978e7aa3df45f9dcf279d9160a6342239ca8a1cb7b9e6b89dd"), looks := false }, kinds := [], alts := [], laidByText := true, laidKinds := [.data, .pinned], laidTests := true, laidLooks := .later }
def PredKnowsUptoCardSaid : Prop := Claim7.holds Tryd.pinned (.plain (OpenSpec.upto predKnowsSpec)) predKnowsUptoCard

/-- THE SECOND FORM's CARD OF 'pilasterlaw18.PredHolds'. -/
def predHoldsUptoCard : Claim7 := { stood := { row := predHoldsUptoRow, standIns := [], harness := (true, "892e9c7958fb20978e7aa3df45f9dcf279d9160a6342239ca8a1cb7b9e6b89dd"), looks := false }, kinds := [], alts := [], laidByText := true, laidKinds := [.data, .pinned], laidTests := true, laidLooks := .later }
def PredHoldsUptoCardSaid : Prop := Claim7.holds Tryd.pinned (.plain (OpenSpec.upto predHoldsSpec)) predHoldsUptoCard

/-- THE SECOND FORM's CARD OF 'pilasterlaw18.PredMay'. -/
def predMayUptoCard : Claim7 := { stood := { row := predMayUptoRow, standIns := [], harness := (true, "892e9c7958fb20978e7aa3df45f9dcf279d9160a6342239ca8a1cb7b9e6b89dd"), looks := false }, kinds := [], alts := [], laidByText := true, laidKinds := [.data, .pinned], laidTests := true, laidLooks := .later }
def PredMayUptoCardSaid : Prop := Claim7.holds Tryd.pinned (.plain (OpenSpec.upto predMaySpec)) predMayUptoCard
end Rows
end Go.Proofs.YtklgmojojgoaeaaDoor
