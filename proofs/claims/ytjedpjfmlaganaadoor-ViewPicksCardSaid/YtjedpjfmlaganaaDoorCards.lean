/-
  DERIVED. GIVEN WITH THE SEED: THE CARDS: each row of YtjedpjfmlaganaaDoorRows.lean that lists a variable, with what it lists TIED to the program's text (the seventh form; the later family's looks); each row that meets fmt, with fmt's text TOLD by the authors' own Lean function (tested against real Go, not proved from fmt's source: count such statements apart). THE CARD IS WHAT COUNTS. Prove the row's statement (the work); the ties are given (YtjedpjfmlaganaaDoorTie.lean); close each card by the builder's one call (the guide's Derived/Test/ToyasCard.lean, 'card_holds'). Laid BY PROGRAM, IN A SANDBOX (cutbox-door.mjs). By AI agents, Wed Nov 11 2026. No macro, syntax, notation, axiom, sorry.
-/
import Derived.Test.YtjedpjfmlaganaaDoorRows
import GoSem.ClaimSeven
namespace Go.Proofs.YtjedpjfmlaganaaDoor
namespace Rows

/-- THE TIED CARD OF 'pilasterlaw28.ViewSelects'. -/
def viewSelectsCard : Claim7 := { stood := { row := viewSelectsRow, standIns := [], harness := (true, "1dcbd9a343f7832da71351c3765e042fdc02130013002b8b330f5b137e9f11c3"), looks := false }, kinds := [], alts := [], laidByText := true, laidKinds := [.data, .pinned], laidTests := true, laidLooks := .later }
def ViewSelectsCardSaid : Prop := Claim7.holds Tryd.pinned (.plain (OpenSpec.ofChange viewSelectsSpec)) viewSelectsCard

/-- THE TIED CARD OF 'pilasterlaw28.ViewPicks'. -/
def viewPicksCard : Claim7 := { stood := { row := viewPicksRow, standIns := [], harness := (true, "1dcbd9a343f7832da71351c3765e042fdc02130013002b8b330f5b137e9f11c3"), looks := false }, kinds := [], alts := [], laidByText := true, laidKinds := [.data, .pinned], laidTests := true, laidLooks := .later }
def ViewPicksCardSaid : Prop := Claim7.holds Tryd.pinned (.plain (OpenSpec.ofChange viewPicksSpec)) viewPicksCard

/-- THE SECOND FORM's CARD OF 'pilasterlaw28.ViewSelects'. -/
def viewSelectsUptoCard : Claim7 := { stood := { row := viewSelectsUptoRow, standIns := [], harness := (true, "1dcbd9a343f7832da71351c3765e042fdc02130013002b8b330f5b137e9f11c3"), looks := false }, kinds := [], alts := [], laidByText := true, laidKinds := [.data, .pinned], laidTests := true, laidLooks := .later }
def ViewSelectsUptoCardSaid : Prop := Claim7.holds Tryd.pinned (.plain (OpenSpec.upto viewSelectsSpec)) viewSelectsUptoCard

/-- THE SECOND FORM's CARD OF 'pilasterlaw28.ViewPicks'. -/
def viewPicksUptoCard : Claim7 := { stood := { row := viewPicksUptoRow, standIns := [], harness := (true, "1dcbd9a343f7832da71351c3765e042fdc02130013002b8b330f5b137e9f11c3"), looks := false }, kinds := [], alts := [], laidByText := true, laidKinds := [.data, .pinned], laidTests := true, laidLooks := .later }
def ViewPicksUptoCardSaid : Prop := Claim7.holds Tryd.pinned (.plain (OpenSpec.upto viewPicksSpec)) viewPicksUptoCard
end Rows
end Go.Proofs.YtjedpjfmlaganaaDoor
