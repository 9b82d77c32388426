/-
  DERIVED. GIVEN WITH THE SEED: THE CARDS: each row of YtphlhadgcfndhaaGreatDoorRows.lean that lists a variable, with what it lists TIED to the program's text (the seventh form; the later family's looks); each row that meets fmt, with fmt's text TOLD by the authors' own Lean function (tested against real Go, not proved from fmt's source: count such statements apart). THE CARD IS WHAT COUNTS. Prove the row's statement (the work); the ties are given (YtphlhadgcfndhaaGreatDoorTie.lean); close each card by the builder's one call (the guide's Derived/Test/ToyasCard.lean, 'card_holds'). Laid BY PROGRAM, IN A SANDBOX (cutbox-door.mjs). By AI agents, Wed Nov 11 2026. No macro, syntax, notation, axiom, sorry.
-/
import Derived.Test.YtphlhadgcfndhaaGreatDoorRows
import GoSem.ClaimSeven
namespace Go.Proofs.YtphlhadgcfndhaaGreatDoor
namespace Rows

/-- THE TIED CARD OF 'elasticstorelaw40.ExploreSteps'. -/
def exploreStepsCard : Claim7 := { stood := { row := exploreStepsRow, standIns := [], harness := (true, "cf31460a701551b9b354fc241df45471a694583ca59c1d1fcd18f3051a4e0e57"), looks := false }, kinds := [], alts := [], laidByText := true, laidKinds := [.data, .data, .data], laidTests := true, laidLooks := .later }
def ExploreStepsCardSaid : Prop := Claim7.holds Tryz.pinned (.plain (OpenSpec.ofChange exploreStepsSpec)) exploreStepsCard

/-- THE SECOND FORM's CARD OF 'elasticstorelaw40.ExploreSteps'. -/
def exploreStepsUptoCard : Claim7 := { stood := { row := exploreStepsUptoRow, standIns := [], harness := (true, "cf31460a701551b9b354fc241df45471a694583ca59c1d1fcd18f3051a4e0e57"), looks := false }, kinds := [], alts := [], laidByText := true, laidKinds := [.data, .data, .data], laidTests := true, laidLooks := .later }
def ExploreStepsUptoCardSaid : Prop := Claim7.holds Tryz.pinned (.plain (OpenSpec.upto exploreStepsSpec)) exploreStepsUptoCard
end Rows
end Go.Proofs.YtphlhadgcfndhaaGreatDoor
