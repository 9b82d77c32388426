/-
  DERIVED. GIVEN WITH THE SEED: THE CARDS: each row of YtphlhadgcfndhaaDoorRows.lean that lists a variable, with what it lists TIED to the program's text (the seventh form; the later family's looks); each row that meets fmt, with fmt's text TOLD by the authors' own Lean function (tested against real Go, not proved from fmt's source: count such statements apart). THE CARD IS WHAT COUNTS. Prove the row's statement (the work); the ties are given (YtphlhadgcfndhaaDoorTie.lean); close each card by the builder's one call (the guide's Derived/Test/ToyasCard.lean, 'card_holds'). Laid BY PROGRAM, IN A SANDBOX (cutbox-door.mjs). By AI agents, Wed Nov 11 2026. No macro, syntax, notation, axiom, sorry.
-/
import Derived.Test.YtphlhadgcfndhaaDoorRows
import GoSem.ClaimSeven
namespace Go.Proofs.YtphlhadgcfndhaaDoor
namespace Rows

/-- THE TIED CARD OF 'elasticstorelaw40.ExploreValidate'. -/
def exploreValidateCard : Claim7 := { stood := { row := exploreValidateRow, standIns := [], harness := (true, "a25f0d68e1ae8db8abf108acf0a31d360531f88eab39977887d9dcb1c424fd0f"), looks := false }, kinds := [], alts := [], laidByText := true, laidKinds := [.data, .data, .data], laidTests := true, laidLooks := .later }
def ExploreValidateCardSaid : Prop := Claim7.holds Tryd.pinned (.plain (OpenSpec.ofChange exploreValidateSpec)) exploreValidateCard

/-- THE TIED CARD OF 'elasticstorelaw40.ExploreSafe'. -/
def exploreSafeCard : Claim7 := { stood := { row := exploreSafeRow, standIns := [], harness := (true, "a25f0d68e1ae8db8abf108acf0a31d360531f88eab39977887d9dcb1c424fd0f"), looks := false }, kinds := [], alts := [], laidByText := true, laidKinds := [.data, .data, .data], laidTests := true, laidLooks := .later }
def ExploreSafeCardSaid : Prop := Claim7.holds Tryd.pinned (.plain (OpenSpec.ofChange exploreSafeSpec)) exploreSafeCard

/-- THE TIED CARD OF 'elasticstorelaw40.ExploreViolation'. -/
def exploreViolationCard : Claim7 := { stood := { row := exploreViolationRow, standIns := [], harness := (true, "a25f0d68e1ae8db8abf108acf0a31d360531f88eab39977887d9dcb1c424fd0f"), looks := false }, kinds := [], alts := [], laidByText := true, laidKinds := [.data, .data, .data], laidTests := true, laidLooks := .later }
def ExploreViolationCardSaid : Prop := Claim7.holds Tryd.pinned (.plain (OpenSpec.ofChange exploreViolationSpec)) exploreViolationCard

/-- THE TIED CARD OF 'elasticstorelaw40.ExploreSame'. -/
def exploreSameCard : Claim7 := { stood := { row := exploreSameRow, standIns := [], harness := (true, "a25f0d68e1ae8db8abf108acf0a31d360531f88eab39977887d9dcb1c424fd0f"), looks := false }, kinds := [], alts := [], laidByText := true, laidKinds := [.data, .data, .data], laidTests := true, laidLooks := .later }
def ExploreSameCardSaid : Prop := Claim7.holds Tryd.pinned (.plain (OpenSpec.ofChange exploreSameSpec)) exploreSameCard

/-- THE SECOND FORM's CARD OF 'elasticstorelaw40.ExploreValidate'. -/
def exploreValidateUptoCard : Claim7 := { stood := { row := exploreValidateUptoRow, standIns := [], harness := (true, "a25f0d68e1ae8db8abf108acf0a31d360531f88eab39977887d9dcb1c424fd0f"), looks := false }, kinds := [], alts := [], laidByText := true, laidKinds := [.data, .data, .data], laidTests := true, laidLooks := .later }
def ExploreValidateUptoCardSaid : Prop := Claim7.holds Tryd.pinned (.plain (OpenSpec.upto exploreValidateSpec)) exploreValidateUptoCard

/-- THE SECOND FORM's CARD OF 'elasticstorelaw40.ExploreSafe'. -/
def exploreSafeUptoCard : Claim7 := { stood := { row := exploreSafeUptoRow, standIns := [], harness := (true, "a25f0d68e1ae8db8abf108acf0a31d360531f88eab39977887d9dcb1c424fd0f"), looks := false }, kinds := [], alts := [], laidByText := true, laidKinds := [.data, .data, .data], laidTests := true, laidLooks := .later }
def ExploreSafeUptoCardSaid : Prop := Claim7.holds Tryd.pinned (.plain (OpenSpec.upto exploreSafeSpec)) exploreSafeUptoCard

/-- THE SECOND FORM's CARD OF 'elasticstorelaw40.ExploreViolation'. -/
def exploreViolationUptoCard : Claim7 := { stood := { row := exploreViolationUptoRow, standIns := [], harness := (true, "a25f0d68e1ae8db8abf108acf0a31d360531f88eab39977887d9dcb1c424fd0f"), looks := false }, kinds := [], alts := [], laidByText := true, laidKinds := [.data, .data, .data], laidTests := true, laidLooks := .later }
def ExploreViolationUptoCardSaid : Prop := Claim7.holds Tryd.pinned (.plain (OpenSpec.upto exploreViolationSpec)) exploreViolationUptoCard

/-- THE SECOND FORM's CARD OF 'elasticstorelaw40.ExploreSame'. -/
def exploreSameUptoCard : Claim7 := { stood := { row := exploreSameUptoRow, standIns := [], harness := (true, "a25f0d68e1ae8db8abf108acf0a31d360531f88eab39977887d9dcb1c424fd0f"), looks := false }, kinds := [], alts := [], laidByText := true, laidKinds := [.data, .data, .data], laidTests := true, laidLooks := .later }
def ExploreSameUptoCardSaid : Prop := Claim7.holds Tryd.pinned (.plain (OpenSpec.upto exploreSameSpec)) exploreSameUptoCard
end Rows
end Go.Proofs.YtphlhadgcfndhaaDoor
