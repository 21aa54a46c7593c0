/-
  DERIVED. GIVEN WITH THE SEED: THE CARDS: each row of YtbfilhaigbebpaaDoorRows.lean that lists a variable, with what it lists TIED to the program's text (the seventh form; the later family's looks); each row that meets fmt, with fmt's text TOLD by the authors' own Lean function (tested against real Go, not proved from fmt's source: count such statements apart). THE CARD IS WHAT COUNTS. Prove the row's statement (the work); the ties are given (YtbfilhaigbebpaaDoorTie.lean); close each card by the builder's one call (the guide's Derived/Test/ToyasCard.lean, 'card_holds'). Laid BY PROGRAM, IN A SANDBOX (cutbox-door.mjs). By AI agents, Wed Nov 11 2026. No macro, syntax, notation, axiom, sorry.
-/
import Derived.Test.YtbfilhaigbebpaaDoorRows
import GoSem.ClaimSeven
namespace Go.Proofs.YtbfilhaigbebpaaDoor
namespace Rows

/-- THE TIED CARD OF 'truglaw15.RootsDumps'. -/
def rootsDumpsCard : Claim7 := { stood := { row := rootsDumpsRow, standIns := [], harness := (true, "6266663437662ea72edc6a47c7bafabcd50b56fe735f93247bb89da89eddd568"), looks := false }, kinds := [], alts := [], laidByText := true, laidKinds := [.data], laidTests := true, laidLooks := .later }
def RootsDumpsCardSaid : Prop := Claim7.holds Tryd.pinned (.plain (OpenSpec.ofChange rootsDumpsSpec)) rootsDumpsCard

/-- THE TIED CARD OF 'truglaw15.RootsLoads'. -/
def rootsLoadsCard : Claim7 := { stood := { row := rootsLoadsRow, standIns := [], harness := (true, "6266663437662ea72edc6a47c7bafabcd50b56fe735f93247bb89da89eddd568"), looks := false }, kinds := [], alts := [], laidByText := true, laidKinds := [.data], laidTests := true, laidLooks := .later }
def RootsLoadsCardSaid : Prop := Claim7.holds Tryd.pinned (.plain (OpenSpec.ofChange rootsLoadsSpec)) rootsLoadsCard

/-- THE TIED CARD OF 'truglaw15.RootsPicks'. -/
def rootsPicksCard : Claim7 := { stood := { row := rootsPicksRow, standIns := [], harness := (true, "6266663437662ea72edc6a47c7bafabcd50b56fe735f93247bb89da89eddd568"), looks := false }, kinds := [], alts := [], laidByText := true, laidKinds := [.data], laidTests := true, laidLooks := .later }
def RootsPicksCardSaid : Prop := Claim7.holds Tryd.pinned (.plain (OpenSpec.ofChange rootsPicksSpec)) rootsPicksCard

/-- THE TIED CARD OF 'truglaw15.RootsBack'. -/
def rootsBackCard : Claim7 := { stood := { row := rootsBackRow, standIns := [], harness := (true, "6266663437662ea72edc6a47c7bafabcd50b56fe735f93247bb89da89eddd568"), looks := false }, kinds := [], alts := [], laidByText := true, laidKinds := [.data], laidTests := true, laidLooks := .later }
def RootsBackCardSaid : Prop := Claim7.holds Tryd.pinned (.plain (OpenSpec.ofChange rootsBackSpec)) rootsBackCard

/-- THE TIED CARD OF 'truglaw15.RootsOther'. -/
def rootsOtherCard : Claim7 := { stood := { row := rootsOtherRow, standIns := [], harness := (true, "6266663437662ea72edc6a47c7bafabcd50b56fe735f93247bb89da89eddd568"), looks := false }, kinds := [], alts := [], laidByText := true, laidKinds := [.data], laidTests := true, laidLooks := .later }
def RootsOtherCardSaid : Prop := Claim7.holds Tryd.pinned (.plain (OpenSpec.ofChange rootsOtherSpec)) rootsOtherCard

/-- THE TIED CARD OF 'truglaw15.RootsPlaces'. -/
def rootsPlacesCard : Claim7 := { stood := { row := rootsPlacesRow, standIns := [], harness := (true, "6266663437662ea72edc6a47c7bafabcd50b56fe735f93247bb89da89eddd568"), looks := false }, kinds := [], alts := [], laidByText := true, laidKinds := [.data], laidTests := true, laidLooks := .later }
def RootsPlacesCardSaid : Prop := Claim7.holds Tryd.pinned (.plain (OpenSpec.ofChange rootsPlacesSpec)) rootsPlacesCard

/-- THE SECOND FORM's CARD OF 'truglaw15.RootsDumps'. -/
def rootsDumpsUptoCard : Claim7 := { stood := { row := rootsDumpsUptoRow, standIns := [], harness := (true, "6266663437662ea72edc6a47c7bafabcd50b56fe735f93247bb89da89eddd568"), looks := false }, kinds := [], alts := [], laidByText := true, laidKinds := [.data], laidTests := true, laidLooks := .later }
def RootsDumpsUptoCardSaid : Prop := Claim7.holds Tryd.pinned (.plain (OpenSpec.upto rootsDumpsSpec)) rootsDumpsUptoCard

/-- THE SECOND FORM's CARD OF 'truglaw15.RootsLoads'. -/
def rootsLoadsUptoCard : Claim7 := { stood := { row := rootsLoadsUptoRow, standIns := [], harness := (true, "6266663437662ea72edc6a47c7bafabcd50b56fe735f93247bb89da89eddd568"), looks := false }, kinds := [], alts := [], laidByText := true, laidKinds := [.data], laidTests := true, laidLooks := .later }
def RootsLoadsUptoCardSaid : Prop := Claim7.holds Tryd.pinned (.plain (OpenSpec.upto rootsLoadsSpec)) rootsLoadsUptoCard

/-- THE SECOND FORM's CARD OF 'truglaw15.RootsPicks'. -/
def rootsPicksUptoCard : Claim7 := { stood := { row := rootsPicksUptoRow, standIns := [], harness := (true, "6266663437662ea72edc6a47c7bafabcd50b56fe735f93247bb89da89eddd568"), looks := false }, kinds := [], alts := [], laidByText := true, laidKinds := [.data], laidTests := true, laidLooks := .later }
def RootsPicksUptoCardSaid : Prop := Claim7.holds Tryd.pinned (.plain (OpenSpec.upto rootsPicksSpec)) rootsPicksUptoCard

/-- THE SECOND FORM's CARD OF 'truglaw15.RootsBack'. -/
def rootsBackUptoCard : Claim7 := { stood := { row := rootsBackUptoRow, standIns := [], harness := (true, "6266663437662ea72edc6a47c7bafabcd50b56fe735f93247bb89da89eddd568"), looks := false }, kinds := [], alts := [], laidByText := true, laidKinds := [.data], laidTests := true, laidLooks := .later }
def RootsBackUptoCardSaid : Prop := Claim7.holds Tryd.pinned (.plain (OpenSpec.upto rootsBackSpec)) rootsBackUptoCard

/-- THE SECOND FORM's CARD OF 'truglaw15.RootsOther'. -/
def rootsOtherUptoCard : Claim7 := { stood := { row := rootsOtherUptoRow, standIns := [], harness := (true, "6266663437662ea72edc6a47c7bafabcd50b56fe735f93247bb89da89eddd568"), looks := false }, kinds := [], alts := [], laidByText := true, laidKinds := [.data], laidTests := true, laidLooks := .later }
def RootsOtherUptoCardSaid : Prop := Claim7.holds Tryd.pinned (.plain (OpenSpec.upto rootsOtherSpec)) rootsOtherUptoCard

/-- THE SECOND FORM's CARD OF 'truglaw15.RootsPlaces'. -/
def rootsPlacesUptoCard : Claim7 := { stood := { row := rootsPlacesUptoRow, standIns := [], harness := (true, "6266663437662ea72edc6a47c7bafabcd50b56fe735f93247bb89da89eddd568"), looks := false }, kinds := [], alts := [], laidByText := true, laidKinds := [.data], laidTests := true, laidLooks := .later }
def RootsPlacesUptoCardSaid : Prop := Claim7.holds Tryd.pinned (.plain (OpenSpec.upto rootsPlacesSpec)) rootsPlacesUptoCard
end Rows
end Go.Proofs.YtbfilhaigbebpaaDoor
