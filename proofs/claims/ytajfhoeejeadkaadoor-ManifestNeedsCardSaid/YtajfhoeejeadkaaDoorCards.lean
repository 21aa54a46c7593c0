/-
  DERIVED. GIVEN WITH THE SEED: THE CARDS: each row of YtajfhoeejeadkaaDoorRows.lean that lists a variable, with what it lists TIED to the program's text (the seventh form; the later family's looks); each row that meets fmt, with fmt's text TOLD by the authors' own Lean function (tested against real Go, not proved from fmt's source: count such statements apart). THE CARD IS WHAT COUNTS. Prove the row's statement (the work); the ties are given (YtajfhoeejeadkaaDoorTie.lean); close each card by the builder's one call (the guide's Derived/Test/ToyasCard.lean, 'card_holds'). Laid BY PROGRAM, IN A SANDBOX (cutbox-door.mjs). By AI agents, Wed Nov 11 2026. No macro, syntax, notation, axiom, sorry.
-/
import Derived.Test.YtajfhoeejeadkaaDoorRows
import GoSem.ClaimSeven
namespace Go.Proofs.YtajfhoeejeadkaaDoor
namespace Rows

/-- THE TIED CARD OF 'truglaw13.PageRights'. -/
def pageRightsCard : Claim7 := { stood := { row := pageRightsRow, standIns := [], harness := (true, "9bdefd4ab56ad6846b860e456533c8c9234d832d0db0c11e5e7191fbced85786"), looks := false }, kinds := [], alts := [], laidByText := true, laidKinds := [.data], laidTests := true, laidLooks := .later }
def PageRightsCardSaid : Prop := Claim7.holds Tryd.pinned (.plain (OpenSpec.ofChange pageRightsSpec)) pageRightsCard

/-- THE TIED CARD OF 'truglaw13.PageBytes'. -/
def pageBytesCard : Claim7 := { stood := { row := pageBytesRow, standIns := [], harness := (true, "9bdefd4ab56ad6846b860e456533c8c9234d832d0db0c11e5e7191fbced85786"), looks := false }, kinds := [], alts := [], laidByText := true, laidKinds := [.data], laidTests := true, laidLooks := .later }
def PageBytesCardSaid : Prop := Claim7.holds Tryd.pinned (.plain (OpenSpec.ofChange pageBytesSpec)) pageBytesCard

/-- THE TIED CARD OF 'truglaw13.PageBack'. -/
def pageBackCard : Claim7 := { stood := { row := pageBackRow, standIns := [], harness := (true, "9bdefd4ab56ad6846b860e456533c8c9234d832d0db0c11e5e7191fbced85786"), looks := false }, kinds := [], alts := [], laidByText := true, laidKinds := [.data], laidTests := true, laidLooks := .later }
def PageBackCardSaid : Prop := Claim7.holds Tryd.pinned (.plain (OpenSpec.ofChange pageBackSpec)) pageBackCard

/-- THE TIED CARD OF 'truglaw13.PageOrder'. -/
def pageOrderCard : Claim7 := { stood := { row := pageOrderRow, standIns := [], harness := (true, "9bdefd4ab56ad6846b860e456533c8c9234d832d0db0c11e5e7191fbced85786"), looks := false }, kinds := [], alts := [], laidByText := true, laidKinds := [.data], laidTests := true, laidLooks := .later }
def PageOrderCardSaid : Prop := Claim7.holds Tryd.pinned (.plain (OpenSpec.ofChange pageOrderSpec)) pageOrderCard

/-- THE TIED CARD OF 'truglaw13.PageFinds'. -/
def pageFindsCard : Claim7 := { stood := { row := pageFindsRow, standIns := [], harness := (true, "9bdefd4ab56ad6846b860e456533c8c9234d832d0db0c11e5e7191fbced85786"), looks := false }, kinds := [], alts := [], laidByText := true, laidKinds := [.data], laidTests := true, laidLooks := .later }
def PageFindsCardSaid : Prop := Claim7.holds Tryd.pinned (.plain (OpenSpec.ofChange pageFindsSpec)) pageFindsCard

/-- THE TIED CARD OF 'truglaw13.PageApart'. -/
def pageApartCard : Claim7 := { stood := { row := pageApartRow, standIns := [], harness := (true, "9bdefd4ab56ad6846b860e456533c8c9234d832d0db0c11e5e7191fbced85786"), looks := false }, kinds := [], alts := [], laidByText := true, laidKinds := [.data], laidTests := true, laidLooks := .later }
def PageApartCardSaid : Prop := Claim7.holds Tryd.pinned (.plain (OpenSpec.ofChange pageApartSpec)) pageApartCard

/-- THE TIED CARD OF 'truglaw12.SegmentParts'. -/
def segmentPartsCard : Claim7 := { stood := { row := segmentPartsRow, standIns := [], harness := (true, "9bdefd4ab56ad6846b860e456533c8c9234d832d0db0c11e5e7191fbced85786"), looks := false }, kinds := [], alts := [], laidByText := true, laidKinds := [.data], laidTests := true, laidLooks := .later }
def SegmentPartsCardSaid : Prop := Claim7.holds Tryd.pinned (.plain (OpenSpec.ofChange segmentPartsSpec)) segmentPartsCard

/-- THE TIED CARD OF 'truglaw12.SegmentScans'. -/
def segmentScansCard : Claim7 := { stood := { row := segmentScansRow, standIns := [], harness := (true, "9bdefd4ab56ad6846b860e456533c8c9234d832d0db0c11e5e7191fbced85786"), looks := false }, kinds := [], alts := [], laidByText := true, laidKinds := [.data], laidTests := true, laidLooks := .later }
def SegmentScansCardSaid : Prop := Claim7.holds Tryd.pinned (.plain (OpenSpec.ofChange segmentScansSpec)) segmentScansCard

/-- THE TIED CARD OF 'truglaw12.SegmentBack'. -/
def segmentBackCard : Claim7 := { stood := { row := segmentBackRow, standIns := [], harness := (true, "9bdefd4ab56ad6846b860e456533c8c9234d832d0db0c11e5e7191fbced85786"), looks := false }, kinds := [], alts := [], laidByText := true, laidKinds := [.data], laidTests := true, laidLooks := .later }
def SegmentBackCardSaid : Prop := Claim7.holds Tryd.pinned (.plain (OpenSpec.ofChange segmentBackSpec)) segmentBackCard

/-- THE TIED CARD OF 'truglaw12.SegmentPlaces'. -/
def segmentPlacesCard : Claim7 := { stood := { row := segmentPlacesRow, standIns := [], harness := (true, "9bdefd4ab56ad6846b860e456533c8c9234d832d0db0c11e5e7191fbced85786"), looks := false }, kinds := [], alts := [], laidByText := true, laidKinds := [.data], laidTests := true, laidLooks := .later }
def SegmentPlacesCardSaid : Prop := Claim7.holds Tryd.pinned (.plain (OpenSpec.ofChange segmentPlacesSpec)) segmentPlacesCard

/-- THE TIED CARD OF 'truglaw12.SegmentNew'. -/
def segmentNewCard : Claim7 := { stood := { row := segmentNewRow, standIns := [], harness := (true, "9bdefd4ab56ad6846b860e456533c8c9234d832d0db0c11e5e7191fbced85786"), looks := false }, kinds := [], alts := [], laidByText := true, laidKinds := [.data], laidTests := true, laidLooks := .later }
def SegmentNewCardSaid : Prop := Claim7.holds Tryd.pinned (.plain (OpenSpec.ofChange segmentNewSpec)) segmentNewCard

/-- THE TIED CARD OF 'truglaw16.ManifestBytes'. -/
def manifestBytesCard : Claim7 := { stood := { row := manifestBytesRow, standIns := [], harness := (true, "9bdefd4ab56ad6846b860e456533c8c9234d832d0db0c11e5e7191fbced85786"), looks := false }, kinds := [], alts := [], laidByText := true, laidKinds := [.data, .data, .data, .data], laidTests := true, laidLooks := .later }
def ManifestBytesCardSaid : Prop := Claim7.holds Tryd.pinned (.plain (OpenSpec.ofChange manifestBytesSpec)) manifestBytesCard

/-- THE TIED CARD OF 'truglaw16.ManifestOrphans'. -/
def manifestOrphansCard : Claim7 := { stood := { row := manifestOrphansRow, standIns := [], harness := (true, "9bdefd4ab56ad6846b860e456533c8c9234d832d0db0c11e5e7191fbced85786"), looks := false }, kinds := [], alts := [], laidByText := true, laidKinds := [.data, .data, .data, .data], laidTests := true, laidLooks := .later }
def ManifestOrphansCardSaid : Prop := Claim7.holds Tryd.pinned (.plain (OpenSpec.ofChange manifestOrphansSpec)) manifestOrphansCard

/-- THE TIED CARD OF 'truglaw16.ManifestNeeds'. -/
def manifestNeedsCard : Claim7 := { stood := { row := manifestNeedsRow, standIns := [], harness := (true, "9bdefd4ab56ad6846b860e456533c8c9234d832d0db0c11e5e7191fbced85786"), looks := false }, kinds := [], alts := [], laidByText := true, laidKinds := [.data, .data, .data, .data], laidTests := true, laidLooks := .later }
def ManifestNeedsCardSaid : Prop := Claim7.holds Tryd.pinned (.plain (OpenSpec.ofChange manifestNeedsSpec)) manifestNeedsCard

/-- THE TIED CARD OF 'truglaw16.ManifestApart'. -/
def manifestApartCard : Claim7 := { stood := { row := manifestApartRow, standIns := [], harness := (true, "9bdefd4ab56ad6846b860e456533c8c9234d832d0db0c11e5e7191fbced85786"), looks := false }, kinds := [], alts := [], laidByText := true, laidKinds := [.data, .data, .data, .data], laidTests := true, laidLooks := .later }
def ManifestApartCardSaid : Prop := Claim7.holds Tryd.pinned (.plain (OpenSpec.ofChange manifestApartSpec)) manifestApartCard

/-- THE SECOND FORM's CARD OF 'truglaw13.PageRights'. -/
def pageRightsUptoCard : Claim7 := { stood := { row := pageRightsUptoRow, standIns := [], harness := (true, "9bdefd4ab56ad6846b860e456533c8c9234d832d0db0c11e5e7191fbced85786"), looks := false }, kinds := [], alts := [], laidByText := true, laidKinds := [.data], laidTests := true, laidLooks := .later }
def PageRightsUptoCardSaid : Prop := Claim7.holds Tryd.pinned (.plain (OpenSpec.upto pageRightsSpec)) pageRightsUptoCard

/-- THE SECOND FORM's CARD OF 'truglaw13.PageBytes'. -/
def pageBytesUptoCard : Claim7 := { stood := { row := pageBytesUptoRow, standIns := [], harness := (true, "9bdefd4ab56ad6846b860e456533c8c9234d832d0db0c11e5e7191fbced85786"), looks := false }, kinds := [], alts := [], laidByText := true, laidKinds := [.data], laidTests := true, laidLooks := .later }
def PageBytesUptoCardSaid : Prop := Claim7.holds Tryd.pinned (.plain (OpenSpec.upto pageBytesSpec)) pageBytesUptoCard

/-- THE SECOND FORM's CARD OF 'truglaw13.PageBack'. -/
def pageBackUptoCard : Claim7 := { stood := { row := pageBackUptoRow, standIns := [], harness := (true, "9bdefd4ab56ad6846b860e456533c8c9234d832d0db0c11e5e7191fbced85786"), looks := false }, kinds := [], alts := [], laidByText := true, laidKinds := [.data], laidTests := true, laidLooks := .later }
def PageBackUptoCardSaid : Prop := Claim7.holds Tryd.pinned (.plain (OpenSpec.upto pageBackSpec)) pageBackUptoCard

/-- THE SECOND FORM's CARD OF 'truglaw13.PageOrder'. -/
def pageOrderUptoCard : Claim7 := { stood := { row := pageOrderUptoRow, standIns := [], harness := (true, "9bdefd4ab56ad6846b860e456533c8c9234d832d0db0c11e5e7191fbced85786"), looks := false }, kinds := [], alts := [], laidByText := true, laidKinds := [.data], laidTests := true, laidLooks := .later }
def PageOrderUptoCardSaid : Prop := Claim7.holds Tryd.pinned (.plain (OpenSpec.upto pageOrderSpec)) pageOrderUptoCard

/-- THE SECOND FORM's CARD OF 'truglaw13.PageFinds'. -/
def pageFindsUptoCard : Claim7 := { stood := { row := pageFindsUptoRow, standIns := [], harness := (true, "9bdefd4ab56ad6846b860e456533c8c9234d832d0db0c11e5e7191fbced85786"), looks := false }, kinds := [], alts := [], laidByText := true, laidKinds := [.data], laidTests := true, laidLooks := .later }
def PageFindsUptoCardSaid : Prop := Claim7.holds Tryd.pinned (.plain (OpenSpec.upto pageFindsSpec)) pageFindsUptoCard

/-- THE SECOND FORM's CARD OF 'truglaw13.PageApart'. -/
def pageApartUptoCard : Claim7 := { stood := { row := pageApartUptoRow, standIns := [], harness := (true, "9bdefd4ab56ad6846b860e456533c8c9234d832d0db0c11e5e7191fbced85786"), looks := false }, kinds := [], alts := [], laidByText := true, laidKinds := [.data], laidTests := true, laidLooks := .later }
def PageApartUptoCardSaid : Prop := Claim7.holds Tryd.pinned (.plain (OpenSpec.upto pageApartSpec)) pageApartUptoCard

/-- THE SECOND FORM's CARD OF 'truglaw12.SegmentParts'. -/
def segmentPartsUptoCard : Claim7 := { stood := { row := segmentPartsUptoRow, standIns := [], harness := (true, "9bdefd4ab56ad6846b860e456533c8c9234d832d0db0c11e5e7191fbced85786"), looks := false }, kinds := [], alts := [], laidByText := true, laidKinds := [.data], laidTests := true, laidLooks := .later }
def SegmentPartsUptoCardSaid : Prop := Claim7.holds Tryd.pinned (.plain (OpenSpec.upto segmentPartsSpec)) segmentPartsUptoCard

/-- THE SECOND FORM's CARD OF 'truglaw12.SegmentScans'. -/
def segmentScansUptoCard : Claim7 := { stood := { row := segmentScansUptoRow, standIns := [], harness := (true, "9bdefd4ab56ad6846b860e456533c8c9234d832d0db0c11e5e7191fbced85786"), looks := false }, kinds := [], alts := [], laidByText := true, laidKinds := [.data], laidTests := true, laidLooks := .later }
def SegmentScansUptoCardSaid : Prop := Claim7.holds Tryd.pinned (.plain (OpenSpec.upto segmentScansSpec)) segmentScansUptoCard

/-- THE SECOND FORM's CARD OF 'truglaw12.SegmentBack'. -/
def segmentBackUptoCard : Claim7 := { stood := { row := segmentBackUptoRow, standIns := [], harness := (true, "9bdefd4ab56ad6846b860e456533c8c9234d832d0db0c11e5e7191fbced85786"), looks := false }, kinds := [], alts := [], laidByText := true, laidKinds := [.data], laidTests := true, laidLooks := .later }
def SegmentBackUptoCardSaid : Prop := Claim7.holds Tryd.pinned (.plain (OpenSpec.upto segmentBackSpec)) segmentBackUptoCard

/-- THE SECOND FORM's CARD OF 'truglaw12.SegmentPlaces'. -/
def segmentPlacesUptoCard : Claim7 := { stood := { row := segmentPlacesUptoRow, standIns := [], harness := (true, "9bdefd4ab56ad6846b860e456533c8c9234d832d0db0c11e5e7191fbced85786"), looks := false }, kinds := [], alts := [], laidByText := true, laidKinds := [.data], laidTests := true, laidLooks := .later }
def SegmentPlacesUptoCardSaid : Prop := Claim7.holds Tryd.pinned (.plain (OpenSpec.upto segmentPlacesSpec)) segmentPlacesUptoCard

/-- THE SECOND FORM's CARD OF 'truglaw12.SegmentNew'. -/
def segmentNewUptoCard : Claim7 := { stood := { row := segmentNewUptoRow, standIns := [], harness := (true, "9bdefd4ab56ad6846b860e456533c8c9234d832d0db0c11e5e7191fbced85786"), looks := false }, kinds := [], alts := [], laidByText := true, laidKinds := [.data], laidTests := true, laidLooks := .later }
def SegmentNewUptoCardSaid : Prop := Claim7.holds Tryd.pinned (.plain (OpenSpec.upto segmentNewSpec)) segmentNewUptoCard

/-- THE SECOND FORM's CARD OF 'truglaw16.ManifestBytes'. -/
def manifestBytesUptoCard : Claim7 := { stood := { row := manifestBytesUptoRow, standIns := [], harness := (true, "9bdefd4ab56ad6846b860e456533c8c9234d832d0db0c11e5e7191fbced85786"), looks := false }, kinds := [], alts := [], laidByText := true, laidKinds := [.data, .data, .data, .data], laidTests := true, laidLooks := .later }
def ManifestBytesUptoCardSaid : Prop := Claim7.holds Tryd.pinned (.plain (OpenSpec.upto manifestBytesSpec)) manifestBytesUptoCard

/-- THE SECOND FORM's CARD OF 'truglaw16.ManifestOrphans'. -/
def manifestOrphansUptoCard : Claim7 := { stood := { row := manifestOrphansUptoRow, standIns := [], harness := (true, "9bdefd4ab56ad6846b860e456533c8c9234d832d0db0c11e5e7191fbced85786"), looks := false }, kinds := [], alts := [], laidByText := true, laidKinds := [.data, .data, .data, .data], laidTests := true, laidLooks := .later }
def ManifestOrphansUptoCardSaid : Prop := Claim7.holds Tryd.pinned (.plain (OpenSpec.upto manifestOrphansSpec)) manifestOrphansUptoCard

/-- THE SECOND FORM's CARD OF 'truglaw16.ManifestNeeds'. -/
def manifestNeedsUptoCard : Claim7 := { stood := { row := manifestNeedsUptoRow, standIns := [], harness := (true, "9bdefd4ab56ad6846b860e456533c8c9234d832d0db0c11e5e7191fbced85786"), looks := false }, kinds := [], alts := [], laidByText := true, laidKinds := [.data, .data, .data, .data], laidTests := true, laidLooks := .later }
def ManifestNeedsUptoCardSaid : Prop := Claim7.holds Tryd.pinned (.plain (OpenSpec.upto manifestNeedsSpec)) manifestNeedsUptoCard

/-- THE SECOND FORM's CARD OF 'truglaw16.ManifestApart'. -/
def manifestApartUptoCard : Claim7 := { stood := { row := manifestApartUptoRow, standIns := [], harness := (true, "9bdefd4ab56ad6846b860e456533c8c9234d832d0db0c11e5e7191fbced85786"), looks := false }, kinds := [], alts := [], laidByText := true, laidKinds := [.data, .data, .data, .data], laidTests := true, laidLooks := .later }
def ManifestApartUptoCardSaid : Prop := Claim7.holds Tryd.pinned (.plain (OpenSpec.upto manifestApartSpec)) manifestApartUptoCard
end Rows
end Go.Proofs.YtajfhoeejeadkaaDoor
