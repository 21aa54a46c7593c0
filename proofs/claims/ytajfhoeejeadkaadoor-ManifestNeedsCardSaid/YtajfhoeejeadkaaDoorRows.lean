/-
  NARROWER THAN 'FOR EVERY INPUT', by the rows' own cells (each row's printed sentence says how): PageRights: laid · PageBytes: laid · PageBack: laid · PageOrder: laid · PageFinds: laid · PageApart: laid · SegmentParts: laid · SegmentScans: laid · SegmentBack: laid · SegmentPlaces: laid · SegmentNew: laid · ManifestBytes: laid · ManifestOrphans: laid · ManifestNeeds: laid · ManifestApart: laid.
  DERIVED. THE GIVEN ROWS OF THIS SEAT. 15 by the template 'for every input the law returns true; each argument reads behind the call as it read before'; 0 by the template 'total and deterministic' (their statements: YtajfhoeejeadkaaDoorTotals.lean).
  GIVEN WITH THE SEED: the statements are not yours to turn. If you find one false, say at which input.
  Laid BY PROGRAM, IN A SANDBOX (cutbox-rows.mjs): the forced cells as the released guide's own fill.sh prints them over the translation c5bc3f3ffe77c38f… (all of the seat's roots in one cut). By AI agents, Wed Nov 11 2026. No macro, syntax, notation, axiom, sorry.
-/
import Derived.Test.YtajfhoeejeadkaaDoorChecked
import GoSem.Claim
import GoSem.ClaimJoined
import GoSem.ClaimMapViews
import Derived.JoinedTies
import Derived.KernelRfl
namespace Go.Proofs.YtajfhoeejeadkaaDoor
/- THE CELL 'sum', in the pinned program and in every row, IS THE sha256 OF THE DUMP (.gsa) THAT YtajfhoeejeadkaaDoorProg.lean LOADS. Nothing in Lean hashes anything: it is a label: what it is worth is what the hold of that sum in a sandbox is worth. -/
noncomputable def Tryd.pinned : Pinned := { name := "ytajfhoeejeadkaadoor", sum := "c5bc3f3ffe77c38fdccb27a1dc97d92fcd5c95ae0284cbf0933db023d5e1efe5", checked := Tryd.checked }
namespace Rows
def none {H : Type} : Left H := { results := [], args := [] }

/- WHAT THE LISTED PACKAGE-LEVEL VARIABLES READ AS WHEN THE CALL BEGINS. Each datum BY PROGRAM (the guide's laid-datum.mjs) off the statement by which the dump's own 'gosem.cut.vars' lays the variable. In a bare row this is a premise. The card (YtajfhoeejeadkaaDoorCards.lean) ties it to the program's text. -/
def laid_trug_crc_half {H : Type} : DataW H := .agg [.lit (.int .u32 0), .lit (.int .u32 498536548), .lit (.int .u32 997073096), .lit (.int .u32 651767980), .lit (.int .u32 1994146192), .lit (.int .u32 1802195444), .lit (.int .u32 1303535960), .lit (.int .u32 1342533948), .lit (.int .u32 3988292384), .lit (.int .u32 4027552580), .lit (.int .u32 3604390888), .lit (.int .u32 3412177804), .lit (.int .u32 2607071920), .lit (.int .u32 2262029012), .lit (.int .u32 2685067896), .lit (.int .u32 3183342108)]
def laid_math_bits_deBruijn32tab {H : Type} : DataW H := .agg [.lit (.int .u8 0), .lit (.int .u8 1), .lit (.int .u8 28), .lit (.int .u8 2), .lit (.int .u8 29), .lit (.int .u8 14), .lit (.int .u8 24), .lit (.int .u8 3), .lit (.int .u8 30), .lit (.int .u8 22), .lit (.int .u8 20), .lit (.int .u8 15), .lit (.int .u8 25), .lit (.int .u8 17), .lit (.int .u8 4), .lit (.int .u8 8), .lit (.int .u8 31), .lit (.int .u8 27), .lit (.int .u8 13), .lit (.int .u8 23), .lit (.int .u8 21), .lit (.int .u8 19), .lit (.int .u8 16), .lit (.int .u8 7), .lit (.int .u8 26), .lit (.int .u8 12), .lit (.int .u8 18), .lit (.int .u8 6), .lit (.int .u8 11), .lit (.int .u8 5), .lit (.int .u8 10), .lit (.int .u8 9)]
def laid_math_bits_deBruijn64tab {H : Type} : DataW H := .agg [.lit (.int .u8 0), .lit (.int .u8 1), .lit (.int .u8 56), .lit (.int .u8 2), .lit (.int .u8 57), .lit (.int .u8 49), .lit (.int .u8 28), .lit (.int .u8 3), .lit (.int .u8 61), .lit (.int .u8 58), .lit (.int .u8 42), .lit (.int .u8 50), .lit (.int .u8 38), .lit (.int .u8 29), .lit (.int .u8 17), .lit (.int .u8 4), .lit (.int .u8 62), .lit (.int .u8 47), .lit (.int .u8 59), .lit (.int .u8 36), .lit (.int .u8 45), .lit (.int .u8 43), .lit (.int .u8 51), .lit (.int .u8 22), .lit (.int .u8 53), .lit (.int .u8 39), .lit (.int .u8 33), .lit (.int .u8 30), .lit (.int .u8 24), .lit (.int .u8 18), .lit (.int .u8 12), .lit (.int .u8 5), .lit (.int .u8 63), .lit (.int .u8 55), .lit (.int .u8 48), .lit (.int .u8 27), .lit (.int .u8 60), .lit (.int .u8 41), .lit (.int .u8 37), .lit (.int .u8 16), .lit (.int .u8 46), .lit (.int .u8 35), .lit (.int .u8 44), .lit (.int .u8 21), .lit (.int .u8 52), .lit (.int .u8 32), .lit (.int .u8 23), .lit (.int .u8 11), .lit (.int .u8 54), .lit (.int .u8 26), .lit (.int .u8 40), .lit (.int .u8 15), .lit (.int .u8 34), .lit (.int .u8 20), .lit (.int .u8 31), .lit (.int .u8 10), .lit (.int .u8 25), .lit (.int .u8 14), .lit (.int .u8 19), .lit (.int .u8 9), .lit (.int .u8 13), .lit (.int .u8 8), .lit (.int .u8 7), .lit (.int .u8 6)]
def laid_internal_strconv_uint64pow10 {H : Type} : DataW H := .agg [.lit (.int .u64 1), .lit (.int .u64 10), .lit (.int .u64 100), .lit (.int .u64 1000), .lit (.int .u64 10000), .lit (.int .u64 100000), .lit (.int .u64 1000000), .lit (.int .u64 10000000), .lit (.int .u64 100000000), .lit (.int .u64 1000000000), .lit (.int .u64 10000000000), .lit (.int .u64 100000000000), .lit (.int .u64 1000000000000), .lit (.int .u64 10000000000000), .lit (.int .u64 100000000000000), .lit (.int .u64 1000000000000000), .lit (.int .u64 10000000000000000), .lit (.int .u64 100000000000000000), .lit (.int .u64 1000000000000000000), .lit (.int .u64 10000000000000000000)]

/-- 'truglaw13.PageRights': WHATEVER THE INPUT: true; the input reads as it did. -/
def pageRightsSpec : ChangeSpec := { name := "pageRights", fn := fun _ => fun
  | [d1, d2, d3] => { results := [.lit (.bool true)], args := [d1, d2, d3] }
  | _ => none }
def pageRightsRow : OpenClaim := { program := "ytajfhoeejeadkaadoor", sum := "c5bc3f3ffe77c38fdccb27a1dc97d92fcd5c95ae0284cbf0933db023d5e1efe5", func := "trug/truglaw13.PageRights", spec := "pageRights", unfollowed := true, recurses := true, named := ["trug/crc.half"], apart := false, laid := [("trug/crc.half", laid_trug_crc_half)] }
def PageRightsSaid : Prop := pageRightsRow.holds Tryd.pinned (OpenSpec.ofChange pageRightsSpec)

/-- ITS FALSE NEIGHBOUR: 'it returns false'. Refute it at one input. -/
def pageRightsWrong : ChangeSpec := { name := "pageRights", fn := fun _ => fun
  | [d1, d2, d3] => { results := [.lit (.bool false)], args := [d1, d2, d3] }
  | _ => none }
def PageRightsWrongFalsely : Prop := pageRightsRow.holds Tryd.pinned (OpenSpec.ofChange pageRightsWrong)

/-- 'truglaw13.PageBytes': WHATEVER THE INPUT: true; the input reads as it did. -/
def pageBytesSpec : ChangeSpec := { name := "pageBytes", fn := fun _ => fun
  | [d1, d2] => { results := [.lit (.bool true)], args := [d1, d2] }
  | _ => none }
def pageBytesRow : OpenClaim := { program := "ytajfhoeejeadkaadoor", sum := "c5bc3f3ffe77c38fdccb27a1dc97d92fcd5c95ae0284cbf0933db023d5e1efe5", func := "trug/truglaw13.PageBytes", spec := "pageBytes", unfollowed := true, recurses := true, named := ["trug/crc.half"], apart := false, laid := [("trug/crc.half", laid_trug_crc_half)] }
def PageBytesSaid : Prop := pageBytesRow.holds Tryd.pinned (OpenSpec.ofChange pageBytesSpec)

/-- ITS FALSE NEIGHBOUR: 'it returns false'. Refute it at one input. -/
def pageBytesWrong : ChangeSpec := { name := "pageBytes", fn := fun _ => fun
  | [d1, d2] => { results := [.lit (.bool false)], args := [d1, d2] }
  | _ => none }
def PageBytesWrongFalsely : Prop := pageBytesRow.holds Tryd.pinned (OpenSpec.ofChange pageBytesWrong)

/-- 'truglaw13.PageBack': WHATEVER THE INPUT: true; the input reads as it did. -/
def pageBackSpec : ChangeSpec := { name := "pageBack", fn := fun _ => fun
  | [d1, d2] => { results := [.lit (.bool true)], args := [d1, d2] }
  | _ => none }
def pageBackRow : OpenClaim := { program := "ytajfhoeejeadkaadoor", sum := "c5bc3f3ffe77c38fdccb27a1dc97d92fcd5c95ae0284cbf0933db023d5e1efe5", func := "trug/truglaw13.PageBack", spec := "pageBack", unfollowed := true, recurses := true, named := ["trug/crc.half"], apart := false, laid := [("trug/crc.half", laid_trug_crc_half)] }
def PageBackSaid : Prop := pageBackRow.holds Tryd.pinned (OpenSpec.ofChange pageBackSpec)

/-- ITS FALSE NEIGHBOUR: 'it returns false'. Refute it at one input. -/
def pageBackWrong : ChangeSpec := { name := "pageBack", fn := fun _ => fun
  | [d1, d2] => { results := [.lit (.bool false)], args := [d1, d2] }
  | _ => none }
def PageBackWrongFalsely : Prop := pageBackRow.holds Tryd.pinned (OpenSpec.ofChange pageBackWrong)

/-- 'truglaw13.PageOrder': WHATEVER THE INPUT: true; the input reads as it did. -/
def pageOrderSpec : ChangeSpec := { name := "pageOrder", fn := fun _ => fun
  | [d1, d2, d3] => { results := [.lit (.bool true)], args := [d1, d2, d3] }
  | _ => none }
def pageOrderRow : OpenClaim := { program := "ytajfhoeejeadkaadoor", sum := "c5bc3f3ffe77c38fdccb27a1dc97d92fcd5c95ae0284cbf0933db023d5e1efe5", func := "trug/truglaw13.PageOrder", spec := "pageOrder", unfollowed := true, recurses := true, named := ["trug/crc.half"], apart := false, laid := [("trug/crc.half", laid_trug_crc_half)] }
def PageOrderSaid : Prop := pageOrderRow.holds Tryd.pinned (OpenSpec.ofChange pageOrderSpec)

/-- ITS FALSE NEIGHBOUR: 'it returns false'. Refute it at one input. -/
def pageOrderWrong : ChangeSpec := { name := "pageOrder", fn := fun _ => fun
  | [d1, d2, d3] => { results := [.lit (.bool false)], args := [d1, d2, d3] }
  | _ => none }
def PageOrderWrongFalsely : Prop := pageOrderRow.holds Tryd.pinned (OpenSpec.ofChange pageOrderWrong)

/-- 'truglaw13.PageFinds': WHATEVER THE INPUT: true; the input reads as it did. -/
def pageFindsSpec : ChangeSpec := { name := "pageFinds", fn := fun _ => fun
  | [d1, d2] => { results := [.lit (.bool true)], args := [d1, d2] }
  | _ => none }
def pageFindsRow : OpenClaim := { program := "ytajfhoeejeadkaadoor", sum := "c5bc3f3ffe77c38fdccb27a1dc97d92fcd5c95ae0284cbf0933db023d5e1efe5", func := "trug/truglaw13.PageFinds", spec := "pageFinds", unfollowed := true, recurses := true, named := ["trug/crc.half"], apart := false, laid := [("trug/crc.half", laid_trug_crc_half)] }
def PageFindsSaid : Prop := pageFindsRow.holds Tryd.pinned (OpenSpec.ofChange pageFindsSpec)

/-- ITS FALSE NEIGHBOUR: 'it returns false'. Refute it at one input. -/
def pageFindsWrong : ChangeSpec := { name := "pageFinds", fn := fun _ => fun
  | [d1, d2] => { results := [.lit (.bool false)], args := [d1, d2] }
  | _ => none }
def PageFindsWrongFalsely : Prop := pageFindsRow.holds Tryd.pinned (OpenSpec.ofChange pageFindsWrong)

/-- 'truglaw13.PageApart': WHATEVER THE INPUT: true; the input reads as it did. -/
def pageApartSpec : ChangeSpec := { name := "pageApart", fn := fun _ => fun
  | [d1, d2, d3] => { results := [.lit (.bool true)], args := [d1, d2, d3] }
  | _ => none }
def pageApartRow : OpenClaim := { program := "ytajfhoeejeadkaadoor", sum := "c5bc3f3ffe77c38fdccb27a1dc97d92fcd5c95ae0284cbf0933db023d5e1efe5", func := "trug/truglaw13.PageApart", spec := "pageApart", unfollowed := true, recurses := true, named := ["trug/crc.half"], apart := false, laid := [("trug/crc.half", laid_trug_crc_half)] }
def PageApartSaid : Prop := pageApartRow.holds Tryd.pinned (OpenSpec.ofChange pageApartSpec)

/-- ITS FALSE NEIGHBOUR: 'it returns false'. Refute it at one input. -/
def pageApartWrong : ChangeSpec := { name := "pageApart", fn := fun _ => fun
  | [d1, d2, d3] => { results := [.lit (.bool false)], args := [d1, d2, d3] }
  | _ => none }
def PageApartWrongFalsely : Prop := pageApartRow.holds Tryd.pinned (OpenSpec.ofChange pageApartWrong)

/-- 'truglaw12.SegmentParts': WHATEVER THE INPUT: true; the input reads as it did. -/
def segmentPartsSpec : ChangeSpec := { name := "segmentParts", fn := fun _ => fun
  | [d1, d2, d3] => { results := [.lit (.bool true)], args := [d1, d2, d3] }
  | _ => none }
def segmentPartsRow : OpenClaim := { program := "ytajfhoeejeadkaadoor", sum := "c5bc3f3ffe77c38fdccb27a1dc97d92fcd5c95ae0284cbf0933db023d5e1efe5", func := "trug/truglaw12.SegmentParts", spec := "segmentParts", unfollowed := true, recurses := true, named := ["trug/crc.half"], apart := false, laid := [("trug/crc.half", laid_trug_crc_half)] }
def SegmentPartsSaid : Prop := segmentPartsRow.holds Tryd.pinned (OpenSpec.ofChange segmentPartsSpec)

/-- ITS FALSE NEIGHBOUR: 'it returns false'. Refute it at one input. -/
def segmentPartsWrong : ChangeSpec := { name := "segmentParts", fn := fun _ => fun
  | [d1, d2, d3] => { results := [.lit (.bool false)], args := [d1, d2, d3] }
  | _ => none }
def SegmentPartsWrongFalsely : Prop := segmentPartsRow.holds Tryd.pinned (OpenSpec.ofChange segmentPartsWrong)

/-- 'truglaw12.SegmentScans': WHATEVER THE INPUT: true; the input reads as it did. -/
def segmentScansSpec : ChangeSpec := { name := "segmentScans", fn := fun _ => fun
  | [d] => { results := [.lit (.bool true)], args := [d] }
  | _ => none }
def segmentScansRow : OpenClaim := { program := "ytajfhoeejeadkaadoor", sum := "c5bc3f3ffe77c38fdccb27a1dc97d92fcd5c95ae0284cbf0933db023d5e1efe5", func := "trug/truglaw12.SegmentScans", spec := "segmentScans", unfollowed := true, recurses := true, named := ["trug/crc.half"], apart := false, laid := [("trug/crc.half", laid_trug_crc_half)] }
def SegmentScansSaid : Prop := segmentScansRow.holds Tryd.pinned (OpenSpec.ofChange segmentScansSpec)

/-- ITS FALSE NEIGHBOUR: 'it returns false'. Refute it at one input. -/
def segmentScansWrong : ChangeSpec := { name := "segmentScans", fn := fun _ => fun
  | [d] => { results := [.lit (.bool false)], args := [d] }
  | _ => none }
def SegmentScansWrongFalsely : Prop := segmentScansRow.holds Tryd.pinned (OpenSpec.ofChange segmentScansWrong)

/-- 'truglaw12.SegmentBack': WHATEVER THE INPUT: true; the input reads as it did. -/
def segmentBackSpec : ChangeSpec := { name := "segmentBack", fn := fun _ => fun
  | [d1, d2, d3] => { results := [.lit (.bool true)], args := [d1, d2, d3] }
  | _ => none }
def segmentBackRow : OpenClaim := { program := "ytajfhoeejeadkaadoor", sum := "c5bc3f3ffe77c38fdccb27a1dc97d92fcd5c95ae0284cbf0933db023d5e1efe5", func := "trug/truglaw12.SegmentBack", spec := "segmentBack", unfollowed := true, recurses := true, named := ["trug/crc.half"], apart := false, laid := [("trug/crc.half", laid_trug_crc_half)] }
def SegmentBackSaid : Prop := segmentBackRow.holds Tryd.pinned (OpenSpec.ofChange segmentBackSpec)

/-- ITS FALSE NEIGHBOUR: 'it returns false'. Refute it at one input. -/
def segmentBackWrong : ChangeSpec := { name := "segmentBack", fn := fun _ => fun
  | [d1, d2, d3] => { results := [.lit (.bool false)], args := [d1, d2, d3] }
  | _ => none }
def SegmentBackWrongFalsely : Prop := segmentBackRow.holds Tryd.pinned (OpenSpec.ofChange segmentBackWrong)

/-- 'truglaw12.SegmentPlaces': WHATEVER THE INPUT: true; the input reads as it did. -/
def segmentPlacesSpec : ChangeSpec := { name := "segmentPlaces", fn := fun _ => fun
  | [d1, d2] => { results := [.lit (.bool true)], args := [d1, d2] }
  | _ => none }
def segmentPlacesRow : OpenClaim := { program := "ytajfhoeejeadkaadoor", sum := "c5bc3f3ffe77c38fdccb27a1dc97d92fcd5c95ae0284cbf0933db023d5e1efe5", func := "trug/truglaw12.SegmentPlaces", spec := "segmentPlaces", unfollowed := true, recurses := true, named := ["trug/crc.half"], apart := false, laid := [("trug/crc.half", laid_trug_crc_half)] }
def SegmentPlacesSaid : Prop := segmentPlacesRow.holds Tryd.pinned (OpenSpec.ofChange segmentPlacesSpec)

/-- ITS FALSE NEIGHBOUR: 'it returns false'. Refute it at one input. -/
def segmentPlacesWrong : ChangeSpec := { name := "segmentPlaces", fn := fun _ => fun
  | [d1, d2] => { results := [.lit (.bool false)], args := [d1, d2] }
  | _ => none }
def SegmentPlacesWrongFalsely : Prop := segmentPlacesRow.holds Tryd.pinned (OpenSpec.ofChange segmentPlacesWrong)

/-- 'truglaw12.SegmentNew': WHATEVER THE INPUT: true; the input reads as it did. -/
def segmentNewSpec : ChangeSpec := { name := "segmentNew", fn := fun _ => fun
  | [d] => { results := [.lit (.bool true)], args := [d] }
  | _ => none }
def segmentNewRow : OpenClaim := { program := "ytajfhoeejeadkaadoor", sum := "c5bc3f3ffe77c38fdccb27a1dc97d92fcd5c95ae0284cbf0933db023d5e1efe5", func := "trug/truglaw12.SegmentNew", spec := "segmentNew", unfollowed := true, recurses := true, named := ["trug/crc.half"], apart := false, laid := [("trug/crc.half", laid_trug_crc_half)] }
def SegmentNewSaid : Prop := segmentNewRow.holds Tryd.pinned (OpenSpec.ofChange segmentNewSpec)

/-- ITS FALSE NEIGHBOUR: 'it returns false'. Refute it at one input. -/
def segmentNewWrong : ChangeSpec := { name := "segmentNew", fn := fun _ => fun
  | [d] => { results := [.lit (.bool false)], args := [d] }
  | _ => none }
def SegmentNewWrongFalsely : Prop := segmentNewRow.holds Tryd.pinned (OpenSpec.ofChange segmentNewWrong)

/-- 'truglaw16.ManifestBytes': WHATEVER THE INPUT: true; the input reads as it did. -/
def manifestBytesSpec : ChangeSpec := { name := "manifestBytes", fn := fun _ => fun
  | [d1, d2] => { results := [.lit (.bool true)], args := [d1, d2] }
  | _ => none }
def manifestBytesRow : OpenClaim := { program := "ytajfhoeejeadkaadoor", sum := "c5bc3f3ffe77c38fdccb27a1dc97d92fcd5c95ae0284cbf0933db023d5e1efe5", func := "trug/truglaw16.ManifestBytes", spec := "manifestBytes", unfollowed := true, recurses := true, named := ["trug/crc.half", "internal/strconv.uint64pow10", "math/bits.deBruijn32tab", "math/bits.deBruijn64tab"], apart := false, laid := [("math/bits.deBruijn32tab", laid_math_bits_deBruijn32tab), ("math/bits.deBruijn64tab", laid_math_bits_deBruijn64tab), ("internal/strconv.uint64pow10", laid_internal_strconv_uint64pow10), ("trug/crc.half", laid_trug_crc_half)] }
def ManifestBytesSaid : Prop := manifestBytesRow.holds Tryd.pinned (OpenSpec.ofChange manifestBytesSpec)

/-- ITS FALSE NEIGHBOUR: 'it returns false'. Refute it at one input. -/
def manifestBytesWrong : ChangeSpec := { name := "manifestBytes", fn := fun _ => fun
  | [d1, d2] => { results := [.lit (.bool false)], args := [d1, d2] }
  | _ => none }
def ManifestBytesWrongFalsely : Prop := manifestBytesRow.holds Tryd.pinned (OpenSpec.ofChange manifestBytesWrong)

/-- 'truglaw16.ManifestOrphans': WHATEVER THE INPUT: true; the input reads as it did. -/
def manifestOrphansSpec : ChangeSpec := { name := "manifestOrphans", fn := fun _ => fun
  | [d1, d2] => { results := [.lit (.bool true)], args := [d1, d2] }
  | _ => none }
def manifestOrphansRow : OpenClaim := { program := "ytajfhoeejeadkaadoor", sum := "c5bc3f3ffe77c38fdccb27a1dc97d92fcd5c95ae0284cbf0933db023d5e1efe5", func := "trug/truglaw16.ManifestOrphans", spec := "manifestOrphans", unfollowed := true, recurses := true, named := ["trug/crc.half", "internal/strconv.uint64pow10", "math/bits.deBruijn32tab", "math/bits.deBruijn64tab"], apart := false, laid := [("math/bits.deBruijn32tab", laid_math_bits_deBruijn32tab), ("math/bits.deBruijn64tab", laid_math_bits_deBruijn64tab), ("internal/strconv.uint64pow10", laid_internal_strconv_uint64pow10), ("trug/crc.half", laid_trug_crc_half)] }
def ManifestOrphansSaid : Prop := manifestOrphansRow.holds Tryd.pinned (OpenSpec.ofChange manifestOrphansSpec)

/-- ITS FALSE NEIGHBOUR: 'it returns false'. Refute it at one input. -/
def manifestOrphansWrong : ChangeSpec := { name := "manifestOrphans", fn := fun _ => fun
  | [d1, d2] => { results := [.lit (.bool false)], args := [d1, d2] }
  | _ => none }
def ManifestOrphansWrongFalsely : Prop := manifestOrphansRow.holds Tryd.pinned (OpenSpec.ofChange manifestOrphansWrong)

/-- 'truglaw16.ManifestNeeds': WHATEVER THE INPUT: true; the input reads as it did. -/
def manifestNeedsSpec : ChangeSpec := { name := "manifestNeeds", fn := fun _ => fun
  | [d1, d2] => { results := [.lit (.bool true)], args := [d1, d2] }
  | _ => none }
def manifestNeedsRow : OpenClaim := { program := "ytajfhoeejeadkaadoor", sum := "c5bc3f3ffe77c38fdccb27a1dc97d92fcd5c95ae0284cbf0933db023d5e1efe5", func := "trug/truglaw16.ManifestNeeds", spec := "manifestNeeds", unfollowed := true, recurses := true, named := ["trug/crc.half", "internal/strconv.uint64pow10", "math/bits.deBruijn32tab", "math/bits.deBruijn64tab"], apart := false, laid := [("math/bits.deBruijn32tab", laid_math_bits_deBruijn32tab), ("math/bits.deBruijn64tab", laid_math_bits_deBruijn64tab), ("internal/strconv.uint64pow10", laid_internal_strconv_uint64pow10), ("trug/crc.half", laid_trug_crc_half)] }
def ManifestNeedsSaid : Prop := manifestNeedsRow.holds Tryd.pinned (OpenSpec.ofChange manifestNeedsSpec)

/-- ITS FALSE NEIGHBOUR: 'it returns false'. Refute it at one input. -/
def manifestNeedsWrong : ChangeSpec := { name := "manifestNeeds", fn := fun _ => fun
  | [d1, d2] => { results := [.lit (.bool false)], args := [d1, d2] }
  | _ => none }
def ManifestNeedsWrongFalsely : Prop := manifestNeedsRow.holds Tryd.pinned (OpenSpec.ofChange manifestNeedsWrong)

/-- 'truglaw16.ManifestApart': WHATEVER THE INPUT: true; the input reads as it did. -/
def manifestApartSpec : ChangeSpec := { name := "manifestApart", fn := fun _ => fun
  | [d1, d2] => { results := [.lit (.bool true)], args := [d1, d2] }
  | _ => none }
def manifestApartRow : OpenClaim := { program := "ytajfhoeejeadkaadoor", sum := "c5bc3f3ffe77c38fdccb27a1dc97d92fcd5c95ae0284cbf0933db023d5e1efe5", func := "trug/truglaw16.ManifestApart", spec := "manifestApart", unfollowed := true, recurses := true, named := ["trug/crc.half", "internal/strconv.uint64pow10", "math/bits.deBruijn32tab", "math/bits.deBruijn64tab"], apart := false, laid := [("math/bits.deBruijn32tab", laid_math_bits_deBruijn32tab), ("math/bits.deBruijn64tab", laid_math_bits_deBruijn64tab), ("internal/strconv.uint64pow10", laid_internal_strconv_uint64pow10), ("trug/crc.half", laid_trug_crc_half)] }
def ManifestApartSaid : Prop := manifestApartRow.holds Tryd.pinned (OpenSpec.ofChange manifestApartSpec)

/-- ITS FALSE NEIGHBOUR: 'it returns false'. Refute it at one input. -/
def manifestApartWrong : ChangeSpec := { name := "manifestApart", fn := fun _ => fun
  | [d1, d2] => { results := [.lit (.bool false)], args := [d1, d2] }
  | _ => none }
def ManifestApartWrongFalsely : Prop := manifestApartRow.holds Tryd.pinned (OpenSpec.ofChange manifestApartWrong)

/- THE SECOND FORM. 'bulk': how many values and letters a reading holds, each counted each time it is reached (what is shared counts as often as it is met; a slice's spare places count too). A statement '..UptoSaid' is the law's where the arguments, and the package variables that the reading takes, are together of bulk at most 1048576: NARROWER than '..Said'. Prove '..Said' where nothing that the law and all that it calls make is longer than what came in: it says more and counts as full. Else prove '..UptoSaid'. A law counts once. -/
mutual
def uptoBulk {H : Type} : DataW H → Nat
  | .lit (.string bytes) => bytes.length + 1
  | .lit _ => 1
  | .nil => 1
  | .ptr d => uptoBulk d + 1
  | .slice elems spare => uptoBulkAll elems + uptoBulkAll spare + 1
  | .agg parts => uptoBulkAll parts + 1
  | .iface _ d => uptoBulk d + 1
  | .map entries => uptoBulkEntries entries + 1
  | .held _ => 1
def uptoBulkAll {H : Type} : List (DataW H) → Nat
  | [] => 0
  | d :: r => uptoBulk d + uptoBulkAll r
def uptoBulkEntries {H : Type} : List (Lit × DataW H) → Nat
  | [] => 0
  | x :: r => uptoBulkEntry x + uptoBulkEntries r
def uptoBulkEntry {H : Type} : Lit × DataW H → Nat
  | (.string bytes, d) => bytes.length + uptoBulk d + 1
  | (_, d) => uptoBulk d + 1
 end
def uptoSmall : (H : Type) → List (DataW H) → Bool := fun _ ds => decide (uptoBulkAll ds ≤ 1048576)
def OpenSpec.upto (s : _root_.Go.ChangeSpec) : _root_.Go.OpenSpec := { _root_.Go.OpenSpec.ofChange s with cond := some uptoSmall }

/-- 'truglaw13.PageRights', WHERE WHAT IT READS IS OF BULK AT MOST 1048576: true; the input reads as it did. -/
def pageRightsUptoRow : OpenClaim := { program := "ytajfhoeejeadkaadoor", sum := "c5bc3f3ffe77c38fdccb27a1dc97d92fcd5c95ae0284cbf0933db023d5e1efe5", func := "trug/truglaw13.PageRights", spec := "pageRights", unfollowed := true, recurses := true, named := ["trug/crc.half"], apart := false, laid := [("trug/crc.half", laid_trug_crc_half)], narrowed := true }
def PageRightsUptoSaid : Prop := pageRightsUptoRow.holds Tryd.pinned (OpenSpec.upto pageRightsSpec)

/-- 'truglaw13.PageBytes', WHERE WHAT IT READS IS OF BULK AT MOST 1048576: true; the input reads as it did. -/
def pageBytesUptoRow : OpenClaim := { program := "ytajfhoeejeadkaadoor", sum := "c5bc3f3ffe77c38fdccb27a1dc97d92fcd5c95ae0284cbf0933db023d5e1efe5", func := "trug/truglaw13.PageBytes", spec := "pageBytes", unfollowed := true, recurses := true, named := ["trug/crc.half"], apart := false, laid := [("trug/crc.half", laid_trug_crc_half)], narrowed := true }
def PageBytesUptoSaid : Prop := pageBytesUptoRow.holds Tryd.pinned (OpenSpec.upto pageBytesSpec)

/-- 'truglaw13.PageBack', WHERE WHAT IT READS IS OF BULK AT MOST 1048576: true; the input reads as it did. -/
def pageBackUptoRow : OpenClaim := { program := "ytajfhoeejeadkaadoor", sum := "c5bc3f3ffe77c38fdccb27a1dc97d92fcd5c95ae0284cbf0933db023d5e1efe5", func := "trug/truglaw13.PageBack", spec := "pageBack", unfollowed := true, recurses := true, named := ["trug/crc.half"], apart := false, laid := [("trug/crc.half", laid_trug_crc_half)], narrowed := true }
def PageBackUptoSaid : Prop := pageBackUptoRow.holds Tryd.pinned (OpenSpec.upto pageBackSpec)

/-- 'truglaw13.PageOrder', WHERE WHAT IT READS IS OF BULK AT MOST 1048576: true; the input reads as it did. -/
def pageOrderUptoRow : OpenClaim := { program := "ytajfhoeejeadkaadoor", sum := "c5bc3f3ffe77c38fdccb27a1dc97d92fcd5c95ae0284cbf0933db023d5e1efe5", func := "trug/truglaw13.PageOrder", spec := "pageOrder", unfollowed := true, recurses := true, named := ["trug/crc.half"], apart := false, laid := [("trug/crc.half", laid_trug_crc_half)], narrowed := true }
def PageOrderUptoSaid : Prop := pageOrderUptoRow.holds Tryd.pinned (OpenSpec.upto pageOrderSpec)

/-- 'truglaw13.PageFinds', WHERE WHAT IT READS IS OF BULK AT MOST 1048576: true; the input reads as it did. -/
def pageFindsUptoRow : OpenClaim := { program := "ytajfhoeejeadkaadoor", sum := "c5bc3f3ffe77c38fdccb27a1dc97d92fcd5c95ae0284cbf0933db023d5e1efe5", func := "trug/truglaw13.PageFinds", spec := "pageFinds", unfollowed := true, recurses := true, named := ["trug/crc.half"], apart := false, laid := [("trug/crc.half", laid_trug_crc_half)], narrowed := true }
def PageFindsUptoSaid : Prop := pageFindsUptoRow.holds Tryd.pinned (OpenSpec.upto pageFindsSpec)

/-- 'truglaw13.PageApart', WHERE WHAT IT READS IS OF BULK AT MOST 1048576: true; the input reads as it did. -/
def pageApartUptoRow : OpenClaim := { program := "ytajfhoeejeadkaadoor", sum := "c5bc3f3ffe77c38fdccb27a1dc97d92fcd5c95ae0284cbf0933db023d5e1efe5", func := "trug/truglaw13.PageApart", spec := "pageApart", unfollowed := true, recurses := true, named := ["trug/crc.half"], apart := false, laid := [("trug/crc.half", laid_trug_crc_half)], narrowed := true }
def PageApartUptoSaid : Prop := pageApartUptoRow.holds Tryd.pinned (OpenSpec.upto pageApartSpec)

/-- 'truglaw12.SegmentParts', WHERE WHAT IT READS IS OF BULK AT MOST 1048576: true; the input reads as it did. -/
def segmentPartsUptoRow : OpenClaim := { program := "ytajfhoeejeadkaadoor", sum := "c5bc3f3ffe77c38fdccb27a1dc97d92fcd5c95ae0284cbf0933db023d5e1efe5", func := "trug/truglaw12.SegmentParts", spec := "segmentParts", unfollowed := true, recurses := true, named := ["trug/crc.half"], apart := false, laid := [("trug/crc.half", laid_trug_crc_half)], narrowed := true }
def SegmentPartsUptoSaid : Prop := segmentPartsUptoRow.holds Tryd.pinned (OpenSpec.upto segmentPartsSpec)

/-- 'truglaw12.SegmentScans', WHERE WHAT IT READS IS OF BULK AT MOST 1048576: true; the input reads as it did. -/
def segmentScansUptoRow : OpenClaim := { program := "ytajfhoeejeadkaadoor", sum := "c5bc3f3ffe77c38fdccb27a1dc97d92fcd5c95ae0284cbf0933db023d5e1efe5", func := "trug/truglaw12.SegmentScans", spec := "segmentScans", unfollowed := true, recurses := true, named := ["trug/crc.half"], apart := false, laid := [("trug/crc.half", laid_trug_crc_half)], narrowed := true }
def SegmentScansUptoSaid : Prop := segmentScansUptoRow.holds Tryd.pinned (OpenSpec.upto segmentScansSpec)

/-- 'truglaw12.SegmentBack', WHERE WHAT IT READS IS OF BULK AT MOST 1048576: true; the input reads as it did. -/
def segmentBackUptoRow : OpenClaim := { program := "ytajfhoeejeadkaadoor", sum := "c5bc3f3ffe77c38fdccb27a1dc97d92fcd5c95ae0284cbf0933db023d5e1efe5", func := "trug/truglaw12.SegmentBack", spec := "segmentBack", unfollowed := true, recurses := true, named := ["trug/crc.half"], apart := false, laid := [("trug/crc.half", laid_trug_crc_half)], narrowed := true }
def SegmentBackUptoSaid : Prop := segmentBackUptoRow.holds Tryd.pinned (OpenSpec.upto segmentBackSpec)

/-- 'truglaw12.SegmentPlaces', WHERE WHAT IT READS IS OF BULK AT MOST 1048576: true; the input reads as it did. -/
def segmentPlacesUptoRow : OpenClaim := { program := "ytajfhoeejeadkaadoor", sum := "c5bc3f3ffe77c38fdccb27a1dc97d92fcd5c95ae0284cbf0933db023d5e1efe5", func := "trug/truglaw12.SegmentPlaces", spec := "segmentPlaces", unfollowed := true, recurses := true, named := ["trug/crc.half"], apart := false, laid := [("trug/crc.half", laid_trug_crc_half)], narrowed := true }
def SegmentPlacesUptoSaid : Prop := segmentPlacesUptoRow.holds Tryd.pinned (OpenSpec.upto segmentPlacesSpec)

/-- 'truglaw12.SegmentNew', WHERE WHAT IT READS IS OF BULK AT MOST 1048576: true; the input reads as it did. -/
def segmentNewUptoRow : OpenClaim := { program := "ytajfhoeejeadkaadoor", sum := "c5bc3f3ffe77c38fdccb27a1dc97d92fcd5c95ae0284cbf0933db023d5e1efe5", func := "trug/truglaw12.SegmentNew", spec := "segmentNew", unfollowed := true, recurses := true, named := ["trug/crc.half"], apart := false, laid := [("trug/crc.half", laid_trug_crc_half)], narrowed := true }
def SegmentNewUptoSaid : Prop := segmentNewUptoRow.holds Tryd.pinned (OpenSpec.upto segmentNewSpec)

/-- 'truglaw16.ManifestBytes', WHERE WHAT IT READS IS OF BULK AT MOST 1048576: true; the input reads as it did. -/
def manifestBytesUptoRow : OpenClaim := { program := "ytajfhoeejeadkaadoor", sum := "c5bc3f3ffe77c38fdccb27a1dc97d92fcd5c95ae0284cbf0933db023d5e1efe5", func := "trug/truglaw16.ManifestBytes", spec := "manifestBytes", unfollowed := true, recurses := true, named := ["trug/crc.half", "internal/strconv.uint64pow10", "math/bits.deBruijn32tab", "math/bits.deBruijn64tab"], apart := false, laid := [("math/bits.deBruijn32tab", laid_math_bits_deBruijn32tab), ("math/bits.deBruijn64tab", laid_math_bits_deBruijn64tab), ("internal/strconv.uint64pow10", laid_internal_strconv_uint64pow10), ("trug/crc.half", laid_trug_crc_half)], narrowed := true }
def ManifestBytesUptoSaid : Prop := manifestBytesUptoRow.holds Tryd.pinned (OpenSpec.upto manifestBytesSpec)

/-- 'truglaw16.ManifestOrphans', WHERE WHAT IT READS IS OF BULK AT MOST 1048576: true; the input reads as it did. -/
def manifestOrphansUptoRow : OpenClaim := { program := "ytajfhoeejeadkaadoor", sum := "c5bc3f3ffe77c38fdccb27a1dc97d92fcd5c95ae0284cbf0933db023d5e1efe5", func := "trug/truglaw16.ManifestOrphans", spec := "manifestOrphans", unfollowed := true, recurses := true, named := ["trug/crc.half", "internal/strconv.uint64pow10", "math/bits.deBruijn32tab", "math/bits.deBruijn64tab"], apart := false, laid := [("math/bits.deBruijn32tab", laid_math_bits_deBruijn32tab), ("math/bits.deBruijn64tab", laid_math_bits_deBruijn64tab), ("internal/strconv.uint64pow10", laid_internal_strconv_uint64pow10), ("trug/crc.half", laid_trug_crc_half)], narrowed := true }
def ManifestOrphansUptoSaid : Prop := manifestOrphansUptoRow.holds Tryd.pinned (OpenSpec.upto manifestOrphansSpec)

/-- 'truglaw16.ManifestNeeds', WHERE WHAT IT READS IS OF BULK AT MOST 1048576: true; the input reads as it did. -/
def manifestNeedsUptoRow : OpenClaim := { program := "ytajfhoeejeadkaadoor", sum := "c5bc3f3ffe77c38fdccb27a1dc97d92fcd5c95ae0284cbf0933db023d5e1efe5", func := "trug/truglaw16.ManifestNeeds", spec := "manifestNeeds", unfollowed := true, recurses := true, named := ["trug/crc.half", "internal/strconv.uint64pow10", "math/bits.deBruijn32tab", "math/bits.deBruijn64tab"], apart := false, laid := [("math/bits.deBruijn32tab", laid_math_bits_deBruijn32tab), ("math/bits.deBruijn64tab", laid_math_bits_deBruijn64tab), ("internal/strconv.uint64pow10", laid_internal_strconv_uint64pow10), ("trug/crc.half", laid_trug_crc_half)], narrowed := true }
def ManifestNeedsUptoSaid : Prop := manifestNeedsUptoRow.holds Tryd.pinned (OpenSpec.upto manifestNeedsSpec)

/-- 'truglaw16.ManifestApart', WHERE WHAT IT READS IS OF BULK AT MOST 1048576: true; the input reads as it did. -/
def manifestApartUptoRow : OpenClaim := { program := "ytajfhoeejeadkaadoor", sum := "c5bc3f3ffe77c38fdccb27a1dc97d92fcd5c95ae0284cbf0933db023d5e1efe5", func := "trug/truglaw16.ManifestApart", spec := "manifestApart", unfollowed := true, recurses := true, named := ["trug/crc.half", "internal/strconv.uint64pow10", "math/bits.deBruijn32tab", "math/bits.deBruijn64tab"], apart := false, laid := [("math/bits.deBruijn32tab", laid_math_bits_deBruijn32tab), ("math/bits.deBruijn64tab", laid_math_bits_deBruijn64tab), ("internal/strconv.uint64pow10", laid_internal_strconv_uint64pow10), ("trug/crc.half", laid_trug_crc_half)], narrowed := true }
def ManifestApartUptoSaid : Prop := manifestApartUptoRow.holds Tryd.pinned (OpenSpec.upto manifestApartSpec)

end Rows
end Go.Proofs.YtajfhoeejeadkaaDoor
