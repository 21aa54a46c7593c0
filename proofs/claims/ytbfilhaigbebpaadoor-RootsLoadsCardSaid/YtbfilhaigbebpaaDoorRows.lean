/-
  NARROWER THAN 'FOR EVERY INPUT', by the rows' own cells (each row's printed sentence says how): RootsDumps: laid · RootsLoads: laid · RootsPicks: laid · RootsBack: laid · RootsOther: laid · RootsPlaces: laid.
  DERIVED. THE GIVEN ROWS OF THIS SEAT. 6 by the template 'for every input the law returns true; each argument reads behind the call as it read before'; 0 by the template 'total and deterministic' (their statements: YtbfilhaigbebpaaDoorTotals.lean).
  GIVEN WITH THE SEED: the statements are not yours to turn. If you find one false, say at which input.
  Laid BY PROGRAM, IN A SANDBOX (cutbox-rows.mjs): the forced cells as the released guide's own fill.sh prints them over the translation d7d852a4a878cb2b… (all of the seat's roots in one cut). By AI agents, Wed Nov 11 2026. No macro, syntax, notation, axiom, sorry.
-/
import Derived.Test.YtbfilhaigbebpaaDoorChecked
import GoSem.Claim
import GoSem.ClaimJoined
import GoSem.ClaimMapViews
import Derived.JoinedTies
import Derived.KernelRfl
namespace Go.Proofs.YtbfilhaigbebpaaDoor
/- THE CELL 'sum', in the pinned program and in every row, IS THE sha256 OF THE DUMP (.gsa) THAT YtbfilhaigbebpaaDoorProg.lean LOADS. Nothing in Lean hashes anything: it is a label: what it is worth is what the hold of that sum in a sandbox is worth. -/
noncomputable def Tryd.pinned : Pinned := { name := "ytbfilhaigbebpaadoor", sum := "d7d852a4a878cb2b746e418cebe00b8cd4b1f3f5a4d2540f134713ca0ef4f984", checked := Tryd.checked }
namespace Rows
def none {H : Type} : Left H := { results := [], args := [] }

/- WHAT THE LISTED PACKAGE-LEVEL VARIABLES READ AS WHEN THE CALL BEGINS. Each datum BY PROGRAM (the guide's laid-datum.mjs) off the statement by which the dump's own 'gosem.cut.vars' lays the variable. In a bare row this is a premise. The card (YtbfilhaigbebpaaDoorCards.lean) ties it to the program's text. -/
def laid_trug_crc_half {H : Type} : DataW H := .agg [.lit (.int .u32 0), .lit (.int .u32 498536548), .lit (.int .u32 997073096), .lit (.int .u32 651767980), .lit (.int .u32 1994146192), .lit (.int .u32 1802195444), .lit (.int .u32 1303535960), .lit (.int .u32 1342533948), .lit (.int .u32 3988292384), .lit (.int .u32 4027552580), .lit (.int .u32 3604390888), .lit (.int .u32 3412177804), .lit (.int .u32 2607071920), .lit (.int .u32 2262029012), .lit (.int .u32 2685067896), .lit (.int .u32 3183342108)]

/-- 'truglaw15.RootsDumps': WHATEVER THE INPUT: true; the input reads as it did. -/
def rootsDumpsSpec : ChangeSpec := { name := "rootsDumps", fn := fun _ => fun
  | [d1, d2, d3] => { results := [.lit (.bool true)], args := [d1, d2, d3] }
  | _ => none }
def rootsDumpsRow : OpenClaim := { program := "ytbfilhaigbebpaadoor", sum := "d7d852a4a878cb2b746e418cebe00b8cd4b1f3f5a4d2540f134713ca0ef4f984", func := "trug/truglaw15.RootsDumps", spec := "rootsDumps", unfollowed := true, recurses := true, named := ["trug/crc.half"], apart := false, laid := [("trug/crc.half", laid_trug_crc_half)] }
def RootsDumpsSaid : Prop := rootsDumpsRow.holds Tryd.pinned (OpenSpec.ofChange rootsDumpsSpec)

/-- ITS FALSE NEIGHBOUR: 'it returns false'. Refute it at one input. -/
def rootsDumpsWrong : ChangeSpec := { name := "rootsDumps", fn := fun _ => fun
  | [d1, d2, d3] => { results := [.lit (.bool false)], args := [d1, d2, d3] }
  | _ => none }
def RootsDumpsWrongFalsely : Prop := rootsDumpsRow.holds Tryd.pinned (OpenSpec.ofChange rootsDumpsWrong)

/-- 'truglaw15.RootsLoads': WHATEVER THE INPUT: true; the input reads as it did. -/
def rootsLoadsSpec : ChangeSpec := { name := "rootsLoads", fn := fun _ => fun
  | [d1, d2] => { results := [.lit (.bool true)], args := [d1, d2] }
  | _ => none }
def rootsLoadsRow : OpenClaim := { program := "ytbfilhaigbebpaadoor", sum := "d7d852a4a878cb2b746e418cebe00b8cd4b1f3f5a4d2540f134713ca0ef4f984", func := "trug/truglaw15.RootsLoads", spec := "rootsLoads", unfollowed := true, recurses := true, named := ["trug/crc.half"], apart := false, laid := [("trug/crc.half", laid_trug_crc_half)] }
def RootsLoadsSaid : Prop := rootsLoadsRow.holds Tryd.pinned (OpenSpec.ofChange rootsLoadsSpec)

/-- ITS FALSE NEIGHBOUR: 'it returns false'. Refute it at one input. -/
def rootsLoadsWrong : ChangeSpec := { name := "rootsLoads", fn := fun _ => fun
  | [d1, d2] => { results := [.lit (.bool false)], args := [d1, d2] }
  | _ => none }
def RootsLoadsWrongFalsely : Prop := rootsLoadsRow.holds Tryd.pinned (OpenSpec.ofChange rootsLoadsWrong)

/-- 'truglaw15.RootsPicks': WHATEVER THE INPUT: true; the input reads as it did. -/
def rootsPicksSpec : ChangeSpec := { name := "rootsPicks", fn := fun _ => fun
  | [d1, d2, d3] => { results := [.lit (.bool true)], args := [d1, d2, d3] }
  | _ => none }
def rootsPicksRow : OpenClaim := { program := "ytbfilhaigbebpaadoor", sum := "d7d852a4a878cb2b746e418cebe00b8cd4b1f3f5a4d2540f134713ca0ef4f984", func := "trug/truglaw15.RootsPicks", spec := "rootsPicks", unfollowed := true, recurses := true, named := ["trug/crc.half"], apart := false, laid := [("trug/crc.half", laid_trug_crc_half)] }
def RootsPicksSaid : Prop := rootsPicksRow.holds Tryd.pinned (OpenSpec.ofChange rootsPicksSpec)

/-- ITS FALSE NEIGHBOUR: 'it returns false'. Refute it at one input. -/
def rootsPicksWrong : ChangeSpec := { name := "rootsPicks", fn := fun _ => fun
  | [d1, d2, d3] => { results := [.lit (.bool false)], args := [d1, d2, d3] }
  | _ => none }
def RootsPicksWrongFalsely : Prop := rootsPicksRow.holds Tryd.pinned (OpenSpec.ofChange rootsPicksWrong)

/-- 'truglaw15.RootsBack': WHATEVER THE INPUT: true; the input reads as it did. -/
def rootsBackSpec : ChangeSpec := { name := "rootsBack", fn := fun _ => fun
  | [d1, d2, d3] => { results := [.lit (.bool true)], args := [d1, d2, d3] }
  | _ => none }
def rootsBackRow : OpenClaim := { program := "ytbfilhaigbebpaadoor", sum := "d7d852a4a878cb2b746e418cebe00b8cd4b1f3f5a4d2540f134713ca0ef4f984", func := "trug/truglaw15.RootsBack", spec := "rootsBack", unfollowed := true, recurses := true, named := ["trug/crc.half"], apart := false, laid := [("trug/crc.half", laid_trug_crc_half)] }
def RootsBackSaid : Prop := rootsBackRow.holds Tryd.pinned (OpenSpec.ofChange rootsBackSpec)

/-- ITS FALSE NEIGHBOUR: 'it returns false'. Refute it at one input. -/
def rootsBackWrong : ChangeSpec := { name := "rootsBack", fn := fun _ => fun
  | [d1, d2, d3] => { results := [.lit (.bool false)], args := [d1, d2, d3] }
  | _ => none }
def RootsBackWrongFalsely : Prop := rootsBackRow.holds Tryd.pinned (OpenSpec.ofChange rootsBackWrong)

/-- 'truglaw15.RootsOther': WHATEVER THE INPUT: true; the input reads as it did. -/
def rootsOtherSpec : ChangeSpec := { name := "rootsOther", fn := fun _ => fun
  | [d1, d2, d3] => { results := [.lit (.bool true)], args := [d1, d2, d3] }
  | _ => none }
def rootsOtherRow : OpenClaim := { program := "ytbfilhaigbebpaadoor", sum := "d7d852a4a878cb2b746e418cebe00b8cd4b1f3f5a4d2540f134713ca0ef4f984", func := "trug/truglaw15.RootsOther", spec := "rootsOther", unfollowed := true, recurses := true, named := ["trug/crc.half"], apart := false, laid := [("trug/crc.half", laid_trug_crc_half)] }
def RootsOtherSaid : Prop := rootsOtherRow.holds Tryd.pinned (OpenSpec.ofChange rootsOtherSpec)

/-- ITS FALSE NEIGHBOUR: 'it returns false'. Refute it at one input. -/
def rootsOtherWrong : ChangeSpec := { name := "rootsOther", fn := fun _ => fun
  | [d1, d2, d3] => { results := [.lit (.bool false)], args := [d1, d2, d3] }
  | _ => none }
def RootsOtherWrongFalsely : Prop := rootsOtherRow.holds Tryd.pinned (OpenSpec.ofChange rootsOtherWrong)

/-- 'truglaw15.RootsPlaces': WHATEVER THE INPUT: true; the input reads as it did. -/
def rootsPlacesSpec : ChangeSpec := { name := "rootsPlaces", fn := fun _ => fun
  | [d1, d2] => { results := [.lit (.bool true)], args := [d1, d2] }
  | _ => none }
def rootsPlacesRow : OpenClaim := { program := "ytbfilhaigbebpaadoor", sum := "d7d852a4a878cb2b746e418cebe00b8cd4b1f3f5a4d2540f134713ca0ef4f984", func := "trug/truglaw15.RootsPlaces", spec := "rootsPlaces", unfollowed := true, recurses := true, named := ["trug/crc.half"], apart := false, laid := [("trug/crc.half", laid_trug_crc_half)] }
def RootsPlacesSaid : Prop := rootsPlacesRow.holds Tryd.pinned (OpenSpec.ofChange rootsPlacesSpec)

/-- ITS FALSE NEIGHBOUR: 'it returns false'. Refute it at one input. -/
def rootsPlacesWrong : ChangeSpec := { name := "rootsPlaces", fn := fun _ => fun
  | [d1, d2] => { results := [.lit (.bool false)], args := [d1, d2] }
  | _ => none }
def RootsPlacesWrongFalsely : Prop := rootsPlacesRow.holds Tryd.pinned (OpenSpec.ofChange rootsPlacesWrong)

/- THE SECOND FORM. 'bulk': how many values and letters a reading holds, each counted each time it is reached (what is shared counts as often as it is met; a slice's spare places count too). A statement '..UptoSaid' is the law's where the arguments, and the package variables that the reading takes, are together of bulk at most 1048576: NARROWER than '..Said'. Prove '..Said' where nothing that the law and all that it calls make is longer than what came in: it says more and counts as full. Else prove '..UptoSaid'. A law counts once. -/
mutual
def uptoBulk {H : Type} : DataW H → Nat
  | .lit (.string bytes) => bytes.length + 1
  | .lit _ => 1
  | .nil => 1
  | .ptr d => uptoBulk d + 1
  | .slice elems spare => uptoBulkAll elems + uptoBulkAll spare + 1
  | .agg parts => uptoBulkAll parts + 1
  | .iface _ d => uptoBulk d + 1
  | .map entries => uptoBulkEntries entries + 1
  | .held _ => 1
def uptoBulkAll {H : Type} : List (DataW H) → Nat
  | [] => 0
  | d :: r => uptoBulk d + uptoBulkAll r
def uptoBulkEntries {H : Type} : List (Lit × DataW H) → Nat
  | [] => 0
  | x :: r => uptoBulkEntry x + uptoBulkEntries r
def uptoBulkEntry {H : Type} : Lit × DataW H → Nat
  | (.string bytes, d) => bytes.length + uptoBulk d + 1
  | (_, d) => uptoBulk d + 1
 end
def uptoSmall : (H : Type) → List (DataW H) → Bool := fun _ ds => decide (uptoBulkAll ds ≤ 1048576)
def OpenSpec.upto (s : _root_.Go.ChangeSpec) : _root_.Go.OpenSpec := { _root_.Go.OpenSpec.ofChange s with cond := some uptoSmall }

/-- 'truglaw15.RootsDumps', WHERE WHAT IT READS IS OF BULK AT MOST 1048576: true; the input reads as it did. -/
def rootsDumpsUptoRow : OpenClaim := { program := "ytbfilhaigbebpaadoor", sum := "d7d852a4a878cb2b746e418cebe00b8cd4b1f3f5a4d2540f134713ca0ef4f984", func := "trug/truglaw15.RootsDumps", spec := "rootsDumps", unfollowed := true, recurses := true, named := ["trug/crc.half"], apart := false, laid := [("trug/crc.half", laid_trug_crc_half)], narrowed := true }
def RootsDumpsUptoSaid : Prop := rootsDumpsUptoRow.holds Tryd.pinned (OpenSpec.upto rootsDumpsSpec)

/-- 'truglaw15.RootsLoads', WHERE WHAT IT READS IS OF BULK AT MOST 1048576: true; the input reads as it did. -/
def rootsLoadsUptoRow : OpenClaim := { program := "ytbfilhaigbebpaadoor", sum := "d7d852a4a878cb2b746e418cebe00b8cd4b1f3f5a4d2540f134713ca0ef4f984", func := "trug/truglaw15.RootsLoads", spec := "rootsLoads", unfollowed := true, recurses := true, named := ["trug/crc.half"], apart := false, laid := [("trug/crc.half", laid_trug_crc_half)], narrowed := true }
def RootsLoadsUptoSaid : Prop := rootsLoadsUptoRow.holds Tryd.pinned (OpenSpec.upto rootsLoadsSpec)

/-- 'truglaw15.RootsPicks', WHERE WHAT IT READS IS OF BULK AT MOST 1048576: true; the input reads as it did. -/
def rootsPicksUptoRow : OpenClaim := { program := "ytbfilhaigbebpaadoor", sum := "d7d852a4a878cb2b746e418cebe00b8cd4b1f3f5a4d2540f134713ca0ef4f984", func := "trug/truglaw15.RootsPicks", spec := "rootsPicks", unfollowed := true, recurses := true, named := ["trug/crc.half"], apart := false, laid := [("trug/crc.half", laid_trug_crc_half)], narrowed := true }
def RootsPicksUptoSaid : Prop := rootsPicksUptoRow.holds Tryd.pinned (OpenSpec.upto rootsPicksSpec)

/-- 'truglaw15.RootsBack', WHERE WHAT IT READS IS OF BULK AT MOST 1048576: true; the input reads as it did. -/
def rootsBackUptoRow : OpenClaim := { program := "ytbfilhaigbebpaadoor", sum := "d7d852a4a878cb2b746e418cebe00b8cd4b1f3f5a4d2540f134713ca0ef4f984", func := "trug/truglaw15.RootsBack", spec := "rootsBack", unfollowed := true, recurses := true, named := ["trug/crc.half"], apart := false, laid := [("trug/crc.half", laid_trug_crc_half)], narrowed := true }
def RootsBackUptoSaid : Prop := rootsBackUptoRow.holds Tryd.pinned (OpenSpec.upto rootsBackSpec)

/-- 'truglaw15.RootsOther', WHERE WHAT IT READS IS OF BULK AT MOST 1048576: true; the input reads as it did. -/
def rootsOtherUptoRow : OpenClaim := { program := "ytbfilhaigbebpaadoor", sum := "d7d852a4a878cb2b746e418cebe00b8cd4b1f3f5a4d2540f134713ca0ef4f984", func := "trug/truglaw15.RootsOther", spec := "rootsOther", unfollowed := true, recurses := true, named := ["trug/crc.half"], apart := false, laid := [("trug/crc.half", laid_trug_crc_half)], narrowed := true }
def RootsOtherUptoSaid : Prop := rootsOtherUptoRow.holds Tryd.pinned (OpenSpec.upto rootsOtherSpec)

/-- 'truglaw15.RootsPlaces', WHERE WHAT IT READS IS OF BULK AT MOST 1048576: true; the input reads as it did. -/
def rootsPlacesUptoRow : OpenClaim := { program := "ytbfilhaigbebpaadoor", sum := "d7d852a4a878cb2b746e418cebe00b8cd4b1f3f5a4d2540f134713ca0ef4f984", func := "trug/truglaw15.RootsPlaces", spec := "rootsPlaces", unfollowed := true, recurses := true, named := ["trug/crc.half"], apart := false, laid := [("trug/crc.half", laid_trug_crc_half)], narrowed := true }
def RootsPlacesUptoSaid : Prop := rootsPlacesUptoRow.holds Tryd.pinned (OpenSpec.upto rootsPlacesSpec)

end Rows
end Go.Proofs.YtbfilhaigbebpaaDoor
