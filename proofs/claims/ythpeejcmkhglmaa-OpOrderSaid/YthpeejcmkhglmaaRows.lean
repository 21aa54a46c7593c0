/-
  No cell of these rows narrows 'for every input' (looked for: loops, veiled, ifaces, maps, wideKeys, modest, calm, conditions, laid).
  DERIVED. THE GIVEN ROWS OF THIS SEAT. 21 by the template 'for every input the law returns true; each argument reads behind the call as it read before'; 0 by the template 'total and deterministic' (their statements: YthpeejcmkhglmaaTotals.lean).
  GIVEN WITH THE SEED: the statements are not yours to turn. If you find one false, say at which input.
  Laid BY PROGRAM, IN A SANDBOX (cutbox-rows.mjs): the forced cells as the released guide's own fill.sh prints them over the translation f5f500f8fbce463d… (all of the seat's roots in one cut). By AI agents, Wed Nov 11 2026. No macro, syntax, notation, axiom, sorry.
-/
import Derived.Test.YthpeejcmkhglmaaChecked
import GoSem.Claim
import GoSem.ClaimJoined
import GoSem.ClaimMapViews
import Derived.JoinedTies
import Derived.KernelRfl
namespace Go.Proofs.Ythpeejcmkhglmaa
/- THE CELL 'sum', in the pinned program and in every row, IS THE sha256 OF THE DUMP (.gsa) THAT YthpeejcmkhglmaaProg.lean LOADS. Nothing in Lean hashes anything: it is a label: what it is worth is what the hold of that sum in a sandbox is worth. -/
noncomputable def Try.pinned : Pinned := { name := "ythpeejcmkhglmaa", sum := "f5f500f8fbce463dcf0b87b65f784c549772f25d7c72d51c25ae44b678698dbd", checked := Try.checked }
namespace Rows
def none {H : Type} : Left H := { results := [], args := [] }

/-- 'truglaw03.PackWrites': WHATEVER THE INPUT: true; the input reads as it did. -/
def packWritesSpec : ChangeSpec := { name := "packWrites", fn := fun _ => fun
  | [d] => { results := [.lit (.bool true)], args := [d] }
  | _ => none }
def packWritesRow : OpenClaim := { program := "ythpeejcmkhglmaa", sum := "f5f500f8fbce463dcf0b87b65f784c549772f25d7c72d51c25ae44b678698dbd", func := "trug/truglaw03.PackWrites", spec := "packWrites", apart := false }
def PackWritesSaid : Prop := packWritesRow.holds Try.pinned (OpenSpec.ofChange packWritesSpec)

/-- ITS FALSE NEIGHBOUR: 'it returns false'. Refute it at one input. -/
def packWritesWrong : ChangeSpec := { name := "packWrites", fn := fun _ => fun
  | [d] => { results := [.lit (.bool false)], args := [d] }
  | _ => none }
def PackWritesWrongFalsely : Prop := packWritesRow.holds Try.pinned (OpenSpec.ofChange packWritesWrong)

/-- 'truglaw03.PackSizes': WHATEVER THE INPUT: true; the input reads as it did. -/
def packSizesSpec : ChangeSpec := { name := "packSizes", fn := fun _ => fun
  | [d] => { results := [.lit (.bool true)], args := [d] }
  | _ => none }
def packSizesRow : OpenClaim := { program := "ythpeejcmkhglmaa", sum := "f5f500f8fbce463dcf0b87b65f784c549772f25d7c72d51c25ae44b678698dbd", func := "trug/truglaw03.PackSizes", spec := "packSizes", apart := false }
def PackSizesSaid : Prop := packSizesRow.holds Try.pinned (OpenSpec.ofChange packSizesSpec)

/-- ITS FALSE NEIGHBOUR: 'it returns false'. Refute it at one input. -/
def packSizesWrong : ChangeSpec := { name := "packSizes", fn := fun _ => fun
  | [d] => { results := [.lit (.bool false)], args := [d] }
  | _ => none }
def PackSizesWrongFalsely : Prop := packSizesRow.holds Try.pinned (OpenSpec.ofChange packSizesWrong)

/-- 'truglaw03.PackReads': WHATEVER THE INPUT: true; the input reads as it did. -/
def packReadsSpec : ChangeSpec := { name := "packReads", fn := fun _ => fun
  | [d1, d2] => { results := [.lit (.bool true)], args := [d1, d2] }
  | _ => none }
def packReadsRow : OpenClaim := { program := "ythpeejcmkhglmaa", sum := "f5f500f8fbce463dcf0b87b65f784c549772f25d7c72d51c25ae44b678698dbd", func := "trug/truglaw03.PackReads", spec := "packReads", apart := false }
def PackReadsSaid : Prop := packReadsRow.holds Try.pinned (OpenSpec.ofChange packReadsSpec)

/-- ITS FALSE NEIGHBOUR: 'it returns false'. Refute it at one input. -/
def packReadsWrong : ChangeSpec := { name := "packReads", fn := fun _ => fun
  | [d1, d2] => { results := [.lit (.bool false)], args := [d1, d2] }
  | _ => none }
def PackReadsWrongFalsely : Prop := packReadsRow.holds Try.pinned (OpenSpec.ofChange packReadsWrong)

/-- 'truglaw03.PackBack': WHATEVER THE INPUT: true; the input reads as it did. -/
def packBackSpec : ChangeSpec := { name := "packBack", fn := fun _ => fun
  | [d] => { results := [.lit (.bool true)], args := [d] }
  | _ => none }
def packBackRow : OpenClaim := { program := "ythpeejcmkhglmaa", sum := "f5f500f8fbce463dcf0b87b65f784c549772f25d7c72d51c25ae44b678698dbd", func := "trug/truglaw03.PackBack", spec := "packBack", apart := false }
def PackBackSaid : Prop := packBackRow.holds Try.pinned (OpenSpec.ofChange packBackSpec)

/-- ITS FALSE NEIGHBOUR: 'it returns false'. Refute it at one input. -/
def packBackWrong : ChangeSpec := { name := "packBack", fn := fun _ => fun
  | [d] => { results := [.lit (.bool false)], args := [d] }
  | _ => none }
def PackBackWrongFalsely : Prop := packBackRow.holds Try.pinned (OpenSpec.ofChange packBackWrong)

/-- 'truglaw03.PackNobody': WHATEVER THE INPUT: true; the input reads as it did. -/
def packNobodySpec : ChangeSpec := { name := "packNobody", fn := fun _ => fun
  | [d] => { results := [.lit (.bool true)], args := [d] }
  | _ => none }
def packNobodyRow : OpenClaim := { program := "ythpeejcmkhglmaa", sum := "f5f500f8fbce463dcf0b87b65f784c549772f25d7c72d51c25ae44b678698dbd", func := "trug/truglaw03.PackNobody", spec := "packNobody", apart := false }
def PackNobodySaid : Prop := packNobodyRow.holds Try.pinned (OpenSpec.ofChange packNobodySpec)

/-- ITS FALSE NEIGHBOUR: 'it returns false'. Refute it at one input. -/
def packNobodyWrong : ChangeSpec := { name := "packNobody", fn := fun _ => fun
  | [d] => { results := [.lit (.bool false)], args := [d] }
  | _ => none }
def PackNobodyWrongFalsely : Prop := packNobodyRow.holds Try.pinned (OpenSpec.ofChange packNobodyWrong)

/-- 'truglaw04.VecOrders': WHATEVER THE INPUT: true; the input reads as it did. -/
def vecOrdersSpec : ChangeSpec := { name := "vecOrders", fn := fun _ => fun
  | [d1, d2, d3] => { results := [.lit (.bool true)], args := [d1, d2, d3] }
  | _ => none }
def vecOrdersRow : OpenClaim := { program := "ythpeejcmkhglmaa", sum := "f5f500f8fbce463dcf0b87b65f784c549772f25d7c72d51c25ae44b678698dbd", func := "trug/truglaw04.VecOrders", spec := "vecOrders", apart := false }
def VecOrdersSaid : Prop := vecOrdersRow.holds Try.pinned (OpenSpec.ofChange vecOrdersSpec)

/-- ITS FALSE NEIGHBOUR: 'it returns false'. Refute it at one input. -/
def vecOrdersWrong : ChangeSpec := { name := "vecOrders", fn := fun _ => fun
  | [d1, d2, d3] => { results := [.lit (.bool false)], args := [d1, d2, d3] }
  | _ => none }
def VecOrdersWrongFalsely : Prop := vecOrdersRow.holds Try.pinned (OpenSpec.ofChange vecOrdersWrong)

/-- 'truglaw04.VecDots': WHATEVER THE INPUT: true; the input reads as it did. -/
def vecDotsSpec : ChangeSpec := { name := "vecDots", fn := fun _ => fun
  | [d1, d2] => { results := [.lit (.bool true)], args := [d1, d2] }
  | _ => none }
def vecDotsRow : OpenClaim := { program := "ythpeejcmkhglmaa", sum := "f5f500f8fbce463dcf0b87b65f784c549772f25d7c72d51c25ae44b678698dbd", func := "trug/truglaw04.VecDots", spec := "vecDots", apart := false }
def VecDotsSaid : Prop := vecDotsRow.holds Try.pinned (OpenSpec.ofChange vecDotsSpec)

/-- ITS FALSE NEIGHBOUR: 'it returns false'. Refute it at one input. -/
def vecDotsWrong : ChangeSpec := { name := "vecDots", fn := fun _ => fun
  | [d1, d2] => { results := [.lit (.bool false)], args := [d1, d2] }
  | _ => none }
def VecDotsWrongFalsely : Prop := vecDotsRow.holds Try.pinned (OpenSpec.ofChange vecDotsWrong)

/-- 'truglaw04.VecFlip': WHATEVER THE INPUT: true; the input reads as it did. -/
def vecFlipSpec : ChangeSpec := { name := "vecFlip", fn := fun _ => fun
  | [d1, d2, d3] => { results := [.lit (.bool true)], args := [d1, d2, d3] }
  | _ => none }
def vecFlipRow : OpenClaim := { program := "ythpeejcmkhglmaa", sum := "f5f500f8fbce463dcf0b87b65f784c549772f25d7c72d51c25ae44b678698dbd", func := "trug/truglaw04.VecFlip", spec := "vecFlip", apart := false }
def VecFlipSaid : Prop := vecFlipRow.holds Try.pinned (OpenSpec.ofChange vecFlipSpec)

/-- ITS FALSE NEIGHBOUR: 'it returns false'. Refute it at one input. -/
def vecFlipWrong : ChangeSpec := { name := "vecFlip", fn := fun _ => fun
  | [d1, d2, d3] => { results := [.lit (.bool false)], args := [d1, d2, d3] }
  | _ => none }
def VecFlipWrongFalsely : Prop := vecFlipRow.holds Try.pinned (OpenSpec.ofChange vecFlipWrong)

/-- 'truglaw04.VecJoins': WHATEVER THE INPUT: true; the input reads as it did. -/
def vecJoinsSpec : ChangeSpec := { name := "vecJoins", fn := fun _ => fun
  | [d1, d2] => { results := [.lit (.bool true)], args := [d1, d2] }
  | _ => none }
def vecJoinsRow : OpenClaim := { program := "ythpeejcmkhglmaa", sum := "f5f500f8fbce463dcf0b87b65f784c549772f25d7c72d51c25ae44b678698dbd", func := "trug/truglaw04.VecJoins", spec := "vecJoins", apart := false }
def VecJoinsSaid : Prop := vecJoinsRow.holds Try.pinned (OpenSpec.ofChange vecJoinsSpec)

/-- ITS FALSE NEIGHBOUR: 'it returns false'. Refute it at one input. -/
def vecJoinsWrong : ChangeSpec := { name := "vecJoins", fn := fun _ => fun
  | [d1, d2] => { results := [.lit (.bool false)], args := [d1, d2] }
  | _ => none }
def VecJoinsWrongFalsely : Prop := vecJoinsRow.holds Try.pinned (OpenSpec.ofChange vecJoinsWrong)

/-- 'truglaw04.VecLattice': WHATEVER THE INPUT: true; the input reads as it did. -/
def vecLatticeSpec : ChangeSpec := { name := "vecLattice", fn := fun _ => fun
  | [d1, d2, d3] => { results := [.lit (.bool true)], args := [d1, d2, d3] }
  | _ => none }
def vecLatticeRow : OpenClaim := { program := "ythpeejcmkhglmaa", sum := "f5f500f8fbce463dcf0b87b65f784c549772f25d7c72d51c25ae44b678698dbd", func := "trug/truglaw04.VecLattice", spec := "vecLattice", apart := false }
def VecLatticeSaid : Prop := vecLatticeRow.holds Try.pinned (OpenSpec.ofChange vecLatticeSpec)

/-- ITS FALSE NEIGHBOUR: 'it returns false'. Refute it at one input. -/
def vecLatticeWrong : ChangeSpec := { name := "vecLattice", fn := fun _ => fun
  | [d1, d2, d3] => { results := [.lit (.bool false)], args := [d1, d2, d3] }
  | _ => none }
def VecLatticeWrongFalsely : Prop := vecLatticeRow.holds Try.pinned (OpenSpec.ofChange vecLatticeWrong)

/-- 'truglaw04.VecMembers': WHATEVER THE INPUT: true; the input reads as it did. -/
def vecMembersSpec : ChangeSpec := { name := "vecMembers", fn := fun _ => fun
  | [d1, d2, d3] => { results := [.lit (.bool true)], args := [d1, d2, d3] }
  | _ => none }
def vecMembersRow : OpenClaim := { program := "ythpeejcmkhglmaa", sum := "f5f500f8fbce463dcf0b87b65f784c549772f25d7c72d51c25ae44b678698dbd", func := "trug/truglaw04.VecMembers", spec := "vecMembers", apart := false }
def VecMembersSaid : Prop := vecMembersRow.holds Try.pinned (OpenSpec.ofChange vecMembersSpec)

/-- ITS FALSE NEIGHBOUR: 'it returns false'. Refute it at one input. -/
def vecMembersWrong : ChangeSpec := { name := "vecMembers", fn := fun _ => fun
  | [d1, d2, d3] => { results := [.lit (.bool false)], args := [d1, d2, d3] }
  | _ => none }
def VecMembersWrongFalsely : Prop := vecMembersRow.holds Try.pinned (OpenSpec.ofChange vecMembersWrong)

/-- 'truglaw04.VecSums': WHATEVER THE INPUT: true; the input reads as it did. -/
def vecSumsSpec : ChangeSpec := { name := "vecSums", fn := fun _ => fun
  | [d1, d2] => { results := [.lit (.bool true)], args := [d1, d2] }
  | _ => none }
def vecSumsRow : OpenClaim := { program := "ythpeejcmkhglmaa", sum := "f5f500f8fbce463dcf0b87b65f784c549772f25d7c72d51c25ae44b678698dbd", func := "trug/truglaw04.VecSums", spec := "vecSums", apart := false }
def VecSumsSaid : Prop := vecSumsRow.holds Try.pinned (OpenSpec.ofChange vecSumsSpec)

/-- ITS FALSE NEIGHBOUR: 'it returns false'. Refute it at one input. -/
def vecSumsWrong : ChangeSpec := { name := "vecSums", fn := fun _ => fun
  | [d1, d2] => { results := [.lit (.bool false)], args := [d1, d2] }
  | _ => none }
def VecSumsWrongFalsely : Prop := vecSumsRow.holds Try.pinned (OpenSpec.ofChange vecSumsWrong)

/-- 'truglaw04.VecBytes': WHATEVER THE INPUT: true; the input reads as it did. -/
def vecBytesSpec : ChangeSpec := { name := "vecBytes", fn := fun _ => fun
  | [d1, d2] => { results := [.lit (.bool true)], args := [d1, d2] }
  | _ => none }
def vecBytesRow : OpenClaim := { program := "ythpeejcmkhglmaa", sum := "f5f500f8fbce463dcf0b87b65f784c549772f25d7c72d51c25ae44b678698dbd", func := "trug/truglaw04.VecBytes", spec := "vecBytes", apart := false }
def VecBytesSaid : Prop := vecBytesRow.holds Try.pinned (OpenSpec.ofChange vecBytesSpec)

/-- ITS FALSE NEIGHBOUR: 'it returns false'. Refute it at one input. -/
def vecBytesWrong : ChangeSpec := { name := "vecBytes", fn := fun _ => fun
  | [d1, d2] => { results := [.lit (.bool false)], args := [d1, d2] }
  | _ => none }
def VecBytesWrongFalsely : Prop := vecBytesRow.holds Try.pinned (OpenSpec.ofChange vecBytesWrong)

/-- 'truglaw06.OpRights': WHATEVER THE INPUT: true; the input reads as it did. -/
def opRightsSpec : ChangeSpec := { name := "opRights", fn := fun _ => fun
  | [d1, d2, d3] => { results := [.lit (.bool true)], args := [d1, d2, d3] }
  | _ => none }
def opRightsRow : OpenClaim := { program := "ythpeejcmkhglmaa", sum := "f5f500f8fbce463dcf0b87b65f784c549772f25d7c72d51c25ae44b678698dbd", func := "trug/truglaw06.OpRights", spec := "opRights", apart := false }
def OpRightsSaid : Prop := opRightsRow.holds Try.pinned (OpenSpec.ofChange opRightsSpec)

/-- ITS FALSE NEIGHBOUR: 'it returns false'. Refute it at one input. -/
def opRightsWrong : ChangeSpec := { name := "opRights", fn := fun _ => fun
  | [d1, d2, d3] => { results := [.lit (.bool false)], args := [d1, d2, d3] }
  | _ => none }
def OpRightsWrongFalsely : Prop := opRightsRow.holds Try.pinned (OpenSpec.ofChange opRightsWrong)

/-- 'truglaw06.OpReady': WHATEVER THE INPUT: true; the input reads as it did. -/
def opReadySpec : ChangeSpec := { name := "opReady", fn := fun _ => fun
  | [d1, d2] => { results := [.lit (.bool true)], args := [d1, d2] }
  | _ => none }
def opReadyRow : OpenClaim := { program := "ythpeejcmkhglmaa", sum := "f5f500f8fbce463dcf0b87b65f784c549772f25d7c72d51c25ae44b678698dbd", func := "trug/truglaw06.OpReady", spec := "opReady", apart := false }
def OpReadySaid : Prop := opReadyRow.holds Try.pinned (OpenSpec.ofChange opReadySpec)

/-- ITS FALSE NEIGHBOUR: 'it returns false'. Refute it at one input. -/
def opReadyWrong : ChangeSpec := { name := "opReady", fn := fun _ => fun
  | [d1, d2] => { results := [.lit (.bool false)], args := [d1, d2] }
  | _ => none }
def OpReadyWrongFalsely : Prop := opReadyRow.holds Try.pinned (OpenSpec.ofChange opReadyWrong)

/-- 'truglaw06.OpBytes': WHATEVER THE INPUT: true; the input reads as it did. -/
def opBytesSpec : ChangeSpec := { name := "opBytes", fn := fun _ => fun
  | [d1, d2] => { results := [.lit (.bool true)], args := [d1, d2] }
  | _ => none }
def opBytesRow : OpenClaim := { program := "ythpeejcmkhglmaa", sum := "f5f500f8fbce463dcf0b87b65f784c549772f25d7c72d51c25ae44b678698dbd", func := "trug/truglaw06.OpBytes", spec := "opBytes", apart := false }
def OpBytesSaid : Prop := opBytesRow.holds Try.pinned (OpenSpec.ofChange opBytesSpec)

/-- ITS FALSE NEIGHBOUR: 'it returns false'. Refute it at one input. -/
def opBytesWrong : ChangeSpec := { name := "opBytes", fn := fun _ => fun
  | [d1, d2] => { results := [.lit (.bool false)], args := [d1, d2] }
  | _ => none }
def OpBytesWrongFalsely : Prop := opBytesRow.holds Try.pinned (OpenSpec.ofChange opBytesWrong)

/-- 'truglaw06.OpBack': WHATEVER THE INPUT: true; the input reads as it did. -/
def opBackSpec : ChangeSpec := { name := "opBack", fn := fun _ => fun
  | [d1, d2] => { results := [.lit (.bool true)], args := [d1, d2] }
  | _ => none }
def opBackRow : OpenClaim := { program := "ythpeejcmkhglmaa", sum := "f5f500f8fbce463dcf0b87b65f784c549772f25d7c72d51c25ae44b678698dbd", func := "trug/truglaw06.OpBack", spec := "opBack", apart := false }
def OpBackSaid : Prop := opBackRow.holds Try.pinned (OpenSpec.ofChange opBackSpec)

/-- ITS FALSE NEIGHBOUR: 'it returns false'. Refute it at one input. -/
def opBackWrong : ChangeSpec := { name := "opBack", fn := fun _ => fun
  | [d1, d2] => { results := [.lit (.bool false)], args := [d1, d2] }
  | _ => none }
def OpBackWrongFalsely : Prop := opBackRow.holds Try.pinned (OpenSpec.ofChange opBackWrong)

/-- 'truglaw06.OpOrder': WHATEVER THE INPUT: true; the input reads as it did. -/
def opOrderSpec : ChangeSpec := { name := "opOrder", fn := fun _ => fun
  | [d1, d2, d3] => { results := [.lit (.bool true)], args := [d1, d2, d3] }
  | _ => none }
def opOrderRow : OpenClaim := { program := "ythpeejcmkhglmaa", sum := "f5f500f8fbce463dcf0b87b65f784c549772f25d7c72d51c25ae44b678698dbd", func := "trug/truglaw06.OpOrder", spec := "opOrder", apart := false }
def OpOrderSaid : Prop := opOrderRow.holds Try.pinned (OpenSpec.ofChange opOrderSpec)

/-- ITS FALSE NEIGHBOUR: 'it returns false'. Refute it at one input. -/
def opOrderWrong : ChangeSpec := { name := "opOrder", fn := fun _ => fun
  | [d1, d2, d3] => { results := [.lit (.bool false)], args := [d1, d2, d3] }
  | _ => none }
def OpOrderWrongFalsely : Prop := opOrderRow.holds Try.pinned (OpenSpec.ofChange opOrderWrong)

/-- 'truglaw06.OpEnds': WHATEVER THE INPUT: true; the input reads as it did. -/
def opEndsSpec : ChangeSpec := { name := "opEnds", fn := fun _ => fun
  | [d1, d2] => { results := [.lit (.bool true)], args := [d1, d2] }
  | _ => none }
def opEndsRow : OpenClaim := { program := "ythpeejcmkhglmaa", sum := "f5f500f8fbce463dcf0b87b65f784c549772f25d7c72d51c25ae44b678698dbd", func := "trug/truglaw06.OpEnds", spec := "opEnds", apart := false }
def OpEndsSaid : Prop := opEndsRow.holds Try.pinned (OpenSpec.ofChange opEndsSpec)

/-- ITS FALSE NEIGHBOUR: 'it returns false'. Refute it at one input. -/
def opEndsWrong : ChangeSpec := { name := "opEnds", fn := fun _ => fun
  | [d1, d2] => { results := [.lit (.bool false)], args := [d1, d2] }
  | _ => none }
def OpEndsWrongFalsely : Prop := opEndsRow.holds Try.pinned (OpenSpec.ofChange opEndsWrong)

/-- 'truglaw06.OpNext': WHATEVER THE INPUT: true; the input reads as it did. -/
def opNextSpec : ChangeSpec := { name := "opNext", fn := fun _ => fun
  | [d1, d2] => { results := [.lit (.bool true)], args := [d1, d2] }
  | _ => none }
def opNextRow : OpenClaim := { program := "ythpeejcmkhglmaa", sum := "f5f500f8fbce463dcf0b87b65f784c549772f25d7c72d51c25ae44b678698dbd", func := "trug/truglaw06.OpNext", spec := "opNext", apart := false }
def OpNextSaid : Prop := opNextRow.holds Try.pinned (OpenSpec.ofChange opNextSpec)

/-- ITS FALSE NEIGHBOUR: 'it returns false'. Refute it at one input. -/
def opNextWrong : ChangeSpec := { name := "opNext", fn := fun _ => fun
  | [d1, d2] => { results := [.lit (.bool false)], args := [d1, d2] }
  | _ => none }
def OpNextWrongFalsely : Prop := opNextRow.holds Try.pinned (OpenSpec.ofChange opNextWrong)

/-- 'truglaw06.OpCounts': WHATEVER THE INPUT: true; the input reads as it did. -/
def opCountsSpec : ChangeSpec := { name := "opCounts", fn := fun _ => fun
  | [d1, d2] => { results := [.lit (.bool true)], args := [d1, d2] }
  | _ => none }
def opCountsRow : OpenClaim := { program := "ythpeejcmkhglmaa", sum := "f5f500f8fbce463dcf0b87b65f784c549772f25d7c72d51c25ae44b678698dbd", func := "trug/truglaw06.OpCounts", spec := "opCounts", apart := false }
def OpCountsSaid : Prop := opCountsRow.holds Try.pinned (OpenSpec.ofChange opCountsSpec)

/-- ITS FALSE NEIGHBOUR: 'it returns false'. Refute it at one input. -/
def opCountsWrong : ChangeSpec := { name := "opCounts", fn := fun _ => fun
  | [d1, d2] => { results := [.lit (.bool false)], args := [d1, d2] }
  | _ => none }
def OpCountsWrongFalsely : Prop := opCountsRow.holds Try.pinned (OpenSpec.ofChange opCountsWrong)

/- THE SECOND FORM. 'bulk': how many values and letters a reading holds, each counted each time it is reached (what is shared counts as often as it is met; a slice's spare places count too). A statement '..UptoSaid' is the law's where the arguments, and the package variables that the reading takes, are together of bulk at most 1048576: NARROWER than '..Said'. Prove '..Said' where nothing that the law and all that it calls make is longer than what came in: it says more and counts as full. Else prove '..UptoSaid'. A law counts once. -/
mutual
def uptoBulk {H : Type} : DataW H → Nat
  | .lit (.string bytes) => bytes.length + 1
  | .lit _ => 1
  | .nil => 1
  | .ptr d => uptoBulk d + 1
  | .slice elems spare => uptoBulkAll elems + uptoBulkAll spare + 1
  | .agg parts => uptoBulkAll parts + 1
  | .iface _ d => uptoBulk d + 1
  | .map entries => uptoBulkEntries entries + 1
  | .held _ => 1
def uptoBulkAll {H : Type} : List (DataW H) → Nat
  | [] => 0
  | d :: r => uptoBulk d + uptoBulkAll r
def uptoBulkEntries {H : Type} : List (Lit × DataW H) → Nat
  | [] => 0
  | x :: r => uptoBulkEntry x + uptoBulkEntries r
def uptoBulkEntry {H : Type} : Lit × DataW H → Nat
  | (.string bytes, d) => bytes.length + uptoBulk d + 1
  | (_, d) => uptoBulk d + 1
 end
def uptoSmall : (H : Type) → List (DataW H) → Bool := fun _ ds => decide (uptoBulkAll ds ≤ 1048576)
def OpenSpec.upto (s : _root_.Go.ChangeSpec) : _root_.Go.OpenSpec := { _root_.Go.OpenSpec.ofChange s with cond := some uptoSmall }

/-- 'truglaw03.PackWrites', WHERE WHAT IT READS IS OF BULK AT MOST 1048576: true; the input reads as it did. -/
def packWritesUptoRow : OpenClaim := { program := "ythpeejcmkhglmaa", sum := "f5f500f8fbce463dcf0b87b65f784c549772f25d7c72d51c25ae44b678698dbd", func := "trug/truglaw03.PackWrites", spec := "packWrites", apart := false, narrowed := true }
def PackWritesUptoSaid : Prop := packWritesUptoRow.holds Try.pinned (OpenSpec.upto packWritesSpec)

/-- 'truglaw03.PackSizes', WHERE WHAT IT READS IS OF BULK AT MOST 1048576: true; the input reads as it did. -/
def packSizesUptoRow : OpenClaim := { program := "ythpeejcmkhglmaa", sum := "f5f500f8fbce463dcf0b87b65f784c549772f25d7c72d51c25ae44b678698dbd", func := "trug/truglaw03.PackSizes", spec := "packSizes", apart := false, narrowed := true }
def PackSizesUptoSaid : Prop := packSizesUptoRow.holds Try.pinned (OpenSpec.upto packSizesSpec)

/-- 'truglaw03.PackReads', WHERE WHAT IT READS IS OF BULK AT MOST 1048576: true; the input reads as it did. -/
def packReadsUptoRow : OpenClaim := { program := "ythpeejcmkhglmaa", sum := "f5f500f8fbce463dcf0b87b65f784c549772f25d7c72d51c25ae44b678698dbd", func := "trug/truglaw03.PackReads", spec := "packReads", apart := false, narrowed := true }
def PackReadsUptoSaid : Prop := packReadsUptoRow.holds Try.pinned (OpenSpec.upto packReadsSpec)

/-- 'truglaw03.PackBack', WHERE WHAT IT READS IS OF BULK AT MOST 1048576: true; the input reads as it did. -/
def packBackUptoRow : OpenClaim := { program := "ythpeejcmkhglmaa", sum := "f5f500f8fbce463dcf0b87b65f784c549772f25d7c72d51c25ae44b678698dbd", func := "trug/truglaw03.PackBack", spec := "packBack", apart := false, narrowed := true }
def PackBackUptoSaid : Prop := packBackUptoRow.holds Try.pinned (OpenSpec.upto packBackSpec)

/-- 'truglaw03.PackNobody', WHERE WHAT IT READS IS OF BULK AT MOST 1048576: true; the input reads as it did. -/
def packNobodyUptoRow : OpenClaim := { program := "ythpeejcmkhglmaa", sum := "f5f500f8fbce463dcf0b87b65f784c549772f25d7c72d51c25ae44b678698dbd", func := "trug/truglaw03.PackNobody", spec := "packNobody", apart := false, narrowed := true }
def PackNobodyUptoSaid : Prop := packNobodyUptoRow.holds Try.pinned (OpenSpec.upto packNobodySpec)

/-- 'truglaw04.VecOrders', WHERE WHAT IT READS IS OF BULK AT MOST 1048576: true; the input reads as it did. -/
def vecOrdersUptoRow : OpenClaim := { program := "ythpeejcmkhglmaa", sum := "f5f500f8fbce463dcf0b87b65f784c549772f25d7c72d51c25ae44b678698dbd", func := "trug/truglaw04.VecOrders", spec := "vecOrders", apart := false, narrowed := true }
def VecOrdersUptoSaid : Prop := vecOrdersUptoRow.holds Try.pinned (OpenSpec.upto vecOrdersSpec)

/-- 'truglaw04.VecDots', WHERE WHAT IT READS IS OF BULK AT MOST 1048576: true; the input reads as it did. -/
def vecDotsUptoRow : OpenClaim := { program := "ythpeejcmkhglmaa", sum := "f5f500f8fbce463dcf0b87b65f784c549772f25d7c72d51c25ae44b678698dbd", func := "trug/truglaw04.VecDots", spec := "vecDots", apart := false, narrowed := true }
def VecDotsUptoSaid : Prop := vecDotsUptoRow.holds Try.pinned (OpenSpec.upto vecDotsSpec)

/-- 'truglaw04.VecFlip', WHERE WHAT IT READS IS OF BULK AT MOST 1048576: true; the input reads as it did. -/
def vecFlipUptoRow : OpenClaim := { program := "ythpeejcmkhglmaa", sum := "f5f500f8fbce463dcf0b87b65f784c549772f25d7c72d51c25ae44b678698dbd", func := "trug/truglaw04.VecFlip", spec := "vecFlip", apart := false, narrowed := true }
def VecFlipUptoSaid : Prop := vecFlipUptoRow.holds Try.pinned (OpenSpec.upto vecFlipSpec)

/-- 'truglaw04.VecJoins', WHERE WHAT IT READS IS OF BULK AT MOST 1048576: true; the input reads as it did. -/
def vecJoinsUptoRow : OpenClaim := { program := "ythpeejcmkhglmaa", sum := "f5f500f8fbce463dcf0b87b65f784c549772f25d7c72d51c25ae44b678698dbd", func := "trug/truglaw04.VecJoins", spec := "vecJoins", apart := false, narrowed := true }
def VecJoinsUptoSaid : Prop := vecJoinsUptoRow.holds Try.pinned (OpenSpec.upto vecJoinsSpec)

/-- 'truglaw04.VecLattice', WHERE WHAT IT READS IS OF BULK AT MOST 1048576: true; the input reads as it did. -/
def vecLatticeUptoRow : OpenClaim := { program := "ythpeejcmkhglmaa", sum := "f5f500f8fbce463dcf0b87b65f784c549772f25d7c72d51c25ae44b678698dbd", func := "trug/truglaw04.VecLattice", spec := "vecLattice", apart := false, narrowed := true }
def VecLatticeUptoSaid : Prop := vecLatticeUptoRow.holds Try.pinned (OpenSpec.upto vecLatticeSpec)

/-- 'truglaw04.VecMembers', WHERE WHAT IT READS IS OF BULK AT MOST 1048576: true; the input reads as it did. -/
def vecMembersUptoRow : OpenClaim := { program := "ythpeejcmkhglmaa", sum := "f5f500f8fbce463dcf0b87b65f784c549772f25d7c72d51c25ae44b678698dbd", func := "trug/truglaw04.VecMembers", spec := "vecMembers", apart := false, narrowed := true }
def VecMembersUptoSaid : Prop := vecMembersUptoRow.holds Try.pinned (OpenSpec.upto vecMembersSpec)

/-- 'truglaw04.VecSums', WHERE WHAT IT READS IS OF BULK AT MOST 1048576: true; the input reads as it did. -/
def vecSumsUptoRow : OpenClaim := { program := "ythpeejcmkhglmaa", sum := "f5f500f8fbce463dcf0b87b65f784c549772f25d7c72d51c25ae44b678698dbd", func := "trug/truglaw04.VecSums", spec := "vecSums", apart := false, narrowed := true }
def VecSumsUptoSaid : Prop := vecSumsUptoRow.holds Try.pinned (OpenSpec.upto vecSumsSpec)

/-- 'truglaw04.VecBytes', WHERE WHAT IT READS IS OF BULK AT MOST 1048576: true; the input reads as it did. -/
def vecBytesUptoRow : OpenClaim := { program := "ythpeejcmkhglmaa", sum := "f5f500f8fbce463dcf0b87b65f784c549772f25d7c72d51c25ae44b678698dbd", func := "trug/truglaw04.VecBytes", spec := "vecBytes", apart := false, narrowed := true }
def VecBytesUptoSaid : Prop := vecBytesUptoRow.holds Try.pinned (OpenSpec.upto vecBytesSpec)

/-- 'truglaw06.OpRights', WHERE WHAT IT READS IS OF BULK AT MOST 1048576: true; the input reads as it did. -/
def opRightsUptoRow : OpenClaim := { program := "ythpeejcmkhglmaa", sum := "f5f500f8fbce463dcf0b87b65f784c549772f25d7c72d51c25ae44b678698dbd", func := "trug/truglaw06.OpRights", spec := "opRights", apart := false, narrowed := true }
def OpRightsUptoSaid : Prop := opRightsUptoRow.holds Try.pinned (OpenSpec.upto opRightsSpec)

/-- 'truglaw06.OpReady', WHERE WHAT IT READS IS OF BULK AT MOST 1048576: true; the input reads as it did. -/
def opReadyUptoRow : OpenClaim := { program := "ythpeejcmkhglmaa", sum := "f5f500f8fbce463dcf0b87b65f784c549772f25d7c72d51c25ae44b678698dbd", func := "trug/truglaw06.OpReady", spec := "opReady", apart := false, narrowed := true }
def OpReadyUptoSaid : Prop := opReadyUptoRow.holds Try.pinned (OpenSpec.upto opReadySpec)

/-- 'truglaw06.OpBytes', WHERE WHAT IT READS IS OF BULK AT MOST 1048576: true; the input reads as it did. -/
def opBytesUptoRow : OpenClaim := { program := "ythpeejcmkhglmaa", sum := "f5f500f8fbce463dcf0b87b65f784c549772f25d7c72d51c25ae44b678698dbd", func := "trug/truglaw06.OpBytes", spec := "opBytes", apart := false, narrowed := true }
def OpBytesUptoSaid : Prop := opBytesUptoRow.holds Try.pinned (OpenSpec.upto opBytesSpec)

/-- 'truglaw06.OpBack', WHERE WHAT IT READS IS OF BULK AT MOST 1048576: true; the input reads as it did. -/
def opBackUptoRow : OpenClaim := { program := "ythpeejcmkhglmaa", sum := "f5f500f8fbce463dcf0b87b65f784c549772f25d7c72d51c25ae44b678698dbd", func := "trug/truglaw06.OpBack", spec := "opBack", apart := false, narrowed := true }
def OpBackUptoSaid : Prop := opBackUptoRow.holds Try.pinned (OpenSpec.upto opBackSpec)

/-- 'truglaw06.OpOrder', WHERE WHAT IT READS IS OF BULK AT MOST 1048576: true; the input reads as it did. -/
def opOrderUptoRow : OpenClaim := { program := "ythpeejcmkhglmaa", sum := "f5f500f8fbce463dcf0b87b65f784c549772f25d7c72d51c25ae44b678698dbd", func := "trug/truglaw06.OpOrder", spec := "opOrder", apart := false, narrowed := true }
def OpOrderUptoSaid : Prop := opOrderUptoRow.holds Try.pinned (OpenSpec.upto opOrderSpec)

/-- 'truglaw06.OpEnds', WHERE WHAT IT READS IS OF BULK AT MOST 1048576: true; the input reads as it did. -/
def opEndsUptoRow : OpenClaim := { program := "ythpeejcmkhglmaa", sum := "f5f500f8fbce463dcf0b87b65f784c549772f25d7c72d51c25ae44b678698dbd", func := "trug/truglaw06.OpEnds", spec := "opEnds", apart := false, narrowed := true }
def OpEndsUptoSaid : Prop := opEndsUptoRow.holds Try.pinned (OpenSpec.upto opEndsSpec)

/-- 'truglaw06.OpNext', WHERE WHAT IT READS IS OF BULK AT MOST 1048576: true; the input reads as it did. -/
def opNextUptoRow : OpenClaim := { program := "ythpeejcmkhglmaa", sum := "f5f500f8fbce463dcf0b87b65f784c549772f25d7c72d51c25ae44b678698dbd", func := "trug/truglaw06.OpNext", spec := "opNext", apart := false, narrowed := true }
def OpNextUptoSaid : Prop := opNextUptoRow.holds Try.pinned (OpenSpec.upto opNextSpec)

/-- 'truglaw06.OpCounts', WHERE WHAT IT READS IS OF BULK AT MOST 1048576: true; the input reads as it did. -/
def opCountsUptoRow : OpenClaim := { program := "ythpeejcmkhglmaa", sum := "f5f500f8fbce463dcf0b87b65f784c549772f25d7c72d51c25ae44b678698dbd", func := "trug/truglaw06.OpCounts", spec := "opCounts", apart := false, narrowed := true }
def OpCountsUptoSaid : Prop := opCountsUptoRow.holds Try.pinned (OpenSpec.upto opCountsSpec)

end Rows
end Go.Proofs.Ythpeejcmkhglmaa
