/-
  No cell of these rows narrows 'for every input' (looked for: loops, veiled, ifaces, maps, wideKeys, modest, calm, conditions, laid).
  DERIVED. THE GIVEN ROWS OF THIS SEAT. 5 by the template 'for every input the law returns true; each argument reads behind the call as it read before'; 0 by the template 'total and deterministic' (their statements: YtbfilhaigbebpaaTotals.lean).
  GIVEN WITH THE SEED: the statements are not yours to turn. If you find one false, say at which input.
  Laid BY PROGRAM, IN A SANDBOX (cutbox-rows.mjs): the forced cells as the released guide's own fill.sh prints them over the translation e3f46c1b106eac22… (all of the seat's roots in one cut). By AI agents, Wed Nov 11 2026. No macro, syntax, notation, axiom, sorry.
-/
import Derived.Test.YtbfilhaigbebpaaChecked
import GoSem.Claim
import GoSem.ClaimJoined
import GoSem.ClaimMapViews
import Derived.JoinedTies
import Derived.KernelRfl
namespace Go.Proofs.Ytbfilhaigbebpaa
/- THE CELL 'sum', in the pinned program and in every row, IS THE sha256 OF THE DUMP (.gsa) THAT YtbfilhaigbebpaaProg.lean LOADS. Nothing in Lean hashes anything: it is a label: what it is worth is what the hold of that sum in a sandbox is worth. -/
noncomputable def Try.pinned : Pinned := { name := "ytbfilhaigbebpaa", sum := "e3f46c1b106eac22dbdfd0237a5579a3b18f095bc7861a6204ad40847ce89c35", checked := Try.checked }
namespace Rows
def none {H : Type} : Left H := { results := [], args := [] }

/-- 'truglaw14.TreeActs': WHATEVER THE INPUT: true; the input reads as it did. -/
def treeActsSpec : ChangeSpec := { name := "treeActs", fn := fun _ => fun
  | [d1, d2, d3] => { results := [.lit (.bool true)], args := [d1, d2, d3] }
  | _ => none }
def treeActsRow : OpenClaim := { program := "ytbfilhaigbebpaa", sum := "e3f46c1b106eac22dbdfd0237a5579a3b18f095bc7861a6204ad40847ce89c35", func := "trug/truglaw14.TreeActs", spec := "treeActs", inPlace := ["slices.overlaps[trug/page.Key]", "slices.overlaps[trug/page.Loc]", "slices.overlaps[uint32]"], unfollowed := true, recurses := true, apart := false }
def TreeActsSaid : Prop := treeActsRow.holds Try.pinned (OpenSpec.ofChange treeActsSpec)

/-- ITS FALSE NEIGHBOUR: 'it returns false'. Refute it at one input. -/
def treeActsWrong : ChangeSpec := { name := "treeActs", fn := fun _ => fun
  | [d1, d2, d3] => { results := [.lit (.bool false)], args := [d1, d2, d3] }
  | _ => none }
def TreeActsWrongFalsely : Prop := treeActsRow.holds Try.pinned (OpenSpec.ofChange treeActsWrong)

/-- 'truglaw14.TreeShape': WHATEVER THE INPUT: true; the input reads as it did. -/
def treeShapeSpec : ChangeSpec := { name := "treeShape", fn := fun _ => fun
  | [d] => { results := [.lit (.bool true)], args := [d] }
  | _ => none }
def treeShapeRow : OpenClaim := { program := "ytbfilhaigbebpaa", sum := "e3f46c1b106eac22dbdfd0237a5579a3b18f095bc7861a6204ad40847ce89c35", func := "trug/truglaw14.TreeShape", spec := "treeShape", inPlace := ["slices.overlaps[trug/page.Key]", "slices.overlaps[trug/page.Loc]", "slices.overlaps[uint32]"], unfollowed := true, recurses := true, apart := false }
def TreeShapeSaid : Prop := treeShapeRow.holds Try.pinned (OpenSpec.ofChange treeShapeSpec)

/-- ITS FALSE NEIGHBOUR: 'it returns false'. Refute it at one input. -/
def treeShapeWrong : ChangeSpec := { name := "treeShape", fn := fun _ => fun
  | [d] => { results := [.lit (.bool false)], args := [d] }
  | _ => none }
def TreeShapeWrongFalsely : Prop := treeShapeRow.holds Try.pinned (OpenSpec.ofChange treeShapeWrong)

/-- 'truglaw14.TreeOld': WHATEVER THE INPUT: true; the input reads as it did. -/
def treeOldSpec : ChangeSpec := { name := "treeOld", fn := fun _ => fun
  | [d] => { results := [.lit (.bool true)], args := [d] }
  | _ => none }
def treeOldRow : OpenClaim := { program := "ytbfilhaigbebpaa", sum := "e3f46c1b106eac22dbdfd0237a5579a3b18f095bc7861a6204ad40847ce89c35", func := "trug/truglaw14.TreeOld", spec := "treeOld", inPlace := ["slices.overlaps[trug/page.Key]", "slices.overlaps[trug/page.Loc]", "slices.overlaps[uint32]"], unfollowed := true, recurses := true, apart := false }
def TreeOldSaid : Prop := treeOldRow.holds Try.pinned (OpenSpec.ofChange treeOldSpec)

/-- ITS FALSE NEIGHBOUR: 'it returns false'. Refute it at one input. -/
def treeOldWrong : ChangeSpec := { name := "treeOld", fn := fun _ => fun
  | [d] => { results := [.lit (.bool false)], args := [d] }
  | _ => none }
def TreeOldWrongFalsely : Prop := treeOldRow.holds Try.pinned (OpenSpec.ofChange treeOldWrong)

/-- 'truglaw14.TreeNobody': WHATEVER THE INPUT: true; the input reads as it did. -/
def treeNobodySpec : ChangeSpec := { name := "treeNobody", fn := fun _ => fun
  | [d1, d2] => { results := [.lit (.bool true)], args := [d1, d2] }
  | _ => none }
def treeNobodyRow : OpenClaim := { program := "ytbfilhaigbebpaa", sum := "e3f46c1b106eac22dbdfd0237a5579a3b18f095bc7861a6204ad40847ce89c35", func := "trug/truglaw14.TreeNobody", spec := "treeNobody", inPlace := ["slices.overlaps[trug/page.Key]", "slices.overlaps[trug/page.Loc]", "slices.overlaps[uint32]"], unfollowed := true, recurses := true, apart := false }
def TreeNobodySaid : Prop := treeNobodyRow.holds Try.pinned (OpenSpec.ofChange treeNobodySpec)

/-- ITS FALSE NEIGHBOUR: 'it returns false'. Refute it at one input. -/
def treeNobodyWrong : ChangeSpec := { name := "treeNobody", fn := fun _ => fun
  | [d1, d2] => { results := [.lit (.bool false)], args := [d1, d2] }
  | _ => none }
def TreeNobodyWrongFalsely : Prop := treeNobodyRow.holds Try.pinned (OpenSpec.ofChange treeNobodyWrong)

/-- 'truglaw14.TreeTrims': WHATEVER THE INPUT: true; the input reads as it did. -/
def treeTrimsSpec : ChangeSpec := { name := "treeTrims", fn := fun _ => fun
  | [d] => { results := [.lit (.bool true)], args := [d] }
  | _ => none }
def treeTrimsRow : OpenClaim := { program := "ytbfilhaigbebpaa", sum := "e3f46c1b106eac22dbdfd0237a5579a3b18f095bc7861a6204ad40847ce89c35", func := "trug/truglaw14.TreeTrims", spec := "treeTrims", inPlace := ["slices.overlaps[trug/page.Key]", "slices.overlaps[trug/page.Loc]", "slices.overlaps[uint32]"], unfollowed := true, recurses := true, apart := false }
def TreeTrimsSaid : Prop := treeTrimsRow.holds Try.pinned (OpenSpec.ofChange treeTrimsSpec)

/-- ITS FALSE NEIGHBOUR: 'it returns false'. Refute it at one input. -/
def treeTrimsWrong : ChangeSpec := { name := "treeTrims", fn := fun _ => fun
  | [d] => { results := [.lit (.bool false)], args := [d] }
  | _ => none }
def TreeTrimsWrongFalsely : Prop := treeTrimsRow.holds Try.pinned (OpenSpec.ofChange treeTrimsWrong)

/- THE SECOND FORM. 'bulk': how many values and letters a reading holds, each counted each time it is reached (what is shared counts as often as it is met; a slice's spare places count too). A statement '..UptoSaid' is the law's where the arguments, and the package variables that the reading takes, are together of bulk at most 1048576: NARROWER than '..Said'. Prove '..Said' where nothing that the law and all that it calls make is longer than what came in: it says more and counts as full. Else prove '..UptoSaid'. A law counts once. -/
mutual
def uptoBulk {H : Type} : DataW H → Nat
  | .lit (.string bytes) => bytes.length + 1
  | .lit _ => 1
  | .nil => 1
  | .ptr d => uptoBulk d + 1
  | .slice elems spare => uptoBulkAll elems + uptoBulkAll spare + 1
  | .agg parts => uptoBulkAll parts + 1
  | .iface _ d => uptoBulk d + 1
  | .map entries => uptoBulkEntries entries + 1
  | .held _ => 1
def uptoBulkAll {H : Type} : List (DataW H) → Nat
  | [] => 0
  | d :: r => uptoBulk d + uptoBulkAll r
def uptoBulkEntries {H : Type} : List (Lit × DataW H) → Nat
  | [] => 0
  | x :: r => uptoBulkEntry x + uptoBulkEntries r
def uptoBulkEntry {H : Type} : Lit × DataW H → Nat
  | (.string bytes, d) => bytes.length + uptoBulk d + 1
  | (_, d) => uptoBulk d + 1
 end
def uptoSmall : (H : Type) → List (DataW H) → Bool := fun _ ds => decide (uptoBulkAll ds ≤ 1048576)
def OpenSpec.upto (s : _root_.Go.ChangeSpec) : _root_.Go.OpenSpec := { _root_.Go.OpenSpec.ofChange s with cond := some uptoSmall }

/-- 'truglaw14.TreeActs', WHERE WHAT IT READS IS OF BULK AT MOST 1048576: true; the input reads as it did. -/
def treeActsUptoRow : OpenClaim := { program := "ytbfilhaigbebpaa", sum := "e3f46c1b106eac22dbdfd0237a5579a3b18f095bc7861a6204ad40847ce89c35", func := "trug/truglaw14.TreeActs", spec := "treeActs", inPlace := ["slices.overlaps[trug/page.Key]", "slices.overlaps[trug/page.Loc]", "slices.overlaps[uint32]"], unfollowed := true, recurses := true, apart := false, narrowed := true }
def TreeActsUptoSaid : Prop := treeActsUptoRow.holds Try.pinned (OpenSpec.upto treeActsSpec)

/-- 'truglaw14.TreeShape', WHERE WHAT IT READS IS OF BULK AT MOST 1048576: true; the input reads as it did. -/
def treeShapeUptoRow : OpenClaim := { program := "ytbfilhaigbebpaa", sum := "e3f46c1b106eac22dbdfd0237a5579a3b18f095bc7861a6204ad40847ce89c35", func := "trug/truglaw14.TreeShape", spec := "treeShape", inPlace := ["slices.overlaps[trug/page.Key]", "slices.overlaps[trug/page.Loc]", "slices.overlaps[uint32]"], unfollowed := true, recurses := true, apart := false, narrowed := true }
def TreeShapeUptoSaid : Prop := treeShapeUptoRow.holds Try.pinned (OpenSpec.upto treeShapeSpec)

/-- 'truglaw14.TreeOld', WHERE WHAT IT READS IS OF BULK AT MOST 1048576: true; the input reads as it did. -/
def treeOldUptoRow : OpenClaim := { program := "ytbfilhaigbebpaa", sum := "e3f46c1b106eac22dbdfd0237a5579a3b18f095bc7861a6204ad40847ce89c35", func := "trug/truglaw14.TreeOld", spec := "treeOld", inPlace := ["slices.overlaps[trug/page.Key]", "slices.overlaps[trug/page.Loc]", "slices.overlaps[uint32]"], unfollowed := true, recurses := true, apart := false, narrowed := true }
def TreeOldUptoSaid : Prop := treeOldUptoRow.holds Try.pinned (OpenSpec.upto treeOldSpec)

/-- 'truglaw14.TreeNobody', WHERE WHAT IT READS IS OF BULK AT MOST 1048576: true; the input reads as it did. -/
def treeNobodyUptoRow : OpenClaim := { program := "ytbfilhaigbebpaa", sum := "e3f46c1b106eac22dbdfd0237a5579a3b18f095bc7861a6204ad40847ce89c35", func := "trug/truglaw14.TreeNobody", spec := "treeNobody", inPlace := ["slices.overlaps[trug/page.Key]", "slices.overlaps[trug/page.Loc]", "slices.overlaps[uint32]"], unfollowed := true, recurses := true, apart := false, narrowed := true }
def TreeNobodyUptoSaid : Prop := treeNobodyUptoRow.holds Try.pinned (OpenSpec.upto treeNobodySpec)

/-- 'truglaw14.TreeTrims', WHERE WHAT IT READS IS OF BULK AT MOST 1048576: true; the input reads as it did. -/
def treeTrimsUptoRow : OpenClaim := { program := "ytbfilhaigbebpaa", sum := "e3f46c1b106eac22dbdfd0237a5579a3b18f095bc7861a6204ad40847ce89c35", func := "trug/truglaw14.TreeTrims", spec := "treeTrims", inPlace := ["slices.overlaps[trug/page.Key]", "slices.overlaps[trug/page.Loc]", "slices.overlaps[uint32]"], unfollowed := true, recurses := true, apart := false, narrowed := true }
def TreeTrimsUptoSaid : Prop := treeTrimsUptoRow.holds Try.pinned (OpenSpec.upto treeTrimsSpec)

end Rows
end Go.Proofs.Ytbfilhaigbebpaa
