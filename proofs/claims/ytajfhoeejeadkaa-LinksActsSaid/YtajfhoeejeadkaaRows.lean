/-
  No cell of these rows narrows 'for every input' (looked for: loops, veiled, ifaces, maps, wideKeys, modest, calm, conditions, laid).
  DERIVED. THE GIVEN ROWS OF THIS SEAT. 4 by the template 'for every input the law returns true; each argument reads behind the call as it read before'; 0 by the template 'total and deterministic' (their statements: YtajfhoeejeadkaaTotals.lean).
  GIVEN WITH THE SEED: the statements are not yours to turn. If you find one false, say at which input.
  Laid BY PROGRAM, IN A SANDBOX (cutbox-rows.mjs): the forced cells as the released guide's own fill.sh prints them over the translation 2a21d7bfb709e575… (all of the seat's roots in one cut). By AI agents, Wed Nov 11 2026. No macro, syntax, notation, axiom, sorry.
-/
import Derived.Test.YtajfhoeejeadkaaChecked
import GoSem.Claim
import GoSem.ClaimJoined
import GoSem.ClaimMapViews
import Derived.JoinedTies
import Derived.KernelRfl
namespace Go.Proofs.Ytajfhoeejeadkaa
/- THE CELL 'sum', in the pinned program and in every row, IS THE sha256 OF THE DUMP (.gsa) THAT YtajfhoeejeadkaaProg.lean LOADS. Nothing in Lean hashes anything: it is a label: what it is worth is what the hold of that sum in a sandbox is worth. -/
noncomputable def Try.pinned : Pinned := { name := "ytajfhoeejeadkaa", sum := "2a21d7bfb709e575ffb11ca33d12990976765592e5bed4a40d424d002c91ad64", checked := Try.checked }
namespace Rows
def none {H : Type} : Left H := { results := [], args := [] }

/-- 'truglaw21.LinksActs': WHATEVER THE INPUT: true; the input reads as it did. -/
def linksActsSpec : ChangeSpec := { name := "linksActs", fn := fun _ => fun
  | [d1, d2, d3] => { results := [.lit (.bool true)], args := [d1, d2, d3] }
  | _ => none }
def linksActsRow : OpenClaim := { program := "ytajfhoeejeadkaa", sum := "2a21d7bfb709e575ffb11ca33d12990976765592e5bed4a40d424d002c91ad64", func := "trug/truglaw21.LinksActs", spec := "linksActs", inPlace := ["slices.overlaps[[]byte]"], plainKeys := false, apart := false }
def LinksActsSaid : Prop := linksActsRow.holds Try.pinned (OpenSpec.ofChange linksActsSpec)

/-- ITS FALSE NEIGHBOUR: 'it returns false'. Refute it at one input. -/
def linksActsWrong : ChangeSpec := { name := "linksActs", fn := fun _ => fun
  | [d1, d2, d3] => { results := [.lit (.bool false)], args := [d1, d2, d3] }
  | _ => none }
def LinksActsWrongFalsely : Prop := linksActsRow.holds Try.pinned (OpenSpec.ofChange linksActsWrong)

/-- 'truglaw21.LinksOwn': WHATEVER THE INPUT: true; the input reads as it did. -/
def linksOwnSpec : ChangeSpec := { name := "linksOwn", fn := fun _ => fun
  | [d] => { results := [.lit (.bool true)], args := [d] }
  | _ => none }
def linksOwnRow : OpenClaim := { program := "ytajfhoeejeadkaa", sum := "2a21d7bfb709e575ffb11ca33d12990976765592e5bed4a40d424d002c91ad64", func := "trug/truglaw21.LinksOwn", spec := "linksOwn", inPlace := ["slices.overlaps[[]byte]"], plainKeys := false, apart := false }
def LinksOwnSaid : Prop := linksOwnRow.holds Try.pinned (OpenSpec.ofChange linksOwnSpec)

/-- ITS FALSE NEIGHBOUR: 'it returns false'. Refute it at one input. -/
def linksOwnWrong : ChangeSpec := { name := "linksOwn", fn := fun _ => fun
  | [d] => { results := [.lit (.bool false)], args := [d] }
  | _ => none }
def LinksOwnWrongFalsely : Prop := linksOwnRow.holds Try.pinned (OpenSpec.ofChange linksOwnWrong)

/-- 'truglaw21.LinksCount': WHATEVER THE INPUT: true; the input reads as it did. -/
def linksCountSpec : ChangeSpec := { name := "linksCount", fn := fun _ => fun
  | [d] => { results := [.lit (.bool true)], args := [d] }
  | _ => none }
def linksCountRow : OpenClaim := { program := "ytajfhoeejeadkaa", sum := "2a21d7bfb709e575ffb11ca33d12990976765592e5bed4a40d424d002c91ad64", func := "trug/truglaw21.LinksCount", spec := "linksCount", inPlace := ["slices.overlaps[[]byte]"], plainKeys := false, apart := false }
def LinksCountSaid : Prop := linksCountRow.holds Try.pinned (OpenSpec.ofChange linksCountSpec)

/-- ITS FALSE NEIGHBOUR: 'it returns false'. Refute it at one input. -/
def linksCountWrong : ChangeSpec := { name := "linksCount", fn := fun _ => fun
  | [d] => { results := [.lit (.bool false)], args := [d] }
  | _ => none }
def LinksCountWrongFalsely : Prop := linksCountRow.holds Try.pinned (OpenSpec.ofChange linksCountWrong)

/-- 'truglaw21.LinksDouble': WHATEVER THE INPUT: true; the input reads as it did. -/
def linksDoubleSpec : ChangeSpec := { name := "linksDouble", fn := fun _ => fun
  | [d1, d2, d3] => { results := [.lit (.bool true)], args := [d1, d2, d3] }
  | _ => none }
def linksDoubleRow : OpenClaim := { program := "ytajfhoeejeadkaa", sum := "2a21d7bfb709e575ffb11ca33d12990976765592e5bed4a40d424d002c91ad64", func := "trug/truglaw21.LinksDouble", spec := "linksDouble", inPlace := ["slices.overlaps[[]byte]"], plainKeys := false, apart := false }
def LinksDoubleSaid : Prop := linksDoubleRow.holds Try.pinned (OpenSpec.ofChange linksDoubleSpec)

/-- ITS FALSE NEIGHBOUR: 'it returns false'. Refute it at one input. -/
def linksDoubleWrong : ChangeSpec := { name := "linksDouble", fn := fun _ => fun
  | [d1, d2, d3] => { results := [.lit (.bool false)], args := [d1, d2, d3] }
  | _ => none }
def LinksDoubleWrongFalsely : Prop := linksDoubleRow.holds Try.pinned (OpenSpec.ofChange linksDoubleWrong)

/- THE SECOND FORM. 'bulk': how many values and letters a reading holds, each counted each time it is reached (what is shared counts as often as it is met; a slice's spare places count too). A statement '..UptoSaid' is the law's where the arguments, and the package variables that the reading takes, are together of bulk at most 1048576: NARROWER than '..Said'. Prove '..Said' where nothing that the law and all that it calls make is longer than what came in: it says more and counts as full. Else prove '..UptoSaid'. A law counts once. -/
mutual
def uptoBulk {H : Type} : DataW H → Nat
  | .lit (.string bytes) => bytes.length + 1
  | .lit _ => 1
  | .nil => 1
  | .ptr d => uptoBulk d + 1
  | .slice elems spare => uptoBulkAll elems + uptoBulkAll spare + 1
  | .agg parts => uptoBulkAll parts + 1
  | .iface _ d => uptoBulk d + 1
  | .map entries => uptoBulkEntries entries + 1
  | .held _ => 1
def uptoBulkAll {H : Type} : List (DataW H) → Nat
  | [] => 0
  | d :: r => uptoBulk d + uptoBulkAll r
def uptoBulkEntries {H : Type} : List (Lit × DataW H) → Nat
  | [] => 0
  | x :: r => uptoBulkEntry x + uptoBulkEntries r
def uptoBulkEntry {H : Type} : Lit × DataW H → Nat
  | (.string bytes, d) => bytes.length + uptoBulk d + 1
  | (_, d) => uptoBulk d + 1
 end
def uptoSmall : (H : Type) → List (DataW H) → Bool := fun _ ds => decide (uptoBulkAll ds ≤ 1048576)
def OpenSpec.upto (s : _root_.Go.ChangeSpec) : _root_.Go.OpenSpec := { _root_.Go.OpenSpec.ofChange s with cond := some uptoSmall }

/-- 'truglaw21.LinksActs', WHERE WHAT IT READS IS OF BULK AT MOST 1048576: true; the input reads as it did. -/
def linksActsUptoRow : OpenClaim := { program := "ytajfhoeejeadkaa", sum := "2a21d7bfb709e575ffb11ca33d12990976765592e5bed4a40d424d002c91ad64", func := "trug/truglaw21.LinksActs", spec := "linksActs", inPlace := ["slices.overlaps[[]byte]"], plainKeys := false, apart := false, narrowed := true }
def LinksActsUptoSaid : Prop := linksActsUptoRow.holds Try.pinned (OpenSpec.upto linksActsSpec)

/-- 'truglaw21.LinksOwn', WHERE WHAT IT READS IS OF BULK AT MOST 1048576: true; the input reads as it did. -/
def linksOwnUptoRow : OpenClaim := { program := "ytajfhoeejeadkaa", sum := "2a21d7bfb709e575ffb11ca33d12990976765592e5bed4a40d424d002c91ad64", func := "trug/truglaw21.LinksOwn", spec := "linksOwn", inPlace := ["slices.overlaps[[]byte]"], plainKeys := false, apart := false, narrowed := true }
def LinksOwnUptoSaid : Prop := linksOwnUptoRow.holds Try.pinned (OpenSpec.upto linksOwnSpec)

/-- 'truglaw21.LinksCount', WHERE WHAT IT READS IS OF BULK AT MOST 1048576: true; the input reads as it did. -/
def linksCountUptoRow : OpenClaim := { program := "ytajfhoeejeadkaa", sum := "2a21d7bfb709e575ffb11ca33d12990976765592e5bed4a40d424d002c91ad64", func := "trug/truglaw21.LinksCount", spec := "linksCount", inPlace := ["slices.overlaps[[]byte]"], plainKeys := false, apart := false, narrowed := true }
def LinksCountUptoSaid : Prop := linksCountUptoRow.holds Try.pinned (OpenSpec.upto linksCountSpec)

/-- 'truglaw21.LinksDouble', WHERE WHAT IT READS IS OF BULK AT MOST 1048576: true; the input reads as it did. -/
def linksDoubleUptoRow : OpenClaim := { program := "ytajfhoeejeadkaa", sum := "2a21d7bfb709e575ffb11ca33d12990976765592e5bed4a40d424d002c91ad64", func := "trug/truglaw21.LinksDouble", spec := "linksDouble", inPlace := ["slices.overlaps[[]byte]"], plainKeys := false, apart := false, narrowed := true }
def LinksDoubleUptoSaid : Prop := linksDoubleUptoRow.holds Try.pinned (OpenSpec.upto linksDoubleSpec)

end Rows
end Go.Proofs.Ytajfhoeejeadkaa
