/- copy, append in place, and append of zeros, to a block that is owned. -/
import Derived.Test.YtbfilhaigbebpaaDoorSl
import Derived.Test.YtbfilhaigbebpaaDoorOps3
import Derived.Laws.CopyRow
import Derived.Lib.AppendZerosOnto
import Derived.Lib.Overlaps
set_option linter.unusedVariables false
set_option linter.unusedSimpArgs false
namespace Go.Tg
open Go
section
variable {P : Program} {o : Oper} {s : Env} {w : World} {K : Value → World → Prop} {ws : World} {S : List Nat} {h0 h : FH} {L : List HA}
theorem ost_slice3 {t e : TypeId} {x lo hi mx : Operand} {k k' k2 : IntKind} {i j l : Int} {sz bytes sz' bytes' : Nat} {z z' : Value} {d : TypeDesc} {a : Option Addr} {n c : Nat} [Ty P t (.slice e) sz' bytes' z'] [Ty P e d sz bytes z] (ho : o.op = .slice t x (some lo) (some hi) (some mx)) (hx : ev s x = .slice a n c) (hi' : ev s lo = .int k i) (hj' : ev s hi = .int k' j) (hl' : ev s mx = .int k2 l)
    (h0 : 0 ≤ i) (h1 : i ≤ j) (h2 : j ≤ l) (h3 : l ≤ (c : Int)) (hk : K (.slice (if l.toNat = i.toNat then a else a.map (·.add (i.toNat * sz))) (j.toNat - i.toNat) (l.toNat - i.toNat)) w) : Ost P o s w K := by
  refine .val (v := _) ?_ hk
  have hA := run_sliceBound (P := P) (w := w) k2 l c .slice3Acap (by omega) h3
  have hB := run_sliceBound (P := P) (w := w) k' j l.toNat .slice3B (by omega) (by omega)
  have hC := run_sliceBound (P := P) (w := w) k i j.toNat .slice3C h0 (by omega)
  simp [execOp, ho, hx, hi', hj', hl', Instr.sliceAt, Ty.run_und, Instr.slice, Instr.sliceBounds, hA, hB, hC, Ty.run_size]
end
end Go.Tg

