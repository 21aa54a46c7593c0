/- copy, append in place, and append of zeros, to a block that is owned. -/
import Derived.Test.YtbfilhaigbebpaaSl
import Derived.Test.YtbfilhaigbebpaaOps3
import Derived.Laws.CopyRow
import Derived.Lib.AppendZerosOnto
import Derived.Lib.Overlaps
set_option linter.unusedVariables false
set_option linter.unusedSimpArgs false
namespace Go.Tg
open Go
section
variable {P : Program} {o : Oper} {s : Env} {w : World} {K : Value → World → Prop} {ws : World} {S : List Nat} {h0 h : FH} {L : List HA}
theorem ost_slice3 {t e : TypeId} {x lo hi mx : Operand} {k k' k2 : IntKind} {i j l : Int} {sz bytes sz' bytes' : Nat} {z z' : Value} {d : TypeDesc} {a : Option Addr} {n c : Nat} [Ty P t (.slice e) sz' bytes' z'] [Ty P e d sz bytes z] (ho : o.op = .slice t x (some lo) (some hi) (some mx)) (hx : ev s x = .slice a n c) (hi' : ev s lo = .int k i) (hj' : ev s hi = .int k' j) (hl' : ev s mx = .int k2 l)
    (h0 : 0 ≤ i) (h1 : i ≤ j) (h2 : j ≤ l) (h3 : l ≤ (c : Int)) (hk : K (.slice (if l.toNat = i.toNat then a else a.map (·.add (i.toNat * sz))) (j.toNat - i.toNat) (l.toNat - i.toNat)) w) : Ost P o s w K := by
  refine .val (v := _) ?_ hk
  have hA := run_sliceBound (P := P) (w := w) k2 l c .slice3Acap (by omega) h3
  have hB := run_sliceBound (P := P) (w := w) k' j l.toNat .slice3B (by omega) (by omega)
  have hC := run_sliceBound (P := P) (w := w) k i j.toNat .slice3C h0 (by omega)
  simp [execOp, ho, hx, hi', hj', hl', Instr.sliceAt, Ty.run_und, Instr.slice, Instr.sliceBounds, hA, hB, hC, Ty.run_size]
theorem ost_ext {f : Nat} {args : List Operand} {at_ : Array TypeId} {vs : List Value} {v : Value} (ho : o.op = .call { callee := .value (.func f), args := args.toArray, argTypes := at_ })
    (hr : (callFunc f vs.toArray).run P w = .ok (.value v) w) (hv : mapEv s args = vs) (hk : K v w) : Ost P o s w K := by
  refine .val (v := v) (w' := w) ?_ hk
  simp only [execOp, ho, resolve, Sem.run_bind, Deferred.ofValue, Sem.run_pure, Result.andThen_ok, invoke, mapEv_eq, hv]
  simpa using hr
theorem St.blk_ne {i j b b' : Nat} {ob ob' : Obj} (H : St ws S h0 h L w) (hi : L[i]? = some (.blk b ob)) (hj : L[j]? = some (.blk b' ob')) (hij : i ≠ j) : b ≠ b' := fun e => by
  subst e
  exact H.ap i j _ _ hij hi hj b (by simp [HA.fp]) (by simp [HA.fp])
theorem cell_in {g off : Nat} {cur cs : List Value} {T : TypeId} {fr : Nat × Nat} (hb : w.heap[g]? = some (.cells cur.toArray T fr)) (hc : ∀ j, j < cs.length → cur[off + j]? = cs[j]?) : ∀ j v, cs[j]? = some v → w.cell? ((⟨g, off, none⟩ : Addr).add j) = some v := fun j v hj => by
  rw [cell_add, cell_of_row w g _ _ _ _ hb, List.getElem?_toArray, hc j (List.getElem?_eq_some_iff.1 hj).1]; exact hj
end
end Go.Tg

