/- More operations: slices of arrays, arrays out of slices, calls of functions that are values. -/
import Derived.Test.YtajfhoeejeadkaaMov
set_option linter.unusedVariables false
namespace Go.Tg
open Go
section
variable {P : Program} {o : Oper} {s : Env} {w : World} {K : Value → World → Prop} {ws : World} {S : List Nat} {h0 h : FH} {L : List HA}
theorem ost_sliceA0 {t e : TypeId} {x : Operand} {m sz bytes sz' bytes' b off : Nat} {z z' : Value} {d : TypeDesc} [Ty P t (.array m e) sz' bytes' z'] [Ty P e d sz bytes z] (ho : o.op = .slice t x none none none) (hx : ev s x = .pointer (some ⟨b, off, none⟩))
    (hk : K (.slice (some ⟨b, off, none⟩) m m) w) : Ost P o s w K := by
  refine .val (v := _) ?_ hk
  have ha : (if m = 0 then (⟨b, off, none⟩ : Addr) else (⟨b, off, none⟩ : Addr).add 0) = ⟨b, off, none⟩ := by
    split
    · rfl
    · rw [cell_add]; rfl
  simp [execOp, ho, hx, Instr.sliceAt, Ty.run_und, Instr.sureAddr, Instr.sliceBounds, Ty.run_size, ha]
theorem ost_s2a {t e : TypeId} {x : Operand} {m n c sz' bytes' : Nat} {z' : Value} {a : Option Addr} [Ty P t (.array m e) sz' bytes' z'] (ho : o.op = .sliceToArrayPointer t x) (hx : ev s x = .slice a n c) (hn : m ≤ n)
    (hk : K (.pointer a) w) : Ost P o s w K := by
  refine .val (v := _) ?_ hk
  simp [execOp, ho, hx, Instr.arrayAt, Ty.run_und, show ¬ n < m by omega]
theorem ost_makeFuncL {fn : Fn} {first captured : List Operand} (ho : o.op = .makeFunc fn first.toArray captured.toArray) (hk : K (.func fn (mapEv s first).toArray (mapEv s captured).toArray) w) : Ost P o s w K :=
  ost_makeFunc ho (by rw [mapEv_eq, mapEv_eq]; exact hk)
theorem St.nameB (H : St ws S h0 h L w) {i b : Nat} {ob : Obj} (hi : L[i]? = some (.blk b ob)) : ∃ b' : Nat, b' = b := ⟨b, rfl⟩
end
end Go.Tg

