/- More operations: slices of arrays, arrays out of slices, calls of functions that are values. -/
import Derived.Test.YtbfilhaigbebpaaDoorMov
set_option linter.unusedVariables false
namespace Go.Tg
open Go
section
variable {P : Program} {o : Oper} {s : Env} {w : World} {K : Value → World → Prop} {ws : World} {S : List Nat} {h0 h : FH} {L : List HA}
theorem ost_sliceA0 {t e : TypeId} {x : Operand} {m sz bytes sz' bytes' b off : Nat} {z z' : Value} {d : TypeDesc} [Ty P t (.array m e) sz' bytes' z'] [Ty P e d sz bytes z] (ho : o.op = .slice t x none none none) (hx : ev s x = .pointer (some ⟨b, off, none⟩))
    (hk : K (.slice (some ⟨b, off, none⟩) m m) w) : Ost P o s w K := by
  refine .val (v := _) ?_ hk
  have ha : (if m = 0 then (⟨b, off, none⟩ : Addr) else (⟨b, off, none⟩ : Addr).add 0) = ⟨b, off, none⟩ := by
    split
    · rfl
    · rw [cell_add]; rfl
  simp [execOp, ho, hx, Instr.sliceAt, Ty.run_und, Instr.sureAddr, Instr.sliceBounds, Ty.run_size, ha]
theorem ost_s2a {t e : TypeId} {x : Operand} {m n c sz' bytes' : Nat} {z' : Value} {a : Option Addr} [Ty P t (.array m e) sz' bytes' z'] (ho : o.op = .sliceToArrayPointer t x) (hx : ev s x = .slice a n c) (hn : m ≤ n)
    (hk : K (.pointer a) w) : Ost P o s w K := by
  refine .val (v := _) ?_ hk
  simp [execOp, ho, hx, Instr.arrayAt, Ty.run_und, show ¬ n < m by omega]
theorem ost_loadRd {t : TypeId} {x : Operand} {d : TypeDesc} {sz bytes : Nat} {z : Value} {a : Option Addr} {cs : List Value} [Ty P t d sz bytes z] (ho : o.op = .load t x) (hd : isAggD d = true)
    (ha : ev s x = .pointer a) (hr : RdC (full w) a cs) (hl : cs.length = sz) (h0 : 0 < sz) (hk : K (.agg cs.toArray) w) : Ost P o s w K := by
  rcases hr with rfl | ⟨b, off, l, T, fr, rfl, h2, h3⟩
  · simp at hl; omega
  · exact ost_loadA ho hd ha h2 hl h3 hk
theorem cB_inj {a b : List UInt8} : cB a = cB b ↔ a = b := by
  refine ⟨fun h => ?_, fun h => by rw [h]⟩
  unfold cB at h
  induction a generalizing b with
  | nil => cases b with
    | nil => rfl
    | cons y b => simp at h
  | cons x a ih => cases b with
    | nil => simp at h
    | cons y b =>
      simp only [List.map_cons, List.cons.injEq] at h
      rw [u8v_inj h.1, ih h.2]
theorem typed_cB4 {xs : List UInt8} (h : xs.length = 4) : Typed [.i .u8, .i .u8, .i .u8, .i .u8] (cB xs) := by
  match xs, h with
  | [a, b, c, d], _ => rfl
theorem ost_makeFuncL {fn : Fn} {first captured : List Operand} (ho : o.op = .makeFunc fn first.toArray captured.toArray) (hk : K (.func fn (mapEv s first).toArray (mapEv s captured).toArray) w) : Ost P o s w K :=
  ost_makeFunc ho (by rw [mapEv_eq, mapEv_eq]; exact hk)
theorem St.lessRd (H : St ws S h0 h L w) {i j : Nat} {A : HA} {a : Option Addr} {n c : Nat} {e : TypeId} {sz : Nat} {xs : List Value} (hi : L[i]? = some A) (hj : L[j]? = some (.own (.slice a n c) e sz n xs)) (hij : i ≠ j) : RdC (Go.Tg.less w A.fp) a xs := by
  obtain ⟨a', c', h1, h2, h3, h4, h5⟩ := H.lessOwn hi hj hij
  injection h1 with h6 h7 h8
  subst h6; exact h4
theorem St.nameB (H : St ws S h0 h L w) {i b : Nat} {ob : Obj} (hi : L[i]? = some (.blk b ob)) : ∃ b' : Nat, b' = b := ⟨b, rfl⟩
end
end Go.Tg

