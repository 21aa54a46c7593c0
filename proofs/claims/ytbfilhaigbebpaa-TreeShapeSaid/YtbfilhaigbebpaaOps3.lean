/- More operations: slices of arrays, arrays out of slices, calls of functions that are values. -/
import Derived.Test.YtbfilhaigbebpaaMov
set_option linter.unusedVariables false
namespace Go.Tg
open Go
section
variable {P : Program} {o : Oper} {s : Env} {w : World} {K : Value → World → Prop} {ws : World} {S : List Nat} {h0 h : FH} {L : List HA}
theorem ost_sliceA0 {t e : TypeId} {x : Operand} {m sz bytes sz' bytes' b off : Nat} {z z' : Value} {d : TypeDesc} [Ty P t (.array m e) sz' bytes' z'] [Ty P e d sz bytes z] (ho : o.op = .slice t x none none none) (hx : ev s x = .pointer (some ⟨b, off, none⟩))
    (hk : K (.slice (some ⟨b, off, none⟩) m m) w) : Ost P o s w K := by
  refine .val (v := _) ?_ hk
  have ha : (if m = 0 then (⟨b, off, none⟩ : Addr) else (⟨b, off, none⟩ : Addr).add 0) = ⟨b, off, none⟩ := by
    split
    · rfl
    · rw [cell_add]; rfl
  simp [execOp, ho, hx, Instr.sliceAt, Ty.run_und, Instr.sureAddr, Instr.sliceBounds, Ty.run_size, ha]
theorem ost_s2a {t e : TypeId} {x : Operand} {m n c sz' bytes' : Nat} {z' : Value} {a : Option Addr} [Ty P t (.array m e) sz' bytes' z'] (ho : o.op = .sliceToArrayPointer t x) (hx : ev s x = .slice a n c) (hn : m ≤ n)
    (hk : K (.pointer a) w) : Ost P o s w K := by
  refine .val (v := _) ?_ hk
  simp [execOp, ho, hx, Instr.arrayAt, Ty.run_und, show ¬ n < m by omega]
def Ent (P : Program) (o : Oper) (s : Env) (f : Nat) (vs : List Value) : Prop := ∀ w, (execOp (ev s) o).run P w = .ok (.enter f vs.toArray) w
theorem ent_v {x : Operand} {f : Nat} {first captured : List Value} {args : List Operand} {at_ : Array TypeId} {vs : List Value} [hf : Fun P f] (ho : o.op = .call { callee := .value x, args := args.toArray, argTypes := at_ }) (hx : ev s x = .func (.func f) first.toArray captured.toArray)
    (hv : first ++ mapEv s args ++ captured = vs) : Ent P o s f vs := fun w => by
  simp only [execOp, ho, resolve, Sem.run_bind, Deferred.ofValue, hx, Sem.run_pure, Result.andThen_ok, invoke, mapEv_eq]
  rw [show first.toArray ++ (mapEv s args).toArray ++ captured.toArray = vs.toArray by rw [← hv]; simp]
  exact hf.call vs.toArray w
theorem ost_E {f : Nat} {vs : List Value} {R : Value → World → Prop} (he : Ent P o s f vs) (hC : Calls P f vs.toArray w (Ret R)) (hk : ∀ v w', R v w' → K v w') : Ost P o s w K := by
  unfold Ost
  rw [he w]
  exact Calls.mono hC fun e w' ⟨v, he, hR⟩ => ⟨v, he, hk v w' hR⟩
theorem ost_VE {f : Nat} {vs : List Value} {X : Value} (H : St ws S h0 h L w) (he : Ent P o s f vs) (hC : SpecV P f vs.toArray w X) (hk : ∀ w', St ws S h0 h L w' → K X w') : Ost P o s w K :=
  ost_E he hC fun v w' ⟨e, hE⟩ => by subst e; exact hk w' (H.ext hE)
theorem ost_V0E {f : Nat} {vs : List Value} {X : Value} (he : Ent P o s f vs) (hC : SpecV P f vs.toArray w X) : Ost P o s w (fun v w' => Ext w w' ∧ v = X) :=
  ost_E he hC fun v w' ⟨e, hE⟩ => ⟨hE, e⟩
theorem ost_HE {f : Nat} {vs : List Value} {R : Value → FH → List HA → Prop} {i : Nat} {A : HA} (H : St ws S h0 h L w) (he : Ent P o s f vs)
    (hi : L[i]? = some A) (hC : St w A.fp h h [A] w → Spec P f vs.toArray w A.fp h R) (hk : ∀ v w' h' L', R v h' L' → FLe h h' → St ws S h0 h' (L' ++ L.eraseIdx i) w' → K v w') : Ost P o s w K :=
  ost_E he (hC (H.give hi H.sat fun k hk => (H.own i A hi k hk).1)) fun v w' ⟨h', L', hs, hR⟩ => by
    obtain ⟨h1, h2⟩ := H.call1h hi hs
    exact hk v w' h' L' hR h2 h1
theorem ost_makeFuncL {fn : Fn} {first captured : List Operand} (ho : o.op = .makeFunc fn first.toArray captured.toArray) (hk : K (.func fn (mapEv s first).toArray (mapEv s captured).toArray) w) : Ost P o s w K :=
  ost_makeFunc ho (by rw [mapEv_eq, mapEv_eq]; exact hk)
theorem St.nameB (H : St ws S h0 h L w) {i b : Nat} {ob : Obj} (hi : L[i]? = some (.blk b ob)) : ∃ b' : Nat, b' = b := ⟨b, rfl⟩
end
end Go.Tg

