/- Maps: their length, and the entries of a map that is written out. -/
import Derived.Test.YtbfilhaigbebpaaMp
set_option linter.unusedSectionVars false
set_option linter.unusedVariables false
set_option linter.unusedSimpArgs false
namespace Go.Tg
open Go
section
variable {κ : Type} [DecidableEq κ]
variable {P : Program} {o : Oper} {s : Env} {w : World} {K : Value → World → Prop} {ws : World} {S : List Nat} {h0 h : FH} {L : List HA} {kc : κ → Value}
theorem ost_lenM {x : Operand} {t kt et : TypeId} {sz bytes : Nat} {z : Value} {mb clk : Nat} {es : List (ME κ)} [Ty P t (.map kt et) sz bytes z] (ho : o.op = .call { callee := .builtin .len, args := #[x], argTypes := #[t] }) (hx : ev s x = .map (some mb)) (hb : w.heap[mb]? = some (mpO kc es clk)) (hk : K (.int .i64 es.length) w) : Ost P o s w K := by
  refine .val (v := .int .i64 es.length) (w' := w) ?_ hk
  have hg : (getObj mb).run P w = .ok (mpO kc es clk) w := by unfold mpO at hb ⊢; simp [getObj, Sem.run, hb]
  simp only [execOp, ho, resolve, Sem.run_bind, Sem.run_pure, Result.andThen_ok, invoke, builtin, Builtin.len_]
  simp [hx, Ty.run_und, hg, mpO, goInt]
theorem ost_insert {mt kt et : TypeId} {x y u : Operand} {sz bytes : Nat} {z v : Value} {mb clk i : Nat} {es : List (ME κ)} {k : κ} [Ty P mt (.map kt et) sz bytes z] [hK : MapK P kt κ kc]
    (H : St ws S h0 h L w) (ho : o.op = .insert mt x y u) (hx : ev s x = .map (some mb)) (hy : ev s y = kc k) (hv : ev s u = v) (hi : L[i]? = some (.blk mb (mpO kc es clk)))
    (hk : ∀ w', St ws S h0 h (L.set i (.blk mb (mpO kc (setM es clk k v).1 (setM es clk k v).2))) w' → K undef w') : Ost P o s w K := by
  have hb := H.blk hi
  have hg : (getObj mb).run P w = .ok (mpO kc es clk) w := by unfold mpO at hb ⊢; simp [getObj, Sem.run, hb]
  have hfi := hK.find k es w
  have hset : ∀ o' : Obj, (setObj mb o').run P w = .ok () { w with heap := w.heap.setIfInBounds mb o' } := fun o' => by unfold mpO at hb; simp [setObj, Sem.run, hb]
  obtain ⟨hF, hN⟩ := set_kept (mpO kc (setM es clk k v).1 (setM es clk k v).2) hb
  refine .skp (w' := { w with heap := w.heap.setIfInBounds mb (mpO kc (setM es clk k v).1 (setM es clk k v).2) }) ?_ (hk _ (H.repl hi hF hN (by simp [HA.fp])))
  simp only [execOp, ho, hx, hy, hv]
  simp only [Instr.mapUpdate, Sem.run_bind, Ty.run_und, Result.andThen_ok, Sem.run_map]
  rw [hg]
  simp only [Result.andThen_ok, mpO, Sem.run_bind, hK.chk, hfi]
  unfold setM idxM
  cases hi : es.findIdx? (fun x => decide (x.k = k)) with
  | none =>
    simp only [hset, Result.andThen_ok]
    simp [mpO, ME.e]
  | some j =>
    obtain ⟨x, hx1, hx2⟩ := idxM_some (es := es) (k := k) hi
    have hks : (Instr.keyThatStays (((((es.map (ME.e kc)).toArray)[j]?).map (·.key)).getD (kc k)) (kc k)).run P w = .ok (kc k) w := by
      rw [List.getElem?_toArray, List.getElem?_map, hx1]
      simp only [Option.map_some, Option.getD_some, ME.e, hx2, Instr.keyThatStays, hK.same, if_true, Sem.run_pure]
    simp only [hks, Result.andThen_ok, Sem.run_bind, hset, toE_modify v hx1 hx2]
    rfl
end
end Go.Tg

