/- Maps, and things that are owned together, as many as there are. -/
import Derived.Test.YtbfilhaigbebpaaPick
import Derived.Test.YtbfilhaigbebpaaOps3
set_option linter.unusedSectionVars false
set_option linter.unusedVariables false
set_option linter.unusedSimpArgs false
namespace Go.Tg
open Go
def HA.all : List HA → HA
  | [] => .own (.slice none 0 0) 0 0 0 []
  | A :: l => .both A (HA.all l)
section
variable {ws w : World} {S : List Nat} {h0 h : FH} {L : List HA}
theorem St.nilOwn0 (H : St ws S h0 h L w) : St ws S h0 h (HA.all [] :: L) w := H.nilOwn 0 0
theorem St.allOpen : ∀ {xs L : List HA}, St ws S h0 h (HA.all xs :: L) w → St ws S h0 h (xs ++ L) w
  | [], L, H => H.tl
  | A :: xs, L, H => by
    have H1 : St ws S h0 h (A :: HA.all xs :: L) w := H.split
    have H2 := St.allOpen (H1.perm (List.Perm.swap _ _ _))
    exact H2.perm List.perm_middle
theorem St.allShut : ∀ {xs L : List HA}, St ws S h0 h (xs ++ L) w → St ws S h0 h (HA.all xs :: L) w
  | [], L, H => H.nilOwn0
  | A :: xs, L, H => by
    have H1 : St ws S h0 h (xs ++ A :: L) w := H.perm (List.perm_middle.symm)
    have H2 := St.allShut H1
    exact (H2.perm (List.Perm.swap _ _ _)).join
theorem St.allSnoc {xs : List HA} {A : HA} (H : St ws S h0 h (A :: HA.all xs :: L) w) : St ws S h0 h (HA.all (xs ++ [A]) :: L) w := by
  have H1 : St ws S h0 h (xs ++ A :: L) w := (H.perm (List.Perm.swap _ _ _)).allOpen
  refine St.allShut ?_
  rw [List.append_assoc]; exact H1
theorem St.join3 {A B C : HA} (H : St ws S h0 h (A :: B :: C :: L) w) : St ws S h0 h (.both A (.both B C) :: L) w :=
  ((H.perm ((List.Perm.swap B A (C :: L)).trans ((List.Perm.swap C A L).cons B))).join.perm (List.Perm.swap _ _ _)).join
theorem St.split3 {A B C : HA} (H : St ws S h0 h (.both A (.both B C) :: L) w) : St ws S h0 h (A :: B :: C :: L) w := by
  have H1 : St ws S h0 h (.both B C :: A :: L) w := H.split.perm (List.Perm.swap _ _ _)
  exact H1.split.perm ((List.Perm.swap A C L).cons B |>.trans (List.Perm.swap A B (C :: L)))
end
structure ME (κ : Type) where
  k : κ
  v : Value
  b : Nat
def ME.e {κ : Type} (kc : κ → Value) (x : ME κ) : MapEntry := { key := kc x.k, val := x.v, born := x.b }
def mpO {κ : Type} (kc : κ → Value) (es : List (ME κ)) (clk : Nat) : Obj := .map (es.map (ME.e kc)).toArray clk
section
variable {κ : Type} {kc : κ → Value}
theorem toE_modify {es : List (ME κ)} {j : Nat} {x : ME κ} {k : κ} (v : Value) (hx : es[j]? = some x) (hk : x.k = k) : ((es.map (ME.e kc)).toArray.modify j fun e => { e with key := kc k, val := v }) = ((es.modify j fun x => { x with v := v }).map (ME.e kc)).toArray := by
  apply Array.ext'
  apply List.ext_getElem?
  intro q
  simp only [Array.toList_modify, List.getElem?_modify, List.getElem?_map]
  by_cases hq : j = q
  · subst hq; rw [hx]; simp [ME.e, hk]
  · simp [hq]
end
class MapK (P : Program) (kt : TypeId) (κ : Type) [DecidableEq κ] (kc : outParam (κ → Value)) : Prop where
  chk : ∀ q k w, (Instr.checkKey q 10000 kt (kc k)).run P w = .ok () w
  find : ∀ (k : κ) (es : List (ME κ)) (w : World), (Instr.findKey kt (kc k) (es.map (ME.e kc))).run P w = .ok (match es.findIdx? (fun x => decide (x.k = k)) with | some i => some (i, ((es[i]?).map ME.v).getD undef) | none => none) w
  same : ∀ k : κ, Instr.sameBits 10000 (kc k) (kc k) = true
section
variable {κ : Type} [DecidableEq κ]
def idxM (es : List (ME κ)) (k : κ) : Option Nat := es.findIdx? fun x => decide (x.k = k)
def getM (z : Value) (es : List (ME κ)) (k : κ) : Value := match idxM es k with | some i => ((es[i]?).map ME.v).getD undef | none => z
def setM (es : List (ME κ)) (clk : Nat) (k : κ) (v : Value) : List (ME κ) × Nat := match idxM es k with
  | some i => (es.modify i fun x => { x with v := v }, clk)
  | none => (es ++ [⟨k, v, clk⟩], clk + 1)
theorem idxM_some {es : List (ME κ)} {k : κ} {i : Nat} (h : idxM es k = some i) : ∃ x, es[i]? = some x ∧ x.k = k := by
  unfold idxM at h
  obtain ⟨h1, h2, -⟩ := List.findIdx?_eq_some_iff_getElem.1 h
  exact ⟨es[i], List.getElem?_eq_getElem h1, by simpa using h2⟩
theorem idxM_none {es : List (ME κ)} {k : κ} (h : idxM es k = none) : ∀ x ∈ es, x.k ≠ k := by
  unfold idxM at h
  intro x hx
  have := List.findIdx?_eq_none_iff.1 h x hx
  simpa using this
variable {P : Program} {o : Oper} {s : Env} {w : World} {K : Value → World → Prop} {ws : World} {S : List Nat} {h0 h : FH} {L : List HA} {kc : κ → Value}
theorem ost_lookup {mt kt et : TypeId} {x y : Operand} {okq : Bool} {sz bytes sz' bytes' : Nat} {z z' : Value} {d : TypeDesc} {mb clk : Nat} {es : List (ME κ)} {k : κ} [Ty P mt (.map kt et) sz bytes z] [Ty P et d sz' bytes' z'] [hK : MapK P kt κ kc]
    (ho : o.op = .lookup mt x y okq) (hx : ev s x = .map (some mb)) (hy : ev s y = kc k) (hb : w.heap[mb]? = some (mpO kc es clk))
    (hk : K (if okq then .tuple #[getM z' es k, .bool (idxM es k).isSome] else getM z' es k) w) : Ost P o s w K := by
  refine .val (v := if okq then .tuple #[getM z' es k, .bool (idxM es k).isSome] else getM z' es k) (w' := w) ?_ hk
  have hg : (getObj mb).run P w = .ok (mpO kc es clk) w := by unfold mpO at hb ⊢; simp [getObj, Sem.run, hb]
  have hfi := hK.find k es w
  simp only [execOp, ho, hx, hy]
  simp only [Instr.lookup, Sem.run_bind, Ty.run_und, Result.andThen_ok]
  rw [hg]
  simp only [Result.andThen_ok, mpO, Sem.run_pure, Sem.run_bind, hK.chk, hfi]
  unfold getM idxM
  cases hi : es.findIdx? (fun x => decide (x.k = k)) with
  | none => cases okq <;> simp [Ty.run_zero]
  | some i => cases okq <;> simp
theorem ost_lookup0 {mt kt et : TypeId} {x y : Operand} {sz bytes sz' bytes' : Nat} {z z' : Value} {d : TypeDesc} {mb clk : Nat} {es : List (ME κ)} {k : κ} [Ty P mt (.map kt et) sz bytes z] [Ty P et d sz' bytes' z'] [hK : MapK P kt κ kc]
    (ho : o.op = .lookup mt x y false) (hx : ev s x = .map (some mb)) (hy : ev s y = kc k) (hb : w.heap[mb]? = some (mpO kc es clk)) (hk : K (getM z' es k) w) : Ost P o s w K :=
  ost_lookup ho hx hy hb hk
theorem set_kept {w : World} {mb : Nat} {o : Obj} (o' : Obj) (hb : w.heap[mb]? = some o) : Fr [mb] w { w with heap := w.heap.setIfInBounds mb o' } ∧ ({ w with heap := w.heap.setIfInBounds mb o' } : World).heap[mb]? = some o' := by
  have hlt := lt_of_some hb
  refine ⟨⟨rfl, rfl, rfl, by simp, fun k hk hS => ?_⟩, ?_⟩
  · show (w.heap.setIfInBounds mb o')[k]? = _
    rw [Array.getElem?_setIfInBounds_ne]
    intro e; exact hS (by simp [e])
  · show (w.heap.setIfInBounds mb o')[mb]? = _
    rw [Array.getElem?_setIfInBounds_self_of_lt hlt]
theorem ost_mapUpdate {mt kt et : TypeId} {x y u : Operand} {sz bytes : Nat} {z v : Value} {mb clk i : Nat} {es : List (ME κ)} {k : κ} [Ty P mt (.map kt et) sz bytes z] [hK : MapK P kt κ kc]
    (H : St ws S h0 h L w) (ho : o.op = .mapUpdate mt x y u) (hx : ev s x = .map (some mb)) (hy : ev s y = kc k) (hv : ev s u = v) (hi : L[i]? = some (.blk mb (mpO kc es clk)))
    (hk : ∀ w', St ws S h0 h (L.set i (.blk mb (mpO kc (setM es clk k v).1 (setM es clk k v).2))) w' → K undef w') : Ost P o s w K := by
  have hb := H.blk hi
  have hg : (getObj mb).run P w = .ok (mpO kc es clk) w := by unfold mpO at hb ⊢; simp [getObj, Sem.run, hb]
  have hfi := hK.find k es w
  have hset : ∀ o' : Obj, (setObj mb o').run P w = .ok () { w with heap := w.heap.setIfInBounds mb o' } := fun o' => by unfold mpO at hb; simp [setObj, Sem.run, hb]
  obtain ⟨hF, hN⟩ := set_kept (mpO kc (setM es clk k v).1 (setM es clk k v).2) hb
  refine .skp (w' := { w with heap := w.heap.setIfInBounds mb (mpO kc (setM es clk k v).1 (setM es clk k v).2) }) ?_ (hk _ (H.repl hi hF hN (by simp [HA.fp])))
  simp only [execOp, ho, hx, hy, hv]
  simp only [Instr.mapUpdate, Sem.run_bind, Ty.run_und, Result.andThen_ok, Sem.run_map]
  rw [hg]
  simp only [Result.andThen_ok, mpO, Sem.run_bind, hK.chk, hfi]
  unfold setM idxM
  cases hi : es.findIdx? (fun x => decide (x.k = k)) with
  | none =>
    simp only [hset, Result.andThen_ok]
    simp [mpO, ME.e]
  | some j =>
    obtain ⟨x, hx1, hx2⟩ := idxM_some (es := es) (k := k) hi
    have hks : (Instr.keyThatStays (((((es.map (ME.e kc)).toArray)[j]?).map (·.key)).getD (kc k)) (kc k)).run P w = .ok (kc k) w := by
      rw [List.getElem?_toArray, List.getElem?_map, hx1]
      simp only [Option.map_some, Option.getD_some, ME.e, hx2, Instr.keyThatStays, hK.same, if_true, Sem.run_pure]
    simp only [hks, Result.andThen_ok, Sem.run_bind, hset, toE_modify v hx1 hx2]
    rfl
end
end Go.Tg

