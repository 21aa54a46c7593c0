/- Maps, and things that are owned together, as many as there are. -/
import Derived.Test.YtajfhoeejeadkaaPick
import Derived.Test.YtajfhoeejeadkaaOps3
set_option linter.unusedSectionVars false
set_option linter.unusedVariables false
set_option linter.unusedSimpArgs false
namespace Go.Tg
open Go
def HA.all : List HA → HA
  | [] => .own (.slice none 0 0) 0 0 0 []
  | A :: l => .both A (HA.all l)
section
variable {ws w : World} {S : List Nat} {h0 h : FH} {L : List HA}
theorem St.nilOwn0 (H : St ws S h0 h L w) : St ws S h0 h (HA.all [] :: L) w := H.nilOwn 0 0
theorem St.allOpen : ∀ {xs L : List HA}, St ws S h0 h (HA.all xs :: L) w → St ws S h0 h (xs ++ L) w
  | [], L, H => H.tl
  | A :: xs, L, H => by
    have H1 : St ws S h0 h (A :: HA.all xs :: L) w := H.split
    have H2 := St.allOpen (H1.perm (List.Perm.swap _ _ _))
    exact H2.perm List.perm_middle
theorem St.allShut : ∀ {xs L : List HA}, St ws S h0 h (xs ++ L) w → St ws S h0 h (HA.all xs :: L) w
  | [], L, H => H.nilOwn0
  | A :: xs, L, H => by
    have H1 : St ws S h0 h (xs ++ A :: L) w := H.perm (List.perm_middle.symm)
    have H2 := St.allShut H1
    exact (H2.perm (List.Perm.swap _ _ _)).join
theorem perm_erase {xs : List HA} {i : Nat} {A : HA} (hi : xs[i]? = some A) : xs.Perm (A :: xs.eraseIdx i) := by
  induction xs generalizing i with
  | nil => simp at hi
  | cons x xs ih =>
    cases i with
    | zero => simp at hi; subst hi; exact List.Perm.refl _
    | succ i =>
      simp only [List.getElem?_cons_succ] at hi
      rw [List.eraseIdx_cons_succ]
      exact ((ih hi).cons x).trans (List.Perm.swap _ _ _)
theorem perm_set {xs : List HA} {i : Nat} (A : HA) (hi : i < xs.length) : (xs.set i A).Perm (A :: xs.eraseIdx i) := by
  have h1 : (xs.set i A)[i]? = some A := List.getElem?_set_self hi
  have h2 := perm_erase h1
  have h3 : (xs.set i A).eraseIdx i = xs.eraseIdx i := by
    clear h1 h2
    induction xs generalizing i with
    | nil => rfl
    | cons x xs ih =>
      cases i with
      | zero => rfl
      | succ i => simp only [List.set_cons_succ, List.eraseIdx_cons_succ]; rw [ih (by simpa using hi)]
  rwa [h3] at h2
theorem St.allTake {xs : List HA} {i : Nat} {A : HA} (H : St ws S h0 h (HA.all xs :: L) w) (hi : xs[i]? = some A) : St ws S h0 h (A :: HA.all (xs.eraseIdx i) :: L) w := by
  have H1 : St ws S h0 h ((A :: xs.eraseIdx i) ++ L) w := H.allOpen.perm ((perm_erase hi).append_right L)
  have H2 : St ws S h0 h (xs.eraseIdx i ++ A :: L) w := H1.perm (List.perm_middle.symm)
  exact H2.allShut.perm (List.Perm.swap _ _ _)
theorem St.allPut {xs : List HA} {i : Nat} {A : HA} (H : St ws S h0 h (A :: HA.all (xs.eraseIdx i) :: L) w) (hi : i < xs.length) : St ws S h0 h (HA.all (xs.set i A) :: L) w := by
  have H1 : St ws S h0 h (xs.eraseIdx i ++ A :: L) w := (H.perm (List.Perm.swap _ _ _)).allOpen
  have H2 : St ws S h0 h ((A :: xs.eraseIdx i) ++ L) w := H1.perm List.perm_middle
  exact St.allShut (H2.perm ((perm_set A hi).symm.append_right L))
theorem St.allSnoc {xs : List HA} {A : HA} (H : St ws S h0 h (A :: HA.all xs :: L) w) : St ws S h0 h (HA.all (xs ++ [A]) :: L) w := by
  have H1 : St ws S h0 h (xs ++ A :: L) w := (H.perm (List.Perm.swap _ _ _)).allOpen
  refine St.allShut ?_
  rw [List.append_assoc]; exact H1
theorem St.allIns {xs : List HA} {A : HA} (i : Nat) (H : St ws S h0 h (A :: HA.all xs :: L) w) : St ws S h0 h (HA.all (xs.take i ++ A :: xs.drop i) :: L) w := by
  have H1 : St ws S h0 h (xs ++ A :: L) w := (H.perm (List.Perm.swap _ _ _)).allOpen
  have H2 : St ws S h0 h ((A :: xs) ++ L) w := H1.perm List.perm_middle
  have hp : (A :: xs).Perm (xs.take i ++ A :: xs.drop i) := by
    have := (List.perm_middle (l₁ := xs.take i) (a := A) (l₂ := xs.drop i)).symm
    rwa [List.take_append_drop] at this
  exact St.allShut (H2.perm (hp.append_right L))
theorem St.join3 {A B C : HA} (H : St ws S h0 h (A :: B :: C :: L) w) : St ws S h0 h (.both A (.both B C) :: L) w :=
  ((H.perm ((List.Perm.swap B A (C :: L)).trans ((List.Perm.swap C A L).cons B))).join.perm (List.Perm.swap _ _ _)).join
theorem St.split3 {A B C : HA} (H : St ws S h0 h (.both A (.both B C) :: L) w) : St ws S h0 h (A :: B :: C :: L) w := by
  have H1 : St ws S h0 h (.both B C :: A :: L) w := H.split.perm (List.Perm.swap _ _ _)
  exact H1.split.perm ((List.Perm.swap A C L).cons B |>.trans (List.Perm.swap A B (C :: L)))
theorem HA.all_ok {xs : List HA} {A : HA} (h : (HA.all xs).ok w) (hA : A ∈ xs) : A.ok w := by
  induction xs with
  | nil => cases hA
  | cons B xs ih =>
    rcases List.mem_cons.1 hA with rfl | h1
    · exact h.1
    · exact ih h.2.1 h1
end
structure ME (κ : Type) where
  k : κ
  v : Value
  b : Nat
def ME.e {κ : Type} (kc : κ → Value) (x : ME κ) : MapEntry := { key := kc x.k, val := x.v, born := x.b }
def mpO {κ : Type} (kc : κ → Value) (es : List (ME κ)) (clk : Nat) : Obj := .map (es.map (ME.e kc)).toArray clk
section
variable {κ : Type} {kc : κ → Value}
theorem toE_modify {es : List (ME κ)} {j : Nat} {x : ME κ} {k : κ} (v : Value) (hx : es[j]? = some x) (hk : x.k = k) : ((es.map (ME.e kc)).toArray.modify j fun e => { e with key := kc k, val := v }) = ((es.modify j fun x => { x with v := v }).map (ME.e kc)).toArray := by
  apply Array.ext'
  apply List.ext_getElem?
  intro q
  simp only [Array.toList_modify, List.getElem?_modify, List.getElem?_map]
  by_cases hq : j = q
  · subst hq; rw [hx]; simp [ME.e, hk]
  · simp [hq]
theorem toE_modkey {es : List (ME κ)} {j : Nat} {x : ME κ} {k : κ} (hx : es[j]? = some x) (hk : x.k = k) : ((es.map (ME.e kc)).toArray.modify j fun e => { e with key := kc k }) = (es.map (ME.e kc)).toArray := by
  apply Array.ext'
  apply List.ext_getElem?
  intro q
  simp only [Array.toList_modify, List.getElem?_modify, List.getElem?_map]
  by_cases hq : j = q
  · subst hq; rw [hx]; simp [ME.e, hk]
  · simp [hq]
theorem toE_modval {es : List (ME κ)} {j : Nat} (v : Value) : ((es.map (ME.e kc)).toArray.modify j fun e => { e with val := v }) = ((es.modify j fun x => { x with v := v }).map (ME.e kc)).toArray := by
  apply Array.ext'
  apply List.ext_getElem?
  intro q
  simp only [Array.toList_modify, List.getElem?_modify, List.getElem?_map]
  by_cases hq : j = q
  · subst hq; cases es[j]? <;> simp [ME.e]
  · simp [hq]
end
class MapK (P : Program) (kt : TypeId) (κ : Type) [DecidableEq κ] (kc : outParam (κ → Value)) : Prop where
  chk : ∀ q k w, (Instr.checkKey q 10000 kt (kc k)).run P w = .ok () w
  find : ∀ (k : κ) (es : List (ME κ)) (w : World), (Instr.findKey kt (kc k) (es.map (ME.e kc))).run P w = .ok (match es.findIdx? (fun x => decide (x.k = k)) with | some i => some (i, ((es[i]?).map ME.v).getD undef) | none => none) w
  same : ∀ k : κ, Instr.sameBits 10000 (kc k) (kc k) = true
section
variable {κ : Type} [DecidableEq κ]
def idxM (es : List (ME κ)) (k : κ) : Option Nat := es.findIdx? fun x => decide (x.k = k)
def getM (z : Value) (es : List (ME κ)) (k : κ) : Value := match idxM es k with | some i => ((es[i]?).map ME.v).getD undef | none => z
def setM (es : List (ME κ)) (clk : Nat) (k : κ) (v : Value) : List (ME κ) × Nat := match idxM es k with
  | some i => (es.modify i fun x => { x with v := v }, clk)
  | none => (es ++ [⟨k, v, clk⟩], clk + 1)
theorem idxM_some {es : List (ME κ)} {k : κ} {i : Nat} (h : idxM es k = some i) : ∃ x, es[i]? = some x ∧ x.k = k := by
  unfold idxM at h
  obtain ⟨h1, h2, -⟩ := List.findIdx?_eq_some_iff_getElem.1 h
  exact ⟨es[i], List.getElem?_eq_getElem h1, by simpa using h2⟩
variable {P : Program} {o : Oper} {s : Env} {w : World} {K : Value → World → Prop} {ws : World} {S : List Nat} {h0 h : FH} {L : List HA} {kc : κ → Value}
theorem findAsk {kt : TypeId} {k : κ} (heq : ∀ (a b : κ) (w : World), (Op.equal kt (kc a) (kc b)).run P w = .ok (decide (a = b)) w) : ∀ (es : List (ME κ)) (i : Nat) (w : World),
    (Instr.findAsking kt (kc k) (es.map (ME.e kc)) i).run P w = .ok (match es.findIdx? (fun x => decide (x.k = k)) with | some j => some (i + j, ((es[j]?).map ME.v).getD undef) | none => none) w
  | [], i, w => rfl
  | x :: es, i, w => by
    rw [List.map_cons, Instr.findAsking]
    simp only [Sem.run_bind, ME.e, heq, Result.andThen_ok]
    rw [List.findIdx?_cons]
    by_cases hx : x.k = k
    · have : k = x.k := hx.symm
      simp [hx]
    · have : ¬ k = x.k := fun e => hx e.symm
      simp only [this, decide_false, hx, Bool.false_eq_true, if_false]
      have ih := findAsk (k := k) heq es (i + 1) w
      rw [show (Instr.findAsking kt (kc k) (List.map (ME.e kc) es) (i + 1)).run P w = _ from ih]
      cases es.findIdx? (fun x => decide (x.k = k)) with
      | none => rfl
      | some j => simp only [Option.map_some, List.getElem?_cons_succ]; rw [show i + 1 + j = i + (j + 1) by omega]
theorem ost_lookup {mt kt et : TypeId} {x y : Operand} {okq : Bool} {sz bytes sz' bytes' : Nat} {z z' : Value} {d : TypeDesc} {mb clk : Nat} {es : List (ME κ)} {k : κ} [Ty P mt (.map kt et) sz bytes z] [Ty P et d sz' bytes' z'] [hK : MapK P kt κ kc]
    (ho : o.op = .lookup mt x y okq) (hx : ev s x = .map (some mb)) (hy : ev s y = kc k) (hb : w.heap[mb]? = some (mpO kc es clk))
    (hk : K (if okq then .tuple #[getM z' es k, .bool (idxM es k).isSome] else getM z' es k) w) : Ost P o s w K := by
  refine .val (v := if okq then .tuple #[getM z' es k, .bool (idxM es k).isSome] else getM z' es k) (w' := w) ?_ hk
  have hg : (getObj mb).run P w = .ok (mpO kc es clk) w := by unfold mpO at hb ⊢; simp [getObj, Sem.run, hb]
  have hfi := hK.find k es w
  simp only [execOp, ho, hx, hy]
  simp only [Instr.lookup, Sem.run_bind, Ty.run_und, Result.andThen_ok]
  rw [hg]
  simp only [Result.andThen_ok, mpO, Sem.run_pure, Sem.run_bind, hK.chk, hfi]
  unfold getM idxM
  cases hi : es.findIdx? (fun x => decide (x.k = k)) with
  | none => cases okq <;> simp [Ty.run_zero]
  | some i => cases okq <;> simp
theorem ost_lookup0 {mt kt et : TypeId} {x y : Operand} {sz bytes sz' bytes' : Nat} {z z' : Value} {d : TypeDesc} {mb clk : Nat} {es : List (ME κ)} {k : κ} [Ty P mt (.map kt et) sz bytes z] [Ty P et d sz' bytes' z'] [hK : MapK P kt κ kc]
    (ho : o.op = .lookup mt x y false) (hx : ev s x = .map (some mb)) (hy : ev s y = kc k) (hb : w.heap[mb]? = some (mpO kc es clk)) (hk : K (getM z' es k) w) : Ost P o s w K :=
  ost_lookup ho hx hy hb hk
theorem set_kept {w : World} {mb : Nat} {o : Obj} (o' : Obj) (hb : w.heap[mb]? = some o) : Fr [mb] w { w with heap := w.heap.setIfInBounds mb o' } ∧ ({ w with heap := w.heap.setIfInBounds mb o' } : World).heap[mb]? = some o' := by
  have hlt := lt_of_some hb
  refine ⟨⟨rfl, rfl, rfl, by simp, fun k hk hS => ?_⟩, ?_⟩
  · show (w.heap.setIfInBounds mb o')[k]? = _
    rw [Array.getElem?_setIfInBounds_ne]
    intro e; exact hS (by simp [e])
  · show (w.heap.setIfInBounds mb o')[mb]? = _
    rw [Array.getElem?_setIfInBounds_self_of_lt hlt]
theorem ost_mapUpdate {mt kt et : TypeId} {x y u : Operand} {sz bytes : Nat} {z v : Value} {mb clk i : Nat} {es : List (ME κ)} {k : κ} [Ty P mt (.map kt et) sz bytes z] [hK : MapK P kt κ kc]
    (H : St ws S h0 h L w) (ho : o.op = .mapUpdate mt x y u) (hx : ev s x = .map (some mb)) (hy : ev s y = kc k) (hv : ev s u = v) (hi : L[i]? = some (.blk mb (mpO kc es clk)))
    (hk : ∀ w', St ws S h0 h (L.set i (.blk mb (mpO kc (setM es clk k v).1 (setM es clk k v).2))) w' → K undef w') : Ost P o s w K := by
  have hb := H.blk hi
  have hg : (getObj mb).run P w = .ok (mpO kc es clk) w := by unfold mpO at hb ⊢; simp [getObj, Sem.run, hb]
  have hfi := hK.find k es w
  have hset : ∀ o' : Obj, (setObj mb o').run P w = .ok () { w with heap := w.heap.setIfInBounds mb o' } := fun o' => by unfold mpO at hb; simp [setObj, Sem.run, hb]
  obtain ⟨hF, hN⟩ := set_kept (mpO kc (setM es clk k v).1 (setM es clk k v).2) hb
  refine .skp (w' := { w with heap := w.heap.setIfInBounds mb (mpO kc (setM es clk k v).1 (setM es clk k v).2) }) ?_ (hk _ (H.repl hi hF hN (by simp [HA.fp])))
  simp only [execOp, ho, hx, hy, hv]
  simp only [Instr.mapUpdate, Sem.run_bind, Ty.run_und, Result.andThen_ok, Sem.run_map]
  rw [hg]
  simp only [Result.andThen_ok, mpO, Sem.run_bind, hK.chk, hfi]
  unfold setM idxM
  cases hi : es.findIdx? (fun x => decide (x.k = k)) with
  | none =>
    simp only [hset, Result.andThen_ok]
    simp [mpO, ME.e]
  | some j =>
    obtain ⟨x, hx1, hx2⟩ := idxM_some (es := es) (k := k) hi
    have hks : (Instr.keyThatStays (((((es.map (ME.e kc)).toArray)[j]?).map (·.key)).getD (kc k)) (kc k)).run P w = .ok (kc k) w := by
      rw [List.getElem?_toArray, List.getElem?_map, hx1]
      simp only [Option.map_some, Option.getD_some, ME.e, hx2, Instr.keyThatStays, hK.same, if_true, Sem.run_pure]
    simp only [hks, Result.andThen_ok, Sem.run_bind, hset, toE_modify v hx1 hx2]
    rfl
def entM (z : Value) (es : List (ME κ)) (clk : Nat) (k : κ) : List (ME κ) × Nat := match idxM es k with
  | some _ => (es, clk)
  | none => (es ++ [⟨k, z, clk⟩], clk + 1)
def bornM (es : List (ME κ)) (clk : Nat) (k : κ) : Nat := match idxM es k with
  | some i => ((es[i]?).map ME.b).getD 0
  | none => clk
theorem ost_mapEntry {mt kt et : TypeId} {x y : Operand} {sz bytes sz' bytes' : Nat} {z z' : Value} {d : TypeDesc} {mb clk i : Nat} {es : List (ME κ)} {k : κ} [Ty P mt (.map kt et) sz bytes z] [Ty P et d sz' bytes' z'] [hK : MapK P kt κ kc]
    (H : St ws S h0 h L w) (ho : o.op = .mapEntry mt x y) (hx : ev s x = .map (some mb)) (hy : ev s y = kc k) (hi : L[i]? = some (.blk mb (mpO kc es clk)))
    (hk : ∀ w', St ws S h0 h (L.set i (.blk mb (mpO kc (entM z' es clk k).1 (entM z' es clk k).2))) w' → K (.tuple #[getM z' es k, .int .i64 (bornM es clk k : Nat)]) w') : Ost P o s w K := by
  have hb := H.blk hi
  have hg : (getObj mb).run P w = .ok (mpO kc es clk) w := by unfold mpO at hb ⊢; simp [getObj, Sem.run, hb]
  have hfi := hK.find k es w
  have hset : ∀ o' : Obj, (setObj mb o').run P w = .ok () { w with heap := w.heap.setIfInBounds mb o' } := fun o' => by unfold mpO at hb; simp [setObj, Sem.run, hb]
  obtain ⟨hF, hN⟩ := set_kept (mpO kc (entM z' es clk k).1 (entM z' es clk k).2) hb
  refine .val (v := .tuple #[getM z' es k, .int .i64 (bornM es clk k : Nat)]) (w' := { w with heap := w.heap.setIfInBounds mb (mpO kc (entM z' es clk k).1 (entM z' es clk k).2) }) ?_ (hk _ (H.repl hi hF hN (by simp [HA.fp])))
  simp only [execOp, ho, hx, hy]
  simp only [Instr.mapEntry, Sem.run_bind, Ty.run_und, Result.andThen_ok, Sem.run_map]
  rw [hg]
  simp only [Result.andThen_ok, mpO, Sem.run_bind, hK.chk, hfi]
  unfold entM getM bornM idxM
  cases hi : es.findIdx? (fun x => decide (x.k = k)) with
  | none =>
    simp only [Sem.run_bind, Ty.run_zero, hset, Result.andThen_ok, Sem.run_pure]
    simp [mpO, ME.e, goInt]
  | some j =>
    obtain ⟨x, hx1, hx2⟩ := idxM_some (es := es) (k := k) hi
    have hks : (Instr.keyThatStays (((((es.map (ME.e kc)).toArray)[j]?).map (·.key)).getD (kc k)) (kc k)).run P w = .ok (kc k) w := by
      rw [List.getElem?_toArray, List.getElem?_map, hx1]
      simp only [Option.map_some, Option.getD_some, ME.e, hx2, Instr.keyThatStays, hK.same, if_true, Sem.run_pure]
    simp only [hks, Result.andThen_ok, Sem.run_bind, hset, toE_modkey hx1 hx2, Sem.run_pure]
    rw [List.getElem?_toArray, List.getElem?_map, hx1]
    rfl
theorem ost_entryStore {mt : TypeId} {x y u : Operand} {v : Value} {stamp : Int} {mb clk i j : Nat} {es : List (ME κ)}
    (H : St ws S h0 h L w) (ho : o.op = .entryStore mt x y u) (hx : ev s x = .map (some mb)) (hy : ev s y = .int .i64 stamp) (hv : ev s u = v) (hi : L[i]? = some (.blk mb (mpO kc es clk)))
    (hj : es.findIdx? (fun e => (e.b : Int) == stamp) = some j)
    (hk : ∀ w', St ws S h0 h (L.set i (.blk mb (mpO kc (es.modify j fun x => { x with v := v }) clk))) w' → K undef w') : Ost P o s w K := by
  have hb := H.blk hi
  have hg : (getObj mb).run P w = .ok (mpO kc es clk) w := by unfold mpO at hb ⊢; simp [getObj, Sem.run, hb]
  have hset : ∀ o' : Obj, (setObj mb o').run P w = .ok () { w with heap := w.heap.setIfInBounds mb o' } := fun o' => by unfold mpO at hb; simp [setObj, Sem.run, hb]
  obtain ⟨hF, hN⟩ := set_kept (mpO kc (es.modify j fun x => { x with v := v }) clk) hb
  refine .skp (w' := { w with heap := w.heap.setIfInBounds mb (mpO kc (es.modify j fun x => { x with v := v }) clk) }) ?_ (hk _ (H.repl hi hF hN (by simp [HA.fp])))
  have hj2 : ((es.map (ME.e kc)).toArray).findIdx? (fun e => (e.born : Int) == stamp) = some j := by
    rw [List.findIdx?_toArray, List.findIdx?_map]; exact hj
  simp only [execOp, ho, hx, hy, hv]
  simp only [Instr.entryStore, Sem.run_bind, Result.andThen_ok, Sem.run_map]
  rw [hg]
  simp only [Result.andThen_ok, mpO, Sem.run_bind, asInt, asIntOf, Sem.run_pure, hj2, hset, toE_modval]
end
end Go.Tg

