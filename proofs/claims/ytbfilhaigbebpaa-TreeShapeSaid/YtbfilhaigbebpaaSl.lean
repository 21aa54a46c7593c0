/- Slices of rows of cells, what is frozen, calls whose results stay frozen, and slices that are built. -/
import Derived.Test.YtbfilhaigbebpaaByt
set_option linter.unusedVariables false
set_option linter.unusedSimpArgs false
namespace Go.Tg
open Go

structure Sl (h : FH) (sz : Nat) (a : Option Addr) (c : Nat) (rows : List (List Value)) : Prop where
  rd : RdC h a rows.flatten
  sz : ∀ r, r ∈ rows → r.length = sz
  le : rows.length ≤ c
  mx : c ≤ maxLen
  nn : a = none → c = 0
theorem rows_len {sz : Nat} : ∀ {rows : List (List Value)}, (∀ r, r ∈ rows → r.length = sz) → rows.flatten.length = rows.length * sz
  | [], _ => by simp
  | r :: rows, h => by
    rw [List.flatten_cons, List.length_append, h r (by simp), rows_len fun x hx => h x (by simp [hx]), List.length_cons, Nat.succ_mul]; omega
theorem rows_drop {sz : Nat} : ∀ {rows : List (List Value)} (n : Nat), (∀ r, r ∈ rows → r.length = sz) → rows.flatten.drop (n * sz) = (rows.drop n).flatten
  | rows, 0, _ => by simp
  | [], n + 1, _ => by simp
  | r :: rows, n + 1, h => by
    rw [List.flatten_cons, Nat.succ_mul, Nat.add_comm, ← List.drop_drop, List.drop_left' (h r (by simp)), List.drop_succ_cons]
    exact rows_drop n fun x hx => h x (by simp [hx])
theorem rows_take {sz : Nat} : ∀ {rows : List (List Value)} (n : Nat), (∀ r, r ∈ rows → r.length = sz) → rows.flatten.take (n * sz) = (rows.take n).flatten
  | rows, 0, _ => by simp
  | [], n + 1, _ => by simp
  | r :: rows, n + 1, h => by
    have hr := h r (by simp)
    rw [List.flatten_cons, Nat.succ_mul, Nat.add_comm, List.take_append, List.take_of_length_le (by omega), hr, Nat.add_sub_cancel_left, List.take_succ_cons, List.flatten_cons]
    rw [rows_take n fun x hx => h x (by simp [hx])]
theorem rows_at {sz : Nat} {rows : List (List Value)} (h : ∀ r, r ∈ rows → r.length = sz) {j : Nat} (hj : j < rows.length) : (rows.flatten.drop (j * sz)).take sz = rows[j] := by
  rw [rows_drop j h, List.drop_eq_getElem_cons hj, List.flatten_cons]
  exact List.take_left' (h _ (List.getElem_mem hj))
theorem Sl.nil (h : FH) (sz : Nat) : Sl h sz none 0 [] := ⟨RdC.nil _ _, by simp, by simp, Nat.zero_le _, fun _ => rfl⟩
theorem Sl.mono {h h' : FH} {sz : Nat} {a : Option Addr} {c : Nat} {rows : List (List Value)} (hle : FLe h h') (r : Sl h sz a c rows) : Sl h' sz a c rows := ⟨r.rd.mono hle, r.sz, r.le, r.mx, r.nn⟩
theorem Sl.full {ws w : World} {S : List Nat} {h0 h : FH} {L : List HA} {sz : Nat} {a : Option Addr} {c : Nat} {rows : List (List Value)} (r : Sl h sz a c rows) (H : St ws S h0 h L w) : Sl (full w) sz a c rows := r.mono H.sat.le
theorem Sl.get {h : FH} {sz : Nat} {a : Option Addr} {c : Nat} {rows : List (List Value)} (r : Sl h sz a c rows) (hs : 0 < sz) {i : Nat} (hi : i < rows.length) :
    ∃ b off l T fr, a = some ⟨b, off, none⟩ ∧ h b = some (.cells (List.toArray l) T fr) ∧ ∀ j (hj : j < rows.length), (l.drop (off + j * sz)).take sz = rows[j] := by
  have hlen := rows_len r.sz
  rcases r.rd with h0 | ⟨b, off, l, T, fr, h1, h2, h3⟩
  · exfalso
    rw [h0] at hlen
    have : 1 * 1 ≤ rows.length * sz := Nat.mul_le_mul (by omega) hs
    simp at hlen; omega
  · refine ⟨b, off, l, T, fr, h1, h2, fun j hj => ?_⟩
    rw [← rows_at r.sz hj, ← h3, List.drop_take, List.take_take, List.drop_drop]
    have : j * sz + sz ≤ rows.length * sz := by rw [← Nat.succ_mul]; exact Nat.mul_le_mul_right _ hj
    rw [Nat.min_eq_left (by omega)]
theorem row_cell {l : List Value} {o sz : Nat} {row : List Value} (h : (l.drop o).take sz = row) {q : Nat} (hq : q < row.length) : l[o + q]? = row[q]? := by
  have hl : row.length ≤ sz := by rw [← h]; simp; omega
  rw [← h, List.getElem?_take, if_pos (by omega), List.getElem?_drop]
theorem Sl.take {h : FH} {sz : Nat} {a : Option Addr} {c : Nat} {rows : List (List Value)} (r : Sl h sz a c rows) (n : Nat) : Sl h sz a c (rows.take n) := by
  have := r.le
  refine ⟨?_, fun x hx => r.sz x (List.mem_of_mem_take hx), by simp; omega, r.mx, r.nn⟩
  rw [← rows_take n r.sz]; exact r.rd.take _
theorem Sl.drop {h : FH} {sz : Nat} {a : Option Addr} {c : Nat} {rows : List (List Value)} (r : Sl h sz a c rows) {n : Nat} (hn : n ≤ rows.length) : Sl h sz (if c = n then a else a.map (·.add (n * sz))) (c - n) (rows.drop n) := by
  have hl := r.le
  have hm := r.mx
  refine ⟨?_, fun x hx => r.sz x (List.mem_of_mem_drop hx), by simp; omega, by omega, fun h => ?_⟩
  · by_cases he : c = n
    · rw [if_pos he, List.drop_eq_nil_of_le (by omega)]; exact RdC.nil _ _
    · rw [if_neg he, ← rows_drop n r.sz]; exact r.rd.drop _
  · by_cases he : c = n
    · omega
    · rw [if_neg he] at h
      cases a with
      | none => have := r.nn rfl; omega
      | some ad => cases h
theorem Sl.empty {h : FH} {sz c : Nat} {rows : List (List Value)} (r : Sl h sz none c rows) : rows = [] ∧ c = 0 := by
  have := r.nn rfl; have := r.le
  exact ⟨List.eq_nil_of_length_eq_zero (by omega), by omega⟩

section
variable {ws w w' : World} {S : List Nat} {h0 h : FH} {L : List HA}
abbrev ownR (v : Value) (e : TypeId) (sz : Nat) (rows : List (List Value)) : HA := .own v e sz rows.length rows.flatten
theorem own_Sl' {hh : FH} {v : Value} {e : TypeId} {sz n : Nat} {rows : List (List Value)} (hk : ∀ k, k ∈ v.ownBlock.toList → hh k = w.heap[k]?) (h : w.ownsRow 0 e sz v n rows.flatten) (hn : n = rows.length) (hr : ∀ r, r ∈ rows → r.length = sz) : ∃ a c, v = .slice a rows.length c ∧ Sl hh sz a c rows := by
  obtain ⟨a, c, h1, h2, h3, h4, h5⟩ := own_rd' hk h
  subst hn
  exact ⟨a, c, h1, h4, hr, h2, h3, fun h => (h5 h).2⟩
theorem St.ownSl (H : St ws S h0 h L w) {i : Nat} {v : Value} {e : TypeId} {sz : Nat} {rows : List (List Value)} (hi : L[i]? = some (ownR v e sz rows)) (hr : ∀ r, r ∈ rows → r.length = sz) : ∃ a c, v = .slice a rows.length c ∧ Sl (full w) sz a c rows :=
  own_Sl' (fun _ _ => rfl) (H.ok i _ hi) rfl hr
theorem St.freezeR {e : TypeId} {v : Value} {sz : Nat} {rows : List (List Value)} (H : St ws S h0 h (ownR v e sz rows :: L) w) (hr : ∀ r, r ∈ rows → r.length = sz) : ∃ a c h', v = .slice a rows.length c ∧ FLe h h' ∧ Sl h' sz a c rows ∧ St ws S h0 h' L w := by
  obtain ⟨h1, h2⟩ := H.freeze
  obtain ⟨a, c, e1, hb⟩ := own_Sl' (fun k hk => frz_in hk) (H.ok 0 _ rfl) rfl hr
  exact ⟨a, c, _, e1, h1, hb, h2⟩
theorem St.freezeB {b : Nat} {o : Obj} (H : St ws S h0 h (.blk b o :: L) w) : ∃ h', FLe h h' ∧ h' b = some o ∧ St ws S h0 h' L w := by
  obtain ⟨h1, h2⟩ := H.freeze
  exact ⟨_, h1, (frz_in (by simp [HA.fp])).trans (H.ok 0 _ rfl), h2⟩

theorem St.call1h {h' : FH} {L' : List HA} {i : Nat} {A : HA} (H : St ws S h0 h L w) (hi : L[i]? = some A) (C : St w A.fp h h' L' w') : St ws S h0 h' (L' ++ L.eraseIdx i) w' ∧ FLe h h' := by
  have H1 := H.call1 hi (FLe.refl h) C
  have hle : FLe h h' := fun k o e => by
    rw [C.gr k (lt_of_some (H.sat k o e)) (fun hA => by rw [(H.own i A hi k hA).1] at e; cases e)]; exact e
  refine ⟨⟨H1.fr, C.sat, H1.ok, H1.ap, fun j B hj k hk => ⟨?_, (H1.own j B hj k hk).2⟩, fun k hk hS => ?_⟩, hle⟩
  · rcases (by
      by_cases hl : j < L'.length
      · rw [List.getElem?_append_left hl] at hj; exact .inl hj
      · rw [List.getElem?_append_right (by omega)] at hj; exact .inr hj : L'[j]? = some B ∨ (L.eraseIdx i)[j - L'.length]? = some B) with h1 | h1
    · exact (C.own j B h1 k hk).1
    · rw [List.getElem?_eraseIdx] at h1
      obtain ⟨m, hm, hB⟩ : ∃ m, m ≠ i ∧ L[m]? = some B := by
        split at h1
        · exact ⟨_, by omega, h1⟩
        · exact ⟨_, by omega, h1⟩
      rw [C.gr k (H.lt hB k hk) (fun hA => H.ap i m A B (Ne.symm hm) hi hB k hA hk)]
      exact (H.own m B hB k hk).1
  · rw [C.gr k (Nat.lt_of_lt_of_le hk H.fr.size) (fun hA => by
      rcases (H.own i A hi k hA).2 with h | h
      · exact hS h
      · omega)]
    exact H.gr k hk hS
end

section
variable {P : Program} {o : Oper} {s : Env} {w : World} {K : Value → World → Prop} {ws : World} {S : List Nat} {h0 h : FH} {L : List HA}
theorem ost_H {f : Nat} {args : List Operand} {at_ : Array TypeId} {vs : List Value} {R : Value → FH → List HA → Prop} {i : Nat} {A : HA} [Fun P f] (H : St ws S h0 h L w) (ho : o.op = .call { callee := .value (.func f), args := args.toArray, argTypes := at_ })
    (hi : L[i]? = some A) (hC : St w A.fp h h [A] w → Spec P f vs.toArray w A.fp h R) (hv : mapEv s args = vs) (hk : ∀ v w' h' L', R v h' L' → FLe h h' → St ws S h0 h' (L' ++ L.eraseIdx i) w' → K v w') : Ost P o s w K :=
  ost_call ho (hC (H.give hi H.sat fun k hk => (H.own i A hi k hk).1)) hv fun v w' ⟨h', L', hs, hR⟩ => by
    obtain ⟨h1, h2⟩ := H.call1h hi hs
    exact hk v w' h' L' hR h2 h1
theorem ost_Sk {f : Nat} {args : List Operand} {at_ : Array TypeId} {vs : List Value} {R : Value → FH → List HA → Prop} [Fun P f] (H : St ws S h0 h L w) (ho : o.op = .call { callee := .value (.func f), args := args.toArray, argTypes := at_ })
    (hC : Spec P f vs.toArray w [] h R) (hv : mapEv s args = vs) (hk : ∀ v w' h' L', R v h' L' → FLe h h' → St ws S h0 h' (L' ++ L) w' → K v w') : Ost P o s w K :=
  ost_S H ho hC hv fun v w' h' L' hR H' hle => hk v w' h' L' hR hle H'

-- slices that are built
inductive RowsOf : Nat → List (Nat × Value) → List (List Value) → Prop
  | nil {k : Nat} : RowsOf k [] []
  | cons {k : Nat} {v : Value} {r : List Value} {vs : List (Nat × Value)} {rows : List (List Value)} (hv : v.cells = r.toArray) (h : RowsOf (k + 1) vs rows) : RowsOf k ((k, v) :: vs) (r :: rows)
theorem RowsOf.len {k : Nat} {vs : List (Nat × Value)} {rows : List (List Value)} (h : RowsOf k vs rows) : vs.length = rows.length := by
  induction h with
  | nil => rfl
  | cons _ _ ih => simp [ih]
theorem setMany_app : ∀ (cs pre old post : List Value), old.length = cs.length → setMany (pre ++ (old ++ post)) pre.length cs = pre ++ (cs ++ post)
  | [], pre, old, post, h => by
    have : old = [] := List.eq_nil_of_length_eq_zero h
    subst this; rfl
  | c :: cs, pre, [], post, h => by simp at h
  | c :: cs, pre, x :: old, post, h => by
    have e : (pre ++ (x :: old ++ post)).set pre.length c = (pre ++ [c]) ++ (old ++ post) := by
      rw [List.set_append_right _ _ (by omega)]; simp
    have := setMany_app cs (pre ++ [c]) old post (by simpa using h)
    rw [setMany, e]
    rw [List.length_append, List.length_singleton] at this
    rw [this]; simp
theorem fill_rows {sz : Nat} {k : Nat} {vs : List (Nat × Value)} {rows : List (List Value)} (h : RowsOf k vs rows) : ∀ (pre old : List Value), pre.length = k * sz → old.length = rows.length * sz → (∀ r, r ∈ rows → r.length = sz) →
    Instr.fill (fun i => some (i * sz, sz)) (pre ++ old).toArray vs = some (pre ++ rows.flatten).toArray := by
  induction h with
  | nil =>
    intro pre old _ h2 _
    have : old = [] := List.eq_nil_of_length_eq_zero (by simpa using h2)
    subst this; rfl
  | @cons k v r vs rows hv _ ih =>
    intro pre old h1 h2 h3
    have hr := h3 r (by simp)
    rw [List.length_cons, Nat.succ_mul] at h2
    unfold Instr.fill
    simp only [hv]
    rw [if_neg (by simp only [List.size_toArray, List.length_append, hr, ne_eq, not_true, decide_false, Bool.false_or, decide_eq_true_eq, Bool.or_eq_true, false_or, gt_iff_lt]; omega)]
    have e : (r.toArray.zipIdx.foldl (fun (cs : Array Value) x => cs.setIfInBounds (k * sz + x.2) x.1) (pre ++ old).toArray) = (pre ++ (r ++ old.drop sz)).toArray := by
      have := setMany_eq r (pre ++ old) (k * sz) 0
      rw [Nat.add_zero] at this
      rw [← Array.foldl_toList]
      have e2 : r.toArray.zipIdx.toList = r.zipIdx := by simp
      rw [e2, this]
      congr 1
      have e3 : old = old.take sz ++ old.drop sz := (List.take_append_drop sz old).symm
      rw [e3, ← h1, setMany_app r pre (old.take sz) (old.drop sz) (by simp; omega)]
      simp
    show Instr.fill _ (r.toArray.zipIdx.foldl (fun (cs : Array Value) x => cs.setIfInBounds (k * sz + x.2) x.1) (pre ++ old).toArray) vs = _
    rw [e]
    have := ih (pre ++ r) (old.drop sz) (by rw [List.length_append, h1, hr, Nat.succ_mul]) (by simp; omega) fun x hx => h3 x (by simp [hx])
    rw [List.append_assoc, List.append_assoc] at this
    rw [List.flatten_cons]; exact this
theorem ost_buildR {t e : TypeId} {sz bytes sz' bytes' len : Nat} {z z' : Value} {d : TypeDesc} {parts : List (Nat × Operand)} {vs : List (Nat × Value)} {rows : List (List Value)} [Ty P t (.slice e) sz' bytes' z'] [hE : Ty P e d sz bytes z]
    (H : St ws S h0 h L w) (ho : o.op = .buildSlice t len parts.toArray) (hsz : 0 < sz) (hlen : Nat.ble (len * sz) 100000 = true) (hz : z.cells.size = sz) (hv : evP s parts = vs) (hr : RowsOf 0 vs rows) (hl : rows.length = len) (hrs : ∀ r, r ∈ rows → r.length = sz)
    (hk : ∀ b w', St ws S h0 h (ownR (.slice (some ⟨b, 0, none⟩) len len) e sz rows :: L) w' → K (.slice (some ⟨b, 0, none⟩) len len) w') : Ost P o s w K := by
  have hlen : len * sz ≤ 100000 := by simpa using hlen
  have hfl := rows_len hrs
  have hrun : (Instr.buildSlice t len vs.toArray).run P w = .ok (.slice (some ⟨w.heap.size, 0, none⟩) len len) (w.alloc (.cells rows.flatten.toArray e)) := by
    unfold Instr.buildSlice
    simp only [Sem.run_bind, Ty.run_und, Result.andThen_ok, Ty.run_size]
    rw [if_neg (show ¬ len * sz > 2 ^ 24 by omega)]
    rcases Nat.eq_zero_or_pos len with h0 | h0
    · subst h0
      have : rows = [] := List.eq_nil_of_length_eq_zero hl
      subst this
      have : vs = [] := List.eq_nil_of_length_eq_zero (by simpa using hr.len)
      subst this
      rw [if_pos (by simp)]
      simp [Instr.fill, newRow]
      rw [show Array.map (fun _ => (default : Value)) (Array.range 0) = #[] from by apply Array.ext <;> simp]
    · have hp : 0 < len * sz := Nat.mul_pos h0 hsz
      rw [if_neg (show ¬ len * sz = 0 by omega)]
      obtain ⟨zs, hzs, hzl⟩ : ∃ zs : List Value, ((Array.range (len * sz)).map fun x => z.cells[x % z.cells.size]!) = zs.toArray ∧ zs.length = len * sz := ⟨((Array.range (len * sz)).map fun x => z.cells[x % z.cells.size]!).toList, Array.toArray_toList.symm, by simp⟩
      have := fill_rows (sz := sz) hr [] zs (by simp) (by rw [hzl, hl]) hrs
      simp only [List.nil_append] at this
      simp only [Sem.run_bind, Ty.run_zero, Result.andThen_ok, Sem.run_pure, hzs, this]
      rfl
  refine .val (v := .slice (some ⟨w.heap.size, 0, none⟩) len len) (w' := w.alloc (.cells rows.flatten.toArray e)) ?_ (hk _ _ ?_)
  · simp only [execOp, ho, evP_eq, hv, Sem.run_bind, hrun]; rfl
  · subst hl
    have h2 : rows.length * 1 ≤ rows.length * sz := Nat.mul_le_mul_left _ hsz
    have := (H.alloc (.cells rows.flatten.toArray e)).blkOwn (i := 0) (n := rows.length) (sz := sz) rfl hfl (by simp only [maxLen]; omega)
    exact this
theorem ost_appR {x y : Operand} {t e : TypeId} {sz bytes sz' bytes' i j b : Nat} {z z' v : Value} {d : TypeDesc} {rows : List (List Value)} {row : List Value} [Ty P t (.slice e) sz' bytes' z'] [hE : Ty P e d sz bytes z]
    (H : St ws S h0 h L w) (ho : o.op = .call { callee := .builtin .append, args := [x, y].toArray, argTypes := #[t, t] }) (hy : ev s y = .slice (some ⟨b, 0, none⟩) 1 1) (hx : ev s x = v) (hi : L[i]? = some (ownR v e sz rows))
    (hj : L[j]? = some (ownR (.slice (some ⟨b, 0, none⟩) 1 1) e sz [row])) (hz : z.cells.size = sz) (hsz : 0 < sz) (hrl : row.length = sz) (h1 : ∀ u ∈ row, u.oneCell' = true) (hb : Nat.ble bytes 1000 = true) (hn : rows.length ≤ 1000000000)
    (hk : ∀ a' c' w', St ws S h0 h (L.set i (ownR (.slice a' (rows ++ [row]).length c') e sz (rows ++ [row]))) w' → K (.slice a' (rows ++ [row]).length c') w') : Ost P o s w K := by
  obtain ⟨a, c, e1, hS⟩ := H.ownSl hj (by simpa using hrl)
  injection e1 with e1 e2 e3
  subst e1; subst e3
  have hrd := hS.rd
  have hb' : bytes ≤ 1000 := by simpa using hb
  simp only [List.flatten_cons, List.flatten_nil, List.append_nil] at hrd
  refine ost_append H ho hy hx hi hz hsz hrd (by rw [hrl]; simp) (fun h => by cases h) h1 ?_ (by simp only [maxLen]; omega) fun a' c' w' H' => ?_
  · calc (rows.length + 1) * bytes ≤ 1000000001 * 1000 := Nat.mul_le_mul (by omega) hb'
      _ ≤ 140737488355328 := by decide
  · have e2 : (rows ++ [row]).length = rows.length + 1 := by simp
    have e3 : (rows ++ [row]).flatten = rows.flatten ++ row := by simp
    have := hk a' c' w'
    rw [e2] at this
    unfold ownR at this
    rw [e2, e3] at this
    exact this H'
theorem ost_appRs {x y : Operand} {t e : TypeId} {sz bytes sz' bytes' i c : Nat} {a : Option Addr} {z z' v : Value} {d : TypeDesc} {rows more : List (List Value)} [Ty P t (.slice e) sz' bytes' z'] [hE : Ty P e d sz bytes z]
    (H : St ws S h0 h L w) (ho : o.op = .call { callee := .builtin .append, args := [x, y].toArray, argTypes := #[t, t] }) (hy : ev s y = .slice a more.length c) (hx : ev s x = v) (hi : L[i]? = some (ownR v e sz rows))
    (hr : Sl (full w) sz a c more) (hz : z.cells.size = sz) (hsz : 0 < sz) (h1 : ∀ u ∈ more.flatten, u.oneCell' = true) (hb : Nat.ble bytes 1000 = true) (hn : rows.length + more.length ≤ 1000000000)
    (hk : ∀ a' c' w', St ws S h0 h (L.set i (ownR (.slice a' (rows ++ more).length c') e sz (rows ++ more))) w' → K (.slice a' (rows ++ more).length c') w') : Ost P o s w K := by
  have hb' : bytes ≤ 1000 := by simpa using hb
  refine ost_append H ho hy hx hi hz hsz hr.rd (rows_len hr.sz) hr.nn h1 ?_ (by simp only [maxLen]; omega) fun a' c' w' H' => ?_
  · calc (rows.length + more.length) * bytes ≤ 1000000001 * 1000 := Nat.mul_le_mul (by omega) hb'
      _ ≤ 140737488355328 := by decide
  · have e2 : (rows ++ more).length = rows.length + more.length := by simp
    have e3 : (rows ++ more).flatten = rows.flatten ++ more.flatten := by simp
    have := hk a' c' w'
    rw [e2] at this
    unfold ownR at this
    rw [e2, e3] at this
    exact this H'
end
-- what a call hands back inside a region that draws its order
def BSv (h : FH) (v : Value) (xs : List UInt8) : Prop := ∃ a c, v = .slice a xs.length c ∧ BS h a c xs
theorem BSv.mono {h h' : FH} {v : Value} {xs : List UInt8} (hle : FLe h h') (r : BSv h v xs) : BSv h' v xs := by
  obtain ⟨a, c, e, r⟩ := r; exact ⟨a, c, e, r.mono hle⟩
section
variable {P : Program} {o : Oper} {s : Env} {w : World} {K : Value → World → Prop}
theorem ost_streqD {t u : TypeId} {x y : Operand} {a b : List UInt8} {q : Bool} (ho : o.op = .binOp .eql t x y u) (hx : ev s x = .string (bstr a)) (hy : ev s y = .string (bstr b)) (hq : q = true ↔ a = b) (hk : K (.bool q) w) : Ost P o s w K :=
  ost_streq ho hx hy (fun h => by rw [hq.2 (bstr_inj.1 h)] at hk; exact hk) (fun h => by
    have : q = false := by cases q with | false => rfl | true => exact absurd (bstr_inj.2 (hq.1 rfl)) h
    rw [this] at hk; exact hk)
theorem ost_strneD {t u : TypeId} {x y : Operand} {a b : List UInt8} {q : Bool} (ho : o.op = .binOp .neq t x y u) (hx : ev s x = .string (bstr a)) (hy : ev s y = .string (bstr b)) (hq : q = true ↔ a ≠ b) (hk : K (.bool q) w) : Ost P o s w K :=
  ost_strne ho hx hy (fun h => by rw [hq.2 (fun e => h (bstr_inj.2 e))] at hk; exact hk) (fun h => by
    have : q = false := by cases q with | false => rfl | true => exact absurd (bstr_inj.1 h) (hq.1 rfl)
    rw [this] at hk; exact hk)
end
section
variable {P : Program} {o : Oper} {s : Env} {w : World} {K : Value → World → Prop} {ws : World} {S : List Nat} {h0 h : FH} {L : List HA}
end
section
variable {P : Program} {o : Oper} {s : Env} {w : World} {K : Value → World → Prop} {ws : World} {S : List Nat} {h0 h : FH} {L : List HA}
theorem bstr_app (a b : List UInt8) : bstr a ++ bstr b = bstr (a ++ b) := by
  have : (bstr a ++ bstr b).data = (bstr (a ++ b)).data := by rw [ByteArray.data_append]; simp [bstr]
  cases h : bstr a ++ bstr b; rw [h] at this; simp only [bstr] at this ⊢; rw [← this]
theorem bstr_size (a : List UInt8) : (bstr a).size = a.length := by simp [bstr, ByteArray.size]
theorem ost_straddB {t u : TypeId} {x y : Operand} {a b : List UInt8} (ho : o.op = .binOp .add t x y u) (hx : ev s x = .string (bstr a)) (hy : ev s y = .string (bstr b)) (hn : a.length + b.length ≤ 9223372036854775807)
    (hk : K (.string (bstr (a ++ b))) w) : Ost P o s w K :=
  ost_stradd ho hx hy (by rw [bstr_size, bstr_size]; exact hn) (by rw [bstr_app]; exact hk)
theorem St.ownBlk (H : St ws S h0 h L w) {i n c : Nat} {a : Option Addr} {e : TypeId} {sz : Nat} {xs : List Value} (hi : L[i]? = some (.own (.slice a n c) e sz n xs)) (hn : 0 < n) :
    ∃ g cur, a = some ⟨g, 0, none⟩ ∧ n ≤ c ∧ cur.length = c * sz ∧ cur.take (n * sz) = xs ∧ St ws S h0 h (L.set i (.blk g (.cells (List.toArray cur) e (0, 0)))) w := by
  obtain ⟨h1, h2⟩ := H.ok i _ hi
  rcases h2 with ⟨h2, h3⟩ | ⟨g, cap, cur, h2, _, hg, hnc, hm, hs, ht⟩
  · omega
  · cases h2
    refine ⟨g, cur.toList, rfl, hnc, by simpa using hs, ht, H.repl hi (Fr.refl _ _) (by show w.heap[g]? = _; simpa using hg) (by simp [HA.fp, Value.ownBlock])⟩
end
theorem St.ownRdC {ws w : World} {S : List Nat} {h0 h : FH} {L : List HA} (H : St ws S h0 h L w) {i n c : Nat} {a : Option Addr} {e : TypeId} {sz : Nat} {xs : List Value} (hi : L[i]? = some (.own (.slice a n c) e sz n xs)) : RdC (full w) a xs := by
  obtain ⟨a', c', h1, _, _, h4, _⟩ := H.ownRd hi
  injection h1 with h1 _ _
  subst h1; exact h4
end Go.Tg

