/- Slices: what a slice reads as, appending, slicing, bytes and strings. -/
import Derived.Test.YtbfilhaigbebpaaDoorOps2
import Derived.Lib.ConvBytes
import Derived.Lib.AppendZeros
set_option linter.unusedVariables false
set_option linter.unusedSimpArgs false
namespace Go.Tg
open Go

def RdC (h : FH) (a : Option Addr) (cs : List Value) : Prop :=
  cs = [] ∨ ∃ b off l T fr, a = some ⟨b, off, none⟩ ∧ h b = some (.cells (List.toArray l) T fr) ∧ (l.drop off).take cs.length = cs
theorem RdC.nil (h : FH) (a : Option Addr) : RdC h a [] := .inl rfl
theorem RdC.mono {h h' : FH} {a : Option Addr} {cs : List Value} (hle : FLe h h') (r : RdC h a cs) : RdC h' a cs := by
  rcases r with r | ⟨b, off, l, T, fr, h1, h2, h3⟩
  · exact .inl r
  · exact .inr ⟨b, off, l, T, fr, h1, hle _ _ h2, h3⟩
theorem RdC.take {h : FH} {a : Option Addr} {cs : List Value} (r : RdC h a cs) (n : Nat) : RdC h a (cs.take n) := by
  rcases r with rfl | ⟨b, off, l, T, fr, h1, h2, h3⟩
  · simp [RdC.nil]
  · refine .inr ⟨b, off, l, T, fr, h1, h2, ?_⟩
    conv => rhs; rw [← h3]
    rw [List.length_take, List.take_take]
theorem RdC.drop {h : FH} {a : Option Addr} {cs : List Value} (r : RdC h a cs) (n : Nat) : RdC h (a.map (·.add n)) (cs.drop n) := by
  rcases r with rfl | ⟨b, off, l, T, fr, h1, h2, h3⟩
  · simp [RdC.nil]
  · refine .inr ⟨b, off + n, l, T, fr, by rw [h1, Option.map_some, cell_add], h2, ?_⟩
    conv => rhs; rw [← h3]
    rw [List.drop_take, List.drop_drop, List.length_drop]
theorem RdC.get {h : FH} {a : Option Addr} {cs : List Value} (r : RdC h a cs) {i : Nat} (hi : i < cs.length) :
    ∃ b off l T fr, a = some ⟨b, off, none⟩ ∧ h b = some (.cells (List.toArray l) T fr) ∧ (∀ j, j < cs.length → l[off + j]? = cs[j]?) := by
  rcases r with rfl | ⟨b, off, l, T, fr, h1, h2, h3⟩
  · simp at hi
  · refine ⟨b, off, l, T, fr, h1, h2, fun j hj => ?_⟩
    conv => rhs; rw [← h3]
    rw [List.getElem?_take, if_pos hj, List.getElem?_drop]
theorem RdC.cells {w : World} {a : Option Addr} {cs : List Value} (r : RdC (full w) a cs) {ad : Addr} (ha : a = some ad) : ∀ j u, cs[j]? = some u → w.cell? (ad.add j) = some u := by
  intro j u hu
  have hj : j < cs.length := (List.getElem?_eq_some_iff.1 hu).1
  obtain ⟨b, off, l, T, fr, h1, h2, h3⟩ := r.get hj
  rw [h1] at ha; cases ha
  rw [cell_add, cell_of_row w b _ l.toArray T fr h2]
  simpa [h3 j hj] using hu
theorem RdC.some {h : FH} {a : Option Addr} {cs : List Value} (r : RdC h a cs) (hc : cs ≠ []) : a.isSome = true := by
  rcases r with r | ⟨b, off, l, T, fr, h1, h2, h3⟩
  · exact absurd r hc
  · rw [h1]; rfl

section
variable {ws w w' : World} {S : List Nat} {h0 h : FH} {L : List HA}
theorem St.rd (H : St ws S h0 h L w) {a : Option Addr} {cs : List Value} (r : RdC h a cs) : RdC (full w) a cs := r.mono H.sat.le
theorem own_rd' {hh : FH} {v : Value} {e : TypeId} {sz n : Nat} {cs : List Value} (hk : ∀ k, k ∈ v.ownBlock.toList → hh k = w.heap[k]?) (h : w.ownsRow 0 e sz v n cs) : ∃ a c, v = .slice a n c ∧ n ≤ c ∧ c ≤ maxLen ∧ RdC hh a cs ∧ (a = none → n = 0 ∧ c = 0) := by
  rcases h.2 with ⟨rfl, rfl⟩ | ⟨g, cap, cur, rfl, _, hg, hnc, hcm, hcs, htake⟩
  · have : cs = [] := List.eq_nil_of_length_eq_zero (by simpa using h.1)
    exact ⟨none, 0, rfl, Nat.le_refl _, Nat.zero_le _, .inl this, fun _ => ⟨rfl, rfl⟩⟩
  · refine ⟨_, _, rfl, hnc, hcm, .inr ⟨g, 0, cur.toList, e, (0, 0), rfl, ?_, ?_⟩, fun h => by cases h⟩
    · rw [hk g (by simp [Value.ownBlock])]; simpa using hg
    · rw [List.drop_zero, h.1]; exact htake
theorem own_rd {v : Value} {e : TypeId} {sz n : Nat} {cs : List Value} (h : w.ownsRow 0 e sz v n cs) : ∃ a c, v = .slice a n c ∧ n ≤ c ∧ c ≤ maxLen ∧ RdC (full w) a cs ∧ (a = none → n = 0 ∧ c = 0) :=
  own_rd' (fun _ _ => rfl) h
theorem St.lessEq (H : St ws S h0 h L w) {i j : Nat} {A B : HA} (hi : L[i]? = some A) (hj : L[j]? = some B) (hij : i ≠ j) : ∀ k, k ∈ B.fp → Go.Tg.less w A.fp k = w.heap[k]? := fun k hk => by
  have : k ∉ A.fp := fun hA => H.ap i j A B hij hi hj k hA hk
  simp [Go.Tg.less, this]
theorem St.lessOwn (H : St ws S h0 h L w) {i j : Nat} {A : HA} {v : Value} {e : TypeId} {sz n : Nat} {cs : List Value} (hi : L[i]? = some A) (hj : L[j]? = some (.own v e sz n cs)) (hij : i ≠ j) :
    ∃ a c, v = .slice a n c ∧ n ≤ c ∧ c ≤ maxLen ∧ RdC (Go.Tg.less w A.fp) a cs ∧ (a = none → n = 0 ∧ c = 0) := own_rd' (H.lessEq hi hj hij) (H.ok j _ hj)
theorem St.ownRd (H : St ws S h0 h L w) {i : Nat} {v : Value} {e : TypeId} {sz n : Nat} {cs : List Value} (hi : L[i]? = some (.own v e sz n cs)) : ∃ a c, v = .slice a n c ∧ n ≤ c ∧ c ≤ maxLen ∧ RdC (full w) a cs ∧ (a = none → n = 0 ∧ c = 0) :=
  own_rd (H.ok i _ hi)
theorem St.nilOwn (H : St ws S h0 h L w) (e : TypeId) (sz : Nat) : St ws S h0 h (.own (.slice none 0 0) e sz 0 [] :: L) w :=
  H.cons (Fr.refl _ _) (World.ownsRow_nil w 0 e sz) (by simp [HA.fp, Value.ownBlock])
theorem St.blkOwn (H : St ws S h0 h L w) {i b : Nat} {l : List Value} {e : TypeId} {sz n : Nat} (hi : L[i]? = some (.blk b (.cells l.toArray e (0, 0)))) (hl : l.length = n * sz) (hm : n ≤ maxLen) :
    St ws S h0 h (L.set i (.own (.slice (some ⟨b, 0, none⟩) n n) e sz n l)) w :=
  H.repl hi (Fr.refl _ _) ⟨hl, .inr ⟨b, n, l.toArray, rfl, Nat.zero_le _, H.blk hi, Nat.le_refl _, hm, by simpa using hl, by simp [← hl]⟩⟩ (by simp [HA.fp, Value.ownBlock])
end

section
variable {P : Program} {o : Oper} {s : Env} {w : World} {K : Value → World → Prop} {ws : World} {S : List Nat} {h0 h : FH} {L : List HA}
theorem fr_grown {w w' : World} {v : Value} (h : w.grownBy w' v.ownBlock) : Fr v.ownBlock.toList w w' :=
  ⟨h.os, h.tape, h.output, h.size, fun k hk hS => h.block k hk (fun e => hS (by rw [← e]; simp))⟩
theorem run_append {t ty e : TypeId} {sz bytes sz' bytes' : Nat} {z z' : Value} {d : TypeDesc} [Ty P t (.slice e) sz' bytes' z'] [hE : Ty P e d sz bytes z] (hz : z.cells.size = sz) (hsz : 0 < sz)
    {v : Value} {n : Nat} {xs : List Value} (hown : w.ownsRow 0 e sz v n xs) {a : Option Addr} {m c : Nat} {news : List Value} (hl : news.length = m * sz) (hr : RdC (full w) a news) (hna : a = none → c = 0) (h1 : ∀ u ∈ news, u.oneCell' = true) (hb : (n + m) * bytes ≤ 140737488355328) (hm : n + m ≤ maxLen) :
    ∃ v' w', (Builtin.append_ #[t, t] ty #[v, .slice a m c]).run P w = .ok v' w' ∧ w'.ownsRow 0 e sz v' (n + m) (xs ++ news) ∧ w.grownBy w' v.ownBlock ∧ (v'.ownBlock = v.ownBlock ∨ (∃ k, v'.ownBlock = some k ∧ w.heap.size ≤ k)) := by
  obtain ⟨i, hi, hi1, hi2, hi3⟩ := hE.inf
  cases a with
  | none =>
    have hm0 : m = 0 := by
      rcases hr with h | ⟨b, off, l, T, fr, h1', _⟩
      · rw [h] at hl
        have h0 : m * sz = 0 := hl.symm
        rcases Nat.mul_eq_zero.1 h0 with h | h <;> omega
      · cases h1'
    subst hm0
    have : news = [] := List.eq_nil_of_length_eq_zero (by simpa using hl)
    subst this
    have hc := hna rfl
    subst hc
    exact ⟨v, w, run_append_owned_none (P := P) w 0 t ty e i sz Ty.und hi v n xs hown, by simpa using hown, ⟨rfl, rfl, rfl, Nat.le_refl _, fun _ _ _ => rfl⟩, .inl rfl⟩
  | some ad =>
    have hnews := hr.cells rfl
    rcases hown.2 with ⟨rfl, rfl⟩ | ⟨g, cap, cur, rfl, hbg, hg, hnc, hcm, hcs, htake⟩
    · obtain ⟨v', w', h2, h3, h4, h5⟩ := run_append_own (P := P) w 0 t ty e i z sz bytes Ty.und hi hi3 hi1 hi2 hz hsz _ 0 xs hown ad m c news hl hnews h1 hm hb (Nat.zero_le _)
      refine ⟨v', w', h2, h3, h4, ?_⟩
      rcases h3.2 with ⟨rfl, _⟩ | ⟨g', cap', cur', rfl, _, hg', _⟩
      · exact .inl rfl
      · by_cases hlt : g' < w.heap.size
        · -- a nil slice does not come to own an old block
          exfalso
          obtain ⟨v2, w2, h6, h7, h8, h9⟩ := run_append_own (P := P) w w.heap.size t ty e i z sz bytes Ty.und hi hi3 hi1 hi2 hz hsz _ 0 xs ⟨hown.1, .inl ⟨rfl, rfl⟩⟩ ad m c news hl hnews h1 hm hb (Nat.le_refl _)
          rw [h2] at h6
          injection h6 with e1 e2
          subst e1; subst e2
          rcases h7.2 with ⟨h, _⟩ | ⟨g3, cap3, cur3, h, hge, _⟩
          · cases h
          · injection h with h _ _; injection h with h; injection h with h _; omega
        · exact .inr ⟨g', rfl, by omega⟩
    · by_cases hroom : n + m ≤ cap
      · obtain ⟨w', h2, h3, h4⟩ := run_append_fits (P := P) w 0 t ty e i sz Ty.und hi hi1 g n cap xs hown ad m c news hl hnews h1 hroom
        exact ⟨_, w', h2, h3, h4, .inl rfl⟩
      · obtain ⟨v', w', h2, h3, h4, h5⟩ := run_append_own (P := P) w 0 t ty e i z sz bytes Ty.und hi hi3 hi1 hi2 hz hsz _ n xs hown ad m c news hl hnews h1 hm hb (Nat.zero_le _)
        refine ⟨v', w', h2, h3, h4, ?_⟩
        have holds : ∀ j u, xs[j]? = some u → w.cell? ((⟨g, 0, none⟩ : Addr).add j) = some u := hown.cells (g := g) rfl
        have hg := run_append_grow (P := P) w t ty e i z Ty.und hi hi3 ⟨g, 0, none⟩ n cap xs (by rw [hi1]; exact hown.1) holds ad m c news (by rw [hi1]; exact hl) hnews (by omega) (by simp only [maxLen] at hm; omega) (growslice_fits (by omega) (by rw [hi2]; exact hb))
        rw [hg] at h2
        injection h2 with e1 e2
        exact .inr ⟨w.heap.size, by rw [← e1]; rfl, Nat.le_refl _⟩
theorem run_builtin {b : Builtin} {args : List Operand} {vs : List Value} {at_ : Array TypeId} {v : Value} {w' : World} {f : Array TypeId → TypeId → Array Value → Sem Value} (ho : o.op = .call { callee := .builtin b, args := args.toArray, argTypes := at_ }) (hv : mapEv s args = vs)
    (hb : ∀ ty c a, builtin b at_ ty c a = (do pure (.value (← f at_ ty a)) : Sem Next)) (hr : (f at_ o.type vs.toArray).run P w = .ok v w') : (execOp (ev s) o).run P w = .ok (.value v) w' := by
  simp only [execOp, ho, resolve, Sem.run_bind, Sem.run_pure, Result.andThen_ok, invoke, mapEv_eq, hv, hb, hr]
theorem ost_append {x y : Operand} {t e : TypeId} {sz bytes sz' bytes' : Nat} {z z' : Value} {d : TypeDesc} {i n m c : Nat} {v : Value} {xs news : List Value} {a : Option Addr} [Ty P t (.slice e) sz' bytes' z'] [hE : Ty P e d sz bytes z]
    (H : St ws S h0 h L w) (ho : o.op = .call { callee := .builtin .append, args := [x, y].toArray, argTypes := #[t, t] }) (hy : ev s y = .slice a m c) (hx : ev s x = v) (hi : L[i]? = some (.own v e sz n xs))
    (hz : z.cells.size = sz) (hsz : 0 < sz) (hr : RdC (full w) a news) (hl : news.length = m * sz) (hna : a = none → c = 0) (h1 : ∀ u ∈ news, u.oneCell' = true) (hb : (n + m) * bytes ≤ 140737488355328) (hm : n + m ≤ maxLen)
    (hk : ∀ a' c' w', St ws S h0 h (L.set i (.own (.slice a' (n + m) c') e sz (n + m) (xs ++ news))) w' → K (.slice a' (n + m) c') w') : Ost P o s w K := by
  have hown : w.ownsRow 0 e sz v n xs := H.ok i _ hi
  obtain ⟨v', w', h2, h3, h4, h5⟩ := run_append (P := P) (t := t) (ty := o.type) hz hsz hown hl hr hna h1 hb hm
  refine .val (v := v') (w' := w') (run_builtin ho (vs := [v, .slice a m c]) (by simp only [mapEv, hx, hy]) (fun ty c a => rfl) h2) ?_
  obtain ⟨a', c', e1, _⟩ := own_rd h3
  subst e1
  refine hk a' c' w' ?_
  refine H.repl hi (fr_grown h4) h3 (fun k hk' => ?_)
  simp only [HA.fp] at hk' ⊢
  rcases h5 with h5 | ⟨k', h5, h6⟩ <;> rw [h5] at hk'
  · exact .inl hk'
  · simp at hk'; exact .inr (by omega)
def setAll : List (Nat × Value) → List Value → List Value
  | [], l => l
  | (i, v) :: r, l => setAll r (l.set i v)
theorem fill_one (place : Nat → Option (Nat × Nat)) (hp : ∀ i, place i = some (i * 1, 1)) : ∀ (parts : List (Nat × Value)) (l : List Value), (∀ p ∈ parts, p.1 < l.length ∧ p.2.oneCell' = true) → Instr.fill place l.toArray parts = some (setAll parts l).toArray := by
  intro parts
  induction parts with
  | nil => intro l _; rfl
  | cons p r ih =>
    intro l h
    obtain ⟨i, v⟩ := p
    have h1 := h (i, v) (by simp)
    have hc : v.cells = #[v] := by have := h1.2; cases v <;> simp_all [Value.cells, Value.oneCell']
    unfold Instr.fill
    simp only [hp, Nat.mul_one, hc]
    rw [if_neg (by simp; omega)]
    have : (Array.zipIdx #[v]).foldl (fun cs x => cs.setIfInBounds (i + x.2) x.1) l.toArray = (l.set i v).toArray := by simp
    rw [this]
    exact ih _ fun p hp => by simpa using h p (by simp [hp])
theorem ost_buildAr {t e : TypeId} {n sz bytes bytes' : Nat} {z : Value} {d' : TypeDesc} {l0 l : List Value} {parts : List (Nat × Operand)} {vs : List (Nat × Value)} [hT : Ty P t (.array n e) sz bytes (.agg l0.toArray)] [Ty P e d' 1 bytes' z]
    (ho : o.op = .build t parts.toArray) (hv : evP s parts = vs) (hp : (vs.all fun p => Nat.blt p.1 l0.length && p.2.oneCell') = true) (hf : setAll vs l0 = l) (hk : K (.agg l.toArray) w) : Ost P o s w K := by
  refine ost_build ho (fun w => ?_) hk
  subst hf
  unfold Instr.build
  rw [evP_eq, hv]
  have := fill_one (fun i => some (i * 1, 1)) (fun _ => rfl) vs l0 (fun p hp' => by
    have := List.all_eq_true.1 hp p hp'
    simpa [nblt_true] using this)
  simp [Sem.run_bind, Ty.run_zero, Result.andThen_ok, Ty.run_und, Ty.run_size, Value.cells]
  simp at this
  rw [this]
  rfl
theorem ost_buildSl1 {t e : TypeId} {bytes sz' bytes' len : Nat} {z z' : Value} {d : TypeDesc} {parts : List (Nat × Operand)} {vs : List (Nat × Value)} {l : List Value} [Ty P t (.slice e) sz' bytes' z'] [hE : Ty P e d 1 bytes z]
    (H : St ws S h0 h L w) (ho : o.op = .buildSlice t len parts.toArray) (hlen : len ≤ 1000) (hz : z.oneCell' = true) (hv : evP s parts = vs) (hl : setAll vs (List.replicate len z) = l) (hp : ∀ p ∈ vs, p.1 < len ∧ p.2.oneCell' = true)
    (hk : ∀ b w', St ws S h0 h (.own (.slice (some ⟨b, 0, none⟩) len len) e 1 len l :: L) w' → K (.slice (some ⟨b, 0, none⟩) len len) w') : Ost P o s w K := by
  have hc : z.cells = #[z] := by cases z <;> simp_all [Value.cells, Value.oneCell']
  have hll : l.length = len := by
    have : ∀ (vs : List (Nat × Value)) (l : List Value), (setAll vs l).length = l.length := fun vs => by
      induction vs with
      | nil => intro l; rfl
      | cons p r ih => intro l; obtain ⟨i, v⟩ := p; simp only [setAll, ih, List.length_set]
    rw [← hl, this]; simp
  have hfill := fill_one (fun i => some (i * 1, 1)) (fun _ => rfl) vs (List.replicate len z) (by simpa using hp)
  have hrun : (Instr.buildSlice t len vs.toArray).run P w = .ok (.slice (some ⟨w.heap.size, 0, none⟩) len len) (w.alloc (.cells l.toArray e)) := by
    unfold Instr.buildSlice
    simp only [Sem.run_bind, Ty.run_und, Result.andThen_ok, Ty.run_size]
    rw [if_neg (show ¬ len * 1 > 2 ^ 24 by omega)]
    rcases Nat.eq_zero_or_pos len with h0 | h0
    · subst h0
      have : vs = [] := by
        cases vs with
        | nil => rfl
        | cons p r => have := (hp p (by simp)).1; omega
      subst this
      have : l = [] := hl.symm
      subst this
      rw [if_pos (by rfl : 0 * 1 = 0)]
      simp [Instr.fill, newRow]
      rw [show Array.map (fun _ => (default : Value)) (Array.range 0) = #[] from by apply Array.ext <;> simp]
    · rw [if_neg (show ¬ len * 1 = 0 by omega)]
      have hz0 : ((Array.range (len * 1)).map fun x => z.cells[x % z.cells.size]!) = (List.replicate len z).toArray := by
        rw [hc]
        apply Array.ext
        · simp
        · intro i h1 h2
          simp [Nat.mod_one]
      simp only [Sem.run_bind, Ty.run_zero, Result.andThen_ok, Sem.run_pure, hz0, hfill, hl]
      rfl
  refine .val (v := .slice (some ⟨w.heap.size, 0, none⟩) len len) (w' := w.alloc (.cells l.toArray e)) ?_ (hk _ _ ?_)
  · simp only [execOp, ho, evP_eq, hv, Sem.run_bind, hrun]; rfl
  · have := (H.alloc (.cells l.toArray e)).blkOwn (i := 0) (n := len) (sz := 1) rfl (by omega) (by simp only [maxLen]; omega)
    exact this

-- slicing
theorem ost_cap_sl {x : Operand} {t e : TypeId} {sz bytes : Nat} {z : Value} {a : Option Addr} {n c : Nat} [Ty P t (.slice e) sz bytes z] (ho : o.op = .call { callee := .builtin .cap, args := #[x], argTypes := #[t] }) (hx : ev s x = .slice a n c) (hk : K (.int .i64 c) w) : Ost P o s w K :=
  .val (by simp [execOp, ho, resolve, invoke, builtin, Builtin.cap_, hx, Ty.run_und, goInt]) hk
theorem ost_sliceL {t e : TypeId} {x lo : Operand} {k : IntKind} {i : Int} {sz bytes sz' bytes' : Nat} {z z' : Value} {d : TypeDesc} {a : Option Addr} {n c : Nat} [Ty P t (.slice e) sz' bytes' z'] [Ty P e d sz bytes z] (ho : o.op = .slice t x (some lo) none none) (hx : ev s x = .slice a n c) (hi : ev s lo = .int k i)
    (h0 : 0 ≤ i) (h1 : i ≤ (n : Int)) (hk : K (.slice (if c = i.toNat then a else a.map (·.add (i.toNat * sz))) (n - i.toNat) (c - i.toNat)) w) : Ost P o s w K := by
  refine .val (v := _) ?_ hk
  have := run_sliceBound (P := P) (w := w) k i n .sliceB h0 h1
  simp [execOp, ho, hx, hi, Instr.sliceAt, Ty.run_und, Instr.slice, Instr.sliceBounds, this, Ty.run_size]
theorem ost_sliceH {t e : TypeId} {x hi : Operand} {k : IntKind} {i : Int} {sz bytes sz' bytes' : Nat} {z z' : Value} {d : TypeDesc} {a : Option Addr} {n c : Nat} [Ty P t (.slice e) sz' bytes' z'] [Ty P e d sz bytes z] (ho : o.op = .slice t x none (some hi) none) (hx : ev s x = .slice a n c) (hi' : ev s hi = .int k i)
    (h0 : 0 ≤ i) (h1 : i ≤ (c : Int)) (hk : K (.slice a i.toNat c) w) : Ost P o s w K := by
  refine .val (v := _) ?_ hk
  have := run_sliceBound (P := P) (w := w) k i c .sliceAcap h0 h1
  have ha : (if c = 0 then a else a.map fun ad => ad.add 0) = a := by
    split
    · rfl
    · cases a <;> rfl
  simp [execOp, ho, hx, hi', Instr.sliceAt, Ty.run_und, Instr.slice, Instr.sliceBounds, this, Ty.run_size, ha]
theorem ost_sliceLH {t e : TypeId} {x lo hi : Operand} {k k' : IntKind} {i j : Int} {sz bytes sz' bytes' : Nat} {z z' : Value} {d : TypeDesc} {a : Option Addr} {n c : Nat} [Ty P t (.slice e) sz' bytes' z'] [Ty P e d sz bytes z] (ho : o.op = .slice t x (some lo) (some hi) none) (hx : ev s x = .slice a n c) (hi' : ev s lo = .int k i) (hj' : ev s hi = .int k' j)
    (h0 : 0 ≤ i) (h1 : i ≤ j) (h2 : j ≤ (c : Int)) (hk : K (.slice (if c = i.toNat then a else a.map (·.add (i.toNat * sz))) (j.toNat - i.toNat) (c - i.toNat)) w) : Ost P o s w K := by
  refine .val (v := _) ?_ hk
  have hA := run_sliceBound (P := P) (w := w) k' j c .sliceAcap (by omega) h2
  have hB := run_sliceBound (P := P) (w := w) k i j.toNat .sliceB h0 (by omega)
  simp [execOp, ho, hx, hi', hj', Instr.sliceAt, Ty.run_und, Instr.slice, Instr.sliceBounds, hA, hB, Ty.run_size]
theorem ost_sliceAH {t e : TypeId} {x hi : Operand} {k : IntKind} {i : Int} {m sz bytes sz' bytes' b off : Nat} {z z' : Value} {d : TypeDesc} [Ty P t (.array m e) sz' bytes' z'] [Ty P e d sz bytes z] (ho : o.op = .slice t x none (some hi) none) (hx : ev s x = .pointer (some ⟨b, off, none⟩)) (hi' : ev s hi = .int k i)
    (h0 : 0 ≤ i) (h1 : i ≤ (m : Int)) (hk : K (.slice (some ⟨b, off, none⟩) i.toNat m) w) : Ost P o s w K := by
  refine .val (v := _) ?_ hk
  have := run_sliceBound (P := P) (w := w) k i m .sliceAlen h0 h1
  have ha : (if m = 0 then (⟨b, off, none⟩ : Addr) else (⟨b, off, none⟩ : Addr).add 0) = ⟨b, off, none⟩ := by
    split
    · rfl
    · rw [cell_add]; rfl
  simp [execOp, ho, hx, hi', Instr.sliceAt, Ty.run_und, Instr.sureAddr, Instr.sliceBounds, this, Ty.run_size, ha]
end

-- bytes
def u8v (x : UInt8) : Value := .int .u8 x.toNat
def cB (xs : List UInt8) : List Value := xs.map u8v
theorem cB_len (xs : List UInt8) : (cB xs).length = xs.length := by simp [cB]
theorem cB_app (a b : List UInt8) : cB (a ++ b) = cB a ++ cB b := by simp [cB]
theorem cB_one (xs : List UInt8) : ∀ v ∈ cB xs, v.oneCell' = true := by
  intro v hv; obtain ⟨x, _, rfl⟩ := List.mem_map.1 hv; rfl
theorem cB_get {xs : List UInt8} {i : Nat} (h : i < xs.length) : (cB xs)[i]? = some (u8v xs[i]) := by simp [cB, h]
theorem u8v_inj {a b : UInt8} (h : u8v a = u8v b) : a = b := by
  unfold u8v at h; injection h with _ h; exact UInt8.toNat_inj.1 (by omega)
structure BS (h : FH) (a : Option Addr) (c : Nat) (xs : List UInt8) : Prop where
  rd : RdC h a (cB xs)
  le : xs.length ≤ c
  mx : c ≤ maxLen
  nn : a = none → c = 0
theorem BS.mono {h h' : FH} {a : Option Addr} {c : Nat} {xs : List UInt8} (hle : FLe h h') (r : BS h a c xs) : BS h' a c xs := ⟨r.rd.mono hle, r.le, r.mx, r.nn⟩
theorem BS.drop {h : FH} {a : Option Addr} {c : Nat} {xs : List UInt8} (r : BS h a c xs) {n : Nat} (hn : n ≤ xs.length) : BS h (if c = n then a else a.map (·.add (n * 1))) (c - n) (xs.drop n) := by
  have hl := r.le
  have hm := r.mx
  refine ⟨?_, by simp; omega, by omega, fun h => ?_⟩
  · by_cases he : c = n
    · rw [if_pos he]
      have : xs.drop n = [] := List.drop_eq_nil_of_le (by omega)
      rw [this]; exact RdC.nil _ _
    · rw [if_neg he, Nat.mul_one]
      have := r.rd.drop n
      rw [cB] at this
      rw [cB, List.map_drop]; exact this
  · by_cases he : c = n
    · omega
    · rw [if_neg he] at h
      cases a with
      | none => have := r.nn rfl; omega
      | some ad => cases h
theorem BS.take {h : FH} {a : Option Addr} {c : Nat} {xs : List UInt8} (r : BS h a c xs) (n : Nat) : BS h a c (xs.take n) := by
  have hl := r.le
  refine ⟨?_, by simp; omega, r.mx, r.nn⟩
  have := r.rd.take n
  rw [cB] at this
  rw [cB, List.map_take]; exact this
theorem BS.get {h : FH} {a : Option Addr} {c : Nat} {xs : List UInt8} (r : BS h a c xs) {i : Nat} (hi : i < xs.length) : ∃ b off l T fr, a = some ⟨b, off, none⟩ ∧ h b = some (.cells (List.toArray l) T fr) ∧ ∀ j, (hj : j < xs.length) → l[off + j]? = some (u8v xs[j]) := by
  obtain ⟨b, off, l, T, fr, h1, h2, h3⟩ := r.rd.get (i := i) (by rw [cB_len]; exact hi)
  exact ⟨b, off, l, T, fr, h1, h2, fun j hj => by rw [h3 j (by rw [cB_len]; exact hj), cB_get hj]⟩
section
variable {P : Program} {o : Oper} {s : Env} {w : World} {K : Value → World → Prop} {ws : World} {S : List Nat} {h0 h : FH} {L : List HA}
theorem own_BS' {hh : FH} {v : Value} {e : TypeId} {n : Nat} {xs : List UInt8} (hk : ∀ k, k ∈ v.ownBlock.toList → hh k = w.heap[k]?) (h : w.ownsRow 0 e 1 v n (cB xs)) : ∃ a c, v = .slice a xs.length c ∧ BS hh a c xs := by
  have hn : n = xs.length := by have := h.1; rw [cB_len] at this; omega
  obtain ⟨a, c, h1, h2, h3, h4, h5⟩ := own_rd' hk h
  subst hn
  exact ⟨a, c, h1, h4, h2, h3, fun h => (h5 h).2⟩
theorem own_BS {v : Value} {e : TypeId} {n : Nat} {xs : List UInt8} (h : w.ownsRow 0 e 1 v n (cB xs)) : ∃ a c, v = .slice a xs.length c ∧ BS (full w) a c xs := own_BS' (fun _ _ => rfl) h
def bstr (xs : List UInt8) : ByteArray := ⟨xs.toArray⟩
theorem bstr_inj {a b : List UInt8} : bstr a = bstr b ↔ a = b := by
  constructor
  · intro h; simp only [bstr, ByteArray.mk.injEq] at h; simpa using h
  · intro h; rw [h]
theorem push_all (xs : List UInt8) : ∀ acc : ByteArray, ((xs.map fun x => ((x.toNat : Nat) : Int)).foldl (fun r n => r.push (UInt8.ofNat n.toNat)) acc) = ⟨acc.data ++ xs.toArray⟩ := by
  induction xs with
  | nil => intro acc; simp
  | cons x xs ih =>
    intro acc
    simp only [List.map_cons, List.foldl_cons, ih]
    simp [ByteArray.push]
theorem r_nil {h : FH} {c : Nat} {xs : List UInt8} (r : BS h none c xs) : xs = [] := by
  have := r.nn rfl; have := r.le
  exact List.eq_nil_of_length_eq_zero (by omega)
theorem ost_toStr {src dst e : TypeId} {x : Operand} {sz bytes sz' bytes' sz2 bytes2 : Nat} {z z' z2 : Value} {a : Option Addr} {c : Nat} {xs : List UInt8} [Ty P src (.slice e) sz' bytes' z'] [Ty P e (.int .u8) sz bytes z] [Ty P dst .string sz2 bytes2 z2] (ho : o.op = .convert src dst x) (hx : ev s x = .slice a xs.length c) (hr : BS (full w) a c xs)
    (hk : K (.string (bstr xs)) w) : Ost P o s w K := by
  refine .val ?_ hk
  have h1 := run_convert_bytes_string (P := P) w src dst e a xs.length c Ty.und Ty.und Ty.und
  have h2 : (Conv.bytesToString (.slice a xs.length c)).run P w = .ok (.string (bstr xs)) w := by
    cases a with
    | none =>
      have := r_nil hr
      subst this; rfl
    | some ad =>
      have hl : (loadCells ad xs.length).run P w = .ok ((xs.map fun x => ((x.toNat : Nat) : Int)).map (Value.int .u8)).toArray w := by
        have := run_loadCells_list (P := P) w ad (cB xs) (hr.rd.cells rfl)
        rw [cB_len] at this
        rw [this]
        simp [cB, u8v, Function.comp_def]
      have := run_bytesToString (P := P) w ad xs.length c _ hl
      rw [this, push_all]
      simp [bstr]
  simp only [execOp, ho, hx, Sem.run_bind, h1, h2, Result.andThen_ok, Sem.run_pure]

abbrev own8 (v : Value) (e : TypeId) (xs : List UInt8) : HA := .own v e 1 xs.length (cB xs)
theorem ost_app8 {x y : Operand} {t e : TypeId} {sz' bytes' i c : Nat} {z' v : Value} {xs ys : List UInt8} {a : Option Addr} [Ty P t (.slice e) sz' bytes' z'] [hE : Ty P e (.int .u8) 1 1 (.int .u8 0)]
    (H : St ws S h0 h L w) (ho : o.op = .call { callee := .builtin .append, args := [x, y].toArray, argTypes := #[t, t] }) (hy : ev s y = .slice a ys.length c) (hx : ev s x = v) (hi : L[i]? = some (own8 v e xs))
    (hr : BS (full w) a c ys) (hb : xs.length + ys.length ≤ 1000000000000) (hk : ∀ a' c' w', St ws S h0 h (L.set i (own8 (.slice a' (xs ++ ys).length c') e (xs ++ ys))) w' → K (.slice a' (xs ++ ys).length c') w') : Ost P o s w K :=
  ost_append H ho hy hx hi rfl (by decide) hr.rd (by rw [cB_len]; omega) hr.nn (cB_one ys) (by omega) (by simp only [maxLen]; omega) fun a' c' w' H' => by
    have e2 : xs.length + ys.length = (xs ++ ys).length := by simp
    have e1 : own8 (.slice a' (xs ++ ys).length c') e (xs ++ ys) = .own (.slice a' (xs.length + ys.length) c') e 1 (xs.length + ys.length) (cB xs ++ cB ys) := by unfold own8; rw [cB_app, e2]
    have := hk a' c' w' (by rw [e1]; exact H')
    rw [← e2] at this
    exact this
theorem zeroCells_list (n : Nat) : (Builtin.zeroCells #[Value.int .u8 0] n).toList = List.replicate n (Value.int .u8 0) := by
  simp [Builtin.zeroCells, Nat.mod_one, List.map_const']
theorem ost_zeros8 {x y : Operand} {t tn e : TypeId} {sz' bytes' szn bytesn n : Nat} {z' zn : Value} {k kn : IntKind} [Ty P t (.slice e) sz' bytes' z'] [Ty P tn (.int kn) szn bytesn zn] [hE : Ty P e (.int .u8) 1 1 (.int .u8 0)]
    (H : St ws S h0 h L w) (ho : o.op = .call { callee := .builtin .append, args := [x, y].toArray, argTypes := #[t, tn] }) {m : Int} (hx : ev s x = .slice none 0 0) (hy : ev s y = .int k m) (hmn : m = n) (hn : 0 < n) (hm : n ≤ 1000000000000)
    (hk : ∀ a' c' w', n ≤ c' → St ws S h0 h (own8 (.slice a' n c') e (List.replicate n 0) :: L) w' → K (.slice a' n c') w') : Ost P o s w K := by
  subst hmn
  obtain ⟨i, hi, hi1, hi2, hi3⟩ := hE.inf
  have := Go.Lib.run_append_nil_zeros (P := P) w t tn o.type e i (.int .u8 0) k kn Ty.und Ty.und hi hi3 n hn (by omega) (by omega) (by rw [hi2]; omega)
  refine .val (run_builtin ho (vs := [.slice none 0 0, .int k n]) (by simp only [mapEv, hx, hy]) (fun ty c a => rfl) this) ?_
  have hg := grownCap_ge w n 0 e
  have hgm := grownCap_le_maxLen w n 0 e (by simp only [maxLen]; omega)
  refine hk _ _ _ hg (H.cons (w' := w.drew.alloc _) ((ext_drew w).trans (ext_alloc _ _)) ⟨by simp [cB], .inr ⟨w.heap.size, grownCap w n 0 e, _, by simp, Nat.zero_le _, heap_alloc_new w.drew _, by simpa using hg, hgm, ?_, ?_⟩⟩ (by simp [HA.fp, own8, Value.ownBlock]))
  · simp [zeroCells_list, ← Array.length_toList, Value.cells]; omega
  · simp [zeroCells_list, Value.cells, cB, u8v]
theorem St.lessBS (H : St ws S h0 h L w) {i j : Nat} {A : HA} {v : Value} {e : TypeId} {xs : List UInt8} (hi : L[i]? = some A) (hj : L[j]? = some (own8 v e xs)) (hij : i ≠ j) : ∃ a c, v = .slice a xs.length c ∧ BS (Go.Tg.less w A.fp) a c xs :=
  own_BS' (H.lessEq hi hj hij) (H.ok j _ hj)
theorem St.own8BS (H : St ws S h0 h L w) {i : Nat} {v : Value} {e : TypeId} {xs : List UInt8} (hi : L[i]? = some (own8 v e xs)) : ∃ a c, v = .slice a xs.length c ∧ BS (full w) a c xs :=
  own_BS (H.ok i _ hi)
theorem St.own8rd (H : St ws S h0 h L w) {i : Nat} {e : TypeId} {a : Option Addr} {n c : Nat} {xs : List UInt8} (hi : L[i]? = some (.own (.slice a n c) e 1 n (cB xs))) : BS (full w) a c xs := by
  obtain ⟨a', c', h1, h2⟩ := own_BS (H.ok i _ hi)
  injection h1 with h3 h4 h5
  subst h3; subst h5; exact h2
theorem ost_app1 {x y' : Operand} {t e : TypeId} {sz' bytes' i j b : Nat} {z' v : Value} {xs : List UInt8} {y : UInt8} {m : Int} [Ty P t (.slice e) sz' bytes' z'] [hE : Ty P e (.int .u8) 1 1 (.int .u8 0)]
    (H : St ws S h0 h L w) (ho : o.op = .call { callee := .builtin .append, args := [x, y'].toArray, argTypes := #[t, t] }) (hy : ev s y' = .slice (some ⟨b, 0, none⟩) 1 1) (hx : ev s x = v) (hi : L[i]? = some (own8 v e xs))
    (hj : L[j]? = some (.own (.slice (some ⟨b, 0, none⟩) 1 1) e 1 1 [.int .u8 m])) (hm : m = y.toNat) (hb : xs.length + 1 ≤ 1000000000000) (hk : ∀ a' c' w', St ws S h0 h (L.set i (own8 (.slice a' (xs ++ [y]).length c') e (xs ++ [y]))) w' → K (.slice a' (xs ++ [y]).length c') w') : Ost P o s w K := by
  subst hm
  exact ost_app8 (ys := [y]) H ho hy hx hi (H.own8rd (xs := [y]) hj) hb hk
theorem BS.full {a : Option Addr} {c : Nat} {xs : List UInt8} (r : BS h a c xs) (H : St ws S h0 h L w) : BS (full w) a c xs := r.mono H.sat.le
theorem St.pick (H : St ws S h0 h L w) {A : HA} (i : Nat) (hi : L[i]? = some A) : St ws S h0 h [A] w :=
  H.sub (fun _ => i) (fun j B hB => by
    cases j with
    | zero => simp at hB; subst hB; exact hi
    | succ j => simp at hB) (fun a b ha hb _ => by simp at ha hb; omega)
theorem St.pick0 (H : St ws S h0 h L w) : St ws S h0 h [] w :=
  H.sub (fun i => i) (fun j B hB => by simp at hB) (fun a b ha hb _ => by simp at ha)
theorem St.pick2 (H : St ws S h0 h L w) {A B : HA} (i j : Nat) (hi : L[i]? = some A) (hj : L[j]? = some B) (hij : i ≠ j) : St ws S h0 h [A, B] w :=
  H.sub (fun k => if k = 0 then i else j) (fun k C hC => by
    match k with
    | 0 => simp at hC; subst hC; exact hi
    | 1 => simp at hC; subst hC; exact hj
    | k + 2 => simp at hC) (fun a b ha hb h => by
    simp at ha hb
    have : a = 0 ∨ a = 1 := by omega
    have : b = 0 ∨ b = 1 := by omega
    rcases ‹a = 0 ∨ a = 1› with rfl | rfl <;> rcases ‹b = 0 ∨ b = 1› with rfl | rfl <;> simp_all)
theorem St.tl {A : HA} (H : St ws S h0 h (A :: L) w) : St ws S h0 h L w :=
  H.sub (fun i => i + 1) (fun j B hB => by simpa using hB) (fun a b _ _ h => by omega)
theorem St.own8take (H : St ws S h0 h L w) {i : Nat} {a : Option Addr} {n c : Nat} {e : TypeId} {xs : List UInt8} (k : Nat) (hi : L[i]? = some (own8 (.slice a n c) e xs)) (hk : k ≤ xs.length) : St ws S h0 h (L.set i (own8 (.slice a k c) e (xs.take k))) w := by
  refine H.repl hi (Fr.refl _ _) ?_ (fun k' hk' => .inl ?_)
  · obtain ⟨h1, h2⟩ := H.ok i _ hi
    have hl : (xs.take k).length = k := by simp; omega
    refine ⟨by rw [cB_len, Nat.mul_one], ?_⟩
    rcases h2 with ⟨h2, h3⟩ | ⟨g, cap, cur, h2, hb, hg, hn, hm, hs, ht⟩
    · cases h2
      refine .inl ⟨?_, ?_⟩
      · have : xs.length = 0 := h3
        have : k = 0 := by omega
        subst this; rfl
      · have : xs.length = 0 := h3
        rw [hl]; omega
    · cases h2
      refine .inr ⟨g, c, cur, by rw [hl], hb, hg, by rw [hl]; omega, hm, hs, ?_⟩
      rw [hl]
      have e : cB (xs.take k) = (cB xs).take k := by simp [cB, List.map_take]
      rw [e, ← ht, List.take_take, show min k (xs.length * 1) = k * 1 by omega]
  · cases a with
    | none => simp [HA.fp, own8, Value.ownBlock] at hk'
    | some a => simpa [HA.fp, own8, Value.ownBlock] using hk'
theorem St.nil8 (H : St ws S h0 h L w) (e : TypeId) : St ws S h0 h (own8 (.slice none 0 0) e [] :: L) w := H.nilOwn e 1
theorem ost_build1 {t e : TypeId} {bytes sz' bytes' len : Nat} {z z' : Value} {d : TypeDesc} {parts : List (Nat × Operand)} {vs : List (Nat × Value)} {l : List Value} [Ty P t (.slice e) sz' bytes' z'] [hE : Ty P e d 1 bytes z]
    (H : St ws S h0 h L w) (ho : o.op = .buildSlice t len parts.toArray) (hlen : Nat.ble len 1000 = true) (hz : z.oneCell' = true) (hv : evP s parts = vs) (hl : setAll vs (List.replicate len z) = l) (hp : (vs.all fun p => Nat.blt p.1 len && p.2.oneCell') = true)
    (hk : ∀ b w', St ws S h0 h (.own (.slice (some ⟨b, 0, none⟩) len len) e 1 len l :: L) w' → K (.slice (some ⟨b, 0, none⟩) len len) w') : Ost P o s w K :=
  ost_buildSl1 H ho (by simpa using hlen) hz hv hl (fun p hp' => by
    have := List.all_eq_true.1 hp p hp'
    simpa [nblt_true] using this) hk
end
end Go.Tg

