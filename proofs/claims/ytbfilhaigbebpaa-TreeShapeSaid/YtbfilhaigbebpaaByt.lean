/- Slices: what a slice reads as, appending, slicing, bytes and strings. -/
import Derived.Test.YtbfilhaigbebpaaOps2
import Derived.Lib.ConvBytes
import Derived.Lib.AppendZeros
set_option linter.unusedVariables false
set_option linter.unusedSimpArgs false
namespace Go.Tg
open Go

def RdC (h : FH) (a : Option Addr) (cs : List Value) : Prop :=
  cs = [] ∨ ∃ b off l T fr, a = some ⟨b, off, none⟩ ∧ h b = some (.cells (List.toArray l) T fr) ∧ (l.drop off).take cs.length = cs
theorem RdC.nil (h : FH) (a : Option Addr) : RdC h a [] := .inl rfl
theorem RdC.mono {h h' : FH} {a : Option Addr} {cs : List Value} (hle : FLe h h') (r : RdC h a cs) : RdC h' a cs := by
  rcases r with r | ⟨b, off, l, T, fr, h1, h2, h3⟩
  · exact .inl r
  · exact .inr ⟨b, off, l, T, fr, h1, hle _ _ h2, h3⟩
theorem RdC.take {h : FH} {a : Option Addr} {cs : List Value} (r : RdC h a cs) (n : Nat) : RdC h a (cs.take n) := by
  rcases r with rfl | ⟨b, off, l, T, fr, h1, h2, h3⟩
  · simp [RdC.nil]
  · refine .inr ⟨b, off, l, T, fr, h1, h2, ?_⟩
    conv => rhs; rw [← h3]
    rw [List.length_take, List.take_take]
theorem RdC.drop {h : FH} {a : Option Addr} {cs : List Value} (r : RdC h a cs) (n : Nat) : RdC h (a.map (·.add n)) (cs.drop n) := by
  rcases r with rfl | ⟨b, off, l, T, fr, h1, h2, h3⟩
  · simp [RdC.nil]
  · refine .inr ⟨b, off + n, l, T, fr, by rw [h1, Option.map_some, cell_add], h2, ?_⟩
    conv => rhs; rw [← h3]
    rw [List.drop_take, List.drop_drop, List.length_drop]
theorem RdC.get {h : FH} {a : Option Addr} {cs : List Value} (r : RdC h a cs) {i : Nat} (hi : i < cs.length) :
    ∃ b off l T fr, a = some ⟨b, off, none⟩ ∧ h b = some (.cells (List.toArray l) T fr) ∧ (∀ j, j < cs.length → l[off + j]? = cs[j]?) := by
  rcases r with rfl | ⟨b, off, l, T, fr, h1, h2, h3⟩
  · simp at hi
  · refine ⟨b, off, l, T, fr, h1, h2, fun j hj => ?_⟩
    conv => rhs; rw [← h3]
    rw [List.getElem?_take, if_pos hj, List.getElem?_drop]
theorem RdC.cells {w : World} {a : Option Addr} {cs : List Value} (r : RdC (full w) a cs) {ad : Addr} (ha : a = some ad) : ∀ j u, cs[j]? = some u → w.cell? (ad.add j) = some u := by
  intro j u hu
  have hj : j < cs.length := (List.getElem?_eq_some_iff.1 hu).1
  obtain ⟨b, off, l, T, fr, h1, h2, h3⟩ := r.get hj
  rw [h1] at ha; cases ha
  rw [cell_add, cell_of_row w b _ l.toArray T fr h2]
  simpa [h3 j hj] using hu
theorem RdC.some {h : FH} {a : Option Addr} {cs : List Value} (r : RdC h a cs) (hc : cs ≠ []) : a.isSome = true := by
  rcases r with r | ⟨b, off, l, T, fr, h1, h2, h3⟩
  · exact absurd r hc
  · rw [h1]; rfl

section
variable {ws w w' : World} {S : List Nat} {h0 h : FH} {L : List HA}
theorem St.rd (H : St ws S h0 h L w) {a : Option Addr} {cs : List Value} (r : RdC h a cs) : RdC (full w) a cs := r.mono H.sat.le
theorem own_rd' {hh : FH} {v : Value} {e : TypeId} {sz n : Nat} {cs : List Value} (hk : ∀ k, k ∈ v.ownBlock.toList → hh k = w.heap[k]?) (h : w.ownsRow 0 e sz v n cs) : ∃ a c, v = .slice a n c ∧ n ≤ c ∧ c ≤ maxLen ∧ RdC hh a cs ∧ (a = none → n = 0 ∧ c = 0) := by
  rcases h.2 with ⟨rfl, rfl⟩ | ⟨g, cap, cur, rfl, _, hg, hnc, hcm, hcs, htake⟩
  · have : cs = [] := List.eq_nil_of_length_eq_zero (by simpa using h.1)
    exact ⟨none, 0, rfl, Nat.le_refl _, Nat.zero_le _, .inl this, fun _ => ⟨rfl, rfl⟩⟩
  · refine ⟨_, _, rfl, hnc, hcm, .inr ⟨g, 0, cur.toList, e, (0, 0), rfl, ?_, ?_⟩, fun h => by cases h⟩
    · rw [hk g (by simp [Value.ownBlock])]; simpa using hg
    · rw [List.drop_zero, h.1]; exact htake
theorem own_rd {v : Value} {e : TypeId} {sz n : Nat} {cs : List Value} (h : w.ownsRow 0 e sz v n cs) : ∃ a c, v = .slice a n c ∧ n ≤ c ∧ c ≤ maxLen ∧ RdC (full w) a cs ∧ (a = none → n = 0 ∧ c = 0) :=
  own_rd' (fun _ _ => rfl) h
theorem St.ownRd (H : St ws S h0 h L w) {i : Nat} {v : Value} {e : TypeId} {sz n : Nat} {cs : List Value} (hi : L[i]? = some (.own v e sz n cs)) : ∃ a c, v = .slice a n c ∧ n ≤ c ∧ c ≤ maxLen ∧ RdC (full w) a cs ∧ (a = none → n = 0 ∧ c = 0) :=
  own_rd (H.ok i _ hi)
theorem St.nilOwn (H : St ws S h0 h L w) (e : TypeId) (sz : Nat) : St ws S h0 h (.own (.slice none 0 0) e sz 0 [] :: L) w :=
  H.cons (Fr.refl _ _) (World.ownsRow_nil w 0 e sz) (by simp [HA.fp, Value.ownBlock])
theorem St.blkOwn (H : St ws S h0 h L w) {i b : Nat} {l : List Value} {e : TypeId} {sz n : Nat} (hi : L[i]? = some (.blk b (.cells l.toArray e (0, 0)))) (hl : l.length = n * sz) (hm : n ≤ maxLen) :
    St ws S h0 h (L.set i (.own (.slice (some ⟨b, 0, none⟩) n n) e sz n l)) w :=
  H.repl hi (Fr.refl _ _) ⟨hl, .inr ⟨b, n, l.toArray, rfl, Nat.zero_le _, H.blk hi, Nat.le_refl _, hm, by simpa using hl, by simp [← hl]⟩⟩ (by simp [HA.fp, Value.ownBlock])
end

section
variable {P : Program} {o : Oper} {s : Env} {w : World} {K : Value → World → Prop} {ws : World} {S : List Nat} {h0 h : FH} {L : List HA}
theorem fr_grown {w w' : World} {v : Value} (h : w.grownBy w' v.ownBlock) : Fr v.ownBlock.toList w w' :=
  ⟨h.os, h.tape, h.output, h.size, fun k hk hS => h.block k hk (fun e => hS (by rw [← e]; simp))⟩
theorem run_append {t ty e : TypeId} {sz bytes sz' bytes' : Nat} {z z' : Value} {d : TypeDesc} [Ty P t (.slice e) sz' bytes' z'] [hE : Ty P e d sz bytes z] (hz : z.cells.size = sz) (hsz : 0 < sz)
    {v : Value} {n : Nat} {xs : List Value} (hown : w.ownsRow 0 e sz v n xs) {a : Option Addr} {m c : Nat} {news : List Value} (hl : news.length = m * sz) (hr : RdC (full w) a news) (hna : a = none → c = 0) (h1 : ∀ u ∈ news, u.oneCell' = true) (hb : (n + m) * bytes ≤ 140737488355328) (hm : n + m ≤ maxLen) :
    ∃ v' w', (Builtin.append_ #[t, t] ty #[v, .slice a m c]).run P w = .ok v' w' ∧ w'.ownsRow 0 e sz v' (n + m) (xs ++ news) ∧ w.grownBy w' v.ownBlock ∧ (v'.ownBlock = v.ownBlock ∨ (∃ k, v'.ownBlock = some k ∧ w.heap.size ≤ k)) := by
  obtain ⟨i, hi, hi1, hi2, hi3⟩ := hE.inf
  cases a with
  | none =>
    have hm0 : m = 0 := by
      rcases hr with h | ⟨b, off, l, T, fr, h1', _⟩
      · rw [h] at hl
        have h0 : m * sz = 0 := hl.symm
        rcases Nat.mul_eq_zero.1 h0 with h | h <;> omega
      · cases h1'
    subst hm0
    have : news = [] := List.eq_nil_of_length_eq_zero (by simpa using hl)
    subst this
    have hc := hna rfl
    subst hc
    exact ⟨v, w, run_append_owned_none (P := P) w 0 t ty e i sz Ty.und hi v n xs hown, by simpa using hown, ⟨rfl, rfl, rfl, Nat.le_refl _, fun _ _ _ => rfl⟩, .inl rfl⟩
  | some ad =>
    have hnews := hr.cells rfl
    rcases hown.2 with ⟨rfl, rfl⟩ | ⟨g, cap, cur, rfl, hbg, hg, hnc, hcm, hcs, htake⟩
    · obtain ⟨v', w', h2, h3, h4, h5⟩ := run_append_own (P := P) w 0 t ty e i z sz bytes Ty.und hi hi3 hi1 hi2 hz hsz _ 0 xs hown ad m c news hl hnews h1 hm hb (Nat.zero_le _)
      refine ⟨v', w', h2, h3, h4, ?_⟩
      rcases h3.2 with ⟨rfl, _⟩ | ⟨g', cap', cur', rfl, _, hg', _⟩
      · exact .inl rfl
      · by_cases hlt : g' < w.heap.size
        · -- a nil slice does not come to own an old block
          exfalso
          obtain ⟨v2, w2, h6, h7, h8, h9⟩ := run_append_own (P := P) w w.heap.size t ty e i z sz bytes Ty.und hi hi3 hi1 hi2 hz hsz _ 0 xs ⟨hown.1, .inl ⟨rfl, rfl⟩⟩ ad m c news hl hnews h1 hm hb (Nat.le_refl _)
          rw [h2] at h6
          injection h6 with e1 e2
          subst e1; subst e2
          rcases h7.2 with ⟨h, _⟩ | ⟨g3, cap3, cur3, h, hge, _⟩
          · cases h
          · injection h with h _ _; injection h with h; injection h with h _; omega
        · exact .inr ⟨g', rfl, by omega⟩
    · by_cases hroom : n + m ≤ cap
      · obtain ⟨w', h2, h3, h4⟩ := run_append_fits (P := P) w 0 t ty e i sz Ty.und hi hi1 g n cap xs hown ad m c news hl hnews h1 hroom
        exact ⟨_, w', h2, h3, h4, .inl rfl⟩
      · obtain ⟨v', w', h2, h3, h4, h5⟩ := run_append_own (P := P) w 0 t ty e i z sz bytes Ty.und hi hi3 hi1 hi2 hz hsz _ n xs hown ad m c news hl hnews h1 hm hb (Nat.zero_le _)
        refine ⟨v', w', h2, h3, h4, ?_⟩
        have holds : ∀ j u, xs[j]? = some u → w.cell? ((⟨g, 0, none⟩ : Addr).add j) = some u := hown.cells (g := g) rfl
        have hg := run_append_grow (P := P) w t ty e i z Ty.und hi hi3 ⟨g, 0, none⟩ n cap xs (by rw [hi1]; exact hown.1) holds ad m c news (by rw [hi1]; exact hl) hnews (by omega) (by simp only [maxLen] at hm; omega) (growslice_fits (by omega) (by rw [hi2]; exact hb))
        rw [hg] at h2
        injection h2 with e1 e2
        exact .inr ⟨w.heap.size, by rw [← e1]; rfl, Nat.le_refl _⟩
theorem run_builtin {b : Builtin} {args : List Operand} {vs : List Value} {at_ : Array TypeId} {v : Value} {w' : World} {f : Array TypeId → TypeId → Array Value → Sem Value} (ho : o.op = .call { callee := .builtin b, args := args.toArray, argTypes := at_ }) (hv : mapEv s args = vs)
    (hb : ∀ ty c a, builtin b at_ ty c a = (do pure (.value (← f at_ ty a)) : Sem Next)) (hr : (f at_ o.type vs.toArray).run P w = .ok v w') : (execOp (ev s) o).run P w = .ok (.value v) w' := by
  simp only [execOp, ho, resolve, Sem.run_bind, Sem.run_pure, Result.andThen_ok, invoke, mapEv_eq, hv, hb, hr]
theorem ost_append {x y : Operand} {t e : TypeId} {sz bytes sz' bytes' : Nat} {z z' : Value} {d : TypeDesc} {i n m c : Nat} {v : Value} {xs news : List Value} {a : Option Addr} [Ty P t (.slice e) sz' bytes' z'] [hE : Ty P e d sz bytes z]
    (H : St ws S h0 h L w) (ho : o.op = .call { callee := .builtin .append, args := [x, y].toArray, argTypes := #[t, t] }) (hy : ev s y = .slice a m c) (hx : ev s x = v) (hi : L[i]? = some (.own v e sz n xs))
    (hz : z.cells.size = sz) (hsz : 0 < sz) (hr : RdC (full w) a news) (hl : news.length = m * sz) (hna : a = none → c = 0) (h1 : ∀ u ∈ news, u.oneCell' = true) (hb : (n + m) * bytes ≤ 140737488355328) (hm : n + m ≤ maxLen)
    (hk : ∀ a' c' w', St ws S h0 h (L.set i (.own (.slice a' (n + m) c') e sz (n + m) (xs ++ news))) w' → K (.slice a' (n + m) c') w') : Ost P o s w K := by
  have hown : w.ownsRow 0 e sz v n xs := H.ok i _ hi
  obtain ⟨v', w', h2, h3, h4, h5⟩ := run_append (P := P) (t := t) (ty := o.type) hz hsz hown hl hr hna h1 hb hm
  refine .val (v := v') (w' := w') (run_builtin ho (vs := [v, .slice a m c]) (by simp only [mapEv, hx, hy]) (fun ty c a => rfl) h2) ?_
  obtain ⟨a', c', e1, _⟩ := own_rd h3
  subst e1
  refine hk a' c' w' ?_
  refine H.repl hi (fr_grown h4) h3 (fun k hk' => ?_)
  simp only [HA.fp] at hk' ⊢
  rcases h5 with h5 | ⟨k', h5, h6⟩ <;> rw [h5] at hk'
  · exact .inl hk'
  · simp at hk'; exact .inr (by omega)
def setAll : List (Nat × Value) → List Value → List Value
  | [], l => l
  | (i, v) :: r, l => setAll r (l.set i v)
theorem fill_one (place : Nat → Option (Nat × Nat)) (hp : ∀ i, place i = some (i * 1, 1)) : ∀ (parts : List (Nat × Value)) (l : List Value), (∀ p ∈ parts, p.1 < l.length ∧ p.2.oneCell' = true) → Instr.fill place l.toArray parts = some (setAll parts l).toArray := by
  intro parts
  induction parts with
  | nil => intro l _; rfl
  | cons p r ih =>
    intro l h
    obtain ⟨i, v⟩ := p
    have h1 := h (i, v) (by simp)
    have hc : v.cells = #[v] := by have := h1.2; cases v <;> simp_all [Value.cells, Value.oneCell']
    unfold Instr.fill
    simp only [hp, Nat.mul_one, hc]
    rw [if_neg (by simp; omega)]
    have : (Array.zipIdx #[v]).foldl (fun cs x => cs.setIfInBounds (i + x.2) x.1) l.toArray = (l.set i v).toArray := by simp
    rw [this]
    exact ih _ fun p hp => by simpa using h p (by simp [hp])
theorem ost_buildSl1 {t e : TypeId} {bytes sz' bytes' len : Nat} {z z' : Value} {d : TypeDesc} {parts : List (Nat × Operand)} {vs : List (Nat × Value)} {l : List Value} [Ty P t (.slice e) sz' bytes' z'] [hE : Ty P e d 1 bytes z]
    (H : St ws S h0 h L w) (ho : o.op = .buildSlice t len parts.toArray) (hlen : len ≤ 1000) (hz : z.oneCell' = true) (hv : evP s parts = vs) (hl : setAll vs (List.replicate len z) = l) (hp : ∀ p ∈ vs, p.1 < len ∧ p.2.oneCell' = true)
    (hk : ∀ b w', St ws S h0 h (.own (.slice (some ⟨b, 0, none⟩) len len) e 1 len l :: L) w' → K (.slice (some ⟨b, 0, none⟩) len len) w') : Ost P o s w K := by
  have hc : z.cells = #[z] := by cases z <;> simp_all [Value.cells, Value.oneCell']
  have hll : l.length = len := by
    have : ∀ (vs : List (Nat × Value)) (l : List Value), (setAll vs l).length = l.length := fun vs => by
      induction vs with
      | nil => intro l; rfl
      | cons p r ih => intro l; obtain ⟨i, v⟩ := p; simp only [setAll, ih, List.length_set]
    rw [← hl, this]; simp
  have hfill := fill_one (fun i => some (i * 1, 1)) (fun _ => rfl) vs (List.replicate len z) (by simpa using hp)
  have hrun : (Instr.buildSlice t len vs.toArray).run P w = .ok (.slice (some ⟨w.heap.size, 0, none⟩) len len) (w.alloc (.cells l.toArray e)) := by
    unfold Instr.buildSlice
    simp only [Sem.run_bind, Ty.run_und, Result.andThen_ok, Ty.run_size]
    rw [if_neg (show ¬ len * 1 > 2 ^ 24 by omega)]
    rcases Nat.eq_zero_or_pos len with h0 | h0
    · subst h0
      have : vs = [] := by
        cases vs with
        | nil => rfl
        | cons p r => have := (hp p (by simp)).1; omega
      subst this
      have : l = [] := hl.symm
      subst this
      rw [if_pos (by rfl : 0 * 1 = 0)]
      simp [Instr.fill, newRow]
      rw [show Array.map (fun _ => (default : Value)) (Array.range 0) = #[] from by apply Array.ext <;> simp]
    · rw [if_neg (show ¬ len * 1 = 0 by omega)]
      have hz0 : ((Array.range (len * 1)).map fun x => z.cells[x % z.cells.size]!) = (List.replicate len z).toArray := by
        rw [hc]
        apply Array.ext
        · simp
        · intro i h1 h2
          simp [Nat.mod_one]
      simp only [Sem.run_bind, Ty.run_zero, Result.andThen_ok, Sem.run_pure, hz0, hfill, hl]
      rfl
  refine .val (v := .slice (some ⟨w.heap.size, 0, none⟩) len len) (w' := w.alloc (.cells l.toArray e)) ?_ (hk _ _ ?_)
  · simp only [execOp, ho, evP_eq, hv, Sem.run_bind, hrun]; rfl
  · have := (H.alloc (.cells l.toArray e)).blkOwn (i := 0) (n := len) (sz := 1) rfl (by omega) (by simp only [maxLen]; omega)
    exact this

-- slicing
theorem ost_cap_sl {x : Operand} {t e : TypeId} {sz bytes : Nat} {z : Value} {a : Option Addr} {n c : Nat} [Ty P t (.slice e) sz bytes z] (ho : o.op = .call { callee := .builtin .cap, args := #[x], argTypes := #[t] }) (hx : ev s x = .slice a n c) (hk : K (.int .i64 c) w) : Ost P o s w K :=
  .val (by simp [execOp, ho, resolve, invoke, builtin, Builtin.cap_, hx, Ty.run_und, goInt]) hk
theorem ost_sliceL {t e : TypeId} {x lo : Operand} {k : IntKind} {i : Int} {sz bytes sz' bytes' : Nat} {z z' : Value} {d : TypeDesc} {a : Option Addr} {n c : Nat} [Ty P t (.slice e) sz' bytes' z'] [Ty P e d sz bytes z] (ho : o.op = .slice t x (some lo) none none) (hx : ev s x = .slice a n c) (hi : ev s lo = .int k i)
    (h0 : 0 ≤ i) (h1 : i ≤ (n : Int)) (hk : K (.slice (if c = i.toNat then a else a.map (·.add (i.toNat * sz))) (n - i.toNat) (c - i.toNat)) w) : Ost P o s w K := by
  refine .val (v := _) ?_ hk
  have := run_sliceBound (P := P) (w := w) k i n .sliceB h0 h1
  simp [execOp, ho, hx, hi, Instr.sliceAt, Ty.run_und, Instr.slice, Instr.sliceBounds, this, Ty.run_size]
theorem ost_sliceH {t e : TypeId} {x hi : Operand} {k : IntKind} {i : Int} {sz bytes sz' bytes' : Nat} {z z' : Value} {d : TypeDesc} {a : Option Addr} {n c : Nat} [Ty P t (.slice e) sz' bytes' z'] [Ty P e d sz bytes z] (ho : o.op = .slice t x none (some hi) none) (hx : ev s x = .slice a n c) (hi' : ev s hi = .int k i)
    (h0 : 0 ≤ i) (h1 : i ≤ (c : Int)) (hk : K (.slice a i.toNat c) w) : Ost P o s w K := by
  refine .val (v := _) ?_ hk
  have := run_sliceBound (P := P) (w := w) k i c .sliceAcap h0 h1
  have ha : (if c = 0 then a else a.map fun ad => ad.add 0) = a := by
    split
    · rfl
    · cases a <;> rfl
  simp [execOp, ho, hx, hi', Instr.sliceAt, Ty.run_und, Instr.slice, Instr.sliceBounds, this, Ty.run_size, ha]
theorem ost_sliceLH {t e : TypeId} {x lo hi : Operand} {k k' : IntKind} {i j : Int} {sz bytes sz' bytes' : Nat} {z z' : Value} {d : TypeDesc} {a : Option Addr} {n c : Nat} [Ty P t (.slice e) sz' bytes' z'] [Ty P e d sz bytes z] (ho : o.op = .slice t x (some lo) (some hi) none) (hx : ev s x = .slice a n c) (hi' : ev s lo = .int k i) (hj' : ev s hi = .int k' j)
    (h0 : 0 ≤ i) (h1 : i ≤ j) (h2 : j ≤ (c : Int)) (hk : K (.slice (if c = i.toNat then a else a.map (·.add (i.toNat * sz))) (j.toNat - i.toNat) (c - i.toNat)) w) : Ost P o s w K := by
  refine .val (v := _) ?_ hk
  have hA := run_sliceBound (P := P) (w := w) k' j c .sliceAcap (by omega) h2
  have hB := run_sliceBound (P := P) (w := w) k i j.toNat .sliceB h0 (by omega)
  simp [execOp, ho, hx, hi', hj', Instr.sliceAt, Ty.run_und, Instr.slice, Instr.sliceBounds, hA, hB, Ty.run_size]
theorem ost_sliceAH {t e : TypeId} {x hi : Operand} {k : IntKind} {i : Int} {m sz bytes sz' bytes' b off : Nat} {z z' : Value} {d : TypeDesc} [Ty P t (.array m e) sz' bytes' z'] [Ty P e d sz bytes z] (ho : o.op = .slice t x none (some hi) none) (hx : ev s x = .pointer (some ⟨b, off, none⟩)) (hi' : ev s hi = .int k i)
    (h0 : 0 ≤ i) (h1 : i ≤ (m : Int)) (hk : K (.slice (some ⟨b, off, none⟩) i.toNat m) w) : Ost P o s w K := by
  refine .val (v := _) ?_ hk
  have := run_sliceBound (P := P) (w := w) k i m .sliceAlen h0 h1
  have ha : (if m = 0 then (⟨b, off, none⟩ : Addr) else (⟨b, off, none⟩ : Addr).add 0) = ⟨b, off, none⟩ := by
    split
    · rfl
    · rw [cell_add]; rfl
  simp [execOp, ho, hx, hi', Instr.sliceAt, Ty.run_und, Instr.sureAddr, Instr.sliceBounds, this, Ty.run_size, ha]
end

-- bytes
def u8v (x : UInt8) : Value := .int .u8 x.toNat
def cB (xs : List UInt8) : List Value := xs.map u8v
theorem cB_len (xs : List UInt8) : (cB xs).length = xs.length := by simp [cB]
theorem cB_get {xs : List UInt8} {i : Nat} (h : i < xs.length) : (cB xs)[i]? = some (u8v xs[i]) := by simp [cB, h]
structure BS (h : FH) (a : Option Addr) (c : Nat) (xs : List UInt8) : Prop where
  rd : RdC h a (cB xs)
  le : xs.length ≤ c
  mx : c ≤ maxLen
  nn : a = none → c = 0
theorem BS.mono {h h' : FH} {a : Option Addr} {c : Nat} {xs : List UInt8} (hle : FLe h h') (r : BS h a c xs) : BS h' a c xs := ⟨r.rd.mono hle, r.le, r.mx, r.nn⟩
theorem BS.drop {h : FH} {a : Option Addr} {c : Nat} {xs : List UInt8} (r : BS h a c xs) {n : Nat} (hn : n ≤ xs.length) : BS h (if c = n then a else a.map (·.add (n * 1))) (c - n) (xs.drop n) := by
  have hl := r.le
  have hm := r.mx
  refine ⟨?_, by simp; omega, by omega, fun h => ?_⟩
  · by_cases he : c = n
    · rw [if_pos he]
      have : xs.drop n = [] := List.drop_eq_nil_of_le (by omega)
      rw [this]; exact RdC.nil _ _
    · rw [if_neg he, Nat.mul_one]
      have := r.rd.drop n
      rw [cB] at this
      rw [cB, List.map_drop]; exact this
  · by_cases he : c = n
    · omega
    · rw [if_neg he] at h
      cases a with
      | none => have := r.nn rfl; omega
      | some ad => cases h
theorem BS.take {h : FH} {a : Option Addr} {c : Nat} {xs : List UInt8} (r : BS h a c xs) (n : Nat) : BS h a c (xs.take n) := by
  have hl := r.le
  refine ⟨?_, by simp; omega, r.mx, r.nn⟩
  have := r.rd.take n
  rw [cB] at this
  rw [cB, List.map_take]; exact this
theorem BS.get {h : FH} {a : Option Addr} {c : Nat} {xs : List UInt8} (r : BS h a c xs) {i : Nat} (hi : i < xs.length) : ∃ b off l T fr, a = some ⟨b, off, none⟩ ∧ h b = some (.cells (List.toArray l) T fr) ∧ ∀ j, (hj : j < xs.length) → l[off + j]? = some (u8v xs[j]) := by
  obtain ⟨b, off, l, T, fr, h1, h2, h3⟩ := r.rd.get (i := i) (by rw [cB_len]; exact hi)
  exact ⟨b, off, l, T, fr, h1, h2, fun j hj => by rw [h3 j (by rw [cB_len]; exact hj), cB_get hj]⟩
section
variable {P : Program} {o : Oper} {s : Env} {w : World} {K : Value → World → Prop} {ws : World} {S : List Nat} {h0 h : FH} {L : List HA}
def bstr (xs : List UInt8) : ByteArray := ⟨xs.toArray⟩
theorem bstr_inj {a b : List UInt8} : bstr a = bstr b ↔ a = b := by
  constructor
  · intro h; simp only [bstr, ByteArray.mk.injEq] at h; simpa using h
  · intro h; rw [h]
theorem BS.full {a : Option Addr} {c : Nat} {xs : List UInt8} (r : BS h a c xs) (H : St ws S h0 h L w) : BS (full w) a c xs := r.mono H.sat.le
theorem St.pick (H : St ws S h0 h L w) {A : HA} (i : Nat) (hi : L[i]? = some A) : St ws S h0 h [A] w :=
  H.sub (fun _ => i) (fun j B hB => by
    cases j with
    | zero => simp at hB; subst hB; exact hi
    | succ j => simp at hB) (fun a b ha hb _ => by simp at ha hb; omega)
theorem St.pick0 (H : St ws S h0 h L w) : St ws S h0 h [] w :=
  H.sub (fun i => i) (fun j B hB => by simp at hB) (fun a b ha hb _ => by simp at ha)
theorem St.tl {A : HA} (H : St ws S h0 h (A :: L) w) : St ws S h0 h L w :=
  H.sub (fun i => i + 1) (fun j B hB => by simpa using hB) (fun a b _ _ h => by omega)
theorem ost_build1 {t e : TypeId} {bytes sz' bytes' len : Nat} {z z' : Value} {d : TypeDesc} {parts : List (Nat × Operand)} {vs : List (Nat × Value)} {l : List Value} [Ty P t (.slice e) sz' bytes' z'] [hE : Ty P e d 1 bytes z]
    (H : St ws S h0 h L w) (ho : o.op = .buildSlice t len parts.toArray) (hlen : Nat.ble len 1000 = true) (hz : z.oneCell' = true) (hv : evP s parts = vs) (hl : setAll vs (List.replicate len z) = l) (hp : (vs.all fun p => Nat.blt p.1 len && p.2.oneCell') = true)
    (hk : ∀ b w', St ws S h0 h (.own (.slice (some ⟨b, 0, none⟩) len len) e 1 len l :: L) w' → K (.slice (some ⟨b, 0, none⟩) len len) w') : Ost P o s w K :=
  ost_buildSl1 H ho (by simpa using hlen) hz hv hl (fun p hp' => by
    have := List.all_eq_true.1 hp p hp'
    simpa [nblt_true] using this) hk
end
end Go.Tg

