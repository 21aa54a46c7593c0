/- copy, append in place, and append of zeros, to a block that is owned. -/
import Derived.Test.YtajfhoeejeadkaaSl
import Derived.Test.YtajfhoeejeadkaaOps3
import Derived.Laws.CopyRow
import Derived.Lib.AppendZerosOnto
import Derived.Lib.Overlaps
set_option linter.unusedVariables false
set_option linter.unusedSimpArgs false
namespace Go.Tg
open Go
section
variable {P : Program} {o : Oper} {s : Env} {w : World} {K : Value → World → Prop} {ws : World} {S : List Nat} {h0 h : FH} {L : List HA}
theorem ost_copyB {x y : Operand} {t t' e : TypeId} {sz' bytes' bytes : Nat} {z' z : Value} {d : TypeDesc} {g off dLen dCap sLen sCap i : Nat} {a : Addr} {cur cs : List Value} {T : TypeId} [Ty P t (.slice e) sz' bytes' z'] [hE : Ty P e d 1 bytes z]
    (H : St ws S h0 h L w) (ho : o.op = .call { callee := .builtin .copy, args := [x, y].toArray, argTypes := #[t, t'] }) {ad ax : Option Addr} (hx : ev s x = .slice ax dLen dCap) (hax : ax = some ⟨g, off, none⟩) (hy : ev s y = .slice ad sLen sCap) (had : ad = some a)
    (hi : L[i]? = some (.blk g (.cells cur.toArray T (0, 0)))) (hn : cs.length = min sLen dLen) (hsrc : ∀ j v, cs[j]? = some v → w.cell? (a.add j) = some v) (hfit : off + cs.length ≤ cur.length) (h1 : ∀ v ∈ cs, v.oneCell' = true)
    (hk : ∀ w', St ws S h0 h (L.set i (.blk g (.cells (cur.take off ++ cs ++ cur.drop (off + cs.length)).toArray T (0, 0)))) w' → K (.int .i64 cs.length) w') : Ost P o s w K := by
  subst hax; subst had
  have hb := H.blk hi
  obtain ⟨i0, hi0, hi1, hi2, hi3⟩ := hE.inf
  have hr := run_copy_row (P := P) w t t' o.type e g off dLen dCap a sLen sCap cur.toArray T cs Ty.und (by rw [hi0]; simp [hi1]) hb (by rw [hn]) hsrc (by simpa using hfit) h1
  refine .val (run_builtin ho (vs := [.slice (some ⟨g, off, none⟩) dLen dCap, .slice (some a) sLen sCap]) (by simp only [mapEv, hx, hy]) (fun ty c a => rfl) hr) (hk _ ?_)
  refine H.repl hi ⟨rfl, rfl, rfl, by simp, fun k _ hS => setRow_other w g k _ (by simpa [HA.fp] using hS)⟩ ?_ (by simp [HA.fp])
  exact setRow_heap w g _ _ T _ hb
theorem ost_appIn {x y : Operand} {t e : TypeId} {sz' bytes' bytes : Nat} {z' z : Value} {d : TypeDesc} {g sLen sCap m c i : Nat} {a : Addr} {cur news : List Value} [Ty P t (.slice e) sz' bytes' z'] [hE : Ty P e d 1 bytes z]
    (H : St ws S h0 h L w) (ho : o.op = .call { callee := .builtin .append, args := [x, y].toArray, argTypes := #[t, t] }) {ad : Option Addr} (hx : ev s x = .slice (some ⟨g, 0, none⟩) sLen sCap) (hy : ev s y = .slice ad m c) (had : ad = some a)
    (hi : L[i]? = some (.blk g (.cells cur.toArray e (0, 0)))) (hn : news.length = m) (hsrc : ∀ j v, news[j]? = some v → w.cell? (a.add j) = some v) (hroom : sLen + m ≤ sCap) (hfit : sLen + m ≤ cur.length) (h1 : ∀ v ∈ news, v.oneCell' = true)
    (hk : ∀ w', St ws S h0 h (L.set i (.blk g (.cells (cur.take sLen ++ news ++ cur.drop (sLen + m)).toArray e (0, 0)))) w' → K (.slice (some ⟨g, 0, none⟩) (sLen + m) sCap) w') : Ost P o s w K := by
  subst had
  have hb := H.blk hi
  obtain ⟨i0, hi0, hi1, hi2, hi3⟩ := hE.inf
  subst hn
  have hr := run_append_room (P := P) w t o.type e i0 Ty.und hi0 g sLen sCap cur.toArray hb a news.length c news (by rw [hi1]; omega) hsrc h1 hroom (by rw [hi1]; simpa using hfit)
  rw [hi1] at hr
  refine .val (run_builtin ho (vs := [.slice (some ⟨g, 0, none⟩) sLen sCap, .slice (some a) news.length c]) (by simp only [mapEv, hx, hy]) (fun ty c a => rfl) hr) (hk _ ?_)
  refine H.repl hi ⟨rfl, rfl, rfl, by simp, fun k _ hS => setRow_other w g k _ (by simpa [HA.fp] using hS)⟩ ?_ (by simp [HA.fp])
  rw [Nat.mul_one]
  exact setRow_heap w g _ _ e _ hb
theorem ost_slice3 {t e : TypeId} {x lo hi mx : Operand} {k k' k2 : IntKind} {i j l : Int} {sz bytes sz' bytes' : Nat} {z z' : Value} {d : TypeDesc} {a : Option Addr} {n c : Nat} [Ty P t (.slice e) sz' bytes' z'] [Ty P e d sz bytes z] (ho : o.op = .slice t x (some lo) (some hi) (some mx)) (hx : ev s x = .slice a n c) (hi' : ev s lo = .int k i) (hj' : ev s hi = .int k' j) (hl' : ev s mx = .int k2 l)
    (h0 : 0 ≤ i) (h1 : i ≤ j) (h2 : j ≤ l) (h3 : l ≤ (c : Int)) (hk : K (.slice (if l.toNat = i.toNat then a else a.map (·.add (i.toNat * sz))) (j.toNat - i.toNat) (l.toNat - i.toNat)) w) : Ost P o s w K := by
  refine .val (v := _) ?_ hk
  have hA := run_sliceBound (P := P) (w := w) k2 l c .slice3Acap (by omega) h3
  have hB := run_sliceBound (P := P) (w := w) k' j l.toNat .slice3B (by omega) (by omega)
  have hC := run_sliceBound (P := P) (w := w) k i j.toNat .slice3C h0 (by omega)
  simp [execOp, ho, hx, hi', hj', hl', Instr.sliceAt, Ty.run_und, Instr.slice, Instr.sliceBounds, hA, hB, hC, Ty.run_size]
theorem ost_ext {f : Nat} {args : List Operand} {at_ : Array TypeId} {vs : List Value} {v : Value} (ho : o.op = .call { callee := .value (.func f), args := args.toArray, argTypes := at_ })
    (hr : (callFunc f vs.toArray).run P w = .ok (.value v) w) (hv : mapEv s args = vs) (hk : K v w) : Ost P o s w K := by
  refine .val (v := v) (w' := w) ?_ hk
  simp only [execOp, ho, resolve, Sem.run_bind, Deferred.ofValue, Sem.run_pure, Result.andThen_ok, invoke, mapEv_eq, hv]
  simpa using hr
theorem St.blk_ne {i j b b' : Nat} {ob ob' : Obj} (H : St ws S h0 h L w) (hi : L[i]? = some (.blk b ob)) (hj : L[j]? = some (.blk b' ob')) (hij : i ≠ j) : b ≠ b' := fun e => by
  subst e
  exact H.ap i j _ _ hij hi hj b (by simp [HA.fp]) (by simp [HA.fp])
theorem adr_add {c g k : Nat} {q : Int} (hq : q.toNat = k) (hc : c ≠ k) : (if c = q.toNat then some (⟨g, 0, none⟩ : Addr) else Option.map (fun x : Addr => x.add (q.toNat * 1)) (some (⟨g, 0, none⟩ : Addr))) = some ⟨g, k, none⟩ := by
  subst hq; rw [if_neg hc, Option.map_some, cell_add]; simp
theorem cell_in {g off : Nat} {cur cs : List Value} {T : TypeId} {fr : Nat × Nat} (hb : w.heap[g]? = some (.cells cur.toArray T fr)) (hc : ∀ j, j < cs.length → cur[off + j]? = cs[j]?) : ∀ j v, cs[j]? = some v → w.cell? ((⟨g, off, none⟩ : Addr).add j) = some v := fun j v hj => by
  rw [cell_add, cell_of_row w g _ _ _ _ hb, List.getElem?_toArray, hc j (List.getElem?_eq_some_iff.1 hj).1]; exact hj
theorem zeroCells_one (z : Value) (n : Nat) : Builtin.zeroCells #[z] n = (List.replicate n z).toArray := by
  apply Array.ext
  · simp [Builtin.zeroCells]
  · intro i h1 h2
    simp [Builtin.zeroCells, Nat.mod_one]
theorem ost_appGZ {x y : Operand} {t tn e : TypeId} {sz' bytes' bytes szn bytesn : Nat} {z' z zn : Value} {d : TypeDesc} {k kn : IntKind} {sLen sCap n : Nat} {m : Int} {base : Option Addr} {olds : List Value} [Ty P t (.slice e) sz' bytes' z'] [Ty P tn (.int kn) szn bytesn zn] [hE : Ty P e d 1 bytes z]
    (H : St ws S h0 h L w) (ho : o.op = .call { callee := .builtin .append, args := [x, y].toArray, argTypes := #[t, tn] }) (hx : ev s x = .slice base sLen sCap) (hy : ev s y = .int k m) (hmn : m = n) (hz : z.oneCell' = true)
    (hold : RdC (full w) base olds) (hol : olds.length = sLen) (h0' : 0 < n) (hg : sCap < sLen + n) (hbig : (sLen + n) * bytes ≤ 140737488355328) (hm : sLen + n ≤ 1000000000)
    (hk : ∀ b c' w', sLen + n ≤ c' → St ws S h0 h (.blk b (.cells (olds ++ List.replicate n z ++ List.replicate (c' - (sLen + n)) z).toArray e (0, 0)) :: L) w' → c' ≤ maxLen → K (.slice (some ⟨b, 0, none⟩) (sLen + n) c') w') : Ost P o s w K := by
  subst hmn
  obtain ⟨i0, hi0, hi1, hi2, hi3⟩ := hE.inf
  have hcs : z.cells = #[z] := by cases z <;> simp_all [Value.cells, Value.oneCell']
  have hfc : (Builtin.firstCells i0.size sLen (.slice base sLen sCap)).run P w.drew = .ok olds.toArray w.drew := by
    rw [hi1]
    cases base with
    | none =>
      have : olds = [] := by
        rcases hold with h | ⟨b, off, l, T, fr, h1, _⟩
        · exact h
        · cases h1
      subst this
      obtain rfl : sLen = 0 := by simpa using hol.symm
      exact run_firstCells_none _ _ _ _ _
    | some ad =>
      exact run_firstCells_some w.drew 1 sLen ad sLen sCap olds (by omega) (fun j v hj => hold.cells rfl j v hj)
  have hb0 : n * bytes ≤ (sLen + n) * bytes := Nat.mul_le_mul_right _ (by omega)
  have hr := Lib.run_append_grow_zeros (P := P) w t tn o.type e i0 z k kn Ty.und Ty.und hi0 hi3 base sLen sCap olds hfc n h0' (by omega) hg (by omega) (by rw [hi2]; omega) (by rw [hi2]; exact growslice_fits hg hbig)
  rw [hcs, zeroCells_one, zeroCells_one] at hr
  have hge := grownCap_ge w (sLen + n) sCap e
  have hgm := grownCap_le_maxLen w (sLen + n) sCap e (by simp only [maxLen]; omega)
  refine .val (run_builtin ho (vs := [.slice base sLen sCap, .int k n]) (by simp only [mapEv, hx, hy]) (fun ty c a => rfl) hr) (hk _ _ _ hge ?_ hgm)
  have := H.cons (w' := w.drew.alloc (.cells (olds.toArray ++ (List.replicate n z).toArray ++ (List.replicate (grownCap w (sLen + n) sCap e - (sLen + n)) z).toArray) e)) (A := .blk w.heap.size (.cells (olds ++ List.replicate n z ++ List.replicate (grownCap w (sLen + n) sCap e - (sLen + n)) z).toArray e (0, 0)))
    ((ext_drew w).trans (ext_alloc _ _)) (by
      show (w.drew.alloc _).heap[w.heap.size]? = _
      rw [show w.heap.size = w.drew.heap.size from rfl, heap_alloc_new]; simp) (by simp [HA.fp])
  exact this
end
theorem ost_clearB {P : Program} {o : Oper} {s : Env} {w : World} {K : Value → World → Prop} {ws : World} {S : List Nat} {h0 h : FH} {L : List HA} {t e : TypeId} {x : Operand} {sz' bytes' bytes : Nat} {z' z : Value} {d : TypeDesc} {a : Option Addr} {b off n c : Nat} {l : List Value} {T : TypeId} {i : Nat}
    [Ty P t (.slice e) sz' bytes' z'] [Ty P e d 1 bytes z] (H : St ws S h0 h L w) (ho : o.op = .call { callee := .builtin .clear, args := #[x], argTypes := #[t] }) (hx : ev s x = .slice a n c) (ha : 0 < n → a = some ⟨b, off, none⟩)
    (h1 : z.oneCell' = true) (hi : L[i]? = some (.blk b (.cells l.toArray T (0, 0)))) (hlt : off + n ≤ l.length)
    (hk : ∀ w', St ws S h0 h (L.set i (.blk b (.cells (l.take off ++ List.replicate n z ++ l.drop (off + n)).toArray T (0, 0)))) w' → K (.tuple #[]) w') : Ost P o s w K := by
  have hb := H.blk hi
  by_cases hn : 0 < n
  · have he := ha hn
    subst he
    have hcs : z.cells = #[z] := by cases z <;> simp_all [Value.cells, Value.oneCell']
    have hzc : (Builtin.zeroCells #[z] n).toList = List.replicate n z := by
      apply List.ext_getElem
      · simp [Builtin.zeroCells]
      · intro i g1 g2
        simp [Builtin.zeroCells, Nat.mod_one]
    have hst := run_storeCells_at P b off T (List.replicate n z) 0 l.toArray w hb (by simpa using hlt) (by intro v hv; rw [List.eq_of_mem_replicate hv]; exact h1)
    simp only [Nat.add_zero] at hst
    rw [List.length_replicate] at hst
    refine .val (v := .tuple #[]) (w' := w.setRow b (l.take off ++ List.replicate n z ++ l.drop (off + n)).toArray) ?_ (hk _ ?_)
    · obtain ⟨m, rfl⟩ : ∃ m, n = m + 1 := ⟨n - 1, by omega⟩
      simp only [execOp, ho, hx, resolve, invoke, builtin, Builtin.clear_]
      simp [hx, Ty.run_und, Ty.run_zero, hcs, hzc]
      rw [hst, List.append_assoc]; rfl
    · refine H.repl hi ⟨rfl, rfl, rfl, by simp, fun k _ hS => setRow_other w b k _ (by simpa [HA.fp] using hS)⟩ ?_ (by simp [HA.fp])
      exact setRow_heap w b _ _ T _ hb
  · obtain rfl : n = 0 := by omega
    refine .val (v := .tuple #[]) (w' := w) ?_ (hk _ ?_)
    · cases a <;> simp [execOp, ho, hx, resolve, invoke, builtin, Builtin.clear_, Ty.run_und]
    · have : L.set i (.blk b (.cells (l.take off ++ List.replicate 0 z ++ l.drop (off + 0)).toArray T (0, 0))) = L := by
        rw [List.replicate_zero, List.append_nil, Nat.add_zero, List.take_append_drop]
        apply List.ext_getElem?
        intro q
        rw [List.getElem?_set]
        split
        · rename_i hq
          subst hq
          rw [hi, if_pos (List.getElem?_eq_some_iff.1 hi).1]
        · rfl
      rw [this]; exact H
theorem St.blkOwnB {ws w : World} {S : List Nat} {h0 h : FH} {L : List HA} (H : St ws S h0 h L w) {i b : Nat} {l : List Value} {e : TypeId} {n c : Nat} (hi : L[i]? = some (.blk b (.cells l.toArray e (0, 0)))) (hl : l.length = c) (hn : n ≤ c) (hm : c ≤ maxLen) :
    St ws S h0 h (L.set i (.own (.slice (some ⟨b, 0, none⟩) n c) e 1 n (l.take n))) w :=
  H.repl hi (Fr.refl _ _) ⟨by rw [List.length_take]; omega, .inr ⟨b, c, l.toArray, rfl, Nat.zero_le _, H.blk hi, hn, hm, by simpa using hl, by simp⟩⟩ (by simp [HA.fp, Value.ownBlock])
end Go.Tg

