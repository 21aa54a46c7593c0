/- copy, append in place, append of zeros and clear, to a block that is owned, of elements of any size. -/
import Derived.Test.YtbfilhaigbebpaaCpy
set_option linter.unusedVariables false
set_option linter.unusedSimpArgs false
namespace Go.Tg
open Go
section
variable {P : Program} {o : Oper} {s : Env} {w : World} {K : Value → World → Prop} {ws : World} {S : List Nat} {h0 h : FH} {L : List HA}
theorem run_copy_rowN (w : World) (dT sT ty elem : TypeId) (g o dLen dCap : Nat) (a : Addr) (sLen sCap sz : Nat) (cur : Array Value) (t : TypeId) (cs : List Value)
    (hu : P.underlying dT = some (.slice elem)) (hs : (P.info? elem).map (·.size) = some sz)
    (hg : w.heap[g]? = some (.cells cur t (0, 0))) (hn : cs.length = Nat.min sLen dLen * sz)
    (hsrc : ∀ j v, cs[j]? = some v → w.cell? (a.add j) = some v) (hfit : o + cs.length ≤ cur.size) (h1 : ∀ v ∈ cs, v.oneCell' = true) :
    (Builtin.copy_ #[dT, sT] ty #[.slice (some ⟨g, o, none⟩) dLen dCap, .slice (some a) sLen sCap]).run P w =
      .ok (goInt (Nat.min sLen dLen)) (w.setRow g (cur.toList.take o ++ cs ++ cur.toList.drop (o + cs.length)).toArray) := by
  have hl := run_loadCells_list (P := P) w a cs hsrc
  have hst := run_storeCells_at P g o t cs 0 cur w hg (by simpa using hfit) h1
  cases hq : P.info? elem with
  | none => simp [hq] at hs
  | some i =>
    have hi : i.size = sz := by simpa [hq] using hs
    simp [Builtin.copy_, run_underlying hu, Builtin.lenOf, Builtin.firstCells, sizeOf, typeInfo, hq, hi, ← hn, hl, hst]
theorem ost_copyN {x y : Operand} {t t' e : TypeId} {sz' bytes' sz bytes : Nat} {z' z : Value} {d : TypeDesc} {g off dLen dCap sLen sCap i : Nat} {a : Addr} {cur cs : List Value} {T : TypeId} [Ty P t (.slice e) sz' bytes' z'] [hE : Ty P e d sz bytes z]
    (H : St ws S h0 h L w) (ho : o.op = .call { callee := .builtin .copy, args := [x, y].toArray, argTypes := #[t, t'] }) {ad ax : Option Addr} (hx : ev s x = .slice ax dLen dCap) (hax : ax = some ⟨g, off, none⟩) (hy : ev s y = .slice ad sLen sCap) (had : ad = some a)
    (hi : L[i]? = some (.blk g (.cells cur.toArray T (0, 0)))) (hn : cs.length = min sLen dLen * sz) (hsrc : ∀ j v, cs[j]? = some v → w.cell? (a.add j) = some v) (hfit : off + cs.length ≤ cur.length) (h1 : ∀ v ∈ cs, v.oneCell' = true)
    (hk : ∀ w', St ws S h0 h (L.set i (.blk g (.cells (cur.take off ++ cs ++ cur.drop (off + cs.length)).toArray T (0, 0)))) w' → K (.int .i64 (min sLen dLen : Nat)) w') : Ost P o s w K := by
  subst hax; subst had
  have hb := H.blk hi
  obtain ⟨i0, hi0, hi1, hi2, hi3⟩ := hE.inf
  have hr := run_copy_rowN (P := P) w t t' o.type e g off dLen dCap a sLen sCap sz cur.toArray T cs Ty.und (by rw [hi0]; simp [hi1]) hb (by rw [hn]) hsrc (by simpa using hfit) h1
  refine .val (run_builtin ho (vs := [.slice (some ⟨g, off, none⟩) dLen dCap, .slice (some a) sLen sCap]) (by simp only [mapEv, hx, hy]) (fun ty c a => rfl) hr) (hk _ ?_)
  refine H.repl hi ⟨rfl, rfl, rfl, by simp, fun k _ hS => setRow_other w g k _ (by simpa [HA.fp] using hS)⟩ ?_ (by simp [HA.fp])
  exact setRow_heap w g _ _ T _ hb
theorem ost_appInN {x y : Operand} {t e : TypeId} {sz' bytes' sz bytes : Nat} {z' z : Value} {d : TypeDesc} {g sLen sCap m c i : Nat} {a : Addr} {cur news : List Value} [Ty P t (.slice e) sz' bytes' z'] [hE : Ty P e d sz bytes z]
    (H : St ws S h0 h L w) (ho : o.op = .call { callee := .builtin .append, args := [x, y].toArray, argTypes := #[t, t] }) {ad : Option Addr} (hx : ev s x = .slice (some ⟨g, 0, none⟩) sLen sCap) (hy : ev s y = .slice ad m c) (had : ad = some a)
    (hi : L[i]? = some (.blk g (.cells cur.toArray e (0, 0)))) (hn : news.length = m * sz) (hsrc : ∀ j v, news[j]? = some v → w.cell? (a.add j) = some v) (hroom : sLen + m ≤ sCap) (hfit : sLen * sz + news.length ≤ cur.length) (h1 : ∀ v ∈ news, v.oneCell' = true)
    (hk : ∀ w', St ws S h0 h (L.set i (.blk g (.cells (cur.take (sLen * sz) ++ news ++ cur.drop (sLen * sz + news.length)).toArray e (0, 0)))) w' → K (.slice (some ⟨g, 0, none⟩) (sLen + m) sCap) w') : Ost P o s w K := by
  subst had
  have hb := H.blk hi
  obtain ⟨i0, hi0, hi1, hi2, hi3⟩ := hE.inf
  have hr := run_append_room (P := P) w t o.type e i0 Ty.und hi0 g sLen sCap cur.toArray hb a m c news (by rw [hi1]; exact hn) hsrc h1 hroom (by rw [hi1]; simpa using hfit)
  rw [hi1] at hr
  refine .val (run_builtin ho (vs := [.slice (some ⟨g, 0, none⟩) sLen sCap, .slice (some a) m c]) (by simp only [mapEv, hx, hy]) (fun ty c a => rfl) hr) (hk _ ?_)
  refine H.repl hi ⟨rfl, rfl, rfl, by simp, fun k _ hS => setRow_other w g k _ (by simpa [HA.fp] using hS)⟩ ?_ (by simp [HA.fp])
  exact setRow_heap w g _ _ e _ hb
theorem zeroCells_len (z : Array Value) (n : Nat) : (Builtin.zeroCells z n).toList.length = n * z.size := by simp [Builtin.zeroCells]
theorem zeroCells_all {z : Array Value} {n : Nat} (h : ∀ v ∈ z.toList, v.oneCell' = true) : ∀ v ∈ (Builtin.zeroCells z n).toList, v.oneCell' = true := by
  intro v hv
  simp only [Builtin.zeroCells, Array.toList_map, List.mem_map] at hv
  obtain ⟨i, hi, rfl⟩ := hv
  simp only [Array.toList_range, List.mem_range] at hi
  have hz : 0 < z.size := by
    rcases Nat.eq_zero_or_pos z.size with h0 | h0
    · rw [h0] at hi; omega
    · exact h0
  have hm := Nat.mod_lt i hz
  rw [getElem!_pos z (i % z.size) hm]
  exact h _ (by simp)
theorem ost_appGZN {x y : Operand} {t tn e : TypeId} {sz' bytes' sz bytes szn bytesn : Nat} {z' z zn : Value} {d : TypeDesc} {k kn : IntKind} {sLen sCap n : Nat} {m : Int} {base : Option Addr} {olds : List Value} [Ty P t (.slice e) sz' bytes' z'] [Ty P tn (.int kn) szn bytesn zn] [hE : Ty P e d sz bytes z]
    (H : St ws S h0 h L w) (ho : o.op = .call { callee := .builtin .append, args := [x, y].toArray, argTypes := #[t, tn] }) (hx : ev s x = .slice base sLen sCap) (hy : ev s y = .int k m) (hmn : m = n) (hz : z.cells.size = sz) (hsz : 0 < sz)
    (hold : RdC (full w) base olds) (hol : olds.length = sLen * sz) (h0' : 0 < n) (hg : sCap < sLen + n) (hbig : (sLen + n) * bytes ≤ 140737488355328) (hm : sLen + n ≤ 1000000000)
    (hk : ∀ b c' w' zs, sLen + n ≤ c' → c' ≤ maxLen → zs.length = (c' - sLen) * sz → St ws S h0 h (.blk b (.cells (olds ++ zs).toArray e (0, 0)) :: L) w' → K (.slice (some ⟨b, 0, none⟩) (sLen + n) c') w') : Ost P o s w K := by
  subst hmn
  obtain ⟨i0, hi0, hi1, hi2, hi3⟩ := hE.inf
  have hfc : (Builtin.firstCells i0.size sLen (.slice base sLen sCap)).run P w.drew = .ok olds.toArray w.drew := by
    rw [hi1]
    cases base with
    | none =>
      have : olds = [] := by
        rcases hold with h | ⟨b, off, l, T, fr, h1, _⟩
        · exact h
        · cases h1
      subst this
      obtain rfl : sLen = 0 := by
        rcases Nat.eq_zero_or_pos sLen with h | h
        · exact h
        · have := Nat.mul_pos h hsz; simp at hol; omega
      exact run_firstCells_none _ _ _ _ _
    | some ad =>
      exact run_firstCells_some w.drew sz sLen ad sLen sCap olds hol (fun j v hj => hold.cells rfl j v hj)
  have hb0 : n * bytes ≤ (sLen + n) * bytes := Nat.mul_le_mul_right _ (by omega)
  have hr := Lib.run_append_grow_zeros (P := P) w t tn o.type e i0 z k kn Ty.und Ty.und hi0 hi3 base sLen sCap olds hfc n h0' (by omega) hg (by omega) (by rw [hi2]; omega) (by rw [hi2]; exact growslice_fits hg hbig)
  have hge := grownCap_ge w (sLen + n) sCap e
  have hgm := grownCap_le_maxLen w (sLen + n) sCap e (by simp only [maxLen]; omega)
  refine .val (run_builtin ho (vs := [.slice base sLen sCap, .int k n]) (by simp only [mapEv, hx, hy]) (fun ty c a => rfl) hr) (hk w.heap.size _ _ ((Builtin.zeroCells z.cells n).toList ++ (Builtin.zeroCells z.cells (grownCap w (sLen + n) sCap e - (sLen + n))).toList) hge hgm ?_ ?_)
  · rw [List.length_append, zeroCells_len, zeroCells_len, hz, ← Nat.add_mul]; congr 1; omega
  · have := H.cons (w' := w.drew.alloc (.cells (olds.toArray ++ Builtin.zeroCells z.cells n ++ Builtin.zeroCells z.cells (grownCap w (sLen + n) sCap e - (sLen + n))) e)) (A := .blk w.heap.size (.cells (olds ++ ((Builtin.zeroCells z.cells n).toList ++ (Builtin.zeroCells z.cells (grownCap w (sLen + n) sCap e - (sLen + n))).toList)).toArray e (0, 0)))
      ((ext_drew w).trans (ext_alloc _ _)) (by
        show (w.drew.alloc _).heap[w.heap.size]? = _
        rw [show w.heap.size = w.drew.heap.size from rfl, heap_alloc_new]
        congr 2
        apply Array.ext'
        simp) (by simp [HA.fp])
    exact this
theorem ost_clearN {t e : TypeId} {x : Operand} {sz' bytes' sz bytes : Nat} {z' z : Value} {d : TypeDesc} {a : Option Addr} {b off n c : Nat} {l : List Value} {T : TypeId} {i : Nat}
    [Ty P t (.slice e) sz' bytes' z'] [Ty P e d sz bytes z] (H : St ws S h0 h L w) (ho : o.op = .call { callee := .builtin .clear, args := #[x], argTypes := #[t] }) (hx : ev s x = .slice a n c) (hn : 0 < n) (ha : a = some ⟨b, off, none⟩)
    (h1 : ∀ v ∈ z.cells.toList, v.oneCell' = true) (hz : z.cells.size = sz) (hi : L[i]? = some (.blk b (.cells l.toArray T (0, 0)))) (hlt : off + n * sz ≤ l.length)
    (hk : ∀ w' zs, zs.length = n * sz → St ws S h0 h (L.set i (.blk b (.cells (l.take off ++ zs ++ l.drop (off + n * sz)).toArray T (0, 0)))) w' → K (.tuple #[]) w') : Ost P o s w K := by
  have hb := H.blk hi
  subst ha
  have hzl : (Builtin.zeroCells z.cells n).toList.length = n * sz := by rw [zeroCells_len, hz]
  have hst := run_storeCells_at P b off T (Builtin.zeroCells z.cells n).toList 0 l.toArray w hb (by rw [hzl]; simpa using hlt) (zeroCells_all h1)
  simp only [Nat.add_zero] at hst
  rw [hzl] at hst
  refine .val (v := .tuple #[]) (w' := w.setRow b (l.take off ++ (Builtin.zeroCells z.cells n).toList ++ l.drop (off + n * sz)).toArray) ?_ (hk _ _ hzl ?_)
  · obtain ⟨m, rfl⟩ : ∃ m, n = m + 1 := ⟨n - 1, by omega⟩
    simp only [execOp, ho, hx, resolve, invoke, builtin, Builtin.clear_]
    simp [hx, Ty.run_und, Ty.run_zero]
    rw [hst, List.append_assoc]; rfl
  · refine H.repl hi ⟨rfl, rfl, rfl, by simp, fun k _ hS => setRow_other w b k _ (by simpa [HA.fp] using hS)⟩ ?_ (by simp [HA.fp])
    exact setRow_heap w b _ _ T _ hb
theorem St.blkOwnN (H : St ws S h0 h L w) {i b : Nat} {l : List Value} {e : TypeId} {n c sz : Nat} (hi : L[i]? = some (.blk b (.cells l.toArray e (0, 0)))) (hl : l.length = c * sz) (hn : n ≤ c) (hm : c ≤ maxLen) :
    St ws S h0 h (L.set i (.own (.slice (some ⟨b, 0, none⟩) n c) e sz n (l.take (n * sz)))) w :=
  H.repl hi (Fr.refl _ _) ⟨by rw [List.length_take, Nat.min_eq_left (by rw [hl]; exact Nat.mul_le_mul_right _ hn)], .inr ⟨b, c, l.toArray, rfl, Nat.zero_le _, H.blk hi, hn, hm, by simpa using hl, by simp⟩⟩ (by simp [HA.fp, Value.ownBlock])
theorem adr_addN {c g k sz : Nat} {q : Int} (hq : q.toNat = k) (hc : c ≠ k) : (if c = q.toNat then some (⟨g, 0, none⟩ : Addr) else Option.map (fun x : Addr => x.add (q.toNat * sz)) (some (⟨g, 0, none⟩ : Addr))) = some ⟨g, k * sz, none⟩ := by
  subst hq; rw [if_neg hc, Option.map_some, cell_add]; simp
end
end Go.Tg

