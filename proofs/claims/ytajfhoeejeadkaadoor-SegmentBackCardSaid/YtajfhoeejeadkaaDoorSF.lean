/- Contracts of Go functions that the laws reach: what each call answers and leaves in memory, for all arguments within the bounds that each theorem names. -/
import Derived.Test.YtajfhoeejeadkaaDoorInst
import Derived.Test.YtajfhoeejeadkaaDoorAuto
import Derived.Test.YtajfhoeejeadkaaDoorSE
set_option linter.unusedVariables false
set_option linter.unusedSimpArgs false
set_option maxRecDepth 100000
set_option maxHeartbeats 4000000
namespace Go.Tg
open Go Go.Proofs
inductive GK where
  | row (n c : Nat) (cs : List Value)
  | grown (n : Nat) (cs : List Value)
  | ptr (x : Value)
def gk : GK → Value → World → Prop
  | .row n c cs, v, w => ∃ b l T fr, v = .slice (some ⟨b, 0, none⟩) n c ∧ w.heap[b]? = some (.cells (List.toArray l) T fr) ∧ l.take n = cs
  | .grown n cs, v, w => ∃ b l T fr c, v = .slice (some ⟨b, 0, none⟩) n c ∧ w.heap[b]? = some (.cells (List.toArray l) T fr) ∧ l.take n = cs
  | .ptr x, v, w => ∃ b off l T fr, v = .pointer (some ⟨b, off, none⟩) ∧ w.heap[b]? = some (.cells (List.toArray l) T fr) ∧ l[off]? = some x
theorem gk_ext {k : GK} {v : Value} {w w' : World} (h : gk k v w) (hE : Ext w w') : gk k v w' := by
  cases k with
  | row n c cs => obtain ⟨b, l, T, fr, h1, h2, h3⟩ := h; exact ⟨b, l, T, fr, h1, full_ext hE _ _ h2, h3⟩
  | grown n cs => obtain ⟨b, l, T, fr, c, h1, h2, h3⟩ := h; exact ⟨b, l, T, fr, c, h1, full_ext hE _ _ h2, h3⟩
  | ptr x => obtain ⟨b, off, l, T, fr, h1, h2, h3⟩ := h; exact ⟨b, off, l, T, fr, h1, full_ext hE _ _ h2, h3⟩
def GG (l : List (Nat × GK)) : GF := fun i => match l.lookup i with | some k => some (gk k) | none => none
theorem pf_G {ops : Array Oper} {l : List (Nat × GK)} {i : Nat} {vs : Nat → Value} {w : World} {k : GK} (hP : PFs ops (GG l) i vs w) (p : Nat) (hd : direct ops i p = true) (hl : l.lookup p = some k) (hs : (dstOf ops p).isSome = true) : gk k (vs p) w :=
  hP p (gk k) hd (by unfold GG; rw [hl]) hs
theorem Wc.drawnR {P : Program} {w0 : World} {n : Nat} {Q : Exit → Env → World → Prop} {s0 : Env} (kb : Nat) (g : List (Nat × GK)) {id : Nat} {l : List Oper} [hm : Mix P] (hok : drawOk n kb l.toArray = true)
    (h : RGs P l.toArray (GG g) w0 (fun sk => ∀ vs w, Ext w0 w → WL P n l.toArray Q (l.drop kb) (sk vs) w) 0 (l.take kb) (fun _ => s0)) :
    Wc P n (.region id l.toArray true) Q s0 w0 := by
  refine Wc.draw (G := GG g) kb hok hm.m (fun i q hq v w w' hv hE => ?_) ?_
  · unfold GG at hq
    cases hl : g.lookup i with
    | none => rw [hl] at hq; cases hq
    | some xs => rw [hl] at hq; cases hq; exact gk_ext hv hE
  · have key : ∀ (i : Nat) (rest : List Oper) (sk : (Nat → Value) → Env), RGs P l.toArray (GG g) w0 (fun sk => ∀ vs w, Ext w0 w → WL P n l.toArray Q (l.drop kb) (sk vs) w) i rest sk →
        RGs P l.toArray (GG g) w0 (fun sk => ∀ vs w, Ext w0 w → (∀ p q, p < kb → GG g p = some q → (dstOf l.toArray p).isSome = true → q (vs p) w) → WL P n l.toArray Q (l.drop kb) (sk vs) w) i rest sk := by
      intro i rest
      induction rest generalizing i with
      | nil => intro sk h; unfold RGs at h ⊢; exact fun vs w hE _ => h vs w hE
      | cons o rest ih =>
        intro sk h
        unfold RGs at h ⊢
        cases hg : GG g i with
        | some q => simp only [hg] at h ⊢; exact ⟨h.1, ih _ _ h.2⟩
        | none => simp only [hg] at h ⊢; obtain ⟨X, h1, h2⟩ := h; exact ⟨X, h1, ih _ _ h2⟩
    exact key _ _ _ h
section
variable {P : Program} {o : Oper} {s : Env} {w : World} {K : Value → World → Prop}
theorem ost_buildG {t e : TypeId} {bytes sz' bytes' : Nat} {z z' : Value} {d : TypeDesc} {x : Operand} {y : Value} [Ty P t (.slice e) sz' bytes' z'] [hE : Ty P e d 1 bytes z]
    (ho : o.op = .buildSlice t 1 [(0, x)].toArray) (hz : z.cells.size = 1) (hx : ev s x = y) (hy : y.cells = [y].toArray) (hk : ∀ v w', Ext w w' → gk (.row 1 1 [y]) v w' → K v w') : Ost P o s w K := by
  refine ost_buildR (rows := [[y]]) (St.start (sat_full w)) ho (by decide) (by decide) hz (vs := [(0, y)]) (by simp [evP, hx]) (.cons (by rw [hy]) .nil) rfl (by simp) fun b w' H => ?_
  obtain ⟨g, cur, e5, hnc, hlen, ht, H2⟩ := H.ownBlk (i := 0) rfl (by decide)
  injection e5 with e5; injection e5 with e6 _
  subst e6
  exact hk _ _ H.fr ⟨b, cur, e, (0, 0), rfl, H2.ok 0 _ rfl, ht⟩
theorem ost_appG {x y : Operand} {t e : TypeId} {bytes sz' bytes' : Nat} {z z' : Value} {d : TypeDesc} {n m c : Nat} {a : Option Addr} {cs news : List Value} [Ty P t (.slice e) sz' bytes' z'] [hE : Ty P e d 1 bytes z]
    (ho : o.op = .call { callee := .builtin .append, args := [x, y].toArray, argTypes := #[t, t] }) (hx : gk (.row n n cs) (ev s x) w) (hn : cs.length = n) (hy : ev s y = .slice a m c) (hr : RdC (full w) a news) (hl : news.length = m) (hm : 0 < m) (hb : (n + m) * bytes ≤ 140737488355328) (hb2 : n + m ≤ 1000000)
    (hk : ∀ v w', Ext w w' → gk (.grown (n + m) (cs ++ news)) v w' → K v w') : Ost P o s w K := by
  obtain ⟨b, l, T, fr, e1, hh, ht⟩ := hx
  rcases hr with rfl | ⟨b2, off2, l2, T2, fr2, rfl, hb3, hb4⟩
  · simp at hl; omega
  obtain ⟨i, hi, hi1, hi2, hi3⟩ := hE.inf
  have holds : ∀ j v, cs[j]? = some v → w.cell? ((⟨b, 0, none⟩ : Addr).add j) = some v := fun j v hj => by
    rw [cell_add, cell_of_row w b (0 + j) l.toArray T fr hh]
    rw [← ht, List.getElem?_take] at hj
    split at hj
    · simpa using hj
    · cases hj
  have hnews : ∀ j v, news[j]? = some v → w.cell? ((⟨b2, off2, none⟩ : Addr).add j) = some v := (show RdC (full w) (some ⟨b2, off2, none⟩) news from .inr ⟨b2, off2, l2, T2, fr2, rfl, hb3, hb4⟩).cells rfl
  have hg := run_append_grow (P := P) w t o.type e i z Ty.und hi hi3 ⟨b, 0, none⟩ n n cs (by rw [hi1, hn]; omega) holds ⟨b2, off2, none⟩ m c news (by rw [hi1]; omega) hnews (by omega) (by omega) (growslice_fits (by omega) (by rw [hi2]; exact hb))
  refine .val (run_builtin ho (vs := [.slice (some ⟨b, 0, none⟩) n n, .slice (some ⟨b2, off2, none⟩) m c]) (by simp only [mapEv, e1, hy]) (fun ty c a => rfl) hg) (hk _ _ ?_ ?_)
  · exact fr_grown (v := .slice none 0 0) (show w.grownBy _ none from ⟨rfl, rfl, rfl, by simp, fun k hk _ => heap_alloc_old w.drew _ k hk⟩)
  · refine ⟨w.heap.size, (cs.toArray ++ news.toArray ++ Builtin.zeroCells z.cells (grownCap w (n + m) n e - (n + m))).toList, e, (0, 0), _, rfl, heap_alloc_new w.drew _, ?_⟩
    rw [Array.toList_append, Array.toList_append, List.take_left' (by rw [List.length_append, hn, hl])]
theorem ost_idxG {t : TypeId} {x y : Operand} {k : IntKind} {i : Int} {n : Nat} {cs : List Value} {u : Value} {e : TypeId} {d : TypeDesc} {sz bytes bytes' : Nat} {z z' : Value} [Ty P t (.slice e) sz bytes z] [Ty P e d 1 bytes' z'] (ho : o.op = .indexAddr t x y)
    (ha : gk (.grown n cs) (ev s x) w) (hi : ev s y = .int k i) (h0 : 0 ≤ i) (h1 : i < (n : Int)) (hu : cs[i.toNat]? = some u) (hk : ∀ v, gk (.ptr u) v w → K v w) : Ost P o s w K := by
  obtain ⟨b, l, T, fr, c, e1, hh, ht⟩ := ha
  refine ost_idxSl ho e1 hi h0 h1 (hk _ ⟨b, 0 + i.toNat * 1, l, T, fr, rfl, hh, ?_⟩)
  rw [← ht, List.getElem?_take] at hu
  split at hu
  · rw [show 0 + i.toNat * 1 = i.toNat by omega]; exact hu
  · cases hu
theorem ost_loadG {t : TypeId} {x : Operand} {d : TypeDesc} {sz bytes : Nat} {z u : Value} [Ty P t d sz bytes z] (ho : o.op = .load t x) (hd : isAggD d = false) (ha : gk (.ptr u) (ev s x) w) (hk : K u w) : Ost P o s w K := by
  obtain ⟨b, off, l, T, fr, e1, hh, ht⟩ := ha
  exact ost_load1 ho hd e1 hh ht hk
end
theorem endsR_get (k : Nat) (g : List OpT) : ∀ (i : Nat) (h : i < (endsR k g).length), (endsR k g)[i] = k + (recsB (g.take (i + 1))).length := by
  induction g generalizing k with
  | nil => intro i h; exact absurd h (by simp [endsR])
  | cons o g ih =>
    intro i h
    cases i with
    | zero => simp [endsR, recsB]
    | succ i =>
      simp only [endsR, List.getElem_cons_succ]
      rw [ih, List.take_succ_cons, recsB_cons, List.length_append]; omega
theorem ends_ats (k : Nat) (g : List OpT) {i : Nat} (h : i < g.length) : (k :: endsR k g)[i]? = some (k + (recsB (g.take i)).length) := by
  cases i with
  | zero => simp [recsB]
  | succ i =>
    have h1 : i < (endsR k g).length := by rw [endsR_len]; omega
    rw [List.getElem?_cons_succ, List.getElem?_eq_getElem h1, endsR_get]
theorem endsR_ge (k : Nat) (g : List OpT) : ∀ x, x ∈ endsR k g → k ≤ x := by
  induction g generalizing k with
  | nil => intro x h; exact (List.not_mem_nil h).elim
  | cons o g ih =>
    intro x h
    simp only [endsR, List.mem_cons] at h
    rcases h with rfl | h
    · omega
    · have := ih _ x h; omega
def cntE (l : List Nat) (k : Nat) : Nat := (l.filter fun x => decide (x ≤ k)).length
theorem cntE_yes {l : List Nat} {k i : Nat} (h : i < l.length) (hx : l[i] ≤ k) : cntE (l.take (i + 1)) k = cntE (l.take i) k + 1 := by
  unfold cntE
  rw [List.take_add_one, List.getElem?_eq_getElem h, List.filter_append, List.length_append]
  simp [hx]
theorem cntE_no {l : List Nat} {k i : Nat} (h : i < l.length) (hx : ¬ l[i] ≤ k) : cntE (l.take (i + 1)) k = cntE (l.take i) k := by
  unfold cntE
  rw [List.take_add_one, List.getElem?_eq_getElem h, List.filter_append, List.length_append]
  simp; omega
theorem recs_cut : ∀ (g : List OpT) (j : Nat), j ≤ (recsB g).length → ∃ (n : Nat) (r : List UInt8), n ≤ g.length ∧ (recsB g).take j = recsB (g.take n) ++ r ∧ frames r = [] ∧ (∀ base, cntE (endsR base g) (base + j) = n) ∧ (recsB (g.take n)).length ≤ j
  | [], j, h => ⟨0, [], Nat.le_refl _, by simp [recsB], frames_nil, fun _ => rfl, by simp [recsB]⟩
  | o :: g, j, h => by
    rw [recsB_cons, List.length_append] at h
    by_cases hj : j < (recB o).length
    · refine ⟨0, (recB o).take j, Nat.zero_le _, ?_, frames_cut (xs := recF o) (by have := recF_len o; omega) hj, fun base => ?_, by simp [recsB]⟩
      · rw [recsB_cons, List.take_append_of_le_length (by omega)]; simp [recsB]
      · unfold cntE
        rw [List.length_eq_zero_iff, List.filter_eq_nil_iff]
        intro x hx
        simp only [endsR, List.mem_cons] at hx
        rcases hx with rfl | hx
        · simp; omega
        · have := endsR_ge _ _ x hx
          simp; omega
    · obtain ⟨n, r, h1, h2, h3, h4, h5⟩ := recs_cut g (j - (recB o).length) (by omega)
      refine ⟨n + 1, r, by simp; omega, ?_, h3, fun base => ?_, ?_⟩
      · rw [recsB_cons, List.take_append, List.take_of_length_le (by omega), h2, List.take_succ_cons, recsB_cons, List.append_assoc]
      · have h6 := h4 (base + (recB o).length)
        rw [show base + (recB o).length + (j - (recB o).length) = base + j by omega] at h6
        unfold cntE at h6 ⊢
        rw [endsR, List.filter_cons_of_pos (by simp; omega), List.length_cons, h6]
      · rw [List.take_succ_cons, recsB_cons, List.length_append]; omega
end Go.Tg

