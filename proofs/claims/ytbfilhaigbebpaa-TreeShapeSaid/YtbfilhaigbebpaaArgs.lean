/- The arguments of a law, out of their data: rows of cells, texts of bytes, numbers. -/
import Derived.ChangeArms
import Derived.Test.YtbfilhaigbebpaaLift
import Derived.Test.YtbfilhaigbebpaaSl
set_option linter.unusedVariables false
set_option linter.unusedSimpArgs false
namespace Go.Tg
open Go Go.RowKit Go.ChangeShapes Go.WideShapes Go.ChangeAt
section
variable {H : Type} {enc : TypeId × Value → H} {P : Program} {W : World} {sp : Nat → Bool}
def Td (enc : TypeId × Value → H) (P : Program) (W : World) (sp : Nat → Bool) (t : TypeId) (cs : List Value) : Prop := ∃ fuel x, DataW.trod enc P W 0 sp true fuel t cs = some x
theorem Td.of {t : TypeId} {v : Value} {d : DataW H} {p : List MemPlace} (h : DataW.Trod enc P W 0 sp true t v d p) : Td enc P W sp t v.cells.toList := by
  obtain ⟨f, hf⟩ := h; exact ⟨f, _, hf⟩
theorem inK_of {k : IntKind} {n : Int} (h : (Lit.int k n).wf = true) : inK k n := by
  simp only [Lit.wf, Bool.and_eq_true, decide_eq_true_eq] at h
  cases k <;> simp [IntKind.min, IntKind.max, IntKind.bits, IntKind.signed] at h <;> simp only [inK] <;> omega
theorem Td.int {t : TypeId} {k : IntKind} {cs : List Value} (h : Td enc P W sp t cs) (ht : P.underlying t = some (.int k)) : ∃ n, cs = [.int k n] ∧ inK k n := by
  obtain ⟨fuel, x, h⟩ := h
  obtain ⟨n, h1, _, h2⟩ := DataW.trod_int ht h
  exact ⟨n, h1, inK_of h2⟩
theorem Td.nat {t : TypeId} {k : IntKind} {cs : List Value} (h : Td enc P W sp t cs) (ht : P.underlying t = some (.int k)) (hk : k.signed = false) : ∃ n : Nat, cs = [.int k n] ∧ inK k n := by
  obtain ⟨n, h1, h2⟩ := h.int ht
  have : 0 ≤ n := by cases k <;> simp [IntKind.signed] at hk <;> simp only [inK] at h2 <;> omega
  exact ⟨n.toNat, by rw [h1, Int.toNat_of_nonneg this], by rw [Int.toNat_of_nonneg this]; exact h2⟩
theorem Td.bool {t : TypeId} {cs : List Value} (h : Td enc P W sp t cs) (ht : P.underlying t = some .bool) : ∃ b, cs = [.bool b] := by
  obtain ⟨fuel, x, h⟩ := h
  obtain ⟨b, h1, _⟩ := DataW.trod_bool ht h
  exact ⟨b, h1⟩
theorem Td.struct {t : TypeId} {fs : List Field} {cs : List Value} (h : Td enc P W sp t cs) (ht : P.underlying t = some (.struct fs.toArray)) : cs.length = P.cellsOf t ∧ ∀ f, f ∈ fs → Td enc P W sp f.type ((cs.drop f.offset).take (P.cellsOf f.type)) := by
  obtain ⟨fuel, x, h⟩ := h
  obtain ⟨xs, n, rfl, _, h1, h2, h3⟩ := DataW.trod_struct ht h
  refine ⟨h1, fun f hf => ?_⟩
  obtain ⟨i, hi⟩ := List.getElem?_of_mem hf
  have h4 := h3 i f (by simpa using hi)
  have hlt : i < xs.length := by rw [h2]; simpa using (List.getElem?_eq_some_iff.1 hi).1
  rw [List.getElem?_eq_getElem hlt] at h4
  exact ⟨n, _, h4⟩
theorem Td.array {t e : TypeId} {m : Nat} {cs : List Value} (h : Td enc P W sp t cs) (ht : P.underlying t = some (.array m e)) : cs.length = P.cellsOf t ∧ ∀ i, i < m → Td enc P W sp e ((cs.drop (i * P.cellsOf e)).take (P.cellsOf e)) := by
  obtain ⟨fuel, x, h⟩ := h
  cases fuel with
  | zero => simp [DataW.trod] at h
  | succ n =>
    unfold DataW.trod at h
    rw [ht] at h
    have h' : (if cs.length = P.cellsOf t then ((List.range m).mapM fun i => DataW.trod enc P W 0 sp true n e ((cs.drop (i * P.cellsOf e)).take (P.cellsOf e))).map fun xs => ((.agg (xs.map (·.1)), xs.flatMap (·.2)) : DataW H × List MemPlace) else none) = some x := by
      revert h; cases cs with
      | nil => exact id
      | cons c r => cases r with
        | nil => cases c <;> exact id
        | cons c' r' => cases c <;> exact id
    split at h'
    · rename_i hl
      rw [Option.map_eq_some_iff] at h'
      obtain ⟨xs, hp, hd⟩ := h'
      refine ⟨hl, fun i hi => ?_⟩
      have h1 : xs.length = m := by simpa using mapM_some_length hp
      have h2 := mapM_some_get hp i i (by simp [hi])
      rw [List.getElem?_eq_getElem (by omega)] at h2
      exact ⟨n, _, h2⟩
    · cases h'
theorem rows_of {sz : Nat} {l : List Value} : ∀ {rows : List (List Value)} {off : Nat}, (∀ r, r ∈ rows → r.length = sz) → (∀ i (hi : i < rows.length) j, j < sz → l[off + i * sz + j]? = rows[i][j]?) → (l.drop off).take rows.flatten.length = rows.flatten
  | [], off, _, _ => by simp
  | r :: rows, off, h1, h2 => by
    have hr := h1 r (by simp)
    have ih := rows_of (rows := rows) (off := off + sz) (fun x hx => h1 x (by simp [hx])) fun i hi j hj => by
      have := h2 (i + 1) (by simp; omega) j hj
      rw [show off + (i + 1) * sz + j = off + sz + i * sz + j by rw [Nat.succ_mul]; omega] at this
      simpa using this
    rw [List.flatten_cons, List.length_append, List.take_add, List.drop_drop, hr, ih]
    congr 1
    apply List.ext_getElem?
    intro j
    rw [List.getElem?_take]
    split
    · rename_i hj
      have := h2 0 (by simp) j hj
      rw [List.getElem?_drop]
      simpa using this
    · rw [List.getElem?_eq_none (by omega)]
theorem Td.slice {t e : TypeId} {sz : Nat} {cs : List Value} (h : Td enc P W sp t cs) (ht : P.underlying t = some (.slice e)) (hsz : P.cellsOf e = sz) (hp : 0 < sz) :
    ∃ a c rows, cs = [.slice a rows.length c] ∧ Sl (full W) sz a c rows ∧ ∀ r, r ∈ rows → Td enc P W sp e r := by
  obtain ⟨fuel, x, h⟩ := h
  rcases DataW.trod_slice ht h with ⟨h1, _⟩ | ⟨a, len, cap, elems, rest, n, rfl, h1, _, _, h2, h3, h4, h5, _⟩
  · exact ⟨none, 0, [], h1, Sl.nil _ _, by simp⟩
  · subst hsz
    have hrow : ∀ i : Fin len, ∃ r, W.cells? 0 (a.add (i.val * P.cellsOf e)) (P.cellsOf e) = some r ∧ Td enc P W sp e r := fun i => by
      have := h5 i.val i.isLt
      rw [List.getElem?_eq_getElem (by omega), Option.bind_eq_some_iff] at this
      obtain ⟨r, h6, h7⟩ := this
      exact ⟨r, h6, n, _, h7⟩
    have hgl : ∀ i (hi : i < len), (List.ofFn fun i : Fin len => (hrow i).choose)[i]'(by simpa using hi) = (hrow ⟨i, hi⟩).choose := fun i hi => by simp
    refine ⟨some a, cap, List.ofFn fun i : Fin len => (hrow i).choose, by rw [h1, List.length_ofFn], ⟨?_, ?_, by simpa using h2, h3, fun h => by cases h⟩, ?_⟩
    · rcases Nat.eq_zero_or_pos len with h0 | h0
      · subst h0; exact RdC.nil _ _
      · have hc : ∀ i (hi : i < len) j, j < P.cellsOf e → W.cell? ((a.add (i * P.cellsOf e)).add j) = (hrow ⟨i, hi⟩).choose[j]? := fun i hi j hj =>
          (World.cells?_some (hrow ⟨i, hi⟩).choose_spec.1).2.2 j hj
        have hl : ∀ i (hi : i < len), (hrow ⟨i, hi⟩).choose.length = P.cellsOf e := fun i hi => (World.cells?_some (hrow ⟨i, hi⟩).choose_spec.1).2.1
        have h00 := hc 0 h0 0 hp
        have ha0 : (a.add (0 * P.cellsOf e)).add 0 = a := by simp [Addr.add]
        rw [ha0, List.getElem?_eq_getElem (by rw [hl 0 h0]; exact hp)] at h00
        obtain ⟨l, T, fr, hb, hs⟩ : ∃ l T fr, W.heap[a.block]? = some (.cells (List.toArray l) T fr) ∧ a.spot = none := by
          unfold World.cell? at h00
          split at h00
          · rename_i c T fr hb
            refine ⟨c.toList, T, fr, by simpa using hb, ?_⟩
            split at h00
            · cases h00
            · rename_i hn; simpa using hn
          · cases h00
        have ha : a = ⟨a.block, a.off, none⟩ := by cases a; simp_all
        refine .inr ⟨a.block, a.off, l, T, fr, by rw [← ha], hb, rows_of (sz := P.cellsOf e) (fun r hr => ?_) fun i hi j hj => ?_⟩
        · obtain ⟨i, rfl⟩ := List.mem_ofFn.1 hr
          exact hl i.val i.isLt
        · have hi' : i < len := by simpa using hi
          rw [hgl i hi', ← hc i hi' j hj, ha, cell_add, cell_add, cell_of_row W a.block _ l.toArray T fr hb]
          simp
    · intro r hr
      obtain ⟨i, rfl⟩ := List.mem_ofFn.1 hr
      exact (World.cells?_some (hrow i).choose_spec.1).2.1
    · intro r hr
      obtain ⟨i, rfl⟩ := List.mem_ofFn.1 hr
      exact (hrow i).choose_spec.2
theorem Td.bytes {t e : TypeId} {cs : List Value} (h : Td enc P W sp t cs) (ht : P.underlying t = some (.slice e)) (he : P.underlying e = some (.int .u8)) (hsz : P.cellsOf e = 1) :
    ∃ a c xs, cs = [.slice a (List.length xs) c] ∧ BS (full W) a c xs := by
  obtain ⟨a, c, rows, h1, h2, h3⟩ := h.slice ht hsz (by decide)
  have key : ∀ (rows : List (List Value)), (∀ r, r ∈ rows → Td enc P W sp e r) → ∃ xs : List UInt8, rows.length = xs.length ∧ rows.flatten = cB xs := by
    intro rows
    induction rows with
    | nil => intro _; exact ⟨[], rfl, rfl⟩
    | cons r rows ih =>
      intro hr
      obtain ⟨xs, h4, h5⟩ := ih fun x hx => hr x (by simp [hx])
      obtain ⟨n, h6, h7⟩ := (hr r (by simp)).int he
      refine ⟨UInt8.ofNat n.toNat :: xs, by simp [h4], ?_⟩
      simp only [inK] at h7
      rw [List.flatten_cons, h5, h6]
      simp [cB, u8v]
      omega
  obtain ⟨xs, h4, h5⟩ := key rows h3
  exact ⟨a, c, xs, by rw [h1, h4], by rw [← h5]; exact h2.rd, by rw [← h4]; exact h2.le, h2.mx, h2.nn⟩
end
end Go.Tg

