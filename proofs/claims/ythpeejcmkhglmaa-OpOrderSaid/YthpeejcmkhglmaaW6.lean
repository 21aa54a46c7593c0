/- Contracts of Go functions that the laws reach: what each call answers and leaves in memory, for all arguments within the bounds that each theorem names. -/
import Derived.Test.YthpeejcmkhglmaaChecked
import Derived.Test.YthpeejcmkhglmaaAuto
import Derived.Test.YthpeejcmkhglmaaRows
import Derived.Test.YthpeejcmkhglmaaInst
import Derived.Test.YthpeejcmkhglmaaArgs
import Derived.Test.YthpeejcmkhglmaaW5
set_option linter.unusedVariables false
set_option linter.unusedSimpArgs false
set_option maxRecDepth 100000
set_option maxHeartbeats 4000000
namespace Go.Tg
open Go Go.Proofs
theorem own_ : ownKnob Try.prog.godebug = none := by kernel_rfl
theorem laid_ : laidOutB Try.prog = true := by kernel_rfl
/-- A field to be laid down, or a call. -/
structure ActT where
  k : Nat
  n : Nat
  bs : List UInt8
  hk : k < 256
  hn : n < 18446744073709551616
structure ActR (h : FH) (row : List Value) (x : ActT) : Prop where
  row : ∃ a c, row = [.int .u8 x.k, .int .u64 x.n, .slice a x.bs.length c] ∧ BS h a c x.bs
structure ActsR (h : FH) (a : Option Addr) (c : Nat) (acts : List ActT) : Prop where
  row : ∃ rows, Sl h 3 a c rows ∧ rows.length = acts.length ∧ ∀ i (h1 : i < rows.length) (h2 : i < acts.length), ActR h rows[i] acts[i]
theorem ActsR.get {h : FH} {a : Option Addr} {c : Nat} {acts : List ActT} (r : ActsR h a c acts) {i : Nat} (hi : i < acts.length) :
    ∃ b off l T fr a' c', a = some ⟨b, off, none⟩ ∧ h b = some (.cells (List.toArray l) T fr) ∧ l[off + (i : Int).toNat * 3 + 0]? = some (.int .u8 acts[i].k) ∧ l[off + (i : Int).toNat * 3 + 1]? = some (.int .u64 acts[i].n) ∧ l[off + (i : Int).toNat * 3 + 2]? = some (.slice a' acts[i].bs.length c') ∧
      (l.drop (off + (i : Int).toNat * 3)).take 3 = [.int .u8 acts[i].k, .int .u64 acts[i].n, .slice a' acts[i].bs.length c'] ∧ BS h a' c' acts[i].bs := by
  obtain ⟨rows, hS, hl, hR⟩ := r.row
  have hi' : i < rows.length := by omega
  obtain ⟨b, off, l, T, fr, h1, h2, h3⟩ := hS.get (by decide) hi'
  obtain ⟨a', c', h4, h5⟩ := (hR i hi' hi).row
  have h6 := h3 i hi'
  rw [h4] at h6
  have e : (i : Int).toNat = i := by omega
  rw [e]
  exact ⟨b, off, l, T, fr, a', c', h1, h2, row_cell h6 (q := 0) (by simp), row_cell h6 (q := 1) (by simp), row_cell h6 (q := 2) (by simp), h6, h5⟩
section
variable {H : Type} {enc : TypeId × Value → H} {W : World} {sp : Nat → Bool}
theorem act_of' {row : List Value} (h : Td enc Try.prog W sp 31 row) : ∃ x : ActT, ActR (full W) row x := by
  obtain ⟨hl, hf⟩ := h.struct (fs := [{ name := "Kind", type := 5, offset := 0, embedded := false, tag := "", pkgPath := "", byteOffset := 0 }, { name := "N", type := 29, offset := 1, embedded := false, tag := "", pkgPath := "", byteOffset := 8 }, { name := "B", type := 26, offset := 2, embedded := false, tag := "", pkgPath := "", byteOffset := 16 }]) Try.underlying31
  rw [show Program.cellsOf Try.prog 31 = 3 from by kernel_rfl] at hl
  match row, hl with
  | [v0, v1, v2], _ =>
    have h0 := hf _ (List.mem_cons_self ..)
    have h1 := hf _ (List.mem_cons_of_mem _ (List.mem_cons_self ..))
    have h2 := hf _ (List.mem_cons_of_mem _ (List.mem_cons_of_mem _ (List.mem_cons_self ..)))
    rw [show Program.cellsOf Try.prog _ = 1 from by kernel_rfl] at h0 h1 h2
    obtain ⟨k, e0, k0⟩ := h0.nat Try.underlying5 rfl
    obtain ⟨n, e1, k1⟩ := h1.nat Try.underlying29 rfl
    obtain ⟨a, c, bs, e2, hr⟩ := h2.bytes Try.underlying26 Try.underlying5 (by kernel_rfl)
    simp at e0 e1 e2
    subst e0; subst e1; subst e2
    simp only [inK] at k0 k1
    exact ⟨⟨k, n, bs, by omega, by omega⟩, ⟨a, c, rfl, hr⟩⟩
theorem acts_of {cs : List Value} (h : Td enc Try.prog W sp 22 cs) : ∃ a c acts, cs = [.slice a (List.length acts) c] ∧ ActsR (full W) a c acts := by
  obtain ⟨a, c, rows, h1, h2, h3⟩ := h.slice Try.underlying22 (sz := 3) (by kernel_rfl) (by decide)
  have key : ∀ (rows : List (List Value)), (∀ r, r ∈ rows → Td enc Try.prog W sp 31 r) → ∃ acts : List ActT, rows.length = acts.length ∧ ∀ i (h1 : i < rows.length) (h2 : i < acts.length), ActR (full W) rows[i] acts[i] := by
    intro rows
    induction rows with
    | nil => intro _; exact ⟨[], rfl, fun i h => absurd h (by simp)⟩
    | cons r rows ih =>
      intro hr
      obtain ⟨acts, h4, h5⟩ := ih fun x hx => hr x (by simp [hx])
      obtain ⟨x, hx⟩ := act_of' (hr r (by simp))
      refine ⟨x :: acts, by simp [h4], fun i h6 h7 => ?_⟩
      cases i with
      | zero => exact hx
      | succ i => exact h5 i (by simpa using h6) (by simpa using h7)
  obtain ⟨acts, h4, h5⟩ := key rows h3
  exact ⟨a, c, acts, by rw [h1, h4], ⟨rows, h2, h4, h5⟩⟩
end
theorem val_of1 {v : Value} {a : Option Addr} {n c : Nat} (e : v.cells.toList = [.slice a n c]) (h : ∃ a n c, v = .slice a n c) : v = .slice a n c := by
  obtain ⟨a', n', c', rfl⟩ := h
  simp [Value.cells] at e
  obtain ⟨rfl, rfl, rfl⟩ := e; rfl
theorem nilBS (h : FH) : BS h none 0 [] := ⟨RdC.nil _ _, by simp, Nat.zero_le _, fun _ => rfl⟩
theorem pack_All0 (b : Nat) (e : Int) (v : Value) (xs : List UInt8) (g : FH) (w : World) (HO : St w (wr b true e v xs).fp g g [wr b true e v xs] w) (hx : xs.length ≤ 65536) (he : e = 0) :
    Spec Try.prog 28 #[pt b] w (wr b true e v xs).fp g (fun v' h' L' => ∃ a' c', v' = .tuple #[.slice a' xs.length c', .int .i64 0] ∧ h' = g ∧ L' = [own8 (.slice a' xs.length c') 5 xs, wr b true e v xs]) := by
  have := pack_AllO b true e v xs g w HO hx
  rw [show allE true e xs = (xs, 0) by simp [allE, he]] at this; exact this
theorem pack_All1 (b : Nat) (e : Int) (v : Value) (xs : List UInt8) (g : FH) (w : World) (HO : St w (wr b true e v xs).fp g g [wr b true e v xs] w) (hx : xs.length ≤ 65536) (he : e ≠ 0) :
    Spec Try.prog 28 #[pt b] w (wr b true e v xs).fp g (fun v' h' L' => ∃ a' c', v' = .tuple #[.slice a' ([] : List UInt8).length c', .int .i64 e] ∧ h' = g ∧ L' = [own8 (.slice a' ([] : List UInt8).length c') 5 [], wr b true e v xs]) := by
  have := pack_AllO b true e v xs g w HO hx
  rw [show allE true e xs = ([], e) by simp [allE, he]] at this; exact this
theorem layE_len {e : Int} {xs p : List UInt8} (h : xs.length ≤ 65536) : (layE true e xs p).2.2.length ≤ 65536 := by
  unfold layE; split
  · exact h
  · split
    · exact h
    · split
      · exact h
      · simp; omega
theorem actB_len {k n : Nat} {bs : List UInt8} (h : bs.length ≤ 3000) : (actB k n bs).length ≤ 3011 := by
  have h1 := putB_len n; have h2 := putB_len (foldN (IntKind.i64.wrap n)); have h3 := putB_len bs.length
  unfold actB; split
  · omega
  · split
    · omega
    · simp [fieldB]; omega
theorem law3_do_ok (b : Nat) (v : Value) (xs : List UInt8) (g : FH) (w : World) (HO : St w (wr b true 0 v xs).fp g g [wr b true 0 v xs] w) (hx : xs.length ≤ 62525)
    (k n : Nat) (hk : k < 256) (hn : n < 18446744073709551616) (a : Option Addr) (c : Nat) (bs : List UInt8) (hr : BS g a c bs) (hb : bs.length ≤ 3000) :
    Spec Try.prog 26 #[pt b, .agg [.int .u8 k, .int .u64 n, .slice a bs.length c].toArray] w (wr b true 0 v xs).fp g (fun v' h' L' => ∃ a' c' v2, v' = .tuple #[.int .i64 0, .slice a' (actB k n bs).length c'] ∧
      L' = [own8 (.slice a' (actB k n bs).length c') 5 (actB k n bs), wr b true 0 v2 (xs ++ actB k n bs)]) := by
  have := law3_do b true 0 v xs g w HO (by omega) k n hk hn a c bs hr hb
  have hal := actB_len (k := k) (n := n) (bs := bs) hb
  rw [show layE true 0 xs (actB k n bs) = (0, 0, xs ++ actB k n bs) from layE_ok (by omega)] at this
  exact this
theorem act_of {H : Type} {enc : TypeId × Value → H} {W : World} {sp : Nat → Bool} {cs : List Value} (h : Td enc Try.prog W sp 31 cs) : ∃ a c, ∃ x : ActT, cs = [.int .u8 x.k, .int .u64 x.n, .slice a x.bs.length c] ∧ BS (full W) a c x.bs := by
  obtain ⟨x, hx⟩ := act_of' h
  obtain ⟨a, c, e, hr⟩ := hx.row
  exact ⟨a, c, x, e, hr⟩
theorem val_ofA {v : Value} {row : List Value} {n : Nat} (e : v.cells.toList = row) (h : ∃ cs, v = .agg cs ∧ cs.size = n) : v = .agg row.toArray := by
  obtain ⟨cs, rfl, _⟩ := h
  simp only [Value.cells] at e
  rw [← e]
end Go.Tg
