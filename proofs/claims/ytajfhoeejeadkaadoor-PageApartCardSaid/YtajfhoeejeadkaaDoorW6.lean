/- Contracts of Go functions that the laws reach: what each call answers and leaves in memory, for all arguments within the bounds that each theorem names. -/
import Derived.Test.YtajfhoeejeadkaaDoorChecked
import Derived.Test.YtajfhoeejeadkaaDoorAuto
import Derived.Test.YtajfhoeejeadkaaDoorRows
import Derived.Test.YtajfhoeejeadkaaDoorInst
import Derived.Test.YtajfhoeejeadkaaDoorArgs
import Derived.Test.YtajfhoeejeadkaaDoorW4
set_option linter.unusedVariables false
set_option linter.unusedSimpArgs false
set_option maxRecDepth 100000
set_option maxHeartbeats 4000000
namespace Go.Tg
open Go Go.Proofs
theorem own_ : ownKnob Tryd.prog.godebug = none := by kernel_rfl
theorem laid_ : laidOutB Tryd.prog = true := by kernel_rfl
structure ActT where
  k : Nat
  n : Nat
  bs : List UInt8
  hk : k < 256
  hn : n < 18446744073709551616
structure ActR (h : FH) (row : List Value) (x : ActT) : Prop where
  row : ∃ a c, row = [.int .u8 x.k, .int .u64 x.n, .slice a x.bs.length c] ∧ BS h a c x.bs
structure ActsR (h : FH) (a : Option Addr) (c : Nat) (acts : List ActT) : Prop where
  row : ∃ rows, Sl h 3 a c rows ∧ rows.length = acts.length ∧ ∀ i (h1 : i < rows.length) (h2 : i < acts.length), ActR h rows[i] acts[i]
theorem ActsR.get {h : FH} {a : Option Addr} {c : Nat} {acts : List ActT} (r : ActsR h a c acts) {i : Nat} (hi : i < acts.length) :
    ∃ b off l T fr a' c', a = some ⟨b, off, none⟩ ∧ h b = some (.cells (List.toArray l) T fr) ∧ l[off + (i : Int).toNat * 3 + 0]? = some (.int .u8 acts[i].k) ∧ l[off + (i : Int).toNat * 3 + 1]? = some (.int .u64 acts[i].n) ∧ l[off + (i : Int).toNat * 3 + 2]? = some (.slice a' acts[i].bs.length c') ∧
      (l.drop (off + (i : Int).toNat * 3)).take 3 = [.int .u8 acts[i].k, .int .u64 acts[i].n, .slice a' acts[i].bs.length c'] ∧ BS h a' c' acts[i].bs := by
  obtain ⟨rows, hS, hl, hR⟩ := r.row
  have hi' : i < rows.length := by omega
  obtain ⟨b, off, l, T, fr, h1, h2, h3⟩ := hS.get (by decide) hi'
  obtain ⟨a', c', h4, h5⟩ := (hR i hi' hi).row
  have h6 := h3 i hi'
  rw [h4] at h6
  have e : (i : Int).toNat = i := by omega
  rw [e]
  exact ⟨b, off, l, T, fr, a', c', h1, h2, row_cell h6 (q := 0) (by simp), row_cell h6 (q := 1) (by simp), row_cell h6 (q := 2) (by simp), h6, h5⟩
section
variable {H : Type} {enc : TypeId × Value → H} {W : World} {sp : Nat → Bool}
end
theorem pack_All0 (b : Nat) (e : Int) (v : Value) (xs : List UInt8) (g : FH) (w : World) (HO : St w (wr b true e v xs).fp g g [wr b true e v xs] w) (hx : xs.length ≤ 65536) (he : e = 0) :
    Spec Tryd.prog 66 #[pt b] w (wr b true e v xs).fp g (fun v' h' L' => ∃ a' c', v' = .tuple #[.slice a' xs.length c', .int .i64 0] ∧ h' = g ∧ L' = [own8 (.slice a' xs.length c') 5 xs, wr b true e v xs]) := by
  have := pack_AllO b true e v xs g w HO hx
  rw [show allE true e xs = (xs, 0) by simp [allE, he]] at this; exact this
theorem val_ofA {v : Value} {row : List Value} {n : Nat} (e : v.cells.toList = row) (h : ∃ cs, v = .agg cs ∧ cs.size = n) : v = .agg row.toArray := by
  obtain ⟨cs, rfl, _⟩ := h
  simp only [Value.cells] at e
  rw [← e]
end Go.Tg

