/- Contracts of Go functions that the laws reach: what each call answers and leaves in memory, for all arguments within the bounds that each theorem names. -/
import Derived.Test.YtajfhoeejeadkaaDoorChecked
import Derived.Test.YtajfhoeejeadkaaDoorAuto
import Derived.Test.YtajfhoeejeadkaaDoorRows
import Derived.Test.YtajfhoeejeadkaaDoorLift
import Derived.Test.YtajfhoeejeadkaaDoorInst
import Derived.Test.YtajfhoeejeadkaaDoorArgs
import Derived.Test.YtajfhoeejeadkaaDoorW4
import Derived.Test.YtajfhoeejeadkaaDoorQ2
set_option linter.unusedVariables false
set_option maxRecDepth 100000
namespace Go.Tg
open Go Go.Proofs
theorem own_ : ownKnob Tryd.prog.godebug = none := by kernel_rfl
theorem laid_ : laidOutB Tryd.prog = true := by kernel_rfl
end Go.Tg

set_option linter.unusedVariables false
set_option linter.unusedSimpArgs false
set_option maxRecDepth 100000
set_option maxHeartbeats 4000000
namespace Go.Tg
open Go Go.Proofs
structure ActT where
  k : Nat
  n : Nat
  bs : List UInt8
  hk : k < 256
  hn : n < 18446744073709551616
structure ActR (h : FH) (row : List Value) (x : ActT) : Prop where
  row : ∃ a c, row = [.int .u8 x.k, .int .u64 x.n, .slice a x.bs.length c] ∧ BS h a c x.bs
structure ActsR (h : FH) (a : Option Addr) (c : Nat) (acts : List ActT) : Prop where
  row : ∃ rows, Sl h 3 a c rows ∧ rows.length = acts.length ∧ ∀ i (h1 : i < rows.length) (h2 : i < acts.length), ActR h rows[i] acts[i]
theorem ActsR.get {h : FH} {a : Option Addr} {c : Nat} {acts : List ActT} (r : ActsR h a c acts) {i : Nat} (hi : i < acts.length) :
    ∃ b off l T fr a' c', a = some ⟨b, off, none⟩ ∧ h b = some (.cells (List.toArray l) T fr) ∧ l[off + (i : Int).toNat * 3 + 0]? = some (.int .u8 acts[i].k) ∧ l[off + (i : Int).toNat * 3 + 1]? = some (.int .u64 acts[i].n) ∧ l[off + (i : Int).toNat * 3 + 2]? = some (.slice a' acts[i].bs.length c') ∧
      (l.drop (off + (i : Int).toNat * 3)).take 3 = [.int .u8 acts[i].k, .int .u64 acts[i].n, .slice a' acts[i].bs.length c'] ∧ BS h a' c' acts[i].bs := by
  obtain ⟨rows, hS, hl, hR⟩ := r.row
  have hi' : i < rows.length := by omega
  obtain ⟨b, off, l, T, fr, h1, h2, h3⟩ := hS.get (by decide) hi'
  obtain ⟨a', c', h4, h5⟩ := (hR i hi' hi).row
  have h6 := h3 i hi'
  rw [h4] at h6
  have e : (i : Int).toNat = i := by omega
  rw [e]
  exact ⟨b, off, l, T, fr, a', c', h1, h2, row_cell h6 (q := 0) (by simp), row_cell h6 (q := 1) (by simp), row_cell h6 (q := 2) (by simp), h6, h5⟩
section
variable {H : Type} {enc : TypeId × Value → H} {W : World} {sp : Nat → Bool}
end
theorem val_of1 {v : Value} {a : Option Addr} {n c : Nat} (e : v.cells.toList = [.slice a n c]) (h : ∃ a n c, v = .slice a n c) : v = .slice a n c := by
  obtain ⟨a', n', c', rfl⟩ := h
  simp [Value.cells] at e
  obtain ⟨rfl, rfl, rfl⟩ := e; rfl
theorem pack_All0 (b : Nat) (e : Int) (v : Value) (xs : List UInt8) (g : FH) (w : World) (HO : St w (wr b true e v xs).fp g g [wr b true e v xs] w) (hx : xs.length ≤ 65536) (he : e = 0) :
    Spec Tryd.prog 66 #[pt b] w (wr b true e v xs).fp g (fun v' h' L' => ∃ a' c', v' = .tuple #[.slice a' xs.length c', .int .i64 0] ∧ h' = g ∧ L' = [own8 (.slice a' xs.length c') 5 xs, wr b true e v xs]) := by
  have := pack_AllO b true e v xs g w HO hx
  rw [show allE true e xs = (xs, 0) by simp [allE, he]] at this; exact this
theorem val_ofA {v : Value} {row : List Value} {n : Nat} (e : v.cells.toList = row) (h : ∃ cs, v = .agg cs ∧ cs.size = n) : v = .agg row.toArray := by
  obtain ⟨cs, rfl, _⟩ := h
  simp only [Value.cells] at e
  rw [← e]
end Go.Tg

set_option linter.unusedVariables false
set_option linter.unusedSimpArgs false
set_option maxRecDepth 100000
set_option maxHeartbeats 4000000
namespace Go.Tg
open Go Go.Proofs
def numsB (l : List Nat) : List UInt8 := (l.map putB).flatten
theorem numsB_app (a b : List Nat) : numsB (a ++ b) = numsB a ++ numsB b := by simp [numsB]
theorem numsB_one (n : Nat) : numsB [n] = putB n := by simp [numsB]
theorem numsB_cons (n : Nat) (l : List Nat) : numsB (n :: l) = putB n ++ numsB l := by simp [numsB]
theorem numsB_nil : numsB [] = [] := rfl
theorem numsB_len (l : List Nat) : (numsB l).length ≤ 11 * l.length := by
  induction l with
  | nil => simp [numsB]
  | cons n l ih => rw [numsB_cons, List.length_append, List.length_cons]; have := putB_len n; omega
theorem pack_NumK (b : Nat) (v : Value) (xs : List UInt8) (g : FH) (w : World) (HO : St w (wr b true 0 v xs).fp g g [wr b true 0 v xs] w) (n : Nat) (hn : n < 18446744073709551616) (hx : xs.length ≤ 65000) :
    Spec Tryd.prog 65 #[pt b, .int .u64 n] w (wr b true 0 v xs).fp g (fun v' h' L' => v' = .int .i64 0 ∧ ∃ v2, L' = [wr b true 0 v2 (xs ++ putB n)]) := by
  have := pack_Num b true 0 v xs g w HO n hn (by omega)
  rw [layE_ok (by have := putB_len n; omega)] at this; exact this
theorem frame_WrapK (h0 : FH) (a : Option Addr) (c : Nat) (xs : List UInt8) (w : World) (hs : Sat h0 w) (hT : Half h0) (hr : BS h0 a c xs) (hl : xs.length ≤ 4096) :
    Spec Tryd.prog 67 #[.slice a xs.length c] w [] h0 (fun v h' L' => ∃ a' c', v = .tuple #[.slice a' (wrapB xs).length c', .int .i64 0] ∧ h' = h0 ∧ L' = [own8 (.slice a' (wrapB xs).length c') 5 (wrapB xs)]) := by
  have := frame_Wrap h0 a c xs w hs hT hr
  rw [outW_ok hl] at this; exact this
def rowP (lf : Bool) (ks : List KeyT) (ls : List LocT) (ds : List UInt32) (i : Nat) : List Nat :=
  match ks[i]? with
  | some k => [k.cart.toNat, k.dot.rep.toNat, k.dot.seq.toNat] ++ (if lf = true then (match ls[i]? with | some l => [l.seg.toNat, l.at_.toNat] | none => []) else (match ds[i]? with | some x => [x.toNat] | none => []))
  | none => []
def rowsP (lf : Bool) (ks : List KeyT) (ls : List LocT) (ds : List UInt32) (k : Nat) : List Nat := ((List.range k).map (rowP lf ks ls ds)).flatten
def natsP (p : PageT) : List Nat := (if p.leaf = true then 1 else 0) :: p.keys.length :: rowsP p.leaf p.keys p.locs p.kids p.keys.length
def encP (p : PageT) : List UInt8 := wrapB (numsB (natsP p))
theorem rowsP_succ (lf : Bool) (ks : List KeyT) (ls : List LocT) (ds : List UInt32) (k : Nat) : rowsP lf ks ls ds (k + 1) = rowsP lf ks ls ds k ++ rowP lf ks ls ds k := by simp [rowsP, List.range_succ, List.flatten_append]
theorem rowP_leaf {ks : List KeyT} {ls : List LocT} {ds : List UInt32} {i : Nat} (h : i < ks.length) (h2 : i < ls.length) : rowP true ks ls ds i = [ks[i].cart.toNat, ks[i].dot.rep.toNat, ks[i].dot.seq.toNat, ls[i].seg.toNat, ls[i].at_.toNat] := by
  simp [rowP, h, h2]
theorem rowP_kid {ks : List KeyT} {ls : List LocT} {ds : List UInt32} {i : Nat} (h : i < ks.length) (h2 : i < ds.length) : rowP false ks ls ds i = [ks[i].cart.toNat, ks[i].dot.rep.toNat, ks[i].dot.seq.toNat, ds[i].toNat] := by
  simp [rowP, h, h2]
theorem rowP_len (lf : Bool) (ks : List KeyT) (ls : List LocT) (ds : List UInt32) (i : Nat) : (rowP lf ks ls ds i).length ≤ 5 := by
  unfold rowP
  split
  · split
    · split <;> simp
    · split <;> simp
  · simp
theorem rowsP_len (lf : Bool) (ks : List KeyT) (ls : List LocT) (ds : List UInt32) (k : Nat) : (rowsP lf ks ls ds k).length ≤ 5 * k := by
  induction k with
  | zero => simp [rowsP]
  | succ k ih => rw [rowsP_succ, List.length_append]; have := rowP_len lf ks ls ds k; omega
theorem numsR_len (x n : Nat) (lf : Bool) (ks : List KeyT) (ls : List LocT) (ds : List UInt32) {k : Nat} (hk : k ≤ 8) : (numsB (x :: n :: rowsP lf ks ls ds k)).length ≤ 462 := by
  have h1 := numsB_len (x :: n :: rowsP lf ks ls ds k)
  have h2 := rowsP_len lf ks ls ds k
  simp only [List.length_cons] at h1
  omega
end Go.Tg

