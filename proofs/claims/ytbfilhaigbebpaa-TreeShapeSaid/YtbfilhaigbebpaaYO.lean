/- Contracts of Go functions that the laws reach: what each call answers and leaves in memory, for all arguments within the bounds that each theorem names. -/
import Derived.Test.YtbfilhaigbebpaaChecked
import Derived.Test.YtbfilhaigbebpaaAuto
import Derived.Test.YtbfilhaigbebpaaRows
import Derived.Test.YtbfilhaigbebpaaLift
import Derived.Test.YtbfilhaigbebpaaInst
import Derived.Test.YtbfilhaigbebpaaYN
import Derived.Test.YtbfilhaigbebpaaArgs
set_option linter.unusedVariables false
set_option maxRecDepth 100000
namespace Go.Tg
open Go Go.Proofs
theorem own_ : ownKnob Try.prog.godebug = none := by kernel_rfl
theorem laid_ : laidOutB Try.prog = true := by kernel_rfl
end Go.Tg

set_option linter.unusedVariables false
set_option linter.unusedSimpArgs false
set_option maxRecDepth 100000
set_option maxHeartbeats 4000000
namespace Go.Tg
open Go Go.Proofs
theorem val_of1 {v : Value} {a : Option Addr} {n c : Nat} (e : v.cells.toList = [.slice a n c]) (h : ∃ a n c, v = .slice a n c) : v = .slice a n c := by
  obtain ⟨a', n', c', rfl⟩ := h
  simp [Value.cells] at e
  obtain ⟨rfl, rfl, rfl⟩ := e; rfl
theorem u8_of {n : Nat} (h : inK .u8 n) : ∃ x : UInt8, x.toNat = n := ⟨UInt8.ofNat n, by simp only [inK] at h; simp; omega⟩
section
variable {H : Type} {enc : TypeId × Value → H} {W : World} {sp : Nat → Bool}
theorem rows_mapO {α : Type} (f : α → List Value) : ∀ {rows : List (List Value)}, (∀ r, r ∈ rows → ∃ x, r = f x) → ∃ xs : List α, rows = xs.map f
  | [], _ => ⟨[], rfl⟩
  | r :: rows, h => by
    obtain ⟨x, rfl⟩ := h r (by simp)
    obtain ⟨xs, rfl⟩ := rows_mapO f (rows := rows) fun r hr => h r (by simp [hr])
    exact ⟨x :: xs, rfl⟩
theorem key_of {row : List Value} (h : Td enc Try.prog W sp 28 row) : ∃ k : KeyT, row = cKey k := by
  obtain ⟨hl, hf⟩ := h.struct (fs := [{ name := "Cart", type := 23, offset := 0, embedded := false, tag := "", pkgPath := "", byteOffset := 0 }, { name := "Dot", type := 26, offset := 1, embedded := false, tag := "", pkgPath := "", byteOffset := 4 }]) Try.underlying28
  rw [show Program.cellsOf Try.prog 28 = 3 from by kernel_rfl] at hl
  match row, hl with
  | [v0, v1, v2], _ =>
    have h0 := hf _ (List.mem_cons_self ..)
    have h1 := hf _ (List.mem_cons_of_mem _ (List.mem_cons_self ..))
    rw [show Program.cellsOf Try.prog _ = 1 from by kernel_rfl] at h0
    rw [show Program.cellsOf Try.prog _ = 2 from by kernel_rfl] at h1
    obtain ⟨k, e0, k0⟩ := h0.nat Try.underlying23 rfl
    obtain ⟨_, hg⟩ := h1.struct (fs := [{ name := "Rep", type := 5, offset := 0, embedded := false, tag := "", pkgPath := "", byteOffset := 0 }, { name := "Seq", type := 24, offset := 1, embedded := false, tag := "", pkgPath := "", byteOffset := 4 }]) Try.underlying26
    have g0 := hg _ (List.mem_cons_self ..)
    have g1 := hg _ (List.mem_cons_of_mem _ (List.mem_cons_self ..))
    rw [show Program.cellsOf Try.prog _ = 1 from by kernel_rfl] at g0 g1
    obtain ⟨n, e1, k1⟩ := g0.nat Try.underlying5 rfl
    obtain ⟨m, e2, k2⟩ := g1.nat Try.underlying24 rfl
    simp at e0 e1 e2
    subst e0; subst e1; subst e2
    simp only [inK] at k0 k1 k2
    refine ⟨⟨UInt16.ofNat k, ⟨UInt8.ofNat n, UInt32.ofNat m⟩⟩, ?_⟩
    simp [cKey]
    omega
theorem loc_of {row : List Value} (h : Td enc Try.prog W sp 34 row) : ∃ k : LocT, row = cLoc k := by
  obtain ⟨hl, hf⟩ := h.struct (fs := [{ name := "Seg", type := 24, offset := 0, embedded := false, tag := "", pkgPath := "", byteOffset := 0 }, { name := "At", type := 24, offset := 1, embedded := false, tag := "", pkgPath := "", byteOffset := 4 }]) Try.underlying34
  rw [show Program.cellsOf Try.prog 34 = 2 from by kernel_rfl] at hl
  match row, hl with
  | [v0, v1], _ =>
    have g0 := hf _ (List.mem_cons_self ..)
    have g1 := hf _ (List.mem_cons_of_mem _ (List.mem_cons_self ..))
    rw [show Program.cellsOf Try.prog _ = 1 from by kernel_rfl] at g0 g1
    obtain ⟨n, e1, k1⟩ := g0.nat Try.underlying24 rfl
    obtain ⟨m, e2, k2⟩ := g1.nat Try.underlying24 rfl
    simp at e1 e2
    subst e1; subst e2
    simp only [inK] at k1 k2
    refine ⟨⟨UInt32.ofNat n, UInt32.ofNat m⟩, ?_⟩
    simp [cLoc]
    omega
theorem ac14_of {row : List Value} (h : Td enc Try.prog W sp 36 row) : ∃ x : Ac14, row = ac14L x := by
  obtain ⟨hl, hf⟩ := h.struct (fs := [{ name := "Kind", type := 5, offset := 0, embedded := false, tag := "", pkgPath := "", byteOffset := 0 }, { name := "Key", type := 28, offset := 1, embedded := false, tag := "", pkgPath := "", byteOffset := 4 }, { name := "Loc", type := 34, offset := 4, embedded := false, tag := "", pkgPath := "", byteOffset := 16 }]) Try.underlying36
  rw [show Program.cellsOf Try.prog 36 = 6 from by kernel_rfl] at hl
  match row, hl with
  | [v0, v1, v2, v3, v4, v5], _ =>
    have g0 := hf _ (List.mem_cons_self ..)
    have g1 := hf _ (List.mem_cons_of_mem _ (List.mem_cons_self ..))
    have g2 := hf _ (List.mem_cons_of_mem _ (List.mem_cons_of_mem _ (List.mem_cons_self ..)))
    rw [show Program.cellsOf Try.prog _ = 1 from by kernel_rfl] at g0
    rw [show Program.cellsOf Try.prog _ = 3 from by kernel_rfl] at g1
    rw [show Program.cellsOf Try.prog _ = 2 from by kernel_rfl] at g2
    obtain ⟨n0, e0, k0⟩ := g0.nat Try.underlying5 rfl
    obtain ⟨x0, rfl⟩ := u8_of k0
    obtain ⟨k, e1⟩ := key_of g1
    obtain ⟨l, e2⟩ := loc_of g2
    refine ⟨⟨x0, ⟨k, l⟩⟩, ?_⟩
    unfold ac14L cItem
    simp at e0
    rw [← e1, ← e2, e0]; rfl
theorem acs14_of {cs : List Value} (h : Td enc Try.prog W sp 22 cs) : ∃ (a : Option Addr) (c : Nat) (l : List Ac14), cs = [.slice a l.length c] ∧ Sl (full W) 6 a c (l.map ac14L) := by
  obtain ⟨a, c, rows, e, r, t⟩ := h.slice Try.underlying22 (sz := 6) (by kernel_rfl) (by decide)
  obtain ⟨l, rfl⟩ := rows_mapO ac14L fun r hr => ac14_of (t r hr)
  exact ⟨a, c, l, by rw [e, List.length_map], r⟩
end
end Go.Tg

