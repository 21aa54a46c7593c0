/- Contracts of Go functions that the laws reach: what each call answers and leaves in memory, for all arguments within the bounds that each theorem names. -/
import Derived.Test.YtbfilhaigbebpaaInst
import Derived.Test.YtbfilhaigbebpaaAuto
import Derived.Test.YtbfilhaigbebpaaLZ
import Derived.Test.YtbfilhaigbebpaaArgs
import Derived.Test.YtbfilhaigbebpaaLift
set_option linter.unusedVariables false
set_option linter.unusedSimpArgs false
set_option maxRecDepth 100000
set_option maxHeartbeats 4000000
namespace Go.Tg
open Go Go.Proofs
theorem u32_ok {w : World} {r : Reach} {b : Nat} {v : Value} (h : Value.okWide Try.prog w r b 24 v) : ∃ id : UInt32, v = .int .u32 id.toNat := by
  obtain ⟨n, rfl, h2, h3⟩ := int_of_okV Try.underlying24 h
  have h2 : 0 ≤ n := h2
  have h3 : n ≤ 4294967295 := h3
  exact ⟨UInt32.ofNat n.toNat, by simp; omega⟩
theorem val_ofA {v : Value} {row : List Value} {n : Nat} (e : v.cells.toList = row) (h : ∃ cs, v = .agg cs ∧ cs.size = n) : v = .agg row.toArray := by
  obtain ⟨cs, rfl, _⟩ := h
  simp only [Value.cells] at e
  rw [← e]
theorem u8_of {n : Nat} (h : inK .u8 n) : ∃ x : UInt8, x.toNat = n := ⟨UInt8.ofNat n, by simp only [inK] at h; simp; omega⟩
section
variable {H : Type} {enc : TypeId × Value → H} {W : World} {sp : Nat → Bool}
theorem key_of {row : List Value} (h : Td enc Try.prog W sp 28 row) : ∃ k : KeyT, row = cKey k := by
  obtain ⟨hl, hf⟩ := h.struct (fs := [{ name := "Cart", type := 23, offset := 0, embedded := false, tag := "", pkgPath := "", byteOffset := 0 }, { name := "Dot", type := 26, offset := 1, embedded := false, tag := "", pkgPath := "", byteOffset := 4 }]) Try.underlying28
  rw [show Program.cellsOf Try.prog 28 = 3 from by kernel_rfl] at hl
  match row, hl with
  | [v0, v1, v2], _ =>
    have h0 := hf _ (List.mem_cons_self ..)
    have h1 := hf _ (List.mem_cons_of_mem _ (List.mem_cons_self ..))
    rw [show Program.cellsOf Try.prog _ = 1 from by kernel_rfl] at h0
    rw [show Program.cellsOf Try.prog _ = 2 from by kernel_rfl] at h1
    obtain ⟨k, e0, k0⟩ := h0.nat Try.underlying23 rfl
    obtain ⟨_, hg⟩ := h1.struct (fs := [{ name := "Rep", type := 5, offset := 0, embedded := false, tag := "", pkgPath := "", byteOffset := 0 }, { name := "Seq", type := 24, offset := 1, embedded := false, tag := "", pkgPath := "", byteOffset := 4 }]) Try.underlying26
    have g0 := hg _ (List.mem_cons_self ..)
    have g1 := hg _ (List.mem_cons_of_mem _ (List.mem_cons_self ..))
    rw [show Program.cellsOf Try.prog _ = 1 from by kernel_rfl] at g0 g1
    obtain ⟨n, e1, k1⟩ := g0.nat Try.underlying5 rfl
    obtain ⟨m, e2, k2⟩ := g1.nat Try.underlying24 rfl
    simp at e0 e1 e2
    subst e0; subst e1; subst e2
    simp only [inK] at k0 k1 k2
    refine ⟨⟨UInt16.ofNat k, ⟨UInt8.ofNat n, UInt32.ofNat m⟩⟩, ?_⟩
    simp [cKey]
    omega
theorem loc_of {row : List Value} (h : Td enc Try.prog W sp 34 row) : ∃ k : LocT, row = cLoc k := by
  obtain ⟨hl, hf⟩ := h.struct (fs := [{ name := "Seg", type := 24, offset := 0, embedded := false, tag := "", pkgPath := "", byteOffset := 0 }, { name := "At", type := 24, offset := 1, embedded := false, tag := "", pkgPath := "", byteOffset := 4 }]) Try.underlying34
  rw [show Program.cellsOf Try.prog 34 = 2 from by kernel_rfl] at hl
  match row, hl with
  | [v0, v1], _ =>
    have g0 := hf _ (List.mem_cons_self ..)
    have g1 := hf _ (List.mem_cons_of_mem _ (List.mem_cons_self ..))
    rw [show Program.cellsOf Try.prog _ = 1 from by kernel_rfl] at g0 g1
    obtain ⟨n, e1, k1⟩ := g0.nat Try.underlying24 rfl
    obtain ⟨m, e2, k2⟩ := g1.nat Try.underlying24 rfl
    simp at e1 e2
    subst e1; subst e2
    simp only [inK] at k1 k2
    refine ⟨⟨UInt32.ofNat n, UInt32.ofNat m⟩, ?_⟩
    simp [cLoc]
    omega
theorem ac14_of {row : List Value} (h : Td enc Try.prog W sp 36 row) : ∃ x : Ac14, row = ac14L x := by
  obtain ⟨hl, hf⟩ := h.struct (fs := [{ name := "Kind", type := 5, offset := 0, embedded := false, tag := "", pkgPath := "", byteOffset := 0 }, { name := "Key", type := 28, offset := 1, embedded := false, tag := "", pkgPath := "", byteOffset := 4 }, { name := "Loc", type := 34, offset := 4, embedded := false, tag := "", pkgPath := "", byteOffset := 16 }]) Try.underlying36
  rw [show Program.cellsOf Try.prog 36 = 6 from by kernel_rfl] at hl
  match row, hl with
  | [v0, v1, v2, v3, v4, v5], _ =>
    have g0 := hf _ (List.mem_cons_self ..)
    have g1 := hf _ (List.mem_cons_of_mem _ (List.mem_cons_self ..))
    have g2 := hf _ (List.mem_cons_of_mem _ (List.mem_cons_of_mem _ (List.mem_cons_self ..)))
    rw [show Program.cellsOf Try.prog _ = 1 from by kernel_rfl] at g0
    rw [show Program.cellsOf Try.prog _ = 3 from by kernel_rfl] at g1
    rw [show Program.cellsOf Try.prog _ = 2 from by kernel_rfl] at g2
    obtain ⟨n0, e0, k0⟩ := g0.nat Try.underlying5 rfl
    obtain ⟨x0, rfl⟩ := u8_of k0
    obtain ⟨k, e1⟩ := key_of g1
    obtain ⟨l, e2⟩ := loc_of g2
    refine ⟨⟨x0, ⟨k, l⟩⟩, ?_⟩
    unfold ac14L cItem
    simp at e0
    rw [← e1, ← e2, e0]; rfl
end
end Go.Tg

