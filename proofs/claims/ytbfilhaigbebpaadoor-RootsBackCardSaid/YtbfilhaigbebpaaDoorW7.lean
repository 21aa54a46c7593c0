/- Contracts of Go functions that the laws reach: what each call answers and leaves in memory, for all arguments within the bounds that each theorem names. -/
import Derived.Test.YtbfilhaigbebpaaDoorInst
import Derived.Test.YtbfilhaigbebpaaDoorAuto
import Derived.Test.YtbfilhaigbebpaaDoorL2
import Derived.Test.YtbfilhaigbebpaaDoorW2
import Derived.Test.YtbfilhaigbebpaaDoorW6
import Derived.Test.YtbfilhaigbebpaaDoorArgs
set_option linter.unusedVariables false
set_option linter.unusedSimpArgs false
set_option maxRecDepth 100000
set_option maxHeartbeats 4000000
namespace Go.Tg
open Go Go.Proofs
section
variable {H : Type} {enc : TypeId × Value → H} {W : World} {sp : Nat → Bool}
theorem rows_map {α : Type} (f : α → List Value) : ∀ {rows : List (List Value)}, (∀ r, r ∈ rows → ∃ x, r = f x) → ∃ xs : List α, rows = xs.map f
  | [], _ => ⟨[], rfl⟩
  | r :: rows, h => by
    obtain ⟨x, rfl⟩ := h r (by simp)
    obtain ⟨xs, rfl⟩ := rows_map f (rows := rows) fun r hr => h r (by simp [hr])
    exact ⟨x :: xs, rfl⟩
theorem key_of {row : List Value} (h : Td enc Tryd.prog W sp 80 row) : ∃ k : KeyT, row = cKey k := by
  obtain ⟨hl, hf⟩ := h.struct (fs := [{ name := "Cart", type := 54, offset := 0, embedded := false, tag := "", pkgPath := "", byteOffset := 0 }, { name := "Dot", type := 64, offset := 1, embedded := false, tag := "", pkgPath := "", byteOffset := 4 }]) Tryd.underlying80
  rw [show Program.cellsOf Tryd.prog 80 = 3 from by kernel_rfl] at hl
  match row, hl with
  | [v0, v1, v2], _ =>
    have h0 := hf _ (List.mem_cons_self ..)
    have h1 := hf _ (List.mem_cons_of_mem _ (List.mem_cons_self ..))
    rw [show Program.cellsOf Tryd.prog _ = 1 from by kernel_rfl] at h0
    rw [show Program.cellsOf Tryd.prog _ = 2 from by kernel_rfl] at h1
    obtain ⟨k, e0, k0⟩ := h0.nat Tryd.underlying54 rfl
    obtain ⟨_, hg⟩ := h1.struct (fs := [{ name := "Rep", type := 5, offset := 0, embedded := false, tag := "", pkgPath := "", byteOffset := 0 }, { name := "Seq", type := 26, offset := 1, embedded := false, tag := "", pkgPath := "", byteOffset := 4 }]) Tryd.underlying64
    have g0 := hg _ (List.mem_cons_self ..)
    have g1 := hg _ (List.mem_cons_of_mem _ (List.mem_cons_self ..))
    rw [show Program.cellsOf Tryd.prog _ = 1 from by kernel_rfl] at g0 g1
    obtain ⟨n, e1, k1⟩ := g0.nat Tryd.underlying5 rfl
    obtain ⟨m, e2, k2⟩ := g1.nat Tryd.underlying26 rfl
    simp at e0 e1 e2
    subst e0; subst e1; subst e2
    simp only [inK] at k0 k1 k2
    refine ⟨⟨UInt16.ofNat k, ⟨UInt8.ofNat n, UInt32.ofNat m⟩⟩, ?_⟩
    simp [cKey]
    omega
theorem loc_of {row : List Value} (h : Td enc Tryd.prog W sp 81 row) : ∃ k : LocT, row = cLoc k := by
  obtain ⟨hl, hf⟩ := h.struct (fs := [{ name := "Seg", type := 26, offset := 0, embedded := false, tag := "", pkgPath := "", byteOffset := 0 }, { name := "At", type := 26, offset := 1, embedded := false, tag := "", pkgPath := "", byteOffset := 4 }]) Tryd.underlying81
  rw [show Program.cellsOf Tryd.prog 81 = 2 from by kernel_rfl] at hl
  match row, hl with
  | [v0, v1], _ =>
    have g0 := hf _ (List.mem_cons_self ..)
    have g1 := hf _ (List.mem_cons_of_mem _ (List.mem_cons_self ..))
    rw [show Program.cellsOf Tryd.prog _ = 1 from by kernel_rfl] at g0 g1
    obtain ⟨n, e1, k1⟩ := g0.nat Tryd.underlying26 rfl
    obtain ⟨m, e2, k2⟩ := g1.nat Tryd.underlying26 rfl
    simp at e1 e2
    subst e1; subst e2
    simp only [inK] at k1 k2
    refine ⟨⟨UInt32.ofNat n, UInt32.ofNat m⟩, ?_⟩
    simp [cLoc]
    omega
end
end Go.Tg

set_option linter.unusedVariables false
set_option linter.unusedSimpArgs false
set_option maxRecDepth 100000
set_option maxHeartbeats 4000000
namespace Go.Tg
open Go Go.Proofs
theorem sortedK_mono {ks : List KeyT} (hs : sortedK ks) : ∀ (d i : Nat) (h : i + d < ks.length), keyN (ks[i]'(by omega)) + d ≤ keyN ks[i + d]
  | 0, i, h => by simp
  | d + 1, i, h => by
    have h1 := sortedK_mono hs d i (by omega)
    have h2 := hs (i + d) (by omega)
    have e : (ks[i + (d + 1)]'h) = ks[i + d + 1]'(by omega) := rfl
    rw [e]; omega
end Go.Tg

set_option linter.unusedVariables false
set_option linter.unusedSimpArgs false
set_option maxRecDepth 100000
set_option maxHeartbeats 4000000
namespace Go.Tg
open Go Go.Proofs
theorem getL_putL (rest : List UInt8) : ∀ (m i n acc : Nat), m + i = 10 → n * 128 ^ i < 18446744073709551616 → (0 < n ∨ i = 0) → getL i acc (putL m n ++ rest) = (acc + n * 128 ^ i, i + (putL m n).length, 0)
  | 0, i, n, acc, h1, h2, h3 => by
    exfalso
    have : i = 10 := by omega
    subst this
    have : 1 * 128 ^ 10 ≤ n * 128 ^ 10 := Nat.mul_le_mul_right _ (by omega)
    have e : (128 : Nat) ^ 10 = 1180591620717411303424 := by decide
    omega
  | m + 1, i, n, acc, h1, h2, h3 => by
    unfold putL
    by_cases hn : n < 128
    · have hc : (UInt8.ofNat n).toNat = n := by simp; omega
      rw [if_pos hn]
      show getL i acc (UInt8.ofNat n :: rest) = _
      have h9 : i = 9 → n ≤ 1 := fun e => by
        subst e
        have e : (128 : Nat) ^ 9 = 9223372036854775808 := by decide
        omega
      rw [getL, hc, if_neg (by omega), if_neg (by omega), if_neg (by omega), Nat.mod_eq_of_lt hn]; rfl
    · have hc : (UInt8.ofNat (n % 128 + 128)).toNat = n % 128 + 128 := by simp; omega
      have hi : i < 9 := by
        refine Classical.byContradiction fun h => ?_
        have : i = 9 := by omega
        subst this
        have e : (128 : Nat) ^ 9 = 9223372036854775808 := by decide
        omega
      have hp : n / 128 * 128 ^ (i + 1) + n % 128 * 128 ^ i = n * 128 ^ i := by
        rw [Nat.pow_succ, Nat.mul_comm (128 ^ i) 128, ← Nat.mul_assoc, ← Nat.add_mul, Nat.mul_comm (n / 128), Nat.div_add_mod]
      rw [if_neg hn]
      show getL i acc (UInt8.ofNat (n % 128 + 128) :: (putL m (n / 128) ++ rest)) = _
      rw [getL, hc, if_neg (by omega), if_pos (by omega), getL_putL rest m (i + 1) (n / 128) _ (by omega) (by omega) (by omega)]
      rw [show (n % 128 + 128) % 128 = n % 128 by omega]
      simp only [List.length_cons, Prod.mk.injEq, and_true]
      omega
theorem getB_putB (n : Nat) (hn : n < 18446744073709551616) (rest : List UInt8) : getB (putB n ++ rest) = (n, (putB n).length, 0) := by
  have := getL_putL rest 10 0 n 0 rfl (by omega) (.inr rfl)
  simpa [getB, putB] using this
theorem numE_putB (n : Nat) (hn : n < 18446744073709551616) (rest : List UInt8) : numE 0 (putB n ++ rest) = (n, 0, 0, rest) := by
  unfold numE
  rw [getB_putB n hn, if_neg (by simp), if_neg (by simp)]
  simp
end Go.Tg

