/- Contracts of Go functions that the laws reach: what each call answers and leaves in memory, for all arguments within the bounds that each theorem names. -/
import Derived.Test.YtajfhoeejeadkaaDoorInst
import Derived.Test.YtajfhoeejeadkaaDoorAuto
import Derived.Test.YtajfhoeejeadkaaDoorW2
set_option linter.unusedVariables false
set_option linter.unusedSimpArgs false
set_option maxRecDepth 100000
set_option maxHeartbeats 4000000
namespace Go.Tg
open Go Go.Proofs
theorem getL_putL (rest : List UInt8) : ∀ (m i n acc : Nat), m + i = 10 → n * 128 ^ i < 18446744073709551616 → (0 < n ∨ i = 0) → getL i acc (putL m n ++ rest) = (acc + n * 128 ^ i, i + (putL m n).length, 0)
  | 0, i, n, acc, h1, h2, h3 => by
    exfalso
    have : i = 10 := by omega
    subst this
    have : 1 * 128 ^ 10 ≤ n * 128 ^ 10 := Nat.mul_le_mul_right _ (by omega)
    have e : (128 : Nat) ^ 10 = 1180591620717411303424 := by decide
    omega
  | m + 1, i, n, acc, h1, h2, h3 => by
    unfold putL
    by_cases hn : n < 128
    · have hc : (UInt8.ofNat n).toNat = n := by simp; omega
      rw [if_pos hn]
      show getL i acc (UInt8.ofNat n :: rest) = _
      have h9 : i = 9 → n ≤ 1 := fun e => by
        subst e
        have e : (128 : Nat) ^ 9 = 9223372036854775808 := by decide
        omega
      rw [getL, hc, if_neg (by omega), if_neg (by omega), if_neg (by omega), Nat.mod_eq_of_lt hn]; rfl
    · have hc : (UInt8.ofNat (n % 128 + 128)).toNat = n % 128 + 128 := by simp; omega
      have hi : i < 9 := by
        refine Classical.byContradiction fun h => ?_
        have : i = 9 := by omega
        subst this
        have e : (128 : Nat) ^ 9 = 9223372036854775808 := by decide
        omega
      have hp : n / 128 * 128 ^ (i + 1) + n % 128 * 128 ^ i = n * 128 ^ i := by
        rw [Nat.pow_succ, Nat.mul_comm (128 ^ i) 128, ← Nat.mul_assoc, ← Nat.add_mul, Nat.mul_comm (n / 128), Nat.div_add_mod]
      rw [if_neg hn]
      show getL i acc (UInt8.ofNat (n % 128 + 128) :: (putL m (n / 128) ++ rest)) = _
      rw [getL, hc, if_neg (by omega), if_pos (by omega), getL_putL rest m (i + 1) (n / 128) _ (by omega) (by omega) (by omega)]
      rw [show (n % 128 + 128) % 128 = n % 128 by omega]
      simp only [List.length_cons, Prod.mk.injEq, and_true]
      omega
theorem getB_putB (n : Nat) (hn : n < 18446744073709551616) (rest : List UInt8) : getB (putB n ++ rest) = (n, (putB n).length, 0) := by
  have := getL_putL rest 10 0 n 0 rfl (by omega) (.inr rfl)
  simpa [getB, putB] using this
theorem numE_putB (n : Nat) (hn : n < 18446744073709551616) (rest : List UInt8) : numE 0 (putB n ++ rest) = (n, 0, 0, rest) := by
  unfold numE
  rw [getB_putB n hn, if_neg (by simp), if_neg (by simp)]
  simp
end Go.Tg

