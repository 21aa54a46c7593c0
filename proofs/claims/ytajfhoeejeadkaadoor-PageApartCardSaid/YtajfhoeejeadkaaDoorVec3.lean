/- Contracts of Go functions that the laws reach: what each call answers and leaves in memory, for all arguments within the bounds that each theorem names. -/
import Derived.Test.YtajfhoeejeadkaaDoorInst
import Derived.Test.YtajfhoeejeadkaaDoorAuto
import Derived.Test.YtajfhoeejeadkaaDoorV3
import Derived.Test.YtajfhoeejeadkaaDoorVec1
set_option linter.unusedVariables false
set_option linter.unusedSimpArgs false
set_option maxRecDepth 100000
set_option maxHeartbeats 4000000
namespace Go.Tg
open Go Go.Proofs
def topN : Nat → V16 → Nat
  | 0, _ => 0
  | k + 1, v => if (atV v k).toNat = 0 then topN k v else k + 1
theorem topN_le (k : Nat) (v : V16) : topN k v ≤ k := by
  induction k with
  | zero => exact Nat.le_refl _
  | succ k ih => unfold topN; split <;> omega
def encN (v : V16) (n k : Nat) : List UInt8 := putB n ++ ((List.range k).map fun i => putB (atV v i).toNat).flatten
theorem encN_zero (v : V16) (n : Nat) : encN v n 0 = putB n := by simp [encN]
theorem encN_succ (v : V16) (n k : Nat) : encN v n (k + 1) = encN v n k ++ putB (atV v k).toNat := by simp [encN, List.range_succ, List.flatten_append]
theorem encN_len (v : V16) (n k : Nat) : (encN v n k).length ≤ 11 + 11 * k := by
  induction k with
  | zero => rw [encN_zero]; have := putB_len n; omega
  | succ k ih => rw [encN_succ, List.length_append]; have := putB_len (atV v k).toNat; omega
def encV (v : V16) : List UInt8 := encN v (topN 16 v) (topN 16 v)
end Go.Tg

