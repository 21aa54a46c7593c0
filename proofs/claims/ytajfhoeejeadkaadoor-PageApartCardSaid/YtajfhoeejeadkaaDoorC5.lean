/- Contracts of Go functions that the laws reach: what each call answers and leaves in memory, for all arguments within the bounds that each theorem names. -/
import Derived.Test.YtajfhoeejeadkaaDoorInst
import Derived.Test.YtajfhoeejeadkaaDoorAuto
import Derived.Test.YtajfhoeejeadkaaDoorC4
set_option linter.unusedVariables false
set_option linter.unusedSimpArgs false
set_option maxRecDepth 100000
set_option maxHeartbeats 4000000
namespace Go.Tg
open Go Go.Proofs
theorem outW_ok {xs : List UInt8} (h : xs.length ≤ 4096) : outW xs = (wrapB xs, 0) := by unfold outW; rw [if_pos h]
theorem wrap_iff {b : List UInt8} {n k : Nat} (hg : getB b = (n, k, 0)) (hl : k + n + 4 ≤ b.length) : wrapB ((b.take (k + n)).drop k) = b.take (k + n + 4) ↔ sum4 (b.take (k + n)) = (b.drop (k + n)).take 4 := by
  have hb := getB_inv hg
  have hk : (putB n).length = k := by
    have h1 := congrArg List.length hb
    rw [List.length_append, List.length_drop] at h1
    omega
  have ht : (b.take (k + n)).take k = putB n := by
    rw [List.take_take, show min k (k + n) = k by omega]
    have : b.take k = (putB n ++ b.drop k).take k := by rw [← hb]
    rw [this, List.take_left' hk]
  have hx : ((b.take (k + n)).drop k).length = n := by simp; omega
  have hf : fieldB ((b.take (k + n)).drop k) = b.take (k + n) := by
    unfold fieldB; rw [hx, ← ht, List.take_append_drop]
  unfold wrapB
  have e : b.take (k + n + 4) = b.take (k + n) ++ (b.drop (k + n)).take 4 := List.take_add
  rw [hf, e]
  exact ⟨fun h => List.append_cancel_left h, fun h => by rw [h]⟩
end Go.Tg

