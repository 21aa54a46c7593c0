/- Contracts of Go functions that the laws reach: what each call answers and leaves in memory, for all arguments within the bounds that each theorem names. -/
import Derived.Test.YtajfhoeejeadkaaDoorInst
import Derived.Test.YtajfhoeejeadkaaDoorAuto
import Derived.Test.YtajfhoeejeadkaaDoorQE
import Derived.Test.YtajfhoeejeadkaaDoorL1
import Derived.Test.YtajfhoeejeadkaaDoorArgs
set_option linter.unusedVariables false
set_option linter.unusedSimpArgs false
set_option maxRecDepth 100000
set_option maxHeartbeats 4000000
namespace Go.Tg
open Go Go.Proofs
section
variable {H : Type} {enc : TypeId × Value → H} {W : World} {sp : Nat → Bool}
theorem u32_ok {w : World} {r : Reach} {b : Nat} {v : Value} (h : Value.okWide Tryd.prog w r b 28 v) : ∃ id : UInt32, v = .int .u32 id.toNat := by
  obtain ⟨n, rfl, h2, h3⟩ := int_of_okV Tryd.underlying28 h
  have h2 : 0 ≤ n := h2
  have h3 : n ≤ 4294967295 := h3
  exact ⟨UInt32.ofNat n.toNat, by simp; omega⟩
end
end Go.Tg

