/- Contracts of Go functions that the laws reach: what each call answers and leaves in memory, for all arguments within the bounds that each theorem names. -/
import Derived.Test.YtajfhoeejeadkaaDoorInst
import Derived.Test.YtajfhoeejeadkaaDoorAuto
import Derived.Test.YtajfhoeejeadkaaDoorQ9
import Derived.Test.YtajfhoeejeadkaaDoorPick
import Derived.Test.YtajfhoeejeadkaaDoorO1
import Derived.Test.YtajfhoeejeadkaaDoorVec3
set_option linter.unusedVariables false
set_option linter.unusedSimpArgs false
set_option maxRecDepth 100000
set_option maxHeartbeats 4000000
namespace Go.Tg
open Go Go.Proofs
def zeroP : PageT := ⟨false, [], [], []⟩
def DecP (b : List UInt8) (x : PageT) (e : Int) : Prop := (e = 0 ∧ rightP x = true ∧ encP x = b) ∨ (e = 15 ∧ x = zeroP ∧ ∀ u, rightP u = true → encP u ≠ b)
theorem DecP.unique {b : List UInt8} {x y : PageT} {e f : Int} (h : DecP b x e) (k : DecP b y f) : x = y ∧ e = f := by
  rcases h with ⟨h1, h2, h3⟩ | ⟨h1, h2, h3⟩ <;> rcases k with ⟨k1, k2, k3⟩ | ⟨k1, k2, k3⟩
  · exact ⟨encP_inj h2 k2 (h3.trans k3.symm), by omega⟩
  · exact absurd h3 (k3 x h2)
  · exact absurd k3 (h3 y k2)
  · exact ⟨h2.trans k2.symm, by omega⟩
end Go.Tg

set_option linter.unusedVariables false
set_option linter.unusedSimpArgs false
set_option maxRecDepth 100000
set_option maxHeartbeats 1000000
namespace Go.Tg
open Go Go.Proofs
def kk (n : UInt32) : KeyT := ⟨3, ⟨0, n⟩⟩
end Go.Tg

set_option linter.unusedVariables false
set_option linter.unusedSimpArgs false
set_option maxRecDepth 100000
set_option maxHeartbeats 4000000
namespace Go.Tg
open Go Go.Proofs
def v2 (x y : UInt32) : V16 := fun i => if i.val = 0 then x else if i.val = 1 then y else 0
end Go.Tg

