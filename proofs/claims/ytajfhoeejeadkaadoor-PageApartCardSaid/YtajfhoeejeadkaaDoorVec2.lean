/- Contracts of Go functions that the laws reach: what each call answers and leaves in memory, for all arguments within the bounds that each theorem names. -/
import Derived.Test.YtajfhoeejeadkaaDoorVec1
import Derived.Test.YtajfhoeejeadkaaDoorAuto
set_option linter.unusedVariables false
set_option linter.unusedSimpArgs false
set_option maxRecDepth 100000
set_option maxHeartbeats 4000000
namespace Go.Tg
open Go Go.Proofs
def rightV (a : V16) (n : Int) : Bool := decide (1 ≤ n) && decide (n ≤ 16) && (List.range 16).all fun i => decide ((atV a i).toNat ≤ 1048576) && (decide ((i : Int) < n) || decide ((atV a i).toNat = 0))
end Go.Tg

