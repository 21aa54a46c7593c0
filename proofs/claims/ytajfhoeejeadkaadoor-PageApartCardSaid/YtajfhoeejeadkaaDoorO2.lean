/- Contracts of Go functions that the laws reach: what each call answers and leaves in memory, for all arguments within the bounds that each theorem names. -/
import Derived.Test.YtajfhoeejeadkaaDoorInst
import Derived.Test.YtajfhoeejeadkaaDoorAuto
import Derived.Test.YtajfhoeejeadkaaDoorO1
set_option linter.unusedVariables false
set_option linter.unusedSimpArgs false
set_option maxRecDepth 100000
set_option maxHeartbeats 4000000
namespace Go.Tg
open Go Go.Proofs
def rightO (o : OpT) (n : Int) : Bool := rightV o.ctx n && decide ((o.dot.rep.toNat : Int) < n) && decide (o.tick.toNat ≤ 1073741824) && shapedO o && dotB o.dot && decide ((atV o.ctx o.dot.rep.toNat).toNat + 1 = o.dot.seq.toNat)
end Go.Tg

