/- Contracts of Go functions that the laws reach: what each call answers and leaves in memory, for all arguments within the bounds that each theorem names. -/
import Derived.Test.YtbfilhaigbebpaaDoorInst
import Derived.Test.YtbfilhaigbebpaaDoorAuto
import Derived.Test.YtbfilhaigbebpaaDoorW7
import Derived.Test.YtbfilhaigbebpaaDoorQA
import Derived.Test.YtbfilhaigbebpaaDoorL2
import Derived.Test.YtbfilhaigbebpaaDoorW2
import Derived.Test.YtbfilhaigbebpaaDoorW6
import Derived.Test.YtbfilhaigbebpaaDoorArgs
import Derived.Test.YtbfilhaigbebpaaDoorCards
import Derived.Test.YtbfilhaigbebpaaDoorTie
import Derived.SevenTiedAt
import Derived.Test.YtbfilhaigbebpaaDoorChn
set_option linter.unusedVariables false
set_option linter.unusedSimpArgs false
set_option maxRecDepth 100000
set_option maxHeartbeats 4000000
namespace Go.Tg
open Go Go.Proofs
theorem takeM_succ {α : Type} (f : α → List Value) (xs : List α) {k : Nat} (h : k < xs.length) : (xs.take (k + 1)).map f = (xs.take k).map f ++ [f xs[k]] := by
  rw [List.take_add_one, List.getElem?_eq_getElem h, List.map_append]; rfl
end Go.Tg

set_option linter.unusedVariables false
set_option linter.unusedSimpArgs false
set_option maxRecDepth 100000
set_option maxHeartbeats 4000000
namespace Go.Tg
open Go Go.Proofs
def PGv (h : FH) (v : Value) (p : PageT) : Prop := ∃ A, v = .agg (pgV p A).toArray ∧ PgR h p A
theorem PGv.mono {h h' : FH} {v : Value} {p : PageT} (hle : FLe h h') (r : PGv h v p) : PGv h' v p := by
  obtain ⟨A, e, r⟩ := r; exact ⟨A, e, r.mono hle⟩
section
variable {P : Program} {o : Oper} {s : Env} {w : World} {K : Value → World → Prop}
end
end Go.Tg
set_option linter.unusedVariables false
set_option linter.unusedSimpArgs false
set_option maxRecDepth 100000
set_option maxHeartbeats 4000000
namespace Go.Tg
open Go Go.Proofs
theorem list_eq_of {α : Type} {a b : List α} (hl : a.length = b.length) (h : ∀ j (h1 : j < a.length) (h2 : j < b.length), a[j] = b[j]) : a = b := List.ext_getElem hl fun j h1 h2 => h j h1 h2
end Go.Tg

