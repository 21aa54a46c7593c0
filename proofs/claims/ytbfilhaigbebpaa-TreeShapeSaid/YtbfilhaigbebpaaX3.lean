/- Contracts of Go functions that the laws reach: what each call answers and leaves in memory, for all arguments within the bounds that each theorem names. -/
import Derived.Test.YtbfilhaigbebpaaInst
import Derived.Test.YtbfilhaigbebpaaAuto
import Derived.Test.YtbfilhaigbebpaaX0
set_option linter.unusedVariables false
set_option linter.unusedSimpArgs false
set_option maxRecDepth 100000
set_option maxHeartbeats 4000000
namespace Go.Tg
open Go Go.Proofs
noncomputable def posI (l : List ItemT) (k : KeyT) : Option Nat := l.findIdx? fun x => dcd (x.key = k)
theorem posI_some {l : List ItemT} {k : KeyT} {i : Nat} (hi : i < l.length) (h1 : l[i].key = k) (h2 : ∀ j (h : j < i), (l[j]'(by omega)).key ≠ k) : posI l k = some i := by
  unfold posI
  rw [List.findIdx?_eq_some_iff_getElem]
  exact ⟨hi, dcd_iff.2 h1, fun j hj => by rw [dcd_no.2 (h2 j hj)]; simp⟩
theorem posI_none {l : List ItemT} {k : KeyT} (h : ∀ j (hj : j < l.length), l[j].key ≠ k) : posI l k = none := by
  unfold posI
  rw [List.findIdx?_eq_none_iff]
  intro x hx
  obtain ⟨j, hj, rfl⟩ := List.getElem_of_mem hx
  exact dcd_no.2 (h j hj)
end Go.Tg

set_option linter.unusedVariables false
set_option linter.unusedSimpArgs false
set_option maxRecDepth 100000
set_option maxHeartbeats 4000000
namespace Go.Tg
open Go Go.Proofs
noncomputable def getI (l : List ItemT) (k : KeyT) : LocT × Int := match posI l k with | none => (⟨0, 0⟩, 7) | some i => ((l[i]?.map (·.loc)).getD ⟨0, 0⟩, 0)
noncomputable def dropI (l : List ItemT) (k : KeyT) : List ItemT × Int := match posI l k with | none => (l, 7) | some i => (l.eraseIdx i, 0)
def rangeI (l : List ItemT) (lo hi : KeyT) : List ItemT := l.filter fun x => !lessK x.key lo && !lessK hi x.key
end Go.Tg

set_option linter.unusedVariables false
set_option linter.unusedSimpArgs false
set_option maxRecDepth 100000
set_option maxHeartbeats 4000000
namespace Go.Tg
open Go Go.Proofs
def putF (x : ItemT) (s : List ItemT × Bool) (y : ItemT) : List ItemT × Bool := if (!s.2 && lessK x.key y.key) = true then (s.1 ++ [x] ++ [y], true) else (s.1 ++ [y], s.2)
def insI (x : ItemT) (l : List ItemT) : List ItemT := if (l.foldl (putF x) ([], false)).2 = true then (l.foldl (putF x) ([], false)).1 else (l.foldl (putF x) ([], false)).1 ++ [x]
noncomputable def putI (l : List ItemT) (x : ItemT) : List ItemT × Int := match posI l x.key with | some _ => (l, 8) | none => if 4096 ≤ l.length then (l, 10) else (insI x l, 0)
end Go.Tg

