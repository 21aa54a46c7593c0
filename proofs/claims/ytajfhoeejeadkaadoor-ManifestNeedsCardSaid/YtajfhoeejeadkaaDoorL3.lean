/- Contracts of Go functions that the laws reach: what each call answers and leaves in memory, for all arguments within the bounds that each theorem names. -/
import Derived.Test.YtajfhoeejeadkaaDoorInst
import Derived.Test.YtajfhoeejeadkaaDoorAuto
import Derived.Test.YtajfhoeejeadkaaDoorQ9
import Derived.Test.YtajfhoeejeadkaaDoorPick
import Derived.Test.YtajfhoeejeadkaaDoorO2
import Derived.Test.YtajfhoeejeadkaaDoorVecC
import Derived.Test.YtajfhoeejeadkaaDoorRows
import Derived.Test.YtajfhoeejeadkaaDoorLift
import Derived.Test.YtajfhoeejeadkaaDoorChecked
import Derived.Test.YtajfhoeejeadkaaDoorW6
import Derived.Test.YtajfhoeejeadkaaDoorW1
import Derived.Test.YtajfhoeejeadkaaDoorC1
import Derived.ProofKit
import Derived.LaidMore
import Derived.Lay
import Derived.OpenShut
import Derived.Test.YtajfhoeejeadkaaDoorArgs
set_option linter.unusedVariables false
set_option linter.unusedSimpArgs false
set_option maxRecDepth 100000
set_option maxHeartbeats 4000000
namespace Go.Tg
open Go Go.Proofs
def zeroP : PageT := ⟨false, [], [], []⟩
def DecP (b : List UInt8) (x : PageT) (e : Int) : Prop := (e = 0 ∧ rightP x = true ∧ encP x = b) ∨ (e = 15 ∧ x = zeroP ∧ ∀ u, rightP u = true → encP u ≠ b)
theorem DecP.unique {b : List UInt8} {x y : PageT} {e f : Int} (h : DecP b x e) (k : DecP b y f) : x = y ∧ e = f := by
  rcases h with ⟨h1, h2, h3⟩ | ⟨h1, h2, h3⟩ <;> rcases k with ⟨k1, k2, k3⟩ | ⟨k1, k2, k3⟩
  · exact ⟨encP_inj h2 k2 (h3.trans k3.symm), by omega⟩
  · exact absurd h3 (k3 x h2)
  · exact absurd k3 (h3 y k2)
  · exact ⟨h2.trans k2.symm, by omega⟩
theorem rows_len1 (ks : List UInt32) : ∀ r, r ∈ ks.map cKid → r.length = 1 := by simp [cKid]
end Go.Tg

set_option linter.unusedVariables false
set_option linter.unusedSimpArgs false
set_option maxRecDepth 100000
set_option maxHeartbeats 4000000
namespace Go.Tg
open Go Go.Proofs
def v2 (x y : UInt32) : V16 := fun i => if i.val = 0 then x else if i.val = 1 then y else 0
end Go.Tg

set_option linter.unusedVariables false
set_option linter.unusedSimpArgs false
set_option maxRecDepth 100000
set_option maxHeartbeats 4000000
namespace Go.Tg
open Go Go.Proofs
section
variable {H : Type} {enc : TypeId × Value → H} {W : World} {sp : Nat → Bool}
theorem rows_map {α : Type} (f : α → List Value) : ∀ {rows : List (List Value)}, (∀ r, r ∈ rows → ∃ x, r = f x) → ∃ xs : List α, rows = xs.map f
  | [], _ => ⟨[], rfl⟩
  | r :: rows, h => by
    obtain ⟨x, rfl⟩ := h r (by simp)
    obtain ⟨xs, rfl⟩ := rows_map f (rows := rows) fun r hr => h r (by simp [hr])
    exact ⟨x :: xs, rfl⟩
theorem kid_of {row : List Value} (h : Td enc Tryd.prog W sp 28 row) : ∃ k : UInt32, row = cKid k := by
  obtain ⟨n, e1, k1⟩ := h.nat Tryd.underlying28 rfl
  subst e1
  simp only [inK] at k1
  refine ⟨UInt32.ofNat n, ?_⟩
  simp [cKid]
  omega
end
end Go.Tg

