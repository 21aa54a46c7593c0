/- Contracts of Go functions that the laws reach: what each call answers and leaves in memory, for all arguments within the bounds that each theorem names. -/
import Derived.Test.YtbfilhaigbebpaaDoorChecked
import Derived.Test.YtbfilhaigbebpaaDoorAuto
import Derived.Test.YtbfilhaigbebpaaDoorRows
import Derived.Test.YtbfilhaigbebpaaDoorLift
import Derived.Test.YtbfilhaigbebpaaDoorInst
set_option linter.unusedVariables false
set_option maxRecDepth 100000
namespace Go.Tg
open Go Go.Proofs
theorem own_ : ownKnob Tryd.prog.godebug = none := by kernel_rfl
theorem laid_ : laidOutB Tryd.prog = true := by kernel_rfl
end Go.Tg

set_option linter.unusedVariables false
set_option linter.unusedSimpArgs false
set_option maxRecDepth 100000
set_option maxHeartbeats 4000000
namespace Go.Tg
open Go Go.Proofs
abbrev V16 := Fin 16 → UInt32
def u32 (x : UInt32) : Value := .int .u32 x.toNat
def cV (a : V16) : List Value := List.ofFn fun i => u32 (a i)
theorem cV_one (a : V16) : ∀ v ∈ cV a, v.oneCell' = true := by
  intro v hv
  rw [cV, List.mem_ofFn] at hv
  obtain ⟨i, rfl⟩ := hv; rfl
theorem typed_cV (a : V16) : Typed [.i .u32, .i .u32, .i .u32, .i .u32, .i .u32, .i .u32, .i .u32, .i .u32, .i .u32, .i .u32, .i .u32, .i .u32, .i .u32, .i .u32, .i .u32, .i .u32] (cV a) := by
  simp [Typed, cV, shp, u32]
def atV (a : V16) (i : Nat) : UInt32 := if h : i < 16 then a ⟨i, h⟩ else 0
structure DotT where
  rep : UInt8
  seq : UInt32
def dotB (d : DotT) : Bool := decide (d.rep.toNat < 16) && decide (1 ≤ d.seq.toNat) && decide (d.seq.toNat ≤ 1048576)
theorem atV_lt (a : V16) {i : Nat} (h : i < 16) : atV a i = a ⟨i, h⟩ := by simp [atV, h]
end Go.Tg

set_option linter.unusedVariables false
set_option linter.unusedSimpArgs false
set_option maxRecDepth 100000
set_option maxHeartbeats 4000000
namespace Go.Tg
open Go Go.Proofs
def rightV (a : V16) (n : Int) : Bool := decide (1 ≤ n) && decide (n ≤ 16) && (List.range 16).all fun i => decide ((atV a i).toNat ≤ 1048576) && (decide ((i : Int) < n) || decide ((atV a i).toNat = 0))
end Go.Tg

