/- Contracts of Go functions that the laws reach: what each call answers and leaves in memory, for all arguments within the bounds that each theorem names. -/
import Derived.Test.YthpeejcmkhglmaaChecked
import Derived.Test.YthpeejcmkhglmaaAuto
import Derived.Test.YthpeejcmkhglmaaRows
import Derived.Test.YthpeejcmkhglmaaLift
import Derived.Test.YthpeejcmkhglmaaVec4
set_option linter.unusedVariables false
set_option linter.unusedSimpArgs false
set_option maxRecDepth 100000
set_option maxHeartbeats 4000000
namespace Go.Tg
open Go Go.Proofs
theorem own_ : ownKnob Try.prog.godebug = none := by kernel_rfl
theorem laid_ : laidOutB Try.prog = true := by kernel_rfl
theorem vec_ok {w : World} {r : Reach} {b : Nat} {v : Value} (h : Value.okWide Try.prog w r b 64 v) : ∃ a : V16, v = .agg (cV a).toArray := by
  obtain ⟨l, rfl, hl, hc⟩ := cells_of_ok (ts := List.replicate 16 62) Try.underlying64 rfl (by kernel_rfl) (by kernel_rfl) h
  have hl : l.length = 16 := by simpa using hl
  have hx : ∀ i : Fin 16, ∃ x : UInt32, l[i.val] = u32 x := fun i => by
    have h1 := hc i.val (by omega) (by simp)
    simp only [List.getElem_replicate] at h1
    obtain ⟨n, e, h2, h3⟩ := int_of_ok Try.underlying62 h1
    have h2 : 0 ≤ n := h2
    have h3 : n ≤ 4294967295 := h3
    exact ⟨UInt32.ofNat n.toNat, by rw [e, u32]; simp; omega⟩
  refine ⟨fun i => (hx i).choose, ?_⟩
  congr 2
  apply List.ext_getElem
  · rw [cV_len, hl]
  · intro i h1 h2
    rw [(hx ⟨i, by omega⟩).choose_spec]
    simp only [cV, List.getElem_ofFn]
theorem dot_ok {w : World} {r : Reach} {b : Nat} {v : Value} (h : Value.okWide Try.prog w r b 70 v) : ∃ d : DotT, v = .agg (cDot d).toArray := by
  obtain ⟨l, rfl, hl, hc⟩ := cells_of_ok (ts := [5, 62]) Try.underlying70 rfl (by kernel_rfl) (by kernel_rfl) h
  match l, hl, hc with
  | [x, y], hl, hc =>
    obtain ⟨n, e1, h2, h3⟩ := int_of_ok Try.underlying5 (hc 0 (by simp) (by simp))
    obtain ⟨m, e2, h4, h5⟩ := int_of_ok Try.underlying62 (hc 1 (by simp) (by simp))
    simp only [List.getElem_cons_zero, List.getElem_cons_succ] at e1 e2
    subst e1; subst e2
    have h2 : 0 ≤ n := h2
    have h3 : n ≤ 255 := h3
    have h4 : 0 ≤ m := h4
    have h5 : m ≤ 4294967295 := h5
    refine ⟨⟨UInt8.ofNat n.toNat, UInt32.ofNat m.toNat⟩, ?_⟩
    congr 2
    simp [cDot]
    omega
end Go.Tg
