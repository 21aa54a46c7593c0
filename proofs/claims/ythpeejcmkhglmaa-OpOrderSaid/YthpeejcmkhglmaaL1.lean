/- Contracts of Go functions that the laws reach: what each call answers and leaves in memory, for all arguments within the bounds that each theorem names. -/
import Derived.Test.YthpeejcmkhglmaaChecked
import Derived.Test.YthpeejcmkhglmaaAuto
import Derived.Test.YthpeejcmkhglmaaRows
import Derived.Test.YthpeejcmkhglmaaLift
import Derived.Test.YthpeejcmkhglmaaL0
import Derived.Test.YthpeejcmkhglmaaO1
set_option linter.unusedVariables false
set_option linter.unusedSimpArgs false
set_option maxRecDepth 100000
set_option maxHeartbeats 4000000
namespace Go.Tg
open Go Go.Proofs
theorem op_ok {w : World} {r : Reach} {b : Nat} {v : Value} (h : Value.okWide Try.prog w r b 87 v) : ∃ o : OpT, v = .agg (cOp o).toArray := by
  obtain ⟨l, rfl, hl, hc⟩ := cells_of_ok (ts := [5, 62, 5, 85, 85, 85, 62] ++ List.replicate 16 62) Try.underlying87 rfl (by kernel_rfl) (by kernel_rfl) h
  have hl : l.length = 23 := by simpa using hl
  match l, hl, hc with
  | x0 :: x1 :: x2 :: x3 :: x4 :: x5 :: x6 :: l, hl, hc =>
    have hl16 : l.length = 16 := by simpa using hl
    obtain ⟨n0, e0, a0, b0⟩ := int_of_ok Try.underlying5 (hc 0 (by simp) (by simp))
    obtain ⟨n1, e1, a1, b1⟩ := int_of_ok Try.underlying62 (hc 1 (by simp) (by simp))
    obtain ⟨n2, e2, a2, b2⟩ := int_of_ok Try.underlying5 (hc 2 (by simp) (by simp))
    obtain ⟨n3, e3, a3, b3⟩ := int_of_ok Try.underlying85 (hc 3 (by simp) (by simp))
    obtain ⟨n4, e4, a4, b4⟩ := int_of_ok Try.underlying85 (hc 4 (by simp) (by simp))
    obtain ⟨n5, e5, a5, b5⟩ := int_of_ok Try.underlying85 (hc 5 (by simp) (by simp))
    obtain ⟨n6, e6, a6, b6⟩ := int_of_ok Try.underlying62 (hc 6 (by simp) (by simp))
    simp only [List.getElem_cons_zero, List.getElem_cons_succ] at e0 e1 e2 e3 e4 e5 e6
    subst e0; subst e1; subst e2; subst e3; subst e4; subst e5; subst e6
    have a0 : 0 ≤ n0 := a0; have b0 : n0 ≤ 255 := b0
    have a1 : 0 ≤ n1 := a1; have b1 : n1 ≤ 4294967295 := b1
    have a2 : 0 ≤ n2 := a2; have b2 : n2 ≤ 255 := b2
    have a3 : 0 ≤ n3 := a3; have b3 : n3 ≤ 65535 := b3
    have a4 : 0 ≤ n4 := a4; have b4 : n4 ≤ 65535 := b4
    have a5 : 0 ≤ n5 := a5; have b5 : n5 ≤ 65535 := b5
    have a6 : 0 ≤ n6 := a6; have b6 : n6 ≤ 4294967295 := b6
    have hx : ∀ i : Fin 16, ∃ x : UInt32, l[i.val] = u32 x := fun i => by
      have h1 := hc (i.val + 7) (by have := i.isLt; simp; omega) (by have := i.isLt; simp; omega)
      simp only [List.getElem_cons_succ, List.cons_append, List.nil_append, List.getElem_replicate] at h1
      obtain ⟨n, e, h2, h3⟩ := int_of_ok Try.underlying62 h1
      have h2 : 0 ≤ n := h2
      have h3 : n ≤ 4294967295 := h3
      exact ⟨UInt32.ofNat n.toNat, by rw [e, u32]; simp; omega⟩
    have hv : l = cV fun i => (hx i).choose := by
      apply List.ext_getElem
      · rw [cV_len, hl16]
      · intro i h1 h2
        rw [(hx ⟨i, by omega⟩).choose_spec]
        simp only [cV, List.getElem_ofFn]
    refine ⟨⟨⟨UInt8.ofNat n0.toNat, UInt32.ofNat n1.toNat⟩, UInt8.ofNat n2.toNat, UInt16.ofNat n3.toNat, UInt16.ofNat n4.toNat, UInt16.ofNat n5.toNat, UInt32.ofNat n6.toNat, fun i => (hx i).choose⟩, ?_⟩
    congr 2
    unfold cOp
    rw [← hv]
    simp
    omega
end Go.Tg
