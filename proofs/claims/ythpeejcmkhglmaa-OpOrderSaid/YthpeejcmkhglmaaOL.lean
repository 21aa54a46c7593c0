/- Contracts of Go functions that the laws reach: what each call answers and leaves in memory, for all arguments within the bounds that each theorem names. -/
import Derived.Test.YthpeejcmkhglmaaInst
import Derived.Test.YthpeejcmkhglmaaAuto
import Derived.Test.YthpeejcmkhglmaaL1
import Derived.Test.YthpeejcmkhglmaaO8
set_option linter.unusedVariables false
set_option linter.unusedSimpArgs false
set_option maxRecDepth 100000
set_option maxHeartbeats 4000000
namespace Go.Tg
open Go Go.Proofs
theorem lessO_iff {a b : OpT} : lessO a b = true ↔ cntO a < cntO b ∨ (cntO a = cntO b ∧ (a.dot.rep.toNat < b.dot.rep.toNat ∨ (a.dot.rep.toNat = b.dot.rep.toNat ∧ a.dot.seq.toNat < b.dot.seq.toNat))) := by
  unfold lessO
  repeat' split
  all_goals (simp; omega)
theorem lessO_no {a b : OpT} : lessO a b = false ↔ ¬ (cntO a < cntO b ∨ (cntO a = cntO b ∧ (a.dot.rep.toNat < b.dot.rep.toNat ∨ (a.dot.rep.toNat = b.dot.rep.toNat ∧ a.dot.seq.toNat < b.dot.seq.toNat)))) := by
  rw [← lessO_iff, Bool.not_eq_true]
theorem lessO_irr (a : OpT) : lessO a a = false := by rw [lessO_no]; omega
theorem sumN_mono {a b : V16} (h : leV a b = true) : ∀ k, k ≤ 16 → sumN k a ≤ sumN k b
  | 0, _ => Nat.le_refl _
  | k + 1, hk => by
    have ih := sumN_mono h k (by omega)
    have h1 := leV_iff.1 h ⟨k, by omega⟩
    simp only [sumN]
    have e : (atV a k).toNat ≤ (atV b k).toNat := by rw [atV_lt _ (by omega), atV_lt _ (by omega)]; exact h1
    omega
theorem sumN_lt {a b : V16} (h : leV a b = true) {i : Nat} (hi : (atV a i).toNat < (atV b i).toNat) : ∀ k, k ≤ 16 → i < k → sumN k a < sumN k b
  | 0, _, h => absurd h (by omega)
  | k + 1, hk, hik => by
    have h1 := leV_iff.1 h ⟨k, by omega⟩
    simp only [sumN]
    have e : (atV a k).toNat ≤ (atV b k).toNat := by rw [atV_lt _ (by omega), atV_lt _ (by omega)]; exact h1
    by_cases he : i = k
    · subst he
      have := sumN_mono h i (by omega)
      omega
    · have := sumN_lt h hi k (by omega) (by omega)
      omega
theorem rightO_seq {o : OpT} {n : Int} (h : rightO o n = true) : (atV o.ctx o.dot.rep.toNat).toNat + 1 = o.dot.seq.toNat ∧ o.dot.rep.toNat < 16 ∧ dotB o.dot = true := by
  unfold rightO at h
  simp only [Bool.and_eq_true, decide_eq_true_eq] at h
  have h2 := h.1.2
  simp only [dotB, Bool.and_eq_true, decide_eq_true_eq] at h2
  exact ⟨h.2, h2.1.1, h.1.2⟩
theorem hasV_le {v : V16} {d : DotT} (h : hasV v d = true) : d.seq.toNat ≤ (atV v d.rep.toNat).toNat := by
  simp only [hasV, Bool.and_eq_true, decide_eq_true_eq] at h
  exact h.2
theorem knew_less {a b : OpT} (h1 : rightO a 16 = true) (h3 : hasV b.ctx a.dot = true) (h4 : leV a.ctx b.ctx = true) : lessO a b = true := by
  rw [lessO_iff]
  left
  obtain ⟨e1, e2, e3⟩ := rightO_seq h1
  have e4 := hasV_le h3
  have := sumN_lt h4 (i := a.dot.rep.toNat) (by omega) 16 (by omega) e2
  show sumV a.ctx + 1 < sumV b.ctx + 1
  unfold sumV; omega
theorem cDot_inj {a b : DotT} (h1 : a.rep.toNat = b.rep.toNat) (h2 : a.seq.toNat = b.seq.toNat) : cDot a = cDot b := by
  unfold cDot; rw [h1, h2]
end Go.Tg
