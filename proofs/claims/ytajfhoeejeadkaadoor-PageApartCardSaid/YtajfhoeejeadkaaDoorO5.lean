/- Contracts of Go functions that the laws reach: what each call answers and leaves in memory, for all arguments within the bounds that each theorem names. -/
import Derived.Test.YtajfhoeejeadkaaDoorInst
import Derived.Test.YtajfhoeejeadkaaDoorAuto
import Derived.Test.YtajfhoeejeadkaaDoorO4
import Derived.Test.YtajfhoeejeadkaaDoorVecC
import Derived.Test.YtajfhoeejeadkaaDoorMov
import Derived.Test.YtajfhoeejeadkaaDoorW2
set_option linter.unusedVariables false
set_option linter.unusedSimpArgs false
set_option maxRecDepth 100000
set_option maxHeartbeats 4000000
namespace Go.Tg
open Go Go.Proofs
structure TkT where
  e : Int
  xs : List UInt8
  bad : Bool
def tkN (t : TkT) : Nat := (numE t.e t.xs).1
def tkS (t : TkT) (bits : Nat) : TkT := ⟨(numE t.e t.xs).2.2.1, (numE t.e t.xs).2.2.2, t.bad || !(decide ((numE t.e t.xs).2.1 = 0) && decide (tkN t / 2 ^ bits = 0))⟩
theorem tk_sound {t : TkT} {bits : Nat} (hb : (tkS t bits).bad = false) (he : (tkS t bits).e = 0) (hb9 : 0 < 2 ^ bits) : t.bad = false ∧ t.e = 0 ∧ t.xs = putB (tkN t) ++ (tkS t bits).xs ∧ tkN t < 2 ^ bits := by
  simp only [tkS, Bool.or_eq_false_iff, Bool.not_eq_false', Bool.and_eq_true, decide_eq_true_eq] at hb
  obtain ⟨h1, h2, h3⟩ := hb
  have h0 : t.e = 0 := Classical.byContradiction fun h => by rw [numE_err h] at h2; exact h h2
  refine ⟨h1, h0, ?_, by rcases Nat.div_eq_zero_iff.1 h3 with h | h <;> omega⟩
  have := numE_inv (xs := t.xs) (by rw [h0] at h2; exact h2)
  unfold tkN tkS; rw [h0]; exact this
theorem tk_full {t : TkT} {bits n : Nat} {r : List UInt8} (he : t.e = 0) (hb : t.bad = false) (hx : t.xs = putB n ++ r) (hn : n < 18446744073709551616) (hn2 : n < 2 ^ bits) : tkN t = n ∧ tkS t bits = ⟨0, r, false⟩ := by
  have h1 := numE_putB n hn r
  rw [← hx, ← he] at h1
  have h2 : tkN t = n := by unfold tkN; rw [h1]
  refine ⟨h2, ?_⟩
  unfold tkS; rw [h2, h1, hb, he, Nat.div_eq_of_lt hn2]; rfl
def zeroO : OpT := ⟨⟨0, 0⟩, 0, 0, 0, 0, 0, fun _ => 0⟩
def DecO (b : List UInt8) (x : OpT) (e : Int) : Prop := (e = 0 ∧ rightO x 16 = true ∧ encO x = b) ∨ (e = 5 ∧ x = zeroO ∧ ∀ u, rightO u 16 = true → encO u ≠ b)
theorem nums_inj {u v : OpT} : ∀ (d k : Nat), 7 - k = d → k ≤ 7 → (r s : List UInt8) → ((List.range (7 - k)).map fun i => putB (numsO u (k + i))).flatten ++ r = ((List.range (7 - k)).map fun i => putB (numsO v (k + i))).flatten ++ s → (∀ i, k ≤ i → i < 7 → numsO u i = numsO v i) ∧ r = s
  | 0, k, h1, h2, r, s, h => by
    obtain rfl : k = 7 := by omega
    exact ⟨fun i _ _ => by omega, h⟩
  | d + 1, k, h1, h2, r, s, h => by
    rw [h1, List.range_succ_eq_map] at h
    simp only [List.map_cons, List.map_map, List.flatten_cons, Nat.add_zero, List.append_assoc] at h
    have hu := numsO_lt u k; have hv := numsO_lt v k
    obtain ⟨h3, h4⟩ := putB_app_inj (by omega) (by omega) h
    obtain ⟨h5, h6⟩ := nums_inj d (k + 1) (by omega) (by omega) r s (by
      rw [show 7 - (k + 1) = d by omega]
      simpa [Function.comp_def, Nat.add_assoc, Nat.add_comm 1] using h4)
    exact ⟨fun i h7 h8 => by
      by_cases hik : i = k
      · subst hik; exact h3
      · exact h5 i (by omega) h8, h6⟩
theorem encO_inj {u v : OpT} (h : encO u = encO v) : u = v := by
  have h0 : ((List.range (7 - 0)).map fun i => putB (numsO u (0 + i))).flatten ++ fieldB (encV u.ctx) = ((List.range (7 - 0)).map fun i => putB (numsO v (0 + i))).flatten ++ fieldB (encV v.ctx) := by
    simpa [encO, putsO] using h
  obtain ⟨h1, h2⟩ := nums_inj 7 0 rfl (by omega) _ _ h0
  have hu := encV_len u.ctx; have hv := encV_len v.ctx
  obtain ⟨h3, h4⟩ := putB_app_inj (by omega) (by omega) h2
  have h5 := encV_inj h4
  have e0 := h1 0 (by omega) (by omega); have e1 := h1 1 (by omega) (by omega); have e2 := h1 2 (by omega) (by omega); have e3 := h1 3 (by omega) (by omega)
  have e4 := h1 4 (by omega) (by omega); have e5 := h1 5 (by omega) (by omega); have e6 := h1 6 (by omega) (by omega)
  simp only [numsO] at e0 e1 e2 e3 e4 e5 e6
  simp at e0 e1 e2 e3 e4 e5 e6
  obtain ⟨⟨_, _⟩, _, _, _, _, _, _⟩ := u
  obtain ⟨⟨_, _⟩, _, _, _, _, _, _⟩ := v
  simp_all [UInt8.toNat_inj, UInt16.toNat_inj, UInt32.toNat_inj]
theorem DecO.unique {b : List UInt8} {x y : OpT} {e f : Int} (h : DecO b x e) (k : DecO b y f) : x = y ∧ e = f := by
  rcases h with ⟨h1, h2, h3⟩ | ⟨h1, h2, h3⟩ <;> rcases k with ⟨k1, k2, k3⟩ | ⟨k1, k2, k3⟩
  · exact ⟨encO_inj (h3.trans k3.symm), h1.trans k1.symm⟩
  · exact absurd h3 (k3 _ h2)
  · exact absurd k3 (h3 _ k2)
  · exact ⟨h2.trans k2.symm, h1.trans k1.symm⟩
theorem u32_wrap2 (y : Nat) : Value.int .u32 (IntKind.u32.wrap y) = .int .u32 (UInt32.ofNat y).toNat := by
  simp [IntKind.wrap, IntKind.bits, IntKind.signed]
end Go.Tg

