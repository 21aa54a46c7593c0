/- Contracts of Go functions that the laws reach: what each call answers and leaves in memory, for all arguments within the bounds that each theorem names. -/
import Derived.Test.YtbfilhaigbebpaaDoorInst
import Derived.Test.YtbfilhaigbebpaaDoorAuto
import Derived.Test.YtbfilhaigbebpaaDoorW2
import Derived.Test.YtbfilhaigbebpaaDoorC1
set_option linter.unusedVariables false
set_option linter.unusedSimpArgs false
set_option maxRecDepth 100000
set_option maxHeartbeats 4000000
namespace Go.Tg
open Go Go.Proofs
theorem sortedK_mono {ks : List KeyT} (hs : sortedK ks) : ∀ (d i : Nat) (h : i + d < ks.length), keyN (ks[i]'(by omega)) + d ≤ keyN ks[i + d]
  | 0, i, h => by simp
  | d + 1, i, h => by
    have h1 := sortedK_mono hs d i (by omega)
    have h2 := hs (i + d) (by omega)
    have e : (ks[i + (d + 1)]'h) = ks[i + d + 1]'(by omega) := rfl
    rw [e]; omega
end Go.Tg

set_option linter.unusedVariables false
set_option linter.unusedSimpArgs false
set_option maxRecDepth 100000
set_option maxHeartbeats 4000000
namespace Go.Tg
open Go Go.Proofs
theorem getL_putL (rest : List UInt8) : ∀ (m i n acc : Nat), m + i = 10 → n * 128 ^ i < 18446744073709551616 → (0 < n ∨ i = 0) → getL i acc (putL m n ++ rest) = (acc + n * 128 ^ i, i + (putL m n).length, 0)
  | 0, i, n, acc, h1, h2, h3 => by
    exfalso
    have : i = 10 := by omega
    subst this
    have : 1 * 128 ^ 10 ≤ n * 128 ^ 10 := Nat.mul_le_mul_right _ (by omega)
    have e : (128 : Nat) ^ 10 = 1180591620717411303424 := by decide
    omega
  | m + 1, i, n, acc, h1, h2, h3 => by
    unfold putL
    by_cases hn : n < 128
    · have hc : (UInt8.ofNat n).toNat = n := by simp; omega
      rw [if_pos hn]
      show getL i acc (UInt8.ofNat n :: rest) = _
      have h9 : i = 9 → n ≤ 1 := fun e => by
        subst e
        have e : (128 : Nat) ^ 9 = 9223372036854775808 := by decide
        omega
      rw [getL, hc, if_neg (by omega), if_neg (by omega), if_neg (by omega), Nat.mod_eq_of_lt hn]; rfl
    · have hc : (UInt8.ofNat (n % 128 + 128)).toNat = n % 128 + 128 := by simp; omega
      have hi : i < 9 := by
        refine Classical.byContradiction fun h => ?_
        have : i = 9 := by omega
        subst this
        have e : (128 : Nat) ^ 9 = 9223372036854775808 := by decide
        omega
      have hp : n / 128 * 128 ^ (i + 1) + n % 128 * 128 ^ i = n * 128 ^ i := by
        rw [Nat.pow_succ, Nat.mul_comm (128 ^ i) 128, ← Nat.mul_assoc, ← Nat.add_mul, Nat.mul_comm (n / 128), Nat.div_add_mod]
      rw [if_neg hn]
      show getL i acc (UInt8.ofNat (n % 128 + 128) :: (putL m (n / 128) ++ rest)) = _
      rw [getL, hc, if_neg (by omega), if_pos (by omega), getL_putL rest m (i + 1) (n / 128) _ (by omega) (by omega) (by omega)]
      rw [show (n % 128 + 128) % 128 = n % 128 by omega]
      simp only [List.length_cons, Prod.mk.injEq, and_true]
      omega
theorem getB_putB (n : Nat) (hn : n < 18446744073709551616) (rest : List UInt8) : getB (putB n ++ rest) = (n, (putB n).length, 0) := by
  have := getL_putL rest 10 0 n 0 rfl (by omega) (.inr rfl)
  simpa [getB, putB] using this
theorem numE_putB (n : Nat) (hn : n < 18446744073709551616) (rest : List UInt8) : numE 0 (putB n ++ rest) = (n, 0, 0, rest) := by
  unfold numE
  rw [getB_putB n hn, if_neg (by simp), if_neg (by simp)]
  simp
end Go.Tg

set_option linter.unusedVariables false
set_option linter.unusedSimpArgs false
set_option maxRecDepth 100000
set_option maxHeartbeats 4000000
namespace Go.Tg
open Go Go.Proofs
theorem getL_inv : ∀ (b p : List UInt8) (acc n k : Nat), acc = valL p → (∀ x, x ∈ p → 128 ≤ x.toNat) → p.length ≤ 9 → getL p.length acc b = (n, k, 0) → n < 18446744073709551616 → ∃ m, p ++ b.take m = putB n ∧ k = p.length + m ∧ m ≤ b.length
  | [], p, acc, n, k, _, _, _, h, _ => by simp [getL] at h
  | c :: r, p, acc, n, k, ha, hp, h9, h, hn => by
    have hc2 := c.toNat_lt
    unfold getL at h
    split at h
    · simp at h
    · rename_i h1
      split at h
      · rename_i h2
        have h10 : p.length ≠ 9 := fun e => h1 (.inr ⟨e, by omega⟩)
        obtain ⟨m, h3, h4, h5⟩ := getL_inv r (p ++ [c]) (acc + c.toNat % 128 * 128 ^ p.length) n k (by rw [valL_app, ha]) (fun x hx => by
          rw [List.mem_append] at hx
          rcases hx with hx | hx
          · exact hp x hx
          · simp at hx; rw [hx]; exact h2) (by simp; omega) (by rw [List.length_append, List.length_singleton]; exact h) hn
        refine ⟨m + 1, ?_, by rw [h4]; simp; omega, by simp; exact h5⟩
        rw [← h3]; simp
      · rename_i h2
        split at h
        · simp at h
        · rename_i h3
          simp only [Prod.mk.injEq] at h
          obtain ⟨e1, e2, _⟩ := h
          refine ⟨1, ?_, e2.symm, by simp⟩
          have := (putB_iff (xs := p) (c := c) (n := n) h9 hp (by omega) (by rw [valL_app, ← e1, ha]) hn).2 h3
          rw [this]; simp
theorem getB_inv {b : List UInt8} {n k : Nat} (h : getB b = (n, k, 0)) : b = putB n ++ b.drop k := by
  have hn : n < 18446744073709551616 := by have := getB_lt b; rw [h] at this; exact this
  obtain ⟨m, h1, h2, h3⟩ := getL_inv b [] 0 n k rfl (by simp) (by simp) h hn
  simp at h1 h2
  subst h2
  rw [← h1, List.take_append_drop]
theorem numE_inv {xs : List UInt8} (h : (numE 0 xs).2.1 = 0) : xs = putB (numE 0 xs).1 ++ (numE 0 xs).2.2.2 := by
  unfold numE at h ⊢
  rw [if_neg (by simp)] at h ⊢
  by_cases hg : (getB xs).2.2 = 0
  · rw [if_neg (by simpa using hg)]
    exact getB_inv (by rw [← hg])
  · rw [if_pos hg] at h
    exfalso; simp at h; exact hg h
theorem numE_err {e : Int} {xs : List UInt8} (h : e ≠ 0) : numE e xs = (0, e, e, xs) := by unfold numE; rw [if_pos h]
theorem numE_err2 {xs : List UInt8} (h : (numE 0 xs).2.1 ≠ 0) : (numE 0 xs).2.2.1 ≠ 0 ∧ (numE 0 xs).1 = 0 := by
  unfold numE at h ⊢
  rw [if_neg (by simp)] at h ⊢
  by_cases hg : (getB xs).2.2 = 0
  · rw [if_neg (by simpa using hg)] at h; simp at h
  · rw [if_pos hg]; exact ⟨by simpa using hg, rfl⟩
theorem putB_app_inj {a b : Nat} (ha : a < 18446744073709551616) (hb : b < 18446744073709551616) {r s : List UInt8} (h : putB a ++ r = putB b ++ s) : a = b ∧ r = s := by
  have h1 := numE_putB a ha r
  rw [h, numE_putB b hb s] at h1
  simp at h1
  exact ⟨h1.1.symm, h1.2.symm⟩
theorem topN_zero : ∀ (k : Nat) (v : V16) (i : Nat), topN k v ≤ i → i < k → (atV v i).toNat = 0
  | 0, v, i, _, h => absurd h (by omega)
  | k + 1, v, i, h1, h2 => by
    unfold topN at h1
    split at h1
    · by_cases hi : i = k
      · subst hi; assumption
      · exact topN_zero k v i h1 (by omega)
    · omega
def tailN (v : V16) (n k : Nat) : List UInt8 := ((List.range (n - k)).map fun i => putB (atV v (k + i)).toNat).flatten
theorem tailN_step {v : V16} {n k : Nat} (h : k < n) : tailN v n k = putB (atV v k).toNat ++ tailN v n (k + 1) := by
  unfold tailN
  rw [show n - k = (n - (k + 1)) + 1 by omega, List.range_succ_eq_map]
  simp only [List.map_cons, List.map_map, List.flatten_cons, Nat.add_zero]
  congr 3
  funext i
  simp only [Function.comp]
  rw [show k + i.succ = k + 1 + i by omega]
theorem tailN_end (v : V16) (n : Nat) : tailN v n n = [] := by simp [tailN]
theorem encN_tail (v : V16) (n : Nat) : ∀ k, k ≤ n → encN v n n = encN v n k ++ tailN v n k := by
  intro k hk
  have : ∀ d k, n - k = d → k ≤ n → encN v n n = encN v n k ++ tailN v n k := by
    intro d
    induction d with
    | zero => intro k h1 h2; obtain rfl : k = n := by omega
              rw [tailN_end, List.append_nil]
    | succ d ih =>
      intro k h1 h2
      rw [ih (k + 1) (by omega) (by omega), encN_succ, List.append_assoc, ← tailN_step (by omega)]
  exact this _ k rfl hk
theorem encV_tail (v : V16) : encV v = putB (topN 16 v) ++ tailN v (topN 16 v) 0 := by
  rw [encV, encN_tail v _ 0 (by omega), encN_zero]
theorem V16_ext {u v : V16} (h : ∀ i, i < 16 → (atV u i).toNat = (atV v i).toNat) : u = v := by
  funext i
  have := h i.val i.isLt
  rw [atV_lt u i.isLt, atV_lt v i.isLt] at this
  exact UInt32.toNat_inj.1 this
theorem atV_b (v : V16) (i : Nat) : (atV v i).toNat < 18446744073709551616 := by have := (atV v i).toNat_lt; omega
theorem tailN_inj {u v : V16} {n : Nat} : ∀ (d k : Nat), n - k = d → k ≤ n → tailN u n k = tailN v n k → ∀ i, k ≤ i → i < n → (atV u i).toNat = (atV v i).toNat
  | 0, k, h1, h2, _, i, h3, h4 => by omega
  | d + 1, k, h1, h2, h, i, h3, h4 => by
    have e1 := tailN_step (v := u) (n := n) (k := k) (by omega)
    have e2 := tailN_step (v := v) (n := n) (k := k) (by omega)
    rw [e1, e2] at h
    obtain ⟨h5, h6⟩ := putB_app_inj (atV_b _ _) (atV_b _ _) h
    by_cases hi : i = k
    · subst hi; exact h5
    · exact tailN_inj d (k + 1) (by omega) (by omega) h6 i (by omega) h4
theorem encV_inj {u v : V16} (h : encV u = encV v) : u = v := by
  rw [encV_tail, encV_tail] at h
  have hu := topN_le 16 u; have hv := topN_le 16 v
  obtain ⟨h1, h2⟩ := putB_app_inj (by omega) (by omega) h
  rw [h1] at h2
  apply V16_ext
  intro i hi
  by_cases hl : i < topN 16 v
  · exact tailN_inj _ 0 rfl (by omega) h2 i (by omega) hl
  · rw [topN_zero 16 u i (by omega) hi, topN_zero 16 v i (by omega) hi]
theorem encV_len (v : V16) : (encV v).length ≤ 187 := by
  have := encN_len v (topN 16 v) (topN 16 v)
  have := topN_le 16 v
  rw [encV]; omega
def DecV (b : List UInt8) (x : V16) (e : Int) : Prop := (e = 0 ∧ encV x = b) ∨ (e = 5 ∧ x = (fun _ => 0) ∧ ∀ u, encV u ≠ b)
theorem DecV.unique {b : List UInt8} {x y : V16} {e f : Int} (h : DecV b x e) (k : DecV b y f) : x = y ∧ e = f := by
  rcases h with ⟨rfl, h⟩ | ⟨rfl, rfl, h⟩ <;> rcases k with ⟨rfl, k⟩ | ⟨rfl, rfl, k⟩
  · exact ⟨encV_inj (h.trans k.symm), rfl⟩
  · exact absurd h (k _)
  · exact absurd k (h _)
  · exact ⟨rfl, rfl⟩
end Go.Tg

