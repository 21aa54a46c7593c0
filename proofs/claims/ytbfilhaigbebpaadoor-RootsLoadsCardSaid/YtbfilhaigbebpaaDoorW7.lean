/- Contracts of Go functions that the laws reach: what each call answers and leaves in memory, for all arguments within the bounds that each theorem names. -/
import Derived.Test.YtbfilhaigbebpaaDoorInst
import Derived.Test.YtbfilhaigbebpaaDoorAuto
import Derived.Test.YtbfilhaigbebpaaDoorW2
import Derived.Test.YtbfilhaigbebpaaDoorPick
import Derived.Test.YtbfilhaigbebpaaDoorChn
set_option linter.unusedVariables false
set_option linter.unusedSimpArgs false
set_option maxRecDepth 100000
set_option maxHeartbeats 4000000
namespace Go.Tg
open Go Go.Proofs
theorem cKey_one (k : KeyT) : (cKey k).all Value.oneCell' = true := rfl
theorem cLoc_one (k : LocT) : (cLoc k).all Value.oneCell' = true := rfl
theorem cLoc_inj {a b : LocT} : cLoc a = cLoc b ↔ a = b := by
  refine ⟨fun h => ?_, fun h => by rw [h]⟩
  unfold cLoc at h
  simp only [List.cons.injEq, Value.int.injEq, true_and, and_true] at h
  obtain ⟨h1, h2⟩ := h
  have e1 : a.seg = b.seg := UInt32.toNat_inj.1 (by omega)
  have e2 : a.at_ = b.at_ := UInt32.toNat_inj.1 (by omega)
  cases a; cases b; simp_all
theorem typed_cLoc (k : LocT) : Typed [.i .u32, .i .u32] (cLoc k) := rfl
theorem cLoc_len (k : LocT) : (cLoc k).length = 2 := rfl
structure ItemT where
  key : KeyT
  loc : LocT
def cItem (i : ItemT) : List Value := cKey i.key ++ cLoc i.loc
theorem cItem_len (i : ItemT) : (cItem i).length = 5 := rfl
theorem cItem_one (i : ItemT) : (cItem i).all Value.oneCell' = true := rfl
theorem cItem_key (i : ItemT) : ((cItem i).drop (0 + 0)).take 3 = cKey i.key := rfl
theorem cItem_loc (i : ItemT) : ((cItem i).drop (0 + 3)).take 2 = cLoc i.loc := rfl
theorem rows_len5 (l : List ItemT) : ∀ r, r ∈ l.map cItem → r.length = 5 := by simp [cItem_len]
theorem row_part {l : List Value} {o sz : Nat} {row : List Value} (h : (l.drop o).take sz = row) {q n : Nat} (hq : q + n ≤ sz) : (l.drop (o + q)).take n = (row.drop q).take n := by
  rw [← h, List.drop_take, List.take_take, List.drop_drop, Nat.min_eq_left (by omega)]
end Go.Tg

set_option linter.unusedVariables false
set_option linter.unusedSimpArgs false
set_option maxRecDepth 100000
set_option maxHeartbeats 4000000
namespace Go.Tg
open Go Go.Proofs
theorem sortedK_mono {ks : List KeyT} (hs : sortedK ks) : ∀ (d i : Nat) (h : i + d < ks.length), keyN (ks[i]'(by omega)) + d ≤ keyN ks[i + d]
  | 0, i, h => by simp
  | d + 1, i, h => by
    have h1 := sortedK_mono hs d i (by omega)
    have h2 := hs (i + d) (by omega)
    have e : (ks[i + (d + 1)]'h) = ks[i + d + 1]'(by omega) := rfl
    rw [e]; omega
end Go.Tg

set_option linter.unusedVariables false
set_option linter.unusedSimpArgs false
set_option maxRecDepth 100000
set_option maxHeartbeats 4000000
namespace Go.Tg
open Go Go.Proofs
theorem getL_putL (rest : List UInt8) : ∀ (m i n acc : Nat), m + i = 10 → n * 128 ^ i < 18446744073709551616 → (0 < n ∨ i = 0) → getL i acc (putL m n ++ rest) = (acc + n * 128 ^ i, i + (putL m n).length, 0)
  | 0, i, n, acc, h1, h2, h3 => by
    exfalso
    have : i = 10 := by omega
    subst this
    have : 1 * 128 ^ 10 ≤ n * 128 ^ 10 := Nat.mul_le_mul_right _ (by omega)
    have e : (128 : Nat) ^ 10 = 1180591620717411303424 := by decide
    omega
  | m + 1, i, n, acc, h1, h2, h3 => by
    unfold putL
    by_cases hn : n < 128
    · have hc : (UInt8.ofNat n).toNat = n := by simp; omega
      rw [if_pos hn]
      show getL i acc (UInt8.ofNat n :: rest) = _
      have h9 : i = 9 → n ≤ 1 := fun e => by
        subst e
        have e : (128 : Nat) ^ 9 = 9223372036854775808 := by decide
        omega
      rw [getL, hc, if_neg (by omega), if_neg (by omega), if_neg (by omega), Nat.mod_eq_of_lt hn]; rfl
    · have hc : (UInt8.ofNat (n % 128 + 128)).toNat = n % 128 + 128 := by simp; omega
      have hi : i < 9 := by
        refine Classical.byContradiction fun h => ?_
        have : i = 9 := by omega
        subst this
        have e : (128 : Nat) ^ 9 = 9223372036854775808 := by decide
        omega
      have hp : n / 128 * 128 ^ (i + 1) + n % 128 * 128 ^ i = n * 128 ^ i := by
        rw [Nat.pow_succ, Nat.mul_comm (128 ^ i) 128, ← Nat.mul_assoc, ← Nat.add_mul, Nat.mul_comm (n / 128), Nat.div_add_mod]
      rw [if_neg hn]
      show getL i acc (UInt8.ofNat (n % 128 + 128) :: (putL m (n / 128) ++ rest)) = _
      rw [getL, hc, if_neg (by omega), if_pos (by omega), getL_putL rest m (i + 1) (n / 128) _ (by omega) (by omega) (by omega)]
      rw [show (n % 128 + 128) % 128 = n % 128 by omega]
      simp only [List.length_cons, Prod.mk.injEq, and_true]
      omega
theorem getB_putB (n : Nat) (hn : n < 18446744073709551616) (rest : List UInt8) : getB (putB n ++ rest) = (n, (putB n).length, 0) := by
  have := getL_putL rest 10 0 n 0 rfl (by omega) (.inr rfl)
  simpa [getB, putB] using this
theorem numE_putB (n : Nat) (hn : n < 18446744073709551616) (rest : List UInt8) : numE 0 (putB n ++ rest) = (n, 0, 0, rest) := by
  unfold numE
  rw [getB_putB n hn, if_neg (by simp), if_neg (by simp)]
  simp
end Go.Tg

