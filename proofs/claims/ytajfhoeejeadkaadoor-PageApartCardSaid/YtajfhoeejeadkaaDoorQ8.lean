/- Contracts of Go functions that the laws reach: what each call answers and leaves in memory, for all arguments within the bounds that each theorem names. -/
import Derived.Test.YtajfhoeejeadkaaDoorInst
import Derived.Test.YtajfhoeejeadkaaDoorAuto
import Derived.Test.YtajfhoeejeadkaaDoorQ7
set_option linter.unusedVariables false
set_option linter.unusedSimpArgs false
set_option maxRecDepth 100000
set_option maxHeartbeats 4000000
namespace Go.Tg
open Go Go.Proofs
def tkL : TkT → List Nat → TkT
  | t, [] => t
  | t, b :: bs => tkL (tkS t b) bs
def tkV : TkT → List Nat → List Nat
  | _, [] => []
  | t, b :: bs => tkN t :: tkV (tkS t b) bs
theorem tkL_len (t : TkT) (l : List Nat) : (tkL t l).xs.length ≤ t.xs.length := by
  induction l generalizing t with
  | nil => exact Nat.le_refl _
  | cons b l ih => exact Nat.le_trans (ih _) (numE_len _ _)
def fits : List Nat → List Nat → Prop
  | [], [] => True
  | n :: ns, b :: bs => n < 2 ^ b ∧ fits ns bs
  | _, _ => False
theorem tkL_clean {t : TkT} {l : List Nat} (hb : (tkL t l).bad = false) (he : (tkL t l).e = 0) : t.bad = false ∧ t.e = 0 ∧ t.xs = numsB (tkV t l) ++ (tkL t l).xs ∧ fits (tkV t l) l := by
  induction l generalizing t with
  | nil => exact ⟨hb, he, by simp [tkV, tkL, numsB], trivial⟩
  | cons b l ih =>
    obtain ⟨h1, h2, h3, h4⟩ := ih hb he
    obtain ⟨h5, h6, h7, h8⟩ := tk_sound h1 h2 (Nat.pow_pos (by decide))
    refine ⟨h5, h6, ?_, h8, h4⟩
    rw [h7, h3, tkV, numsB_cons, tkL]; simp
theorem tkL_full {t : TkT} {l ns : List Nat} {r : List UInt8} (he : t.e = 0) (hb : t.bad = false) (hx : t.xs = numsB ns ++ r) (hf : fits ns l) (h64 : ∀ b, b ∈ l → b < 64) : tkV t l = ns ∧ tkL t l = ⟨0, r, false⟩ := by
  induction l generalizing t ns with
  | nil =>
    cases ns with
    | nil =>
      refine ⟨rfl, ?_⟩
      obtain ⟨e, xs, bad⟩ := t
      simp only [numsB_nil, List.nil_append] at he hb hx
      subst he; subst hb; subst hx; rfl
    | cons n ns => exact hf.elim
  | cons b l ih =>
    cases ns with
    | nil => exact hf.elim
    | cons n ns =>
      obtain ⟨h1, h2⟩ := hf
      rw [numsB_cons, List.append_assoc] at hx
      have h3 : n < 18446744073709551616 := Nat.lt_trans h1 (Nat.pow_lt_pow_right (a := 2) (by decide) (h64 b (by simp)))
      obtain ⟨h4, h5⟩ := tk_full he hb hx h3 h1
      obtain ⟨h6, h7⟩ := ih (t := tkS t b) (by rw [h5]) (by rw [h5]) (by rw [h5]) h2 fun x hx => h64 x (by simp [hx])
      exact ⟨by rw [tkV, h4, h6], h7⟩
def bitsR (lf : Bool) : List Nat := [16, 8, 32] ++ (if lf = true then [32, 32] else [32])
def rowT (lf : Bool) (t : TkT) : Nat → TkT
  | 0 => t
  | k + 1 => tkL (rowT lf t k) (bitsR lf)
theorem rowT_len (lf : Bool) (t : TkT) : ∀ k, (rowT lf t k).xs.length ≤ t.xs.length
  | 0 => Nat.le_refl _
  | k + 1 => Nat.le_trans (tkL_len _ _) (rowT_len lf t k)
def keyA (v : List Nat) : KeyT := ⟨UInt16.ofNat (v.getD 0 0), ⟨UInt8.ofNat (v.getD 1 0), UInt32.ofNat (v.getD 2 0)⟩⟩
def locA (v : List Nat) : LocT := ⟨UInt32.ofNat (v.getD 3 0), UInt32.ofNat (v.getD 4 0)⟩
def kidA (v : List Nat) : UInt32 := UInt32.ofNat (v.getD 3 0)
def rowV (lf : Bool) (t : TkT) (k : Nat) : List Nat := tkV (rowT lf t k) (bitsR lf)
def keysA (lf : Bool) (t : TkT) (k : Nat) : List KeyT := (List.range k).map fun i => keyA (rowV lf t i)
def locsA (lf : Bool) (t : TkT) (k : Nat) : List LocT := if lf = true then (List.range k).map fun i => locA (rowV lf t i) else []
def kidsA (lf : Bool) (t : TkT) (k : Nat) : List UInt32 := if lf = true then [] else (List.range k).map fun i => kidA (rowV lf t i)
theorem keysA_succ (lf : Bool) (t : TkT) (k : Nat) : keysA lf t (k + 1) = keysA lf t k ++ [keyA (rowV lf t k)] := by simp [keysA, List.range_succ]
theorem locsA_succ (t : TkT) (k : Nat) : locsA true t (k + 1) = locsA true t k ++ [locA (rowV true t k)] := by simp [locsA, List.range_succ]
theorem kidsA_succ (t : TkT) (k : Nat) : kidsA false t (k + 1) = kidsA false t k ++ [kidA (rowV false t k)] := by simp [kidsA, List.range_succ]
theorem keysA_len (lf : Bool) (t : TkT) (k : Nat) : (keysA lf t k).length = k := by simp [keysA]
def tkA (f : List UInt8) : TkT := ⟨0, f, false⟩
def lfA (f : List UInt8) : Bool := decide ((UInt32.ofNat (tkN (tkA f))).toNat = 1)
def cntA (f : List UInt8) : Nat := (UInt32.ofNat (tkN (tkS (tkA f) 1))).toNat
def tk2A (f : List UInt8) : TkT := tkS (tkS (tkA f) 1) 4
def mA (f : List UInt8) : Nat := min (cntA f) 9
def endA (f : List UInt8) : TkT := rowT (lfA f) (tk2A f) (mA f)
def pageA (f : List UInt8) : PageT := ⟨lfA f, keysA (lfA f) (tk2A f) (mA f), locsA (lfA f) (tk2A f) (mA f), kidsA (lfA f) (tk2A f) (mA f)⟩
theorem rowT_clean {lf : Bool} {t : TkT} : ∀ {k : Nat}, (rowT lf t k).bad = false → (rowT lf t k).e = 0 → t.bad = false ∧ t.e = 0 ∧ t.xs = numsB ((List.range k).map (rowV lf t)).flatten ++ (rowT lf t k).xs ∧ ∀ i, i < k → fits (rowV lf t i) (bitsR lf)
  | 0, hb, he => ⟨hb, he, by simp [numsB, rowT], fun i h => absurd h (by omega)⟩
  | k + 1, hb, he => by
    obtain ⟨h1, h2, h3, h4⟩ := tkL_clean hb he
    obtain ⟨h5, h6, h7, h8⟩ := rowT_clean h1 h2
    refine ⟨h5, h6, ?_, fun i hi => ?_⟩
    · rw [h7, h3, List.range_succ, List.map_append, List.flatten_append, numsB_app]
      simp [rowV, rowT]
    · by_cases hik : i = k
      · subst hik; exact h4
      · exact h8 i (by omega)
theorem rowT_full {lf : Bool} {t : TkT} {n : Nat} {v : Nat → List Nat} {r : List UInt8} (he : t.e = 0) (hb : t.bad = false) (hx : t.xs = numsB ((List.range n).map v).flatten ++ r) (hf : ∀ i, i < n → fits (v i) (bitsR lf)) :
    ∀ k, k ≤ n → (∀ i, i < k → rowV lf t i = v i) ∧ rowT lf t k = ⟨0, numsB ((List.range (n - k)).map fun i => v (k + i)).flatten ++ r, false⟩
  | 0, _ => ⟨fun i h => absurd h (by omega), by
    obtain ⟨e, xs, bad⟩ := t
    simp only at he hb hx
    subst he; subst hb; subst hx
    simp [rowT]⟩
  | k + 1, hk => by
    obtain ⟨h1, h2⟩ := rowT_full he hb hx hf k (by omega)
    have e9 : (List.range (n - k)).map (fun i => v (k + i)) = v k :: (List.range (n - (k + 1))).map fun i => v (k + 1 + i) := by
      rw [show n - k = (n - (k + 1)) + 1 by omega, List.range_succ_eq_map]
      simp only [List.map_cons, List.map_map, Nat.add_zero, List.cons.injEq, true_and]
      apply List.map_congr_left
      intro i _
      show v (k + (i + 1)) = _
      congr 1; omega
    rw [e9, List.flatten_cons, numsB_app, List.append_assoc] at h2
    obtain ⟨h3, h4⟩ := tkL_full (t := rowT lf t k) (l := bitsR lf) (ns := v k) (by rw [h2]) (by rw [h2]) (by rw [h2]) (hf k (by omega)) (by cases lf <;> decide)
    refine ⟨fun i hi => ?_, h4⟩
    by_cases hik : i = k
    · subst hik; exact h3
    · exact h1 i (by omega)
end Go.Tg

