/- Contracts of Go functions that the laws reach: what each call answers and leaves in memory, for all arguments within the bounds that each theorem names. -/
import Derived.Test.YtajfhoeejeadkaaDoorInst
import Derived.Test.YtajfhoeejeadkaaDoorAuto
import Derived.Test.YtajfhoeejeadkaaDoorSl
import Derived.Test.YtajfhoeejeadkaaDoorV1
set_option linter.unusedVariables false
set_option linter.unusedSimpArgs false
set_option maxRecDepth 100000
set_option maxHeartbeats 4000000
namespace Go.Tg
open Go Go.Proofs
def getL : Nat → Nat → List UInt8 → Nat × Nat × Nat
  | _, _, [] => (0, 0, 4)
  | i, acc, c :: r => if 9 < i ∨ (i = 9 ∧ 1 < c.toNat) then (0, 0, 5) else
      if 128 ≤ c.toNat then getL (i + 1) (acc + (c.toNat % 128) * 128 ^ i) r
      else if c.toNat = 0 ∧ 0 < i then (0, 0, 5) else (acc + c.toNat % 128 * 128 ^ i, i + 1, 0)
def getB (b : List UInt8) : Nat × Nat × Nat := getL 0 0 b
theorem getL_le : ∀ (b : List UInt8) (i acc : Nat), (getL i acc b).2.1 ≤ i + b.length
  | [], i, acc => by simp [getL]
  | c :: r, i, acc => by
    have := getL_le r (i + 1) (acc + (c.toNat % 128) * 128 ^ i)
    unfold getL; split
    · simp
    · split
      · simp; omega
      · split <;> simp
theorem getB_le (b : List UInt8) : (getB b).2.1 ≤ b.length := by have := getL_le b 0 0; simpa [getB] using this
theorem pow128 (k : Nat) : 128 ^ k = 2 ^ (7 * k) := by rw [Nat.pow_mul]
theorem pow_le9 {k : Nat} (h : k ≤ 8) : 128 ^ k ≤ 72057594037927936 := Nat.pow_le_pow_right (by omega : 0 < 128) h
theorem getL_lt : ∀ (b : List UInt8) (i acc : Nat), acc < 128 ^ i → i ≤ 9 → (getL i acc b).1 < 18446744073709551616
  | [], i, acc, _, _ => by simp [getL]
  | c :: r, i, acc, h1, h2 => by
    unfold getL
    have hs : acc + (c.toNat % 128) * 128 ^ i < 128 ^ (i + 1) := by
      rw [Nat.pow_succ]
      have : (c.toNat % 128) * 128 ^ i ≤ 127 * 128 ^ i := Nat.mul_le_mul_right _ (by omega)
      omega
    split
    · simp
    · rename_i hn
      split
      · rename_i hc
        have : i ≠ 9 := fun e => hn (.inr ⟨e, by omega⟩)
        exact getL_lt r (i + 1) _ hs (by omega)
      · split
        · simp
        · by_cases h9 : i = 9
          · subst h9
            have h1' : c.toNat ≤ 1 := by omega
            have : (c.toNat % 128) * 128 ^ 9 ≤ 1 * 128 ^ 9 := Nat.mul_le_mul_right _ (by omega)
            have e : (128 : Nat) ^ 9 = 9223372036854775808 := by decide
            rw [e] at this h1
            simp only
            rw [e]
            omega
          · have := pow_le9 (k := i) (by omega)
            have e2 : (c.toNat % 128) * 128 ^ i ≤ 127 * 128 ^ i := Nat.mul_le_mul_right _ (by omega)
            simp only
            omega
theorem getB_lt (b : List UInt8) : (getB b).1 < 18446744073709551616 := getL_lt b 0 0 (by simp) (by omega)
theorem and127_all : (List.range 256).all (fun m => bitv .and .u8 (m : Int) 127 == ((m % 128 : Nat) : Int)) = true := by kernel_rfl
theorem and127 (c : UInt8) : bitv .and .u8 c.toNat 127 = ((c.toNat % 128 : Nat) : Int) := eq_of_beq (List.all_eq_true.1 and127_all c.toNat (List.mem_range.2 c.toNat_lt))
theorem and128_all : (List.range 256).all (fun m => bitv .and .u8 (m : Int) 128 == (((m / 128) * 128 : Nat) : Int)) = true := by kernel_rfl
theorem and128 (c : UInt8) : bitv .and .u8 c.toNat 128 = (((c.toNat / 128) * 128 : Nat) : Int) := eq_of_beq (List.all_eq_true.1 and128_all c.toNat (List.mem_range.2 c.toNat_lt))
theorem wrap64 (n : Int) : IntKind.u64.wrap n = n % 18446744073709551616 := by simp [IntKind.wrap, IntKind.bits, IntKind.signed]
theorem bv_of (n : Nat) : BitVec.ofInt 64 (n : Int) = BitVec.ofNat 64 n := by simp
theorem or_add {a m k : Nat} (h1 : a < 2 ^ k) (h2 : a + m * 2 ^ k < 18446744073709551616) : bitv .or .u64 (a : Int) ((m * 2 ^ k : Nat) : Int) = ((a + m * 2 ^ k : Nat) : Int) := by
  have e : a ||| m * 2 ^ k = a + m * 2 ^ k := by
    rw [Nat.mul_comm, Nat.or_comm, ← Nat.two_pow_add_eq_or_of_lt h1, Nat.add_comm]
  show IntKind.u64.wrap (((BitVec.ofInt 64 (a : Int) ||| BitVec.ofInt 64 ((m * 2 ^ k : Nat) : Int)).toNat : Nat) : Int) = _
  rw [bv_of, bv_of, BitVec.toNat_or, BitVec.toNat_ofNat, BitVec.toNat_ofNat, Nat.mod_eq_of_lt (by omega), Nat.mod_eq_of_lt (by omega), e, wrap64]
  omega
theorem get_step {acc k : Nat} (c : UInt8) (hk : k ≤ 9) (ha : acc < 128 ^ k) (hc : k = 9 → c.toNat ≤ 1) :
    bitv .or .u64 (acc : Int) (IntKind.u64.wrap ((bitv .and .u8 c.toNat 127) * 2 ^ min (Int.toNat (7 * (k : Int))) (IntKind.bits .u64))) = ((acc + c.toNat % 128 * 128 ^ k : Nat) : Int) ∧ acc + c.toNat % 128 * 128 ^ k < 128 ^ (k + 1) := by
  have hs : acc + (c.toNat % 128) * 128 ^ k < 128 ^ (k + 1) := by
    rw [Nat.pow_succ]
    have : (c.toNat % 128) * 128 ^ k ≤ 127 * 128 ^ k := Nat.mul_le_mul_right _ (by omega)
    omega
  refine ⟨?_, hs⟩
  have hb : acc + (c.toNat % 128) * 128 ^ k < 18446744073709551616 := by
    by_cases h9 : k = 9
    · subst h9
      have := hc rfl
      have : (c.toNat % 128) * 128 ^ 9 ≤ 1 * 128 ^ 9 := Nat.mul_le_mul_right _ (by omega)
      have e : (128 : Nat) ^ 9 = 9223372036854775808 := by decide
      rw [e] at this ha ⊢
      omega
    · have := pow_le9 (k := k) (by omega)
      have e2 : (c.toNat % 128) * 128 ^ k ≤ 127 * 128 ^ k := Nat.mul_le_mul_right _ (by omega)
      omega
  have e1 : min (Int.toNat (7 * (k : Int))) (IntKind.bits .u64) = 7 * k := by show min _ 64 = _; omega
  rw [e1, and127]
  have e2 : (((c.toNat % 128 : Nat) : Int) * 2 ^ (7 * k)) = (((c.toNat % 128) * 2 ^ (7 * k) : Nat) : Int) := by simp
  rw [pow128] at hb ha ⊢
  rw [e2, wrap64]
  have e3 : (((c.toNat % 128) * 2 ^ (7 * k) : Nat) : Int) % 18446744073709551616 = (((c.toNat % 128) * 2 ^ (7 * k) : Nat) : Int) := by omega
  rw [e3]
  exact or_add ha hb
theorem vint_Get (h0 : FH) (a : Option Addr) (c : Nat) (xs : List UInt8) (w : World) (hs : Sat h0 w) (hr : BS h0 a c xs) :
    SpecV Tryd.prog 119 #[.slice a xs.length c] w (.tuple #[.int .u64 (getB xs).1, .int .i64 (getB xs).2.1, .int .i64 (getB xs).2.2]) := by
  have H := St.start hs
  have fin : ∀ (x : Nat × Nat × Nat) (n k e : Int), getB xs = x → n = x.1 → k = x.2.1 → e = x.2.2 → Value.tuple #[.int .u64 n, .int .i64 k, .int .i64 e] = .tuple #[.int .u64 (getB xs).1, .int .i64 (getB xs).2.1, .int .i64 (getB xs).2.2] := fun x n k e h1 h2 h3 h4 => by rw [h1, h2, h3, h4]
  unfold SpecV
  refine calls_of Tryd.func119 rfl Tryd.ntmps119 (by simp) ?_
  repeat' (first | ((first | refine WL.p rfl ?_ | refine WL.u ?_ | refine WL.g rfl rfl ?_ | refine WL.gu rfl ?_); first | refine pvQ ?_ | (refine opk 3 rfl ?_; (refine ost_cmp rfl rfl rfl rfl (fun hc => ?_) (fun hc => ?_) <;> (simp only [cmpP] at hc; try exact prIQ))) | (refine opk 4 rfl ?_; (refine ost_cmp rfl rfl rfl rfl (fun hc => ?_) (fun hc => ?_) <;> (simp only [cmpP] at hc; try exact prIQ)))) | refine Wc.seq ?_ | refine then_n ?_ | refine WL.nil ?_ | refine Wc.region ?_ | refine Wc.block ?_ | refine then_r ?_ | refine then_e ?_ | refine inb_e rfl ?_ | refine inb_o rfl ?_ | refine inb_n ?_ | refine inb_r ?_ | refine Wc.skip ?_ | refine Wc.exit ?_ | refine Wc.ret ?_ | refine Wc.cond_true rfl ?_ | refine Wc.cond_false rfl ?_ | refine WL.skp rfl rfl ?_ | refine WL.sku rfl ?_)
  refine Wc.loopE (fun s0 m s w' => ∃ (k acc : Nat), m = xs.length - k ∧ k ≤ xs.length ∧ Agree [2, 3, 4, 5, 6, 7, 10, 11, 12, 13, 14, 15, 16, 17, 18, 19, 20, 21, 22, 23, 24, 25, 26, 27, 28, 29, 30, 31, 32, 33, 34, 35, 36, 37, 38, 39, 40, 41, 42, 43, 44, 45] s s0 ∧ s 10 = .int .i64 k ∧ s 5 = .int .u64 acc ∧ getB xs = getL k acc (xs.drop k) ∧ acc < 128 ^ k ∧ k ≤ 9 ∧
    St w [] h0 h0 [] w') xs.length ⟨0, 0, rfl, by omega, Agree.refl _ _, rfl, rfl, rfl, by simp, by omega, H⟩ ?_
  clear H
  rintro m s w' ⟨k, acc, rfl, hk, hA, e1, e2, hg, hacc, h9, H⟩
  obtain ⟨j, rfl⟩ := hA.env2 e1 e2
  clear hA e1 e2
  by_cases hlt : k < xs.length
  · obtain ⟨b, off, l, T, fr, rfl, eb, eg⟩ := hr.get hlt
    have g1 : l[off + (k : Int).toNat * 1]? = some (.int .u8 (xs[k]).toNat) := by rw [show off + (k : Int).toNat * 1 = off + k by omega]; exact eg k hlt
    rw [List.drop_eq_getElem_cons hlt] at hg
    generalize hx : xs[k] = x at g1 hg
    have hx2 := x.toNat_lt
    have b1 := and127 x; have b2 := and128 x
    repeat' (first | ((first | refine WL.p rfl ?_ | refine WL.u ?_ | refine WL.g rfl rfl ?_ | refine WL.gu rfl ?_); first | refine pvQ ?_ | (refine opk 3 rfl ?_; (refine ost_cmp rfl rfl rfl rfl (fun hc => ?_) (fun hc => ?_) <;> (simp only [cmpP] at hc; try exact prIQ))) | (refine opk 4 rfl ?_; (refine ost_cmp rfl rfl rfl rfl (fun hc => ?_) (fun hc => ?_) <;> (simp only [cmpP] at hc; try exact prIQ)))) | refine Wc.seq ?_ | refine then_n ?_ | refine WL.nil ?_ | refine Wc.region ?_ | refine Wc.block ?_ | refine then_r ?_ | refine then_e ?_ | refine inb_e rfl ?_ | refine inb_o rfl ?_ | refine inb_n ?_ | refine inb_r ?_ | refine Wc.skip ?_ | refine Wc.exit ?_ | refine Wc.ret ?_ | refine Wc.cond_true rfl ?_ | refine Wc.cond_false rfl ?_ | refine WL.skp rfl rfl ?_ | refine WL.sku rfl ?_)
    all_goals first
      | (refine fn_ret3 (v1 := .int _ _) (v2 := .int _ _) (v3 := .int _ _) rfl rfl rfl rfl ⟨fin (0, 0, 5) _ _ _ ?_ rfl rfl rfl, H.fr⟩; rw [hg, getL]; first | rw [if_pos (by omega)] | rw [if_neg (by omega), if_neg (by omega), if_pos (by omega)])
      | (refine fn_ret3 (v1 := .int _ _) (v2 := .int _ _) (v3 := .int _ _) rfl rfl rfl rfl ⟨fin (acc + x.toNat % 128 * 128 ^ k, k + 1, 0) _ _ _ ?_ (get_step x h9 hacc (by omega)).1 rfl rfl, H.fr⟩; rw [hg, getL, if_neg (by omega), if_neg (by omega), if_neg (by omega)])
      | exact ⟨xs.length - (k + 1), by omega, k + 1, _, rfl, by omega, by (repeat' (first | exact Agree.refl _ _ | exact Agree.havoc | refine Agree.upd rfl ?_ | refine Agree.hav2 rfl ?_)), rfl, by rw [← (get_step x h9 hacc (by omega)).1]; rfl, by rw [hg, getL, if_neg (by omega), if_pos (by omega)], (get_step x h9 hacc (by omega)).2, by omega, H⟩
  · obtain rfl : k = xs.length := by omega
    repeat' (first | ((first | refine WL.p rfl ?_ | refine WL.u ?_ | refine WL.g rfl rfl ?_ | refine WL.gu rfl ?_); first | refine pvQ ?_ | (refine opk 3 rfl ?_; (refine ost_cmp rfl rfl rfl rfl (fun hc => ?_) (fun hc => ?_) <;> (simp only [cmpP] at hc; try exact prIQ))) | (refine opk 4 rfl ?_; (refine ost_cmp rfl rfl rfl rfl (fun hc => ?_) (fun hc => ?_) <;> (simp only [cmpP] at hc; try exact prIQ)))) | refine Wc.seq ?_ | refine then_n ?_ | refine WL.nil ?_ | refine Wc.region ?_ | refine Wc.block ?_ | refine then_r ?_ | refine then_e ?_ | refine inb_e rfl ?_ | refine inb_o rfl ?_ | refine inb_n ?_ | refine inb_r ?_ | refine Wc.skip ?_ | refine Wc.exit ?_ | refine Wc.ret ?_ | refine Wc.cond_true rfl ?_ | refine Wc.cond_false rfl ?_ | refine WL.skp rfl rfl ?_ | refine WL.sku rfl ?_)
    refine fn_ret3 (v1 := .int _ _) (v2 := .int _ _) (v3 := .int _ _) rfl rfl rfl rfl ⟨fin (0, 0, 4) _ _ _ ?_ rfl rfl rfl, H.fr⟩
    rw [hg]; simp [getL]

theorem xor_zero (a : Nat) (h : a < 18446744073709551616) : bitv .xor .u64 (a : Int) 0 = a := by
  show IntKind.u64.wrap (((BitVec.ofInt 64 (a : Int) ^^^ BitVec.ofInt 64 0).toNat : Nat) : Int) = _
  rw [bv_of]
  simp [wrap64]
  omega
def valL : List UInt8 → Nat
  | [] => 0
  | x :: r => x.toNat % 128 + 128 * valL r
theorem valL_app : ∀ (xs : List UInt8) (c : UInt8), valL (xs ++ [c]) = valL xs + c.toNat % 128 * 128 ^ xs.length
  | [], c => by simp [valL]
  | x :: r, c => by
    rw [List.cons_append, valL, valL_app r c, valL, List.length_cons, Nat.pow_succ, Nat.mul_add]
    rw [show c.toNat % 128 * (128 ^ r.length * 128) = 128 * (c.toNat % 128 * 128 ^ r.length) by rw [← Nat.mul_assoc, Nat.mul_comm]]
    omega
theorem putL_val : ∀ (xs : List UInt8) (c : UInt8) (m : Nat), xs.length ≤ m → (∀ x, x ∈ xs → 128 ≤ x.toNat) → c.toNat < 128 → (c.toNat ≠ 0 ∨ xs = []) → putL m (valL (xs ++ [c])) = xs ++ [c]
  | [], c, m, _, _, hc, _ => by
    have e : valL ([] ++ [c]) = c.toNat := by simp [valL]; omega
    rw [e, putL_last hc]; simp
  | x :: r, c, m, hm, hx, hc, h0 => by
    have h0 : c.toNat ≠ 0 := h0.resolve_right (by simp)
    obtain ⟨m, rfl⟩ : ∃ q, m = q + 1 := ⟨m - 1, by simp at hm; omega⟩
    have hr := putL_val r c m (by simpa using hm) (fun y hy => hx y (by simp [hy])) hc (.inl h0)
    have hp : 0 < valL (r ++ [c]) := by
      rw [valL_app]
      have : 1 * 1 ≤ c.toNat % 128 * 128 ^ r.length := Nat.mul_le_mul (by omega) (Nat.one_le_pow _ _ (by omega))
      omega
    have hx1 := hx x (by simp)
    have hx2 := x.toNat_lt
    rw [List.cons_append, valL, putL, if_neg (by omega)]
    have e1 : (x.toNat % 128 + 128 * valL (r ++ [c])) / 128 = valL (r ++ [c]) := by omega
    have e2 : (x.toNat % 128 + 128 * valL (r ++ [c])) % 128 + 128 = x.toNat := by omega
    rw [e1, e2, hr]; simp
theorem putL_end : ∀ (m n : Nat), 0 < n → n < 128 ^ (m + 1) → ∃ ys c, putL m n = ys ++ [c] ∧ c ≠ (0 : UInt8)
  | 0, n, h1, h2 => ⟨[], UInt8.ofNat n, rfl, fun e => by
      have := congrArg UInt8.toNat e
      simp at this; omega⟩
  | m + 1, n, h1, h2 => by
    unfold putL
    split
    · exact ⟨[], _, rfl, fun e => by
        have := congrArg UInt8.toNat e
        simp at this; omega⟩
    · obtain ⟨ys, c, e, hc⟩ := putL_end m (n / 128) (by omega) (by rw [Nat.pow_succ] at h2; omega)
      exact ⟨_ :: ys, c, by rw [e]; rfl, hc⟩
theorem putB_iff {xs : List UInt8} {c : UInt8} {n : Nat} (h9 : xs.length ≤ 9) (hx : ∀ x, x ∈ xs → 128 ≤ x.toNat) (hc : c.toNat < 128) (hn : n = valL (xs ++ [c])) (hb : n < 18446744073709551616) : putB n = xs ++ [c] ↔ ¬ (c.toNat = 0 ∧ 0 < xs.length) := by
  constructor
  · rintro h ⟨h1, h2⟩
    have hc0 : c = 0 := by apply UInt8.toNat_inj.1; simpa using h1
    by_cases hz : n = 0
    · rw [hz, show putB 0 = [0] from rfl, hc0] at h
      have := congrArg List.length h
      simp at this; subst this; simp at h2
    · obtain ⟨ys, d, e, hd⟩ := putL_end 10 n (by omega) (by omega)
      rw [putB, e] at h
      have := (List.append_inj' h rfl).2
      simp at this
      exact hd (this.trans hc0)
  · intro h
    rw [hn]
    refine putL_val xs c 10 (by omega) hx hc ?_
    by_cases h0 : c.toNat = 0
    · exact .inr (List.eq_nil_of_length_eq_zero (by omega))
    · exact .inl h0
end Go.Tg

