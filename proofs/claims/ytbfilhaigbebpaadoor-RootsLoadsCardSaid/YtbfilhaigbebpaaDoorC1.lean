/- Contracts of Go functions that the laws reach: what each call answers and leaves in memory, for all arguments within the bounds that each theorem names. -/
import Derived.Test.YtbfilhaigbebpaaDoorInst
import Derived.Test.YtbfilhaigbebpaaDoorAuto
import Derived.Test.YtbfilhaigbebpaaDoorV3
import Derived.Test.YtbfilhaigbebpaaDoorVec2
import Derived.Test.YtbfilhaigbebpaaDoorSl
set_option linter.unusedVariables false
set_option linter.unusedSimpArgs false
set_option maxRecDepth 100000
set_option maxHeartbeats 4000000
namespace Go.Tg
open Go Go.Proofs
def topN : Nat → V16 → Nat
  | 0, _ => 0
  | k + 1, v => if (atV v k).toNat = 0 then topN k v else k + 1
theorem topN_le (k : Nat) (v : V16) : topN k v ≤ k := by
  induction k with
  | zero => exact Nat.le_refl _
  | succ k ih => unfold topN; split <;> omega
def encN (v : V16) (n k : Nat) : List UInt8 := putB n ++ ((List.range k).map fun i => putB (atV v i).toNat).flatten
theorem encN_zero (v : V16) (n : Nat) : encN v n 0 = putB n := by simp [encN]
theorem encN_succ (v : V16) (n k : Nat) : encN v n (k + 1) = encN v n k ++ putB (atV v k).toNat := by simp [encN, List.range_succ, List.flatten_append]
theorem encN_len (v : V16) (n k : Nat) : (encN v n k).length ≤ 11 + 11 * k := by
  induction k with
  | zero => rw [encN_zero]; have := putB_len n; omega
  | succ k ih => rw [encN_succ, List.length_append]; have := putB_len (atV v k).toNat; omega
def encV (v : V16) : List UInt8 := encN v (topN 16 v) (topN 16 v)
end Go.Tg

set_option linter.unusedVariables false
set_option linter.unusedSimpArgs false
set_option maxRecDepth 100000
set_option maxHeartbeats 4000000
namespace Go.Tg
open Go Go.Proofs
def v2 (x y : UInt32) : V16 := fun i => if i.val = 0 then x else if i.val = 1 then y else 0
end Go.Tg

set_option linter.unusedVariables false
set_option linter.unusedSimpArgs false
set_option maxRecDepth 100000
set_option maxHeartbeats 4000000
namespace Go.Tg
open Go Go.Proofs
def polyC : BitVec 32 := 3988292384#32
def bitC (x : BitVec 32) : BitVec 32 := (x >>> 1) ^^^ (if x.getLsbD 0 then polyC else 0#32)
def bitsC : Nat → BitVec 32 → BitVec 32
  | 0, x => x
  | n + 1, x => bitC (bitsC n x)
def halfL : List Int := [0, 498536548, 997073096, 651767980, 1994146192, 1802195444, 1303535960, 1342533948, 3988292384, 4027552580, 3604390888, 3412177804, 2607071920, 2262029012, 2685067896, 3183342108]
def halfV : List Value := halfL.map fun n => .int .u32 n
theorem bitC_xor (x y : BitVec 32) : bitC (x ^^^ y) = bitC x ^^^ bitC y := by
  unfold bitC
  rw [BitVec.ushiftRight_xor_distrib, BitVec.getLsbD_xor]
  cases x.getLsbD 0 <;> cases y.getLsbD 0 <;> simp
  · ac_rfl
  · ac_rfl
  · rw [show x >>> 1 ^^^ polyC ^^^ (y >>> 1 ^^^ polyC) = (x >>> 1 ^^^ y >>> 1) ^^^ (polyC ^^^ polyC) by ac_rfl]; simp
theorem bitsC_xor (x y : BitVec 32) : ∀ n, bitsC n (x ^^^ y) = bitsC n x ^^^ bitsC n y
  | 0 => rfl
  | n + 1 => by rw [bitsC, bitsC_xor x y n, bitC_xor]; rfl
theorem bitC_even {x : BitVec 32} (h : x.getLsbD 0 = false) : bitC x = x >>> 1 := by
  unfold bitC
  rw [if_neg (by rw [h]; decide), BitVec.xor_zero]
theorem bitsC_even {x : BitVec 32} : ∀ n, (∀ i, i < n → x.getLsbD i = false) → bitsC n x = x >>> n
  | 0, _ => by simp [bitsC]
  | n + 1, h => by
    rw [bitsC, bitsC_even n fun i hi => h i (by omega), bitC_even (by rw [BitVec.getLsbD_ushiftRight]; simpa using h n (by omega)), BitVec.shiftRight_add]
def lowC (x : BitVec 32) : Nat := (x &&& 15#32).toNat
theorem lowC_lt (x : BitVec 32) : lowC x < 16 := by
  unfold lowC; rw [BitVec.toNat_and]
  have := Nat.and_le_right (n := x.toNat) (m := (15#32).toNat)
  have e : (15#32).toNat = 15 := rfl
  omega
theorem half_low : ∀ n, n < 16 → bitsC 4 (BitVec.ofNat 32 n) = BitVec.ofNat 32 (halfL.getD n 0).toNat := by decide +kernel
theorem bits4 (x : BitVec 32) : bitsC 4 x = (x >>> 4) ^^^ BitVec.ofNat 32 (halfL.getD (lowC x) 0).toNat := by
  have e : x = ((x >>> 4) <<< 4) ^^^ (x &&& 15#32) := by
    apply BitVec.eq_of_getLsbD_eq
    intro i hi
    rw [BitVec.getLsbD_xor, BitVec.getLsbD_shiftLeft, BitVec.getLsbD_ushiftRight, BitVec.getLsbD_and]
    by_cases h : i < 4
    · have h15 : (15#32).getLsbD i = true := by
        match i, h with
        | 0, _ | 1, _ | 2, _ | 3, _ => rfl
      simp [h, h15]
    · have h15 : (15#32).getLsbD i = false := by
        rw [show (15#32) = BitVec.ofNat 32 15 from rfl, BitVec.getLsbD_ofNat]
        have : Nat.testBit 15 i = false := Nat.testBit_lt_two_pow (Nat.lt_of_lt_of_le (by decide : 15 < 2 ^ 4) (Nat.pow_le_pow_right (by decide) (by omega)))
        simp [this]
      rw [h15, show 4 + (i - 4) = i by omega]
      cases x.getLsbD i <;> simp [h, hi]
  have e1 : bitsC 4 ((x >>> 4) <<< 4) = x >>> 4 := by
    rw [bitsC_even 4 fun i hi => by rw [BitVec.getLsbD_shiftLeft]; simp [hi]]
    apply BitVec.eq_of_getLsbD_eq
    intro i hi
    rw [BitVec.getLsbD_ushiftRight, BitVec.getLsbD_shiftLeft, BitVec.getLsbD_ushiftRight]
    by_cases h : 4 + i < 32
    · simp [h, show 4 + (4 + i - 4) = 4 + i by omega]
    · have : x.getLsbD (4 + i) = false := BitVec.getLsbD_of_ge _ _ (by omega)
      simp [h, this]
  have e2 : x &&& 15#32 = BitVec.ofNat 32 (lowC x) := by unfold lowC; simp
  rw [e, bitsC_xor, e1, ← e, e2, half_low _ (lowC_lt x)]
theorem bits8 (x : BitVec 32) : bitsC 8 x = bitsC 4 (bitsC 4 x) := rfl
def takeC (x : BitVec 32) (c : UInt8) : BitVec 32 := bitsC 8 (x ^^^ BitVec.ofNat 32 c.toNat)
def nextC (x : BitVec 32) (xs : List UInt8) : BitVec 32 := (xs.foldl takeC (x ^^^ 4294967295#32)) ^^^ 4294967295#32
def sumC (xs : List UInt8) : BitVec 32 := nextC 0#32 xs
theorem bitv_xor (x y : BitVec 32) : bitv .xor .u32 x.toNat y.toNat = ((x ^^^ y).toNat : Int) := by
  have e : ∀ z : BitVec 32, BitVec.ofInt IntKind.u32.bits (z.toNat : Int) = z := fun z => by
    show BitVec.ofInt 32 (z.toNat : Int) = z
    simp
  simp only [bitv, e]
  have hl : (x ^^^ y).toNat < 2 ^ 32 := (x ^^^ y).isLt
  have := wrap_in (k := .u32) (n := ((x ^^^ y).toNat : Int)) (by simp only [inK]; omega)
  exact this
theorem bitv_and (x y : BitVec 32) : bitv .and .u32 x.toNat y.toNat = ((x &&& y).toNat : Int) := by
  have e : ∀ z : BitVec 32, BitVec.ofInt IntKind.u32.bits (z.toNat : Int) = z := fun z => by
    show BitVec.ofInt 32 (z.toNat : Int) = z
    simp
  simp only [bitv, e]
  have hl : (x &&& y).toNat < 2 ^ 32 := (x &&& y).isLt
  have := wrap_in (k := .u32) (n := ((x &&& y).toNat : Int)) (by simp only [inK]; omega)
  exact this
theorem shr4 (x : BitVec 32) : (x.toNat : Int).fdiv (2 ^ min (4 : Int).toNat IntKind.u32.bits) = ((x >>> 4).toNat : Int) := by
  rw [BitVec.toNat_ushiftRight, Nat.shiftRight_eq_div_pow]
  have : (2 : Int) ^ min (4 : Int).toNat IntKind.u32.bits = 16 := by decide
  rw [this, Int.fdiv_eq_ediv_of_nonneg _ (by decide)]
  omega
theorem lowI (x : BitVec 32) : bitv .and .u32 x.toNat 15 = (lowC x : Int) := bitv_and x 15#32
theorem halfV_at {n : Nat} (h : n < 16) : halfV[0 + (n : Int).toNat * 1]? = some (.int .u32 (BitVec.ofNat 32 (halfL.getD n 0).toNat).toNat) := by
  have e : ∀ n, n < 16 → halfV[n]? = some (.int .u32 (BitVec.ofNat 32 (halfL.getD n 0).toNat).toNat) := by
    intro n h
    have hn : n = 0 ∨ n = 1 ∨ n = 2 ∨ n = 3 ∨ n = 4 ∨ n = 5 ∨ n = 6 ∨ n = 7 ∨ n = 8 ∨ n = 9 ∨ n = 10 ∨ n = 11 ∨ n = 12 ∨ n = 13 ∨ n = 14 ∨ n = 15 := by omega
    rcases hn with rfl | rfl | rfl | rfl | rfl | rfl | rfl | rfl | rfl | rfl | rfl | rfl | rfl | rfl | rfl | rfl
    all_goals rfl
  simpa using e n h
theorem r1_take (x : BitVec 32) (c : UInt8) (w : World) : SpecV Tryd.prog 80 #[.int .u32 x.toNat, .int .u8 c.toNat] w (.int .u32 (takeC x c).toNat) := by
  refine specV_of fun h0 hs H => ?_
  have hc8 := c.toNat_lt
  refine calls_of Tryd.func80 rfl Tryd.ntmps80 (by simp) ?_
  have e0 : bitv .xor .u32 x.toNat c.toNat = ((x ^^^ BitVec.ofNat 32 c.toNat).toNat : Int) := by
    have := bitv_xor x (BitVec.ofNat 32 c.toNat)
    rw [← this]; congr 1
    simp
    try omega
  repeat' (first | ((first | refine WL.p rfl ?_ | refine WL.u ?_); first | refine pvQ ?_ | (refine opk 3 rfl ?_; (refine ost_cmp rfl rfl rfl rfl (fun hc => ?_) (fun hc => ?_) <;> (simp only [cmpP] at hc; try exact prIQ))) | (refine opk 4 rfl ?_; (refine ost_cmp rfl rfl rfl rfl (fun hc => ?_) (fun hc => ?_) <;> (simp only [cmpP] at hc; try exact prIQ)))) | refine Wc.seq ?_ | refine then_n ?_ | refine WL.nil ?_ | refine Wc.region ?_ | refine Wc.block ?_ | refine then_r ?_ | refine then_e ?_ | refine inb_e rfl ?_ | refine inb_o rfl ?_ | refine inb_n ?_ | refine inb_r ?_ | refine Wc.skip ?_ | refine Wc.exit ?_ | refine Wc.ret ?_ | refine Wc.cond_true rfl ?_ | refine Wc.cond_false rfl ?_)
  refine Wc.loopE (fun s0 m s w' => ∃ k : Nat, m = 8 - k ∧ k ≤ 8 ∧ Agree [0, 5, 6, 11, 12, 13, 14, 15, 16, 17, 18, 19, 20, 21, 22] s s0 ∧ s 5 = .int .i64 k ∧ s 0 = .int .u32 (bitsC k (x ^^^ BitVec.ofNat 32 c.toNat)).toNat ∧
    St w [] h0 h0 [] w') 8 ⟨0, rfl, by omega, Agree.refl _ _, rfl, by show Value.int .u32 (bitv .xor .u32 x.toNat c.toNat) = _; rw [e0]; rfl, H⟩ ?_
  clear H
  rintro m s w' ⟨k, rfl, hk, hA, e1, e2, H⟩
  obtain ⟨j, rfl⟩ := hA.env2 e1 e2
  clear hA e1 e2
  by_cases hlt : k < 8
  · generalize hy : bitsC k (x ^^^ BitVec.ofNat 32 c.toNat) = y
    have hyl := y.isLt
    have g1 : ((y >>> 1).toNat : Int) = (y.toNat : Int) / 2 := by rw [BitVec.toNat_ushiftRight, Nat.shiftRight_eq_div_pow]; omega
    have g2 : y.getLsbD 0 = decide ((y.toNat : Int) % 2 = 1) := by
      rw [BitVec.getLsbD, Nat.testBit_zero]; congr 1; simp; omega
    have g3 : bitv .xor .u32 ((y.toNat : Int) / 2) 3988292384 = ((y >>> 1 ^^^ polyC).toNat : Int) := by rw [← g1, show (3988292384 : Int) = ((polyC.toNat : Nat) : Int) by decide]; exact bitv_xor _ _
    repeat' (first | ((first | refine WL.p rfl ?_ | refine WL.u ?_); first | refine pvQ ?_ | (refine opk 3 rfl ?_; (refine ost_cmp rfl rfl rfl rfl (fun hc => ?_) (fun hc => ?_) <;> (simp only [cmpP] at hc; try exact prIQ))) | (refine opk 4 rfl ?_; (refine ost_cmp rfl rfl rfl rfl (fun hc => ?_) (fun hc => ?_) <;> (simp only [cmpP] at hc; try exact prIQ)))) | refine Wc.seq ?_ | refine then_n ?_ | refine WL.nil ?_ | refine Wc.region ?_ | refine Wc.block ?_ | refine then_r ?_ | refine then_e ?_ | refine inb_e rfl ?_ | refine inb_o rfl ?_ | refine inb_n ?_ | refine inb_r ?_ | refine Wc.skip ?_ | refine Wc.exit ?_ | refine Wc.ret ?_ | refine Wc.cond_true rfl ?_ | refine Wc.cond_false rfl ?_)
    · have hc : (y.toNat : Int) % 2 = 1 := hc
      refine ⟨8 - (k + 1), by omega, k + 1, rfl, by omega, by (repeat' (first | exact Agree.refl _ _ | exact Agree.havoc | refine Agree.upd rfl ?_ | refine Agree.hav2 rfl ?_)), rfl, ?_, H⟩
      show Value.int .u32 (bitv .xor .u32 ((y.toNat : Int) / 2) 3988292384) = _
      rw [g3, bitsC, hy, bitC, g2]; simp [hc]
    · have hc : ¬ (y.toNat : Int) % 2 = 1 := hc
      refine ⟨8 - (k + 1), by omega, k + 1, rfl, by omega, by (repeat' (first | exact Agree.refl _ _ | exact Agree.havoc | refine Agree.upd rfl ?_ | refine Agree.hav2 rfl ?_)), rfl, ?_, H⟩
      show Value.int .u32 ((y.toNat : Int) / 2) = _
      rw [bitsC, hy, bitC, g2, ← g1]; simp [hc]
  · obtain rfl : k = 8 := by omega
    repeat' (first | ((first | refine WL.p rfl ?_ | refine WL.u ?_); first | refine pvQ ?_ | (refine opk 3 rfl ?_; (refine ost_cmp rfl rfl rfl rfl (fun hc => ?_) (fun hc => ?_) <;> (simp only [cmpP] at hc; try exact prIQ))) | (refine opk 4 rfl ?_; (refine ost_cmp rfl rfl rfl rfl (fun hc => ?_) (fun hc => ?_) <;> (simp only [cmpP] at hc; try exact prIQ)))) | refine Wc.seq ?_ | refine then_n ?_ | refine WL.nil ?_ | refine Wc.region ?_ | refine Wc.block ?_ | refine then_r ?_ | refine then_e ?_ | refine inb_e rfl ?_ | refine inb_o rfl ?_ | refine inb_n ?_ | refine inb_r ?_ | refine Wc.skip ?_ | refine Wc.exit ?_ | refine Wc.ret ?_ | refine Wc.cond_true rfl ?_ | refine Wc.cond_false rfl ?_)
    (first | refine fn_ret1 (v := .bool _) rfl rfl ⟨?_, H.fr⟩ | refine fn_ret1 (v := .int _ _) rfl rfl ⟨?_, H.fr⟩ | refine fn_ret1 (v := .string _) rfl rfl ⟨?_, H.fr⟩); rfl
theorem takeC_half (y : BitVec 32) (c : UInt8) : takeC y c = (let z := y ^^^ BitVec.ofNat 32 c.toNat; let u := (z >>> 4) ^^^ BitVec.ofNat 32 (halfL.getD (lowC z) 0).toNat; (u >>> 4) ^^^ BitVec.ofNat 32 (halfL.getD (lowC u) 0).toNat) := by
  unfold takeC; rw [bits8, bits4, bits4]
end Go.Tg

