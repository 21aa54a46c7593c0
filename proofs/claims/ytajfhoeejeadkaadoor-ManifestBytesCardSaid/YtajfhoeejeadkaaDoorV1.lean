/- Contracts of Go functions that the laws reach: what each call answers and leaves in memory, for all arguments within the bounds that each theorem names. -/
import Derived.Test.YtajfhoeejeadkaaDoorInst
import Derived.Test.YtajfhoeejeadkaaDoorAuto
import Derived.Test.YtajfhoeejeadkaaDoorSl
import Derived.Test.YtajfhoeejeadkaaDoorByt
set_option linter.unusedVariables false
set_option linter.unusedSimpArgs false
set_option maxRecDepth 100000
set_option maxHeartbeats 4000000
namespace Go.Tg
open Go Go.Proofs
def polyC : BitVec 32 := 3988292384#32
def bitC (x : BitVec 32) : BitVec 32 := (x >>> 1) ^^^ (if x.getLsbD 0 then polyC else 0#32)
def bitsC : Nat → BitVec 32 → BitVec 32
  | 0, x => x
  | n + 1, x => bitC (bitsC n x)
def halfL : List Int := [0, 498536548, 997073096, 651767980, 1994146192, 1802195444, 1303535960, 1342533948, 3988292384, 4027552580, 3604390888, 3412177804, 2607071920, 2262029012, 2685067896, 3183342108]
def halfV : List Value := halfL.map fun n => .int .u32 n
theorem bitC_xor (x y : BitVec 32) : bitC (x ^^^ y) = bitC x ^^^ bitC y := by
  unfold bitC
  rw [BitVec.ushiftRight_xor_distrib, BitVec.getLsbD_xor]
  cases x.getLsbD 0 <;> cases y.getLsbD 0 <;> simp
  · ac_rfl
  · ac_rfl
  · rw [show x >>> 1 ^^^ polyC ^^^ (y >>> 1 ^^^ polyC) = (x >>> 1 ^^^ y >>> 1) ^^^ (polyC ^^^ polyC) by ac_rfl]; simp
theorem bitsC_xor (x y : BitVec 32) : ∀ n, bitsC n (x ^^^ y) = bitsC n x ^^^ bitsC n y
  | 0 => rfl
  | n + 1 => by rw [bitsC, bitsC_xor x y n, bitC_xor]; rfl
theorem bitC_even {x : BitVec 32} (h : x.getLsbD 0 = false) : bitC x = x >>> 1 := by
  unfold bitC
  rw [if_neg (by rw [h]; decide), BitVec.xor_zero]
theorem bitsC_even {x : BitVec 32} : ∀ n, (∀ i, i < n → x.getLsbD i = false) → bitsC n x = x >>> n
  | 0, _ => by simp [bitsC]
  | n + 1, h => by
    rw [bitsC, bitsC_even n fun i hi => h i (by omega), bitC_even (by rw [BitVec.getLsbD_ushiftRight]; simpa using h n (by omega)), BitVec.shiftRight_add]
def lowC (x : BitVec 32) : Nat := (x &&& 15#32).toNat
theorem lowC_lt (x : BitVec 32) : lowC x < 16 := by
  unfold lowC; rw [BitVec.toNat_and]
  have := Nat.and_le_right (n := x.toNat) (m := (15#32).toNat)
  have e : (15#32).toNat = 15 := rfl
  omega
theorem half_low : ∀ n, n < 16 → bitsC 4 (BitVec.ofNat 32 n) = BitVec.ofNat 32 (halfL.getD n 0).toNat := by decide +kernel
theorem bits4 (x : BitVec 32) : bitsC 4 x = (x >>> 4) ^^^ BitVec.ofNat 32 (halfL.getD (lowC x) 0).toNat := by
  have e : x = ((x >>> 4) <<< 4) ^^^ (x &&& 15#32) := by
    apply BitVec.eq_of_getLsbD_eq
    intro i hi
    rw [BitVec.getLsbD_xor, BitVec.getLsbD_shiftLeft, BitVec.getLsbD_ushiftRight, BitVec.getLsbD_and]
    by_cases h : i < 4
    · have h15 : (15#32).getLsbD i = true := by
        match i, h with
        | 0, _ | 1, _ | 2, _ | 3, _ => rfl
      simp [h, h15]
    · have h15 : (15#32).getLsbD i = false := by
        rw [show (15#32) = BitVec.ofNat 32 15 from rfl, BitVec.getLsbD_ofNat]
        have : Nat.testBit 15 i = false := Nat.testBit_lt_two_pow (Nat.lt_of_lt_of_le (by decide : 15 < 2 ^ 4) (Nat.pow_le_pow_right (by decide) (by omega)))
        simp [this]
      rw [h15, show 4 + (i - 4) = i by omega]
      cases x.getLsbD i <;> simp [h, hi]
  have e1 : bitsC 4 ((x >>> 4) <<< 4) = x >>> 4 := by
    rw [bitsC_even 4 fun i hi => by rw [BitVec.getLsbD_shiftLeft]; simp [hi]]
    apply BitVec.eq_of_getLsbD_eq
    intro i hi
    rw [BitVec.getLsbD_ushiftRight, BitVec.getLsbD_shiftLeft, BitVec.getLsbD_ushiftRight]
    by_cases h : 4 + i < 32
    · simp [h, show 4 + (4 + i - 4) = 4 + i by omega]
    · have : x.getLsbD (4 + i) = false := BitVec.getLsbD_of_ge _ _ (by omega)
      simp [h, this]
  have e2 : x &&& 15#32 = BitVec.ofNat 32 (lowC x) := by unfold lowC; simp
  rw [e, bitsC_xor, e1, ← e, e2, half_low _ (lowC_lt x)]
theorem bits8 (x : BitVec 32) : bitsC 8 x = bitsC 4 (bitsC 4 x) := rfl
def takeC (x : BitVec 32) (c : UInt8) : BitVec 32 := bitsC 8 (x ^^^ BitVec.ofNat 32 c.toNat)
def nextC (x : BitVec 32) (xs : List UInt8) : BitVec 32 := (xs.foldl takeC (x ^^^ 4294967295#32)) ^^^ 4294967295#32
def sumC (xs : List UInt8) : BitVec 32 := nextC 0#32 xs
theorem bitv_xor (x y : BitVec 32) : bitv .xor .u32 x.toNat y.toNat = ((x ^^^ y).toNat : Int) := by
  have e : ∀ z : BitVec 32, BitVec.ofInt IntKind.u32.bits (z.toNat : Int) = z := fun z => by
    show BitVec.ofInt 32 (z.toNat : Int) = z
    simp
  simp only [bitv, e]
  have hl : (x ^^^ y).toNat < 2 ^ 32 := (x ^^^ y).isLt
  have := wrap_in (k := .u32) (n := ((x ^^^ y).toNat : Int)) (by simp only [inK]; omega)
  exact this
theorem bitv_and (x y : BitVec 32) : bitv .and .u32 x.toNat y.toNat = ((x &&& y).toNat : Int) := by
  have e : ∀ z : BitVec 32, BitVec.ofInt IntKind.u32.bits (z.toNat : Int) = z := fun z => by
    show BitVec.ofInt 32 (z.toNat : Int) = z
    simp
  simp only [bitv, e]
  have hl : (x &&& y).toNat < 2 ^ 32 := (x &&& y).isLt
  have := wrap_in (k := .u32) (n := ((x &&& y).toNat : Int)) (by simp only [inK]; omega)
  exact this
theorem shr4 (x : BitVec 32) : (x.toNat : Int).fdiv (2 ^ min (4 : Int).toNat IntKind.u32.bits) = ((x >>> 4).toNat : Int) := by
  rw [BitVec.toNat_ushiftRight, Nat.shiftRight_eq_div_pow]
  have : (2 : Int) ^ min (4 : Int).toNat IntKind.u32.bits = 16 := by decide
  rw [this, Int.fdiv_eq_ediv_of_nonneg _ (by decide)]
  omega
theorem lowI (x : BitVec 32) : bitv .and .u32 x.toNat 15 = (lowC x : Int) := bitv_and x 15#32
theorem halfV_at {n : Nat} (h : n < 16) : halfV[0 + (n : Int).toNat * 1]? = some (.int .u32 (BitVec.ofNat 32 (halfL.getD n 0).toNat).toNat) := by
  have e : ∀ n, n < 16 → halfV[n]? = some (.int .u32 (BitVec.ofNat 32 (halfL.getD n 0).toNat).toNat) := by
    intro n h
    have hn : n = 0 ∨ n = 1 ∨ n = 2 ∨ n = 3 ∨ n = 4 ∨ n = 5 ∨ n = 6 ∨ n = 7 ∨ n = 8 ∨ n = 9 ∨ n = 10 ∨ n = 11 ∨ n = 12 ∨ n = 13 ∨ n = 14 ∨ n = 15 := by omega
    rcases hn with rfl | rfl | rfl | rfl | rfl | rfl | rfl | rfl | rfl | rfl | rfl | rfl | rfl | rfl | rfl | rfl
    all_goals rfl
  simpa using e n h
theorem r1_take (x : BitVec 32) (c : UInt8) (w : World) : SpecV Tryd.prog 152 #[.int .u32 x.toNat, .int .u8 c.toNat] w (.int .u32 (takeC x c).toNat) := by
  refine specV_of fun h0 hs H => ?_
  have hc8 := c.toNat_lt
  refine calls_of Tryd.func152 rfl Tryd.ntmps152 (by simp) ?_
  have e0 : bitv .xor .u32 x.toNat c.toNat = ((x ^^^ BitVec.ofNat 32 c.toNat).toNat : Int) := by
    have := bitv_xor x (BitVec.ofNat 32 c.toNat)
    rw [← this]; congr 1
    simp
    try omega
  repeat' (first | ((first | refine WL.p rfl ?_ | refine WL.u ?_); first | refine pvQ ?_ | (refine opk 3 rfl ?_; (refine ost_cmp rfl rfl rfl rfl (fun hc => ?_) (fun hc => ?_) <;> (simp only [cmpP] at hc; try exact prIQ))) | (refine opk 4 rfl ?_; (refine ost_cmp rfl rfl rfl rfl (fun hc => ?_) (fun hc => ?_) <;> (simp only [cmpP] at hc; try exact prIQ)))) | refine Wc.seq ?_ | refine then_n ?_ | refine WL.nil ?_ | refine Wc.region ?_ | refine Wc.block ?_ | refine then_r ?_ | refine then_e ?_ | refine inb_e rfl ?_ | refine inb_o rfl ?_ | refine inb_n ?_ | refine inb_r ?_ | refine Wc.skip ?_ | refine Wc.exit ?_ | refine Wc.ret ?_ | refine Wc.cond_true rfl ?_ | refine Wc.cond_false rfl ?_)
  refine Wc.loopE (fun s0 m s w' => ∃ k : Nat, m = 8 - k ∧ k ≤ 8 ∧ Agree [0, 5, 6, 11, 12, 13, 14, 15, 16, 17, 18, 19, 20, 21, 22] s s0 ∧ s 5 = .int .i64 k ∧ s 0 = .int .u32 (bitsC k (x ^^^ BitVec.ofNat 32 c.toNat)).toNat ∧
    St w [] h0 h0 [] w') 8 ⟨0, rfl, by omega, Agree.refl _ _, rfl, by show Value.int .u32 (bitv .xor .u32 x.toNat c.toNat) = _; rw [e0]; rfl, H⟩ ?_
  clear H
  rintro m s w' ⟨k, rfl, hk, hA, e1, e2, H⟩
  obtain ⟨j, rfl⟩ := hA.env2 e1 e2
  clear hA e1 e2
  by_cases hlt : k < 8
  · generalize hy : bitsC k (x ^^^ BitVec.ofNat 32 c.toNat) = y
    have hyl := y.isLt
    have g1 : ((y >>> 1).toNat : Int) = (y.toNat : Int) / 2 := by rw [BitVec.toNat_ushiftRight, Nat.shiftRight_eq_div_pow]; omega
    have g2 : y.getLsbD 0 = decide ((y.toNat : Int) % 2 = 1) := by
      rw [BitVec.getLsbD, Nat.testBit_zero]; congr 1; simp; omega
    have g3 : bitv .xor .u32 ((y.toNat : Int) / 2) 3988292384 = ((y >>> 1 ^^^ polyC).toNat : Int) := by rw [← g1, show (3988292384 : Int) = ((polyC.toNat : Nat) : Int) by decide]; exact bitv_xor _ _
    repeat' (first | ((first | refine WL.p rfl ?_ | refine WL.u ?_); first | refine pvQ ?_ | (refine opk 3 rfl ?_; (refine ost_cmp rfl rfl rfl rfl (fun hc => ?_) (fun hc => ?_) <;> (simp only [cmpP] at hc; try exact prIQ))) | (refine opk 4 rfl ?_; (refine ost_cmp rfl rfl rfl rfl (fun hc => ?_) (fun hc => ?_) <;> (simp only [cmpP] at hc; try exact prIQ)))) | refine Wc.seq ?_ | refine then_n ?_ | refine WL.nil ?_ | refine Wc.region ?_ | refine Wc.block ?_ | refine then_r ?_ | refine then_e ?_ | refine inb_e rfl ?_ | refine inb_o rfl ?_ | refine inb_n ?_ | refine inb_r ?_ | refine Wc.skip ?_ | refine Wc.exit ?_ | refine Wc.ret ?_ | refine Wc.cond_true rfl ?_ | refine Wc.cond_false rfl ?_)
    · have hc : (y.toNat : Int) % 2 = 1 := hc
      refine ⟨8 - (k + 1), by omega, k + 1, rfl, by omega, by (repeat' (first | exact Agree.refl _ _ | exact Agree.havoc | refine Agree.upd rfl ?_ | refine Agree.hav2 rfl ?_)), rfl, ?_, H⟩
      show Value.int .u32 (bitv .xor .u32 ((y.toNat : Int) / 2) 3988292384) = _
      rw [g3, bitsC, hy, bitC, g2]; simp [hc]
    · have hc : ¬ (y.toNat : Int) % 2 = 1 := hc
      refine ⟨8 - (k + 1), by omega, k + 1, rfl, by omega, by (repeat' (first | exact Agree.refl _ _ | exact Agree.havoc | refine Agree.upd rfl ?_ | refine Agree.hav2 rfl ?_)), rfl, ?_, H⟩
      show Value.int .u32 ((y.toNat : Int) / 2) = _
      rw [bitsC, hy, bitC, g2, ← g1]; simp [hc]
  · obtain rfl : k = 8 := by omega
    repeat' (first | ((first | refine WL.p rfl ?_ | refine WL.u ?_); first | refine pvQ ?_ | (refine opk 3 rfl ?_; (refine ost_cmp rfl rfl rfl rfl (fun hc => ?_) (fun hc => ?_) <;> (simp only [cmpP] at hc; try exact prIQ))) | (refine opk 4 rfl ?_; (refine ost_cmp rfl rfl rfl rfl (fun hc => ?_) (fun hc => ?_) <;> (simp only [cmpP] at hc; try exact prIQ)))) | refine Wc.seq ?_ | refine then_n ?_ | refine WL.nil ?_ | refine Wc.region ?_ | refine Wc.block ?_ | refine then_r ?_ | refine then_e ?_ | refine inb_e rfl ?_ | refine inb_o rfl ?_ | refine inb_n ?_ | refine inb_r ?_ | refine Wc.skip ?_ | refine Wc.exit ?_ | refine Wc.ret ?_ | refine Wc.cond_true rfl ?_ | refine Wc.cond_false rfl ?_)
    (first | refine fn_ret1 (v := .bool _) rfl rfl ⟨?_, H.fr⟩ | refine fn_ret1 (v := .int _ _) rfl rfl ⟨?_, H.fr⟩ | refine fn_ret1 (v := .string _) rfl rfl ⟨?_, H.fr⟩); rfl
theorem takeC_half (y : BitVec 32) (c : UInt8) : takeC y c = (let z := y ^^^ BitVec.ofNat 32 c.toNat; let u := (z >>> 4) ^^^ BitVec.ofNat 32 (halfL.getD (lowC z) 0).toNat; (u >>> 4) ^^^ BitVec.ofNat 32 (halfL.getD (lowC u) 0).toNat) := by
  unfold takeC; rw [bits8, bits4, bits4]
end Go.Tg

set_option linter.unusedVariables false
set_option linter.unusedSimpArgs false
set_option maxRecDepth 100000
set_option maxHeartbeats 4000000
namespace Go.Tg
open Go Go.Proofs
def Half (h : FH) : Prop := ∃ T fr, h 1 = some (.cells halfV.toArray T fr)
theorem Half.mono {h h' : FH} (hle : FLe h h') (r : Half h) : Half h' := by
  obtain ⟨T, fr, e⟩ := r; exact ⟨T, fr, hle _ _ e⟩
theorem Half.full {ws w : World} {S : List Nat} {h0 h : FH} {L : List HA} (r : Half h) (H : St ws S h0 h L w) : Half (full w) := r.mono H.sat.le
theorem foldC_take (x : BitVec 32) (xs : List UInt8) {k : Nat} (h : k < xs.length) : (xs.take (k + 1)).foldl takeC x = takeC ((xs.take k).foldl takeC x) xs[k] := by
  rw [List.take_add_one, List.getElem?_eq_getElem h, List.foldl_append]; rfl
theorem xor_max (x : BitVec 32) : bitv .xor .u32 x.toNat 4294967295 = ((x ^^^ 4294967295#32).toNat : Int) := bitv_xor x 4294967295#32
theorem xor_max' (x : BitVec 32) : bitv .xor .u32 4294967295 x.toNat = ((x ^^^ 4294967295#32).toNat : Int) := by
  have := bitv_xor 4294967295#32 x
  rw [BitVec.xor_comm] at this; exact this
theorem r1_Next (h0 : FH) (x : BitVec 32) (a : Option Addr) (c : Nat) (xs : List UInt8) (w : World) (hs : Sat h0 w) (hr : BS h0 a c xs) :
    SpecV Tryd.prog 144 #[.int .u32 x.toNat, .slice a xs.length c] w (.int .u32 (nextC x xs).toNat) := by
  have H := St.start hs
  have hcap := hr.le
  have hmx : c ≤ 9223372036854775807 := by
    have := hr.mx
    have h9 : (maxLen : Nat) ≤ 9223372036854775807 := by decide
    omega
  unfold SpecV
  refine calls_of Tryd.func144 rfl Tryd.ntmps144 (by simp) ?_
  repeat' (first | ((first | refine WL.p rfl ?_ | refine WL.u ?_); first | refine pvQ ?_ | (refine opk 3 rfl ?_; (refine ost_cmp rfl rfl rfl rfl (fun hc => ?_) (fun hc => ?_) <;> (simp only [cmpP] at hc; try exact prIQ))) | (refine opk 4 rfl ?_; (refine ost_cmp rfl rfl rfl rfl (fun hc => ?_) (fun hc => ?_) <;> (simp only [cmpP] at hc; try exact prIQ)))) | refine Wc.seq ?_ | refine then_n ?_ | refine WL.nil ?_ | refine Wc.region ?_ | refine Wc.block ?_ | refine then_r ?_ | refine then_e ?_ | refine inb_e rfl ?_ | refine inb_o rfl ?_ | refine inb_n ?_ | refine inb_r ?_ | refine Wc.skip ?_ | refine Wc.exit ?_ | refine Wc.ret ?_ | refine Wc.cond_true rfl ?_ | refine Wc.cond_false rfl ?_)
  refine Wc.loopE (fun s0 m s w' => ∃ k : Nat, m = xs.length - k ∧ k ≤ xs.length ∧ Agree [5, 6, 9, 10, 11, 12, 13, 14, 15, 16, 17, 18, 19, 20] s s0 ∧ s 6 = .int .i64 k ∧ s 5 = .int .u32 ((xs.take k).foldl takeC (x ^^^ 4294967295#32)).toNat ∧
    St w [] h0 h0 [] w') xs.length ⟨0, rfl, by omega, Agree.refl _ _, rfl, by show Value.int .u32 (bitv .xor .u32 x.toNat 4294967295) = _; rw [xor_max]; rfl, H⟩ ?_
  clear H
  rintro m s w' ⟨k, rfl, hk, hA, e1, e2, H⟩
  obtain ⟨j, rfl⟩ := hA.env2 e1 e2
  clear hA e1 e2
  by_cases hlt : k < xs.length
  · obtain ⟨b, off, l, T, fr, rfl, eb, eg⟩ := hr.get hlt
    have g1 : l[off + (k : Int).toNat * 1]? = some (.int .u8 (xs[k]).toNat) := by rw [show off + (k : Int).toNat * 1 = off + k by omega]; exact eg k hlt
    repeat' (first | ((first | refine WL.p rfl ?_ | refine WL.u ?_); first | (refine opk 1 rfl ?_; (refine ost_V H rfl (r1_take _ _ _) rfl ?_; clear H; intro wk H)) | refine pvQ ?_ | (refine opk 3 rfl ?_; (refine ost_cmp rfl rfl rfl rfl (fun hc => ?_) (fun hc => ?_) <;> (simp only [cmpP] at hc; try exact prIQ))) | (refine opk 4 rfl ?_; (refine ost_cmp rfl rfl rfl rfl (fun hc => ?_) (fun hc => ?_) <;> (simp only [cmpP] at hc; try exact prIQ)))) | refine Wc.seq ?_ | refine then_n ?_ | refine WL.nil ?_ | refine Wc.region ?_ | refine Wc.block ?_ | refine then_r ?_ | refine then_e ?_ | refine inb_e rfl ?_ | refine inb_o rfl ?_ | refine inb_n ?_ | refine inb_r ?_ | refine Wc.skip ?_ | refine Wc.exit ?_ | refine Wc.ret ?_ | refine Wc.cond_true rfl ?_ | refine Wc.cond_false rfl ?_)
    exact ⟨xs.length - (k + 1), by omega, k + 1, rfl, by omega, by (repeat' (first | exact Agree.refl _ _ | exact Agree.havoc | refine Agree.upd rfl ?_ | refine Agree.hav2 rfl ?_)), rfl, by rw [foldC_take _ _ hlt]; rfl, H⟩
  · obtain rfl : k = xs.length := by omega
    repeat' (first | ((first | refine WL.p rfl ?_ | refine WL.u ?_); first | refine pvQ ?_ | (refine opk 3 rfl ?_; (refine ost_cmp rfl rfl rfl rfl (fun hc => ?_) (fun hc => ?_) <;> (simp only [cmpP] at hc; try exact prIQ))) | (refine opk 4 rfl ?_; (refine ost_cmp rfl rfl rfl rfl (fun hc => ?_) (fun hc => ?_) <;> (simp only [cmpP] at hc; try exact prIQ)))) | refine Wc.seq ?_ | refine then_n ?_ | refine WL.nil ?_ | refine Wc.region ?_ | refine Wc.block ?_ | refine then_r ?_ | refine then_e ?_ | refine inb_e rfl ?_ | refine inb_o rfl ?_ | refine inb_n ?_ | refine inb_r ?_ | refine Wc.skip ?_ | refine Wc.exit ?_ | refine Wc.ret ?_ | refine Wc.cond_true rfl ?_ | refine Wc.cond_false rfl ?_)
    (first | refine fn_ret1 (v := .bool _) rfl rfl ⟨?_, H.fr⟩ | refine fn_ret1 (v := .int _ _) rfl rfl ⟨?_, H.fr⟩ | refine fn_ret1 (v := .string _) rfl rfl ⟨?_, H.fr⟩)
    rw [xor_max, List.take_length]; rfl
theorem r1_Sum (h0 : FH) (a : Option Addr) (c : Nat) (xs : List UInt8) (w : World) (hs : Sat h0 w) (hr : BS h0 a c xs) :
    SpecV Tryd.prog 126 #[.slice a xs.length c] w (.int .u32 (sumC xs).toNat) := by
  have H := St.start hs
  unfold SpecV
  refine calls_of Tryd.func126 rfl Tryd.ntmps126 (by simp) ?_
  repeat' (first | ((first | refine WL.p rfl ?_ | refine WL.u ?_); first | (refine opk 1 rfl ?_; (refine ost_V H rfl (r1_Next _ 0#32 _ _ xs _ H.sat hr) rfl ?_; clear H; intro wk H)) | refine pvQ ?_) | refine Wc.seq ?_ | refine then_n ?_ | refine WL.nil ?_ | refine Wc.region ?_ | refine Wc.block ?_ | refine then_r ?_ | refine then_e ?_ | refine inb_e rfl ?_ | refine inb_o rfl ?_ | refine inb_n ?_ | refine inb_r ?_ | refine Wc.skip ?_ | refine Wc.exit ?_ | refine Wc.ret ?_ | refine Wc.cond_true rfl ?_ | refine Wc.cond_false rfl ?_)
  (first | refine fn_ret1 (v := .bool _) rfl rfl ⟨?_, H.fr⟩ | refine fn_ret1 (v := .int _ _) rfl rfl ⟨?_, H.fr⟩ | refine fn_ret1 (v := .string _) rfl rfl ⟨?_, H.fr⟩); rfl
theorem crc_Next (h0 : FH) (x : BitVec 32) (a : Option Addr) (c : Nat) (xs : List UInt8) (w : World) (hs : Sat h0 w) (hT : Half h0) (hr : BS h0 a c xs) :
    SpecV Tryd.prog 151 #[.int .u32 x.toNat, .slice a xs.length c] w (.int .u32 (nextC x xs).toNat) := by
  have H := St.start hs
  have hcap := hr.le
  have hmx : c ≤ 9223372036854775807 := by
    have := hr.mx
    have h9 : (maxLen : Nat) ≤ 9223372036854775807 := by decide
    omega
  obtain ⟨T1, fr1, eh⟩ := hT
  unfold SpecV
  refine calls_of Tryd.func151 rfl Tryd.ntmps151 (by simp) ?_
  repeat' (first | ((first | refine WL.p rfl ?_ | refine WL.u ?_); first | refine pvQ ?_ | (refine opk 3 rfl ?_; (refine ost_cmp rfl rfl rfl rfl (fun hc => ?_) (fun hc => ?_) <;> (simp only [cmpP] at hc; try exact prIQ))) | (refine opk 4 rfl ?_; (refine ost_cmp rfl rfl rfl rfl (fun hc => ?_) (fun hc => ?_) <;> (simp only [cmpP] at hc; try exact prIQ)))) | refine Wc.seq ?_ | refine then_n ?_ | refine WL.nil ?_ | refine Wc.region ?_ | refine Wc.block ?_ | refine then_r ?_ | refine then_e ?_ | refine inb_e rfl ?_ | refine inb_o rfl ?_ | refine inb_n ?_ | refine inb_r ?_ | refine Wc.skip ?_ | refine Wc.exit ?_ | refine Wc.ret ?_ | refine Wc.cond_true rfl ?_ | refine Wc.cond_false rfl ?_)
  refine Wc.loopE (fun s0 m s w' => ∃ k : Nat, m = xs.length - k ∧ k ≤ xs.length ∧ Agree [5, 7, 12, 13, 14, 15, 16, 17, 18, 19, 20, 21, 22, 23, 24, 25, 26, 27, 28, 29, 30, 31, 32, 33, 34] s s0 ∧ s 12 = .int .i64 k ∧ s 5 = .int .u32 ((xs.take k).foldl takeC (x ^^^ 4294967295#32)).toNat ∧
    St w [] h0 h0 [] w') xs.length ⟨0, rfl, by omega, Agree.refl _ _, rfl, by show Value.int .u32 (bitv .xor .u32 4294967295 x.toNat) = _; rw [xor_max']; rfl, H⟩ ?_
  clear H
  rintro m s w' ⟨k, rfl, hk, hA, e1, e2, H⟩
  obtain ⟨j, rfl⟩ := hA.env2 e1 e2
  clear hA e1 e2
  by_cases hlt : k < xs.length
  · obtain ⟨b, off, l, T, fr, rfl, eb, eg⟩ := hr.get hlt
    have g1 : l[off + (k : Int).toNat * 1]? = some (.int .u8 (xs[k]).toNat) := by rw [show off + (k : Int).toNat * 1 = off + k by omega]; exact eg k hlt
    have hn := foldC_take (x ^^^ 4294967295#32) xs hlt
    generalize hx9 : xs[k] = cc at g1 hn
    generalize hy : (xs.take k).foldl takeC (x ^^^ 4294967295#32) = y at hn
    rw [takeC_half] at hn
    dsimp only at hn
    have hc8 := cc.toNat_lt
    have q1 : bitv .xor .u32 (y.toNat : Int) (cc.toNat : Int) = ((y ^^^ BitVec.ofNat 32 cc.toNat).toNat : Int) := by
      have := bitv_xor y (BitVec.ofNat 32 cc.toNat)
      rw [← this]; congr 1
      simp
      try omega
    generalize hz : y ^^^ BitVec.ofNat 32 cc.toNat = z at hn q1
    have q2 := lowI z
    have q3 := shr4 z
    have q4 := lowC_lt z
    have q5 := halfV_at q4
    have q6 := bitv_xor (z >>> 4) (BitVec.ofNat 32 (halfL.getD (lowC z) 0).toNat)
    generalize hu : (z >>> 4) ^^^ BitVec.ofNat 32 (halfL.getD (lowC z) 0).toNat = u at hn q6
    have q7 := lowI u
    have q8 := shr4 u
    have q9 := lowC_lt u
    have q10 := halfV_at q9
    have q11 := bitv_xor (u >>> 4) (BitVec.ofNat 32 (halfL.getD (lowC u) 0).toNat)
    rw [← q2] at q5
    rw [← q7] at q10
    rw [← q3] at q6
    rw [← q6] at q7 q8 q10
    rw [← q8] at q11
    rw [← q1] at q2 q3 q5 q6 q7 q8 q10 q11
    repeat' (first | ((first | refine WL.p rfl ?_ | refine WL.u ?_); first | refine pvQ ?_ | (refine opk 3 rfl ?_; (refine ost_cmp rfl rfl rfl rfl (fun hc => ?_) (fun hc => ?_) <;> (simp only [cmpP] at hc; try exact prIQ))) | (refine opk 4 rfl ?_; (refine ost_cmp rfl rfl rfl rfl (fun hc => ?_) (fun hc => ?_) <;> (simp only [cmpP] at hc; try exact prIQ)))) | refine Wc.seq ?_ | refine then_n ?_ | refine WL.nil ?_ | refine Wc.region ?_ | refine Wc.block ?_ | refine then_r ?_ | refine then_e ?_ | refine inb_e rfl ?_ | refine inb_o rfl ?_ | refine inb_n ?_ | refine inb_r ?_ | refine Wc.skip ?_ | refine Wc.exit ?_ | refine Wc.ret ?_ | refine Wc.cond_true rfl ?_ | refine Wc.cond_false rfl ?_)
    refine ⟨xs.length - (k + 1), by omega, k + 1, rfl, by omega, by (repeat' (first | exact Agree.refl _ _ | exact Agree.havoc | refine Agree.upd rfl ?_ | refine Agree.hav2 rfl ?_)), rfl, ?_, H⟩
    rw [hn, ← q11]; rfl
  · obtain rfl : k = xs.length := by omega
    repeat' (first | ((first | refine WL.p rfl ?_ | refine WL.u ?_); first | refine pvQ ?_ | (refine opk 3 rfl ?_; (refine ost_cmp rfl rfl rfl rfl (fun hc => ?_) (fun hc => ?_) <;> (simp only [cmpP] at hc; try exact prIQ))) | (refine opk 4 rfl ?_; (refine ost_cmp rfl rfl rfl rfl (fun hc => ?_) (fun hc => ?_) <;> (simp only [cmpP] at hc; try exact prIQ)))) | refine Wc.seq ?_ | refine then_n ?_ | refine WL.nil ?_ | refine Wc.region ?_ | refine Wc.block ?_ | refine then_r ?_ | refine then_e ?_ | refine inb_e rfl ?_ | refine inb_o rfl ?_ | refine inb_n ?_ | refine inb_r ?_ | refine Wc.skip ?_ | refine Wc.exit ?_ | refine Wc.ret ?_ | refine Wc.cond_true rfl ?_ | refine Wc.cond_false rfl ?_)
    (first | refine fn_ret1 (v := .bool _) rfl rfl ⟨?_, H.fr⟩ | refine fn_ret1 (v := .int _ _) rfl rfl ⟨?_, H.fr⟩ | refine fn_ret1 (v := .string _) rfl rfl ⟨?_, H.fr⟩)
    rw [xor_max', List.take_length]; rfl
theorem crc_Sum (h0 : FH) (a : Option Addr) (c : Nat) (xs : List UInt8) (w : World) (hs : Sat h0 w) (hT : Half h0) (hr : BS h0 a c xs) :
    SpecV Tryd.prog 141 #[.slice a xs.length c] w (.int .u32 (sumC xs).toNat) := by
  have H := St.start hs
  unfold SpecV
  refine calls_of Tryd.func141 rfl Tryd.ntmps141 (by simp) ?_
  repeat' (first | ((first | refine WL.p rfl ?_ | refine WL.u ?_); first | (refine opk 1 rfl ?_; (refine ost_V H rfl (crc_Next _ 0#32 _ _ xs _ H.sat hT hr) rfl ?_; clear H; intro wk H)) | refine pvQ ?_) | refine Wc.seq ?_ | refine then_n ?_ | refine WL.nil ?_ | refine Wc.region ?_ | refine Wc.block ?_ | refine then_r ?_ | refine then_e ?_ | refine inb_e rfl ?_ | refine inb_o rfl ?_ | refine inb_n ?_ | refine inb_r ?_ | refine Wc.skip ?_ | refine Wc.exit ?_ | refine Wc.ret ?_ | refine Wc.cond_true rfl ?_ | refine Wc.cond_false rfl ?_)
  (first | refine fn_ret1 (v := .bool _) rfl rfl ⟨?_, H.fr⟩ | refine fn_ret1 (v := .int _ _) rfl rfl ⟨?_, H.fr⟩ | refine fn_ret1 (v := .string _) rfl rfl ⟨?_, H.fr⟩); rfl
end Go.Tg

set_option linter.unusedVariables false
set_option linter.unusedSimpArgs false
set_option maxRecDepth 100000
set_option maxHeartbeats 4000000
namespace Go.Tg
open Go Go.Proofs
theorem clone8 (h0 : FH) (a : Option Addr) (c : Nat) (xs : List UInt8) (w : World) (hs : Sat h0 w) (hr : BS h0 a c xs) (hb : xs.length ≤ 1000000000) :
    Spec Tryd.prog 116 #[.slice a xs.length c] w [] h0 (fun v h' L' => ∃ a' c', v = .slice a' xs.length c' ∧ h' = h0 ∧ L' = [own8 v 5 xs]) := by
  have H := St.start hs
  unfold Spec
  refine calls_of Tryd.func116 rfl Tryd.ntmps116 (by simp) ?_
  repeat' (first | ((first | refine WL.p rfl ?_ | refine WL.u ?_); first | (refine opk 1 rfl ?_; (refine ost_app8 (xs := []) H rfl rfl rfl (by (exact ixQ)) ((hr.full H)) (by (try simp only [List.length_nil, List.length_append, List.length_cons, List.length_singleton]); omega) ?_; clear H; intro aa ca wk H; simp only [List.set_cons_zero, List.set_cons_succ, List.nil_append] at H)) | refine pvQ ?_ | (refine opk 3 rfl ?_; first | (refine ost_slEq rfl rfl rfl (fun hc => ?_) (fun hc => ?_) <;> try (simp at hc; done)) | (refine ost_slNe rfl rfl rfl (fun hc => ?_) (fun hc => ?_) <;> try (simp at hc; done))) | (refine opk 9 rfl ?_; (refine ost_build1 H rfl rfl rfl evQ lsQ rfl ?_; clear H; intro bk wk H))) | refine Wc.seq ?_ | refine then_n ?_ | refine WL.nil ?_ | refine Wc.region ?_ | refine Wc.block ?_ | refine then_r ?_ | refine then_e ?_ | refine inb_e rfl ?_ | refine inb_o rfl ?_ | refine inb_n ?_ | refine inb_r ?_ | refine Wc.skip ?_ | refine Wc.exit ?_ | refine Wc.ret ?_ | refine Wc.cond_true rfl ?_ | refine Wc.cond_false rfl ?_)
  · have h0' : a = none := by cases a <;> simp_all
    subst h0'
    have := r_nil hr; subst this
    exact fn_ret1 (v := .slice _ _ _) rfl rfl ⟨_, _, H.nil8 5, _, _, rfl, rfl, rfl⟩
  · exact fn_ret1 (v := .slice _ _ _) rfl rfl ⟨_, _, H, _, _, rfl, rfl, rfl⟩
def putL : Nat → Nat → List UInt8
  | 0, n => [UInt8.ofNat n]
  | k + 1, n => if n < 128 then [UInt8.ofNat n] else UInt8.ofNat (n % 128 + 128) :: putL k (n / 128)
def putB (n : Nat) : List UInt8 := putL 10 n
theorem wrap8 (n : Int) : IntKind.u8.wrap n = n % 256 := by simp [IntKind.wrap, IntKind.bits, IntKind.signed]
theorem or128_all : (List.range 256).all (fun m => bitv .or .u8 (m : Int) 128 == ((m % 128 + 128 : Nat) : Int)) = true := by kernel_rfl
theorem or128 (k : Nat) : bitv .or .u8 (IntKind.u8.wrap k) 128 = ((UInt8.ofNat (k % 128 + 128)).toNat : Int) := by
  have h := List.all_eq_true.1 or128_all (k % 256) (List.mem_range.2 (by omega))
  have e : IntKind.u8.wrap (k : Int) = ((k % 256 : Nat) : Int) := by rw [wrap8]; omega
  rw [e, eq_of_beq h]
  simp; omega
theorem shr7 (k : Nat) : Int.fdiv (k : Int) (2 ^ min (Int.toNat 7) (IntKind.bits .u64)) = ((k / 128 : Nat) : Int) := by
  show Int.fdiv (k : Int) 128 = _
  rw [Int.fdiv_eq_ediv_of_nonneg _ (by omega)]; omega
theorem putL_last {k m : Nat} (h : k < 128) : putL m k = [UInt8.ofNat k] := by
  cases m <;> simp [putL, h]
theorem put_step {n k : Nat} {xs : List UInt8} (hn : n < 18446744073709551616) (hk : xs.length ≤ 9) (hp : putB n = xs ++ putL (10 - xs.length) k) (hle : k * 128 ^ xs.length ≤ n) (hlt : 127 < k) :
    (putB n = (xs ++ [UInt8.ofNat (k % 128 + 128)]) ++ putL (10 - (xs ++ [UInt8.ofNat (k % 128 + 128)]).length) (k / 128) ∧
      k / 128 * 128 ^ (xs ++ [UInt8.ofNat (k % 128 + 128)]).length ≤ n) ∧ xs.length + 1 ≤ 9 ∧
    10 - (xs ++ [UInt8.ofNat (k % 128 + 128)]).length < 10 - xs.length := by
  have h9 : xs.length + 1 ≤ 9 := by
    by_cases h : xs.length = 9
    · rw [h] at hle
      have : 128 * 128 ^ 9 ≤ k * 128 ^ 9 := Nat.mul_le_mul_right _ (by omega)
      omega
    · omega
  refine ⟨⟨?_, ?_⟩, h9, by simp; omega⟩
  · rw [hp]
    have : 10 - xs.length = (10 - (xs.length + 1)) + 1 := by omega
    rw [this, putL, if_neg (by omega)]
    simp
  · simp [Nat.pow_succ]
    refine Nat.le_trans ?_ hle
    rw [Nat.mul_comm (128 ^ _), ← Nat.mul_assoc]
    exact Nat.mul_le_mul_right _ (Nat.div_mul_le_self k 128)
theorem vint_Put (n : Nat) (hn : n < 18446744073709551616) (h0 : FH) (w : World) (hs : Sat h0 w) :
    Spec Tryd.prog 115 #[.int .u64 n] w [] h0 (fun v h' L' => ∃ a' c', v = .slice a' (putB n).length c' ∧ h' = h0 ∧ L' = [own8 v 5 (putB n)]) := by
  have H := St.start hs
  unfold Spec
  refine calls_of Tryd.func115 rfl Tryd.ntmps115 (by simp) ?_
  repeat' (first | ((first | refine WL.p rfl ?_ | refine WL.u ?_); first | refine pvQ ?_ | (refine opk 3 rfl ?_; (refine ost_cmp rfl rfl rfl rfl (fun hc => ?_) (fun hc => ?_) <;> (simp only [cmpP] at hc; try exact prIQ))) | (refine opk 4 rfl ?_; (refine ost_cmp rfl rfl rfl rfl (fun hc => ?_) (fun hc => ?_) <;> (simp only [cmpP] at hc; try exact prIQ))) | (refine opk 9 rfl ?_; (refine ost_build1 H rfl rfl rfl evQ lsQ rfl ?_; clear H; intro bk wk H))) | refine Wc.seq ?_ | refine then_n ?_ | refine WL.nil ?_ | refine Wc.region ?_ | refine Wc.block ?_ | refine then_r ?_ | refine then_e ?_ | refine inb_e rfl ?_ | refine inb_o rfl ?_ | refine inb_n ?_ | refine inb_r ?_ | refine Wc.skip ?_ | refine Wc.exit ?_ | refine Wc.ret ?_ | refine Wc.cond_true rfl ?_ | refine Wc.cond_false rfl ?_)
  have H := H.nil8 5
  refine Wc.loopE (fun s0 m s w' => ∃ (k : Nat) (xs : List UInt8) (a' : Option Addr) (c' : Nat), m = 10 - xs.length ∧ xs.length ≤ 9 ∧ Agree [0, 3, 4, 5, 6, 7, 8, 9, 10, 11, 12, 13] s s0 ∧ s 0 = .int .u64 k ∧ s 3 = .slice a' xs.length c' ∧
    putB n = xs ++ putL (10 - xs.length) k ∧ (k * 128 ^ xs.length ≤ n) ∧ ∃ L', St w [] h0 h0 (own8 (.slice a' xs.length c') 5 xs :: L') w') 10 ⟨n, [], none, 0, rfl, by simp, Agree.refl _ _, rfl, rfl, rfl, by simp, _, H⟩ ?_
  clear H
  rintro m s w' ⟨k, xs, a', c', rfl, hk, hA, e0, e3, hp, hle, L', H⟩
  obtain ⟨j, rfl⟩ := hA.env2 e0 e3
  clear hA e0 e3
  by_cases hlt : 127 < k
  · repeat' (first | ((first | refine WL.p rfl ?_ | refine WL.u ?_); first | (refine opk 1 rfl ?_; (refine ost_app1 (xs := xs) (y := UInt8.ofNat (k % 128 + 128)) H rfl rfl rfl (by (exact ixQ)) (by (exact ixQ)) (or128 k) (by (try simp only [List.length_nil, List.length_append, List.length_cons, List.length_singleton]); omega) ?_; clear H; intro aa ca wk H; simp only [List.set_cons_zero, List.set_cons_succ, List.nil_append] at H)) | refine pvQ ?_ | (refine opk 3 rfl ?_; (refine ost_cmp rfl rfl rfl rfl (fun hc => ?_) (fun hc => ?_) <;> (simp only [cmpP] at hc; try exact prIQ))) | (refine opk 4 rfl ?_; (refine ost_cmp rfl rfl rfl rfl (fun hc => ?_) (fun hc => ?_) <;> (simp only [cmpP] at hc; try exact prIQ))) | (refine opk 9 rfl ?_; (refine ost_build1 H rfl rfl rfl evQ lsQ rfl ?_; clear H; intro bk wk H))) | refine Wc.seq ?_ | refine then_n ?_ | refine WL.nil ?_ | refine Wc.region ?_ | refine Wc.block ?_ | refine then_r ?_ | refine then_e ?_ | refine inb_e rfl ?_ | refine inb_o rfl ?_ | refine inb_n ?_ | refine inb_r ?_ | refine Wc.skip ?_ | refine Wc.exit ?_ | refine Wc.ret ?_ | refine Wc.cond_true rfl ?_ | refine Wc.cond_false rfl ?_)
    simp only [shr7]
    obtain ⟨h1, h2, h3⟩ := put_step hn hk hp hle hlt
    exact ⟨_, h3, k / 128, xs ++ [UInt8.ofNat (k % 128 + 128)], aa, ca, rfl, by simpa using h2, by (repeat' (first | exact Agree.refl _ _ | exact Agree.havoc | refine Agree.upd rfl ?_ | refine Agree.hav2 rfl ?_)), rfl, rfl, h1.1, h1.2, _, H.tl⟩
  · repeat' (first | ((first | refine WL.p rfl ?_ | refine WL.u ?_); first | (refine opk 1 rfl ?_; (refine ost_app1 (xs := xs) (y := UInt8.ofNat k) H rfl rfl rfl (by (exact ixQ)) (by (exact ixQ)) (by simp; omega) (by (try simp only [List.length_nil, List.length_append, List.length_cons, List.length_singleton]); omega) ?_; clear H; intro aa ca wk H; simp only [List.set_cons_zero, List.set_cons_succ, List.nil_append] at H)) | refine pvQ ?_ | (refine opk 3 rfl ?_; (refine ost_cmp rfl rfl rfl rfl (fun hc => ?_) (fun hc => ?_) <;> (simp only [cmpP] at hc; try exact prIQ))) | (refine opk 4 rfl ?_; (refine ost_cmp rfl rfl rfl rfl (fun hc => ?_) (fun hc => ?_) <;> (simp only [cmpP] at hc; try exact prIQ))) | (refine opk 9 rfl ?_; (refine ost_build1 H rfl rfl rfl evQ lsQ rfl ?_; clear H; intro bk wk H))) | refine Wc.seq ?_ | refine then_n ?_ | refine WL.nil ?_ | refine Wc.region ?_ | refine Wc.block ?_ | refine then_r ?_ | refine then_e ?_ | refine inb_e rfl ?_ | refine inb_o rfl ?_ | refine inb_n ?_ | refine inb_r ?_ | refine Wc.skip ?_ | refine Wc.exit ?_ | refine Wc.ret ?_ | refine Wc.cond_true rfl ?_ | refine Wc.cond_false rfl ?_)
    have e : putB n = xs ++ [UInt8.ofNat k] := by rw [hp, putL_last (by omega)]
    rw [e]
    exact fn_ret1 (v := .slice _ _ _) rfl rfl ⟨_, _, H.pick 1 rfl, _, _, rfl, rfl, rfl⟩
end Go.Tg

