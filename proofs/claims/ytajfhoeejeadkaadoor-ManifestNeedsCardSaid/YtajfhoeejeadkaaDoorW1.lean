/- Contracts of Go functions that the laws reach: what each call answers and leaves in memory, for all arguments within the bounds that each theorem names. -/
import Derived.Test.YtajfhoeejeadkaaDoorInst
import Derived.Test.YtajfhoeejeadkaaDoorAuto
import Derived.Test.YtajfhoeejeadkaaDoorC1
import Derived.Test.YtajfhoeejeadkaaDoorByt
import Derived.Test.YtajfhoeejeadkaaDoorSl
set_option linter.unusedVariables false
set_option linter.unusedSimpArgs false
set_option maxRecDepth 100000
set_option maxHeartbeats 4000000
namespace Go.Tg
open Go Go.Proofs
def Half (h : FH) : Prop := ∃ T fr, h 1 = some (.cells halfV.toArray T fr)
theorem Half.mono {h h' : FH} (hle : FLe h h') (r : Half h) : Half h' := by
  obtain ⟨T, fr, e⟩ := r; exact ⟨T, fr, hle _ _ e⟩
theorem Half.full {ws w : World} {S : List Nat} {h0 h : FH} {L : List HA} (r : Half h) (H : St ws S h0 h L w) : Half (full w) := r.mono H.sat.le
theorem foldC_take (x : BitVec 32) (xs : List UInt8) {k : Nat} (h : k < xs.length) : (xs.take (k + 1)).foldl takeC x = takeC ((xs.take k).foldl takeC x) xs[k] := by
  rw [List.take_add_one, List.getElem?_eq_getElem h, List.foldl_append]; rfl
theorem xor_max' (x : BitVec 32) : bitv .xor .u32 4294967295 x.toNat = ((x ^^^ 4294967295#32).toNat : Int) := by
  have := bitv_xor 4294967295#32 x
  rw [BitVec.xor_comm] at this; exact this
theorem crc_Next (h0 : FH) (x : BitVec 32) (a : Option Addr) (c : Nat) (xs : List UInt8) (w : World) (hs : Sat h0 w) (hT : Half h0) (hr : BS h0 a c xs) :
    SpecV Tryd.prog 151 #[.int .u32 x.toNat, .slice a xs.length c] w (.int .u32 (nextC x xs).toNat) := by
  have H := St.start hs
  have hcap := hr.le
  have hmx : c ≤ 9223372036854775807 := by
    have := hr.mx
    have h9 : (maxLen : Nat) ≤ 9223372036854775807 := by decide
    omega
  obtain ⟨T1, fr1, eh⟩ := hT
  unfold SpecV
  refine calls_of Tryd.func151 rfl Tryd.ntmps151 (by simp) ?_
  repeat' (first | ((first | refine WL.p rfl ?_ | refine WL.u ?_); first | refine pvQ ?_ | (refine opk 3 rfl ?_; (refine ost_cmp rfl rfl rfl rfl (fun hc => ?_) (fun hc => ?_) <;> (simp only [cmpP] at hc; try exact prIQ))) | (refine opk 4 rfl ?_; (refine ost_cmp rfl rfl rfl rfl (fun hc => ?_) (fun hc => ?_) <;> (simp only [cmpP] at hc; try exact prIQ)))) | refine Wc.seq ?_ | refine then_n ?_ | refine WL.nil ?_ | refine Wc.region ?_ | refine Wc.block ?_ | refine then_r ?_ | refine then_e ?_ | refine inb_e rfl ?_ | refine inb_o rfl ?_ | refine inb_n ?_ | refine inb_r ?_ | refine Wc.skip ?_ | refine Wc.exit ?_ | refine Wc.ret ?_ | refine Wc.cond_true rfl ?_ | refine Wc.cond_false rfl ?_)
  refine Wc.loopE (fun s0 m s w' => ∃ k : Nat, m = xs.length - k ∧ k ≤ xs.length ∧ Agree [5, 7, 12, 13, 14, 15, 16, 17, 18, 19, 20, 21, 22, 23, 24, 25, 26, 27, 28, 29, 30, 31, 32, 33, 34] s s0 ∧ s 12 = .int .i64 k ∧ s 5 = .int .u32 ((xs.take k).foldl takeC (x ^^^ 4294967295#32)).toNat ∧
    St w [] h0 h0 [] w') xs.length ⟨0, rfl, by omega, Agree.refl _ _, rfl, by show Value.int .u32 (bitv .xor .u32 4294967295 x.toNat) = _; rw [xor_max']; rfl, H⟩ ?_
  clear H
  rintro m s w' ⟨k, rfl, hk, hA, e1, e2, H⟩
  obtain ⟨j, rfl⟩ := hA.env2 e1 e2
  clear hA e1 e2
  by_cases hlt : k < xs.length
  · obtain ⟨b, off, l, T, fr, rfl, eb, eg⟩ := hr.get hlt
    have g1 : l[off + (k : Int).toNat * 1]? = some (.int .u8 (xs[k]).toNat) := by rw [show off + (k : Int).toNat * 1 = off + k by omega]; exact eg k hlt
    have hn := foldC_take (x ^^^ 4294967295#32) xs hlt
    generalize hx9 : xs[k] = cc at g1 hn
    generalize hy : (xs.take k).foldl takeC (x ^^^ 4294967295#32) = y at hn
    rw [takeC_half] at hn
    dsimp only at hn
    have hc8 := cc.toNat_lt
    have q1 : bitv .xor .u32 (y.toNat : Int) (cc.toNat : Int) = ((y ^^^ BitVec.ofNat 32 cc.toNat).toNat : Int) := by
      have := bitv_xor y (BitVec.ofNat 32 cc.toNat)
      rw [← this]; congr 1
      simp
      try omega
    generalize hz : y ^^^ BitVec.ofNat 32 cc.toNat = z at hn q1
    have q2 := lowI z
    have q3 := shr4 z
    have q4 := lowC_lt z
    have q5 := halfV_at q4
    have q6 := bitv_xor (z >>> 4) (BitVec.ofNat 32 (halfL.getD (lowC z) 0).toNat)
    generalize hu : (z >>> 4) ^^^ BitVec.ofNat 32 (halfL.getD (lowC z) 0).toNat = u at hn q6
    have q7 := lowI u
    have q8 := shr4 u
    have q9 := lowC_lt u
    have q10 := halfV_at q9
    have q11 := bitv_xor (u >>> 4) (BitVec.ofNat 32 (halfL.getD (lowC u) 0).toNat)
    rw [← q2] at q5
    rw [← q7] at q10
    rw [← q3] at q6
    rw [← q6] at q7 q8 q10
    rw [← q8] at q11
    rw [← q1] at q2 q3 q5 q6 q7 q8 q10 q11
    repeat' (first | ((first | refine WL.p rfl ?_ | refine WL.u ?_); first | refine pvQ ?_ | (refine opk 3 rfl ?_; (refine ost_cmp rfl rfl rfl rfl (fun hc => ?_) (fun hc => ?_) <;> (simp only [cmpP] at hc; try exact prIQ))) | (refine opk 4 rfl ?_; (refine ost_cmp rfl rfl rfl rfl (fun hc => ?_) (fun hc => ?_) <;> (simp only [cmpP] at hc; try exact prIQ)))) | refine Wc.seq ?_ | refine then_n ?_ | refine WL.nil ?_ | refine Wc.region ?_ | refine Wc.block ?_ | refine then_r ?_ | refine then_e ?_ | refine inb_e rfl ?_ | refine inb_o rfl ?_ | refine inb_n ?_ | refine inb_r ?_ | refine Wc.skip ?_ | refine Wc.exit ?_ | refine Wc.ret ?_ | refine Wc.cond_true rfl ?_ | refine Wc.cond_false rfl ?_)
    refine ⟨xs.length - (k + 1), by omega, k + 1, rfl, by omega, by (repeat' (first | exact Agree.refl _ _ | exact Agree.havoc | refine Agree.upd rfl ?_ | refine Agree.hav2 rfl ?_)), rfl, ?_, H⟩
    rw [hn, ← q11]; rfl
  · obtain rfl : k = xs.length := by omega
    repeat' (first | ((first | refine WL.p rfl ?_ | refine WL.u ?_); first | refine pvQ ?_ | (refine opk 3 rfl ?_; (refine ost_cmp rfl rfl rfl rfl (fun hc => ?_) (fun hc => ?_) <;> (simp only [cmpP] at hc; try exact prIQ))) | (refine opk 4 rfl ?_; (refine ost_cmp rfl rfl rfl rfl (fun hc => ?_) (fun hc => ?_) <;> (simp only [cmpP] at hc; try exact prIQ)))) | refine Wc.seq ?_ | refine then_n ?_ | refine WL.nil ?_ | refine Wc.region ?_ | refine Wc.block ?_ | refine then_r ?_ | refine then_e ?_ | refine inb_e rfl ?_ | refine inb_o rfl ?_ | refine inb_n ?_ | refine inb_r ?_ | refine Wc.skip ?_ | refine Wc.exit ?_ | refine Wc.ret ?_ | refine Wc.cond_true rfl ?_ | refine Wc.cond_false rfl ?_)
    (first | refine fn_ret1 (v := .bool _) rfl rfl ⟨?_, H.fr⟩ | refine fn_ret1 (v := .int _ _) rfl rfl ⟨?_, H.fr⟩ | refine fn_ret1 (v := .string _) rfl rfl ⟨?_, H.fr⟩)
    rw [xor_max', List.take_length]; rfl
theorem crc_Sum (h0 : FH) (a : Option Addr) (c : Nat) (xs : List UInt8) (w : World) (hs : Sat h0 w) (hT : Half h0) (hr : BS h0 a c xs) :
    SpecV Tryd.prog 141 #[.slice a xs.length c] w (.int .u32 (sumC xs).toNat) := by
  have H := St.start hs
  unfold SpecV
  refine calls_of Tryd.func141 rfl Tryd.ntmps141 (by simp) ?_
  repeat' (first | ((first | refine WL.p rfl ?_ | refine WL.u ?_); first | (refine opk 1 rfl ?_; (refine ost_V H rfl (crc_Next _ 0#32 _ _ xs _ H.sat hT hr) rfl ?_; clear H; intro wk H)) | refine pvQ ?_) | refine Wc.seq ?_ | refine then_n ?_ | refine WL.nil ?_ | refine Wc.region ?_ | refine Wc.block ?_ | refine then_r ?_ | refine then_e ?_ | refine inb_e rfl ?_ | refine inb_o rfl ?_ | refine inb_n ?_ | refine inb_r ?_ | refine Wc.skip ?_ | refine Wc.exit ?_ | refine Wc.ret ?_ | refine Wc.cond_true rfl ?_ | refine Wc.cond_false rfl ?_)
  (first | refine fn_ret1 (v := .bool _) rfl rfl ⟨?_, H.fr⟩ | refine fn_ret1 (v := .int _ _) rfl rfl ⟨?_, H.fr⟩ | refine fn_ret1 (v := .string _) rfl rfl ⟨?_, H.fr⟩); rfl
end Go.Tg

set_option linter.unusedVariables false
set_option linter.unusedSimpArgs false
set_option maxRecDepth 100000
set_option maxHeartbeats 4000000
namespace Go.Tg
open Go Go.Proofs
theorem clone8 (h0 : FH) (a : Option Addr) (c : Nat) (xs : List UInt8) (w : World) (hs : Sat h0 w) (hr : BS h0 a c xs) (hb : xs.length ≤ 1000000000) :
    Spec Tryd.prog 116 #[.slice a xs.length c] w [] h0 (fun v h' L' => ∃ a' c', v = .slice a' xs.length c' ∧ h' = h0 ∧ L' = [own8 v 5 xs]) := by
  have H := St.start hs
  unfold Spec
  refine calls_of Tryd.func116 rfl Tryd.ntmps116 (by simp) ?_
  repeat' (first | ((first | refine WL.p rfl ?_ | refine WL.u ?_); first | (refine opk 1 rfl ?_; (refine ost_app8 (xs := []) H rfl rfl rfl (by (exact ixQ)) ((hr.full H)) (by (try simp only [List.length_nil, List.length_append, List.length_cons, List.length_singleton]); omega) ?_; clear H; intro aa ca wk H; simp only [List.set_cons_zero, List.set_cons_succ, List.nil_append] at H)) | refine pvQ ?_ | (refine opk 3 rfl ?_; first | (refine ost_slEq rfl rfl rfl (fun hc => ?_) (fun hc => ?_) <;> try (simp at hc; done)) | (refine ost_slNe rfl rfl rfl (fun hc => ?_) (fun hc => ?_) <;> try (simp at hc; done))) | (refine opk 9 rfl ?_; (refine ost_build1 H rfl rfl rfl evQ lsQ rfl ?_; clear H; intro bk wk H))) | refine Wc.seq ?_ | refine then_n ?_ | refine WL.nil ?_ | refine Wc.region ?_ | refine Wc.block ?_ | refine then_r ?_ | refine then_e ?_ | refine inb_e rfl ?_ | refine inb_o rfl ?_ | refine inb_n ?_ | refine inb_r ?_ | refine Wc.skip ?_ | refine Wc.exit ?_ | refine Wc.ret ?_ | refine Wc.cond_true rfl ?_ | refine Wc.cond_false rfl ?_)
  · have h0' : a = none := by cases a <;> simp_all
    subst h0'
    have := r_nil hr; subst this
    exact fn_ret1 (v := .slice _ _ _) rfl rfl ⟨_, _, H.nil8 5, _, _, rfl, rfl, rfl⟩
  · exact fn_ret1 (v := .slice _ _ _) rfl rfl ⟨_, _, H, _, _, rfl, rfl, rfl⟩
def putL : Nat → Nat → List UInt8
  | 0, n => [UInt8.ofNat n]
  | k + 1, n => if n < 128 then [UInt8.ofNat n] else UInt8.ofNat (n % 128 + 128) :: putL k (n / 128)
def putB (n : Nat) : List UInt8 := putL 10 n
theorem wrap8 (n : Int) : IntKind.u8.wrap n = n % 256 := by simp [IntKind.wrap, IntKind.bits, IntKind.signed]
theorem or128_all : (List.range 256).all (fun m => bitv .or .u8 (m : Int) 128 == ((m % 128 + 128 : Nat) : Int)) = true := by kernel_rfl
theorem or128 (k : Nat) : bitv .or .u8 (IntKind.u8.wrap k) 128 = ((UInt8.ofNat (k % 128 + 128)).toNat : Int) := by
  have h := List.all_eq_true.1 or128_all (k % 256) (List.mem_range.2 (by omega))
  have e : IntKind.u8.wrap (k : Int) = ((k % 256 : Nat) : Int) := by rw [wrap8]; omega
  rw [e, eq_of_beq h]
  simp; omega
theorem shr7 (k : Nat) : Int.fdiv (k : Int) (2 ^ min (Int.toNat 7) (IntKind.bits .u64)) = ((k / 128 : Nat) : Int) := by
  show Int.fdiv (k : Int) 128 = _
  rw [Int.fdiv_eq_ediv_of_nonneg _ (by omega)]; omega
theorem putL_last {k m : Nat} (h : k < 128) : putL m k = [UInt8.ofNat k] := by
  cases m <;> simp [putL, h]
theorem put_step {n k : Nat} {xs : List UInt8} (hn : n < 18446744073709551616) (hk : xs.length ≤ 9) (hp : putB n = xs ++ putL (10 - xs.length) k) (hle : k * 128 ^ xs.length ≤ n) (hlt : 127 < k) :
    (putB n = (xs ++ [UInt8.ofNat (k % 128 + 128)]) ++ putL (10 - (xs ++ [UInt8.ofNat (k % 128 + 128)]).length) (k / 128) ∧
      k / 128 * 128 ^ (xs ++ [UInt8.ofNat (k % 128 + 128)]).length ≤ n) ∧ xs.length + 1 ≤ 9 ∧
    10 - (xs ++ [UInt8.ofNat (k % 128 + 128)]).length < 10 - xs.length := by
  have h9 : xs.length + 1 ≤ 9 := by
    by_cases h : xs.length = 9
    · rw [h] at hle
      have : 128 * 128 ^ 9 ≤ k * 128 ^ 9 := Nat.mul_le_mul_right _ (by omega)
      omega
    · omega
  refine ⟨⟨?_, ?_⟩, h9, by simp; omega⟩
  · rw [hp]
    have : 10 - xs.length = (10 - (xs.length + 1)) + 1 := by omega
    rw [this, putL, if_neg (by omega)]
    simp
  · simp [Nat.pow_succ]
    refine Nat.le_trans ?_ hle
    rw [Nat.mul_comm (128 ^ _), ← Nat.mul_assoc]
    exact Nat.mul_le_mul_right _ (Nat.div_mul_le_self k 128)
theorem vint_Put (n : Nat) (hn : n < 18446744073709551616) (h0 : FH) (w : World) (hs : Sat h0 w) :
    Spec Tryd.prog 115 #[.int .u64 n] w [] h0 (fun v h' L' => ∃ a' c', v = .slice a' (putB n).length c' ∧ h' = h0 ∧ L' = [own8 v 5 (putB n)]) := by
  have H := St.start hs
  unfold Spec
  refine calls_of Tryd.func115 rfl Tryd.ntmps115 (by simp) ?_
  repeat' (first | ((first | refine WL.p rfl ?_ | refine WL.u ?_); first | refine pvQ ?_ | (refine opk 3 rfl ?_; (refine ost_cmp rfl rfl rfl rfl (fun hc => ?_) (fun hc => ?_) <;> (simp only [cmpP] at hc; try exact prIQ))) | (refine opk 4 rfl ?_; (refine ost_cmp rfl rfl rfl rfl (fun hc => ?_) (fun hc => ?_) <;> (simp only [cmpP] at hc; try exact prIQ))) | (refine opk 9 rfl ?_; (refine ost_build1 H rfl rfl rfl evQ lsQ rfl ?_; clear H; intro bk wk H))) | refine Wc.seq ?_ | refine then_n ?_ | refine WL.nil ?_ | refine Wc.region ?_ | refine Wc.block ?_ | refine then_r ?_ | refine then_e ?_ | refine inb_e rfl ?_ | refine inb_o rfl ?_ | refine inb_n ?_ | refine inb_r ?_ | refine Wc.skip ?_ | refine Wc.exit ?_ | refine Wc.ret ?_ | refine Wc.cond_true rfl ?_ | refine Wc.cond_false rfl ?_)
  have H := H.nil8 5
  refine Wc.loopE (fun s0 m s w' => ∃ (k : Nat) (xs : List UInt8) (a' : Option Addr) (c' : Nat), m = 10 - xs.length ∧ xs.length ≤ 9 ∧ Agree [0, 3, 4, 5, 6, 7, 8, 9, 10, 11, 12, 13] s s0 ∧ s 0 = .int .u64 k ∧ s 3 = .slice a' xs.length c' ∧
    putB n = xs ++ putL (10 - xs.length) k ∧ (k * 128 ^ xs.length ≤ n) ∧ ∃ L', St w [] h0 h0 (own8 (.slice a' xs.length c') 5 xs :: L') w') 10 ⟨n, [], none, 0, rfl, by simp, Agree.refl _ _, rfl, rfl, rfl, by simp, _, H⟩ ?_
  clear H
  rintro m s w' ⟨k, xs, a', c', rfl, hk, hA, e0, e3, hp, hle, L', H⟩
  obtain ⟨j, rfl⟩ := hA.env2 e0 e3
  clear hA e0 e3
  by_cases hlt : 127 < k
  · repeat' (first | ((first | refine WL.p rfl ?_ | refine WL.u ?_); first | (refine opk 1 rfl ?_; (refine ost_app1 (xs := xs) (y := UInt8.ofNat (k % 128 + 128)) H rfl rfl rfl (by (exact ixQ)) (by (exact ixQ)) (or128 k) (by (try simp only [List.length_nil, List.length_append, List.length_cons, List.length_singleton]); omega) ?_; clear H; intro aa ca wk H; simp only [List.set_cons_zero, List.set_cons_succ, List.nil_append] at H)) | refine pvQ ?_ | (refine opk 3 rfl ?_; (refine ost_cmp rfl rfl rfl rfl (fun hc => ?_) (fun hc => ?_) <;> (simp only [cmpP] at hc; try exact prIQ))) | (refine opk 4 rfl ?_; (refine ost_cmp rfl rfl rfl rfl (fun hc => ?_) (fun hc => ?_) <;> (simp only [cmpP] at hc; try exact prIQ))) | (refine opk 9 rfl ?_; (refine ost_build1 H rfl rfl rfl evQ lsQ rfl ?_; clear H; intro bk wk H))) | refine Wc.seq ?_ | refine then_n ?_ | refine WL.nil ?_ | refine Wc.region ?_ | refine Wc.block ?_ | refine then_r ?_ | refine then_e ?_ | refine inb_e rfl ?_ | refine inb_o rfl ?_ | refine inb_n ?_ | refine inb_r ?_ | refine Wc.skip ?_ | refine Wc.exit ?_ | refine Wc.ret ?_ | refine Wc.cond_true rfl ?_ | refine Wc.cond_false rfl ?_)
    simp only [shr7]
    obtain ⟨h1, h2, h3⟩ := put_step hn hk hp hle hlt
    exact ⟨_, h3, k / 128, xs ++ [UInt8.ofNat (k % 128 + 128)], aa, ca, rfl, by simpa using h2, by (repeat' (first | exact Agree.refl _ _ | exact Agree.havoc | refine Agree.upd rfl ?_ | refine Agree.hav2 rfl ?_)), rfl, rfl, h1.1, h1.2, _, H.tl⟩
  · repeat' (first | ((first | refine WL.p rfl ?_ | refine WL.u ?_); first | (refine opk 1 rfl ?_; (refine ost_app1 (xs := xs) (y := UInt8.ofNat k) H rfl rfl rfl (by (exact ixQ)) (by (exact ixQ)) (by simp; omega) (by (try simp only [List.length_nil, List.length_append, List.length_cons, List.length_singleton]); omega) ?_; clear H; intro aa ca wk H; simp only [List.set_cons_zero, List.set_cons_succ, List.nil_append] at H)) | refine pvQ ?_ | (refine opk 3 rfl ?_; (refine ost_cmp rfl rfl rfl rfl (fun hc => ?_) (fun hc => ?_) <;> (simp only [cmpP] at hc; try exact prIQ))) | (refine opk 4 rfl ?_; (refine ost_cmp rfl rfl rfl rfl (fun hc => ?_) (fun hc => ?_) <;> (simp only [cmpP] at hc; try exact prIQ))) | (refine opk 9 rfl ?_; (refine ost_build1 H rfl rfl rfl evQ lsQ rfl ?_; clear H; intro bk wk H))) | refine Wc.seq ?_ | refine then_n ?_ | refine WL.nil ?_ | refine Wc.region ?_ | refine Wc.block ?_ | refine then_r ?_ | refine then_e ?_ | refine inb_e rfl ?_ | refine inb_o rfl ?_ | refine inb_n ?_ | refine inb_r ?_ | refine Wc.skip ?_ | refine Wc.exit ?_ | refine Wc.ret ?_ | refine Wc.cond_true rfl ?_ | refine Wc.cond_false rfl ?_)
    have e : putB n = xs ++ [UInt8.ofNat k] := by rw [hp, putL_last (by omega)]
    rw [e]
    exact fn_ret1 (v := .slice _ _ _) rfl rfl ⟨_, _, H.pick 1 rfl, _, _, rfl, rfl, rfl⟩
end Go.Tg

set_option linter.unusedVariables false
set_option linter.unusedSimpArgs false
set_option maxRecDepth 100000
set_option maxHeartbeats 4000000
namespace Go.Tg
open Go Go.Proofs
def getL : Nat → Nat → List UInt8 → Nat × Nat × Nat
  | _, _, [] => (0, 0, 4)
  | i, acc, c :: r => if 9 < i ∨ (i = 9 ∧ 1 < c.toNat) then (0, 0, 5) else
      if 128 ≤ c.toNat then getL (i + 1) (acc + (c.toNat % 128) * 128 ^ i) r
      else if c.toNat = 0 ∧ 0 < i then (0, 0, 5) else (acc + c.toNat % 128 * 128 ^ i, i + 1, 0)
def getB (b : List UInt8) : Nat × Nat × Nat := getL 0 0 b
theorem getL_le : ∀ (b : List UInt8) (i acc : Nat), (getL i acc b).2.1 ≤ i + b.length
  | [], i, acc => by simp [getL]
  | c :: r, i, acc => by
    have := getL_le r (i + 1) (acc + (c.toNat % 128) * 128 ^ i)
    unfold getL; split
    · simp
    · split
      · simp; omega
      · split <;> simp
theorem getB_le (b : List UInt8) : (getB b).2.1 ≤ b.length := by have := getL_le b 0 0; simpa [getB] using this
theorem pow128 (k : Nat) : 128 ^ k = 2 ^ (7 * k) := by rw [Nat.pow_mul]
theorem pow_le9 {k : Nat} (h : k ≤ 8) : 128 ^ k ≤ 72057594037927936 := Nat.pow_le_pow_right (by omega : 0 < 128) h
theorem getL_lt : ∀ (b : List UInt8) (i acc : Nat), acc < 128 ^ i → i ≤ 9 → (getL i acc b).1 < 18446744073709551616
  | [], i, acc, _, _ => by simp [getL]
  | c :: r, i, acc, h1, h2 => by
    unfold getL
    have hs : acc + (c.toNat % 128) * 128 ^ i < 128 ^ (i + 1) := by
      rw [Nat.pow_succ]
      have : (c.toNat % 128) * 128 ^ i ≤ 127 * 128 ^ i := Nat.mul_le_mul_right _ (by omega)
      omega
    split
    · simp
    · rename_i hn
      split
      · rename_i hc
        have : i ≠ 9 := fun e => hn (.inr ⟨e, by omega⟩)
        exact getL_lt r (i + 1) _ hs (by omega)
      · split
        · simp
        · by_cases h9 : i = 9
          · subst h9
            have h1' : c.toNat ≤ 1 := by omega
            have : (c.toNat % 128) * 128 ^ 9 ≤ 1 * 128 ^ 9 := Nat.mul_le_mul_right _ (by omega)
            have e : (128 : Nat) ^ 9 = 9223372036854775808 := by decide
            rw [e] at this h1
            simp only
            rw [e]
            omega
          · have := pow_le9 (k := i) (by omega)
            have e2 : (c.toNat % 128) * 128 ^ i ≤ 127 * 128 ^ i := Nat.mul_le_mul_right _ (by omega)
            simp only
            omega
theorem getB_lt (b : List UInt8) : (getB b).1 < 18446744073709551616 := getL_lt b 0 0 (by simp) (by omega)
theorem and127_all : (List.range 256).all (fun m => bitv .and .u8 (m : Int) 127 == ((m % 128 : Nat) : Int)) = true := by kernel_rfl
theorem and127 (c : UInt8) : bitv .and .u8 c.toNat 127 = ((c.toNat % 128 : Nat) : Int) := eq_of_beq (List.all_eq_true.1 and127_all c.toNat (List.mem_range.2 c.toNat_lt))
theorem and128_all : (List.range 256).all (fun m => bitv .and .u8 (m : Int) 128 == (((m / 128) * 128 : Nat) : Int)) = true := by kernel_rfl
theorem and128 (c : UInt8) : bitv .and .u8 c.toNat 128 = (((c.toNat / 128) * 128 : Nat) : Int) := eq_of_beq (List.all_eq_true.1 and128_all c.toNat (List.mem_range.2 c.toNat_lt))
theorem wrap64 (n : Int) : IntKind.u64.wrap n = n % 18446744073709551616 := by simp [IntKind.wrap, IntKind.bits, IntKind.signed]
theorem bv_of (n : Nat) : BitVec.ofInt 64 (n : Int) = BitVec.ofNat 64 n := by simp
theorem or_add {a m k : Nat} (h1 : a < 2 ^ k) (h2 : a + m * 2 ^ k < 18446744073709551616) : bitv .or .u64 (a : Int) ((m * 2 ^ k : Nat) : Int) = ((a + m * 2 ^ k : Nat) : Int) := by
  have e : a ||| m * 2 ^ k = a + m * 2 ^ k := by
    rw [Nat.mul_comm, Nat.or_comm, ← Nat.two_pow_add_eq_or_of_lt h1, Nat.add_comm]
  show IntKind.u64.wrap (((BitVec.ofInt 64 (a : Int) ||| BitVec.ofInt 64 ((m * 2 ^ k : Nat) : Int)).toNat : Nat) : Int) = _
  rw [bv_of, bv_of, BitVec.toNat_or, BitVec.toNat_ofNat, BitVec.toNat_ofNat, Nat.mod_eq_of_lt (by omega), Nat.mod_eq_of_lt (by omega), e, wrap64]
  omega
theorem get_step {acc k : Nat} (c : UInt8) (hk : k ≤ 9) (ha : acc < 128 ^ k) (hc : k = 9 → c.toNat ≤ 1) :
    bitv .or .u64 (acc : Int) (IntKind.u64.wrap ((bitv .and .u8 c.toNat 127) * 2 ^ min (Int.toNat (7 * (k : Int))) (IntKind.bits .u64))) = ((acc + c.toNat % 128 * 128 ^ k : Nat) : Int) ∧ acc + c.toNat % 128 * 128 ^ k < 128 ^ (k + 1) := by
  have hs : acc + (c.toNat % 128) * 128 ^ k < 128 ^ (k + 1) := by
    rw [Nat.pow_succ]
    have : (c.toNat % 128) * 128 ^ k ≤ 127 * 128 ^ k := Nat.mul_le_mul_right _ (by omega)
    omega
  refine ⟨?_, hs⟩
  have hb : acc + (c.toNat % 128) * 128 ^ k < 18446744073709551616 := by
    by_cases h9 : k = 9
    · subst h9
      have := hc rfl
      have : (c.toNat % 128) * 128 ^ 9 ≤ 1 * 128 ^ 9 := Nat.mul_le_mul_right _ (by omega)
      have e : (128 : Nat) ^ 9 = 9223372036854775808 := by decide
      rw [e] at this ha ⊢
      omega
    · have := pow_le9 (k := k) (by omega)
      have e2 : (c.toNat % 128) * 128 ^ k ≤ 127 * 128 ^ k := Nat.mul_le_mul_right _ (by omega)
      omega
  have e1 : min (Int.toNat (7 * (k : Int))) (IntKind.bits .u64) = 7 * k := by show min _ 64 = _; omega
  rw [e1, and127]
  have e2 : (((c.toNat % 128 : Nat) : Int) * 2 ^ (7 * k)) = (((c.toNat % 128) * 2 ^ (7 * k) : Nat) : Int) := by simp
  rw [pow128] at hb ha ⊢
  rw [e2, wrap64]
  have e3 : (((c.toNat % 128) * 2 ^ (7 * k) : Nat) : Int) % 18446744073709551616 = (((c.toNat % 128) * 2 ^ (7 * k) : Nat) : Int) := by omega
  rw [e3]
  exact or_add ha hb
theorem vint_Get (h0 : FH) (a : Option Addr) (c : Nat) (xs : List UInt8) (w : World) (hs : Sat h0 w) (hr : BS h0 a c xs) :
    SpecV Tryd.prog 119 #[.slice a xs.length c] w (.tuple #[.int .u64 (getB xs).1, .int .i64 (getB xs).2.1, .int .i64 (getB xs).2.2]) := by
  have H := St.start hs
  have fin : ∀ (x : Nat × Nat × Nat) (n k e : Int), getB xs = x → n = x.1 → k = x.2.1 → e = x.2.2 → Value.tuple #[.int .u64 n, .int .i64 k, .int .i64 e] = .tuple #[.int .u64 (getB xs).1, .int .i64 (getB xs).2.1, .int .i64 (getB xs).2.2] := fun x n k e h1 h2 h3 h4 => by rw [h1, h2, h3, h4]
  unfold SpecV
  refine calls_of Tryd.func119 rfl Tryd.ntmps119 (by simp) ?_
  repeat' (first | ((first | refine WL.p rfl ?_ | refine WL.u ?_ | refine WL.g rfl rfl ?_ | refine WL.gu rfl ?_); first | refine pvQ ?_ | (refine opk 3 rfl ?_; (refine ost_cmp rfl rfl rfl rfl (fun hc => ?_) (fun hc => ?_) <;> (simp only [cmpP] at hc; try exact prIQ))) | (refine opk 4 rfl ?_; (refine ost_cmp rfl rfl rfl rfl (fun hc => ?_) (fun hc => ?_) <;> (simp only [cmpP] at hc; try exact prIQ)))) | refine Wc.seq ?_ | refine then_n ?_ | refine WL.nil ?_ | refine Wc.region ?_ | refine Wc.block ?_ | refine then_r ?_ | refine then_e ?_ | refine inb_e rfl ?_ | refine inb_o rfl ?_ | refine inb_n ?_ | refine inb_r ?_ | refine Wc.skip ?_ | refine Wc.exit ?_ | refine Wc.ret ?_ | refine Wc.cond_true rfl ?_ | refine Wc.cond_false rfl ?_ | refine WL.skp rfl rfl ?_ | refine WL.sku rfl ?_)
  refine Wc.loopE (fun s0 m s w' => ∃ (k acc : Nat), m = xs.length - k ∧ k ≤ xs.length ∧ Agree [2, 3, 4, 5, 6, 7, 10, 11, 12, 13, 14, 15, 16, 17, 18, 19, 20, 21, 22, 23, 24, 25, 26, 27, 28, 29, 30, 31, 32, 33, 34, 35, 36, 37, 38, 39, 40, 41, 42, 43, 44, 45] s s0 ∧ s 10 = .int .i64 k ∧ s 5 = .int .u64 acc ∧ getB xs = getL k acc (xs.drop k) ∧ acc < 128 ^ k ∧ k ≤ 9 ∧
    St w [] h0 h0 [] w') xs.length ⟨0, 0, rfl, by omega, Agree.refl _ _, rfl, rfl, rfl, by simp, by omega, H⟩ ?_
  clear H
  rintro m s w' ⟨k, acc, rfl, hk, hA, e1, e2, hg, hacc, h9, H⟩
  obtain ⟨j, rfl⟩ := hA.env2 e1 e2
  clear hA e1 e2
  by_cases hlt : k < xs.length
  · obtain ⟨b, off, l, T, fr, rfl, eb, eg⟩ := hr.get hlt
    have g1 : l[off + (k : Int).toNat * 1]? = some (.int .u8 (xs[k]).toNat) := by rw [show off + (k : Int).toNat * 1 = off + k by omega]; exact eg k hlt
    rw [List.drop_eq_getElem_cons hlt] at hg
    generalize hx : xs[k] = x at g1 hg
    have hx2 := x.toNat_lt
    have b1 := and127 x; have b2 := and128 x
    repeat' (first | ((first | refine WL.p rfl ?_ | refine WL.u ?_ | refine WL.g rfl rfl ?_ | refine WL.gu rfl ?_); first | refine pvQ ?_ | (refine opk 3 rfl ?_; (refine ost_cmp rfl rfl rfl rfl (fun hc => ?_) (fun hc => ?_) <;> (simp only [cmpP] at hc; try exact prIQ))) | (refine opk 4 rfl ?_; (refine ost_cmp rfl rfl rfl rfl (fun hc => ?_) (fun hc => ?_) <;> (simp only [cmpP] at hc; try exact prIQ)))) | refine Wc.seq ?_ | refine then_n ?_ | refine WL.nil ?_ | refine Wc.region ?_ | refine Wc.block ?_ | refine then_r ?_ | refine then_e ?_ | refine inb_e rfl ?_ | refine inb_o rfl ?_ | refine inb_n ?_ | refine inb_r ?_ | refine Wc.skip ?_ | refine Wc.exit ?_ | refine Wc.ret ?_ | refine Wc.cond_true rfl ?_ | refine Wc.cond_false rfl ?_ | refine WL.skp rfl rfl ?_ | refine WL.sku rfl ?_)
    all_goals first
      | (refine fn_ret3 (v1 := .int _ _) (v2 := .int _ _) (v3 := .int _ _) rfl rfl rfl rfl ⟨fin (0, 0, 5) _ _ _ ?_ rfl rfl rfl, H.fr⟩; rw [hg, getL]; first | rw [if_pos (by omega)] | rw [if_neg (by omega), if_neg (by omega), if_pos (by omega)])
      | (refine fn_ret3 (v1 := .int _ _) (v2 := .int _ _) (v3 := .int _ _) rfl rfl rfl rfl ⟨fin (acc + x.toNat % 128 * 128 ^ k, k + 1, 0) _ _ _ ?_ (get_step x h9 hacc (by omega)).1 rfl rfl, H.fr⟩; rw [hg, getL, if_neg (by omega), if_neg (by omega), if_neg (by omega)])
      | exact ⟨xs.length - (k + 1), by omega, k + 1, _, rfl, by omega, by (repeat' (first | exact Agree.refl _ _ | exact Agree.havoc | refine Agree.upd rfl ?_ | refine Agree.hav2 rfl ?_)), rfl, by rw [← (get_step x h9 hacc (by omega)).1]; rfl, by rw [hg, getL, if_neg (by omega), if_pos (by omega)], (get_step x h9 hacc (by omega)).2, by omega, H⟩
  · obtain rfl : k = xs.length := by omega
    repeat' (first | ((first | refine WL.p rfl ?_ | refine WL.u ?_ | refine WL.g rfl rfl ?_ | refine WL.gu rfl ?_); first | refine pvQ ?_ | (refine opk 3 rfl ?_; (refine ost_cmp rfl rfl rfl rfl (fun hc => ?_) (fun hc => ?_) <;> (simp only [cmpP] at hc; try exact prIQ))) | (refine opk 4 rfl ?_; (refine ost_cmp rfl rfl rfl rfl (fun hc => ?_) (fun hc => ?_) <;> (simp only [cmpP] at hc; try exact prIQ)))) | refine Wc.seq ?_ | refine then_n ?_ | refine WL.nil ?_ | refine Wc.region ?_ | refine Wc.block ?_ | refine then_r ?_ | refine then_e ?_ | refine inb_e rfl ?_ | refine inb_o rfl ?_ | refine inb_n ?_ | refine inb_r ?_ | refine Wc.skip ?_ | refine Wc.exit ?_ | refine Wc.ret ?_ | refine Wc.cond_true rfl ?_ | refine Wc.cond_false rfl ?_ | refine WL.skp rfl rfl ?_ | refine WL.sku rfl ?_)
    refine fn_ret3 (v1 := .int _ _) (v2 := .int _ _) (v3 := .int _ _) rfl rfl rfl rfl ⟨fin (0, 0, 4) _ _ _ ?_ rfl rfl rfl, H.fr⟩
    rw [hg]; simp [getL]

theorem xor_zero (a : Nat) (h : a < 18446744073709551616) : bitv .xor .u64 (a : Int) 0 = a := by
  show IntKind.u64.wrap (((BitVec.ofInt 64 (a : Int) ^^^ BitVec.ofInt 64 0).toNat : Nat) : Int) = _
  rw [bv_of]
  simp [wrap64]
  omega
def valL : List UInt8 → Nat
  | [] => 0
  | x :: r => x.toNat % 128 + 128 * valL r
theorem valL_app : ∀ (xs : List UInt8) (c : UInt8), valL (xs ++ [c]) = valL xs + c.toNat % 128 * 128 ^ xs.length
  | [], c => by simp [valL]
  | x :: r, c => by
    rw [List.cons_append, valL, valL_app r c, valL, List.length_cons, Nat.pow_succ, Nat.mul_add]
    rw [show c.toNat % 128 * (128 ^ r.length * 128) = 128 * (c.toNat % 128 * 128 ^ r.length) by rw [← Nat.mul_assoc, Nat.mul_comm]]
    omega
theorem putL_val : ∀ (xs : List UInt8) (c : UInt8) (m : Nat), xs.length ≤ m → (∀ x, x ∈ xs → 128 ≤ x.toNat) → c.toNat < 128 → (c.toNat ≠ 0 ∨ xs = []) → putL m (valL (xs ++ [c])) = xs ++ [c]
  | [], c, m, _, _, hc, _ => by
    have e : valL ([] ++ [c]) = c.toNat := by simp [valL]; omega
    rw [e, putL_last hc]; simp
  | x :: r, c, m, hm, hx, hc, h0 => by
    have h0 : c.toNat ≠ 0 := h0.resolve_right (by simp)
    obtain ⟨m, rfl⟩ : ∃ q, m = q + 1 := ⟨m - 1, by simp at hm; omega⟩
    have hr := putL_val r c m (by simpa using hm) (fun y hy => hx y (by simp [hy])) hc (.inl h0)
    have hp : 0 < valL (r ++ [c]) := by
      rw [valL_app]
      have : 1 * 1 ≤ c.toNat % 128 * 128 ^ r.length := Nat.mul_le_mul (by omega) (Nat.one_le_pow _ _ (by omega))
      omega
    have hx1 := hx x (by simp)
    have hx2 := x.toNat_lt
    rw [List.cons_append, valL, putL, if_neg (by omega)]
    have e1 : (x.toNat % 128 + 128 * valL (r ++ [c])) / 128 = valL (r ++ [c]) := by omega
    have e2 : (x.toNat % 128 + 128 * valL (r ++ [c])) % 128 + 128 = x.toNat := by omega
    rw [e1, e2, hr]; simp
theorem putL_end : ∀ (m n : Nat), 0 < n → n < 128 ^ (m + 1) → ∃ ys c, putL m n = ys ++ [c] ∧ c ≠ (0 : UInt8)
  | 0, n, h1, h2 => ⟨[], UInt8.ofNat n, rfl, fun e => by
      have := congrArg UInt8.toNat e
      simp at this; omega⟩
  | m + 1, n, h1, h2 => by
    unfold putL
    split
    · exact ⟨[], _, rfl, fun e => by
        have := congrArg UInt8.toNat e
        simp at this; omega⟩
    · obtain ⟨ys, c, e, hc⟩ := putL_end m (n / 128) (by omega) (by rw [Nat.pow_succ] at h2; omega)
      exact ⟨_ :: ys, c, by rw [e]; rfl, hc⟩
theorem putB_iff {xs : List UInt8} {c : UInt8} {n : Nat} (h9 : xs.length ≤ 9) (hx : ∀ x, x ∈ xs → 128 ≤ x.toNat) (hc : c.toNat < 128) (hn : n = valL (xs ++ [c])) (hb : n < 18446744073709551616) : putB n = xs ++ [c] ↔ ¬ (c.toNat = 0 ∧ 0 < xs.length) := by
  constructor
  · rintro h ⟨h1, h2⟩
    have hc0 : c = 0 := by apply UInt8.toNat_inj.1; simpa using h1
    by_cases hz : n = 0
    · rw [hz, show putB 0 = [0] from rfl, hc0] at h
      have := congrArg List.length h
      simp at this; subst this; simp at h2
    · obtain ⟨ys, d, e, hd⟩ := putL_end 10 n (by omega) (by omega)
      rw [putB, e] at h
      have := (List.append_inj' h rfl).2
      simp at this
      exact hd (this.trans hc0)
  · intro h
    rw [hn]
    refine putL_val xs c 10 (by omega) hx hc ?_
    by_cases h0 : c.toNat = 0
    · exact .inr (List.eq_nil_of_length_eq_zero (by omega))
    · exact .inl h0
end Go.Tg

