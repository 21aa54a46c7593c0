/- Contracts of Go functions that the laws reach: what each call answers and leaves in memory, for all arguments within the bounds that each theorem names. -/
import Derived.Test.YtajfhoeejeadkaaDoorInst
import Derived.Test.YtajfhoeejeadkaaDoorAuto
import Derived.Test.YtajfhoeejeadkaaDoorByt
set_option linter.unusedVariables false
set_option linter.unusedSimpArgs false
set_option maxRecDepth 100000
set_option maxHeartbeats 4000000
namespace Go.Tg
open Go Go.Proofs
theorem clone8 (h0 : FH) (a : Option Addr) (c : Nat) (xs : List UInt8) (w : World) (hs : Sat h0 w) (hr : BS h0 a c xs) (hb : xs.length ≤ 1000000000) :
    Spec Tryd.prog 116 #[.slice a xs.length c] w [] h0 (fun v h' L' => ∃ a' c', v = .slice a' xs.length c' ∧ h' = h0 ∧ L' = [own8 v 5 xs]) := by
  have H := St.start hs
  unfold Spec
  refine calls_of Tryd.func116 rfl Tryd.ntmps116 (by simp) ?_
  repeat' (first | ((first | refine WL.p rfl ?_ | refine WL.u ?_); first | (refine opk 1 rfl ?_; (refine ost_app8 (xs := []) H rfl rfl rfl (by (exact ixQ)) ((hr.full H)) (by (try simp only [List.length_nil, List.length_append, List.length_cons, List.length_singleton]); omega) ?_; clear H; intro aa ca wk H; simp only [List.set_cons_zero, List.set_cons_succ, List.nil_append] at H)) | refine pvQ ?_ | (refine opk 3 rfl ?_; first | (refine ost_slEq rfl rfl rfl (fun hc => ?_) (fun hc => ?_) <;> try (simp at hc; done)) | (refine ost_slNe rfl rfl rfl (fun hc => ?_) (fun hc => ?_) <;> try (simp at hc; done))) | (refine opk 9 rfl ?_; (refine ost_build1 H rfl rfl rfl evQ lsQ rfl ?_; clear H; intro bk wk H))) | refine Wc.seq ?_ | refine then_n ?_ | refine WL.nil ?_ | refine Wc.region ?_ | refine Wc.block ?_ | refine then_r ?_ | refine then_e ?_ | refine inb_e rfl ?_ | refine inb_o rfl ?_ | refine inb_n ?_ | refine inb_r ?_ | refine Wc.skip ?_ | refine Wc.exit ?_ | refine Wc.ret ?_ | refine Wc.cond_true rfl ?_ | refine Wc.cond_false rfl ?_)
  · have h0' : a = none := by cases a <;> simp_all
    subst h0'
    have := r_nil hr; subst this
    exact fn_ret1 (v := .slice _ _ _) rfl rfl ⟨_, _, H.nil8 5, _, _, rfl, rfl, rfl⟩
  · exact fn_ret1 (v := .slice _ _ _) rfl rfl ⟨_, _, H, _, _, rfl, rfl, rfl⟩
def putL : Nat → Nat → List UInt8
  | 0, n => [UInt8.ofNat n]
  | k + 1, n => if n < 128 then [UInt8.ofNat n] else UInt8.ofNat (n % 128 + 128) :: putL k (n / 128)
def putB (n : Nat) : List UInt8 := putL 10 n
theorem wrap8 (n : Int) : IntKind.u8.wrap n = n % 256 := by simp [IntKind.wrap, IntKind.bits, IntKind.signed]
theorem or128_all : (List.range 256).all (fun m => bitv .or .u8 (m : Int) 128 == ((m % 128 + 128 : Nat) : Int)) = true := by kernel_rfl
theorem or128 (k : Nat) : bitv .or .u8 (IntKind.u8.wrap k) 128 = ((UInt8.ofNat (k % 128 + 128)).toNat : Int) := by
  have h := List.all_eq_true.1 or128_all (k % 256) (List.mem_range.2 (by omega))
  have e : IntKind.u8.wrap (k : Int) = ((k % 256 : Nat) : Int) := by rw [wrap8]; omega
  rw [e, eq_of_beq h]
  simp; omega
theorem shr7 (k : Nat) : Int.fdiv (k : Int) (2 ^ min (Int.toNat 7) (IntKind.bits .u64)) = ((k / 128 : Nat) : Int) := by
  show Int.fdiv (k : Int) 128 = _
  rw [Int.fdiv_eq_ediv_of_nonneg _ (by omega)]; omega
theorem putL_last {k m : Nat} (h : k < 128) : putL m k = [UInt8.ofNat k] := by
  cases m <;> simp [putL, h]
theorem put_step {n k : Nat} {xs : List UInt8} (hn : n < 18446744073709551616) (hk : xs.length ≤ 9) (hp : putB n = xs ++ putL (10 - xs.length) k) (hle : k * 128 ^ xs.length ≤ n) (hlt : 127 < k) :
    (putB n = (xs ++ [UInt8.ofNat (k % 128 + 128)]) ++ putL (10 - (xs ++ [UInt8.ofNat (k % 128 + 128)]).length) (k / 128) ∧
      k / 128 * 128 ^ (xs ++ [UInt8.ofNat (k % 128 + 128)]).length ≤ n) ∧ xs.length + 1 ≤ 9 ∧
    10 - (xs ++ [UInt8.ofNat (k % 128 + 128)]).length < 10 - xs.length := by
  have h9 : xs.length + 1 ≤ 9 := by
    by_cases h : xs.length = 9
    · rw [h] at hle
      have : 128 * 128 ^ 9 ≤ k * 128 ^ 9 := Nat.mul_le_mul_right _ (by omega)
      omega
    · omega
  refine ⟨⟨?_, ?_⟩, h9, by simp; omega⟩
  · rw [hp]
    have : 10 - xs.length = (10 - (xs.length + 1)) + 1 := by omega
    rw [this, putL, if_neg (by omega)]
    simp
  · simp [Nat.pow_succ]
    refine Nat.le_trans ?_ hle
    rw [Nat.mul_comm (128 ^ _), ← Nat.mul_assoc]
    exact Nat.mul_le_mul_right _ (Nat.div_mul_le_self k 128)
theorem vint_Put (n : Nat) (hn : n < 18446744073709551616) (h0 : FH) (w : World) (hs : Sat h0 w) :
    Spec Tryd.prog 115 #[.int .u64 n] w [] h0 (fun v h' L' => ∃ a' c', v = .slice a' (putB n).length c' ∧ h' = h0 ∧ L' = [own8 v 5 (putB n)]) := by
  have H := St.start hs
  unfold Spec
  refine calls_of Tryd.func115 rfl Tryd.ntmps115 (by simp) ?_
  repeat' (first | ((first | refine WL.p rfl ?_ | refine WL.u ?_); first | refine pvQ ?_ | (refine opk 3 rfl ?_; (refine ost_cmp rfl rfl rfl rfl (fun hc => ?_) (fun hc => ?_) <;> (simp only [cmpP] at hc; try exact prIQ))) | (refine opk 4 rfl ?_; (refine ost_cmp rfl rfl rfl rfl (fun hc => ?_) (fun hc => ?_) <;> (simp only [cmpP] at hc; try exact prIQ))) | (refine opk 9 rfl ?_; (refine ost_build1 H rfl rfl rfl evQ lsQ rfl ?_; clear H; intro bk wk H))) | refine Wc.seq ?_ | refine then_n ?_ | refine WL.nil ?_ | refine Wc.region ?_ | refine Wc.block ?_ | refine then_r ?_ | refine then_e ?_ | refine inb_e rfl ?_ | refine inb_o rfl ?_ | refine inb_n ?_ | refine inb_r ?_ | refine Wc.skip ?_ | refine Wc.exit ?_ | refine Wc.ret ?_ | refine Wc.cond_true rfl ?_ | refine Wc.cond_false rfl ?_)
  have H := H.nil8 5
  refine Wc.loopE (fun s0 m s w' => ∃ (k : Nat) (xs : List UInt8) (a' : Option Addr) (c' : Nat), m = 10 - xs.length ∧ xs.length ≤ 9 ∧ Agree [0, 3, 4, 5, 6, 7, 8, 9, 10, 11, 12, 13] s s0 ∧ s 0 = .int .u64 k ∧ s 3 = .slice a' xs.length c' ∧
    putB n = xs ++ putL (10 - xs.length) k ∧ (k * 128 ^ xs.length ≤ n) ∧ ∃ L', St w [] h0 h0 (own8 (.slice a' xs.length c') 5 xs :: L') w') 10 ⟨n, [], none, 0, rfl, by simp, Agree.refl _ _, rfl, rfl, rfl, by simp, _, H⟩ ?_
  clear H
  rintro m s w' ⟨k, xs, a', c', rfl, hk, hA, e0, e3, hp, hle, L', H⟩
  obtain ⟨j, rfl⟩ := hA.env2 e0 e3
  clear hA e0 e3
  by_cases hlt : 127 < k
  · repeat' (first | ((first | refine WL.p rfl ?_ | refine WL.u ?_); first | (refine opk 1 rfl ?_; (refine ost_app1 (xs := xs) (y := UInt8.ofNat (k % 128 + 128)) H rfl rfl rfl (by (exact ixQ)) (by (exact ixQ)) (or128 k) (by (try simp only [List.length_nil, List.length_append, List.length_cons, List.length_singleton]); omega) ?_; clear H; intro aa ca wk H; simp only [List.set_cons_zero, List.set_cons_succ, List.nil_append] at H)) | refine pvQ ?_ | (refine opk 3 rfl ?_; (refine ost_cmp rfl rfl rfl rfl (fun hc => ?_) (fun hc => ?_) <;> (simp only [cmpP] at hc; try exact prIQ))) | (refine opk 4 rfl ?_; (refine ost_cmp rfl rfl rfl rfl (fun hc => ?_) (fun hc => ?_) <;> (simp only [cmpP] at hc; try exact prIQ))) | (refine opk 9 rfl ?_; (refine ost_build1 H rfl rfl rfl evQ lsQ rfl ?_; clear H; intro bk wk H))) | refine Wc.seq ?_ | refine then_n ?_ | refine WL.nil ?_ | refine Wc.region ?_ | refine Wc.block ?_ | refine then_r ?_ | refine then_e ?_ | refine inb_e rfl ?_ | refine inb_o rfl ?_ | refine inb_n ?_ | refine inb_r ?_ | refine Wc.skip ?_ | refine Wc.exit ?_ | refine Wc.ret ?_ | refine Wc.cond_true rfl ?_ | refine Wc.cond_false rfl ?_)
    simp only [shr7]
    obtain ⟨h1, h2, h3⟩ := put_step hn hk hp hle hlt
    exact ⟨_, h3, k / 128, xs ++ [UInt8.ofNat (k % 128 + 128)], aa, ca, rfl, by simpa using h2, by (repeat' (first | exact Agree.refl _ _ | exact Agree.havoc | refine Agree.upd rfl ?_ | refine Agree.hav2 rfl ?_)), rfl, rfl, h1.1, h1.2, _, H.tl⟩
  · repeat' (first | ((first | refine WL.p rfl ?_ | refine WL.u ?_); first | (refine opk 1 rfl ?_; (refine ost_app1 (xs := xs) (y := UInt8.ofNat k) H rfl rfl rfl (by (exact ixQ)) (by (exact ixQ)) (by simp; omega) (by (try simp only [List.length_nil, List.length_append, List.length_cons, List.length_singleton]); omega) ?_; clear H; intro aa ca wk H; simp only [List.set_cons_zero, List.set_cons_succ, List.nil_append] at H)) | refine pvQ ?_ | (refine opk 3 rfl ?_; (refine ost_cmp rfl rfl rfl rfl (fun hc => ?_) (fun hc => ?_) <;> (simp only [cmpP] at hc; try exact prIQ))) | (refine opk 4 rfl ?_; (refine ost_cmp rfl rfl rfl rfl (fun hc => ?_) (fun hc => ?_) <;> (simp only [cmpP] at hc; try exact prIQ))) | (refine opk 9 rfl ?_; (refine ost_build1 H rfl rfl rfl evQ lsQ rfl ?_; clear H; intro bk wk H))) | refine Wc.seq ?_ | refine then_n ?_ | refine WL.nil ?_ | refine Wc.region ?_ | refine Wc.block ?_ | refine then_r ?_ | refine then_e ?_ | refine inb_e rfl ?_ | refine inb_o rfl ?_ | refine inb_n ?_ | refine inb_r ?_ | refine Wc.skip ?_ | refine Wc.exit ?_ | refine Wc.ret ?_ | refine Wc.cond_true rfl ?_ | refine Wc.cond_false rfl ?_)
    have e : putB n = xs ++ [UInt8.ofNat k] := by rw [hp, putL_last (by omega)]
    rw [e]
    exact fn_ret1 (v := .slice _ _ _) rfl rfl ⟨_, _, H.pick 1 rfl, _, _, rfl, rfl, rfl⟩
end Go.Tg

