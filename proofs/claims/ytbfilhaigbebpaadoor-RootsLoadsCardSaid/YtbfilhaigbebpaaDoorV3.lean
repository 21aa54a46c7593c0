/- Contracts of Go functions that the laws reach: what each call answers and leaves in memory, for all arguments within the bounds that each theorem names. -/
import Derived.Test.YtbfilhaigbebpaaDoorInst
import Derived.Test.YtbfilhaigbebpaaDoorAuto
import Derived.Test.YtbfilhaigbebpaaDoorByt
import Derived.Test.YtbfilhaigbebpaaDoorSl
set_option linter.unusedVariables false
set_option linter.unusedSimpArgs false
set_option maxRecDepth 100000
set_option maxHeartbeats 4000000
namespace Go.Tg
open Go Go.Proofs
theorem clone8 (h0 : FH) (a : Option Addr) (c : Nat) (xs : List UInt8) (w : World) (hs : Sat h0 w) (hr : BS h0 a c xs) (hb : xs.length ≤ 1000000000) :
    Spec Tryd.prog 55 #[.slice a xs.length c] w [] h0 (fun v h' L' => ∃ a' c', v = .slice a' xs.length c' ∧ h' = h0 ∧ L' = [own8 v 5 xs]) := by
  have H := St.start hs
  unfold Spec
  refine calls_of Tryd.func55 rfl Tryd.ntmps55 (by simp) ?_
  repeat' (first | ((first | refine WL.p rfl ?_ | refine WL.u ?_); first | (refine opk 1 rfl ?_; (refine ost_app8 (xs := []) H rfl rfl rfl (by (exact ixQ)) ((hr.full H)) (by (try simp only [List.length_nil, List.length_append, List.length_cons, List.length_singleton]); omega) ?_; clear H; intro aa ca wk H; simp only [List.set_cons_zero, List.set_cons_succ, List.nil_append] at H)) | refine pvQ ?_ | (refine opk 3 rfl ?_; first | (refine ost_slEq rfl rfl rfl (fun hc => ?_) (fun hc => ?_) <;> try (simp at hc; done)) | (refine ost_slNe rfl rfl rfl (fun hc => ?_) (fun hc => ?_) <;> try (simp at hc; done))) | (refine opk 9 rfl ?_; (refine ost_build1 H rfl rfl rfl evQ lsQ rfl ?_; clear H; intro bk wk H))) | refine Wc.seq ?_ | refine then_n ?_ | refine WL.nil ?_ | refine Wc.region ?_ | refine Wc.block ?_ | refine then_r ?_ | refine then_e ?_ | refine inb_e rfl ?_ | refine inb_o rfl ?_ | refine inb_n ?_ | refine inb_r ?_ | refine Wc.skip ?_ | refine Wc.exit ?_ | refine Wc.ret ?_ | refine Wc.cond_true rfl ?_ | refine Wc.cond_false rfl ?_)
  · have h0' : a = none := by cases a <;> simp_all
    subst h0'
    have := r_nil hr; subst this
    exact fn_ret1 (v := .slice _ _ _) rfl rfl ⟨_, _, H.nil8 5, _, _, rfl, rfl, rfl⟩
  · exact fn_ret1 (v := .slice _ _ _) rfl rfl ⟨_, _, H, _, _, rfl, rfl, rfl⟩
def putL : Nat → Nat → List UInt8
  | 0, n => [UInt8.ofNat n]
  | k + 1, n => if n < 128 then [UInt8.ofNat n] else UInt8.ofNat (n % 128 + 128) :: putL k (n / 128)
def putB (n : Nat) : List UInt8 := putL 10 n
theorem wrap8 (n : Int) : IntKind.u8.wrap n = n % 256 := by simp [IntKind.wrap, IntKind.bits, IntKind.signed]
theorem or128_all : (List.range 256).all (fun m => bitv .or .u8 (m : Int) 128 == ((m % 128 + 128 : Nat) : Int)) = true := by kernel_rfl
theorem or128 (k : Nat) : bitv .or .u8 (IntKind.u8.wrap k) 128 = ((UInt8.ofNat (k % 128 + 128)).toNat : Int) := by
  have h := List.all_eq_true.1 or128_all (k % 256) (List.mem_range.2 (by omega))
  have e : IntKind.u8.wrap (k : Int) = ((k % 256 : Nat) : Int) := by rw [wrap8]; omega
  rw [e, eq_of_beq h]
  simp; omega
theorem shr7 (k : Nat) : Int.fdiv (k : Int) (2 ^ min (Int.toNat 7) (IntKind.bits .u64)) = ((k / 128 : Nat) : Int) := by
  show Int.fdiv (k : Int) 128 = _
  rw [Int.fdiv_eq_ediv_of_nonneg _ (by omega)]; omega
theorem putL_last {k m : Nat} (h : k < 128) : putL m k = [UInt8.ofNat k] := by
  cases m <;> simp [putL, h]
theorem put_step {n k : Nat} {xs : List UInt8} (hn : n < 18446744073709551616) (hk : xs.length ≤ 9) (hp : putB n = xs ++ putL (10 - xs.length) k) (hle : k * 128 ^ xs.length ≤ n) (hlt : 127 < k) :
    (putB n = (xs ++ [UInt8.ofNat (k % 128 + 128)]) ++ putL (10 - (xs ++ [UInt8.ofNat (k % 128 + 128)]).length) (k / 128) ∧
      k / 128 * 128 ^ (xs ++ [UInt8.ofNat (k % 128 + 128)]).length ≤ n) ∧ xs.length + 1 ≤ 9 ∧
    10 - (xs ++ [UInt8.ofNat (k % 128 + 128)]).length < 10 - xs.length := by
  have h9 : xs.length + 1 ≤ 9 := by
    by_cases h : xs.length = 9
    · rw [h] at hle
      have : 128 * 128 ^ 9 ≤ k * 128 ^ 9 := Nat.mul_le_mul_right _ (by omega)
      omega
    · omega
  refine ⟨⟨?_, ?_⟩, h9, by simp; omega⟩
  · rw [hp]
    have : 10 - xs.length = (10 - (xs.length + 1)) + 1 := by omega
    rw [this, putL, if_neg (by omega)]
    simp
  · simp [Nat.pow_succ]
    refine Nat.le_trans ?_ hle
    rw [Nat.mul_comm (128 ^ _), ← Nat.mul_assoc]
    exact Nat.mul_le_mul_right _ (Nat.div_mul_le_self k 128)
theorem vint_Put (n : Nat) (hn : n < 18446744073709551616) (h0 : FH) (w : World) (hs : Sat h0 w) :
    Spec Tryd.prog 54 #[.int .u64 n] w [] h0 (fun v h' L' => ∃ a' c', v = .slice a' (putB n).length c' ∧ h' = h0 ∧ L' = [own8 v 5 (putB n)]) := by
  have H := St.start hs
  unfold Spec
  refine calls_of Tryd.func54 rfl Tryd.ntmps54 (by simp) ?_
  repeat' (first | ((first | refine WL.p rfl ?_ | refine WL.u ?_); first | refine pvQ ?_ | (refine opk 3 rfl ?_; (refine ost_cmp rfl rfl rfl rfl (fun hc => ?_) (fun hc => ?_) <;> (simp only [cmpP] at hc; try exact prIQ))) | (refine opk 4 rfl ?_; (refine ost_cmp rfl rfl rfl rfl (fun hc => ?_) (fun hc => ?_) <;> (simp only [cmpP] at hc; try exact prIQ))) | (refine opk 9 rfl ?_; (refine ost_build1 H rfl rfl rfl evQ lsQ rfl ?_; clear H; intro bk wk H))) | refine Wc.seq ?_ | refine then_n ?_ | refine WL.nil ?_ | refine Wc.region ?_ | refine Wc.block ?_ | refine then_r ?_ | refine then_e ?_ | refine inb_e rfl ?_ | refine inb_o rfl ?_ | refine inb_n ?_ | refine inb_r ?_ | refine Wc.skip ?_ | refine Wc.exit ?_ | refine Wc.ret ?_ | refine Wc.cond_true rfl ?_ | refine Wc.cond_false rfl ?_)
  have H := H.nil8 5
  refine Wc.loopE (fun s0 m s w' => ∃ (k : Nat) (xs : List UInt8) (a' : Option Addr) (c' : Nat), m = 10 - xs.length ∧ xs.length ≤ 9 ∧ Agree [0, 3, 4, 5, 6, 7, 8, 9, 10, 11, 12, 13] s s0 ∧ s 0 = .int .u64 k ∧ s 3 = .slice a' xs.length c' ∧
    putB n = xs ++ putL (10 - xs.length) k ∧ (k * 128 ^ xs.length ≤ n) ∧ ∃ L', St w [] h0 h0 (own8 (.slice a' xs.length c') 5 xs :: L') w') 10 ⟨n, [], none, 0, rfl, by simp, Agree.refl _ _, rfl, rfl, rfl, by simp, _, H⟩ ?_
  clear H
  rintro m s w' ⟨k, xs, a', c', rfl, hk, hA, e0, e3, hp, hle, L', H⟩
  obtain ⟨j, rfl⟩ := hA.env2 e0 e3
  clear hA e0 e3
  by_cases hlt : 127 < k
  · repeat' (first | ((first | refine WL.p rfl ?_ | refine WL.u ?_); first | (refine opk 1 rfl ?_; (refine ost_app1 (xs := xs) (y := UInt8.ofNat (k % 128 + 128)) H rfl rfl rfl (by (exact ixQ)) (by (exact ixQ)) (or128 k) (by (try simp only [List.length_nil, List.length_append, List.length_cons, List.length_singleton]); omega) ?_; clear H; intro aa ca wk H; simp only [List.set_cons_zero, List.set_cons_succ, List.nil_append] at H)) | refine pvQ ?_ | (refine opk 3 rfl ?_; (refine ost_cmp rfl rfl rfl rfl (fun hc => ?_) (fun hc => ?_) <;> (simp only [cmpP] at hc; try exact prIQ))) | (refine opk 4 rfl ?_; (refine ost_cmp rfl rfl rfl rfl (fun hc => ?_) (fun hc => ?_) <;> (simp only [cmpP] at hc; try exact prIQ))) | (refine opk 9 rfl ?_; (refine ost_build1 H rfl rfl rfl evQ lsQ rfl ?_; clear H; intro bk wk H))) | refine Wc.seq ?_ | refine then_n ?_ | refine WL.nil ?_ | refine Wc.region ?_ | refine Wc.block ?_ | refine then_r ?_ | refine then_e ?_ | refine inb_e rfl ?_ | refine inb_o rfl ?_ | refine inb_n ?_ | refine inb_r ?_ | refine Wc.skip ?_ | refine Wc.exit ?_ | refine Wc.ret ?_ | refine Wc.cond_true rfl ?_ | refine Wc.cond_false rfl ?_)
    simp only [shr7]
    obtain ⟨h1, h2, h3⟩ := put_step hn hk hp hle hlt
    exact ⟨_, h3, k / 128, xs ++ [UInt8.ofNat (k % 128 + 128)], aa, ca, rfl, by simpa using h2, by (repeat' (first | exact Agree.refl _ _ | exact Agree.havoc | refine Agree.upd rfl ?_ | refine Agree.hav2 rfl ?_)), rfl, rfl, h1.1, h1.2, _, H.tl⟩
  · repeat' (first | ((first | refine WL.p rfl ?_ | refine WL.u ?_); first | (refine opk 1 rfl ?_; (refine ost_app1 (xs := xs) (y := UInt8.ofNat k) H rfl rfl rfl (by (exact ixQ)) (by (exact ixQ)) (by simp; omega) (by (try simp only [List.length_nil, List.length_append, List.length_cons, List.length_singleton]); omega) ?_; clear H; intro aa ca wk H; simp only [List.set_cons_zero, List.set_cons_succ, List.nil_append] at H)) | refine pvQ ?_ | (refine opk 3 rfl ?_; (refine ost_cmp rfl rfl rfl rfl (fun hc => ?_) (fun hc => ?_) <;> (simp only [cmpP] at hc; try exact prIQ))) | (refine opk 4 rfl ?_; (refine ost_cmp rfl rfl rfl rfl (fun hc => ?_) (fun hc => ?_) <;> (simp only [cmpP] at hc; try exact prIQ))) | (refine opk 9 rfl ?_; (refine ost_build1 H rfl rfl rfl evQ lsQ rfl ?_; clear H; intro bk wk H))) | refine Wc.seq ?_ | refine then_n ?_ | refine WL.nil ?_ | refine Wc.region ?_ | refine Wc.block ?_ | refine then_r ?_ | refine then_e ?_ | refine inb_e rfl ?_ | refine inb_o rfl ?_ | refine inb_n ?_ | refine inb_r ?_ | refine Wc.skip ?_ | refine Wc.exit ?_ | refine Wc.ret ?_ | refine Wc.cond_true rfl ?_ | refine Wc.cond_false rfl ?_)
    have e : putB n = xs ++ [UInt8.ofNat k] := by rw [hp, putL_last (by omega)]
    rw [e]
    exact fn_ret1 (v := .slice _ _ _) rfl rfl ⟨_, _, H.pick 1 rfl, _, _, rfl, rfl, rfl⟩
end Go.Tg

set_option linter.unusedVariables false
set_option linter.unusedSimpArgs false
set_option maxRecDepth 100000
set_option maxHeartbeats 4000000
namespace Go.Tg
open Go Go.Proofs
theorem grow8 (h0 : FH) (n : Nat) (w : World) (hs : Sat h0 w) (hb : n ≤ 1000000000) :
    Spec Tryd.prog 78 #[.slice none 0 0, .int .i64 n] w [] h0 (fun v h' L' => ∃ a' c', v = .slice a' 0 c' ∧ h' = h0 ∧ L' = [own8 v 5 []]) := by
  have H := St.start hs
  unfold Spec
  refine calls_of Tryd.func78 rfl Tryd.ntmps78 (by simp) ?_
  by_cases hn : 0 < n
  · repeat' (first | ((first | refine WL.p rfl ?_ | refine WL.u ?_); first | (refine opk 1 rfl ?_; (refine ost_zeros8 (n := n) H rfl rfl rfl (by omega) hn (by omega) ?_; clear H; intro aa ca wk hca H)) | refine pvQ ?_ | (refine opk 3 rfl ?_; (refine ost_cmp rfl rfl rfl rfl (fun hc => ?_) (fun hc => ?_) <;> (simp only [cmpP] at hc; try exact prIQ))) | (refine opk 4 rfl ?_; (refine ost_cmp rfl rfl rfl rfl (fun hc => ?_) (fun hc => ?_) <;> (simp only [cmpP] at hc; try exact prIQ)))) | refine Wc.seq ?_ | refine then_n ?_ | refine WL.nil ?_ | refine Wc.region ?_ | refine Wc.block ?_ | refine then_r ?_ | refine then_e ?_ | refine inb_e rfl ?_ | refine inb_o rfl ?_ | refine inb_n ?_ | refine inb_r ?_ | refine Wc.skip ?_ | refine Wc.exit ?_ | refine Wc.ret ?_ | refine Wc.cond_true rfl ?_ | refine Wc.cond_false rfl ?_)

    exact fn_ret1 (v := .slice _ _ _) rfl rfl ⟨_, _, H.own8take (xs := List.replicate n 0) (i := 0) 0 rfl (by simp), _, _, rfl, rfl, rfl⟩
  · repeat' (first | ((first | refine WL.p rfl ?_ | refine WL.u ?_); first | refine pvQ ?_ | (refine opk 3 rfl ?_; (refine ost_cmp rfl rfl rfl rfl (fun hc => ?_) (fun hc => ?_) <;> (simp only [cmpP] at hc; try exact prIQ))) | (refine opk 4 rfl ?_; (refine ost_cmp rfl rfl rfl rfl (fun hc => ?_) (fun hc => ?_) <;> (simp only [cmpP] at hc; try exact prIQ)))) | refine Wc.seq ?_ | refine then_n ?_ | refine WL.nil ?_ | refine Wc.region ?_ | refine Wc.block ?_ | refine then_r ?_ | refine then_e ?_ | refine inb_e rfl ?_ | refine inb_o rfl ?_ | refine inb_n ?_ | refine inb_r ?_ | refine Wc.skip ?_ | refine Wc.exit ?_ | refine Wc.ret ?_ | refine Wc.cond_true rfl ?_ | refine Wc.cond_false rfl ?_)

    exact fn_ret1 (v := .slice _ _ _) rfl rfl ⟨_, _, H.nil8 5, _, _, rfl, rfl, rfl⟩
structure BL (h : FH) (a : Option Addr) (vs : List Value) (pcs : List (List UInt8)) : Prop where
  rd : RdC h a vs
  len : vs.length = pcs.length
  at_ : ∀ (i : Nat) (hi : i < vs.length) (hj : i < pcs.length), BSv h vs[i] pcs[i]
theorem BL.mono {h h' : FH} {a : Option Addr} {vs : List Value} {pcs : List (List UInt8)} (hle : FLe h h') (r : BL h a vs pcs) : BL h' a vs pcs := ⟨r.rd.mono hle, r.len, fun i h1 h2 => (r.at_ i h1 h2).mono hle⟩
theorem BL.full {ws w : World} {S : List Nat} {h0 h : FH} {L : List HA} {a : Option Addr} {vs : List Value} {pcs : List (List UInt8)} (r : BL h a vs pcs) (H : St ws S h0 h L w) : BL (full w) a vs pcs := r.mono H.sat.le
def flat (k : Nat) (pcs : List (List UInt8)) : List UInt8 := (pcs.take k).flatten
theorem flat_succ {k : Nat} {pcs : List (List UInt8)} (h : k < pcs.length) : flat (k + 1) pcs = flat k pcs ++ pcs[k] := by
  unfold flat; rw [List.take_add_one, List.flatten_append, List.getElem?_eq_getElem h]; simp only [Option.toList, List.flatten_cons, List.flatten_nil, List.append_nil]
theorem flat_len {k : Nat} {pcs : List (List UInt8)} : (flat k pcs).length ≤ pcs.flatten.length := by
  have : pcs.flatten = flat k pcs ++ (pcs.drop k).flatten := by rw [flat, ← List.flatten_append, List.take_append_drop]
  rw [this]; simp
theorem flat_all (pcs : List (List UInt8)) : flat pcs.length pcs = pcs.flatten := by simp [flat]
theorem concat8 (h0 : FH) (a : Option Addr) (c : Nat) (vs : List Value) (pcs : List (List UInt8)) (w : World) (hs : Sat h0 w) (hr : BL h0 a vs pcs) (hn : pcs.length ≤ 1000) (hb : pcs.flatten.length ≤ 1000000) :
    Spec Tryd.prog 69 #[.slice a pcs.length c] w [] h0 (fun v h' L' => ∃ a' c', v = .slice a' pcs.flatten.length c' ∧ h' = h0 ∧ L' = [own8 v 5 pcs.flatten]) := by
  have H := St.start hs
  unfold Spec
  refine calls_of Tryd.func69 rfl Tryd.ntmps69 (by simp) ?_
  repeat' (first | ((first | refine WL.p rfl ?_ | refine WL.u ?_); first | refine pvQ ?_ | (refine opk 3 rfl ?_; (refine ost_cmp rfl rfl rfl rfl (fun hc => ?_) (fun hc => ?_) <;> (simp only [cmpP] at hc; try exact prIQ))) | (refine opk 4 rfl ?_; (refine ost_cmp rfl rfl rfl rfl (fun hc => ?_) (fun hc => ?_) <;> (simp only [cmpP] at hc; try exact prIQ)))) | refine Wc.seq ?_ | refine then_n ?_ | refine WL.nil ?_ | refine Wc.region ?_ | refine Wc.block ?_ | refine then_r ?_ | refine then_e ?_ | refine inb_e rfl ?_ | refine inb_o rfl ?_ | refine inb_n ?_ | refine inb_r ?_ | refine Wc.skip ?_ | refine Wc.exit ?_ | refine Wc.ret ?_ | refine Wc.cond_true rfl ?_ | refine Wc.cond_false rfl ?_)
  refine Wc.loopE (fun s0 m s w' => ∃ k : Nat, m = pcs.length - k ∧ k ≤ pcs.length ∧ Agree [3, 5, 11, 12, 13, 14, 15, 16, 17, 18, 19, 20, 21, 22] s s0 ∧ s 11 = .int .i64 k ∧ s 3 = .int .i64 ((flat k pcs).length : Int) ∧
    St w [] h0 h0 [] w') pcs.length ⟨0, rfl, by omega, Agree.refl _ _, rfl, rfl, H⟩ ?_
  clear H
  rintro m s w' ⟨k, rfl, hk, hA, e1, e2, H⟩
  obtain ⟨j, rfl⟩ := hA.env2 e1 e2
  clear hA e1 e2
  by_cases hlt : k < pcs.length
  · obtain ⟨b, off, l, T, fr, ea, eb, eg⟩ := hr.rd.get (i := k) (by rw [hr.len]; omega)
    obtain ⟨ai, ci, ev_, rv⟩ := hr.at_ k (by rw [hr.len]; omega) hlt
    have g1 : l[off + (k : Int).toNat * 1]? = some (.slice ai pcs[k].length ci) := by
      have := eg k (by rw [hr.len]; omega)
      rw [← ev_, show off + (k : Int).toNat * 1 = off + k by omega, this]
      simp [hr.len, hlt]
    have g2 := flat_len (k := k + 1) (pcs := pcs)
    rw [flat_succ hlt, List.length_append] at g2
    subst ea
    repeat' (first | ((first | refine WL.p rfl ?_ | refine WL.u ?_); first | refine pvQ ?_ | (refine opk 3 rfl ?_; (refine ost_cmp rfl rfl rfl rfl (fun hc => ?_) (fun hc => ?_) <;> (simp only [cmpP] at hc; try exact prIQ))) | (refine opk 4 rfl ?_; (refine ost_cmp rfl rfl rfl rfl (fun hc => ?_) (fun hc => ?_) <;> (simp only [cmpP] at hc; try exact prIQ)))) | refine Wc.seq ?_ | refine then_n ?_ | refine WL.nil ?_ | refine Wc.region ?_ | refine Wc.block ?_ | refine then_r ?_ | refine then_e ?_ | refine inb_e rfl ?_ | refine inb_o rfl ?_ | refine inb_n ?_ | refine inb_r ?_ | refine Wc.skip ?_ | refine Wc.exit ?_ | refine Wc.ret ?_ | refine Wc.cond_true rfl ?_ | refine Wc.cond_false rfl ?_)
    have e3 : ((flat k pcs).length : Int) + (pcs[k].length : Int) = ((flat (k + 1) pcs).length : Int) := by rw [flat_succ hlt, List.length_append]; omega
    exact ⟨pcs.length - (k + 1), by omega, k + 1, rfl, by omega, by (repeat' (first | exact Agree.refl _ _ | exact Agree.havoc | refine Agree.upd rfl ?_ | refine Agree.hav2 rfl ?_)), rfl, by rw [← e3]; rfl, H⟩
  · obtain rfl : k = pcs.length := by omega
    have g2 := flat_len (k := pcs.length) (pcs := pcs)
    repeat' (first | ((first | refine WL.p rfl ?_ | refine WL.u ?_); first | (refine opk 1 rfl ?_; (refine ost_C H rfl (grow8 _ _ _ (sat_full _) (by omega)) rfl ?_; clear H; rintro vk wk hfk Lk ⟨a1, c1, rfl, _, rfl⟩ H; simp only [List.cons_append, List.nil_append] at H)) | refine pvQ ?_ | (refine opk 3 rfl ?_; (refine ost_cmp rfl rfl rfl rfl (fun hc => ?_) (fun hc => ?_) <;> (simp only [cmpP] at hc; try exact prIQ))) | (refine opk 4 rfl ?_; (refine ost_cmp rfl rfl rfl rfl (fun hc => ?_) (fun hc => ?_) <;> (simp only [cmpP] at hc; try exact prIQ)))) | refine Wc.seq ?_ | refine then_n ?_ | refine WL.nil ?_ | refine Wc.region ?_ | refine Wc.block ?_ | refine then_r ?_ | refine then_e ?_ | refine inb_e rfl ?_ | refine inb_o rfl ?_ | refine inb_n ?_ | refine inb_r ?_ | refine Wc.skip ?_ | refine Wc.exit ?_ | refine Wc.ret ?_ | refine Wc.cond_true rfl ?_ | refine Wc.cond_false rfl ?_)
    refine Wc.loopE (fun s0 m s w' => ∃ (k : Nat) (a' : Option Addr) (c' : Nat), m = pcs.length - k ∧ k ≤ pcs.length ∧ Agree [6, 8, 27, 28, 29, 30, 31, 32, 33, 34] s s0 ∧ s 27 = .int .i64 k ∧ s 6 = .slice a' (flat k pcs).length c' ∧
      St w [] h0 h0 [own8 (.slice a' (flat k pcs).length c') 5 (flat k pcs)] w') pcs.length ⟨0, a1, c1, rfl, by omega, Agree.refl _ _, rfl, rfl, H⟩ ?_
    clear H
    rintro m s w' ⟨k, a', c', rfl, hk, hA, e1, e2, H⟩
    obtain ⟨j, rfl⟩ := hA.env2 e1 e2
    clear hA e1 e2
    by_cases hlt : k < pcs.length
    · obtain ⟨b, off, l, T, fr, ea, eb, eg⟩ := hr.rd.get (i := k) (by rw [hr.len]; omega)
      obtain ⟨ai, ci, ev_, rv⟩ := hr.at_ k (by rw [hr.len]; omega) hlt
      have g1 : l[off + (k : Int).toNat * 1]? = some (.slice ai pcs[k].length ci) := by
        have := eg k (by rw [hr.len]; omega)
        rw [← ev_, show off + (k : Int).toNat * 1 = off + k by omega, this]
        simp [hr.len, hlt]
      have g2 := flat_len (k := k + 1) (pcs := pcs)
      rw [flat_succ hlt, List.length_append] at g2
      subst ea
      repeat' (first | ((first | refine WL.p rfl ?_ | refine WL.u ?_); first | (refine opk 1 rfl ?_; (refine ost_app8 (xs := flat k pcs) H rfl rfl rfl (by (exact ixQ)) ((rv.full H)) (by (try simp only [List.length_nil, List.length_append, List.length_cons, List.length_singleton]); omega) ?_; clear H; intro aa ca wk H; simp only [List.set_cons_zero, List.set_cons_succ, List.nil_append] at H)) | refine pvQ ?_ | (refine opk 3 rfl ?_; (refine ost_cmp rfl rfl rfl rfl (fun hc => ?_) (fun hc => ?_) <;> (simp only [cmpP] at hc; try exact prIQ))) | (refine opk 4 rfl ?_; (refine ost_cmp rfl rfl rfl rfl (fun hc => ?_) (fun hc => ?_) <;> (simp only [cmpP] at hc; try exact prIQ)))) | refine Wc.seq ?_ | refine then_n ?_ | refine WL.nil ?_ | refine Wc.region ?_ | refine Wc.block ?_ | refine then_r ?_ | refine then_e ?_ | refine inb_e rfl ?_ | refine inb_o rfl ?_ | refine inb_n ?_ | refine inb_r ?_ | refine Wc.skip ?_ | refine Wc.exit ?_ | refine Wc.ret ?_ | refine Wc.cond_true rfl ?_ | refine Wc.cond_false rfl ?_)
      rw [← flat_succ hlt] at H
      exact ⟨pcs.length - (k + 1), by omega, k + 1, aa, ca, rfl, by omega, by (repeat' (first | exact Agree.refl _ _ | exact Agree.havoc | refine Agree.upd rfl ?_ | refine Agree.hav2 rfl ?_)), rfl, by rw [flat_succ hlt]; rfl, H⟩
    · obtain rfl : k = pcs.length := by omega
      repeat' (first | ((first | refine WL.p rfl ?_ | refine WL.u ?_); first | refine pvQ ?_ | (refine opk 3 rfl ?_; (refine ost_cmp rfl rfl rfl rfl (fun hc => ?_) (fun hc => ?_) <;> (simp only [cmpP] at hc; try exact prIQ))) | (refine opk 4 rfl ?_; (refine ost_cmp rfl rfl rfl rfl (fun hc => ?_) (fun hc => ?_) <;> (simp only [cmpP] at hc; try exact prIQ)))) | refine Wc.seq ?_ | refine then_n ?_ | refine WL.nil ?_ | refine Wc.region ?_ | refine Wc.block ?_ | refine then_r ?_ | refine then_e ?_ | refine inb_e rfl ?_ | refine inb_o rfl ?_ | refine inb_n ?_ | refine inb_r ?_ | refine Wc.skip ?_ | refine Wc.exit ?_ | refine Wc.ret ?_ | refine Wc.cond_true rfl ?_ | refine Wc.cond_false rfl ?_)
      rw [flat_all] at H
      exact fn_ret1 (v := .slice _ _ _) rfl (by rw [flat_all]; rfl) ⟨_, _, H, _, _, rfl, rfl, rfl⟩
end Go.Tg

set_option linter.unusedVariables false
set_option linter.unusedSimpArgs false
set_option maxRecDepth 100000
set_option maxHeartbeats 4000000
namespace Go.Tg
open Go Go.Proofs
abbrev wr (b : Nat) (made : Bool) (e : Int) (v : Value) (xs : List UInt8) : HA := .both (.blk b (.cells [.bool made, .int .i64 e, v].toArray 152 (0, 0))) (own8 v 5 xs)
abbrev pt (b : Nat) : Value := .pointer (some ⟨b, 0, none⟩)
theorem pack_New (h0 : FH) (w : World) (hs : Sat h0 w) :
    Spec Tryd.prog 32 #[] w [] h0 (fun v h' L' => ∃ b, v = pt b ∧ L' = [wr b true 0 (.slice none 0 0) []]) := by
  have H := St.start hs
  unfold Spec
  refine calls_of Tryd.func32 rfl Tryd.ntmps32 (by simp) ?_
  repeat' (first | ((first | refine WL.p rfl ?_ | refine WL.u ?_); first | refine pvQ ?_ | (refine opk 9 rfl ?_; (refine ost_boxq H rfl ?_; clear H; intro bk wk H))) | refine Wc.seq ?_ | refine then_n ?_ | refine WL.nil ?_ | refine Wc.region ?_ | refine Wc.block ?_ | refine then_r ?_ | refine then_e ?_ | refine inb_e rfl ?_ | refine inb_o rfl ?_ | refine inb_n ?_ | refine inb_r ?_ | refine Wc.skip ?_ | refine Wc.exit ?_ | refine Wc.ret ?_ | refine Wc.cond_true rfl ?_ | refine Wc.cond_false rfl ?_)
  exact fn_ret1 (v := .pointer _) rfl rfl ⟨_, _, ((H.nil8 5).pick2 1 0 rfl rfl (by decide)).join, _, rfl, rfl⟩
theorem stop_fail (b : Nat) (x e : Int) (v : Value) (made : Bool) (T : TypeId) (g : FH) (w : World) (H : St w [b] g g [.blk b (.cells [.bool made, .int .i64 e, v].toArray T (0, 0))] w) (hx : e = 0) :
    Spec Tryd.prog 67 #[pt b, .int .i64 x] w [b] g (fun v' h' L' => v' = .int .i64 x ∧ L' = [.blk b (.cells [.bool made, .int .i64 x, v].toArray T (0, 0))]) := by
  unfold Spec
  refine calls_of Tryd.func67 rfl Tryd.ntmps67 (by simp) ?_
  subst hx
  repeat' (first | ((first | refine WL.p rfl ?_ | refine WL.u ?_); first | refine pvQ ?_ | (refine opk 3 rfl ?_; (refine ost_cmp rfl rfl rfl rfl (fun hc => ?_) (fun hc => ?_) <;> (simp only [cmpP] at hc; try exact prIQ))) | (refine opk 4 rfl ?_; (refine ost_cmp rfl rfl rfl rfl (fun hc => ?_) (fun hc => ?_) <;> (simp only [cmpP] at hc; try exact prIQ))) | (refine opk 8 rfl ?_; (refine ost_store1 H rfl rfl vlQ gvQ ixQ (by first | decide | (simp; omega) | (simp; done) | omega) ?_; clear H; intro wk H; simp only [List.set_cons_zero, List.set_cons_succ, Nat.reduceAdd] at H))) | refine Wc.seq ?_ | refine then_n ?_ | refine WL.nil ?_ | refine Wc.region ?_ | refine Wc.block ?_ | refine then_r ?_ | refine then_e ?_ | refine inb_e rfl ?_ | refine inb_o rfl ?_ | refine inb_n ?_ | refine inb_r ?_ | refine Wc.skip ?_ | refine Wc.exit ?_ | refine Wc.ret ?_ | refine Wc.cond_true rfl ?_ | refine Wc.cond_false rfl ?_)
  exact fn_ret1 (v := .int _ _) rfl rfl ⟨_, _, H, rfl, rfl⟩
def layE (made : Bool) (e : Int) (xs p : List UInt8) : Int × Int × List UInt8 :=
  if made = false then (1, e, xs) else if e ≠ 0 then (e, e, xs) else if xs.length + p.length > 65536 then (3, 3, xs) else (0, 0, xs ++ p)
theorem pack_lay (b : Nat) (made : Bool) (e : Int) (v : Value) (xs : List UInt8) (g : FH) (w : World) (HO : St w (wr b made e v xs).fp g g [wr b made e v xs] w)
    (a : Option Addr) (c : Nat) (vs : List Value) (pcs : List (List UInt8)) (hr : BL g a vs pcs) (hn : pcs.length ≤ 1000) (hb : pcs.flatten.length ≤ 1000000) (hx : xs.length ≤ 65536) :
    Spec Tryd.prog 53 #[pt b, .slice a pcs.length c] w (wr b made e v xs).fp g (fun v' h' L' =>
      v' = .int .i64 (layE made e xs pcs.flatten).1 ∧ ∃ v2, L' = [wr b made (layE made e xs pcs.flatten).2.1 v2 (layE made e xs pcs.flatten).2.2]) := by
  have H := HO.split
  obtain ⟨av, cv, rfl, -⟩ := H.own8BS (i := 1) rfl
  have hx2 : xs.length ≤ 65536 := hx
  unfold Spec
  refine calls_of Tryd.func53 rfl Tryd.ntmps53 (by simp) ?_
  cases made
  · repeat' (first | ((first | refine WL.p rfl ?_ | refine WL.u ?_ | refine WL.g rfl rfl ?_ | refine WL.gu rfl ?_); first | refine pvQ ?_ | (refine opk 3 rfl ?_; first | (refine ost_cmp rfl rfl rfl rfl (fun hc => ?_) (fun hc => ?_) <;> (simp only [cmpP] at hc; try exact prIQ)) | (refine ost_ptEq rfl rfl rfl (fun hc => ?_) (fun hc => ?_) <;> try (simp at hc; done)) | (refine ost_ptNe rfl rfl rfl (fun hc => ?_) (fun hc => ?_) <;> try (simp at hc; done))) | (refine opk 4 rfl ?_; (refine ost_cmp rfl rfl rfl rfl (fun hc => ?_) (fun hc => ?_) <;> (simp only [cmpP] at hc; try exact prIQ))) | (refine opk 8 rfl ?_; (refine ost_store1 H rfl rfl vlQ gvQ ixQ (by first | decide | (simp; omega) | (simp; done) | omega) ?_; clear H; intro wk H; simp only [List.set_cons_zero, List.set_cons_succ, Nat.reduceAdd] at H))) | refine Wc.seq ?_ | refine then_n ?_ | refine WL.nil ?_ | refine Wc.region ?_ | refine Wc.block ?_ | refine then_r ?_ | refine then_e ?_ | refine inb_e rfl ?_ | refine inb_o rfl ?_ | refine inb_n ?_ | refine inb_r ?_ | refine Wc.skip ?_ | refine Wc.exit ?_ | refine Wc.ret ?_ | refine Wc.cond_true rfl ?_ | refine Wc.cond_false rfl ?_ | refine WL.skp rfl rfl ?_ | refine WL.sku rfl ?_)
    exact fn_ret1 (v := .int _ _) rfl rfl ⟨_, _, HO, rfl, _, rfl⟩
  · by_cases he : e = 0
    · subst he
      by_cases hl : xs.length + pcs.flatten.length > 65536
      · have e1 : layE true 0 xs pcs.flatten = (3, 3, xs) := by simp only [layE]; rw [if_neg (by decide), if_neg (by decide), if_pos hl]
        rw [e1]
        repeat' (first | ((first | refine WL.p rfl ?_ | refine WL.u ?_ | refine WL.g rfl rfl ?_ | refine WL.gu rfl ?_); first | (refine opk 1 rfl ?_; first | (refine ost_C H rfl (concat8 _ _ _ _ _ _ (sat_full _) (hr.full H) hn hb) rfl ?_; clear H; rintro vk wk hfk Lk ⟨a1, c1, rfl, _, rfl⟩ H; simp only [List.cons_append, List.nil_append] at H) | (refine ost_O (A := .blk _ _) H rfl (by (exact ixQ)) (fun HO => stop_fail _ _ _ _ _ _ _ _ HO rfl) rfl ?_; clear H; rintro vk wk hfk Lk ⟨rfl, rfl⟩ H; simp only [List.cons_append, List.nil_append, List.eraseIdx_cons_zero, List.eraseIdx_cons_succ] at H)) | refine pvQ ?_ | (refine opk 3 rfl ?_; first | (refine ost_cmp rfl rfl rfl rfl (fun hc => ?_) (fun hc => ?_) <;> (simp only [cmpP] at hc; try exact prIQ)) | (refine ost_ptEq rfl rfl rfl (fun hc => ?_) (fun hc => ?_) <;> try (simp at hc; done)) | (refine ost_ptNe rfl rfl rfl (fun hc => ?_) (fun hc => ?_) <;> try (simp at hc; done))) | (refine opk 4 rfl ?_; (refine ost_cmp rfl rfl rfl rfl (fun hc => ?_) (fun hc => ?_) <;> (simp only [cmpP] at hc; try exact prIQ))) | (refine opk 8 rfl ?_; (refine ost_store1 H rfl rfl vlQ gvQ ixQ (by first | decide | (simp; omega) | (simp; done) | omega) ?_; clear H; intro wk H; simp only [List.set_cons_zero, List.set_cons_succ, Nat.reduceAdd] at H))) | refine Wc.seq ?_ | refine then_n ?_ | refine WL.nil ?_ | refine Wc.region ?_ | refine Wc.block ?_ | refine then_r ?_ | refine then_e ?_ | refine inb_e rfl ?_ | refine inb_o rfl ?_ | refine inb_n ?_ | refine inb_r ?_ | refine Wc.skip ?_ | refine Wc.exit ?_ | refine Wc.ret ?_ | refine Wc.cond_true rfl ?_ | refine Wc.cond_false rfl ?_ | refine WL.skp rfl rfl ?_ | refine WL.sku rfl ?_)
        exact fn_ret1 (v := .int _ _) rfl rfl ⟨_, _, (H.pick2 0 2 rfl rfl (by decide)).join, rfl, _, rfl⟩
      · have e1 : layE true 0 xs pcs.flatten = (0, 0, xs ++ pcs.flatten) := by simp only [layE]; rw [if_neg (by decide), if_neg (by decide), if_neg hl]
        rw [e1]
        repeat' (first | ((first | refine WL.p rfl ?_ | refine WL.u ?_ | refine WL.g rfl rfl ?_ | refine WL.gu rfl ?_); first | (refine opk 1 rfl ?_; first | (refine ost_C H rfl (concat8 _ _ _ _ _ _ (sat_full _) (hr.full H) hn hb) rfl ?_; clear H; rintro vk wk hfk Lk ⟨a1, c1, rfl, _, rfl⟩ H; simp only [List.cons_append, List.nil_append] at H) | (refine ost_app8 (xs := xs) H rfl rfl rfl (by (exact ixQ)) (H.own8rd (i := 0) rfl) (by (try simp only [List.length_nil, List.length_append, List.length_cons, List.length_singleton]); omega) ?_; clear H; intro aa ca wk H; simp only [List.set_cons_zero, List.set_cons_succ, List.nil_append] at H)) | refine pvQ ?_ | (refine opk 3 rfl ?_; first | (refine ost_cmp rfl rfl rfl rfl (fun hc => ?_) (fun hc => ?_) <;> (simp only [cmpP] at hc; try exact prIQ)) | (refine ost_ptEq rfl rfl rfl (fun hc => ?_) (fun hc => ?_) <;> try (simp at hc; done)) | (refine ost_ptNe rfl rfl rfl (fun hc => ?_) (fun hc => ?_) <;> try (simp at hc; done))) | (refine opk 4 rfl ?_; (refine ost_cmp rfl rfl rfl rfl (fun hc => ?_) (fun hc => ?_) <;> (simp only [cmpP] at hc; try exact prIQ))) | (refine opk 8 rfl ?_; (refine ost_store1 H rfl rfl vlQ gvQ ixQ (by first | decide | (simp; omega) | (simp; done) | omega) ?_; clear H; intro wk H; simp only [List.set_cons_zero, List.set_cons_succ, Nat.reduceAdd] at H))) | refine Wc.seq ?_ | refine then_n ?_ | refine WL.nil ?_ | refine Wc.region ?_ | refine Wc.block ?_ | refine then_r ?_ | refine then_e ?_ | refine inb_e rfl ?_ | refine inb_o rfl ?_ | refine inb_n ?_ | refine inb_r ?_ | refine Wc.skip ?_ | refine Wc.exit ?_ | refine Wc.ret ?_ | refine Wc.cond_true rfl ?_ | refine Wc.cond_false rfl ?_ | refine WL.skp rfl rfl ?_ | refine WL.sku rfl ?_)
        exact fn_ret1 (v := .int _ _) rfl rfl ⟨_, _, (H.pick2 1 2 rfl rfl (by decide)).join, rfl, _, rfl⟩
    · have e1 : layE true e xs pcs.flatten = (e, e, xs) := by simp only [layE]; rw [if_neg (by decide), if_pos he]
      rw [e1]
      repeat' (first | ((first | refine WL.p rfl ?_ | refine WL.u ?_ | refine WL.g rfl rfl ?_ | refine WL.gu rfl ?_); first | (refine opk 1 rfl ?_; (refine ost_C H rfl (concat8 _ _ _ _ _ _ (sat_full _) (hr.full H) hn hb) rfl ?_; clear H; rintro vk wk hfk Lk ⟨a1, c1, rfl, _, rfl⟩ H; simp only [List.cons_append, List.nil_append] at H)) | refine pvQ ?_ | (refine opk 3 rfl ?_; first | (refine ost_cmp rfl rfl rfl rfl (fun hc => ?_) (fun hc => ?_) <;> (simp only [cmpP] at hc; try exact prIQ)) | (refine ost_ptEq rfl rfl rfl (fun hc => ?_) (fun hc => ?_) <;> try (simp at hc; done)) | (refine ost_ptNe rfl rfl rfl (fun hc => ?_) (fun hc => ?_) <;> try (simp at hc; done))) | (refine opk 4 rfl ?_; (refine ost_cmp rfl rfl rfl rfl (fun hc => ?_) (fun hc => ?_) <;> (simp only [cmpP] at hc; try exact prIQ))) | (refine opk 8 rfl ?_; (refine ost_store1 H rfl rfl vlQ gvQ ixQ (by first | decide | (simp; omega) | (simp; done) | omega) ?_; clear H; intro wk H; simp only [List.set_cons_zero, List.set_cons_succ, Nat.reduceAdd] at H))) | refine Wc.seq ?_ | refine then_n ?_ | refine WL.nil ?_ | refine Wc.region ?_ | refine Wc.block ?_ | refine then_r ?_ | refine then_e ?_ | refine inb_e rfl ?_ | refine inb_o rfl ?_ | refine inb_n ?_ | refine inb_r ?_ | refine Wc.skip ?_ | refine Wc.exit ?_ | refine Wc.ret ?_ | refine Wc.cond_true rfl ?_ | refine Wc.cond_false rfl ?_ | refine WL.skp rfl rfl ?_ | refine WL.sku rfl ?_)
      exact fn_ret1 (v := .int _ _) rfl rfl ⟨_, _, (H.pick2 1 2 rfl rfl (by decide)).join, rfl, _, rfl⟩
theorem BL.two {w : World} {S : List Nat} {ws : World} {h0 h : FH} {L : List HA} (H : St ws S h0 h L w) {i j k b : Nat} {A : HA} {T T8 : TypeId} {v : Value} {xs : List UInt8} (hi : L[i]? = some A)
    (hj : L[j]? = some (.own (.slice (some ⟨b, 0, none⟩) 1 1) T 1 1 [v])) (hk : L[k]? = some (own8 v T8 xs)) (hij : i ≠ j) (hik : i ≠ k) : BL (less w A.fp) (some ⟨b, 0, none⟩) [v] [xs] := by
  obtain ⟨a, c, e, -, -, h, -⟩ := H.lessOwn hi hj hij
  injection e with e1 e2 e3
  subst e1
  exact ⟨h, rfl, fun n hn _ => by
    have : n = 0 := by simp at hn; omega
    subst this; exact H.lessBS hi hk hik⟩
theorem putL_len : ∀ (k n : Nat), (putL k n).length ≤ k + 1
  | 0, n => by simp [putL]
  | k + 1, n => by
    unfold putL; split
    · simp
    · have := putL_len k (n / 128); simp; omega
theorem putB_len (n : Nat) : (putB n).length ≤ 11 := putL_len 10 n
theorem pack_Num (b : Nat) (made : Bool) (e : Int) (v : Value) (xs : List UInt8) (g : FH) (w : World) (HO : St w (wr b made e v xs).fp g g [wr b made e v xs] w) (n : Nat) (hn : n < 18446744073709551616) (hx : xs.length ≤ 65536) :
    Spec Tryd.prog 33 #[pt b, .int .u64 n] w (wr b made e v xs).fp g (fun v' h' L' =>
      v' = .int .i64 (layE made e xs (putB n)).1 ∧ ∃ v2, L' = [wr b made (layE made e xs (putB n)).2.1 v2 (layE made e xs (putB n)).2.2]) := by
  have H := HO
  have hp := putB_len n
  unfold Spec
  refine calls_of Tryd.func33 rfl Tryd.ntmps33 (by simp) ?_
  repeat' (first | ((first | refine WL.p rfl ?_ | refine WL.u ?_); first | (refine opk 1 rfl ?_; first | (refine ost_C H rfl (vint_Put n hn _ _ (sat_full _)) rfl ?_; clear H; rintro vk wk hfk Lk ⟨a1, c1, rfl, _, rfl⟩ H; simp only [List.cons_append, List.nil_append] at H) | (refine ost_O (A := .both _ _) H rfl (by (exact ixQ)) (fun HO => pack_lay _ _ _ _ _ _ _ HO _ _ _ [putB n] (BL.two H idx2 idx0 idx1 (by decide) (by decide)) (by simp) (by simp; omega) hx) rfl ?_; clear H; rintro vk wk hfk Lk ⟨rfl, v2, rfl⟩ H; simp only [List.cons_append, List.nil_append, List.eraseIdx_cons_zero, List.eraseIdx_cons_succ] at H)) | refine pvQ ?_ | (refine opk 9 rfl ?_; (refine ost_build1 H rfl rfl rfl evQ lsQ rfl ?_; clear H; intro bk wk H))) | refine Wc.seq ?_ | refine then_n ?_ | refine WL.nil ?_ | refine Wc.region ?_ | refine Wc.block ?_ | refine then_r ?_ | refine then_e ?_ | refine inb_e rfl ?_ | refine inb_o rfl ?_ | refine inb_n ?_ | refine inb_r ?_ | refine Wc.skip ?_ | refine Wc.exit ?_ | refine Wc.ret ?_ | refine Wc.cond_true rfl ?_ | refine Wc.cond_false rfl ?_)
  have ef : [putB n].flatten = putB n := by simp
  exact fn_ret1 (v := .int _ _) rfl rfl ⟨_, _, H.pick 0 rfl, by rw [ef], _, by rw [ef]⟩
theorem layE_ok {xs p : List UInt8} (h : xs.length + p.length ≤ 65536) : layE true 0 xs p = (0, 0, xs ++ p) := by
  simp only [layE]; rw [if_neg (by decide), if_neg (by decide), if_neg (by omega)]
end Go.Tg

