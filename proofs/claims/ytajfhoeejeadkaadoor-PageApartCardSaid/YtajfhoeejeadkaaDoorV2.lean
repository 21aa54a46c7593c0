/- Contracts of Go functions that the laws reach: what each call answers and leaves in memory, for all arguments within the bounds that each theorem names. -/
import Derived.Test.YtajfhoeejeadkaaDoorInst
import Derived.Test.YtajfhoeejeadkaaDoorAuto
import Derived.Test.YtajfhoeejeadkaaDoorV1
import Derived.Test.YtajfhoeejeadkaaDoorSl
set_option linter.unusedVariables false
set_option linter.unusedSimpArgs false
set_option maxRecDepth 100000
set_option maxHeartbeats 4000000
namespace Go.Tg
open Go Go.Proofs
theorem grow8 (h0 : FH) (n : Nat) (w : World) (hs : Sat h0 w) (hb : n ≤ 1000000000) :
    Spec Tryd.prog 150 #[.slice none 0 0, .int .i64 n] w [] h0 (fun v h' L' => ∃ a' c', v = .slice a' 0 c' ∧ h' = h0 ∧ L' = [own8 v 5 []]) := by
  have H := St.start hs
  unfold Spec
  refine calls_of Tryd.func150 rfl Tryd.ntmps150 (by simp) ?_
  by_cases hn : 0 < n
  · repeat' (first | ((first | refine WL.p rfl ?_ | refine WL.u ?_); first | (refine opk 1 rfl ?_; (refine ost_zeros8 (n := n) H rfl rfl rfl (by omega) hn (by omega) ?_; clear H; intro aa ca wk hca H)) | refine pvQ ?_ | (refine opk 3 rfl ?_; (refine ost_cmp rfl rfl rfl rfl (fun hc => ?_) (fun hc => ?_) <;> (simp only [cmpP] at hc; try exact prIQ))) | (refine opk 4 rfl ?_; (refine ost_cmp rfl rfl rfl rfl (fun hc => ?_) (fun hc => ?_) <;> (simp only [cmpP] at hc; try exact prIQ)))) | refine Wc.seq ?_ | refine then_n ?_ | refine WL.nil ?_ | refine Wc.region ?_ | refine Wc.block ?_ | refine then_r ?_ | refine then_e ?_ | refine inb_e rfl ?_ | refine inb_o rfl ?_ | refine inb_n ?_ | refine inb_r ?_ | refine Wc.skip ?_ | refine Wc.exit ?_ | refine Wc.ret ?_ | refine Wc.cond_true rfl ?_ | refine Wc.cond_false rfl ?_)

    exact fn_ret1 (v := .slice _ _ _) rfl rfl ⟨_, _, H.own8take (xs := List.replicate n 0) (i := 0) 0 rfl (by simp), _, _, rfl, rfl, rfl⟩
  · repeat' (first | ((first | refine WL.p rfl ?_ | refine WL.u ?_); first | refine pvQ ?_ | (refine opk 3 rfl ?_; (refine ost_cmp rfl rfl rfl rfl (fun hc => ?_) (fun hc => ?_) <;> (simp only [cmpP] at hc; try exact prIQ))) | (refine opk 4 rfl ?_; (refine ost_cmp rfl rfl rfl rfl (fun hc => ?_) (fun hc => ?_) <;> (simp only [cmpP] at hc; try exact prIQ)))) | refine Wc.seq ?_ | refine then_n ?_ | refine WL.nil ?_ | refine Wc.region ?_ | refine Wc.block ?_ | refine then_r ?_ | refine then_e ?_ | refine inb_e rfl ?_ | refine inb_o rfl ?_ | refine inb_n ?_ | refine inb_r ?_ | refine Wc.skip ?_ | refine Wc.exit ?_ | refine Wc.ret ?_ | refine Wc.cond_true rfl ?_ | refine Wc.cond_false rfl ?_)

    exact fn_ret1 (v := .slice _ _ _) rfl rfl ⟨_, _, H.nil8 5, _, _, rfl, rfl, rfl⟩
structure BL (h : FH) (a : Option Addr) (vs : List Value) (pcs : List (List UInt8)) : Prop where
  rd : RdC h a vs
  len : vs.length = pcs.length
  at_ : ∀ (i : Nat) (hi : i < vs.length) (hj : i < pcs.length), BSv h vs[i] pcs[i]
theorem BL.mono {h h' : FH} {a : Option Addr} {vs : List Value} {pcs : List (List UInt8)} (hle : FLe h h') (r : BL h a vs pcs) : BL h' a vs pcs := ⟨r.rd.mono hle, r.len, fun i h1 h2 => (r.at_ i h1 h2).mono hle⟩
theorem BL.full {ws w : World} {S : List Nat} {h0 h : FH} {L : List HA} {a : Option Addr} {vs : List Value} {pcs : List (List UInt8)} (r : BL h a vs pcs) (H : St ws S h0 h L w) : BL (full w) a vs pcs := r.mono H.sat.le
def flat (k : Nat) (pcs : List (List UInt8)) : List UInt8 := (pcs.take k).flatten
theorem flat_succ {k : Nat} {pcs : List (List UInt8)} (h : k < pcs.length) : flat (k + 1) pcs = flat k pcs ++ pcs[k] := by
  unfold flat; rw [List.take_add_one, List.flatten_append, List.getElem?_eq_getElem h]; simp only [Option.toList, List.flatten_cons, List.flatten_nil, List.append_nil]
theorem flat_len {k : Nat} {pcs : List (List UInt8)} : (flat k pcs).length ≤ pcs.flatten.length := by
  have : pcs.flatten = flat k pcs ++ (pcs.drop k).flatten := by rw [flat, ← List.flatten_append, List.take_append_drop]
  rw [this]; simp
theorem flat_all (pcs : List (List UInt8)) : flat pcs.length pcs = pcs.flatten := by simp [flat]
theorem concat8 (h0 : FH) (a : Option Addr) (c : Nat) (vs : List Value) (pcs : List (List UInt8)) (w : World) (hs : Sat h0 w) (hr : BL h0 a vs pcs) (hn : pcs.length ≤ 1000) (hb : pcs.flatten.length ≤ 1000000) :
    Spec Tryd.prog 140 #[.slice a pcs.length c] w [] h0 (fun v h' L' => ∃ a' c', v = .slice a' pcs.flatten.length c' ∧ h' = h0 ∧ L' = [own8 v 5 pcs.flatten]) := by
  have H := St.start hs
  unfold Spec
  refine calls_of Tryd.func140 rfl Tryd.ntmps140 (by simp) ?_
  repeat' (first | ((first | refine WL.p rfl ?_ | refine WL.u ?_); first | refine pvQ ?_ | (refine opk 3 rfl ?_; (refine ost_cmp rfl rfl rfl rfl (fun hc => ?_) (fun hc => ?_) <;> (simp only [cmpP] at hc; try exact prIQ))) | (refine opk 4 rfl ?_; (refine ost_cmp rfl rfl rfl rfl (fun hc => ?_) (fun hc => ?_) <;> (simp only [cmpP] at hc; try exact prIQ)))) | refine Wc.seq ?_ | refine then_n ?_ | refine WL.nil ?_ | refine Wc.region ?_ | refine Wc.block ?_ | refine then_r ?_ | refine then_e ?_ | refine inb_e rfl ?_ | refine inb_o rfl ?_ | refine inb_n ?_ | refine inb_r ?_ | refine Wc.skip ?_ | refine Wc.exit ?_ | refine Wc.ret ?_ | refine Wc.cond_true rfl ?_ | refine Wc.cond_false rfl ?_)
  refine Wc.loopE (fun s0 m s w' => ∃ k : Nat, m = pcs.length - k ∧ k ≤ pcs.length ∧ Agree [3, 5, 11, 12, 13, 14, 15, 16, 17, 18, 19, 20, 21, 22] s s0 ∧ s 11 = .int .i64 k ∧ s 3 = .int .i64 ((flat k pcs).length : Int) ∧
    St w [] h0 h0 [] w') pcs.length ⟨0, rfl, by omega, Agree.refl _ _, rfl, rfl, H⟩ ?_
  clear H
  rintro m s w' ⟨k, rfl, hk, hA, e1, e2, H⟩
  obtain ⟨j, rfl⟩ := hA.env2 e1 e2
  clear hA e1 e2
  by_cases hlt : k < pcs.length
  · obtain ⟨b, off, l, T, fr, ea, eb, eg⟩ := hr.rd.get (i := k) (by rw [hr.len]; omega)
    obtain ⟨ai, ci, ev_, rv⟩ := hr.at_ k (by rw [hr.len]; omega) hlt
    have g1 : l[off + (k : Int).toNat * 1]? = some (.slice ai pcs[k].length ci) := by
      have := eg k (by rw [hr.len]; omega)
      rw [← ev_, show off + (k : Int).toNat * 1 = off + k by omega, this]
      simp [hr.len, hlt]
    have g2 := flat_len (k := k + 1) (pcs := pcs)
    rw [flat_succ hlt, List.length_append] at g2
    subst ea
    repeat' (first | ((first | refine WL.p rfl ?_ | refine WL.u ?_); first | refine pvQ ?_ | (refine opk 3 rfl ?_; (refine ost_cmp rfl rfl rfl rfl (fun hc => ?_) (fun hc => ?_) <;> (simp only [cmpP] at hc; try exact prIQ))) | (refine opk 4 rfl ?_; (refine ost_cmp rfl rfl rfl rfl (fun hc => ?_) (fun hc => ?_) <;> (simp only [cmpP] at hc; try exact prIQ)))) | refine Wc.seq ?_ | refine then_n ?_ | refine WL.nil ?_ | refine Wc.region ?_ | refine Wc.block ?_ | refine then_r ?_ | refine then_e ?_ | refine inb_e rfl ?_ | refine inb_o rfl ?_ | refine inb_n ?_ | refine inb_r ?_ | refine Wc.skip ?_ | refine Wc.exit ?_ | refine Wc.ret ?_ | refine Wc.cond_true rfl ?_ | refine Wc.cond_false rfl ?_)
    have e3 : ((flat k pcs).length : Int) + (pcs[k].length : Int) = ((flat (k + 1) pcs).length : Int) := by rw [flat_succ hlt, List.length_append]; omega
    exact ⟨pcs.length - (k + 1), by omega, k + 1, rfl, by omega, by (repeat' (first | exact Agree.refl _ _ | exact Agree.havoc | refine Agree.upd rfl ?_ | refine Agree.hav2 rfl ?_)), rfl, by rw [← e3]; rfl, H⟩
  · obtain rfl : k = pcs.length := by omega
    have g2 := flat_len (k := pcs.length) (pcs := pcs)
    repeat' (first | ((first | refine WL.p rfl ?_ | refine WL.u ?_); first | (refine opk 1 rfl ?_; (refine ost_C H rfl (grow8 _ _ _ (sat_full _) (by omega)) rfl ?_; clear H; rintro vk wk hfk Lk ⟨a1, c1, rfl, _, rfl⟩ H; simp only [List.cons_append, List.nil_append] at H)) | refine pvQ ?_ | (refine opk 3 rfl ?_; (refine ost_cmp rfl rfl rfl rfl (fun hc => ?_) (fun hc => ?_) <;> (simp only [cmpP] at hc; try exact prIQ))) | (refine opk 4 rfl ?_; (refine ost_cmp rfl rfl rfl rfl (fun hc => ?_) (fun hc => ?_) <;> (simp only [cmpP] at hc; try exact prIQ)))) | refine Wc.seq ?_ | refine then_n ?_ | refine WL.nil ?_ | refine Wc.region ?_ | refine Wc.block ?_ | refine then_r ?_ | refine then_e ?_ | refine inb_e rfl ?_ | refine inb_o rfl ?_ | refine inb_n ?_ | refine inb_r ?_ | refine Wc.skip ?_ | refine Wc.exit ?_ | refine Wc.ret ?_ | refine Wc.cond_true rfl ?_ | refine Wc.cond_false rfl ?_)
    refine Wc.loopE (fun s0 m s w' => ∃ (k : Nat) (a' : Option Addr) (c' : Nat), m = pcs.length - k ∧ k ≤ pcs.length ∧ Agree [6, 8, 27, 28, 29, 30, 31, 32, 33, 34] s s0 ∧ s 27 = .int .i64 k ∧ s 6 = .slice a' (flat k pcs).length c' ∧
      St w [] h0 h0 [own8 (.slice a' (flat k pcs).length c') 5 (flat k pcs)] w') pcs.length ⟨0, a1, c1, rfl, by omega, Agree.refl _ _, rfl, rfl, H⟩ ?_
    clear H
    rintro m s w' ⟨k, a', c', rfl, hk, hA, e1, e2, H⟩
    obtain ⟨j, rfl⟩ := hA.env2 e1 e2
    clear hA e1 e2
    by_cases hlt : k < pcs.length
    · obtain ⟨b, off, l, T, fr, ea, eb, eg⟩ := hr.rd.get (i := k) (by rw [hr.len]; omega)
      obtain ⟨ai, ci, ev_, rv⟩ := hr.at_ k (by rw [hr.len]; omega) hlt
      have g1 : l[off + (k : Int).toNat * 1]? = some (.slice ai pcs[k].length ci) := by
        have := eg k (by rw [hr.len]; omega)
        rw [← ev_, show off + (k : Int).toNat * 1 = off + k by omega, this]
        simp [hr.len, hlt]
      have g2 := flat_len (k := k + 1) (pcs := pcs)
      rw [flat_succ hlt, List.length_append] at g2
      subst ea
      repeat' (first | ((first | refine WL.p rfl ?_ | refine WL.u ?_); first | (refine opk 1 rfl ?_; (refine ost_app8 (xs := flat k pcs) H rfl rfl rfl (by (exact ixQ)) ((rv.full H)) (by (try simp only [List.length_nil, List.length_append, List.length_cons, List.length_singleton]); omega) ?_; clear H; intro aa ca wk H; simp only [List.set_cons_zero, List.set_cons_succ, List.nil_append] at H)) | refine pvQ ?_ | (refine opk 3 rfl ?_; (refine ost_cmp rfl rfl rfl rfl (fun hc => ?_) (fun hc => ?_) <;> (simp only [cmpP] at hc; try exact prIQ))) | (refine opk 4 rfl ?_; (refine ost_cmp rfl rfl rfl rfl (fun hc => ?_) (fun hc => ?_) <;> (simp only [cmpP] at hc; try exact prIQ)))) | refine Wc.seq ?_ | refine then_n ?_ | refine WL.nil ?_ | refine Wc.region ?_ | refine Wc.block ?_ | refine then_r ?_ | refine then_e ?_ | refine inb_e rfl ?_ | refine inb_o rfl ?_ | refine inb_n ?_ | refine inb_r ?_ | refine Wc.skip ?_ | refine Wc.exit ?_ | refine Wc.ret ?_ | refine Wc.cond_true rfl ?_ | refine Wc.cond_false rfl ?_)
      rw [← flat_succ hlt] at H
      exact ⟨pcs.length - (k + 1), by omega, k + 1, aa, ca, rfl, by omega, by (repeat' (first | exact Agree.refl _ _ | exact Agree.havoc | refine Agree.upd rfl ?_ | refine Agree.hav2 rfl ?_)), rfl, by rw [flat_succ hlt]; rfl, H⟩
    · obtain rfl : k = pcs.length := by omega
      repeat' (first | ((first | refine WL.p rfl ?_ | refine WL.u ?_); first | refine pvQ ?_ | (refine opk 3 rfl ?_; (refine ost_cmp rfl rfl rfl rfl (fun hc => ?_) (fun hc => ?_) <;> (simp only [cmpP] at hc; try exact prIQ))) | (refine opk 4 rfl ?_; (refine ost_cmp rfl rfl rfl rfl (fun hc => ?_) (fun hc => ?_) <;> (simp only [cmpP] at hc; try exact prIQ)))) | refine Wc.seq ?_ | refine then_n ?_ | refine WL.nil ?_ | refine Wc.region ?_ | refine Wc.block ?_ | refine then_r ?_ | refine then_e ?_ | refine inb_e rfl ?_ | refine inb_o rfl ?_ | refine inb_n ?_ | refine inb_r ?_ | refine Wc.skip ?_ | refine Wc.exit ?_ | refine Wc.ret ?_ | refine Wc.cond_true rfl ?_ | refine Wc.cond_false rfl ?_)
      rw [flat_all] at H
      exact fn_ret1 (v := .slice _ _ _) rfl (by rw [flat_all]; rfl) ⟨_, _, H, _, _, rfl, rfl, rfl⟩
end Go.Tg

