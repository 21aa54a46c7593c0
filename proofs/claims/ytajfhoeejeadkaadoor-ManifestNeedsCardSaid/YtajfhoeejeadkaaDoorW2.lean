/- Contracts of Go functions that the laws reach: what each call answers and leaves in memory, for all arguments within the bounds that each theorem names. -/
import Derived.Test.YtajfhoeejeadkaaDoorInst
import Derived.Test.YtajfhoeejeadkaaDoorAuto
import Derived.Test.YtajfhoeejeadkaaDoorW1
import Derived.Test.YtajfhoeejeadkaaDoorSl
set_option linter.unusedVariables false
set_option linter.unusedSimpArgs false
set_option maxRecDepth 100000
set_option maxHeartbeats 4000000
namespace Go.Tg
open Go Go.Proofs
theorem grow8 (h0 : FH) (n : Nat) (w : World) (hs : Sat h0 w) (hb : n ≤ 1000000000) :
    Spec Tryd.prog 150 #[.slice none 0 0, .int .i64 n] w [] h0 (fun v h' L' => ∃ a' c', v = .slice a' 0 c' ∧ h' = h0 ∧ L' = [own8 v 5 []]) := by
  have H := St.start hs
  unfold Spec
  refine calls_of Tryd.func150 rfl Tryd.ntmps150 (by simp) ?_
  by_cases hn : 0 < n
  · repeat' (first | ((first | refine WL.p rfl ?_ | refine WL.u ?_); first | (refine opk 1 rfl ?_; (refine ost_zeros8 (n := n) H rfl rfl rfl (by omega) hn (by omega) ?_; clear H; intro aa ca wk hca H)) | refine pvQ ?_ | (refine opk 3 rfl ?_; (refine ost_cmp rfl rfl rfl rfl (fun hc => ?_) (fun hc => ?_) <;> (simp only [cmpP] at hc; try exact prIQ))) | (refine opk 4 rfl ?_; (refine ost_cmp rfl rfl rfl rfl (fun hc => ?_) (fun hc => ?_) <;> (simp only [cmpP] at hc; try exact prIQ)))) | refine Wc.seq ?_ | refine then_n ?_ | refine WL.nil ?_ | refine Wc.region ?_ | refine Wc.block ?_ | refine then_r ?_ | refine then_e ?_ | refine inb_e rfl ?_ | refine inb_o rfl ?_ | refine inb_n ?_ | refine inb_r ?_ | refine Wc.skip ?_ | refine Wc.exit ?_ | refine Wc.ret ?_ | refine Wc.cond_true rfl ?_ | refine Wc.cond_false rfl ?_)

    exact fn_ret1 (v := .slice _ _ _) rfl rfl ⟨_, _, H.own8take (xs := List.replicate n 0) (i := 0) 0 rfl (by simp), _, _, rfl, rfl, rfl⟩
  · repeat' (first | ((first | refine WL.p rfl ?_ | refine WL.u ?_); first | refine pvQ ?_ | (refine opk 3 rfl ?_; (refine ost_cmp rfl rfl rfl rfl (fun hc => ?_) (fun hc => ?_) <;> (simp only [cmpP] at hc; try exact prIQ))) | (refine opk 4 rfl ?_; (refine ost_cmp rfl rfl rfl rfl (fun hc => ?_) (fun hc => ?_) <;> (simp only [cmpP] at hc; try exact prIQ)))) | refine Wc.seq ?_ | refine then_n ?_ | refine WL.nil ?_ | refine Wc.region ?_ | refine Wc.block ?_ | refine then_r ?_ | refine then_e ?_ | refine inb_e rfl ?_ | refine inb_o rfl ?_ | refine inb_n ?_ | refine inb_r ?_ | refine Wc.skip ?_ | refine Wc.exit ?_ | refine Wc.ret ?_ | refine Wc.cond_true rfl ?_ | refine Wc.cond_false rfl ?_)

    exact fn_ret1 (v := .slice _ _ _) rfl rfl ⟨_, _, H.nil8 5, _, _, rfl, rfl, rfl⟩
structure BL (h : FH) (a : Option Addr) (vs : List Value) (pcs : List (List UInt8)) : Prop where
  rd : RdC h a vs
  len : vs.length = pcs.length
  at_ : ∀ (i : Nat) (hi : i < vs.length) (hj : i < pcs.length), BSv h vs[i] pcs[i]
theorem BL.mono {h h' : FH} {a : Option Addr} {vs : List Value} {pcs : List (List UInt8)} (hle : FLe h h') (r : BL h a vs pcs) : BL h' a vs pcs := ⟨r.rd.mono hle, r.len, fun i h1 h2 => (r.at_ i h1 h2).mono hle⟩
theorem BL.full {ws w : World} {S : List Nat} {h0 h : FH} {L : List HA} {a : Option Addr} {vs : List Value} {pcs : List (List UInt8)} (r : BL h a vs pcs) (H : St ws S h0 h L w) : BL (full w) a vs pcs := r.mono H.sat.le
def flat (k : Nat) (pcs : List (List UInt8)) : List UInt8 := (pcs.take k).flatten
theorem flat_succ {k : Nat} {pcs : List (List UInt8)} (h : k < pcs.length) : flat (k + 1) pcs = flat k pcs ++ pcs[k] := by
  unfold flat; rw [List.take_add_one, List.flatten_append, List.getElem?_eq_getElem h]; simp only [Option.toList, List.flatten_cons, List.flatten_nil, List.append_nil]
theorem flat_len {k : Nat} {pcs : List (List UInt8)} : (flat k pcs).length ≤ pcs.flatten.length := by
  have : pcs.flatten = flat k pcs ++ (pcs.drop k).flatten := by rw [flat, ← List.flatten_append, List.take_append_drop]
  rw [this]; simp
theorem flat_all (pcs : List (List UInt8)) : flat pcs.length pcs = pcs.flatten := by simp [flat]
theorem concat8 (h0 : FH) (a : Option Addr) (c : Nat) (vs : List Value) (pcs : List (List UInt8)) (w : World) (hs : Sat h0 w) (hr : BL h0 a vs pcs) (hn : pcs.length ≤ 1000) (hb : pcs.flatten.length ≤ 1000000) :
    Spec Tryd.prog 140 #[.slice a pcs.length c] w [] h0 (fun v h' L' => ∃ a' c', v = .slice a' pcs.flatten.length c' ∧ h' = h0 ∧ L' = [own8 v 5 pcs.flatten]) := by
  have H := St.start hs
  unfold Spec
  refine calls_of Tryd.func140 rfl Tryd.ntmps140 (by simp) ?_
  repeat' (first | ((first | refine WL.p rfl ?_ | refine WL.u ?_); first | refine pvQ ?_ | (refine opk 3 rfl ?_; (refine ost_cmp rfl rfl rfl rfl (fun hc => ?_) (fun hc => ?_) <;> (simp only [cmpP] at hc; try exact prIQ))) | (refine opk 4 rfl ?_; (refine ost_cmp rfl rfl rfl rfl (fun hc => ?_) (fun hc => ?_) <;> (simp only [cmpP] at hc; try exact prIQ)))) | refine Wc.seq ?_ | refine then_n ?_ | refine WL.nil ?_ | refine Wc.region ?_ | refine Wc.block ?_ | refine then_r ?_ | refine then_e ?_ | refine inb_e rfl ?_ | refine inb_o rfl ?_ | refine inb_n ?_ | refine inb_r ?_ | refine Wc.skip ?_ | refine Wc.exit ?_ | refine Wc.ret ?_ | refine Wc.cond_true rfl ?_ | refine Wc.cond_false rfl ?_)
  refine Wc.loopE (fun s0 m s w' => ∃ k : Nat, m = pcs.length - k ∧ k ≤ pcs.length ∧ Agree [3, 5, 11, 12, 13, 14, 15, 16, 17, 18, 19, 20, 21, 22] s s0 ∧ s 11 = .int .i64 k ∧ s 3 = .int .i64 ((flat k pcs).length : Int) ∧
    St w [] h0 h0 [] w') pcs.length ⟨0, rfl, by omega, Agree.refl _ _, rfl, rfl, H⟩ ?_
  clear H
  rintro m s w' ⟨k, rfl, hk, hA, e1, e2, H⟩
  obtain ⟨j, rfl⟩ := hA.env2 e1 e2
  clear hA e1 e2
  by_cases hlt : k < pcs.length
  · obtain ⟨b, off, l, T, fr, ea, eb, eg⟩ := hr.rd.get (i := k) (by rw [hr.len]; omega)
    obtain ⟨ai, ci, ev_, rv⟩ := hr.at_ k (by rw [hr.len]; omega) hlt
    have g1 : l[off + (k : Int).toNat * 1]? = some (.slice ai pcs[k].length ci) := by
      have := eg k (by rw [hr.len]; omega)
      rw [← ev_, show off + (k : Int).toNat * 1 = off + k by omega, this]
      simp [hr.len, hlt]
    have g2 := flat_len (k := k + 1) (pcs := pcs)
    rw [flat_succ hlt, List.length_append] at g2
    subst ea
    repeat' (first | ((first | refine WL.p rfl ?_ | refine WL.u ?_); first | refine pvQ ?_ | (refine opk 3 rfl ?_; (refine ost_cmp rfl rfl rfl rfl (fun hc => ?_) (fun hc => ?_) <;> (simp only [cmpP] at hc; try exact prIQ))) | (refine opk 4 rfl ?_; (refine ost_cmp rfl rfl rfl rfl (fun hc => ?_) (fun hc => ?_) <;> (simp only [cmpP] at hc; try exact prIQ)))) | refine Wc.seq ?_ | refine then_n ?_ | refine WL.nil ?_ | refine Wc.region ?_ | refine Wc.block ?_ | refine then_r ?_ | refine then_e ?_ | refine inb_e rfl ?_ | refine inb_o rfl ?_ | refine inb_n ?_ | refine inb_r ?_ | refine Wc.skip ?_ | refine Wc.exit ?_ | refine Wc.ret ?_ | refine Wc.cond_true rfl ?_ | refine Wc.cond_false rfl ?_)
    have e3 : ((flat k pcs).length : Int) + (pcs[k].length : Int) = ((flat (k + 1) pcs).length : Int) := by rw [flat_succ hlt, List.length_append]; omega
    exact ⟨pcs.length - (k + 1), by omega, k + 1, rfl, by omega, by (repeat' (first | exact Agree.refl _ _ | exact Agree.havoc | refine Agree.upd rfl ?_ | refine Agree.hav2 rfl ?_)), rfl, by rw [← e3]; rfl, H⟩
  · obtain rfl : k = pcs.length := by omega
    have g2 := flat_len (k := pcs.length) (pcs := pcs)
    repeat' (first | ((first | refine WL.p rfl ?_ | refine WL.u ?_); first | (refine opk 1 rfl ?_; (refine ost_C H rfl (grow8 _ _ _ (sat_full _) (by omega)) rfl ?_; clear H; rintro vk wk hfk Lk ⟨a1, c1, rfl, _, rfl⟩ H; simp only [List.cons_append, List.nil_append] at H)) | refine pvQ ?_ | (refine opk 3 rfl ?_; (refine ost_cmp rfl rfl rfl rfl (fun hc => ?_) (fun hc => ?_) <;> (simp only [cmpP] at hc; try exact prIQ))) | (refine opk 4 rfl ?_; (refine ost_cmp rfl rfl rfl rfl (fun hc => ?_) (fun hc => ?_) <;> (simp only [cmpP] at hc; try exact prIQ)))) | refine Wc.seq ?_ | refine then_n ?_ | refine WL.nil ?_ | refine Wc.region ?_ | refine Wc.block ?_ | refine then_r ?_ | refine then_e ?_ | refine inb_e rfl ?_ | refine inb_o rfl ?_ | refine inb_n ?_ | refine inb_r ?_ | refine Wc.skip ?_ | refine Wc.exit ?_ | refine Wc.ret ?_ | refine Wc.cond_true rfl ?_ | refine Wc.cond_false rfl ?_)
    refine Wc.loopE (fun s0 m s w' => ∃ (k : Nat) (a' : Option Addr) (c' : Nat), m = pcs.length - k ∧ k ≤ pcs.length ∧ Agree [6, 8, 27, 28, 29, 30, 31, 32, 33, 34] s s0 ∧ s 27 = .int .i64 k ∧ s 6 = .slice a' (flat k pcs).length c' ∧
      St w [] h0 h0 [own8 (.slice a' (flat k pcs).length c') 5 (flat k pcs)] w') pcs.length ⟨0, a1, c1, rfl, by omega, Agree.refl _ _, rfl, rfl, H⟩ ?_
    clear H
    rintro m s w' ⟨k, a', c', rfl, hk, hA, e1, e2, H⟩
    obtain ⟨j, rfl⟩ := hA.env2 e1 e2
    clear hA e1 e2
    by_cases hlt : k < pcs.length
    · obtain ⟨b, off, l, T, fr, ea, eb, eg⟩ := hr.rd.get (i := k) (by rw [hr.len]; omega)
      obtain ⟨ai, ci, ev_, rv⟩ := hr.at_ k (by rw [hr.len]; omega) hlt
      have g1 : l[off + (k : Int).toNat * 1]? = some (.slice ai pcs[k].length ci) := by
        have := eg k (by rw [hr.len]; omega)
        rw [← ev_, show off + (k : Int).toNat * 1 = off + k by omega, this]
        simp [hr.len, hlt]
      have g2 := flat_len (k := k + 1) (pcs := pcs)
      rw [flat_succ hlt, List.length_append] at g2
      subst ea
      repeat' (first | ((first | refine WL.p rfl ?_ | refine WL.u ?_); first | (refine opk 1 rfl ?_; (refine ost_app8 (xs := flat k pcs) H rfl rfl rfl (by (exact ixQ)) ((rv.full H)) (by (try simp only [List.length_nil, List.length_append, List.length_cons, List.length_singleton]); omega) ?_; clear H; intro aa ca wk H; simp only [List.set_cons_zero, List.set_cons_succ, List.nil_append] at H)) | refine pvQ ?_ | (refine opk 3 rfl ?_; (refine ost_cmp rfl rfl rfl rfl (fun hc => ?_) (fun hc => ?_) <;> (simp only [cmpP] at hc; try exact prIQ))) | (refine opk 4 rfl ?_; (refine ost_cmp rfl rfl rfl rfl (fun hc => ?_) (fun hc => ?_) <;> (simp only [cmpP] at hc; try exact prIQ)))) | refine Wc.seq ?_ | refine then_n ?_ | refine WL.nil ?_ | refine Wc.region ?_ | refine Wc.block ?_ | refine then_r ?_ | refine then_e ?_ | refine inb_e rfl ?_ | refine inb_o rfl ?_ | refine inb_n ?_ | refine inb_r ?_ | refine Wc.skip ?_ | refine Wc.exit ?_ | refine Wc.ret ?_ | refine Wc.cond_true rfl ?_ | refine Wc.cond_false rfl ?_)
      rw [← flat_succ hlt] at H
      exact ⟨pcs.length - (k + 1), by omega, k + 1, aa, ca, rfl, by omega, by (repeat' (first | exact Agree.refl _ _ | exact Agree.havoc | refine Agree.upd rfl ?_ | refine Agree.hav2 rfl ?_)), rfl, by rw [flat_succ hlt]; rfl, H⟩
    · obtain rfl : k = pcs.length := by omega
      repeat' (first | ((first | refine WL.p rfl ?_ | refine WL.u ?_); first | refine pvQ ?_ | (refine opk 3 rfl ?_; (refine ost_cmp rfl rfl rfl rfl (fun hc => ?_) (fun hc => ?_) <;> (simp only [cmpP] at hc; try exact prIQ))) | (refine opk 4 rfl ?_; (refine ost_cmp rfl rfl rfl rfl (fun hc => ?_) (fun hc => ?_) <;> (simp only [cmpP] at hc; try exact prIQ)))) | refine Wc.seq ?_ | refine then_n ?_ | refine WL.nil ?_ | refine Wc.region ?_ | refine Wc.block ?_ | refine then_r ?_ | refine then_e ?_ | refine inb_e rfl ?_ | refine inb_o rfl ?_ | refine inb_n ?_ | refine inb_r ?_ | refine Wc.skip ?_ | refine Wc.exit ?_ | refine Wc.ret ?_ | refine Wc.cond_true rfl ?_ | refine Wc.cond_false rfl ?_)
      rw [flat_all] at H
      exact fn_ret1 (v := .slice _ _ _) rfl (by rw [flat_all]; rfl) ⟨_, _, H, _, _, rfl, rfl, rfl⟩
end Go.Tg

set_option linter.unusedVariables false
set_option linter.unusedSimpArgs false
set_option maxRecDepth 100000
set_option maxHeartbeats 4000000
namespace Go.Tg
open Go Go.Proofs
abbrev wr (b : Nat) (made : Bool) (e : Int) (v : Value) (xs : List UInt8) : HA := .both (.blk b (.cells [.bool made, .int .i64 e, v].toArray 185 (0, 0))) (own8 v 5 xs)
abbrev pt (b : Nat) : Value := .pointer (some ⟨b, 0, none⟩)
theorem pack_New (h0 : FH) (w : World) (hs : Sat h0 w) :
    Spec Tryd.prog 64 #[] w [] h0 (fun v h' L' => ∃ b, v = pt b ∧ L' = [wr b true 0 (.slice none 0 0) []]) := by
  have H := St.start hs
  unfold Spec
  refine calls_of Tryd.func64 rfl Tryd.ntmps64 (by simp) ?_
  repeat' (first | ((first | refine WL.p rfl ?_ | refine WL.u ?_); first | refine pvQ ?_ | (refine opk 9 rfl ?_; (refine ost_boxq H rfl ?_; clear H; intro bk wk H))) | refine Wc.seq ?_ | refine then_n ?_ | refine WL.nil ?_ | refine Wc.region ?_ | refine Wc.block ?_ | refine then_r ?_ | refine then_e ?_ | refine inb_e rfl ?_ | refine inb_o rfl ?_ | refine inb_n ?_ | refine inb_r ?_ | refine Wc.skip ?_ | refine Wc.exit ?_ | refine Wc.ret ?_ | refine Wc.cond_true rfl ?_ | refine Wc.cond_false rfl ?_)
  exact fn_ret1 (v := .pointer _) rfl rfl ⟨_, _, ((H.nil8 5).pick2 1 0 rfl rfl (by decide)).join, _, rfl, rfl⟩
theorem stop_fail (b : Nat) (x e : Int) (v : Value) (made : Bool) (T : TypeId) (g : FH) (w : World) (H : St w [b] g g [.blk b (.cells [.bool made, .int .i64 e, v].toArray T (0, 0))] w) (hx : e = 0) :
    Spec Tryd.prog 133 #[pt b, .int .i64 x] w [b] g (fun v' h' L' => v' = .int .i64 x ∧ L' = [.blk b (.cells [.bool made, .int .i64 x, v].toArray T (0, 0))]) := by
  unfold Spec
  refine calls_of Tryd.func133 rfl Tryd.ntmps133 (by simp) ?_
  subst hx
  repeat' (first | ((first | refine WL.p rfl ?_ | refine WL.u ?_); first | refine pvQ ?_ | (refine opk 3 rfl ?_; (refine ost_cmp rfl rfl rfl rfl (fun hc => ?_) (fun hc => ?_) <;> (simp only [cmpP] at hc; try exact prIQ))) | (refine opk 4 rfl ?_; (refine ost_cmp rfl rfl rfl rfl (fun hc => ?_) (fun hc => ?_) <;> (simp only [cmpP] at hc; try exact prIQ))) | (refine opk 8 rfl ?_; (refine ost_store1 H rfl rfl vlQ gvQ ixQ (by first | decide | (simp; omega) | (simp; done) | omega) ?_; clear H; intro wk H; simp only [List.set_cons_zero, List.set_cons_succ, Nat.reduceAdd] at H))) | refine Wc.seq ?_ | refine then_n ?_ | refine WL.nil ?_ | refine Wc.region ?_ | refine Wc.block ?_ | refine then_r ?_ | refine then_e ?_ | refine inb_e rfl ?_ | refine inb_o rfl ?_ | refine inb_n ?_ | refine inb_r ?_ | refine Wc.skip ?_ | refine Wc.exit ?_ | refine Wc.ret ?_ | refine Wc.cond_true rfl ?_ | refine Wc.cond_false rfl ?_)
  exact fn_ret1 (v := .int _ _) rfl rfl ⟨_, _, H, rfl, rfl⟩
def layE (made : Bool) (e : Int) (xs p : List UInt8) : Int × Int × List UInt8 :=
  if made = false then (1, e, xs) else if e ≠ 0 then (e, e, xs) else if xs.length + p.length > 65536 then (3, 3, xs) else (0, 0, xs ++ p)
theorem pack_lay (b : Nat) (made : Bool) (e : Int) (v : Value) (xs : List UInt8) (g : FH) (w : World) (HO : St w (wr b made e v xs).fp g g [wr b made e v xs] w)
    (a : Option Addr) (c : Nat) (vs : List Value) (pcs : List (List UInt8)) (hr : BL g a vs pcs) (hn : pcs.length ≤ 1000) (hb : pcs.flatten.length ≤ 1000000) (hx : xs.length ≤ 65536) :
    Spec Tryd.prog 114 #[pt b, .slice a pcs.length c] w (wr b made e v xs).fp g (fun v' h' L' =>
      v' = .int .i64 (layE made e xs pcs.flatten).1 ∧ ∃ v2, L' = [wr b made (layE made e xs pcs.flatten).2.1 v2 (layE made e xs pcs.flatten).2.2]) := by
  have H := HO.split
  obtain ⟨av, cv, rfl, -⟩ := H.own8BS (i := 1) rfl
  have hx2 : xs.length ≤ 65536 := hx
  unfold Spec
  refine calls_of Tryd.func114 rfl Tryd.ntmps114 (by simp) ?_
  cases made
  · repeat' (first | ((first | refine WL.p rfl ?_ | refine WL.u ?_ | refine WL.g rfl rfl ?_ | refine WL.gu rfl ?_); first | refine pvQ ?_ | (refine opk 3 rfl ?_; first | (refine ost_cmp rfl rfl rfl rfl (fun hc => ?_) (fun hc => ?_) <;> (simp only [cmpP] at hc; try exact prIQ)) | (refine ost_ptEq rfl rfl rfl (fun hc => ?_) (fun hc => ?_) <;> try (simp at hc; done)) | (refine ost_ptNe rfl rfl rfl (fun hc => ?_) (fun hc => ?_) <;> try (simp at hc; done))) | (refine opk 4 rfl ?_; (refine ost_cmp rfl rfl rfl rfl (fun hc => ?_) (fun hc => ?_) <;> (simp only [cmpP] at hc; try exact prIQ))) | (refine opk 8 rfl ?_; (refine ost_store1 H rfl rfl vlQ gvQ ixQ (by first | decide | (simp; omega) | (simp; done) | omega) ?_; clear H; intro wk H; simp only [List.set_cons_zero, List.set_cons_succ, Nat.reduceAdd] at H))) | refine Wc.seq ?_ | refine then_n ?_ | refine WL.nil ?_ | refine Wc.region ?_ | refine Wc.block ?_ | refine then_r ?_ | refine then_e ?_ | refine inb_e rfl ?_ | refine inb_o rfl ?_ | refine inb_n ?_ | refine inb_r ?_ | refine Wc.skip ?_ | refine Wc.exit ?_ | refine Wc.ret ?_ | refine Wc.cond_true rfl ?_ | refine Wc.cond_false rfl ?_ | refine WL.skp rfl rfl ?_ | refine WL.sku rfl ?_)
    exact fn_ret1 (v := .int _ _) rfl rfl ⟨_, _, HO, rfl, _, rfl⟩
  · by_cases he : e = 0
    · subst he
      by_cases hl : xs.length + pcs.flatten.length > 65536
      · have e1 : layE true 0 xs pcs.flatten = (3, 3, xs) := by simp only [layE]; rw [if_neg (by decide), if_neg (by decide), if_pos hl]
        rw [e1]
        repeat' (first | ((first | refine WL.p rfl ?_ | refine WL.u ?_ | refine WL.g rfl rfl ?_ | refine WL.gu rfl ?_); first | (refine opk 1 rfl ?_; first | (refine ost_C H rfl (concat8 _ _ _ _ _ _ (sat_full _) (hr.full H) hn hb) rfl ?_; clear H; rintro vk wk hfk Lk ⟨a1, c1, rfl, _, rfl⟩ H; simp only [List.cons_append, List.nil_append] at H) | (refine ost_O (A := .blk _ _) H rfl (by (exact ixQ)) (fun HO => stop_fail _ _ _ _ _ _ _ _ HO rfl) rfl ?_; clear H; rintro vk wk hfk Lk ⟨rfl, rfl⟩ H; simp only [List.cons_append, List.nil_append, List.eraseIdx_cons_zero, List.eraseIdx_cons_succ] at H)) | refine pvQ ?_ | (refine opk 3 rfl ?_; first | (refine ost_cmp rfl rfl rfl rfl (fun hc => ?_) (fun hc => ?_) <;> (simp only [cmpP] at hc; try exact prIQ)) | (refine ost_ptEq rfl rfl rfl (fun hc => ?_) (fun hc => ?_) <;> try (simp at hc; done)) | (refine ost_ptNe rfl rfl rfl (fun hc => ?_) (fun hc => ?_) <;> try (simp at hc; done))) | (refine opk 4 rfl ?_; (refine ost_cmp rfl rfl rfl rfl (fun hc => ?_) (fun hc => ?_) <;> (simp only [cmpP] at hc; try exact prIQ))) | (refine opk 8 rfl ?_; (refine ost_store1 H rfl rfl vlQ gvQ ixQ (by first | decide | (simp; omega) | (simp; done) | omega) ?_; clear H; intro wk H; simp only [List.set_cons_zero, List.set_cons_succ, Nat.reduceAdd] at H))) | refine Wc.seq ?_ | refine then_n ?_ | refine WL.nil ?_ | refine Wc.region ?_ | refine Wc.block ?_ | refine then_r ?_ | refine then_e ?_ | refine inb_e rfl ?_ | refine inb_o rfl ?_ | refine inb_n ?_ | refine inb_r ?_ | refine Wc.skip ?_ | refine Wc.exit ?_ | refine Wc.ret ?_ | refine Wc.cond_true rfl ?_ | refine Wc.cond_false rfl ?_ | refine WL.skp rfl rfl ?_ | refine WL.sku rfl ?_)
        exact fn_ret1 (v := .int _ _) rfl rfl ⟨_, _, (H.pick2 0 2 rfl rfl (by decide)).join, rfl, _, rfl⟩
      · have e1 : layE true 0 xs pcs.flatten = (0, 0, xs ++ pcs.flatten) := by simp only [layE]; rw [if_neg (by decide), if_neg (by decide), if_neg hl]
        rw [e1]
        repeat' (first | ((first | refine WL.p rfl ?_ | refine WL.u ?_ | refine WL.g rfl rfl ?_ | refine WL.gu rfl ?_); first | (refine opk 1 rfl ?_; first | (refine ost_C H rfl (concat8 _ _ _ _ _ _ (sat_full _) (hr.full H) hn hb) rfl ?_; clear H; rintro vk wk hfk Lk ⟨a1, c1, rfl, _, rfl⟩ H; simp only [List.cons_append, List.nil_append] at H) | (refine ost_app8 (xs := xs) H rfl rfl rfl (by (exact ixQ)) (H.own8rd (i := 0) rfl) (by (try simp only [List.length_nil, List.length_append, List.length_cons, List.length_singleton]); omega) ?_; clear H; intro aa ca wk H; simp only [List.set_cons_zero, List.set_cons_succ, List.nil_append] at H)) | refine pvQ ?_ | (refine opk 3 rfl ?_; first | (refine ost_cmp rfl rfl rfl rfl (fun hc => ?_) (fun hc => ?_) <;> (simp only [cmpP] at hc; try exact prIQ)) | (refine ost_ptEq rfl rfl rfl (fun hc => ?_) (fun hc => ?_) <;> try (simp at hc; done)) | (refine ost_ptNe rfl rfl rfl (fun hc => ?_) (fun hc => ?_) <;> try (simp at hc; done))) | (refine opk 4 rfl ?_; (refine ost_cmp rfl rfl rfl rfl (fun hc => ?_) (fun hc => ?_) <;> (simp only [cmpP] at hc; try exact prIQ))) | (refine opk 8 rfl ?_; (refine ost_store1 H rfl rfl vlQ gvQ ixQ (by first | decide | (simp; omega) | (simp; done) | omega) ?_; clear H; intro wk H; simp only [List.set_cons_zero, List.set_cons_succ, Nat.reduceAdd] at H))) | refine Wc.seq ?_ | refine then_n ?_ | refine WL.nil ?_ | refine Wc.region ?_ | refine Wc.block ?_ | refine then_r ?_ | refine then_e ?_ | refine inb_e rfl ?_ | refine inb_o rfl ?_ | refine inb_n ?_ | refine inb_r ?_ | refine Wc.skip ?_ | refine Wc.exit ?_ | refine Wc.ret ?_ | refine Wc.cond_true rfl ?_ | refine Wc.cond_false rfl ?_ | refine WL.skp rfl rfl ?_ | refine WL.sku rfl ?_)
        exact fn_ret1 (v := .int _ _) rfl rfl ⟨_, _, (H.pick2 1 2 rfl rfl (by decide)).join, rfl, _, rfl⟩
    · have e1 : layE true e xs pcs.flatten = (e, e, xs) := by simp only [layE]; rw [if_neg (by decide), if_pos he]
      rw [e1]
      repeat' (first | ((first | refine WL.p rfl ?_ | refine WL.u ?_ | refine WL.g rfl rfl ?_ | refine WL.gu rfl ?_); first | (refine opk 1 rfl ?_; (refine ost_C H rfl (concat8 _ _ _ _ _ _ (sat_full _) (hr.full H) hn hb) rfl ?_; clear H; rintro vk wk hfk Lk ⟨a1, c1, rfl, _, rfl⟩ H; simp only [List.cons_append, List.nil_append] at H)) | refine pvQ ?_ | (refine opk 3 rfl ?_; first | (refine ost_cmp rfl rfl rfl rfl (fun hc => ?_) (fun hc => ?_) <;> (simp only [cmpP] at hc; try exact prIQ)) | (refine ost_ptEq rfl rfl rfl (fun hc => ?_) (fun hc => ?_) <;> try (simp at hc; done)) | (refine ost_ptNe rfl rfl rfl (fun hc => ?_) (fun hc => ?_) <;> try (simp at hc; done))) | (refine opk 4 rfl ?_; (refine ost_cmp rfl rfl rfl rfl (fun hc => ?_) (fun hc => ?_) <;> (simp only [cmpP] at hc; try exact prIQ))) | (refine opk 8 rfl ?_; (refine ost_store1 H rfl rfl vlQ gvQ ixQ (by first | decide | (simp; omega) | (simp; done) | omega) ?_; clear H; intro wk H; simp only [List.set_cons_zero, List.set_cons_succ, Nat.reduceAdd] at H))) | refine Wc.seq ?_ | refine then_n ?_ | refine WL.nil ?_ | refine Wc.region ?_ | refine Wc.block ?_ | refine then_r ?_ | refine then_e ?_ | refine inb_e rfl ?_ | refine inb_o rfl ?_ | refine inb_n ?_ | refine inb_r ?_ | refine Wc.skip ?_ | refine Wc.exit ?_ | refine Wc.ret ?_ | refine Wc.cond_true rfl ?_ | refine Wc.cond_false rfl ?_ | refine WL.skp rfl rfl ?_ | refine WL.sku rfl ?_)
      exact fn_ret1 (v := .int _ _) rfl rfl ⟨_, _, (H.pick2 1 2 rfl rfl (by decide)).join, rfl, _, rfl⟩
theorem BL.two {w : World} {S : List Nat} {ws : World} {h0 h : FH} {L : List HA} (H : St ws S h0 h L w) {i j k b : Nat} {A : HA} {T T8 : TypeId} {v : Value} {xs : List UInt8} (hi : L[i]? = some A)
    (hj : L[j]? = some (.own (.slice (some ⟨b, 0, none⟩) 1 1) T 1 1 [v])) (hk : L[k]? = some (own8 v T8 xs)) (hij : i ≠ j) (hik : i ≠ k) : BL (less w A.fp) (some ⟨b, 0, none⟩) [v] [xs] := by
  obtain ⟨a, c, e, -, -, h, -⟩ := H.lessOwn hi hj hij
  injection e with e1 e2 e3
  subst e1
  exact ⟨h, rfl, fun n hn _ => by
    have : n = 0 := by simp at hn; omega
    subst this; exact H.lessBS hi hk hik⟩
theorem putL_len : ∀ (k n : Nat), (putL k n).length ≤ k + 1
  | 0, n => by simp [putL]
  | k + 1, n => by
    unfold putL; split
    · simp
    · have := putL_len k (n / 128); simp; omega
theorem putB_len (n : Nat) : (putB n).length ≤ 11 := putL_len 10 n
theorem pack_Num (b : Nat) (made : Bool) (e : Int) (v : Value) (xs : List UInt8) (g : FH) (w : World) (HO : St w (wr b made e v xs).fp g g [wr b made e v xs] w) (n : Nat) (hn : n < 18446744073709551616) (hx : xs.length ≤ 65536) :
    Spec Tryd.prog 65 #[pt b, .int .u64 n] w (wr b made e v xs).fp g (fun v' h' L' =>
      v' = .int .i64 (layE made e xs (putB n)).1 ∧ ∃ v2, L' = [wr b made (layE made e xs (putB n)).2.1 v2 (layE made e xs (putB n)).2.2]) := by
  have H := HO
  have hp := putB_len n
  unfold Spec
  refine calls_of Tryd.func65 rfl Tryd.ntmps65 (by simp) ?_
  repeat' (first | ((first | refine WL.p rfl ?_ | refine WL.u ?_); first | (refine opk 1 rfl ?_; first | (refine ost_C H rfl (vint_Put n hn _ _ (sat_full _)) rfl ?_; clear H; rintro vk wk hfk Lk ⟨a1, c1, rfl, _, rfl⟩ H; simp only [List.cons_append, List.nil_append] at H) | (refine ost_O (A := .both _ _) H rfl (by (exact ixQ)) (fun HO => pack_lay _ _ _ _ _ _ _ HO _ _ _ [putB n] (BL.two H idx2 idx0 idx1 (by decide) (by decide)) (by simp) (by simp; omega) hx) rfl ?_; clear H; rintro vk wk hfk Lk ⟨rfl, v2, rfl⟩ H; simp only [List.cons_append, List.nil_append, List.eraseIdx_cons_zero, List.eraseIdx_cons_succ] at H)) | refine pvQ ?_ | (refine opk 9 rfl ?_; (refine ost_build1 H rfl rfl rfl evQ lsQ rfl ?_; clear H; intro bk wk H))) | refine Wc.seq ?_ | refine then_n ?_ | refine WL.nil ?_ | refine Wc.region ?_ | refine Wc.block ?_ | refine then_r ?_ | refine then_e ?_ | refine inb_e rfl ?_ | refine inb_o rfl ?_ | refine inb_n ?_ | refine inb_r ?_ | refine Wc.skip ?_ | refine Wc.exit ?_ | refine Wc.ret ?_ | refine Wc.cond_true rfl ?_ | refine Wc.cond_false rfl ?_)
  have ef : [putB n].flatten = putB n := by simp
  exact fn_ret1 (v := .int _ _) rfl rfl ⟨_, _, H.pick 0 rfl, by rw [ef], _, by rw [ef]⟩
theorem pack_All (b : Nat) (made : Bool) (e : Int) (xs : List UInt8) (h0 : FH) (w : World) (hs : Sat h0 w) (a : Option Addr) (c : Nat) (T : TypeId) (fr : Nat × Nat) (hb : h0 b = some (.cells [.bool made, .int .i64 e, .slice a xs.length c].toArray T fr)) (hr : BS h0 a c xs) (hx : xs.length ≤ 65536) :
    Spec Tryd.prog 66 #[pt b] w [] h0 (fun v' h' L' => h' = h0 ∧
      if made = true ∧ e = 0 then ∃ a' c', v' = .tuple #[.slice a' xs.length c', .int .i64 0] ∧ L' = [own8 (.slice a' xs.length c') 5 xs]
      else v' = .tuple #[.slice none 0 0, .int .i64 (if made then e else 1)] ∧ L' = []) := by
  have H := St.start hs
  unfold Spec
  refine calls_of Tryd.func66 rfl Tryd.ntmps66 (by simp) ?_
  cases made
  · repeat' (first | ((first | refine WL.p rfl ?_ | refine WL.u ?_ | refine WL.g rfl rfl ?_ | refine WL.gu rfl ?_); first | refine pvQ ?_ | (refine opk 3 rfl ?_; first | (refine ost_cmp rfl rfl rfl rfl (fun hc => ?_) (fun hc => ?_) <;> (simp only [cmpP] at hc; try exact prIQ)) | (refine ost_ptEq rfl rfl rfl (fun hc => ?_) (fun hc => ?_) <;> try (simp at hc; done)) | (refine ost_ptNe rfl rfl rfl (fun hc => ?_) (fun hc => ?_) <;> try (simp at hc; done))) | (refine opk 4 rfl ?_; (refine ost_cmp rfl rfl rfl rfl (fun hc => ?_) (fun hc => ?_) <;> (simp only [cmpP] at hc; try exact prIQ)))) | refine Wc.seq ?_ | refine then_n ?_ | refine WL.nil ?_ | refine Wc.region ?_ | refine Wc.block ?_ | refine then_r ?_ | refine then_e ?_ | refine inb_e rfl ?_ | refine inb_o rfl ?_ | refine inb_n ?_ | refine inb_r ?_ | refine Wc.skip ?_ | refine Wc.exit ?_ | refine Wc.ret ?_ | refine Wc.cond_true rfl ?_ | refine Wc.cond_false rfl ?_ | (refine Wc.drawn (id := 4) 6 (by kernel_rfl) ?_) | refine WL.skp rfl rfl ?_ | refine WL.sku rfl ?_ | (refine rgs_nil ?_; intro vs wk hE; replace H := H.ext hE; clear hE) | refine RGs.skp (fun _ => rfl) rfl ?_ | (refine RGs.bq (fun _ => rfl) rfl (by intro vs w hE hP; have H := H.ext hE; first | exact dbQ | fail) (fun hc => ?_) (fun hc => ?_) <;> ((try simp only [cmpP, decide_eq_true_eq, decide_eq_false_iff_not, dcd_iff, dcd_no] at hc); try exact prDQ)) | refine RGs.pq (fun _ => rfl) rfl (by intro vs w hE hP; have H := H.ext hE; first | exact dvQ | fail) ?_)
    exact fn_ret2 (v1 := .slice _ _ _) (v2 := .int _ _) rfl rfl rfl ⟨_, _, H, rfl, by rw [if_neg (by simp)]; exact ⟨rfl, rfl⟩⟩
  · by_cases he : e = 0
    · subst he
      repeat' (first | ((first | refine WL.p rfl ?_ | refine WL.u ?_ | refine WL.g rfl rfl ?_ | refine WL.gu rfl ?_); first | (refine opk 1 rfl ?_; (refine ost_C H rfl (clone8 _ _ _ _ _ (sat_full _) (hr.full H) (by omega)) rfl ?_; clear H; rintro vk wk hfk Lk ⟨a1, c1, rfl, _, rfl⟩ H; simp only [List.cons_append, List.nil_append] at H)) | refine pvQ ?_ | (refine opk 3 rfl ?_; first | (refine ost_cmp rfl rfl rfl rfl (fun hc => ?_) (fun hc => ?_) <;> (simp only [cmpP] at hc; try exact prIQ)) | (refine ost_ptEq rfl rfl rfl (fun hc => ?_) (fun hc => ?_) <;> try (simp at hc; done)) | (refine ost_ptNe rfl rfl rfl (fun hc => ?_) (fun hc => ?_) <;> try (simp at hc; done))) | (refine opk 4 rfl ?_; (refine ost_cmp rfl rfl rfl rfl (fun hc => ?_) (fun hc => ?_) <;> (simp only [cmpP] at hc; try exact prIQ)))) | refine Wc.seq ?_ | refine then_n ?_ | refine WL.nil ?_ | refine Wc.region ?_ | refine Wc.block ?_ | refine then_r ?_ | refine then_e ?_ | refine inb_e rfl ?_ | refine inb_o rfl ?_ | refine inb_n ?_ | refine inb_r ?_ | refine Wc.skip ?_ | refine Wc.exit ?_ | refine Wc.ret ?_ | refine Wc.cond_true rfl ?_ | refine Wc.cond_false rfl ?_ | (refine Wc.drawn (id := 4) 6 (by kernel_rfl) ?_) | refine WL.skp rfl rfl ?_ | refine WL.sku rfl ?_ | (refine rgs_nil ?_; intro vs wk hE; replace H := H.ext hE; clear hE) | refine RGs.skp (fun _ => rfl) rfl ?_ | (refine RGs.bq (fun _ => rfl) rfl (by intro vs w hE hP; have H := H.ext hE; first | exact dbQ | fail) (fun hc => ?_) (fun hc => ?_) <;> ((try simp only [cmpP, decide_eq_true_eq, decide_eq_false_iff_not, dcd_iff, dcd_no] at hc); try exact prDQ)) | refine RGs.pq (fun _ => rfl) rfl (by intro vs w hE hP; have H := H.ext hE; first | exact dvQ | fail) ?_)
      exact fn_ret2 (v1 := .slice _ _ _) (v2 := .int _ _) rfl rfl rfl ⟨_, _, H, rfl, by rw [if_pos (by simp)]; exact ⟨_, _, rfl, rfl⟩⟩
    · repeat' (first | ((first | refine WL.p rfl ?_ | refine WL.u ?_ | refine WL.g rfl rfl ?_ | refine WL.gu rfl ?_); first | refine pvQ ?_ | (refine opk 3 rfl ?_; first | (refine ost_cmp rfl rfl rfl rfl (fun hc => ?_) (fun hc => ?_) <;> (simp only [cmpP] at hc; try exact prIQ)) | (refine ost_ptEq rfl rfl rfl (fun hc => ?_) (fun hc => ?_) <;> try (simp at hc; done)) | (refine ost_ptNe rfl rfl rfl (fun hc => ?_) (fun hc => ?_) <;> try (simp at hc; done))) | (refine opk 4 rfl ?_; (refine ost_cmp rfl rfl rfl rfl (fun hc => ?_) (fun hc => ?_) <;> (simp only [cmpP] at hc; try exact prIQ)))) | refine Wc.seq ?_ | refine then_n ?_ | refine WL.nil ?_ | refine Wc.region ?_ | refine Wc.block ?_ | refine then_r ?_ | refine then_e ?_ | refine inb_e rfl ?_ | refine inb_o rfl ?_ | refine inb_n ?_ | refine inb_r ?_ | refine Wc.skip ?_ | refine Wc.exit ?_ | refine Wc.ret ?_ | refine Wc.cond_true rfl ?_ | refine Wc.cond_false rfl ?_ | (refine Wc.drawn (id := 4) 6 (by kernel_rfl) ?_) | refine WL.skp rfl rfl ?_ | refine WL.sku rfl ?_ | (refine rgs_nil ?_; intro vs wk hE; replace H := H.ext hE; clear hE) | refine RGs.skp (fun _ => rfl) rfl ?_ | (refine RGs.bq (fun _ => rfl) rfl (by intro vs w hE hP; have H := H.ext hE; first | exact dbQ | fail) (fun hc => ?_) (fun hc => ?_) <;> ((try simp only [cmpP, decide_eq_true_eq, decide_eq_false_iff_not, dcd_iff, dcd_no] at hc); try exact prDQ)) | refine RGs.pq (fun _ => rfl) rfl (by intro vs w hE hP; have H := H.ext hE; first | exact dvQ | fail) ?_)
      exact fn_ret2 (v1 := .slice _ _ _) (v2 := .int _ _) rfl rfl rfl ⟨_, _, H, rfl, by rw [if_neg (by simp [he])]; exact ⟨rfl, rfl⟩⟩
theorem pack_All_ok (b : Nat) (xs : List UInt8) (h0 : FH) (w : World) (hs : Sat h0 w) (a : Option Addr) (c : Nat) (T : TypeId) (fr : Nat × Nat) (hb : h0 b = some (.cells [.bool true, .int .i64 0, .slice a xs.length c].toArray T fr)) (hr : BS h0 a c xs) (hx : xs.length ≤ 65536) :
    Spec Tryd.prog 66 #[pt b] w [] h0 (fun v' h' L' => ∃ a' c', v' = .tuple #[.slice a' xs.length c', .int .i64 0] ∧ L' = [own8 (.slice a' xs.length c') 5 xs]) :=
  (pack_All b true 0 xs h0 w hs a c T fr hb hr hx).mono fun v h' L' ⟨_, h⟩ => by rwa [if_pos (by simp)] at h
theorem layE_ok {xs p : List UInt8} (h : xs.length + p.length ≤ 65536) : layE true 0 xs p = (0, 0, xs ++ p) := by
  simp only [layE]; rw [if_neg (by decide), if_neg (by decide), if_neg (by omega)]
end Go.Tg

set_option linter.unusedVariables false
set_option linter.unusedSimpArgs false
set_option maxRecDepth 100000
set_option maxHeartbeats 4000000
namespace Go.Tg
open Go Go.Proofs
def fieldB (xs : List UInt8) : List UInt8 := putB xs.length ++ xs
theorem BL.of2 {w : World} {S : List Nat} {ws : World} {h0 h : FH} {L : List HA} (H : St ws S h0 h L w) {i j k b : Nat} {A : HA} {T T8 : TypeId} {v v1 : Value} {xs ys : List UInt8} (hi : L[i]? = some A)
    (hj : L[j]? = some (.own (.slice (some ⟨b, 0, none⟩) 2 2) T 1 2 [v, v1])) (hk : L[k]? = some (own8 v T8 xs)) (hij : i ≠ j) (hik : i ≠ k) (hv : BSv h v1 ys) : BL (less w A.fp) (some ⟨b, 0, none⟩) [v, v1] [xs, ys] := by
  obtain ⟨a, c, e, -, -, hr, -⟩ := H.lessOwn hi hj hij
  injection e with e1 e2 e3
  subst e1
  refine ⟨hr, rfl, fun n hn _ => ?_⟩
  match n, hn with
  | 0, _ => exact H.lessBS hi hk hik
  | 1, _ => exact hv.mono (H.less hi)
theorem pack_Bytes (b : Nat) (made : Bool) (e : Int) (v : Value) (xs : List UInt8) (g : FH) (w : World) (HO : St w (wr b made e v xs).fp g g [wr b made e v xs] w) (a : Option Addr) (c : Nat) (ys : List UInt8) (hr : BS g a c ys) (hy : ys.length ≤ 900000) (hx : xs.length ≤ 65536) :
    Spec Tryd.prog 78 #[pt b, .slice a ys.length c] w (wr b made e v xs).fp g (fun v' h' L' =>
      v' = .int .i64 (layE made e xs (fieldB ys)).1 ∧ ∃ v2, L' = [wr b made (layE made e xs (fieldB ys)).2.1 v2 (layE made e xs (fieldB ys)).2.2]) := by
  have H := HO
  have hp := putB_len ys.length
  unfold Spec
  refine calls_of Tryd.func78 rfl Tryd.ntmps78 (by simp) ?_
  repeat' (first | ((first | refine WL.p rfl ?_ | refine WL.u ?_); first | (refine opk 1 rfl ?_; first | (refine ost_C H rfl (vint_Put ys.length (by omega) _ _ (sat_full _)) rfl ?_; clear H; rintro vk wk hfk Lk ⟨a1, c1, rfl, _, rfl⟩ H; simp only [List.cons_append, List.nil_append] at H) | (refine ost_O (A := .both _ _) H rfl (by (exact ixQ)) (fun HO => pack_lay _ _ _ _ _ _ _ HO _ _ _ [putB ys.length, ys] (BL.of2 H idx2 idx0 idx1 (by decide) (by decide) ⟨_, _, rfl, hr⟩) (by simp) (by simp; omega) hx) rfl ?_; clear H; rintro vk wk hfk Lk ⟨rfl, v2, rfl⟩ H; simp only [List.cons_append, List.nil_append, List.eraseIdx_cons_zero, List.eraseIdx_cons_succ] at H)) | refine pvQ ?_ | (refine opk 9 rfl ?_; (refine ost_build1 H rfl rfl rfl evQ lsQ rfl ?_; clear H; intro bk wk H))) | refine Wc.seq ?_ | refine then_n ?_ | refine WL.nil ?_ | refine Wc.region ?_ | refine Wc.block ?_ | refine then_r ?_ | refine then_e ?_ | refine inb_e rfl ?_ | refine inb_o rfl ?_ | refine inb_n ?_ | refine inb_r ?_ | refine Wc.skip ?_ | refine Wc.exit ?_ | refine Wc.ret ?_ | refine Wc.cond_true rfl ?_ | refine Wc.cond_false rfl ?_)
  have ef : [putB ys.length, ys].flatten = fieldB ys := by simp [fieldB]
  exact fn_ret1 (v := .int _ _) rfl rfl ⟨_, _, H.pick 0 rfl, by rw [ef], _, by rw [ef]⟩
abbrev rdr (b : Nat) (made : Bool) (e : Int) (a : Option Addr) (n c : Nat) : HA := .blk b (.cells [.bool made, .int .i64 e, .slice a n c].toArray 194 (0, 0))
theorem pack_Read (h0 : FH) (a : Option Addr) (c : Nat) (xs : List UInt8) (w : World) (hs : Sat h0 w) (hr : BS h0 a c xs) (hb : xs.length ≤ 1000000000) :
    Spec Tryd.prog 70 #[.slice a xs.length c] w [] h0 (fun v h' L' => ∃ b a' c', v = pt b ∧ BS h' a' c' xs ∧ L' = [rdr b true 0 a' xs.length c']) := by
  have H := St.start hs
  unfold Spec
  refine calls_of Tryd.func70 rfl Tryd.ntmps70 (by simp) ?_
  repeat' (first | ((first | refine WL.p rfl ?_ | refine WL.u ?_); first | (refine opk 1 rfl ?_; (refine ost_Sk H rfl (clone8 _ _ _ _ _ H.sat hr hb) rfl ?_; clear H; rintro vk wk hfk Lk ⟨a1, c1, rfl, rfl, rfl⟩ hle H; simp only [List.cons_append, List.nil_append] at H)) | refine pvQ ?_ | (refine opk 9 rfl ?_; (refine ost_boxq H rfl ?_; clear H; intro bk wk H))) | refine Wc.seq ?_ | refine then_n ?_ | refine WL.nil ?_ | refine Wc.region ?_ | refine Wc.block ?_ | refine then_r ?_ | refine then_e ?_ | refine inb_e rfl ?_ | refine inb_o rfl ?_ | refine inb_n ?_ | refine inb_r ?_ | refine Wc.skip ?_ | refine Wc.exit ?_ | refine Wc.ret ?_ | refine Wc.cond_true rfl ?_ | refine Wc.cond_false rfl ?_)
  obtain ⟨a2, c2, h2, e2, hle2, hr2, H⟩ := (H.front 1 rfl).freeze8
  cases e2
  exact fn_ret1 (v := .pointer _) rfl rfl ⟨_, _, H, _, _, _, rfl, hr2, rfl⟩
def numE (e : Int) (xs : List UInt8) : Nat × Int × Int × List UInt8 :=
  if e ≠ 0 then (0, e, e, xs) else if (getB xs).2.2 ≠ 0 then (0, (((getB xs).2.2 : Nat) : Int), (((getB xs).2.2 : Nat) : Int), xs) else ((getB xs).1, 0, 0, xs.drop (getB xs).2.1)
theorem numE_lt (e : Int) (xs : List UInt8) : (numE e xs).1 < 18446744073709551616 := by
  have := getB_lt xs
  unfold numE; split
  · simp
  · split <;> simp; omega
theorem rd_Num (b : Nat) (e : Int) (a : Option Addr) (c : Nat) (xs : List UInt8) (g : FH) (w : World) (HO : St w [b] g g [rdr b true e a xs.length c] w) (hr : BS g a c xs) :
    Spec Tryd.prog 94 #[pt b] w [b] g (fun v' h' L' => v' = .tuple #[.int .u64 (numE e xs).1, .int .i64 (numE e xs).2.1] ∧ h' = g ∧ ∃ a' c', BS g a' c' (numE e xs).2.2.2 ∧ L' = [rdr b true (numE e xs).2.2.1 a' (numE e xs).2.2.2.length c']) := by
  have H := HO
  have hl := getB_le xs
  have hcap := hr.le
  unfold Spec
  refine calls_of Tryd.func94 rfl Tryd.ntmps94 (by simp) ?_
  by_cases he : e = 0
  · subst he
    by_cases hg : (getB xs).2.2 = 0
    · have en : numE 0 xs = ((getB xs).1, 0, 0, xs.drop (getB xs).2.1) := by unfold numE; rw [if_neg (by simp), if_neg (by simpa using hg)]
      rw [en]
      have hg' : (((getB xs).2.2 : Nat) : Int) = 0 := by omega
      repeat' (first | ((first | refine WL.p rfl ?_ | refine WL.u ?_ | refine WL.g rfl rfl ?_ | refine WL.gu rfl ?_); first | (refine opk 1 rfl ?_; (refine ost_V H rfl (vint_Get _ _ _ _ _ H.sat hr) rfl ?_; clear H; intro wk H)) | refine pvQ ?_ | (refine opk 3 rfl ?_; first | (refine ost_cmp rfl rfl rfl rfl (fun hc => ?_) (fun hc => ?_) <;> (simp only [cmpP] at hc; try exact prIQ)) | (refine ost_ptEq rfl rfl rfl (fun hc => ?_) (fun hc => ?_) <;> try (simp at hc; done)) | (refine ost_ptNe rfl rfl rfl (fun hc => ?_) (fun hc => ?_) <;> try (simp at hc; done))) | (refine opk 4 rfl ?_; (refine ost_cmp rfl rfl rfl rfl (fun hc => ?_) (fun hc => ?_) <;> (simp only [cmpP] at hc; try exact prIQ))) | (refine opk 8 rfl ?_; (refine ost_store1 H rfl rfl vlQ gvQ ixQ (by first | decide | (simp; omega) | (simp; done) | omega) ?_; clear H; intro wk H; simp only [List.set_cons_zero, List.set_cons_succ, Nat.reduceAdd] at H))) | refine Wc.seq ?_ | refine then_n ?_ | refine WL.nil ?_ | refine Wc.region ?_ | refine Wc.block ?_ | refine then_r ?_ | refine then_e ?_ | refine inb_e rfl ?_ | refine inb_o rfl ?_ | refine inb_n ?_ | refine inb_r ?_ | refine Wc.skip ?_ | refine Wc.exit ?_ | refine Wc.ret ?_ | refine Wc.cond_true rfl ?_ | refine Wc.cond_false rfl ?_ | (refine Wc.drawn (id := 4) 6 (by kernel_rfl) ?_) | refine WL.skp rfl rfl ?_ | refine WL.sku rfl ?_ | (refine rgs_nil ?_; intro vs wk hE; replace H := H.ext hE; clear hE) | refine RGs.skp (fun _ => rfl) rfl ?_ | (refine RGs.bq (fun _ => rfl) rfl (by intro vs w hE hP; have H := H.ext hE; first | exact dbQ | fail) (fun hc => ?_) (fun hc => ?_) <;> ((try simp only [cmpP, decide_eq_true_eq, decide_eq_false_iff_not, dcd_iff, dcd_no] at hc); try exact prDQ)) | refine RGs.pq (fun _ => rfl) rfl (by intro vs w hE hP; have H := H.ext hE; first | exact dvQ | fail) ?_)
      exact fn_ret2 (v1 := .int _ _) (v2 := .int _ _) rfl rfl rfl ⟨_, _, H, rfl, rfl, _, _, hr.drop hl, by rw [List.length_drop]; rfl⟩
    · have en : numE 0 xs = (0, (((getB xs).2.2 : Nat) : Int), (((getB xs).2.2 : Nat) : Int), xs) := by unfold numE; rw [if_neg (by simp), if_pos (by simpa using hg)]
      rw [en]
      have hg' : ¬ (((getB xs).2.2 : Nat) : Int) = 0 := by omega
      repeat' (first | ((first | refine WL.p rfl ?_ | refine WL.u ?_ | refine WL.g rfl rfl ?_ | refine WL.gu rfl ?_); first | (refine opk 1 rfl ?_; first | (refine ost_V H rfl (vint_Get _ _ _ _ _ H.sat hr) rfl ?_; clear H; intro wk H) | (refine ost_O (A := .blk _ _) H rfl (by (exact ixQ)) (fun HO => stop_fail _ _ _ _ _ _ _ _ HO rfl) rfl ?_; clear H; rintro vk wk hfk Lk ⟨rfl, rfl⟩ H; simp only [List.cons_append, List.nil_append, List.eraseIdx_cons_zero, List.eraseIdx_cons_succ] at H)) | refine pvQ ?_ | (refine opk 3 rfl ?_; first | (refine ost_cmp rfl rfl rfl rfl (fun hc => ?_) (fun hc => ?_) <;> (simp only [cmpP] at hc; try exact prIQ)) | (refine ost_ptEq rfl rfl rfl (fun hc => ?_) (fun hc => ?_) <;> try (simp at hc; done)) | (refine ost_ptNe rfl rfl rfl (fun hc => ?_) (fun hc => ?_) <;> try (simp at hc; done))) | (refine opk 4 rfl ?_; (refine ost_cmp rfl rfl rfl rfl (fun hc => ?_) (fun hc => ?_) <;> (simp only [cmpP] at hc; try exact prIQ))) | (refine opk 8 rfl ?_; (refine ost_store1 H rfl rfl vlQ gvQ ixQ (by first | decide | (simp; omega) | (simp; done) | omega) ?_; clear H; intro wk H; simp only [List.set_cons_zero, List.set_cons_succ, Nat.reduceAdd] at H))) | refine Wc.seq ?_ | refine then_n ?_ | refine WL.nil ?_ | refine Wc.region ?_ | refine Wc.block ?_ | refine then_r ?_ | refine then_e ?_ | refine inb_e rfl ?_ | refine inb_o rfl ?_ | refine inb_n ?_ | refine inb_r ?_ | refine Wc.skip ?_ | refine Wc.exit ?_ | refine Wc.ret ?_ | refine Wc.cond_true rfl ?_ | refine Wc.cond_false rfl ?_ | (refine Wc.drawn (id := 4) 6 (by kernel_rfl) ?_) | refine WL.skp rfl rfl ?_ | refine WL.sku rfl ?_ | (refine rgs_nil ?_; intro vs wk hE; replace H := H.ext hE; clear hE) | refine RGs.skp (fun _ => rfl) rfl ?_ | (refine RGs.bq (fun _ => rfl) rfl (by intro vs w hE hP; have H := H.ext hE; first | exact dbQ | fail) (fun hc => ?_) (fun hc => ?_) <;> ((try simp only [cmpP, decide_eq_true_eq, decide_eq_false_iff_not, dcd_iff, dcd_no] at hc); try exact prDQ)) | refine RGs.pq (fun _ => rfl) rfl (by intro vs w hE hP; have H := H.ext hE; first | exact dvQ | fail) ?_)
      exact fn_ret2 (v1 := .int _ _) (v2 := .int _ _) rfl rfl rfl ⟨_, _, H, rfl, rfl, _, _, hr, rfl⟩
  · have en : numE e xs = (0, e, e, xs) := by unfold numE; rw [if_pos he]
    rw [en]
    repeat' (first | ((first | refine WL.p rfl ?_ | refine WL.u ?_ | refine WL.g rfl rfl ?_ | refine WL.gu rfl ?_); first | refine pvQ ?_ | (refine opk 3 rfl ?_; first | (refine ost_cmp rfl rfl rfl rfl (fun hc => ?_) (fun hc => ?_) <;> (simp only [cmpP] at hc; try exact prIQ)) | (refine ost_ptEq rfl rfl rfl (fun hc => ?_) (fun hc => ?_) <;> try (simp at hc; done)) | (refine ost_ptNe rfl rfl rfl (fun hc => ?_) (fun hc => ?_) <;> try (simp at hc; done))) | (refine opk 4 rfl ?_; (refine ost_cmp rfl rfl rfl rfl (fun hc => ?_) (fun hc => ?_) <;> (simp only [cmpP] at hc; try exact prIQ))) | (refine opk 8 rfl ?_; (refine ost_store1 H rfl rfl vlQ gvQ ixQ (by first | decide | (simp; omega) | (simp; done) | omega) ?_; clear H; intro wk H; simp only [List.set_cons_zero, List.set_cons_succ, Nat.reduceAdd] at H))) | refine Wc.seq ?_ | refine then_n ?_ | refine WL.nil ?_ | refine Wc.region ?_ | refine Wc.block ?_ | refine then_r ?_ | refine then_e ?_ | refine inb_e rfl ?_ | refine inb_o rfl ?_ | refine inb_n ?_ | refine inb_r ?_ | refine Wc.skip ?_ | refine Wc.exit ?_ | refine Wc.ret ?_ | refine Wc.cond_true rfl ?_ | refine Wc.cond_false rfl ?_ | (refine Wc.drawn (id := 4) 6 (by kernel_rfl) ?_) | refine WL.skp rfl rfl ?_ | refine WL.sku rfl ?_ | (refine rgs_nil ?_; intro vs wk hE; replace H := H.ext hE; clear hE) | refine RGs.skp (fun _ => rfl) rfl ?_ | (refine RGs.bq (fun _ => rfl) rfl (by intro vs w hE hP; have H := H.ext hE; first | exact dbQ | fail) (fun hc => ?_) (fun hc => ?_) <;> ((try simp only [cmpP, decide_eq_true_eq, decide_eq_false_iff_not, dcd_iff, dcd_no] at hc); try exact prDQ)) | refine RGs.pq (fun _ => rfl) rfl (by intro vs w hE hP; have H := H.ext hE; first | exact dvQ | fail) ?_)
    exact fn_ret2 (v1 := .int _ _) (v2 := .int _ _) rfl rfl rfl ⟨_, _, H, rfl, rfl, _, _, hr, rfl⟩
def bytesE (e : Int) (xs : List UInt8) : List UInt8 × Int × Int × List UInt8 :=
  if (numE e xs).2.1 ≠ 0 then ([], (numE e xs).2.1, (numE e xs).2.2.1, (numE e xs).2.2.2)
  else if (numE e xs).2.2.2.length < (numE e xs).1 then ([], 4, 4, (numE e xs).2.2.2)
  else ((numE e xs).2.2.2.take (numE e xs).1, 0, 0, (numE e xs).2.2.2.drop (numE e xs).1)
theorem numE_ok {e : Int} {xs : List UInt8} (h : (numE e xs).2.1 = 0) : (numE e xs).2.2.1 = 0 := by
  unfold numE at h ⊢; split
  · rename_i he; rw [if_pos he] at h; exact h
  · rename_i he; rw [if_neg he] at h
    split
    · rename_i hg; rw [if_pos hg] at h; exact h
    · rfl
theorem numE_len (e : Int) (xs : List UInt8) : (numE e xs).2.2.2.length ≤ xs.length := by
  unfold numE; split
  · exact Nat.le_refl _
  · split
    · exact Nat.le_refl _
    · simp
theorem rd_Bytes (b : Nat) (e : Int) (a : Option Addr) (c : Nat) (xs : List UInt8) (g : FH) (w : World) (HO : St w [b] g g [rdr b true e a xs.length c] w) (hr : BS g a c xs) (hx : xs.length ≤ 1000000000) :
    Spec Tryd.prog 95 #[pt b] w [b] g (fun v' h' L' => ∃ a2 c2 a' c', v' = .tuple #[.slice a2 (bytesE e xs).1.length c2, .int .i64 (bytesE e xs).2.1] ∧ h' = g ∧ BS g a' c' (bytesE e xs).2.2.2 ∧
      L' = [own8 (.slice a2 (bytesE e xs).1.length c2) 5 (bytesE e xs).1, rdr b true (bytesE e xs).2.2.1 a' (bytesE e xs).2.2.2.length c']) := by
  have H := HO
  have hlt := numE_lt e xs
  have hll := numE_len e xs
  unfold Spec
  refine calls_of Tryd.func95 rfl Tryd.ntmps95 (by simp) ?_
  by_cases hn : (numE e xs).2.1 = 0
  · have hz := numE_ok hn
    by_cases hk : (numE e xs).2.2.2.length < (numE e xs).1
    · have eb : bytesE e xs = ([], 4, 4, (numE e xs).2.2.2) := by unfold bytesE; rw [if_neg (by simpa using hn), if_pos hk]
      rw [eb]
      repeat' (first | ((first | refine WL.p rfl ?_ | refine WL.u ?_); first | (refine opk 1 rfl ?_; first | (refine ost_H (A := .blk _ _) H rfl (by (exact ixQ)) (fun HO => rd_Num _ _ _ _ _ _ _ HO hr) rfl ?_; clear H; rintro vk wk hfk Lk ⟨rfl, rfl, a1, c1, hr1, rfl⟩ hle H; simp only [List.cons_append, List.nil_append, List.eraseIdx_cons_zero, List.eraseIdx_cons_succ] at H) | (refine ost_O (A := .blk _ _) H rfl (by (exact ixQ)) (fun HO => stop_fail _ _ _ _ _ _ _ _ HO hz) rfl ?_; clear H; rintro vk wk hfk Lk ⟨rfl, rfl⟩ H; simp only [List.cons_append, List.nil_append, List.eraseIdx_cons_zero, List.eraseIdx_cons_succ] at H)) | refine pvQ ?_ | (refine opk 3 rfl ?_; (refine ost_cmp rfl rfl rfl rfl (fun hc => ?_) (fun hc => ?_) <;> (simp only [cmpP] at hc; try exact prIQ))) | (refine opk 4 rfl ?_; (refine ost_cmp rfl rfl rfl rfl (fun hc => ?_) (fun hc => ?_) <;> (simp only [cmpP] at hc; try exact prIQ))) | (refine opk 8 rfl ?_; (refine ost_store1 H rfl rfl vlQ gvQ ixQ (by first | decide | (simp; omega) | (simp; done) | omega) ?_; clear H; intro wk H; simp only [List.set_cons_zero, List.set_cons_succ, Nat.reduceAdd] at H))) | refine Wc.seq ?_ | refine then_n ?_ | refine WL.nil ?_ | refine Wc.region ?_ | refine Wc.block ?_ | refine then_r ?_ | refine then_e ?_ | refine inb_e rfl ?_ | refine inb_o rfl ?_ | refine inb_n ?_ | refine inb_r ?_ | refine Wc.skip ?_ | refine Wc.exit ?_ | refine Wc.ret ?_ | refine Wc.cond_true rfl ?_ | refine Wc.cond_false rfl ?_)
      exact fn_ret2 (v1 := .slice _ _ _) (v2 := .int _ _) rfl rfl rfl ⟨_, _, H.nil8 5, _, _, _, _, rfl, rfl, hr1, rfl⟩
    · have eb : bytesE e xs = ((numE e xs).2.2.2.take (numE e xs).1, 0, 0, (numE e xs).2.2.2.drop (numE e xs).1) := by unfold bytesE; rw [if_neg (by simpa using hn), if_neg hk]
      rw [eb]
      have ht : ((numE e xs).2.2.2.take (numE e xs).1).length = (numE e xs).1 := by simp; omega
      have hcl : ∀ (h0 : FH) (a : Option Addr) (c : Nat) (w : World) (hs : Sat h0 w) (hr : BS h0 a c (numE e xs).2.2.2), Spec Tryd.prog 116 #[.slice a (numE e xs).1 c] w [] h0 (fun v h' L' => ∃ a' c', v = .slice a' (numE e xs).1 c' ∧ h' = h0 ∧ L' = [own8 v 5 ((numE e xs).2.2.2.take (numE e xs).1)]) := fun h0 a c w hs hr => by
        have := clone8 h0 a c _ w hs (hr.take (numE e xs).1) (by rw [ht]; omega)
        rw [ht] at this; exact this
      repeat' (first | ((first | refine WL.p rfl ?_ | refine WL.u ?_); first | (refine opk 1 rfl ?_; first | (refine ost_H (A := .blk _ _) H rfl (by (exact ixQ)) (fun HO => rd_Num _ _ _ _ _ _ _ HO hr) rfl ?_; clear H; rintro vk wk hfk Lk ⟨rfl, rfl, a1, c1, hr1, rfl⟩ hle H; simp only [List.cons_append, List.nil_append, List.eraseIdx_cons_zero, List.eraseIdx_cons_succ] at H) | (refine ost_Sk H rfl (hcl _ _ _ _ H.sat hr1) rfl ?_; clear H; rintro vk wk hfk Lk ⟨a2, c2, rfl, rfl, rfl⟩ hle H; simp only [List.cons_append, List.nil_append] at H)) | refine pvQ ?_ | (refine opk 3 rfl ?_; (refine ost_cmp rfl rfl rfl rfl (fun hc => ?_) (fun hc => ?_) <;> (simp only [cmpP] at hc; try exact prIQ))) | (refine opk 4 rfl ?_; (refine ost_cmp rfl rfl rfl rfl (fun hc => ?_) (fun hc => ?_) <;> (simp only [cmpP] at hc; try exact prIQ))) | (refine opk 8 rfl ?_; (refine ost_store1 H rfl rfl vlQ gvQ ixQ (by first | decide | (simp; omega) | (simp; done) | omega) ?_; clear H; intro wk H; simp only [List.set_cons_zero, List.set_cons_succ, Nat.reduceAdd] at H))) | refine Wc.seq ?_ | refine then_n ?_ | refine WL.nil ?_ | refine Wc.region ?_ | refine Wc.block ?_ | refine then_r ?_ | refine then_e ?_ | refine inb_e rfl ?_ | refine inb_o rfl ?_ | refine inb_n ?_ | refine inb_r ?_ | refine Wc.skip ?_ | refine Wc.exit ?_ | refine Wc.ret ?_ | refine Wc.cond_true rfl ?_ | refine Wc.cond_false rfl ?_)
      rw [hz] at H
      exact fn_ret2 (v1 := .slice _ _ _) (v2 := .int _ _) rfl rfl rfl ⟨_, _, H, _, _, _, _, by rw [ht], rfl, hr1.drop (n := (numE e xs).1) (by omega), by rw [List.length_drop, ht]; rfl⟩
  · have eb : bytesE e xs = ([], (numE e xs).2.1, (numE e xs).2.2.1, (numE e xs).2.2.2) := by unfold bytesE; rw [if_pos hn]
    rw [eb]
    repeat' (first | ((first | refine WL.p rfl ?_ | refine WL.u ?_); first | (refine opk 1 rfl ?_; (refine ost_H (A := .blk _ _) H rfl (by (exact ixQ)) (fun HO => rd_Num _ _ _ _ _ _ _ HO hr) rfl ?_; clear H; rintro vk wk hfk Lk ⟨rfl, rfl, a1, c1, hr1, rfl⟩ hle H; simp only [List.cons_append, List.nil_append, List.eraseIdx_cons_zero, List.eraseIdx_cons_succ] at H)) | refine pvQ ?_ | (refine opk 3 rfl ?_; (refine ost_cmp rfl rfl rfl rfl (fun hc => ?_) (fun hc => ?_) <;> (simp only [cmpP] at hc; try exact prIQ))) | (refine opk 4 rfl ?_; (refine ost_cmp rfl rfl rfl rfl (fun hc => ?_) (fun hc => ?_) <;> (simp only [cmpP] at hc; try exact prIQ))) | (refine opk 8 rfl ?_; (refine ost_store1 H rfl rfl vlQ gvQ ixQ (by first | decide | (simp; omega) | (simp; done) | omega) ?_; clear H; intro wk H; simp only [List.set_cons_zero, List.set_cons_succ, Nat.reduceAdd] at H))) | refine Wc.seq ?_ | refine then_n ?_ | refine WL.nil ?_ | refine Wc.region ?_ | refine Wc.block ?_ | refine then_r ?_ | refine then_e ?_ | refine inb_e rfl ?_ | refine inb_o rfl ?_ | refine inb_n ?_ | refine inb_r ?_ | refine Wc.skip ?_ | refine Wc.exit ?_ | refine Wc.ret ?_ | refine Wc.cond_true rfl ?_ | refine Wc.cond_false rfl ?_)
    exact fn_ret2 (v1 := .slice _ _ _) (v2 := .int _ _) rfl rfl rfl ⟨_, _, H.nil8 5, _, _, _, _, rfl, rfl, hr1, rfl⟩
theorem rd_Done (b : Nat) (e : Int) (a : Option Addr) (c n : Nat) (w : World) {T : TypeId} {fr : Nat × Nat} (hb : w.heap[b]? = some (.cells [.bool true, .int .i64 e, .slice a n c].toArray T fr)) :
    SpecV Tryd.prog 72 #[pt b] w (.bool (decide (e = 0) && decide (n = 0))) := by
  have H := St.start (sat_full w)
  have hb' : full w b = some (.cells [.bool true, .int .i64 e, .slice a n c].toArray T fr) := hb
  unfold SpecV
  refine calls_of Tryd.func72 rfl Tryd.ntmps72 (by simp) ?_
  repeat' (first | ((first | refine WL.p rfl ?_ | refine WL.u ?_ | refine WL.g rfl rfl ?_ | refine WL.gu rfl ?_); first | refine pvQ ?_ | (refine opk 3 rfl ?_; first | (refine ost_cmp rfl rfl rfl rfl (fun hc => ?_) (fun hc => ?_) <;> (simp only [cmpP] at hc; try exact prIQ)) | (refine ost_ptEq rfl rfl rfl (fun hc => ?_) (fun hc => ?_) <;> try (simp at hc; done)) | (refine ost_ptNe rfl rfl rfl (fun hc => ?_) (fun hc => ?_) <;> try (simp at hc; done))) | (refine opk 4 rfl ?_; (refine ost_cmp rfl rfl rfl rfl (fun hc => ?_) (fun hc => ?_) <;> (simp only [cmpP] at hc; try exact prIQ)))) | refine Wc.seq ?_ | refine then_n ?_ | refine WL.nil ?_ | refine Wc.region ?_ | refine Wc.block ?_ | refine then_r ?_ | refine then_e ?_ | refine inb_e rfl ?_ | refine inb_o rfl ?_ | refine inb_n ?_ | refine inb_r ?_ | refine Wc.skip ?_ | refine Wc.exit ?_ | refine Wc.ret ?_ | refine Wc.cond_true rfl ?_ | refine Wc.cond_false rfl ?_ | refine WL.skp rfl rfl ?_ | refine WL.sku rfl ?_)
  all_goals ((first | refine fn_ret1 (v := .bool _) rfl rfl ⟨?_, H.fr⟩ | refine fn_ret1 (v := .int _ _) rfl rfl ⟨?_, H.fr⟩ | refine fn_ret1 (v := .string _) rfl rfl ⟨?_, H.fr⟩); congr 1; simp; omega)
end Go.Tg

