/- Contracts of Go functions that the laws reach: what each call answers and leaves in memory, for all arguments within the bounds that each theorem names. -/
import Derived.Test.YthpeejcmkhglmaaInst
import Derived.Test.YthpeejcmkhglmaaAuto
import Derived.Test.YthpeejcmkhglmaaO3
import Derived.Test.YthpeejcmkhglmaaW6
import Derived.Test.YthpeejcmkhglmaaVecD
import Derived.Test.YthpeejcmkhglmaaW3
set_option linter.unusedVariables false
set_option linter.unusedSimpArgs false
set_option maxRecDepth 100000
set_option maxHeartbeats 4000000
namespace Go.Tg
open Go Go.Proofs
/-- The numbers of an operation, in the order in which they are laid. -/
def numsO (o : OpT) (k : Nat) : Nat := if k = 0 then o.dot.rep.toNat else if k = 1 then o.dot.seq.toNat else if k = 2 then o.kind.toNat else if k = 3 then o.cart.toNat else if k = 4 then o.item.toNat else if k = 5 then o.qty.toNat else o.tick.toNat
theorem numsO_lt (o : OpT) (k : Nat) : numsO o k < 4294967296 := by
  have h1 := o.dot.rep.toNat_lt; have h2 := o.dot.seq.toNat_lt; have h3 := o.kind.toNat_lt; have h4 := o.cart.toNat_lt; have h5 := o.item.toNat_lt; have h6 := o.qty.toNat_lt; have h7 := o.tick.toNat_lt
  unfold numsO; repeat' split
  all_goals omega
def putsO (o : OpT) (k : Nat) : List UInt8 := ((List.range k).map fun i => putB (numsO o i)).flatten
theorem putsO_zero (o : OpT) : putsO o 0 = [] := rfl
theorem putsO_succ (o : OpT) (k : Nat) : putsO o (k + 1) = putsO o k ++ putB (numsO o k) := by simp [putsO, List.range_succ, List.flatten_append]
theorem putsO_len (o : OpT) (k : Nat) : (putsO o k).length ≤ 11 * k := by
  induction k with
  | zero => simp [putsO]
  | succ k ih => rw [putsO_succ, List.length_append]; have := putB_len (numsO o k); omega
/-- The bytes of an operation. -/
def encO (o : OpT) : List UInt8 := putsO o 7 ++ fieldB (encV o.ctx)
theorem fieldB_len (xs : List UInt8) : (fieldB xs).length ≤ 11 + xs.length := by unfold fieldB; rw [List.length_append]; have := putB_len xs.length; omega
theorem encO_len (o : OpT) : (encO o).length ≤ 275 := by
  unfold encO; rw [List.length_append]; have h1 := putsO_len o 7; have h2 := fieldB_len (encV o.ctx); have h3 := encV_len o.ctx; omega
def valsO (o : OpT) : List Value := [.int .u64 o.dot.rep.toNat, .int .u64 o.dot.seq.toNat, .int .u64 o.kind.toNat, .int .u64 o.cart.toNat, .int .u64 o.item.toNat, .int .u64 o.qty.toNat, .int .u64 o.tick.toNat]
theorem valsO_get (o : OpT) {k : Nat} (h : k < 7) : (valsO o)[k]? = some (.int .u64 (numsO o k)) := by
  match k, h with
  | 0, _ | 1, _ | 2, _ | 3, _ | 4, _ | 5, _ | 6, _ => rfl
/-- What is told of an operation that is to be told. -/
def outO (o : OpT) : List UInt8 × Int := if rightO o 16 = true then (encO o, 0) else ([], 2)
theorem op_Encode (h0 : FH) (o : OpT) (w : World) (hs : Sat h0 w) :
    Spec Try.prog 70 #[.agg (cOp o).toArray] w [] h0 (fun v h' L' => ∃ a' c', v = .tuple #[.slice a' (outO o).1.length c', .int .i64 (outO o).2] ∧ h' = h0 ∧ L' = [own8 (.slice a' (outO o).1.length c') 5 (outO o).1]) := by
  have H := St.start hs
  have lo := cOp_len o
  have lc := cV_len o.ctx
  have hc := cOp_ctx o
  have h1 := o.dot.rep.toNat_lt; have h2 := o.dot.seq.toNat_lt; have h3 := o.kind.toNat_lt; have h4 := o.cart.toNat_lt; have h5 := o.item.toNat_lt; have h6 := o.qty.toNat_lt; have h7 := o.tick.toNat_lt
  unfold Spec
  refine calls_of Try.func70 rfl Try.ntmps70 (by simp) ?_
  cases hr : rightO o 16 with
  | false =>
    have e0 : outO o = ([], 2) := by simp [outO, hr]
    rw [e0]
    repeat' (first | ((first | refine WL.p rfl ?_ | refine WL.u ?_); first | (refine opk 1 rfl ?_; (refine ost_VB H rfl (op_Right _ _ _) rfl ?_ ?_ <;> (intro hc; (try (first | exact (bcon hc ‹_›).elim | exact (bcon ‹_› hc).elim)); try (clear H; intro wk H)))) | refine pvQ ?_ | (refine opk 3 rfl ?_; (refine ost_cmp rfl rfl rfl rfl (fun hc => ?_) (fun hc => ?_) <;> (simp only [cmpP] at hc; try exact prIQ))) | (refine opk 4 rfl ?_; (refine ost_cmp rfl rfl rfl rfl (fun hc => ?_) (fun hc => ?_) <;> (simp only [cmpP] at hc; try exact prIQ))) | (refine opk 9 rfl ?_; (refine ost_boxq H rfl ?_; clear H; intro bk wk H))) | refine Wc.seq ?_ | refine then_n ?_ | refine WL.nil ?_ | refine Wc.region ?_ | refine Wc.block ?_ | refine then_r ?_ | refine then_e ?_ | refine inb_e rfl ?_ | refine inb_o rfl ?_ | refine inb_n ?_ | refine inb_r ?_ | refine Wc.skip ?_ | refine Wc.exit ?_ | refine Wc.ret ?_ | refine Wc.cond_true rfl ?_ | refine Wc.cond_false rfl ?_)
    exact fn_ret2 (v1 := .slice _ _ _) (v2 := .int _ _) rfl rfl rfl ⟨_, _, (H.nil8 5).pick 0 rfl, _, _, rfl, rfl, rfl⟩
  | true =>
    have e0 : outO o = (encO o, 0) := by simp [outO, hr]
    rw [e0]
    repeat' (first | ((first | refine WL.p rfl ?_ | refine WL.u ?_); first | (refine opk 1 rfl ?_; first | (refine ost_VB H rfl (op_Right _ _ _) rfl ?_ ?_ <;> (intro hc; (try (first | exact (bcon hc ‹_›).elim | exact (bcon ‹_› hc).elim)); try (clear H; intro wk H))) | (refine ost_C H rfl (pack_New _ _ (sat_full _)) rfl ?_; clear H; rintro vk wk hfk Lk ⟨b1, rfl, rfl⟩ H; simp only [List.cons_append, List.nil_append] at H)) | (refine opk 9 rfl ?_; (refine ost_buildAr (l := valsO o) rfl (evP_cons (rfl : _ = Value.int .u64 _) (evP_cons (rfl : _ = Value.int .u64 _) (evP_cons (rfl : _ = Value.int .u64 _) (evP_cons (rfl : _ = Value.int .u64 _) (evP_cons (rfl : _ = Value.int .u64 _) (evP_cons (rfl : _ = Value.int .u64 _) (evP_cons (rfl : _ = Value.int .u64 _) evP_nil))))))) (by rfl) (by rfl) ?_)) | refine pvQ ?_ | (refine opk 3 rfl ?_; (refine ost_cmp rfl rfl rfl rfl (fun hc => ?_) (fun hc => ?_) <;> (simp only [cmpP] at hc; try exact prIQ))) | (refine opk 4 rfl ?_; (refine ost_cmp rfl rfl rfl rfl (fun hc => ?_) (fun hc => ?_) <;> (simp only [cmpP] at hc; try exact prIQ))) | (refine opk 9 rfl ?_; (refine ost_boxq H rfl ?_; clear H; intro bk wk H))) | refine Wc.seq ?_ | refine then_n ?_ | refine WL.nil ?_ | refine Wc.region ?_ | refine Wc.block ?_ | refine then_r ?_ | refine then_e ?_ | refine inb_e rfl ?_ | refine inb_o rfl ?_ | refine inb_n ?_ | refine inb_r ?_ | refine Wc.skip ?_ | refine Wc.exit ?_ | refine Wc.ret ?_ | refine Wc.cond_true rfl ?_ | refine Wc.cond_false rfl ?_)
    refine Wc.loopE (fun s0 m s w' => ∃ (k : Nat) (v : Value), m = 7 - k ∧ k ≤ 7 ∧ Agree [6, 35, 36, 37, 38, 39, 40, 41] s s0 ∧ s 35 = .int .i64 k ∧
      St w [] h0 h0 [wr b1 true 0 v (putsO o k), .blk bk (.cells (cOp o).toArray 87 (0, 0))] w') 7 ⟨0, _, rfl, by omega, Agree.refl _ _, rfl, H⟩ ?_
    clear H
    rintro m s w' ⟨k, v, rfl, hk, hA, e1, H⟩
    obtain ⟨j, rfl⟩ := hA.env1 e1
    clear hA e1
    have hL := putsO_len o k
    by_cases hlt : k < 7
    · have g2 := valsO_get o hlt
      have g2 : (valsO o)[(k : Int).toNat]? = some (.int .u64 (numsO o k)) := by rw [show (k : Int).toNat = k by omega]; exact g2
      have g3 := numsO_lt o k
      repeat' (first | ((first | refine WL.p rfl ?_ | refine WL.u ?_); first | (refine opk 1 rfl ?_; (refine ost_O (A := .both _ _) H rfl (by (exact ixQ)) (fun HO => pack_Num _ _ _ _ _ _ _ HO (numsO o k) (by omega) (by omega)) rfl ?_; clear H; rintro vk wk hfk Lk ⟨rfl, v3, rfl⟩ H; simp only [List.cons_append, List.nil_append, List.eraseIdx_cons_zero, List.eraseIdx_cons_succ] at H)) | refine pvQ ?_ | (refine opk 3 rfl ?_; (refine ost_cmp rfl rfl rfl rfl (fun hc => ?_) (fun hc => ?_) <;> (simp only [cmpP] at hc; try exact prIQ))) | (refine opk 4 rfl ?_; (refine ost_cmp rfl rfl rfl rfl (fun hc => ?_) (fun hc => ?_) <;> (simp only [cmpP] at hc; try exact prIQ))) | (refine opk 9 rfl ?_; (refine ost_boxq H rfl ?_; clear H; intro bk wk H))) | refine Wc.seq ?_ | refine then_n ?_ | refine WL.nil ?_ | refine Wc.region ?_ | refine Wc.block ?_ | refine then_r ?_ | refine then_e ?_ | refine inb_e rfl ?_ | refine inb_o rfl ?_ | refine inb_n ?_ | refine inb_r ?_ | refine Wc.skip ?_ | refine Wc.exit ?_ | refine Wc.ret ?_ | refine Wc.cond_true rfl ?_ | refine Wc.cond_false rfl ?_)
      all_goals (rw [layE_ok (by have := putB_len (numsO o k); omega), ← putsO_succ] at H; exact ⟨7 - (k + 1), by omega, k + 1, v3, rfl, by omega, by (repeat' (first | exact Agree.refl _ _ | exact Agree.havoc | refine Agree.upd rfl ?_ | refine Agree.hav2 rfl ?_)), rfl, H⟩)
    · obtain rfl : k = 7 := by omega
      have hq := encV_len o.ctx
      have hf := fieldB_len (encV o.ctx)
      repeat' (first | ((first | refine WL.p rfl ?_ | refine WL.u ?_); first | (refine opk 1 rfl ?_; (refine ost_C H rfl (vec_Encode _ _ _ (sat_full _)) rfl ?_; clear H; rintro vk wk hfk Lk ⟨a1, c1, rfl, _, rfl⟩ H; simp only [List.cons_append, List.nil_append] at H)) | refine pvQ ?_ | (refine opk 3 rfl ?_; (refine ost_cmp rfl rfl rfl rfl (fun hc => ?_) (fun hc => ?_) <;> (simp only [cmpP] at hc; try exact prIQ))) | (refine opk 4 rfl ?_; (refine ost_cmp rfl rfl rfl rfl (fun hc => ?_) (fun hc => ?_) <;> (simp only [cmpP] at hc; try exact prIQ))) | (refine opk 9 rfl ?_; (refine ost_boxq H rfl ?_; clear H; intro bk wk H))) | refine Wc.seq ?_ | refine then_n ?_ | refine WL.nil ?_ | refine Wc.region ?_ | refine Wc.block ?_ | refine then_r ?_ | refine then_e ?_ | refine inb_e rfl ?_ | refine inb_o rfl ?_ | refine inb_n ?_ | refine inb_r ?_ | refine Wc.skip ?_ | refine Wc.exit ?_ | refine Wc.ret ?_ | refine Wc.cond_true rfl ?_ | refine Wc.cond_false rfl ?_)
      obtain ⟨a2, c2, h2, e2, hle2, hr2, H⟩ := H.freeze8
      cases e2
      repeat' (first | ((first | refine WL.p rfl ?_ | refine WL.u ?_); first | (refine opk 1 rfl ?_; (refine ost_H (A := wr _ _ _ _ _) H rfl (by (exact ixQ)) (fun HO => pack_Bytes _ _ _ _ _ _ _ HO _ _ _ hr2 (by omega) (by omega)) rfl ?_; clear H; rintro vk wk hfk Lk ⟨rfl, v2, rfl⟩ hle H; simp only [List.cons_append, List.nil_append, List.eraseIdx_cons_zero, List.eraseIdx_cons_succ] at H)) | refine pvQ ?_ | (refine opk 3 rfl ?_; (refine ost_cmp rfl rfl rfl rfl (fun hc => ?_) (fun hc => ?_) <;> (simp only [cmpP] at hc; try exact prIQ))) | (refine opk 4 rfl ?_; (refine ost_cmp rfl rfl rfl rfl (fun hc => ?_) (fun hc => ?_) <;> (simp only [cmpP] at hc; try exact prIQ))) | (refine opk 9 rfl ?_; (refine ost_boxq H rfl ?_; clear H; intro bk wk H))) | refine Wc.seq ?_ | refine then_n ?_ | refine WL.nil ?_ | refine Wc.region ?_ | refine Wc.block ?_ | refine then_r ?_ | refine then_e ?_ | refine inb_e rfl ?_ | refine inb_o rfl ?_ | refine inb_n ?_ | refine inb_r ?_ | refine Wc.skip ?_ | refine Wc.exit ?_ | refine Wc.ret ?_ | refine Wc.cond_true rfl ?_ | refine Wc.cond_false rfl ?_)
      have eo : putsO o 7 ++ fieldB (encV o.ctx) = encO o := rfl
      rw [layE_ok (by omega), eo] at H
      dsimp only at H
      have hel := encO_len o
      repeat' (first | ((first | refine WL.p rfl ?_ | refine WL.u ?_); first | (refine opk 1 rfl ?_; (refine ost_O (A := wr _ _ _ _ _) H rfl (by (exact ixQ)) (fun HO => pack_All0 _ _ _ _ _ _ HO (by omega) rfl) rfl ?_; clear H; rintro vk wk hfk Lk ⟨a4, c4, rfl, _, rfl⟩ H; simp only [List.cons_append, List.nil_append, List.eraseIdx_cons_zero, List.eraseIdx_cons_succ] at H)) | refine pvQ ?_ | (refine opk 3 rfl ?_; (refine ost_cmp rfl rfl rfl rfl (fun hc => ?_) (fun hc => ?_) <;> (simp only [cmpP] at hc; try exact prIQ))) | (refine opk 4 rfl ?_; (refine ost_cmp rfl rfl rfl rfl (fun hc => ?_) (fun hc => ?_) <;> (simp only [cmpP] at hc; try exact prIQ))) | (refine opk 9 rfl ?_; (refine ost_boxq H rfl ?_; clear H; intro bk wk H))) | refine Wc.seq ?_ | refine then_n ?_ | refine WL.nil ?_ | refine Wc.region ?_ | refine Wc.block ?_ | refine then_r ?_ | refine then_e ?_ | refine inb_e rfl ?_ | refine inb_o rfl ?_ | refine inb_n ?_ | refine inb_r ?_ | refine Wc.skip ?_ | refine Wc.exit ?_ | refine Wc.ret ?_ | refine Wc.cond_true rfl ?_ | refine Wc.cond_false rfl ?_)
      exact fn_ret2 (v1 := .slice _ _ _) (v2 := .int _ _) rfl rfl rfl ⟨_, _, (H.forget (fun k o e => hle _ _ (hle2 _ _ e)) (fun _ _ _ => rfl)).pick 0 rfl, _, _, rfl, rfl, rfl⟩
theorem r6_bytes (h0 : FH) (o : OpT) (w : World) (hs : Sat h0 w) :
    Spec Try.prog 96 #[.agg (cOp o).toArray] w [] h0 (fun v h' L' => ∃ a' c', v = .slice a' (encO o).length c' ∧ h' = h0 ∧ L' = [own8 v 5 (encO o)]) := by
  have H := St.start hs
  have lo := cOp_len o
  have lc := cV_len o.ctx
  have hc := cOp_ctx o
  have h1 := o.dot.rep.toNat_lt; have h2 := o.dot.seq.toNat_lt; have h3 := o.kind.toNat_lt; have h4 := o.cart.toNat_lt; have h5 := o.item.toNat_lt; have h6 := o.qty.toNat_lt; have h7 := o.tick.toNat_lt
  unfold Spec
  refine calls_of Try.func96 rfl Try.ntmps96 (by simp) ?_
  repeat' (first | ((first | refine WL.p rfl ?_ | refine WL.u ?_); first | (refine opk 9 rfl ?_; (refine ost_build1 (l := valsO o) H rfl rfl rfl (evP_cons (rfl : _ = Value.int .u64 _) (evP_cons (rfl : _ = Value.int .u64 _) (evP_cons (rfl : _ = Value.int .u64 _) (evP_cons (rfl : _ = Value.int .u64 _) (evP_cons (rfl : _ = Value.int .u64 _) (evP_cons (rfl : _ = Value.int .u64 _) (evP_cons (rfl : _ = Value.int .u64 _) evP_nil))))))) rfl rfl ?_; clear H; intro bv wk H)) | refine pvQ ?_ | (refine opk 3 rfl ?_; (refine ost_cmp rfl rfl rfl rfl (fun hc => ?_) (fun hc => ?_) <;> (simp only [cmpP] at hc; try exact prIQ))) | (refine opk 4 rfl ?_; (refine ost_cmp rfl rfl rfl rfl (fun hc => ?_) (fun hc => ?_) <;> (simp only [cmpP] at hc; try exact prIQ))) | (refine opk 9 rfl ?_; first | (refine ost_boxq H rfl ?_; clear H; intro bk wk H) | (refine ost_build1 H rfl rfl rfl evQ lsQ rfl ?_; clear H; intro bk wk H))) | refine Wc.seq ?_ | refine then_n ?_ | refine WL.nil ?_ | refine Wc.region ?_ | refine Wc.block ?_ | refine then_r ?_ | refine then_e ?_ | refine inb_e rfl ?_ | refine inb_o rfl ?_ | refine inb_n ?_ | refine inb_r ?_ | refine Wc.skip ?_ | refine Wc.exit ?_ | refine Wc.ret ?_ | refine Wc.cond_true rfl ?_ | refine Wc.cond_false rfl ?_)
  obtain ⟨g, cur, e1, _, hl, ht, H⟩ := H.ownBlk (i := 0) rfl (by omega)
  cases e1
  obtain rfl : cur = valsO o := by rw [← ht, List.take_of_length_le (by omega)]
  clear hl ht
  simp only [List.set_cons_zero] at H
  repeat' (first | ((first | refine WL.p rfl ?_ | refine WL.u ?_); first | refine pvQ ?_ | (refine opk 3 rfl ?_; (refine ost_cmp rfl rfl rfl rfl (fun hc => ?_) (fun hc => ?_) <;> (simp only [cmpP] at hc; try exact prIQ))) | (refine opk 4 rfl ?_; (refine ost_cmp rfl rfl rfl rfl (fun hc => ?_) (fun hc => ?_) <;> (simp only [cmpP] at hc; try exact prIQ))) | (refine opk 9 rfl ?_; first | (refine ost_boxq H rfl ?_; clear H; intro bk wk H) | (refine ost_build1 H rfl rfl rfl evQ lsQ rfl ?_; clear H; intro bk wk H))) | refine Wc.seq ?_ | refine then_n ?_ | refine WL.nil ?_ | refine Wc.region ?_ | refine Wc.block ?_ | refine then_r ?_ | refine then_e ?_ | refine inb_e rfl ?_ | refine inb_o rfl ?_ | refine inb_n ?_ | refine inb_r ?_ | refine Wc.skip ?_ | refine Wc.exit ?_ | refine Wc.ret ?_ | refine Wc.cond_true rfl ?_ | refine Wc.cond_false rfl ?_)
  refine Wc.loopE (fun s0 m s w' => ∃ (k : Nat) (a1 : Option Addr) (c1 : Nat), m = 7 - k ∧ k ≤ 7 ∧ Agree [4, 5, 30, 31, 32, 33, 34, 35, 36, 37, 38, 39, 40, 41, 42] s s0 ∧ s 5 = .int .i64 k ∧ s 4 = .slice a1 (putsO o k).length c1 ∧
    St w [] h0 h0 [own8 (.slice a1 (putsO o k).length c1) 5 (putsO o k), .blk bv (.cells (valsO o).toArray 29 (0, 0)), .blk bk (.cells (cOp o).toArray 87 (0, 0))] w') 7 ⟨0, _, _, rfl, by omega, Agree.refl _ _, rfl, rfl, H.nil8 5⟩ ?_
  clear H
  rintro m s w' ⟨k, a1, c1, rfl, hk, hA, e1, e2, H⟩
  obtain ⟨j, rfl⟩ := hA.env2 e1 e2
  clear hA e1 e2
  have hL := putsO_len o k
  by_cases hlt : k < 7
  · have g2 := valsO_get o hlt
    have g2 : (valsO o)[0 + (k : Int).toNat * 1]? = some (.int .u64 (numsO o k)) := by rw [show 0 + (k : Int).toNat * 1 = k by omega]; exact g2
    have g3 := numsO_lt o k
    have g4 := putB_len (numsO o k)
    repeat' (first | ((first | refine WL.p rfl ?_ | refine WL.u ?_); first | (refine opk 1 rfl ?_; first | (refine ost_C H rfl (r2_Put (numsO o k) (by omega) _ _ (sat_full _)) rfl ?_; clear H; rintro vk wk hfk Lk ⟨a2, c2, rfl, _, rfl⟩ H; simp only [List.cons_append, List.nil_append] at H) | (refine ost_app8 (xs := putsO o k) H rfl rfl rfl (by (exact ixQ)) (H.own8rd (i := 0) rfl) (by (try simp only [List.length_nil, List.length_append, List.length_cons, List.length_singleton]); omega) ?_; clear H; intro aa ca wk H; simp only [List.set_cons_zero, List.set_cons_succ, List.nil_append] at H)) | refine pvQ ?_ | (refine opk 3 rfl ?_; (refine ost_cmp rfl rfl rfl rfl (fun hc => ?_) (fun hc => ?_) <;> (simp only [cmpP] at hc; try exact prIQ))) | (refine opk 4 rfl ?_; (refine ost_cmp rfl rfl rfl rfl (fun hc => ?_) (fun hc => ?_) <;> (simp only [cmpP] at hc; try exact prIQ))) | (refine opk 9 rfl ?_; first | (refine ost_boxq H rfl ?_; clear H; intro bk wk H) | (refine ost_build1 H rfl rfl rfl evQ lsQ rfl ?_; clear H; intro bk wk H))) | refine Wc.seq ?_ | refine then_n ?_ | refine WL.nil ?_ | refine Wc.region ?_ | refine Wc.block ?_ | refine then_r ?_ | refine then_e ?_ | refine inb_e rfl ?_ | refine inb_o rfl ?_ | refine inb_n ?_ | refine inb_r ?_ | refine Wc.skip ?_ | refine Wc.exit ?_ | refine Wc.ret ?_ | refine Wc.cond_true rfl ?_ | refine Wc.cond_false rfl ?_)
    rw [← putsO_succ] at H
    exact ⟨7 - (k + 1), by omega, k + 1, aa, ca, rfl, by omega, by (repeat' (first | exact Agree.refl _ _ | exact Agree.havoc | refine Agree.upd rfl ?_ | refine Agree.hav2 rfl ?_)), rfl, by rw [putsO_succ]; rfl, H.tl⟩
  · obtain rfl : k = 7 := by omega
    have hq := encV_len o.ctx
    have hf := fieldB_len (encV o.ctx)
    repeat' (first | ((first | refine WL.p rfl ?_ | refine WL.u ?_); first | (refine opk 1 rfl ?_; first | (refine ost_C H rfl (r4_Encode _ _ _ (sat_full _)) rfl ?_; clear H; rintro vk wk hfk Lk ⟨a2, c2, rfl, _, rfl⟩ H; simp only [List.cons_append, List.nil_append] at H) | (refine ost_C H rfl (r3_Field _ _ (sat_full _) _ _ (encV o.ctx) (H.own8rd (i := 0) rfl) (by omega)) rfl ?_; clear H; rintro vk wk hfk Lk ⟨a3, c3, rfl, _, rfl⟩ H; simp only [List.cons_append, List.nil_append] at H) | (refine ost_app8 (xs := putsO o 7) H rfl rfl rfl (by (exact ixQ)) (H.own8rd (i := 0) rfl) (by (try simp only [List.length_nil, List.length_append, List.length_cons, List.length_singleton]); omega) ?_; clear H; intro aa ca wk H; simp only [List.set_cons_zero, List.set_cons_succ, List.nil_append] at H)) | refine pvQ ?_ | (refine opk 3 rfl ?_; (refine ost_cmp rfl rfl rfl rfl (fun hc => ?_) (fun hc => ?_) <;> (simp only [cmpP] at hc; try exact prIQ))) | (refine opk 4 rfl ?_; (refine ost_cmp rfl rfl rfl rfl (fun hc => ?_) (fun hc => ?_) <;> (simp only [cmpP] at hc; try exact prIQ))) | (refine opk 9 rfl ?_; first | (refine ost_boxq H rfl ?_; clear H; intro bk wk H) | (refine ost_build1 H rfl rfl rfl evQ lsQ rfl ?_; clear H; intro bk wk H))) | refine Wc.seq ?_ | refine then_n ?_ | refine WL.nil ?_ | refine Wc.region ?_ | refine Wc.block ?_ | refine then_r ?_ | refine then_e ?_ | refine inb_e rfl ?_ | refine inb_o rfl ?_ | refine inb_n ?_ | refine inb_r ?_ | refine Wc.skip ?_ | refine Wc.exit ?_ | refine Wc.ret ?_ | refine Wc.cond_true rfl ?_ | refine Wc.cond_false rfl ?_)
    have eo : putsO o 7 ++ fieldB (encV o.ctx) = encO o := rfl
    rw [← eo]
    exact fn_ret1 (v := .slice _ _ _) rfl rfl ⟨_, _, H.pick 2 rfl, _, _, rfl, rfl, rfl⟩
theorem r6_Encode (h0 : FH) (o : OpT) (w : World) (hs : Sat h0 w) :
    Spec Try.prog 71 #[.agg (cOp o).toArray] w [] h0 (fun v h' L' => ∃ a' c', v = .tuple #[.slice a' (outO o).1.length c', .int .i64 (outO o).2] ∧ h' = h0 ∧ L' = [own8 (.slice a' (outO o).1.length c') 5 (outO o).1]) := by
  have H := St.start hs
  have lo := cOp_len o
  unfold Spec
  refine calls_of Try.func71 rfl Try.ntmps71 (by simp) ?_
  cases hr : rightO o 16 with
  | false =>
    have e0 : outO o = ([], 2) := by simp [outO, hr]
    rw [e0]
    repeat' (first | ((first | refine WL.p rfl ?_ | refine WL.u ?_); first | (refine opk 1 rfl ?_; (refine ost_VB H rfl (r6_Right _ _ _) rfl ?_ ?_ <;> (intro hc; (try (first | exact (bcon hc ‹_›).elim | exact (bcon ‹_› hc).elim)); try (clear H; intro wk H)))) | refine pvQ ?_ | (refine opk 9 rfl ?_; (refine ost_boxq H rfl ?_; clear H; intro bk wk H))) | refine Wc.seq ?_ | refine then_n ?_ | refine WL.nil ?_ | refine Wc.region ?_ | refine Wc.block ?_ | refine then_r ?_ | refine then_e ?_ | refine inb_e rfl ?_ | refine inb_o rfl ?_ | refine inb_n ?_ | refine inb_r ?_ | refine Wc.skip ?_ | refine Wc.exit ?_ | refine Wc.ret ?_ | refine Wc.cond_true rfl ?_ | refine Wc.cond_false rfl ?_)
    exact fn_ret2 (v1 := .slice _ _ _) (v2 := .int _ _) rfl rfl rfl ⟨_, _, (H.nil8 5).pick 0 rfl, _, _, rfl, rfl, rfl⟩
  | true =>
    have e0 : outO o = (encO o, 0) := by simp [outO, hr]
    rw [e0]
    repeat' (first | ((first | refine WL.p rfl ?_ | refine WL.u ?_); first | (refine opk 1 rfl ?_; first | (refine ost_VB H rfl (r6_Right _ _ _) rfl ?_ ?_ <;> (intro hc; (try (first | exact (bcon hc ‹_›).elim | exact (bcon ‹_› hc).elim)); try (clear H; intro wk H))) | (refine ost_C H rfl (r6_bytes _ _ _ (sat_full _)) rfl ?_; clear H; rintro vk wk hfk Lk ⟨a1, c1, rfl, _, rfl⟩ H; simp only [List.cons_append, List.nil_append] at H)) | refine pvQ ?_ | (refine opk 9 rfl ?_; (refine ost_boxq H rfl ?_; clear H; intro bk wk H))) | refine Wc.seq ?_ | refine then_n ?_ | refine WL.nil ?_ | refine Wc.region ?_ | refine Wc.block ?_ | refine then_r ?_ | refine then_e ?_ | refine inb_e rfl ?_ | refine inb_o rfl ?_ | refine inb_n ?_ | refine inb_r ?_ | refine Wc.skip ?_ | refine Wc.exit ?_ | refine Wc.ret ?_ | refine Wc.cond_true rfl ?_ | refine Wc.cond_false rfl ?_)
    exact fn_ret2 (v1 := .slice _ _ _) (v2 := .int _ _) rfl rfl rfl ⟨_, _, H.pick 0 rfl, _, _, rfl, rfl, rfl⟩
end Go.Tg
