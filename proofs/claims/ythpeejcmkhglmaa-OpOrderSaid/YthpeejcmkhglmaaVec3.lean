/- Contracts of Go functions that the laws reach: what each call answers and leaves in memory, for all arguments within the bounds that each theorem names. -/
import Derived.Test.YthpeejcmkhglmaaInst
import Derived.Test.YthpeejcmkhglmaaAuto
import Derived.Test.YthpeejcmkhglmaaV3
import Derived.Test.YthpeejcmkhglmaaVec1
set_option linter.unusedVariables false
set_option linter.unusedSimpArgs false
set_option maxRecDepth 100000
set_option maxHeartbeats 4000000
namespace Go.Tg
open Go Go.Proofs
/-- How many numbers of a vector are told: up to the last that is not nothing. -/
def topN : Nat → V16 → Nat
  | 0, _ => 0
  | k + 1, v => if (atV v k).toNat = 0 then topN k v else k + 1
theorem topN_le (k : Nat) (v : V16) : topN k v ≤ k := by
  induction k with
  | zero => exact Nat.le_refl _
  | succ k ih => unfold topN; split <;> omega
def encN (v : V16) (n k : Nat) : List UInt8 := putB n ++ ((List.range k).map fun i => putB (atV v i).toNat).flatten
theorem encN_zero (v : V16) (n : Nat) : encN v n 0 = putB n := by simp [encN]
theorem encN_succ (v : V16) (n k : Nat) : encN v n (k + 1) = encN v n k ++ putB (atV v k).toNat := by simp [encN, List.range_succ, List.flatten_append]
theorem encN_len (v : V16) (n k : Nat) : (encN v n k).length ≤ 11 + 11 * k := by
  induction k with
  | zero => rw [encN_zero]; have := putB_len n; omega
  | succ k ih => rw [encN_succ, List.length_append]; have := putB_len (atV v k).toNat; omega
def encV (v : V16) : List UInt8 := encN v (topN 16 v) (topN 16 v)
theorem atV_lt' (a : V16) {i : Nat} (h : i < 16) : (cV a)[i]? = some (.int .u32 (atV a i).toNat) := by
  rw [cV_get a i h]; simp [atV, h, u32]
theorem vec_Encode (h0 : FH) (a : V16) (w : World) (hs : Sat h0 w) :
    Spec Try.prog 55 #[.agg (cV a).toArray] w [] h0 (fun v h' L' => ∃ a' c', v = .slice a' (encV a).length c' ∧ h' = h0 ∧ L' = [own8 v 5 (encV a)]) := by
  have H := St.start hs
  unfold Spec
  refine calls_of Try.func55 rfl Try.ntmps55 (by simp) ?_
  have la := cV_len a
  repeat' (first | ((first | refine WL.p rfl ?_ | refine WL.u ?_ | refine WL.g rfl rfl ?_ | refine WL.gu rfl ?_); first | refine pvQ ?_ | (refine opk 3 rfl ?_; (refine ost_cmp rfl rfl rfl rfl (fun hc => ?_) (fun hc => ?_) <;> (simp only [cmpP] at hc; try exact prIQ))) | (refine opk 4 rfl ?_; (refine ost_cmp rfl rfl rfl rfl (fun hc => ?_) (fun hc => ?_) <;> (simp only [cmpP] at hc; try exact prIQ))) | (refine opk 9 rfl ?_; (refine ost_boxq H rfl ?_; clear H; intro bk wk H))) | refine Wc.seq ?_ | refine then_n ?_ | refine WL.nil ?_ | refine Wc.region ?_ | refine Wc.block ?_ | refine then_r ?_ | refine then_e ?_ | refine inb_e rfl ?_ | refine inb_o rfl ?_ | refine inb_n ?_ | refine inb_r ?_ | refine Wc.skip ?_ | refine Wc.exit ?_ | refine Wc.ret ?_ | refine Wc.cond_true rfl ?_ | refine Wc.cond_false rfl ?_ | refine WL.skp rfl rfl ?_ | refine WL.sku rfl ?_)
  refine Wc.loopE (fun s0 m s w' => ∃ k : Nat, m = k ∧ k ≤ 16 ∧ Agree [3, 9, 10, 11, 12, 13, 14, 15, 16, 17, 18, 19] s s0 ∧ s 3 = .int .i64 k ∧ topN k a = topN 16 a ∧
    St w [] h0 h0 [.blk bk (.cells (cV a).toArray 64 (0, 0))] w') 16 ⟨16, rfl, by omega, Agree.refl _ _, rfl, rfl, H⟩ ?_
  clear H
  rintro k s w' ⟨_, rfl, hk, hA, e1, ht, H⟩
  obtain ⟨j, rfl⟩ := hA.env1 e1
  clear hA e1
  by_cases hz : 0 < k ∧ (atV a (k - 1)).toNat = 0
  · have g1 : (cV a)[0 + ((k : Int) - 1).toNat * 1]? = some (.int .u32 (atV a (k - 1)).toNat) := by
      rw [show 0 + ((k : Int) - 1).toNat * 1 = k - 1 by omega]; exact atV_lt' a (by omega)
    have ht2 : topN (k - 1) a = topN 16 a := by
      rw [← ht]; obtain ⟨q, rfl⟩ : ∃ q, k = q + 1 := ⟨k - 1, by omega⟩
      simp only [Nat.add_sub_cancel] at hz ⊢; rw [topN, if_pos hz.2]
    repeat' (first | ((first | refine WL.p rfl ?_ | refine WL.u ?_ | refine WL.g rfl rfl ?_ | refine WL.gu rfl ?_); first | refine pvQ ?_ | (refine opk 3 rfl ?_; (refine ost_cmp rfl rfl rfl rfl (fun hc => ?_) (fun hc => ?_) <;> (simp only [cmpP] at hc; try exact prIQ))) | (refine opk 4 rfl ?_; (refine ost_cmp rfl rfl rfl rfl (fun hc => ?_) (fun hc => ?_) <;> (simp only [cmpP] at hc; try exact prIQ))) | (refine opk 9 rfl ?_; (refine ost_boxq H rfl ?_; clear H; intro bk wk H))) | refine Wc.seq ?_ | refine then_n ?_ | refine WL.nil ?_ | refine Wc.region ?_ | refine Wc.block ?_ | refine then_r ?_ | refine then_e ?_ | refine inb_e rfl ?_ | refine inb_o rfl ?_ | refine inb_n ?_ | refine inb_r ?_ | refine Wc.skip ?_ | refine Wc.exit ?_ | refine Wc.ret ?_ | refine Wc.cond_true rfl ?_ | refine Wc.cond_false rfl ?_ | refine WL.skp rfl rfl ?_ | refine WL.sku rfl ?_)
    exact ⟨k - 1, by omega, k - 1, rfl, by omega, by (repeat' (first | exact Agree.refl _ _ | exact Agree.havoc | refine Agree.upd rfl ?_ | refine Agree.hav2 rfl ?_)), by rw [show ((k - 1 : Nat) : Int) = (k : Int) - 1 by omega]; rfl, ht2, H⟩
  · by_cases hk0 : k = 0
    · have ht2 : topN 16 a = k := by rw [← ht, hk0]; rfl
      rw [show encV a = encN a k k by rw [encV, ht2]]
      repeat' (first | ((first | refine WL.p rfl ?_ | refine WL.u ?_ | refine WL.g rfl rfl ?_ | refine WL.gu rfl ?_); first | (refine opk 1 rfl ?_; first | (refine ost_C H rfl (pack_New _ _ (sat_full _)) rfl ?_; clear H; rintro vk wk hfk Lk ⟨b1, rfl, rfl⟩ H; simp only [List.cons_append, List.nil_append] at H) | (refine ost_O (A := .both _ _) H rfl (by (exact ixQ)) (fun HO => pack_Num _ _ _ _ _ _ _ HO k (by omega) (by simp)) rfl ?_; clear H; rintro vk wk hfk Lk ⟨rfl, v2, rfl⟩ H; simp only [List.cons_append, List.nil_append, List.eraseIdx_cons_zero, List.eraseIdx_cons_succ] at H)) | refine pvQ ?_ | (refine opk 3 rfl ?_; (refine ost_cmp rfl rfl rfl rfl (fun hc => ?_) (fun hc => ?_) <;> (simp only [cmpP] at hc; try exact prIQ))) | (refine opk 4 rfl ?_; (refine ost_cmp rfl rfl rfl rfl (fun hc => ?_) (fun hc => ?_) <;> (simp only [cmpP] at hc; try exact prIQ))) | (refine opk 9 rfl ?_; (refine ost_boxq H rfl ?_; clear H; intro bk wk H))) | refine Wc.seq ?_ | refine then_n ?_ | refine WL.nil ?_ | refine Wc.region ?_ | refine Wc.block ?_ | refine then_r ?_ | refine then_e ?_ | refine inb_e rfl ?_ | refine inb_o rfl ?_ | refine inb_n ?_ | refine inb_r ?_ | refine Wc.skip ?_ | refine Wc.exit ?_ | refine Wc.ret ?_ | refine Wc.cond_true rfl ?_ | refine Wc.cond_false rfl ?_ | refine WL.skp rfl rfl ?_ | refine WL.sku rfl ?_)
      rw [layE_ok (by have := putB_len k; simp only [List.length_nil]; omega), List.nil_append, ← encN_zero a k] at H
      refine Wc.loopE (fun s0 m s w' => ∃ (q : Nat) (v : Value), m = k - q ∧ q ≤ k ∧ Agree [6, 28, 29, 30, 31, 32, 33, 34, 35, 36] s s0 ∧ s 28 = .int .i64 q ∧
        St w [] h0 h0 [wr b1 true 0 v (encN a k q), .blk bk (.cells (cV a).toArray 64 (0, 0))] w') k ⟨0, v2, rfl, by omega, Agree.refl _ _, rfl, H⟩ ?_
      clear H
      rintro m s w' ⟨q, v, rfl, hq, hA, e1, H⟩
      obtain ⟨j, rfl⟩ := hA.env1 e1
      clear hA e1
      have hL := encN_len a k q
      by_cases hlt : q < k
      · have g2 := atV_lt' a (i := 0 + (q : Int).toNat * 1) (by omega)
        rw [show atV a (0 + (q : Int).toNat * 1) = atV a q by congr 1; omega] at g2
        have g3 := (atV a q).toNat_lt
        repeat' (first | ((first | refine WL.p rfl ?_ | refine WL.u ?_ | refine WL.g rfl rfl ?_ | refine WL.gu rfl ?_); first | (refine opk 1 rfl ?_; (refine ost_O (A := .both _ _) H rfl (by (exact ixQ)) (fun HO => pack_Num _ _ _ _ _ _ _ HO (atV a q).toNat (by omega) (by omega)) rfl ?_; clear H; rintro vk wk hfk Lk ⟨rfl, v3, rfl⟩ H; simp only [List.cons_append, List.nil_append, List.eraseIdx_cons_zero, List.eraseIdx_cons_succ] at H)) | refine pvQ ?_ | (refine opk 3 rfl ?_; (refine ost_cmp rfl rfl rfl rfl (fun hc => ?_) (fun hc => ?_) <;> (simp only [cmpP] at hc; try exact prIQ))) | (refine opk 4 rfl ?_; (refine ost_cmp rfl rfl rfl rfl (fun hc => ?_) (fun hc => ?_) <;> (simp only [cmpP] at hc; try exact prIQ))) | (refine opk 9 rfl ?_; (refine ost_boxq H rfl ?_; clear H; intro bk wk H))) | refine Wc.seq ?_ | refine then_n ?_ | refine WL.nil ?_ | refine Wc.region ?_ | refine Wc.block ?_ | refine then_r ?_ | refine then_e ?_ | refine inb_e rfl ?_ | refine inb_o rfl ?_ | refine inb_n ?_ | refine inb_r ?_ | refine Wc.skip ?_ | refine Wc.exit ?_ | refine Wc.ret ?_ | refine Wc.cond_true rfl ?_ | refine Wc.cond_false rfl ?_ | refine WL.skp rfl rfl ?_ | refine WL.sku rfl ?_)
        all_goals (rw [layE_ok (by have := putB_len (atV a q).toNat; omega), ← encN_succ] at H; exact ⟨k - (q + 1), by omega, q + 1, v3, rfl, by omega, by (repeat' (first | exact Agree.refl _ _ | exact Agree.havoc | refine Agree.upd rfl ?_ | refine Agree.hav2 rfl ?_)), rfl, H⟩)
      · obtain rfl : q = k := by omega
        have H := H.split
        obtain ⟨av, cv, rfl, -⟩ := H.own8BS (i := 1) rfl
        repeat' (first | ((first | refine WL.p rfl ?_ | refine WL.u ?_ | refine WL.g rfl rfl ?_ | refine WL.gu rfl ?_); first | (refine opk 1 rfl ?_; (refine ost_C H rfl (pack_All_ok b1 _ _ _ (sat_full _) av cv _ _ (H.blk idx0) (H.own8rd (i := 1) rfl) (by omega)) rfl ?_; clear H; rintro vk wk hfk Lk ⟨a1, c1, rfl, rfl⟩ H; simp only [List.cons_append, List.nil_append] at H)) | refine pvQ ?_ | (refine opk 3 rfl ?_; (refine ost_cmp rfl rfl rfl rfl (fun hc => ?_) (fun hc => ?_) <;> (simp only [cmpP] at hc; try exact prIQ))) | (refine opk 4 rfl ?_; (refine ost_cmp rfl rfl rfl rfl (fun hc => ?_) (fun hc => ?_) <;> (simp only [cmpP] at hc; try exact prIQ))) | (refine opk 9 rfl ?_; (refine ost_boxq H rfl ?_; clear H; intro bk wk H))) | refine Wc.seq ?_ | refine then_n ?_ | refine WL.nil ?_ | refine Wc.region ?_ | refine Wc.block ?_ | refine then_r ?_ | refine then_e ?_ | refine inb_e rfl ?_ | refine inb_o rfl ?_ | refine inb_n ?_ | refine inb_r ?_ | refine Wc.skip ?_ | refine Wc.exit ?_ | refine Wc.ret ?_ | refine Wc.cond_true rfl ?_ | refine Wc.cond_false rfl ?_ | refine WL.skp rfl rfl ?_ | refine WL.sku rfl ?_)
        exact fn_ret1 (v := .slice _ _ _) rfl rfl ⟨_, _, H.pick 0 rfl, _, _, rfl, rfl, rfl⟩
    · have g1 : (cV a)[0 + ((k : Int) - 1).toNat * 1]? = some (.int .u32 (atV a (k - 1)).toNat) := by
        rw [show 0 + ((k : Int) - 1).toNat * 1 = k - 1 by omega]; exact atV_lt' a (by omega)
      have ht2 : topN 16 a = k := by
        rw [← ht]; obtain ⟨q, rfl⟩ : ∃ q, k = q + 1 := ⟨k - 1, by omega⟩
        simp only [Nat.add_sub_cancel] at hz ⊢; rw [topN, if_neg (fun h => hz ⟨by omega, h⟩)]
      rw [show encV a = encN a k k by rw [encV, ht2]]
      repeat' (first | ((first | refine WL.p rfl ?_ | refine WL.u ?_ | refine WL.g rfl rfl ?_ | refine WL.gu rfl ?_); first | (refine opk 1 rfl ?_; first | (refine ost_C H rfl (pack_New _ _ (sat_full _)) rfl ?_; clear H; rintro vk wk hfk Lk ⟨b1, rfl, rfl⟩ H; simp only [List.cons_append, List.nil_append] at H) | (refine ost_O (A := .both _ _) H rfl (by (exact ixQ)) (fun HO => pack_Num _ _ _ _ _ _ _ HO k (by omega) (by simp)) rfl ?_; clear H; rintro vk wk hfk Lk ⟨rfl, v2, rfl⟩ H; simp only [List.cons_append, List.nil_append, List.eraseIdx_cons_zero, List.eraseIdx_cons_succ] at H)) | refine pvQ ?_ | (refine opk 3 rfl ?_; (refine ost_cmp rfl rfl rfl rfl (fun hc => ?_) (fun hc => ?_) <;> (simp only [cmpP] at hc; try exact prIQ))) | (refine opk 4 rfl ?_; (refine ost_cmp rfl rfl rfl rfl (fun hc => ?_) (fun hc => ?_) <;> (simp only [cmpP] at hc; try exact prIQ))) | (refine opk 9 rfl ?_; (refine ost_boxq H rfl ?_; clear H; intro bk wk H))) | refine Wc.seq ?_ | refine then_n ?_ | refine WL.nil ?_ | refine Wc.region ?_ | refine Wc.block ?_ | refine then_r ?_ | refine then_e ?_ | refine inb_e rfl ?_ | refine inb_o rfl ?_ | refine inb_n ?_ | refine inb_r ?_ | refine Wc.skip ?_ | refine Wc.exit ?_ | refine Wc.ret ?_ | refine Wc.cond_true rfl ?_ | refine Wc.cond_false rfl ?_ | refine WL.skp rfl rfl ?_ | refine WL.sku rfl ?_)
      rw [layE_ok (by have := putB_len k; simp only [List.length_nil]; omega), List.nil_append, ← encN_zero a k] at H
      refine Wc.loopE (fun s0 m s w' => ∃ (q : Nat) (v : Value), m = k - q ∧ q ≤ k ∧ Agree [6, 28, 29, 30, 31, 32, 33, 34, 35, 36] s s0 ∧ s 28 = .int .i64 q ∧
        St w [] h0 h0 [wr b1 true 0 v (encN a k q), .blk bk (.cells (cV a).toArray 64 (0, 0))] w') k ⟨0, v2, rfl, by omega, Agree.refl _ _, rfl, H⟩ ?_
      clear H
      rintro m s w' ⟨q, v, rfl, hq, hA, e1, H⟩
      obtain ⟨j, rfl⟩ := hA.env1 e1
      clear hA e1
      have hL := encN_len a k q
      by_cases hlt : q < k
      · have g2 := atV_lt' a (i := 0 + (q : Int).toNat * 1) (by omega)
        rw [show atV a (0 + (q : Int).toNat * 1) = atV a q by congr 1; omega] at g2
        have g3 := (atV a q).toNat_lt
        repeat' (first | ((first | refine WL.p rfl ?_ | refine WL.u ?_ | refine WL.g rfl rfl ?_ | refine WL.gu rfl ?_); first | (refine opk 1 rfl ?_; (refine ost_O (A := .both _ _) H rfl (by (exact ixQ)) (fun HO => pack_Num _ _ _ _ _ _ _ HO (atV a q).toNat (by omega) (by omega)) rfl ?_; clear H; rintro vk wk hfk Lk ⟨rfl, v3, rfl⟩ H; simp only [List.cons_append, List.nil_append, List.eraseIdx_cons_zero, List.eraseIdx_cons_succ] at H)) | refine pvQ ?_ | (refine opk 3 rfl ?_; (refine ost_cmp rfl rfl rfl rfl (fun hc => ?_) (fun hc => ?_) <;> (simp only [cmpP] at hc; try exact prIQ))) | (refine opk 4 rfl ?_; (refine ost_cmp rfl rfl rfl rfl (fun hc => ?_) (fun hc => ?_) <;> (simp only [cmpP] at hc; try exact prIQ))) | (refine opk 9 rfl ?_; (refine ost_boxq H rfl ?_; clear H; intro bk wk H))) | refine Wc.seq ?_ | refine then_n ?_ | refine WL.nil ?_ | refine Wc.region ?_ | refine Wc.block ?_ | refine then_r ?_ | refine then_e ?_ | refine inb_e rfl ?_ | refine inb_o rfl ?_ | refine inb_n ?_ | refine inb_r ?_ | refine Wc.skip ?_ | refine Wc.exit ?_ | refine Wc.ret ?_ | refine Wc.cond_true rfl ?_ | refine Wc.cond_false rfl ?_ | refine WL.skp rfl rfl ?_ | refine WL.sku rfl ?_)
        all_goals (rw [layE_ok (by have := putB_len (atV a q).toNat; omega), ← encN_succ] at H; exact ⟨k - (q + 1), by omega, q + 1, v3, rfl, by omega, by (repeat' (first | exact Agree.refl _ _ | exact Agree.havoc | refine Agree.upd rfl ?_ | refine Agree.hav2 rfl ?_)), rfl, H⟩)
      · obtain rfl : q = k := by omega
        have H := H.split
        obtain ⟨av, cv, rfl, -⟩ := H.own8BS (i := 1) rfl
        repeat' (first | ((first | refine WL.p rfl ?_ | refine WL.u ?_ | refine WL.g rfl rfl ?_ | refine WL.gu rfl ?_); first | (refine opk 1 rfl ?_; (refine ost_C H rfl (pack_All_ok b1 _ _ _ (sat_full _) av cv _ _ (H.blk idx0) (H.own8rd (i := 1) rfl) (by omega)) rfl ?_; clear H; rintro vk wk hfk Lk ⟨a1, c1, rfl, rfl⟩ H; simp only [List.cons_append, List.nil_append] at H)) | refine pvQ ?_ | (refine opk 3 rfl ?_; (refine ost_cmp rfl rfl rfl rfl (fun hc => ?_) (fun hc => ?_) <;> (simp only [cmpP] at hc; try exact prIQ))) | (refine opk 4 rfl ?_; (refine ost_cmp rfl rfl rfl rfl (fun hc => ?_) (fun hc => ?_) <;> (simp only [cmpP] at hc; try exact prIQ))) | (refine opk 9 rfl ?_; (refine ost_boxq H rfl ?_; clear H; intro bk wk H))) | refine Wc.seq ?_ | refine then_n ?_ | refine WL.nil ?_ | refine Wc.region ?_ | refine Wc.block ?_ | refine then_r ?_ | refine then_e ?_ | refine inb_e rfl ?_ | refine inb_o rfl ?_ | refine inb_n ?_ | refine inb_r ?_ | refine Wc.skip ?_ | refine Wc.exit ?_ | refine Wc.ret ?_ | refine Wc.cond_true rfl ?_ | refine Wc.cond_false rfl ?_ | refine WL.skp rfl rfl ?_ | refine WL.sku rfl ?_)
        exact fn_ret1 (v := .slice _ _ _) rfl rfl ⟨_, _, H.pick 0 rfl, _, _, rfl, rfl, rfl⟩
end Go.Tg
