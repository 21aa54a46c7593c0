/- Contracts of Go functions that the laws reach: what each call answers and leaves in memory, for all arguments within the bounds that each theorem names. -/
import Derived.Test.YthpeejcmkhglmaaInst
import Derived.Test.YthpeejcmkhglmaaAuto
import Derived.Test.YthpeejcmkhglmaaVec2
import Derived.Test.YthpeejcmkhglmaaVec3
set_option linter.unusedVariables false
set_option linter.unusedSimpArgs false
set_option maxRecDepth 100000
set_option maxHeartbeats 4000000
namespace Go.Tg
open Go Go.Proofs
/-- The vector that begins with these two numbers. -/
def v2 (x y : UInt32) : V16 := fun i => if i.val = 0 then x else if i.val = 1 then y else 0
theorem al_n1 : cV (nextV (v2 1 2) ⟨1, 3⟩).1 = cV (v2 1 3) := by kernel_rfl
theorem al_n2 : (nextV (v2 1 2) ⟨1, 3⟩).2 = 0 := by kernel_rfl
theorem al_n3 : (nextV (v2 1 2) ⟨0, 3⟩).2 = 9 := by kernel_rfl
theorem al_o1 : orderV (v2 1 2) (v2 1 3) = -1 := by kernel_rfl
theorem al_o2 : orderV (v2 1 2) (v2 2 1) = 2 := by kernel_rfl
theorem al_l : leV (v2 1 2) (v2 1 3) = true := by kernel_rfl
theorem al_r : rightV (v2 1 2) 2 = true := by kernel_rfl
theorem al_s : sumV (v2 1 3) = 4 := by kernel_rfl
theorem al_e : encV (v2 0 5) = [2, 0, 5] := by kernel_rfl
theorem al_N1 (w : World) : SpecV Try.prog 45 #[.agg (cV (v2 1 2)).toArray, .agg [.int .u8 1, .int .u32 3].toArray] w (.tuple #[.agg (cV (v2 1 3)).toArray, .int .i64 0]) := by
  have := vec_Next (v2 1 2) ⟨1, 3⟩ w; rw [al_n1, al_n2] at this; exact this
theorem al_N2 (w : World) : SpecV Try.prog 45 #[.agg (cV (v2 1 2)).toArray, .agg [.int .u8 0, .int .u32 3].toArray] w (.tuple #[.agg (cV (nextV (v2 1 2) ⟨0, 3⟩).1).toArray, .int .i64 9]) := by
  have := vec_Next (v2 1 2) ⟨0, 3⟩ w; rw [al_n3] at this; exact this
theorem al_O1 (w : World) : SpecV Try.prog 43 #[.agg (cV (v2 1 2)).toArray, .agg (cV (v2 1 3)).toArray] w (.int .i64 (-1)) := al_o1 ▸ vec_Order (v2 1 2) (v2 1 3) w
theorem al_O2 (w : World) : SpecV Try.prog 43 #[.agg (cV (v2 1 2)).toArray, .agg (cV (v2 2 1)).toArray] w (.int .i64 2) := al_o2 ▸ vec_Order (v2 1 2) (v2 2 1) w
theorem al_B (w : World) : SpecV Try.prog 41 #[.agg (cV (v2 1 2)).toArray, .agg (cV (v2 1 3)).toArray] w (.bool true) := al_l ▸ vec_Below (v2 1 2) (v2 1 3) w
theorem al_R (w : World) : SpecV Try.prog 39 #[.agg (cV (v2 1 2)).toArray, .int .i64 2] w (.bool true) := al_r ▸ vec_Right (v2 1 2) 2 w
theorem al_S (w : World) : SpecV Try.prog 53 #[.agg (cV (v2 1 3)).toArray] w (.int .u64 4) := by
  have := vec_Sum (v2 1 3) w; rw [al_s] at this; exact this
theorem al_E (h0 : FH) (w : World) (hs : Sat h0 w) : Spec Try.prog 55 #[.agg (cV (v2 0 5)).toArray] w [] h0 (fun v h' L' => ∃ a' c', v = .slice a' [2, 0, 5].length c' ∧ h' = h0 ∧ L' = [own8 v 5 [2, 0, 5]]) := by
  have := vec_Encode h0 (v2 0 5) w hs; rw [al_e] at this; exact this
theorem alive04 (w : World) : SpecV Try.prog 38 #[] w (.bool true) := by
  refine specV_of fun h0 hs H => ?_
  refine calls_of Try.func38 rfl Try.ntmps38 (by simp) ?_
  have l1 := cV_len (v2 1 2); have l2 := cV_len (v2 1 3); have l3 := cV_len (nextV (v2 1 2) ⟨0, 3⟩).1
  repeat' (first | ((first | refine WL.p rfl ?_ | refine WL.u ?_ | refine WL.g rfl rfl ?_ | refine WL.gu rfl ?_); first | (refine opk 1 rfl ?_; first | (refine ost_V H rfl (al_N1 _) rfl ?_; clear H; intro wk H) | (refine ost_V H rfl (al_N2 _) rfl ?_; clear H; intro wk H) | (refine ost_V H rfl (al_O1 _) rfl ?_; clear H; intro wk H) | (refine ost_V H rfl (al_O2 _) rfl ?_; clear H; intro wk H) | (refine ost_V H rfl (al_B _) rfl ?_; clear H; intro wk H) | (refine ost_V H rfl (al_R _) rfl ?_; clear H; intro wk H) | (refine ost_V H rfl (al_S _) rfl ?_; clear H; intro wk H) | (refine ost_C H rfl (al_E _ _ (sat_full _)) rfl ?_; clear H; rintro vk wk hfk Lk ⟨a1, c1, rfl, _, rfl⟩ H; simp only [List.cons_append, List.nil_append] at H)) | (refine opk 6 rfl ?_; (refine ost_toStr (xs := [2, 0, 5]) rfl rfl (H.own8rd (i := 0) rfl) ?_)) | (refine opk 9 rfl ?_; first | (refine ost_buildAr (l := cV (v2 1 2)) rfl (evP2 (rfl : _ = Value.int .u32 1) (rfl : _ = Value.int .u32 2)) (by rfl) (by kernel_rfl) ?_) | (refine ost_buildAr (l := cV (v2 1 3)) rfl (evP2 (rfl : _ = Value.int .u32 1) (rfl : _ = Value.int .u32 3)) (by rfl) (by kernel_rfl) ?_) | (refine ost_buildAr (l := cV (v2 2 1)) rfl (evP2 (rfl : _ = Value.int .u32 2) (rfl : _ = Value.int .u32 1)) (by rfl) (by kernel_rfl) ?_) | (refine ost_buildAr (l := cV (v2 0 5)) rfl (evP2 (rfl : _ = Value.int .u32 0) (rfl : _ = Value.int .u32 5)) (by rfl) (by kernel_rfl) ?_)) | refine pvQ ?_ | (refine opk 3 rfl ?_; first | (refine ost_eqA rfl (by decide) rfl rfl tyQ tyQ (fun hc => ?_) (fun hc => ?_) <;> try exact prEQ) | (refine ost_neA rfl (by decide) rfl rfl tyQ tyQ (fun hc => ?_) (fun hc => ?_) <;> try exact prEQ) | (refine ost_cmp rfl rfl rfl rfl (fun hc => ?_) (fun hc => ?_) <;> (simp only [cmpP] at hc; try exact prIQ)) | (refine ost_streqB rfl rfl rfl (fun hc => ?_) (fun hc => ?_) <;> try exact prEQ) | (refine ost_strneB rfl rfl rfl (fun hc => ?_) (fun hc => ?_) <;> try exact prEQ) | (refine ost_streq rfl rfl rfl (fun hc => ?_) (fun hc => ?_) <;> try exact absurd rfl hc) | (refine ost_strne rfl rfl rfl (fun hc => ?_) (fun hc => ?_))) | (refine opk 4 rfl ?_; (refine ost_cmp rfl rfl rfl rfl (fun hc => ?_) (fun hc => ?_) <;> (simp only [cmpP] at hc; try exact prIQ))) | (refine opk 8 rfl ?_; (refine ost_storeW H rfl rfl rfl rfl lQ ixQ lQ okQ ?_; clear H; intro wk H; simp only [List.set_cons_zero, List.set_cons_succ, Nat.reduceAdd] at H)) | (refine opk 9 rfl ?_; (refine ost_allocA H rfl ?_; clear H; intro bk wk H))) | refine Wc.seq ?_ | refine then_n ?_ | refine WL.nil ?_ | refine Wc.region ?_ | refine Wc.block ?_ | refine then_r ?_ | refine then_e ?_ | refine inb_e rfl ?_ | refine inb_o rfl ?_ | refine inb_n ?_ | refine inb_r ?_ | refine Wc.skip ?_ | refine Wc.exit ?_ | refine Wc.ret ?_ | refine Wc.cond_true rfl ?_ | refine Wc.cond_false rfl ?_ | refine WL.skp rfl rfl ?_ | refine WL.sku rfl ?_)
  (first | refine fn_ret1 (v := .bool _) rfl rfl ⟨?_, H.fr⟩ | refine fn_ret1 (v := .int _ _) rfl rfl ⟨?_, H.fr⟩ | refine fn_ret1 (v := .string _) rfl rfl ⟨?_, H.fr⟩); rfl
end Go.Tg
