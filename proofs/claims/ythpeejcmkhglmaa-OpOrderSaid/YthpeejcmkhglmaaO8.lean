/- Contracts of Go functions that the laws reach: what each call answers and leaves in memory, for all arguments within the bounds that each theorem names. -/
import Derived.Test.YthpeejcmkhglmaaInst
import Derived.Test.YthpeejcmkhglmaaAuto
import Derived.Test.YthpeejcmkhglmaaO7
import Derived.Test.YthpeejcmkhglmaaVec4
set_option linter.unusedVariables false
set_option linter.unusedSimpArgs false
set_option maxRecDepth 100000
set_option maxHeartbeats 1000000
namespace Go.Tg
open Go Go.Proofs
def oA : OpT := ⟨⟨0, 1⟩, 1, 3, 4, 1, 0, fun _ => 0⟩
def oB : OpT := ⟨⟨1, 1⟩, 3, 3, 4, 0, 0, v2 1 0⟩
theorem a6_1 : rightO oA 1 = true := by kernel_rfl
theorem a6_2 : rightO oB 1 = false := by kernel_rfl
theorem a6_3 : rightO oB 2 = true := by kernel_rfl
theorem a6_4 : endsO oB oA = true := by kernel_rfl
theorem a6_5 : endsO oA oB = false := by kernel_rfl
theorem a6_6 : lessO oA oB = true := by kernel_rfl
theorem a6_7 : cntO oB = 2 := by kernel_rfl
theorem a6_8 : rightO oA 16 = true := by kernel_rfl
theorem a6_9 : readyO (fun _ => 0) oB = 9 := by kernel_rfl
theorem a6_10 : readyO (v2 1 0) oB = 0 := by kernel_rfl
theorem b6_1 (w : World) : SpecV Try.prog 60 #[.agg (cOp oA).toArray, .int .i64 1] w (.bool true) := a6_1 ▸ op_Right oA 1 w
theorem b6_2 (w : World) : SpecV Try.prog 60 #[.agg (cOp oB).toArray, .int .i64 1] w (.bool false) := a6_2 ▸ op_Right oB 1 w
theorem b6_3 (w : World) : SpecV Try.prog 60 #[.agg (cOp oB).toArray, .int .i64 2] w (.bool true) := a6_3 ▸ op_Right oB 2 w
theorem b6_4 (w : World) : SpecV Try.prog 66 #[.agg (cOp oB).toArray, .agg (cOp oA).toArray] w (.bool true) := a6_4 ▸ op_Ends oB oA w
theorem b6_5 (w : World) : SpecV Try.prog 66 #[.agg (cOp oA).toArray, .agg (cOp oB).toArray] w (.bool false) := a6_5 ▸ op_Ends oA oB w
theorem b6_6 (w : World) : SpecV Try.prog 64 #[.agg (cOp oA).toArray, .agg (cOp oB).toArray] w (.bool true) := a6_6 ▸ op_Less oA oB w
theorem b6_7 (w : World) : SpecV Try.prog 62 #[.agg (cOp oB).toArray] w (.int .u64 2) := by
  have := op_Count oB w; rw [a6_7] at this; exact this
theorem b6_9 (w : World) : SpecV Try.prog 68 #[.agg (cV fun _ => 0).toArray, .agg (cOp oB).toArray] w (.int .i64 9) := by
  have := op_Ready (fun _ => 0) oB w; rw [a6_9] at this; exact this
theorem b6_10 (w : World) : SpecV Try.prog 68 #[.agg (cV (v2 1 0)).toArray, .agg (cOp oB).toArray] w (.int .i64 0) := by
  have := op_Ready (v2 1 0) oB w; rw [a6_10] at this; exact this
theorem outO_A : outO oA = (encO oA, 0) := by simp [outO, a6_8]
theorem b6_E (h0 : FH) (w : World) (hs : Sat h0 w) : Spec Try.prog 70 #[.agg (cOp oA).toArray] w [] h0 (fun v h' L' => ∃ a' c', v = .tuple #[.slice a' (encO oA).length c', .int .i64 0] ∧ h' = h0 ∧ L' = [own8 (.slice a' (encO oA).length c') 5 (encO oA)]) := by
  have := op_Encode h0 oA w hs; rw [outO_A] at this; exact this
theorem b6_D (h0 : FH) (a : Option Addr) (c : Nat) (w : World) (hs : Sat h0 w) (hr : BS h0 a c (encO oA)) : SpecV Try.prog 72 #[.slice a (encO oA).length c] w (.tuple #[.agg (cOp oA).toArray, .int .i64 0]) := by
  have := op_Decode h0 a c (encO oA) w hs hr (by have := encO_len oA; omega); rw [decO_enc a6_8] at this; exact this
theorem alive06 (w : World) : SpecV Try.prog 59 #[] w (.bool true) := by
  refine specV_of fun h0 hs H => ?_
  have lA := cOp_len oA
  have lB := cOp_len oB
  refine calls_of Try.func59 rfl Try.ntmps59 (by simp) ?_
  repeat' (first | ((first | refine WL.p rfl ?_ | refine WL.u ?_ | refine WL.g rfl rfl ?_ | refine WL.gu rfl ?_); first | (refine opk 1 rfl ?_; first | (refine ost_C H rfl (b6_E _ _ (sat_full _)) rfl ?_; clear H; rintro vk wk hfk Lk ⟨a1, c1, rfl, _, rfl⟩ H; simp only [List.cons_append, List.nil_append] at H) | (refine ost_V H rfl (b6_D _ _ _ _ (sat_full _) (H.own8rd (i := 0) rfl)) rfl ?_; clear H; intro wk H) | (refine ost_V H rfl (b6_1 _) rfl ?_; clear H; intro wk H) | (refine ost_V H rfl (b6_2 _) rfl ?_; clear H; intro wk H) | (refine ost_V H rfl (b6_3 _) rfl ?_; clear H; intro wk H) | (refine ost_V H rfl (b6_4 _) rfl ?_; clear H; intro wk H) | (refine ost_V H rfl (b6_5 _) rfl ?_; clear H; intro wk H) | (refine ost_V H rfl (b6_6 _) rfl ?_; clear H; intro wk H) | (refine ost_V H rfl (b6_7 _) rfl ?_; clear H; intro wk H) | (refine ost_V H rfl (b6_9 _) rfl ?_; clear H; intro wk H) | (refine ost_V H rfl (b6_10 _) rfl ?_; clear H; intro wk H)) | (refine opk 9 rfl ?_; first | (refine ost_buildS (l := cOp oA) rfl (evP_cons (rfl : _ = Value.agg _) (evP_cons (rfl : _ = Value.int .u8 _) (evP_cons (rfl : _ = Value.int .u16 _) (evP_cons (rfl : _ = Value.int .u16 _) (evP_cons (rfl : _ = Value.int .u16 _) evP_nil))))) (by kernel_rfl) (by kernel_rfl) ?_) | (refine ost_buildS (l := cOp oB) rfl (evP_cons (rfl : _ = Value.agg _) (evP_cons (rfl : _ = Value.int .u8 _) (evP_cons (rfl : _ = Value.int .u16 _) (evP_cons (rfl : _ = Value.int .u16 _) (evP_cons (rfl : _ = Value.agg _) evP_nil))))) (by kernel_rfl) (by kernel_rfl) ?_) | (refine ost_buildAr (l := cV (v2 1 0)) rfl (evP1 (rfl : _ = Value.int .u32 1)) (by rfl) (by kernel_rfl) ?_) | (refine ost_buildAr (l := cV fun _ => 0) rfl evP_nil (by rfl) (by kernel_rfl) ?_)) | refine pvQ ?_ | (refine opk 3 rfl ?_; first | (refine ost_eqA rfl (by decide) rfl rfl tyQ tyQ (fun hc => ?_) (fun hc => ?_) <;> try exact prEQ) | (refine ost_neA rfl (by decide) rfl rfl tyQ tyQ (fun hc => ?_) (fun hc => ?_) <;> try exact prEQ) | (refine ost_cmp rfl rfl rfl rfl (fun hc => ?_) (fun hc => ?_) <;> (simp only [cmpP] at hc; try exact prIQ))) | (refine opk 4 rfl ?_; (refine ost_cmp rfl rfl rfl rfl (fun hc => ?_) (fun hc => ?_) <;> (simp only [cmpP] at hc; try exact prIQ))) | (refine opk 8 rfl ?_; (refine ost_storeW H rfl rfl rfl rfl lQ ixQ lQ okQ ?_; clear H; intro wk H; simp only [List.set_cons_zero, List.set_cons_succ, Nat.reduceAdd] at H)) | (refine opk 9 rfl ?_; (refine ost_allocA H rfl ?_; clear H; intro bk wk H))) | refine Wc.seq ?_ | refine then_n ?_ | refine WL.nil ?_ | refine Wc.region ?_ | refine Wc.block ?_ | refine then_r ?_ | refine then_e ?_ | refine inb_e rfl ?_ | refine inb_o rfl ?_ | refine inb_n ?_ | refine inb_r ?_ | refine Wc.skip ?_ | refine Wc.exit ?_ | refine Wc.ret ?_ | refine Wc.cond_true rfl ?_ | refine Wc.cond_false rfl ?_ | refine WL.skp rfl rfl ?_ | refine WL.sku rfl ?_)
  (first | refine fn_ret1 (v := .bool _) rfl rfl ⟨?_, H.fr⟩ | refine fn_ret1 (v := .int _ _) rfl rfl ⟨?_, H.fr⟩ | refine fn_ret1 (v := .string _) rfl rfl ⟨?_, H.fr⟩); rfl
end Go.Tg
