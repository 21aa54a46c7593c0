/- Contracts of Go functions that the laws reach: what each call answers and leaves in memory, for all arguments within the bounds that each theorem names. -/
import Derived.Test.YthpeejcmkhglmaaInst
import Derived.Test.YthpeejcmkhglmaaAuto
import Derived.Test.YthpeejcmkhglmaaSl
import Derived.Test.YthpeejcmkhglmaaVec2
set_option linter.unusedVariables false
set_option linter.unusedSimpArgs false
set_option maxRecDepth 100000
set_option maxHeartbeats 4000000
namespace Go.Tg
open Go Go.Proofs
/-- An operation. -/
structure OpT where
  dot : DotT
  kind : UInt8
  cart : UInt16
  item : UInt16
  qty : UInt16
  tick : UInt32
  ctx : V16
def cOp (o : OpT) : List Value := .int .u8 o.dot.rep.toNat :: .int .u32 o.dot.seq.toNat :: .int .u8 o.kind.toNat :: .int .u16 o.cart.toNat :: .int .u16 o.item.toNat :: .int .u16 o.qty.toNat :: .int .u32 o.tick.toNat :: cV o.ctx
theorem cOp_len (o : OpT) : (cOp o).length = 23 := by simp [cOp, cV_len]
theorem cOp_dot (o : OpT) : ((cOp o).drop (0 + 0)).take 2 = cDot o.dot := rfl
theorem cOp_ctx (o : OpT) : ((cOp o).drop (0 + 7)).take 16 = cV o.ctx := by
  show (cV o.ctx).take 16 = _
  rw [List.take_of_length_le (by rw [cV_len]; omega)]
theorem cOp_at (o : OpT) (h : o.dot.rep.toNat < 16) : (cOp o)[0 + 7 + (o.dot.rep.toNat : Int).toNat * 1]? = some (.int .u32 (atV o.ctx o.dot.rep.toNat).toNat) := by
  have := cV_at o.ctx h
  rw [show 0 + 7 + (o.dot.rep.toNat : Int).toNat * 1 = (0 + (o.dot.rep.toNat : Int).toNat * 1) + 7 by omega]
  exact this
theorem cOp_one (o : OpT) : ∀ v ∈ cOp o, v.oneCell' = true := by
  intro v hv
  simp only [cOp, List.mem_cons] at hv
  rcases hv with rfl | rfl | rfl | rfl | rfl | rfl | rfl | hv
  all_goals first | rfl | exact cV_one _ _ hv
def shapedO (o : OpT) : Bool :=
  if o.kind.toNat = 1 then decide (0 < o.qty.toNat) else if o.kind.toNat = 2 then true else if o.kind.toNat = 3 then decide (o.qty.toNat = 0) else if o.kind.toNat = 4 ∨ o.kind.toNat = 5 then decide (o.item.toNat = 0) && decide (o.qty.toNat = 0) else false
theorem op_shaped (o : OpT) (w : World) : SpecV Try.prog 88 #[.agg (cOp o).toArray] w (.bool (shapedO o)) := by
  refine specV_of fun h0 hs H => ?_
  have lo := cOp_len o
  refine calls_of Try.func88 rfl Try.ntmps88 (by simp) ?_
  repeat' (first | ((first | refine WL.p rfl ?_ | refine WL.u ?_ | refine WL.g rfl rfl ?_ | refine WL.gu rfl ?_); first | refine pvQ ?_ | (refine opk 3 rfl ?_; (refine ost_cmp rfl rfl rfl rfl (fun hc => ?_) (fun hc => ?_) <;> (simp only [cmpP] at hc; try exact prIQ))) | (refine opk 4 rfl ?_; (refine ost_cmp rfl rfl rfl rfl (fun hc => ?_) (fun hc => ?_) <;> (simp only [cmpP] at hc; try exact prIQ))) | (refine opk 9 rfl ?_; (refine ost_boxq H rfl ?_; clear H; intro bk wk H))) | refine Wc.seq ?_ | refine then_n ?_ | refine WL.nil ?_ | refine Wc.region ?_ | refine Wc.block ?_ | refine then_r ?_ | refine then_e ?_ | refine inb_e rfl ?_ | refine inb_o rfl ?_ | refine inb_n ?_ | refine inb_r ?_ | refine Wc.skip ?_ | refine Wc.exit ?_ | refine Wc.ret ?_ | refine Wc.cond_true rfl ?_ | refine Wc.cond_false rfl ?_ | refine WL.skp rfl rfl ?_ | refine WL.sku rfl ?_)
  all_goals ((first | refine fn_ret1 (v := .bool _) rfl rfl ⟨?_, H.fr⟩ | refine fn_ret1 (v := .int _ _) rfl rfl ⟨?_, H.fr⟩ | refine fn_ret1 (v := .string _) rfl rfl ⟨?_, H.fr⟩); congr 1; unfold shapedO; (repeat (first | rw [if_pos (by omega)] | rw [if_neg (by omega)])); (try rfl); (try (simp; omega)); (try (simp; done)))
def layO (o : OpT) : Bool := decide (o.kind.toNat = 1) || decide (o.kind.toNat = 2) || decide (o.kind.toNat = 4)
theorem op_lays (o : OpT) (w : World) : SpecV Try.prog 94 #[.agg (cOp o).toArray] w (.bool (layO o)) := by
  refine specV_of fun h0 hs H => ?_
  have lo := cOp_len o
  refine calls_of Try.func94 rfl Try.ntmps94 (by simp) ?_
  repeat' (first | ((first | refine WL.p rfl ?_ | refine WL.u ?_ | refine WL.g rfl rfl ?_ | refine WL.gu rfl ?_); first | refine pvQ ?_ | (refine opk 3 rfl ?_; (refine ost_cmp rfl rfl rfl rfl (fun hc => ?_) (fun hc => ?_) <;> (simp only [cmpP] at hc; try exact prIQ))) | (refine opk 4 rfl ?_; (refine ost_cmp rfl rfl rfl rfl (fun hc => ?_) (fun hc => ?_) <;> (simp only [cmpP] at hc; try exact prIQ))) | (refine opk 9 rfl ?_; (refine ost_boxq H rfl ?_; clear H; intro bk wk H))) | refine Wc.seq ?_ | refine then_n ?_ | refine WL.nil ?_ | refine Wc.region ?_ | refine Wc.block ?_ | refine then_r ?_ | refine then_e ?_ | refine inb_e rfl ?_ | refine inb_o rfl ?_ | refine inb_n ?_ | refine inb_r ?_ | refine Wc.skip ?_ | refine Wc.exit ?_ | refine Wc.ret ?_ | refine Wc.cond_true rfl ?_ | refine Wc.cond_false rfl ?_ | refine WL.skp rfl rfl ?_ | refine WL.sku rfl ?_)
  all_goals ((first | refine fn_ret1 (v := .bool _) rfl rfl ⟨?_, H.fr⟩ | refine fn_ret1 (v := .int _ _) rfl rfl ⟨?_, H.fr⟩ | refine fn_ret1 (v := .string _) rfl rfl ⟨?_, H.fr⟩); congr 1; simp [layO]; omega)
theorem r6_Lays (o : OpT) (w : World) : SpecV Try.prog 95 #[.agg (cOp o).toArray] w (.bool (layO o)) := by
  refine specV_of fun h0 hs H => ?_
  have lo := cOp_len o
  refine calls_of Try.func95 rfl Try.ntmps95 (by simp) ?_
  repeat' (first | ((first | refine WL.p rfl ?_ | refine WL.u ?_ | refine WL.g rfl rfl ?_ | refine WL.gu rfl ?_); first | refine pvQ ?_ | (refine opk 3 rfl ?_; (refine ost_cmp rfl rfl rfl rfl (fun hc => ?_) (fun hc => ?_) <;> (simp only [cmpP] at hc; try exact prIQ))) | (refine opk 4 rfl ?_; (refine ost_cmp rfl rfl rfl rfl (fun hc => ?_) (fun hc => ?_) <;> (simp only [cmpP] at hc; try exact prIQ))) | (refine opk 9 rfl ?_; (refine ost_boxq H rfl ?_; clear H; intro bk wk H))) | refine Wc.seq ?_ | refine then_n ?_ | refine WL.nil ?_ | refine Wc.region ?_ | refine Wc.block ?_ | refine then_r ?_ | refine then_e ?_ | refine inb_e rfl ?_ | refine inb_o rfl ?_ | refine inb_n ?_ | refine inb_r ?_ | refine Wc.skip ?_ | refine Wc.exit ?_ | refine Wc.ret ?_ | refine Wc.cond_true rfl ?_ | refine Wc.cond_false rfl ?_ | refine WL.skp rfl rfl ?_ | refine WL.sku rfl ?_)
  all_goals ((first | refine fn_ret1 (v := .bool _) rfl rfl ⟨?_, H.fr⟩ | refine fn_ret1 (v := .int _ _) rfl rfl ⟨?_, H.fr⟩ | refine fn_ret1 (v := .string _) rfl rfl ⟨?_, H.fr⟩); congr 1; simp [layO]; omega)
def cntO (o : OpT) : Nat := sumV o.ctx + 1
theorem op_Count (o : OpT) (w : World) : SpecV Try.prog 62 #[.agg (cOp o).toArray] w (.int .u64 (cntO o)) := by
  refine specV_of fun h0 hs H => ?_
  have lo := cOp_len o
  have lc := cV_len o.ctx
  have hc := cOp_ctx o
  have hs := sumN_le o.ctx 16
  have hs : sumV o.ctx ≤ 16 * 4294967295 := hs
  refine calls_of Try.func62 rfl Try.ntmps62 (by simp) ?_
  repeat' (first | ((first | refine WL.p rfl ?_ | refine WL.u ?_); first | (refine opk 1 rfl ?_; (refine ost_V H rfl (vec_Sum _ _) rfl ?_; clear H; intro wk H)) | refine pvQ ?_ | (refine opk 9 rfl ?_; (refine ost_boxq H rfl ?_; clear H; intro bk wk H))) | refine Wc.seq ?_ | refine then_n ?_ | refine WL.nil ?_ | refine Wc.region ?_ | refine Wc.block ?_ | refine then_r ?_ | refine then_e ?_ | refine inb_e rfl ?_ | refine inb_o rfl ?_ | refine inb_n ?_ | refine inb_r ?_ | refine Wc.skip ?_ | refine Wc.exit ?_ | refine Wc.ret ?_ | refine Wc.cond_true rfl ?_ | refine Wc.cond_false rfl ?_)
  (first | refine fn_ret1 (v := .bool _) rfl rfl ⟨?_, H.fr⟩ | refine fn_ret1 (v := .int _ _) rfl rfl ⟨?_, H.fr⟩ | refine fn_ret1 (v := .string _) rfl rfl ⟨?_, H.fr⟩); rfl
theorem r6_Count (o : OpT) (w : World) : SpecV Try.prog 63 #[.agg (cOp o).toArray] w (.int .u64 (cntO o)) := by
  refine specV_of fun h0 hs H => ?_
  have lo := cOp_len o
  have lc := cV_len o.ctx
  have hc := cOp_ctx o
  have hs := sumN_le o.ctx 16
  have hs : sumV o.ctx ≤ 16 * 4294967295 := hs
  refine calls_of Try.func63 rfl Try.ntmps63 (by simp) ?_
  repeat' (first | ((first | refine WL.p rfl ?_ | refine WL.u ?_); first | (refine opk 1 rfl ?_; (refine ost_V H rfl (ref4_Sum _ _) rfl ?_; clear H; intro wk H)) | refine pvQ ?_ | (refine opk 9 rfl ?_; (refine ost_boxq H rfl ?_; clear H; intro bk wk H))) | refine Wc.seq ?_ | refine then_n ?_ | refine WL.nil ?_ | refine Wc.region ?_ | refine Wc.block ?_ | refine then_r ?_ | refine then_e ?_ | refine inb_e rfl ?_ | refine inb_o rfl ?_ | refine inb_n ?_ | refine inb_r ?_ | refine Wc.skip ?_ | refine Wc.exit ?_ | refine Wc.ret ?_ | refine Wc.cond_true rfl ?_ | refine Wc.cond_false rfl ?_)
  (first | refine fn_ret1 (v := .bool _) rfl rfl ⟨?_, H.fr⟩ | refine fn_ret1 (v := .int _ _) rfl rfl ⟨?_, H.fr⟩ | refine fn_ret1 (v := .string _) rfl rfl ⟨?_, H.fr⟩); rfl
def cmp3 (x y : Int) : Int := if x < y then -1 else if y < x then 1 else 0
theorem nan64 (x : Int) (w : World) : SpecV Try.prog 101 #[.int .u64 x] w (.bool false) := by
  refine specV_of fun h0 hs H => ?_
  refine calls_of Try.func101 rfl Try.ntmps101 (by simp) ?_
  repeat' (first | ((first | refine WL.p rfl ?_ | refine WL.u ?_); first | refine pvQ ?_ | (refine opk 3 rfl ?_; (refine ost_cmp rfl rfl rfl rfl (fun hc => ?_) (fun hc => ?_) <;> (simp only [cmpP] at hc; try exact prIQ))) | (refine opk 4 rfl ?_; (refine ost_cmp rfl rfl rfl rfl (fun hc => ?_) (fun hc => ?_) <;> (simp only [cmpP] at hc; try exact prIQ)))) | refine Wc.seq ?_ | refine then_n ?_ | refine WL.nil ?_ | refine Wc.region ?_ | refine Wc.block ?_ | refine then_r ?_ | refine then_e ?_ | refine inb_e rfl ?_ | refine inb_o rfl ?_ | refine inb_n ?_ | refine inb_r ?_ | refine Wc.skip ?_ | refine Wc.exit ?_ | refine Wc.ret ?_ | refine Wc.cond_true rfl ?_ | refine Wc.cond_false rfl ?_)
  (first | refine fn_ret1 (v := .bool _) rfl rfl ⟨?_, H.fr⟩ | refine fn_ret1 (v := .int _ _) rfl rfl ⟨?_, H.fr⟩ | refine fn_ret1 (v := .string _) rfl rfl ⟨?_, H.fr⟩); rfl
theorem nan32 (x : Int) (w : World) : SpecV Try.prog 103 #[.int .u32 x] w (.bool false) := by
  refine specV_of fun h0 hs H => ?_
  refine calls_of Try.func103 rfl Try.ntmps103 (by simp) ?_
  repeat' (first | ((first | refine WL.p rfl ?_ | refine WL.u ?_); first | refine pvQ ?_ | (refine opk 3 rfl ?_; (refine ost_cmp rfl rfl rfl rfl (fun hc => ?_) (fun hc => ?_) <;> (simp only [cmpP] at hc; try exact prIQ))) | (refine opk 4 rfl ?_; (refine ost_cmp rfl rfl rfl rfl (fun hc => ?_) (fun hc => ?_) <;> (simp only [cmpP] at hc; try exact prIQ)))) | refine Wc.seq ?_ | refine then_n ?_ | refine WL.nil ?_ | refine Wc.region ?_ | refine Wc.block ?_ | refine then_r ?_ | refine then_e ?_ | refine inb_e rfl ?_ | refine inb_o rfl ?_ | refine inb_n ?_ | refine inb_r ?_ | refine Wc.skip ?_ | refine Wc.exit ?_ | refine Wc.ret ?_ | refine Wc.cond_true rfl ?_ | refine Wc.cond_false rfl ?_)
  (first | refine fn_ret1 (v := .bool _) rfl rfl ⟨?_, H.fr⟩ | refine fn_ret1 (v := .int _ _) rfl rfl ⟨?_, H.fr⟩ | refine fn_ret1 (v := .string _) rfl rfl ⟨?_, H.fr⟩); rfl
theorem nan8 (x : Int) (w : World) : SpecV Try.prog 102 #[.int .u8 x] w (.bool false) := by
  refine specV_of fun h0 hs H => ?_
  refine calls_of Try.func102 rfl Try.ntmps102 (by simp) ?_
  repeat' (first | ((first | refine WL.p rfl ?_ | refine WL.u ?_); first | refine pvQ ?_ | (refine opk 3 rfl ?_; (refine ost_cmp rfl rfl rfl rfl (fun hc => ?_) (fun hc => ?_) <;> (simp only [cmpP] at hc; try exact prIQ))) | (refine opk 4 rfl ?_; (refine ost_cmp rfl rfl rfl rfl (fun hc => ?_) (fun hc => ?_) <;> (simp only [cmpP] at hc; try exact prIQ)))) | refine Wc.seq ?_ | refine then_n ?_ | refine WL.nil ?_ | refine Wc.region ?_ | refine Wc.block ?_ | refine then_r ?_ | refine then_e ?_ | refine inb_e rfl ?_ | refine inb_o rfl ?_ | refine inb_n ?_ | refine inb_r ?_ | refine Wc.skip ?_ | refine Wc.exit ?_ | refine Wc.ret ?_ | refine Wc.cond_true rfl ?_ | refine Wc.cond_false rfl ?_)
  (first | refine fn_ret1 (v := .bool _) rfl rfl ⟨?_, H.fr⟩ | refine fn_ret1 (v := .int _ _) rfl rfl ⟨?_, H.fr⟩ | refine fn_ret1 (v := .string _) rfl rfl ⟨?_, H.fr⟩); rfl
theorem compare64 (x y : Int) (w : World) : SpecV Try.prog 91 #[.int .u64 x, .int .u64 y] w (.int .i64 (cmp3 x y)) := by
  refine specV_of fun h0 hs H => ?_
  refine calls_of Try.func91 rfl Try.ntmps91 (by simp) ?_
  repeat' (first | ((first | refine WL.p rfl ?_ | refine WL.u ?_); first | (refine opk 1 rfl ?_; (refine ost_V H rfl (nan64 _ _) rfl ?_; clear H; intro wk H)) | refine pvQ ?_ | (refine opk 3 rfl ?_; (refine ost_cmp rfl rfl rfl rfl (fun hc => ?_) (fun hc => ?_) <;> (simp only [cmpP] at hc; try exact prIQ))) | (refine opk 4 rfl ?_; (refine ost_cmp rfl rfl rfl rfl (fun hc => ?_) (fun hc => ?_) <;> (simp only [cmpP] at hc; try exact prIQ)))) | refine Wc.seq ?_ | refine then_n ?_ | refine WL.nil ?_ | refine Wc.region ?_ | refine Wc.block ?_ | refine then_r ?_ | refine then_e ?_ | refine inb_e rfl ?_ | refine inb_o rfl ?_ | refine inb_n ?_ | refine inb_r ?_ | refine Wc.skip ?_ | refine Wc.exit ?_ | refine Wc.ret ?_ | refine Wc.cond_true rfl ?_ | refine Wc.cond_false rfl ?_)
  all_goals ((first | refine fn_ret1 (v := .bool _) rfl rfl ⟨?_, H.fr⟩ | refine fn_ret1 (v := .int _ _) rfl rfl ⟨?_, H.fr⟩ | refine fn_ret1 (v := .string _) rfl rfl ⟨?_, H.fr⟩); congr 1; simp [cmp3, *])
theorem compare32 (x y : Int) (w : World) : SpecV Try.prog 93 #[.int .u32 x, .int .u32 y] w (.int .i64 (cmp3 x y)) := by
  refine specV_of fun h0 hs H => ?_
  refine calls_of Try.func93 rfl Try.ntmps93 (by simp) ?_
  repeat' (first | ((first | refine WL.p rfl ?_ | refine WL.u ?_); first | (refine opk 1 rfl ?_; (refine ost_V H rfl (nan32 _ _) rfl ?_; clear H; intro wk H)) | refine pvQ ?_ | (refine opk 3 rfl ?_; (refine ost_cmp rfl rfl rfl rfl (fun hc => ?_) (fun hc => ?_) <;> (simp only [cmpP] at hc; try exact prIQ))) | (refine opk 4 rfl ?_; (refine ost_cmp rfl rfl rfl rfl (fun hc => ?_) (fun hc => ?_) <;> (simp only [cmpP] at hc; try exact prIQ)))) | refine Wc.seq ?_ | refine then_n ?_ | refine WL.nil ?_ | refine Wc.region ?_ | refine Wc.block ?_ | refine then_r ?_ | refine then_e ?_ | refine inb_e rfl ?_ | refine inb_o rfl ?_ | refine inb_n ?_ | refine inb_r ?_ | refine Wc.skip ?_ | refine Wc.exit ?_ | refine Wc.ret ?_ | refine Wc.cond_true rfl ?_ | refine Wc.cond_false rfl ?_)
  all_goals ((first | refine fn_ret1 (v := .bool _) rfl rfl ⟨?_, H.fr⟩ | refine fn_ret1 (v := .int _ _) rfl rfl ⟨?_, H.fr⟩ | refine fn_ret1 (v := .string _) rfl rfl ⟨?_, H.fr⟩); congr 1; simp [cmp3, *])
theorem compare8 (x y : Int) (w : World) : SpecV Try.prog 92 #[.int .u8 x, .int .u8 y] w (.int .i64 (cmp3 x y)) := by
  refine specV_of fun h0 hs H => ?_
  refine calls_of Try.func92 rfl Try.ntmps92 (by simp) ?_
  repeat' (first | ((first | refine WL.p rfl ?_ | refine WL.u ?_); first | (refine opk 1 rfl ?_; (refine ost_V H rfl (nan8 _ _) rfl ?_; clear H; intro wk H)) | refine pvQ ?_ | (refine opk 3 rfl ?_; (refine ost_cmp rfl rfl rfl rfl (fun hc => ?_) (fun hc => ?_) <;> (simp only [cmpP] at hc; try exact prIQ))) | (refine opk 4 rfl ?_; (refine ost_cmp rfl rfl rfl rfl (fun hc => ?_) (fun hc => ?_) <;> (simp only [cmpP] at hc; try exact prIQ)))) | refine Wc.seq ?_ | refine then_n ?_ | refine WL.nil ?_ | refine Wc.region ?_ | refine Wc.block ?_ | refine then_r ?_ | refine then_e ?_ | refine inb_e rfl ?_ | refine inb_o rfl ?_ | refine inb_n ?_ | refine inb_r ?_ | refine Wc.skip ?_ | refine Wc.exit ?_ | refine Wc.ret ?_ | refine Wc.cond_true rfl ?_ | refine Wc.cond_false rfl ?_)
  all_goals ((first | refine fn_ret1 (v := .bool _) rfl rfl ⟨?_, H.fr⟩ | refine fn_ret1 (v := .int _ _) rfl rfl ⟨?_, H.fr⟩ | refine fn_ret1 (v := .string _) rfl rfl ⟨?_, H.fr⟩); congr 1; simp [cmp3, *])
end Go.Tg
