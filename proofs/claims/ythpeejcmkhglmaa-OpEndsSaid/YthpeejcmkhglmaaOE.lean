/- Proved: the given statement OpEndsSaid: the Go law OpEnds returns true for every input that it is asked of. No conditions. -/
import Derived.Test.YthpeejcmkhglmaaInst
import Derived.Test.YthpeejcmkhglmaaAuto
import Derived.Test.YthpeejcmkhglmaaOL
set_option linter.unusedVariables false
set_option linter.unusedSimpArgs false
set_option maxRecDepth 100000
set_option maxHeartbeats 4000000
namespace Go.Tg
open Go Go.Proofs
theorem ends_self {o : OpT} (h : rightO o 16 = true) : endsO o o = false := by
  obtain ⟨h1, h2, h3⟩ := rightO_seq h
  have : hasV o.ctx o.dot = false := by
    cases e : hasV o.ctx o.dot with
    | false => rfl
    | true => have := hasV_le e; omega
  simp [endsO, this]
theorem ends_true {o e : OpT} (h : endsO o e = true) : hasV o.ctx e.dot = true ∧ o.cart.toNat = e.cart.toNat ∧ (e.kind.toNat = 1 ∨ e.kind.toNat = 2 ∨ e.kind.toNat = 4) ∧ (o.kind.toNat = 5 ∨ o.kind.toNat = 3 ∨ o.kind.toNat = 2) := by
  simp only [endsO, layO, Bool.and_eq_true, Bool.or_eq_true, decide_eq_true_eq] at h
  refine ⟨h.1.2, h.1.1.2, ?_, ?_⟩
  · have := h.1.1.1; omega
  · have := h.2; omega
theorem law_OpEnds (o e : OpT) (w : World) : SpecV Try.prog 21 #[.agg (cOp o).toArray, .agg (cOp e).toArray] w (.bool true) := by
  refine specV_of fun h0 hs H => ?_
  have lo := cOp_len o; have le := cOp_len e
  have lc := cV_len o.ctx
  have hc := cOp_ctx o; have hd := cOp_dot e
  refine calls_of Try.func21 rfl Try.ntmps21 (by simp) ?_
  have hS : ∀ (q : Bool), rightO o 16 = q → ∀ w, SpecV Try.prog 60 #[.agg (cOp o).toArray, .int .i64 16] w (.bool q) := fun q hq w => by
    have := op_Right o 16 w; rw [hq] at this; exact this
  have hE : ∀ (q : Bool), endsO o e = q → ∀ w, SpecV Try.prog 66 #[.agg (cOp o).toArray, .agg (cOp e).toArray] w (.bool q) := fun q hq w => by
    have := op_Ends o e w; rw [hq] at this; exact this
  have key : endsO o e = true → hasV o.ctx e.dot = true ∧ o.cart.toNat = e.cart.toNat ∧ (e.kind.toNat = 1 ∨ e.kind.toNat = 2 ∨ e.kind.toNat = 4) ∧ (o.kind.toNat = 5 ∨ o.kind.toNat = 3 ∨ o.kind.toNat = 2) := ends_true
  cases hr : rightO o 16 with
  | false =>
    cases hx : endsO o e with
    | false =>
      repeat' (first | ((first | refine WL.p rfl ?_ | refine WL.u ?_ | refine WL.g rfl rfl ?_ | refine WL.gu rfl ?_); first | (refine opk 1 rfl ?_; first | (refine ost_V H rfl (alive06 _) rfl ?_; clear H; intro wk H) | (refine ost_V H rfl (hS _ hr _) rfl ?_; clear H; intro wk H) | (refine ost_V H rfl (hE _ hx _) rfl ?_; clear H; intro wk H)) | refine pv ?_ | (refine opk 3 rfl ?_; (refine ost_cmp rfl rfl rfl rfl (fun hc => ?_) (fun hc => ?_) <;> (simp only [cmpP] at hc; try exact prI))) | (refine opk 4 rfl ?_; (refine ost_cmp rfl rfl rfl rfl (fun hc => ?_) (fun hc => ?_) <;> (simp only [cmpP] at hc; try exact prI))) | (refine opk 9 rfl ?_; (refine ost_boxq H rfl ?_; clear H; intro bk wk H))) | refine Wc.seq ?_ | refine then_n ?_ | refine WL.nil ?_ | refine Wc.region ?_ | refine Wc.block ?_ | refine then_r ?_ | refine then_e ?_ | refine inb_e rfl ?_ | refine inb_o rfl ?_ | refine inb_n ?_ | refine inb_r ?_ | refine Wc.skip ?_ | refine Wc.exit ?_ | refine Wc.ret ?_ | refine Wc.cond_true rfl ?_ | refine Wc.cond_false rfl ?_ | refine WL.skp rfl rfl ?_ | refine WL.sku rfl ?_)
      all_goals ((first | refine fn_ret1 (v := .bool _) rfl rfl ⟨?_, H.fr⟩ | refine fn_ret1 (v := .int _ _) rfl rfl ⟨?_, H.fr⟩ | refine fn_ret1 (v := .string _) rfl rfl ⟨?_, H.fr⟩); rfl)
    | true =>
      obtain ⟨k1, k2, k3, k4⟩ := key hx
      have hH : ∀ w, SpecV Try.prog 48 #[.agg (cV o.ctx).toArray, .agg (cDot e.dot).toArray] w (.bool true) := fun w => by have := ref4_Has o.ctx e.dot w; rw [k1] at this; exact this
      repeat' (first | ((first | refine WL.p rfl ?_ | refine WL.u ?_ | refine WL.g rfl rfl ?_ | refine WL.gu rfl ?_); first | (refine opk 1 rfl ?_; first | (refine ost_V H rfl (alive06 _) rfl ?_; clear H; intro wk H) | (refine ost_V H rfl (hS _ hr _) rfl ?_; clear H; intro wk H) | (refine ost_V H rfl (hE _ hx _) rfl ?_; clear H; intro wk H) | (refine ost_V H rfl (hH _) rfl ?_; clear H; intro wk H)) | refine pv ?_ | (refine opk 3 rfl ?_; (refine ost_cmp rfl rfl rfl rfl (fun hc => ?_) (fun hc => ?_) <;> (simp only [cmpP] at hc; try exact prI))) | (refine opk 4 rfl ?_; (refine ost_cmp rfl rfl rfl rfl (fun hc => ?_) (fun hc => ?_) <;> (simp only [cmpP] at hc; try exact prI))) | (refine opk 9 rfl ?_; (refine ost_boxq H rfl ?_; clear H; intro bk wk H))) | refine Wc.seq ?_ | refine then_n ?_ | refine WL.nil ?_ | refine Wc.region ?_ | refine Wc.block ?_ | refine then_r ?_ | refine then_e ?_ | refine inb_e rfl ?_ | refine inb_o rfl ?_ | refine inb_n ?_ | refine inb_r ?_ | refine Wc.skip ?_ | refine Wc.exit ?_ | refine Wc.ret ?_ | refine Wc.cond_true rfl ?_ | refine Wc.cond_false rfl ?_ | refine WL.skp rfl rfl ?_ | refine WL.sku rfl ?_)
      all_goals ((first | refine fn_ret1 (v := .bool _) rfl rfl ⟨?_, H.fr⟩ | refine fn_ret1 (v := .int _ _) rfl rfl ⟨?_, H.fr⟩ | refine fn_ret1 (v := .string _) rfl rfl ⟨?_, H.fr⟩); rfl)
  | true =>
    have hself := ends_self hr
    have hW : ∀ w, SpecV Try.prog 66 #[.agg (cOp o).toArray, .agg (cOp o).toArray] w (.bool false) := fun w => by
      have := op_Ends o o w; rw [hself] at this; exact this
    cases hx : endsO o e with
    | false =>
      repeat' (first | ((first | refine WL.p rfl ?_ | refine WL.u ?_ | refine WL.g rfl rfl ?_ | refine WL.gu rfl ?_); first | (refine opk 1 rfl ?_; first | (refine ost_V H rfl (alive06 _) rfl ?_; clear H; intro wk H) | (refine ost_V H rfl (hS _ hr _) rfl ?_; clear H; intro wk H) | (refine ost_V H rfl (hW _) rfl ?_; clear H; intro wk H) | (refine ost_V H rfl (hE _ hx _) rfl ?_; clear H; intro wk H)) | refine pv ?_ | (refine opk 3 rfl ?_; (refine ost_cmp rfl rfl rfl rfl (fun hc => ?_) (fun hc => ?_) <;> (simp only [cmpP] at hc; try exact prI))) | (refine opk 4 rfl ?_; (refine ost_cmp rfl rfl rfl rfl (fun hc => ?_) (fun hc => ?_) <;> (simp only [cmpP] at hc; try exact prI))) | (refine opk 9 rfl ?_; (refine ost_boxq H rfl ?_; clear H; intro bk wk H))) | refine Wc.seq ?_ | refine then_n ?_ | refine WL.nil ?_ | refine Wc.region ?_ | refine Wc.block ?_ | refine then_r ?_ | refine then_e ?_ | refine inb_e rfl ?_ | refine inb_o rfl ?_ | refine inb_n ?_ | refine inb_r ?_ | refine Wc.skip ?_ | refine Wc.exit ?_ | refine Wc.ret ?_ | refine Wc.cond_true rfl ?_ | refine Wc.cond_false rfl ?_ | refine WL.skp rfl rfl ?_ | refine WL.sku rfl ?_)
      all_goals ((first | refine fn_ret1 (v := .bool _) rfl rfl ⟨?_, H.fr⟩ | refine fn_ret1 (v := .int _ _) rfl rfl ⟨?_, H.fr⟩ | refine fn_ret1 (v := .string _) rfl rfl ⟨?_, H.fr⟩); rfl)
    | true =>
      obtain ⟨k1, k2, k3, k4⟩ := key hx
      have hH : ∀ w, SpecV Try.prog 48 #[.agg (cV o.ctx).toArray, .agg (cDot e.dot).toArray] w (.bool true) := fun w => by have := ref4_Has o.ctx e.dot w; rw [k1] at this; exact this
      repeat' (first | ((first | refine WL.p rfl ?_ | refine WL.u ?_ | refine WL.g rfl rfl ?_ | refine WL.gu rfl ?_); first | (refine opk 1 rfl ?_; first | (refine ost_V H rfl (alive06 _) rfl ?_; clear H; intro wk H) | (refine ost_V H rfl (hS _ hr _) rfl ?_; clear H; intro wk H) | (refine ost_V H rfl (hW _) rfl ?_; clear H; intro wk H) | (refine ost_V H rfl (hE _ hx _) rfl ?_; clear H; intro wk H) | (refine ost_V H rfl (hH _) rfl ?_; clear H; intro wk H)) | refine pv ?_ | (refine opk 3 rfl ?_; (refine ost_cmp rfl rfl rfl rfl (fun hc => ?_) (fun hc => ?_) <;> (simp only [cmpP] at hc; try exact prI))) | (refine opk 4 rfl ?_; (refine ost_cmp rfl rfl rfl rfl (fun hc => ?_) (fun hc => ?_) <;> (simp only [cmpP] at hc; try exact prI))) | (refine opk 9 rfl ?_; (refine ost_boxq H rfl ?_; clear H; intro bk wk H))) | refine Wc.seq ?_ | refine then_n ?_ | refine WL.nil ?_ | refine Wc.region ?_ | refine Wc.block ?_ | refine then_r ?_ | refine then_e ?_ | refine inb_e rfl ?_ | refine inb_o rfl ?_ | refine inb_n ?_ | refine inb_r ?_ | refine Wc.skip ?_ | refine Wc.exit ?_ | refine Wc.ret ?_ | refine Wc.cond_true rfl ?_ | refine Wc.cond_false rfl ?_ | refine WL.skp rfl rfl ?_ | refine WL.sku rfl ?_)
      all_goals ((first | refine fn_ret1 (v := .bool _) rfl rfl ⟨?_, H.fr⟩ | refine fn_ret1 (v := .int _ _) rfl rfl ⟨?_, H.fr⟩ | refine fn_ret1 (v := .string _) rfl rfl ⟨?_, H.fr⟩); rfl)
end Go.Tg
namespace Go.Proofs.Ythpeejcmkhglmaa
open Go.ChangeShapes Go.WideShapes Go.ChangeAt Go.RowKit Go.Tg
theorem opEnds_lifted (os : Os) (started : os.Started) (H : Type) (enc : TypeId × Value → H) :
    ReturnsInHanded {} Try.checked os 21 .any (Rows.opEndsSpec.pre6 enc Try.prog Try.f21 Rows.opEndsRow.domain false) (Rows.opEndsSpec.post enc Try.prog Try.f21 false true false false) := by
  refine returnsInHanded_of_change (C := Try.checked) own_ started (by kernel_rfl) Try.func21
    (ChangeSpec.witness6 (enc := enc) (C := Try.checked) false ⟨#[], #[.agg (.int .u8 0 :: .int .u32 0 :: .int .u8 0 :: .int .u16 0 :: .int .u16 0 :: .int .u16 0 :: .int .u32 0 :: List.replicate 16 (Value.int .u32 0)).toArray, .agg (.int .u8 0 :: .int .u32 0 :: .int .u8 0 :: .int .u16 0 :: .int .u16 0 :: .int .u16 0 :: .int .u32 0 :: List.replicate 16 (Value.int .u32 0)).toArray], []⟩ 8 (by kernel_rfl) (by kernel_rfl) (by kernel_rfl) (by kernel_rfl)) ?_
  intro W base args ds gs before hval0 hW hcnd _
  have hval : ∀ (j : Nat) t v, Try.f21.params[j]? = some t → args[j]? = some v → Value.okWide Try.prog W .any base t v := hval0
  have hW' := hW
  obtain ⟨p, q, hA0, -, -, -, -⟩ := hW'
  have hA : DataW.TrodAll enc Try.prog W 0 (fun _ => true) true Try.f21.params.toList args.toList ds p := hA0
  rw [Try.params21] at hA hval
  obtain ⟨v0, v1, d0, d1, p0, p1, rfl, rfl, rfl, h0, h1⟩ := trodAll_two hA
  obtain ⟨o, rfl⟩ := op_ok (hval 0 _ v0 rfl rfl)
  obtain ⟨e, rfl⟩ := op_ok (hval 1 _ v1 rfl rfl)
  refine (law_OpEnds (w := W) o e).mono fun e W' ⟨v, he, hv, hE⟩ => ⟨v, he, ?_⟩
  subst hv
  exact law_post rfl hW hE rfl (by kernel_rfl) Try.underlying4 laid_ (by kernel_rfl)
theorem opEnds_holds : Rows.OpEndsSaid :=
  OpenClaim.holds_of_wide 21 Try.f21 rfl rfl rfl rfl rfl rfl rfl ⟨rfl, rfl, rfl, rfl, rfl⟩ rfl rfl rfl rfl rfl (by kernel_rfl) Try.func21 (by kernel_rfl)
    (of_decide_eq_true (by kernel_rfl)) (by unfold Func.isWrapper; first | (rw [if_pos (by decide +kernel)]; kernel_rfl) | (rw [if_neg (by decide +kernel)]; exact ⟨rfl, rfl⟩))
    (fun os started H enc _ => opEnds_lifted os started H enc)
end Go.Proofs.Ythpeejcmkhglmaa
