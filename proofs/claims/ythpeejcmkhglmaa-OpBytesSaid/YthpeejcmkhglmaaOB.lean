/- Proved: the given statement OpBytesSaid: the Go law OpBytes returns true for every input that it is asked of. No conditions. -/
import Derived.Test.YthpeejcmkhglmaaInst
import Derived.Test.YthpeejcmkhglmaaAuto
import Derived.Test.YthpeejcmkhglmaaOL
set_option linter.unusedVariables false
set_option linter.unusedSimpArgs false
set_option maxRecDepth 100000
set_option maxHeartbeats 4000000
namespace Go.Tg
open Go Go.Proofs
theorem law_OpBytes (o : OpT) (w : World) (a : Option Addr) (c : Nat) (b : List UInt8) (hr0 : BS (full w) a c b) : SpecV Try.prog 18 #[.agg (cOp o).toArray, .slice a b.length c] w (.bool true) := by
  have H := St.start (sat_full w)
  generalize hh : full w = h0 at H hr0
  have lo := cOp_len o
  have lx := cOp_len (decO b).1
  unfold SpecV
  refine calls_of Try.func18 rfl Try.ntmps18 (by simp) ?_
  by_cases hbig : 500 < b.length
  · repeat' (first | ((first | refine WL.p rfl ?_ | refine WL.u ?_ | refine WL.g rfl rfl ?_ | refine WL.gu rfl ?_); first | (refine opk 1 rfl ?_; (refine ost_V H rfl (alive06 _) rfl ?_; clear H; intro wk H)) | refine pv ?_ | (refine opk 3 rfl ?_; first | (refine ost_eqA rfl (by decide) rfl rfl tyq tyq (fun hc => ?_) (fun hc => ?_) <;> try exact prE) | (refine ost_neA rfl (by decide) rfl rfl tyq tyq (fun hc => ?_) (fun hc => ?_) <;> try exact prE) | (refine ost_cmp rfl rfl rfl rfl (fun hc => ?_) (fun hc => ?_) <;> (simp only [cmpP] at hc; try exact prI)) | (refine ost_streqB rfl rfl rfl (fun hc => ?_) (fun hc => ?_) <;> try exact prE) | (refine ost_strneB rfl rfl rfl (fun hc => ?_) (fun hc => ?_) <;> try exact prE) | (refine ost_streq rfl rfl rfl (fun hc => ?_) (fun hc => ?_) <;> try exact absurd rfl hc) | (refine ost_strne rfl rfl rfl (fun hc => ?_) (fun hc => ?_))) | (refine opk 4 rfl ?_; (refine ost_cmp rfl rfl rfl rfl (fun hc => ?_) (fun hc => ?_) <;> (simp only [cmpP] at hc; try exact prI))) | (refine opk 8 rfl ?_; (refine ost_storeW H rfl rfl rfl rfl lq ixq lq okq ?_; clear H; intro wk H; simp only [List.set_cons_zero, List.set_cons_succ, Nat.reduceAdd] at H)) | (refine opk 9 rfl ?_; first | (refine ost_boxq H rfl ?_; clear H; intro bk wk H) | (refine ost_allocA H rfl ?_; clear H; intro bk wk H))) | refine Wc.seq ?_ | refine then_n ?_ | refine WL.nil ?_ | refine Wc.region ?_ | refine Wc.block ?_ | refine then_r ?_ | refine then_e ?_ | refine inb_e rfl ?_ | refine inb_o rfl ?_ | refine inb_n ?_ | refine inb_r ?_ | refine Wc.skip ?_ | refine Wc.exit ?_ | refine Wc.ret ?_ | refine Wc.cond_true rfl ?_ | refine Wc.cond_false rfl ?_ | refine WL.skp rfl rfl ?_ | refine WL.sku rfl ?_)
    (first | refine fn_ret1 (v := .bool _) rfl rfl ⟨?_, H.fr⟩ | refine fn_ret1 (v := .int _ _) rfl rfl ⟨?_, H.fr⟩ | refine fn_ret1 (v := .string _) rfl rfl ⟨?_, H.fr⟩); rfl
  repeat' (first | ((first | refine WL.p rfl ?_ | refine WL.u ?_ | refine WL.g rfl rfl ?_ | refine WL.gu rfl ?_); first | (refine opk 1 rfl ?_; first | (refine ost_V H rfl (alive06 _) rfl ?_; clear H; intro wk H) | (refine ost_C H rfl (op_Encode _ o _ (sat_full _)) rfl ?_; clear H; rintro vk wk hfk Lk ⟨a1, c1, rfl, _, rfl⟩ H; simp only [List.cons_append, List.nil_append] at H) | (refine ost_C H rfl (r6_Encode _ o _ (sat_full _)) rfl ?_; clear H; rintro vk wk hfk Lk ⟨a1, c1, rfl, _, rfl⟩ H; simp only [List.cons_append, List.nil_append] at H) | (refine ost_V H rfl (op_Decode _ _ _ _ _ (sat_full _) (hr0.full H) (by omega)) rfl ?_; clear H; intro wk H) | (refine ost_V H rfl (r6_Decode _ _ _ _ _ (sat_full _) (hr0.full H) (by omega)) rfl ?_; clear H; intro wk H)) | (refine opk 6 rfl ?_; (refine ost_toStrN (xs := (outO o).1) rfl rfl (by first | rfl | (simp; omega)) (H.own8rd (by (exact ixq))) ?_)) | refine pv ?_ | (refine opk 3 rfl ?_; first | (refine ost_eqA rfl (by decide) rfl rfl tyq tyq (fun hc => ?_) (fun hc => ?_) <;> try exact prE) | (refine ost_neA rfl (by decide) rfl rfl tyq tyq (fun hc => ?_) (fun hc => ?_) <;> try exact prE) | (refine ost_cmp rfl rfl rfl rfl (fun hc => ?_) (fun hc => ?_) <;> (simp only [cmpP] at hc; try exact prI)) | (refine ost_streqB rfl rfl rfl (fun hc => ?_) (fun hc => ?_) <;> try exact prE) | (refine ost_strneB rfl rfl rfl (fun hc => ?_) (fun hc => ?_) <;> try exact prE) | (refine ost_streq rfl rfl rfl (fun hc => ?_) (fun hc => ?_) <;> try exact absurd rfl hc) | (refine ost_strne rfl rfl rfl (fun hc => ?_) (fun hc => ?_))) | (refine opk 4 rfl ?_; (refine ost_cmp rfl rfl rfl rfl (fun hc => ?_) (fun hc => ?_) <;> (simp only [cmpP] at hc; try exact prI))) | (refine opk 8 rfl ?_; (refine ost_storeW H rfl rfl rfl rfl lq ixq lq okq ?_; clear H; intro wk H; simp only [List.set_cons_zero, List.set_cons_succ, Nat.reduceAdd] at H)) | (refine opk 9 rfl ?_; first | (refine ost_boxq H rfl ?_; clear H; intro bk wk H) | (refine ost_allocA H rfl ?_; clear H; intro bk wk H))) | refine Wc.seq ?_ | refine then_n ?_ | refine WL.nil ?_ | refine Wc.region ?_ | refine Wc.block ?_ | refine then_r ?_ | refine then_e ?_ | refine inb_e rfl ?_ | refine inb_o rfl ?_ | refine inb_n ?_ | refine inb_r ?_ | refine Wc.skip ?_ | refine Wc.exit ?_ | refine Wc.ret ?_ | refine Wc.cond_true rfl ?_ | refine Wc.cond_false rfl ?_ | refine WL.skp rfl rfl ?_ | refine WL.sku rfl ?_)
  all_goals ((first | refine fn_ret1 (v := .bool _) rfl rfl ⟨?_, H.fr⟩ | refine fn_ret1 (v := .int _ _) rfl rfl ⟨?_, H.fr⟩ | refine fn_ret1 (v := .string _) rfl rfl ⟨?_, H.fr⟩); rfl)
end Go.Tg
namespace Go.Proofs.Ythpeejcmkhglmaa
open Go.ChangeShapes Go.WideShapes Go.ChangeAt Go.RowKit Go.Tg
theorem opBytes_lifted (os : Os) (started : os.Started) (H : Type) (enc : TypeId × Value → H) :
    ReturnsInHanded {} Try.checked os 18 .any (Rows.opBytesSpec.pre6 enc Try.prog Try.f18 Rows.opBytesRow.domain false) (Rows.opBytesSpec.post enc Try.prog Try.f18 false true false false) := by
  refine returnsInHanded_of_change (C := Try.checked) own_ started (by kernel_rfl) Try.func18
    (ChangeSpec.witness6 (enc := enc) (C := Try.checked) false ⟨#[], #[.agg (.int .u8 0 :: .int .u32 0 :: .int .u8 0 :: .int .u16 0 :: .int .u16 0 :: .int .u16 0 :: .int .u32 0 :: List.replicate 16 (Value.int .u32 0)).toArray, .slice none 0 0], []⟩ 8 (by kernel_rfl) (by kernel_rfl) (by kernel_rfl) (by kernel_rfl)) ?_
  intro W base args ds gs before hval0 hW hcnd _
  have hval : ∀ (j : Nat) t v, Try.f18.params[j]? = some t → args[j]? = some v → Value.okWide Try.prog W .any base t v := hval0
  have hW' := hW
  obtain ⟨p, q, hA0, -, -, -, -⟩ := hW'
  have hA : DataW.TrodAll enc Try.prog W 0 (fun _ => true) true Try.f18.params.toList args.toList ds p := hA0
  rw [Try.params18] at hA hval
  obtain ⟨v0, v1, d0, d1, p0, p1, rfl, rfl, rfl, h0, h1⟩ := trodAll_two hA
  obtain ⟨o, rfl⟩ := op_ok (hval 0 _ v0 rfl rfl)
  obtain ⟨ba, bc, b, e1, br⟩ := (Td.of h1).bytes Try.underlying26 Try.underlying5 (by kernel_rfl)
  obtain rfl := val_of1 e1 (okWide_slice Try.underlying26 (hval 1 _ v1 rfl rfl))
  refine (law_OpBytes (w := W) o ba bc b br).mono fun e W' ⟨v, he, hv, hE⟩ => ⟨v, he, ?_⟩
  subst hv
  exact law_post rfl hW hE rfl (by kernel_rfl) Try.underlying4 laid_ (by kernel_rfl)
theorem opBytes_holds : Rows.OpBytesSaid :=
  OpenClaim.holds_of_wide 18 Try.f18 rfl rfl rfl rfl rfl rfl rfl ⟨rfl, rfl, rfl, rfl, rfl⟩ rfl rfl rfl rfl rfl (by kernel_rfl) Try.func18 (by kernel_rfl)
    (of_decide_eq_true (by kernel_rfl)) (by unfold Func.isWrapper; first | (rw [if_pos (by decide +kernel)]; kernel_rfl) | (rw [if_neg (by decide +kernel)]; exact ⟨rfl, rfl⟩))
    (fun os started H enc _ => opBytes_lifted os started H enc)
end Go.Proofs.Ythpeejcmkhglmaa
