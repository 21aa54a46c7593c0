/- Proved: the given statement OpNextSaid: the Go law OpNext returns true for every input that it is asked of. No conditions. -/
import Derived.Test.YthpeejcmkhglmaaInst
import Derived.Test.YthpeejcmkhglmaaAuto
import Derived.Test.YthpeejcmkhglmaaOL
set_option linter.unusedVariables false
set_option linter.unusedSimpArgs false
set_option maxRecDepth 100000
set_option maxHeartbeats 4000000
namespace Go.Tg
open Go Go.Proofs
theorem readyO_ok {v : V16} {o : OpT} (h : readyO v o = 0) : rightO o 16 = true ∧ hasV v o.dot = false ∧ leV o.ctx v = true := by
  unfold readyO at h
  split at h
  · cases h
  · split at h
    · cases h
    · split at h
      · cases h
      · exact ⟨by cases e : rightO o 16 <;> simp_all, by cases e : hasV v o.dot <;> simp_all, by cases e : leV o.ctx v <;> simp_all⟩
theorem law_OpNext (v : V16) (o : OpT) (w : World) : SpecV Try.prog 22 #[.agg (cV v).toArray, .agg (cOp o).toArray] w (.bool true) := by
  refine specV_of fun h0 hs H => ?_
  have lo := cOp_len o
  have lv := cV_len v
  have lc := cV_len o.ctx
  have hc := cOp_ctx o; have hd := cOp_dot o
  have hb := o.dot.rep.toNat_lt
  have hq := o.dot.seq.toNat_lt
  refine calls_of Try.func22 rfl Try.ntmps22 (by simp) ?_
  by_cases hr : readyO v o = 0
  · obtain ⟨k1, k2, k3⟩ := readyO_ok hr
    obtain ⟨s1, s2, s3⟩ := rightO_seq k1
    have s4 : (atV v o.dot.rep.toNat).toNat = o.dot.seq.toNat - 1 := by
      have h1 := leV_iff.1 k3 ⟨o.dot.rep.toNat, s2⟩
      have h2 : (atV o.ctx o.dot.rep.toNat).toNat ≤ (atV v o.dot.rep.toNat).toNat := by rw [atV_lt _ s2, atV_lt _ s2]; exact h1
      have h3 : ¬ o.dot.seq ≤ atV v o.dot.rep.toNat := by
        simp only [hasV, s3, Bool.true_and, decide_eq_false_iff_not] at k2; exact k2
      have h4 : ¬ o.dot.seq.toNat ≤ (atV v o.dot.rep.toNat).toNat := h3
      omega
    have ga : (cV v)[0 + ((o.dot.rep.toNat : Int) % 16).toNat * 1]? = some (u32 (atV v o.dot.rep.toNat)) := by
      have := cV_at v s2
      rw [show ((o.dot.rep.toNat : Int) % 16).toNat = (o.dot.rep.toNat : Int).toNat by omega]; exact this
    have ga := ga
    have hR : ∀ w, SpecV Try.prog 68 #[.agg (cV v).toArray, .agg (cOp o).toArray] w (.int .i64 0) := fun w => by
      have := op_Ready v o w; rw [hr] at this; exact this
    have hS : ∀ w, SpecV Try.prog 60 #[.agg (cOp o).toArray, .int .i64 16] w (.bool true) := fun w => by
      have := op_Right o 16 w; rw [k1] at this; exact this
    have hH : ∀ w, SpecV Try.prog 48 #[.agg (cV v).toArray, .agg (cDot o.dot).toArray] w (.bool false) := fun w => by have := ref4_Has v o.dot w; rw [k2] at this; exact this
    have hB : ∀ w, SpecV Try.prog 42 #[.agg (cV o.ctx).toArray, .agg (cV v).toArray] w (.bool true) := fun w => by have := ref4_Below o.ctx v w; rw [k3] at this; exact this
    repeat' (first | ((first | refine WL.p rfl ?_ | refine WL.u ?_ | refine WL.g rfl rfl ?_ | refine WL.gu rfl ?_); first | (refine opk 1 rfl ?_; first | (refine ost_V H rfl (alive06 _) rfl ?_; clear H; intro wk H) | (refine ost_V H rfl (hR _) rfl ?_; clear H; intro wk H) | (refine ost_V H rfl (hS _) rfl ?_; clear H; intro wk H) | (refine ost_V H rfl (hH _) rfl ?_; clear H; intro wk H) | (refine ost_V H rfl (hB _) rfl ?_; clear H; intro wk H)) | refine pv ?_ | (refine opk 3 rfl ?_; (refine ost_cmp rfl rfl rfl rfl (fun hc => ?_) (fun hc => ?_) <;> (simp only [cmpP] at hc; try exact prI))) | (refine opk 4 rfl ?_; (refine ost_cmp rfl rfl rfl rfl (fun hc => ?_) (fun hc => ?_) <;> (simp only [cmpP] at hc; try exact prI))) | (refine opk 9 rfl ?_; (refine ost_boxq H rfl ?_; clear H; intro bk wk H))) | refine Wc.seq ?_ | refine then_n ?_ | refine WL.nil ?_ | refine Wc.region ?_ | refine Wc.block ?_ | refine then_r ?_ | refine then_e ?_ | refine inb_e rfl ?_ | refine inb_o rfl ?_ | refine inb_n ?_ | refine inb_r ?_ | refine Wc.skip ?_ | refine Wc.exit ?_ | refine Wc.ret ?_ | refine Wc.cond_true rfl ?_ | refine Wc.cond_false rfl ?_ | (refine Wc.drawn (id := 5) 26 (by kernel_rfl) ?_) | refine WL.skp rfl rfl ?_ | refine WL.sku rfl ?_ | (refine rgs_nil ?_; intro vs wk hE; replace H := H.ext hE; clear hE) | refine RGs.skp (fun _ => rfl) rfl ?_ | (refine RGs.bq (fun _ => rfl) rfl (by intro vs w hE hP; have H := H.ext hE; exact db) (fun hc => ?_) (fun hc => ?_) <;> ((try simp only [cmpP, decide_eq_true_eq, decide_eq_false_iff_not, dcd_iff, dcd_no] at hc); try exact prD)) | refine RGs.pq (fun _ => rfl) rfl (by intro vs w hE hP; have H := H.ext hE; first | (refine opk 1 rfl ?_; first | (exact ost_V0d rfl (alive06 _) rfl) | (exact ost_V0d rfl (hR _) rfl) | (exact ost_V0d rfl (hS _) rfl) | (exact ost_V0d rfl (hH _) rfl) | (exact ost_V0d rfl (hB _) rfl)) | exact dv) ?_)
    all_goals ((first | refine fn_ret1 (v := .bool _) rfl rfl ⟨?_, H.fr⟩ | refine fn_ret1 (v := .int _ _) rfl rfl ⟨?_, H.fr⟩ | refine fn_ret1 (v := .string _) rfl rfl ⟨?_, H.fr⟩); rfl)
  · repeat' (first | ((first | refine WL.p rfl ?_ | refine WL.u ?_ | refine WL.g rfl rfl ?_ | refine WL.gu rfl ?_); first | (refine opk 1 rfl ?_; first | (refine ost_V H rfl (alive06 _) rfl ?_; clear H; intro wk H) | (refine ost_V H rfl (op_Ready _ _ _) rfl ?_; clear H; intro wk H)) | refine pv ?_ | (refine opk 3 rfl ?_; (refine ost_cmp rfl rfl rfl rfl (fun hc => ?_) (fun hc => ?_) <;> (simp only [cmpP] at hc; try exact prI))) | (refine opk 4 rfl ?_; (refine ost_cmp rfl rfl rfl rfl (fun hc => ?_) (fun hc => ?_) <;> (simp only [cmpP] at hc; try exact prI))) | (refine opk 9 rfl ?_; (refine ost_boxq H rfl ?_; clear H; intro bk wk H))) | refine Wc.seq ?_ | refine then_n ?_ | refine WL.nil ?_ | refine Wc.region ?_ | refine Wc.block ?_ | refine then_r ?_ | refine then_e ?_ | refine inb_e rfl ?_ | refine inb_o rfl ?_ | refine inb_n ?_ | refine inb_r ?_ | refine Wc.skip ?_ | refine Wc.exit ?_ | refine Wc.ret ?_ | refine Wc.cond_true rfl ?_ | refine Wc.cond_false rfl ?_ | (refine Wc.drawn (id := 5) 26 (by kernel_rfl) ?_) | refine WL.skp rfl rfl ?_ | refine WL.sku rfl ?_ | (refine rgs_nil ?_; intro vs wk hE; replace H := H.ext hE; clear hE) | refine RGs.skp (fun _ => rfl) rfl ?_ | (refine RGs.bq (fun _ => rfl) rfl (by intro vs w hE hP; have H := H.ext hE; exact db) (fun hc => ?_) (fun hc => ?_) <;> ((try simp only [cmpP, decide_eq_true_eq, decide_eq_false_iff_not, dcd_iff, dcd_no] at hc); try exact prD)) | refine RGs.pq (fun _ => rfl) rfl (by intro vs w hE hP; have H := H.ext hE; first | (refine opk 1 rfl ?_; first | (exact ost_V0d rfl (alive06 _) rfl) | (exact ost_V0d rfl (op_Ready _ _ _) rfl)) | exact dv) ?_)
    all_goals ((first | refine fn_ret1 (v := .bool _) rfl rfl ⟨?_, H.fr⟩ | refine fn_ret1 (v := .int _ _) rfl rfl ⟨?_, H.fr⟩ | refine fn_ret1 (v := .string _) rfl rfl ⟨?_, H.fr⟩); rfl)
end Go.Tg
namespace Go.Proofs.Ythpeejcmkhglmaa
open Go.ChangeShapes Go.WideShapes Go.ChangeAt Go.RowKit Go.Tg
theorem opNext_lifted (os : Os) (started : os.Started) (H : Type) (enc : TypeId × Value → H) :
    ReturnsInHanded {} Try.checked os 22 .any (Rows.opNextSpec.pre6 enc Try.prog Try.f22 Rows.opNextRow.domain false) (Rows.opNextSpec.post enc Try.prog Try.f22 false true false false) := by
  refine returnsInHanded_of_change (C := Try.checked) own_ started (by kernel_rfl) Try.func22
    (ChangeSpec.witness6 (enc := enc) (C := Try.checked) false ⟨#[], #[.agg (List.replicate 16 (Value.int .u32 0)).toArray, .agg (.int .u8 0 :: .int .u32 0 :: .int .u8 0 :: .int .u16 0 :: .int .u16 0 :: .int .u16 0 :: .int .u32 0 :: List.replicate 16 (Value.int .u32 0)).toArray], []⟩ 8 (by kernel_rfl) (by kernel_rfl) (by kernel_rfl) (by kernel_rfl)) ?_
  intro W base args ds gs before hval0 hW hcnd _
  have hval : ∀ (j : Nat) t v, Try.f22.params[j]? = some t → args[j]? = some v → Value.okWide Try.prog W .any base t v := hval0
  have hW' := hW
  obtain ⟨p, q, hA0, -, -, -, -⟩ := hW'
  have hA : DataW.TrodAll enc Try.prog W 0 (fun _ => true) true Try.f22.params.toList args.toList ds p := hA0
  rw [Try.params22] at hA hval
  obtain ⟨v0, v1, d0, d1, p0, p1, rfl, rfl, rfl, h0, h1⟩ := trodAll_two hA
  obtain ⟨v, rfl⟩ := vec_ok (hval 0 _ v0 rfl rfl)
  obtain ⟨o, rfl⟩ := op_ok (hval 1 _ v1 rfl rfl)
  refine (law_OpNext (w := W) v o).mono fun e W' ⟨v, he, hv, hE⟩ => ⟨v, he, ?_⟩
  subst hv
  exact law_post rfl hW hE rfl (by kernel_rfl) Try.underlying4 laid_ (by kernel_rfl)
theorem opNext_holds : Rows.OpNextSaid :=
  OpenClaim.holds_of_wide 22 Try.f22 rfl rfl rfl rfl rfl rfl rfl ⟨rfl, rfl, rfl, rfl, rfl⟩ rfl rfl rfl rfl rfl (by kernel_rfl) Try.func22 (by kernel_rfl)
    (of_decide_eq_true (by kernel_rfl)) (by unfold Func.isWrapper; first | (rw [if_pos (by decide +kernel)]; kernel_rfl) | (rw [if_neg (by decide +kernel)]; exact ⟨rfl, rfl⟩))
    (fun os started H enc _ => opNext_lifted os started H enc)
end Go.Proofs.Ythpeejcmkhglmaa
