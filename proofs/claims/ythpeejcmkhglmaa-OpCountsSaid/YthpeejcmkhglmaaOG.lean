/- Proved: the given statement OpCountsSaid: the Go law OpCounts returns true for every input that it is asked of. No conditions. -/
import Derived.Test.YthpeejcmkhglmaaInst
import Derived.Test.YthpeejcmkhglmaaAuto
import Derived.Test.YthpeejcmkhglmaaOL
set_option linter.unusedVariables false
set_option linter.unusedSimpArgs false
set_option maxRecDepth 100000
set_option maxHeartbeats 4000000
namespace Go.Tg
open Go Go.Proofs
theorem sum_lt_of {a b : V16} (h : leV a b = true) (hne : cV a ≠ cV b) : sumV a < sumV b := by
  have : ∃ i : Fin 16, a i ≠ b i := Classical.byContradiction fun hn => hne (cV_inj.2 (funext fun i => Classical.byContradiction fun h => hn ⟨i, h⟩))
  obtain ⟨i, hi⟩ := this
  refine sumN_lt h (i := i.val) ?_ 16 (by omega) i.isLt
  rw [atV_lt _ i.isLt, atV_lt _ i.isLt]
  have h1 : (a i).toNat ≤ (b i).toNat := leV_iff.1 h i
  have h2 : (a i).toNat ≠ (b i).toNat := fun e => hi (UInt32.toNat_inj.1 e)
  show (a i).toNat < (b i).toNat
  omega
theorem at_le_sum (a : V16) {i : Nat} : ∀ k, k ≤ 16 → i < k → (atV a i).toNat ≤ sumN k a
  | 0, _, h => absurd h (by omega)
  | k + 1, hk, hik => by
    simp only [sumN]
    by_cases he : i = k
    · subst he; omega
    · have := at_le_sum a (i := i) k (by omega) (by omega); omega
theorem law_OpCounts (a b : OpT) (w : World) : SpecV Try.prog 23 #[.agg (cOp a).toArray, .agg (cOp b).toArray] w (.bool true) := by
  refine specV_of fun h0 hs H => ?_
  have la := cOp_len a; have lb := cOp_len b
  have la2 := cV_len a.ctx; have lb2 := cV_len b.ctx
  have hne := Classical.em (cV a.ctx = cV b.ctx)
  have ca := cOp_ctx a; have cb := cOp_ctx b
  have ta := a.dot.seq.toNat_lt
  have sa : sumV a.ctx ≤ 16 * 4294967295 := sumN_le a.ctx 16
  have sb : sumV b.ctx ≤ 16 * 4294967295 := sumN_le b.ctx 16
  have ea : cntO a = sumV a.ctx + 1 := rfl
  have eb : cntO b = sumV b.ctx + 1 := rfl
  have hA : rightO a 16 = true → a.dot.seq.toNat ≤ sumV a.ctx + 1 := fun h => by
    obtain ⟨s1, s2, s3⟩ := rightO_seq h
    have := at_le_sum a.ctx (i := a.dot.rep.toNat) 16 (by omega) s2
    show _ ≤ sumN 16 a.ctx + 1
    omega
  have hL : leV a.ctx b.ctx = true → cV a.ctx ≠ cV b.ctx → sumV a.ctx < sumV b.ctx := sum_lt_of
  have hne : (cV a.ctx = cV b.ctx) ∨ ¬ (cV a.ctx = cV b.ctx) := hne
  refine calls_of Try.func23 rfl Try.ntmps23 (by simp) ?_
  cases hr : rightO a 16 with
  | false =>
    have hS : ∀ w, SpecV Try.prog 60 #[.agg (cOp a).toArray, .int .i64 16] w (.bool false) := fun w => by
      have := op_Right a 16 w; rw [hr] at this; exact this
    repeat' (first | ((first | refine WL.p rfl ?_ | refine WL.u ?_ | refine WL.g rfl rfl ?_ | refine WL.gu rfl ?_); first | (refine opk 1 rfl ?_; first | (refine ost_V H rfl (alive06 _) rfl ?_; clear H; intro wk H) | (refine ost_V H rfl (hS _) rfl ?_; clear H; intro wk H)) | refine pv ?_ | (refine opk 3 rfl ?_; first | (refine ost_eqA rfl (by decide) rfl rfl tyq tyq (fun hc => ?_) (fun hc => ?_) <;> try exact prE) | (refine ost_neA rfl (by decide) rfl rfl tyq tyq (fun hc => ?_) (fun hc => ?_) <;> try exact prE) | (refine ost_cmp rfl rfl rfl rfl (fun hc => ?_) (fun hc => ?_) <;> (simp only [cmpP] at hc; try exact prI))) | (refine opk 4 rfl ?_; (refine ost_cmp rfl rfl rfl rfl (fun hc => ?_) (fun hc => ?_) <;> (simp only [cmpP] at hc; try exact prI))) | (refine opk 9 rfl ?_; (refine ost_boxq H rfl ?_; clear H; intro bk wk H))) | refine Wc.seq ?_ | refine then_n ?_ | refine WL.nil ?_ | refine Wc.region ?_ | refine Wc.block ?_ | refine then_r ?_ | refine then_e ?_ | refine inb_e rfl ?_ | refine inb_o rfl ?_ | refine inb_n ?_ | refine inb_r ?_ | refine Wc.skip ?_ | refine Wc.exit ?_ | refine Wc.ret ?_ | refine Wc.cond_true rfl ?_ | refine Wc.cond_false rfl ?_ | (refine Wc.drawn (id := 5) 16 (by kernel_rfl) ?_) | (refine Wc.drawn (id := 7) 12 (by kernel_rfl) ?_) | refine WL.skp rfl rfl ?_ | refine WL.sku rfl ?_ | (refine rgs_nil ?_; intro vs wk hE; replace H := H.ext hE; clear hE) | refine RGs.skp (fun _ => rfl) rfl ?_ | (refine RGs.bq (fun _ => rfl) rfl (by intro vs w hE hP; have H := H.ext hE; exact db) (fun hc => ?_) (fun hc => ?_) <;> ((try simp only [cmpP, decide_eq_true_eq, decide_eq_false_iff_not, dcd_iff, dcd_no] at hc); try exact prD)) | refine RGs.pq (fun _ => rfl) rfl (by intro vs w hE hP; have H := H.ext hE; exact dv) ?_)
    all_goals ((first | refine fn_ret1 (v := .bool _) rfl rfl ⟨?_, H.fr⟩ | refine fn_ret1 (v := .int _ _) rfl rfl ⟨?_, H.fr⟩ | refine fn_ret1 (v := .string _) rfl rfl ⟨?_, H.fr⟩); rfl)
  | true =>
    have hS : ∀ w, SpecV Try.prog 60 #[.agg (cOp a).toArray, .int .i64 16] w (.bool true) := fun w => by
      have := op_Right a 16 w; rw [hr] at this; exact this
    have hA := hA hr
    cases hl : leV a.ctx b.ctx with
    | false =>
      have hB : ∀ w, SpecV Try.prog 42 #[.agg (cV a.ctx).toArray, .agg (cV b.ctx).toArray] w (.bool false) := fun w => by have := ref4_Below a.ctx b.ctx w; rw [hl] at this; exact this
      repeat' (first | ((first | refine WL.p rfl ?_ | refine WL.u ?_ | refine WL.g rfl rfl ?_ | refine WL.gu rfl ?_); first | (refine opk 1 rfl ?_; first | (refine ost_V H rfl (alive06 _) rfl ?_; clear H; intro wk H) | (refine ost_V H rfl (hS _) rfl ?_; clear H; intro wk H) | (refine ost_VB H rfl (op_Right _ _ _) rfl ?_ ?_ <;> (intro hc; (try (first | exact (bcon hc ‹_›).elim | exact (bcon ‹_› hc).elim)); try (clear H; intro wk H))) | (refine ost_V H rfl (hB _) rfl ?_; clear H; intro wk H) | (refine ost_V H rfl (op_Count _ _) rfl ?_; clear H; intro wk H) | (refine ost_V H rfl (ref4_Sum _ _) rfl ?_; clear H; intro wk H)) | refine pv ?_ | (refine opk 3 rfl ?_; first | (refine ost_eqA rfl (by decide) rfl rfl tyq tyq (fun hc => ?_) (fun hc => ?_) <;> try exact prE) | (refine ost_neA rfl (by decide) rfl rfl tyq tyq (fun hc => ?_) (fun hc => ?_) <;> try exact prE) | (refine ost_cmp rfl rfl rfl rfl (fun hc => ?_) (fun hc => ?_) <;> (simp only [cmpP] at hc; try exact prI))) | (refine opk 4 rfl ?_; (refine ost_cmp rfl rfl rfl rfl (fun hc => ?_) (fun hc => ?_) <;> (simp only [cmpP] at hc; try exact prI))) | (refine opk 9 rfl ?_; (refine ost_boxq H rfl ?_; clear H; intro bk wk H))) | refine Wc.seq ?_ | refine then_n ?_ | refine WL.nil ?_ | refine Wc.region ?_ | refine Wc.block ?_ | refine then_r ?_ | refine then_e ?_ | refine inb_e rfl ?_ | refine inb_o rfl ?_ | refine inb_n ?_ | refine inb_r ?_ | refine Wc.skip ?_ | refine Wc.exit ?_ | refine Wc.ret ?_ | refine Wc.cond_true rfl ?_ | refine Wc.cond_false rfl ?_ | (refine Wc.drawn (id := 5) 16 (by kernel_rfl) ?_) | (refine Wc.drawn (id := 7) 12 (by kernel_rfl) ?_) | refine WL.skp rfl rfl ?_ | refine WL.sku rfl ?_ | (refine rgs_nil ?_; intro vs wk hE; replace H := H.ext hE; clear hE) | refine RGs.skp (fun _ => rfl) rfl ?_ | (refine RGs.bq (fun _ => rfl) rfl (by intro vs w hE hP; have H := H.ext hE; first | (refine opk 1 rfl ?_; (exact ost_V0d rfl (op_Right _ _ _) rfl)) | exact db) (fun hc => ?_) (fun hc => ?_) <;> ((try simp only [cmpP, decide_eq_true_eq, decide_eq_false_iff_not, dcd_iff, dcd_no] at hc); try exact prD)) | refine RGs.pq (fun _ => rfl) rfl (by intro vs w hE hP; have H := H.ext hE; first | (refine opk 1 rfl ?_; first | (exact ost_V0d rfl (hS _) rfl) | (exact ost_V0d rfl (hB _) rfl) | (exact ost_V0d rfl (op_Count _ _) rfl) | (exact ost_V0d rfl (ref4_Sum _ _) rfl)) | exact dv) ?_)
      all_goals ((first | refine fn_ret1 (v := .bool _) rfl rfl ⟨?_, H.fr⟩ | refine fn_ret1 (v := .int _ _) rfl rfl ⟨?_, H.fr⟩ | refine fn_ret1 (v := .string _) rfl rfl ⟨?_, H.fr⟩); rfl)
    | true =>
      have hB : ∀ w, SpecV Try.prog 42 #[.agg (cV a.ctx).toArray, .agg (cV b.ctx).toArray] w (.bool true) := fun w => by have := ref4_Below a.ctx b.ctx w; rw [hl] at this; exact this
      rcases hne with hne | hne
      · rw [hne] at ca hB
        clear hne hL
        repeat' (first | ((first | refine WL.p rfl ?_ | refine WL.u ?_ | refine WL.g rfl rfl ?_ | refine WL.gu rfl ?_); first | (refine opk 1 rfl ?_; first | (refine ost_V H rfl (alive06 _) rfl ?_; clear H; intro wk H) | (refine ost_V H rfl (hS _) rfl ?_; clear H; intro wk H) | (refine ost_VB H rfl (op_Right _ _ _) rfl ?_ ?_ <;> (intro hc; (try (first | exact (bcon hc ‹_›).elim | exact (bcon ‹_› hc).elim)); try (clear H; intro wk H))) | (refine ost_V H rfl (hB _) rfl ?_; clear H; intro wk H) | (refine ost_V H rfl (op_Count _ _) rfl ?_; clear H; intro wk H) | (refine ost_V H rfl (ref4_Sum _ _) rfl ?_; clear H; intro wk H)) | refine pv ?_ | (refine opk 3 rfl ?_; first | (refine ost_eqA rfl (by decide) rfl rfl tyq tyq (fun hc => ?_) (fun hc => ?_) <;> try exact prE) | (refine ost_neA rfl (by decide) rfl rfl tyq tyq (fun hc => ?_) (fun hc => ?_) <;> try exact prE) | (refine ost_cmp rfl rfl rfl rfl (fun hc => ?_) (fun hc => ?_) <;> (simp only [cmpP] at hc; try exact prI))) | (refine opk 4 rfl ?_; (refine ost_cmp rfl rfl rfl rfl (fun hc => ?_) (fun hc => ?_) <;> (simp only [cmpP] at hc; try exact prI))) | (refine opk 9 rfl ?_; (refine ost_boxq H rfl ?_; clear H; intro bk wk H))) | refine Wc.seq ?_ | refine then_n ?_ | refine WL.nil ?_ | refine Wc.region ?_ | refine Wc.block ?_ | refine then_r ?_ | refine then_e ?_ | refine inb_e rfl ?_ | refine inb_o rfl ?_ | refine inb_n ?_ | refine inb_r ?_ | refine Wc.skip ?_ | refine Wc.exit ?_ | refine Wc.ret ?_ | refine Wc.cond_true rfl ?_ | refine Wc.cond_false rfl ?_ | (refine Wc.drawn (id := 5) 16 (by kernel_rfl) ?_) | (refine Wc.drawn (id := 7) 12 (by kernel_rfl) ?_) | refine WL.skp rfl rfl ?_ | refine WL.sku rfl ?_ | (refine rgs_nil ?_; intro vs wk hE; replace H := H.ext hE; clear hE) | refine RGs.skp (fun _ => rfl) rfl ?_ | (refine RGs.bq (fun _ => rfl) rfl (by intro vs w hE hP; have H := H.ext hE; first | (refine opk 1 rfl ?_; (exact ost_V0d rfl (op_Right _ _ _) rfl)) | exact db) (fun hc => ?_) (fun hc => ?_) <;> ((try simp only [cmpP, decide_eq_true_eq, decide_eq_false_iff_not, dcd_iff, dcd_no] at hc); try exact prD)) | refine RGs.pq (fun _ => rfl) rfl (by intro vs w hE hP; have H := H.ext hE; first | (refine opk 1 rfl ?_; first | (exact ost_V0d rfl (hS _) rfl) | (exact ost_V0d rfl (hB _) rfl) | (exact ost_V0d rfl (op_Count _ _) rfl) | (exact ost_V0d rfl (ref4_Sum _ _) rfl)) | exact dv) ?_)
        all_goals ((first | refine fn_ret1 (v := .bool _) rfl rfl ⟨?_, H.fr⟩ | refine fn_ret1 (v := .int _ _) rfl rfl ⟨?_, H.fr⟩ | refine fn_ret1 (v := .string _) rfl rfl ⟨?_, H.fr⟩); rfl)
      · have hL := hL hl hne
        repeat' (first | ((first | refine WL.p rfl ?_ | refine WL.u ?_ | refine WL.g rfl rfl ?_ | refine WL.gu rfl ?_); first | (refine opk 1 rfl ?_; first | (refine ost_V H rfl (alive06 _) rfl ?_; clear H; intro wk H) | (refine ost_V H rfl (hS _) rfl ?_; clear H; intro wk H) | (refine ost_VB H rfl (op_Right _ _ _) rfl ?_ ?_ <;> (intro hc; (try (first | exact (bcon hc ‹_›).elim | exact (bcon ‹_› hc).elim)); try (clear H; intro wk H))) | (refine ost_V H rfl (hB _) rfl ?_; clear H; intro wk H) | (refine ost_V H rfl (op_Count _ _) rfl ?_; clear H; intro wk H) | (refine ost_V H rfl (ref4_Sum _ _) rfl ?_; clear H; intro wk H)) | refine pv ?_ | (refine opk 3 rfl ?_; first | (refine ost_eqA rfl (by decide) rfl rfl tyq tyq (fun hc => ?_) (fun hc => ?_) <;> try exact prE) | (refine ost_neA rfl (by decide) rfl rfl tyq tyq (fun hc => ?_) (fun hc => ?_) <;> try exact prE) | (refine ost_cmp rfl rfl rfl rfl (fun hc => ?_) (fun hc => ?_) <;> (simp only [cmpP] at hc; try exact prI))) | (refine opk 4 rfl ?_; (refine ost_cmp rfl rfl rfl rfl (fun hc => ?_) (fun hc => ?_) <;> (simp only [cmpP] at hc; try exact prI))) | (refine opk 9 rfl ?_; (refine ost_boxq H rfl ?_; clear H; intro bk wk H))) | refine Wc.seq ?_ | refine then_n ?_ | refine WL.nil ?_ | refine Wc.region ?_ | refine Wc.block ?_ | refine then_r ?_ | refine then_e ?_ | refine inb_e rfl ?_ | refine inb_o rfl ?_ | refine inb_n ?_ | refine inb_r ?_ | refine Wc.skip ?_ | refine Wc.exit ?_ | refine Wc.ret ?_ | refine Wc.cond_true rfl ?_ | refine Wc.cond_false rfl ?_ | (refine Wc.drawn (id := 5) 16 (by kernel_rfl) ?_) | (refine Wc.drawn (id := 7) 12 (by kernel_rfl) ?_) | refine WL.skp rfl rfl ?_ | refine WL.sku rfl ?_ | (refine rgs_nil ?_; intro vs wk hE; replace H := H.ext hE; clear hE) | refine RGs.skp (fun _ => rfl) rfl ?_ | (refine RGs.bq (fun _ => rfl) rfl (by intro vs w hE hP; have H := H.ext hE; first | (refine opk 1 rfl ?_; (exact ost_V0d rfl (op_Right _ _ _) rfl)) | exact db) (fun hc => ?_) (fun hc => ?_) <;> ((try simp only [cmpP, decide_eq_true_eq, decide_eq_false_iff_not, dcd_iff, dcd_no] at hc); try exact prD)) | refine RGs.pq (fun _ => rfl) rfl (by intro vs w hE hP; have H := H.ext hE; first | (refine opk 1 rfl ?_; first | (exact ost_V0d rfl (hS _) rfl) | (exact ost_V0d rfl (hB _) rfl) | (exact ost_V0d rfl (op_Count _ _) rfl) | (exact ost_V0d rfl (ref4_Sum _ _) rfl)) | exact dv) ?_)
        all_goals ((first | refine fn_ret1 (v := .bool _) rfl rfl ⟨?_, H.fr⟩ | refine fn_ret1 (v := .int _ _) rfl rfl ⟨?_, H.fr⟩ | refine fn_ret1 (v := .string _) rfl rfl ⟨?_, H.fr⟩); rfl)
end Go.Tg
namespace Go.Proofs.Ythpeejcmkhglmaa
open Go.ChangeShapes Go.WideShapes Go.ChangeAt Go.RowKit Go.Tg
theorem opCounts_lifted (os : Os) (started : os.Started) (H : Type) (enc : TypeId × Value → H) :
    ReturnsInHanded {} Try.checked os 23 .any (Rows.opCountsSpec.pre6 enc Try.prog Try.f23 Rows.opCountsRow.domain false) (Rows.opCountsSpec.post enc Try.prog Try.f23 false true false false) := by
  refine returnsInHanded_of_change (C := Try.checked) own_ started (by kernel_rfl) Try.func23
    (ChangeSpec.witness6 (enc := enc) (C := Try.checked) false ⟨#[], #[.agg (.int .u8 0 :: .int .u32 0 :: .int .u8 0 :: .int .u16 0 :: .int .u16 0 :: .int .u16 0 :: .int .u32 0 :: List.replicate 16 (Value.int .u32 0)).toArray, .agg (.int .u8 0 :: .int .u32 0 :: .int .u8 0 :: .int .u16 0 :: .int .u16 0 :: .int .u16 0 :: .int .u32 0 :: List.replicate 16 (Value.int .u32 0)).toArray], []⟩ 8 (by kernel_rfl) (by kernel_rfl) (by kernel_rfl) (by kernel_rfl)) ?_
  intro W base args ds gs before hval0 hW hcnd _
  have hval : ∀ (j : Nat) t v, Try.f23.params[j]? = some t → args[j]? = some v → Value.okWide Try.prog W .any base t v := hval0
  have hW' := hW
  obtain ⟨p, q, hA0, -, -, -, -⟩ := hW'
  have hA : DataW.TrodAll enc Try.prog W 0 (fun _ => true) true Try.f23.params.toList args.toList ds p := hA0
  rw [Try.params23] at hA hval
  obtain ⟨v0, v1, d0, d1, p0, p1, rfl, rfl, rfl, h0, h1⟩ := trodAll_two hA
  obtain ⟨a, rfl⟩ := op_ok (hval 0 _ v0 rfl rfl)
  obtain ⟨b, rfl⟩ := op_ok (hval 1 _ v1 rfl rfl)
  refine (law_OpCounts (w := W) a b).mono fun e W' ⟨v, he, hv, hE⟩ => ⟨v, he, ?_⟩
  subst hv
  exact law_post rfl hW hE rfl (by kernel_rfl) Try.underlying4 laid_ (by kernel_rfl)
theorem opCounts_holds : Rows.OpCountsSaid :=
  OpenClaim.holds_of_wide 23 Try.f23 rfl rfl rfl rfl rfl rfl rfl ⟨rfl, rfl, rfl, rfl, rfl⟩ rfl rfl rfl rfl rfl (by kernel_rfl) Try.func23 (by kernel_rfl)
    (of_decide_eq_true (by kernel_rfl)) (by unfold Func.isWrapper; first | (rw [if_pos (by decide +kernel)]; kernel_rfl) | (rw [if_neg (by decide +kernel)]; exact ⟨rfl, rfl⟩))
    (fun os started H enc _ => opCounts_lifted os started H enc)
end Go.Proofs.Ythpeejcmkhglmaa
