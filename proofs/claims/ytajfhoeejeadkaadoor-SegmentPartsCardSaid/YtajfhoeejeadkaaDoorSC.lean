/- Proved: the given statement SegmentPartsCardSaid: the Go law SegmentParts returns true for every input that it is asked of. No conditions. -/
import Derived.Test.YtajfhoeejeadkaaDoorInst
import Derived.Test.YtajfhoeejeadkaaDoorAuto
import Derived.Test.YtajfhoeejeadkaaDoorL1
import Derived.Test.YtajfhoeejeadkaaDoorL4
import Derived.Test.YtajfhoeejeadkaaDoorCards
import Derived.Test.YtajfhoeejeadkaaDoorTie
import Derived.SevenTiedAt
set_option linter.unusedVariables false
set_option linter.unusedSimpArgs false
set_option maxRecDepth 100000
set_option maxHeartbeats 8000000
namespace Go.Tg
open Go Go.Proofs
theorem law_SegmentParts (id : UInt32) (o : OpT) (n : Int) (n1 : -9223372036854775808 ≤ n) (n2 : n ≤ 9223372036854775807) (w : World) (hT0 : Half (full w)) : SpecV Tryd.prog 9 #[.int .u32 id.toNat, .agg (cOp o).toArray, .int .i64 n] w (.bool true) := by
  have H := St.start (sat_full w)
  generalize hh : full w = h0 at H hT0
  have lo := cOp_len o
  have cA := seg_Record o
  have cB := r12_Record o
  generalize outC o = X at cA cB
  obtain ⟨x, e⟩ := X
  have cC := seg_Foot n n1 n2
  have cD := r12_Foot n n1 n2
  generalize outK n = Y at cC cD
  obtain ⟨y, g⟩ := Y
  dsimp only at cA cB cC cD
  have cE := seg_Head id
  have cF := r12_Head id
  unfold SpecV
  refine calls_of Tryd.func9 rfl Tryd.ntmps9 (by simp) ?_
  repeat' (first | ((first | refine WL.p rfl ?_ | refine WL.u ?_ | refine WL.g rfl rfl ?_ | refine WL.gu rfl ?_); first | (refine opk 1 rfl ?_; first | (refine ost_V H rfl (alive12 _ _ (sat_full _) (hT0.full H)) rfl ?_; clear H; intro wk H) | (refine ost_Sk H rfl (cA _ _ H.sat hT0) rfl ?_; clear H; rintro vk wk hfk Lk ⟨a1, c1, rfl, rfl⟩ hle H; simp only [List.cons_append, List.nil_append] at H)) | refine pvQ ?_ | (refine opk 3 rfl ?_; first | (refine ost_cmp rfl rfl rfl rfl (fun hc => ?_) (fun hc => ?_) <;> (simp only [cmpP] at hc; try exact prIQ)) | (refine ost_streqB rfl rfl rfl (fun hc => ?_) (fun hc => ?_) <;> try exact prEQ) | (refine ost_strneB rfl rfl rfl (fun hc => ?_) (fun hc => ?_) <;> try exact prEQ) | (refine ost_streq rfl rfl rfl (fun hc => ?_) (fun hc => ?_) <;> try exact absurd rfl hc) | (refine ost_strne rfl rfl rfl (fun hc => ?_) (fun hc => ?_))) | (refine opk 4 rfl ?_; (refine ost_cmp rfl rfl rfl rfl (fun hc => ?_) (fun hc => ?_) <;> (simp only [cmpP] at hc; try exact prIQ))) | (refine opk 9 rfl ?_; (refine ost_boxq H rfl ?_; clear H; intro bk wk H))) | refine Wc.seq ?_ | refine then_n ?_ | refine WL.nil ?_ | refine Wc.region ?_ | refine Wc.block ?_ | refine then_r ?_ | refine then_e ?_ | refine inb_e rfl ?_ | refine inb_o rfl ?_ | refine inb_n ?_ | refine inb_r ?_ | refine Wc.skip ?_ | refine Wc.exit ?_ | refine Wc.ret ?_ | refine Wc.cond_true rfl ?_ | refine Wc.cond_false rfl ?_ | (refine Wc.drawn (id := 7) 29 (by kernel_rfl) ?_) | refine WL.skp rfl rfl ?_ | refine WL.sku rfl ?_ | (refine rgs_nil ?_; intro vs wk hE; replace H := H.ext hE; clear hE) | refine RGs.skp (fun _ => rfl) rfl ?_ | (refine RGs.bq (fun _ => rfl) rfl (by intro vs w hE hP; have H := H.ext hE; first | exact dbQ | fail) (fun hc => ?_) (fun hc => ?_) <;> ((try simp only [cmpP, decide_eq_true_eq, decide_eq_false_iff_not, dcd_iff, dcd_no] at hc); try exact prDQ)) | refine RGs.pq (fun _ => rfl) rfl (by intro vs w hE hP; have H := H.ext hE; first | exact dvQ | fail) ?_)
  obtain ⟨a6, c6, h4, e6, hle4, hr4, H9⟩ := H.freeze8
  clear H; have H := H9; clear H9
  injection e6 with e61 e62 e63
  subst e61; subst e63
  have hT4 := (hT0.mono hle).mono hle4
  clear hle cA
  repeat' (first | ((first | refine WL.p rfl ?_ | refine WL.u ?_ | refine WL.g rfl rfl ?_ | refine WL.gu rfl ?_); first | (refine opk 1 rfl ?_; (refine ost_Sk H rfl (cB _ _ H.sat) rfl ?_; clear H; rintro vk wk hfk Lk ⟨a1, c1, rfl, rfl⟩ hle H; simp only [List.cons_append, List.nil_append] at H)) | refine pvQ ?_ | (refine opk 3 rfl ?_; first | (refine ost_cmp rfl rfl rfl rfl (fun hc => ?_) (fun hc => ?_) <;> (simp only [cmpP] at hc; try exact prIQ)) | (refine ost_streqB rfl rfl rfl (fun hc => ?_) (fun hc => ?_) <;> try exact prEQ) | (refine ost_strneB rfl rfl rfl (fun hc => ?_) (fun hc => ?_) <;> try exact prEQ) | (refine ost_streq rfl rfl rfl (fun hc => ?_) (fun hc => ?_) <;> try exact absurd rfl hc) | (refine ost_strne rfl rfl rfl (fun hc => ?_) (fun hc => ?_))) | (refine opk 4 rfl ?_; (refine ost_cmp rfl rfl rfl rfl (fun hc => ?_) (fun hc => ?_) <;> (simp only [cmpP] at hc; try exact prIQ))) | (refine opk 9 rfl ?_; (refine ost_boxq H rfl ?_; clear H; intro bk wk H))) | refine Wc.seq ?_ | refine then_n ?_ | refine WL.nil ?_ | refine Wc.region ?_ | refine Wc.block ?_ | refine then_r ?_ | refine then_e ?_ | refine inb_e rfl ?_ | refine inb_o rfl ?_ | refine inb_n ?_ | refine inb_r ?_ | refine Wc.skip ?_ | refine Wc.exit ?_ | refine Wc.ret ?_ | refine Wc.cond_true rfl ?_ | refine Wc.cond_false rfl ?_ | (refine Wc.drawn (id := 7) 29 (by kernel_rfl) ?_) | refine WL.skp rfl rfl ?_ | refine WL.sku rfl ?_ | (refine rgs_nil ?_; intro vs wk hE; replace H := H.ext hE; clear hE) | refine RGs.skp (fun _ => rfl) rfl ?_ | (refine RGs.bq (fun _ => rfl) rfl (by intro vs w hE hP; have H := H.ext hE; first | exact dbQ | fail) (fun hc => ?_) (fun hc => ?_) <;> ((try simp only [cmpP, decide_eq_true_eq, decide_eq_false_iff_not, dcd_iff, dcd_no] at hc); try exact prDQ)) | refine RGs.pq (fun _ => rfl) rfl (by intro vs w hE hP; have H := H.ext hE; first | exact dvQ | fail) ?_)
  obtain ⟨a6, c6, h5, e6, hle5, hr5, H9⟩ := H.freeze8
  clear H; have H := H9; clear H9
  injection e6 with e61 e62 e63
  subst e61; subst e63
  have hT5 := (hT4.mono hle).mono hle5
  have hr4 := (hr4.mono hle).mono hle5
  clear hle cB
  repeat' (first | ((first | refine WL.p rfl ?_ | refine WL.u ?_ | refine WL.g rfl rfl ?_ | refine WL.gu rfl ?_); first | (refine opk 1 rfl ?_; (refine ost_Sk H rfl (cC _ _ H.sat hT5) rfl ?_; clear H; rintro vk wk hfk Lk ⟨a1, c1, rfl, rfl⟩ hle H; simp only [List.cons_append, List.nil_append] at H)) | refine pvQ ?_ | (refine opk 3 rfl ?_; first | (refine ost_cmp rfl rfl rfl rfl (fun hc => ?_) (fun hc => ?_) <;> (simp only [cmpP] at hc; try exact prIQ)) | (refine ost_streqB rfl rfl rfl (fun hc => ?_) (fun hc => ?_) <;> try exact prEQ) | (refine ost_strneB rfl rfl rfl (fun hc => ?_) (fun hc => ?_) <;> try exact prEQ) | (refine ost_streq rfl rfl rfl (fun hc => ?_) (fun hc => ?_) <;> try exact absurd rfl hc) | (refine ost_strne rfl rfl rfl (fun hc => ?_) (fun hc => ?_))) | (refine opk 4 rfl ?_; (refine ost_cmp rfl rfl rfl rfl (fun hc => ?_) (fun hc => ?_) <;> (simp only [cmpP] at hc; try exact prIQ))) | (refine opk 9 rfl ?_; (refine ost_boxq H rfl ?_; clear H; intro bk wk H))) | refine Wc.seq ?_ | refine then_n ?_ | refine WL.nil ?_ | refine Wc.region ?_ | refine Wc.block ?_ | refine then_r ?_ | refine then_e ?_ | refine inb_e rfl ?_ | refine inb_o rfl ?_ | refine inb_n ?_ | refine inb_r ?_ | refine Wc.skip ?_ | refine Wc.exit ?_ | refine Wc.ret ?_ | refine Wc.cond_true rfl ?_ | refine Wc.cond_false rfl ?_ | (refine Wc.drawn (id := 7) 29 (by kernel_rfl) ?_) | refine WL.skp rfl rfl ?_ | refine WL.sku rfl ?_ | (refine rgs_nil ?_; intro vs wk hE; replace H := H.ext hE; clear hE) | refine RGs.skp (fun _ => rfl) rfl ?_ | (refine RGs.bq (fun _ => rfl) rfl (by intro vs w hE hP; have H := H.ext hE; first | exact dbQ | fail) (fun hc => ?_) (fun hc => ?_) <;> ((try simp only [cmpP, decide_eq_true_eq, decide_eq_false_iff_not, dcd_iff, dcd_no] at hc); try exact prDQ)) | refine RGs.pq (fun _ => rfl) rfl (by intro vs w hE hP; have H := H.ext hE; first | exact dvQ | fail) ?_)
  obtain ⟨a6, c6, h6, e6, hle6, hr6, H9⟩ := H.freeze8
  clear H; have H := H9; clear H9
  injection e6 with e61 e62 e63
  subst e61; subst e63
  have hT6 := (hT5.mono hle).mono hle6
  have hr4 := (hr4.mono hle).mono hle6
  have hr5 := (hr5.mono hle).mono hle6
  clear hle cC
  repeat' (first | ((first | refine WL.p rfl ?_ | refine WL.u ?_ | refine WL.g rfl rfl ?_ | refine WL.gu rfl ?_); first | (refine opk 1 rfl ?_; (refine ost_Sk H rfl (cD _ _ H.sat) rfl ?_; clear H; rintro vk wk hfk Lk ⟨a1, c1, rfl, rfl⟩ hle H; simp only [List.cons_append, List.nil_append] at H)) | refine pvQ ?_ | (refine opk 3 rfl ?_; first | (refine ost_cmp rfl rfl rfl rfl (fun hc => ?_) (fun hc => ?_) <;> (simp only [cmpP] at hc; try exact prIQ)) | (refine ost_streqB rfl rfl rfl (fun hc => ?_) (fun hc => ?_) <;> try exact prEQ) | (refine ost_strneB rfl rfl rfl (fun hc => ?_) (fun hc => ?_) <;> try exact prEQ) | (refine ost_streq rfl rfl rfl (fun hc => ?_) (fun hc => ?_) <;> try exact absurd rfl hc) | (refine ost_strne rfl rfl rfl (fun hc => ?_) (fun hc => ?_))) | (refine opk 4 rfl ?_; (refine ost_cmp rfl rfl rfl rfl (fun hc => ?_) (fun hc => ?_) <;> (simp only [cmpP] at hc; try exact prIQ))) | (refine opk 9 rfl ?_; (refine ost_boxq H rfl ?_; clear H; intro bk wk H))) | refine Wc.seq ?_ | refine then_n ?_ | refine WL.nil ?_ | refine Wc.region ?_ | refine Wc.block ?_ | refine then_r ?_ | refine then_e ?_ | refine inb_e rfl ?_ | refine inb_o rfl ?_ | refine inb_n ?_ | refine inb_r ?_ | refine Wc.skip ?_ | refine Wc.exit ?_ | refine Wc.ret ?_ | refine Wc.cond_true rfl ?_ | refine Wc.cond_false rfl ?_ | refine WL.skp rfl rfl ?_ | refine WL.sku rfl ?_)
  obtain ⟨a6, c6, h7, e6, hle7, hr7, H9⟩ := H.freeze8
  clear H; have H := H9; clear H9
  injection e6 with e61 e62 e63
  subst e61; subst e63
  have hT7 := (hT6.mono hle).mono hle7
  have hr4 := (hr4.mono hle).mono hle7
  have hr5 := (hr5.mono hle).mono hle7
  have hr6 := (hr6.mono hle).mono hle7
  clear hle cD
  repeat' (first | ((first | refine WL.p rfl ?_ | refine WL.u ?_ | refine WL.g rfl rfl ?_ | refine WL.gu rfl ?_); first | refine pvQ ?_ | (refine opk 3 rfl ?_; first | (refine ost_cmp rfl rfl rfl rfl (fun hc => ?_) (fun hc => ?_) <;> (simp only [cmpP] at hc; try exact prIQ)) | (refine ost_streqB rfl rfl rfl (fun hc => ?_) (fun hc => ?_) <;> try exact prEQ) | (refine ost_strneB rfl rfl rfl (fun hc => ?_) (fun hc => ?_) <;> try exact prEQ) | (refine ost_streq rfl rfl rfl (fun hc => ?_) (fun hc => ?_) <;> try exact absurd rfl hc) | (refine ost_strne rfl rfl rfl (fun hc => ?_) (fun hc => ?_))) | (refine opk 4 rfl ?_; (refine ost_cmp rfl rfl rfl rfl (fun hc => ?_) (fun hc => ?_) <;> (simp only [cmpP] at hc; try exact prIQ))) | (refine opk 9 rfl ?_; (refine ost_boxq H rfl ?_; clear H; intro bk wk H))) | refine Wc.seq ?_ | refine then_n ?_ | refine WL.nil ?_ | refine Wc.region ?_ | refine Wc.block ?_ | refine then_r ?_ | refine then_e ?_ | refine inb_e rfl ?_ | refine inb_o rfl ?_ | refine inb_n ?_ | refine inb_r ?_ | refine Wc.skip ?_ | refine Wc.exit ?_ | refine Wc.ret ?_ | refine Wc.cond_true rfl ?_ | refine Wc.cond_false rfl ?_ | (refine Wc.drawnB (id := 7) 29 [(1, headB id), (4, headB id)] (by kernel_rfl) ?_) | refine WL.skp rfl rfl ?_ | refine WL.sku rfl ?_ | (refine rgs_nil ?_; intro vs wk hE; replace H := H.ext hE; clear hE) | refine RGs.skp (fun _ => rfl) rfl ?_ | (refine RGs.bq (fun _ => rfl) rfl (by intro vs w hE hP; have H := H.ext hE; first | exact dbQ | fail) (fun hc => ?_) (fun hc => ?_) <;> ((try simp only [cmpP, decide_eq_true_eq, decide_eq_false_iff_not, dcd_iff, dcd_no] at hc); try exact prDQ)) | refine RGs.pq (fun _ => rfl) rfl (by intro vs w hE hP; have H := H.ext hE; first | (refine opk 6 rfl ?_; first | (refine ost_toStrN (xs := x) rfl rfl (by first | rfl | (simp; omega)) (hr4.full H) ?_; exact ⟨Fr.refl _ _, rfl⟩) | (refine ost_toStrN (xs := x) rfl rfl (by first | rfl | (simp; omega)) (hr5.full H) ?_; exact ⟨Fr.refl _ _, rfl⟩) | (refine ost_toStrN (xs := y) rfl rfl (by first | rfl | (simp; omega)) (hr6.full H) ?_; exact ⟨Fr.refl _ _, rfl⟩) | (refine ost_toStrN (xs := y) rfl rfl (by first | rfl | (simp; omega)) (hr7.full H) ?_; exact ⟨Fr.refl _ _, rfl⟩)) | (refine ost_toStrV rfl (pf_B hP 1 (by kernel_rfl) rfl rfl) ?_; exact ⟨Fr.refl _ _, rfl⟩) | (refine ost_toStrV rfl (pf_B hP 4 (by kernel_rfl) rfl rfl) ?_; exact ⟨Fr.refl _ _, rfl⟩) | exact dvQ | fail) ?_ | refine RGs.sq (fun _ => rfl) rfl (by intro vs w hE hP; have H := H.ext hE; first | (refine ost_B rfl (cE _ _ (sat_full _) (hT7.full H)) rfl (fun _ _ _ ⟨_, _, _, e⟩ => e) ?_; intro vk wk hX hB; exact ⟨hX, hB⟩) | (refine ost_B rfl (cF _ _ (sat_full _)) rfl (fun _ _ _ ⟨_, _, _, e⟩ => e) ?_; intro vk wk hX hB; exact ⟨hX, hB⟩) | fail) ?_)
  all_goals ((first | refine fn_ret1 (v := .bool _) rfl rfl ⟨?_, H.fr⟩ | refine fn_ret1 (v := .int _ _) rfl rfl ⟨?_, H.fr⟩ | refine fn_ret1 (v := .string _) rfl rfl ⟨?_, H.fr⟩); rfl)
end Go.Tg
namespace Go.Proofs.YtajfhoeejeadkaaDoor
open Go.ChangeShapes Go.WideShapes Go.ChangeAt Go.RowKit Go.Tg
theorem segmentParts_lifted (os : Os) (started : os.Started) (H : Type) (enc : TypeId × Value → H) :
    ReturnsInHanded {} Tryd.checked os 9 .any (fun w args => (Rows.segmentPartsSpec.pre enc Tryd.prog Tryd.f9 Rows.segmentPartsRow.domain false w args ∧ laidMetH Tryd.prog Rows.segmentPartsRow.laid w) ∧ sizedMet enc Tryd.prog Tryd.f9 (OpenSpec.ofChange Rows.segmentPartsSpec) false w args) (Rows.segmentPartsSpec.post enc Tryd.prog Tryd.f9 false true false false) := by
  refine returnsInHanded_of_change_and (C := Tryd.checked) (X := fun w _ => laidMetH Tryd.prog Rows.segmentPartsRow.laid w) (fun _ _ _ hh h => h.of_heap hh) own_ started (by kernel_rfl) Tryd.func9
    (ChangeSpec.witness_shaped (enc := enc) (C := Tryd.checked) (os := os) (X := fun w _ => laidMetH Tryd.prog Rows.segmentPartsRow.laid w) false (World.laidAll Tryd.prog os Rows.segmentPartsRow.laid) #[.int .u32 0, .agg (.int .u8 0 :: .int .u32 0 :: .int .u8 0 :: .int .u16 0 :: .int .u16 0 :: .int .u16 0 :: .int .u32 0 :: List.replicate 16 (Value.int .u32 0)).toArray, .int .i64 0] 8 (World.laidAll_os _ _ _)
      (World.shaped_of_ZipB (by kernel_rfl) (by kernel_rfl)) (by kernel_rfl) (by kernel_rfl) (by kernel_rfl)
      (by rw [MakeChecks.laidMetH_plain _ _ _ (by kernel_rfl)]; exact laidMet_laidAll _ (by kernel_rfl) (by kernel_rfl))) ?_
  intro W base args ds gs before hval0 hW hcnd _ hLd _
  have hval : ∀ (j : Nat) t v, Tryd.f9.params[j]? = some t → args[j]? = some v → Value.okWide Tryd.prog W .any base t v := hval0
  have hT : Half (full W) := half_of (by rfl) hLd
  have hW' := hW
  obtain ⟨p, q, hA0, -, -, -, -⟩ := hW'
  have hA : DataW.TrodAll enc Tryd.prog W 0 (fun _ => true) true Tryd.f9.params.toList args.toList ds p := hA0
  rw [Tryd.params9] at hA hval
  obtain ⟨v0, v1, v2, d0, d1, d2, p0, p1, p2, rfl, rfl, rfl, h0, h1, h2⟩ := trodAll_three hA
  obtain ⟨id, rfl⟩ := u32_ok (hval 0 _ v0 rfl rfl)
  obtain ⟨o, rfl⟩ := op_ok (hval 1 _ v1 rfl rfl)
  obtain ⟨n, rfl, n1, n2⟩ := int_of_okV Tryd.underlying3 (hval 2 _ v2 rfl rfl)
  refine (law_SegmentParts id o n n1 n2 W hT).mono fun e W' ⟨v, he, hv, hE⟩ => ⟨v, he, ?_⟩
  subst hv
  exact law_post rfl hW hE rfl (by kernel_rfl) Tryd.underlying4 laid_ (by kernel_rfl)
theorem segmentParts_said : Rows.SegmentPartsSaid :=
  OpenClaim.holds_of_wide 9 Tryd.f9 rfl rfl rfl rfl rfl rfl rfl ⟨rfl, rfl, rfl, rfl, rfl⟩ rfl rfl rfl rfl rfl (by kernel_rfl) Tryd.func9 (by kernel_rfl)
    (of_decide_eq_true (by kernel_rfl)) (by unfold Func.isWrapper; first | (rw [if_pos (by decide +kernel)]; kernel_rfl) | (rw [if_neg (by decide +kernel)]; exact ⟨rfl, rfl⟩))
    (fun os started H enc _ => segmentParts_lifted os started H enc)
theorem segmentParts_holds : Rows.SegmentPartsCardSaid :=
  Claim7.holds_tied_plain_at .later [] [.data] true (true, "9bdefd4ab56ad6846b860e456533c8c9234d832d0db0c11e5e7191fbced85786") false segmentParts_said (fun _ h => by cases h) (by kernel_rfl) (fun _ h => by cases h) segmentParts_row_tie rfl ⟨rfl, rfl⟩ (by kernel_rfl) rfl
    (fun f fn hf hfn => by
      obtain rfl : f = 9 := Option.some.inj ((show Tryd.prog.funcNamed "trug/truglaw12.SegmentParts" = some 9 by kernel_rfl).symm.trans hf) |>.symm
      obtain rfl : fn = Tryd.f9 := (Option.some.inj (Tryd.func9.symm.trans hfn)).symm
      exact ⟨by kernel_rfl, fun j t ht => by
        have hm : t ∈ Tryd.f9.params.toList := by simpa using Array.mem_of_getElem? ht
        have hall : (Tryd.f9.params.toList.all fun u => !Tryd.prog.wantsStandIn u) = true := by kernel_rfl
        exact (show Tryd.prog.wantsStandIn t = false by simpa using List.all_eq_true.1 hall t hm)⟩)
    (by kernel_rfl)
end Go.Proofs.YtajfhoeejeadkaaDoor

