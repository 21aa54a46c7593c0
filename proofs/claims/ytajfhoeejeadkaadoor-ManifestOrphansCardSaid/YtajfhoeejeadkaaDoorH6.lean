/- Proved: the given statement ManifestOrphansCardSaid: the Go law ManifestOrphans returns true for every input that it is asked of. No conditions. -/
import Derived.Test.YtajfhoeejeadkaaDoorInst
import Derived.Test.YtajfhoeejeadkaaDoorAuto
import Derived.Test.YtajfhoeejeadkaaDoorH5
set_option linter.unusedVariables false
set_option linter.unusedSimpArgs false
set_option maxRecDepth 100000
set_option maxHeartbeats 8000000
namespace Go.Tg
open Go Go.Proofs
theorem St.freezeS {ws w : World} {S : List Nat} {h0 h : FH} {L : List HA} {v : Value} {l : List (List UInt8)} (H : St ws S h0 h (ownS v l :: L) w) : ∃ a c h', v = .slice a l.length c ∧ FLe h h' ∧ Sl h' 1 a c (l.map cStr) ∧ St ws S h0 h' L w := by
  have H2 : St ws S h0 h (ownR v 9 1 (l.map cStr) :: L) w := by
    unfold ownR; rw [sV_flat, List.length_map]; exact H
  obtain ⟨a, c, h', e, h1, h2, h3⟩ := H2.freezeR (rows_cStr l)
  rw [List.length_map] at e
  exact ⟨a, c, h', e, h1, h2, h3⟩
theorem law_ManifestOrphans (m : ManT) (A : MAd) (an : Option Addr) (cn : Nat) (l : List (List UInt8)) (w : World) (hT0 : Half (full w)) (hW0 : Pow (full w)) (hP0 : MnR (full w) m A) (hN0 : Sl (full w) 1 an cn (l.map cStr)) :
    SpecV Tryd.prog 15 #[.agg (mnV m A).toArray, .slice an l.length cn] w (.bool true) := by
  have H := St.start (sat_full w)
  have al := alive16 (full w)
  generalize hh : full w = h0 at H hT0 hW0 hP0 hN0 al
  have lm := mnV_len m A
  have q17 : (mnV m A)[0 + 17]? = some (.int .u32 m.base.toNat) := mnL_17 _ _ _ _ _ _ _
  have q18 : (mnV m A)[0 + 18]? = some (.slice A.a m.segs.length A.c) := mnL_18 _ _ _ _ _ _ _
  have q19 : (mnV m A)[0 + 19]? = some (.int .u32 m.next.toNat) := mnL_19 _ _ _ _ _ _ _
  have tm := law16_theirs m A
  have hln := hN0.lenM
  unfold SpecV
  refine calls_of Tryd.func15 rfl Tryd.ntmps15 (by simp) ?_
  by_cases hl : m.segs.length ≤ 300 ∧ l.length ≤ 300
  · obtain ⟨hl1, hl2⟩ := hl
    repeat' (first | ((first | refine WL.p rfl ?_ | refine WL.u ?_ | refine WL.g rfl rfl ?_ | refine WL.gu rfl ?_); first | (refine opk 1 rfl ?_; first | (refine ost_V H rfl (al _ H.sat hT0 hW0) rfl ?_; clear H; intro wk H) | (refine ost_C H rfl (r16_Orphans m A _ _ (sat_full _) (hW0.full H) (hP0.full H) an cn l (hN0.full H) (by omega)) rfl ?_; clear H; rintro vk wk hfk Lk ⟨a2, c2, rfl, rfl⟩ H; simp only [List.cons_append, List.nil_append] at H)) | refine pvQ ?_ | (refine opk 3 rfl ?_; first | (refine ost_cmp rfl rfl rfl rfl (fun hc => ?_) (fun hc => ?_) <;> (simp only [cmpP] at hc; try exact prIQ)) | (refine ost_streqB rfl rfl rfl (fun hc => ?_) (fun hc => ?_) <;> try exact prEQ) | (refine ost_strneB rfl rfl rfl (fun hc => ?_) (fun hc => ?_) <;> try exact prEQ) | (refine ost_streq rfl rfl rfl (fun hc => ?_) (fun hc => ?_) <;> try exact absurd rfl hc) | (refine ost_strne rfl rfl rfl (fun hc => ?_) (fun hc => ?_))) | (refine opk 4 rfl ?_; (refine ost_cmp rfl rfl rfl rfl (fun hc => ?_) (fun hc => ?_) <;> (simp only [cmpP] at hc; try exact prIQ))) | (refine opk 9 rfl ?_; (refine ost_boxq H rfl ?_; clear H; intro bk wk H))) | refine Wc.seq ?_ | refine then_n ?_ | refine WL.nil ?_ | refine Wc.region ?_ | refine Wc.block ?_ | refine then_r ?_ | refine then_e ?_ | refine inb_e rfl ?_ | refine inb_o rfl ?_ | refine inb_n ?_ | refine inb_r ?_ | refine Wc.skip ?_ | refine Wc.exit ?_ | refine Wc.ret ?_ | refine Wc.cond_true rfl ?_ | refine Wc.cond_false rfl ?_ | (refine Wc.drawn (id := 11) 8 (by kernel_rfl) ?_) | refine WL.skp rfl rfl ?_ | refine WL.sku rfl ?_ | (refine rgs_nil ?_; intro vs wk hE; replace H := H.ext hE; clear hE) | refine RGs.skp (fun _ => rfl) rfl ?_ | (refine RGs.bq (fun _ => rfl) rfl (by intro vs w hE hP; have H := H.ext hE; first | exact dbQ | fail) (fun hc => ?_) (fun hc => ?_) <;> ((try simp only [cmpP, decide_eq_true_eq, decide_eq_false_iff_not, dcd_iff, dcd_no] at hc); try exact prDQ)) | refine RGs.pq (fun _ => rfl) rfl (by intro vs w hE hP; have H := H.ext hE; first | (refine opk 1 rfl ?_; (exact ost_V0d rfl (tm _) rfl)) | exact dvQ | fail) ?_ | (refine Wc.drawM (id := 5) 6 [(3, [], fun v L' => ∃ a c, v = Value.slice a (orphM m l).length c ∧ L' = [ownS (Value.slice a (orphM m l).length c) (orphM m l)])] [.blk _ _] [3] H (by kernel_rfl) rfl (by kernel_rfl) (by simp only [inpL, List.nil_append, List.cons_append, List.append_nil]; first | exact List.Perm.refl _ | exact List.Perm.swap _ _ _ | exact (List.Perm.swap _ _ _).trans ((List.Perm.swap _ _ _).cons _) | exact ((List.Perm.swap _ _ _).cons _) | exact ((List.Perm.swap _ _ _).cons _).trans (List.Perm.swap _ _ _)) ?_) | (refine rgm_nil ?_; intro vs wk outs HM hR; obtain ⟨v9, ⟨a9, c9, e9, o9⟩, h9⟩ := hR 3 _ rfl; have hv9 : vs (0 + 1 + 1 + 1) = _ := (h9 (by kernel_rfl)).trans e9; simp only [outsL, o9, List.cons_append, List.nil_append, List.append_nil] at HM; (try dsimp only); rw [hv9]; replace H := HM; clear HM hR) | refine RGm.skp (fun _ => rfl) rfl ?_ | (refine RGm.bq (fun _ => rfl) rfl (by intro vs w TT hP H; simp only [List.cons_append, List.nil_append] at H; first | exact dbQ | fail) (fun hc => ?_) (fun hc => ?_) <;> ((try simp only [cmpP, decide_eq_true_eq, decide_eq_false_iff_not, dcd_iff, dcd_no] at hc); try exact prDQ)) | refine RGm.pq (fun _ => rfl) rfl (by intro vs w TT hP H; simp only [List.cons_append, List.nil_append] at H; first | (refine opk 1 rfl ?_; (exact ost_V0d rfl (tm _) rfl)) | exact dvQ | fail) ?_ | refine RGm.mq (fun _ => rfl) rfl (by intro vs w TT hP H; simp only [List.cons_append, List.nil_append] at H; first | (refine ost_C H rfl (man_Orphans m A _ _ (sat_full _) (hW0.full H) (hP0.full H) (by omega) an cn l (hN0.full H) (by omega)) rfl ?_; rintro vk wk hfk Lk ⟨a9, c9, rfl, rfl⟩ H2; exact ⟨_, ⟨a9, c9, rfl, rfl⟩, H2⟩) | fail) ?_ | refine RGm.mu rfl (by intro vs w TT hP H; simp only [List.cons_append, List.nil_append] at H; first | (refine ost_C H rfl (man_Orphans m A _ _ (sat_full _) (hW0.full H) (hP0.full H) (by omega) an cn l (hN0.full H) (by omega)) rfl ?_; rintro vk wk hfk Lk ⟨a9, c9, rfl, rfl⟩ H2; exact ⟨_, ⟨a9, c9, rfl, rfl⟩, H2⟩) | fail) ?_)
    obtain ⟨bm, ebm⟩ := H.nameB idx1
    subst ebm
    have hol : (orphM m l).length ≤ l.length := List.length_filter_le _ _
    generalize orphM m l = o at H hol ⊢
    obtain ⟨a3, c3, h3, e3, hle3, hS3, H9⟩ := H.freezeS
    injection e3 with e31 e32 e33
    subst e31; subst e33
    obtain ⟨a4, c4, h4, e4, hle4, hS4, H8⟩ := (H9.picks (L' := [_, _]) [1, 0] rfl (by decide)).freezeS
    injection e4 with e41 e42 e43
    subst e41; subst e43
    clear H H9
    have H := H8
    clear H8
    replace hS3 := hS3.mono hle4
    have hW4 := (hW0.mono hle3).mono hle4
    refine Wc.loopE (fun s0 n s w' => ∃ k : Nat, n = o.length - k ∧ k ≤ o.length ∧ Agree [4, 7, 33, 34, 35, 36, 37, 38, 39, 40, 41, 42, 43, 44, 45] s s0 ∧ s 33 = .int .i64 k ∧ St w [] h0 h4 [.blk bm (.cells (mnV m A).toArray 93 (0, 0))] w') o.length ⟨0, rfl, by omega, Agree.refl _ _, rfl, H⟩ ?_
    clear H
    rintro n s w' ⟨k, rfl, hk, hA9, e1, H⟩
    obtain ⟨j, rfl⟩ := hA9.env1 e1
    clear hA9 e1
    by_cases hlt : k < o.length
    · obtain ⟨b5, off5, l5, T5, fr5, e5, eb5, eg5⟩ := hS3.getM (by decide) (Nat.lt_of_le_of_lt (Nat.zero_le _) hlt)
      subst e5
      have g5 : l5[off5 + (k : Int).toNat * 1]? = some (.string (bstr o[k])) := row_cell (eg5 (k : Int).toNat k hlt (by omega)) (q := 0) (by simp [cStr])
      obtain ⟨b6, off6, l6, T6, fr6, e6, eb6, eg6⟩ := hS4.getM (by decide) (Nat.lt_of_le_of_lt (Nat.zero_le _) hlt)
      subst e6
      have g6 : l6[off6 + (k : Int).toNat * 1]? = some (.string (bstr o[k])) := row_cell (eg6 (k : Int).toNat k hlt (by omega)) (q := 0) (by simp [cStr])
      clear eg5 eg6
      generalize o[k] = x at g5 g6
      repeat' (first | ((first | refine WL.p rfl ?_ | refine WL.u ?_ | refine WL.g rfl rfl ?_ | refine WL.gu rfl ?_); first | refine pvQ ?_ | (refine opk 3 rfl ?_; first | (refine ost_cmp rfl rfl rfl rfl (fun hc => ?_) (fun hc => ?_) <;> (simp only [cmpP] at hc; try exact prIQ)) | (refine ost_streqB rfl rfl rfl (fun hc => ?_) (fun hc => ?_) <;> try exact prEQ) | (refine ost_strneB rfl rfl rfl (fun hc => ?_) (fun hc => ?_) <;> try exact prEQ) | (refine ost_streq rfl rfl rfl (fun hc => ?_) (fun hc => ?_) <;> try exact absurd rfl hc) | (refine ost_strne rfl rfl rfl (fun hc => ?_) (fun hc => ?_))) | (refine opk 4 rfl ?_; (refine ost_cmp rfl rfl rfl rfl (fun hc => ?_) (fun hc => ?_) <;> (simp only [cmpP] at hc; try exact prIQ))) | (refine opk 9 rfl ?_; (refine ost_boxq H rfl ?_; clear H; intro bk wk H))) | refine Wc.seq ?_ | refine then_n ?_ | refine WL.nil ?_ | refine Wc.region ?_ | refine Wc.block ?_ | refine then_r ?_ | refine then_e ?_ | refine inb_e rfl ?_ | refine inb_o rfl ?_ | refine inb_n ?_ | refine inb_r ?_ | refine Wc.skip ?_ | refine Wc.exit ?_ | refine Wc.ret ?_ | refine Wc.cond_true rfl ?_ | refine Wc.cond_false rfl ?_ | (refine Wc.drawn (id := 5) 6 (by kernel_rfl) ?_) | (refine Wc.drawn (id := 11) 8 (by kernel_rfl) ?_) | (refine Wc.drawn (id := 14) 13 (by kernel_rfl) ?_) | refine WL.skp rfl rfl ?_ | refine WL.sku rfl ?_ | (refine rgs_nil ?_; intro vs wk hE; replace H := H.ext hE; clear hE) | refine RGs.skp (fun _ => rfl) rfl ?_ | (refine RGs.bq (fun _ => rfl) rfl (by intro vs w hE hP; have H := H.ext hE; first | exact dbQ | fail) (fun hc => ?_) (fun hc => ?_) <;> ((try simp only [cmpP, decide_eq_true_eq, decide_eq_false_iff_not, dcd_iff, dcd_no] at hc); try exact prDQ)) | refine RGs.pq (fun _ => rfl) rfl (by intro vs w hE hP; have H := H.ext hE; first | exact dvQ | fail) ?_)
      exact ⟨o.length - (k + 1), by omega, k + 1, rfl, by omega, by (repeat' (first | exact Agree.refl _ _ | exact Agree.havoc | refine Agree.upd rfl ?_ | refine Agree.hav2 rfl ?_)), rfl, H⟩
    · have hS1 := man_SegName m.next
      have hS2 := r16_SegName m.next
      have hB1 := man_BaseName m.base
      have hB2 := r16_BaseName m.base
      repeat' (first | ((first | refine WL.p rfl ?_ | refine WL.u ?_ | refine WL.g rfl rfl ?_ | refine WL.gu rfl ?_); first | (refine opk 1 rfl ?_; (refine ost_V H rfl (hB2 _ _ (sat_full _) (hW4.full H)) rfl ?_; clear H; intro wk H)) | refine pvQ ?_ | (refine opk 3 rfl ?_; first | (refine ost_cmp rfl rfl rfl rfl (fun hc => ?_) (fun hc => ?_) <;> (simp only [cmpP] at hc; try exact prIQ)) | (refine ost_streqB rfl rfl rfl (fun hc => ?_) (fun hc => ?_) <;> try exact prEQ) | (refine ost_strneB rfl rfl rfl (fun hc => ?_) (fun hc => ?_) <;> try exact prEQ) | (refine ost_streq rfl rfl rfl (fun hc => ?_) (fun hc => ?_) <;> try exact absurd rfl hc) | (refine ost_strne rfl rfl rfl (fun hc => ?_) (fun hc => ?_))) | (refine opk 4 rfl ?_; (refine ost_cmp rfl rfl rfl rfl (fun hc => ?_) (fun hc => ?_) <;> (simp only [cmpP] at hc; try exact prIQ))) | (refine opk 9 rfl ?_; (refine ost_boxq H rfl ?_; clear H; intro bk wk H))) | refine Wc.seq ?_ | refine then_n ?_ | refine WL.nil ?_ | refine Wc.region ?_ | refine Wc.block ?_ | refine then_r ?_ | refine then_e ?_ | refine inb_e rfl ?_ | refine inb_o rfl ?_ | refine inb_n ?_ | refine inb_r ?_ | refine Wc.skip ?_ | refine Wc.exit ?_ | refine Wc.ret ?_ | refine Wc.cond_true rfl ?_ | refine Wc.cond_false rfl ?_ | (refine Wc.drawn (id := 5) 6 (by kernel_rfl) ?_) | (refine Wc.drawn (id := 11) 8 (by kernel_rfl) ?_) | (refine Wc.drawn (id := 14) 13 (by kernel_rfl) ?_) | refine WL.skp rfl rfl ?_ | refine WL.sku rfl ?_ | (refine rgs_nil ?_; intro vs wk hE; replace H := H.ext hE; clear hE) | refine RGs.skp (fun _ => rfl) rfl ?_ | (refine RGs.bq (fun _ => rfl) rfl (by intro vs w hE hP; have H := H.ext hE; first | exact dbQ | fail) (fun hc => ?_) (fun hc => ?_) <;> ((try simp only [cmpP, decide_eq_true_eq, decide_eq_false_iff_not, dcd_iff, dcd_no] at hc); try exact prDQ)) | refine RGs.pq (fun _ => rfl) rfl (by intro vs w hE hP; have H := H.ext hE; first | (refine opk 1 rfl ?_; first | (exact ost_V0d rfl (hS1 _ _ (sat_full _) (hW4.full H)) rfl) | (exact ost_V0d rfl (hS2 _ _ (sat_full _) (hW4.full H)) rfl) | (exact ost_V0d rfl (hB1 _ _ (sat_full _) (hW4.full H)) rfl) | (exact ost_V0d rfl (hB2 _ _ (sat_full _) (hW4.full H)) rfl)) | exact dvQ | fail) ?_)
      all_goals ((first | refine fn_ret1 (v := .bool _) rfl rfl ⟨?_, H.fr⟩ | refine fn_ret1 (v := .int _ _) rfl rfl ⟨?_, H.fr⟩ | refine fn_ret1 (v := .string _) rfl rfl ⟨?_, H.fr⟩); rfl)
  · repeat' (first | ((first | refine WL.p rfl ?_ | refine WL.u ?_ | refine WL.g rfl rfl ?_ | refine WL.gu rfl ?_); first | (refine opk 1 rfl ?_; (refine ost_V H rfl (al _ H.sat hT0 hW0) rfl ?_; clear H; intro wk H)) | refine pvQ ?_ | (refine opk 3 rfl ?_; first | (refine ost_cmp rfl rfl rfl rfl (fun hc => ?_) (fun hc => ?_) <;> (simp only [cmpP] at hc; try exact prIQ)) | (refine ost_streqB rfl rfl rfl (fun hc => ?_) (fun hc => ?_) <;> try exact prEQ) | (refine ost_strneB rfl rfl rfl (fun hc => ?_) (fun hc => ?_) <;> try exact prEQ) | (refine ost_streq rfl rfl rfl (fun hc => ?_) (fun hc => ?_) <;> try exact absurd rfl hc) | (refine ost_strne rfl rfl rfl (fun hc => ?_) (fun hc => ?_))) | (refine opk 4 rfl ?_; (refine ost_cmp rfl rfl rfl rfl (fun hc => ?_) (fun hc => ?_) <;> (simp only [cmpP] at hc; try exact prIQ))) | (refine opk 9 rfl ?_; (refine ost_boxq H rfl ?_; clear H; intro bk wk H))) | refine Wc.seq ?_ | refine then_n ?_ | refine WL.nil ?_ | refine Wc.region ?_ | refine Wc.block ?_ | refine then_r ?_ | refine then_e ?_ | refine inb_e rfl ?_ | refine inb_o rfl ?_ | refine inb_n ?_ | refine inb_r ?_ | refine Wc.skip ?_ | refine Wc.exit ?_ | refine Wc.ret ?_ | refine Wc.cond_true rfl ?_ | refine Wc.cond_false rfl ?_ | (refine Wc.drawn (id := 11) 8 (by kernel_rfl) ?_) | (refine Wc.drawn (id := 14) 13 (by kernel_rfl) ?_) | refine WL.skp rfl rfl ?_ | refine WL.sku rfl ?_ | (refine rgs_nil ?_; intro vs wk hE; replace H := H.ext hE; clear hE) | refine RGs.skp (fun _ => rfl) rfl ?_ | (refine RGs.bq (fun _ => rfl) rfl (by intro vs w hE hP; have H := H.ext hE; first | exact dbQ | fail) (fun hc => ?_) (fun hc => ?_) <;> ((try simp only [cmpP, decide_eq_true_eq, decide_eq_false_iff_not, dcd_iff, dcd_no] at hc); try exact prDQ)) | refine RGs.pq (fun _ => rfl) rfl (by intro vs w hE hP; have H := H.ext hE; first | exact dvQ | fail) ?_)
    all_goals first | ((first | refine fn_ret1 (v := .bool _) rfl rfl ⟨?_, H.fr⟩ | refine fn_ret1 (v := .int _ _) rfl rfl ⟨?_, H.fr⟩ | refine fn_ret1 (v := .string _) rfl rfl ⟨?_, H.fr⟩); rfl) | (exfalso; omega)
end Go.Tg
namespace Go.Proofs.YtajfhoeejeadkaaDoor
open Go.ChangeShapes Go.WideShapes Go.ChangeAt Go.RowKit Go.Tg
theorem manifestOrphans_lifted (os : Os) (started : os.Started) (H : Type) (enc : TypeId × Value → H) :
    ReturnsInHanded {} Tryd.checked os 15 .any (fun w args => (Rows.manifestOrphansSpec.pre enc Tryd.prog Tryd.f15 Rows.manifestOrphansRow.domain false w args ∧ laidMetH Tryd.prog Rows.manifestOrphansRow.laid w) ∧ sizedMet enc Tryd.prog Tryd.f15 (OpenSpec.ofChange Rows.manifestOrphansSpec) false w args) (Rows.manifestOrphansSpec.post enc Tryd.prog Tryd.f15 false true false false) := by
  refine returnsInHanded_of_change_and (C := Tryd.checked) (X := fun w _ => laidMetH Tryd.prog Rows.manifestOrphansRow.laid w) (fun _ _ _ hh h => h.of_heap hh) own_ started (by kernel_rfl) Tryd.func15
    (ChangeSpec.witness_shaped (enc := enc) (C := Tryd.checked) (os := os) (X := fun w _ => laidMetH Tryd.prog Rows.manifestOrphansRow.laid w) false (World.laidAll Tryd.prog os Rows.manifestOrphansRow.laid) #[.agg (.int .u64 0 :: (List.replicate 16 (Value.int .u32 0) ++ [.int .u32 0, .slice none 0 0, .int .u32 0])).toArray, .slice none 0 0] 8 (World.laidAll_os _ _ _)
      (World.shaped_of_ZipB (by kernel_rfl) (by kernel_rfl)) (by kernel_rfl) (by kernel_rfl) (by kernel_rfl)
      (by rw [MakeChecks.laidMetH_plain _ _ _ (by kernel_rfl)]; exact laidMet_laidAll _ (by kernel_rfl) (by kernel_rfl))) ?_
  intro W base args ds gs before hval0 hW hcnd _ hLd _
  have hval : ∀ (j : Nat) t v, Tryd.f15.params[j]? = some t → args[j]? = some v → Value.okWide Tryd.prog W .any base t v := hval0
  have hT : Half (full W) ∧ Pow (full W) := tabs_of (by kernel_rfl) (by rfl) hLd
  have hW' := hW
  obtain ⟨p, q, hA0, -, -, -, -⟩ := hW'
  have hA : DataW.TrodAll enc Tryd.prog W 0 (fun _ => true) true Tryd.f15.params.toList args.toList ds p := hA0
  rw [Tryd.params15] at hA hval
  obtain ⟨v0, v1, d0, d1, p0, p1, rfl, rfl, rfl, h0, h1⟩ := trodAll_two hA
  obtain ⟨m, ma, e0, mr⟩ := man_of (Td.of h0)
  obtain rfl := val_ofA e0 (okWide_struct Tryd.underlying93 (hval 0 _ v0 rfl rfl))
  obtain ⟨namesa, namesc, names, e1, namesr⟩ := strs_of (Td.of h1)
  obtain rfl := val_of1 e1 (okWide_slice Tryd.underlying107 (hval 1 _ v1 rfl rfl))
  refine (law_ManifestOrphans m ma namesa namesc names W hT.1 hT.2 mr namesr).mono fun e W' ⟨v, he, hv, hE⟩ => ⟨v, he, ?_⟩
  subst hv
  exact law_post rfl hW hE rfl (by kernel_rfl) Tryd.underlying4 laid_ (by kernel_rfl)
theorem manifestOrphans_said : Rows.ManifestOrphansSaid :=
  OpenClaim.holds_of_wide 15 Tryd.f15 rfl rfl rfl rfl rfl rfl rfl ⟨rfl, rfl, rfl, rfl, rfl⟩ rfl rfl rfl rfl rfl (by kernel_rfl) Tryd.func15 (by kernel_rfl)
    (of_decide_eq_true (by kernel_rfl)) (by unfold Func.isWrapper; first | (rw [if_pos (by decide +kernel)]; kernel_rfl) | (rw [if_neg (by decide +kernel)]; exact ⟨rfl, rfl⟩))
    (fun os started H enc _ => manifestOrphans_lifted os started H enc)
theorem manifestOrphans_holds : Rows.ManifestOrphansCardSaid :=
  Claim7.holds_tied_plain_at .later [] [.data, .data, .data, .data] true (true, "9bdefd4ab56ad6846b860e456533c8c9234d832d0db0c11e5e7191fbced85786") false manifestOrphans_said (fun _ h => by cases h) (by kernel_rfl) (fun _ h => by cases h) manifestOrphans_row_tie rfl ⟨rfl, rfl⟩ (by kernel_rfl) rfl
    (fun f fn hf hfn => by
      obtain rfl : f = 15 := Option.some.inj ((show Tryd.prog.funcNamed "trug/truglaw16.ManifestOrphans" = some 15 by kernel_rfl).symm.trans hf) |>.symm
      obtain rfl : fn = Tryd.f15 := (Option.some.inj (Tryd.func15.symm.trans hfn)).symm
      exact ⟨by kernel_rfl, fun j t ht => by
        have hm : t ∈ Tryd.f15.params.toList := by simpa using Array.mem_of_getElem? ht
        have hall : (Tryd.f15.params.toList.all fun u => !Tryd.prog.wantsStandIn u) = true := by kernel_rfl
        exact (show Tryd.prog.wantsStandIn t = false by simpa using List.all_eq_true.1 hall t hm)⟩)
    (by kernel_rfl)
end Go.Proofs.YtajfhoeejeadkaaDoor

