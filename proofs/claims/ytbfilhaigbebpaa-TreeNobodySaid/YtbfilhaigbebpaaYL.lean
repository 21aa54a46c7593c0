/- Contracts of Go functions that the laws reach: what each call answers and leaves in memory, for all arguments within the bounds that each theorem names. -/
import Derived.Test.YtbfilhaigbebpaaInst
import Derived.Test.YtbfilhaigbebpaaAuto
import Derived.Test.YtbfilhaigbebpaaYC
import Derived.Test.YtbfilhaigbebpaaYG
set_option linter.unusedVariables false
set_option linter.unusedSimpArgs false
set_option maxRecDepth 100000
set_option maxHeartbeats 4000000
namespace Go.Tg
open Go Go.Proofs
theorem tr_Drop_none (tb mb rb : Nat) (T : TrM) (d : Nat) (s : Sh d) (k : KeyT) (g : FH) (w : World) (hT : TrI g T d s) (hm : ∀ y ∈ Sh.its d s, y.key ≠ k) (HO : St w (trO tb mb rb T).fp g g [trO tb mb rb T] w) :
    Spec Try.prog 12 #[pT tb, .agg (cKey k).toArray] w (trO tb mb rb T).fp g (fun v h' L' => h' = g ∧ v = .int .i64 7 ∧ L' = [trO tb mb rb T]) := by
  have H := HO
  generalize hF9 : (trO tb mb rb T).fp = F9 at H ⊢
  have lk := cKey_len k
  have hget := fun w hs hF hR => tr_Get tb mb rb T d s k (full w) w hs hF hT.ok hT.srt hR hT.root
  rw [getI_none hm] at hget
  have ly := cLoc_len ⟨0, 0⟩
  unfold Spec
  refine calls_of Try.func12 rfl Try.ntmps12 (by simp) ?_
  repeat' (first | ((first | refine WL.p rfl ?_ | refine WL.u ?_); first | (refine opk 1 rfl ?_; (refine ost_V H rfl (hget _ (sat_full _) (H.trF (i := 1) rfl) (hT.rep.mono H.sat.le)) rfl ?_; clear H; intro wk H)) | refine pvQ ?_ | (refine opk 3 rfl ?_; (refine ost_cmp rfl rfl rfl rfl (fun hc => ?_) (fun hc => ?_) <;> (simp only [cmpP] at hc; try exact prIQ))) | (refine opk 4 rfl ?_; (refine ost_cmp rfl rfl rfl rfl (fun hc => ?_) (fun hc => ?_) <;> (simp only [cmpP] at hc; try exact prIQ))) | (refine opk 8 rfl ?_; (refine ost_storeW H rfl rfl rfl rfl lQ ixQ lQ okQ ?_; clear H; intro wk H; simp only [List.set_cons_zero, List.set_cons_succ, Nat.reduceAdd] at H)) | (refine opk 9 rfl ?_; first | (refine ost_boxq H rfl ?_; clear H; intro bk wk H) | (refine ost_allocA H rfl ?_; clear H; intro bk wk H))) | refine Wc.seq ?_ | refine then_n ?_ | refine WL.nil ?_ | refine Wc.region ?_ | refine Wc.block ?_ | refine then_r ?_ | refine then_e ?_ | refine inb_e rfl ?_ | refine inb_o rfl ?_ | refine inb_n ?_ | refine inb_r ?_ | refine Wc.skip ?_ | refine Wc.exit ?_ | refine Wc.ret ?_ | refine Wc.cond_true rfl ?_ | refine Wc.cond_false rfl ?_ | (refine Wc.drawn (id := 4) 19 (by kernel_rfl) ?_) | (refine rgs_nil ?_; intro vs wk hE; replace H := H.ext hE; clear hE) | (refine RGs.bq (fun _ => rfl) rfl (by intro vs w hE hP; have H := H.ext hE; first | exact dbQ | fail) (fun hc => ?_) (fun hc => ?_) <;> ((try simp only [cmpP, decide_eq_true_eq, decide_eq_false_iff_not, dcd_iff, dcd_no] at hc); try exact prDQ)) | refine RGs.pq (fun _ => rfl) rfl (by intro vs w hE hP; have H := H.ext hE; first | exact dvQ | fail) ?_)
  all_goals first | (exfalso; omega) | skip
  exact fn_ret1 (v := .int _ _) rfl rfl ⟨_, _, H.picks (L' := [_]) [2] rfl (by decide), rfl, rfl, rfl⟩
theorem tr_Drop_has (tb mb rb : Nat) (T : TrM) (d : Nat) (s : Sh d) (k : KeyT) (g : FH) (w : World) (hT : TrI g T d s) (hm : ∃ y ∈ Sh.its d s, y.key = k) (hl : (Sh.its d s).length < 4097) (hn : T.next.toNat + 2 * (d + 1) + 4 < 4294967296) (HO : St w (trO tb mb rb T).fp g g [trO tb mb rb T] w) :
    Spec Try.prog 12 #[pT tb, .agg (cKey k).toArray] w (trO tb mb rb T).fp g (fun v h' L' => ∃ T', v = .int .i64 0 ∧ L' = [trO tb mb rb T'] ∧ Nxt h' T T' (newS (delF k) k d s T.next)) := by
  have H := HO
  generalize hF9 : (trO tb mb rb T).fp = F9 at H ⊢
  have lk := cKey_len k
  have hget := fun w hs hF hR => tr_Get tb mb rb T d s k (full w) w hs hF hT.ok hT.srt hR hT.root
  obtain ⟨y, hy, ey⟩ := hm
  rw [getI_mem hT.srt hy ey] at hget
  have ly := cLoc_len y.loc
  have hm : ∃ y ∈ Sh.its d s, y.key = k := ⟨y, hy, ey⟩
  have hgr := fun z => getM_look z hT.cnt
  unfold Spec
  refine calls_of Try.func12 rfl Try.ntmps12 (by simp) ?_
  repeat' (first | ((first | refine WL.p rfl ?_ | refine WL.u ?_); first | (refine opk 1 rfl ?_; (refine ost_V H rfl (hget _ (sat_full _) (H.trF (i := 1) rfl) (hT.rep.mono H.sat.le)) rfl ?_; clear H; intro wk H)) | refine pvQ ?_ | (refine opk 3 rfl ?_; (refine ost_cmp rfl rfl rfl rfl (fun hc => ?_) (fun hc => ?_) <;> (simp only [cmpP] at hc; try exact prIQ))) | (refine opk 4 rfl ?_; (refine ost_cmp rfl rfl rfl rfl (fun hc => ?_) (fun hc => ?_) <;> (simp only [cmpP] at hc; try exact prIQ))) | (refine opk 8 rfl ?_; (refine ost_storeW H rfl rfl rfl rfl lQ ixQ lQ okQ ?_; clear H; intro wk H; simp only [List.set_cons_zero, List.set_cons_succ, Nat.reduceAdd] at H)) | (refine opk 9 rfl ?_; first | (refine ost_boxq H rfl ?_; clear H; intro bk wk H) | (refine ost_allocA H rfl ?_; clear H; intro bk wk H))) | refine Wc.seq ?_ | refine then_n ?_ | refine WL.nil ?_ | refine Wc.region ?_ | refine Wc.block ?_ | refine then_r ?_ | refine then_e ?_ | refine inb_e rfl ?_ | refine inb_o rfl ?_ | refine inb_n ?_ | refine inb_r ?_ | refine Wc.skip ?_ | refine Wc.exit ?_ | refine Wc.ret ?_ | refine Wc.cond_true rfl ?_ | refine Wc.cond_false rfl ?_)
  all_goals first | (exfalso; omega) | skip
  obtain ⟨b9, e9⟩ := H.nameB idx0
  subst e9
  obtain ⟨b3, e3⟩ := H.nameB idx1
  subst e3
  replace H := (H.picks (L' := [trO tb mb rb T, .blk b3 _]) [2, 1] rfl (by decide)).split3
  obtain ⟨h1, hle, hb3, H7⟩ := (H.picks (L' := [.blk b3 _, .blk tb _, .blk mb _, .blk rb _]) [3, 0, 1, 2] rfl (by decide)).freezeB
  clear H
  have H : St w F9 g h1 [trO tb mb rb T] _ := H7.join3
  clear H7 hget
  have hed := fun g w => tr_edit tb mb rb 33 b3 (.cells (cKey k).toArray 42 (0, 0)) true k (delF k) (delF_ed k) (fun its A bq g w h1 h2 h3 h4 h5 => tr_drop1 k its A bq b3 g w h1 h2 (h3.1 rfl) h4 h5) d s T g w hT.ok hT.srt ⟨fun _ => hm, fun _ => rfl⟩
  have hpr := edS_props (delF_ed k) d T.next s hT.ok hT.srt (by omega)
  have hnw := newS_props (delF_ed k) (nx := T.next) hT.ok hT.srt (by omega)
  obtain ⟨hcl, hde⟩ := delF_at hT.srt hm
  have hil : (delF k (Sh.its d s)).length + 1 = (Sh.its d s).length := by
    rw [hde, List.length_eraseIdx, if_pos hcl]; omega
  clear hcl hde
  have hsr := delF_srt (k := k) hT.srt
  simp only [← hT.root] at hed
  unfold newS at hnw ⊢
  generalize hR : edS (delF k) k d T.next s = R at *
  refine Wc.drawF (id := 4) 19 [8] (piF [8] [] (edPs 8 tb mb rb T R)) H (by kernel_rfl) (by kernel_rfl) (piF_0 (A := [trO tb mb rb T]) rfl) ?_
  clear H
  iterate 8 refine RGf.p rfl (by intro vs w dn g' L hg hd hP H; have hb9 := hg _ _ hb3; obtain ⟨T2, rfl, q1, q2, q3⟩ := fam_tree hP; replace H := H.split3; rw [q1, q2, q3] at H; exact dvQ) ?_
  refine RGf.m rfl (by
    intro vs w dn g' L hg hd hdep hP H
    obtain ⟨T9, rfl, hps, hst⟩ := piF_step (by decide) hP 0 8 rfl hd (.inl rfl)
    obtain rfl : T9 = [trO tb mb rb T] := hps
    refine ost_H H rfl idx0 (fun HO => hed g' _ (hT.rep.mono (hle.trans hg)) hT.fresh (by omega) (hg _ _ hb3) HO) rfl ?_
    rintro vk wk hfk Lk ⟨T', a, c9, e1, rfl, h3, h4⟩ hle9 H2
    exact ⟨hfk, _, hle9, hst _ _ _ ⟨T', a, c9, e1, rfl, h3, h4⟩, H2⟩) ?_
  iterate 8 refine RGf.p rfl (by intro vs w dn g' L hg hd hP H; have hb9 := hg _ _ hb3; obtain ⟨T2, rfl, q1, q2, q3⟩ := fam_tree hP; replace H := H.split3; rw [q1, q2, q3] at H; exact dvQ) ?_
  refine RGf.p rfl (by intro vs w dn g' L hg hd hP H; have hb9 := hg _ _ hb3; obtain ⟨T2, rfl, q1, q2, q3⟩ := fam_tree hP; replace H := H.split3; rw [q1, q2, q3] at H; refine ost_lookup0 (k := T.root) rfl rfl rfl (H.blk (i := 2) rfl) ?_; rw [hgr]; exact ⟨Fr.refl _ _, rfl⟩) ?_
  refine RGf.p rfl (by intro vs w dn g' L hg hd hP H; have hb9 := hg _ _ hb3; obtain ⟨T2, rfl, q1, q2, q3⟩ := fam_tree hP; replace H := H.split3; rw [q1, q2, q3] at H; exact dvQ) ?_
  refine RGf.nil ?_
  intro vs wk dn g' L hg hdn hP H
  obtain ⟨T8, hL, T1, a1, c1, e9, hT8, hd9, hN1⟩ := piF_end hP 8 rfl (hdn 8 rfl)
  subst hT8
  rw [List.append_nil] at hL
  subst hL
  have e9' : vs (0 + 1 + 1 + 1 + 1 + 1 + 1 + 1 + 1) = _ := e9
  dsimp only
  rw [e9']
  clear e9 e9' hP hdn hed
  obtain ⟨w1, w2, w3, w4, w5⟩ := hnw
  have hgw := fun w HO => tr_grow tb mb rb T1 d R.1 (((Sh.its d s).length : Int) - 1) a1 c1 g' w hpr.2.2.1 hpr.1 hd9.rep hN1 hd9.gr.fresh (by rw [hd9.nx]; omega) HO
  rw [hd9.nx] at hgw
  have e2 : ((Sh.its d s).length : Int) - 1 = ((Sh.its (grw d R.1 R.2).1.1 (grw d R.1 R.2).1.2).length : Nat) := by rw [w2]; omega
  rw [e2] at hgw ⊢
  have hsr2 : Srt (Sh.its (grw d R.1 R.2).1.1 (grw d R.1 R.2).1.2) := by rw [w2]; exact hsr
  clear hil hsr e2
  repeat' (first | ((first | refine WL.p rfl ?_ | refine WL.u ?_); first | (refine opk 1 rfl ?_; (refine ost_H (A := trO tb mb rb T1) H rfl (by (exact ixQ)) (fun HO => hgw _ HO) rfl ?_; clear H; rintro vk wk hfk Lk ⟨T9, rfl, hg9, hn9, hr9⟩ hle H; simp only [List.cons_append, List.nil_append, List.eraseIdx_cons_zero, List.eraseIdx_cons_succ] at H)) | refine pvQ ?_ | (refine opk 3 rfl ?_; (refine ost_cmp rfl rfl rfl rfl (fun hc => ?_) (fun hc => ?_) <;> (simp only [cmpP] at hc; try exact prIQ))) | (refine opk 4 rfl ?_; (refine ost_cmp rfl rfl rfl rfl (fun hc => ?_) (fun hc => ?_) <;> (simp only [cmpP] at hc; try exact prIQ))) | (refine opk 8 rfl ?_; (refine ost_storeW H rfl rfl rfl rfl lQ ixQ lQ okQ ?_; clear H; intro wk H; simp only [List.set_cons_zero, List.set_cons_succ, Nat.reduceAdd] at H)) | (refine opk 9 rfl ?_; first | (refine ost_boxq H rfl ?_; clear H; intro bk wk H) | (refine ost_allocA H rfl ?_; clear H; intro bk wk H))) | refine Wc.seq ?_ | refine then_n ?_ | refine WL.nil ?_ | refine Wc.region ?_ | refine Wc.block ?_ | refine then_r ?_ | refine then_e ?_ | refine inb_e rfl ?_ | refine inb_o rfl ?_ | refine inb_n ?_ | refine inb_r ?_ | refine Wc.skip ?_ | refine Wc.exit ?_ | refine Wc.ret ?_ | refine Wc.cond_true rfl ?_ | refine Wc.cond_false rfl ?_ | (refine Wc.drawn (id := 4) 19 (by kernel_rfl) ?_) | (refine rgs_nil ?_; intro vs wk hE; replace H := H.ext hE; clear hE) | (refine RGs.bq (fun _ => rfl) rfl (by intro vs w hE hP; have H := H.ext hE; first | exact dbQ | fail) (fun hc => ?_) (fun hc => ?_) <;> ((try simp only [cmpP, decide_eq_true_eq, decide_eq_false_iff_not, dcd_iff, dcd_no] at hc); try exact prDQ)) | refine RGs.pq (fun _ => rfl) rfl (by intro vs w hE hP; have H := H.ext hE; first | exact dvQ | fail) ?_)
  exact fn_ret1 (v := .int _ _) rfl rfl ⟨_, _, H, _, rfl, rfl, Nxt.mk' (hd9.gr.trans hg9) hn9 hr9 w1 w4 hsr2⟩
end Go.Tg

set_option linter.unusedVariables false
set_option linter.unusedSimpArgs false
set_option maxRecDepth 100000
set_option maxHeartbeats 4000000
namespace Go.Tg
open Go Go.Proofs
theorem tr_Range (tb mb rb : Nat) (T : TrM) (d : Nat) (s : Sh d) (lo hi : KeyT) (h0 : FH) (w : World) (hs : Sat h0 w) (hT : TrF h0 tb mb rb T) (hok : Sh.Ok d s) (hsr : Srt (Sh.its d s)) (hrep : Rep h0 T d s) (hroot : T.root = Sh.num d s) (hl : (Sh.its d s).length ≤ 1000000) :
    Spec Try.prog 20 #[pT tb, .agg (cKey lo).toArray, .agg (cKey hi).toArray] w [] h0 (fun v h' L' => ∃ a c, v = .slice a (rangeI (Sh.its d s) lo hi).length c ∧ L' = [ownR (.slice a (rangeI (Sh.its d s) lo hi).length c) 50 5 ((rangeI (Sh.its d s) lo hi).map cItem)]) := by
  have H := St.start hs
  have llo := cKey_len lo
  have lhi := cKey_len hi
  have t1 := hT.t
  rw [hroot] at t1
  have hgd := fun w hs => tr_goodF tb mb rb T h0 w hs hT
  have hal := fun w h1 (hs : Sat h1 w) => tr_all tb (Sh.num d s) h1 w hs
  unfold Spec
  refine calls_ofD Try.func20 rfl Try.ntmps20 (by simp) ?_
  -- refine calls_of Try.func20 rfl Try.ntmps20 (by simp) ?_
  refine WcD.seqW ?_
  repeat' (first | ((first | refine WL.p rfl ?_ | refine WL.u ?_); first | refine pvQ ?_ | (refine opk 8 rfl ?_; first | (refine ost_store1 H rfl rfl vlQ gvQ ixQ (by first | decide | (simp; omega) | (simp; done) | omega) ?_; clear H; intro wk H; simp only [List.set_cons_zero, List.set_cons_succ, Nat.reduceAdd] at H) | (refine ost_storeW H rfl rfl rfl rfl lQ ixQ lQ okQ ?_; clear H; intro wk H; simp only [List.set_cons_zero, List.set_cons_succ, Nat.reduceAdd] at H)) | (refine opk 9 rfl ?_; first | (refine ost_boxq H rfl ?_; clear H; intro bk wk H) | (refine ost_allocA H rfl ?_; clear H; intro bk wk H) | (refine ost_alloc1 H rfl rfl ?_; clear H; intro bk wk H) | (refine ost_build1 H rfl rfl rfl evQ lsQ rfl ?_; clear H; intro bk wk H))) | refine Wc.seq ?_ | refine then_n ?_ | refine WL.nil ?_ | refine Wc.region ?_ | refine Wc.block ?_ | refine then_r ?_ | refine then_e ?_ | refine inb_e rfl ?_ | refine inb_o rfl ?_ | refine inb_n ?_ | refine inb_r ?_ | refine Wc.skip ?_ | refine Wc.exit ?_ | refine Wc.ret ?_ | refine Wc.cond_true rfl ?_ | refine Wc.cond_false rfl ?_)
  refine WcD.seqW ?_
  repeat' (first | ((first | refine WL.p rfl ?_ | refine WL.u ?_); first | (refine opk 1 rfl ?_; (refine ost_V H rfl (hgd _ H.sat) rfl ?_; clear H; intro wk H)) | refine pvQ ?_ | (refine opk 8 rfl ?_; first | (refine ost_store1 H rfl rfl vlQ gvQ ixQ (by first | decide | (simp; omega) | (simp; done) | omega) ?_; clear H; intro wk H; simp only [List.set_cons_zero, List.set_cons_succ, Nat.reduceAdd] at H) | (refine ost_storeW H rfl rfl rfl rfl lQ ixQ lQ okQ ?_; clear H; intro wk H; simp only [List.set_cons_zero, List.set_cons_succ, Nat.reduceAdd] at H)) | (refine opk 9 rfl ?_; first | (refine ost_boxq H rfl ?_; clear H; intro bk wk H) | (refine ost_allocA H rfl ?_; clear H; intro bk wk H) | (refine ost_alloc1 H rfl rfl ?_; clear H; intro bk wk H) | (refine ost_build1 H rfl rfl rfl evQ lsQ rfl ?_; clear H; intro bk wk H))) | refine Wc.seq ?_ | refine then_n ?_ | refine WL.nil ?_ | refine Wc.region ?_ | refine Wc.block ?_ | refine then_r ?_ | refine then_e ?_ | refine inb_e rfl ?_ | refine inb_o rfl ?_ | refine inb_n ?_ | refine inb_r ?_ | refine Wc.skip ?_ | refine Wc.exit ?_ | refine Wc.ret ?_ | refine Wc.cond_true rfl ?_ | refine Wc.cond_false rfl ?_)
  refine WcD.seqW ?_
  repeat' (first | ((first | refine WL.p rfl ?_ | refine WL.u ?_); first | refine pvQ ?_ | (refine opk 8 rfl ?_; first | (refine ost_store1 H rfl rfl vlQ gvQ ixQ (by first | decide | (simp; omega) | (simp; done) | omega) ?_; clear H; intro wk H; simp only [List.set_cons_zero, List.set_cons_succ, Nat.reduceAdd] at H) | (refine ost_storeW H rfl rfl rfl rfl lQ ixQ lQ okQ ?_; clear H; intro wk H; simp only [List.set_cons_zero, List.set_cons_succ, Nat.reduceAdd] at H)) | (refine opk 9 rfl ?_; first | (refine ost_boxq H rfl ?_; clear H; intro bk wk H) | (refine ost_allocA H rfl ?_; clear H; intro bk wk H) | (refine ost_alloc1 H rfl rfl ?_; clear H; intro bk wk H) | (refine ost_build1 H rfl rfl rfl evQ lsQ rfl ?_; clear H; intro bk wk H))) | refine Wc.seq ?_ | refine then_n ?_ | refine WL.nil ?_ | refine Wc.region ?_ | refine Wc.block ?_ | refine then_r ?_ | refine then_e ?_ | refine inb_e rfl ?_ | refine inb_o rfl ?_ | refine inb_n ?_ | refine inb_r ?_ | refine Wc.skip ?_ | refine Wc.exit ?_ | refine Wc.ret ?_ | refine Wc.cond_true rfl ?_ | refine Wc.cond_false rfl ?_)
  refine WcD.seq ?_
  refine WcD.seqW ?_
  obtain ⟨b7, e7⟩ := H.nameB idx0
  subst e7
  obtain ⟨b5, e5⟩ := H.nameB idx1
  subst e5
  obtain ⟨b4, e4⟩ := H.nameB idx2
  subst e4
  obtain ⟨h1, hle1, hb5, H7⟩ := (H.picks (L' := [.blk b5 _, .blk b4 _, .blk b7 _]) [1, 2, 0] rfl (by decide)).freezeB
  obtain ⟨h2, hle2, hb4, H8⟩ := H7.freezeB
  clear H H7
  have H := H8
  clear H8
  replace hb5 := hle2 _ _ hb5
  have hle := hle1.trans hle2
  replace t1 := hle _ _ t1
  repeat' (first | ((first | refine WL.p rfl ?_ | refine WL.u ?_); first | (refine opk 1 rfl ?_; (refine ost_Sk H rfl (hal _ _ H.sat) rfl ?_; clear H; rintro vk wk hfk Lk ⟨b2, b3, rfl, rfl, hb2, hb3⟩ hle3 H; simp only [List.nil_append] at H)) | refine pvQ ?_ | (refine opk 8 rfl ?_; first | (refine ost_store1 H rfl rfl vlQ gvQ ixQ (by first | decide | (simp; omega) | (simp; done) | omega) ?_; clear H; intro wk H; simp only [List.set_cons_zero, List.set_cons_succ, Nat.reduceAdd] at H) | (refine ost_storeW H rfl rfl rfl rfl lQ ixQ lQ okQ ?_; clear H; intro wk H; simp only [List.set_cons_zero, List.set_cons_succ, Nat.reduceAdd] at H)) | (refine opk 9 rfl ?_; first | (refine ost_boxq H rfl ?_; clear H; intro bk wk H) | (refine ost_allocA H rfl ?_; clear H; intro bk wk H) | (refine ost_alloc1 H rfl rfl ?_; clear H; intro bk wk H) | (refine ost_build1 H rfl rfl rfl evQ lsQ rfl ?_; clear H; intro bk wk H))) | refine Wc.seq ?_ | refine then_n ?_ | refine WL.nil ?_ | refine Wc.region ?_ | refine Wc.block ?_ | refine then_r ?_ | refine then_e ?_ | refine inb_e rfl ?_ | refine inb_o rfl ?_ | refine inb_n ?_ | refine inb_r ?_ | refine Wc.skip ?_ | refine Wc.exit ?_ | refine Wc.ret ?_ | refine Wc.cond_true rfl ?_ | refine Wc.cond_false rfl ?_)
  have hle4 := hle.trans hle3
  replace hb5 := hle3 _ _ hb5
  replace hb4 := hle3 _ _ hb4
  have hit := tr_all1 tb mb rb T hfk (hT.mono hle4) d s hok (hrep.mono hle4) b2 b3 hb2 hb3
  refine WcD.block ?_
  refine WcD.nameS fun S0 hS0 => ?_
  refine WcD.rangeB (Lb := [.blk b7 (.cells [Value.slice none 0 0].toArray 57 (0, 0)), ownR (.slice none 0 0) 50 5 []]) (Lr := []) ((H.nilOwn 50 5).picks [1, 0] rfl (by decide)) (by rw [← hS0]; rfl) hit rfl
    (fun pre L => (∀ y ∈ pre, lessK hi y.key = false) ∧ ∃ a c, L = [.blk b7 (.cells [Value.slice a (rangeI pre lo hi).length c].toArray 57 (0, 0)), ownR (.slice a (rangeI pre lo hi).length c) 50 5 ((rangeI pre lo hi).map cItem)])
    (fun e pre L => e = .exit 0 ∧ ∃ pre0 x, pre = pre0 ++ [x] ∧ lessK hi x.key = true ∧ ∃ a c, L = [.blk b7 (.cells [Value.slice a (rangeI pre0 lo hi).length c].toArray 57 (0, 0)), ownR (.slice a (rangeI pre0 lo hi).length c) 50 5 ((rangeI pre0 lo hi).map cItem)])
    (fun pre x s' L => (∀ y ∈ pre, lessK hi y.key = false) ∧ ∃ b8 a c, s' = upd (upd S0 18 (cIt x)) 8 (pT b8) ∧ L = [.blk b8 (.cells (cItem x).toArray 50 (0, 0)), .blk b7 (.cells [Value.slice a (rangeI pre lo hi).length c].toArray 57 (0, 0)), ownR (.slice a (rangeI pre lo hi).length c) 50 5 ((rangeI pre lo hi).map cItem)]) ⟨by simp, none, 0, rfl⟩ ?_ ?_ ?_ ?_
  · rintro pre x ws W S g1 L B hpre hle9 ⟨hpi, a, c, rfl⟩ H
    have lx := cItem_len x
    have ox := allOne_of (cItem_one x)
    unfold cIt
    simp only [List.cons_append, List.nil_append] at H
    repeat' (first | ((first | refine WL.p rfl ?_ | refine WL.u ?_); first | refine pvQ ?_ | (refine opk 8 rfl ?_; first | (refine ost_store1 H rfl rfl vlQ gvQ ixQ (by first | decide | (simp; omega) | (simp; done) | omega) ?_; clear H; intro wk H; simp only [List.set_cons_zero, List.set_cons_succ, Nat.reduceAdd] at H) | (refine ost_storeW H rfl rfl rfl rfl lQ ixQ lQ okQ ?_; clear H; intro wk H; simp only [List.set_cons_zero, List.set_cons_succ, Nat.reduceAdd] at H)) | (refine opk 9 rfl ?_; first | (refine ost_boxq H rfl ?_; clear H; intro bk wk H) | (refine ost_allocA H rfl ?_; clear H; intro bk wk H) | (refine ost_alloc1 H rfl rfl ?_; clear H; intro bk wk H) | (refine ost_build1 H rfl rfl rfl evQ lsQ rfl ?_; clear H; intro bk wk H))) | refine Wc.seq ?_ | refine then_n ?_ | refine WL.nil ?_ | refine Wc.region ?_ | refine Wc.block ?_ | refine then_r ?_ | refine then_e ?_ | refine inb_e rfl ?_ | refine inb_o rfl ?_ | refine inb_n ?_ | refine inb_r ?_ | refine Wc.skip ?_ | refine Wc.exit ?_ | refine Wc.ret ?_ | refine Wc.cond_true rfl ?_ | refine Wc.cond_false rfl ?_)
    exact ⟨rfl, _, g1, FLe.refl _, ⟨hpi, _, a, c, rfl, rfl⟩, H⟩
  · rintro pre x s' ws W S g1 g2 L B hpre hle9 ⟨hpi, b8, a, c, rfl, rfl⟩ H
    subst hS0
    have lx := cItem_len x
    have ox := allOne_of (cItem_one x)
    have lk := cKey_len x.key
    have gk : ((cItem x).drop (0 + 0)).take 3 = cKey x.key := cItem_key x
    have hpl := hpre.length_le
    rw [List.length_append, List.length_singleton] at hpl
    have hrl : (rangeI pre lo hi).length ≤ pre.length := List.length_filter_le ..
    have hml : ((rangeI pre lo hi).map cItem).length ≤ 1000000 := by rw [List.length_map]; omega
    have c5 := hle9 _ _ hb5
    have c4 := hle9 _ _ hb4
    have u1 := fun w => page_Less hi x.key w
    have u2 := fun w => page_Less x.key lo w
    simp only [List.cons_append, List.nil_append] at H
    cases q1 : lessK hi x.key with
    | true =>
      rw [q1] at u1
      repeat' (first | ((first | refine WL.p rfl ?_ | refine WL.u ?_); first | (refine opk 1 rfl ?_; (refine ost_V H rfl (u1 _) rfl ?_; clear H; intro wk H)) | refine pvQ ?_ | (refine opk 8 rfl ?_; first | (refine ost_store1 H rfl rfl vlQ gvQ ixQ (by first | decide | (simp; omega) | (simp; done) | omega) ?_; clear H; intro wk H; simp only [List.set_cons_zero, List.set_cons_succ, Nat.reduceAdd] at H) | (refine ost_storeW H rfl rfl rfl rfl lQ ixQ lQ okQ ?_; clear H; intro wk H; simp only [List.set_cons_zero, List.set_cons_succ, Nat.reduceAdd] at H)) | (refine opk 9 rfl ?_; first | (refine ost_boxq H rfl ?_; clear H; intro bk wk H) | (refine ost_allocA H rfl ?_; clear H; intro bk wk H) | (refine ost_alloc1 H rfl rfl ?_; clear H; intro bk wk H) | (refine ost_build1 H rfl rfl rfl evQ lsQ rfl ?_; clear H; intro bk wk H))) | refine Wc.seq ?_ | refine then_n ?_ | refine WL.nil ?_ | refine Wc.region ?_ | refine Wc.block ?_ | refine then_r ?_ | refine then_e ?_ | refine inb_e rfl ?_ | refine inb_o rfl ?_ | refine inb_n ?_ | refine inb_r ?_ | refine Wc.skip ?_ | refine Wc.exit ?_ | refine Wc.ret ?_ | refine Wc.cond_true rfl ?_ | refine Wc.cond_false rfl ?_)
      exact RndPost.ee (L' := [_, _]) (H.picks (L' := [_, _, _]) [1, 2, 3] rfl (by decide)) ⟨rfl, pre, x, rfl, q1, a, c, rfl⟩
    | false =>
      rw [q1] at u1
      have hpi2 : ∀ y ∈ pre ++ [x], lessK hi y.key = false := fun y hy => by
        rcases List.mem_append.1 hy with hy | hy
        · exact hpi y hy
        · rw [List.mem_singleton.1 hy]; exact q1
      cases q2 : lessK x.key lo with
      | true =>
        rw [q2] at u2
        have hr : rangeI (pre ++ [x]) lo hi = rangeI pre lo hi := by
          rw [rangeI_app]
          have : rangeI [x] lo hi = [] := by unfold rangeI; simp [q1, q2]
          rw [this, List.append_nil]
        repeat' (first | ((first | refine WL.p rfl ?_ | refine WL.u ?_); first | (refine opk 1 rfl ?_; first | (refine ost_V H rfl (u1 _) rfl ?_; clear H; intro wk H) | (refine ost_V H rfl (u2 _) rfl ?_; clear H; intro wk H)) | refine pvQ ?_ | (refine opk 8 rfl ?_; first | (refine ost_store1 H rfl rfl vlQ gvQ ixQ (by first | decide | (simp; omega) | (simp; done) | omega) ?_; clear H; intro wk H; simp only [List.set_cons_zero, List.set_cons_succ, Nat.reduceAdd] at H) | (refine ost_storeW H rfl rfl rfl rfl lQ ixQ lQ okQ ?_; clear H; intro wk H; simp only [List.set_cons_zero, List.set_cons_succ, Nat.reduceAdd] at H)) | (refine opk 9 rfl ?_; first | (refine ost_boxq H rfl ?_; clear H; intro bk wk H) | (refine ost_allocA H rfl ?_; clear H; intro bk wk H) | (refine ost_alloc1 H rfl rfl ?_; clear H; intro bk wk H) | (refine ost_build1 H rfl rfl rfl evQ lsQ rfl ?_; clear H; intro bk wk H))) | refine Wc.seq ?_ | refine then_n ?_ | refine WL.nil ?_ | refine Wc.region ?_ | refine Wc.block ?_ | refine then_r ?_ | refine then_e ?_ | refine inb_e rfl ?_ | refine inb_o rfl ?_ | refine inb_n ?_ | refine inb_r ?_ | refine Wc.skip ?_ | refine Wc.exit ?_ | refine Wc.ret ?_ | refine Wc.cond_true rfl ?_ | refine Wc.cond_false rfl ?_)
        exact RndPost.nn (L' := [_, _]) (H.picks (L' := [_, _, _]) [1, 2, 3] rfl (by decide)) ⟨hpi2, a, c, by rw [hr]⟩
      | false =>
        rw [q2] at u2
        have hr : rangeI (pre ++ [x]) lo hi = rangeI pre lo hi ++ [x] := by
          rw [rangeI_app]
          have : rangeI [x] lo hi = [x] := by unfold rangeI; simp [q1, q2]
          rw [this]
        repeat' (first | ((first | refine WL.p rfl ?_ | refine WL.u ?_); first | (refine opk 1 rfl ?_; first | (refine ost_V H rfl (u1 _) rfl ?_; clear H; intro wk H) | (refine ost_V H rfl (u2 _) rfl ?_; clear H; intro wk H) | (refine ost_appR (i := 3) (j := 0) (sz := 5) (rows := (rangeI pre lo hi).map cItem) (row := cItem x) H rfl rfl rfl rfl rfl (by rfl) (by decide) rfl ox rfl (by omega) ?_; clear H; intro aa ca wk H; simp only [List.set_cons_zero, List.set_cons_succ] at H)) | (refine opk 9 rfl ?_; (refine ost_buildR (rows := [cItem x]) H rfl (by decide) rfl (by rfl) (evP1 vxQ) (.cons rfl .nil) rfl (fun r hr => by rw [List.mem_singleton.1 hr]; rfl) ?_; clear H; intro bk wk H)) | refine pvQ ?_ | (refine opk 8 rfl ?_; first | (refine ost_store1 H rfl rfl vlQ gvQ ixQ (by first | decide | (simp; omega) | (simp; done) | omega) ?_; clear H; intro wk H; simp only [List.set_cons_zero, List.set_cons_succ, Nat.reduceAdd] at H) | (refine ost_storeW H rfl rfl rfl rfl lQ ixQ lQ okQ ?_; clear H; intro wk H; simp only [List.set_cons_zero, List.set_cons_succ, Nat.reduceAdd] at H)) | (refine opk 9 rfl ?_; first | (refine ost_boxq H rfl ?_; clear H; intro bk wk H) | (refine ost_allocA H rfl ?_; clear H; intro bk wk H) | (refine ost_alloc1 H rfl rfl ?_; clear H; intro bk wk H) | (refine ost_build1 H rfl rfl rfl evQ lsQ rfl ?_; clear H; intro bk wk H))) | refine Wc.seq ?_ | refine then_n ?_ | refine WL.nil ?_ | refine Wc.region ?_ | refine Wc.block ?_ | refine then_r ?_ | refine then_e ?_ | refine inb_e rfl ?_ | refine inb_o rfl ?_ | refine inb_n ?_ | refine inb_r ?_ | refine Wc.skip ?_ | refine Wc.exit ?_ | refine Wc.ret ?_ | refine Wc.cond_true rfl ?_ | refine Wc.cond_false rfl ?_)
        have em : (rangeI pre lo hi).map cItem ++ [cItem x] = (rangeI (pre ++ [x]) lo hi).map cItem := by rw [hr, List.map_append]; rfl
        have el : ((rangeI pre lo hi).map cItem ++ [cItem x]).length = (rangeI (pre ++ [x]) lo hi).length := by rw [em, List.length_map]
        rw [el, em] at H
        exact RndPost.nn (L' := [_, _]) (H.picks (L' := [_, _, _]) [2, 3, 4] (by simp only [ownR, List.length_map]; rfl) (by decide)) ⟨hpi2, aa, ca, rfl⟩
  · rintro k L' h' W ⟨-, a, c, rfl⟩ hle9 H
    refine inbD_n ?_
    refine thenD_n ?_
    refine WcD.of ?_
    subst hS0
    simp only [List.cons_append, List.nil_append] at H
    repeat' (first | ((first | refine WL.p rfl ?_ | refine WL.u ?_); first | refine pvQ ?_ | (refine opk 8 rfl ?_; first | (refine ost_store1 H rfl rfl vlQ gvQ ixQ (by first | decide | (simp; omega) | (simp; done) | omega) ?_; clear H; intro wk H; simp only [List.set_cons_zero, List.set_cons_succ, Nat.reduceAdd] at H) | (refine ost_storeW H rfl rfl rfl rfl lQ ixQ lQ okQ ?_; clear H; intro wk H; simp only [List.set_cons_zero, List.set_cons_succ, Nat.reduceAdd] at H)) | (refine opk 9 rfl ?_; first | (refine ost_boxq H rfl ?_; clear H; intro bk wk H) | (refine ost_allocA H rfl ?_; clear H; intro bk wk H) | (refine ost_alloc1 H rfl rfl ?_; clear H; intro bk wk H) | (refine ost_build1 H rfl rfl rfl evQ lsQ rfl ?_; clear H; intro bk wk H))) | refine Wc.seq ?_ | refine then_n ?_ | refine WL.nil ?_ | refine Wc.region ?_ | refine Wc.block ?_ | refine then_r ?_ | refine then_e ?_ | refine inb_e rfl ?_ | refine inb_o rfl ?_ | refine inb_n ?_ | refine inb_r ?_ | refine Wc.skip ?_ | refine Wc.exit ?_ | refine Wc.ret ?_ | refine Wc.cond_true rfl ?_ | refine Wc.cond_false rfl ?_)
    refine fn_retD H fun w' H' => ?_
    exact fn_ret1 (v := .slice _ _ _) rfl rfl ⟨_, _, H'.picks (L' := [_]) [1] rfl (by decide), _, _, rfl, rfl⟩
  · rintro k e pre L' h' W hpre ⟨rfl, pre0, x, rfl, hx, a, c, rfl⟩ hle9 H
    refine inbD_e ?_
    refine thenD_n ?_
    refine WcD.of ?_
    subst hS0
    rw [← rangeI_stop hsr hpre hx] at H
    simp only [List.cons_append, List.nil_append] at H
    repeat' (first | ((first | refine WL.p rfl ?_ | refine WL.u ?_); first | refine pvQ ?_ | (refine opk 8 rfl ?_; first | (refine ost_store1 H rfl rfl vlQ gvQ ixQ (by first | decide | (simp; omega) | (simp; done) | omega) ?_; clear H; intro wk H; simp only [List.set_cons_zero, List.set_cons_succ, Nat.reduceAdd] at H) | (refine ost_storeW H rfl rfl rfl rfl lQ ixQ lQ okQ ?_; clear H; intro wk H; simp only [List.set_cons_zero, List.set_cons_succ, Nat.reduceAdd] at H)) | (refine opk 9 rfl ?_; first | (refine ost_boxq H rfl ?_; clear H; intro bk wk H) | (refine ost_allocA H rfl ?_; clear H; intro bk wk H) | (refine ost_alloc1 H rfl rfl ?_; clear H; intro bk wk H) | (refine ost_build1 H rfl rfl rfl evQ lsQ rfl ?_; clear H; intro bk wk H))) | refine Wc.seq ?_ | refine then_n ?_ | refine WL.nil ?_ | refine Wc.region ?_ | refine Wc.block ?_ | refine then_r ?_ | refine then_e ?_ | refine inb_e rfl ?_ | refine inb_o rfl ?_ | refine inb_n ?_ | refine inb_r ?_ | refine Wc.skip ?_ | refine Wc.exit ?_ | refine Wc.ret ?_ | refine Wc.cond_true rfl ?_ | refine Wc.cond_false rfl ?_)
    refine fn_retD H fun w' H' => ?_
    exact fn_ret1 (v := .slice _ _ _) rfl rfl ⟨_, _, H'.picks (L' := [_]) [1] rfl (by decide), _, _, rfl, rfl⟩
end Go.Tg

set_option linter.unusedVariables false
set_option linter.unusedSimpArgs false
set_option maxRecDepth 100000
set_option maxHeartbeats 4000000
namespace Go.Tg
open Go Go.Proofs
theorem putF_lt {x : ItemT} : ∀ (l : List ItemT) (acc : List ItemT), (∀ y ∈ l, keyN y.key < keyN x.key) → l.foldl (putF x) (acc, false) = (acc ++ l, false)
  | [], acc, _ => by simp
  | y :: l, acc, h => by
    have hy := h y (by simp)
    have hn : lessK x.key y.key = false := by
      cases e : lessK x.key y.key with
      | false => rfl
      | true => have := lessK_iff.1 e; omega
    rw [List.foldl_cons]
    have e : putF x (acc, false) y = (acc ++ [y], false) := by unfold putF; simp [hn]
    rw [e, putF_lt l _ fun z hz => h z (by simp [hz])]
    simp
theorem putF_done {x : ItemT} : ∀ (l : List ItemT) (acc : List ItemT), l.foldl (putF x) (acc, true) = (acc ++ l, true)
  | [], acc => by simp
  | y :: l, acc => by
    rw [List.foldl_cons]
    have e : putF x (acc, true) y = (acc ++ [y], true) := by unfold putF; simp
    rw [e, putF_done l]
    simp
theorem insI_eq {x : ItemT} {l : List ItemT} (hs : Srt l) (hn : ∀ y ∈ l, y.key ≠ x.key) : insI x l = insF x l := by
  have hsp : l = l.filter (fun y => lessK y.key x.key) ++ l.filter (fun y => !lessK y.key x.key) := by
    rw [(filt_take hs).1, (filt_take hs).2, List.take_append_drop]
  have hlt : ∀ y ∈ l.filter (fun y => lessK y.key x.key), keyN y.key < keyN x.key := fun y hy => lessK_iff.1 (List.mem_filter.1 hy).2
  have hgt : ∀ y ∈ l.filter (fun y => !lessK y.key x.key), keyN x.key < keyN y.key := fun y hy => by
    obtain ⟨h1, h2⟩ := List.mem_filter.1 hy
    have h3 : ¬ keyN y.key < keyN x.key := fun h => by rw [lessK_iff.2 h] at h2; cases h2
    have h4 : keyN y.key ≠ keyN x.key := fun h => hn y h1 (keyN_inj h)
    omega
  unfold insI insF
  generalize l.filter (fun y => lessK y.key x.key) = a at *
  generalize l.filter (fun y => !lessK y.key x.key) = b at *
  rw [hsp, List.foldl_append, putF_lt a [] hlt, List.nil_append]
  cases b with
  | nil => simp
  | cons y b =>
    have hy : lessK x.key y.key = true := lessK_iff.2 (hgt y (by simp))
    rw [List.foldl_cons]
    have e : putF x (a, false) y = (a ++ [x] ++ [y], true) := by unfold putF; simp [hy]
    rw [e, putF_done, if_pos rfl]
    simp
theorem posI_of {l : List ItemT} {k : KeyT} (hs : Srt l) (hm : ∃ y ∈ l, y.key = k) : posI l k = some (cntK (l.map (·.key)) k) := by
  obtain ⟨y, hy, e⟩ := hm
  have hh : hasK (l.map (·.key)) k = true := by unfold hasK; rw [dcd_iff, ← e]; exact List.mem_map.2 ⟨y, hy, rfl⟩
  obtain ⟨hc, he⟩ := (hasK_cnt hs.sorted).1 hh
  rw [List.length_map] at hc
  rw [List.getElem_map] at he
  refine posI_some hc he fun j hj he2 => ?_
  have := List.pairwise_iff_getElem.1 hs j _ (by omega) hc hj
  rw [he, he2] at this; omega
theorem dropI_has {l : List ItemT} {k : KeyT} (hs : Srt l) (hm : ∃ y ∈ l, y.key = k) : dropI l k = (delF k l, 0) := by
  unfold dropI
  rw [posI_of hs hm, (delF_at hs hm).2]
theorem dropI_none {l : List ItemT} {k : KeyT} (hm : ∀ y ∈ l, y.key ≠ k) : dropI l k = (l, 7) := by
  unfold dropI
  rw [posI_none fun j hj => hm _ (List.getElem_mem hj)]
theorem putI_has {l : List ItemT} {x : ItemT} (hs : Srt l) (hm : ∃ y ∈ l, y.key = x.key) : putI l x = (l, 8) := by
  unfold putI
  rw [posI_of hs hm]
theorem putI_new {l : List ItemT} {x : ItemT} (hs : Srt l) (hm : ∀ y ∈ l, y.key ≠ x.key) (hl : l.length < 4096) : putI l x = (insF x l, 0) := by
  unfold putI
  rw [posI_none fun j hj => hm _ (List.getElem_mem hj)]
  dsimp only
  rw [if_neg (by omega), insI_eq hs hm]
structure TrB (h : FH) (T : TrM) (d : Nat) (s : Sh d) (k : Nat) : Prop where
  inv : TrI h T d s
  dp : d ≤ k
  nx : T.next.toNat ≤ 1 + 600 * k
  ln : (Sh.its d s).length ≤ k
theorem TrB.mono {h h' : FH} {T : TrM} {d : Nat} {s : Sh d} {k k' : Nat} (hle : FLe h h') (hk : k ≤ k') (H : TrB h T d s k) : TrB h' T d s k' := ⟨H.inv.mono hle, Nat.le_trans H.dp hk, by have := H.nx; omega, Nat.le_trans H.ln hk⟩
structure Kept (T T' : TrM) : Prop where
  le : ∀ n v, lookM T.pages n = some v → lookM T'.pages n = some v
  rt : ∀ n, (lookM T.roots n).isSome = true → (lookM T'.roots n).isSome = true
theorem Kept.refl (T : TrM) : Kept T T := ⟨fun _ _ h => h, fun _ h => h⟩
theorem Kept.trans {A B C : TrM} (h : Kept A B) (k : Kept B C) : Kept A C := ⟨fun n v e => k.le n v (h.le n v e), fun n e => k.rt n (h.rt n e)⟩
theorem Nxt.kept {h : FH} {T T' : TrM} {G : ((d : Nat) × Sh d) × UInt32} (H : Nxt h T T' G) : Kept T T' := ⟨H.le, fun n hn => by
  rw [H.roots]; split
  · rfl
  · exact hn⟩
theorem Rep.kept {h : FH} {T T' : TrM} {d : Nat} {s : Sh d} (hk : Kept T T') (H : Rep h T d s) : Rep h T' d s := fun x hx => by
  obtain ⟨A, h1, h2⟩ := H x hx; exact ⟨A, hk.le _ _ h1, h2⟩
theorem tr_PutA (tb mb rb : Nat) (T : TrM) (d : Nat) (s : Sh d) (k : Nat) (x : ItemT) (g : FH) (w : World) (hT : TrB g T d s k) (hk : k ≤ 200) (HO : St w (trO tb mb rb T).fp g g [trO tb mb rb T] w) :
    Spec Try.prog 15 #[pT tb, .agg (cItem x).toArray] w (trO tb mb rb T).fp g (fun v h' L' => ∃ (T' : TrM) (d' : Nat) (s' : Sh d'), v = .int .i64 (putI (Sh.its d s) x).2 ∧ L' = [trO tb mb rb T'] ∧ TrB h' T' d' s' (k + 1) ∧ Sh.its d' s' = (putI (Sh.its d s) x).1 ∧ Kept T T' ∧ ((putI (Sh.its d s) x).2 ≠ 0 → T'.root = T.root)) := by
  have hn := hT.nx
  have hd := hT.dp
  have hl := hT.ln
  by_cases hm : ∃ y ∈ Sh.its d s, y.key = x.key
  · rw [putI_has hT.inv.srt hm]
    refine (tr_Put_have tb mb rb T d s x g w hT.inv hm HO).mono ?_
    rintro v h' L' ⟨rfl, rfl, rfl⟩
    exact ⟨T, d, s, rfl, rfl, hT.mono (FLe.refl _) (Nat.le_succ k), rfl, Kept.refl T, fun _ => rfl⟩
  · have hm : ∀ y ∈ Sh.its d s, y.key ≠ x.key := fun y hy e => hm ⟨y, hy, e⟩
    rw [putI_new hT.inv.srt hm (by omega)]
    have hnw := newS_props (insF_ed x) (nx := T.next) hT.inv.ok hT.inv.srt (by omega)
    refine (tr_Put_new tb mb rb T d s x g w hT.inv hm (by omega) (by omega) HO).mono ?_
    rintro v h' L' ⟨T', rfl, rfl, hN⟩
    refine ⟨T', _, _, rfl, rfl, ⟨hN.inv, by have := hnw.2.2.1; omega, by have := hnw.2.2.2.2; rw [hN.nx]; omega, ?_⟩, hnw.2.1, hN.kept, fun h => absurd rfl h⟩
    rw [hnw.2.1]
    have := (insF_ed x).len _ hT.inv.srt
    omega
theorem tr_DropA (tb mb rb : Nat) (T : TrM) (d : Nat) (s : Sh d) (k : Nat) (x : KeyT) (g : FH) (w : World) (hT : TrB g T d s k) (hk : k ≤ 200) (HO : St w (trO tb mb rb T).fp g g [trO tb mb rb T] w) :
    Spec Try.prog 12 #[pT tb, .agg (cKey x).toArray] w (trO tb mb rb T).fp g (fun v h' L' => ∃ (T' : TrM) (d' : Nat) (s' : Sh d'), v = .int .i64 (dropI (Sh.its d s) x).2 ∧ L' = [trO tb mb rb T'] ∧ TrB h' T' d' s' (k + 1) ∧ Sh.its d' s' = (dropI (Sh.its d s) x).1 ∧ Kept T T' ∧ ((dropI (Sh.its d s) x).2 ≠ 0 → T'.root = T.root)) := by
  have hn := hT.nx
  have hd := hT.dp
  have hl := hT.ln
  by_cases hm : ∃ y ∈ Sh.its d s, y.key = x
  · rw [dropI_has hT.inv.srt hm]
    have hnw := newS_props (delF_ed x) (nx := T.next) hT.inv.ok hT.inv.srt (by omega)
    refine (tr_Drop_has tb mb rb T d s x g w hT.inv hm (by omega) (by omega) HO).mono ?_
    rintro v h' L' ⟨T', rfl, rfl, hN⟩
    refine ⟨T', _, _, rfl, rfl, ⟨hN.inv, by have := hnw.2.2.1; omega, by have := hnw.2.2.2.2; rw [hN.nx]; omega, ?_⟩, hnw.2.1, hN.kept, fun h => absurd rfl h⟩
    rw [hnw.2.1]
    have := (delF_ed x).len _ hT.inv.srt
    omega
  · have hm : ∀ y ∈ Sh.its d s, y.key ≠ x := fun y hy e => hm ⟨y, hy, e⟩
    rw [dropI_none hm]
    refine (tr_Drop_none tb mb rb T d s x g w hT.inv hm HO).mono ?_
    rintro v h' L' ⟨rfl, rfl, rfl⟩
    exact ⟨T, d, s, rfl, rfl, hT.mono (FLe.refl _) (Nat.le_succ k), rfl, Kept.refl T, fun _ => rfl⟩
theorem nodes_le : ∀ (d : Nat) (s : Sh d), Sh.Ok d s → Sh.its d s ≠ [] → (Sh.nodes d s).length ≤ (d + 1) * (Sh.its d s).length
  | 0, s, h, hne => by
    show 1 ≤ (0 + 1) * s.2.length
    have : 0 < s.2.length := List.length_pos_iff.2 hne
    omega
  | d + 1, s, h, hne => by
    have hk : ∀ l : List (Sh d), (∀ c ∈ l, Sh.Ok d c ∧ Sh.its d c ≠ []) → ((l.map (Sh.nodes d)).flatten).length ≤ (d + 1) * ((l.map (Sh.its d)).flatten).length := by
      intro l
      induction l with
      | nil => intro _; simp
      | cons c l ih =>
        intro hl
        have h1 := ih fun x hx => hl x (by simp [hx])
        have h2 := nodes_le d c (hl c (by simp)).1 (hl c (by simp)).2
        rw [List.map_cons, List.map_cons, List.flatten_cons, List.flatten_cons, List.length_append, List.length_append, Nat.mul_add]
        omega
    have := hk s.2 h.2.2
    have hp : 0 < (Sh.its (d + 1) s).length := List.length_pos_iff.2 hne
    show (s.2.map (Sh.nodes d)).flatten.length + 1 ≤ _
    have e : Sh.its (d + 1) s = (s.2.map (Sh.its d)).flatten := rfl
    rw [e] at hp ⊢
    rw [Nat.succ_mul]; omega
theorem TrB.nodes {h : FH} {T : TrM} {d : Nat} {s : Sh d} {k : Nat} (H : TrB h T d s k) (hk : k ≤ 200) : (Sh.nodes d s).length ≤ 1000000 := by
  by_cases hne : Sh.its d s = []
  · cases d with
    | zero => show 1 ≤ 1000000; decide
    | succ d => exact absurd hne (Sh.ok_ne d s H.inv.ok)
  · have h1 := nodes_le d s H.inv.ok hne
    have h2 : (d + 1) * (Sh.its d s).length ≤ 201 * 200 := Nat.mul_le_mul (by have := H.dp; omega) (by have := H.ln; omega)
    omega
end Go.Tg

