/- Contracts of Go functions that the laws reach: what each call answers and leaves in memory, for all arguments within the bounds that each theorem names. -/
import Derived.Test.YtbfilhaigbebpaaInst
import Derived.Test.YtbfilhaigbebpaaAuto
import Derived.Test.YtbfilhaigbebpaaYC
import Derived.Test.YtbfilhaigbebpaaYG
set_option linter.unusedVariables false
set_option linter.unusedSimpArgs false
set_option maxRecDepth 100000
set_option maxHeartbeats 4000000
namespace Go.Tg
open Go Go.Proofs
theorem tr_Drop_none (tb mb rb : Nat) (T : TrM) (d : Nat) (s : Sh d) (k : KeyT) (g : FH) (w : World) (hT : TrI g T d s) (hm : ∀ y ∈ Sh.its d s, y.key ≠ k) (HO : St w (trO tb mb rb T).fp g g [trO tb mb rb T] w) :
    Spec Try.prog 12 #[pT tb, .agg (cKey k).toArray] w (trO tb mb rb T).fp g (fun v h' L' => h' = g ∧ v = .int .i64 7 ∧ L' = [trO tb mb rb T]) := by
  have H := HO
  generalize hF9 : (trO tb mb rb T).fp = F9 at H ⊢
  have lk := cKey_len k
  have hget := fun w hs hF hR => tr_Get tb mb rb T d s k (full w) w hs hF hT.ok hT.srt hR hT.root
  rw [getI_none hm] at hget
  have ly := cLoc_len ⟨0, 0⟩
  unfold Spec
  refine calls_of Try.func12 rfl Try.ntmps12 (by simp) ?_
  repeat' (first | ((first | refine WL.p rfl ?_ | refine WL.u ?_); first | (refine opk 1 rfl ?_; (refine ost_V H rfl (hget _ (sat_full _) (H.trF (i := 1) rfl) (hT.rep.mono H.sat.le)) rfl ?_; clear H; intro wk H)) | refine pvQ ?_ | (refine opk 3 rfl ?_; (refine ost_cmp rfl rfl rfl rfl (fun hc => ?_) (fun hc => ?_) <;> (simp only [cmpP] at hc; try exact prIQ))) | (refine opk 4 rfl ?_; (refine ost_cmp rfl rfl rfl rfl (fun hc => ?_) (fun hc => ?_) <;> (simp only [cmpP] at hc; try exact prIQ))) | (refine opk 8 rfl ?_; (refine ost_storeW H rfl rfl rfl rfl lQ ixQ lQ okQ ?_; clear H; intro wk H; simp only [List.set_cons_zero, List.set_cons_succ, Nat.reduceAdd] at H)) | (refine opk 9 rfl ?_; first | (refine ost_boxq H rfl ?_; clear H; intro bk wk H) | (refine ost_allocA H rfl ?_; clear H; intro bk wk H))) | refine Wc.seq ?_ | refine then_n ?_ | refine WL.nil ?_ | refine Wc.region ?_ | refine Wc.block ?_ | refine then_r ?_ | refine then_e ?_ | refine inb_e rfl ?_ | refine inb_o rfl ?_ | refine inb_n ?_ | refine inb_r ?_ | refine Wc.skip ?_ | refine Wc.exit ?_ | refine Wc.ret ?_ | refine Wc.cond_true rfl ?_ | refine Wc.cond_false rfl ?_ | (refine Wc.drawn (id := 4) 19 (by kernel_rfl) ?_) | (refine rgs_nil ?_; intro vs wk hE; replace H := H.ext hE; clear hE) | (refine RGs.bq (fun _ => rfl) rfl (by intro vs w hE hP; have H := H.ext hE; first | exact dbQ | fail) (fun hc => ?_) (fun hc => ?_) <;> ((try simp only [cmpP, decide_eq_true_eq, decide_eq_false_iff_not, dcd_iff, dcd_no] at hc); try exact prDQ)) | refine RGs.pq (fun _ => rfl) rfl (by intro vs w hE hP; have H := H.ext hE; first | exact dvQ | fail) ?_)
  all_goals first | (exfalso; omega) | skip
  exact fn_ret1 (v := .int _ _) rfl rfl ⟨_, _, H.picks (L' := [_]) [2] rfl (by decide), rfl, rfl, rfl⟩
theorem tr_Drop_has (tb mb rb : Nat) (T : TrM) (d : Nat) (s : Sh d) (k : KeyT) (g : FH) (w : World) (hT : TrI g T d s) (hm : ∃ y ∈ Sh.its d s, y.key = k) (hl : (Sh.its d s).length < 4097) (hn : T.next.toNat + 2 * (d + 1) + 4 < 4294967296) (HO : St w (trO tb mb rb T).fp g g [trO tb mb rb T] w) :
    Spec Try.prog 12 #[pT tb, .agg (cKey k).toArray] w (trO tb mb rb T).fp g (fun v h' L' => ∃ T', v = .int .i64 0 ∧ L' = [trO tb mb rb T'] ∧ Nxt h' T T' (newS (delF k) k d s T.next)) := by
  have H := HO
  generalize hF9 : (trO tb mb rb T).fp = F9 at H ⊢
  have lk := cKey_len k
  have hget := fun w hs hF hR => tr_Get tb mb rb T d s k (full w) w hs hF hT.ok hT.srt hR hT.root
  obtain ⟨y, hy, ey⟩ := hm
  rw [getI_mem hT.srt hy ey] at hget
  have ly := cLoc_len y.loc
  have hm : ∃ y ∈ Sh.its d s, y.key = k := ⟨y, hy, ey⟩
  have hgr := fun z => getM_look z hT.cnt
  unfold Spec
  refine calls_of Try.func12 rfl Try.ntmps12 (by simp) ?_
  repeat' (first | ((first | refine WL.p rfl ?_ | refine WL.u ?_); first | (refine opk 1 rfl ?_; (refine ost_V H rfl (hget _ (sat_full _) (H.trF (i := 1) rfl) (hT.rep.mono H.sat.le)) rfl ?_; clear H; intro wk H)) | refine pvQ ?_ | (refine opk 3 rfl ?_; (refine ost_cmp rfl rfl rfl rfl (fun hc => ?_) (fun hc => ?_) <;> (simp only [cmpP] at hc; try exact prIQ))) | (refine opk 4 rfl ?_; (refine ost_cmp rfl rfl rfl rfl (fun hc => ?_) (fun hc => ?_) <;> (simp only [cmpP] at hc; try exact prIQ))) | (refine opk 8 rfl ?_; (refine ost_storeW H rfl rfl rfl rfl lQ ixQ lQ okQ ?_; clear H; intro wk H; simp only [List.set_cons_zero, List.set_cons_succ, Nat.reduceAdd] at H)) | (refine opk 9 rfl ?_; first | (refine ost_boxq H rfl ?_; clear H; intro bk wk H) | (refine ost_allocA H rfl ?_; clear H; intro bk wk H))) | refine Wc.seq ?_ | refine then_n ?_ | refine WL.nil ?_ | refine Wc.region ?_ | refine Wc.block ?_ | refine then_r ?_ | refine then_e ?_ | refine inb_e rfl ?_ | refine inb_o rfl ?_ | refine inb_n ?_ | refine inb_r ?_ | refine Wc.skip ?_ | refine Wc.exit ?_ | refine Wc.ret ?_ | refine Wc.cond_true rfl ?_ | refine Wc.cond_false rfl ?_)
  all_goals first | (exfalso; omega) | skip
  obtain ⟨b9, e9⟩ := H.nameB idx0
  subst e9
  obtain ⟨b3, e3⟩ := H.nameB idx1
  subst e3
  replace H := (H.picks (L' := [trO tb mb rb T, .blk b3 _]) [2, 1] rfl (by decide)).split3
  obtain ⟨h1, hle, hb3, H7⟩ := (H.picks (L' := [.blk b3 _, .blk tb _, .blk mb _, .blk rb _]) [3, 0, 1, 2] rfl (by decide)).freezeB
  clear H
  have H : St w F9 g h1 [trO tb mb rb T] _ := H7.join3
  clear H7 hget
  have hed := fun g w => tr_edit tb mb rb 33 b3 (.cells (cKey k).toArray 42 (0, 0)) true k (delF k) (delF_ed k) (fun its A bq g w h1 h2 h3 h4 h5 => tr_drop1 k its A bq b3 g w h1 h2 (h3.1 rfl) h4 h5) d s T g w hT.ok hT.srt ⟨fun _ => hm, fun _ => rfl⟩
  have hpr := edS_props (delF_ed k) d T.next s hT.ok hT.srt (by omega)
  have hnw := newS_props (delF_ed k) (nx := T.next) hT.ok hT.srt (by omega)
  obtain ⟨hcl, hde⟩ := delF_at hT.srt hm
  have hil : (delF k (Sh.its d s)).length + 1 = (Sh.its d s).length := by
    rw [hde, List.length_eraseIdx, if_pos hcl]; omega
  clear hcl hde
  have hsr := delF_srt (k := k) hT.srt
  simp only [← hT.root] at hed
  unfold newS at hnw ⊢
  generalize hR : edS (delF k) k d T.next s = R at *
  refine Wc.drawF (id := 4) 19 [8] (piF [8] [] (edPs 8 tb mb rb T R)) H (by kernel_rfl) (by kernel_rfl) (piF_0 (A := [trO tb mb rb T]) rfl) ?_
  clear H
  iterate 8 refine RGf.p rfl (by intro vs w dn g' L hg hd hP H; have hb9 := hg _ _ hb3; obtain ⟨T2, rfl, q1, q2, q3⟩ := fam_tree hP; replace H := H.split3; rw [q1, q2, q3] at H; exact dvQ) ?_
  refine RGf.m rfl (by
    intro vs w dn g' L hg hd hdep hP H
    obtain ⟨T9, rfl, hps, hst⟩ := piF_step (by decide) hP 0 8 rfl hd (.inl rfl)
    obtain rfl : T9 = [trO tb mb rb T] := hps
    refine ost_H H rfl idx0 (fun HO => hed g' _ (hT.rep.mono (hle.trans hg)) hT.fresh (by omega) (hg _ _ hb3) HO) rfl ?_
    rintro vk wk hfk Lk ⟨T', a, c9, e1, rfl, h3, h4⟩ hle9 H2
    exact ⟨hfk, _, hle9, hst _ _ _ ⟨T', a, c9, e1, rfl, h3, h4⟩, H2⟩) ?_
  iterate 8 refine RGf.p rfl (by intro vs w dn g' L hg hd hP H; have hb9 := hg _ _ hb3; obtain ⟨T2, rfl, q1, q2, q3⟩ := fam_tree hP; replace H := H.split3; rw [q1, q2, q3] at H; exact dvQ) ?_
  refine RGf.p rfl (by intro vs w dn g' L hg hd hP H; have hb9 := hg _ _ hb3; obtain ⟨T2, rfl, q1, q2, q3⟩ := fam_tree hP; replace H := H.split3; rw [q1, q2, q3] at H; refine ost_lookup0 (k := T.root) rfl rfl rfl (H.blk (i := 2) rfl) ?_; rw [hgr]; exact ⟨Fr.refl _ _, rfl⟩) ?_
  refine RGf.p rfl (by intro vs w dn g' L hg hd hP H; have hb9 := hg _ _ hb3; obtain ⟨T2, rfl, q1, q2, q3⟩ := fam_tree hP; replace H := H.split3; rw [q1, q2, q3] at H; exact dvQ) ?_
  refine RGf.nil ?_
  intro vs wk dn g' L hg hdn hP H
  obtain ⟨T8, hL, T1, a1, c1, e9, hT8, hd9, hN1⟩ := piF_end hP 8 rfl (hdn 8 rfl)
  subst hT8
  rw [List.append_nil] at hL
  subst hL
  have e9' : vs (0 + 1 + 1 + 1 + 1 + 1 + 1 + 1 + 1) = _ := e9
  dsimp only
  rw [e9']
  clear e9 e9' hP hdn hed
  obtain ⟨w1, w2, w3, w4, w5⟩ := hnw
  have hgw := fun w HO => tr_grow tb mb rb T1 d R.1 (((Sh.its d s).length : Int) - 1) a1 c1 g' w hpr.2.2.1 hpr.1 hd9.rep hN1 hd9.gr.fresh (by rw [hd9.nx]; omega) HO
  rw [hd9.nx] at hgw
  have e2 : ((Sh.its d s).length : Int) - 1 = ((Sh.its (grw d R.1 R.2).1.1 (grw d R.1 R.2).1.2).length : Nat) := by rw [w2]; omega
  rw [e2] at hgw ⊢
  have hsr2 : Srt (Sh.its (grw d R.1 R.2).1.1 (grw d R.1 R.2).1.2) := by rw [w2]; exact hsr
  clear hil hsr e2
  repeat' (first | ((first | refine WL.p rfl ?_ | refine WL.u ?_); first | (refine opk 1 rfl ?_; (refine ost_H (A := trO tb mb rb T1) H rfl (by (exact ixQ)) (fun HO => hgw _ HO) rfl ?_; clear H; rintro vk wk hfk Lk ⟨T9, rfl, hg9, hn9, hr9⟩ hle H; simp only [List.cons_append, List.nil_append, List.eraseIdx_cons_zero, List.eraseIdx_cons_succ] at H)) | refine pvQ ?_ | (refine opk 3 rfl ?_; (refine ost_cmp rfl rfl rfl rfl (fun hc => ?_) (fun hc => ?_) <;> (simp only [cmpP] at hc; try exact prIQ))) | (refine opk 4 rfl ?_; (refine ost_cmp rfl rfl rfl rfl (fun hc => ?_) (fun hc => ?_) <;> (simp only [cmpP] at hc; try exact prIQ))) | (refine opk 8 rfl ?_; (refine ost_storeW H rfl rfl rfl rfl lQ ixQ lQ okQ ?_; clear H; intro wk H; simp only [List.set_cons_zero, List.set_cons_succ, Nat.reduceAdd] at H)) | (refine opk 9 rfl ?_; first | (refine ost_boxq H rfl ?_; clear H; intro bk wk H) | (refine ost_allocA H rfl ?_; clear H; intro bk wk H))) | refine Wc.seq ?_ | refine then_n ?_ | refine WL.nil ?_ | refine Wc.region ?_ | refine Wc.block ?_ | refine then_r ?_ | refine then_e ?_ | refine inb_e rfl ?_ | refine inb_o rfl ?_ | refine inb_n ?_ | refine inb_r ?_ | refine Wc.skip ?_ | refine Wc.exit ?_ | refine Wc.ret ?_ | refine Wc.cond_true rfl ?_ | refine Wc.cond_false rfl ?_ | (refine Wc.drawn (id := 4) 19 (by kernel_rfl) ?_) | (refine rgs_nil ?_; intro vs wk hE; replace H := H.ext hE; clear hE) | (refine RGs.bq (fun _ => rfl) rfl (by intro vs w hE hP; have H := H.ext hE; first | exact dbQ | fail) (fun hc => ?_) (fun hc => ?_) <;> ((try simp only [cmpP, decide_eq_true_eq, decide_eq_false_iff_not, dcd_iff, dcd_no] at hc); try exact prDQ)) | refine RGs.pq (fun _ => rfl) rfl (by intro vs w hE hP; have H := H.ext hE; first | exact dvQ | fail) ?_)
  exact fn_ret1 (v := .int _ _) rfl rfl ⟨_, _, H, _, rfl, rfl, Nxt.mk' (hd9.gr.trans hg9) hn9 hr9 w1 w4 hsr2⟩
end Go.Tg

set_option linter.unusedVariables false
set_option linter.unusedSimpArgs false
set_option maxRecDepth 100000
set_option maxHeartbeats 4000000
namespace Go.Tg
open Go Go.Proofs
def trimP (es : List (ME UInt32)) (z : Value) (ns : List UInt32) : List (ME UInt32) × Nat := ns.foldl (fun a n => setM a.1 a.2 n (getM z es n)) ([], 0)
theorem trimP_snoc (es : List (ME UInt32)) (z : Value) (ns : List UInt32) (n : UInt32) : trimP es z (ns ++ [n]) = setM (trimP es z ns).1 (trimP es z ns).2 n (getM z es n) := by
  unfold trimP; rw [List.foldl_append]; rfl
theorem trimP_go (es : List (ME UInt32)) (z : Value) (n : UInt32) : ∀ (ns : List UInt32) (acc : List (ME UInt32) × Nat), lookM (ns.foldl (fun a n => setM a.1 a.2 n (getM z es n)) acc).1 n = if n ∈ ns then some (getM z es n) else lookM acc.1 n
  | [], acc => by simp
  | m :: ns, acc => by
    rw [List.foldl_cons, trimP_go es z n ns, lookM_set]
    by_cases h : n ∈ ns
    · simp [h]
    · by_cases h2 : n = m
      · subst h2; simp [h]
      · simp [h, h2]
theorem trimP_look (es : List (ME UInt32)) (z : Value) (n : UInt32) (ns : List UInt32) : lookM (trimP es z ns).1 n = if n ∈ ns then some (getM z es n) else none := trimP_go es z n ns ([], 0)
theorem setM_len (es : List (ME UInt32)) (clk : Nat) (k : UInt32) (v : Value) : (setM es clk k v).1.length ≤ es.length + 1 := by
  unfold setM
  split
  · simp
  · simp
theorem trimP_len (es : List (ME UInt32)) (z : Value) (ns : List UInt32) : (trimP es z ns).1.length ≤ ns.length := by
  have go : ∀ (ns : List UInt32) (acc : List (ME UInt32) × Nat), (ns.foldl (fun a n => setM a.1 a.2 n (getM z es n)) acc).1.length ≤ acc.1.length + ns.length := by
    intro ns
    induction ns with
    | nil => intro acc; simp
    | cons m ns ih =>
      intro acc
      rw [List.foldl_cons]
      have h1 := ih (setM acc.1 acc.2 m (getM z es m))
      have h2 := setM_len acc.1 acc.2 m (getM z es m)
      rw [List.length_cons]; omega
  have := go ns ([], 0)
  unfold trimP
  simpa using this
abbrev zPg : Value := .agg [Value.bool false, .slice none 0 0, .slice none 0 0, .slice none 0 0].toArray
def TrM.trim (T : TrM) (ns : List UInt32) (cnt : Int) : TrM := { T with pages := (trimP T.pages zPg ns).1, pclk := (trimP T.pages zPg ns).2, roots := (setM [] 0 T.root (.int .i64 cnt)).1, rclk := (setM [] 0 T.root (.int .i64 cnt)).2 }
theorem trim_inv {h : FH} {T : TrM} {d : Nat} {s : Sh d} (H : TrI h T d s) : TrI h (T.trim (Sh.nums d s) ((Sh.its d s).length : Nat)) d s ∧ (∀ n v, lookM (T.trim (Sh.nums d s) ((Sh.its d s).length : Nat)).pages n = some v → lookM T.pages n = some v) ∧ (∀ n, lookM (T.trim (Sh.nums d s) ((Sh.its d s).length : Nat)).roots n = if n = T.root then some (.int .i64 ((Sh.its d s).length : Nat)) else none) := by
  have hin : ∀ n v, lookM (T.trim (Sh.nums d s) ((Sh.its d s).length : Nat)).pages n = some v → lookM T.pages n = some v := fun n v hv => by
    have hv : lookM (trimP T.pages zPg (Sh.nums d s)).1 n = some v := hv
    rw [trimP_look] at hv
    by_cases hm : n ∈ Sh.nums d s
    · rw [if_pos hm] at hv
      obtain ⟨x, hx, rfl⟩ := List.mem_map.1 hm
      obtain ⟨A, hl, -⟩ := H.rep x hx
      rw [getM_look zPg hl] at hv
      rw [hl]; exact hv
    · rw [if_neg hm] at hv; cases hv
  have hrt : ∀ n, lookM (T.trim (Sh.nums d s) ((Sh.its d s).length : Nat)).roots n = if n = T.root then some (.int .i64 ((Sh.its d s).length : Nat)) else none := fun n => by
    show lookM (setM [] 0 T.root _).1 n = _
    rw [lookM_set]; rfl
  refine ⟨⟨H.ok, H.rt, H.srt, fun x hx => ?_, fun n v hv => H.fresh n v (hin n v hv), H.root, ?_⟩, hin, hrt⟩
  · obtain ⟨A, hl, hp⟩ := H.rep x hx
    refine ⟨A, ?_, hp⟩
    show lookM (trimP T.pages zPg (Sh.nums d s)).1 x.1 = _
    rw [trimP_look, if_pos (show x.1 ∈ Sh.nums d s from List.mem_map.2 ⟨x, hx, rfl⟩), getM_look zPg hl]
  · rw [hrt]; exact if_pos rfl
theorem tr_Trim (tb mb rb : Nat) (T : TrM) (d : Nat) (s : Sh d) (g : FH) (w : World) (hT : TrI g T d s) (hl : (Sh.nodes d s).length ≤ 1000000) (HO : St w (trO tb mb rb T).fp g g [trO tb mb rb T] w) :
    Spec Try.prog 13 #[pT tb] w (trO tb mb rb T).fp g (fun v h' L' => ∃ mb' rb', v = .int .i64 (IntKind.i64.wrap ((T.pages.length : Int) - ((T.trim (Sh.nums d s) ((Sh.its d s).length : Nat)).pages.length : Nat))) ∧ L' = [trO tb mb' rb' (T.trim (Sh.nums d s) ((Sh.its d s).length : Nat))]) := by
  have H := HO
  generalize hF9 : (trO tb mb rb T).fp = F9 at H ⊢
  have hnl : (Sh.nums d s).length = (Sh.nodes d s).length := List.length_map ..
  have hgd := fun w hs hF => tr_goodF tb mb rb T (full w) w hs hF
  have hbl := fun w hs hF hR => tr_below tb mb rb T (full w) hF d s w hs hT.ok hR (by omega)
  unfold Spec
  refine calls_of Try.func13 rfl Try.ntmps13 (by simp) ?_
  repeat' (first | ((first | refine WL.p rfl ?_ | refine WL.u ?_); first | (refine opk 1 rfl ?_; (refine ost_V H rfl (hgd _ (sat_full _) (H.trF (i := 0) rfl)) rfl ?_; clear H; intro wk H)) | refine pvQ ?_ | (refine opk 3 rfl ?_; (refine ost_cmp rfl rfl rfl rfl (fun hc => ?_) (fun hc => ?_) <;> (simp only [cmpP] at hc; try exact prIQ))) | (refine opk 4 rfl ?_; (refine ost_cmp rfl rfl rfl rfl (fun hc => ?_) (fun hc => ?_) <;> (simp only [cmpP] at hc; try exact prIQ))) | (refine opk 8 rfl ?_; (refine ost_store1 H rfl rfl vlQ gvQ ixQ (by first | decide | (simp; omega) | (simp; done) | omega) ?_; clear H; intro wk H; simp only [List.set_cons_zero, List.set_cons_succ, Nat.reduceAdd] at H))) | refine Wc.seq ?_ | refine then_n ?_ | refine WL.nil ?_ | refine Wc.region ?_ | refine Wc.block ?_ | refine then_r ?_ | refine then_e ?_ | refine inb_e rfl ?_ | refine inb_o rfl ?_ | refine inb_n ?_ | refine inb_r ?_ | refine Wc.skip ?_ | refine Wc.exit ?_ | refine Wc.ret ?_ | refine Wc.cond_true rfl ?_ | refine Wc.cond_false rfl ?_ | (refine Wc.drawn (id := 11) 17 (by kernel_rfl) ?_) | (refine rgs_nil ?_; intro vs wk hE; replace H := H.ext hE; clear hE) | (refine RGs.bq (fun _ => rfl) rfl (by intro vs w hE hP; have H := H.ext hE; first | exact dbQ | fail) (fun hc => ?_) (fun hc => ?_) <;> ((try simp only [cmpP, decide_eq_true_eq, decide_eq_false_iff_not, dcd_iff, dcd_no] at hc); try exact prDQ)) | refine RGs.pq (fun _ => rfl) rfl (by intro vs w hE hP; have H := H.ext hE; first | exact dvQ | fail) ?_)
  replace H := H.split3
  simp only [← hT.root] at hbl
  repeat' (first | ((first | refine WL.p rfl ?_ | refine WL.u ?_); first | (refine opk 1 rfl ?_; first | (refine ost_lenM rfl rfl H.bI ?_) | (refine ost_C H rfl (hbl _ (sat_full _) ⟨H.blk (i := 1) rfl, H.blk (i := 2) rfl, H.blk (i := 3) rfl⟩ (hT.rep.mono H.sat.le)) rfl ?_; clear H; rintro vk wk hfk Lk ⟨-, a7, c7, rfl, rfl⟩ H; simp only [List.cons_append, List.nil_append] at H)) | (refine opk 13 rfl ?_; (refine ost_makeMapH H rfl ?_; clear H; intro nb wk H)) | refine pvQ ?_ | (refine opk 3 rfl ?_; (refine ost_cmp rfl rfl rfl rfl (fun hc => ?_) (fun hc => ?_) <;> (simp only [cmpP] at hc; try exact prIQ))) | (refine opk 4 rfl ?_; (refine ost_cmp rfl rfl rfl rfl (fun hc => ?_) (fun hc => ?_) <;> (simp only [cmpP] at hc; try exact prIQ))) | (refine opk 8 rfl ?_; (refine ost_store1 H rfl rfl vlQ gvQ ixQ (by first | decide | (simp; omega) | (simp; done) | omega) ?_; clear H; intro wk H; simp only [List.set_cons_zero, List.set_cons_succ, Nat.reduceAdd] at H))) | refine Wc.seq ?_ | refine then_n ?_ | refine WL.nil ?_ | refine Wc.region ?_ | refine Wc.block ?_ | refine then_r ?_ | refine then_e ?_ | refine inb_e rfl ?_ | refine inb_o rfl ?_ | refine inb_n ?_ | refine inb_r ?_ | refine Wc.skip ?_ | refine Wc.exit ?_ | refine Wc.ret ?_ | refine Wc.cond_true rfl ?_ | refine Wc.cond_false rfl ?_ | (refine Wc.drawn (id := 11) 17 (by kernel_rfl) ?_) | (refine rgs_nil ?_; intro vs wk hE; replace H := H.ext hE; clear hE) | (refine RGs.bq (fun _ => rfl) rfl (by intro vs w hE hP; have H := H.ext hE; first | exact dbQ | fail) (fun hc => ?_) (fun hc => ?_) <;> ((try simp only [cmpP, decide_eq_true_eq, decide_eq_false_iff_not, dcd_iff, dcd_no] at hc); try exact prDQ)) | refine RGs.pq (fun _ => rfl) rfl (by intro vs w hE hP; have H := H.ext hE; first | exact dvQ | fail) ?_)
  obtain ⟨a8, c8, h1, e8, hle1, hNs, H7⟩ := H.freezeR (rows1 _)
  injection e8 with e81 _ e83
  subst e81; subst e83
  clear H hbl hgd
  have H := H7
  clear H7
  generalize hns : Sh.nums d s = ns at *
  refine Wc.loopE (fun s0 m st w' => ∃ (j : Nat), m = ns.length - j ∧ j ≤ ns.length ∧ Agree [6, 23, 24, 25, 26, 27, 28, 29, 30, 31, 32, 33, 34, 35] st s0 ∧ st 23 = .int .i64 j ∧ St w F9 g h1 [.blk nb (mpO cU (trimP T.pages zPg (ns.take j)).1 (trimP T.pages zPg (ns.take j)).2), .blk tb _, .blk mb _, .blk rb _] w') ns.length ⟨0, rfl, by omega, Agree.refl _ _, rfl, H⟩ ?_
  clear H
  rintro m st w' ⟨j, rfl, hj, hA, e1, H⟩
  obtain ⟨j9, rfl⟩ := hA.env1 e1
  clear hA e1
  by_cases hlt : j < ns.length
  · obtain ⟨b, off, L9, T9, fr, e2, eb, eg⟩ := hNs.getM (by decide) (show 0 < ns.length by omega)
    have q2 := eg (j : Int).toNat j hlt (by omega)
    have hsucc : ns.take (j + 1) = ns.take j ++ [ns[j]] := by rw [List.take_add_one, List.getElem?_eq_getElem hlt]; rfl
    have hsn := trimP_snoc T.pages zPg (ns.take j) ns[j]
    rw [← hsucc] at hsn
    generalize ns[j] = n at *
    have gc : L9[off + (j : Int).toNat * 1]? = some (.int .u32 (n.toNat : Nat)) := by
      have := row_cell q2 (q := 0) (by simp [cKid])
      simpa [cKid] using this
    clear eg q2
    subst e2
    repeat' (first | ((first | refine WL.p rfl ?_ | refine WL.u ?_); first | (refine opk 13 rfl ?_; first | (refine ost_lookup0 (k := n) rfl rfl rfl (H.blk (i := 2) rfl) ?_) | (refine ost_mapUpdate (k := n) (v := getM zPg T.pages n) (i := 0) H rfl rfl rfl rfl rfl ?_; clear H; intro wk H; simp only [List.set_cons_zero, List.set_cons_succ] at H)) | refine pvQ ?_ | (refine opk 3 rfl ?_; (refine ost_cmp rfl rfl rfl rfl (fun hc => ?_) (fun hc => ?_) <;> (simp only [cmpP] at hc; try exact prIQ))) | (refine opk 4 rfl ?_; (refine ost_cmp rfl rfl rfl rfl (fun hc => ?_) (fun hc => ?_) <;> (simp only [cmpP] at hc; try exact prIQ))) | (refine opk 8 rfl ?_; (refine ost_store1 H rfl rfl vlQ gvQ ixQ (by first | decide | (simp; omega) | (simp; done) | omega) ?_; clear H; intro wk H; simp only [List.set_cons_zero, List.set_cons_succ, Nat.reduceAdd] at H))) | refine Wc.seq ?_ | refine then_n ?_ | refine WL.nil ?_ | refine Wc.region ?_ | refine Wc.block ?_ | refine then_r ?_ | refine then_e ?_ | refine inb_e rfl ?_ | refine inb_o rfl ?_ | refine inb_n ?_ | refine inb_r ?_ | refine Wc.skip ?_ | refine Wc.exit ?_ | refine Wc.ret ?_ | refine Wc.cond_true rfl ?_ | refine Wc.cond_false rfl ?_ | (refine Wc.drawn (id := 11) 17 (by kernel_rfl) ?_) | (refine rgs_nil ?_; intro vs wk hE; replace H := H.ext hE; clear hE) | (refine RGs.bq (fun _ => rfl) rfl (by intro vs w hE hP; have H := H.ext hE; first | exact dbQ | fail) (fun hc => ?_) (fun hc => ?_) <;> ((try simp only [cmpP, decide_eq_true_eq, decide_eq_false_iff_not, dcd_iff, dcd_no] at hc); try exact prDQ)) | refine RGs.pq (fun _ => rfl) rfl (by intro vs w hE hP; have H := H.ext hE; first | exact dvQ | fail) ?_)
    rw [← hsn] at H
    exact ⟨ns.length - (j + 1), by omega, j + 1, rfl, by omega, by (repeat' (first | exact Agree.refl _ _ | exact Agree.havoc | refine Agree.upd rfl ?_ | refine Agree.hav2 rfl ?_)), rfl, H⟩
  · obtain rfl : j = ns.length := by omega
    rw [List.take_length] at H
    repeat' (first | ((first | refine WL.p rfl ?_ | refine WL.u ?_); first | refine pvQ ?_ | (refine opk 3 rfl ?_; (refine ost_cmp rfl rfl rfl rfl (fun hc => ?_) (fun hc => ?_) <;> (simp only [cmpP] at hc; try exact prIQ))) | (refine opk 4 rfl ?_; (refine ost_cmp rfl rfl rfl rfl (fun hc => ?_) (fun hc => ?_) <;> (simp only [cmpP] at hc; try exact prIQ))) | (refine opk 8 rfl ?_; (refine ost_store1 H rfl rfl vlQ gvQ ixQ (by first | decide | (simp; omega) | (simp; done) | omega) ?_; clear H; intro wk H; simp only [List.set_cons_zero, List.set_cons_succ, Nat.reduceAdd] at H))) | refine Wc.seq ?_ | refine then_n ?_ | refine WL.nil ?_ | refine Wc.region ?_ | refine Wc.block ?_ | refine then_r ?_ | refine then_e ?_ | refine inb_e rfl ?_ | refine inb_o rfl ?_ | refine inb_n ?_ | refine inb_r ?_ | refine Wc.skip ?_ | refine Wc.exit ?_ | refine Wc.ret ?_ | refine Wc.cond_true rfl ?_ | refine Wc.cond_false rfl ?_)
    have hgr : ∀ z, getM z T.roots T.root = .int .i64 ((Sh.its d s).length : Nat) := fun z => getM_look z hT.cnt
    refine Wc.drawC (id := 11) 17 [⟨1, 15, [], fun v L' => ∃ b, v = .map (some b) ∧ L' = [.blk b (.map #[] 0)], fun v L' => ∃ b, v = .map (some b) ∧ L' = [.blk b (mpO cU (setM [] 0 T.root (.int .i64 ((Sh.its d s).length : Nat))).1 (setM [] 0 T.root (.int .i64 ((Sh.its d s).length : Nat))).2)]⟩] [.blk tb _, .blk rb _, .blk nb _, .blk mb _] [(1, 15)] H (by kernel_rfl) rfl (by kernel_rfl) (perm_pick [1, 3, 0, 2] 4 rfl (by decide) rfl) ?_
    refine RGc.p rfl rfl (by intro vs w T9 hP H; simp only [List.cons_append, List.nil_append] at H; exact dvQ) ?_
    refine RGc.m rfl (by intro vs w T9 hP H; refine ost_makeMapH H rfl ?_; intro bk wk H2; exact ⟨[_], ⟨_, rfl, rfl⟩, H2⟩) ?_
    iterate 12 refine RGc.p rfl rfl (by intro vs w T9 hP H; simp only [List.cons_append, List.nil_append] at H; exact dvQ) ?_
    refine RGc.p rfl rfl (by intro vs w T9 hP H; simp only [List.cons_append, List.nil_append] at H; refine ost_lookup0 (k := T.root) rfl rfl rfl (H.blk (i := 1) rfl) ?_; rw [hgr]; exact ⟨Fr.refl _ _, rfl⟩) ?_
    refine RGc.s rfl rfl (by
      intro vs w T9 L1 hP h1 H
      obtain ⟨b, e, rfl⟩ := h1
      have e' : vs (0 + 1) = .map (some b) := e
      dsimp only
      rw [e']
      refine ost_insert (k := T.root) (v := .int .i64 ((Sh.its d s).length : Nat)) (es := []) (clk := 0) (i := 0) H rfl rfl rfl rfl rfl ?_
      intro w' H2
      exact ⟨[_], ⟨b, rfl, rfl⟩, H2⟩) ?_
    refine RGc.v (fun v => v) 1 [] (by kernel_rfl) rfl rfl rfl (by
      intro vs w T9 hP H
      obtain ⟨L', ⟨b, e, -⟩, -⟩ := hP 1 _ ⟨[], by kernel_rfl⟩ rfl
      have e' : vs (0 + 1) = .map (some b) := e
      have e1 : vs 1 = .map (some b) := e
      try dsimp only
      first | rw [e', e1] | rw [e1] | rw [e']
      exact dvQ) ?_
    refine RGc.nil ?_
    intro vs wk outs HM hR
    obtain ⟨b1, e1, o1⟩ := (hR _ (List.mem_singleton.2 rfl)).1 (by show 15 < 17; decide)
    have o1' : outs 1 = _ := o1
    have e1' : vs (0 + 1) = .map (some b1) := e1
    have e1'' : vs 1 = .map (some b1) := e1
    simp only [outsC, o1', List.cons_append, List.nil_append, List.append_nil] at HM
    dsimp only
    rw [e1']
    try rw [e1'']
    replace H := HM
    clear HM hR o1 o1' e1 e1' e1''
    have htl := trimP_len T.pages zPg ns
    repeat' (first | ((first | refine WL.p rfl ?_ | refine WL.u ?_); first | (refine opk 1 rfl ?_; (refine ost_lenM rfl rfl (H.blk (i := 2) rfl) ?_)) | (refine opk 5 rfl ?_; (refine ost_sub rfl rfl rfl ?_)) | refine pvQ ?_ | (refine opk 3 rfl ?_; (refine ost_cmp rfl rfl rfl rfl (fun hc => ?_) (fun hc => ?_) <;> (simp only [cmpP] at hc; try exact prIQ))) | (refine opk 4 rfl ?_; (refine ost_cmp rfl rfl rfl rfl (fun hc => ?_) (fun hc => ?_) <;> (simp only [cmpP] at hc; try exact prIQ))) | (refine opk 8 rfl ?_; (refine ost_store1 H rfl rfl vlQ gvQ ixQ (by first | decide | (simp; omega) | (simp; done) | omega) ?_; clear H; intro wk H; simp only [List.set_cons_zero, List.set_cons_succ, Nat.reduceAdd] at H))) | refine Wc.seq ?_ | refine then_n ?_ | refine WL.nil ?_ | refine Wc.region ?_ | refine Wc.block ?_ | refine then_r ?_ | refine then_e ?_ | refine inb_e rfl ?_ | refine inb_o rfl ?_ | refine inb_n ?_ | refine inb_r ?_ | refine Wc.skip ?_ | refine Wc.exit ?_ | refine Wc.ret ?_ | refine Wc.cond_true rfl ?_ | refine Wc.cond_false rfl ?_ | (refine Wc.drawn (id := 11) 17 (by kernel_rfl) ?_) | (refine rgs_nil ?_; intro vs wk hE; replace H := H.ext hE; clear hE) | (refine RGs.bq (fun _ => rfl) rfl (by intro vs w hE hP; have H := H.ext hE; first | exact dbQ | fail) (fun hc => ?_) (fun hc => ?_) <;> ((try simp only [cmpP, decide_eq_true_eq, decide_eq_false_iff_not, dcd_iff, dcd_no] at hc); try exact prDQ)) | refine RGs.pq (fun _ => rfl) rfl (by intro vs w hE hP; have H := H.ext hE; first | exact dvQ | fail) ?_)
    exact fn_ret1 (v := .int _ _) rfl rfl ⟨_, _, (H.picks (L' := [.blk tb _, .blk nb _, .blk b1 _]) [0, 2, 4] rfl (by decide)).join3, nb, b1, rfl, rfl⟩
end Go.Tg

set_option linter.unusedVariables false
set_option linter.unusedSimpArgs false
set_option maxRecDepth 100000
set_option maxHeartbeats 4000000
namespace Go.Tg
open Go Go.Proofs
theorem tr_Range (tb mb rb : Nat) (T : TrM) (d : Nat) (s : Sh d) (lo hi : KeyT) (h0 : FH) (w : World) (hs : Sat h0 w) (hT : TrF h0 tb mb rb T) (hok : Sh.Ok d s) (hsr : Srt (Sh.its d s)) (hrep : Rep h0 T d s) (hroot : T.root = Sh.num d s) (hl : (Sh.its d s).length ≤ 1000000) :
    Spec Try.prog 20 #[pT tb, .agg (cKey lo).toArray, .agg (cKey hi).toArray] w [] h0 (fun v h' L' => ∃ a c, v = .slice a (rangeI (Sh.its d s) lo hi).length c ∧ L' = [ownR (.slice a (rangeI (Sh.its d s) lo hi).length c) 50 5 ((rangeI (Sh.its d s) lo hi).map cItem)]) := by
  have H := St.start hs
  have llo := cKey_len lo
  have lhi := cKey_len hi
  have t1 := hT.t
  rw [hroot] at t1
  have hgd := fun w hs => tr_goodF tb mb rb T h0 w hs hT
  have hal := fun w h1 (hs : Sat h1 w) => tr_all tb (Sh.num d s) h1 w hs
  unfold Spec
  refine calls_ofD Try.func20 rfl Try.ntmps20 (by simp) ?_
  -- refine calls_of Try.func20 rfl Try.ntmps20 (by simp) ?_
  refine WcD.seqW ?_
  repeat' (first | ((first | refine WL.p rfl ?_ | refine WL.u ?_); first | refine pvQ ?_ | (refine opk 8 rfl ?_; first | (refine ost_store1 H rfl rfl vlQ gvQ ixQ (by first | decide | (simp; omega) | (simp; done) | omega) ?_; clear H; intro wk H; simp only [List.set_cons_zero, List.set_cons_succ, Nat.reduceAdd] at H) | (refine ost_storeW H rfl rfl rfl rfl lQ ixQ lQ okQ ?_; clear H; intro wk H; simp only [List.set_cons_zero, List.set_cons_succ, Nat.reduceAdd] at H)) | (refine opk 9 rfl ?_; first | (refine ost_boxq H rfl ?_; clear H; intro bk wk H) | (refine ost_allocA H rfl ?_; clear H; intro bk wk H) | (refine ost_alloc1 H rfl rfl ?_; clear H; intro bk wk H) | (refine ost_build1 H rfl rfl rfl evQ lsQ rfl ?_; clear H; intro bk wk H))) | refine Wc.seq ?_ | refine then_n ?_ | refine WL.nil ?_ | refine Wc.region ?_ | refine Wc.block ?_ | refine then_r ?_ | refine then_e ?_ | refine inb_e rfl ?_ | refine inb_o rfl ?_ | refine inb_n ?_ | refine inb_r ?_ | refine Wc.skip ?_ | refine Wc.exit ?_ | refine Wc.ret ?_ | refine Wc.cond_true rfl ?_ | refine Wc.cond_false rfl ?_)
  refine WcD.seqW ?_
  repeat' (first | ((first | refine WL.p rfl ?_ | refine WL.u ?_); first | (refine opk 1 rfl ?_; (refine ost_V H rfl (hgd _ H.sat) rfl ?_; clear H; intro wk H)) | refine pvQ ?_ | (refine opk 8 rfl ?_; first | (refine ost_store1 H rfl rfl vlQ gvQ ixQ (by first | decide | (simp; omega) | (simp; done) | omega) ?_; clear H; intro wk H; simp only [List.set_cons_zero, List.set_cons_succ, Nat.reduceAdd] at H) | (refine ost_storeW H rfl rfl rfl rfl lQ ixQ lQ okQ ?_; clear H; intro wk H; simp only [List.set_cons_zero, List.set_cons_succ, Nat.reduceAdd] at H)) | (refine opk 9 rfl ?_; first | (refine ost_boxq H rfl ?_; clear H; intro bk wk H) | (refine ost_allocA H rfl ?_; clear H; intro bk wk H) | (refine ost_alloc1 H rfl rfl ?_; clear H; intro bk wk H) | (refine ost_build1 H rfl rfl rfl evQ lsQ rfl ?_; clear H; intro bk wk H))) | refine Wc.seq ?_ | refine then_n ?_ | refine WL.nil ?_ | refine Wc.region ?_ | refine Wc.block ?_ | refine then_r ?_ | refine then_e ?_ | refine inb_e rfl ?_ | refine inb_o rfl ?_ | refine inb_n ?_ | refine inb_r ?_ | refine Wc.skip ?_ | refine Wc.exit ?_ | refine Wc.ret ?_ | refine Wc.cond_true rfl ?_ | refine Wc.cond_false rfl ?_)
  refine WcD.seqW ?_
  repeat' (first | ((first | refine WL.p rfl ?_ | refine WL.u ?_); first | refine pvQ ?_ | (refine opk 8 rfl ?_; first | (refine ost_store1 H rfl rfl vlQ gvQ ixQ (by first | decide | (simp; omega) | (simp; done) | omega) ?_; clear H; intro wk H; simp only [List.set_cons_zero, List.set_cons_succ, Nat.reduceAdd] at H) | (refine ost_storeW H rfl rfl rfl rfl lQ ixQ lQ okQ ?_; clear H; intro wk H; simp only [List.set_cons_zero, List.set_cons_succ, Nat.reduceAdd] at H)) | (refine opk 9 rfl ?_; first | (refine ost_boxq H rfl ?_; clear H; intro bk wk H) | (refine ost_allocA H rfl ?_; clear H; intro bk wk H) | (refine ost_alloc1 H rfl rfl ?_; clear H; intro bk wk H) | (refine ost_build1 H rfl rfl rfl evQ lsQ rfl ?_; clear H; intro bk wk H))) | refine Wc.seq ?_ | refine then_n ?_ | refine WL.nil ?_ | refine Wc.region ?_ | refine Wc.block ?_ | refine then_r ?_ | refine then_e ?_ | refine inb_e rfl ?_ | refine inb_o rfl ?_ | refine inb_n ?_ | refine inb_r ?_ | refine Wc.skip ?_ | refine Wc.exit ?_ | refine Wc.ret ?_ | refine Wc.cond_true rfl ?_ | refine Wc.cond_false rfl ?_)
  refine WcD.seq ?_
  refine WcD.seqW ?_
  obtain ⟨b7, e7⟩ := H.nameB idx0
  subst e7
  obtain ⟨b5, e5⟩ := H.nameB idx1
  subst e5
  obtain ⟨b4, e4⟩ := H.nameB idx2
  subst e4
  obtain ⟨h1, hle1, hb5, H7⟩ := (H.picks (L' := [.blk b5 _, .blk b4 _, .blk b7 _]) [1, 2, 0] rfl (by decide)).freezeB
  obtain ⟨h2, hle2, hb4, H8⟩ := H7.freezeB
  clear H H7
  have H := H8
  clear H8
  replace hb5 := hle2 _ _ hb5
  have hle := hle1.trans hle2
  replace t1 := hle _ _ t1
  repeat' (first | ((first | refine WL.p rfl ?_ | refine WL.u ?_); first | (refine opk 1 rfl ?_; (refine ost_Sk H rfl (hal _ _ H.sat) rfl ?_; clear H; rintro vk wk hfk Lk ⟨b2, b3, rfl, rfl, hb2, hb3⟩ hle3 H; simp only [List.nil_append] at H)) | refine pvQ ?_ | (refine opk 8 rfl ?_; first | (refine ost_store1 H rfl rfl vlQ gvQ ixQ (by first | decide | (simp; omega) | (simp; done) | omega) ?_; clear H; intro wk H; simp only [List.set_cons_zero, List.set_cons_succ, Nat.reduceAdd] at H) | (refine ost_storeW H rfl rfl rfl rfl lQ ixQ lQ okQ ?_; clear H; intro wk H; simp only [List.set_cons_zero, List.set_cons_succ, Nat.reduceAdd] at H)) | (refine opk 9 rfl ?_; first | (refine ost_boxq H rfl ?_; clear H; intro bk wk H) | (refine ost_allocA H rfl ?_; clear H; intro bk wk H) | (refine ost_alloc1 H rfl rfl ?_; clear H; intro bk wk H) | (refine ost_build1 H rfl rfl rfl evQ lsQ rfl ?_; clear H; intro bk wk H))) | refine Wc.seq ?_ | refine then_n ?_ | refine WL.nil ?_ | refine Wc.region ?_ | refine Wc.block ?_ | refine then_r ?_ | refine then_e ?_ | refine inb_e rfl ?_ | refine inb_o rfl ?_ | refine inb_n ?_ | refine inb_r ?_ | refine Wc.skip ?_ | refine Wc.exit ?_ | refine Wc.ret ?_ | refine Wc.cond_true rfl ?_ | refine Wc.cond_false rfl ?_)
  have hle4 := hle.trans hle3
  replace hb5 := hle3 _ _ hb5
  replace hb4 := hle3 _ _ hb4
  have hit := tr_all1 tb mb rb T hfk (hT.mono hle4) d s hok (hrep.mono hle4) b2 b3 hb2 hb3
  refine WcD.block ?_
  refine WcD.nameS fun S0 hS0 => ?_
  refine WcD.rangeB (Lb := [.blk b7 (.cells [Value.slice none 0 0].toArray 57 (0, 0)), ownR (.slice none 0 0) 50 5 []]) (Lr := []) ((H.nilOwn 50 5).picks [1, 0] rfl (by decide)) (by rw [← hS0]; rfl) hit rfl
    (fun pre L => (∀ y ∈ pre, lessK hi y.key = false) ∧ ∃ a c, L = [.blk b7 (.cells [Value.slice a (rangeI pre lo hi).length c].toArray 57 (0, 0)), ownR (.slice a (rangeI pre lo hi).length c) 50 5 ((rangeI pre lo hi).map cItem)])
    (fun e pre L => e = .exit 0 ∧ ∃ pre0 x, pre = pre0 ++ [x] ∧ lessK hi x.key = true ∧ ∃ a c, L = [.blk b7 (.cells [Value.slice a (rangeI pre0 lo hi).length c].toArray 57 (0, 0)), ownR (.slice a (rangeI pre0 lo hi).length c) 50 5 ((rangeI pre0 lo hi).map cItem)])
    (fun pre x s' L => (∀ y ∈ pre, lessK hi y.key = false) ∧ ∃ b8 a c, s' = upd (upd S0 18 (cIt x)) 8 (pT b8) ∧ L = [.blk b8 (.cells (cItem x).toArray 50 (0, 0)), .blk b7 (.cells [Value.slice a (rangeI pre lo hi).length c].toArray 57 (0, 0)), ownR (.slice a (rangeI pre lo hi).length c) 50 5 ((rangeI pre lo hi).map cItem)]) ⟨by simp, none, 0, rfl⟩ ?_ ?_ ?_ ?_
  · rintro pre x ws W S g1 L B hpre hle9 ⟨hpi, a, c, rfl⟩ H
    have lx := cItem_len x
    have ox := allOne_of (cItem_one x)
    unfold cIt
    simp only [List.cons_append, List.nil_append] at H
    repeat' (first | ((first | refine WL.p rfl ?_ | refine WL.u ?_); first | refine pvQ ?_ | (refine opk 8 rfl ?_; first | (refine ost_store1 H rfl rfl vlQ gvQ ixQ (by first | decide | (simp; omega) | (simp; done) | omega) ?_; clear H; intro wk H; simp only [List.set_cons_zero, List.set_cons_succ, Nat.reduceAdd] at H) | (refine ost_storeW H rfl rfl rfl rfl lQ ixQ lQ okQ ?_; clear H; intro wk H; simp only [List.set_cons_zero, List.set_cons_succ, Nat.reduceAdd] at H)) | (refine opk 9 rfl ?_; first | (refine ost_boxq H rfl ?_; clear H; intro bk wk H) | (refine ost_allocA H rfl ?_; clear H; intro bk wk H) | (refine ost_alloc1 H rfl rfl ?_; clear H; intro bk wk H) | (refine ost_build1 H rfl rfl rfl evQ lsQ rfl ?_; clear H; intro bk wk H))) | refine Wc.seq ?_ | refine then_n ?_ | refine WL.nil ?_ | refine Wc.region ?_ | refine Wc.block ?_ | refine then_r ?_ | refine then_e ?_ | refine inb_e rfl ?_ | refine inb_o rfl ?_ | refine inb_n ?_ | refine inb_r ?_ | refine Wc.skip ?_ | refine Wc.exit ?_ | refine Wc.ret ?_ | refine Wc.cond_true rfl ?_ | refine Wc.cond_false rfl ?_)
    exact ⟨rfl, _, g1, FLe.refl _, ⟨hpi, _, a, c, rfl, rfl⟩, H⟩
  · rintro pre x s' ws W S g1 g2 L B hpre hle9 ⟨hpi, b8, a, c, rfl, rfl⟩ H
    subst hS0
    have lx := cItem_len x
    have ox := allOne_of (cItem_one x)
    have lk := cKey_len x.key
    have gk : ((cItem x).drop (0 + 0)).take 3 = cKey x.key := cItem_key x
    have hpl := hpre.length_le
    rw [List.length_append, List.length_singleton] at hpl
    have hrl : (rangeI pre lo hi).length ≤ pre.length := List.length_filter_le ..
    have hml : ((rangeI pre lo hi).map cItem).length ≤ 1000000 := by rw [List.length_map]; omega
    have c5 := hle9 _ _ hb5
    have c4 := hle9 _ _ hb4
    have u1 := fun w => page_Less hi x.key w
    have u2 := fun w => page_Less x.key lo w
    simp only [List.cons_append, List.nil_append] at H
    cases q1 : lessK hi x.key with
    | true =>
      rw [q1] at u1
      repeat' (first | ((first | refine WL.p rfl ?_ | refine WL.u ?_); first | (refine opk 1 rfl ?_; (refine ost_V H rfl (u1 _) rfl ?_; clear H; intro wk H)) | refine pvQ ?_ | (refine opk 8 rfl ?_; first | (refine ost_store1 H rfl rfl vlQ gvQ ixQ (by first | decide | (simp; omega) | (simp; done) | omega) ?_; clear H; intro wk H; simp only [List.set_cons_zero, List.set_cons_succ, Nat.reduceAdd] at H) | (refine ost_storeW H rfl rfl rfl rfl lQ ixQ lQ okQ ?_; clear H; intro wk H; simp only [List.set_cons_zero, List.set_cons_succ, Nat.reduceAdd] at H)) | (refine opk 9 rfl ?_; first | (refine ost_boxq H rfl ?_; clear H; intro bk wk H) | (refine ost_allocA H rfl ?_; clear H; intro bk wk H) | (refine ost_alloc1 H rfl rfl ?_; clear H; intro bk wk H) | (refine ost_build1 H rfl rfl rfl evQ lsQ rfl ?_; clear H; intro bk wk H))) | refine Wc.seq ?_ | refine then_n ?_ | refine WL.nil ?_ | refine Wc.region ?_ | refine Wc.block ?_ | refine then_r ?_ | refine then_e ?_ | refine inb_e rfl ?_ | refine inb_o rfl ?_ | refine inb_n ?_ | refine inb_r ?_ | refine Wc.skip ?_ | refine Wc.exit ?_ | refine Wc.ret ?_ | refine Wc.cond_true rfl ?_ | refine Wc.cond_false rfl ?_)
      exact RndPost.ee (L' := [_, _]) (H.picks (L' := [_, _, _]) [1, 2, 3] rfl (by decide)) ⟨rfl, pre, x, rfl, q1, a, c, rfl⟩
    | false =>
      rw [q1] at u1
      have hpi2 : ∀ y ∈ pre ++ [x], lessK hi y.key = false := fun y hy => by
        rcases List.mem_append.1 hy with hy | hy
        · exact hpi y hy
        · rw [List.mem_singleton.1 hy]; exact q1
      cases q2 : lessK x.key lo with
      | true =>
        rw [q2] at u2
        have hr : rangeI (pre ++ [x]) lo hi = rangeI pre lo hi := by
          rw [rangeI_app]
          have : rangeI [x] lo hi = [] := by unfold rangeI; simp [q1, q2]
          rw [this, List.append_nil]
        repeat' (first | ((first | refine WL.p rfl ?_ | refine WL.u ?_); first | (refine opk 1 rfl ?_; first | (refine ost_V H rfl (u1 _) rfl ?_; clear H; intro wk H) | (refine ost_V H rfl (u2 _) rfl ?_; clear H; intro wk H)) | refine pvQ ?_ | (refine opk 8 rfl ?_; first | (refine ost_store1 H rfl rfl vlQ gvQ ixQ (by first | decide | (simp; omega) | (simp; done) | omega) ?_; clear H; intro wk H; simp only [List.set_cons_zero, List.set_cons_succ, Nat.reduceAdd] at H) | (refine ost_storeW H rfl rfl rfl rfl lQ ixQ lQ okQ ?_; clear H; intro wk H; simp only [List.set_cons_zero, List.set_cons_succ, Nat.reduceAdd] at H)) | (refine opk 9 rfl ?_; first | (refine ost_boxq H rfl ?_; clear H; intro bk wk H) | (refine ost_allocA H rfl ?_; clear H; intro bk wk H) | (refine ost_alloc1 H rfl rfl ?_; clear H; intro bk wk H) | (refine ost_build1 H rfl rfl rfl evQ lsQ rfl ?_; clear H; intro bk wk H))) | refine Wc.seq ?_ | refine then_n ?_ | refine WL.nil ?_ | refine Wc.region ?_ | refine Wc.block ?_ | refine then_r ?_ | refine then_e ?_ | refine inb_e rfl ?_ | refine inb_o rfl ?_ | refine inb_n ?_ | refine inb_r ?_ | refine Wc.skip ?_ | refine Wc.exit ?_ | refine Wc.ret ?_ | refine Wc.cond_true rfl ?_ | refine Wc.cond_false rfl ?_)
        exact RndPost.nn (L' := [_, _]) (H.picks (L' := [_, _, _]) [1, 2, 3] rfl (by decide)) ⟨hpi2, a, c, by rw [hr]⟩
      | false =>
        rw [q2] at u2
        have hr : rangeI (pre ++ [x]) lo hi = rangeI pre lo hi ++ [x] := by
          rw [rangeI_app]
          have : rangeI [x] lo hi = [x] := by unfold rangeI; simp [q1, q2]
          rw [this]
        repeat' (first | ((first | refine WL.p rfl ?_ | refine WL.u ?_); first | (refine opk 1 rfl ?_; first | (refine ost_V H rfl (u1 _) rfl ?_; clear H; intro wk H) | (refine ost_V H rfl (u2 _) rfl ?_; clear H; intro wk H) | (refine ost_appR (i := 3) (j := 0) (sz := 5) (rows := (rangeI pre lo hi).map cItem) (row := cItem x) H rfl rfl rfl rfl rfl (by rfl) (by decide) rfl ox rfl (by omega) ?_; clear H; intro aa ca wk H; simp only [List.set_cons_zero, List.set_cons_succ] at H)) | (refine opk 9 rfl ?_; (refine ost_buildR (rows := [cItem x]) H rfl (by decide) rfl (by rfl) (evP1 vxQ) (.cons rfl .nil) rfl (fun r hr => by rw [List.mem_singleton.1 hr]; rfl) ?_; clear H; intro bk wk H)) | refine pvQ ?_ | (refine opk 8 rfl ?_; first | (refine ost_store1 H rfl rfl vlQ gvQ ixQ (by first | decide | (simp; omega) | (simp; done) | omega) ?_; clear H; intro wk H; simp only [List.set_cons_zero, List.set_cons_succ, Nat.reduceAdd] at H) | (refine ost_storeW H rfl rfl rfl rfl lQ ixQ lQ okQ ?_; clear H; intro wk H; simp only [List.set_cons_zero, List.set_cons_succ, Nat.reduceAdd] at H)) | (refine opk 9 rfl ?_; first | (refine ost_boxq H rfl ?_; clear H; intro bk wk H) | (refine ost_allocA H rfl ?_; clear H; intro bk wk H) | (refine ost_alloc1 H rfl rfl ?_; clear H; intro bk wk H) | (refine ost_build1 H rfl rfl rfl evQ lsQ rfl ?_; clear H; intro bk wk H))) | refine Wc.seq ?_ | refine then_n ?_ | refine WL.nil ?_ | refine Wc.region ?_ | refine Wc.block ?_ | refine then_r ?_ | refine then_e ?_ | refine inb_e rfl ?_ | refine inb_o rfl ?_ | refine inb_n ?_ | refine inb_r ?_ | refine Wc.skip ?_ | refine Wc.exit ?_ | refine Wc.ret ?_ | refine Wc.cond_true rfl ?_ | refine Wc.cond_false rfl ?_)
        have em : (rangeI pre lo hi).map cItem ++ [cItem x] = (rangeI (pre ++ [x]) lo hi).map cItem := by rw [hr, List.map_append]; rfl
        have el : ((rangeI pre lo hi).map cItem ++ [cItem x]).length = (rangeI (pre ++ [x]) lo hi).length := by rw [em, List.length_map]
        rw [el, em] at H
        exact RndPost.nn (L' := [_, _]) (H.picks (L' := [_, _, _]) [2, 3, 4] (by simp only [ownR, List.length_map]; rfl) (by decide)) ⟨hpi2, aa, ca, rfl⟩
  · rintro k L' h' W ⟨-, a, c, rfl⟩ hle9 H
    refine inbD_n ?_
    refine thenD_n ?_
    refine WcD.of ?_
    subst hS0
    simp only [List.cons_append, List.nil_append] at H
    repeat' (first | ((first | refine WL.p rfl ?_ | refine WL.u ?_); first | refine pvQ ?_ | (refine opk 8 rfl ?_; first | (refine ost_store1 H rfl rfl vlQ gvQ ixQ (by first | decide | (simp; omega) | (simp; done) | omega) ?_; clear H; intro wk H; simp only [List.set_cons_zero, List.set_cons_succ, Nat.reduceAdd] at H) | (refine ost_storeW H rfl rfl rfl rfl lQ ixQ lQ okQ ?_; clear H; intro wk H; simp only [List.set_cons_zero, List.set_cons_succ, Nat.reduceAdd] at H)) | (refine opk 9 rfl ?_; first | (refine ost_boxq H rfl ?_; clear H; intro bk wk H) | (refine ost_allocA H rfl ?_; clear H; intro bk wk H) | (refine ost_alloc1 H rfl rfl ?_; clear H; intro bk wk H) | (refine ost_build1 H rfl rfl rfl evQ lsQ rfl ?_; clear H; intro bk wk H))) | refine Wc.seq ?_ | refine then_n ?_ | refine WL.nil ?_ | refine Wc.region ?_ | refine Wc.block ?_ | refine then_r ?_ | refine then_e ?_ | refine inb_e rfl ?_ | refine inb_o rfl ?_ | refine inb_n ?_ | refine inb_r ?_ | refine Wc.skip ?_ | refine Wc.exit ?_ | refine Wc.ret ?_ | refine Wc.cond_true rfl ?_ | refine Wc.cond_false rfl ?_)
    refine fn_retD H fun w' H' => ?_
    exact fn_ret1 (v := .slice _ _ _) rfl rfl ⟨_, _, H'.picks (L' := [_]) [1] rfl (by decide), _, _, rfl, rfl⟩
  · rintro k e pre L' h' W hpre ⟨rfl, pre0, x, rfl, hx, a, c, rfl⟩ hle9 H
    refine inbD_e ?_
    refine thenD_n ?_
    refine WcD.of ?_
    subst hS0
    rw [← rangeI_stop hsr hpre hx] at H
    simp only [List.cons_append, List.nil_append] at H
    repeat' (first | ((first | refine WL.p rfl ?_ | refine WL.u ?_); first | refine pvQ ?_ | (refine opk 8 rfl ?_; first | (refine ost_store1 H rfl rfl vlQ gvQ ixQ (by first | decide | (simp; omega) | (simp; done) | omega) ?_; clear H; intro wk H; simp only [List.set_cons_zero, List.set_cons_succ, Nat.reduceAdd] at H) | (refine ost_storeW H rfl rfl rfl rfl lQ ixQ lQ okQ ?_; clear H; intro wk H; simp only [List.set_cons_zero, List.set_cons_succ, Nat.reduceAdd] at H)) | (refine opk 9 rfl ?_; first | (refine ost_boxq H rfl ?_; clear H; intro bk wk H) | (refine ost_allocA H rfl ?_; clear H; intro bk wk H) | (refine ost_alloc1 H rfl rfl ?_; clear H; intro bk wk H) | (refine ost_build1 H rfl rfl rfl evQ lsQ rfl ?_; clear H; intro bk wk H))) | refine Wc.seq ?_ | refine then_n ?_ | refine WL.nil ?_ | refine Wc.region ?_ | refine Wc.block ?_ | refine then_r ?_ | refine then_e ?_ | refine inb_e rfl ?_ | refine inb_o rfl ?_ | refine inb_n ?_ | refine inb_r ?_ | refine Wc.skip ?_ | refine Wc.exit ?_ | refine Wc.ret ?_ | refine Wc.cond_true rfl ?_ | refine Wc.cond_false rfl ?_)
    refine fn_retD H fun w' H' => ?_
    exact fn_ret1 (v := .slice _ _ _) rfl rfl ⟨_, _, H'.picks (L' := [_]) [1] rfl (by decide), _, _, rfl, rfl⟩
end Go.Tg

