/- Contracts of Go functions that the laws reach: what each call answers and leaves in memory, for all arguments within the bounds that each theorem names. -/
import Derived.Test.YtbfilhaigbebpaaDoorInst
import Derived.Test.YtbfilhaigbebpaaDoorAuto
import Derived.Test.YtbfilhaigbebpaaDoorR5
set_option linter.unusedVariables false
set_option linter.unusedSimpArgs false
set_option maxRecDepth 100000
set_option maxHeartbeats 4000000
namespace Go.Tg
open Go Go.Proofs
theorem u32_1 (n : Nat) : Value.int .u32 (IntKind.u32.wrap (n : Int)) = .int .u32 (UInt32.ofNat n).toNat := by
  simp [IntKind.wrap, IntKind.bits, IntKind.signed]
theorem ro_above (wb : Nat) (a : Option Addr) (c : Nat) (xs : List UInt8) (base : Nat) (al : Option Addr) (cl : Nat) (l : List PlT) (hx : xs.length ≤ 10000000) (hb : base ≤ 1073741824) (hl : l.length ≤ 65536) (g : FH) (w : World) (hT : Half g) (hN : Sl g 4 al cl (l.map cPl)) (HO : St w (wrt wb a c xs base).fp g g [wrt wb a c xs base] w) :
    Spec Tryd.prog 23 #[pt wb, .slice al l.length cl] w (wrt wb a c xs base).fp g (fun v h' L' => FLe g h' ∧ ∃ a' c' ao co, v = .slice ao (placesP (base + xs.length) (nodePs l)).length co ∧ L' = [ownR v 79 4 ((placesP (base + xs.length) (nodePs l)).map cPl), wrt wb a' c' (xs ++ bytesP (nodePs l)) base]) := by
  have H := HO
  have q1 := hN.lenM
  generalize hF9 : (wrt wb a c xs base).fp = F9 at H ⊢
  unfold Spec
  refine calls_ofD Tryd.func23 rfl Tryd.ntmps23 (by simp) ?_
  refine WcD.seqW ?_
  repeat' (first | ((first | refine WL.p rfl ?_ | refine WL.u ?_); first | refine pvQ ?_ | (refine opk 3 rfl ?_; (refine ost_cmp rfl rfl rfl rfl (fun hc => ?_) (fun hc => ?_) <;> (simp only [cmpP] at hc; try exact prIQ))) | (refine opk 4 rfl ?_; (refine ost_cmp rfl rfl rfl rfl (fun hc => ?_) (fun hc => ?_) <;> (simp only [cmpP] at hc; try exact prIQ))) | (refine opk 8 rfl ?_; first | (refine ost_store1 H rfl rfl vlQ gvQ ixQ (by first | decide | (simp; omega) | (simp; done) | omega) ?_; clear H; intro wk H; simp only [List.set_cons_zero, List.set_cons_succ, Nat.reduceAdd] at H) | (refine ost_storeW H rfl rfl rfl rfl lQ ixQ lQ okQ ?_; clear H; intro wk H; simp only [List.set_cons_zero, List.set_cons_succ, Nat.reduceAdd] at H)) | (refine opk 9 rfl ?_; first | (refine ost_boxq H rfl ?_; clear H; intro bk wk H) | (refine ost_allocA H rfl ?_; clear H; intro bk wk H) | (refine ost_alloc1 H rfl rfl ?_; clear H; intro bk wk H) | (refine ost_build1 H rfl rfl rfl evQ lsQ rfl ?_; clear H; intro bk wk H))) | refine Wc.seq ?_ | refine then_n ?_ | refine WL.nil ?_ | refine Wc.region ?_ | refine Wc.block ?_ | refine then_r ?_ | refine then_e ?_ | refine inb_e rfl ?_ | refine inb_o rfl ?_ | refine inb_n ?_ | refine inb_r ?_ | refine Wc.skip ?_ | refine Wc.exit ?_ | refine Wc.ret ?_ | refine Wc.cond_true rfl ?_ | refine Wc.cond_false rfl ?_ | (refine Wc.drawn (id := 11) 5 (by kernel_rfl) ?_) | (refine rgs_nil ?_; intro vs wk hE; replace H := H.ext hE; clear hE) | (refine RGs.bq (fun _ => rfl) rfl (by intro vs w hE hP; have H := H.ext hE; first | exact dbQ | fail) (fun hc => ?_) (fun hc => ?_) <;> ((try simp only [cmpP, decide_eq_true_eq, decide_eq_false_iff_not, dcd_iff, dcd_no] at hc); try exact prDQ)) | refine RGs.pq (fun _ => rfl) rfl (by intro vs w hE hP; have H := H.ext hE; first | exact dvQ | fail) ?_)
  refine WcD.seqW ?_
  repeat' (first | ((first | refine WL.p rfl ?_ | refine WL.u ?_); first | refine pvQ ?_ | (refine opk 3 rfl ?_; (refine ost_cmp rfl rfl rfl rfl (fun hc => ?_) (fun hc => ?_) <;> (simp only [cmpP] at hc; try exact prIQ))) | (refine opk 4 rfl ?_; (refine ost_cmp rfl rfl rfl rfl (fun hc => ?_) (fun hc => ?_) <;> (simp only [cmpP] at hc; try exact prIQ))) | (refine opk 8 rfl ?_; first | (refine ost_store1 H rfl rfl vlQ gvQ ixQ (by first | decide | (simp; omega) | (simp; done) | omega) ?_; clear H; intro wk H; simp only [List.set_cons_zero, List.set_cons_succ, Nat.reduceAdd] at H) | (refine ost_storeW H rfl rfl rfl rfl lQ ixQ lQ okQ ?_; clear H; intro wk H; simp only [List.set_cons_zero, List.set_cons_succ, Nat.reduceAdd] at H)) | (refine opk 9 rfl ?_; first | (refine ost_boxq H rfl ?_; clear H; intro bk wk H) | (refine ost_allocA H rfl ?_; clear H; intro bk wk H) | (refine ost_alloc1 H rfl rfl ?_; clear H; intro bk wk H) | (refine ost_build1 H rfl rfl rfl evQ lsQ rfl ?_; clear H; intro bk wk H))) | refine Wc.seq ?_ | refine then_n ?_ | refine WL.nil ?_ | refine Wc.region ?_ | refine Wc.block ?_ | refine then_r ?_ | refine then_e ?_ | refine inb_e rfl ?_ | refine inb_o rfl ?_ | refine inb_n ?_ | refine inb_r ?_ | refine Wc.skip ?_ | refine Wc.exit ?_ | refine Wc.ret ?_ | refine Wc.cond_true rfl ?_ | refine Wc.cond_false rfl ?_ | (refine Wc.drawn (id := 11) 5 (by kernel_rfl) ?_) | (refine rgs_nil ?_; intro vs wk hE; replace H := H.ext hE; clear hE) | (refine RGs.bq (fun _ => rfl) rfl (by intro vs w hE hP; have H := H.ext hE; first | exact dbQ | fail) (fun hc => ?_) (fun hc => ?_) <;> ((try simp only [cmpP, decide_eq_true_eq, decide_eq_false_iff_not, dcd_iff, dcd_no] at hc); try exact prDQ)) | refine RGs.pq (fun _ => rfl) rfl (by intro vs w hE hP; have H := H.ext hE; first | exact dvQ | fail) ?_)
  obtain ⟨b5, eb5⟩ := H.nameB idx0
  subst eb5
  obtain ⟨b2, eb2⟩ := H.nameB idx1
  subst eb2
  refine WcD.seq ?_
  refine WcD.seqW ?_
  repeat' (first | ((first | refine WL.p rfl ?_ | refine WL.u ?_); first | (refine opk 1 rfl ?_; (refine ost_Sk H rfl (chunk_fp _ _ H.sat al l.length cl) rfl ?_; clear H; rintro vk wk hfk Lk ⟨c2, c3, rfl, rfl, hc2, hc3⟩ hle H; simp only [List.cons_append, List.nil_append] at H)) | refine pvQ ?_ | (refine opk 3 rfl ?_; (refine ost_cmp rfl rfl rfl rfl (fun hc => ?_) (fun hc => ?_) <;> (simp only [cmpP] at hc; try exact prIQ))) | (refine opk 4 rfl ?_; (refine ost_cmp rfl rfl rfl rfl (fun hc => ?_) (fun hc => ?_) <;> (simp only [cmpP] at hc; try exact prIQ))) | (refine opk 8 rfl ?_; first | (refine ost_store1 H rfl rfl vlQ gvQ ixQ (by first | decide | (simp; omega) | (simp; done) | omega) ?_; clear H; intro wk H; simp only [List.set_cons_zero, List.set_cons_succ, Nat.reduceAdd] at H) | (refine ost_storeW H rfl rfl rfl rfl lQ ixQ lQ okQ ?_; clear H; intro wk H; simp only [List.set_cons_zero, List.set_cons_succ, Nat.reduceAdd] at H)) | (refine opk 9 rfl ?_; first | (refine ost_boxq H rfl ?_; clear H; intro bk wk H) | (refine ost_allocA H rfl ?_; clear H; intro bk wk H) | (refine ost_alloc1 H rfl rfl ?_; clear H; intro bk wk H) | (refine ost_build1 H rfl rfl rfl evQ lsQ rfl ?_; clear H; intro bk wk H))) | refine Wc.seq ?_ | refine then_n ?_ | refine WL.nil ?_ | refine Wc.region ?_ | refine Wc.block ?_ | refine then_r ?_ | refine then_e ?_ | refine inb_e rfl ?_ | refine inb_o rfl ?_ | refine inb_n ?_ | refine inb_r ?_ | refine Wc.skip ?_ | refine Wc.exit ?_ | refine Wc.ret ?_ | refine Wc.cond_true rfl ?_ | refine Wc.cond_false rfl ?_ | (refine Wc.drawn (id := 11) 5 (by kernel_rfl) ?_) | (refine rgs_nil ?_; intro vs wk hE; replace H := H.ext hE; clear hE) | (refine RGs.bq (fun _ => rfl) rfl (by intro vs w hE hP; have H := H.ext hE; first | exact dbQ | fail) (fun hc => ?_) (fun hc => ?_) <;> ((try simp only [cmpP, decide_eq_true_eq, decide_eq_false_iff_not, dcd_iff, dcd_no] at hc); try exact prDQ)) | refine RGs.pq (fun _ => rfl) rfl (by intro vs w hE hP; have H := H.ext hE; first | exact dvQ | fail) ?_)
  refine WcD.block ?_
  obtain ⟨h2, hle2, hb2, H⟩ := (H.front 1 rfl).freezeB
  have hleg := hle.trans hle2
  have hIt := chunk_pl h2 c2 c3 al l.length cl _ _ _ _ (hle2 _ _ hc2) (hle2 _ _ hc3) q1.1 (by have := hN.mx; simpa using this) (by omega)
  refine WcD.nameS fun S0 hS0 => ?_
  refine WcD.rangeB (Lb := [.blk b5 (.cells [Value.slice none 0 0].toArray 75 (0, 0)), ownR (.slice none 0 0) 79 4 [], wrt wb a c xs base]) (Lr := []) ((H.nilOwn 79 4).picks [1, 0, 2] rfl (by decide)) (by rw [← hS0]; rfl) hIt rfl (lvI (fun k => nodeP (partK l k)) b5 wb xs base) (fun _ _ _ => False)
    (fun pre x s' L => s' = upd (upd S0 12 (chV 4 al l.length x)) 6 (chV 4 al l.length x) ∧ lvI (fun k => nodeP (partK l k)) b5 wb xs base pre L) ⟨a, c, none, 0, by simp [placesP, bytesP]⟩ ?_ ?_ ?_ (fun _ _ _ _ _ _ _ hX => hX.elim)
  · intro pre x ws W S g1 L B hpre hle9 hI H
    repeat' (first | ((first | refine WL.p rfl ?_ | refine WL.u ?_); first | refine pvQ ?_ | (refine opk 3 rfl ?_; (refine ost_cmp rfl rfl rfl rfl (fun hc => ?_) (fun hc => ?_) <;> (simp only [cmpP] at hc; try exact prIQ))) | (refine opk 4 rfl ?_; (refine ost_cmp rfl rfl rfl rfl (fun hc => ?_) (fun hc => ?_) <;> (simp only [cmpP] at hc; try exact prIQ))) | (refine opk 8 rfl ?_; first | (refine ost_store1 H rfl rfl vlQ gvQ ixQ (by first | decide | (simp; omega) | (simp; done) | omega) ?_; clear H; intro wk H; simp only [List.set_cons_zero, List.set_cons_succ, Nat.reduceAdd] at H) | (refine ost_storeW H rfl rfl rfl rfl lQ ixQ lQ okQ ?_; clear H; intro wk H; simp only [List.set_cons_zero, List.set_cons_succ, Nat.reduceAdd] at H)) | (refine opk 9 rfl ?_; first | (refine ost_boxq H rfl ?_; clear H; intro bk wk H) | (refine ost_allocA H rfl ?_; clear H; intro bk wk H) | (refine ost_alloc1 H rfl rfl ?_; clear H; intro bk wk H) | (refine ost_build1 H rfl rfl rfl evQ lsQ rfl ?_; clear H; intro bk wk H))) | refine Wc.seq ?_ | refine then_n ?_ | refine WL.nil ?_ | refine Wc.region ?_ | refine Wc.block ?_ | refine then_r ?_ | refine then_e ?_ | refine inb_e rfl ?_ | refine inb_o rfl ?_ | refine inb_n ?_ | refine inb_r ?_ | refine Wc.skip ?_ | refine Wc.exit ?_ | refine Wc.ret ?_ | refine Wc.cond_true rfl ?_ | refine Wc.cond_false rfl ?_ | (refine Wc.drawn (id := 11) 5 (by kernel_rfl) ?_) | (refine rgs_nil ?_; intro vs wk hE; replace H := H.ext hE; clear hE) | (refine RGs.bq (fun _ => rfl) rfl (by intro vs w hE hP; have H := H.ext hE; first | exact dbQ | fail) (fun hc => ?_) (fun hc => ?_) <;> ((try simp only [cmpP, decide_eq_true_eq, decide_eq_false_iff_not, dcd_iff, dcd_no] at hc); try exact prDQ)) | refine RGs.pq (fun _ => rfl) rfl (by intro vs w hE hP; have H := H.ext hE; first | exact dvQ | fail) ?_)
    exact ⟨rfl, L, g1, FLe.refl _, ⟨rfl, hI⟩, H⟩
  · rintro pre x s' ws W S g1 g2 L B hpre hle9 ⟨rfl, a1, c1, ao, co, rfl⟩ H
    subst hS0
    have hxn := range_mem hpre
    have hPt := (hN.mono (hleg.trans hle9)).part x (by rw [List.length_map]; exact hxn)
    rw [partK_map, List.length_map] at hPt
    have hpl := partK_len l x
    have hb2 := hle9 _ _ hb2
    have hT2 := hT.mono (hleg.trans hle9)
    have hpre9 : pre.length + 1 ≤ chN l.length := by
      have := hpre.length_le
      simpa using this
    have hcv : chV 4 al l.length x = .slice (al.map (·.add (8 * x * 4))) (chL l.length x) (chL l.length x) := rfl
    rw [hcv]
    rw [← hpl] at hPt ⊢
    have hpg : (pre ++ [x]).map (fun k => nodeP (partK l k)) = pre.map (fun k => nodeP (partK l k)) ++ [nodeP (partK l x)] := by rw [List.map_append]; rfl
    generalize partK l x = its at *
    generalize al.map (·.add (8 * x * 4)) = ap at hPt ⊢
    generalize hPS : pre.map (fun k => nodeP (partK l k)) = PS at *
    simp only [List.cons_append, List.nil_append] at H
    have hPL : (placesP (base + xs.length) PS).length = pre.length := by rw [placesP_len, ← hPS, List.length_map]
    have hBL := bytesP_len PS
    have hPL2 : PS.length = pre.length := by rw [← hPS, List.length_map]
    have hsn := placesP_snoc (base + xs.length) PS (nodeP its)
    have hsb := bytesP_snoc PS (nodeP its)
    have hch : chL l.length x ≤ 8 := by unfold chL; omega
    have hcn : chN l.length ≤ 10000 := by unfold chN; omega
    have q2 := hPt.lenM
    clear hPS
    generalize hRR : placesP (base + xs.length) PS = RR at H hPL hsn
    clear hRR
    generalize bytesP PS = BB at H hBL hsn hsb
    have hRl : (RR.map cPl).length = RR.length := List.length_map ..
    repeat' (first | ((first | refine WL.p rfl ?_ | refine WL.u ?_); first | refine pvQ ?_ | (refine opk 3 rfl ?_; (refine ost_cmp rfl rfl rfl rfl (fun hc => ?_) (fun hc => ?_) <;> (simp only [cmpP] at hc; try exact prIQ))) | (refine opk 4 rfl ?_; (refine ost_cmp rfl rfl rfl rfl (fun hc => ?_) (fun hc => ?_) <;> (simp only [cmpP] at hc; try exact prIQ))) | (refine opk 8 rfl ?_; first | (refine ost_store1 H rfl rfl vlQ gvQ ixQ (by first | decide | (simp; omega) | (simp; done) | omega) ?_; clear H; intro wk H; simp only [List.set_cons_zero, List.set_cons_succ, Nat.reduceAdd] at H) | (refine ost_storeW H rfl rfl rfl rfl lQ ixQ lQ okQ ?_; clear H; intro wk H; simp only [List.set_cons_zero, List.set_cons_succ, Nat.reduceAdd] at H)) | (refine opk 9 rfl ?_; first | (refine ost_boxq H rfl ?_; clear H; intro bk wk H) | (refine ost_allocA H rfl ?_; clear H; intro bk wk H) | (refine ost_alloc1 H rfl rfl ?_; clear H; intro bk wk H) | (refine ost_build1 H rfl rfl rfl evQ lsQ rfl ?_; clear H; intro bk wk H))) | refine Wc.seq ?_ | refine then_n ?_ | refine WL.nil ?_ | refine Wc.region ?_ | refine Wc.block ?_ | refine then_r ?_ | refine then_e ?_ | refine inb_e rfl ?_ | refine inb_o rfl ?_ | refine inb_n ?_ | refine inb_r ?_ | refine Wc.skip ?_ | refine Wc.exit ?_ | refine Wc.ret ?_ | refine Wc.cond_true rfl ?_ | refine Wc.cond_false rfl ?_ | (refine Wc.drawn (id := 11) 5 (by kernel_rfl) ?_) | (refine rgs_nil ?_; intro vs wk hE; replace H := H.ext hE; clear hE) | (refine RGs.bq (fun _ => rfl) rfl (by intro vs w hE hP; have H := H.ext hE; first | exact dbQ | fail) (fun hc => ?_) (fun hc => ?_) <;> ((try simp only [cmpP, decide_eq_true_eq, decide_eq_false_iff_not, dcd_iff, dcd_no] at hc); try exact prDQ)) | refine RGs.pq (fun _ => rfl) rfl (by intro vs w hE hP; have H := H.ext hE; first | exact dvQ | fail) ?_)
    obtain ⟨bp, ebp⟩ := H.nameB idx0
    subst ebp
    replace H : St ws S g1 g2 [ownR (.slice none ((its.take 0).map fun i => cKey i.1).length 0) 66 3 ((its.take 0).map fun i => cKey i.1), ownR (.slice none ((its.take 0).map fun i => cKid (UInt32.ofNat i.2)).length 0) 26 1 ((its.take 0).map fun i => cKid (UInt32.ofNat i.2)), .blk bp (.cells [Value.bool false, .slice none ((its.take 0).map fun i => cKey i.1).length 0, .slice none 0 0, .slice none ((its.take 0).map fun i => cKid (UInt32.ofNat i.2)).length 0].toArray 59 (0, 0)),
      .blk b5 (.cells [Value.slice ao (RR.map cPl).length co].toArray 75 (0, 0)), ownR (.slice ao (RR.map cPl).length co) 79 4 (RR.map cPl), wrt wb a1 c1 (xs ++ BB) base, B] _ := (H.nilOwn 26 1).nilOwn 66 3
    refine Wc.loopE (fun s0 m s w' => ∃ (k : Nat) (ak : Option Addr) (ck : Nat) (aq : Option Addr) (cq : Nat), m = its.length - k ∧ k ≤ its.length ∧ Agree [9, 15, 16, 17, 18, 19, 20, 21, 22, 23, 24, 25, 26, 27, 28, 29, 30, 31, 32, 33, 34] s s0 ∧ s 15 = .int .i64 k ∧
      St ws S g1 g2 [ownR (.slice ak ((its.take k).map fun i => cKey i.1).length ck) 66 3 ((its.take k).map fun i => cKey i.1), ownR (.slice aq ((its.take k).map fun i => cKid (UInt32.ofNat i.2)).length cq) 26 1 ((its.take k).map fun i => cKid (UInt32.ofNat i.2)), .blk bp (.cells [Value.bool false, .slice ak ((its.take k).map fun i => cKey i.1).length ck, .slice none 0 0, .slice aq ((its.take k).map fun i => cKid (UInt32.ofNat i.2)).length cq].toArray 59 (0, 0)),
        .blk b5 (.cells [Value.slice ao (RR.map cPl).length co].toArray 75 (0, 0)), ownR (.slice ao (RR.map cPl).length co) 79 4 (RR.map cPl), wrt wb a1 c1 (xs ++ BB) base, B] w') its.length ⟨0, _, _, _, _, rfl, by omega, Agree.refl _ _, rfl, H⟩ ?_
    clear H
    rintro m s w' ⟨k, ak, ck, aq, cq, rfl, hk, hA, e1, H⟩
    obtain ⟨j, rfl⟩ := hA.env1 e1
    clear hA e1
    have hKl : ((its.take k).map fun i => cKey i.1).length = k := by simp; omega
    have hQl : ((its.take k).map fun i => cKid (UInt32.ofNat i.2)).length = k := by simp; omega
    by_cases hlt : k < its.length
    · obtain ⟨b, off, L9, T, fr, e2, eb, eg⟩ := hPt.getM (by decide) (Nat.lt_of_le_of_lt (Nat.zero_le _) hlt)
      subst e2
      have g9 := eg (k : Int).toNat k hlt (by omega)
      have hs1 := takeM_succ (fun i : PlT => cKey i.1) its hlt
      have hs2 := takeM_succ (fun i : PlT => cKid (UInt32.ofNat i.2)) its hlt
      clear eg
      generalize its[k] = y at g9 hs1 hs2
      have lx := cPl_len y
      have ox := allOne_of (cPl_one y)
      have k1 := cPl_key y
      have k2 : (cPl y)[0 + 3]? = some (.int .i64 (y.2 : Int)) := rfl
      have l1 := cKey_len y.1
      have o1 := allOne_of (cKey_one y.1)
      have hku : cKid (UInt32.ofNat y.2) = [Value.int .u32 (IntKind.u32.wrap (y.2 : Int))] := by unfold cKid; rw [u32_1]
      rw [hku] at hs2
      generalize ((its.take k).map fun i => cKey i.1) = KS at H hKl hs1
      generalize ((its.take k).map fun i => cKid (UInt32.ofNat i.2)) = QS at H hQl hs2
      repeat' (first | ((first | refine WL.p rfl ?_ | refine WL.u ?_); first | (refine opk 1 rfl ?_; first | (refine ost_appR (rows := KS) (row := cKey y.1) H rfl rfl rfl (by (exact ixQ)) (by (exact ixQ)) (by rfl) (by first | simp; done | exact Nat.succ_pos _) rfl (allOne_of rfl) rfl (by omega) ?_; clear H; intro aa ca wk H; simp only [List.set_cons_zero, List.set_cons_succ] at H) | (refine ost_appR (rows := QS) (row := [Value.int .u32 (IntKind.u32.wrap (y.2 : Int))]) H rfl rfl rfl (by (exact ixQ)) (by (exact ixQ)) (by rfl) (by first | simp; done | exact Nat.succ_pos _) rfl (allOne_of rfl) rfl (by omega) ?_; clear H; intro aa ca wk H; simp only [List.set_cons_zero, List.set_cons_succ] at H)) | (refine opk 9 rfl ?_; first | (refine ost_buildR (rows := [cKey y.1]) H rfl (by decide) rfl (by rfl) (evP1 vxQ) (.cons rfl .nil) rfl (fun r hr => by rw [List.mem_singleton.1 hr]; rfl) ?_; clear H; intro bk wk H) | (refine ost_buildR (rows := [[Value.int .u32 (IntKind.u32.wrap (y.2 : Int))]]) H rfl (by decide) rfl (by rfl) (evP1 vxQ) (.cons rfl .nil) rfl (fun r hr => by rw [List.mem_singleton.1 hr]; rfl) ?_; clear H; intro bk wk H)) | refine pvQ ?_ | (refine opk 3 rfl ?_; (refine ost_cmp rfl rfl rfl rfl (fun hc => ?_) (fun hc => ?_) <;> (simp only [cmpP] at hc; try exact prIQ))) | (refine opk 4 rfl ?_; (refine ost_cmp rfl rfl rfl rfl (fun hc => ?_) (fun hc => ?_) <;> (simp only [cmpP] at hc; try exact prIQ))) | (refine opk 8 rfl ?_; first | (refine ost_store1 H rfl rfl vlQ gvQ ixQ (by first | decide | (simp; omega) | (simp; done) | omega) ?_; clear H; intro wk H; simp only [List.set_cons_zero, List.set_cons_succ, Nat.reduceAdd] at H) | (refine ost_storeW H rfl rfl rfl rfl lQ ixQ lQ okQ ?_; clear H; intro wk H; simp only [List.set_cons_zero, List.set_cons_succ, Nat.reduceAdd] at H)) | (refine opk 9 rfl ?_; first | (refine ost_boxq H rfl ?_; clear H; intro bk wk H) | (refine ost_allocA H rfl ?_; clear H; intro bk wk H) | (refine ost_alloc1 H rfl rfl ?_; clear H; intro bk wk H) | (refine ost_build1 H rfl rfl rfl evQ lsQ rfl ?_; clear H; intro bk wk H))) | refine Wc.seq ?_ | refine then_n ?_ | refine WL.nil ?_ | refine Wc.region ?_ | refine Wc.block ?_ | refine then_r ?_ | refine then_e ?_ | refine inb_e rfl ?_ | refine inb_o rfl ?_ | refine inb_n ?_ | refine inb_r ?_ | refine Wc.skip ?_ | refine Wc.exit ?_ | refine Wc.ret ?_ | refine Wc.cond_true rfl ?_ | refine Wc.cond_false rfl ?_ | (refine Wc.drawn (id := 11) 5 (by kernel_rfl) ?_) | (refine rgs_nil ?_; intro vs wk hE; replace H := H.ext hE; clear hE) | (refine RGs.bq (fun _ => rfl) rfl (by intro vs w hE hP; have H := H.ext hE; first | exact dbQ | fail) (fun hc => ?_) (fun hc => ?_) <;> ((try simp only [cmpP, decide_eq_true_eq, decide_eq_false_iff_not, dcd_iff, dcd_no] at hc); try exact prDQ)) | refine RGs.pq (fun _ => rfl) rfl (by intro vs w hE hP; have H := H.ext hE; first | exact dvQ | fail) ?_)
      rw [← hs1, ← hs2] at H
      exact ⟨its.length - (k + 1), by omega, k + 1, _, _, _, _, rfl, by omega, by (repeat' (first | exact Agree.refl _ _ | exact Agree.havoc | refine Agree.upd rfl ?_ | refine Agree.hav2 rfl ?_)), rfl, H.picks [3, 4, 5, 6, 7, 8, 9] rfl (by decide)⟩
    · obtain rfl : k = its.length := by omega
      have hm1 : (its.map fun i => cKey i.1) = (its.map (·.1)).map cKey := by rw [List.map_map]; rfl
      have hm2 : (its.map fun i => cKid (UInt32.ofNat i.2)) = (its.map fun x => UInt32.ofNat x.2).map cKid := by rw [List.map_map]; rfl
      rw [List.take_length, hm1, hm2] at H
      clear hKl hQl
      obtain ⟨ak2, ck2, h7, e7, hle7, hK7, H⟩ := H.freezeR (rows_len3 (its.map (·.1)))
      cases e7
      obtain ⟨aq2, cq2, h8, e8, hle8, hL8, H⟩ := H.freezeR (rows_len1 (its.map fun x => UInt32.ofNat x.2))
      cases e8
      simp only [List.length_map] at H
      have hle28 := hle7.trans hle8
      have hb2 := hle28 _ _ hb2
      have hP : PgR h8 (nodeP its) ⟨ak, ck, none, 0, aq, cq⟩ := ⟨hK7.mono hle8, Sl.nil _ _, hL8⟩
      have hlay := fun w HO => ro_lay wb a1 c1 (xs ++ BB) base (nodeP its) _ (by rw [List.length_append]; omega) hb h8 w (hT2.mono hle28) hP HO
      have hpv : pgV (nodeP its) ⟨ak, ck, none, 0, aq, cq⟩ = [Value.bool false, .slice ak its.length ck, .slice none 0 0, .slice aq its.length cq] := by simp [pgV, nodeP]
      have hoff : base + (xs ++ BB).length = base + xs.length + BB.length := by rw [List.length_append]; omega
      rw [hpv] at hlay
      rw [hoff] at hlay
      rw [← hRl] at H
      obtain ⟨y0, hy0⟩ : ∃ y0 : PlT, y0 = (key0 (nodeP its), base + xs.length + BB.length) := ⟨_, rfl⟩
      rw [← hy0] at hlay hsn
      rw [List.append_assoc, ← hsb] at hlay
      have oy := allOne_of (cPl_one y0)
      have ly := cPl_len y0
      repeat' (first | ((first | refine WL.p rfl ?_ | refine WL.u ?_); first | (refine opk 1 rfl ?_; (refine ost_appR (rows := RR.map cPl) (row := cPl y0) H rfl rfl rfl (by (exact ixQ)) (by (exact ixQ)) (by rfl) (by first | simp; done | exact Nat.succ_pos _) rfl (allOne_of rfl) rfl (by omega) ?_; clear H; intro aa ca wk H; simp only [List.set_cons_zero, List.set_cons_succ] at H)) | refine pvQ ?_ | (refine opk 3 rfl ?_; (refine ost_cmp rfl rfl rfl rfl (fun hc => ?_) (fun hc => ?_) <;> (simp only [cmpP] at hc; try exact prIQ))) | (refine opk 4 rfl ?_; (refine ost_cmp rfl rfl rfl rfl (fun hc => ?_) (fun hc => ?_) <;> (simp only [cmpP] at hc; try exact prIQ))) | (refine opk 8 rfl ?_; first | (refine ost_store1 H rfl rfl vlQ gvQ ixQ (by first | decide | (simp; omega) | (simp; done) | omega) ?_; clear H; intro wk H; simp only [List.set_cons_zero, List.set_cons_succ, Nat.reduceAdd] at H) | (refine ost_storeW H rfl rfl rfl rfl lQ ixQ lQ okQ ?_; clear H; intro wk H; simp only [List.set_cons_zero, List.set_cons_succ, Nat.reduceAdd] at H)) | (refine opk 9 rfl ?_; first | (refine ost_boxq H rfl ?_; clear H; intro bk wk H) | (refine ost_allocA H rfl ?_; clear H; intro bk wk H) | (refine ost_alloc1 H rfl rfl ?_; clear H; intro bk wk H) | (refine ost_build1 H rfl rfl rfl evQ lsQ rfl ?_; clear H; intro bk wk H))) | refine Wc.seq ?_ | refine then_n ?_ | refine WL.nil ?_ | refine Wc.region ?_ | refine Wc.block ?_ | refine then_r ?_ | refine then_e ?_ | refine inb_e rfl ?_ | refine inb_o rfl ?_ | refine inb_n ?_ | refine inb_r ?_ | refine Wc.skip ?_ | refine Wc.exit ?_ | refine Wc.ret ?_ | refine Wc.cond_true rfl ?_ | refine Wc.cond_false rfl ?_ | (refine Wc.drawM (id := 11) 5 [(3, [wrt wb a1 c1 (xs ++ BB) base], fun v L' => v = .agg (cPl y0).toArray ∧ ∃ a' c', L' = [wrt wb a' c' (xs ++ bytesP (PS ++ [nodeP its])) base]), (4, [], fun v L' => ∃ b, v = Value.slice (some ⟨b, 0, none⟩) 1 1 ∧ L' = [ownR (Value.slice (some ⟨b, 0, none⟩) 1 1) 79 4 [cPl y0]])] [.blk _ _, .blk _ _, ownR _ _ _ _, B] [3, 4] H (by kernel_rfl) rfl (by kernel_rfl) (perm_pick [0, 1, 2, 4, 3] 5 rfl (by decide) rfl) ?_) | (refine rgm_nil ?_; intro vs wk outs HM hR; obtain ⟨v3, ⟨e3, a2, c2, o3⟩, h3⟩ := hR 3 _ rfl; have hv3 : vs (0 + 1 + 1 + 1) = _ := (h3 (by kernel_rfl)).trans e3; obtain ⟨v4, ⟨b4, e4, o4⟩, h4⟩ := hR 4 _ rfl; have hv4 : vs (0 + 1 + 1 + 1 + 1) = _ := (h4 (by kernel_rfl)).trans e4; simp only [outsL, o3, o4, List.cons_append, List.nil_append, List.append_nil] at HM; (try dsimp only); rw [hv3, hv4]; replace H := HM; clear HM hR) | (refine RGm.bq (fun _ => rfl) rfl (by intro vs w TT hP H; simp only [List.cons_append, List.nil_append] at H; first | exact dbQ | fail) (fun hc => ?_) (fun hc => ?_) <;> ((try simp only [cmpP, decide_eq_true_eq, decide_eq_false_iff_not, dcd_iff, dcd_no] at hc); try exact prDQ)) | refine RGm.pq (fun _ => rfl) rfl (by intro vs w TT hP H; simp only [List.cons_append, List.nil_append] at H; first | exact dvQ | fail) ?_ | refine RGm.mq (fun _ => rfl) rfl (by intro vs w TT hP H; simp only [List.cons_append, List.nil_append] at H; first | (refine ost_H (A := wrt _ _ _ _ _) H rfl ixQ (fun HO => hlay _ HO) rfl ?_; rintro vk wk hfk2 Lk ⟨rfl, rfl, a8, c8, rfl⟩ hle2 H2; simp only [List.cons_append, List.nil_append, List.eraseIdx_cons_zero, List.eraseIdx_cons_succ] at H2; exact ⟨_, ⟨rfl, a8, c8, rfl⟩, H2⟩) | (obtain ⟨L9, ⟨e9, -⟩, -⟩ := hP 3 _ (by kernel_rfl) rfl rfl; have e8 : vs (0 + 1 + 1 + 1) = _ := e9; rw [e8]; refine ost_buildR (rows := [cPl y0]) H rfl (by decide) rfl (by rfl) (evP1 vxQ) (.cons rfl .nil) rfl (by simp [ly]) ?_; intro bk wk H2; exact ⟨[_], ⟨_, rfl, rfl⟩, H2⟩) | fail) ?_ | refine RGm.mu rfl (by intro vs w TT hP H; simp only [List.cons_append, List.nil_append] at H; first | (refine ost_H (A := wrt _ _ _ _ _) H rfl ixQ (fun HO => hlay _ HO) rfl ?_; rintro vk wk hfk2 Lk ⟨rfl, rfl, a8, c8, rfl⟩ hle2 H2; simp only [List.cons_append, List.nil_append, List.eraseIdx_cons_zero, List.eraseIdx_cons_succ] at H2; exact ⟨_, ⟨rfl, a8, c8, rfl⟩, H2⟩) | (obtain ⟨L9, ⟨e9, -⟩, -⟩ := hP 3 _ (by kernel_rfl) rfl rfl; have e8 : vs (0 + 1 + 1 + 1) = _ := e9; rw [e8]; refine ost_buildR (rows := [cPl y0]) H rfl (by decide) rfl (by rfl) (evP1 vxQ) (.cons rfl .nil) rfl (by simp [ly]) ?_; intro bk wk H2; exact ⟨[_], ⟨_, rfl, rfl⟩, H2⟩) | fail) ?_)
      have hRn : RR.map cPl ++ [cPl y0] = (placesP (base + xs.length) (PS ++ [nodeP its])).map cPl := by rw [hsn, List.map_append]; rfl
      rw [hRn] at H
      exact RndPost.nn (L' := [_, _, _]) (H.picks [1, 2, 4, 3] rfl (by decide)) ⟨a2, c2, _, _, by rw [hpg]; rfl⟩
  · rintro k L' h' W ⟨a', c', ao, co, rfl⟩ hle9 H
    refine inbD_n (thenD_n ?_)
    refine WcD.of ?_
    have e1 : nodePs l = (List.range (chN l.length)).map fun k => nodeP (partK l k) := rfl
    rw [e1]
    generalize (List.range (chN l.length)).map (fun k => nodeP (partK l k)) = PS at H ⊢
    simp only [List.cons_append, List.nil_append, List.append_nil] at H
    subst hS0
    repeat' (first | ((first | refine WL.p rfl ?_ | refine WL.u ?_); first | refine pvQ ?_ | (refine opk 3 rfl ?_; (refine ost_cmp rfl rfl rfl rfl (fun hc => ?_) (fun hc => ?_) <;> (simp only [cmpP] at hc; try exact prIQ))) | (refine opk 4 rfl ?_; (refine ost_cmp rfl rfl rfl rfl (fun hc => ?_) (fun hc => ?_) <;> (simp only [cmpP] at hc; try exact prIQ))) | (refine opk 8 rfl ?_; first | (refine ost_store1 H rfl rfl vlQ gvQ ixQ (by first | decide | (simp; omega) | (simp; done) | omega) ?_; clear H; intro wk H; simp only [List.set_cons_zero, List.set_cons_succ, Nat.reduceAdd] at H) | (refine ost_storeW H rfl rfl rfl rfl lQ ixQ lQ okQ ?_; clear H; intro wk H; simp only [List.set_cons_zero, List.set_cons_succ, Nat.reduceAdd] at H)) | (refine opk 9 rfl ?_; first | (refine ost_boxq H rfl ?_; clear H; intro bk wk H) | (refine ost_allocA H rfl ?_; clear H; intro bk wk H) | (refine ost_alloc1 H rfl rfl ?_; clear H; intro bk wk H) | (refine ost_build1 H rfl rfl rfl evQ lsQ rfl ?_; clear H; intro bk wk H))) | refine Wc.seq ?_ | refine then_n ?_ | refine WL.nil ?_ | refine Wc.region ?_ | refine Wc.block ?_ | refine then_r ?_ | refine then_e ?_ | refine inb_e rfl ?_ | refine inb_o rfl ?_ | refine inb_n ?_ | refine inb_r ?_ | refine Wc.skip ?_ | refine Wc.exit ?_ | refine Wc.ret ?_ | refine Wc.cond_true rfl ?_ | refine Wc.cond_false rfl ?_ | (refine Wc.drawn (id := 11) 5 (by kernel_rfl) ?_) | (refine rgs_nil ?_; intro vs wk hE; replace H := H.ext hE; clear hE) | (refine RGs.bq (fun _ => rfl) rfl (by intro vs w hE hP; have H := H.ext hE; first | exact dbQ | fail) (fun hc => ?_) (fun hc => ?_) <;> ((try simp only [cmpP, decide_eq_true_eq, decide_eq_false_iff_not, dcd_iff, dcd_no] at hc); try exact prDQ)) | refine RGs.pq (fun _ => rfl) rfl (by intro vs w hE hP; have H := H.ext hE; first | exact dvQ | fail) ?_)
    exact fn_retD H fun w' H' => fn_ret1 (v := .slice _ _ _) rfl rfl ⟨_, _, H'.picks (L' := [_, _]) [1, 2] rfl (by decide), hleg.trans hle9, a', c', ao, co, by rw [List.length_map], by rw [List.length_map]⟩
end Go.Tg

set_option linter.unusedVariables false
set_option linter.unusedSimpArgs false
set_option maxRecDepth 100000
set_option maxHeartbeats 4000000
namespace Go.Tg
open Go Go.Proofs
theorem nodePs_len (l : List PlT) : (nodePs l).length = chN l.length := by simp [nodePs]
theorem leafPs_len (l : List ItemT) : 1 ≤ (leafPs l).length ∧ (leafPs l).length ≤ l.length + 1 := by
  unfold leafPs
  split
  · rename_i h; subst h; simp
  · rename_i h
    have := List.length_pos_iff.2 h
    simp only [List.length_map, List.length_range]; unfold chN; omega
noncomputable def upG (base : Nat) (xs : List UInt8) (pls : List PlT) : List UInt8 × List PlT :=
  if h : 1 < pls.length then upG base (xs ++ bytesP (nodePs pls)) (placesP (base + xs.length) (nodePs pls)) else (xs, pls)
termination_by pls.length
decreasing_by rw [placesP_len, nodePs_len]; unfold chN; omega
theorem upG_step {base : Nat} {xs : List UInt8} {pls : List PlT} (h : 1 < pls.length) : upG base xs pls = upG base (xs ++ bytesP (nodePs pls)) (placesP (base + xs.length) (nodePs pls)) := by
  rw [upG, dif_pos h]
theorem upG_end {base : Nat} {xs : List UInt8} {pls : List PlT} (h : ¬ 1 < pls.length) : upG base xs pls = (xs, pls) := by
  rw [upG, dif_neg h]
structure SlotT where
  ver : UInt64
  at_ : UInt32
  end_ : UInt32
  items : UInt32
def cSlot (s : SlotT) : List Value := [.int .u64 s.ver.toNat, .int .u32 s.at_.toNat, .int .u32 s.end_.toNat, .int .u32 s.items.toNat]
def zeroS : SlotT := ⟨0, 0, 0, 0⟩
theorem cSlot_len (s : SlotT) : (cSlot s).length = 4 := rfl
theorem cSlot_inj {a b : SlotT} : cSlot a = cSlot b ↔ a = b := by
  refine ⟨fun h => ?_, fun h => by rw [h]⟩
  simp only [cSlot, List.cons.injEq, Value.int.injEq, true_and, and_true] at h
  obtain ⟨h1, h2, h3, h4⟩ := h
  have e1 : a.ver = b.ver := UInt64.toNat_inj.1 (by omega)
  have e2 : a.at_ = b.at_ := UInt32.toNat_inj.1 (by omega)
  have e3 : a.end_ = b.end_ := UInt32.toNat_inj.1 (by omega)
  have e4 : a.items = b.items := UInt32.toNat_inj.1 (by omega)
  cases a; cases b; simp_all
noncomputable def upL (l : List ItemT) (base : Nat) : List UInt8 × List PlT := upG base (bytesP (leafPs l)) (placesP base (leafPs l))
noncomputable def dumpM (l : List ItemT) (ver : UInt64) (base : Int) : List UInt8 × SlotT × Int :=
  if base < 0 ∨ 1073741824 < base ∨ riseL l = false then ([], zeroS, 2) else if 4096 < l.length then ([], zeroS, 3) else
    ((upL l base.toNat).1, ⟨ver, UInt32.ofNat ((upL l base.toNat).2.headD (zeroK, 0)).2, UInt32.ofNat (base.toNat + (upL l base.toNat).1.length), UInt32.ofNat l.length⟩, 0)
theorem ro_Dump (h0 : FH) (w : World) (hs : Sat h0 w) (hT : Half h0) (al : Option Addr) (cl : Nat) (l : List ItemT) (hN : Sl h0 5 al cl (l.map cItem)) (ver : UInt64) (base : Int) :
    Spec Tryd.prog 10 #[.slice al l.length cl, .int .u64 ver.toNat, .int .i64 base] w [] h0 (fun v h' L' => h' = h0 ∧ ∃ a' c', v = .tuple #[.slice a' (dumpM l ver base).1.length c', .agg (cSlot (dumpM l ver base).2.1).toArray, .int .i64 (dumpM l ver base).2.2] ∧ L' = [own8 (.slice a' (dumpM l ver base).1.length c') 5 (dumpM l ver base).1]) := by
  have H := St.start hs
  have q1 := hN.lenM
  have lz : cSlot zeroS = [Value.int .u64 0, .int .u32 0, .int .u32 0, .int .u32 0] := rfl
  unfold Spec
  refine calls_of Tryd.func10 rfl Tryd.ntmps10 (by simp) ?_
  by_cases hbad : base < 0 ∨ 1073741824 < base ∨ riseL l = false
  · have hD : dumpM l ver base = ([], zeroS, 2) := if_pos hbad
    rw [hD]
    have hri := fun w hs => ro_rise h0 w hs al cl l hN
    generalize riseL l = q at hri hbad
    have hq : ¬ base < 0 → ¬ 1073741824 < base → q = false := fun h1 h2 => by rcases hbad with h | h | h <;> first | exact absurd h h1 | exact absurd h h2 | exact h
    by_cases hA : base < 0 ∨ 1073741824 < base
    · repeat' (first | ((first | refine WL.p rfl ?_ | refine WL.u ?_ | refine WL.g rfl rfl ?_ | refine WL.gu rfl ?_); first | (refine opk 9 rfl ?_; (refine ost_buildS rfl evP_nil rfl (rfl : _ = [_, _, _, _]) ?_)) | refine pvQ ?_ | (refine opk 3 rfl ?_; (refine ost_cmp rfl rfl rfl rfl (fun hc => ?_) (fun hc => ?_) <;> (simp only [cmpP] at hc; try exact prIQ))) | (refine opk 4 rfl ?_; (refine ost_cmp rfl rfl rfl rfl (fun hc => ?_) (fun hc => ?_) <;> (simp only [cmpP] at hc; try exact prIQ))) | (refine opk 8 rfl ?_; (refine ost_storeW H rfl rfl rfl rfl lQ ixQ lQ okQ ?_; clear H; intro wk H; simp only [List.set_cons_zero, List.set_cons_succ, Nat.reduceAdd] at H)) | (refine opk 9 rfl ?_; first | (refine ost_boxq H rfl ?_; clear H; intro bk wk H) | (refine ost_allocA H rfl ?_; clear H; intro bk wk H))) | refine Wc.seq ?_ | refine then_n ?_ | refine WL.nil ?_ | refine Wc.region ?_ | refine Wc.block ?_ | refine then_r ?_ | refine then_e ?_ | refine inb_e rfl ?_ | refine inb_o rfl ?_ | refine inb_n ?_ | refine inb_r ?_ | refine Wc.skip ?_ | refine Wc.exit ?_ | refine Wc.ret ?_ | refine Wc.cond_true rfl ?_ | refine Wc.cond_false rfl ?_ | (refine Wc.drawn (id := 9) 23 (by kernel_rfl) ?_) | refine WL.skp rfl rfl ?_ | refine WL.sku rfl ?_ | (refine rgs_nil ?_; intro vs wk hE; replace H := H.ext hE; clear hE) | refine RGs.skp (fun _ => rfl) rfl ?_ | (refine RGs.bq (fun _ => rfl) rfl (by intro vs w hE hP; have H := H.ext hE; first | exact dbQ | fail) (fun hc => ?_) (fun hc => ?_) <;> ((try simp only [cmpP, decide_eq_true_eq, decide_eq_false_iff_not, dcd_iff, dcd_no] at hc); try exact prDQ)) | refine RGs.pq (fun _ => rfl) rfl (by intro vs w hE hP; have H := H.ext hE; first | exact dvQ | fail) ?_)
      all_goals first | (exfalso; omega) | exact fn_ret3 (v1 := .slice _ _ _) (v3 := .int _ _) rfl rfl (rv_cellA rfl rfl H.bI lQ) rfl ⟨_, _, (H.nilOwn 5 1).picks [0] rfl (by decide), rfl, none, 0, rfl, rfl⟩
    · obtain rfl := hq (fun h => hA (.inl h)) (fun h => hA (.inr h))
      repeat' (first | ((first | refine WL.p rfl ?_ | refine WL.u ?_ | refine WL.g rfl rfl ?_ | refine WL.gu rfl ?_); first | (refine opk 1 rfl ?_; (refine ost_V H rfl (hri _ H.sat) rfl ?_; clear H; intro wk H)) | (refine opk 9 rfl ?_; (refine ost_buildS rfl evP_nil rfl (rfl : _ = [_, _, _, _]) ?_)) | refine pvQ ?_ | (refine opk 3 rfl ?_; (refine ost_cmp rfl rfl rfl rfl (fun hc => ?_) (fun hc => ?_) <;> (simp only [cmpP] at hc; try exact prIQ))) | (refine opk 4 rfl ?_; (refine ost_cmp rfl rfl rfl rfl (fun hc => ?_) (fun hc => ?_) <;> (simp only [cmpP] at hc; try exact prIQ))) | (refine opk 8 rfl ?_; (refine ost_storeW H rfl rfl rfl rfl lQ ixQ lQ okQ ?_; clear H; intro wk H; simp only [List.set_cons_zero, List.set_cons_succ, Nat.reduceAdd] at H)) | (refine opk 9 rfl ?_; first | (refine ost_boxq H rfl ?_; clear H; intro bk wk H) | (refine ost_allocA H rfl ?_; clear H; intro bk wk H))) | refine Wc.seq ?_ | refine then_n ?_ | refine WL.nil ?_ | refine Wc.region ?_ | refine Wc.block ?_ | refine then_r ?_ | refine then_e ?_ | refine inb_e rfl ?_ | refine inb_o rfl ?_ | refine inb_n ?_ | refine inb_r ?_ | refine Wc.skip ?_ | refine Wc.exit ?_ | refine Wc.ret ?_ | refine Wc.cond_true rfl ?_ | refine Wc.cond_false rfl ?_ | (refine Wc.drawn (id := 9) 23 (by kernel_rfl) ?_) | refine WL.skp rfl rfl ?_ | refine WL.sku rfl ?_ | (refine rgs_nil ?_; intro vs wk hE; replace H := H.ext hE; clear hE) | refine RGs.skp (fun _ => rfl) rfl ?_ | (refine RGs.bq (fun _ => rfl) rfl (by intro vs w hE hP; have H := H.ext hE; first | exact dbQ | fail) (fun hc => ?_) (fun hc => ?_) <;> ((try simp only [cmpP, decide_eq_true_eq, decide_eq_false_iff_not, dcd_iff, dcd_no] at hc); try exact prDQ)) | refine RGs.pq (fun _ => rfl) rfl (by intro vs w hE hP; have H := H.ext hE; first | exact dvQ | fail) ?_)
      all_goals first | (exfalso; omega) | exact fn_ret3 (v1 := .slice _ _ _) (v3 := .int _ _) rfl rfl (rv_cellA rfl rfl H.bI lQ) rfl ⟨_, _, (H.nilOwn 5 1).picks [0] rfl (by decide), rfl, none, 0, rfl, rfl⟩
  · have hri : ∀ w, Sat h0 w → SpecV Tryd.prog 21 #[.slice al l.length cl] w (.bool true) := fun w hs => by
      have := ro_rise h0 w hs al cl l hN
      have e : riseL l = true := by cases h : riseL l with | true => rfl | false => exact absurd (.inr (.inr h)) hbad
      rw [e] at this; exact this
    have hb0 : 0 ≤ base := by omega
    have hb1 : base ≤ 1073741824 := by omega
    by_cases hbig : 4096 < l.length
    · have hD : dumpM l ver base = ([], zeroS, 3) := by unfold dumpM; rw [if_neg hbad, if_pos hbig]
      rw [hD]
      repeat' (first | ((first | refine WL.p rfl ?_ | refine WL.u ?_ | refine WL.g rfl rfl ?_ | refine WL.gu rfl ?_); first | (refine opk 1 rfl ?_; (refine ost_V H rfl (hri _ H.sat) rfl ?_; clear H; intro wk H)) | (refine opk 9 rfl ?_; (refine ost_buildS rfl evP_nil rfl (rfl : _ = [_, _, _, _]) ?_)) | refine pvQ ?_ | (refine opk 3 rfl ?_; (refine ost_cmp rfl rfl rfl rfl (fun hc => ?_) (fun hc => ?_) <;> (simp only [cmpP] at hc; try exact prIQ))) | (refine opk 4 rfl ?_; (refine ost_cmp rfl rfl rfl rfl (fun hc => ?_) (fun hc => ?_) <;> (simp only [cmpP] at hc; try exact prIQ))) | (refine opk 8 rfl ?_; (refine ost_storeW H rfl rfl rfl rfl lQ ixQ lQ okQ ?_; clear H; intro wk H; simp only [List.set_cons_zero, List.set_cons_succ, Nat.reduceAdd] at H)) | (refine opk 9 rfl ?_; first | (refine ost_boxq H rfl ?_; clear H; intro bk wk H) | (refine ost_allocA H rfl ?_; clear H; intro bk wk H))) | refine Wc.seq ?_ | refine then_n ?_ | refine WL.nil ?_ | refine Wc.region ?_ | refine Wc.block ?_ | refine then_r ?_ | refine then_e ?_ | refine inb_e rfl ?_ | refine inb_o rfl ?_ | refine inb_n ?_ | refine inb_r ?_ | refine Wc.skip ?_ | refine Wc.exit ?_ | refine Wc.ret ?_ | refine Wc.cond_true rfl ?_ | refine Wc.cond_false rfl ?_ | (refine Wc.drawn (id := 9) 23 (by kernel_rfl) ?_) | refine WL.skp rfl rfl ?_ | refine WL.sku rfl ?_ | (refine rgs_nil ?_; intro vs wk hE; replace H := H.ext hE; clear hE) | refine RGs.skp (fun _ => rfl) rfl ?_ | (refine RGs.bq (fun _ => rfl) rfl (by intro vs w hE hP; have H := H.ext hE; first | exact dbQ | fail) (fun hc => ?_) (fun hc => ?_) <;> ((try simp only [cmpP, decide_eq_true_eq, decide_eq_false_iff_not, dcd_iff, dcd_no] at hc); try exact prDQ)) | refine RGs.pq (fun _ => rfl) rfl (by intro vs w hE hP; have H := H.ext hE; first | exact dvQ | fail) ?_)
      all_goals first | (exfalso; omega) | exact fn_ret3 (v1 := .slice _ _ _) (v3 := .int _ _) rfl rfl (rv_cellA rfl rfl H.bI lQ) rfl ⟨_, _, (H.nilOwn 5 1).picks [0] rfl (by decide), rfl, none, 0, rfl, rfl⟩
    · have hD : dumpM l ver base = ((upL l base.toNat).1, ⟨ver, UInt32.ofNat ((upL l base.toNat).2.headD (zeroK, 0)).2, UInt32.ofNat (base.toNat + (upL l base.toNat).1.length), UInt32.ofNat l.length⟩, 0) := by unfold dumpM; rw [if_neg hbad, if_neg hbig]
      rw [hD]
      clear hD
      obtain ⟨b, rfl⟩ : ∃ b : Nat, base = b := ⟨base.toNat, by omega⟩
      rw [Int.toNat_natCast]
      have hbb : b ≤ 1073741824 := by omega
      repeat' (first | ((first | refine WL.p rfl ?_ | refine WL.u ?_ | refine WL.g rfl rfl ?_ | refine WL.gu rfl ?_); first | (refine opk 1 rfl ?_; (refine ost_V H rfl (hri _ H.sat) rfl ?_; clear H; intro wk H)) | (refine opk 9 rfl ?_; first | (refine ost_buildS rfl evP_nil rfl (rfl : _ = [_, _, _, _]) ?_) | (refine ost_buildS rfl (evP1 (rfl : _ = Value.int _ _)) rfl (rfl : _ = [_, _]) ?_)) | refine pvQ ?_ | (refine opk 3 rfl ?_; (refine ost_cmp rfl rfl rfl rfl (fun hc => ?_) (fun hc => ?_) <;> (simp only [cmpP] at hc; try exact prIQ))) | (refine opk 4 rfl ?_; (refine ost_cmp rfl rfl rfl rfl (fun hc => ?_) (fun hc => ?_) <;> (simp only [cmpP] at hc; try exact prIQ))) | (refine opk 8 rfl ?_; (refine ost_storeW H rfl rfl rfl rfl lQ ixQ lQ okQ ?_; clear H; intro wk H; simp only [List.set_cons_zero, List.set_cons_succ, Nat.reduceAdd] at H)) | (refine opk 9 rfl ?_; first | (refine ost_boxq H rfl ?_; clear H; intro bk wk H) | (refine ost_allocA H rfl ?_; clear H; intro bk wk H))) | refine Wc.seq ?_ | refine then_n ?_ | refine WL.nil ?_ | refine Wc.region ?_ | refine Wc.block ?_ | refine then_r ?_ | refine then_e ?_ | refine inb_e rfl ?_ | refine inb_o rfl ?_ | refine inb_n ?_ | refine inb_r ?_ | refine Wc.skip ?_ | refine Wc.exit ?_ | refine Wc.ret ?_ | refine Wc.cond_true rfl ?_ | refine Wc.cond_false rfl ?_ | (refine Wc.drawn (id := 9) 23 (by kernel_rfl) ?_) | refine WL.skp rfl rfl ?_ | refine WL.sku rfl ?_ | (refine rgs_nil ?_; intro vs wk hE; replace H := H.ext hE; clear hE) | refine RGs.skp (fun _ => rfl) rfl ?_ | (refine RGs.bq (fun _ => rfl) rfl (by intro vs w hE hP; have H := H.ext hE; first | exact dbQ | fail) (fun hc => ?_) (fun hc => ?_) <;> ((try simp only [cmpP, decide_eq_true_eq, decide_eq_false_iff_not, dcd_iff, dcd_no] at hc); try exact prDQ)) | refine RGs.pq (fun _ => rfl) rfl (by intro vs w hE hP; have H := H.ext hE; first | exact dvQ | fail) ?_)
      obtain ⟨wb, ewb⟩ := H.nameB idx0
      subst ewb
      obtain ⟨b7, eb7⟩ := H.nameB idx1
      subst eb7
      replace H : St w [] h0 h0 [wrt wb none 0 [] b, .blk b7 (.cells (cSlot zeroS).toArray 28 (0, 0))] _ := ((H.nilOwn 5 1).picks (L' := [.blk wb _, _, _]) [1, 0, 2] rfl (by decide)).join
      have hlv := fun w HO => ro_leaves wb none 0 [] b al cl l (by simp) hbb (by omega) h0 w hT hN HO
      rw [show b + ([] : List UInt8).length = b from rfl, List.nil_append] at hlv
      repeat' (first | ((first | refine WL.p rfl ?_ | refine WL.u ?_ | refine WL.g rfl rfl ?_ | refine WL.gu rfl ?_); first | (refine opk 1 rfl ?_; (refine ost_H (A := wrt _ _ _ _ _) H rfl (by (exact ixQ)) (fun HO => hlv _ HO) rfl ?_; clear H; rintro vk wk hfk Lk ⟨hle0, a1, c1, ao, co, rfl, rfl⟩ hle H; simp only [List.cons_append, List.nil_append, List.eraseIdx_cons_zero, List.eraseIdx_cons_succ] at H)) | refine pvQ ?_ | (refine opk 3 rfl ?_; (refine ost_cmp rfl rfl rfl rfl (fun hc => ?_) (fun hc => ?_) <;> (simp only [cmpP] at hc; try exact prIQ))) | (refine opk 4 rfl ?_; (refine ost_cmp rfl rfl rfl rfl (fun hc => ?_) (fun hc => ?_) <;> (simp only [cmpP] at hc; try exact prIQ))) | (refine opk 8 rfl ?_; (refine ost_storeW H rfl rfl rfl rfl lQ ixQ lQ okQ ?_; clear H; intro wk H; simp only [List.set_cons_zero, List.set_cons_succ, Nat.reduceAdd] at H)) | (refine opk 9 rfl ?_; first | (refine ost_boxq H rfl ?_; clear H; intro bk wk H) | (refine ost_allocA H rfl ?_; clear H; intro bk wk H))) | refine Wc.seq ?_ | refine then_n ?_ | refine WL.nil ?_ | refine Wc.region ?_ | refine Wc.block ?_ | refine then_r ?_ | refine then_e ?_ | refine inb_e rfl ?_ | refine inb_o rfl ?_ | refine inb_n ?_ | refine inb_r ?_ | refine Wc.skip ?_ | refine Wc.exit ?_ | refine Wc.ret ?_ | refine Wc.cond_true rfl ?_ | refine Wc.cond_false rfl ?_ | (refine Wc.drawn (id := 9) 23 (by kernel_rfl) ?_) | refine WL.skp rfl rfl ?_ | refine WL.sku rfl ?_ | (refine rgs_nil ?_; intro vs wk hE; replace H := H.ext hE; clear hE) | refine RGs.skp (fun _ => rfl) rfl ?_ | (refine RGs.bq (fun _ => rfl) rfl (by intro vs w hE hP; have H := H.ext hE; first | exact dbQ | fail) (fun hc => ?_) (fun hc => ?_) <;> ((try simp only [cmpP, decide_eq_true_eq, decide_eq_false_iff_not, dcd_iff, dcd_no] at hc); try exact prDQ)) | refine RGs.pq (fun _ => rfl) rfl (by intro vs w hE hP; have H := H.ext hE; first | exact dvQ | fail) ?_)
      obtain ⟨ao2, co2, h7, e7, hle7, hP7, H⟩ := H.freezeR (rows_len4 _)
      injection e7 with e71 e72 e73
      subst e71; subst e73
      have hpl := placesP_len b (leafPs l)
      have hll := leafPs_len l
      have hbl := bytesP_len (leafPs l)
      have hup : upG b (bytesP (leafPs l)) (placesP b (leafPs l)) = upL l b := rfl
      refine Wc.loopE (fun s0 m s w' => ∃ (pls : List PlT) (xs : List UInt8) (ao : Option Addr) (co : Nat) (a1 : Option Addr) (c1 : Nat) (h7 : FH), m = pls.length ∧ FLe h0 h7 ∧ Agree [10, 35, 36, 37, 38, 39, 40] s s0 ∧ s 10 = .slice ao pls.length co ∧ Sl h7 4 ao co (pls.map cPl) ∧ 1 ≤ pls.length ∧ pls.length ≤ 4097 ∧ upG b xs pls = upL l b ∧ xs.length + 1000 * pls.length ≤ 7000000 ∧
        St w [] h0 h7 [wrt wb a1 c1 xs b, .blk b7 (.cells (cSlot zeroS).toArray 28 (0, 0))] w') _ ⟨_, _, _, _, _, _, _, rfl, hle0.trans hle7, Agree.refl _ _, rfl, hP7, by omega, by omega, hup, by omega, H⟩ ?_
      clear H hP7 hup hbl hpl hlv
      rintro m s w' ⟨pls, xs, ao, co, a1, c1, h7, rfl, hle7, hA, e1, hP7, hp1, hp2, hup, hbd, H⟩
      obtain ⟨j, rfl⟩ := hA.env1 e1
      clear hA e1
      have hT7 := hT.mono hle7
      by_cases hlt : 1 < pls.length
      · rw [upG_step hlt] at hup
        have hab := fun w HO => ro_above wb a1 c1 xs b ao co pls (by omega) hbb (by omega) h7 w hT7 hP7 HO
        have hpl := placesP_len (b + xs.length) (nodePs pls)
        have hnl := nodePs_len pls
        have hbl := bytesP_len (nodePs pls)
        generalize nodePs pls = NP at *
        repeat' (first | ((first | refine WL.p rfl ?_ | refine WL.u ?_ | refine WL.g rfl rfl ?_ | refine WL.gu rfl ?_); first | (refine opk 1 rfl ?_; (refine ost_H (A := wrt _ _ _ _ _) H rfl (by (exact ixQ)) (fun HO => hab _ HO) rfl ?_; clear H; rintro vk wk hfk Lk ⟨hle8, a2, c2, ao2, co2, rfl, rfl⟩ hle H; simp only [List.cons_append, List.nil_append, List.eraseIdx_cons_zero, List.eraseIdx_cons_succ] at H)) | refine pvQ ?_ | (refine opk 3 rfl ?_; (refine ost_cmp rfl rfl rfl rfl (fun hc => ?_) (fun hc => ?_) <;> (simp only [cmpP] at hc; try exact prIQ))) | (refine opk 4 rfl ?_; (refine ost_cmp rfl rfl rfl rfl (fun hc => ?_) (fun hc => ?_) <;> (simp only [cmpP] at hc; try exact prIQ))) | (refine opk 8 rfl ?_; (refine ost_storeW H rfl rfl rfl rfl lQ ixQ lQ okQ ?_; clear H; intro wk H; simp only [List.set_cons_zero, List.set_cons_succ, Nat.reduceAdd] at H)) | (refine opk 9 rfl ?_; first | (refine ost_boxq H rfl ?_; clear H; intro bk wk H) | (refine ost_allocA H rfl ?_; clear H; intro bk wk H))) | refine Wc.seq ?_ | refine then_n ?_ | refine WL.nil ?_ | refine Wc.region ?_ | refine Wc.block ?_ | refine then_r ?_ | refine then_e ?_ | refine inb_e rfl ?_ | refine inb_o rfl ?_ | refine inb_n ?_ | refine inb_r ?_ | refine Wc.skip ?_ | refine Wc.exit ?_ | refine Wc.ret ?_ | refine Wc.cond_true rfl ?_ | refine Wc.cond_false rfl ?_ | (refine Wc.drawn (id := 9) 23 (by kernel_rfl) ?_) | refine WL.skp rfl rfl ?_ | refine WL.sku rfl ?_ | (refine rgs_nil ?_; intro vs wk hE; replace H := H.ext hE; clear hE) | refine RGs.skp (fun _ => rfl) rfl ?_ | (refine RGs.bq (fun _ => rfl) rfl (by intro vs w hE hP; have H := H.ext hE; first | exact dbQ | fail) (fun hc => ?_) (fun hc => ?_) <;> ((try simp only [cmpP, decide_eq_true_eq, decide_eq_false_iff_not, dcd_iff, dcd_no] at hc); try exact prDQ)) | refine RGs.pq (fun _ => rfl) rfl (by intro vs w hE hP; have H := H.ext hE; first | exact dvQ | fail) ?_)
        obtain ⟨ao3, co3, h8, e8, hle9, hP8, H⟩ := H.freezeR (rows_len4 _)
        injection e8 with e81 e82 e83
        subst e81; subst e83
        unfold chN at hnl
        exact ⟨_, by omega, placesP (b + xs.length) NP, xs ++ bytesP NP, _, _, _, _, h8, rfl, (hle7.trans hle8).trans hle9, by (repeat' (first | exact Agree.refl _ _ | exact Agree.havoc | refine Agree.upd rfl ?_ | refine Agree.hav2 rfl ?_)), rfl, hP8, by omega, by omega, hup, by rw [List.length_append]; omega, H⟩
      · rw [upG_end hlt] at hup
        rw [← hup]
        obtain ⟨y, rfl⟩ : ∃ y, pls = [y] := by
          match pls, hp1, hlt with
          | [y], _, _ => exact ⟨y, rfl⟩
          | y :: z :: t, _, h => exact absurd (by simp) h
        obtain ⟨bq, off, L9, T, fr, e2, eb, eg⟩ := hP7.getM (by decide) (by simp)
        subst e2
        have g1 : L9[off + (0 : Int).toNat * 4 + 3]? = some (.int .i64 (y.2 : Int)) := row_cell (eg (0 : Int).toNat 0 (by simp) rfl) (q := 3) (by simp [cPl_len])
        replace H := H.split
        have hb4 : l.length ≤ 4096 := by omega
        have hb5 : xs.length ≤ 7000000 := by omega
        have hS : [Value.int .u64 ver.toNat, .int .u32 (IntKind.u32.wrap (y.2 : Int)), .int .u32 ((b : Int) + (xs.length : Int)), .int .u32 (l.length : Int)] = cSlot ⟨ver, UInt32.ofNat y.2, UInt32.ofNat (b + xs.length), UInt32.ofNat l.length⟩ := by
          unfold cSlot
          rw [u32_1]
          congr 3
          · congr 1; simp; omega
          · congr 2; simp; omega
        have lS := cSlot_len ⟨ver, UInt32.ofNat y.2, UInt32.ofNat (b + xs.length), UInt32.ofNat l.length⟩
        repeat' (first | ((first | refine WL.p rfl ?_ | refine WL.u ?_ | refine WL.g rfl rfl ?_ | refine WL.gu rfl ?_); first | refine pvQ ?_ | (refine opk 3 rfl ?_; (refine ost_cmp rfl rfl rfl rfl (fun hc => ?_) (fun hc => ?_) <;> (simp only [cmpP] at hc; try exact prIQ))) | (refine opk 4 rfl ?_; (refine ost_cmp rfl rfl rfl rfl (fun hc => ?_) (fun hc => ?_) <;> (simp only [cmpP] at hc; try exact prIQ))) | (refine opk 8 rfl ?_; (refine ost_storeW H rfl rfl rfl rfl lQ ixQ lQ okQ ?_; clear H; intro wk H; simp only [List.set_cons_zero, List.set_cons_succ, Nat.reduceAdd] at H)) | (refine opk 9 rfl ?_; first | (refine ost_boxq H rfl ?_; clear H; intro bk wk H) | (refine ost_allocA H rfl ?_; clear H; intro bk wk H))) | refine Wc.seq ?_ | refine then_n ?_ | refine WL.nil ?_ | refine Wc.region ?_ | refine Wc.block ?_ | refine then_r ?_ | refine then_e ?_ | refine inb_e rfl ?_ | refine inb_o rfl ?_ | refine inb_n ?_ | refine inb_r ?_ | refine Wc.skip ?_ | refine Wc.exit ?_ | refine Wc.ret ?_ | refine Wc.cond_true rfl ?_ | refine Wc.cond_false rfl ?_ | (refine Wc.drawn (id := 9) 23 (by kernel_rfl) ?_) | refine WL.skp rfl rfl ?_ | refine WL.sku rfl ?_ | (refine rgs_nil ?_; intro vs wk hE; replace H := H.ext hE; clear hE) | refine RGs.skp (fun _ => rfl) rfl ?_ | (refine RGs.bq (fun _ => rfl) rfl (by intro vs w hE hP; have H := H.ext hE; first | exact dbQ | fail) (fun hc => ?_) (fun hc => ?_) <;> ((try simp only [cmpP, decide_eq_true_eq, decide_eq_false_iff_not, dcd_iff, dcd_no] at hc); try exact prDQ)) | refine RGs.pq (fun _ => rfl) rfl (by intro vs w hE hP; have H := H.ext hE; first | exact dvQ | fail) ?_)
        rw [hS] at H
        exact fn_ret3 (v1 := .slice _ _ _) (v3 := .int _ _) rfl rfl (rv_cellA rfl rfl H.bI lQ) rfl ⟨h0, _, (H.forget hle7 fun _ _ _ => rfl).picks (L' := [_]) [1] rfl (by decide), rfl, _, _, rfl, rfl⟩
end Go.Tg

set_option linter.unusedVariables false
set_option linter.unusedSimpArgs false
set_option maxRecDepth 100000
set_option maxHeartbeats 4000000
namespace Go.Tg
open Go Go.Proofs
theorem range_map_succ {α : Type} (f : Nat → α) (k : Nat) : (List.range (k + 1)).map f = (List.range k).map f ++ [f k] := by
  rw [List.range_succ, List.map_append]; rfl
end Go.Tg

