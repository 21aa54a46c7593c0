/- Contracts of Go functions that the laws reach: what each call answers and leaves in memory, for all arguments within the bounds that each theorem names. -/
import Derived.Test.YtajfhoeejeadkaaDoorInst
import Derived.Test.YtajfhoeejeadkaaDoorAuto
import Derived.Test.YtajfhoeejeadkaaDoorQB
set_option linter.unusedVariables false
set_option linter.unusedSimpArgs false
set_option maxRecDepth 100000
set_option maxHeartbeats 1000000
namespace Go.Tg
open Go Go.Proofs
def kk (n : UInt32) : KeyT := ⟨3, ⟨0, n⟩⟩
def pA : PageT := ⟨true, [kk 1, kk 4], [⟨1, 0⟩, ⟨0, 2⟩], []⟩
theorem keyN_kk (n : UInt32) : keyN (kk n) = 3298534883328 + n.toNat := by
  unfold keyN kk
  have h1 : (3 : UInt16).toNat = 3 := by decide
  have h2 : (0 : UInt8).toNat = 0 := by decide
  dsimp only
  rw [h1, h2]; (try omega)
theorem pA_right : rightP pA = true := by
  refine rightP_iff.2 ⟨fun i h => ?_, (shapeP_T _ _ _).2 ⟨by decide, rfl, rfl⟩⟩
  have h : i + 1 < 2 := h
  obtain rfl : i = 0 := by omega
  show keyN (kk 1) < keyN (kk 4)
  rw [keyN_kk, keyN_kk]; (try decide)
theorem zeroP_right : rightP zeroP = false := rightP_no.2 fun h => by
  have := ((shapeP_F _ _ _).1 h.2).1
  exact absurd this (by decide)
theorem pA_find : findP pA (kk 2) = (1, false) := by
  unfold findP
  rw [if_pos pA_right]
  have h1 : cntK pA.keys (kk 2) = 1 := cntK_eq (i := 1) (by decide) (fun t h ht => by
    obtain rfl : t = 0 := by omega
    show keyN (kk 1) < keyN (kk 2)
    rw [keyN_kk, keyN_kk]; (try decide)) (fun t h ht => by
    have h : t < 2 := h
    obtain rfl : t = 1 := by omega
    show keyN (kk 2) ≤ keyN (kk 4)
    rw [keyN_kk, keyN_kk]; (try decide))
  have h2 : hasK pA.keys (kk 2) = false := by
    unfold hasK; rw [dcd_no]
    intro h
    have h : kk 2 ∈ [kk 1, kk 4] := h
    simp only [List.mem_cons, List.not_mem_nil, or_false] at h
    rcases h with h | h
    · have := congrArg keyN h; rw [keyN_kk, keyN_kk] at this; revert this; decide
    · have := congrArg keyN h; rw [keyN_kk, keyN_kk] at this; revert this; decide
  rw [h1, h2]
theorem pA_less : lessK (kk 1) (kk 4) = true := by rw [lessK_iff, keyN_kk, keyN_kk]; decide
theorem al13_key (n : UInt32) (w : World) : SpecV Tryd.prog 61 #[.int .u32 n.toNat] w (.agg (cKey (kk n)).toArray) := by
  refine specV_of fun h0 hs H => ?_
  refine calls_of Tryd.func61 rfl Tryd.ntmps61 (by simp) ?_
  repeat' (first | ((first | refine WL.p rfl ?_ | refine WL.u ?_); first | (refine opk 9 rfl ?_; first | (refine ost_buildS rfl (evP_cons (rfl : _ = Value.int .u32 _) evP_nil) rfl (rfl : _ = [_, _]) ?_) | (refine ost_buildS rfl (evP_cons (rfl : _ = Value.int .u16 _) (evP_cons (rfl : _ = Value.agg _) evP_nil)) rfl (rfl : _ = [_, _, _]) ?_)) | refine pvQ ?_ | (refine opk 8 rfl ?_; (refine ost_storeW H rfl rfl rfl rfl lQ ixQ lQ okQ ?_; clear H; intro wk H; simp only [List.set_cons_zero, List.set_cons_succ, Nat.reduceAdd] at H)) | (refine opk 9 rfl ?_; (refine ost_allocA H rfl ?_; clear H; intro bk wk H))) | refine Wc.seq ?_ | refine then_n ?_ | refine WL.nil ?_ | refine Wc.region ?_ | refine Wc.block ?_ | refine then_r ?_ | refine then_e ?_ | refine inb_e rfl ?_ | refine inb_o rfl ?_ | refine inb_n ?_ | refine inb_r ?_ | refine Wc.skip ?_ | refine Wc.exit ?_ | refine Wc.ret ?_ | refine Wc.cond_true rfl ?_ | refine Wc.cond_false rfl ?_)
  refine fn_ret1 rfl (rv_cellA rfl rfl H.bI lQ) ⟨?_, H.fr⟩
  rfl
theorem al13_1 (w : World) : SpecV Tryd.prog 61 #[.int .u32 1] w (.agg (cKey (kk 1)).toArray) := al13_key 1 w
theorem al13_2 (w : World) : SpecV Tryd.prog 61 #[.int .u32 2] w (.agg (cKey (kk 2)).toArray) := al13_key 2 w
theorem al13_4 (w : World) : SpecV Tryd.prog 61 #[.int .u32 4] w (.agg (cKey (kk 4)).toArray) := al13_key 4 w
theorem alive13 (h0 : FH) (w : World) (hs : Sat h0 w) (hT : Half h0) : SpecV Tryd.prog 18 #[] w (.bool true) := by
  have H := St.start hs
  have l1 : (cKey (kk 1)).length = 3 := rfl
  unfold SpecV
  refine calls_of Tryd.func18 rfl Tryd.ntmps18 (by simp) ?_
  repeat' (first | ((first | refine WL.p rfl ?_ | refine WL.u ?_ | refine WL.g rfl rfl ?_ | refine WL.gu rfl ?_); first | (refine opk 1 rfl ?_; first | (refine ost_VE H (ent_v rfl rfl rfl) (al13_1 _) ?_; clear H; intro wk H) | (refine ost_VE H (ent_v rfl rfl rfl) (al13_4 _) ?_; clear H; intro wk H)) | (refine opk 9 rfl ?_; first | (refine ost_buildR (rows := [cKey (kk 1), cKey (kk 4)]) H rfl (by decide) rfl (by rfl) (evP2 vxQ vxQ) (.cons rfl (.cons rfl .nil)) rfl (rows_len3 [kk 1, kk 4]) ?_; clear H; intro bk wk H) | (refine ost_buildR (rows := [cLoc ⟨1, 0⟩, cLoc ⟨0, 2⟩]) H rfl (by decide) rfl (by rfl) (evP2 vxQ vxQ) (.cons rfl (.cons rfl .nil)) rfl (rows_len2 [⟨1, 0⟩, ⟨0, 2⟩]) ?_; clear H; intro bk wk H)) | refine pvQ ?_ | (refine opk 3 rfl ?_; (refine ost_cmp rfl rfl rfl rfl (fun hc => ?_) (fun hc => ?_) <;> (simp only [cmpP] at hc; try exact prIQ))) | (refine opk 4 rfl ?_; (refine ost_cmp rfl rfl rfl rfl (fun hc => ?_) (fun hc => ?_) <;> (simp only [cmpP] at hc; try exact prIQ))) | (refine opk 8 rfl ?_; (refine ost_storeW H rfl rfl rfl rfl lQ ixQ lQ okQ ?_; clear H; intro wk H; simp only [List.set_cons_zero, List.set_cons_succ, Nat.reduceAdd] at H)) | (refine opk 9 rfl ?_; first | (refine ost_allocA H rfl ?_; clear H; intro bk wk H) | (refine ost_build1 H rfl rfl rfl evQ lsQ rfl ?_; clear H; intro bk wk H))) | refine Wc.seq ?_ | refine then_n ?_ | refine WL.nil ?_ | refine Wc.region ?_ | refine Wc.block ?_ | refine then_r ?_ | refine then_e ?_ | refine inb_e rfl ?_ | refine inb_o rfl ?_ | refine inb_n ?_ | refine inb_r ?_ | refine Wc.skip ?_ | refine Wc.exit ?_ | refine Wc.ret ?_ | refine Wc.cond_true rfl ?_ | refine Wc.cond_false rfl ?_ | refine WL.skp rfl rfl ?_ | refine WL.sku rfl ?_)
  obtain ⟨bp, ebp⟩ := H.nameB idx0
  subst ebp
  obtain ⟨ak, ck, h7, e7, hle7, hK7, H⟩ := (H.front 2 rfl).freezeR (rows_len3 [kk 1, kk 4])
  cases e7
  obtain ⟨al, cl, h8, e8, hle8, hL8, H⟩ := (H.front 1 rfl).freezeR (rows_len2 [⟨1, 0⟩, ⟨0, 2⟩])
  cases e8
  replace hK7 := hK7.mono hle8
  generalize some (⟨_, 0, none⟩ : Addr) = ak at H hK7 ⊢
  generalize some (⟨_, 0, none⟩ : Addr) = al at H hL8 ⊢
  replace H : St w [] h0 h8 [.blk bp (.cells (pgV pA ⟨ak, 2, al, 2, none, 0⟩).toArray 40 (0, 0))] wk := H
  have hPg : PgR h8 pA ⟨ak, 2, al, 2, none, 0⟩ := ⟨hK7, hL8, Sl.nil _ _⟩
  have hT8 : Half h8 := (hT.mono hle7).mono hle8
  have lp : (pgV pA ⟨ak, 2, al, 2, none, 0⟩).length = 4 := rfl
  have cR : ∀ w, Sat h8 w → SpecV Tryd.prog 23 #[.agg (pgV pA ⟨ak, 2, al, 2, none, 0⟩).toArray] w (.bool true) := fun w hs => by
    have := page_Right _ _ h8 w hs hPg; rw [pA_right] at this; exact this
  have cF : ∀ w, Sat h8 w → SpecV Tryd.prog 20 #[.agg (pgV pA ⟨ak, 2, al, 2, none, 0⟩).toArray, .agg (cKey (kk 2)).toArray] w (.tuple #[.int .i64 1, .bool false]) := fun w hs => by
    have := page_Find _ _ (kk 2) h8 w hs hPg; rw [pA_find] at this; exact this
  have cL : ∀ w, SpecV Tryd.prog 25 #[.agg (cKey (kk 1)).toArray, .agg (cKey (kk 4)).toArray] w (.bool true) := fun w => by
    have := page_Less (kk 1) (kk 4) w; rw [pA_less] at this; exact this
  have cE : ∀ w, Sat h8 w → Spec Tryd.prog 27 #[.agg (pgV pA ⟨ak, 2, al, 2, none, 0⟩).toArray] w [] h8 (fun v h' L' => ∃ a' c', v = .tuple #[.slice a' (encP pA).length c', .int .i64 0] ∧ h' = h8 ∧ L' = [own8 (.slice a' (encP pA).length c') 5 (encP pA)]) := fun w hs => by
    have := page_Encode _ _ h8 w hs hT8 hPg
    rw [show outP pA = (encP pA, 0) by unfold outP; rw [if_pos pA_right]] at this; exact this
  repeat' (first | ((first | refine WL.p rfl ?_ | refine WL.u ?_ | refine WL.g rfl rfl ?_ | refine WL.gu rfl ?_); first | (refine opk 1 rfl ?_; first | (refine ost_VE H (ent_v rfl rfl rfl) (al13_2 _) ?_; clear H; intro wk H) | (refine ost_V H rfl (cF _ H.sat) rfl ?_; clear H; intro wk H) | (refine ost_Sk H rfl (cE _ H.sat) rfl ?_; clear H; rintro vk wk hfk Lk ⟨a1, c1, rfl, e9, rfl⟩ hle H; simp only [List.cons_append, List.nil_append] at H)) | refine pvQ ?_ | (refine opk 3 rfl ?_; (refine ost_cmp rfl rfl rfl rfl (fun hc => ?_) (fun hc => ?_) <;> (simp only [cmpP] at hc; try exact prIQ))) | (refine opk 4 rfl ?_; (refine ost_cmp rfl rfl rfl rfl (fun hc => ?_) (fun hc => ?_) <;> (simp only [cmpP] at hc; try exact prIQ))) | (refine opk 8 rfl ?_; (refine ost_storeW H rfl rfl rfl rfl lQ ixQ lQ okQ ?_; clear H; intro wk H; simp only [List.set_cons_zero, List.set_cons_succ, Nat.reduceAdd] at H)) | (refine opk 9 rfl ?_; first | (refine ost_allocA H rfl ?_; clear H; intro bk wk H) | (refine ost_build1 H rfl rfl rfl evQ lsQ rfl ?_; clear H; intro bk wk H))) | refine Wc.seq ?_ | refine then_n ?_ | refine WL.nil ?_ | refine Wc.region ?_ | refine Wc.block ?_ | refine then_r ?_ | refine then_e ?_ | refine inb_e rfl ?_ | refine inb_o rfl ?_ | refine inb_n ?_ | refine inb_r ?_ | refine Wc.skip ?_ | refine Wc.exit ?_ | refine Wc.ret ?_ | refine Wc.cond_true rfl ?_ | refine Wc.cond_false rfl ?_ | (refine Wc.drawn (id := 3) 8 (by kernel_rfl) ?_) | refine WL.skp rfl rfl ?_ | refine WL.sku rfl ?_ | (refine rgs_nil ?_; intro vs wk hE; replace H := H.ext hE; clear hE) | refine RGs.skp (fun _ => rfl) rfl ?_ | (refine RGs.bq (fun _ => rfl) rfl (by intro vs w hE hP; have H := H.ext hE; first | exact dbQ | fail) (fun hc => ?_) (fun hc => ?_) <;> ((try simp only [cmpP, decide_eq_true_eq, decide_eq_false_iff_not, dcd_iff, dcd_no] at hc); try exact prDQ)) | refine RGs.pq (fun _ => rfl) rfl (by intro vs w hE hP; have H := H.ext hE; first | (refine opk 1 rfl ?_; first | (exact ost_V0E (ent_v rfl rfl rfl) (al13_2 _)) | (exact ost_V0d rfl (cF _ H.sat) rfl)) | exact dvQ | fail) ?_)
  replace e9 := e9.symm
  subst e9
  obtain ⟨a6, c6, h9, e6, hle9, hr6, H⟩ := H.freeze8
  cases e6
  have hT9 := hT8.mono hle9
  have cD : ∀ w, Sat h9 w → Spec Tryd.prog 29 #[.slice a1 (encP pA).length c1] w [] h9 (fun v h' L' => ∃ k1 k2 k3 k4 k5 k6, v = .tuple #[.agg [Value.bool true, .slice k1 2 k2, .slice k3 2 k4, .slice k5 0 k6].toArray, .int .i64 0] ∧ L' = [] ∧ Sl h' 2 k3 k4 (pA.locs.map cLoc)) := fun w hs => by
    have := page_Decode h9 a1 c1 (encP pA) w hs hT9 hr6 (by have := encP_len pA_right; omega)
    rw [decP_enc pA_right] at this
    exact this.mono fun v h' L' ⟨A, h1, h2, h3⟩ => ⟨A.ak, A.ck, A.al, A.cl, A.ad, A.cd, h1, h2, h3.l⟩
  clear hr6 cE
  generalize encP pA = E at H cD ⊢
  repeat' (first | ((first | refine WL.p rfl ?_ | refine WL.u ?_ | refine WL.g rfl rfl ?_ | refine WL.gu rfl ?_); first | (refine opk 1 rfl ?_; (refine ost_Sk H rfl (cD _ H.sat) rfl ?_; clear H; rintro vk wk hfk Lk ⟨k1, k2, k3, k4, k5, k6, rfl, rfl, hL9⟩ hle H; simp only [List.cons_append, List.nil_append] at H)) | refine pvQ ?_ | (refine opk 3 rfl ?_; (refine ost_cmp rfl rfl rfl rfl (fun hc => ?_) (fun hc => ?_) <;> (simp only [cmpP] at hc; try exact prIQ))) | (refine opk 4 rfl ?_; (refine ost_cmp rfl rfl rfl rfl (fun hc => ?_) (fun hc => ?_) <;> (simp only [cmpP] at hc; try exact prIQ))) | (refine opk 8 rfl ?_; (refine ost_storeW H rfl rfl rfl rfl lQ ixQ lQ okQ ?_; clear H; intro wk H; simp only [List.set_cons_zero, List.set_cons_succ, Nat.reduceAdd] at H)) | (refine opk 9 rfl ?_; first | (refine ost_allocA H rfl ?_; clear H; intro bk wk H) | (refine ost_build1 H rfl rfl rfl evQ lsQ rfl ?_; clear H; intro bk wk H))) | refine Wc.seq ?_ | refine then_n ?_ | refine WL.nil ?_ | refine Wc.region ?_ | refine Wc.block ?_ | refine then_r ?_ | refine then_e ?_ | refine inb_e rfl ?_ | refine inb_o rfl ?_ | refine inb_n ?_ | refine inb_r ?_ | refine Wc.skip ?_ | refine Wc.exit ?_ | refine Wc.ret ?_ | refine Wc.cond_true rfl ?_ | refine Wc.cond_false rfl ?_ | (refine Wc.drawn (id := 3) 8 (by kernel_rfl) ?_) | refine WL.skp rfl rfl ?_ | refine WL.sku rfl ?_ | (refine rgs_nil ?_; intro vs wk hE; replace H := H.ext hE; clear hE) | refine RGs.skp (fun _ => rfl) rfl ?_ | (refine RGs.bq (fun _ => rfl) rfl (by intro vs w hE hP; have H := H.ext hE; first | exact dbQ | fail) (fun hc => ?_) (fun hc => ?_) <;> ((try simp only [cmpP, decide_eq_true_eq, decide_eq_false_iff_not, dcd_iff, dcd_no] at hc); try exact prDQ)) | refine RGs.pq (fun _ => rfl) rfl (by intro vs w hE hP; have H := H.ext hE; first | exact dvQ | fail) ?_)
  obtain ⟨b5, off5, l5, T5, fr5, e5, eb5, eg5⟩ := hL9.getM (by decide) (by decide : 0 < pA.locs.length)
  subst e5
  have g5 : l5[off5 + (1 : Int).toNat * 2 + 1]? = some (.int .u32 2) := row_cell (eg5 (1 : Int).toNat 1 (by decide) rfl) (q := 1) (by decide)
  have cZ : ∀ w, Sat hfk w → Spec Tryd.prog 27 #[.agg [Value.bool false, .slice none 0 0, .slice none 0 0, .slice none 0 0].toArray] w [] hfk (fun v h' L' => ∃ a' c', v = .tuple #[.slice a' 0 c', .int .i64 15] ∧ L' = [own8 (.slice a' 0 c') 5 []]) := fun w hs => by
    have := page_Encode zeroP zeroA hfk w hs (hT9.mono hle) (zeroP_R _)
    rw [show outP zeroP = ([], 15) by unfold outP; rw [zeroP_right]; rfl] at this
    exact this.mono fun v h' L' ⟨a', c', h1, _, h2⟩ => ⟨a', c', h1, h2⟩
  have cR9 : ∀ w, Sat hfk w → SpecV Tryd.prog 23 #[.agg (pgV pA ⟨ak, 2, al, 2, none, 0⟩).toArray] w (.bool true) := fun w hs => cR w fun k o e => hs k o (hle _ _ (hle9 _ _ e))
  have cR9 : ∀ (h : FH), FLe hfk h → ∀ w, Sat h w → SpecV Tryd.prog 23 #[.agg (pgV pA ⟨ak, 2, al, 2, none, 0⟩).toArray] w (.bool true) := fun h hl w hs => cR9 w fun k o e => hs k o (hl _ _ e)
  repeat' (first | ((first | refine WL.p rfl ?_ | refine WL.u ?_ | refine WL.g rfl rfl ?_ | refine WL.gu rfl ?_); first | (refine opk 1 rfl ?_; (refine ost_Sk H rfl (cZ _ H.sat) rfl ?_; clear H; rintro vk wk hfk Lk ⟨a7, c7, rfl, rfl⟩ hle H; simp only [List.cons_append, List.nil_append] at H)) | refine pvQ ?_ | (refine opk 3 rfl ?_; (refine ost_cmp rfl rfl rfl rfl (fun hc => ?_) (fun hc => ?_) <;> (simp only [cmpP] at hc; try exact prIQ))) | (refine opk 4 rfl ?_; (refine ost_cmp rfl rfl rfl rfl (fun hc => ?_) (fun hc => ?_) <;> (simp only [cmpP] at hc; try exact prIQ))) | (refine opk 8 rfl ?_; (refine ost_storeW H rfl rfl rfl rfl lQ ixQ lQ okQ ?_; clear H; intro wk H; simp only [List.set_cons_zero, List.set_cons_succ, Nat.reduceAdd] at H)) | (refine opk 9 rfl ?_; first | (refine ost_allocA H rfl ?_; clear H; intro bk wk H) | (refine ost_build1 H rfl rfl rfl evQ lsQ rfl ?_; clear H; intro bk wk H))) | refine Wc.seq ?_ | refine then_n ?_ | refine WL.nil ?_ | refine Wc.region ?_ | refine Wc.block ?_ | refine then_r ?_ | refine then_e ?_ | refine inb_e rfl ?_ | refine inb_o rfl ?_ | refine inb_n ?_ | refine inb_r ?_ | refine Wc.skip ?_ | refine Wc.exit ?_ | refine Wc.ret ?_ | refine Wc.cond_true rfl ?_ | refine Wc.cond_false rfl ?_ | (refine Wc.drawn (id := 3) 8 (by kernel_rfl) ?_) | refine WL.skp rfl rfl ?_ | refine WL.sku rfl ?_ | (refine rgs_nil ?_; intro vs wk hE; replace H := H.ext hE; clear hE) | refine RGs.skp (fun _ => rfl) rfl ?_ | (refine RGs.bq (fun _ => rfl) rfl (by intro vs w hE hP; have H := H.ext hE; first | exact dbQ | fail) (fun hc => ?_) (fun hc => ?_) <;> ((try simp only [cmpP, decide_eq_true_eq, decide_eq_false_iff_not, dcd_iff, dcd_no] at hc); try exact prDQ)) | refine RGs.pq (fun _ => rfl) rfl (by intro vs w hE hP; have H := H.ext hE; first | exact dvQ | fail) ?_)
  have eb6 := hle _ _ eb5
  have cR3 := fun w hs => cR9 _ hle w hs
  clear eb5 cR9 cZ cD cF cR eg5 hL9
  repeat' (first | ((first | refine WL.p rfl ?_ | refine WL.u ?_ | refine WL.g rfl rfl ?_ | refine WL.gu rfl ?_); first | (refine opk 1 rfl ?_; (refine ost_V H rfl (cR3 _ H.sat) rfl ?_; clear H; intro wk H)) | refine pvQ ?_ | (refine opk 3 rfl ?_; (refine ost_cmp rfl rfl rfl rfl (fun hc => ?_) (fun hc => ?_) <;> (simp only [cmpP] at hc; try exact prIQ))) | (refine opk 4 rfl ?_; (refine ost_cmp rfl rfl rfl rfl (fun hc => ?_) (fun hc => ?_) <;> (simp only [cmpP] at hc; try exact prIQ))) | (refine opk 8 rfl ?_; (refine ost_storeW H rfl rfl rfl rfl lQ ixQ lQ okQ ?_; clear H; intro wk H; simp only [List.set_cons_zero, List.set_cons_succ, Nat.reduceAdd] at H)) | (refine opk 9 rfl ?_; first | (refine ost_allocA H rfl ?_; clear H; intro bk wk H) | (refine ost_build1 H rfl rfl rfl evQ lsQ rfl ?_; clear H; intro bk wk H))) | refine Wc.seq ?_ | refine then_n ?_ | refine WL.nil ?_ | refine Wc.region ?_ | refine Wc.block ?_ | refine then_r ?_ | refine then_e ?_ | refine inb_e rfl ?_ | refine inb_o rfl ?_ | refine inb_n ?_ | refine inb_r ?_ | refine Wc.skip ?_ | refine Wc.exit ?_ | refine Wc.ret ?_ | refine Wc.cond_true rfl ?_ | refine Wc.cond_false rfl ?_ | (refine Wc.drawn (id := 3) 8 (by kernel_rfl) ?_) | refine WL.skp rfl rfl ?_ | refine WL.sku rfl ?_ | (refine rgs_nil ?_; intro vs wk hE; replace H := H.ext hE; clear hE) | refine RGs.skp (fun _ => rfl) rfl ?_ | (refine RGs.bq (fun _ => rfl) rfl (by intro vs w hE hP; have H := H.ext hE; first | exact dbQ | fail) (fun hc => ?_) (fun hc => ?_) <;> ((try simp only [cmpP, decide_eq_true_eq, decide_eq_false_iff_not, dcd_iff, dcd_no] at hc); try exact prDQ)) | refine RGs.pq (fun _ => rfl) rfl (by intro vs w hE hP; have H := H.ext hE; first | exact dvQ | fail) ?_)
  repeat' (first | ((first | refine WL.p rfl ?_ | refine WL.u ?_ | refine WL.g rfl rfl ?_ | refine WL.gu rfl ?_); first | (refine opk 1 rfl ?_; first | (refine ost_VE H (ent_v rfl rfl rfl) (al13_1 _) ?_; clear H; intro wk H) | (refine ost_VE H (ent_v rfl rfl rfl) (al13_4 _) ?_; clear H; intro wk H)) | refine pvQ ?_ | (refine opk 3 rfl ?_; (refine ost_cmp rfl rfl rfl rfl (fun hc => ?_) (fun hc => ?_) <;> (simp only [cmpP] at hc; try exact prIQ))) | (refine opk 4 rfl ?_; (refine ost_cmp rfl rfl rfl rfl (fun hc => ?_) (fun hc => ?_) <;> (simp only [cmpP] at hc; try exact prIQ))) | (refine opk 8 rfl ?_; (refine ost_storeW H rfl rfl rfl rfl lQ ixQ lQ okQ ?_; clear H; intro wk H; simp only [List.set_cons_zero, List.set_cons_succ, Nat.reduceAdd] at H)) | (refine opk 9 rfl ?_; first | (refine ost_allocA H rfl ?_; clear H; intro bk wk H) | (refine ost_build1 H rfl rfl rfl evQ lsQ rfl ?_; clear H; intro bk wk H))) | refine Wc.seq ?_ | refine then_n ?_ | refine WL.nil ?_ | refine Wc.region ?_ | refine Wc.block ?_ | refine then_r ?_ | refine then_e ?_ | refine inb_e rfl ?_ | refine inb_o rfl ?_ | refine inb_n ?_ | refine inb_r ?_ | refine Wc.skip ?_ | refine Wc.exit ?_ | refine Wc.ret ?_ | refine Wc.cond_true rfl ?_ | refine Wc.cond_false rfl ?_ | (refine Wc.drawn (id := 3) 8 (by kernel_rfl) ?_) | refine WL.skp rfl rfl ?_ | refine WL.sku rfl ?_ | (refine rgs_nil ?_; intro vs wk hE; replace H := H.ext hE; clear hE) | refine RGs.skp (fun _ => rfl) rfl ?_ | (refine RGs.bq (fun _ => rfl) rfl (by intro vs w hE hP; have H := H.ext hE; first | exact dbQ | fail) (fun hc => ?_) (fun hc => ?_) <;> ((try simp only [cmpP, decide_eq_true_eq, decide_eq_false_iff_not, dcd_iff, dcd_no] at hc); try exact prDQ)) | refine RGs.pq (fun _ => rfl) rfl (by intro vs w hE hP; have H := H.ext hE; first | exact dvQ | fail) ?_)
  refine WL.g rfl rfl ?_
  refine ost_V H rfl (cL _) rfl ?_
  clear H; intro wk H
  clear cL cR3 g5 lp l1 hPg hT8 hT9
  repeat' (first | ((first | refine WL.p rfl ?_ | refine WL.u ?_ | refine WL.g rfl rfl ?_ | refine WL.gu rfl ?_); first | refine pvQ ?_ | (refine opk 3 rfl ?_; (refine ost_cmp rfl rfl rfl rfl (fun hc => ?_) (fun hc => ?_) <;> (simp only [cmpP] at hc; try exact prIQ))) | (refine opk 4 rfl ?_; (refine ost_cmp rfl rfl rfl rfl (fun hc => ?_) (fun hc => ?_) <;> (simp only [cmpP] at hc; try exact prIQ))) | (refine opk 8 rfl ?_; (refine ost_storeW H rfl rfl rfl rfl lQ ixQ lQ okQ ?_; clear H; intro wk H; simp only [List.set_cons_zero, List.set_cons_succ, Nat.reduceAdd] at H)) | (refine opk 9 rfl ?_; first | (refine ost_allocA H rfl ?_; clear H; intro bk wk H) | (refine ost_build1 H rfl rfl rfl evQ lsQ rfl ?_; clear H; intro bk wk H))) | refine Wc.seq ?_ | refine then_n ?_ | refine WL.nil ?_ | refine Wc.region ?_ | refine Wc.block ?_ | refine then_r ?_ | refine then_e ?_ | refine inb_e rfl ?_ | refine inb_o rfl ?_ | refine inb_n ?_ | refine inb_r ?_ | refine Wc.skip ?_ | refine Wc.exit ?_ | refine Wc.ret ?_ | refine Wc.cond_true rfl ?_ | refine Wc.cond_false rfl ?_ | (refine Wc.drawn (id := 3) 8 (by kernel_rfl) ?_) | refine WL.skp rfl rfl ?_ | refine WL.sku rfl ?_ | (refine rgs_nil ?_; intro vs wk hE; replace H := H.ext hE; clear hE) | refine RGs.skp (fun _ => rfl) rfl ?_ | (refine RGs.bq (fun _ => rfl) rfl (by intro vs w hE hP; have H := H.ext hE; first | exact dbQ | fail) (fun hc => ?_) (fun hc => ?_) <;> ((try simp only [cmpP, decide_eq_true_eq, decide_eq_false_iff_not, dcd_iff, dcd_no] at hc); try exact prDQ)) | refine RGs.pq (fun _ => rfl) rfl (by intro vs w hE hP; have H := H.ext hE; first | exact dvQ | fail) ?_)
  exact fn_ret1 (v := .bool true) rfl rfl ⟨rfl, H.fr⟩
end Go.Tg

