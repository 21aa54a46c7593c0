/- Contracts of Go functions that the laws reach: what each call answers and leaves in memory, for all arguments within the bounds that each theorem names. -/
import Derived.Test.YtajfhoeejeadkaaDoorInst
import Derived.Test.YtajfhoeejeadkaaDoorAuto
import Derived.Test.YtajfhoeejeadkaaDoorG6
import Derived.Test.YtajfhoeejeadkaaDoorF3
import Derived.Test.YtajfhoeejeadkaaDoorPick
import Derived.Test.YtajfhoeejeadkaaDoorG2
set_option linter.unusedVariables false
set_option linter.unusedSimpArgs false
set_option maxRecDepth 100000
set_option maxHeartbeats 4000000
namespace Go.Tg
open Go Go.Proofs
def m1M : ManT := ⟨1, fun _ => 0, 0, [1], 2⟩
theorem m1_right : rightM m1M = true := rightM_iff.2 ⟨⟨by decide, by decide, by decide, by decide, by decide +kernel, fun _ => rfl, fun _ => rfl⟩, ⟨by decide, by decide, by decide⟩, trivial⟩
theorem zero_wrong : rightM zeroM = false := rightM_no fun h => by
  have := h.1.1
  exact absurd this (by decide)
theorem out_m1 : outM m1M = (encM m1M, 0) := by unfold outM; rw [if_pos m1_right]
theorem out_zero : outM zeroM = ([], 2) := by unfold outM; rw [zero_wrong]; rfl
theorem dec_small {n : Nat} (h : n < 10) : Lib.decDigits n = [UInt8.ofNat (48 + n)] := by rw [Lib.decDigits, dif_pos h]
def fourW : List (List UInt8) := [manW, [115, 101, 103, 45, 49], [115, 101, 103, 45, 50], [109, 97, 110, 105, 102, 101, 115, 116, 46, 110, 101, 119]]
theorem orph_m1 : orphM m1M fourW = [[115, 101, 103, 45, 50], [109, 97, 110, 105, 102, 101, 115, 116, 46, 110, 101, 119]] := by
  have hn : needM m1M = [manW, [115, 101, 103, 45, 49]] := by
    unfold needM m1M segW
    simp [dec_small]
  unfold orphM
  rw [hn]; decide +kernel
theorem base7 : baseW 7 = [98, 97, 115, 101, 45, 55] := by unfold baseW; rw [dec_small (by decide)]; decide
theorem mnV_len (m : ManT) (A : MAd) : (mnV m A).length = 20 := mnL_len _ _ _ _ _ _ _
theorem mnV_one (m : ManT) (A : MAd) : ∀ v ∈ mnV m A, v.oneCell' = true := by
  intro v hv
  unfold mnV mnL at hv
  rw [List.mem_cons, List.mem_append] at hv
  rcases hv with rfl | hv | hv
  · rfl
  · exact cV_one _ v hv
  · simp only [List.mem_cons, List.not_mem_nil, or_false] at hv
    rcases hv with rfl | rfl | rfl <;> rfl
theorem encM_len {m : ManT} (h : rightM m = true) : (encM m).length ≤ 1015 := by
  have h1 := fldM_len h
  have h2 := wrapB_len (fldM m)
  unfold encM; omega
theorem alive16 (h0 : FH) (w : World) (hs : Sat h0 w) (hT : Half h0) (hW : Pow h0) : SpecV Tryd.prog 45 #[] w (.bool true) := by
  have H := St.start hs
  unfold SpecV
  refine calls_of Tryd.func45 rfl Tryd.ntmps45 (by simp) ?_
  repeat' (first | ((first | refine WL.p rfl ?_ | refine WL.u ?_ | refine WL.g rfl rfl ?_ | refine WL.gu rfl ?_); first | (refine opk 9 rfl ?_; (refine ost_buildR (rows := [[Value.int .u32 1]]) H rfl (by decide) rfl (by rfl) (evP1 vxQ) (.cons rfl .nil) rfl (fun r hr => by rw [List.mem_singleton.1 hr]; rfl) ?_; clear H; intro bk wk H)) | refine pvQ ?_ | (refine opk 3 rfl ?_; first | (refine ost_cmp rfl rfl rfl rfl (fun hc => ?_) (fun hc => ?_) <;> (simp only [cmpP] at hc; try exact prIQ)) | (refine ost_streqB rfl rfl rfl (fun hc => ?_) (fun hc => ?_) <;> try exact prEQ) | (refine ost_strneB rfl rfl rfl (fun hc => ?_) (fun hc => ?_) <;> try exact prEQ) | (refine ost_streq rfl rfl rfl (fun hc => ?_) (fun hc => ?_) <;> try exact absurd rfl hc) | (refine ost_strne rfl rfl rfl (fun hc => ?_) (fun hc => ?_))) | (refine opk 4 rfl ?_; (refine ost_cmp rfl rfl rfl rfl (fun hc => ?_) (fun hc => ?_) <;> (simp only [cmpP] at hc; try exact prIQ))) | (refine opk 8 rfl ?_; (refine ost_storeW H rfl rfl rfl rfl lQ ixQ lQ okQ ?_; clear H; intro wk H; simp only [List.set_cons_zero, List.set_cons_succ, Nat.reduceAdd] at H)) | (refine opk 9 rfl ?_; first | (refine ost_allocA H rfl ?_; clear H; intro bk wk H) | (refine ost_build1 H rfl rfl rfl evQ lsQ rfl ?_; clear H; intro bk wk H))) | refine Wc.seq ?_ | refine then_n ?_ | refine WL.nil ?_ | refine Wc.region ?_ | refine Wc.block ?_ | refine then_r ?_ | refine then_e ?_ | refine inb_e rfl ?_ | refine inb_o rfl ?_ | refine inb_n ?_ | refine inb_r ?_ | refine Wc.skip ?_ | refine Wc.exit ?_ | refine Wc.ret ?_ | refine Wc.cond_true rfl ?_ | refine Wc.cond_false rfl ?_ | refine WL.skp rfl rfl ?_ | refine WL.sku rfl ?_)
  obtain ⟨bm, ebm⟩ := H.nameB idx0
  subst ebm
  obtain ⟨ak, ck, h7, e7, hle7, hK7, H⟩ := (H.front 1 rfl).freezeR (rows_len1 [1])
  cases e7
  generalize (some (⟨_, 0, none⟩ : Addr)) = ak at H hK7 ⊢
  replace H : St w [] h0 h7 [.blk bm (.cells (mnV m1M ⟨ak, 1⟩).toArray 95 (0, 0))] wk := H
  have hMn : MnR h7 m1M ⟨ak, 1⟩ := hK7
  have hT7 := hT.mono hle7
  have hW7 := hW.mono hle7
  have cE : ∀ w, Sat h7 w → Spec Tryd.prog 46 #[.agg (mnV m1M ⟨ak, 1⟩).toArray] w [] h7 (fun v h' L' => ∃ a' c', v = .tuple #[.slice a' (encM m1M).length c', .int .i64 0] ∧ L' = [own8 (.slice a' (encM m1M).length c') 5 (encM m1M)]) := fun w hs => by
    have := man_Encode _ _ h7 w hs hT7 hMn
    rw [out_m1] at this; exact this
  repeat' (first | ((first | refine WL.p rfl ?_ | refine WL.u ?_ | refine WL.g rfl rfl ?_ | refine WL.gu rfl ?_); first | (refine opk 1 rfl ?_; (refine ost_Sk H rfl (cE _ H.sat) rfl ?_; clear H; rintro vk wk hfk Lk ⟨a1, c1, rfl, rfl⟩ hle H; simp only [List.cons_append, List.nil_append] at H)) | refine pvQ ?_ | (refine opk 3 rfl ?_; first | (refine ost_cmp rfl rfl rfl rfl (fun hc => ?_) (fun hc => ?_) <;> (simp only [cmpP] at hc; try exact prIQ)) | (refine ost_streqB rfl rfl rfl (fun hc => ?_) (fun hc => ?_) <;> try exact prEQ) | (refine ost_strneB rfl rfl rfl (fun hc => ?_) (fun hc => ?_) <;> try exact prEQ) | (refine ost_streq rfl rfl rfl (fun hc => ?_) (fun hc => ?_) <;> try exact absurd rfl hc) | (refine ost_strne rfl rfl rfl (fun hc => ?_) (fun hc => ?_))) | (refine opk 4 rfl ?_; (refine ost_cmp rfl rfl rfl rfl (fun hc => ?_) (fun hc => ?_) <;> (simp only [cmpP] at hc; try exact prIQ))) | (refine opk 8 rfl ?_; (refine ost_storeW H rfl rfl rfl rfl lQ ixQ lQ okQ ?_; clear H; intro wk H; simp only [List.set_cons_zero, List.set_cons_succ, Nat.reduceAdd] at H)) | (refine opk 9 rfl ?_; first | (refine ost_allocA H rfl ?_; clear H; intro bk wk H) | (refine ost_build1 H rfl rfl rfl evQ lsQ rfl ?_; clear H; intro bk wk H))) | refine Wc.seq ?_ | refine then_n ?_ | refine WL.nil ?_ | refine Wc.region ?_ | refine Wc.block ?_ | refine then_r ?_ | refine then_e ?_ | refine inb_e rfl ?_ | refine inb_o rfl ?_ | refine inb_n ?_ | refine inb_r ?_ | refine Wc.skip ?_ | refine Wc.exit ?_ | refine Wc.ret ?_ | refine Wc.cond_true rfl ?_ | refine Wc.cond_false rfl ?_ | refine WL.skp rfl rfl ?_ | refine WL.sku rfl ?_)
  obtain ⟨a6, c6, h9, e6, hle9, hr6, H⟩ := H.freeze8
  cases e6
  have hMn9 := (hMn.mono (by assumption)).mono hle9
  have hT9 := (hT7.mono (by assumption)).mono hle9
  have hW9 := (hW7.mono (by assumption)).mono hle9
  have cD : ∀ w, Sat h9 w → Spec Tryd.prog 49 #[.slice a1 (encM m1M).length c1] w [] h9 (fun v h' L' => ∃ A, v = .tuple #[.agg (mnV m1M A).toArray, .int .i64 0] ∧ L' = []) := fun w hs => by
    have := man_Decode h9 a1 c1 (encM m1M) w hs hT9 hr6 (by have := encM_len m1_right; omega)
    rw [decM_enc m1_right] at this
    exact this.mono fun v h' L' ⟨A, h1, h2, h3⟩ => ⟨A, h1, h2⟩
  have lz := mnV_len m1M ⟨ak, 1⟩
  clear hr6 cE
  generalize encM m1M = E at H cD ⊢
  repeat' (first | ((first | refine WL.p rfl ?_ | refine WL.u ?_ | refine WL.g rfl rfl ?_ | refine WL.gu rfl ?_); first | (refine opk 1 rfl ?_; (refine ost_Sk H rfl (cD _ H.sat) rfl ?_; clear H; rintro vk wk hfk Lk ⟨A2, rfl, rfl⟩ hle H; simp only [List.cons_append, List.nil_append] at H)) | (refine opk 8 rfl ?_; (refine ost_storeW (vs := mnV m1M A2) H rfl rfl rfl rfl (mnV_len _ _) (by (exact ixQ)) rfl (mnV_one _ _) ?_; clear H; intro wk H; simp only [List.set_cons_zero, List.set_cons_succ] at H)) | (refine opk 9 rfl ?_; (refine ost_buildR (rows := fourW.map cStr) H rfl (by decide) rfl (by rfl) (evP_cons (rfl : _ = Value.string _) (evP_cons (rfl : _ = Value.string _) (evP_cons (rfl : _ = Value.string _) (evP_cons (rfl : _ = Value.string _) evP_nil)))) (.cons rfl (.cons rfl (.cons rfl (.cons rfl .nil)))) rfl (rows_cStr fourW) ?_; clear H; intro bk wk H)) | refine pvQ ?_ | (refine opk 3 rfl ?_; first | (refine ost_cmp rfl rfl rfl rfl (fun hc => ?_) (fun hc => ?_) <;> (simp only [cmpP] at hc; try exact prIQ)) | (refine ost_streqB rfl rfl rfl (fun hc => ?_) (fun hc => ?_) <;> try exact prEQ) | (refine ost_strneB rfl rfl rfl (fun hc => ?_) (fun hc => ?_) <;> try exact prEQ) | (refine ost_streq rfl rfl rfl (fun hc => ?_) (fun hc => ?_) <;> try exact absurd rfl hc) | (refine ost_strne rfl rfl rfl (fun hc => ?_) (fun hc => ?_))) | (refine opk 4 rfl ?_; (refine ost_cmp rfl rfl rfl rfl (fun hc => ?_) (fun hc => ?_) <;> (simp only [cmpP] at hc; try exact prIQ))) | (refine opk 8 rfl ?_; (refine ost_storeW H rfl rfl rfl rfl lQ ixQ lQ okQ ?_; clear H; intro wk H; simp only [List.set_cons_zero, List.set_cons_succ, Nat.reduceAdd] at H)) | (refine opk 9 rfl ?_; first | (refine ost_allocA H rfl ?_; clear H; intro bk wk H) | (refine ost_build1 H rfl rfl rfl evQ lsQ rfl ?_; clear H; intro bk wk H))) | refine Wc.seq ?_ | refine then_n ?_ | refine WL.nil ?_ | refine Wc.region ?_ | refine Wc.block ?_ | refine then_r ?_ | refine then_e ?_ | refine inb_e rfl ?_ | refine inb_o rfl ?_ | refine inb_n ?_ | refine inb_r ?_ | refine Wc.skip ?_ | refine Wc.exit ?_ | refine Wc.ret ?_ | refine Wc.cond_true rfl ?_ | refine Wc.cond_false rfl ?_ | refine WL.skp rfl rfl ?_ | refine WL.sku rfl ?_)
  obtain ⟨b4, eb4⟩ := H.nameB idx1
  subst eb4
  have hMnk := hMn9.mono hle
  have hTk := hT9.mono hle
  have hWk := hW9.mono hle
  obtain ⟨an, cn, h10, e10, hle10, hN10, H⟩ := H.freezeR (rows_cStr fourW)
  cases e10
  have hM10 := hMnk.mono hle10
  have hT10 := hTk.mono hle10
  have hW10 := hWk.mono hle10
  generalize (some (⟨_, 0, none⟩ : Addr)) = an at H hN10 ⊢
  clear cD hMnk hTk hWk hMn9 hT9 hW9 hMn hT7 hW7 hK7
  have cO : ∀ w, Sat h10 w → Spec Tryd.prog 55 #[.agg (mnV m1M ⟨ak, 1⟩).toArray, .slice an 4 4] w [] h10 (fun v h' L' => ∃ a' c', v = .slice a' 2 c' ∧ L' = [ownR (.slice a' 2 c') 9 1 (([[115, 101, 103, 45, 50], [109, 97, 110, 105, 102, 101, 115, 116, 46, 110, 101, 119]] : List (List UInt8)).map cStr)]) := fun w hs => by
    have := man_Orphans m1M ⟨ak, 1⟩ h10 w hs hW10 hM10 (by decide) an 4 fourW hN10 (by decide)
    rw [orph_m1] at this
    exact this.mono fun v h' L' ⟨a', c', h1, h2⟩ => ⟨a', c', h1, by rw [h2, h1]; rfl⟩
  repeat' (first | ((first | refine WL.p rfl ?_ | refine WL.u ?_ | refine WL.g rfl rfl ?_ | refine WL.gu rfl ?_); first | (refine opk 1 rfl ?_; (refine ost_Sk H rfl (cO _ H.sat) rfl ?_; clear H; rintro vk wk hfk Lk ⟨ax, cx, rfl, rfl⟩ hle H; simp only [List.cons_append, List.nil_append] at H)) | (refine opk 9 rfl ?_; (refine ost_buildS rfl evP_nil rfl (rfl : _ = mnV zeroM zeroMA) ?_)) | refine pvQ ?_ | (refine opk 3 rfl ?_; first | (refine ost_cmp rfl rfl rfl rfl (fun hc => ?_) (fun hc => ?_) <;> (simp only [cmpP] at hc; try exact prIQ)) | (refine ost_streqB rfl rfl rfl (fun hc => ?_) (fun hc => ?_) <;> try exact prEQ) | (refine ost_strneB rfl rfl rfl (fun hc => ?_) (fun hc => ?_) <;> try exact prEQ) | (refine ost_streq rfl rfl rfl (fun hc => ?_) (fun hc => ?_) <;> try exact absurd rfl hc) | (refine ost_strne rfl rfl rfl (fun hc => ?_) (fun hc => ?_))) | (refine opk 4 rfl ?_; (refine ost_cmp rfl rfl rfl rfl (fun hc => ?_) (fun hc => ?_) <;> (simp only [cmpP] at hc; try exact prIQ))) | (refine opk 8 rfl ?_; (refine ost_storeW H rfl rfl rfl rfl lQ ixQ lQ okQ ?_; clear H; intro wk H; simp only [List.set_cons_zero, List.set_cons_succ, Nat.reduceAdd] at H)) | (refine opk 9 rfl ?_; first | (refine ost_allocA H rfl ?_; clear H; intro bk wk H) | (refine ost_build1 H rfl rfl rfl evQ lsQ rfl ?_; clear H; intro bk wk H))) | refine Wc.seq ?_ | refine then_n ?_ | refine WL.nil ?_ | refine Wc.region ?_ | refine Wc.block ?_ | refine then_r ?_ | refine then_e ?_ | refine inb_e rfl ?_ | refine inb_o rfl ?_ | refine inb_n ?_ | refine inb_r ?_ | refine Wc.skip ?_ | refine Wc.exit ?_ | refine Wc.ret ?_ | refine Wc.cond_true rfl ?_ | refine Wc.cond_false rfl ?_ | refine WL.skp rfl rfl ?_ | refine WL.sku rfl ?_)
  have hM11 := hM10.mono hle
  have hT11 := hT10.mono hle
  have hW11 := hW10.mono hle
  obtain ⟨ay, cy, h12, e12, hle12, hN12, H9⟩ := H.freezeR (rows_cStr [[115, 101, 103, 45, 50], [109, 97, 110, 105, 102, 101, 115, 116, 46, 110, 101, 119]])
  clear H
  have H := H9
  clear H9
  injection e12 with e1 e2 e3
  subst e1; subst e3
  have hM12 := hM11.mono hle12
  have hT12 := hT11.mono hle12
  have hW12 := hW11.mono hle12
  obtain ⟨b5, off5, l5, T5, fr5, e5, eb5, eg5⟩ := hN12.getM (by decide) (by decide)
  subst e5
  have g5 : l5[off5 + (0 : Int).toNat * 1]? = some (.string (bstr [115, 101, 103, 45, 50])) := row_cell (eg5 (0 : Int).toNat 0 (by decide) rfl) (q := 0) (by decide)
  have q19 := mnL_19 m1M.ver m1M.flr m1M.base m1M.segs.length m1M.next A2.a A2.c
  clear cO hM10 hT10 hW10 hM11 hT11 hW11 hN10 eg5 hN12
  have cZ : ∀ w, Sat h12 w → Spec Tryd.prog 46 #[.agg (mnV zeroM zeroMA).toArray] w [] h12 (fun v h' L' => ∃ a' c', v = .tuple #[.slice a' 0 c', .int .i64 2] ∧ L' = [own8 (.slice a' 0 c') 5 []]) := fun w hs => by
    have := man_Encode zeroM zeroMA h12 w hs hT12 (zeroM_R _)
    rw [out_zero] at this; exact this
  repeat' (first | ((first | refine WL.p rfl ?_ | refine WL.u ?_ | refine WL.g rfl rfl ?_ | refine WL.gu rfl ?_); first | (refine opk 1 rfl ?_; (refine ost_Sk H rfl (cZ _ H.sat) rfl ?_; clear H; rintro vk wk hfk Lk ⟨a7, c7, rfl, rfl⟩ hle H; simp only [List.cons_append, List.nil_append] at H)) | refine pvQ ?_ | (refine opk 3 rfl ?_; first | (refine ost_cmp rfl rfl rfl rfl (fun hc => ?_) (fun hc => ?_) <;> (simp only [cmpP] at hc; try exact prIQ)) | (refine ost_streqB rfl rfl rfl (fun hc => ?_) (fun hc => ?_) <;> try exact prEQ) | (refine ost_strneB rfl rfl rfl (fun hc => ?_) (fun hc => ?_) <;> try exact prEQ) | (refine ost_streq rfl rfl rfl (fun hc => ?_) (fun hc => ?_) <;> try exact absurd rfl hc) | (refine ost_strne rfl rfl rfl (fun hc => ?_) (fun hc => ?_))) | (refine opk 4 rfl ?_; (refine ost_cmp rfl rfl rfl rfl (fun hc => ?_) (fun hc => ?_) <;> (simp only [cmpP] at hc; try exact prIQ))) | (refine opk 8 rfl ?_; (refine ost_storeW H rfl rfl rfl rfl lQ ixQ lQ okQ ?_; clear H; intro wk H; simp only [List.set_cons_zero, List.set_cons_succ, Nat.reduceAdd] at H)) | (refine opk 9 rfl ?_; first | (refine ost_allocA H rfl ?_; clear H; intro bk wk H) | (refine ost_build1 H rfl rfl rfl evQ lsQ rfl ?_; clear H; intro bk wk H))) | refine Wc.seq ?_ | refine then_n ?_ | refine WL.nil ?_ | refine Wc.region ?_ | refine Wc.block ?_ | refine then_r ?_ | refine then_e ?_ | refine inb_e rfl ?_ | refine inb_o rfl ?_ | refine inb_n ?_ | refine inb_r ?_ | refine Wc.skip ?_ | refine Wc.exit ?_ | refine Wc.ret ?_ | refine Wc.cond_true rfl ?_ | refine Wc.cond_false rfl ?_ | refine WL.skp rfl rfl ?_ | refine WL.sku rfl ?_)
  have hM13 := hM12.mono hle
  have hW13 := hW12.mono hle
  have eb6 := hle _ _ eb5
  clear cZ hM12 hT12 hW12 eb5
  have cR : ∀ w, Sat hfk w → SpecV Tryd.prog 51 #[.agg (mnV m1M ⟨ak, 1⟩).toArray] w (.bool true) := fun w hs => by
    have := man_Right _ _ hfk w hs hM13; rw [m1_right] at this; exact this
  have cB : ∀ w, Sat hfk w → SpecV Tryd.prog 59 #[.int .u32 7] w (.string (bstr [98, 97, 115, 101, 45, 55])) := fun w hs => by
    have := man_BaseName 7 hfk w hs hW13
    rw [show (7 : UInt32).toNat = 7 by decide, base7] at this; exact this
  replace q19 : (mnV m1M A2)[0 + 19]? = some (.int .u32 2) := q19
  have lz2 := mnV_len m1M A2
  repeat' (first | ((first | refine WL.p rfl ?_ | refine WL.u ?_ | refine WL.g rfl rfl ?_ | refine WL.gu rfl ?_); first | (refine opk 1 rfl ?_; first | (refine ost_V H rfl (cR _ H.sat) rfl ?_; clear H; intro wk H) | (refine ost_V H rfl (cB _ H.sat) rfl ?_; clear H; intro wk H)) | (refine opk 3 rfl ?_; first | (refine ost_streqD (q := true) (a := [115, 101, 103, 45, 50]) (b := [115, 101, 103, 45, 50]) rfl rfl rfl (by simp) ?_) | (refine ost_streqD (q := true) (a := [98, 97, 115, 101, 45, 55]) (b := [98, 97, 115, 101, 45, 55]) rfl rfl rfl (by simp) ?_)) | refine pvQ ?_ | (refine opk 3 rfl ?_; first | (refine ost_cmp rfl rfl rfl rfl (fun hc => ?_) (fun hc => ?_) <;> (simp only [cmpP] at hc; try exact prIQ)) | (refine ost_streqB rfl rfl rfl (fun hc => ?_) (fun hc => ?_) <;> try exact prEQ) | (refine ost_strneB rfl rfl rfl (fun hc => ?_) (fun hc => ?_) <;> try exact prEQ) | (refine ost_streq rfl rfl rfl (fun hc => ?_) (fun hc => ?_) <;> try exact absurd rfl hc) | (refine ost_strne rfl rfl rfl (fun hc => ?_) (fun hc => ?_))) | (refine opk 4 rfl ?_; (refine ost_cmp rfl rfl rfl rfl (fun hc => ?_) (fun hc => ?_) <;> (simp only [cmpP] at hc; try exact prIQ))) | (refine opk 8 rfl ?_; (refine ost_storeW H rfl rfl rfl rfl lQ ixQ lQ okQ ?_; clear H; intro wk H; simp only [List.set_cons_zero, List.set_cons_succ, Nat.reduceAdd] at H)) | (refine opk 9 rfl ?_; first | (refine ost_allocA H rfl ?_; clear H; intro bk wk H) | (refine ost_build1 H rfl rfl rfl evQ lsQ rfl ?_; clear H; intro bk wk H))) | refine Wc.seq ?_ | refine then_n ?_ | refine WL.nil ?_ | refine Wc.region ?_ | refine Wc.block ?_ | refine then_r ?_ | refine then_e ?_ | refine inb_e rfl ?_ | refine inb_o rfl ?_ | refine inb_n ?_ | refine inb_r ?_ | refine Wc.skip ?_ | refine Wc.exit ?_ | refine Wc.ret ?_ | refine Wc.cond_true rfl ?_ | refine Wc.cond_false rfl ?_ | refine WL.skp rfl rfl ?_ | refine WL.sku rfl ?_)
  exact fn_ret1 (v := .bool true) rfl rfl ⟨rfl, H.fr⟩
end Go.Tg

set_option linter.unusedVariables false
set_option linter.unusedSimpArgs false
set_option maxRecDepth 100000
set_option maxHeartbeats 4000000
namespace Go.Tg
open Go Go.Proofs
def nV (n : Nat) : List Value := [.int .u64 (n : Int)]
theorem rows_nV (l : List Nat) : ∀ r, r ∈ l.map nV → r.length = 1 := by simp [nV]
theorem numsB_ge (l : List Nat) : l.length ≤ (numsB l).length := by
  induction l with
  | nil => simp
  | cons n l ih => rw [numsB_cons, List.length_append, List.length_cons]; have := putB_pos n; omega
end Go.Tg

set_option linter.unusedVariables false
set_option linter.unusedSimpArgs false
set_option maxRecDepth 100000
set_option maxHeartbeats 4000000
namespace Go.Tg
open Go Go.Proofs
theorem r16_bytes (m : ManT) (A : MAd) (h0 : FH) (w : World) (hs : Sat h0 w) (hP : MnR h0 m A) (hr : rightM m = true) :
    Spec Tryd.prog 92 #[.agg (mnV m A).toArray] w [] h0 (fun v h' L' => ∃ a' c', v = .slice a' (encM m).length c' ∧ h' = h0 ∧ L' = [own8 v 5 (encM m)]) := by
  have H := St.start hs
  obtain ⟨⟨c1, c2, -⟩, -⟩ := rightM_iff.1 hr
  clear hr
  obtain ⟨ver, flr, base, segs, next⟩ := m
  obtain ⟨a, c⟩ := A
  dsimp only at c1 c2
  rw [show mnV ⟨ver, flr, base, segs, next⟩ ⟨a, c⟩ = mnL ver flr base segs.length next a c from rfl]
  have lm := mnL_len ver flr base segs.length next a c
  have qf := mnL_flr ver flr base segs.length next a c
  have q17 := mnL_17 ver flr base segs.length next a c
  have q18 := mnL_18 ver flr base segs.length next a c
  have q19 := mnL_19 ver flr base segs.length next a c
  have q0 : (mnL ver flr base segs.length next a c)[0 + 0]? = some (.int .u64 ver.toNat) := rfl
  have lf := cV_len flr
  have u0 := ver.toNat_lt; have u1 := base.toNat_lt; have u2 := next.toNat_lt
  have hP : Sl h0 1 a c (segs.map cKid) := hP
  have qc := hP.lenM
  have p1 := putB_len ver.toNat; have p2 := putB_len base.toNat; have p3 := putB_len segs.length
  have p4 := encV_len flr
  have p5 := fieldB_len' (encV flr)
  have p6 := putB_len next.toNat
  unfold Spec
  refine calls_of Tryd.func92 rfl Tryd.ntmps92 (by simp) ?_
  repeat' (first | ((first | refine WL.p rfl ?_ | refine WL.u ?_); first | refine pvQ ?_ | (refine opk 3 rfl ?_; (refine ost_cmp rfl rfl rfl rfl (fun hc => ?_) (fun hc => ?_) <;> (simp only [cmpP] at hc; try exact prIQ))) | (refine opk 4 rfl ?_; (refine ost_cmp rfl rfl rfl rfl (fun hc => ?_) (fun hc => ?_) <;> (simp only [cmpP] at hc; try exact prIQ))) | (refine opk 9 rfl ?_; (refine ost_boxq H rfl ?_; clear H; intro bk wk H))) | refine Wc.seq ?_ | refine then_n ?_ | refine WL.nil ?_ | refine Wc.region ?_ | refine Wc.block ?_ | refine then_r ?_ | refine then_e ?_ | refine inb_e rfl ?_ | refine inb_o rfl ?_ | refine inb_n ?_ | refine inb_r ?_ | refine Wc.skip ?_ | refine Wc.exit ?_ | refine Wc.ret ?_ | refine Wc.cond_true rfl ?_ | refine Wc.cond_false rfl ?_)
  obtain ⟨bm, ebm⟩ := H.nameB idx0
  subst ebm
  repeat' (first | ((first | refine WL.p rfl ?_ | refine WL.u ?_); first | (refine opk 1 rfl ?_; first | (refine ost_C H rfl (r4_Encode _ flr _ (sat_full _)) rfl ?_; clear H; rintro vk wk hfk Lk ⟨a1, c1, rfl, _, rfl⟩ H; simp only [List.cons_append, List.nil_append] at H) | (refine ost_C H rfl (r3_Field _ _ (sat_full _) _ _ (encV flr) (H.own8rd (i := 0) rfl) (by omega)) rfl ?_; clear H; rintro vk wk hfk Lk ⟨a2, c2, rfl, _, rfl⟩ H; simp only [List.cons_append, List.nil_append] at H) | (refine ost_C H rfl (r3_Join _ _ (sat_full _) _ _ (putB ver.toNat) _ _ (fieldB (encV flr)) (H.own8rd (i := 3) rfl) (H.own8rd (i := 0) rfl) (by omega)) rfl ?_; clear H; rintro vk wk hfk Lk ⟨a3, c3, rfl, _, rfl⟩ H; simp only [List.cons_append, List.nil_append] at H)) | refine pvQ ?_ | (refine opk 3 rfl ?_; (refine ost_cmp rfl rfl rfl rfl (fun hc => ?_) (fun hc => ?_) <;> (simp only [cmpP] at hc; try exact prIQ))) | (refine opk 4 rfl ?_; (refine ost_cmp rfl rfl rfl rfl (fun hc => ?_) (fun hc => ?_) <;> (simp only [cmpP] at hc; try exact prIQ))) | (refine opk 9 rfl ?_; (refine ost_boxq H rfl ?_; clear H; intro bk wk H))) | refine Wc.seq ?_ | refine then_n ?_ | refine WL.nil ?_ | refine Wc.region ?_ | refine Wc.block ?_ | refine then_r ?_ | refine then_e ?_ | refine inb_e rfl ?_ | refine inb_o rfl ?_ | refine inb_n ?_ | refine inb_r ?_ | refine Wc.skip ?_ | refine Wc.exit ?_ | refine Wc.ret ?_ | refine Wc.cond_true rfl ?_ | refine Wc.cond_false rfl ?_ | (refine Wc.drawM (id := 1) 5 [(2, [], fun v L' => ∃ a c, v = Value.slice a (putB ver.toNat).length c ∧ L' = [own8 (Value.slice a (putB ver.toNat).length c) 5 (putB ver.toNat)])] [.blk bm (.cells (mnL ver flr base segs.length next a c).toArray 93 (0, 0))] [2] H (by kernel_rfl) rfl (by kernel_rfl) (by simp only [inpL, List.nil_append, List.cons_append, List.append_nil]; first | exact List.Perm.refl _ | exact List.Perm.swap _ _ _ | exact (List.Perm.swap _ _ _).trans ((List.Perm.swap _ _ _).cons _) | exact ((List.Perm.swap _ _ _).cons _) | exact ((List.Perm.swap _ _ _).cons _).trans (List.Perm.swap _ _ _)) ?_) | (refine rgm_nil ?_; intro vs wk outs HM hR; obtain ⟨v9, ⟨a9, c9, e9, o9⟩, h9⟩ := hR 2 _ rfl; have hv9 : vs (0 + 1 + 1) = _ := (h9 (by kernel_rfl)).trans e9; simp only [outsL, o9, List.cons_append, List.nil_append, List.append_nil] at HM; (try dsimp only); rw [hv9]; replace H := HM; clear HM hR) | (refine RGm.bq (fun _ => rfl) rfl (by intro vs w TT hP H; simp only [List.cons_append, List.nil_append] at H; first | exact dbQ | fail) (fun hc => ?_) (fun hc => ?_) <;> ((try simp only [cmpP, decide_eq_true_eq, decide_eq_false_iff_not, dcd_iff, dcd_no] at hc); try exact prDQ)) | refine RGm.pq (fun _ => rfl) rfl (by intro vs w TT hP H; simp only [List.cons_append, List.nil_append] at H; first | exact dvQ | fail) ?_ | refine RGm.mq (fun _ => rfl) rfl (by intro vs w TT hP H; simp only [List.cons_append, List.nil_append] at H; first | (refine ost_C H rfl (r2_Put ver.toNat (by omega) _ _ (sat_full _)) rfl ?_; rintro vk wk hfk Lk ⟨a9, c9, rfl, -, rfl⟩ H2; exact ⟨_, ⟨a9, c9, rfl, rfl⟩, H2⟩) | fail) ?_ | refine RGm.mu rfl (by intro vs w TT hP H; simp only [List.cons_append, List.nil_append] at H; first | (refine ost_C H rfl (r2_Put ver.toNat (by omega) _ _ (sat_full _)) rfl ?_; rintro vk wk hfk Lk ⟨a9, c9, rfl, -, rfl⟩ H2; exact ⟨_, ⟨a9, c9, rfl, rfl⟩, H2⟩) | fail) ?_)
  generalize hX0 : putB ver.toNat ++ fieldB (encV flr) = X0 at H ⊢
  have hX0l : X0.length ≤ 300 := by rw [← hX0, List.length_append]; omega
  repeat' (first | ((first | refine WL.p rfl ?_ | refine WL.u ?_); first | (refine opk 1 rfl ?_; first | (refine ost_C H rfl (r2_Put base.toNat (by omega) _ _ (sat_full _)) rfl ?_; clear H; rintro vk wk hfk Lk ⟨a1, c1, rfl, _, rfl⟩ H; simp only [List.cons_append, List.nil_append] at H) | (refine ost_app8 (xs := X0) H rfl rfl rfl (by (exact ixQ)) (H.own8rd (i := 0) rfl) (by (try simp only [List.length_nil, List.length_append, List.length_cons, List.length_singleton]); omega) ?_; clear H; intro aa ca wk H; simp only [List.set_cons_zero, List.set_cons_succ, List.nil_append] at H)) | refine pvQ ?_ | (refine opk 3 rfl ?_; (refine ost_cmp rfl rfl rfl rfl (fun hc => ?_) (fun hc => ?_) <;> (simp only [cmpP] at hc; try exact prIQ))) | (refine opk 4 rfl ?_; (refine ost_cmp rfl rfl rfl rfl (fun hc => ?_) (fun hc => ?_) <;> (simp only [cmpP] at hc; try exact prIQ))) | (refine opk 9 rfl ?_; (refine ost_boxq H rfl ?_; clear H; intro bk wk H))) | refine Wc.seq ?_ | refine then_n ?_ | refine WL.nil ?_ | refine Wc.region ?_ | refine Wc.block ?_ | refine then_r ?_ | refine then_e ?_ | refine inb_e rfl ?_ | refine inb_o rfl ?_ | refine inb_n ?_ | refine inb_r ?_ | refine Wc.skip ?_ | refine Wc.exit ?_ | refine Wc.ret ?_ | refine Wc.cond_true rfl ?_ | refine Wc.cond_false rfl ?_ | (refine Wc.drawn (id := 1) 5 (by kernel_rfl) ?_) | (refine rgs_nil ?_; intro vs wk hE; replace H := H.ext hE; clear hE) | (refine RGs.bq (fun _ => rfl) rfl (by intro vs w hE hP; have H := H.ext hE; first | exact dbQ | fail) (fun hc => ?_) (fun hc => ?_) <;> ((try simp only [cmpP, decide_eq_true_eq, decide_eq_false_iff_not, dcd_iff, dcd_no] at hc); try exact prDQ)) | refine RGs.pq (fun _ => rfl) rfl (by intro vs w hE hP; have H := H.ext hE; first | exact dvQ | fail) ?_)
  generalize hX1 : X0 ++ putB base.toNat = X1 at H ⊢
  have hX1l : X1.length ≤ 320 := by rw [← hX1, List.length_append]; omega
  repeat' (first | ((first | refine WL.p rfl ?_ | refine WL.u ?_); first | (refine opk 1 rfl ?_; first | (refine ost_C H rfl (r2_Put segs.length (by omega) _ _ (sat_full _)) rfl ?_; clear H; rintro vk wk hfk Lk ⟨a1, c1, rfl, _, rfl⟩ H; simp only [List.cons_append, List.nil_append] at H) | (refine ost_app8 (xs := X1) H rfl rfl rfl (by (exact ixQ)) (H.own8rd (i := 0) rfl) (by (try simp only [List.length_nil, List.length_append, List.length_cons, List.length_singleton]); omega) ?_; clear H; intro aa ca wk H; simp only [List.set_cons_zero, List.set_cons_succ, List.nil_append] at H)) | refine pvQ ?_ | (refine opk 3 rfl ?_; (refine ost_cmp rfl rfl rfl rfl (fun hc => ?_) (fun hc => ?_) <;> (simp only [cmpP] at hc; try exact prIQ))) | (refine opk 4 rfl ?_; (refine ost_cmp rfl rfl rfl rfl (fun hc => ?_) (fun hc => ?_) <;> (simp only [cmpP] at hc; try exact prIQ))) | (refine opk 9 rfl ?_; (refine ost_boxq H rfl ?_; clear H; intro bk wk H))) | refine Wc.seq ?_ | refine then_n ?_ | refine WL.nil ?_ | refine Wc.region ?_ | refine Wc.block ?_ | refine then_r ?_ | refine then_e ?_ | refine inb_e rfl ?_ | refine inb_o rfl ?_ | refine inb_n ?_ | refine inb_r ?_ | refine Wc.skip ?_ | refine Wc.exit ?_ | refine Wc.ret ?_ | refine Wc.cond_true rfl ?_ | refine Wc.cond_false rfl ?_ | (refine Wc.drawn (id := 1) 5 (by kernel_rfl) ?_) | (refine rgs_nil ?_; intro vs wk hE; replace H := H.ext hE; clear hE) | (refine RGs.bq (fun _ => rfl) rfl (by intro vs w hE hP; have H := H.ext hE; first | exact dbQ | fail) (fun hc => ?_) (fun hc => ?_) <;> ((try simp only [cmpP, decide_eq_true_eq, decide_eq_false_iff_not, dcd_iff, dcd_no] at hc); try exact prDQ)) | refine RGs.pq (fun _ => rfl) rfl (by intro vs w hE hP; have H := H.ext hE; first | exact dvQ | fail) ?_)
  generalize hX : X1 ++ putB segs.length = X at H ⊢
  have hXl : X.length ≤ 340 := by rw [← hX, List.length_append]; omega
  have hE : encM ⟨ver, flr, base, segs, next⟩ = wrapB (X ++ numsB (n32 segs) ++ putB next.toNat) := by
    unfold encM fldM
    rw [← hX, ← hX1, ← hX0, show n32 (segs ++ [next]) = n32 segs ++ [next.toNat] from List.map_append .., numsB_app, numsB_one]
    simp only [List.append_assoc]
  rw [hE]
  clear hE hX0 hX1 hX hX0l hX1l
  refine Wc.loopE (fun s0 m s w' => ∃ (k : Nat) (a1 : Option Addr) (c1 : Nat), m = segs.length - k ∧ k ≤ segs.length ∧ Agree [3, 4, 28, 29, 30, 31, 32, 33, 34, 35, 36, 37, 38, 39, 40, 41, 42, 43] s s0 ∧ s 4 = .int .i64 k ∧ s 3 = .slice a1 (X ++ numsB (n32 (segs.take k))).length c1 ∧
    St w [] h0 h0 [own8 (.slice a1 (X ++ numsB (n32 (segs.take k))).length c1) 5 (X ++ numsB (n32 (segs.take k))), .blk bm (.cells (mnL ver flr base segs.length next a c).toArray 93 (0, 0))] w') segs.length ⟨0, aa, ca, rfl, by omega, Agree.refl _ _, rfl, by rw [List.take_zero, show numsB (n32 []) = [] from rfl, List.append_nil]; rfl, by rw [List.take_zero, show numsB (n32 []) = [] from rfl, List.append_nil]; exact H.pick2 2 5 rfl rfl (by decide)⟩ ?_
  clear H
  rintro m s w' ⟨k, a1, c1, rfl, hk, hA9, e1, e2, H⟩
  obtain ⟨j, rfl⟩ := hA9.env2 e1 e2
  clear hA9 e1 e2
  have hxl := n32_len (segs.take k)
  have hxk : (segs.take k).length ≤ 64 := by rw [List.length_take]; omega
  by_cases hlt : k < segs.length
  · obtain ⟨b', off, l, T, fr, e1, eb, eg⟩ := hP.getM (by decide) (Nat.lt_of_le_of_lt (Nat.zero_le _) hlt)
    subst e1
    have g1 : l[off + (k : Int).toNat * 1]? = some (.int .u32 segs[k].toNat) := row_cell (eg (k : Int).toNat k hlt (by omega)) (q := 0) (by simp [cKid])
    have hst := n32_step segs hlt
    have hy := segs[k].toNat_lt
    have hyp := putB_len segs[k].toNat
    clear eg
    generalize segs[k] = y at g1 hst hy hyp
    have hYl : (X ++ numsB (n32 (segs.take k))).length ≤ 1100 := by rw [List.length_append]; omega
    have hst2 : X ++ numsB (n32 (segs.take (k + 1))) = X ++ numsB (n32 (segs.take k)) ++ putB y.toNat := by rw [hst, List.append_assoc]
    clear hst
    generalize X ++ numsB (n32 (segs.take k)) = Y at H hYl hst2 ⊢
    repeat' (first | ((first | refine WL.p rfl ?_ | refine WL.u ?_); first | (refine opk 1 rfl ?_; first | (refine ost_C H rfl (r2_Put y.toNat (by omega) _ _ (sat_full _)) rfl ?_; clear H; rintro vk wk hfk Lk ⟨a2, c2, rfl, _, rfl⟩ H; simp only [List.cons_append, List.nil_append] at H) | (refine ost_app8 (xs := Y) H rfl rfl rfl (by (exact ixQ)) (H.own8rd (i := 0) rfl) (by (try simp only [List.length_nil, List.length_append, List.length_cons, List.length_singleton]); omega) ?_; clear H; intro aa ca wk H; simp only [List.set_cons_zero, List.set_cons_succ, List.nil_append] at H)) | refine pvQ ?_ | (refine opk 3 rfl ?_; (refine ost_cmp rfl rfl rfl rfl (fun hc => ?_) (fun hc => ?_) <;> (simp only [cmpP] at hc; try exact prIQ))) | (refine opk 4 rfl ?_; (refine ost_cmp rfl rfl rfl rfl (fun hc => ?_) (fun hc => ?_) <;> (simp only [cmpP] at hc; try exact prIQ))) | (refine opk 9 rfl ?_; (refine ost_boxq H rfl ?_; clear H; intro bk wk H))) | refine Wc.seq ?_ | refine then_n ?_ | refine WL.nil ?_ | refine Wc.region ?_ | refine Wc.block ?_ | refine then_r ?_ | refine then_e ?_ | refine inb_e rfl ?_ | refine inb_o rfl ?_ | refine inb_n ?_ | refine inb_r ?_ | refine Wc.skip ?_ | refine Wc.exit ?_ | refine Wc.ret ?_ | refine Wc.cond_true rfl ?_ | refine Wc.cond_false rfl ?_ | (refine Wc.drawn (id := 1) 5 (by kernel_rfl) ?_) | (refine rgs_nil ?_; intro vs wk hE; replace H := H.ext hE; clear hE) | (refine RGs.bq (fun _ => rfl) rfl (by intro vs w hE hP; have H := H.ext hE; first | exact dbQ | fail) (fun hc => ?_) (fun hc => ?_) <;> ((try simp only [cmpP, decide_eq_true_eq, decide_eq_false_iff_not, dcd_iff, dcd_no] at hc); try exact prDQ)) | refine RGs.pq (fun _ => rfl) rfl (by intro vs w hE hP; have H := H.ext hE; first | exact dvQ | fail) ?_)
    rw [← hst2] at H
    exact ⟨segs.length - (k + 1), by omega, k + 1, aa, ca, rfl, by omega, by (repeat' (first | exact Agree.refl _ _ | exact Agree.havoc | refine Agree.upd rfl ?_ | refine Agree.hav2 rfl ?_)), rfl, by rw [hst2]; rfl, H.pick2 1 2 rfl rfl (by decide)⟩
  · obtain rfl : k = segs.length := by omega
    rw [List.take_length] at H hxl hxk ⊢
    have hYl : (X ++ numsB (n32 segs)).length ≤ 1100 := by rw [List.length_append]; omega
    generalize X ++ numsB (n32 segs) = Y at H hYl ⊢
    repeat' (first | ((first | refine WL.p rfl ?_ | refine WL.u ?_); first | (refine opk 1 rfl ?_; first | (refine ost_C H rfl (r2_Put next.toNat (by omega) _ _ (sat_full _)) rfl ?_; clear H; rintro vk wk hfk Lk ⟨a2, c2, rfl, _, rfl⟩ H; simp only [List.cons_append, List.nil_append] at H) | (refine ost_app8 (xs := Y) H rfl rfl rfl (by (exact ixQ)) (H.own8rd (i := 0) rfl) (by (try simp only [List.length_nil, List.length_append, List.length_cons, List.length_singleton]); omega) ?_; clear H; intro aa ca wk H; simp only [List.set_cons_zero, List.set_cons_succ, List.nil_append] at H) | (refine ost_C H rfl (r10_Wrapn _ _ _ _ (Y ++ putB next.toNat) _ (sat_full _) rfl (by rw [List.length_append]; omega) (H.own8rd (i := 1) rfl)) rfl ?_; clear H; rintro vk wk hfk Lk ⟨a5, c5, rfl, _, rfl⟩ H; simp only [List.cons_append, List.nil_append] at H)) | refine pvQ ?_ | (refine opk 3 rfl ?_; (refine ost_cmp rfl rfl rfl rfl (fun hc => ?_) (fun hc => ?_) <;> (simp only [cmpP] at hc; try exact prIQ))) | (refine opk 4 rfl ?_; (refine ost_cmp rfl rfl rfl rfl (fun hc => ?_) (fun hc => ?_) <;> (simp only [cmpP] at hc; try exact prIQ))) | (refine opk 9 rfl ?_; (refine ost_boxq H rfl ?_; clear H; intro bk wk H))) | refine Wc.seq ?_ | refine then_n ?_ | refine WL.nil ?_ | refine Wc.region ?_ | refine Wc.block ?_ | refine then_r ?_ | refine then_e ?_ | refine inb_e rfl ?_ | refine inb_o rfl ?_ | refine inb_n ?_ | refine inb_r ?_ | refine Wc.skip ?_ | refine Wc.exit ?_ | refine Wc.ret ?_ | refine Wc.cond_true rfl ?_ | refine Wc.cond_false rfl ?_ | (refine Wc.drawn (id := 1) 5 (by kernel_rfl) ?_) | (refine rgs_nil ?_; intro vs wk hE; replace H := H.ext hE; clear hE) | (refine RGs.bq (fun _ => rfl) rfl (by intro vs w hE hP; have H := H.ext hE; first | exact dbQ | fail) (fun hc => ?_) (fun hc => ?_) <;> ((try simp only [cmpP, decide_eq_true_eq, decide_eq_false_iff_not, dcd_iff, dcd_no] at hc); try exact prDQ)) | refine RGs.pq (fun _ => rfl) rfl (by intro vs w hE hP; have H := H.ext hE; first | exact dvQ | fail) ?_)
    exact fn_ret1 (v := .slice _ _ _) rfl rfl ⟨_, _, H.pick 0 rfl, _, _, rfl, rfl, rfl⟩
theorem r16_Encode (m : ManT) (A : MAd) (h0 : FH) (w : World) (hs : Sat h0 w) (hP : MnR h0 m A) :
    Spec Tryd.prog 48 #[.agg (mnV m A).toArray] w [] h0 (fun v h' L' => ∃ a' c', v = .tuple #[.slice a' (outM m).1.length c', .int .i64 (outM m).2] ∧ h' = h0 ∧ L' = [own8 (.slice a' (outM m).1.length c') 5 (outM m).1]) := by
  have H := St.start hs
  have hR := r16_Right m A
  have lm := mnV_len m A
  unfold Spec
  refine calls_of Tryd.func48 rfl Tryd.ntmps48 (by simp) ?_
  cases hq : rightM m with
  | true =>
    rw [hq] at hR
    have hB := r16_bytes m A
    rw [show outM m = (encM m, 0) by unfold outM; rw [if_pos hq]]
    repeat' (first | ((first | refine WL.p rfl ?_ | refine WL.u ?_); first | (refine opk 1 rfl ?_; first | (refine ost_V H rfl (hR _ _ (sat_full _) (hP.full H)) rfl ?_; clear H; intro wk H) | (refine ost_C H rfl (hB _ _ (sat_full _) (hP.full H) hq) rfl ?_; clear H; rintro vk wk hfk Lk ⟨a1, c1, rfl, _, rfl⟩ H; simp only [List.cons_append, List.nil_append] at H)) | refine pvQ ?_ | (refine opk 9 rfl ?_; (refine ost_boxq H rfl ?_; clear H; intro bk wk H))) | refine Wc.seq ?_ | refine then_n ?_ | refine WL.nil ?_ | refine Wc.region ?_ | refine Wc.block ?_ | refine then_r ?_ | refine then_e ?_ | refine inb_e rfl ?_ | refine inb_o rfl ?_ | refine inb_n ?_ | refine inb_r ?_ | refine Wc.skip ?_ | refine Wc.exit ?_ | refine Wc.ret ?_ | refine Wc.cond_true rfl ?_ | refine Wc.cond_false rfl ?_)
    exact fn_ret2 (v1 := .slice _ _ _) (v2 := .int _ _) rfl rfl rfl ⟨_, _, H.pick 0 rfl, _, _, rfl, rfl, rfl⟩
  | false =>
    rw [hq] at hR
    rw [show outM m = ([], 2) by unfold outM; rw [hq]; rfl]
    repeat' (first | ((first | refine WL.p rfl ?_ | refine WL.u ?_); first | (refine opk 1 rfl ?_; (refine ost_V H rfl (hR _ _ (sat_full _) (hP.full H)) rfl ?_; clear H; intro wk H)) | refine pvQ ?_ | (refine opk 9 rfl ?_; (refine ost_boxq H rfl ?_; clear H; intro bk wk H))) | refine Wc.seq ?_ | refine then_n ?_ | refine WL.nil ?_ | refine Wc.region ?_ | refine Wc.block ?_ | refine then_r ?_ | refine then_e ?_ | refine inb_e rfl ?_ | refine inb_o rfl ?_ | refine inb_n ?_ | refine inb_r ?_ | refine Wc.skip ?_ | refine Wc.exit ?_ | refine Wc.ret ?_ | refine Wc.cond_true rfl ?_ | refine Wc.cond_false rfl ?_)
    exact fn_ret2 (v1 := .slice _ _ _) (v2 := .int _ _) rfl rfl rfl ⟨_, _, (H.nil8 5).pick 0 rfl, _, _, rfl, rfl, rfl⟩
end Go.Tg

