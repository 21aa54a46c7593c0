/- Contracts of Go functions that the laws reach: what each call answers and leaves in memory, for all arguments within the bounds that each theorem names. -/
import Derived.Test.YtajfhoeejeadkaaDoorInst
import Derived.Test.YtajfhoeejeadkaaDoorAuto
import Derived.Test.YtajfhoeejeadkaaDoorG6
import Derived.Test.YtajfhoeejeadkaaDoorF2
import Derived.Test.YtajfhoeejeadkaaDoorChn
import Derived.Test.YtajfhoeejeadkaaDoorRows
import Derived.Test.YtajfhoeejeadkaaDoorLift
import Derived.Test.YtajfhoeejeadkaaDoorChecked
import Derived.Test.YtajfhoeejeadkaaDoorW6
import Derived.Test.YtajfhoeejeadkaaDoorL3
import Derived.Test.YtajfhoeejeadkaaDoorW1
import Derived.Test.YtajfhoeejeadkaaDoorC1
import Derived.ProofKit
import Derived.LaidMore
import Derived.Lay
import Derived.OpenShut
import Derived.Test.YtajfhoeejeadkaaDoorO2
import Derived.Test.YtajfhoeejeadkaaDoorArgs
set_option linter.unusedVariables false
set_option linter.unusedSimpArgs false
set_option maxRecDepth 100000
set_option maxHeartbeats 4000000
namespace Go.Tg
open Go Go.Proofs
def m1M : ManT := ⟨1, fun _ => 0, 0, [1], 2⟩
theorem m1_right : rightM m1M = true := rightM_iff.2 ⟨⟨by decide, by decide, by decide, by decide, by decide +kernel, fun _ => rfl, fun _ => rfl⟩, ⟨by decide, by decide, by decide⟩, trivial⟩
theorem zero_wrong : rightM zeroM = false := rightM_no fun h => by
  have := h.1.1
  exact absurd this (by decide)
theorem out_m1 : outM m1M = (encM m1M, 0) := by unfold outM; rw [if_pos m1_right]
theorem out_zero : outM zeroM = ([], 2) := by unfold outM; rw [zero_wrong]; rfl
theorem dec_small {n : Nat} (h : n < 10) : Lib.decDigits n = [UInt8.ofNat (48 + n)] := by rw [Lib.decDigits, dif_pos h]
def fourW : List (List UInt8) := [manW, [115, 101, 103, 45, 49], [115, 101, 103, 45, 50], [109, 97, 110, 105, 102, 101, 115, 116, 46, 110, 101, 119]]
theorem orph_m1 : orphM m1M fourW = [[115, 101, 103, 45, 50], [109, 97, 110, 105, 102, 101, 115, 116, 46, 110, 101, 119]] := by
  have hn : needM m1M = [manW, [115, 101, 103, 45, 49]] := by
    unfold needM m1M segW
    simp [dec_small]
  unfold orphM
  rw [hn]; decide +kernel
theorem base7 : baseW 7 = [98, 97, 115, 101, 45, 55] := by unfold baseW; rw [dec_small (by decide)]; decide
theorem mnV_len (m : ManT) (A : MAd) : (mnV m A).length = 20 := mnL_len _ _ _ _ _ _ _
theorem mnV_one (m : ManT) (A : MAd) : ∀ v ∈ mnV m A, v.oneCell' = true := by
  intro v hv
  unfold mnV mnL at hv
  rw [List.mem_cons, List.mem_append] at hv
  rcases hv with rfl | hv | hv
  · rfl
  · exact cV_one _ v hv
  · simp only [List.mem_cons, List.not_mem_nil, or_false] at hv
    rcases hv with rfl | rfl | rfl <;> rfl
theorem encM_len {m : ManT} (h : rightM m = true) : (encM m).length ≤ 1015 := by
  have h1 := fldM_len h
  have h2 := wrapB_len (fldM m)
  unfold encM; omega
theorem alive16 (h0 : FH) (w : World) (hs : Sat h0 w) (hT : Half h0) (hW : Pow h0) : SpecV Tryd.prog 45 #[] w (.bool true) := by
  have H := St.start hs
  unfold SpecV
  refine calls_of Tryd.func45 rfl Tryd.ntmps45 (by simp) ?_
  repeat' (first | ((first | refine WL.p rfl ?_ | refine WL.u ?_ | refine WL.g rfl rfl ?_ | refine WL.gu rfl ?_); first | (refine opk 9 rfl ?_; (refine ost_buildR (rows := [[Value.int .u32 1]]) H rfl (by decide) rfl (by rfl) (evP1 vxQ) (.cons rfl .nil) rfl (fun r hr => by rw [List.mem_singleton.1 hr]; rfl) ?_; clear H; intro bk wk H)) | refine pvQ ?_ | (refine opk 3 rfl ?_; first | (refine ost_cmp rfl rfl rfl rfl (fun hc => ?_) (fun hc => ?_) <;> (simp only [cmpP] at hc; try exact prIQ)) | (refine ost_streqB rfl rfl rfl (fun hc => ?_) (fun hc => ?_) <;> try exact prEQ) | (refine ost_strneB rfl rfl rfl (fun hc => ?_) (fun hc => ?_) <;> try exact prEQ) | (refine ost_streq rfl rfl rfl (fun hc => ?_) (fun hc => ?_) <;> try exact absurd rfl hc) | (refine ost_strne rfl rfl rfl (fun hc => ?_) (fun hc => ?_))) | (refine opk 4 rfl ?_; (refine ost_cmp rfl rfl rfl rfl (fun hc => ?_) (fun hc => ?_) <;> (simp only [cmpP] at hc; try exact prIQ))) | (refine opk 8 rfl ?_; (refine ost_storeW H rfl rfl rfl rfl lQ ixQ lQ okQ ?_; clear H; intro wk H; simp only [List.set_cons_zero, List.set_cons_succ, Nat.reduceAdd] at H)) | (refine opk 9 rfl ?_; first | (refine ost_allocA H rfl ?_; clear H; intro bk wk H) | (refine ost_build1 H rfl rfl rfl evQ lsQ rfl ?_; clear H; intro bk wk H))) | refine Wc.seq ?_ | refine then_n ?_ | refine WL.nil ?_ | refine Wc.region ?_ | refine Wc.block ?_ | refine then_r ?_ | refine then_e ?_ | refine inb_e rfl ?_ | refine inb_o rfl ?_ | refine inb_n ?_ | refine inb_r ?_ | refine Wc.skip ?_ | refine Wc.exit ?_ | refine Wc.ret ?_ | refine Wc.cond_true rfl ?_ | refine Wc.cond_false rfl ?_ | refine WL.skp rfl rfl ?_ | refine WL.sku rfl ?_)
  obtain ⟨bm, ebm⟩ := H.nameB idx0
  subst ebm
  obtain ⟨ak, ck, h7, e7, hle7, hK7, H⟩ := (H.front 1 rfl).freezeR (rows_len1 [1])
  cases e7
  generalize (some (⟨_, 0, none⟩ : Addr)) = ak at H hK7 ⊢
  replace H : St w [] h0 h7 [.blk bm (.cells (mnV m1M ⟨ak, 1⟩).toArray 95 (0, 0))] wk := H
  have hMn : MnR h7 m1M ⟨ak, 1⟩ := hK7
  have hT7 := hT.mono hle7
  have hW7 := hW.mono hle7
  have cE : ∀ w, Sat h7 w → Spec Tryd.prog 46 #[.agg (mnV m1M ⟨ak, 1⟩).toArray] w [] h7 (fun v h' L' => ∃ a' c', v = .tuple #[.slice a' (encM m1M).length c', .int .i64 0] ∧ L' = [own8 (.slice a' (encM m1M).length c') 5 (encM m1M)]) := fun w hs => by
    have := man_Encode _ _ h7 w hs hT7 hMn
    rw [out_m1] at this; exact this
  repeat' (first | ((first | refine WL.p rfl ?_ | refine WL.u ?_ | refine WL.g rfl rfl ?_ | refine WL.gu rfl ?_); first | (refine opk 1 rfl ?_; (refine ost_Sk H rfl (cE _ H.sat) rfl ?_; clear H; rintro vk wk hfk Lk ⟨a1, c1, rfl, rfl⟩ hle H; simp only [List.cons_append, List.nil_append] at H)) | refine pvQ ?_ | (refine opk 3 rfl ?_; first | (refine ost_cmp rfl rfl rfl rfl (fun hc => ?_) (fun hc => ?_) <;> (simp only [cmpP] at hc; try exact prIQ)) | (refine ost_streqB rfl rfl rfl (fun hc => ?_) (fun hc => ?_) <;> try exact prEQ) | (refine ost_strneB rfl rfl rfl (fun hc => ?_) (fun hc => ?_) <;> try exact prEQ) | (refine ost_streq rfl rfl rfl (fun hc => ?_) (fun hc => ?_) <;> try exact absurd rfl hc) | (refine ost_strne rfl rfl rfl (fun hc => ?_) (fun hc => ?_))) | (refine opk 4 rfl ?_; (refine ost_cmp rfl rfl rfl rfl (fun hc => ?_) (fun hc => ?_) <;> (simp only [cmpP] at hc; try exact prIQ))) | (refine opk 8 rfl ?_; (refine ost_storeW H rfl rfl rfl rfl lQ ixQ lQ okQ ?_; clear H; intro wk H; simp only [List.set_cons_zero, List.set_cons_succ, Nat.reduceAdd] at H)) | (refine opk 9 rfl ?_; first | (refine ost_allocA H rfl ?_; clear H; intro bk wk H) | (refine ost_build1 H rfl rfl rfl evQ lsQ rfl ?_; clear H; intro bk wk H))) | refine Wc.seq ?_ | refine then_n ?_ | refine WL.nil ?_ | refine Wc.region ?_ | refine Wc.block ?_ | refine then_r ?_ | refine then_e ?_ | refine inb_e rfl ?_ | refine inb_o rfl ?_ | refine inb_n ?_ | refine inb_r ?_ | refine Wc.skip ?_ | refine Wc.exit ?_ | refine Wc.ret ?_ | refine Wc.cond_true rfl ?_ | refine Wc.cond_false rfl ?_ | refine WL.skp rfl rfl ?_ | refine WL.sku rfl ?_)
  obtain ⟨a6, c6, h9, e6, hle9, hr6, H⟩ := H.freeze8
  cases e6
  have hMn9 := (hMn.mono (by assumption)).mono hle9
  have hT9 := (hT7.mono (by assumption)).mono hle9
  have hW9 := (hW7.mono (by assumption)).mono hle9
  have cD : ∀ w, Sat h9 w → Spec Tryd.prog 49 #[.slice a1 (encM m1M).length c1] w [] h9 (fun v h' L' => ∃ A, v = .tuple #[.agg (mnV m1M A).toArray, .int .i64 0] ∧ L' = []) := fun w hs => by
    have := man_Decode h9 a1 c1 (encM m1M) w hs hT9 hr6 (by have := encM_len m1_right; omega)
    rw [decM_enc m1_right] at this
    exact this.mono fun v h' L' ⟨A, h1, h2, h3⟩ => ⟨A, h1, h2⟩
  have lz := mnV_len m1M ⟨ak, 1⟩
  clear hr6 cE
  generalize encM m1M = E at H cD ⊢
  repeat' (first | ((first | refine WL.p rfl ?_ | refine WL.u ?_ | refine WL.g rfl rfl ?_ | refine WL.gu rfl ?_); first | (refine opk 1 rfl ?_; (refine ost_Sk H rfl (cD _ H.sat) rfl ?_; clear H; rintro vk wk hfk Lk ⟨A2, rfl, rfl⟩ hle H; simp only [List.cons_append, List.nil_append] at H)) | (refine opk 8 rfl ?_; (refine ost_storeW (vs := mnV m1M A2) H rfl rfl rfl rfl (mnV_len _ _) (by (exact ixQ)) rfl (mnV_one _ _) ?_; clear H; intro wk H; simp only [List.set_cons_zero, List.set_cons_succ] at H)) | (refine opk 9 rfl ?_; (refine ost_buildR (rows := fourW.map cStr) H rfl (by decide) rfl (by rfl) (evP_cons (rfl : _ = Value.string _) (evP_cons (rfl : _ = Value.string _) (evP_cons (rfl : _ = Value.string _) (evP_cons (rfl : _ = Value.string _) evP_nil)))) (.cons rfl (.cons rfl (.cons rfl (.cons rfl .nil)))) rfl (rows_cStr fourW) ?_; clear H; intro bk wk H)) | refine pvQ ?_ | (refine opk 3 rfl ?_; first | (refine ost_cmp rfl rfl rfl rfl (fun hc => ?_) (fun hc => ?_) <;> (simp only [cmpP] at hc; try exact prIQ)) | (refine ost_streqB rfl rfl rfl (fun hc => ?_) (fun hc => ?_) <;> try exact prEQ) | (refine ost_strneB rfl rfl rfl (fun hc => ?_) (fun hc => ?_) <;> try exact prEQ) | (refine ost_streq rfl rfl rfl (fun hc => ?_) (fun hc => ?_) <;> try exact absurd rfl hc) | (refine ost_strne rfl rfl rfl (fun hc => ?_) (fun hc => ?_))) | (refine opk 4 rfl ?_; (refine ost_cmp rfl rfl rfl rfl (fun hc => ?_) (fun hc => ?_) <;> (simp only [cmpP] at hc; try exact prIQ))) | (refine opk 8 rfl ?_; (refine ost_storeW H rfl rfl rfl rfl lQ ixQ lQ okQ ?_; clear H; intro wk H; simp only [List.set_cons_zero, List.set_cons_succ, Nat.reduceAdd] at H)) | (refine opk 9 rfl ?_; first | (refine ost_allocA H rfl ?_; clear H; intro bk wk H) | (refine ost_build1 H rfl rfl rfl evQ lsQ rfl ?_; clear H; intro bk wk H))) | refine Wc.seq ?_ | refine then_n ?_ | refine WL.nil ?_ | refine Wc.region ?_ | refine Wc.block ?_ | refine then_r ?_ | refine then_e ?_ | refine inb_e rfl ?_ | refine inb_o rfl ?_ | refine inb_n ?_ | refine inb_r ?_ | refine Wc.skip ?_ | refine Wc.exit ?_ | refine Wc.ret ?_ | refine Wc.cond_true rfl ?_ | refine Wc.cond_false rfl ?_ | refine WL.skp rfl rfl ?_ | refine WL.sku rfl ?_)
  obtain ⟨b4, eb4⟩ := H.nameB idx1
  subst eb4
  have hMnk := hMn9.mono hle
  have hTk := hT9.mono hle
  have hWk := hW9.mono hle
  obtain ⟨an, cn, h10, e10, hle10, hN10, H⟩ := H.freezeR (rows_cStr fourW)
  cases e10
  have hM10 := hMnk.mono hle10
  have hT10 := hTk.mono hle10
  have hW10 := hWk.mono hle10
  generalize (some (⟨_, 0, none⟩ : Addr)) = an at H hN10 ⊢
  clear cD hMnk hTk hWk hMn9 hT9 hW9 hMn hT7 hW7 hK7
  have cO : ∀ w, Sat h10 w → Spec Tryd.prog 55 #[.agg (mnV m1M ⟨ak, 1⟩).toArray, .slice an 4 4] w [] h10 (fun v h' L' => ∃ a' c', v = .slice a' 2 c' ∧ L' = [ownR (.slice a' 2 c') 9 1 (([[115, 101, 103, 45, 50], [109, 97, 110, 105, 102, 101, 115, 116, 46, 110, 101, 119]] : List (List UInt8)).map cStr)]) := fun w hs => by
    have := man_Orphans m1M ⟨ak, 1⟩ h10 w hs hW10 hM10 (by decide) an 4 fourW hN10 (by decide)
    rw [orph_m1] at this
    exact this.mono fun v h' L' ⟨a', c', h1, h2⟩ => ⟨a', c', h1, by rw [h2, h1]; rfl⟩
  repeat' (first | ((first | refine WL.p rfl ?_ | refine WL.u ?_ | refine WL.g rfl rfl ?_ | refine WL.gu rfl ?_); first | (refine opk 1 rfl ?_; (refine ost_Sk H rfl (cO _ H.sat) rfl ?_; clear H; rintro vk wk hfk Lk ⟨ax, cx, rfl, rfl⟩ hle H; simp only [List.cons_append, List.nil_append] at H)) | (refine opk 9 rfl ?_; (refine ost_buildS rfl evP_nil rfl (rfl : _ = mnV zeroM zeroMA) ?_)) | refine pvQ ?_ | (refine opk 3 rfl ?_; first | (refine ost_cmp rfl rfl rfl rfl (fun hc => ?_) (fun hc => ?_) <;> (simp only [cmpP] at hc; try exact prIQ)) | (refine ost_streqB rfl rfl rfl (fun hc => ?_) (fun hc => ?_) <;> try exact prEQ) | (refine ost_strneB rfl rfl rfl (fun hc => ?_) (fun hc => ?_) <;> try exact prEQ) | (refine ost_streq rfl rfl rfl (fun hc => ?_) (fun hc => ?_) <;> try exact absurd rfl hc) | (refine ost_strne rfl rfl rfl (fun hc => ?_) (fun hc => ?_))) | (refine opk 4 rfl ?_; (refine ost_cmp rfl rfl rfl rfl (fun hc => ?_) (fun hc => ?_) <;> (simp only [cmpP] at hc; try exact prIQ))) | (refine opk 8 rfl ?_; (refine ost_storeW H rfl rfl rfl rfl lQ ixQ lQ okQ ?_; clear H; intro wk H; simp only [List.set_cons_zero, List.set_cons_succ, Nat.reduceAdd] at H)) | (refine opk 9 rfl ?_; first | (refine ost_allocA H rfl ?_; clear H; intro bk wk H) | (refine ost_build1 H rfl rfl rfl evQ lsQ rfl ?_; clear H; intro bk wk H))) | refine Wc.seq ?_ | refine then_n ?_ | refine WL.nil ?_ | refine Wc.region ?_ | refine Wc.block ?_ | refine then_r ?_ | refine then_e ?_ | refine inb_e rfl ?_ | refine inb_o rfl ?_ | refine inb_n ?_ | refine inb_r ?_ | refine Wc.skip ?_ | refine Wc.exit ?_ | refine Wc.ret ?_ | refine Wc.cond_true rfl ?_ | refine Wc.cond_false rfl ?_ | refine WL.skp rfl rfl ?_ | refine WL.sku rfl ?_)
  have hM11 := hM10.mono hle
  have hT11 := hT10.mono hle
  have hW11 := hW10.mono hle
  obtain ⟨ay, cy, h12, e12, hle12, hN12, H9⟩ := H.freezeR (rows_cStr [[115, 101, 103, 45, 50], [109, 97, 110, 105, 102, 101, 115, 116, 46, 110, 101, 119]])
  clear H
  have H := H9
  clear H9
  injection e12 with e1 e2 e3
  subst e1; subst e3
  have hM12 := hM11.mono hle12
  have hT12 := hT11.mono hle12
  have hW12 := hW11.mono hle12
  obtain ⟨b5, off5, l5, T5, fr5, e5, eb5, eg5⟩ := hN12.getM (by decide) (by decide)
  subst e5
  have g5 : l5[off5 + (0 : Int).toNat * 1]? = some (.string (bstr [115, 101, 103, 45, 50])) := row_cell (eg5 (0 : Int).toNat 0 (by decide) rfl) (q := 0) (by decide)
  have q19 := mnL_19 m1M.ver m1M.flr m1M.base m1M.segs.length m1M.next A2.a A2.c
  clear cO hM10 hT10 hW10 hM11 hT11 hW11 hN10 eg5 hN12
  have cZ : ∀ w, Sat h12 w → Spec Tryd.prog 46 #[.agg (mnV zeroM zeroMA).toArray] w [] h12 (fun v h' L' => ∃ a' c', v = .tuple #[.slice a' 0 c', .int .i64 2] ∧ L' = [own8 (.slice a' 0 c') 5 []]) := fun w hs => by
    have := man_Encode zeroM zeroMA h12 w hs hT12 (zeroM_R _)
    rw [out_zero] at this; exact this
  repeat' (first | ((first | refine WL.p rfl ?_ | refine WL.u ?_ | refine WL.g rfl rfl ?_ | refine WL.gu rfl ?_); first | (refine opk 1 rfl ?_; (refine ost_Sk H rfl (cZ _ H.sat) rfl ?_; clear H; rintro vk wk hfk Lk ⟨a7, c7, rfl, rfl⟩ hle H; simp only [List.cons_append, List.nil_append] at H)) | refine pvQ ?_ | (refine opk 3 rfl ?_; first | (refine ost_cmp rfl rfl rfl rfl (fun hc => ?_) (fun hc => ?_) <;> (simp only [cmpP] at hc; try exact prIQ)) | (refine ost_streqB rfl rfl rfl (fun hc => ?_) (fun hc => ?_) <;> try exact prEQ) | (refine ost_strneB rfl rfl rfl (fun hc => ?_) (fun hc => ?_) <;> try exact prEQ) | (refine ost_streq rfl rfl rfl (fun hc => ?_) (fun hc => ?_) <;> try exact absurd rfl hc) | (refine ost_strne rfl rfl rfl (fun hc => ?_) (fun hc => ?_))) | (refine opk 4 rfl ?_; (refine ost_cmp rfl rfl rfl rfl (fun hc => ?_) (fun hc => ?_) <;> (simp only [cmpP] at hc; try exact prIQ))) | (refine opk 8 rfl ?_; (refine ost_storeW H rfl rfl rfl rfl lQ ixQ lQ okQ ?_; clear H; intro wk H; simp only [List.set_cons_zero, List.set_cons_succ, Nat.reduceAdd] at H)) | (refine opk 9 rfl ?_; first | (refine ost_allocA H rfl ?_; clear H; intro bk wk H) | (refine ost_build1 H rfl rfl rfl evQ lsQ rfl ?_; clear H; intro bk wk H))) | refine Wc.seq ?_ | refine then_n ?_ | refine WL.nil ?_ | refine Wc.region ?_ | refine Wc.block ?_ | refine then_r ?_ | refine then_e ?_ | refine inb_e rfl ?_ | refine inb_o rfl ?_ | refine inb_n ?_ | refine inb_r ?_ | refine Wc.skip ?_ | refine Wc.exit ?_ | refine Wc.ret ?_ | refine Wc.cond_true rfl ?_ | refine Wc.cond_false rfl ?_ | refine WL.skp rfl rfl ?_ | refine WL.sku rfl ?_)
  have hM13 := hM12.mono hle
  have hW13 := hW12.mono hle
  have eb6 := hle _ _ eb5
  clear cZ hM12 hT12 hW12 eb5
  have cR : ∀ w, Sat hfk w → SpecV Tryd.prog 51 #[.agg (mnV m1M ⟨ak, 1⟩).toArray] w (.bool true) := fun w hs => by
    have := man_Right _ _ hfk w hs hM13; rw [m1_right] at this; exact this
  have cB : ∀ w, Sat hfk w → SpecV Tryd.prog 59 #[.int .u32 7] w (.string (bstr [98, 97, 115, 101, 45, 55])) := fun w hs => by
    have := man_BaseName 7 hfk w hs hW13
    rw [show (7 : UInt32).toNat = 7 by decide, base7] at this; exact this
  replace q19 : (mnV m1M A2)[0 + 19]? = some (.int .u32 2) := q19
  have lz2 := mnV_len m1M A2
  repeat' (first | ((first | refine WL.p rfl ?_ | refine WL.u ?_ | refine WL.g rfl rfl ?_ | refine WL.gu rfl ?_); first | (refine opk 1 rfl ?_; first | (refine ost_V H rfl (cR _ H.sat) rfl ?_; clear H; intro wk H) | (refine ost_V H rfl (cB _ H.sat) rfl ?_; clear H; intro wk H)) | (refine opk 3 rfl ?_; first | (refine ost_streqD (q := true) (a := [115, 101, 103, 45, 50]) (b := [115, 101, 103, 45, 50]) rfl rfl rfl (by simp) ?_) | (refine ost_streqD (q := true) (a := [98, 97, 115, 101, 45, 55]) (b := [98, 97, 115, 101, 45, 55]) rfl rfl rfl (by simp) ?_)) | refine pvQ ?_ | (refine opk 3 rfl ?_; first | (refine ost_cmp rfl rfl rfl rfl (fun hc => ?_) (fun hc => ?_) <;> (simp only [cmpP] at hc; try exact prIQ)) | (refine ost_streqB rfl rfl rfl (fun hc => ?_) (fun hc => ?_) <;> try exact prEQ) | (refine ost_strneB rfl rfl rfl (fun hc => ?_) (fun hc => ?_) <;> try exact prEQ) | (refine ost_streq rfl rfl rfl (fun hc => ?_) (fun hc => ?_) <;> try exact absurd rfl hc) | (refine ost_strne rfl rfl rfl (fun hc => ?_) (fun hc => ?_))) | (refine opk 4 rfl ?_; (refine ost_cmp rfl rfl rfl rfl (fun hc => ?_) (fun hc => ?_) <;> (simp only [cmpP] at hc; try exact prIQ))) | (refine opk 8 rfl ?_; (refine ost_storeW H rfl rfl rfl rfl lQ ixQ lQ okQ ?_; clear H; intro wk H; simp only [List.set_cons_zero, List.set_cons_succ, Nat.reduceAdd] at H)) | (refine opk 9 rfl ?_; first | (refine ost_allocA H rfl ?_; clear H; intro bk wk H) | (refine ost_build1 H rfl rfl rfl evQ lsQ rfl ?_; clear H; intro bk wk H))) | refine Wc.seq ?_ | refine then_n ?_ | refine WL.nil ?_ | refine Wc.region ?_ | refine Wc.block ?_ | refine then_r ?_ | refine then_e ?_ | refine inb_e rfl ?_ | refine inb_o rfl ?_ | refine inb_n ?_ | refine inb_r ?_ | refine Wc.skip ?_ | refine Wc.exit ?_ | refine Wc.ret ?_ | refine Wc.cond_true rfl ?_ | refine Wc.cond_false rfl ?_ | refine WL.skp rfl rfl ?_ | refine WL.sku rfl ?_)
  exact fn_ret1 (v := .bool true) rfl rfl ⟨rfl, H.fr⟩
end Go.Tg

set_option linter.unusedVariables false
set_option linter.unusedSimpArgs false
set_option maxRecDepth 100000
set_option maxHeartbeats 4000000
namespace Go.Tg
open Go Go.Proofs
theorem law16_theirs (m : ManT) (A : MAd) (w : World) : SpecV Tryd.prog 47 #[.agg (mnV m A).toArray] w (.agg (mnV m A).toArray) := by
  refine specV_of fun h0 hs H => ?_
  have lm := mnV_len m A
  refine calls_of Tryd.func47 rfl Tryd.ntmps47 (by simp) ?_
  repeat' (first | ((first | refine WL.p rfl ?_ | refine WL.u ?_); first | (refine opk 8 rfl ?_; (refine ost_storeW (vs := mnV m A) H rfl rfl rfl rfl (mnV_len _ _) (by (exact ixQ)) rfl (mnV_one _ _) ?_; clear H; intro wk H; simp only [List.set_cons_zero, List.set_cons_succ] at H)) | refine pvQ ?_ | (refine opk 8 rfl ?_; (refine ost_storeW H rfl rfl rfl rfl lQ ixQ lQ okQ ?_; clear H; intro wk H; simp only [List.set_cons_zero, List.set_cons_succ, Nat.reduceAdd] at H)) | (refine opk 9 rfl ?_; first | (refine ost_boxq H rfl ?_; clear H; intro bk wk H) | (refine ost_allocA H rfl ?_; clear H; intro bk wk H))) | refine Wc.seq ?_ | refine then_n ?_ | refine WL.nil ?_ | refine Wc.region ?_ | refine Wc.block ?_ | refine then_r ?_ | refine then_e ?_ | refine inb_e rfl ?_ | refine inb_o rfl ?_ | refine inb_n ?_ | refine inb_r ?_ | refine Wc.skip ?_ | refine Wc.exit ?_ | refine Wc.ret ?_ | refine Wc.cond_true rfl ?_ | refine Wc.cond_false rfl ?_)
  all_goals first | (refine fn_ret1 rfl (rv_cellA rfl rfl H.bI lQ) ⟨rfl, H.fr⟩)
end Go.Tg

set_option linter.unusedVariables false
set_option linter.unusedSimpArgs false
set_option maxRecDepth 100000
set_option maxHeartbeats 4000000
namespace Go.Tg
open Go Go.Proofs
section
variable {H : Type} {enc : TypeId × Value → H} {W : World} {sp : Nat → Bool}
theorem rows_mapO {α : Type} (f : α → List Value) : ∀ {rows : List (List Value)}, (∀ r, r ∈ rows → ∃ x, r = f x) → ∃ xs : List α, rows = xs.map f
  | [], _ => ⟨[], rfl⟩
  | r :: rows, h => by
    obtain ⟨x, rfl⟩ := h r (by simp)
    obtain ⟨xs, rfl⟩ := rows_mapO f (rows := rows) fun r hr => h r (by simp [hr])
    exact ⟨x :: xs, rfl⟩
theorem vec_of {row : List Value} (h : Td enc Tryd.prog W sp 65 row) : ∃ v : V16, row = cV v := by
  obtain ⟨hl, hf⟩ := h.array (m := 16) (e := 28) Tryd.underlying65
  rw [show Program.cellsOf Tryd.prog 65 = 16 from by kernel_rfl] at hl
  rw [show Program.cellsOf Tryd.prog 28 = 1 from by kernel_rfl] at hf
  have hx : ∀ i : Fin 16, ∃ x : UInt32, row[i.val] = u32 x := fun i => by
    obtain ⟨n, e, k⟩ := (hf i.val i.isLt).nat Tryd.underlying28 rfl
    simp only [inK] at k
    have h0 : ((row.drop (i.val * 1)).take 1)[0]? = some (Value.int .u32 (n : Int)) := by rw [e]; rfl
    rw [List.getElem?_take, if_pos (by omega), List.getElem?_drop] at h0
    have h1 : row[i.val]? = some (Value.int .u32 (n : Int)) := by simpa using h0
    rw [List.getElem?_eq_getElem (by omega)] at h1
    exact ⟨UInt32.ofNat n, by rw [Option.some.inj h1, u32]; simp; omega⟩
  refine ⟨fun i => (hx i).choose, ?_⟩
  apply List.ext_getElem
  · rw [cV_len, hl]
  · intro i h1 h2
    rw [(hx ⟨i, by omega⟩).choose_spec]
    simp only [cV, List.getElem_ofFn]
end
end Go.Tg

