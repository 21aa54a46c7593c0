/- Contracts of Go functions that the laws reach: what each call answers and leaves in memory, for all arguments within the bounds that each theorem names. -/
import Derived.Test.YtbfilhaigbebpaaDoorInst
import Derived.Test.YtbfilhaigbebpaaDoorAuto
import Derived.Test.YtbfilhaigbebpaaDoorR9
import Derived.Test.YtbfilhaigbebpaaDoorW6
import Derived.Test.YtbfilhaigbebpaaDoorQG
set_option linter.unusedVariables false
set_option linter.unusedSimpArgs false
set_option maxRecDepth 100000
set_option maxHeartbeats 4000000
namespace Go.Tg
open Go Go.Proofs
theorem r15_Dump (h0 : FH) (w : World) (hs : Sat h0 w) (al : Option Addr) (cl : Nat) (l : List ItemT) (hN : Sl h0 5 al cl (l.map cItem)) (ver : UInt64) (base : Int) :
    Spec Tryd.prog 12 #[.slice al l.length cl, .int .u64 ver.toNat, .int .i64 base] w [] h0 (fun v h' L' => h' = h0 ∧ ∃ a' c', v = .tuple #[.slice a' (dumpM l ver base).1.length c', .agg (cSlot (dumpM l ver base).2.1).toArray, .int .i64 (dumpM l ver base).2.2] ∧ L' = [own8 (.slice a' (dumpM l ver base).1.length c') 5 (dumpM l ver base).1]) := by
  have H := St.start hs
  have q1 := hN.lenM
  have lz : cSlot zeroS = [Value.int .u64 0, .int .u32 0, .int .u32 0, .int .u32 0] := rfl
  unfold Spec
  refine calls_of Tryd.func12 rfl Tryd.ntmps12 (by simp) ?_
  by_cases hbad : base < 0 ∨ 1073741824 < base ∨ riseL l = false
  · have hD : dumpM l ver base = ([], zeroS, 2) := if_pos hbad
    rw [hD]
    have hri := fun w hs => r15_rise h0 w hs al cl l hN
    generalize riseL l = q at hri hbad
    have hq : ¬ base < 0 → ¬ 1073741824 < base → q = false := fun h1 h2 => by rcases hbad with h | h | h <;> first | exact absurd h h1 | exact absurd h h2 | exact h
    by_cases hA : base < 0 ∨ 1073741824 < base
    · repeat' (first | ((first | refine WL.p rfl ?_ | refine WL.u ?_ | refine WL.g rfl rfl ?_ | refine WL.gu rfl ?_); first | (refine opk 9 rfl ?_; (refine ost_buildS rfl evP_nil rfl (rfl : _ = [_, _, _, _]) ?_)) | refine pvQ ?_ | (refine opk 3 rfl ?_; (refine ost_cmp rfl rfl rfl rfl (fun hc => ?_) (fun hc => ?_) <;> (simp only [cmpP] at hc; try exact prIQ))) | (refine opk 4 rfl ?_; (refine ost_cmp rfl rfl rfl rfl (fun hc => ?_) (fun hc => ?_) <;> (simp only [cmpP] at hc; try exact prIQ))) | (refine opk 8 rfl ?_; (refine ost_storeW H rfl rfl rfl rfl lQ ixQ lQ okQ ?_; clear H; intro wk H; simp only [List.set_cons_zero, List.set_cons_succ, Nat.reduceAdd] at H)) | (refine opk 9 rfl ?_; (refine ost_allocA H rfl ?_; clear H; intro bk wk H))) | refine Wc.seq ?_ | refine then_n ?_ | refine WL.nil ?_ | refine Wc.region ?_ | refine Wc.block ?_ | refine then_r ?_ | refine then_e ?_ | refine inb_e rfl ?_ | refine inb_o rfl ?_ | refine inb_n ?_ | refine inb_r ?_ | refine Wc.skip ?_ | refine Wc.exit ?_ | refine Wc.ret ?_ | refine Wc.cond_true rfl ?_ | refine Wc.cond_false rfl ?_ | (refine Wc.drawn (id := 10) 17 (by kernel_rfl) ?_) | refine WL.skp rfl rfl ?_ | refine WL.sku rfl ?_ | (refine rgs_nil ?_; intro vs wk hE; replace H := H.ext hE; clear hE) | refine RGs.skp (fun _ => rfl) rfl ?_ | (refine RGs.bq (fun _ => rfl) rfl (by intro vs w hE hP; have H := H.ext hE; first | exact dbQ | fail) (fun hc => ?_) (fun hc => ?_) <;> ((try simp only [cmpP, decide_eq_true_eq, decide_eq_false_iff_not, dcd_iff, dcd_no] at hc); try exact prDQ)) | refine RGs.pq (fun _ => rfl) rfl (by intro vs w hE hP; have H := H.ext hE; first | exact dvQ | fail) ?_)
      all_goals first | (exfalso; omega) | exact fn_ret3 (v1 := .slice _ _ _) (v3 := .int _ _) rfl rfl (rv_cellA rfl rfl H.bI lQ) rfl ⟨_, _, (H.nilOwn 5 1).picks [0] rfl (by decide), rfl, none, 0, rfl, rfl⟩
    · obtain rfl := hq (fun h => hA (.inl h)) (fun h => hA (.inr h))
      repeat' (first | ((first | refine WL.p rfl ?_ | refine WL.u ?_ | refine WL.g rfl rfl ?_ | refine WL.gu rfl ?_); first | (refine opk 1 rfl ?_; (refine ost_V H rfl (hri _ H.sat) rfl ?_; clear H; intro wk H)) | (refine opk 9 rfl ?_; (refine ost_buildS rfl evP_nil rfl (rfl : _ = [_, _, _, _]) ?_)) | refine pvQ ?_ | (refine opk 3 rfl ?_; (refine ost_cmp rfl rfl rfl rfl (fun hc => ?_) (fun hc => ?_) <;> (simp only [cmpP] at hc; try exact prIQ))) | (refine opk 4 rfl ?_; (refine ost_cmp rfl rfl rfl rfl (fun hc => ?_) (fun hc => ?_) <;> (simp only [cmpP] at hc; try exact prIQ))) | (refine opk 8 rfl ?_; (refine ost_storeW H rfl rfl rfl rfl lQ ixQ lQ okQ ?_; clear H; intro wk H; simp only [List.set_cons_zero, List.set_cons_succ, Nat.reduceAdd] at H)) | (refine opk 9 rfl ?_; (refine ost_allocA H rfl ?_; clear H; intro bk wk H))) | refine Wc.seq ?_ | refine then_n ?_ | refine WL.nil ?_ | refine Wc.region ?_ | refine Wc.block ?_ | refine then_r ?_ | refine then_e ?_ | refine inb_e rfl ?_ | refine inb_o rfl ?_ | refine inb_n ?_ | refine inb_r ?_ | refine Wc.skip ?_ | refine Wc.exit ?_ | refine Wc.ret ?_ | refine Wc.cond_true rfl ?_ | refine Wc.cond_false rfl ?_ | (refine Wc.drawn (id := 10) 17 (by kernel_rfl) ?_) | refine WL.skp rfl rfl ?_ | refine WL.sku rfl ?_ | (refine rgs_nil ?_; intro vs wk hE; replace H := H.ext hE; clear hE) | refine RGs.skp (fun _ => rfl) rfl ?_ | (refine RGs.bq (fun _ => rfl) rfl (by intro vs w hE hP; have H := H.ext hE; first | exact dbQ | fail) (fun hc => ?_) (fun hc => ?_) <;> ((try simp only [cmpP, decide_eq_true_eq, decide_eq_false_iff_not, dcd_iff, dcd_no] at hc); try exact prDQ)) | refine RGs.pq (fun _ => rfl) rfl (by intro vs w hE hP; have H := H.ext hE; first | exact dvQ | fail) ?_)
      all_goals first | (exfalso; omega) | exact fn_ret3 (v1 := .slice _ _ _) (v3 := .int _ _) rfl rfl (rv_cellA rfl rfl H.bI lQ) rfl ⟨_, _, (H.nilOwn 5 1).picks [0] rfl (by decide), rfl, none, 0, rfl, rfl⟩
  · have hri : ∀ w, Sat h0 w → SpecV Tryd.prog 24 #[.slice al l.length cl] w (.bool true) := fun w hs => by
      have := r15_rise h0 w hs al cl l hN
      have e : riseL l = true := by cases h : riseL l with | true => rfl | false => exact absurd (.inr (.inr h)) hbad
      rw [e] at this; exact this
    have hb0 : 0 ≤ base := by omega
    have hb1 : base ≤ 1073741824 := by omega
    by_cases hbig : 4096 < l.length
    · have hD : dumpM l ver base = ([], zeroS, 3) := by unfold dumpM; rw [if_neg hbad, if_pos hbig]
      rw [hD]
      repeat' (first | ((first | refine WL.p rfl ?_ | refine WL.u ?_ | refine WL.g rfl rfl ?_ | refine WL.gu rfl ?_); first | (refine opk 1 rfl ?_; (refine ost_V H rfl (hri _ H.sat) rfl ?_; clear H; intro wk H)) | (refine opk 9 rfl ?_; (refine ost_buildS rfl evP_nil rfl (rfl : _ = [_, _, _, _]) ?_)) | refine pvQ ?_ | (refine opk 3 rfl ?_; (refine ost_cmp rfl rfl rfl rfl (fun hc => ?_) (fun hc => ?_) <;> (simp only [cmpP] at hc; try exact prIQ))) | (refine opk 4 rfl ?_; (refine ost_cmp rfl rfl rfl rfl (fun hc => ?_) (fun hc => ?_) <;> (simp only [cmpP] at hc; try exact prIQ))) | (refine opk 8 rfl ?_; (refine ost_storeW H rfl rfl rfl rfl lQ ixQ lQ okQ ?_; clear H; intro wk H; simp only [List.set_cons_zero, List.set_cons_succ, Nat.reduceAdd] at H)) | (refine opk 9 rfl ?_; (refine ost_allocA H rfl ?_; clear H; intro bk wk H))) | refine Wc.seq ?_ | refine then_n ?_ | refine WL.nil ?_ | refine Wc.region ?_ | refine Wc.block ?_ | refine then_r ?_ | refine then_e ?_ | refine inb_e rfl ?_ | refine inb_o rfl ?_ | refine inb_n ?_ | refine inb_r ?_ | refine Wc.skip ?_ | refine Wc.exit ?_ | refine Wc.ret ?_ | refine Wc.cond_true rfl ?_ | refine Wc.cond_false rfl ?_ | (refine Wc.drawn (id := 10) 17 (by kernel_rfl) ?_) | refine WL.skp rfl rfl ?_ | refine WL.sku rfl ?_ | (refine rgs_nil ?_; intro vs wk hE; replace H := H.ext hE; clear hE) | refine RGs.skp (fun _ => rfl) rfl ?_ | (refine RGs.bq (fun _ => rfl) rfl (by intro vs w hE hP; have H := H.ext hE; first | exact dbQ | fail) (fun hc => ?_) (fun hc => ?_) <;> ((try simp only [cmpP, decide_eq_true_eq, decide_eq_false_iff_not, dcd_iff, dcd_no] at hc); try exact prDQ)) | refine RGs.pq (fun _ => rfl) rfl (by intro vs w hE hP; have H := H.ext hE; first | exact dvQ | fail) ?_)
      all_goals first | (exfalso; omega) | exact fn_ret3 (v1 := .slice _ _ _) (v3 := .int _ _) rfl rfl (rv_cellA rfl rfl H.bI lQ) rfl ⟨_, _, (H.nilOwn 5 1).picks [0] rfl (by decide), rfl, none, 0, rfl, rfl⟩
    · have hD : dumpM l ver base = ((upL l base.toNat).1, ⟨ver, UInt32.ofNat ((upL l base.toNat).2.headD (zeroK, 0)).2, UInt32.ofNat (base.toNat + (upL l base.toNat).1.length), UInt32.ofNat l.length⟩, 0) := by unfold dumpM; rw [if_neg hbad, if_neg hbig]
      rw [hD]
      clear hD
      obtain ⟨b, rfl⟩ : ∃ b : Nat, base = b := ⟨base.toNat, by omega⟩
      rw [Int.toNat_natCast]
      have hbb : b ≤ 1073741824 := by omega
      have hlv := fun w hs => r15_leaves h0 w hs b al cl l (by omega) (by omega) hN
      repeat' (first | ((first | refine WL.p rfl ?_ | refine WL.u ?_ | refine WL.g rfl rfl ?_ | refine WL.gu rfl ?_); first | (refine opk 1 rfl ?_; first | (refine ost_V H rfl (hri _ H.sat) rfl ?_; clear H; intro wk H) | (refine ost_Sk H rfl (hlv _ H.sat) rfl ?_; clear H; rintro vk wk hfk Lk ⟨hle0, a1, c1, ao, co, rfl, rfl⟩ hle H; simp only [List.cons_append, List.nil_append] at H)) | (refine opk 9 rfl ?_; (refine ost_buildS rfl evP_nil rfl (rfl : _ = [_, _, _, _]) ?_)) | refine pvQ ?_ | (refine opk 3 rfl ?_; (refine ost_cmp rfl rfl rfl rfl (fun hc => ?_) (fun hc => ?_) <;> (simp only [cmpP] at hc; try exact prIQ))) | (refine opk 4 rfl ?_; (refine ost_cmp rfl rfl rfl rfl (fun hc => ?_) (fun hc => ?_) <;> (simp only [cmpP] at hc; try exact prIQ))) | (refine opk 8 rfl ?_; (refine ost_storeW H rfl rfl rfl rfl lQ ixQ lQ okQ ?_; clear H; intro wk H; simp only [List.set_cons_zero, List.set_cons_succ, Nat.reduceAdd] at H)) | (refine opk 9 rfl ?_; (refine ost_allocA H rfl ?_; clear H; intro bk wk H))) | refine Wc.seq ?_ | refine then_n ?_ | refine WL.nil ?_ | refine Wc.region ?_ | refine Wc.block ?_ | refine then_r ?_ | refine then_e ?_ | refine inb_e rfl ?_ | refine inb_o rfl ?_ | refine inb_n ?_ | refine inb_r ?_ | refine Wc.skip ?_ | refine Wc.exit ?_ | refine Wc.ret ?_ | refine Wc.cond_true rfl ?_ | refine Wc.cond_false rfl ?_ | (refine Wc.drawn (id := 10) 17 (by kernel_rfl) ?_) | refine WL.skp rfl rfl ?_ | refine WL.sku rfl ?_ | (refine rgs_nil ?_; intro vs wk hE; replace H := H.ext hE; clear hE) | refine RGs.skp (fun _ => rfl) rfl ?_ | (refine RGs.bq (fun _ => rfl) rfl (by intro vs w hE hP; have H := H.ext hE; first | exact dbQ | fail) (fun hc => ?_) (fun hc => ?_) <;> ((try simp only [cmpP, decide_eq_true_eq, decide_eq_false_iff_not, dcd_iff, dcd_no] at hc); try exact prDQ)) | refine RGs.pq (fun _ => rfl) rfl (by intro vs w hE hP; have H := H.ext hE; first | exact dvQ | fail) ?_)
      obtain ⟨b7, eb7⟩ := H.nameB (i := 2) rfl
      subst eb7
      replace H := H.front 1 rfl
      obtain ⟨ao2, co2, h7, e7, hle7, hP7, H⟩ := H.freezeR (rows_len4 _)
      injection e7 with e71 e72 e73
      subst e71; subst e73
      have hpl := placesP_len b (leafPs l)
      have hll := leafPs_len l
      have hbl := bytesP_len (leafPs l)
      have hup : upG b (bytesP (leafPs l)) (placesP b (leafPs l)) = upL l b := rfl
      replace H : St w [] h0 h7 [own8 (.slice a1 (bytesP (leafPs l)).length c1) 5 (bytesP (leafPs l)), .blk b7 (.cells (cSlot zeroS).toArray 34 (0, 0))] _ := H
      refine Wc.loopE (fun s0 m s w' => ∃ (pls : List PlT) (xs : List UInt8) (ao : Option Addr) (co : Nat) (a1 : Option Addr) (c1 : Nat) (h7 : FH), m = pls.length ∧ FLe h0 h7 ∧ Agree [9, 10, 11, 12, 35, 36, 37, 38, 39, 40, 41, 42, 43, 44, 45, 46, 47, 48, 49, 50] s s0 ∧ s 9 = .slice a1 xs.length c1 ∧ s 10 = .slice ao pls.length co ∧ Sl h7 4 ao co (pls.map cPl) ∧ 1 ≤ pls.length ∧ pls.length ≤ 4097 ∧ upG b xs pls = upL l b ∧ xs.length + 1000 * pls.length ≤ 7000000 ∧
        St w [] h0 h7 [own8 (.slice a1 xs.length c1) 5 xs, .blk b7 (.cells (cSlot zeroS).toArray 34 (0, 0))] w') _ ⟨_, _, _, _, _, _, _, rfl, hle0.trans hle7, Agree.refl _ _, rfl, rfl, hP7, by omega, by omega, hup, by omega, H⟩ ?_
      clear H hP7 hup hbl hpl hlv
      rintro m s w' ⟨pls, xs, ao, co, a1, c1, h7, rfl, hle7, hA, e1, e2, hP7, hp1, hp2, hup, hbd, H⟩
      obtain ⟨j, rfl⟩ := hA.env2 e1 e2
      clear hA e1 e2
      by_cases hlt : 1 < pls.length
      · rw [upG_step hlt] at hup
        have hab := fun w hs => r15_above h7 w hs (b + xs.length) ao co pls (by omega) (by omega) hP7
        have hpl := placesP_len (b + xs.length) (nodePs pls)
        have hnl := nodePs_len pls
        have hbl := bytesP_len (nodePs pls)
        generalize nodePs pls = NP at *
        have hcn : chN pls.length ≤ 4097 := by unfold chN; omega
        repeat' (first | ((first | refine WL.p rfl ?_ | refine WL.u ?_ | refine WL.g rfl rfl ?_ | refine WL.gu rfl ?_); first | (refine opk 1 rfl ?_; first | (refine ost_Sk H rfl (hab _ H.sat) rfl ?_; clear H; rintro vk wk hfk Lk ⟨hle8, a2, c2, ao2, co2, rfl, rfl⟩ hle H; simp only [List.cons_append, List.nil_append] at H) | (refine ost_C H rfl (r3_Join _ _ (sat_full _) _ _ xs _ _ (bytesP NP) (H.own8rd (i := 2) rfl) (H.own8rd (i := 0) rfl) (by omega)) rfl ?_; clear H; rintro vk wk hfk Lk ⟨a3, c3, rfl, -, rfl⟩ H; simp only [List.cons_append, List.nil_append] at H)) | refine pvQ ?_ | (refine opk 3 rfl ?_; (refine ost_cmp rfl rfl rfl rfl (fun hc => ?_) (fun hc => ?_) <;> (simp only [cmpP] at hc; try exact prIQ))) | (refine opk 4 rfl ?_; (refine ost_cmp rfl rfl rfl rfl (fun hc => ?_) (fun hc => ?_) <;> (simp only [cmpP] at hc; try exact prIQ))) | (refine opk 8 rfl ?_; (refine ost_storeW H rfl rfl rfl rfl lQ ixQ lQ okQ ?_; clear H; intro wk H; simp only [List.set_cons_zero, List.set_cons_succ, Nat.reduceAdd] at H)) | (refine opk 9 rfl ?_; (refine ost_allocA H rfl ?_; clear H; intro bk wk H))) | refine Wc.seq ?_ | refine then_n ?_ | refine WL.nil ?_ | refine Wc.region ?_ | refine Wc.block ?_ | refine then_r ?_ | refine then_e ?_ | refine inb_e rfl ?_ | refine inb_o rfl ?_ | refine inb_n ?_ | refine inb_r ?_ | refine Wc.skip ?_ | refine Wc.exit ?_ | refine Wc.ret ?_ | refine Wc.cond_true rfl ?_ | refine Wc.cond_false rfl ?_ | (refine Wc.drawn (id := 10) 17 (by kernel_rfl) ?_) | refine WL.skp rfl rfl ?_ | refine WL.sku rfl ?_ | (refine rgs_nil ?_; intro vs wk hE; replace H := H.ext hE; clear hE) | refine RGs.skp (fun _ => rfl) rfl ?_ | (refine RGs.bq (fun _ => rfl) rfl (by intro vs w hE hP; have H := H.ext hE; first | exact dbQ | fail) (fun hc => ?_) (fun hc => ?_) <;> ((try simp only [cmpP, decide_eq_true_eq, decide_eq_false_iff_not, dcd_iff, dcd_no] at hc); try exact prDQ)) | refine RGs.pq (fun _ => rfl) rfl (by intro vs w hE hP; have H := H.ext hE; first | exact dvQ | fail) ?_)
        replace H := H.front 2 rfl
        obtain ⟨ao3, co3, h8, e8, hle9, hP8, H⟩ := H.freezeR (rows_len4 _)
        injection e8 with e81 e82 e83
        subst e81; subst e83
        unfold chN at hnl
        exact ⟨_, by omega, placesP (b + xs.length) NP, xs ++ bytesP NP, _, _, _, _, h8, rfl, (hle7.trans hle8).trans hle9, by (repeat' (first | exact Agree.refl _ _ | exact Agree.havoc | refine Agree.upd rfl ?_ | refine Agree.hav2 rfl ?_)), rfl, rfl, hP8, by omega, by omega, hup, by rw [List.length_append]; omega, H.picks [0, 3] rfl (by decide)⟩
      · rw [upG_end hlt] at hup
        rw [← hup]
        obtain ⟨y, rfl⟩ : ∃ y, pls = [y] := by
          match pls, hp1, hlt with
          | [y], _, _ => exact ⟨y, rfl⟩
          | y :: z :: t, _, h => exact absurd (by simp) h
        obtain ⟨bq, off, L9, T, fr, e2, eb, eg⟩ := hP7.getM (by decide) (by simp)
        subst e2
        have g1 : L9[off + (0 : Int).toNat * 4 + 3]? = some (.int .i64 (y.2 : Int)) := row_cell (eg (0 : Int).toNat 0 (by simp) rfl) (q := 3) (by simp [cPl_len])
        have hb4 : l.length ≤ 4096 := by omega
        have hb5 : xs.length ≤ 7000000 := by omega
        have hS : [Value.int .u64 ver.toNat, .int .u32 (IntKind.u32.wrap (y.2 : Int)), .int .u32 ((b : Int) + (xs.length : Int)), .int .u32 (l.length : Int)] = cSlot ⟨ver, UInt32.ofNat y.2, UInt32.ofNat (b + xs.length), UInt32.ofNat l.length⟩ := by
          unfold cSlot
          rw [u32_1]
          congr 3
          · congr 1; simp; omega
          · congr 2; simp; omega
        have lS := cSlot_len ⟨ver, UInt32.ofNat y.2, UInt32.ofNat (b + xs.length), UInt32.ofNat l.length⟩
        repeat' (first | ((first | refine WL.p rfl ?_ | refine WL.u ?_ | refine WL.g rfl rfl ?_ | refine WL.gu rfl ?_); first | refine pvQ ?_ | (refine opk 3 rfl ?_; (refine ost_cmp rfl rfl rfl rfl (fun hc => ?_) (fun hc => ?_) <;> (simp only [cmpP] at hc; try exact prIQ))) | (refine opk 4 rfl ?_; (refine ost_cmp rfl rfl rfl rfl (fun hc => ?_) (fun hc => ?_) <;> (simp only [cmpP] at hc; try exact prIQ))) | (refine opk 8 rfl ?_; (refine ost_storeW H rfl rfl rfl rfl lQ ixQ lQ okQ ?_; clear H; intro wk H; simp only [List.set_cons_zero, List.set_cons_succ, Nat.reduceAdd] at H)) | (refine opk 9 rfl ?_; (refine ost_allocA H rfl ?_; clear H; intro bk wk H))) | refine Wc.seq ?_ | refine then_n ?_ | refine WL.nil ?_ | refine Wc.region ?_ | refine Wc.block ?_ | refine then_r ?_ | refine then_e ?_ | refine inb_e rfl ?_ | refine inb_o rfl ?_ | refine inb_n ?_ | refine inb_r ?_ | refine Wc.skip ?_ | refine Wc.exit ?_ | refine Wc.ret ?_ | refine Wc.cond_true rfl ?_ | refine Wc.cond_false rfl ?_ | (refine Wc.drawn (id := 10) 17 (by kernel_rfl) ?_) | refine WL.skp rfl rfl ?_ | refine WL.sku rfl ?_ | (refine rgs_nil ?_; intro vs wk hE; replace H := H.ext hE; clear hE) | refine RGs.skp (fun _ => rfl) rfl ?_ | (refine RGs.bq (fun _ => rfl) rfl (by intro vs w hE hP; have H := H.ext hE; first | exact dbQ | fail) (fun hc => ?_) (fun hc => ?_) <;> ((try simp only [cmpP, decide_eq_true_eq, decide_eq_false_iff_not, dcd_iff, dcd_no] at hc); try exact prDQ)) | refine RGs.pq (fun _ => rfl) rfl (by intro vs w hE hP; have H := H.ext hE; first | exact dvQ | fail) ?_)
        rw [hS] at H
        exact fn_ret3 (v1 := .slice _ _ _) (v3 := .int _ _) rfl rfl (rv_cellA rfl rfl H.bI lQ) rfl ⟨h0, _, (H.forget hle7 fun _ _ _ => rfl).picks (L' := [_]) [0] rfl (by decide), rfl, _, _, rfl, rfl⟩
end Go.Tg

set_option linter.unusedVariables false
set_option linter.unusedSimpArgs false
set_option maxRecDepth 100000
set_option maxHeartbeats 4000000
namespace Go.Tg
open Go Go.Proofs
theorem firstF_len (b : List UInt8) : (firstF b).1.length ≤ b.length := by
  unfold firstF
  split
  · simp
  · split
    · simp
    · split
      · simp
      · split
        · simp
        · simp; omega
def B64 (l : List Nat) : Prop := ∀ n, n ∈ l → n < 18446744073709551616
def TakeR (f : List UInt8) (l : List Nat) (ok : Bool) : Prop := (ok = true ∧ numsB l = f ∧ B64 l) ∨ (ok = false ∧ l = [] ∧ ∀ ns, B64 ns → numsB ns ≠ f)
theorem putB_pos (n : Nat) : 0 < (putB n).length := by
  unfold putB putL; split <;> simp
theorem numsB_pos (n : Nat) (l : List Nat) : 0 < (numsB (n :: l)).length := by
  have := putB_pos n
  rw [numsB_cons, List.length_append]; omega
theorem numsB_tail {a ns : List Nat} {r : List UInt8} (ha : B64 a) (hn : B64 ns) (h : numsB ns = numsB a ++ r) : ∃ b, ns = a ++ b ∧ numsB b = r := by
  induction a generalizing ns with
  | nil => exact ⟨ns, rfl, h⟩
  | cons x a ih =>
    cases ns with
    | nil =>
      have h1 := congrArg List.length h
      have h2 := numsB_pos x a
      rw [List.length_append, numsB_nil, List.length_nil] at h1
      omega
    | cons y ns =>
      rw [numsB_cons, numsB_cons, List.append_assoc] at h
      obtain ⟨h1, h2⟩ := putB_app_inj (hn y (by simp)) (ha x (by simp)) h
      obtain ⟨b, e1, e2⟩ := ih (fun n hx => ha n (by simp [hx])) (fun n hx => hn n (by simp [hx])) h2
      exact ⟨b, by rw [e1, h1]; rfl, e2⟩
theorem numsB_inj {a b : List Nat} (ha : B64 a) (hb : B64 b) (h : numsB a = numsB b) : a = b := by
  obtain ⟨c, e1, e2⟩ := numsB_tail (r := []) ha hb (by rw [List.append_nil]; exact h.symm)
  cases c with
  | nil => rw [e1, List.append_nil]
  | cons x c =>
    have := numsB_pos x c
    rw [e2] at this; simp at this
theorem take_end {f : List UInt8} {acc : List Nat} (hf : f = numsB acc ++ []) (hb : B64 acc) : TakeR f acc true := .inl ⟨rfl, by rw [hf, List.append_nil], hb⟩
theorem take_bad {f r : List UInt8} {acc : List Nat} (hf : f = numsB acc ++ r) (hr : 0 < r.length) (hb : B64 acc) (hg : (getB r).2.2 ≠ 0) : TakeR f [] false := .inr ⟨rfl, rfl, fun ns hns e => by
  obtain ⟨b, rfl, hb2⟩ := numsB_tail hb hns (e.trans hf)
  cases b with
  | nil => rw [← hb2] at hr; simp [numsB_nil] at hr
  | cons y b =>
    rw [numsB_cons] at hb2
    apply hg
    rw [← hb2, getB_putB y (hns y (by simp)) _]⟩
theorem take_step {f r : List UInt8} {acc : List Nat} (hf : f = numsB acc ++ r) (hb : B64 acc) (hg : (getB r).2.2 = 0) : f = numsB (acc ++ [(getB r).1]) ++ r.drop (getB r).2.1 ∧ B64 (acc ++ [(getB r).1]) := by
  have hlt := getB_lt r
  refine ⟨?_, fun n hn => ?_⟩
  · have hi := getB_inv (b := r) (n := (getB r).1) (k := (getB r).2.1) (by rw [← hg])
    rw [numsB_app, numsB_one, List.append_assoc, ← hi]; exact hf
  · rw [List.mem_append, List.mem_singleton] at hn
    rcases hn with hn | hn
    · exact hb n hn
    · rw [hn]; exact hlt
def wdN (lf : Bool) : Nat := if lf = true then 5 else 4
def rowN (lf : Bool) (l : List Nat) (i : Nat) : List Nat := (l.drop (2 + wdN lf * i)).take (wdN lf)
def lfN (l : List Nat) : Bool := decide (l.getD 0 0 = 1)
def cntN (l : List Nat) : Nat := l.getD 1 0
def keysN (lf : Bool) (l : List Nat) (k : Nat) : List KeyT := (List.range k).map fun i => keyA (rowN lf l i)
def locsN (lf : Bool) (l : List Nat) (k : Nat) : List LocT := if lf = true then (List.range k).map fun i => locA (rowN lf l i) else []
def kidsN (lf : Bool) (l : List Nat) (k : Nat) : List UInt32 := if lf = true then [] else (List.range k).map fun i => kidA (rowN lf l i)
def pageN (l : List Nat) : PageT := ⟨lfN l, keysN (lfN l) l (cntN l), locsN (lfN l) l (cntN l), kidsN (lfN l) l (cntN l)⟩
theorem keysN_succ (lf : Bool) (l : List Nat) (k : Nat) : keysN lf l (k + 1) = keysN lf l k ++ [keyA (rowN lf l k)] := by simp [keysN, List.range_succ]
theorem locsN_succ (l : List Nat) (k : Nat) : locsN true l (k + 1) = locsN true l k ++ [locA (rowN true l k)] := by simp [locsN, List.range_succ]
theorem kidsN_succ (l : List Nat) (k : Nat) : kidsN false l (k + 1) = kidsN false l k ++ [kidA (rowN false l k)] := by simp [kidsN, List.range_succ]
theorem keysN_len (lf : Bool) (l : List Nat) (k : Nat) : (keysN lf l k).length = k := by simp [keysN]
theorem flat_row {w : Nat} {v : Nat → List Nat} : ∀ {n : Nat}, (∀ i, i < n → (v i).length = w) → ∀ i, i < n → ((((List.range n).map v).flatten).drop (w * i)).take w = v i
  | 0, _, i, hi => absurd hi (by omega)
  | n + 1, h, i, hi => by
    have hl : (((List.range n).map v).flatten).length = w * n := by
      clear hi
      have h := fun i hi => h i (Nat.lt_succ_of_lt hi)
      induction n with
      | zero => simp
      | succ n ih =>
        rw [List.range_succ, List.map_append, List.flatten_append, List.length_append, ih (fun i hi => h i (by omega)) (fun i hi => h i (by omega))]
        simp [h n (by omega), Nat.mul_succ]
    rw [List.range_succ, List.map_append, List.flatten_append]
    by_cases hin : i = n
    · subst hin
      rw [List.drop_left' hl]
      have := h i (by omega)
      simp [← this]
    · have hi : i < n := by omega
      have hm : w * i + w ≤ w * n := by rw [← Nat.mul_succ]; exact Nat.mul_le_mul_left _ hi
      rw [List.drop_append_of_le_length (by omega), List.take_append_of_le_length (by rw [List.length_drop]; omega)]
      exact flat_row (fun j hj => h j (by omega)) i hi
theorem rowP_wd {p : PageT} (hs : shapeP p) {i : Nat} (hi : i < p.keys.length) : (rowP p.leaf p.keys p.locs p.kids i).length = wdN p.leaf := by
  obtain ⟨lf, ks, ls, ds⟩ := p
  cases lf with
  | true =>
    have hs := (shapeP_T _ _ _).1 hs
    dsimp only at hi ⊢
    rw [rowP_leaf hi (by omega)]; rfl
  | false =>
    have hs := (shapeP_F _ _ _).1 hs
    dsimp only at hi ⊢
    rw [rowP_kid hi (by omega)]; rfl
theorem pageN_full {u : PageT} (hr : rightP u = true) : pageN (natsP u) = u ∧ (natsP u).length = 2 + wdN (lfN (natsP u)) * cntN (natsP u) ∧ cntN (natsP u) ≤ 8 ∧ B64 (natsP u) := by
  obtain ⟨hs1, hs2⟩ := rightP_iff.1 hr
  have hn : u.keys.length ≤ 8 := by unfold shapeP at hs2; split at hs2 <;> omega
  have e0 : lfN (natsP u) = u.leaf := by unfold lfN natsP; cases u.leaf <;> rfl
  have e1 : cntN (natsP u) = u.keys.length := rfl
  have hrow : ∀ i, i < u.keys.length → rowN u.leaf (natsP u) i = rowP u.leaf u.keys u.locs u.kids i := fun i hi => by
    unfold rowN natsP
    rw [show 2 + wdN u.leaf * i = wdN u.leaf * i + 1 + 1 by omega, List.drop_succ_cons, List.drop_succ_cons]
    exact flat_row (fun j hj => rowP_wd hs2 hj) i hi
  refine ⟨?_, ?_, by rw [e1]; exact hn, ?_⟩
  · unfold pageN
    rw [e0, e1]
    obtain ⟨lf, ks, ls, ds⟩ := u
    dsimp only at hrow hs2 ⊢
    have hks : keysN lf (natsP ⟨lf, ks, ls, ds⟩) ks.length = ks := by
      apply List.ext_getElem
      · rw [keysN_len]
      · intro i h1 h2
        have : (keysN lf (natsP ⟨lf, ks, ls, ds⟩) ks.length)[i] = keyA (rowN lf (natsP ⟨lf, ks, ls, ds⟩) i) := by simp [keysN]
        rw [this, hrow i h2]
        cases lf with
        | true =>
          have hs := (shapeP_T _ _ _).1 hs2
          rw [rowP_leaf h2 (by omega)]; exact keyA_of _ _
        | false =>
          have hs := (shapeP_F _ _ _).1 hs2
          rw [rowP_kid h2 (by omega)]; exact keyA_of _ _
    cases lf with
    | true =>
      have hs := (shapeP_T _ _ _).1 hs2
      have hls : locsN true (natsP ⟨true, ks, ls, ds⟩) ks.length = ls := by
        apply List.ext_getElem
        · simp [locsN]; omega
        · intro i h1 h2
          have : (locsN true (natsP ⟨true, ks, ls, ds⟩) ks.length)[i] = locA (rowN true (natsP ⟨true, ks, ls, ds⟩) i) := by simp [locsN]
          rw [this, hrow i (by omega), rowP_leaf (by omega) h2]; exact locA_of _ _ _ _
      have hds : ds = [] := List.eq_nil_of_length_eq_zero hs.2.2
      rw [hks, hls, hds]; rfl
    | false =>
      have hs := (shapeP_F _ _ _).1 hs2
      have hds : kidsN false (natsP ⟨false, ks, ls, ds⟩) ks.length = ds := by
        apply List.ext_getElem
        · simp [kidsN]; omega
        · intro i h1 h2
          have : (kidsN false (natsP ⟨false, ks, ls, ds⟩) ks.length)[i] = kidA (rowN false (natsP ⟨false, ks, ls, ds⟩) i) := by simp [kidsN]
          rw [this, hrow i (by omega), rowP_kid (by omega) h2]; exact kidA_of _ _ _ _
      have hls : ls = [] := List.eq_nil_of_length_eq_zero hs.2.2.2
      rw [hks, hds, hls]; rfl
  · rw [e0, e1]
    unfold natsP rowsP
    rw [List.length_cons, List.length_cons]
    have : ∀ n, n ≤ u.keys.length → (((List.range n).map (rowP u.leaf u.keys u.locs u.kids)).flatten).length = wdN u.leaf * n := by
      intro n
      induction n with
      | zero => simp
      | succ n ih =>
        intro h
        rw [List.range_succ, List.map_append, List.flatten_append, List.length_append, ih (by omega)]
        simp [rowP_wd hs2 (i := n) (by omega), Nat.mul_succ]
    rw [this _ (Nat.le_refl _)]; omega
  · intro n hx
    unfold natsP rowsP at hx
    rw [List.mem_cons, List.mem_cons] at hx
    rcases hx with hx | hx | hx
    · rw [hx]; split <;> omega
    · rw [hx]; omega
    · rw [List.mem_flatten] at hx
      obtain ⟨r, h1, h2⟩ := hx
      rw [List.mem_map] at h1
      obtain ⟨i, h3, rfl⟩ := h1
      have hi := List.mem_range.1 h3
      obtain ⟨lf, ks, ls, ds⟩ := u
      dsimp only at hi h2 hs2
      have g1 := ks[i].cart.toNat_lt; have g2 := ks[i].dot.rep.toNat_lt; have g3 := ks[i].dot.seq.toNat_lt
      cases lf with
      | true =>
        have hs := (shapeP_T _ _ _).1 hs2
        have hl : i < ls.length := by omega
        have g4 := ls[i].seg.toNat_lt; have g5 := ls[i].at_.toNat_lt
        rw [rowP_leaf hi hl] at h2
        simp only [List.mem_cons, List.not_mem_nil, or_false] at h2
        omega
      | false =>
        have hs := (shapeP_F _ _ _).1 hs2
        have hl : i < ds.length := by omega
        have g4 := ds[i].toNat_lt
        rw [rowP_kid hi hl] at h2
        simp only [List.mem_cons, List.not_mem_nil, or_false] at h2
        omega
theorem decP_N {b f : List UInt8} {k e : Nat} (hF : firstF b = (f, k, e)) (h : ∀ l, B64 l → e = 0 → numsB l = f → l.length = 2 + wdN (lfN l) * cntN l → cntN l ≤ 8 → rightP (pageN l) = true → encP (pageN l) = b → False) : DecP b zeroP 15 :=
  .inr ⟨rfl, rfl, fun u hu e9 => by
    have h1 := firstF_enc hu e9
    rw [hF] at h1
    injection h1 with h2 h3
    injection h3 with h4 h5
    obtain ⟨g1, g2, g3, g4⟩ := pageN_full hu
    exact h (natsP u) g4 h5 h2.symm g2 g3 (by rw [g1]; exact hu) (by rw [g1]; exact e9)⟩
end Go.Tg

set_option linter.unusedVariables false
set_option linter.unusedSimpArgs false
set_option maxRecDepth 100000
set_option maxHeartbeats 4000000
namespace Go.Tg
open Go Go.Proofs
theorem numE_z0 {e : Int} {xs : List UInt8} (h : (numE e xs).2.2.1 = 0) : e = 0 ∧ (numE 0 xs).2.1 = 0 := by
  by_cases he : e = 0
  · subst he
    refine ⟨rfl, ?_⟩
    by_cases h2 : (numE 0 xs).2.1 = 0
    · exact h2
    · exact absurd h (numE_err2 h2).1
  · rw [numE_err he] at h; exact absurd h he
def swS (t : TkT) : TkT := ⟨(numE t.e t.xs).2.2.1, (numE t.e t.xs).2.2.2, t.bad || !decide (tkN t / 4294967296 = 0)⟩
def swL (t : TkT) : Nat → TkT
  | 0 => t
  | k + 1 => swS (swL t k)
def swV (t : TkT) (k : Nat) : List Nat := (List.range k).map fun i => tkN (swL t i)
theorem swV_succ (t : TkT) (k : Nat) : swV t (k + 1) = swV t k ++ [tkN (swL t k)] := by simp [swV, List.range_succ]
theorem sw_sound {t : TkT} (hb : (swS t).bad = false) (he : (swS t).e = 0) : t.bad = false ∧ t.e = 0 ∧ t.xs = putB (tkN t) ++ (swS t).xs ∧ tkN t < 4294967296 := by
  obtain ⟨h1, h2⟩ := numE_z0 he
  simp only [swS, Bool.or_eq_false_iff, Bool.not_eq_false', decide_eq_true_eq] at hb
  refine ⟨hb.1, h1, ?_, by omega⟩
  have := numE_inv h2
  unfold tkN swS
  rw [h1]; exact this
theorem swL_sound {t : TkT} : ∀ {k : Nat}, (swL t k).bad = false → (swL t k).e = 0 → t.bad = false ∧ t.e = 0 ∧ t.xs = numsB (swV t k) ++ (swL t k).xs ∧ ∀ n, n ∈ swV t k → n < 4294967296
  | 0, hb, he => ⟨hb, he, by simp [swV, swL, numsB], fun n h => (List.not_mem_nil h).elim⟩
  | k + 1, hb, he => by
    obtain ⟨h1, h2, h3, h4⟩ := sw_sound hb he
    obtain ⟨h5, h6, h7, h8⟩ := swL_sound h1 h2
    refine ⟨h5, h6, ?_, fun n hn => ?_⟩
    · rw [h7, h3, swV_succ, numsB_app, numsB_one, List.append_assoc]; rfl
    · rw [swV_succ, List.mem_append, List.mem_singleton] at hn
      rcases hn with hn | rfl
      · exact h8 n hn
      · exact h4
theorem sw_full {t : TkT} {n : Nat} {r : List UInt8} (he : t.e = 0) (hb : t.bad = false) (hx : t.xs = putB n ++ r) (hn : n < 4294967296) : tkN t = n ∧ swS t = ⟨0, r, false⟩ := by
  have h1 := numE_putB n (by omega) r
  have h2 : numE t.e t.xs = (n, 0, 0, r) := by rw [he, hx]; exact h1
  have h3 : tkN t = n := by unfold tkN; rw [h2]
  refine ⟨h3, ?_⟩
  unfold swS
  rw [h2, hb, h3, decide_eq_true (by omega)]; rfl
theorem swL_full {t : TkT} {l : List Nat} {r : List UInt8} (he : t.e = 0) (hb : t.bad = false) (hx : t.xs = numsB l ++ r) (hl : ∀ n, n ∈ l → n < 4294967296) : ∀ k, k ≤ l.length → swL t k = ⟨0, numsB (l.drop k) ++ r, false⟩ ∧ swV t k = l.take k
  | 0, _ => by
    obtain ⟨e, xs, bad⟩ := t
    simp only at he hb hx
    subst he; subst hb; subst hx
    exact ⟨by simp [swL], rfl⟩
  | k + 1, hk => by
    obtain ⟨h1, h2⟩ := swL_full he hb hx hl k (by omega)
    have h3 : l.drop k = l[k] :: l.drop (k + 1) := List.drop_eq_getElem_cons (by omega)
    have h4 := sw_full (t := swL t k) (n := l[k]) (r := numsB (l.drop (k + 1)) ++ r) (by rw [h1]) (by rw [h1]) (by rw [h1, h3, numsB_cons, List.append_assoc]) (hl _ (List.getElem_mem (by omega)))
    refine ⟨h4.2, ?_⟩
    rw [swV_succ, h2, h4.1, List.take_add_one, List.getElem?_eq_getElem (by omega)]; rfl
def natsS (s : SlotT) : List Nat := [s.ver.toNat, s.at_.toNat, s.end_.toNat, s.items.toNat]
def encS (s : SlotT) : List UInt8 := wrapB (numsB (natsS s))
theorem numsS_len (s : SlotT) : (numsB (natsS s)).length ≤ 44 := numsB_len (natsS s)
theorem firstF_encS (s : SlotT) : firstF (encS s) = (numsB (natsS s), (encS s).length, 0) := by
  have h1 := numsS_len s
  have := firstF_wrap (xs := numsB (natsS s)) (by omega) []
  rw [List.append_nil] at this
  exact this
def vS (f : List UInt8) : Nat := (numE 0 f).1
def tS (f : List UInt8) : TkT := ⟨(numE 0 f).2.2.1, (numE 0 f).2.2.2, false⟩
def endS (f : List UInt8) : TkT := swL (tS f) 3
def slotF (f : List UInt8) : SlotT := ⟨UInt64.ofNat (vS f), UInt32.ofNat (tkN (tS f)), UInt32.ofNat (tkN (swL (tS f) 1)), UInt32.ofNat (tkN (swL (tS f) 2))⟩
def okS (f : List UInt8) : Bool := !(endS f).bad && (decide ((endS f).e = 0) && decide ((endS f).xs.length = 0))
theorem slotF_sound {f : List UInt8} (h : okS f = true) : numsB (natsS (slotF f)) = f := by
  unfold okS at h
  simp only [Bool.and_eq_true, Bool.not_eq_true', decide_eq_true_eq, List.length_eq_zero_iff] at h
  obtain ⟨h1, h2, h3⟩ := h
  obtain ⟨h4, h5, h6, h7⟩ := swL_sound (t := tS f) (k := 3) h1 h2
  obtain ⟨h8, h9⟩ := numE_z0 h5
  have h10 := numE_inv h9
  have h11 := numE_lt 0 f
  have e3 : (swL (tS f) 3).xs = [] := h3
  rw [e3, List.append_nil] at h6
  have e4 : swV (tS f) 3 = [tkN (tS f), tkN (swL (tS f) 1), tkN (swL (tS f) 2)] := rfl
  rw [e4] at h6 h7
  have n1 := h7 (tkN (tS f)) (by simp)
  have n2 := h7 (tkN (swL (tS f) 1)) (by simp)
  have n3 := h7 (tkN (swL (tS f) 2)) (by simp)
  have e5 : natsS (slotF f) = vS f :: [tkN (tS f), tkN (swL (tS f) 1), tkN (swL (tS f) 2)] := by
    unfold natsS slotF
    simp only [List.cons.injEq, and_true]
    refine ⟨?_, ?_, ?_, ?_⟩
    · unfold vS; simp; omega
    · simp; omega
    · simp; omega
    · simp; omega
  rw [e5, numsB_cons, ← h6]
  exact h10.symm
theorem slotF_full (s : SlotT) : okS (numsB (natsS s)) = true ∧ slotF (numsB (natsS s)) = s := by
  have u0 := s.ver.toNat_lt
  have u1 := s.at_.toNat_lt
  have u2 := s.end_.toNat_lt
  have u3 := s.items.toNat_lt
  have e0 : numsB (natsS s) = putB s.ver.toNat ++ numsB [s.at_.toNat, s.end_.toNat, s.items.toNat] := numsB_cons _ _
  have h1 := numE_putB s.ver.toNat (by omega) (numsB [s.at_.toNat, s.end_.toNat, s.items.toNat])
  rw [← e0] at h1
  generalize numsB (natsS s) = f at h1
  have hv : vS f = s.ver.toNat := by unfold vS; rw [h1]
  have ht : tS f = ⟨0, numsB [s.at_.toNat, s.end_.toNat, s.items.toNat], false⟩ := by unfold tS; rw [h1]
  have hl := swL_full (t := tS f) (l := [s.at_.toNat, s.end_.toNat, s.items.toNat]) (r := []) (by rw [ht]) (by rw [ht]) (by rw [ht, List.append_nil]) (by
    intro n hn
    simp only [List.mem_cons, List.not_mem_nil, or_false] at hn
    rcases hn with rfl | rfl | rfl <;> omega)
  obtain ⟨h3, h4⟩ := hl 3 (by simp)
  have e4 : swV (tS f) 3 = [tkN (tS f), tkN (swL (tS f) 1), tkN (swL (tS f) 2)] := rfl
  rw [e4] at h4
  simp only [List.take_succ_cons, List.take_zero, List.cons.injEq, and_true] at h4
  obtain ⟨g1, g2, g3⟩ := h4
  constructor
  · unfold okS endS
    rw [h3]; rfl
  · unfold slotF
    rw [hv, g1, g2, g3]
    obtain ⟨a, b, c, d⟩ := s
    simp
def DecS (b : List UInt8) (x : SlotT) (q : Bool) : Prop := (q = true ∧ encS x = b) ∨ (q = false ∧ ∀ s, encS s ≠ b)
theorem encS_inj {a b : SlotT} (h : encS a = encS b) : a = b := by
  have h1 := firstF_encS a
  rw [h, firstF_encS b] at h1
  injection h1 with h2 _
  have := slotF_full a
  rw [← h2] at this
  exact this.2.symm.trans (slotF_full b).2
theorem DecS.unique {b : List UInt8} {x y : SlotT} {p q : Bool} (h : DecS b x p) (k : DecS b y q) : p = q ∧ (p = true → x = y) := by
  rcases h with ⟨h1, h2⟩ | ⟨h1, h2⟩ <;> rcases k with ⟨k1, k2⟩ | ⟨k1, k2⟩
  · exact ⟨h1.trans k1.symm, fun _ => encS_inj (h2.trans k2.symm)⟩
  · exact absurd h2 (k2 x)
  · exact absurd k2 (h2 y)
  · exact ⟨h1.trans k1.symm, fun e => by rw [h1] at e; cases e⟩
theorem decS_no {b : List UInt8} (x : SlotT) (h : ¬ ((firstF b).2.2 = 0 ∧ (firstF b).2.1 = b.length)) : DecS b x false :=
  .inr ⟨rfl, fun s e => h (by rw [← e, firstF_encS]; exact ⟨rfl, rfl⟩)⟩
theorem decS_F {b f : List UInt8} {k : Nat} (hF : firstF b = (f, k, 0)) (hk : k = b.length) : (okS f = true → encS (slotF f) = b) ∧ (okS f = false → ∀ s, encS s ≠ b) := by
  refine ⟨fun h => ?_, fun h s e => ?_⟩
  · have h1 := firstF_ok (b := b) (by rw [hF])
    rw [hF] at h1
    dsimp only at h1
    unfold encS
    rw [slotF_sound h, ← h1.1, hk, List.take_length]
  · rw [← e, firstF_encS] at hF
    injection hF with h2 _
    rw [← h2, (slotF_full s).1] at h; cases h
theorem natsS_64 (s : SlotT) : ∀ n, n ∈ natsS s → n < 18446744073709551616 := by
  have u0 := s.ver.toNat_lt
  have u1 := s.at_.toNat_lt
  have u2 := s.end_.toNat_lt
  have u3 := s.items.toNat_lt
  intro n hn
  simp only [natsS, List.mem_cons, List.not_mem_nil, or_false] at hn
  rcases hn with rfl | rfl | rfl | rfl <;> omega
end Go.Tg

