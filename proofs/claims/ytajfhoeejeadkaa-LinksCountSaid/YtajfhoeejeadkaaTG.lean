/- Proved: the given statement LinksCountSaid: the Go law LinksCount returns true for every input that it is asked of. No conditions. -/
import Derived.Test.YtajfhoeejeadkaaInst
import Derived.Test.YtajfhoeejeadkaaAuto
import Derived.Test.YtajfhoeejeadkaaTF
set_option linter.unusedVariables false
set_option linter.unusedSimpArgs false
set_option maxRecDepth 100000
set_option maxHeartbeats 8000000
namespace Go.Tg
open Go Go.Proofs
theorem ok320 : okR 3 20 := by unfold okR; omega
theorem law_LinksCount (a : Option Addr) (c : Nat) (l : List AcT) (w : World) (hr0 : AcR (full w) a c l) : SpecV Try.prog 5 #[.slice a l.length c] w (.bool true) := by
  have H := St.start (sat_full w)
  have hs := sat_full w
  generalize hh : full w = h0 at H hr0 hs
  have hS := hr0.1
  have hln := hS.lenM
  have hN := PoI.new ok320
  unfold SpecV
  refine calls_of Try.func5 rfl Try.ntmps5 (by simp) ?_
  repeat' (first | ((first | refine WL.p rfl ?_ | refine WL.u ?_ | refine WL.g rfl rfl ?_ | refine WL.gu rfl ?_); first | (refine opk 1 rfl ?_; first | (refine ost_V H rfl (alive21 _) rfl ?_; clear H; intro wk H) | (refine ost_C H rfl (po_NewE 3 20 ok320 _ _ (sat_full _)) rfl ?_; clear H; rintro vk wk hfk Lk ⟨-, pb, mb, rfl, rfl⟩ H; simp only [List.cons_append, List.nil_append] at H)) | refine pvQ ?_ | (refine opk 3 rfl ?_; first | (refine ost_cmp rfl rfl rfl rfl (fun hc => ?_) (fun hc => ?_) <;> (simp only [cmpP] at hc; try exact prIQ)) | (refine ost_ptEq rfl rfl rfl (fun hc => ?_) (fun hc => ?_) <;> try (simp at hc; done)) | (refine ost_ptNe rfl rfl rfl (fun hc => ?_) (fun hc => ?_) <;> try (simp at hc; done))) | (refine opk 4 rfl ?_; (refine ost_cmp rfl rfl rfl rfl (fun hc => ?_) (fun hc => ?_) <;> (simp only [cmpP] at hc; try exact prIQ))) | (refine opk 8 rfl ?_; (refine ost_storeW H rfl rfl rfl rfl lQ ixQ lQ okQ ?_; clear H; intro wk H; simp only [List.set_cons_zero, List.set_cons_succ, Nat.reduceAdd] at H)) | (refine opk 9 rfl ?_; (refine ost_allocA H rfl ?_; clear H; intro bk wk H))) | refine Wc.seq ?_ | refine then_n ?_ | refine WL.nil ?_ | refine Wc.region ?_ | refine Wc.block ?_ | refine then_r ?_ | refine then_e ?_ | refine inb_e rfl ?_ | refine inb_o rfl ?_ | refine inb_n ?_ | refine inb_r ?_ | refine Wc.skip ?_ | refine Wc.exit ?_ | refine Wc.ret ?_ | refine Wc.cond_true rfl ?_ | refine Wc.cond_false rfl ?_ | refine WL.skp rfl rfl ?_ | refine WL.sku rfl ?_)
  refine Wc.loopE (fun s0 m s w' => ∃ (i : Nat) (ls : LsM) (es : List EnT) (clk : Nat), m = l.length - i ∧ i ≤ l.length ∧ Agree [2, 4, 5, 6, 7, 8, 14, 15, 16, 17, 18, 19, 20, 21, 22, 23, 24, 25, 26, 27, 28, 29, 30, 31, 32, 33, 34, 35, 36, 37, 38, 39, 40, 41, 42, 43, 44, 45, 46, 47, 48, 49, 50, 51, 52, 53, 54, 55, 56, 57, 58, 59, 60, 61, 62, 63, 64, 65, 66, 67, 68, 69, 70, 71, 72, 73, 74, 75, 76, 77, 78, 79, 80, 81, 82, 83, 84, 85, 86, 87, 88, 89, 90, 91, 92, 93, 94] s s0 ∧ s 4 = .int .i64 i ∧ PoI 3 20 ls es clk ∧
    St w [] h0 h0 [poH pb mb 3 20 ls.length es clk] w') l.length ⟨0, [], [], 0, rfl, by omega, Agree.refl _ _, rfl, hN, H⟩ ?_
  clear H hN
  rintro m s w' ⟨i, ls, es, clk, rfl, hi, hA9, e1, hN, H⟩
  obtain ⟨j, rfl⟩ := hA9.env1 e1
  clear hA9 e1
  by_cases hlt : i < l.length ∧ i < 60
  · obtain ⟨b, off, l9, T, fr, e1, eb, eg⟩ := hS.getM (by decide) (Nat.lt_of_le_of_lt (Nat.zero_le _) hlt.1)
    subst e1
    have g9 := eg (i : Int).toNat i hlt.1 (by omega)
    obtain ⟨⟨av, cv, ev, hb⟩, hn1, hn2⟩ := hr0.2 _ (List.getElem_mem hlt.1)
    have hx9 : ∃ x, x = l[i] := ⟨_, rfl⟩
    obtain ⟨x, hx9⟩ := hx9
    rw [← hx9] at g9 ev hb hn1 hn2
    clear hx9
    have lr : (acL x).length = 8 := rfl
    have q0 : (acL x)[0 + 0]? = some (.int .u8 x.kd.toNat) := rfl
    have q1 : (acL x)[0 + 1]? = some (.int .u8 x.k.1.toNat) := rfl
    have q2 : (acL x)[0 + 2]? = some (.int .u8 x.k.2.toNat) := rfl
    have q3 : (acL x)[0 + 3]? = some (.int .i64 x.n) := rfl
    have q4 : (acL x)[0 + 4]? = some (.int .i64 x.how) := rfl
    have q5 : (acL x)[0 + 5]? = some (.int .u16 x.at_.toNat) := rfl
    have q6 : (acL x)[0 + 6]? = some (.int .u8 x.by_.toNat) := rfl
    have q7 : (acL x)[0 + 7]? = some (.slice av x.b.length cv) := by rw [← ev]; rfl
    have u0 := x.kd.toNat_lt
    have ho8 : ∀ u ∈ acL x, u.oneCell' = true := by
      intro u hu
      have : (Value.slice av x.b.length cv).oneCell' = true := rfl
      rw [← ev] at this
      simp only [acL, List.mem_cons, List.not_mem_nil, or_false] at hu
      rcases hu with rfl | rfl | rfl | rfl | rfl | rfl | rfl | rfl <;> first | exact this | rfl
    generalize acL x = row at g9 lr q0 q1 q2 q3 q4 q5 q6 q7 ho8
    clear eg
    by_cases hbig : 600 < x.b.length
    · repeat' (first | ((first | refine WL.p rfl ?_ | refine WL.u ?_ | refine WL.g rfl rfl ?_ | refine WL.gu rfl ?_); first | refine pvQ ?_ | (refine opk 3 rfl ?_; first | (refine ost_cmp rfl rfl rfl rfl (fun hc => ?_) (fun hc => ?_) <;> (simp only [cmpP] at hc; try exact prIQ)) | (refine ost_ptEq rfl rfl rfl (fun hc => ?_) (fun hc => ?_) <;> try (simp at hc; done)) | (refine ost_ptNe rfl rfl rfl (fun hc => ?_) (fun hc => ?_) <;> try (simp at hc; done))) | (refine opk 4 rfl ?_; (refine ost_cmp rfl rfl rfl rfl (fun hc => ?_) (fun hc => ?_) <;> (simp only [cmpP] at hc; try exact prIQ))) | (refine opk 8 rfl ?_; (refine ost_storeW H rfl rfl rfl rfl lQ ixQ lQ okQ ?_; clear H; intro wk H; simp only [List.set_cons_zero, List.set_cons_succ, Nat.reduceAdd] at H)) | (refine opk 9 rfl ?_; (refine ost_allocA H rfl ?_; clear H; intro bk wk H))) | refine Wc.seq ?_ | refine then_n ?_ | refine WL.nil ?_ | refine Wc.region ?_ | refine Wc.block ?_ | refine then_r ?_ | refine then_e ?_ | refine inb_e rfl ?_ | refine inb_o rfl ?_ | refine inb_n ?_ | refine inb_r ?_ | refine Wc.skip ?_ | refine Wc.exit ?_ | refine Wc.ret ?_ | refine Wc.cond_true rfl ?_ | refine Wc.cond_false rfl ?_ | refine WL.skp rfl rfl ?_ | refine WL.sku rfl ?_)
      exact ⟨l.length - (i + 1), by omega, i + 1, ls, es, clk, rfl, by omega, by (repeat' (first | exact Agree.refl _ _ | exact Agree.havoc | refine Agree.upd rfl ?_ | refine Agree.hav2 rfl ?_)), rfl, hN, H.pick 1 rfl⟩
    · by_cases hk3 : x.kd.toNat % 6 = 3
      · have hC := fun g w HO => po_ArriveA pb mb 3 20 ls es clk x.k x.n hN g w HO
        generalize arrM 3 ls x.k x.n = Z at hC
        repeat' (first | ((first | refine WL.p rfl ?_ | refine WL.u ?_ | refine WL.g rfl rfl ?_ | refine WL.gu rfl ?_); first | (refine opk 1 rfl ?_; (refine ost_O H rfl idx1 (fun HO => hC _ _ HO) rfl ?_; clear H; rintro vk wk hfk Lk ⟨-, a7, c7, es7, clk7, rfl, rfl, hN7⟩ H; simp only [List.cons_append, List.nil_append, List.eraseIdx_cons_zero, List.eraseIdx_cons_succ] at H)) | refine pvQ ?_ | (refine opk 3 rfl ?_; first | (refine ost_cmp rfl rfl rfl rfl (fun hc => ?_) (fun hc => ?_) <;> (simp only [cmpP] at hc; try exact prIQ)) | (refine ost_ptEq rfl rfl rfl (fun hc => ?_) (fun hc => ?_) <;> try (simp at hc; done)) | (refine ost_ptNe rfl rfl rfl (fun hc => ?_) (fun hc => ?_) <;> try (simp at hc; done))) | (refine opk 4 rfl ?_; (refine ost_cmp rfl rfl rfl rfl (fun hc => ?_) (fun hc => ?_) <;> (simp only [cmpP] at hc; try exact prIQ))) | (refine opk 8 rfl ?_; (refine ost_storeW H rfl rfl rfl rfl lQ ixQ lQ okQ ?_; clear H; intro wk H; simp only [List.set_cons_zero, List.set_cons_succ, Nat.reduceAdd] at H)) | (refine opk 9 rfl ?_; (refine ost_allocA H rfl ?_; clear H; intro bk wk H))) | refine Wc.seq ?_ | refine then_n ?_ | refine WL.nil ?_ | refine Wc.region ?_ | refine Wc.block ?_ | refine then_r ?_ | refine then_e ?_ | refine inb_e rfl ?_ | refine inb_o rfl ?_ | refine inb_n ?_ | refine inb_r ?_ | refine Wc.skip ?_ | refine Wc.exit ?_ | refine Wc.ret ?_ | refine Wc.cond_true rfl ?_ | refine Wc.cond_false rfl ?_ | refine WL.skp rfl rfl ?_ | refine WL.sku rfl ?_)
        clear hN hC
        generalize Z.2.2 = ls7 at H hN7
        replace H : St w [] h0 h0 [poH pb mb 3 20 ls7.length es7 clk7, .blk bk (.cells row.toArray 33 (0, 0))] wk := H.picks [1, 2] rfl (by decide)
        have hNl := hN7.len
        have hNe := hN7.le
        have hsum := sum_all hN7.on
        have hmn := fun f t => cntM_le hNe f t
        refine Wc.loopE (fun s0 m s w' => ∃ f : Nat, m = 3 - f ∧ f ≤ 3 ∧ Agree [6, 7, 8, 72, 73, 74, 75, 76, 77, 78, 79, 80, 81, 82, 83, 84, 85, 86] s s0 ∧ s 72 = .int .u8 f ∧ s 6 = .int .i64 (sumF ls7 f : Nat) ∧ St w [] h0 h0 [poH pb mb 3 20 ls7.length es7 clk7, .blk bk (.cells row.toArray 33 (0, 0))] w') 3 ⟨0, rfl, by omega, Agree.refl _ _, rfl, rfl, H⟩ ?_
        clear H
        rintro m s w' ⟨f, rfl, hf, hA9, e1, e2, H⟩
        obtain ⟨j1, rfl⟩ := hA9.env2 e1 e2
        clear hA9 e1 e2
        have hF := sumF_le hNe f
        by_cases hf3 : f < 3
        · repeat' (first | ((first | refine WL.p rfl ?_ | refine WL.u ?_ | refine WL.g rfl rfl ?_ | refine WL.gu rfl ?_); first | refine pvQ ?_ | (refine opk 3 rfl ?_; first | (refine ost_cmp rfl rfl rfl rfl (fun hc => ?_) (fun hc => ?_) <;> (simp only [cmpP] at hc; try exact prIQ)) | (refine ost_ptEq rfl rfl rfl (fun hc => ?_) (fun hc => ?_) <;> try (simp at hc; done)) | (refine ost_ptNe rfl rfl rfl (fun hc => ?_) (fun hc => ?_) <;> try (simp at hc; done))) | (refine opk 4 rfl ?_; (refine ost_cmp rfl rfl rfl rfl (fun hc => ?_) (fun hc => ?_) <;> (simp only [cmpP] at hc; try exact prIQ))) | (refine opk 8 rfl ?_; (refine ost_storeW H rfl rfl rfl rfl lQ ixQ lQ okQ ?_; clear H; intro wk H; simp only [List.set_cons_zero, List.set_cons_succ, Nat.reduceAdd] at H)) | (refine opk 9 rfl ?_; (refine ost_allocA H rfl ?_; clear H; intro bk wk H))) | refine Wc.seq ?_ | refine then_n ?_ | refine WL.nil ?_ | refine Wc.region ?_ | refine Wc.block ?_ | refine then_r ?_ | refine then_e ?_ | refine inb_e rfl ?_ | refine inb_o rfl ?_ | refine inb_n ?_ | refine inb_r ?_ | refine Wc.skip ?_ | refine Wc.exit ?_ | refine Wc.ret ?_ | refine Wc.cond_true rfl ?_ | refine Wc.cond_false rfl ?_ | refine WL.skp rfl rfl ?_ | refine WL.sku rfl ?_)
          refine Wc.loopE (fun s0 m s w' => ∃ t : Nat, m = 3 - t ∧ t ≤ 3 ∧ Agree [6, 8, 75, 76, 77, 78, 79, 80, 81, 82, 83, 84, 85] s s0 ∧ s 75 = .int .u8 t ∧ s 6 = .int .i64 (sumF ls7 f + sumT ls7 f t : Nat) ∧ St w [] h0 h0 [poH pb mb 3 20 ls7.length es7 clk7, .blk bk (.cells row.toArray 33 (0, 0))] w') 3 ⟨0, rfl, by omega, Agree.refl _ _, rfl, rfl, H⟩ ?_
          clear H
          rintro m s w' ⟨t, rfl, ht, hA9, e1, e2, H⟩
          obtain ⟨j2, rfl⟩ := hA9.env2 e1 e2
          clear hA9 e1 e2
          have hT := sumT_le hNe f t
          have hct := hmn f t
          by_cases ht3 : t < 3
          · have hnx : sumF ls7 f + sumT ls7 f (t + 1) = sumF ls7 f + sumT ls7 f t + cntM ls7 f t := by rw [sumT]; omega
            repeat' (first | ((first | refine WL.p rfl ?_ | refine WL.u ?_ | refine WL.g rfl rfl ?_ | refine WL.gu rfl ?_); first | (refine opk 1 rfl ?_; (refine ost_C H rfl (po_WaitsN pb mb 3 20 ls7 es7 clk7 f t hf3 ht3 hN7 _ H (i := 0) rfl _ (sat_full _)) rfl ?_; clear H; rintro vk wk hfk Lk ⟨a9, c9, lv9, rfl, rfl⟩ H; simp only [List.cons_append, List.nil_append] at H)) | refine pvQ ?_ | (refine opk 3 rfl ?_; first | (refine ost_cmp rfl rfl rfl rfl (fun hc => ?_) (fun hc => ?_) <;> (simp only [cmpP] at hc; try exact prIQ)) | (refine ost_ptEq rfl rfl rfl (fun hc => ?_) (fun hc => ?_) <;> try (simp at hc; done)) | (refine ost_ptNe rfl rfl rfl (fun hc => ?_) (fun hc => ?_) <;> try (simp at hc; done))) | (refine opk 4 rfl ?_; (refine ost_cmp rfl rfl rfl rfl (fun hc => ?_) (fun hc => ?_) <;> (simp only [cmpP] at hc; try exact prIQ))) | (refine opk 8 rfl ?_; (refine ost_storeW H rfl rfl rfl rfl lQ ixQ lQ okQ ?_; clear H; intro wk H; simp only [List.set_cons_zero, List.set_cons_succ, Nat.reduceAdd] at H)) | (refine opk 9 rfl ?_; (refine ost_allocA H rfl ?_; clear H; intro bk wk H))) | refine Wc.seq ?_ | refine then_n ?_ | refine WL.nil ?_ | refine Wc.region ?_ | refine Wc.block ?_ | refine then_r ?_ | refine then_e ?_ | refine inb_e rfl ?_ | refine inb_o rfl ?_ | refine inb_n ?_ | refine inb_r ?_ | refine Wc.skip ?_ | refine Wc.exit ?_ | refine Wc.ret ?_ | refine Wc.cond_true rfl ?_ | refine Wc.cond_false rfl ?_ | refine WL.skp rfl rfl ?_ | refine WL.sku rfl ?_)
            refine ⟨3 - (t + 1), by omega, t + 1, rfl, by omega, by (repeat' (first | exact Agree.refl _ _ | exact Agree.havoc | refine Agree.upd rfl ?_ | refine Agree.hav2 rfl ?_)), rfl, by rw [hnx]; rfl, H.picks [2, 3] rfl (by decide)⟩
          · obtain rfl : t = 3 := by omega
            have hnx : sumF ls7 (f + 1) = sumF ls7 f + sumT ls7 f 3 := rfl
            repeat' (first | ((first | refine WL.p rfl ?_ | refine WL.u ?_ | refine WL.g rfl rfl ?_ | refine WL.gu rfl ?_); first | refine pvQ ?_ | (refine opk 3 rfl ?_; first | (refine ost_cmp rfl rfl rfl rfl (fun hc => ?_) (fun hc => ?_) <;> (simp only [cmpP] at hc; try exact prIQ)) | (refine ost_ptEq rfl rfl rfl (fun hc => ?_) (fun hc => ?_) <;> try (simp at hc; done)) | (refine ost_ptNe rfl rfl rfl (fun hc => ?_) (fun hc => ?_) <;> try (simp at hc; done))) | (refine opk 4 rfl ?_; (refine ost_cmp rfl rfl rfl rfl (fun hc => ?_) (fun hc => ?_) <;> (simp only [cmpP] at hc; try exact prIQ))) | (refine opk 8 rfl ?_; (refine ost_storeW H rfl rfl rfl rfl lQ ixQ lQ okQ ?_; clear H; intro wk H; simp only [List.set_cons_zero, List.set_cons_succ, Nat.reduceAdd] at H)) | (refine opk 9 rfl ?_; (refine ost_allocA H rfl ?_; clear H; intro bk wk H))) | refine Wc.seq ?_ | refine then_n ?_ | refine WL.nil ?_ | refine Wc.region ?_ | refine Wc.block ?_ | refine then_r ?_ | refine then_e ?_ | refine inb_e rfl ?_ | refine inb_o rfl ?_ | refine inb_n ?_ | refine inb_r ?_ | refine Wc.skip ?_ | refine Wc.exit ?_ | refine Wc.ret ?_ | refine Wc.cond_true rfl ?_ | refine Wc.cond_false rfl ?_ | refine WL.skp rfl rfl ?_ | refine WL.sku rfl ?_)
            exact ⟨3 - (f + 1), by omega, f + 1, rfl, by omega, by (repeat' (first | exact Agree.refl _ _ | exact Agree.havoc | refine Agree.upd rfl ?_ | refine Agree.hav2 rfl ?_)), rfl, by rw [hnx]; rfl, H⟩
        · obtain rfl : f = 3 := by omega
          rw [hsum]
          repeat' (first | ((first | refine WL.p rfl ?_ | refine WL.u ?_ | refine WL.g rfl rfl ?_ | refine WL.gu rfl ?_); first | (refine opk 1 rfl ?_; (refine ost_V H rfl (po_LenL pb _ _ _ _ _ _ (sat_full _) (H.poBlk (i := 0) rfl)) rfl ?_; clear H; intro wk H)) | refine pvQ ?_ | (refine opk 3 rfl ?_; first | (refine ost_cmp rfl rfl rfl rfl (fun hc => ?_) (fun hc => ?_) <;> (simp only [cmpP] at hc; try exact prIQ)) | (refine ost_ptEq rfl rfl rfl (fun hc => ?_) (fun hc => ?_) <;> try (simp at hc; done)) | (refine ost_ptNe rfl rfl rfl (fun hc => ?_) (fun hc => ?_) <;> try (simp at hc; done))) | (refine opk 4 rfl ?_; (refine ost_cmp rfl rfl rfl rfl (fun hc => ?_) (fun hc => ?_) <;> (simp only [cmpP] at hc; try exact prIQ))) | (refine opk 8 rfl ?_; (refine ost_storeW H rfl rfl rfl rfl lQ ixQ lQ okQ ?_; clear H; intro wk H; simp only [List.set_cons_zero, List.set_cons_succ, Nat.reduceAdd] at H)) | (refine opk 9 rfl ?_; (refine ost_allocA H rfl ?_; clear H; intro bk wk H))) | refine Wc.seq ?_ | refine then_n ?_ | refine WL.nil ?_ | refine Wc.region ?_ | refine Wc.block ?_ | refine then_r ?_ | refine then_e ?_ | refine inb_e rfl ?_ | refine inb_o rfl ?_ | refine inb_n ?_ | refine inb_r ?_ | refine Wc.skip ?_ | refine Wc.exit ?_ | refine Wc.ret ?_ | refine Wc.cond_true rfl ?_ | refine Wc.cond_false rfl ?_ | refine WL.skp rfl rfl ?_ | refine WL.sku rfl ?_)
          all_goals first | (exfalso; omega) | exact ⟨l.length - (i + 1), by omega, i + 1, ls7, es7, clk7, rfl, by omega, by (repeat' (first | exact Agree.refl _ _ | exact Agree.havoc | refine Agree.upd rfl ?_ | refine Agree.hav2 rfl ?_)), rfl, hN7, H.pick 0 rfl⟩
      · by_cases hk4 : x.kd.toNat % 6 = 4 ∨ x.kd.toNat % 6 = 5
        · have hC := fun g w HO => po_HarmA pb mb 3 20 ls es clk x.k x.n x.how x.at_ x.by_ hN g w HO
          generalize harmM 3 20 ls x.k x.n x.how x.at_ x.by_ = Z at hC
          repeat' (first | ((first | refine WL.p rfl ?_ | refine WL.u ?_ | refine WL.g rfl rfl ?_ | refine WL.gu rfl ?_); first | (refine opk 1 rfl ?_; (refine ost_O H rfl idx1 (fun HO => hC _ _ HO) rfl ?_; clear H; rintro vk wk hfk Lk ⟨-, es7, clk7, rfl, rfl, hN7⟩ H; simp only [List.cons_append, List.nil_append, List.eraseIdx_cons_zero, List.eraseIdx_cons_succ] at H)) | refine pvQ ?_ | (refine opk 3 rfl ?_; first | (refine ost_cmp rfl rfl rfl rfl (fun hc => ?_) (fun hc => ?_) <;> (simp only [cmpP] at hc; try exact prIQ)) | (refine ost_ptEq rfl rfl rfl (fun hc => ?_) (fun hc => ?_) <;> try (simp at hc; done)) | (refine ost_ptNe rfl rfl rfl (fun hc => ?_) (fun hc => ?_) <;> try (simp at hc; done))) | (refine opk 4 rfl ?_; (refine ost_cmp rfl rfl rfl rfl (fun hc => ?_) (fun hc => ?_) <;> (simp only [cmpP] at hc; try exact prIQ))) | (refine opk 8 rfl ?_; (refine ost_storeW H rfl rfl rfl rfl lQ ixQ lQ okQ ?_; clear H; intro wk H; simp only [List.set_cons_zero, List.set_cons_succ, Nat.reduceAdd] at H)) | (refine opk 9 rfl ?_; (refine ost_allocA H rfl ?_; clear H; intro bk wk H))) | refine Wc.seq ?_ | refine then_n ?_ | refine WL.nil ?_ | refine Wc.region ?_ | refine Wc.block ?_ | refine then_r ?_ | refine then_e ?_ | refine inb_e rfl ?_ | refine inb_o rfl ?_ | refine inb_n ?_ | refine inb_r ?_ | refine Wc.skip ?_ | refine Wc.exit ?_ | refine Wc.ret ?_ | refine Wc.cond_true rfl ?_ | refine Wc.cond_false rfl ?_ | refine WL.skp rfl rfl ?_ | refine WL.sku rfl ?_)
          all_goals first | (exfalso; omega) | skip
          all_goals (clear hN hC; generalize Z.2 = ls7 at H hN7)
          all_goals (replace H : St w [] h0 h0 [poH pb mb 3 20 ls7.length es7 clk7, .blk bk (.cells row.toArray 33 (0, 0))] wk := H)
          all_goals (clear hk4)
          have hNl := hN7.len
          have hNe := hN7.le
          have hsum := sum_all hN7.on
          have hmn := fun f t => cntM_le hNe f t
          refine Wc.loopE (fun s0 m s w' => ∃ f : Nat, m = 3 - f ∧ f ≤ 3 ∧ Agree [6, 7, 8, 72, 73, 74, 75, 76, 77, 78, 79, 80, 81, 82, 83, 84, 85, 86] s s0 ∧ s 72 = .int .u8 f ∧ s 6 = .int .i64 (sumF ls7 f : Nat) ∧ St w [] h0 h0 [poH pb mb 3 20 ls7.length es7 clk7, .blk bk (.cells row.toArray 33 (0, 0))] w') 3 ⟨0, rfl, by omega, Agree.refl _ _, rfl, rfl, H⟩ ?_
          clear H
          rintro m s w' ⟨f, rfl, hf, hA9, e1, e2, H⟩
          obtain ⟨j1, rfl⟩ := hA9.env2 e1 e2
          clear hA9 e1 e2
          have hF := sumF_le hNe f
          by_cases hf3 : f < 3
          · repeat' (first | ((first | refine WL.p rfl ?_ | refine WL.u ?_ | refine WL.g rfl rfl ?_ | refine WL.gu rfl ?_); first | refine pvQ ?_ | (refine opk 3 rfl ?_; first | (refine ost_cmp rfl rfl rfl rfl (fun hc => ?_) (fun hc => ?_) <;> (simp only [cmpP] at hc; try exact prIQ)) | (refine ost_ptEq rfl rfl rfl (fun hc => ?_) (fun hc => ?_) <;> try (simp at hc; done)) | (refine ost_ptNe rfl rfl rfl (fun hc => ?_) (fun hc => ?_) <;> try (simp at hc; done))) | (refine opk 4 rfl ?_; (refine ost_cmp rfl rfl rfl rfl (fun hc => ?_) (fun hc => ?_) <;> (simp only [cmpP] at hc; try exact prIQ))) | (refine opk 8 rfl ?_; (refine ost_storeW H rfl rfl rfl rfl lQ ixQ lQ okQ ?_; clear H; intro wk H; simp only [List.set_cons_zero, List.set_cons_succ, Nat.reduceAdd] at H)) | (refine opk 9 rfl ?_; (refine ost_allocA H rfl ?_; clear H; intro bk wk H))) | refine Wc.seq ?_ | refine then_n ?_ | refine WL.nil ?_ | refine Wc.region ?_ | refine Wc.block ?_ | refine then_r ?_ | refine then_e ?_ | refine inb_e rfl ?_ | refine inb_o rfl ?_ | refine inb_n ?_ | refine inb_r ?_ | refine Wc.skip ?_ | refine Wc.exit ?_ | refine Wc.ret ?_ | refine Wc.cond_true rfl ?_ | refine Wc.cond_false rfl ?_ | refine WL.skp rfl rfl ?_ | refine WL.sku rfl ?_)
            refine Wc.loopE (fun s0 m s w' => ∃ t : Nat, m = 3 - t ∧ t ≤ 3 ∧ Agree [6, 8, 75, 76, 77, 78, 79, 80, 81, 82, 83, 84, 85] s s0 ∧ s 75 = .int .u8 t ∧ s 6 = .int .i64 (sumF ls7 f + sumT ls7 f t : Nat) ∧ St w [] h0 h0 [poH pb mb 3 20 ls7.length es7 clk7, .blk bk (.cells row.toArray 33 (0, 0))] w') 3 ⟨0, rfl, by omega, Agree.refl _ _, rfl, rfl, H⟩ ?_
            clear H
            rintro m s w' ⟨t, rfl, ht, hA9, e1, e2, H⟩
            obtain ⟨j2, rfl⟩ := hA9.env2 e1 e2
            clear hA9 e1 e2
            have hT := sumT_le hNe f t
            have hct := hmn f t
            by_cases ht3 : t < 3
            · have hnx : sumF ls7 f + sumT ls7 f (t + 1) = sumF ls7 f + sumT ls7 f t + cntM ls7 f t := by rw [sumT]; omega
              repeat' (first | ((first | refine WL.p rfl ?_ | refine WL.u ?_ | refine WL.g rfl rfl ?_ | refine WL.gu rfl ?_); first | (refine opk 1 rfl ?_; (refine ost_C H rfl (po_WaitsN pb mb 3 20 ls7 es7 clk7 f t hf3 ht3 hN7 _ H (i := 0) rfl _ (sat_full _)) rfl ?_; clear H; rintro vk wk hfk Lk ⟨a9, c9, lv9, rfl, rfl⟩ H; simp only [List.cons_append, List.nil_append] at H)) | refine pvQ ?_ | (refine opk 3 rfl ?_; first | (refine ost_cmp rfl rfl rfl rfl (fun hc => ?_) (fun hc => ?_) <;> (simp only [cmpP] at hc; try exact prIQ)) | (refine ost_ptEq rfl rfl rfl (fun hc => ?_) (fun hc => ?_) <;> try (simp at hc; done)) | (refine ost_ptNe rfl rfl rfl (fun hc => ?_) (fun hc => ?_) <;> try (simp at hc; done))) | (refine opk 4 rfl ?_; (refine ost_cmp rfl rfl rfl rfl (fun hc => ?_) (fun hc => ?_) <;> (simp only [cmpP] at hc; try exact prIQ))) | (refine opk 8 rfl ?_; (refine ost_storeW H rfl rfl rfl rfl lQ ixQ lQ okQ ?_; clear H; intro wk H; simp only [List.set_cons_zero, List.set_cons_succ, Nat.reduceAdd] at H)) | (refine opk 9 rfl ?_; (refine ost_allocA H rfl ?_; clear H; intro bk wk H))) | refine Wc.seq ?_ | refine then_n ?_ | refine WL.nil ?_ | refine Wc.region ?_ | refine Wc.block ?_ | refine then_r ?_ | refine then_e ?_ | refine inb_e rfl ?_ | refine inb_o rfl ?_ | refine inb_n ?_ | refine inb_r ?_ | refine Wc.skip ?_ | refine Wc.exit ?_ | refine Wc.ret ?_ | refine Wc.cond_true rfl ?_ | refine Wc.cond_false rfl ?_ | refine WL.skp rfl rfl ?_ | refine WL.sku rfl ?_)
              refine ⟨3 - (t + 1), by omega, t + 1, rfl, by omega, by (repeat' (first | exact Agree.refl _ _ | exact Agree.havoc | refine Agree.upd rfl ?_ | refine Agree.hav2 rfl ?_)), rfl, by rw [hnx]; rfl, H.picks [2, 3] rfl (by decide)⟩
            · obtain rfl : t = 3 := by omega
              have hnx : sumF ls7 (f + 1) = sumF ls7 f + sumT ls7 f 3 := rfl
              repeat' (first | ((first | refine WL.p rfl ?_ | refine WL.u ?_ | refine WL.g rfl rfl ?_ | refine WL.gu rfl ?_); first | refine pvQ ?_ | (refine opk 3 rfl ?_; first | (refine ost_cmp rfl rfl rfl rfl (fun hc => ?_) (fun hc => ?_) <;> (simp only [cmpP] at hc; try exact prIQ)) | (refine ost_ptEq rfl rfl rfl (fun hc => ?_) (fun hc => ?_) <;> try (simp at hc; done)) | (refine ost_ptNe rfl rfl rfl (fun hc => ?_) (fun hc => ?_) <;> try (simp at hc; done))) | (refine opk 4 rfl ?_; (refine ost_cmp rfl rfl rfl rfl (fun hc => ?_) (fun hc => ?_) <;> (simp only [cmpP] at hc; try exact prIQ))) | (refine opk 8 rfl ?_; (refine ost_storeW H rfl rfl rfl rfl lQ ixQ lQ okQ ?_; clear H; intro wk H; simp only [List.set_cons_zero, List.set_cons_succ, Nat.reduceAdd] at H)) | (refine opk 9 rfl ?_; (refine ost_allocA H rfl ?_; clear H; intro bk wk H))) | refine Wc.seq ?_ | refine then_n ?_ | refine WL.nil ?_ | refine Wc.region ?_ | refine Wc.block ?_ | refine then_r ?_ | refine then_e ?_ | refine inb_e rfl ?_ | refine inb_o rfl ?_ | refine inb_n ?_ | refine inb_r ?_ | refine Wc.skip ?_ | refine Wc.exit ?_ | refine Wc.ret ?_ | refine Wc.cond_true rfl ?_ | refine Wc.cond_false rfl ?_ | refine WL.skp rfl rfl ?_ | refine WL.sku rfl ?_)
              exact ⟨3 - (f + 1), by omega, f + 1, rfl, by omega, by (repeat' (first | exact Agree.refl _ _ | exact Agree.havoc | refine Agree.upd rfl ?_ | refine Agree.hav2 rfl ?_)), rfl, by rw [hnx]; rfl, H⟩
          · obtain rfl : f = 3 := by omega
            rw [hsum]
            repeat' (first | ((first | refine WL.p rfl ?_ | refine WL.u ?_ | refine WL.g rfl rfl ?_ | refine WL.gu rfl ?_); first | (refine opk 1 rfl ?_; (refine ost_V H rfl (po_LenL pb _ _ _ _ _ _ (sat_full _) (H.poBlk (i := 0) rfl)) rfl ?_; clear H; intro wk H)) | refine pvQ ?_ | (refine opk 3 rfl ?_; first | (refine ost_cmp rfl rfl rfl rfl (fun hc => ?_) (fun hc => ?_) <;> (simp only [cmpP] at hc; try exact prIQ)) | (refine ost_ptEq rfl rfl rfl (fun hc => ?_) (fun hc => ?_) <;> try (simp at hc; done)) | (refine ost_ptNe rfl rfl rfl (fun hc => ?_) (fun hc => ?_) <;> try (simp at hc; done))) | (refine opk 4 rfl ?_; (refine ost_cmp rfl rfl rfl rfl (fun hc => ?_) (fun hc => ?_) <;> (simp only [cmpP] at hc; try exact prIQ))) | (refine opk 8 rfl ?_; (refine ost_storeW H rfl rfl rfl rfl lQ ixQ lQ okQ ?_; clear H; intro wk H; simp only [List.set_cons_zero, List.set_cons_succ, Nat.reduceAdd] at H)) | (refine opk 9 rfl ?_; (refine ost_allocA H rfl ?_; clear H; intro bk wk H))) | refine Wc.seq ?_ | refine then_n ?_ | refine WL.nil ?_ | refine Wc.region ?_ | refine Wc.block ?_ | refine then_r ?_ | refine then_e ?_ | refine inb_e rfl ?_ | refine inb_o rfl ?_ | refine inb_n ?_ | refine inb_r ?_ | refine Wc.skip ?_ | refine Wc.exit ?_ | refine Wc.ret ?_ | refine Wc.cond_true rfl ?_ | refine Wc.cond_false rfl ?_ | refine WL.skp rfl rfl ?_ | refine WL.sku rfl ?_)
            all_goals first | (exfalso; omega) | exact ⟨l.length - (i + 1), by omega, i + 1, ls7, es7, clk7, rfl, by omega, by (repeat' (first | exact Agree.refl _ _ | exact Agree.havoc | refine Agree.upd rfl ?_ | refine Agree.hav2 rfl ?_)), rfl, hN7, H.pick 0 rfl⟩
          have hNl := hN7.len
          have hNe := hN7.le
          have hsum := sum_all hN7.on
          have hmn := fun f t => cntM_le hNe f t
          refine Wc.loopE (fun s0 m s w' => ∃ f : Nat, m = 3 - f ∧ f ≤ 3 ∧ Agree [6, 7, 8, 72, 73, 74, 75, 76, 77, 78, 79, 80, 81, 82, 83, 84, 85, 86] s s0 ∧ s 72 = .int .u8 f ∧ s 6 = .int .i64 (sumF ls7 f : Nat) ∧ St w [] h0 h0 [poH pb mb 3 20 ls7.length es7 clk7, .blk bk (.cells row.toArray 33 (0, 0))] w') 3 ⟨0, rfl, by omega, Agree.refl _ _, rfl, rfl, H⟩ ?_
          clear H
          rintro m s w' ⟨f, rfl, hf, hA9, e1, e2, H⟩
          obtain ⟨j1, rfl⟩ := hA9.env2 e1 e2
          clear hA9 e1 e2
          have hF := sumF_le hNe f
          by_cases hf3 : f < 3
          · repeat' (first | ((first | refine WL.p rfl ?_ | refine WL.u ?_ | refine WL.g rfl rfl ?_ | refine WL.gu rfl ?_); first | refine pvQ ?_ | (refine opk 3 rfl ?_; first | (refine ost_cmp rfl rfl rfl rfl (fun hc => ?_) (fun hc => ?_) <;> (simp only [cmpP] at hc; try exact prIQ)) | (refine ost_ptEq rfl rfl rfl (fun hc => ?_) (fun hc => ?_) <;> try (simp at hc; done)) | (refine ost_ptNe rfl rfl rfl (fun hc => ?_) (fun hc => ?_) <;> try (simp at hc; done))) | (refine opk 4 rfl ?_; (refine ost_cmp rfl rfl rfl rfl (fun hc => ?_) (fun hc => ?_) <;> (simp only [cmpP] at hc; try exact prIQ))) | (refine opk 8 rfl ?_; (refine ost_storeW H rfl rfl rfl rfl lQ ixQ lQ okQ ?_; clear H; intro wk H; simp only [List.set_cons_zero, List.set_cons_succ, Nat.reduceAdd] at H)) | (refine opk 9 rfl ?_; (refine ost_allocA H rfl ?_; clear H; intro bk wk H))) | refine Wc.seq ?_ | refine then_n ?_ | refine WL.nil ?_ | refine Wc.region ?_ | refine Wc.block ?_ | refine then_r ?_ | refine then_e ?_ | refine inb_e rfl ?_ | refine inb_o rfl ?_ | refine inb_n ?_ | refine inb_r ?_ | refine Wc.skip ?_ | refine Wc.exit ?_ | refine Wc.ret ?_ | refine Wc.cond_true rfl ?_ | refine Wc.cond_false rfl ?_ | refine WL.skp rfl rfl ?_ | refine WL.sku rfl ?_)
            refine Wc.loopE (fun s0 m s w' => ∃ t : Nat, m = 3 - t ∧ t ≤ 3 ∧ Agree [6, 8, 75, 76, 77, 78, 79, 80, 81, 82, 83, 84, 85] s s0 ∧ s 75 = .int .u8 t ∧ s 6 = .int .i64 (sumF ls7 f + sumT ls7 f t : Nat) ∧ St w [] h0 h0 [poH pb mb 3 20 ls7.length es7 clk7, .blk bk (.cells row.toArray 33 (0, 0))] w') 3 ⟨0, rfl, by omega, Agree.refl _ _, rfl, rfl, H⟩ ?_
            clear H
            rintro m s w' ⟨t, rfl, ht, hA9, e1, e2, H⟩
            obtain ⟨j2, rfl⟩ := hA9.env2 e1 e2
            clear hA9 e1 e2
            have hT := sumT_le hNe f t
            have hct := hmn f t
            by_cases ht3 : t < 3
            · have hnx : sumF ls7 f + sumT ls7 f (t + 1) = sumF ls7 f + sumT ls7 f t + cntM ls7 f t := by rw [sumT]; omega
              repeat' (first | ((first | refine WL.p rfl ?_ | refine WL.u ?_ | refine WL.g rfl rfl ?_ | refine WL.gu rfl ?_); first | (refine opk 1 rfl ?_; (refine ost_C H rfl (po_WaitsN pb mb 3 20 ls7 es7 clk7 f t hf3 ht3 hN7 _ H (i := 0) rfl _ (sat_full _)) rfl ?_; clear H; rintro vk wk hfk Lk ⟨a9, c9, lv9, rfl, rfl⟩ H; simp only [List.cons_append, List.nil_append] at H)) | refine pvQ ?_ | (refine opk 3 rfl ?_; first | (refine ost_cmp rfl rfl rfl rfl (fun hc => ?_) (fun hc => ?_) <;> (simp only [cmpP] at hc; try exact prIQ)) | (refine ost_ptEq rfl rfl rfl (fun hc => ?_) (fun hc => ?_) <;> try (simp at hc; done)) | (refine ost_ptNe rfl rfl rfl (fun hc => ?_) (fun hc => ?_) <;> try (simp at hc; done))) | (refine opk 4 rfl ?_; (refine ost_cmp rfl rfl rfl rfl (fun hc => ?_) (fun hc => ?_) <;> (simp only [cmpP] at hc; try exact prIQ))) | (refine opk 8 rfl ?_; (refine ost_storeW H rfl rfl rfl rfl lQ ixQ lQ okQ ?_; clear H; intro wk H; simp only [List.set_cons_zero, List.set_cons_succ, Nat.reduceAdd] at H)) | (refine opk 9 rfl ?_; (refine ost_allocA H rfl ?_; clear H; intro bk wk H))) | refine Wc.seq ?_ | refine then_n ?_ | refine WL.nil ?_ | refine Wc.region ?_ | refine Wc.block ?_ | refine then_r ?_ | refine then_e ?_ | refine inb_e rfl ?_ | refine inb_o rfl ?_ | refine inb_n ?_ | refine inb_r ?_ | refine Wc.skip ?_ | refine Wc.exit ?_ | refine Wc.ret ?_ | refine Wc.cond_true rfl ?_ | refine Wc.cond_false rfl ?_ | refine WL.skp rfl rfl ?_ | refine WL.sku rfl ?_)
              refine ⟨3 - (t + 1), by omega, t + 1, rfl, by omega, by (repeat' (first | exact Agree.refl _ _ | exact Agree.havoc | refine Agree.upd rfl ?_ | refine Agree.hav2 rfl ?_)), rfl, by rw [hnx]; rfl, H.picks [2, 3] rfl (by decide)⟩
            · obtain rfl : t = 3 := by omega
              have hnx : sumF ls7 (f + 1) = sumF ls7 f + sumT ls7 f 3 := rfl
              repeat' (first | ((first | refine WL.p rfl ?_ | refine WL.u ?_ | refine WL.g rfl rfl ?_ | refine WL.gu rfl ?_); first | refine pvQ ?_ | (refine opk 3 rfl ?_; first | (refine ost_cmp rfl rfl rfl rfl (fun hc => ?_) (fun hc => ?_) <;> (simp only [cmpP] at hc; try exact prIQ)) | (refine ost_ptEq rfl rfl rfl (fun hc => ?_) (fun hc => ?_) <;> try (simp at hc; done)) | (refine ost_ptNe rfl rfl rfl (fun hc => ?_) (fun hc => ?_) <;> try (simp at hc; done))) | (refine opk 4 rfl ?_; (refine ost_cmp rfl rfl rfl rfl (fun hc => ?_) (fun hc => ?_) <;> (simp only [cmpP] at hc; try exact prIQ))) | (refine opk 8 rfl ?_; (refine ost_storeW H rfl rfl rfl rfl lQ ixQ lQ okQ ?_; clear H; intro wk H; simp only [List.set_cons_zero, List.set_cons_succ, Nat.reduceAdd] at H)) | (refine opk 9 rfl ?_; (refine ost_allocA H rfl ?_; clear H; intro bk wk H))) | refine Wc.seq ?_ | refine then_n ?_ | refine WL.nil ?_ | refine Wc.region ?_ | refine Wc.block ?_ | refine then_r ?_ | refine then_e ?_ | refine inb_e rfl ?_ | refine inb_o rfl ?_ | refine inb_n ?_ | refine inb_r ?_ | refine Wc.skip ?_ | refine Wc.exit ?_ | refine Wc.ret ?_ | refine Wc.cond_true rfl ?_ | refine Wc.cond_false rfl ?_ | refine WL.skp rfl rfl ?_ | refine WL.sku rfl ?_)
              exact ⟨3 - (f + 1), by omega, f + 1, rfl, by omega, by (repeat' (first | exact Agree.refl _ _ | exact Agree.havoc | refine Agree.upd rfl ?_ | refine Agree.hav2 rfl ?_)), rfl, by rw [hnx]; rfl, H⟩
          · obtain rfl : f = 3 := by omega
            rw [hsum]
            repeat' (first | ((first | refine WL.p rfl ?_ | refine WL.u ?_ | refine WL.g rfl rfl ?_ | refine WL.gu rfl ?_); first | (refine opk 1 rfl ?_; (refine ost_V H rfl (po_LenL pb _ _ _ _ _ _ (sat_full _) (H.poBlk (i := 0) rfl)) rfl ?_; clear H; intro wk H)) | refine pvQ ?_ | (refine opk 3 rfl ?_; first | (refine ost_cmp rfl rfl rfl rfl (fun hc => ?_) (fun hc => ?_) <;> (simp only [cmpP] at hc; try exact prIQ)) | (refine ost_ptEq rfl rfl rfl (fun hc => ?_) (fun hc => ?_) <;> try (simp at hc; done)) | (refine ost_ptNe rfl rfl rfl (fun hc => ?_) (fun hc => ?_) <;> try (simp at hc; done))) | (refine opk 4 rfl ?_; (refine ost_cmp rfl rfl rfl rfl (fun hc => ?_) (fun hc => ?_) <;> (simp only [cmpP] at hc; try exact prIQ))) | (refine opk 8 rfl ?_; (refine ost_storeW H rfl rfl rfl rfl lQ ixQ lQ okQ ?_; clear H; intro wk H; simp only [List.set_cons_zero, List.set_cons_succ, Nat.reduceAdd] at H)) | (refine opk 9 rfl ?_; (refine ost_allocA H rfl ?_; clear H; intro bk wk H))) | refine Wc.seq ?_ | refine then_n ?_ | refine WL.nil ?_ | refine Wc.region ?_ | refine Wc.block ?_ | refine then_r ?_ | refine then_e ?_ | refine inb_e rfl ?_ | refine inb_o rfl ?_ | refine inb_n ?_ | refine inb_r ?_ | refine Wc.skip ?_ | refine Wc.exit ?_ | refine Wc.ret ?_ | refine Wc.cond_true rfl ?_ | refine Wc.cond_false rfl ?_ | refine WL.skp rfl rfl ?_ | refine WL.sku rfl ?_)
            all_goals first | (exfalso; omega) | exact ⟨l.length - (i + 1), by omega, i + 1, ls7, es7, clk7, rfl, by omega, by (repeat' (first | exact Agree.refl _ _ | exact Agree.havoc | refine Agree.upd rfl ?_ | refine Agree.hav2 rfl ?_)), rfl, hN7, H.pick 0 rfl⟩
        · have hC := fun g w hr HO => po_SendA pb mb 3 20 ls es clk x.k av cv x.b hN g w hr HO
          generalize sendM 3 20 ls x.k x.b = Z at hC
          repeat' (first | ((first | refine WL.p rfl ?_ | refine WL.u ?_ | refine WL.g rfl rfl ?_ | refine WL.gu rfl ?_); first | (refine opk 1 rfl ?_; (refine ost_O H rfl idx1 (fun HO => hC _ _ (hb.mono (H.less (i := 1) rfl)) HO) rfl ?_; clear H; rintro vk wk hfk Lk ⟨-, es7, clk7, rfl, rfl, hN7⟩ H; simp only [List.cons_append, List.nil_append, List.eraseIdx_cons_zero, List.eraseIdx_cons_succ] at H)) | refine pvQ ?_ | (refine opk 3 rfl ?_; first | (refine ost_cmp rfl rfl rfl rfl (fun hc => ?_) (fun hc => ?_) <;> (simp only [cmpP] at hc; try exact prIQ)) | (refine ost_ptEq rfl rfl rfl (fun hc => ?_) (fun hc => ?_) <;> try (simp at hc; done)) | (refine ost_ptNe rfl rfl rfl (fun hc => ?_) (fun hc => ?_) <;> try (simp at hc; done))) | (refine opk 4 rfl ?_; (refine ost_cmp rfl rfl rfl rfl (fun hc => ?_) (fun hc => ?_) <;> (simp only [cmpP] at hc; try exact prIQ))) | (refine opk 8 rfl ?_; (refine ost_storeW H rfl rfl rfl rfl lQ ixQ lQ okQ ?_; clear H; intro wk H; simp only [List.set_cons_zero, List.set_cons_succ, Nat.reduceAdd] at H)) | (refine opk 9 rfl ?_; (refine ost_allocA H rfl ?_; clear H; intro bk wk H))) | refine Wc.seq ?_ | refine then_n ?_ | refine WL.nil ?_ | refine Wc.region ?_ | refine Wc.block ?_ | refine then_r ?_ | refine then_e ?_ | refine inb_e rfl ?_ | refine inb_o rfl ?_ | refine inb_n ?_ | refine inb_r ?_ | refine Wc.skip ?_ | refine Wc.exit ?_ | refine Wc.ret ?_ | refine Wc.cond_true rfl ?_ | refine Wc.cond_false rfl ?_ | refine WL.skp rfl rfl ?_ | refine WL.sku rfl ?_)
          all_goals first | (exfalso; omega) | skip
          clear hN hC
          generalize Z.2 = ls7 at H hN7
          replace H : St w [] h0 h0 [poH pb mb 3 20 ls7.length es7 clk7, .blk bk (.cells row.toArray 33 (0, 0))] wk := H
          have hNl := hN7.len
          have hNe := hN7.le
          have hsum := sum_all hN7.on
          have hmn := fun f t => cntM_le hNe f t
          refine Wc.loopE (fun s0 m s w' => ∃ f : Nat, m = 3 - f ∧ f ≤ 3 ∧ Agree [6, 7, 8, 72, 73, 74, 75, 76, 77, 78, 79, 80, 81, 82, 83, 84, 85, 86] s s0 ∧ s 72 = .int .u8 f ∧ s 6 = .int .i64 (sumF ls7 f : Nat) ∧ St w [] h0 h0 [poH pb mb 3 20 ls7.length es7 clk7, .blk bk (.cells row.toArray 33 (0, 0))] w') 3 ⟨0, rfl, by omega, Agree.refl _ _, rfl, rfl, H⟩ ?_
          clear H
          rintro m s w' ⟨f, rfl, hf, hA9, e1, e2, H⟩
          obtain ⟨j1, rfl⟩ := hA9.env2 e1 e2
          clear hA9 e1 e2
          have hF := sumF_le hNe f
          by_cases hf3 : f < 3
          · repeat' (first | ((first | refine WL.p rfl ?_ | refine WL.u ?_ | refine WL.g rfl rfl ?_ | refine WL.gu rfl ?_); first | refine pvQ ?_ | (refine opk 3 rfl ?_; first | (refine ost_cmp rfl rfl rfl rfl (fun hc => ?_) (fun hc => ?_) <;> (simp only [cmpP] at hc; try exact prIQ)) | (refine ost_ptEq rfl rfl rfl (fun hc => ?_) (fun hc => ?_) <;> try (simp at hc; done)) | (refine ost_ptNe rfl rfl rfl (fun hc => ?_) (fun hc => ?_) <;> try (simp at hc; done))) | (refine opk 4 rfl ?_; (refine ost_cmp rfl rfl rfl rfl (fun hc => ?_) (fun hc => ?_) <;> (simp only [cmpP] at hc; try exact prIQ))) | (refine opk 8 rfl ?_; (refine ost_storeW H rfl rfl rfl rfl lQ ixQ lQ okQ ?_; clear H; intro wk H; simp only [List.set_cons_zero, List.set_cons_succ, Nat.reduceAdd] at H)) | (refine opk 9 rfl ?_; (refine ost_allocA H rfl ?_; clear H; intro bk wk H))) | refine Wc.seq ?_ | refine then_n ?_ | refine WL.nil ?_ | refine Wc.region ?_ | refine Wc.block ?_ | refine then_r ?_ | refine then_e ?_ | refine inb_e rfl ?_ | refine inb_o rfl ?_ | refine inb_n ?_ | refine inb_r ?_ | refine Wc.skip ?_ | refine Wc.exit ?_ | refine Wc.ret ?_ | refine Wc.cond_true rfl ?_ | refine Wc.cond_false rfl ?_ | refine WL.skp rfl rfl ?_ | refine WL.sku rfl ?_)
            refine Wc.loopE (fun s0 m s w' => ∃ t : Nat, m = 3 - t ∧ t ≤ 3 ∧ Agree [6, 8, 75, 76, 77, 78, 79, 80, 81, 82, 83, 84, 85] s s0 ∧ s 75 = .int .u8 t ∧ s 6 = .int .i64 (sumF ls7 f + sumT ls7 f t : Nat) ∧ St w [] h0 h0 [poH pb mb 3 20 ls7.length es7 clk7, .blk bk (.cells row.toArray 33 (0, 0))] w') 3 ⟨0, rfl, by omega, Agree.refl _ _, rfl, rfl, H⟩ ?_
            clear H
            rintro m s w' ⟨t, rfl, ht, hA9, e1, e2, H⟩
            obtain ⟨j2, rfl⟩ := hA9.env2 e1 e2
            clear hA9 e1 e2
            have hT := sumT_le hNe f t
            have hct := hmn f t
            by_cases ht3 : t < 3
            · have hnx : sumF ls7 f + sumT ls7 f (t + 1) = sumF ls7 f + sumT ls7 f t + cntM ls7 f t := by rw [sumT]; omega
              repeat' (first | ((first | refine WL.p rfl ?_ | refine WL.u ?_ | refine WL.g rfl rfl ?_ | refine WL.gu rfl ?_); first | (refine opk 1 rfl ?_; (refine ost_C H rfl (po_WaitsN pb mb 3 20 ls7 es7 clk7 f t hf3 ht3 hN7 _ H (i := 0) rfl _ (sat_full _)) rfl ?_; clear H; rintro vk wk hfk Lk ⟨a9, c9, lv9, rfl, rfl⟩ H; simp only [List.cons_append, List.nil_append] at H)) | refine pvQ ?_ | (refine opk 3 rfl ?_; first | (refine ost_cmp rfl rfl rfl rfl (fun hc => ?_) (fun hc => ?_) <;> (simp only [cmpP] at hc; try exact prIQ)) | (refine ost_ptEq rfl rfl rfl (fun hc => ?_) (fun hc => ?_) <;> try (simp at hc; done)) | (refine ost_ptNe rfl rfl rfl (fun hc => ?_) (fun hc => ?_) <;> try (simp at hc; done))) | (refine opk 4 rfl ?_; (refine ost_cmp rfl rfl rfl rfl (fun hc => ?_) (fun hc => ?_) <;> (simp only [cmpP] at hc; try exact prIQ))) | (refine opk 8 rfl ?_; (refine ost_storeW H rfl rfl rfl rfl lQ ixQ lQ okQ ?_; clear H; intro wk H; simp only [List.set_cons_zero, List.set_cons_succ, Nat.reduceAdd] at H)) | (refine opk 9 rfl ?_; (refine ost_allocA H rfl ?_; clear H; intro bk wk H))) | refine Wc.seq ?_ | refine then_n ?_ | refine WL.nil ?_ | refine Wc.region ?_ | refine Wc.block ?_ | refine then_r ?_ | refine then_e ?_ | refine inb_e rfl ?_ | refine inb_o rfl ?_ | refine inb_n ?_ | refine inb_r ?_ | refine Wc.skip ?_ | refine Wc.exit ?_ | refine Wc.ret ?_ | refine Wc.cond_true rfl ?_ | refine Wc.cond_false rfl ?_ | refine WL.skp rfl rfl ?_ | refine WL.sku rfl ?_)
              refine ⟨3 - (t + 1), by omega, t + 1, rfl, by omega, by (repeat' (first | exact Agree.refl _ _ | exact Agree.havoc | refine Agree.upd rfl ?_ | refine Agree.hav2 rfl ?_)), rfl, by rw [hnx]; rfl, H.picks [2, 3] rfl (by decide)⟩
            · obtain rfl : t = 3 := by omega
              have hnx : sumF ls7 (f + 1) = sumF ls7 f + sumT ls7 f 3 := rfl
              repeat' (first | ((first | refine WL.p rfl ?_ | refine WL.u ?_ | refine WL.g rfl rfl ?_ | refine WL.gu rfl ?_); first | refine pvQ ?_ | (refine opk 3 rfl ?_; first | (refine ost_cmp rfl rfl rfl rfl (fun hc => ?_) (fun hc => ?_) <;> (simp only [cmpP] at hc; try exact prIQ)) | (refine ost_ptEq rfl rfl rfl (fun hc => ?_) (fun hc => ?_) <;> try (simp at hc; done)) | (refine ost_ptNe rfl rfl rfl (fun hc => ?_) (fun hc => ?_) <;> try (simp at hc; done))) | (refine opk 4 rfl ?_; (refine ost_cmp rfl rfl rfl rfl (fun hc => ?_) (fun hc => ?_) <;> (simp only [cmpP] at hc; try exact prIQ))) | (refine opk 8 rfl ?_; (refine ost_storeW H rfl rfl rfl rfl lQ ixQ lQ okQ ?_; clear H; intro wk H; simp only [List.set_cons_zero, List.set_cons_succ, Nat.reduceAdd] at H)) | (refine opk 9 rfl ?_; (refine ost_allocA H rfl ?_; clear H; intro bk wk H))) | refine Wc.seq ?_ | refine then_n ?_ | refine WL.nil ?_ | refine Wc.region ?_ | refine Wc.block ?_ | refine then_r ?_ | refine then_e ?_ | refine inb_e rfl ?_ | refine inb_o rfl ?_ | refine inb_n ?_ | refine inb_r ?_ | refine Wc.skip ?_ | refine Wc.exit ?_ | refine Wc.ret ?_ | refine Wc.cond_true rfl ?_ | refine Wc.cond_false rfl ?_ | refine WL.skp rfl rfl ?_ | refine WL.sku rfl ?_)
              exact ⟨3 - (f + 1), by omega, f + 1, rfl, by omega, by (repeat' (first | exact Agree.refl _ _ | exact Agree.havoc | refine Agree.upd rfl ?_ | refine Agree.hav2 rfl ?_)), rfl, by rw [hnx]; rfl, H⟩
          · obtain rfl : f = 3 := by omega
            rw [hsum]
            repeat' (first | ((first | refine WL.p rfl ?_ | refine WL.u ?_ | refine WL.g rfl rfl ?_ | refine WL.gu rfl ?_); first | (refine opk 1 rfl ?_; (refine ost_V H rfl (po_LenL pb _ _ _ _ _ _ (sat_full _) (H.poBlk (i := 0) rfl)) rfl ?_; clear H; intro wk H)) | refine pvQ ?_ | (refine opk 3 rfl ?_; first | (refine ost_cmp rfl rfl rfl rfl (fun hc => ?_) (fun hc => ?_) <;> (simp only [cmpP] at hc; try exact prIQ)) | (refine ost_ptEq rfl rfl rfl (fun hc => ?_) (fun hc => ?_) <;> try (simp at hc; done)) | (refine ost_ptNe rfl rfl rfl (fun hc => ?_) (fun hc => ?_) <;> try (simp at hc; done))) | (refine opk 4 rfl ?_; (refine ost_cmp rfl rfl rfl rfl (fun hc => ?_) (fun hc => ?_) <;> (simp only [cmpP] at hc; try exact prIQ))) | (refine opk 8 rfl ?_; (refine ost_storeW H rfl rfl rfl rfl lQ ixQ lQ okQ ?_; clear H; intro wk H; simp only [List.set_cons_zero, List.set_cons_succ, Nat.reduceAdd] at H)) | (refine opk 9 rfl ?_; (refine ost_allocA H rfl ?_; clear H; intro bk wk H))) | refine Wc.seq ?_ | refine then_n ?_ | refine WL.nil ?_ | refine Wc.region ?_ | refine Wc.block ?_ | refine then_r ?_ | refine then_e ?_ | refine inb_e rfl ?_ | refine inb_o rfl ?_ | refine inb_n ?_ | refine inb_r ?_ | refine Wc.skip ?_ | refine Wc.exit ?_ | refine Wc.ret ?_ | refine Wc.cond_true rfl ?_ | refine Wc.cond_false rfl ?_ | refine WL.skp rfl rfl ?_ | refine WL.sku rfl ?_)
            all_goals first | (exfalso; omega) | exact ⟨l.length - (i + 1), by omega, i + 1, ls7, es7, clk7, rfl, by omega, by (repeat' (first | exact Agree.refl _ _ | exact Agree.havoc | refine Agree.upd rfl ?_ | refine Agree.hav2 rfl ?_)), rfl, hN7, H.pick 0 rfl⟩
  · repeat' (first | ((first | refine WL.p rfl ?_ | refine WL.u ?_ | refine WL.g rfl rfl ?_ | refine WL.gu rfl ?_); first | refine pvQ ?_ | (refine opk 3 rfl ?_; first | (refine ost_cmp rfl rfl rfl rfl (fun hc => ?_) (fun hc => ?_) <;> (simp only [cmpP] at hc; try exact prIQ)) | (refine ost_ptEq rfl rfl rfl (fun hc => ?_) (fun hc => ?_) <;> try (simp at hc; done)) | (refine ost_ptNe rfl rfl rfl (fun hc => ?_) (fun hc => ?_) <;> try (simp at hc; done))) | (refine opk 4 rfl ?_; (refine ost_cmp rfl rfl rfl rfl (fun hc => ?_) (fun hc => ?_) <;> (simp only [cmpP] at hc; try exact prIQ))) | (refine opk 8 rfl ?_; (refine ost_storeW H rfl rfl rfl rfl lQ ixQ lQ okQ ?_; clear H; intro wk H; simp only [List.set_cons_zero, List.set_cons_succ, Nat.reduceAdd] at H)) | (refine opk 9 rfl ?_; (refine ost_allocA H rfl ?_; clear H; intro bk wk H))) | refine Wc.seq ?_ | refine then_n ?_ | refine WL.nil ?_ | refine Wc.region ?_ | refine Wc.block ?_ | refine then_r ?_ | refine then_e ?_ | refine inb_e rfl ?_ | refine inb_o rfl ?_ | refine inb_n ?_ | refine inb_r ?_ | refine Wc.skip ?_ | refine Wc.exit ?_ | refine Wc.ret ?_ | refine Wc.cond_true rfl ?_ | refine Wc.cond_false rfl ?_ | refine WL.skp rfl rfl ?_ | refine WL.sku rfl ?_)
    all_goals ((first | refine fn_ret1 (v := .bool _) rfl rfl ⟨?_, H.fr⟩ | refine fn_ret1 (v := .int _ _) rfl rfl ⟨?_, H.fr⟩ | refine fn_ret1 (v := .string _) rfl rfl ⟨?_, H.fr⟩); rfl)
end Go.Tg
namespace Go.Proofs.Ytajfhoeejeadkaa
open Go.ChangeShapes Go.WideShapes Go.ChangeAt Go.RowKit Go.Tg
theorem linksCount_lifted (os : Os) (started : os.Started) (H : Type) (enc : TypeId × Value → H) :
    ReturnsInHanded {} Try.checked os 5 .any (Rows.linksCountSpec.pre6 enc Try.prog Try.f5 Rows.linksCountRow.domain false) (Rows.linksCountSpec.post enc Try.prog Try.f5 false true false false) := by
  refine returnsInHanded_of_change (C := Try.checked) own_ started (by kernel_rfl) Try.func5
    (ChangeSpec.witness6 (enc := enc) (C := Try.checked) false ⟨#[], #[.slice none 0 0], []⟩ 8 (by kernel_rfl) (by kernel_rfl) (by kernel_rfl) (by kernel_rfl)) ?_
  intro W base args ds gs before hval0 hW hcnd _
  have hval : ∀ (j : Nat) t v, Try.f5.params[j]? = some t → args[j]? = some v → Value.okWide Try.prog W .any base t v := hval0
  have hW' := hW
  obtain ⟨p, q, hA0, -, -, -, -⟩ := hW'
  have hA : DataW.TrodAll enc Try.prog W 0 (fun _ => true) true Try.f5.params.toList args.toList ds p := hA0
  rw [Try.params5] at hA hval
  obtain ⟨v0, d0, rfl, rfl, h0⟩ := trodAll_one hA
  obtain ⟨la, lc, l, e0, lr⟩ := acs21_of (Td.of h0)
  obtain rfl := val_of1 e0 (okWide_slice Try.underlying22 (hval 0 _ v0 rfl rfl))
  refine (law_LinksCount (w := W) la lc l lr).mono fun e W' ⟨v, he, hv, hE⟩ => ⟨v, he, ?_⟩
  subst hv
  exact law_post rfl hW hE rfl (by kernel_rfl) Try.underlying4 laid_ (by kernel_rfl)
theorem linksCount_holds : Rows.LinksCountSaid :=
  OpenClaim.holds_of_wide 5 Try.f5 rfl rfl rfl rfl rfl rfl rfl ⟨rfl, rfl, rfl, rfl, rfl⟩ rfl rfl rfl rfl rfl (by kernel_rfl) Try.func5 (by kernel_rfl)
    (of_decide_eq_true (by kernel_rfl)) (by unfold Func.isWrapper; first | (rw [if_pos (by decide +kernel)]; kernel_rfl) | (rw [if_neg (by decide +kernel)]; exact ⟨rfl, rfl⟩))
    (fun os started H enc _ => linksCount_lifted os started H enc)
end Go.Proofs.Ytajfhoeejeadkaa

