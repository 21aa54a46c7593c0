/- Proved: the given statement LinksOwnSaid: the Go law LinksOwn returns true for every input that it is asked of. No conditions. -/
import Derived.Test.YtajfhoeejeadkaaInst
import Derived.Test.YtajfhoeejeadkaaAuto
import Derived.Test.YtajfhoeejeadkaaTJ
set_option linter.unusedVariables false
set_option linter.unusedSimpArgs false
set_option maxRecDepth 100000
set_option maxHeartbeats 8000000
namespace Go.Tg
open Go Go.Proofs
theorem ok23 : okR 2 3 := by unfold okR; omega
theorem own_send {y : List UInt8} (h : y.length ≤ 5000) : sendM 2 3 [] (0, 0) y = (0, [((0, 0), y)]) := by
  have : sendC 2 3 (([] : LsM).length : Nat) (0, 0) y = 0 := by
    unfold sendC
    rw [show faultC 2 (0, 0) = 0 by decide, if_neg (by decide), if_neg (by omega), if_neg (by decide)]
  unfold sendM
  rw [if_pos this]; rfl
theorem own_two (y : List UInt8) : harmM 2 3 [((0, 0), y)] (0, 0) 0 2 0 0 = (0, [((0, 0), y), ((0, 0), y)]) := rfl
theorem own_turn (y z : List UInt8) (hz : turnB 0 6 y = z) : harmM 2 3 [((0, 0), y), ((0, 0), y)] (0, 0) 1 3 0 6 = (0, [((0, 0), y), ((0, 0), z)]) := by subst hz; rfl
theorem own_arr1 (y z : List UInt8) : arrM 2 [((0, 0), y), ((0, 0), z)] (0, 0) 0 = (((0, 0), y), 0, [((0, 0), z)]) := rfl
theorem own_arr2 (z : List UInt8) : arrM 2 [((0, 0), z)] (0, 0) 0 = (((0, 0), z), 0, []) := rfl
theorem own_seven (b : List UInt8) : turnB 0 6 (1 :: b) = 7 :: b := by
  unfold turnB
  rw [show (0 : UInt16).toNat % ((1 : UInt8) :: b).length = 0 from Nat.zero_mod _]; rfl
theorem po_Waits2 (pb mb : Nat) (rp rm : Int) (ls : LsM) (es : List EnT) (clk : Nat) (k : LkT) (y z : List UInt8) (he : lsF ls k = [y, z]) (hp : PoI rp rm ls es clk) {ws : World} {S : List Nat} {h0 h : FH} {L : List HA} {i : Nat} (w : World) (H : St ws S h0 h L w) (hi : L[i]? = some (poH pb mb rp rm ls.length es clk)) :
    Spec Try.prog 18 #[pt pb, .int .u8 k.1.toNat, .int .u8 k.2.toNat] w [] (full w) (fun v h' L' => ∃ a' c' v1 v2, v = .slice a' 2 c' ∧ L' = [.own (.slice a' 2 c') 31 1 2 [v1, v2], own8 v1 5 y, own8 v2 5 z]) := by
  refine (po_WaitsA pb mb rp rm ls es clk k hp w H hi w (sat_full _)).sub ?_
  rintro v h' L' ⟨a', c', lv', rfl, rfl, e⟩
  rw [he] at e
  match lv', e with
  | [(v1, x1), (v2, x2)], e =>
    simp only [List.map_cons, List.map_nil, List.cons.injEq, and_true] at e
    obtain ⟨rfl, rfl⟩ := e
    refine ⟨_, ⟨a', c', v1, v2, rfl, rfl⟩, fun w' H => ?_⟩
    have H2 := (H.perm (List.Perm.swap _ _ _)).allOpen
    exact H2.picks [2, 0, 1] rfl (by decide)
theorem law_LinksOwn (x : AcT) (w : World) (hr0 : AcV (full w) x) : SpecV Try.prog 4 #[.agg (acL x).toArray] w (.bool true) := by
  have H := St.start (sat_full w)
  have hs := sat_full w
  generalize hh : full w = h0 at H hr0 hs
  obtain ⟨⟨av, cv, ev, hb⟩, hn1, hn2⟩ := hr0
  have lr : (acL x).length = 8 := rfl
  have q1 : (acL x)[0 + 1]? = some (.int .u8 x.k.1.toNat) := rfl
  have q2 : (acL x)[0 + 2]? = some (.int .u8 x.k.2.toNat) := rfl
  have q3 : (acL x)[0 + 3]? = some (.int .i64 x.n) := rfl
  have q7 : (acL x)[0 + 7]? = some (.slice av x.b.length cv) := by rw [← ev]; rfl
  have ho8 : ∀ u ∈ acL x, u.oneCell' = true := by
    intro u hu
    have : (Value.slice av x.b.length cv).oneCell' = true := rfl
    rw [← ev] at this
    simp only [acL, List.mem_cons, List.not_mem_nil, or_false] at hu
    rcases hu with rfl | rfl | rfl | rfl | rfl | rfl | rfl | rfl <;> first | exact this | rfl
  generalize acL x = row at lr q1 q2 q3 q7 ho8
  have lz : zeroL.length = 3 := rfl
  have z2 : zeroL[0 + 2]? = some (.slice none 0 0) := rfl
  unfold SpecV
  refine calls_of Try.func4 rfl Try.ntmps4 (by simp) ?_
  by_cases hbig : 600 < x.b.length
  · repeat' (first | ((first | refine WL.p rfl ?_ | refine WL.u ?_ | refine WL.g rfl rfl ?_ | refine WL.gu rfl ?_); first | (refine opk 1 rfl ?_; (refine ost_V H rfl (alive21 _) rfl ?_; clear H; intro wk H)) | refine pvQ ?_ | (refine opk 3 rfl ?_; first | (refine ost_cmp rfl rfl rfl rfl (fun hc => ?_) (fun hc => ?_) <;> (simp only [cmpP] at hc; try exact prIQ)) | (refine ost_ptEq rfl rfl rfl (fun hc => ?_) (fun hc => ?_) <;> try (simp at hc; done)) | (refine ost_ptNe rfl rfl rfl (fun hc => ?_) (fun hc => ?_) <;> try (simp at hc; done))) | (refine opk 4 rfl ?_; (refine ost_cmp rfl rfl rfl rfl (fun hc => ?_) (fun hc => ?_) <;> (simp only [cmpP] at hc; try exact prIQ))) | (refine opk 8 rfl ?_; first | (refine ost_store1 H rfl rfl vlQ gvQ ixQ (by first | decide | (simp; omega) | (simp; done) | omega) ?_; clear H; intro wk H; simp only [List.set_cons_zero, List.set_cons_succ, Nat.reduceAdd] at H) | (refine ost_storeW H rfl rfl rfl rfl lQ ixQ lQ okQ ?_; clear H; intro wk H; simp only [List.set_cons_zero, List.set_cons_succ, Nat.reduceAdd] at H)) | (refine opk 9 rfl ?_; first | (refine ost_boxq H rfl ?_; clear H; intro bk wk H) | (refine ost_allocA H rfl ?_; clear H; intro bk wk H) | (refine ost_build1 H rfl rfl rfl evQ lsQ rfl ?_; clear H; intro bk wk H))) | refine Wc.seq ?_ | refine then_n ?_ | refine WL.nil ?_ | refine Wc.region ?_ | refine Wc.block ?_ | refine then_r ?_ | refine then_e ?_ | refine inb_e rfl ?_ | refine inb_o rfl ?_ | refine inb_n ?_ | refine inb_r ?_ | refine Wc.skip ?_ | refine Wc.exit ?_ | refine Wc.ret ?_ | refine Wc.cond_true rfl ?_ | refine Wc.cond_false rfl ?_ | refine WL.skp rfl rfl ?_ | refine WL.sku rfl ?_)
    all_goals first | (exfalso; omega) | ((first | refine fn_ret1 (v := .bool _) rfl rfl ⟨?_, H.fr⟩ | refine fn_ret1 (v := .int _ _) rfl rfl ⟨?_, H.fr⟩ | refine fn_ret1 (v := .string _) rfl rfl ⟨?_, H.fr⟩); rfl)
  · repeat' (first | ((first | refine WL.p rfl ?_ | refine WL.u ?_ | refine WL.g rfl rfl ?_ | refine WL.gu rfl ?_); first | (refine opk 1 rfl ?_; (refine ost_V H rfl (alive21 _) rfl ?_; clear H; intro wk H)) | (refine opk 9 rfl ?_; (refine ost_buildR (rows := [[Value.pointer none], [_]]) H rfl (by decide) rfl (by rfl) (evP_cons (rfl : _ = Value.pointer none) (evP_cons vxQ evP_nil)) (.cons rfl (.cons rfl .nil)) rfl (by intro r hr; simp at hr; rcases hr with rfl | rfl <;> rfl) ?_; clear H; intro bk wk H)) | refine pvQ ?_ | (refine opk 3 rfl ?_; first | (refine ost_cmp rfl rfl rfl rfl (fun hc => ?_) (fun hc => ?_) <;> (simp only [cmpP] at hc; try exact prIQ)) | (refine ost_ptEq rfl rfl rfl (fun hc => ?_) (fun hc => ?_) <;> try (simp at hc; done)) | (refine ost_ptNe rfl rfl rfl (fun hc => ?_) (fun hc => ?_) <;> try (simp at hc; done))) | (refine opk 4 rfl ?_; (refine ost_cmp rfl rfl rfl rfl (fun hc => ?_) (fun hc => ?_) <;> (simp only [cmpP] at hc; try exact prIQ))) | (refine opk 8 rfl ?_; first | (refine ost_store1 H rfl rfl vlQ gvQ ixQ (by first | decide | (simp; omega) | (simp; done) | omega) ?_; clear H; intro wk H; simp only [List.set_cons_zero, List.set_cons_succ, Nat.reduceAdd] at H) | (refine ost_storeW H rfl rfl rfl rfl lQ ixQ lQ okQ ?_; clear H; intro wk H; simp only [List.set_cons_zero, List.set_cons_succ, Nat.reduceAdd] at H)) | (refine opk 9 rfl ?_; first | (refine ost_boxq H rfl ?_; clear H; intro bk wk H) | (refine ost_allocA H rfl ?_; clear H; intro bk wk H) | (refine ost_build1 H rfl rfl rfl evQ lsQ rfl ?_; clear H; intro bk wk H))) | refine Wc.seq ?_ | refine then_n ?_ | refine WL.nil ?_ | refine Wc.region ?_ | refine Wc.block ?_ | refine then_r ?_ | refine then_e ?_ | refine inb_e rfl ?_ | refine inb_o rfl ?_ | refine inb_n ?_ | refine inb_r ?_ | refine Wc.skip ?_ | refine Wc.exit ?_ | refine Wc.ret ?_ | refine Wc.cond_true rfl ?_ | refine Wc.cond_false rfl ?_ | refine WL.skp rfl rfl ?_ | refine WL.sku rfl ?_)
    all_goals first | (exfalso; omega) | skip
    obtain ⟨bx, ebx⟩ := H.nameB idx2
    subst ebx
    obtain ⟨bz, ebz⟩ := H.nameB idx1
    subst ebz
    obtain ⟨a3, c3, h3, e3, hle3, hS3, H9⟩ := H.freezeR (by intro r hr; simp at hr; rcases hr with rfl | rfl <;> rfl)
    injection e3 with e31 e32 e33
    subst e31; subst e33
    clear H
    obtain ⟨h4, hle4, hz4, H⟩ := H9.freezeB
    clear H9
    have hS4 := Sl.mono hle4 hS3
    have hb4 := (hb.mono hle3).mono hle4
    clear hb hS3 hle3 hle4
    obtain ⟨ps, hps⟩ : ∃ ps : List Value, ps = [Value.pointer none, pt bz] := ⟨_, rfl⟩
    have hpl : ps.length = 2 := by rw [hps]; rfl
    have hS5 : Sl h4 1 (some ⟨bk, 0, none⟩) 2 (ps.map fun v => [v]) := by rw [hps]; exact hS4
    have hpo : ∀ p ∈ ps, NoPo h4 p ∧ ∃ ao, p = .pointer ao := by
      intro p hp
      rw [hps] at hp
      simp only [List.mem_cons, List.not_mem_nil, or_false] at hp
      rcases hp with rfl | rfl
      · exact ⟨⟨.inl rfl⟩, _, rfl⟩
      · exact ⟨⟨.inr ⟨bz, rfl, hz4⟩⟩, _, rfl⟩
    clear hps hS4
    refine Wc.loopE (fun s0 m s w' => ∃ i : Nat, m = 2 - i ∧ i ≤ 2 ∧ Agree [2, 4, 5, 6, 24, 25, 26, 27, 28, 29, 30, 31, 32, 33, 34, 35, 36, 37, 38, 39, 40, 41, 42, 43, 44, 45, 46, 47, 48, 49, 50, 51, 52, 53, 54, 55, 56, 57, 58, 59, 60, 61, 62, 63, 64, 65, 66, 67, 68, 69, 70, 71, 72, 73, 74, 75, 76, 77, 78, 79, 80] s s0 ∧ s 24 = .int .i64 i ∧ St w [] h0 h4 [.blk bx (.cells row.toArray 33 (0, 0))] w') 2 ⟨0, rfl, by omega, Agree.refl _ _, rfl, H⟩ ?_
    clear H
    rintro m s w' ⟨i, rfl, hi, hA9, e1, H⟩
    obtain ⟨j, rfl⟩ := hA9.env1 e1
    clear hA9 e1
    by_cases hlt : i < 2
    · obtain ⟨b, off, l, T, fr, e1, eb, eg⟩ := hS5.getM (by decide) (by omega)
      cases e1
      have g1 : l[0 + (i : Int).toNat * 1]? = some ps[i] := row_cell (eg (i : Int).toNat i (by omega) (by omega)) (q := 0) (by simp)
      obtain ⟨hno, ao, epo⟩ := hpo _ (List.getElem_mem (show i < ps.length by omega))
      rw [epo] at g1 hno
      clear eg epo
      repeat' (first | ((first | refine WL.p rfl ?_ | refine WL.u ?_ | refine WL.g rfl rfl ?_ | refine WL.gu rfl ?_); first | (refine opk 1 rfl ?_; first | (refine ost_C H rfl (no_Arrive (hno.mono H.sat.le) x.k x.n _ (sat_full _)) rfl ?_; clear H; rintro vk wk hfk Lk ⟨-, rfl, rfl⟩ H; simp only [List.cons_append, List.nil_append] at H) | (refine ost_V H rfl (no_Send (hno.mono H.sat.le) (0, 0) (.slice none 0 0) rfl _ (sat_full _)) rfl ?_; clear H; intro wk H) | (refine ost_V H rfl (no_Harm (hno.mono H.sat.le) x.k x.n 1 0 0 _ (sat_full _)) rfl ?_; clear H; intro wk H) | (refine ost_V H rfl (no_Waits (hno.mono H.sat.le) x.k _ (sat_full _)) rfl ?_; clear H; intro wk H) | (refine ost_V H rfl (no_Len (hno.mono H.sat.le) _ (sat_full _)) rfl ?_; clear H; intro wk H)) | refine pvQ ?_ | (refine opk 3 rfl ?_; first | (refine ost_cmp rfl rfl rfl rfl (fun hc => ?_) (fun hc => ?_) <;> (simp only [cmpP] at hc; try exact prIQ)) | (refine ost_ptEq rfl rfl rfl (fun hc => ?_) (fun hc => ?_) <;> try (simp at hc; done)) | (refine ost_ptNe rfl rfl rfl (fun hc => ?_) (fun hc => ?_) <;> try (simp at hc; done))) | (refine opk 4 rfl ?_; (refine ost_cmp rfl rfl rfl rfl (fun hc => ?_) (fun hc => ?_) <;> (simp only [cmpP] at hc; try exact prIQ))) | (refine opk 8 rfl ?_; first | (refine ost_store1 H rfl rfl vlQ gvQ ixQ (by first | decide | (simp; omega) | (simp; done) | omega) ?_; clear H; intro wk H; simp only [List.set_cons_zero, List.set_cons_succ, Nat.reduceAdd] at H) | (refine ost_storeW H rfl rfl rfl rfl lQ ixQ lQ okQ ?_; clear H; intro wk H; simp only [List.set_cons_zero, List.set_cons_succ, Nat.reduceAdd] at H)) | (refine opk 9 rfl ?_; first | (refine ost_boxq H rfl ?_; clear H; intro bk wk H) | (refine ost_allocA H rfl ?_; clear H; intro bk wk H) | (refine ost_build1 H rfl rfl rfl evQ lsQ rfl ?_; clear H; intro bk wk H))) | refine Wc.seq ?_ | refine then_n ?_ | refine WL.nil ?_ | refine Wc.region ?_ | refine Wc.block ?_ | refine then_r ?_ | refine then_e ?_ | refine inb_e rfl ?_ | refine inb_o rfl ?_ | refine inb_n ?_ | refine inb_r ?_ | refine Wc.skip ?_ | refine Wc.exit ?_ | refine Wc.ret ?_ | refine Wc.cond_true rfl ?_ | refine Wc.cond_false rfl ?_ | refine WL.skp rfl rfl ?_ | refine WL.sku rfl ?_)
      all_goals first | (exfalso; omega) | skip
      exact ⟨2 - (i + 1), by omega, i + 1, rfl, by omega, by (repeat' (first | exact Agree.refl _ _ | exact Agree.havoc | refine Agree.upd rfl ?_ | refine Agree.hav2 rfl ?_)), rfl, H.pick 1 rfl⟩
    · clear hpo hS5 hpl
      obtain rfl : i = 2 := by omega
      have hyl : ([1] ++ x.b).length = x.b.length + 1 := by simp
      have s1 := own_send (y := [1] ++ x.b) (by omega)
      have s2 := own_two ([1] ++ x.b)
      have hN0 := PoI.new ok23
      repeat' (first | ((first | refine WL.p rfl ?_ | refine WL.u ?_ | refine WL.g rfl rfl ?_ | refine WL.gu rfl ?_); first | (refine opk 1 rfl ?_; first | (refine ost_C H rfl (po_NewE 2 3 ok23 _ _ (sat_full _)) rfl ?_; clear H; rintro vk wk hfk Lk ⟨-, pb, mb, rfl, rfl⟩ H; simp only [List.cons_append, List.nil_append] at H) | (refine ost_app8 (xs := [1]) H rfl rfl rfl (by (exact ixQ)) (hb4.full H) (by (try simp only [List.length_nil, List.length_append, List.length_cons, List.length_singleton]); omega) ?_; clear H; intro aa ca wk H; simp only [List.set_cons_zero, List.set_cons_succ, List.nil_append] at H) | (refine ost_O H rfl idx1 (fun HO => po_SendE pb mb 2 3 _ _ _ (0, 0) hN0 _ _ HO (a := aa) (c := ca) (x := [1] ++ x.b) _ _ s1 (H.less8 (i := 1) (j := 0) rfl rfl (by decide))) rfl ?_; clear H; rintro vk wk hfk Lk ⟨-, es1, clk1, rfl, rfl, hN1⟩ H; simp only [List.cons_append, List.nil_append, List.eraseIdx_cons_zero, List.eraseIdx_cons_succ] at H) | (refine ost_O H rfl idx0 (fun HO => po_HarmE pb mb 2 3 _ _ _ (0, 0) hN1 _ _ HO 0 2 0 0 _ _ s2) rfl ?_; clear H; rintro vk wk hfk Lk ⟨-, es2, clk2, rfl, rfl, hN2⟩ H; simp only [List.cons_append, List.nil_append, List.eraseIdx_cons_zero, List.eraseIdx_cons_succ] at H)) | (refine opk 9 rfl ?_; (refine ost_buildR (rows := [[Value.int .u8 1]]) H rfl (by decide) rfl (by rfl) (evP1 vxQ) (.cons rfl .nil) rfl (fun r hr => by rw [List.mem_singleton.1 hr]; rfl) ?_; clear H; intro bk wk H; replace H : St _ _ _ _ (own8 (.slice (some ⟨bk, 0, none⟩) ([1] : List UInt8).length 1) 5 [1] :: _) _ := H)) | refine pvQ ?_ | (refine opk 3 rfl ?_; first | (refine ost_cmp rfl rfl rfl rfl (fun hc => ?_) (fun hc => ?_) <;> (simp only [cmpP] at hc; try exact prIQ)) | (refine ost_ptEq rfl rfl rfl (fun hc => ?_) (fun hc => ?_) <;> try (simp at hc; done)) | (refine ost_ptNe rfl rfl rfl (fun hc => ?_) (fun hc => ?_) <;> try (simp at hc; done))) | (refine opk 4 rfl ?_; (refine ost_cmp rfl rfl rfl rfl (fun hc => ?_) (fun hc => ?_) <;> (simp only [cmpP] at hc; try exact prIQ))) | (refine opk 8 rfl ?_; first | (refine ost_store1 H rfl rfl vlQ gvQ ixQ (by first | decide | (simp; omega) | (simp; done) | omega) ?_; clear H; intro wk H; simp only [List.set_cons_zero, List.set_cons_succ, Nat.reduceAdd] at H) | (refine ost_storeW H rfl rfl rfl rfl lQ ixQ lQ okQ ?_; clear H; intro wk H; simp only [List.set_cons_zero, List.set_cons_succ, Nat.reduceAdd] at H)) | (refine opk 9 rfl ?_; first | (refine ost_boxq H rfl ?_; clear H; intro bk wk H) | (refine ost_allocA H rfl ?_; clear H; intro bk wk H) | (refine ost_build1 H rfl rfl rfl evQ lsQ rfl ?_; clear H; intro bk wk H))) | refine Wc.seq ?_ | refine then_n ?_ | refine WL.nil ?_ | refine Wc.region ?_ | refine Wc.block ?_ | refine then_r ?_ | refine then_e ?_ | refine inb_e rfl ?_ | refine inb_o rfl ?_ | refine inb_n ?_ | refine inb_r ?_ | refine Wc.skip ?_ | refine Wc.exit ?_ | refine Wc.ret ?_ | refine Wc.cond_true rfl ?_ | refine Wc.cond_false rfl ?_ | refine WL.skp rfl rfl ?_ | refine WL.sku rfl ?_)
      all_goals first | (exfalso; omega) | skip
      have hyl2 : ((1 : UInt8) :: x.b).length = x.b.length + 1 := rfl
      obtain ⟨g8, cur8, rfl, hnc8, hcl8, hct8, H9⟩ := H.ownBlk (i := 1) rfl (by omega)
      clear H; have H := H9; clear H9
      rw [Nat.mul_one] at hcl8 hct8
      simp only [List.set_cons_zero, List.set_cons_succ] at H
      have he2 : lsF [((0, 0), [1] ++ x.b), ((0, 0), [1] ++ x.b)] (0, 0) = [1 :: x.b, 1 :: x.b] := rfl
      repeat' (first | ((first | refine WL.p rfl ?_ | refine WL.u ?_ | refine WL.g rfl rfl ?_ | refine WL.gu rfl ?_); first | (refine opk 1 rfl ?_; (refine ost_C H rfl (po_Waits2 pb mb 2 3 _ _ _ (0, 0) _ _ he2 hN2 _ H (i := 0) rfl) rfl ?_; clear H; rintro vk wk hfk Lk ⟨a9, c9, v1, v2, rfl, rfl⟩ H; simp only [List.cons_append, List.nil_append] at H)) | refine pvQ ?_ | (refine opk 3 rfl ?_; first | (refine ost_cmp rfl rfl rfl rfl (fun hc => ?_) (fun hc => ?_) <;> (simp only [cmpP] at hc; try exact prIQ)) | (refine ost_ptEq rfl rfl rfl (fun hc => ?_) (fun hc => ?_) <;> try (simp at hc; done)) | (refine ost_ptNe rfl rfl rfl (fun hc => ?_) (fun hc => ?_) <;> try (simp at hc; done))) | (refine opk 4 rfl ?_; (refine ost_cmp rfl rfl rfl rfl (fun hc => ?_) (fun hc => ?_) <;> (simp only [cmpP] at hc; try exact prIQ))) | (refine opk 8 rfl ?_; first | (refine ost_store1 H rfl rfl vlQ gvQ ixQ (by first | decide | (simp; omega) | (simp; done) | omega) ?_; clear H; intro wk H; simp only [List.set_cons_zero, List.set_cons_succ, Nat.reduceAdd] at H) | (refine ost_storeW H rfl rfl rfl rfl lQ ixQ lQ okQ ?_; clear H; intro wk H; simp only [List.set_cons_zero, List.set_cons_succ, Nat.reduceAdd] at H)) | (refine opk 9 rfl ?_; first | (refine ost_boxq H rfl ?_; clear H; intro bk wk H) | (refine ost_allocA H rfl ?_; clear H; intro bk wk H) | (refine ost_build1 H rfl rfl rfl evQ lsQ rfl ?_; clear H; intro bk wk H))) | refine Wc.seq ?_ | refine then_n ?_ | refine WL.nil ?_ | refine Wc.region ?_ | refine Wc.block ?_ | refine then_r ?_ | refine then_e ?_ | refine inb_e rfl ?_ | refine inb_o rfl ?_ | refine inb_n ?_ | refine inb_r ?_ | refine Wc.skip ?_ | refine Wc.exit ?_ | refine Wc.ret ?_ | refine Wc.cond_true rfl ?_ | refine Wc.cond_false rfl ?_ | refine WL.skp rfl rfl ?_ | refine WL.sku rfl ?_)
      all_goals first | (exfalso; omega) | skip
      obtain ⟨a1, c1, rfl, -⟩ := H.own8BS (i := 1) rfl
      obtain ⟨gv, curv, rfl, hncv, hclv, hctv, H9⟩ := H.ownBlk (i := 0) rfl (by omega)
      clear H; have H := H9; clear H9
      simp only [List.set_cons_zero] at H
      obtain ⟨g1, cur1, rfl, hnc1, hcl1, hct1, H9⟩ := H.ownBlk (i := 1) rfl (by omega)
      clear H; have H := H9; clear H9
      rw [Nat.mul_one] at hclv hctv hcl1 hct1
      simp only [List.set_cons_zero, List.set_cons_succ] at H
      have gq : curv[0 + (0 : Int).toNat * 1]? = some (.slice (some ⟨g1, 0, none⟩) ((1 : UInt8) :: x.b).length c1) := by
        have := congrArg (fun l => l[0]?) hctv
        simpa using this
      have s3 := own_turn (1 :: x.b) (7 :: x.b) (own_seven x.b)
      have s4 := own_arr1 (1 :: x.b) (7 :: x.b)
      have s5 := own_arr2 (7 :: x.b)
      have hyl3 : ((7 : UInt8) :: x.b).length = x.b.length + 1 := rfl
      have hN2' : PoI 2 3 [((0, 0), 1 :: x.b), ((0, 0), 1 :: x.b)] es2 clk2 := hN2
      repeat' (first | ((first | refine WL.p rfl ?_ | refine WL.u ?_ | refine WL.g rfl rfl ?_ | refine WL.gu rfl ?_); first | (refine opk 1 rfl ?_; first | (refine ost_O H rfl idx3 (fun HO => po_HarmE pb mb 2 3 _ _ _ (0, 0) hN2' _ _ HO 1 3 0 6 _ _ s3) rfl ?_; clear H; rintro vk wk hfk Lk ⟨-, es3, clk3, rfl, rfl, hN3⟩ H; simp only [List.cons_append, List.nil_append, List.eraseIdx_cons_zero, List.eraseIdx_cons_succ] at H) | (refine ost_O H rfl idx0 (fun HO => po_ArriveE pb mb 2 3 _ _ _ (0, 0) hN3 _ _ HO 0 (0, 0) (1 :: x.b) _ _ s4) rfl ?_; clear H; rintro vk wk hfk Lk ⟨-, ax, cx, es4, clk4, rfl, rfl, hN4⟩ H; simp only [List.cons_append, List.nil_append, List.eraseIdx_cons_zero, List.eraseIdx_cons_succ] at H) | (refine ost_O H rfl idx2 (fun HO => po_ArriveE pb mb 2 3 _ _ _ (0, 0) hN4 _ _ HO 0 (0, 0) (7 :: x.b) _ _ s5) rfl ?_; clear H; rintro vk wk hfk Lk ⟨-, ay, cy, es5, clk5, rfl, rfl, hN5⟩ H; simp only [List.cons_append, List.nil_append, List.eraseIdx_cons_zero, List.eraseIdx_cons_succ] at H)) | refine pvQ ?_ | (refine opk 3 rfl ?_; first | (refine ost_cmp rfl rfl rfl rfl (fun hc => ?_) (fun hc => ?_) <;> (simp only [cmpP] at hc; try exact prIQ)) | (refine ost_ptEq rfl rfl rfl (fun hc => ?_) (fun hc => ?_) <;> try (simp at hc; done)) | (refine ost_ptNe rfl rfl rfl (fun hc => ?_) (fun hc => ?_) <;> try (simp at hc; done))) | (refine opk 4 rfl ?_; (refine ost_cmp rfl rfl rfl rfl (fun hc => ?_) (fun hc => ?_) <;> (simp only [cmpP] at hc; try exact prIQ))) | (refine opk 8 rfl ?_; first | (refine ost_store1 H rfl rfl vlQ gvQ ixQ (by first | decide | (simp; omega) | (simp; done) | omega) ?_; clear H; intro wk H; simp only [List.set_cons_zero, List.set_cons_succ, Nat.reduceAdd] at H) | (refine ost_storeW H rfl rfl rfl rfl lQ ixQ lQ okQ ?_; clear H; intro wk H; simp only [List.set_cons_zero, List.set_cons_succ, Nat.reduceAdd] at H)) | (refine opk 9 rfl ?_; first | (refine ost_boxq H rfl ?_; clear H; intro bk wk H) | (refine ost_allocA H rfl ?_; clear H; intro bk wk H) | (refine ost_build1 H rfl rfl rfl evQ lsQ rfl ?_; clear H; intro bk wk H))) | refine Wc.seq ?_ | refine then_n ?_ | refine WL.nil ?_ | refine Wc.region ?_ | refine Wc.block ?_ | refine then_r ?_ | refine then_e ?_ | refine inb_e rfl ?_ | refine inb_o rfl ?_ | refine inb_n ?_ | refine inb_r ?_ | refine Wc.skip ?_ | refine Wc.exit ?_ | refine Wc.ret ?_ | refine Wc.cond_true rfl ?_ | refine Wc.cond_false rfl ?_ | refine WL.skp rfl rfl ?_ | refine WL.sku rfl ?_)
      all_goals first | (exfalso; omega) | skip
      obtain ⟨gx, curx, rfl, hncx, hclx, hctx, H9⟩ := H.ownBlk (i := 4) rfl (by omega)
      clear H; have H := H9; clear H9
      simp only [List.set_cons_zero, List.set_cons_succ] at H
      obtain ⟨gy, cury, rfl, hncy, hcly, hcty, H9⟩ := H.ownBlk (i := 1) rfl (by omega)
      clear H; have H := H9; clear H9
      rw [Nat.mul_one] at hclx hctx hcly hcty
      simp only [List.set_cons_zero, List.set_cons_succ] at H
      have gx1 : curx[0 + (0 : Int).toNat * 1]? = some (.int .u8 1) := by
        have := congrArg (fun l => l[0]?) hctx
        simpa [cB, u8v] using this
      have gy1 : cury[0 + (0 : Int).toNat * 1]? = some (.int .u8 7) := by
        have := congrArg (fun l => l[0]?) hcty
        simpa [cB, u8v] using this
      repeat' (first | ((first | refine WL.p rfl ?_ | refine WL.u ?_ | refine WL.g rfl rfl ?_ | refine WL.gu rfl ?_); first | refine pvQ ?_ | (refine opk 3 rfl ?_; first | (refine ost_cmp rfl rfl rfl rfl (fun hc => ?_) (fun hc => ?_) <;> (simp only [cmpP] at hc; try exact prIQ)) | (refine ost_ptEq rfl rfl rfl (fun hc => ?_) (fun hc => ?_) <;> try (simp at hc; done)) | (refine ost_ptNe rfl rfl rfl (fun hc => ?_) (fun hc => ?_) <;> try (simp at hc; done))) | (refine opk 4 rfl ?_; (refine ost_cmp rfl rfl rfl rfl (fun hc => ?_) (fun hc => ?_) <;> (simp only [cmpP] at hc; try exact prIQ))) | (refine opk 8 rfl ?_; first | (refine ost_store1 H rfl rfl vlQ gvQ ixQ (by first | decide | (simp; omega) | (simp; done) | omega) ?_; clear H; intro wk H; simp only [List.set_cons_zero, List.set_cons_succ, Nat.reduceAdd] at H) | (refine ost_storeW H rfl rfl rfl rfl lQ ixQ lQ okQ ?_; clear H; intro wk H; simp only [List.set_cons_zero, List.set_cons_succ, Nat.reduceAdd] at H)) | (refine opk 9 rfl ?_; first | (refine ost_boxq H rfl ?_; clear H; intro bk wk H) | (refine ost_allocA H rfl ?_; clear H; intro bk wk H) | (refine ost_build1 H rfl rfl rfl evQ lsQ rfl ?_; clear H; intro bk wk H))) | refine Wc.seq ?_ | refine then_n ?_ | refine WL.nil ?_ | refine Wc.region ?_ | refine Wc.block ?_ | refine then_r ?_ | refine then_e ?_ | refine inb_e rfl ?_ | refine inb_o rfl ?_ | refine inb_n ?_ | refine inb_r ?_ | refine Wc.skip ?_ | refine Wc.exit ?_ | refine Wc.ret ?_ | refine Wc.cond_true rfl ?_ | refine Wc.cond_false rfl ?_ | refine WL.skp rfl rfl ?_ | refine WL.sku rfl ?_)
      all_goals first | (exfalso; omega) | ((first | refine fn_ret1 (v := .bool _) rfl rfl ⟨?_, H.fr⟩ | refine fn_ret1 (v := .int _ _) rfl rfl ⟨?_, H.fr⟩ | refine fn_ret1 (v := .string _) rfl rfl ⟨?_, H.fr⟩); rfl)
end Go.Tg
namespace Go.Proofs.Ytajfhoeejeadkaa
open Go.ChangeShapes Go.WideShapes Go.ChangeAt Go.RowKit Go.Tg
theorem linksOwn_lifted (os : Os) (started : os.Started) (H : Type) (enc : TypeId × Value → H) :
    ReturnsInHanded {} Try.checked os 4 .any (Rows.linksOwnSpec.pre6 enc Try.prog Try.f4 Rows.linksOwnRow.domain false) (Rows.linksOwnSpec.post enc Try.prog Try.f4 false true false false) := by
  refine returnsInHanded_of_change (C := Try.checked) own_ started (by kernel_rfl) Try.func4
    (ChangeSpec.witness6 (enc := enc) (C := Try.checked) false ⟨#[], #[.agg #[.int .u8 0, .int .u8 0, .int .u8 0, .int .i64 0, .int .i64 0, .int .u16 0, .int .u8 0, .slice none 0 0]], []⟩ 8 (by kernel_rfl) (by kernel_rfl) (by kernel_rfl) (by kernel_rfl)) ?_
  intro W base args ds gs before hval0 hW hcnd _
  have hval : ∀ (j : Nat) t v, Try.f4.params[j]? = some t → args[j]? = some v → Value.okWide Try.prog W .any base t v := hval0
  have hW' := hW
  obtain ⟨p, q, hA0, -, -, -, -⟩ := hW'
  have hA : DataW.TrodAll enc Try.prog W 0 (fun _ => true) true Try.f4.params.toList args.toList ds p := hA0
  rw [Try.params4] at hA hval
  obtain ⟨v0, d0, rfl, rfl, h0⟩ := trodAll_one hA
  obtain ⟨x, e0, xr⟩ := ac21_of (Td.of h0)
  obtain rfl := val_ofA e0 (okWide_struct Try.underlying33 (hval 0 _ v0 rfl rfl))
  refine (law_LinksOwn (w := W) x xr).mono fun e W' ⟨v, he, hv, hE⟩ => ⟨v, he, ?_⟩
  subst hv
  exact law_post rfl hW hE rfl (by kernel_rfl) Try.underlying4 laid_ (by kernel_rfl)
theorem linksOwn_holds : Rows.LinksOwnSaid :=
  OpenClaim.holds_of_wide 4 Try.f4 rfl rfl rfl rfl rfl rfl rfl ⟨rfl, rfl, rfl, rfl, rfl⟩ rfl rfl rfl rfl rfl (by kernel_rfl) Try.func4 (by kernel_rfl)
    (of_decide_eq_true (by kernel_rfl)) (by unfold Func.isWrapper; first | (rw [if_pos (by decide +kernel)]; kernel_rfl) | (rw [if_neg (by decide +kernel)]; exact ⟨rfl, rfl⟩))
    (fun os started H enc _ => linksOwn_lifted os started H enc)
end Go.Proofs.Ytajfhoeejeadkaa

