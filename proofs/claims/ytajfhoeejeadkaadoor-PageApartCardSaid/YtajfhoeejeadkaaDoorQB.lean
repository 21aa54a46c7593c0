/- Contracts of Go functions that the laws reach: what each call answers and leaves in memory, for all arguments within the bounds that each theorem names. -/
import Derived.Test.YtajfhoeejeadkaaDoorInst
import Derived.Test.YtajfhoeejeadkaaDoorAuto
import Derived.Test.YtajfhoeejeadkaaDoorQA
set_option linter.unusedVariables false
set_option linter.unusedSimpArgs false
set_option maxRecDepth 100000
set_option maxHeartbeats 4000000
namespace Go.Tg
open Go Go.Proofs
def fewP (p : PageT) : Bool := decide (p.keys.length ≤ 300 ∧ p.locs.length ≤ 300 ∧ p.kids.length ≤ 300)
theorem law13_few (p : PageT) (A : PAd) (w : World) : SpecV Tryd.prog 19 #[.agg (pgV p A).toArray] w (.bool (fewP p)) := by
  refine specV_of fun h0 hs H => ?_
  obtain ⟨lf, ks, ls, ds⟩ := p
  obtain ⟨ak, ck, al, cl, ad, cd⟩ := A
  rw [show pgV ⟨lf, ks, ls, ds⟩ ⟨ak, ck, al, cl, ad, cd⟩ = pgL lf ks.length ls.length ds.length ak ck al cl ad cd from rfl]
  have lp : (pgL lf ks.length ls.length ds.length ak ck al cl ad cd).length = 4 := rfl
  refine calls_of Tryd.func19 rfl Tryd.ntmps19 (by simp) ?_
  repeat' (first | ((first | refine WL.p rfl ?_ | refine WL.u ?_ | refine WL.g rfl rfl ?_ | refine WL.gu rfl ?_); first | refine pvQ ?_ | (refine opk 3 rfl ?_; (refine ost_cmp rfl rfl rfl rfl (fun hc => ?_) (fun hc => ?_) <;> (simp only [cmpP] at hc; try exact prIQ))) | (refine opk 4 rfl ?_; (refine ost_cmp rfl rfl rfl rfl (fun hc => ?_) (fun hc => ?_) <;> (simp only [cmpP] at hc; try exact prIQ))) | (refine opk 9 rfl ?_; (refine ost_boxq H rfl ?_; clear H; intro bk wk H))) | refine Wc.seq ?_ | refine then_n ?_ | refine WL.nil ?_ | refine Wc.region ?_ | refine Wc.block ?_ | refine then_r ?_ | refine then_e ?_ | refine inb_e rfl ?_ | refine inb_o rfl ?_ | refine inb_n ?_ | refine inb_r ?_ | refine Wc.skip ?_ | refine Wc.exit ?_ | refine Wc.ret ?_ | refine Wc.cond_true rfl ?_ | refine Wc.cond_false rfl ?_ | refine WL.skp rfl rfl ?_ | refine WL.sku rfl ?_)
  all_goals ((first | refine fn_ret1 (v := .bool _) rfl rfl ⟨?_, H.fr⟩ | refine fn_ret1 (v := .int _ _) rfl rfl ⟨?_, H.fr⟩ | refine fn_ret1 (v := .string _) rfl rfl ⟨?_, H.fr⟩); congr 1; symm; first | exact decide_eq_true (by show ks.length ≤ 300 ∧ ls.length ≤ 300 ∧ ds.length ≤ 300; omega) | exact decide_eq_false (by show ¬ (ks.length ≤ 300 ∧ ls.length ≤ 300 ∧ ds.length ≤ 300); omega))
theorem takeM_succ {α : Type} (f : α → List Value) (xs : List α) {k : Nat} (h : k < xs.length) : (xs.take (k + 1)).map f = (xs.take k).map f ++ [f xs[k]] := by
  rw [List.take_add_one, List.getElem?_eq_getElem h, List.map_append]; rfl
theorem cKey_one (k : KeyT) : (cKey k).all Value.oneCell' = true := rfl
theorem cLoc_one (k : LocT) : (cLoc k).all Value.oneCell' = true := rfl
theorem law13_theirs (p : PageT) (A : PAd) (h0 : FH) (w : World) (hs : Sat h0 w) (hP : PgR h0 p A) (hb1 : p.keys.length ≤ 1000000) (hb2 : p.locs.length ≤ 1000000) :
    Spec Tryd.prog 21 #[.agg (pgV p A).toArray] w [] h0 (fun v h' L' => ∃ A', v = .agg (pgV p A').toArray ∧ L' = [] ∧ PgR h' p A') := by
  have H := St.start hs
  obtain ⟨lf, ks, ls, ds⟩ := p
  obtain ⟨ak, ck, al, cl, ad, cd⟩ := A
  rw [show pgV ⟨lf, ks, ls, ds⟩ ⟨ak, ck, al, cl, ad, cd⟩ = pgL lf ks.length ls.length ds.length ak ck al cl ad cd from rfl]
  have lp : (pgL lf ks.length ls.length ds.length ak ck al cl ad cd).length = 4 := rfl
  have q1 := hP.k.lenM
  have q2 := hP.l.lenM
  dsimp only at q1 q2 hb1 hb2
  unfold Spec
  refine calls_of Tryd.func21 rfl Tryd.ntmps21 (by simp) ?_
  repeat' (first | ((first | refine WL.p rfl ?_ | refine WL.u ?_); first | (refine opk 9 rfl ?_; (refine ost_buildS rfl (evP_cons (rfl : _ = Value.bool _) (evP_cons (rfl : _ = Value.slice _ _ _) evP_nil)) rfl (rfl : _ = [_, _, _, _]) ?_)) | refine pvQ ?_ | (refine opk 3 rfl ?_; (refine ost_cmp rfl rfl rfl rfl (fun hc => ?_) (fun hc => ?_) <;> (simp only [cmpP] at hc; try exact prIQ))) | (refine opk 4 rfl ?_; (refine ost_cmp rfl rfl rfl rfl (fun hc => ?_) (fun hc => ?_) <;> (simp only [cmpP] at hc; try exact prIQ))) | (refine opk 8 rfl ?_; first | (refine ost_store1 H rfl rfl vlQ gvQ ixQ (by first | decide | (simp; omega) | (simp; done) | omega) ?_; clear H; intro wk H; simp only [List.set_cons_zero, List.set_cons_succ, Nat.reduceAdd] at H) | (refine ost_storeW H rfl rfl rfl rfl lQ ixQ lQ okQ ?_; clear H; intro wk H; simp only [List.set_cons_zero, List.set_cons_succ, Nat.reduceAdd] at H)) | (refine opk 9 rfl ?_; first | (refine ost_boxq H rfl ?_; clear H; intro bk wk H) | (refine ost_allocA H rfl ?_; clear H; intro bk wk H) | (refine ost_build1 H rfl rfl rfl evQ lsQ rfl ?_; clear H; intro bk wk H))) | refine Wc.seq ?_ | refine then_n ?_ | refine WL.nil ?_ | refine Wc.region ?_ | refine Wc.block ?_ | refine then_r ?_ | refine then_e ?_ | refine inb_e rfl ?_ | refine inb_o rfl ?_ | refine inb_n ?_ | refine inb_r ?_ | refine Wc.skip ?_ | refine Wc.exit ?_ | refine Wc.ret ?_ | refine Wc.cond_true rfl ?_ | refine Wc.cond_false rfl ?_)
  obtain ⟨b3, e3⟩ := H.nameB idx0
  subst e3
  obtain ⟨b2, e2⟩ := H.nameB idx1
  subst e2
  obtain ⟨b1, e1⟩ := H.nameB idx2
  subst e1
  replace H : St w [] h0 h0 [ownR (.slice none ((ks.take 0).map cKey).length 0) 42 3 ((ks.take 0).map cKey), .blk b3 (.cells [Value.bool lf, .slice none ((ks.take 0).map cKey).length 0, .slice none 0 0, .slice ad ds.length cd].toArray 40 (0, 0)), .blk b2 (.cells [Value.bool false, .slice none 0 0, .slice none 0 0, .slice none 0 0].toArray 40 (0, 0)), .blk b1 (.cells (pgL lf ks.length ls.length ds.length ak ck al cl ad cd).toArray 26 (0, 0))] wk := H.nilOwn 42 3
  refine Wc.loopE (fun s0 m s w' => ∃ (k : Nat) (a1 : Option Addr) (c1 : Nat), m = ks.length - k ∧ k ≤ ks.length ∧ Agree [5, 16, 17, 18, 19, 20, 21, 22, 23, 24, 25, 26] s s0 ∧ s 16 = .int .i64 k ∧
    St w [] h0 h0 [ownR (.slice a1 ((ks.take k).map cKey).length c1) 42 3 ((ks.take k).map cKey), .blk b3 (.cells [Value.bool lf, .slice a1 ((ks.take k).map cKey).length c1, .slice none 0 0, .slice ad ds.length cd].toArray 40 (0, 0)), .blk b2 (.cells [Value.bool false, .slice none 0 0, .slice none 0 0, .slice none 0 0].toArray 40 (0, 0)), .blk b1 (.cells (pgL lf ks.length ls.length ds.length ak ck al cl ad cd).toArray 26 (0, 0))] w') ks.length ⟨0, _, _, rfl, by omega, Agree.refl _ _, rfl, H⟩ ?_
  clear H
  rintro m s w' ⟨k, a1, c1, rfl, hk, hA, e1, H⟩
  obtain ⟨j, rfl⟩ := hA.env1 e1
  clear hA e1
  have hKl : ((ks.take k).map cKey).length = k := by simp; omega
  by_cases hlt : k < ks.length
  · obtain ⟨b, off, l, T, fr, e2, eb, eg⟩ := hP.k.getM (by decide) (Nat.lt_of_le_of_lt (Nat.zero_le _) hlt)
    dsimp only at e2 eg
    subst e2
    have g1 := eg (k : Int).toNat k hlt (by omega)
    have hsucc := takeM_succ cKey ks hlt
    generalize ks[k] = x at g1 hsucc
    have lx := cKey_len x
    have ox := allOne_of (cKey_one x)
    generalize (ks.take k).map cKey = KS at H hKl hsucc
    repeat' (first | ((first | refine WL.p rfl ?_ | refine WL.u ?_); first | (refine opk 1 rfl ?_; (refine ost_appR (rows := KS) (row := cKey x) H rfl rfl rfl (by (exact ixQ)) (by (exact ixQ)) (by rfl) (by first | simp; done | exact Nat.succ_pos _) rfl (allOne_of rfl) rfl (by omega) ?_; clear H; intro aa ca wk H; simp only [List.set_cons_zero, List.set_cons_succ] at H)) | (refine opk 9 rfl ?_; (refine ost_buildR (rows := [cKey x]) H rfl (by decide) rfl (by rfl) (evP1 vxQ) (.cons rfl .nil) rfl (fun r hr => by rw [List.mem_singleton.1 hr]; rfl) ?_; clear H; intro bk wk H)) | refine pvQ ?_ | (refine opk 3 rfl ?_; (refine ost_cmp rfl rfl rfl rfl (fun hc => ?_) (fun hc => ?_) <;> (simp only [cmpP] at hc; try exact prIQ))) | (refine opk 4 rfl ?_; (refine ost_cmp rfl rfl rfl rfl (fun hc => ?_) (fun hc => ?_) <;> (simp only [cmpP] at hc; try exact prIQ))) | (refine opk 8 rfl ?_; first | (refine ost_store1 H rfl rfl vlQ gvQ ixQ (by first | decide | (simp; omega) | (simp; done) | omega) ?_; clear H; intro wk H; simp only [List.set_cons_zero, List.set_cons_succ, Nat.reduceAdd] at H) | (refine ost_storeW H rfl rfl rfl rfl lQ ixQ lQ okQ ?_; clear H; intro wk H; simp only [List.set_cons_zero, List.set_cons_succ, Nat.reduceAdd] at H)) | (refine opk 9 rfl ?_; first | (refine ost_boxq H rfl ?_; clear H; intro bk wk H) | (refine ost_allocA H rfl ?_; clear H; intro bk wk H) | (refine ost_build1 H rfl rfl rfl evQ lsQ rfl ?_; clear H; intro bk wk H))) | refine Wc.seq ?_ | refine then_n ?_ | refine WL.nil ?_ | refine Wc.region ?_ | refine Wc.block ?_ | refine then_r ?_ | refine then_e ?_ | refine inb_e rfl ?_ | refine inb_o rfl ?_ | refine inb_n ?_ | refine inb_r ?_ | refine Wc.skip ?_ | refine Wc.exit ?_ | refine Wc.ret ?_ | refine Wc.cond_true rfl ?_ | refine Wc.cond_false rfl ?_)
    rw [← hsucc] at H
    exact ⟨ks.length - (k + 1), by omega, k + 1, _, _, rfl, by omega, by (repeat' (first | exact Agree.refl _ _ | exact Agree.havoc | refine Agree.upd rfl ?_ | refine Agree.hav2 rfl ?_)), rfl, H.picks [2, 3, 4, 5] rfl (by decide)⟩
  · obtain rfl : k = ks.length := by omega
    clear hKl
    repeat' (first | ((first | refine WL.p rfl ?_ | refine WL.u ?_); first | refine pvQ ?_ | (refine opk 3 rfl ?_; (refine ost_cmp rfl rfl rfl rfl (fun hc => ?_) (fun hc => ?_) <;> (simp only [cmpP] at hc; try exact prIQ))) | (refine opk 4 rfl ?_; (refine ost_cmp rfl rfl rfl rfl (fun hc => ?_) (fun hc => ?_) <;> (simp only [cmpP] at hc; try exact prIQ))) | (refine opk 8 rfl ?_; first | (refine ost_store1 H rfl rfl vlQ gvQ ixQ (by first | decide | (simp; omega) | (simp; done) | omega) ?_; clear H; intro wk H; simp only [List.set_cons_zero, List.set_cons_succ, Nat.reduceAdd] at H) | (refine ost_storeW H rfl rfl rfl rfl lQ ixQ lQ okQ ?_; clear H; intro wk H; simp only [List.set_cons_zero, List.set_cons_succ, Nat.reduceAdd] at H)) | (refine opk 9 rfl ?_; first | (refine ost_boxq H rfl ?_; clear H; intro bk wk H) | (refine ost_allocA H rfl ?_; clear H; intro bk wk H) | (refine ost_build1 H rfl rfl rfl evQ lsQ rfl ?_; clear H; intro bk wk H))) | refine Wc.seq ?_ | refine then_n ?_ | refine WL.nil ?_ | refine Wc.region ?_ | refine Wc.block ?_ | refine then_r ?_ | refine then_e ?_ | refine inb_e rfl ?_ | refine inb_o rfl ?_ | refine inb_n ?_ | refine inb_r ?_ | refine Wc.skip ?_ | refine Wc.exit ?_ | refine Wc.ret ?_ | refine Wc.cond_true rfl ?_ | refine Wc.cond_false rfl ?_)
    rw [List.take_length, List.length_map] at H
    replace H : St w [] h0 h0 [ownR (.slice none ((ls.take 0).map cLoc).length 0) 114 2 ((ls.take 0).map cLoc), ownR (.slice a1 ks.length c1) 42 3 (ks.map cKey), .blk b3 (.cells [Value.bool lf, .slice a1 ks.length c1, .slice none ((ls.take 0).map cLoc).length 0, .slice ad ds.length cd].toArray 40 (0, 0)), .blk b2 (.cells [Value.bool false, .slice none 0 0, .slice none 0 0, .slice none 0 0].toArray 40 (0, 0)), .blk b1 (.cells (pgL lf ks.length ls.length ds.length ak ck al cl ad cd).toArray 26 (0, 0))] w' := H.nilOwn 114 2
    refine Wc.loopE (fun s0 m s w' => ∃ (k : Nat) (a2 : Option Addr) (c2 : Nat), m = ls.length - k ∧ k ≤ ls.length ∧ Agree [7, 30, 31, 32, 33, 34, 35, 36, 37, 38, 39, 40] s s0 ∧ s 30 = .int .i64 k ∧
      St w [] h0 h0 [ownR (.slice a2 ((ls.take k).map cLoc).length c2) 114 2 ((ls.take k).map cLoc), ownR (.slice a1 ks.length c1) 42 3 (ks.map cKey), .blk b3 (.cells [Value.bool lf, .slice a1 ks.length c1, .slice a2 ((ls.take k).map cLoc).length c2, .slice ad ds.length cd].toArray 40 (0, 0)), .blk b2 (.cells [Value.bool false, .slice none 0 0, .slice none 0 0, .slice none 0 0].toArray 40 (0, 0)), .blk b1 (.cells (pgL lf ks.length ls.length ds.length ak ck al cl ad cd).toArray 26 (0, 0))] w') ls.length ⟨0, _, _, rfl, by omega, Agree.refl _ _, rfl, H⟩ ?_
    clear H
    rintro m s w' ⟨k, a2, c2, rfl, hk, hA, e1, H⟩
    obtain ⟨j, rfl⟩ := hA.env1 e1
    clear hA e1
    have hKl : ((ls.take k).map cLoc).length = k := by simp; omega
    by_cases hlt : k < ls.length
    · obtain ⟨b, off, l, T, fr, e2, eb, eg⟩ := hP.l.getM (by decide) (Nat.lt_of_le_of_lt (Nat.zero_le _) hlt)
      dsimp only at e2 eg
      subst e2
      have g1 := eg (k : Int).toNat k hlt (by omega)
      have hsucc := takeM_succ cLoc ls hlt
      generalize ls[k] = x at g1 hsucc
      have lx : (cLoc x).length = 2 := rfl
      have ox := allOne_of (cLoc_one x)
      generalize (ls.take k).map cLoc = LS at H hKl hsucc
      repeat' (first | ((first | refine WL.p rfl ?_ | refine WL.u ?_); first | (refine opk 1 rfl ?_; (refine ost_appR (rows := LS) (row := cLoc x) H rfl rfl rfl (by (exact ixQ)) (by (exact ixQ)) (by rfl) (by first | simp; done | exact Nat.succ_pos _) rfl (allOne_of rfl) rfl (by omega) ?_; clear H; intro aa ca wk H; simp only [List.set_cons_zero, List.set_cons_succ] at H)) | (refine opk 9 rfl ?_; (refine ost_buildR (rows := [cLoc x]) H rfl (by decide) rfl (by rfl) (evP1 vxQ) (.cons rfl .nil) rfl (fun r hr => by rw [List.mem_singleton.1 hr]; rfl) ?_; clear H; intro bk wk H)) | refine pvQ ?_ | (refine opk 3 rfl ?_; (refine ost_cmp rfl rfl rfl rfl (fun hc => ?_) (fun hc => ?_) <;> (simp only [cmpP] at hc; try exact prIQ))) | (refine opk 4 rfl ?_; (refine ost_cmp rfl rfl rfl rfl (fun hc => ?_) (fun hc => ?_) <;> (simp only [cmpP] at hc; try exact prIQ))) | (refine opk 8 rfl ?_; first | (refine ost_store1 H rfl rfl vlQ gvQ ixQ (by first | decide | (simp; omega) | (simp; done) | omega) ?_; clear H; intro wk H; simp only [List.set_cons_zero, List.set_cons_succ, Nat.reduceAdd] at H) | (refine ost_storeW H rfl rfl rfl rfl lQ ixQ lQ okQ ?_; clear H; intro wk H; simp only [List.set_cons_zero, List.set_cons_succ, Nat.reduceAdd] at H)) | (refine opk 9 rfl ?_; first | (refine ost_boxq H rfl ?_; clear H; intro bk wk H) | (refine ost_allocA H rfl ?_; clear H; intro bk wk H) | (refine ost_build1 H rfl rfl rfl evQ lsQ rfl ?_; clear H; intro bk wk H))) | refine Wc.seq ?_ | refine then_n ?_ | refine WL.nil ?_ | refine Wc.region ?_ | refine Wc.block ?_ | refine then_r ?_ | refine then_e ?_ | refine inb_e rfl ?_ | refine inb_o rfl ?_ | refine inb_n ?_ | refine inb_r ?_ | refine Wc.skip ?_ | refine Wc.exit ?_ | refine Wc.ret ?_ | refine Wc.cond_true rfl ?_ | refine Wc.cond_false rfl ?_)
      rw [← hsucc] at H
      exact ⟨ls.length - (k + 1), by omega, k + 1, _, _, rfl, by omega, by (repeat' (first | exact Agree.refl _ _ | exact Agree.havoc | refine Agree.upd rfl ?_ | refine Agree.hav2 rfl ?_)), rfl, H.picks [2, 3, 4, 5, 6] rfl (by decide)⟩
    · obtain rfl : k = ls.length := by omega
      clear hKl
      rw [List.take_length, List.length_map] at H
      obtain ⟨al2, cl2, h7, e7, hle7, hL7, H⟩ := H.freezeR (rows_len2 ls)
      injection e7 with e71 e72 e73
      subst e71; subst e73
      obtain ⟨ak2, ck2, h8, e8, hle8, hK8, H⟩ := H.freezeR (rows_len3 ks)
      injection e8 with e81 e82 e83
      subst e81; subst e83
      repeat' (first | ((first | refine WL.p rfl ?_ | refine WL.u ?_); first | refine pvQ ?_ | (refine opk 3 rfl ?_; (refine ost_cmp rfl rfl rfl rfl (fun hc => ?_) (fun hc => ?_) <;> (simp only [cmpP] at hc; try exact prIQ))) | (refine opk 4 rfl ?_; (refine ost_cmp rfl rfl rfl rfl (fun hc => ?_) (fun hc => ?_) <;> (simp only [cmpP] at hc; try exact prIQ))) | (refine opk 8 rfl ?_; first | (refine ost_store1 H rfl rfl vlQ gvQ ixQ (by first | decide | (simp; omega) | (simp; done) | omega) ?_; clear H; intro wk H; simp only [List.set_cons_zero, List.set_cons_succ, Nat.reduceAdd] at H) | (refine ost_storeW H rfl rfl rfl rfl lQ ixQ lQ okQ ?_; clear H; intro wk H; simp only [List.set_cons_zero, List.set_cons_succ, Nat.reduceAdd] at H)) | (refine opk 9 rfl ?_; first | (refine ost_boxq H rfl ?_; clear H; intro bk wk H) | (refine ost_allocA H rfl ?_; clear H; intro bk wk H) | (refine ost_build1 H rfl rfl rfl evQ lsQ rfl ?_; clear H; intro bk wk H))) | refine Wc.seq ?_ | refine then_n ?_ | refine WL.nil ?_ | refine Wc.region ?_ | refine Wc.block ?_ | refine then_r ?_ | refine then_e ?_ | refine inb_e rfl ?_ | refine inb_o rfl ?_ | refine inb_n ?_ | refine inb_r ?_ | refine Wc.skip ?_ | refine Wc.exit ?_ | refine Wc.ret ?_ | refine Wc.cond_true rfl ?_ | refine Wc.cond_false rfl ?_)
      exact fn_ret1 rfl (rv_cellA rfl rfl H.bI lQ) ⟨_, _, H.pick0, ⟨_, _, _, _, ad, cd⟩, rfl, rfl, ⟨hK8, hL7.mono hle8, (hP.d.mono hle7).mono hle8⟩⟩
end Go.Tg

