/- Proved: the given statement TreeShapeSaid: the Go law TreeShape returns true for every input that it is asked of. No conditions. -/
import Derived.Test.YtbfilhaigbebpaaInst
import Derived.Test.YtbfilhaigbebpaaAuto
import Derived.Test.YtbfilhaigbebpaaYN
import Derived.Test.YtbfilhaigbebpaaYO
set_option linter.unusedVariables false
set_option linter.unusedSimpArgs false
set_option maxRecDepth 100000
set_option maxHeartbeats 16000000
namespace Go.Tg
open Go Go.Proofs
theorem rows_len3 (ks : List KeyT) : ∀ r, r ∈ ks.map cKey → r.length = 3 := by simp [cKey]
theorem rows_len2 (ks : List LocT) : ∀ r, r ∈ ks.map cLoc → r.length = 2 := by simp [cLoc]
theorem takeM_succ {α : Type} (f : α → List Value) (xs : List α) {k : Nat} (h : k < xs.length) : (xs.take (k + 1)).map f = (xs.take k).map f ++ [f xs[k]] := by
  rw [List.take_add_one, List.getElem?_eq_getElem h, List.map_append]; rfl
theorem law13_Ours (p : PageT) (A : PAd) (h0 : FH) (w : World) (hs : Sat h0 w) (hP : PgR h0 p A) (hb1 : p.keys.length ≤ 1000000) (hb2 : p.locs.length ≤ 1000000) :
    Spec Try.prog 49 #[.agg (pgV p A).toArray] w [] h0 (fun v h' L' => ∃ A', v = .agg (pgV p A').toArray ∧ L' = [] ∧ PgR h' p A') := by
  have H := St.start hs
  obtain ⟨lf, ks, ls, ds⟩ := p
  obtain ⟨ak, ck, al, cl, ad, cd⟩ := A
  rw [show pgV ⟨lf, ks, ls, ds⟩ ⟨ak, ck, al, cl, ad, cd⟩ = pgL lf ks.length ls.length ds.length ak ck al cl ad cd from rfl]
  have lp : (pgL lf ks.length ls.length ds.length ak ck al cl ad cd).length = 4 := rfl
  have q1 := hP.k.lenM
  have q2 := hP.l.lenM
  dsimp only at q1 q2 hb1 hb2
  unfold Spec
  refine calls_of Try.func49 rfl Try.ntmps49 (by simp) ?_
  repeat' (first | ((first | refine WL.p rfl ?_ | refine WL.u ?_); first | (refine opk 9 rfl ?_; (refine ost_buildS rfl (evP_cons (rfl : _ = Value.bool _) (evP_cons (rfl : _ = Value.slice _ _ _) evP_nil)) rfl (rfl : _ = [_, _, _, _]) ?_)) | refine pvQ ?_ | (refine opk 3 rfl ?_; (refine ost_cmp rfl rfl rfl rfl (fun hc => ?_) (fun hc => ?_) <;> (simp only [cmpP] at hc; try exact prIQ))) | (refine opk 4 rfl ?_; (refine ost_cmp rfl rfl rfl rfl (fun hc => ?_) (fun hc => ?_) <;> (simp only [cmpP] at hc; try exact prIQ))) | (refine opk 8 rfl ?_; first | (refine ost_store1 H rfl rfl vlQ gvQ ixQ (by first | decide | (simp; omega) | (simp; done) | omega) ?_; clear H; intro wk H; simp only [List.set_cons_zero, List.set_cons_succ, Nat.reduceAdd] at H) | (refine ost_storeW H rfl rfl rfl rfl lQ ixQ lQ okQ ?_; clear H; intro wk H; simp only [List.set_cons_zero, List.set_cons_succ, Nat.reduceAdd] at H)) | (refine opk 9 rfl ?_; first | (refine ost_boxq H rfl ?_; clear H; intro bk wk H) | (refine ost_allocA H rfl ?_; clear H; intro bk wk H) | (refine ost_build1 H rfl rfl rfl evQ lsQ rfl ?_; clear H; intro bk wk H))) | refine Wc.seq ?_ | refine then_n ?_ | refine WL.nil ?_ | refine Wc.region ?_ | refine Wc.block ?_ | refine then_r ?_ | refine then_e ?_ | refine inb_e rfl ?_ | refine inb_o rfl ?_ | refine inb_n ?_ | refine inb_r ?_ | refine Wc.skip ?_ | refine Wc.exit ?_ | refine Wc.ret ?_ | refine Wc.cond_true rfl ?_ | refine Wc.cond_false rfl ?_)
  obtain ⟨b3, e3⟩ := H.nameB idx0
  subst e3
  obtain ⟨b2, e2⟩ := H.nameB idx1
  subst e2
  obtain ⟨b1, e1⟩ := H.nameB idx2
  subst e1
  replace H : St w [] h0 h0 [ownR (.slice none ((ks.take 0).map cKey).length 0) 28 3 ((ks.take 0).map cKey), .blk b3 (.cells [Value.bool lf, .slice none ((ks.take 0).map cKey).length 0, .slice none 0 0, .slice ad ds.length cd].toArray 112 (0, 0)), .blk b2 (.cells [Value.bool false, .slice none 0 0, .slice none 0 0, .slice none 0 0].toArray 112 (0, 0)), .blk b1 (.cells (pgL lf ks.length ls.length ds.length ak ck al cl ad cd).toArray 85 (0, 0))] wk := H.nilOwn 28 3
  refine Wc.loopE (fun s0 m s w' => ∃ (k : Nat) (a1 : Option Addr) (c1 : Nat), m = ks.length - k ∧ k ≤ ks.length ∧ Agree [5, 16, 17, 18, 19, 20, 21, 22, 23, 24, 25, 26] s s0 ∧ s 16 = .int .i64 k ∧
    St w [] h0 h0 [ownR (.slice a1 ((ks.take k).map cKey).length c1) 28 3 ((ks.take k).map cKey), .blk b3 (.cells [Value.bool lf, .slice a1 ((ks.take k).map cKey).length c1, .slice none 0 0, .slice ad ds.length cd].toArray 112 (0, 0)), .blk b2 (.cells [Value.bool false, .slice none 0 0, .slice none 0 0, .slice none 0 0].toArray 112 (0, 0)), .blk b1 (.cells (pgL lf ks.length ls.length ds.length ak ck al cl ad cd).toArray 85 (0, 0))] w') ks.length ⟨0, _, _, rfl, by omega, Agree.refl _ _, rfl, H⟩ ?_
  clear H
  rintro m s w' ⟨k, a1, c1, rfl, hk, hA, e1, H⟩
  obtain ⟨j, rfl⟩ := hA.env1 e1
  clear hA e1
  have hKl : ((ks.take k).map cKey).length = k := by simp; omega
  by_cases hlt : k < ks.length
  · obtain ⟨b, off, l, T, fr, e2, eb, eg⟩ := hP.k.getM (by decide) (Nat.lt_of_le_of_lt (Nat.zero_le _) hlt)
    dsimp only at e2 eg
    subst e2
    have g1 := eg (k : Int).toNat k hlt (by omega)
    have hsucc := takeM_succ cKey ks hlt
    generalize ks[k] = x at g1 hsucc
    have lx := cKey_len x
    have ox := allOne_of (cKey_one x)
    generalize (ks.take k).map cKey = KS at H hKl hsucc
    repeat' (first | ((first | refine WL.p rfl ?_ | refine WL.u ?_); first | (refine opk 1 rfl ?_; (refine ost_appR (rows := KS) (row := cKey x) H rfl rfl rfl (by (exact ixQ)) (by (exact ixQ)) (by rfl) (by first | simp; done | exact Nat.succ_pos _) rfl (allOne_of rfl) rfl (by omega) ?_; clear H; intro aa ca wk H; simp only [List.set_cons_zero, List.set_cons_succ] at H)) | (refine opk 9 rfl ?_; (refine ost_buildR (rows := [cKey x]) H rfl (by decide) rfl (by rfl) (evP1 vxQ) (.cons rfl .nil) rfl (fun r hr => by rw [List.mem_singleton.1 hr]; rfl) ?_; clear H; intro bk wk H)) | refine pvQ ?_ | (refine opk 3 rfl ?_; (refine ost_cmp rfl rfl rfl rfl (fun hc => ?_) (fun hc => ?_) <;> (simp only [cmpP] at hc; try exact prIQ))) | (refine opk 4 rfl ?_; (refine ost_cmp rfl rfl rfl rfl (fun hc => ?_) (fun hc => ?_) <;> (simp only [cmpP] at hc; try exact prIQ))) | (refine opk 8 rfl ?_; first | (refine ost_store1 H rfl rfl vlQ gvQ ixQ (by first | decide | (simp; omega) | (simp; done) | omega) ?_; clear H; intro wk H; simp only [List.set_cons_zero, List.set_cons_succ, Nat.reduceAdd] at H) | (refine ost_storeW H rfl rfl rfl rfl lQ ixQ lQ okQ ?_; clear H; intro wk H; simp only [List.set_cons_zero, List.set_cons_succ, Nat.reduceAdd] at H)) | (refine opk 9 rfl ?_; first | (refine ost_boxq H rfl ?_; clear H; intro bk wk H) | (refine ost_allocA H rfl ?_; clear H; intro bk wk H) | (refine ost_build1 H rfl rfl rfl evQ lsQ rfl ?_; clear H; intro bk wk H))) | refine Wc.seq ?_ | refine then_n ?_ | refine WL.nil ?_ | refine Wc.region ?_ | refine Wc.block ?_ | refine then_r ?_ | refine then_e ?_ | refine inb_e rfl ?_ | refine inb_o rfl ?_ | refine inb_n ?_ | refine inb_r ?_ | refine Wc.skip ?_ | refine Wc.exit ?_ | refine Wc.ret ?_ | refine Wc.cond_true rfl ?_ | refine Wc.cond_false rfl ?_)
    rw [← hsucc] at H
    exact ⟨ks.length - (k + 1), by omega, k + 1, _, _, rfl, by omega, by (repeat' (first | exact Agree.refl _ _ | exact Agree.havoc | refine Agree.upd rfl ?_ | refine Agree.hav2 rfl ?_)), rfl, H.picks [2, 3, 4, 5] rfl (by decide)⟩
  · obtain rfl : k = ks.length := by omega
    clear hKl
    repeat' (first | ((first | refine WL.p rfl ?_ | refine WL.u ?_); first | refine pvQ ?_ | (refine opk 3 rfl ?_; (refine ost_cmp rfl rfl rfl rfl (fun hc => ?_) (fun hc => ?_) <;> (simp only [cmpP] at hc; try exact prIQ))) | (refine opk 4 rfl ?_; (refine ost_cmp rfl rfl rfl rfl (fun hc => ?_) (fun hc => ?_) <;> (simp only [cmpP] at hc; try exact prIQ))) | (refine opk 8 rfl ?_; first | (refine ost_store1 H rfl rfl vlQ gvQ ixQ (by first | decide | (simp; omega) | (simp; done) | omega) ?_; clear H; intro wk H; simp only [List.set_cons_zero, List.set_cons_succ, Nat.reduceAdd] at H) | (refine ost_storeW H rfl rfl rfl rfl lQ ixQ lQ okQ ?_; clear H; intro wk H; simp only [List.set_cons_zero, List.set_cons_succ, Nat.reduceAdd] at H)) | (refine opk 9 rfl ?_; first | (refine ost_boxq H rfl ?_; clear H; intro bk wk H) | (refine ost_allocA H rfl ?_; clear H; intro bk wk H) | (refine ost_build1 H rfl rfl rfl evQ lsQ rfl ?_; clear H; intro bk wk H))) | refine Wc.seq ?_ | refine then_n ?_ | refine WL.nil ?_ | refine Wc.region ?_ | refine Wc.block ?_ | refine then_r ?_ | refine then_e ?_ | refine inb_e rfl ?_ | refine inb_o rfl ?_ | refine inb_n ?_ | refine inb_r ?_ | refine Wc.skip ?_ | refine Wc.exit ?_ | refine Wc.ret ?_ | refine Wc.cond_true rfl ?_ | refine Wc.cond_false rfl ?_)
    rw [List.take_length, List.length_map] at H
    replace H : St w [] h0 h0 [ownR (.slice none ((ls.take 0).map cLoc).length 0) 34 2 ((ls.take 0).map cLoc), ownR (.slice a1 ks.length c1) 28 3 (ks.map cKey), .blk b3 (.cells [Value.bool lf, .slice a1 ks.length c1, .slice none ((ls.take 0).map cLoc).length 0, .slice ad ds.length cd].toArray 112 (0, 0)), .blk b2 (.cells [Value.bool false, .slice none 0 0, .slice none 0 0, .slice none 0 0].toArray 112 (0, 0)), .blk b1 (.cells (pgL lf ks.length ls.length ds.length ak ck al cl ad cd).toArray 85 (0, 0))] w' := H.nilOwn 34 2
    refine Wc.loopE (fun s0 m s w' => ∃ (k : Nat) (a2 : Option Addr) (c2 : Nat), m = ls.length - k ∧ k ≤ ls.length ∧ Agree [7, 30, 31, 32, 33, 34, 35, 36, 37, 38, 39, 40] s s0 ∧ s 30 = .int .i64 k ∧
      St w [] h0 h0 [ownR (.slice a2 ((ls.take k).map cLoc).length c2) 34 2 ((ls.take k).map cLoc), ownR (.slice a1 ks.length c1) 28 3 (ks.map cKey), .blk b3 (.cells [Value.bool lf, .slice a1 ks.length c1, .slice a2 ((ls.take k).map cLoc).length c2, .slice ad ds.length cd].toArray 112 (0, 0)), .blk b2 (.cells [Value.bool false, .slice none 0 0, .slice none 0 0, .slice none 0 0].toArray 112 (0, 0)), .blk b1 (.cells (pgL lf ks.length ls.length ds.length ak ck al cl ad cd).toArray 85 (0, 0))] w') ls.length ⟨0, _, _, rfl, by omega, Agree.refl _ _, rfl, H⟩ ?_
    clear H
    rintro m s w' ⟨k, a2, c2, rfl, hk, hA, e1, H⟩
    obtain ⟨j, rfl⟩ := hA.env1 e1
    clear hA e1
    have hKl : ((ls.take k).map cLoc).length = k := by simp; omega
    by_cases hlt : k < ls.length
    · obtain ⟨b, off, l, T, fr, e2, eb, eg⟩ := hP.l.getM (by decide) (Nat.lt_of_le_of_lt (Nat.zero_le _) hlt)
      dsimp only at e2 eg
      subst e2
      have g1 := eg (k : Int).toNat k hlt (by omega)
      have hsucc := takeM_succ cLoc ls hlt
      generalize ls[k] = x at g1 hsucc
      have lx : (cLoc x).length = 2 := rfl
      have ox := allOne_of (cLoc_one x)
      generalize (ls.take k).map cLoc = LS at H hKl hsucc
      repeat' (first | ((first | refine WL.p rfl ?_ | refine WL.u ?_); first | (refine opk 1 rfl ?_; (refine ost_appR (rows := LS) (row := cLoc x) H rfl rfl rfl (by (exact ixQ)) (by (exact ixQ)) (by rfl) (by first | simp; done | exact Nat.succ_pos _) rfl (allOne_of rfl) rfl (by omega) ?_; clear H; intro aa ca wk H; simp only [List.set_cons_zero, List.set_cons_succ] at H)) | (refine opk 9 rfl ?_; (refine ost_buildR (rows := [cLoc x]) H rfl (by decide) rfl (by rfl) (evP1 vxQ) (.cons rfl .nil) rfl (fun r hr => by rw [List.mem_singleton.1 hr]; rfl) ?_; clear H; intro bk wk H)) | refine pvQ ?_ | (refine opk 3 rfl ?_; (refine ost_cmp rfl rfl rfl rfl (fun hc => ?_) (fun hc => ?_) <;> (simp only [cmpP] at hc; try exact prIQ))) | (refine opk 4 rfl ?_; (refine ost_cmp rfl rfl rfl rfl (fun hc => ?_) (fun hc => ?_) <;> (simp only [cmpP] at hc; try exact prIQ))) | (refine opk 8 rfl ?_; first | (refine ost_store1 H rfl rfl vlQ gvQ ixQ (by first | decide | (simp; omega) | (simp; done) | omega) ?_; clear H; intro wk H; simp only [List.set_cons_zero, List.set_cons_succ, Nat.reduceAdd] at H) | (refine ost_storeW H rfl rfl rfl rfl lQ ixQ lQ okQ ?_; clear H; intro wk H; simp only [List.set_cons_zero, List.set_cons_succ, Nat.reduceAdd] at H)) | (refine opk 9 rfl ?_; first | (refine ost_boxq H rfl ?_; clear H; intro bk wk H) | (refine ost_allocA H rfl ?_; clear H; intro bk wk H) | (refine ost_build1 H rfl rfl rfl evQ lsQ rfl ?_; clear H; intro bk wk H))) | refine Wc.seq ?_ | refine then_n ?_ | refine WL.nil ?_ | refine Wc.region ?_ | refine Wc.block ?_ | refine then_r ?_ | refine then_e ?_ | refine inb_e rfl ?_ | refine inb_o rfl ?_ | refine inb_n ?_ | refine inb_r ?_ | refine Wc.skip ?_ | refine Wc.exit ?_ | refine Wc.ret ?_ | refine Wc.cond_true rfl ?_ | refine Wc.cond_false rfl ?_)
      rw [← hsucc] at H
      exact ⟨ls.length - (k + 1), by omega, k + 1, _, _, rfl, by omega, by (repeat' (first | exact Agree.refl _ _ | exact Agree.havoc | refine Agree.upd rfl ?_ | refine Agree.hav2 rfl ?_)), rfl, H.picks [2, 3, 4, 5, 6] rfl (by decide)⟩
    · obtain rfl : k = ls.length := by omega
      clear hKl
      rw [List.take_length, List.length_map] at H
      obtain ⟨al2, cl2, h7, e7, hle7, hL7, H⟩ := H.freezeR (rows_len2 ls)
      injection e7 with e71 e72 e73
      subst e71; subst e73
      obtain ⟨ak2, ck2, h8, e8, hle8, hK8, H⟩ := H.freezeR (rows_len3 ks)
      injection e8 with e81 e82 e83
      subst e81; subst e83
      repeat' (first | ((first | refine WL.p rfl ?_ | refine WL.u ?_); first | refine pvQ ?_ | (refine opk 3 rfl ?_; (refine ost_cmp rfl rfl rfl rfl (fun hc => ?_) (fun hc => ?_) <;> (simp only [cmpP] at hc; try exact prIQ))) | (refine opk 4 rfl ?_; (refine ost_cmp rfl rfl rfl rfl (fun hc => ?_) (fun hc => ?_) <;> (simp only [cmpP] at hc; try exact prIQ))) | (refine opk 8 rfl ?_; first | (refine ost_store1 H rfl rfl vlQ gvQ ixQ (by first | decide | (simp; omega) | (simp; done) | omega) ?_; clear H; intro wk H; simp only [List.set_cons_zero, List.set_cons_succ, Nat.reduceAdd] at H) | (refine ost_storeW H rfl rfl rfl rfl lQ ixQ lQ okQ ?_; clear H; intro wk H; simp only [List.set_cons_zero, List.set_cons_succ, Nat.reduceAdd] at H)) | (refine opk 9 rfl ?_; first | (refine ost_boxq H rfl ?_; clear H; intro bk wk H) | (refine ost_allocA H rfl ?_; clear H; intro bk wk H) | (refine ost_build1 H rfl rfl rfl evQ lsQ rfl ?_; clear H; intro bk wk H))) | refine Wc.seq ?_ | refine then_n ?_ | refine WL.nil ?_ | refine Wc.region ?_ | refine Wc.block ?_ | refine then_r ?_ | refine then_e ?_ | refine inb_e rfl ?_ | refine inb_o rfl ?_ | refine inb_n ?_ | refine inb_r ?_ | refine Wc.skip ?_ | refine Wc.exit ?_ | refine Wc.ret ?_ | refine Wc.cond_true rfl ?_ | refine Wc.cond_false rfl ?_)
      exact fn_ret1 rfl (rv_cellA rfl rfl H.bI lQ) ⟨_, _, H.pick0, ⟨_, _, _, _, ad, cd⟩, rfl, rfl, ⟨hK8, hL7.mono hle8, (hP.d.mono hle7).mono hle8⟩⟩
def usedN (d : Nat) (ks : List (Sh d)) (j : Nat) : Nat := 1 + ((ks.take j).map (Sh.nodes d)).flatten.length
theorem usedN_succ {d : Nat} {ks : List (Sh d)} {j : Nat} (h : j < ks.length) : usedN d ks (j + 1) = usedN d ks j + (Sh.nodes d ks[j]).length := by
  unfold usedN
  rw [List.take_add_one, List.getElem?_eq_getElem h, List.map_append, List.flatten_append, List.length_append]
  simp; omega
theorem usedN_all {d : Nat} {num : UInt32} {ks : List (Sh d)} : usedN d ks ks.length = (Sh.nodes (d + 1) ((num, ks) : UInt32 × List (Sh d))).length := by
  unfold usedN
  rw [List.take_length]
  show _ = (_ :: (ks.map (Sh.nodes d)).flatten).length
  rw [List.length_cons]; omega
theorem nodes_at {d : Nat} {num : UInt32} {ks : List (Sh d)} {j : Nat} (h : j < ks.length) {rest : List PageT} {pl : List PageT} (e : pl = (Sh.nodes (d + 1) ((num, ks) : UInt32 × List (Sh d))).map (·.2) ++ rest) :
    ∃ r, pl.drop (usedN d ks j) = (Sh.nodes d ks[j]).map (·.2) ++ r := by
  refine ⟨(((ks.drop (j + 1)).map (Sh.nodes d)).flatten).map (·.2) ++ rest, ?_⟩
  have hk : ks = ks.take j ++ ks[j] :: ks.drop (j + 1) := by
    rw [List.getElem_cons_drop, List.take_append_drop]
  have hn : (ks.map (Sh.nodes d)).flatten = ((ks.take j).map (Sh.nodes d)).flatten ++ (Sh.nodes d ks[j] ++ ((ks.drop (j + 1)).map (Sh.nodes d)).flatten) := by
    conv => lhs; rw [hk]
    rw [List.map_append, List.flatten_append, List.map_cons, List.flatten_cons]
  have he : pl = (num, Sh.page (d + 1) ((num, ks) : UInt32 × List (Sh d))).2 :: ((ks.map (Sh.nodes d)).flatten.map (·.2) ++ rest) := e
  rw [he, hn]
  unfold usedN
  rw [Nat.add_comm, List.drop_succ_cons, List.map_append, List.append_assoc]
  rw [List.drop_left' (by rw [List.length_map])]
  rw [List.map_append, List.append_assoc]
theorem fn_ret4 {P : Program} {s : Env} {w : World} {fn : Func} {R : Value → World → Prop} {r1 r2 r3 r4 : ResultVar} {v1 v2 v3 v4 : Value} (h : fn.results = #[r1, r2, r3, r4]) (h1 : RV P s w r1 v1) (h2 : RV P s w r2 v2) (h3 : RV P s w r3 v3) (h4 : RV P s w r4 v4) (hR : R (.tuple #[v1, v2, v3, v4]) w) : fnPost P fn R .ret s w := by
  unfold fnPost; exact ⟨_, fun tmps ht => by
    have e1 := run_rv h1 ht
    have e2 := run_rv h2 ht
    have e3 := run_rv h3 ht
    have e4 := run_rv h4 ht
    rw [results_rv, h, show (#[r1, r2, r3, r4] : Array ResultVar) = [r1, r2, r3, r4].toArray from rfl, List.mapM_toArray]
    simp [List.mapM_cons, List.mapM_nil, e1, e2, e3, e4], hR⟩
def WalkS (d : Nat) : Prop := ∀ (s : Sh d) (root : Bool) (rest : List PageT) (a : Option Addr) (n c : Nat) (pls : List PgA) (h0 : FH) (w : World), Sat h0 w → Sh.Ok d s → Srt (Sh.its d s) → (root = true → RtOk d s) → (root = false → Sh.its d s ≠ []) → Sl h0 4 a c (pls.map cPgA) → (∀ p ∈ pls, PgR h0 p.1 p.2) → pls.map (·.1) = (Sh.nodes d s).map (·.2) ++ rest → pls.length ≤ 1000000 → d ≤ 1000 → n = pls.length →
  SpecV Try.prog 26 #[.slice a n c, .bool root] w (.tuple #[.int .i64 (Sh.nodes d s).length, .int .i64 ((d + 1 : Nat) : Int), .agg (cKey (hdK (Sh.its d s))).toArray, .bool true])
theorem walk0 : WalkS 0 := by
  intro s root rest a n c pls h0 w hs hok hsr hrt hne hN hPg hpm hpl hd hn
  obtain ⟨num, l⟩ := s
  cases pls with
  | nil => have := congrArg List.length hpm; simp [Sh.nodes] at this
  | cons p0 pl =>
    obtain ⟨p, A⟩ := p0
    have hp : p = Sh.page 0 (leafS num l) := by
      have := congrArg List.head? hpm
      exact Option.some.inj this
    subst hp
    have H := St.start hs
    have hP0 := hPg _ (List.mem_cons_self ..)
    dsimp only at hP0
    have hR := fun A' h w hs hP => r13_Right (Sh.page 0 (leafS num l)) A' h w hs hP
    rw [Sh.right 0 (leafS num l) hok hsr] at hR
    have hl8 : l.length ≤ 8 := hok
    have hO := fun h w hs hP => law13_Ours (Sh.page 0 (leafS num l)) A h w hs hP (by show (l.map _).length ≤ _; rw [List.length_map]; omega) (by show (l.map _).length ≤ _; rw [List.length_map]; omega)
    obtain ⟨ak, ck, al, cl, ad, cd⟩ := A
    obtain ⟨b, off, L9, T9, fr, e1, eb, eg⟩ := hN.getM (by decide) (Nat.succ_pos _)
    subst e1
    have g1 : (L9.drop (off + (0 : Int).toNat * 4)).take 4 = [Value.bool true, .slice ak (l.map (·.key)).length ck, .slice al (l.map (·.loc)).length cl, .slice ad 0 cd] := eg (0 : Int).toNat 0 (Nat.succ_pos _) rfl
    clear eg
    have q1 := hN.lenM
    rw [← hn] at q1
    have hn0 : 0 < n := by rw [hn]; exact Nat.succ_pos _
    have hlk : (l.map (·.key)).length = l.length := List.length_map ..
    unfold SpecV
    refine calls_of Try.func26 rfl Try.ntmps26 (by simp) ?_
    repeat' (first | ((first | refine WL.p rfl ?_ | refine WL.u ?_ | refine WL.g rfl rfl ?_ | refine WL.gu rfl ?_); first | (refine opk 1 rfl ?_; first | (refine ost_Sk H rfl (hO _ _ H.sat hP0) rfl ?_; clear H; rintro vk wk hfk Lk ⟨A', rfl, rfl, hP'⟩ hle H; simp only [List.cons_append, List.nil_append] at H) | (refine ost_V H rfl (hR _ _ _ H.sat hP') rfl ?_; clear H; intro wk H)) | refine pvQ ?_ | (refine opk 3 rfl ?_; first | (refine ost_eqA rfl (by decide) rfl rfl tyQ tyQ (fun hc => ?_) (fun hc => ?_) <;> try exact prEQ) | (refine ost_neA rfl (by decide) rfl rfl tyQ tyQ (fun hc => ?_) (fun hc => ?_) <;> try exact prEQ) | (refine ost_cmp rfl rfl rfl rfl (fun hc => ?_) (fun hc => ?_) <;> (simp only [cmpP] at hc; try exact prIQ))) | (refine opk 4 rfl ?_; (refine ost_cmp rfl rfl rfl rfl (fun hc => ?_) (fun hc => ?_) <;> (simp only [cmpP] at hc; try exact prIQ))) | (refine opk 8 rfl ?_; (refine ost_storeW H rfl rfl rfl rfl lQ ixQ lQ okQ ?_; clear H; intro wk H; simp only [List.set_cons_zero, List.set_cons_succ, Nat.reduceAdd] at H)) | (refine opk 9 rfl ?_; (refine ost_allocA H rfl ?_; clear H; intro bk wk H))) | refine Wc.seq ?_ | refine then_n ?_ | refine WL.nil ?_ | refine Wc.region ?_ | refine Wc.block ?_ | refine then_r ?_ | refine then_e ?_ | refine inb_e rfl ?_ | refine inb_o rfl ?_ | refine inb_n ?_ | refine inb_r ?_ | refine Wc.skip ?_ | refine Wc.exit ?_ | refine Wc.ret ?_ | refine Wc.cond_true rfl ?_ | refine Wc.cond_false rfl ?_ | (refine Wc.drawn (id := 7) 6 (by kernel_rfl) ?_) | (refine Wc.drawn (id := 15) 17 (by kernel_rfl) ?_) | (refine Wc.drawn (id := 20) 9 (by kernel_rfl) ?_) | refine WL.skp rfl rfl ?_ | refine WL.sku rfl ?_ | (refine rgs_nil ?_; intro vs wk hE; replace H := H.ext hE; clear hE) | refine RGs.skp (fun _ => rfl) rfl ?_ | (refine RGs.bq (fun _ => rfl) rfl (by intro vs w hE hP; have H := H.ext hE; first | exact dbQ | fail) (fun hc => ?_) (fun hc => ?_) <;> ((try simp only [cmpP, decide_eq_true_eq, decide_eq_false_iff_not, dcd_iff, dcd_no] at hc); try exact prDQ)) | refine RGs.pq (fun _ => rfl) rfl (by intro vs w hE hP; have H := H.ext hE; first | exact dvQ | fail) ?_)
    all_goals first | (exfalso; omega) | skip
    replace eb := hle _ _ eb
    have hks : Sl hfk 3 ak ck ((l.map (·.key)).map cKey) := hP0.k.mono hle
    by_cases h0 : l.length = 0
    · obtain rfl : l = [] := List.length_eq_zero_iff.1 h0
      have hrT : root = true := by
        cases root with
        | true => rfl
        | false => exact absurd rfl (hne rfl)
      subst hrT
      repeat' (first | ((first | refine WL.p rfl ?_ | refine WL.u ?_ | refine WL.g rfl rfl ?_ | refine WL.gu rfl ?_); first | (refine opk 9 rfl ?_; (refine ost_buildS (l := cKey ⟨0, ⟨0, 0⟩⟩) rfl evP_nil (by rfl) (by rfl) ?_)) | refine pvQ ?_ | (refine opk 3 rfl ?_; first | (refine ost_eqA rfl (by decide) rfl rfl tyQ tyQ (fun hc => ?_) (fun hc => ?_) <;> try exact prEQ) | (refine ost_neA rfl (by decide) rfl rfl tyQ tyQ (fun hc => ?_) (fun hc => ?_) <;> try exact prEQ) | (refine ost_cmp rfl rfl rfl rfl (fun hc => ?_) (fun hc => ?_) <;> (simp only [cmpP] at hc; try exact prIQ))) | (refine opk 4 rfl ?_; (refine ost_cmp rfl rfl rfl rfl (fun hc => ?_) (fun hc => ?_) <;> (simp only [cmpP] at hc; try exact prIQ))) | (refine opk 8 rfl ?_; (refine ost_storeW H rfl rfl rfl rfl lQ ixQ lQ okQ ?_; clear H; intro wk H; simp only [List.set_cons_zero, List.set_cons_succ, Nat.reduceAdd] at H)) | (refine opk 9 rfl ?_; (refine ost_allocA H rfl ?_; clear H; intro bk wk H))) | refine Wc.seq ?_ | refine then_n ?_ | refine WL.nil ?_ | refine Wc.region ?_ | refine Wc.block ?_ | refine then_r ?_ | refine then_e ?_ | refine inb_e rfl ?_ | refine inb_o rfl ?_ | refine inb_n ?_ | refine inb_r ?_ | refine Wc.skip ?_ | refine Wc.exit ?_ | refine Wc.ret ?_ | refine Wc.cond_true rfl ?_ | refine Wc.cond_false rfl ?_ | (refine Wc.drawn (id := 7) 6 (by kernel_rfl) ?_) | (refine Wc.drawn (id := 15) 17 (by kernel_rfl) ?_) | (refine Wc.drawn (id := 20) 9 (by kernel_rfl) ?_) | refine WL.skp rfl rfl ?_ | refine WL.sku rfl ?_ | (refine rgs_nil ?_; intro vs wk hE; replace H := H.ext hE; clear hE) | refine RGs.skp (fun _ => rfl) rfl ?_ | (refine RGs.bq (fun _ => rfl) rfl (by intro vs w hE hP; have H := H.ext hE; first | exact dbQ | fail) (fun hc => ?_) (fun hc => ?_) <;> ((try simp only [cmpP, decide_eq_true_eq, decide_eq_false_iff_not, dcd_iff, dcd_no] at hc); try exact prDQ)) | refine RGs.pq (fun _ => rfl) rfl (by intro vs w hE hP; have H := H.ext hE; first | exact dvQ | fail) ?_)
      all_goals first | (exfalso; omega) | skip
      exact fn_ret4 (v1 := .int _ _) (v2 := .int _ _) (v4 := .bool _) rfl rfl rfl (rv_cellA rfl rfl H.bI lQ) rfl ⟨rfl, H.fr⟩
    · obtain ⟨bk, ok, Lk, Tk, fk, e1, ebk, egk⟩ := hks.getM (by decide) (by rw [hlk]; omega : 0 < (l.map (·.key)).length)
      subst e1
      have g2 : (Lk.drop (ok + (0 : Int).toNat * 3)).take 3 = cKey (l.map (·.key))[0] := egk (0 : Int).toNat 0 (by rw [hlk]; omega) rfl
      have hh : (l.map (·.key))[0]'(by rw [hlk]; omega) = hdK l := by
        cases l with
        | nil => exact absurd rfl h0
        | cons x l => rfl
      rw [hh] at g2
      have lh := cKey_len (hdK l)
      have oh := allOne_of (cKey_one (hdK l))
      repeat' (first | ((first | refine WL.p rfl ?_ | refine WL.u ?_ | refine WL.g rfl rfl ?_ | refine WL.gu rfl ?_); first | refine pvQ ?_ | (refine opk 3 rfl ?_; first | (refine ost_eqA rfl (by decide) rfl rfl tyQ tyQ (fun hc => ?_) (fun hc => ?_) <;> try exact prEQ) | (refine ost_neA rfl (by decide) rfl rfl tyQ tyQ (fun hc => ?_) (fun hc => ?_) <;> try exact prEQ) | (refine ost_cmp rfl rfl rfl rfl (fun hc => ?_) (fun hc => ?_) <;> (simp only [cmpP] at hc; try exact prIQ))) | (refine opk 4 rfl ?_; (refine ost_cmp rfl rfl rfl rfl (fun hc => ?_) (fun hc => ?_) <;> (simp only [cmpP] at hc; try exact prIQ))) | (refine opk 8 rfl ?_; (refine ost_storeW H rfl rfl rfl rfl lQ ixQ lQ okQ ?_; clear H; intro wk H; simp only [List.set_cons_zero, List.set_cons_succ, Nat.reduceAdd] at H)) | (refine opk 9 rfl ?_; (refine ost_allocA H rfl ?_; clear H; intro bk wk H))) | refine Wc.seq ?_ | refine then_n ?_ | refine WL.nil ?_ | refine Wc.region ?_ | refine Wc.block ?_ | refine then_r ?_ | refine then_e ?_ | refine inb_e rfl ?_ | refine inb_o rfl ?_ | refine inb_n ?_ | refine inb_r ?_ | refine Wc.skip ?_ | refine Wc.exit ?_ | refine Wc.ret ?_ | refine Wc.cond_true rfl ?_ | refine Wc.cond_false rfl ?_ | (refine Wc.drawn (id := 7) 6 (by kernel_rfl) ?_) | (refine Wc.drawn (id := 15) 17 (by kernel_rfl) ?_) | (refine Wc.drawn (id := 20) 9 (by kernel_rfl) ?_) | refine WL.skp rfl rfl ?_ | refine WL.sku rfl ?_ | (refine rgs_nil ?_; intro vs wk hE; replace H := H.ext hE; clear hE) | refine RGs.skp (fun _ => rfl) rfl ?_ | (refine RGs.bq (fun _ => rfl) rfl (by intro vs w hE hP; have H := H.ext hE; first | exact dbQ | fail) (fun hc => ?_) (fun hc => ?_) <;> ((try simp only [cmpP, decide_eq_true_eq, decide_eq_false_iff_not, dcd_iff, dcd_no] at hc); try exact prDQ)) | refine RGs.pq (fun _ => rfl) rfl (by intro vs w hE hP; have H := H.ext hE; first | exact dvQ | fail) ?_)
      all_goals first | (exfalso; omega) | skip
      exact fn_ret4 (v1 := .int _ _) (v2 := .int _ _) (v4 := .bool _) rfl rfl rfl (rv_cellA rfl rfl H.bI lQ) rfl ⟨rfl, H.fr⟩
theorem walk_succ (d : Nat) (ih : WalkS d) : WalkS (d + 1) := by
  intro s root rest a n c pls h0 w hs hok hsr hrt hne hN hPg hpm hpl hd hn
  obtain ⟨num, ks⟩ := s
  let S : Sh (d + 1) := ((num, ks) : UInt32 × List (Sh d))
  cases pls with
  | nil => have := congrArg List.length hpm; simp [Sh.nodes] at this
  | cons p0 pl =>
    obtain ⟨p, A⟩ := p0
    have hp : p = Sh.page (d + 1) ((num, ks) : UInt32 × List (Sh d)) := by
      have := congrArg List.head? hpm
      exact Option.some.inj this
    subst hp
    have H := St.start hs
    have hP0 := hPg _ (List.mem_cons_self ..)
    dsimp only at hP0
    have hR := fun A' h w hs hP => r13_Right (Sh.page (d + 1) ((num, ks) : UInt32 × List (Sh d))) A' h w hs hP
    rw [Sh.right (d + 1) ((num, ks) : UInt32 × List (Sh d)) hok hsr] at hR
    obtain ⟨hk1, hk8, hkk⟩ := hok
    have hk1 : 1 ≤ ks.length := hk1
    have hk8 : ks.length ≤ 8 := hk8
    have hO := fun h w hs hP => law13_Ours (Sh.page (d + 1) ((num, ks) : UInt32 × List (Sh d))) A h w hs hP (by show (ks.map _).length ≤ _; rw [List.length_map]; omega) (Nat.zero_le _)
    obtain ⟨ak, ck, al, cl, ad, cd⟩ := A
    have hN0 := hN
    obtain ⟨b, off, L9, T9, fr, e1, eb, eg⟩ := hN.getM (by decide) (Nat.succ_pos _)
    subst e1
    have g1 : (L9.drop (off + (0 : Int).toNat * 4)).take 4 = [Value.bool false, .slice ak (ks.map fun k => hdK (Sh.its d k)).length ck, .slice al 0 cl, .slice ad (ks.map (Sh.num d)).length cd] := eg (0 : Int).toNat 0 (Nat.succ_pos _) rfl
    clear eg
    have q1 := hN.lenM
    rw [← hn] at q1
    have hn0 : 0 < n := by rw [hn]; exact Nat.succ_pos _
    have hlk : (ks.map fun k => hdK (Sh.its d k)).length = ks.length := List.length_map ..
    have hld : (ks.map (Sh.num d)).length = ks.length := List.length_map ..
    have hrt2 : root = true → 2 ≤ ks.length := hrt
    unfold SpecV
    refine calls_of Try.func26 rfl Try.ntmps26 (by simp) ?_
    repeat' (first | ((first | refine WL.p rfl ?_ | refine WL.u ?_ | refine WL.g rfl rfl ?_ | refine WL.gu rfl ?_); first | (refine opk 1 rfl ?_; first | (refine ost_Sk H rfl (hO _ _ H.sat hP0) rfl ?_; clear H; rintro vk wk hfk Lk ⟨A', rfl, rfl, hP'⟩ hle H; simp only [List.cons_append, List.nil_append] at H) | (refine ost_V H rfl (hR _ _ _ H.sat hP') rfl ?_; clear H; intro wk H)) | refine pvQ ?_ | (refine opk 3 rfl ?_; first | (refine ost_eqA rfl (by decide) rfl rfl tyQ tyQ (fun hc => ?_) (fun hc => ?_) <;> try exact prEQ) | (refine ost_neA rfl (by decide) rfl rfl tyQ tyQ (fun hc => ?_) (fun hc => ?_) <;> try exact prEQ) | (refine ost_cmp rfl rfl rfl rfl (fun hc => ?_) (fun hc => ?_) <;> (simp only [cmpP] at hc; try exact prIQ))) | (refine opk 4 rfl ?_; (refine ost_cmp rfl rfl rfl rfl (fun hc => ?_) (fun hc => ?_) <;> (simp only [cmpP] at hc; try exact prIQ))) | (refine opk 8 rfl ?_; (refine ost_storeW H rfl rfl rfl rfl lQ ixQ lQ okQ ?_; clear H; intro wk H; simp only [List.set_cons_zero, List.set_cons_succ, Nat.reduceAdd] at H)) | (refine opk 9 rfl ?_; (refine ost_allocA H rfl ?_; clear H; intro bk wk H))) | refine Wc.seq ?_ | refine then_n ?_ | refine WL.nil ?_ | refine Wc.region ?_ | refine Wc.block ?_ | refine then_r ?_ | refine then_e ?_ | refine inb_e rfl ?_ | refine inb_o rfl ?_ | refine inb_n ?_ | refine inb_r ?_ | refine Wc.skip ?_ | refine Wc.exit ?_ | refine Wc.ret ?_ | refine Wc.cond_true rfl ?_ | refine Wc.cond_false rfl ?_ | (refine Wc.drawn (id := 7) 6 (by kernel_rfl) ?_) | refine WL.skp rfl rfl ?_ | refine WL.sku rfl ?_ | (refine rgs_nil ?_; intro vs wk hE; replace H := H.ext hE; clear hE) | refine RGs.skp (fun _ => rfl) rfl ?_ | (refine RGs.bq (fun _ => rfl) rfl (by intro vs w hE hP; have H := H.ext hE; first | exact dbQ | fail) (fun hc => ?_) (fun hc => ?_) <;> ((try simp only [cmpP, decide_eq_true_eq, decide_eq_false_iff_not, dcd_iff, dcd_no] at hc); try exact prDQ)) | refine RGs.pq (fun _ => rfl) rfl (by intro vs w hE hP; have H := H.ext hE; first | exact dvQ | fail) ?_)
    all_goals first | (exfalso; omega) | (exfalso; have := hrt2 ‹_›; omega) | skip
    replace eb := hle _ _ eb
    have hks : Sl hfk 3 ak ck ((ks.map fun k => hdK (Sh.its d k)).map cKey) := hP0.k.mono hle
    have hN1 := hN.mono hle
    have hsk : ∀ j (hj : j < ks.length), Srt (Sh.its d ks[j]) := fun j hj => by
      have hsr : ((ks.map (Sh.its d)).flatten).Pairwise fun a b => keyN a.key < keyN b.key := hsr
      exact (List.pairwise_flatten.1 hsr).1 _ (List.mem_map.2 ⟨_, List.getElem_mem hj, rfl⟩)
    have hh : hdK (Sh.its d ks[0]) = hdK (Sh.its (d + 1) ((num, ks) : UInt32 × List (Sh d))) := by
      show _ = hdK ((ks.map (Sh.its d)).flatten)
      cases ks with
      | nil => exact absurd hk1 (Nat.not_succ_le_zero 0)
      | cons k0 kr =>
        have h0 : Sh.its d k0 ≠ [] := (hkk k0 (List.mem_cons_self ..)).2
        show hdK (Sh.its d k0) = hdK (Sh.its d k0 ++ (kr.map (Sh.its d)).flatten)
        cases hq : Sh.its d k0 with
        | nil => exact absurd hq h0
        | cons x l => rfl
    obtain ⟨bq, oq, Lq, Tq, fq, e1, ebq, egq⟩ := hks.getM (by decide) (by rw [hlk]; omega : 0 < (ks.map fun k => hdK (Sh.its d k)).length)
    subst e1
    cases root
    all_goals try have hrt3 := hrt2 rfl
    all_goals repeat' (first | ((first | refine WL.p rfl ?_ | refine WL.u ?_ | refine WL.g rfl rfl ?_ | refine WL.gu rfl ?_); first | refine pvQ ?_ | (refine opk 3 rfl ?_; first | (refine ost_eqA rfl (by decide) rfl rfl tyQ tyQ (fun hc => ?_) (fun hc => ?_) <;> try exact prEQ) | (refine ost_neA rfl (by decide) rfl rfl tyQ tyQ (fun hc => ?_) (fun hc => ?_) <;> try exact prEQ) | (refine ost_cmp rfl rfl rfl rfl (fun hc => ?_) (fun hc => ?_) <;> (simp only [cmpP] at hc; try exact prIQ))) | (refine opk 4 rfl ?_; (refine ost_cmp rfl rfl rfl rfl (fun hc => ?_) (fun hc => ?_) <;> (simp only [cmpP] at hc; try exact prIQ))) | (refine opk 8 rfl ?_; (refine ost_storeW H rfl rfl rfl rfl lQ ixQ lQ okQ ?_; clear H; intro wk H; simp only [List.set_cons_zero, List.set_cons_succ, Nat.reduceAdd] at H)) | (refine opk 9 rfl ?_; (refine ost_allocA H rfl ?_; clear H; intro bk wk H))) | refine Wc.seq ?_ | refine then_n ?_ | refine WL.nil ?_ | refine Wc.region ?_ | refine Wc.block ?_ | refine then_r ?_ | refine then_e ?_ | refine inb_e rfl ?_ | refine inb_o rfl ?_ | refine inb_n ?_ | refine inb_r ?_ | refine Wc.skip ?_ | refine Wc.exit ?_ | refine Wc.ret ?_ | refine Wc.cond_true rfl ?_ | refine Wc.cond_false rfl ?_ | (refine Wc.drawn (id := 7) 6 (by kernel_rfl) ?_) | refine WL.skp rfl rfl ?_ | refine WL.sku rfl ?_ | (refine rgs_nil ?_; intro vs wk hE; replace H := H.ext hE; clear hE) | refine RGs.skp (fun _ => rfl) rfl ?_ | (refine RGs.bq (fun _ => rfl) rfl (by intro vs w hE hP; have H := H.ext hE; first | exact dbQ | fail) (fun hc => ?_) (fun hc => ?_) <;> ((try simp only [cmpP, decide_eq_true_eq, decide_eq_false_iff_not, dcd_iff, dcd_no] at hc); try exact prDQ)) | refine RGs.pq (fun _ => rfl) rfl (by intro vs w hE hP; have H := H.ext hE; first | exact dvQ | fail) ?_)
    all_goals first | (exfalso; omega) | skip
    all_goals
      obtain ⟨b8, eb8⟩ := H.nameB idx0
      subst eb8
      obtain ⟨b6, eb6⟩ := H.nameB idx1
      subst eb6
      refine Wc.loopE (fun s0 m st w' => ∃ j : Nat, m = ks.length - j ∧ j ≤ ks.length ∧ Agree [4, 5, 7, 9, 10, 11, 12, 13, 14, 15, 54, 55, 56, 57, 58, 59, 60, 61, 62, 63, 64, 65, 66, 67, 68, 69, 70, 71, 72, 73, 74, 75, 76, 77, 78, 79, 80, 81, 82, 83, 84, 85, 86, 87, 88, 89, 90, 91] st s0 ∧ st 9 = .int .i64 ((usedN d ks j : Nat) : Int) ∧ st 10 = .int .i64 ((if j = 0 then 0 else d + 1 : Nat) : Int) ∧ st 54 = .int .i64 j ∧
        St w [] h0 hfk [.blk b8 (.cells #[Value.bool false, Value.slice (some ⟨bq, oq, none⟩) (List.map (fun k => hdK (Sh.its d k)) ks).length ck, Value.slice al 0 cl, Value.slice ad (List.map (Sh.num d) ks).length cd] 85 (0, 0)), .blk b6 (.cells #[Value.int .u16 0, Value.int .u8 0, Value.int .u32 0] 42 (0, 0))] w') ks.length ⟨0, rfl, by omega, Agree.refl _ _, rfl, rfl, rfl, H⟩ ?_
      clear H
      rintro m st w' ⟨j, rfl, hj, hA, e1, e2, e3, H⟩
      obtain ⟨j9, rfl⟩ := hA.env3 e1 e2 e3
      clear hA e1 e2 e3
      by_cases hlt : j < ks.length
      · obtain ⟨r, hr⟩ := nodes_at hlt hpm
        have hus := usedN_succ hlt
        obtain ⟨hok1, hne1⟩ := hkk ks[j] (List.getElem_mem hlt)
        have hsr1 := hsk j hlt
        have g2 : (Lq.drop (oq + (j : Int).toNat * 3)).take 3 = cKey (hdK (Sh.its d ks[j])) := by
          have := egq (j : Int).toNat j (by rw [hlk]; exact hlt) (by omega)
          rwa [List.getElem_map] at this
        clear egq
        generalize ks[j] = kd at *
        obtain ⟨nr, hnr⟩ := Sh.nodes_head d kd
        have hlen := congrArg List.length hr
        rw [List.length_drop, List.length_map, List.length_append, List.length_map] at hlen
        have hnl : 1 ≤ (Sh.nodes d kd).length := by rw [hnr]; exact Nat.succ_pos _
        rw [← hn] at hlen
        have hpl1 : n ≤ 1000000 := by rw [hn]; exact hpl
        have hN2 := hN1.drop (n := usedN d ks j) (by rw [List.length_map, ← hn]; omega)
        rw [← List.map_drop] at hr hN2
        have hrec := fun w hs => ih kd false r _ (n - usedN d ks j) (c - usedN d ks j) _ hfk w hs hok1 hsr1 (fun h => by cases h) (fun _ => hne1) hN2 (fun p hp => (hPg p (List.mem_of_mem_drop hp)).mono hle) hr (by rw [List.length_drop, ← hn]; omega) (by omega) (by rw [List.length_drop, ← hn])
        have lh := cKey_len (hdK (Sh.its d kd))
        have oh := allOne_of (cKey_one (hdK (Sh.its d kd)))
        by_cases hj0 : j = 0
        · rw [if_pos hj0]
          repeat' (first | ((first | refine WL.p rfl ?_ | refine WL.u ?_ | refine WL.g rfl rfl ?_ | refine WL.gu rfl ?_); first | (refine opk 1 rfl ?_; (refine ost_V H rfl (hrec _ H.sat) rfl ?_; clear H; intro wk H)) | refine pvQ ?_ | (refine opk 3 rfl ?_; first | (refine ost_eqA rfl (by decide) rfl rfl tyQ tyQ (fun hc => ?_) (fun hc => ?_) <;> try exact prEQ) | (refine ost_neA rfl (by decide) rfl rfl tyQ tyQ (fun hc => ?_) (fun hc => ?_) <;> try exact prEQ) | (refine ost_cmp rfl rfl rfl rfl (fun hc => ?_) (fun hc => ?_) <;> (simp only [cmpP] at hc; try exact prIQ))) | (refine opk 4 rfl ?_; (refine ost_cmp rfl rfl rfl rfl (fun hc => ?_) (fun hc => ?_) <;> (simp only [cmpP] at hc; try exact prIQ))) | (refine opk 8 rfl ?_; (refine ost_storeW H rfl rfl rfl rfl lQ ixQ lQ okQ ?_; clear H; intro wk H; simp only [List.set_cons_zero, List.set_cons_succ, Nat.reduceAdd] at H)) | (refine opk 9 rfl ?_; (refine ost_allocA H rfl ?_; clear H; intro bk wk H))) | refine Wc.seq ?_ | refine then_n ?_ | refine WL.nil ?_ | refine Wc.region ?_ | refine Wc.block ?_ | refine then_r ?_ | refine then_e ?_ | refine inb_e rfl ?_ | refine inb_o rfl ?_ | refine inb_n ?_ | refine inb_r ?_ | refine Wc.skip ?_ | refine Wc.exit ?_ | refine Wc.ret ?_ | refine Wc.cond_true rfl ?_ | refine Wc.cond_false rfl ?_ | (refine Wc.drawn (id := 7) 6 (by kernel_rfl) ?_) | (refine Wc.drawn (id := 15) 17 (by kernel_rfl) ?_) | refine WL.skp rfl rfl ?_ | refine WL.sku rfl ?_ | (refine rgs_nil ?_; intro vs wk hE; replace H := H.ext hE; clear hE) | refine RGs.skp (fun _ => rfl) rfl ?_ | (refine RGs.bq (fun _ => rfl) rfl (by intro vs w hE hP; have H := H.ext hE; first | exact dbQ | fail) (fun hc => ?_) (fun hc => ?_) <;> ((try simp only [cmpP, decide_eq_true_eq, decide_eq_false_iff_not, dcd_iff, dcd_no] at hc); try exact prDQ)) | refine RGs.pq (fun _ => rfl) rfl (by intro vs w hE hP; have H := H.ext hE; first | exact dvQ | fail) ?_)
          all_goals first | (exfalso; omega) | (exfalso; exact hc rfl) | skip
          exact ⟨ks.length - (j + 1), by omega, j + 1, rfl, by omega, by (repeat' (first | exact Agree.refl _ _ | exact Agree.havoc | refine Agree.upd rfl ?_ | refine Agree.hav2 rfl ?_)), by show Value.int _ _ = _; congr 1; rw [hus]; omega, by rw [if_neg (Nat.succ_ne_zero j)]; rfl, rfl, H.picks [1, 2] rfl (by decide)⟩
        · rw [if_neg hj0]
          repeat' (first | ((first | refine WL.p rfl ?_ | refine WL.u ?_ | refine WL.g rfl rfl ?_ | refine WL.gu rfl ?_); first | (refine opk 1 rfl ?_; (refine ost_V H rfl (hrec _ H.sat) rfl ?_; clear H; intro wk H)) | refine pvQ ?_ | (refine opk 3 rfl ?_; first | (refine ost_eqA rfl (by decide) rfl rfl tyQ tyQ (fun hc => ?_) (fun hc => ?_) <;> try exact prEQ) | (refine ost_neA rfl (by decide) rfl rfl tyQ tyQ (fun hc => ?_) (fun hc => ?_) <;> try exact prEQ) | (refine ost_cmp rfl rfl rfl rfl (fun hc => ?_) (fun hc => ?_) <;> (simp only [cmpP] at hc; try exact prIQ))) | (refine opk 4 rfl ?_; (refine ost_cmp rfl rfl rfl rfl (fun hc => ?_) (fun hc => ?_) <;> (simp only [cmpP] at hc; try exact prIQ))) | (refine opk 8 rfl ?_; (refine ost_storeW H rfl rfl rfl rfl lQ ixQ lQ okQ ?_; clear H; intro wk H; simp only [List.set_cons_zero, List.set_cons_succ, Nat.reduceAdd] at H)) | (refine opk 9 rfl ?_; (refine ost_allocA H rfl ?_; clear H; intro bk wk H))) | refine Wc.seq ?_ | refine then_n ?_ | refine WL.nil ?_ | refine Wc.region ?_ | refine Wc.block ?_ | refine then_r ?_ | refine then_e ?_ | refine inb_e rfl ?_ | refine inb_o rfl ?_ | refine inb_n ?_ | refine inb_r ?_ | refine Wc.skip ?_ | refine Wc.exit ?_ | refine Wc.ret ?_ | refine Wc.cond_true rfl ?_ | refine Wc.cond_false rfl ?_ | (refine Wc.drawn (id := 7) 6 (by kernel_rfl) ?_) | (refine Wc.drawn (id := 15) 17 (by kernel_rfl) ?_) | refine WL.skp rfl rfl ?_ | refine WL.sku rfl ?_ | (refine rgs_nil ?_; intro vs wk hE; replace H := H.ext hE; clear hE) | refine RGs.skp (fun _ => rfl) rfl ?_ | (refine RGs.bq (fun _ => rfl) rfl (by intro vs w hE hP; have H := H.ext hE; first | exact dbQ | fail) (fun hc => ?_) (fun hc => ?_) <;> ((try simp only [cmpP, decide_eq_true_eq, decide_eq_false_iff_not, dcd_iff, dcd_no] at hc); try exact prDQ)) | refine RGs.pq (fun _ => rfl) rfl (by intro vs w hE hP; have H := H.ext hE; first | exact dvQ | fail) ?_)
          all_goals first | (exfalso; omega) | (exfalso; exact hc rfl) | skip
          exact ⟨ks.length - (j + 1), by omega, j + 1, rfl, by omega, by (repeat' (first | exact Agree.refl _ _ | exact Agree.havoc | refine Agree.upd rfl ?_ | refine Agree.hav2 rfl ?_)), by show Value.int _ _ = _; congr 1; rw [hus]; omega, by rw [if_neg (Nat.succ_ne_zero j)]; rfl, rfl, H.picks [1, 2] rfl (by decide)⟩
      · obtain rfl : j = ks.length := by omega
        have g3 : (Lq.drop (oq + (0 : Int).toNat * 3)).take 3 = cKey (hdK (Sh.its (d + 1) ((num, ks) : UInt32 × List (Sh d)))) := by
          have := egq (0 : Int).toNat 0 (by rw [hlk]; omega) rfl
          rwa [List.getElem_map, hh] at this
        have hua := usedN_all (num := num) (ks := ks)
        have lh := cKey_len (hdK (Sh.its (d + 1) ((num, ks) : UInt32 × List (Sh d))))
        have oh := allOne_of (cKey_one (hdK (Sh.its (d + 1) ((num, ks) : UInt32 × List (Sh d)))))
        rw [if_neg (by omega), hua]
        clear egq
        repeat' (first | ((first | refine WL.p rfl ?_ | refine WL.u ?_ | refine WL.g rfl rfl ?_ | refine WL.gu rfl ?_); first | refine pvQ ?_ | (refine opk 3 rfl ?_; first | (refine ost_eqA rfl (by decide) rfl rfl tyQ tyQ (fun hc => ?_) (fun hc => ?_) <;> try exact prEQ) | (refine ost_neA rfl (by decide) rfl rfl tyQ tyQ (fun hc => ?_) (fun hc => ?_) <;> try exact prEQ) | (refine ost_cmp rfl rfl rfl rfl (fun hc => ?_) (fun hc => ?_) <;> (simp only [cmpP] at hc; try exact prIQ))) | (refine opk 4 rfl ?_; (refine ost_cmp rfl rfl rfl rfl (fun hc => ?_) (fun hc => ?_) <;> (simp only [cmpP] at hc; try exact prIQ))) | (refine opk 8 rfl ?_; (refine ost_storeW H rfl rfl rfl rfl lQ ixQ lQ okQ ?_; clear H; intro wk H; simp only [List.set_cons_zero, List.set_cons_succ, Nat.reduceAdd] at H)) | (refine opk 9 rfl ?_; (refine ost_allocA H rfl ?_; clear H; intro bk wk H))) | refine Wc.seq ?_ | refine then_n ?_ | refine WL.nil ?_ | refine Wc.region ?_ | refine Wc.block ?_ | refine then_r ?_ | refine then_e ?_ | refine inb_e rfl ?_ | refine inb_o rfl ?_ | refine inb_n ?_ | refine inb_r ?_ | refine Wc.skip ?_ | refine Wc.exit ?_ | refine Wc.ret ?_ | refine Wc.cond_true rfl ?_ | refine Wc.cond_false rfl ?_ | (refine Wc.drawn (id := 7) 6 (by kernel_rfl) ?_) | (refine Wc.drawn (id := 15) 17 (by kernel_rfl) ?_) | (refine Wc.drawn (id := 20) 9 (by kernel_rfl) ?_) | refine WL.skp rfl rfl ?_ | refine WL.sku rfl ?_ | (refine rgs_nil ?_; intro vs wk hE; replace H := H.ext hE; clear hE) | refine RGs.skp (fun _ => rfl) rfl ?_ | (refine RGs.bq (fun _ => rfl) rfl (by intro vs w hE hP; have H := H.ext hE; first | exact dbQ | fail) (fun hc => ?_) (fun hc => ?_) <;> ((try simp only [cmpP, decide_eq_true_eq, decide_eq_false_iff_not, dcd_iff, dcd_no] at hc); try exact prDQ)) | refine RGs.pq (fun _ => rfl) rfl (by intro vs w hE hP; have H := H.ext hE; first | exact dvQ | fail) ?_)
        all_goals first | (exfalso; omega) | skip
        exact fn_ret4 (v1 := .int _ _) (v2 := .int _ _) (v4 := .bool _) rfl rfl rfl (rv_cellA rfl rfl H.bI lQ) rfl ⟨rfl, H.fr⟩
theorem walk_all : ∀ d, WalkS d
  | 0 => walk0
  | d + 1 => walk_succ d (walk_all d)
theorem trim_TrB {h : FH} {T : TrM} {d : Nat} {s : Sh d} {k : Nat} (H : TrB h T d s k) : TrB h (T.trim (Sh.nums d s) ((Sh.its d s).length : Nat)) d s k := ⟨(trim_inv H.inv).1, H.dp, H.nx, H.ln⟩
theorem law_TreeShape (w : World) (a : Option Addr) (c : Nat) (l : List Ac14) (hS : Sl (full w) 6 a c (l.map ac14L)) : SpecV Try.prog 4 #[.slice a l.length c] w (.bool true) := by
  have H := St.start (sat_full w)
  have hs := sat_full w
  have hln := hS.lenM
  unfold SpecV
  refine calls_of Try.func4 rfl Try.ntmps4 (by simp) ?_
  repeat' (first | ((first | refine WL.p rfl ?_ | refine WL.u ?_ | refine WL.g rfl rfl ?_ | refine WL.gu rfl ?_); first | (refine opk 1 rfl ?_; first | (refine ost_V H rfl (law14_alive _) rfl ?_; clear H; intro wk H) | (refine ost_C H rfl (tr_New _ _ (sat_full _)) rfl ?_; clear H; rintro vk wk hfk Lk ⟨rfl, tb, mb, rb, rfl, rfl⟩ H; simp only [List.cons_append, List.nil_append] at H)) | refine pvQ ?_ | (refine opk 3 rfl ?_; first | (refine ost_cmp rfl rfl rfl rfl (fun hc => ?_) (fun hc => ?_) <;> (simp only [cmpP] at hc; try exact prIQ)) | (refine ost_ptEq rfl rfl rfl (fun hc => ?_) (fun hc => ?_) <;> try (simp at hc; done)) | (refine ost_ptNe rfl rfl rfl (fun hc => ?_) (fun hc => ?_) <;> try (simp at hc; done))) | (refine opk 4 rfl ?_; (refine ost_cmp rfl rfl rfl rfl (fun hc => ?_) (fun hc => ?_) <;> (simp only [cmpP] at hc; try exact prIQ))) | (refine opk 8 rfl ?_; (refine ost_storeW H rfl rfl rfl rfl lQ ixQ lQ okQ ?_; clear H; intro wk H; simp only [List.set_cons_zero, List.set_cons_succ, Nat.reduceAdd] at H)) | (refine opk 9 rfl ?_; (refine ost_allocA H rfl ?_; clear H; intro bk wk H))) | refine Wc.seq ?_ | refine then_n ?_ | refine WL.nil ?_ | refine Wc.region ?_ | refine Wc.block ?_ | refine then_r ?_ | refine then_e ?_ | refine inb_e rfl ?_ | refine inb_o rfl ?_ | refine inb_n ?_ | refine inb_r ?_ | refine Wc.skip ?_ | refine Wc.exit ?_ | refine Wc.ret ?_ | refine Wc.cond_true rfl ?_ | refine Wc.cond_false rfl ?_ | refine WL.skp rfl rfl ?_ | refine WL.sku rfl ?_)
  all_goals first | (exfalso; omega) | skip
  refine Wc.loopE (fun s0 m st w' => ∃ (i d1 : Nat) (s1 : Sh d1) (T : TrM) (g' : FH) (mb rb : Nat), m = l.length - i ∧ i ≤ l.length ∧ i ≤ 120 ∧ Agree [2, 4, 5, 6, 7, 8, 9, 10, 16, 17, 18, 19, 20, 21, 22, 23, 24, 25, 26, 27, 28, 29, 30, 31, 32, 33, 34, 35, 36, 37, 38, 39, 40, 41, 42, 43, 44, 45, 46, 47, 48, 49, 50, 51, 52, 53, 54, 55, 56, 57, 58, 59, 60, 61, 62, 63, 64, 65, 66, 67, 68, 69, 70, 71, 72, 73, 74, 75, 76] st s0 ∧ st 4 = .int .i64 i ∧ FLe (full w) g' ∧ TrB g' T d1 s1 i ∧ St w [] (full w) g' [trO tb mb rb T] w') l.length ⟨0, 0, leafS 1 [], newT, full w, mb, rb, rfl, by omega, by omega, Agree.refl _ _, rfl, FLe.refl _, newT_inv _, H⟩ ?_
  clear H
  rintro m st w' ⟨i, d1, s1, T, g', mb1, rb1, rfl, hi1, hi2, hA, e1, hle0, hT, H⟩
  obtain ⟨j9, rfl⟩ := hA.env1 e1
  clear hA e1
  by_cases hlt : i < l.length ∧ i < 120
  · obtain ⟨b, off, l9, T9, fr, e1, eb, eg⟩ := hS.getM (by decide) (Nat.lt_of_le_of_lt (Nat.zero_le _) hlt.1)
    subst e1
    have g9 := eg (i : Int).toNat i hlt.1 (by omega)
    clear eg
    replace eb := hle0 _ _ eb
    obtain ⟨x, hx9⟩ : ∃ x, x = l[i] := ⟨_, rfl⟩
    rw [← hx9] at g9
    clear hx9
    have l6 := ac14L_len x
    have gk := ac14_key x
    have gd := ac14_kd x
    have g8 : (l9.drop (off + (i : Int).toNat * 6 + 1)).take 3 = cKey x.it.key := by
      rw [row_part g9 (q := 1) (n := 3) (by decide)]; exact gk
    have g7 : l9[off + (i : Int).toNat * 6 + 0]? = some (.int .u8 x.kd.toNat) := by
      rw [row_cell g9 (q := 0) (by rw [l6]; decide)]; exact gd
    have lk := cKey_len x.it.key
    have u0 := x.kd.toNat_lt
    have hT0 := hT
    by_cases hk3 : x.kd.toNat % 6 = 3 ∨ x.kd.toNat % 6 = 4
    · have hD := fun g w hT HO => tr_DropA tb mb1 rb1 T d1 s1 i x.it.key g w hT (by omega) HO
      generalize dropI (Sh.its d1 s1) x.it.key = Z at hD
      repeat' (first | ((first | refine WL.p rfl ?_ | refine WL.u ?_ | refine WL.g rfl rfl ?_ | refine WL.gu rfl ?_); first | (refine opk 1 rfl ?_; (refine ost_H (A := trO tb mb1 rb1 T) H rfl (by (exact ixQ)) (fun HO => hD _ _ hT HO) rfl ?_; clear H; rintro vk wk hfk Lk ⟨T1, d1, s1, rfl, rfl, hT1, -, -, -⟩ hle H; simp only [List.cons_append, List.nil_append, List.eraseIdx_cons_zero, List.eraseIdx_cons_succ] at H)) | refine pvQ ?_ | (refine opk 3 rfl ?_; first | (refine ost_cmp rfl rfl rfl rfl (fun hc => ?_) (fun hc => ?_) <;> (simp only [cmpP] at hc; try exact prIQ)) | (refine ost_ptEq rfl rfl rfl (fun hc => ?_) (fun hc => ?_) <;> try (simp at hc; done)) | (refine ost_ptNe rfl rfl rfl (fun hc => ?_) (fun hc => ?_) <;> try (simp at hc; done))) | (refine opk 4 rfl ?_; (refine ost_cmp rfl rfl rfl rfl (fun hc => ?_) (fun hc => ?_) <;> (simp only [cmpP] at hc; try exact prIQ))) | (refine opk 8 rfl ?_; (refine ost_storeW H rfl rfl rfl rfl lQ ixQ lQ okQ ?_; clear H; intro wk H; simp only [List.set_cons_zero, List.set_cons_succ, Nat.reduceAdd] at H)) | (refine opk 9 rfl ?_; (refine ost_allocA H rfl ?_; clear H; intro bk wk H))) | refine Wc.seq ?_ | refine then_n ?_ | refine WL.nil ?_ | refine Wc.region ?_ | refine Wc.block ?_ | refine then_r ?_ | refine then_e ?_ | refine inb_e rfl ?_ | refine inb_o rfl ?_ | refine inb_n ?_ | refine inb_r ?_ | refine Wc.skip ?_ | refine Wc.exit ?_ | refine Wc.ret ?_ | refine Wc.cond_true rfl ?_ | refine Wc.cond_false rfl ?_ | refine WL.skp rfl rfl ?_ | refine WL.sku rfl ?_)
      all_goals first | (exfalso; omega) | (exfalso; exact hc rfl) | skip
      all_goals
        have hln1 := hT1.ln
        have hdp1 := hT1.dp
        have hnl := hT1.nodes (by omega)
        have hroot1 := fun g w HO => tr_Root tb mb1 rb1 T1 g w HO
        have hpg := fun w hs hF hR => tr_Pages tb mb1 rb1 T1 d1 s1 (full w) w hs hF hT1.inv.ok hR hnl (by rw [← hT1.inv.root, hT1.inv.cnt]; rfl)
        simp only [← hT1.inv.root] at hpg
        have lh := cKey_len (hdK (Sh.its d1 s1))
        have oh := allOne_of (cKey_one (hdK (Sh.its d1 s1)))
        repeat' (first | ((first | refine WL.p rfl ?_ | refine WL.u ?_ | refine WL.g rfl rfl ?_ | refine WL.gu rfl ?_); first | (refine opk 1 rfl ?_; first | (refine ost_O (A := trO tb mb1 rb1 T1) H rfl (by (exact ixQ)) (fun HO => hroot1 _ _ HO) rfl ?_; clear H; rintro vk wk hfk Lk ⟨rfl, rfl, rfl⟩ H; simp only [List.cons_append, List.nil_append, List.eraseIdx_cons_zero, List.eraseIdx_cons_succ] at H) | (refine ost_C H rfl (hpg _ (sat_full _) (H.trF (i := 0) rfl) (hT1.inv.rep.mono H.sat.le)) rfl ?_; clear H; rintro vk wk hfk Lk ⟨a9, c9, pls, rfl, rfl, hpls⟩ H; simp only [List.cons_append, List.nil_append] at H; obtain ⟨a8, c8, h9, e9, hle9, hN9, H9⟩ := H.freezeR (rows_pg _); injection e9 with e91 e92 e93; subst e91; subst e93; obtain ⟨h10, hle10, hPg, H10⟩ := (St.allOpen H9).freezePgs; clear H H9; have H := H10; clear H10)) | refine pvQ ?_ | (refine opk 3 rfl ?_; first | (refine ost_cmp rfl rfl rfl rfl (fun hc => ?_) (fun hc => ?_) <;> (simp only [cmpP] at hc; try exact prIQ)) | (refine ost_ptEq rfl rfl rfl (fun hc => ?_) (fun hc => ?_) <;> try (simp at hc; done)) | (refine ost_ptNe rfl rfl rfl (fun hc => ?_) (fun hc => ?_) <;> try (simp at hc; done))) | (refine opk 4 rfl ?_; (refine ost_cmp rfl rfl rfl rfl (fun hc => ?_) (fun hc => ?_) <;> (simp only [cmpP] at hc; try exact prIQ))) | (refine opk 8 rfl ?_; (refine ost_storeW H rfl rfl rfl rfl lQ ixQ lQ okQ ?_; clear H; intro wk H; simp only [List.set_cons_zero, List.set_cons_succ, Nat.reduceAdd] at H)) | (refine opk 9 rfl ?_; (refine ost_allocA H rfl ?_; clear H; intro bk wk H))) | refine Wc.seq ?_ | refine then_n ?_ | refine WL.nil ?_ | refine Wc.region ?_ | refine Wc.block ?_ | refine then_r ?_ | refine then_e ?_ | refine inb_e rfl ?_ | refine inb_o rfl ?_ | refine inb_n ?_ | refine inb_r ?_ | refine Wc.skip ?_ | refine Wc.exit ?_ | refine Wc.ret ?_ | refine Wc.cond_true rfl ?_ | refine Wc.cond_false rfl ?_ | refine WL.skp rfl rfl ?_ | refine WL.sku rfl ?_)
        all_goals first | (exfalso; omega) | (exfalso; exact hc rfl) | skip
        have hpl2 := pls_len hpls
        have hwk := fun w hs => walk_all d1 s1 true [] a9 pls.length c9 pls h10 w hs hT1.inv.ok hT1.inv.srt (fun _ => hT1.inv.rt) (fun h => by cases h) (hN9.mono hle10) hPg (by rw [hpls, List.append_nil]) (by omega) (by omega) rfl
        repeat' (first | ((first | refine WL.p rfl ?_ | refine WL.u ?_ | refine WL.g rfl rfl ?_ | refine WL.gu rfl ?_); first | (refine opk 1 rfl ?_; (refine ost_V H rfl (hwk _ H.sat) rfl ?_; clear H; intro wk H)) | refine pvQ ?_ | (refine opk 3 rfl ?_; first | (refine ost_cmp rfl rfl rfl rfl (fun hc => ?_) (fun hc => ?_) <;> (simp only [cmpP] at hc; try exact prIQ)) | (refine ost_ptEq rfl rfl rfl (fun hc => ?_) (fun hc => ?_) <;> try (simp at hc; done)) | (refine ost_ptNe rfl rfl rfl (fun hc => ?_) (fun hc => ?_) <;> try (simp at hc; done))) | (refine opk 4 rfl ?_; (refine ost_cmp rfl rfl rfl rfl (fun hc => ?_) (fun hc => ?_) <;> (simp only [cmpP] at hc; try exact prIQ))) | (refine opk 8 rfl ?_; (refine ost_storeW H rfl rfl rfl rfl lQ ixQ lQ okQ ?_; clear H; intro wk H; simp only [List.set_cons_zero, List.set_cons_succ, Nat.reduceAdd] at H)) | (refine opk 9 rfl ?_; (refine ost_allocA H rfl ?_; clear H; intro bk wk H))) | refine Wc.seq ?_ | refine then_n ?_ | refine WL.nil ?_ | refine Wc.region ?_ | refine Wc.block ?_ | refine then_r ?_ | refine then_e ?_ | refine inb_e rfl ?_ | refine inb_o rfl ?_ | refine inb_n ?_ | refine inb_r ?_ | refine Wc.skip ?_ | refine Wc.exit ?_ | refine Wc.ret ?_ | refine Wc.cond_true rfl ?_ | refine Wc.cond_false rfl ?_ | refine WL.skp rfl rfl ?_ | refine WL.sku rfl ?_)
        all_goals first | (exfalso; omega) | (exfalso; exact hc rfl) | skip
        exact ⟨l.length - (i + 1), by omega, i + 1, d1, s1, T1, h10, mb1, rb1, rfl, by omega, by omega, by (repeat' (first | exact Agree.refl _ _ | exact Agree.havoc | refine Agree.upd rfl ?_ | refine Agree.hav2 rfl ?_)), rfl, H.le hs, hT1.mono (hle9.trans hle10) (Nat.le_refl _), H.picks [1] rfl (by decide)⟩
    · by_cases hk5 : x.kd.toNat % 6 = 5
      · have hD := fun g w hT HO => tr_Trim tb mb1 rb1 T d1 s1 g w hT (hT0.nodes (by omega)) HO
        have hTr := fun h (hT : TrB h T d1 s1 i) => trim_TrB hT
        generalize hT1e : T.trim (Sh.nums d1 s1) ((Sh.its d1 s1).length : Nat) = T1 at hD hTr
        repeat' (first | ((first | refine WL.p rfl ?_ | refine WL.u ?_ | refine WL.g rfl rfl ?_ | refine WL.gu rfl ?_); first | (refine opk 1 rfl ?_; (refine ost_H (A := trO tb mb1 rb1 T) H rfl (by (exact ixQ)) (fun HO => hD _ _ hT.inv HO) rfl ?_; clear H; rintro vk wk hfk Lk ⟨mb1, rb1, rfl, rfl⟩ hle H; simp only [List.cons_append, List.nil_append, List.eraseIdx_cons_zero, List.eraseIdx_cons_succ] at H)) | refine pvQ ?_ | (refine opk 3 rfl ?_; first | (refine ost_cmp rfl rfl rfl rfl (fun hc => ?_) (fun hc => ?_) <;> (simp only [cmpP] at hc; try exact prIQ)) | (refine ost_ptEq rfl rfl rfl (fun hc => ?_) (fun hc => ?_) <;> try (simp at hc; done)) | (refine ost_ptNe rfl rfl rfl (fun hc => ?_) (fun hc => ?_) <;> try (simp at hc; done))) | (refine opk 4 rfl ?_; (refine ost_cmp rfl rfl rfl rfl (fun hc => ?_) (fun hc => ?_) <;> (simp only [cmpP] at hc; try exact prIQ))) | (refine opk 8 rfl ?_; (refine ost_storeW H rfl rfl rfl rfl lQ ixQ lQ okQ ?_; clear H; intro wk H; simp only [List.set_cons_zero, List.set_cons_succ, Nat.reduceAdd] at H)) | (refine opk 9 rfl ?_; (refine ost_allocA H rfl ?_; clear H; intro bk wk H))) | refine Wc.seq ?_ | refine then_n ?_ | refine WL.nil ?_ | refine Wc.region ?_ | refine Wc.block ?_ | refine then_r ?_ | refine then_e ?_ | refine inb_e rfl ?_ | refine inb_o rfl ?_ | refine inb_n ?_ | refine inb_r ?_ | refine Wc.skip ?_ | refine Wc.exit ?_ | refine Wc.ret ?_ | refine Wc.cond_true rfl ?_ | refine Wc.cond_false rfl ?_ | refine WL.skp rfl rfl ?_ | refine WL.sku rfl ?_)
        all_goals first | (exfalso; omega) | (exfalso; exact hc rfl) | skip
        have hT1 := (hTr _ (hT.mono hle (Nat.le_refl _))).mono (FLe.refl _) (Nat.le_succ i)
        have hln1 := hT1.ln
        have hdp1 := hT1.dp
        have hnl := hT1.nodes (by omega)
        have hroot1 := fun g w HO => tr_Root tb mb1 rb1 T1 g w HO
        have hpg := fun w hs hF hR => tr_Pages tb mb1 rb1 T1 d1 s1 (full w) w hs hF hT1.inv.ok hR hnl (by rw [← hT1.inv.root, hT1.inv.cnt]; rfl)
        simp only [← hT1.inv.root] at hpg
        have lh := cKey_len (hdK (Sh.its d1 s1))
        have oh := allOne_of (cKey_one (hdK (Sh.its d1 s1)))
        repeat' (first | ((first | refine WL.p rfl ?_ | refine WL.u ?_ | refine WL.g rfl rfl ?_ | refine WL.gu rfl ?_); first | (refine opk 1 rfl ?_; first | (refine ost_O (A := trO tb mb1 rb1 T1) H rfl (by (exact ixQ)) (fun HO => hroot1 _ _ HO) rfl ?_; clear H; rintro vk wk hfk Lk ⟨rfl, rfl, rfl⟩ H; simp only [List.cons_append, List.nil_append, List.eraseIdx_cons_zero, List.eraseIdx_cons_succ] at H) | (refine ost_C H rfl (hpg _ (sat_full _) (H.trF (i := 0) rfl) (hT1.inv.rep.mono H.sat.le)) rfl ?_; clear H; rintro vk wk hfk Lk ⟨a9, c9, pls, rfl, rfl, hpls⟩ H; simp only [List.cons_append, List.nil_append] at H; obtain ⟨a8, c8, h9, e9, hle9, hN9, H9⟩ := H.freezeR (rows_pg _); injection e9 with e91 e92 e93; subst e91; subst e93; obtain ⟨h10, hle10, hPg, H10⟩ := (St.allOpen H9).freezePgs; clear H H9; have H := H10; clear H10)) | refine pvQ ?_ | (refine opk 3 rfl ?_; first | (refine ost_cmp rfl rfl rfl rfl (fun hc => ?_) (fun hc => ?_) <;> (simp only [cmpP] at hc; try exact prIQ)) | (refine ost_ptEq rfl rfl rfl (fun hc => ?_) (fun hc => ?_) <;> try (simp at hc; done)) | (refine ost_ptNe rfl rfl rfl (fun hc => ?_) (fun hc => ?_) <;> try (simp at hc; done))) | (refine opk 4 rfl ?_; (refine ost_cmp rfl rfl rfl rfl (fun hc => ?_) (fun hc => ?_) <;> (simp only [cmpP] at hc; try exact prIQ))) | (refine opk 8 rfl ?_; (refine ost_storeW H rfl rfl rfl rfl lQ ixQ lQ okQ ?_; clear H; intro wk H; simp only [List.set_cons_zero, List.set_cons_succ, Nat.reduceAdd] at H)) | (refine opk 9 rfl ?_; (refine ost_allocA H rfl ?_; clear H; intro bk wk H))) | refine Wc.seq ?_ | refine then_n ?_ | refine WL.nil ?_ | refine Wc.region ?_ | refine Wc.block ?_ | refine then_r ?_ | refine then_e ?_ | refine inb_e rfl ?_ | refine inb_o rfl ?_ | refine inb_n ?_ | refine inb_r ?_ | refine Wc.skip ?_ | refine Wc.exit ?_ | refine Wc.ret ?_ | refine Wc.cond_true rfl ?_ | refine Wc.cond_false rfl ?_ | refine WL.skp rfl rfl ?_ | refine WL.sku rfl ?_)
        all_goals first | (exfalso; omega) | (exfalso; exact hc rfl) | skip
        have hpl2 := pls_len hpls
        have hwk := fun w hs => walk_all d1 s1 true [] a9 pls.length c9 pls h10 w hs hT1.inv.ok hT1.inv.srt (fun _ => hT1.inv.rt) (fun h => by cases h) (hN9.mono hle10) hPg (by rw [hpls, List.append_nil]) (by omega) (by omega) rfl
        repeat' (first | ((first | refine WL.p rfl ?_ | refine WL.u ?_ | refine WL.g rfl rfl ?_ | refine WL.gu rfl ?_); first | (refine opk 1 rfl ?_; (refine ost_V H rfl (hwk _ H.sat) rfl ?_; clear H; intro wk H)) | refine pvQ ?_ | (refine opk 3 rfl ?_; first | (refine ost_cmp rfl rfl rfl rfl (fun hc => ?_) (fun hc => ?_) <;> (simp only [cmpP] at hc; try exact prIQ)) | (refine ost_ptEq rfl rfl rfl (fun hc => ?_) (fun hc => ?_) <;> try (simp at hc; done)) | (refine ost_ptNe rfl rfl rfl (fun hc => ?_) (fun hc => ?_) <;> try (simp at hc; done))) | (refine opk 4 rfl ?_; (refine ost_cmp rfl rfl rfl rfl (fun hc => ?_) (fun hc => ?_) <;> (simp only [cmpP] at hc; try exact prIQ))) | (refine opk 8 rfl ?_; (refine ost_storeW H rfl rfl rfl rfl lQ ixQ lQ okQ ?_; clear H; intro wk H; simp only [List.set_cons_zero, List.set_cons_succ, Nat.reduceAdd] at H)) | (refine opk 9 rfl ?_; (refine ost_allocA H rfl ?_; clear H; intro bk wk H))) | refine Wc.seq ?_ | refine then_n ?_ | refine WL.nil ?_ | refine Wc.region ?_ | refine Wc.block ?_ | refine then_r ?_ | refine then_e ?_ | refine inb_e rfl ?_ | refine inb_o rfl ?_ | refine inb_n ?_ | refine inb_r ?_ | refine Wc.skip ?_ | refine Wc.exit ?_ | refine Wc.ret ?_ | refine Wc.cond_true rfl ?_ | refine Wc.cond_false rfl ?_ | refine WL.skp rfl rfl ?_ | refine WL.sku rfl ?_)
        all_goals first | (exfalso; omega) | (exfalso; exact hc rfl) | skip
        exact ⟨l.length - (i + 1), by omega, i + 1, d1, s1, T1, h10, mb1, rb1, rfl, by omega, by omega, by (repeat' (first | exact Agree.refl _ _ | exact Agree.havoc | refine Agree.upd rfl ?_ | refine Agree.hav2 rfl ?_)), rfl, H.le hs, hT1.mono (hle9.trans hle10) (Nat.le_refl _), H.picks [1] rfl (by decide)⟩
      · have hP := fun g w hT HO => tr_PutA tb mb1 rb1 T d1 s1 i x.it g w hT (by omega) HO
        have hI := law14_item x
        generalize putI (Sh.its d1 s1) x.it = Z at hP
        repeat' (first | ((first | refine WL.p rfl ?_ | refine WL.u ?_ | refine WL.g rfl rfl ?_ | refine WL.gu rfl ?_); first | (refine opk 1 rfl ?_; first | (refine ost_V H rfl (hI _) rfl ?_; clear H; intro wk H) | (refine ost_H (A := trO tb mb1 rb1 T) H rfl (by (exact ixQ)) (fun HO => hP _ _ hT HO) rfl ?_; clear H; rintro vk wk hfk Lk ⟨T1, d1, s1, rfl, rfl, hT1, -, -, -⟩ hle H; simp only [List.cons_append, List.nil_append, List.eraseIdx_cons_zero, List.eraseIdx_cons_succ] at H)) | refine pvQ ?_ | (refine opk 3 rfl ?_; first | (refine ost_cmp rfl rfl rfl rfl (fun hc => ?_) (fun hc => ?_) <;> (simp only [cmpP] at hc; try exact prIQ)) | (refine ost_ptEq rfl rfl rfl (fun hc => ?_) (fun hc => ?_) <;> try (simp at hc; done)) | (refine ost_ptNe rfl rfl rfl (fun hc => ?_) (fun hc => ?_) <;> try (simp at hc; done))) | (refine opk 4 rfl ?_; (refine ost_cmp rfl rfl rfl rfl (fun hc => ?_) (fun hc => ?_) <;> (simp only [cmpP] at hc; try exact prIQ))) | (refine opk 8 rfl ?_; (refine ost_storeW H rfl rfl rfl rfl lQ ixQ lQ okQ ?_; clear H; intro wk H; simp only [List.set_cons_zero, List.set_cons_succ, Nat.reduceAdd] at H)) | (refine opk 9 rfl ?_; (refine ost_allocA H rfl ?_; clear H; intro bk wk H))) | refine Wc.seq ?_ | refine then_n ?_ | refine WL.nil ?_ | refine Wc.region ?_ | refine Wc.block ?_ | refine then_r ?_ | refine then_e ?_ | refine inb_e rfl ?_ | refine inb_o rfl ?_ | refine inb_n ?_ | refine inb_r ?_ | refine Wc.skip ?_ | refine Wc.exit ?_ | refine Wc.ret ?_ | refine Wc.cond_true rfl ?_ | refine Wc.cond_false rfl ?_ | refine WL.skp rfl rfl ?_ | refine WL.sku rfl ?_)
        all_goals first | (exfalso; omega) | (exfalso; exact hc rfl) | skip
        have hln1 := hT1.ln
        have hdp1 := hT1.dp
        have hnl := hT1.nodes (by omega)
        have hroot1 := fun g w HO => tr_Root tb mb1 rb1 T1 g w HO
        have hpg := fun w hs hF hR => tr_Pages tb mb1 rb1 T1 d1 s1 (full w) w hs hF hT1.inv.ok hR hnl (by rw [← hT1.inv.root, hT1.inv.cnt]; rfl)
        simp only [← hT1.inv.root] at hpg
        have lh := cKey_len (hdK (Sh.its d1 s1))
        have oh := allOne_of (cKey_one (hdK (Sh.its d1 s1)))
        repeat' (first | ((first | refine WL.p rfl ?_ | refine WL.u ?_ | refine WL.g rfl rfl ?_ | refine WL.gu rfl ?_); first | (refine opk 1 rfl ?_; first | (refine ost_O (A := trO tb mb1 rb1 T1) H rfl (by (exact ixQ)) (fun HO => hroot1 _ _ HO) rfl ?_; clear H; rintro vk wk hfk Lk ⟨rfl, rfl, rfl⟩ H; simp only [List.cons_append, List.nil_append, List.eraseIdx_cons_zero, List.eraseIdx_cons_succ] at H) | (refine ost_C H rfl (hpg _ (sat_full _) (H.trF (i := 0) rfl) (hT1.inv.rep.mono H.sat.le)) rfl ?_; clear H; rintro vk wk hfk Lk ⟨a9, c9, pls, rfl, rfl, hpls⟩ H; simp only [List.cons_append, List.nil_append] at H; obtain ⟨a8, c8, h9, e9, hle9, hN9, H9⟩ := H.freezeR (rows_pg _); injection e9 with e91 e92 e93; subst e91; subst e93; obtain ⟨h10, hle10, hPg, H10⟩ := (St.allOpen H9).freezePgs; clear H H9; have H := H10; clear H10)) | refine pvQ ?_ | (refine opk 3 rfl ?_; first | (refine ost_cmp rfl rfl rfl rfl (fun hc => ?_) (fun hc => ?_) <;> (simp only [cmpP] at hc; try exact prIQ)) | (refine ost_ptEq rfl rfl rfl (fun hc => ?_) (fun hc => ?_) <;> try (simp at hc; done)) | (refine ost_ptNe rfl rfl rfl (fun hc => ?_) (fun hc => ?_) <;> try (simp at hc; done))) | (refine opk 4 rfl ?_; (refine ost_cmp rfl rfl rfl rfl (fun hc => ?_) (fun hc => ?_) <;> (simp only [cmpP] at hc; try exact prIQ))) | (refine opk 8 rfl ?_; (refine ost_storeW H rfl rfl rfl rfl lQ ixQ lQ okQ ?_; clear H; intro wk H; simp only [List.set_cons_zero, List.set_cons_succ, Nat.reduceAdd] at H)) | (refine opk 9 rfl ?_; (refine ost_allocA H rfl ?_; clear H; intro bk wk H))) | refine Wc.seq ?_ | refine then_n ?_ | refine WL.nil ?_ | refine Wc.region ?_ | refine Wc.block ?_ | refine then_r ?_ | refine then_e ?_ | refine inb_e rfl ?_ | refine inb_o rfl ?_ | refine inb_n ?_ | refine inb_r ?_ | refine Wc.skip ?_ | refine Wc.exit ?_ | refine Wc.ret ?_ | refine Wc.cond_true rfl ?_ | refine Wc.cond_false rfl ?_ | refine WL.skp rfl rfl ?_ | refine WL.sku rfl ?_)
        all_goals first | (exfalso; omega) | (exfalso; exact hc rfl) | skip
        have hpl2 := pls_len hpls
        have hwk := fun w hs => walk_all d1 s1 true [] a9 pls.length c9 pls h10 w hs hT1.inv.ok hT1.inv.srt (fun _ => hT1.inv.rt) (fun h => by cases h) (hN9.mono hle10) hPg (by rw [hpls, List.append_nil]) (by omega) (by omega) rfl
        repeat' (first | ((first | refine WL.p rfl ?_ | refine WL.u ?_ | refine WL.g rfl rfl ?_ | refine WL.gu rfl ?_); first | (refine opk 1 rfl ?_; (refine ost_V H rfl (hwk _ H.sat) rfl ?_; clear H; intro wk H)) | refine pvQ ?_ | (refine opk 3 rfl ?_; first | (refine ost_cmp rfl rfl rfl rfl (fun hc => ?_) (fun hc => ?_) <;> (simp only [cmpP] at hc; try exact prIQ)) | (refine ost_ptEq rfl rfl rfl (fun hc => ?_) (fun hc => ?_) <;> try (simp at hc; done)) | (refine ost_ptNe rfl rfl rfl (fun hc => ?_) (fun hc => ?_) <;> try (simp at hc; done))) | (refine opk 4 rfl ?_; (refine ost_cmp rfl rfl rfl rfl (fun hc => ?_) (fun hc => ?_) <;> (simp only [cmpP] at hc; try exact prIQ))) | (refine opk 8 rfl ?_; (refine ost_storeW H rfl rfl rfl rfl lQ ixQ lQ okQ ?_; clear H; intro wk H; simp only [List.set_cons_zero, List.set_cons_succ, Nat.reduceAdd] at H)) | (refine opk 9 rfl ?_; (refine ost_allocA H rfl ?_; clear H; intro bk wk H))) | refine Wc.seq ?_ | refine then_n ?_ | refine WL.nil ?_ | refine Wc.region ?_ | refine Wc.block ?_ | refine then_r ?_ | refine then_e ?_ | refine inb_e rfl ?_ | refine inb_o rfl ?_ | refine inb_n ?_ | refine inb_r ?_ | refine Wc.skip ?_ | refine Wc.exit ?_ | refine Wc.ret ?_ | refine Wc.cond_true rfl ?_ | refine Wc.cond_false rfl ?_ | refine WL.skp rfl rfl ?_ | refine WL.sku rfl ?_)
        all_goals first | (exfalso; omega) | (exfalso; exact hc rfl) | skip
        exact ⟨l.length - (i + 1), by omega, i + 1, d1, s1, T1, h10, mb1, rb1, rfl, by omega, by omega, by (repeat' (first | exact Agree.refl _ _ | exact Agree.havoc | refine Agree.upd rfl ?_ | refine Agree.hav2 rfl ?_)), rfl, H.le hs, hT1.mono (hle9.trans hle10) (Nat.le_refl _), H.picks [1] rfl (by decide)⟩
  · repeat' (first | ((first | refine WL.p rfl ?_ | refine WL.u ?_ | refine WL.g rfl rfl ?_ | refine WL.gu rfl ?_); first | refine pvQ ?_ | (refine opk 3 rfl ?_; first | (refine ost_cmp rfl rfl rfl rfl (fun hc => ?_) (fun hc => ?_) <;> (simp only [cmpP] at hc; try exact prIQ)) | (refine ost_ptEq rfl rfl rfl (fun hc => ?_) (fun hc => ?_) <;> try (simp at hc; done)) | (refine ost_ptNe rfl rfl rfl (fun hc => ?_) (fun hc => ?_) <;> try (simp at hc; done))) | (refine opk 4 rfl ?_; (refine ost_cmp rfl rfl rfl rfl (fun hc => ?_) (fun hc => ?_) <;> (simp only [cmpP] at hc; try exact prIQ))) | (refine opk 8 rfl ?_; (refine ost_storeW H rfl rfl rfl rfl lQ ixQ lQ okQ ?_; clear H; intro wk H; simp only [List.set_cons_zero, List.set_cons_succ, Nat.reduceAdd] at H)) | (refine opk 9 rfl ?_; (refine ost_allocA H rfl ?_; clear H; intro bk wk H))) | refine Wc.seq ?_ | refine then_n ?_ | refine WL.nil ?_ | refine Wc.region ?_ | refine Wc.block ?_ | refine then_r ?_ | refine then_e ?_ | refine inb_e rfl ?_ | refine inb_o rfl ?_ | refine inb_n ?_ | refine inb_r ?_ | refine Wc.skip ?_ | refine Wc.exit ?_ | refine Wc.ret ?_ | refine Wc.cond_true rfl ?_ | refine Wc.cond_false rfl ?_ | refine WL.skp rfl rfl ?_ | refine WL.sku rfl ?_)
    all_goals first | (exfalso; omega) | ((first | refine fn_ret1 (v := .bool _) rfl rfl ⟨?_, H.fr⟩ | refine fn_ret1 (v := .int _ _) rfl rfl ⟨?_, H.fr⟩ | refine fn_ret1 (v := .string _) rfl rfl ⟨?_, H.fr⟩); rfl)
end Go.Tg
namespace Go.Proofs.Ytbfilhaigbebpaa
open Go.ChangeShapes Go.WideShapes Go.ChangeAt Go.RowKit Go.Tg
theorem treeShape_lifted (os : Os) (started : os.Started) (H : Type) (enc : TypeId × Value → H) :
    ReturnsInHanded {} Try.checked os 4 .any (Rows.treeShapeSpec.pre6 enc Try.prog Try.f4 Rows.treeShapeRow.domain false) (Rows.treeShapeSpec.post enc Try.prog Try.f4 false true false false) := by
  refine returnsInHanded_of_change (C := Try.checked) own_ started (by kernel_rfl) Try.func4
    (ChangeSpec.witness6 (enc := enc) (C := Try.checked) false ⟨#[], #[.slice none 0 0], []⟩ 8 (by kernel_rfl) (by kernel_rfl) (by kernel_rfl) (by kernel_rfl)) ?_
  intro W base args ds gs before hval0 hW hcnd _
  have hval : ∀ (j : Nat) t v, Try.f4.params[j]? = some t → args[j]? = some v → Value.okWide Try.prog W .any base t v := hval0
  have hW' := hW
  obtain ⟨p, q, hA0, -, -, -, -⟩ := hW'
  have hA : DataW.TrodAll enc Try.prog W 0 (fun _ => true) true Try.f4.params.toList args.toList ds p := hA0
  rw [Try.params4] at hA hval
  obtain ⟨v0, d0, rfl, rfl, h0⟩ := trodAll_one hA
  obtain ⟨la, lc, l, e0, lr⟩ := acs14_of (Td.of h0)
  obtain rfl := val_of1 e0 (okWide_slice Try.underlying22 (hval 0 _ v0 rfl rfl))
  refine (law_TreeShape (w := W) la lc l lr).mono fun e W' ⟨v, he, hv, hE⟩ => ⟨v, he, ?_⟩
  subst hv
  exact law_post rfl hW hE rfl (by kernel_rfl) Try.underlying4 laid_ (by kernel_rfl)
theorem treeShape_holds : Rows.TreeShapeSaid :=
  OpenClaim.holds_of_wide 4 Try.f4 rfl rfl rfl rfl rfl rfl rfl ⟨rfl, rfl, rfl, rfl, rfl⟩ rfl rfl rfl rfl rfl (by kernel_rfl) Try.func4 (by kernel_rfl)
    (of_decide_eq_true (by kernel_rfl)) (by unfold Func.isWrapper; first | (rw [if_pos (by decide +kernel)]; kernel_rfl) | (rw [if_neg (by decide +kernel)]; exact ⟨rfl, rfl⟩))
    (fun os started H enc _ => treeShape_lifted os started H enc)
end Go.Proofs.Ytbfilhaigbebpaa

