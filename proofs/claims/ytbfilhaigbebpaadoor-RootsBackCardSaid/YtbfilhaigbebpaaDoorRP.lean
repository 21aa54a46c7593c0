/- Proved: the given statement RootsBackCardSaid: the Go law RootsBack returns true for every input that it is asked of. No conditions. -/
import Derived.Test.YtbfilhaigbebpaaDoorInst
import Derived.Test.YtbfilhaigbebpaaDoorAuto
import Derived.Test.YtbfilhaigbebpaaDoorL7
set_option linter.unusedVariables false
set_option linter.unusedSimpArgs false
set_option maxRecDepth 100000
set_option maxHeartbeats 4000000
namespace Go.Tg
open Go Go.Proofs
theorem law15_theirsO (h0 : FH) (w : World) (hs : Sat h0 w) (a : Option Addr) (c : Nat) (l : List ItemT) (hN : Sl h0 5 a c (l.map cItem)) (hb : l.length ≤ 1000000) :
    Spec Tryd.prog 11 #[.slice a l.length c] w [] h0 (fun v h' L' => h' = h0 ∧ ∃ a' c', v = .slice a' l.length c' ∧ L' = [ownR (.slice a' l.length c') 70 5 (l.map cItem)]) := by
  have H := St.start hs
  have q1 := hN.lenM
  unfold Spec
  refine calls_of Tryd.func11 rfl Tryd.ntmps11 (by simp) ?_
  repeat' (first | ((first | refine WL.p rfl ?_ | refine WL.u ?_); first | refine pvQ ?_ | (refine opk 3 rfl ?_; (refine ost_cmp rfl rfl rfl rfl (fun hc => ?_) (fun hc => ?_) <;> (simp only [cmpP] at hc; try exact prIQ))) | (refine opk 4 rfl ?_; (refine ost_cmp rfl rfl rfl rfl (fun hc => ?_) (fun hc => ?_) <;> (simp only [cmpP] at hc; try exact prIQ))) | (refine opk 8 rfl ?_; (refine ost_storeW H rfl rfl rfl rfl lQ ixQ lQ okQ ?_; clear H; intro wk H; simp only [List.set_cons_zero, List.set_cons_succ, Nat.reduceAdd] at H)) | (refine opk 9 rfl ?_; first | (refine ost_allocA H rfl ?_; clear H; intro bk wk H) | (refine ost_build1 H rfl rfl rfl evQ lsQ rfl ?_; clear H; intro bk wk H))) | refine Wc.seq ?_ | refine then_n ?_ | refine WL.nil ?_ | refine Wc.region ?_ | refine Wc.block ?_ | refine then_r ?_ | refine then_e ?_ | refine inb_e rfl ?_ | refine inb_o rfl ?_ | refine inb_n ?_ | refine inb_r ?_ | refine Wc.skip ?_ | refine Wc.exit ?_ | refine Wc.ret ?_ | refine Wc.cond_true rfl ?_ | refine Wc.cond_false rfl ?_)
  replace H : St w [] h0 h0 [ownR (.slice none ((l.take 0).map cItem).length 0) 70 5 ((l.take 0).map cItem)] w := H.nilOwn 70 5
  refine Wc.loopE (fun s0 m s w' => ∃ (k : Nat) (a1 : Option Addr) (c1 : Nat), m = l.length - k ∧ k ≤ l.length ∧ Agree [3, 5, 8, 9, 10, 11, 12, 13, 14, 15, 16, 17, 18, 19, 20] s s0 ∧ s 8 = .int .i64 k ∧ s 3 = .slice a1 ((l.take k).map cItem).length c1 ∧
    St w [] h0 h0 [ownR (.slice a1 ((l.take k).map cItem).length c1) 70 5 ((l.take k).map cItem)] w') l.length ⟨0, _, _, rfl, by omega, Agree.refl _ _, rfl, rfl, H⟩ ?_
  clear H
  rintro m s w' ⟨k, a1, c1, rfl, hk, hA, e1, e3, H⟩
  obtain ⟨j, rfl⟩ := hA.env2 e1 e3
  clear hA e1 e3
  have hKl : ((l.take k).map cItem).length = k := by simp; omega
  by_cases hlt : k < l.length
  · obtain ⟨b, off, L9, T, fr, e2, eb, eg⟩ := hN.getM (by decide) (Nat.lt_of_le_of_lt (Nat.zero_le _) hlt)
    subst e2
    have g1 := eg (k : Int).toNat k hlt (by omega)
    have hsucc := takeM_succ cItem l hlt
    clear eg
    generalize l[k] = x at g1 hsucc
    have lx := cItem_len x
    have ox := allOne_of (cItem_one x)
    have k1 := cItem_key x
    have k2 := cItem_loc x
    have l1 := cKey_len x.key
    have l2 := cLoc_len x.loc
    generalize (l.take k).map cItem = KS at H hKl hsucc
    repeat' (first | ((first | refine WL.p rfl ?_ | refine WL.u ?_); first | (refine opk 1 rfl ?_; (refine ost_appR (rows := KS) (row := cItem x) H rfl rfl rfl (by (exact ixQ)) (by (exact ixQ)) (by rfl) (by first | simp; done | exact Nat.succ_pos _) rfl (allOne_of rfl) rfl (by omega) ?_; clear H; intro aa ca wk H; simp only [List.set_cons_zero, List.set_cons_succ] at H)) | (refine opk 9 rfl ?_; first | (refine ost_buildS (l := cItem x) rfl (evP_cons (rfl : _ = Value.agg _) (evP_cons (rfl : _ = Value.agg _) evP_nil)) (by kernel_rfl) (by kernel_rfl) ?_) | (refine ost_buildR (rows := [cItem x]) H rfl (by decide) rfl (by rfl) (evP1 vxQ) (.cons rfl .nil) rfl (fun r hr => by rw [List.mem_singleton.1 hr]; rfl) ?_; clear H; intro bk wk H)) | refine pvQ ?_ | (refine opk 3 rfl ?_; (refine ost_cmp rfl rfl rfl rfl (fun hc => ?_) (fun hc => ?_) <;> (simp only [cmpP] at hc; try exact prIQ))) | (refine opk 4 rfl ?_; (refine ost_cmp rfl rfl rfl rfl (fun hc => ?_) (fun hc => ?_) <;> (simp only [cmpP] at hc; try exact prIQ))) | (refine opk 8 rfl ?_; (refine ost_storeW H rfl rfl rfl rfl lQ ixQ lQ okQ ?_; clear H; intro wk H; simp only [List.set_cons_zero, List.set_cons_succ, Nat.reduceAdd] at H)) | (refine opk 9 rfl ?_; first | (refine ost_allocA H rfl ?_; clear H; intro bk wk H) | (refine ost_build1 H rfl rfl rfl evQ lsQ rfl ?_; clear H; intro bk wk H))) | refine Wc.seq ?_ | refine then_n ?_ | refine WL.nil ?_ | refine Wc.region ?_ | refine Wc.block ?_ | refine then_r ?_ | refine then_e ?_ | refine inb_e rfl ?_ | refine inb_o rfl ?_ | refine inb_n ?_ | refine inb_r ?_ | refine Wc.skip ?_ | refine Wc.exit ?_ | refine Wc.ret ?_ | refine Wc.cond_true rfl ?_ | refine Wc.cond_false rfl ?_)
    rw [← hsucc] at H
    exact ⟨l.length - (k + 1), by omega, k + 1, _, _, rfl, by omega, by (repeat' (first | exact Agree.refl _ _ | exact Agree.havoc | refine Agree.upd rfl ?_ | refine Agree.hav2 rfl ?_)), rfl, by rw [hsucc]; rfl, H.picks [2] rfl (by decide)⟩
  · obtain rfl : k = l.length := by omega
    rw [List.take_length] at H hKl ⊢
    rw [hKl] at H
    repeat' (first | ((first | refine WL.p rfl ?_ | refine WL.u ?_); first | refine pvQ ?_ | (refine opk 3 rfl ?_; (refine ost_cmp rfl rfl rfl rfl (fun hc => ?_) (fun hc => ?_) <;> (simp only [cmpP] at hc; try exact prIQ))) | (refine opk 4 rfl ?_; (refine ost_cmp rfl rfl rfl rfl (fun hc => ?_) (fun hc => ?_) <;> (simp only [cmpP] at hc; try exact prIQ))) | (refine opk 8 rfl ?_; (refine ost_storeW H rfl rfl rfl rfl lQ ixQ lQ okQ ?_; clear H; intro wk H; simp only [List.set_cons_zero, List.set_cons_succ, Nat.reduceAdd] at H)) | (refine opk 9 rfl ?_; first | (refine ost_allocA H rfl ?_; clear H; intro bk wk H) | (refine ost_build1 H rfl rfl rfl evQ lsQ rfl ?_; clear H; intro bk wk H))) | refine Wc.seq ?_ | refine then_n ?_ | refine WL.nil ?_ | refine Wc.region ?_ | refine Wc.block ?_ | refine then_r ?_ | refine then_e ?_ | refine inb_e rfl ?_ | refine inb_o rfl ?_ | refine inb_n ?_ | refine inb_r ?_ | refine Wc.skip ?_ | refine Wc.exit ?_ | refine Wc.ret ?_ | refine Wc.cond_true rfl ?_ | refine Wc.cond_false rfl ?_)
    rw [hKl]
    exact fn_ret1 (v := .slice _ _ _) rfl rfl ⟨_, _, H, rfl, _, _, rfl, rfl⟩
def cmT (i : Nat) (l : List ItemT) : Cm := ⟨i, 998, [], fun v L' => ∃ a c, v = .slice a l.length c ∧ L' = [ownR (.slice a l.length c) 70 5 (l.map cItem)], fun _ _ => True⟩
theorem sameI_refl (l : List ItemT) : sameI l l = true := by
  unfold sameI
  first | exact dcd_iff.2 rfl | simp
theorem app_at (T : List HA) (A : HA) (B : List HA) : (T ++ A :: B)[T.length]? = some A := by simp
theorem dumpM_bad {l : List ItemT} {v : UInt64} {x : Int} (h : (dumpM l v x).2.2 ≠ 0) (hl : l.length ≤ 4096) : dumpM l v x = ([], zeroS, 2) := by
  unfold dumpM at h ⊢
  split
  · rfl
  · rename_i h9
    rw [if_neg h9, if_neg (by omega)] at h
    exact absurd rfl h
theorem law_RootsBack (la : Option Addr) (lc : Nat) (l : List ItemT) (ver : UInt64) (xa : Option Addr) (xc : Nat) (x : List UInt8) (ya : Option Addr) (yc : Nat) (y : List UInt8) (w : World) (hT0 : Half (full w)) (hN0 : Sl (full w) 5 la lc (l.map cItem)) (hrx0 : BS (full w) xa xc x) (hry0 : BS (full w) ya yc y) :
    SpecV Tryd.prog 6 #[.slice la l.length lc, .int .u64 ver.toNat, .agg [Value.slice xa x.length xc, .slice ya y.length yc].toArray] w (.bool true) := by
  have H := St.start (sat_full w)
  generalize hh : full w = h0 at H hT0 hN0 hrx0 hry0
  have hT := hT0
  have hN := hN0
  have hrx := hrx0
  have hry := hry0
  unfold SpecV
  refine calls_of Tryd.func6 rfl Tryd.ntmps6 (by simp) ?_
  by_cases h1 : l.length ≤ 100 ∧ x.length ≤ 1500 ∧ y.length ≤ 1500
  · obtain ⟨h1, h2, h3⟩ := h1
    have hD := fun h w hs hT al cl hN => ro_Dump h w hs hT al cl l hN ver (x.length : Int)
    repeat' (first | ((first | refine WL.p rfl ?_ | refine WL.u ?_ | refine WL.g rfl rfl ?_ | refine WL.gu rfl ?_); first | (refine opk 1 rfl ?_; (refine ost_V H rfl (alive15 _ _ (sat_full _) (hT.full H)) rfl ?_; clear H; intro wk H)) | refine pvQ ?_ | (refine opk 3 rfl ?_; (refine ost_cmp rfl rfl rfl rfl (fun hc => ?_) (fun hc => ?_) <;> (simp only [cmpP] at hc; try exact prIQ))) | (refine opk 4 rfl ?_; (refine ost_cmp rfl rfl rfl rfl (fun hc => ?_) (fun hc => ?_) <;> (simp only [cmpP] at hc; try exact prIQ))) | (refine opk 8 rfl ?_; (refine ost_storeW H rfl rfl rfl rfl lQ ixQ lQ okQ ?_; clear H; intro wk H; simp only [List.set_cons_zero, List.set_cons_succ, Nat.reduceAdd] at H)) | (refine opk 9 rfl ?_; first | (refine ost_boxq H rfl ?_; clear H; intro bk wk H) | (refine ost_allocA H rfl ?_; clear H; intro bk wk H))) | refine Wc.seq ?_ | refine then_n ?_ | refine WL.nil ?_ | refine Wc.region ?_ | refine Wc.block ?_ | refine then_r ?_ | refine then_e ?_ | refine inb_e rfl ?_ | refine inb_o rfl ?_ | refine inb_n ?_ | refine inb_r ?_ | refine Wc.skip ?_ | refine Wc.exit ?_ | refine Wc.ret ?_ | refine Wc.cond_true rfl ?_ | refine Wc.cond_false rfl ?_ | (refine Wc.drawn (id := 8) 7 (by kernel_rfl) ?_) | refine WL.skp rfl rfl ?_ | refine WL.sku rfl ?_ | (refine rgs_nil ?_; intro vs wk hE; replace H := H.ext hE; clear hE) | refine RGs.skp (fun _ => rfl) rfl ?_ | (refine RGs.bq (fun _ => rfl) rfl (by intro vs w hE hP; have H := H.ext hE; first | exact dbQ | fail) (fun hc => ?_) (fun hc => ?_) <;> ((try simp only [cmpP, decide_eq_true_eq, decide_eq_false_iff_not, dcd_iff, dcd_no] at hc); try exact prDQ)) | refine RGs.pq (fun _ => rfl) rfl (by intro vs w hE hP; have H := H.ext hE; first | exact dvQ | fail) ?_)
    all_goals first | (exfalso; omega) | skip
    · skip
      refine Wc.drawC (id := 5) 14 [cmT 1 l, cmD 6 (dumpM l ver (x.length : Int)), cmS 11 13 (dumpM l ver (x.length : Int)).2.1] [.blk _ _] [(1, 998), (6, 999), (11, 13)] H (by kernel_rfl) rfl (by kernel_rfl) (by first | exact List.Perm.refl _ | (simp [inpC, cmT, cmD, cmS]; done)) ?_
      refine RGc.p rfl rfl (by intro vs w T hP H; simp only [List.cons_append, List.nil_append] at H; exact dvQ) ?_
      refine RGc.m (m := (cmT 1 l)) rfl (by intro vs w T hP H; refine ost_C H rfl (law15_theirsO _ _ (sat_full _) _ _ l (hN.mono H.sat.le) (by omega)) rfl ?_; rintro vk wk hfk Lk ⟨rfl, a9, c9, rfl, rfl⟩ H2; exact ⟨[_], ⟨a9, c9, rfl, rfl⟩, H2⟩) ?_
      refine RGc.p rfl rfl (by intro vs w T hP H; simp only [List.cons_append, List.nil_append] at H; exact dvQ) ?_
      refine RGc.p rfl rfl (by intro vs w T hP H; simp only [List.cons_append, List.nil_append] at H; exact dvQ) ?_
      refine RGc.p rfl rfl (by intro vs w T hP H; simp only [List.cons_append, List.nil_append] at H; exact dvQ) ?_
      refine RGc.p rfl rfl (by intro vs w T hP H; simp only [List.cons_append, List.nil_append] at H; exact dvQ) ?_
      refine RGc.m (m := (cmD 6 (dumpM l ver (x.length : Int)))) rfl (by intro vs w T hP H; obtain ⟨L9, ⟨a9, c9, e9, rfl⟩, hm9⟩ := hP 1 _ ⟨[], by kernel_rfl⟩ rfl; obtain ⟨j9, hj9⟩ := List.getElem?_of_mem (hm9 (by show _ ≤ 998; decide) _ (List.mem_singleton_self _)); obtain ⟨a8, c8, e8, hS8⟩ := H.ownSl (i := j9 + 1) hj9 (rows_len5 l); rw [List.length_map] at e8; injection e8 with e81 e82 e83; subst e81; subst e83; have e7 : vs (0 + 1) = .slice a9 l.length c9 := e9; rw [e7]; refine ost_C H rfl (hD _ _ (sat_full _) (hT.full H) _ _ hS8) rfl ?_; rintro vk wk hfk Lk ⟨rfl, a9, c9, rfl, rfl⟩ H2; exact ⟨[_], ⟨a9, c9, rfl, rfl⟩, H2⟩) ?_
      refine RGc.v (fun v => v) 6 [] (by kernel_rfl) rfl rfl rfl (by intro vs w T hP H; exact dvQ) ?_
      refine RGc.v (tupG 0) 6 [7] (by kernel_rfl) rfl rfl rfl (by intro vs w T hP H; obtain ⟨L9, ⟨a9, c9, e9, -⟩, -⟩ := hP 6 _ ⟨[7], by kernel_rfl⟩ rfl; refine ost_extract rfl e9 rfl ?_; exact ⟨Fr.refl _ _, by rw [e9]; rfl⟩) ?_
      refine RGc.v (tupG 1) 6 [7] (by kernel_rfl) rfl rfl rfl (by intro vs w T hP H; obtain ⟨L9, ⟨a9, c9, e9, -⟩, -⟩ := hP 6 _ ⟨[7], by kernel_rfl⟩ rfl; refine ost_extract rfl e9 rfl ?_; exact ⟨Fr.refl _ _, by rw [e9]; rfl⟩) ?_
      refine RGc.v (tupG 2) 6 [7] (by kernel_rfl) rfl rfl rfl (by intro vs w T hP H; obtain ⟨L9, ⟨a9, c9, e9, -⟩, -⟩ := hP 6 _ ⟨[7], by kernel_rfl⟩ rfl; refine ost_extract rfl e9 rfl ?_; exact ⟨Fr.refl _ _, by rw [e9]; rfl⟩) ?_
      refine RGc.m (m := (cmS 11 13 (dumpM l ver (x.length : Int)).2.1)) rfl (by intro vs w T hP H; refine ost_allocA H rfl ?_; intro bk wk H2; exact ⟨[_], ⟨_, rfl, rfl⟩, H2⟩) ?_
      refine RGc.v (tupG 0) 6 [8, 7] (by kernel_rfl) rfl rfl rfl (by intro vs w T hP H; exact dvQ) ?_
      refine RGc.s (m := (cmS 11 13 (dumpM l ver (x.length : Int)).2.1)) rfl rfl (by intro vs w T L1 hP h1 H; obtain ⟨b9, e9, rfl⟩ := h1; obtain ⟨L9, ⟨a8, c8, e8, -⟩, -⟩ := hP 6 _ ⟨[9, 7], by kernel_rfl⟩ rfl; refine ost_storeW (i := 0) (vs := cSlot (dumpM l ver (x.length : Int)).2.1) H rfl rfl e9 (show tupG 1 (vs 6) = _ by rw [e8]; rfl) rfl rfl rfl (allOne_of rfl) ?_; intro wk H2; exact ⟨[_], ⟨_, e9, rfl⟩, H2⟩) ?_
      refine RGc.nil ?_
      intro vs wk outs HM hR
      obtain ⟨a5, c5, e5, o5⟩ := (hR (cmT 1 l) (by simp)).2 (by simp [cmT])
      obtain ⟨a6, c6, e6, o6⟩ := (hR (cmD 6 (dumpM l ver (x.length : Int))) (by simp)).2 (by simp [cmD])
      obtain ⟨b11, e11, o11⟩ := (hR (cmS 11 13 (dumpM l ver (x.length : Int)).2.1) (by simp)).1 (by simp [cmS])
      have e11' : vs (0 + 1 + 1 + 1 + 1 + 1 + 1 + 1 + 1 + 1 + 1 + 1) = pt b11 := e11
      have e5' : vs (0 + 1) = _ := e5
      have o5' : outs 1 = _ := o5
      have o6' : outs 6 = _ := o6
      have o11' : outs 11 = _ := o11
      have e6' : vs 6 = _ := e6
      have e6'' : vs (0 + 1 + 1 + 1 + 1 + 1 + 1) = _ := e6
      simp only [outsC, cmT, cmD, cmS, o5', o6', o11', List.cons_append, List.nil_append, List.append_nil] at HM
      dsimp only
      rw [e6']
      try rw [e6'']
      rw [e11', e5']
      simp only [tupG0, tupG1, tupG2]
      replace H := HM
      clear HM hR o5 o6 o11 e5 e6 e11 e5' e6' e6'' e11' o5' o6' o11'
      by_cases he : (dumpM l ver (x.length : Int)).2.2 = 0
      · have hload := load_dump (pre := x) he (by omega) y
        have hlen := dumpM_len8 l ver (x.length : Int)
        clear hD
        generalize dumpM l ver (x.length : Int) = D at *
        obtain ⟨B, s, e⟩ := D
        dsimp only at he hload hlen H ⊢
        subst he
        have lS := cSlot_len s
        repeat' (first | ((first | refine WL.p rfl ?_ | refine WL.u ?_ | refine WL.g rfl rfl ?_ | refine WL.gu rfl ?_); first | refine pvQ ?_ | (refine opk 3 rfl ?_; (refine ost_cmp rfl rfl rfl rfl (fun hc => ?_) (fun hc => ?_) <;> (simp only [cmpP] at hc; try exact prIQ))) | (refine opk 4 rfl ?_; (refine ost_cmp rfl rfl rfl rfl (fun hc => ?_) (fun hc => ?_) <;> (simp only [cmpP] at hc; try exact prIQ))) | (refine opk 8 rfl ?_; (refine ost_storeW H rfl rfl rfl rfl lQ ixQ lQ okQ ?_; clear H; intro wk H; simp only [List.set_cons_zero, List.set_cons_succ, Nat.reduceAdd] at H)) | (refine opk 9 rfl ?_; first | (refine ost_boxq H rfl ?_; clear H; intro bk wk H) | (refine ost_allocA H rfl ?_; clear H; intro bk wk H))) | refine Wc.seq ?_ | refine then_n ?_ | refine WL.nil ?_ | refine Wc.region ?_ | refine Wc.block ?_ | refine then_r ?_ | refine then_e ?_ | refine inb_e rfl ?_ | refine inb_o rfl ?_ | refine inb_n ?_ | refine inb_r ?_ | refine Wc.skip ?_ | refine Wc.exit ?_ | refine Wc.ret ?_ | refine Wc.cond_true rfl ?_ | refine Wc.cond_false rfl ?_ | (refine Wc.drawn (id := 5) 14 (by kernel_rfl) ?_) | refine WL.skp rfl rfl ?_ | refine WL.sku rfl ?_ | (refine rgs_nil ?_; intro vs wk hE; replace H := H.ext hE; clear hE) | refine RGs.skp (fun _ => rfl) rfl ?_ | (refine RGs.bq (fun _ => rfl) rfl (by intro vs w hE hP; have H := H.ext hE; first | exact dbQ | fail) (fun hc => ?_) (fun hc => ?_) <;> ((try simp only [cmpP, decide_eq_true_eq, decide_eq_false_iff_not, dcd_iff, dcd_no] at hc); try exact prDQ)) | refine RGs.pq (fun _ => rfl) rfl (by intro vs w hE hP; have H := H.ext hE; first | exact dvQ | fail) ?_)
        all_goals first | (exfalso; omega) | skip
        obtain ⟨a7, c7, h7, e7, hle7, hrB, H7⟩ := (H.front 2 rfl).freeze8
        clear H
        cases e7
        simp only [List.eraseIdx_cons_succ, List.eraseIdx_cons_zero] at H7
        replace H7 := (H7.picks (L' := [_, _]) [0, 2] rfl (by decide)).nilOwn 5 1
        obtain ⟨bt, ebt⟩ := H7.nameB idx1
        subst ebt
        have H : St w [] h0 h7 ([own8 (.slice none 0 0) 5 []] ++ [.blk bt (.cells [Value.slice xa x.length xc, .slice ya y.length yc].toArray 51 (0, 0)), .blk b11 (.cells (cSlot s).toArray 28 (0, 0))]) _ := H7
        clear H7
        have hrx7 := hrx.mono hle7
        have hry7 := hry.mono hle7
        have hT7 := hT.mono hle7
        have hN7 := hN.mono hle7
        refine Wc.drawX (id := 8) 7 [2, 4] (pi2 2 4 [.blk bt (.cells [Value.slice xa x.length xc, .slice ya y.length yc].toArray 51 (0, 0)), .blk b11 (.cells (cSlot s).toArray 28 (0, 0))] [own8 (.slice none 0 0) 5 []] (fun v T => ∃ a c, v = .slice a x.length c ∧ T = [own8 (.slice a x.length c) 5 x]) (fun _ v T => ∃ a c, v = .slice a (x ++ B).length c ∧ T = [own8 (.slice a (x ++ B).length c) 5 (x ++ B)])) H (by kernel_rfl) (by kernel_rfl) pi2_0 ?_
        refine RGx.p rfl (by intro vs w dn L hd hP9 H; exact dvQ) ?_
        refine RGx.p rfl (by intro vs w dn L hd hP9 H; obtain ⟨T, rfl⟩ := pi2_B hP9; exact ost_load1 rfl rfl rfl (H.ok _ _ (app_at T _ _)) rfl ⟨Fr.refl _ _, rfl⟩) ?_
        refine RGx.m rfl (by
          intro vs w dn L h1 hd hP9 H
          obtain ⟨rfl, hst⟩ := pi2_1 (by decide) hP9 h1
          refine ost_app8 (xs := []) (ys := x) H rfl rfl rfl (i := 0) rfl (hrx7.full H) (by simp; omega) ?_
          intro aa ca w9 H9
          exact ⟨_, hst _ [_] ⟨aa, ca, rfl, rfl⟩, H9⟩) ?_
        refine RGx.p rfl (by intro vs w dn L hd hP9 H; exact dvQ) ?_
        refine RGx.m rfl (by
          intro vs w dn L h1 hd hP9 H
          obtain ⟨T, rfl, ⟨a9, c9, e9, rfl⟩, hst⟩ := pi2_2 (by decide) hP9 h1 (hd 2 (by kernel_rfl) rfl)
          refine ost_app8 (xs := x) (ys := B) H rfl rfl e9 (i := 0) rfl (hrB.full H) (by omega) ?_
          intro aa ca w9 H9
          exact ⟨_, hst _ [_] ⟨aa, ca, rfl, rfl⟩, H9⟩) ?_
        refine RGx.p rfl (by intro vs w dn L hd hP9 H; exact dvQ) ?_
        refine RGx.p rfl (by intro vs w dn L hd hP9 H; obtain ⟨T, rfl⟩ := pi2_B hP9; exact ost_load1 rfl rfl rfl (H.ok _ _ (app_at T _ _)) rfl ⟨Fr.refl _ _, rfl⟩) ?_
        refine RGx.nil ?_
        intro vs wk dn L hall hP9 H9
        obtain ⟨T, rfl, a9, c9, e9, rfl⟩ := pi2_end hP9 (hall 2 rfl) (hall 4 rfl)
        have hv4 : vs (0 + 1 + 1 + 1 + 1) = _ := e9
        (try dsimp only)
        rw [hv4]
        clear hP9 hv4 e9 H
        have H := H9
        clear H9
        simp only [List.cons_append, List.nil_append] at H
        repeat' (first | ((first | refine WL.p rfl ?_ | refine WL.u ?_ | refine WL.g rfl rfl ?_ | refine WL.gu rfl ?_); first | (refine opk 1 rfl ?_; (refine ost_app8 (xs := x ++ B) H rfl rfl rfl (by (exact ixQ)) (hry7.full H) (by (try simp only [List.length_nil, List.length_append, List.length_cons, List.length_singleton]); omega) ?_; clear H; intro aa ca wk H; simp only [List.set_cons_zero, List.set_cons_succ, List.nil_append] at H)) | refine pvQ ?_ | (refine opk 3 rfl ?_; (refine ost_cmp rfl rfl rfl rfl (fun hc => ?_) (fun hc => ?_) <;> (simp only [cmpP] at hc; try exact prIQ))) | (refine opk 4 rfl ?_; (refine ost_cmp rfl rfl rfl rfl (fun hc => ?_) (fun hc => ?_) <;> (simp only [cmpP] at hc; try exact prIQ))) | (refine opk 8 rfl ?_; (refine ost_storeW H rfl rfl rfl rfl lQ ixQ lQ okQ ?_; clear H; intro wk H; simp only [List.set_cons_zero, List.set_cons_succ, Nat.reduceAdd] at H)) | (refine opk 9 rfl ?_; first | (refine ost_boxq H rfl ?_; clear H; intro bk wk H) | (refine ost_allocA H rfl ?_; clear H; intro bk wk H))) | refine Wc.seq ?_ | refine then_n ?_ | refine WL.nil ?_ | refine Wc.region ?_ | refine Wc.block ?_ | refine then_r ?_ | refine then_e ?_ | refine inb_e rfl ?_ | refine inb_o rfl ?_ | refine inb_n ?_ | refine inb_r ?_ | refine Wc.skip ?_ | refine Wc.exit ?_ | refine Wc.ret ?_ | refine Wc.cond_true rfl ?_ | refine Wc.cond_false rfl ?_ | (refine Wc.drawn (id := 5) 14 (by kernel_rfl) ?_) | (refine Wc.drawn (id := 8) 7 (by kernel_rfl) ?_) | refine WL.skp rfl rfl ?_ | refine WL.sku rfl ?_ | (refine rgs_nil ?_; intro vs wk hE; replace H := H.ext hE; clear hE) | refine RGs.skp (fun _ => rfl) rfl ?_ | (refine RGs.bq (fun _ => rfl) rfl (by intro vs w hE hP; have H := H.ext hE; first | exact dbQ | fail) (fun hc => ?_) (fun hc => ?_) <;> ((try simp only [cmpP, decide_eq_true_eq, decide_eq_false_iff_not, dcd_iff, dcd_no] at hc); try exact prDQ)) | refine RGs.pq (fun _ => rfl) rfl (by intro vs w hE hP; have H := H.ext hE; first | exact dvQ | fail) ?_)
        have hload2 : loadL (x ++ B ++ y) s = (l, 0) := by rw [List.append_assoc]; exact hload
        have hZl : (x ++ B ++ y).length ≤ 40960 := by simp only [List.length_append]; omega
        generalize x ++ B ++ y = Z at H hload2 hZl ⊢
        obtain ⟨a4, c4, h8, e8, hle8, hrZ, H7⟩ := H.freeze8
        clear H
        have H := H7
        clear H7
        cases e8
        have hT8 := hT7.mono hle8
        have hN8 := hN7.mono hle8
        have cLd : ∀ w, Sat h8 w → Spec Tryd.prog 13 #[.slice aa Z.length ca, .agg (cSlot s).toArray] w [] h8 (fun v h' L' => ∃ a' c', v = .tuple #[.slice a' l.length c', .int .i64 0] ∧ L' = [] ∧ Sl h' 5 a' c' (l.map cItem)) := fun w hs => by
          have := ro_Load h8 aa ca Z s w hs hT8 hrZ hZl
          rw [hload2] at this
          exact this
        have hsm : ∀ (g : FH) (w : World) (hs : Sat g w) a1 c1 (hN1 : Sl g 5 a1 c1 (l.map cItem)) a2 c2 (hN2 : Sl g 5 a2 c2 (l.map cItem)), SpecV Tryd.prog 15 #[.slice a1 l.length c1, .slice a2 l.length c2] w (.bool true) := fun g w hs a1 c1 hN1 a2 c2 hN2 => by
          have := law15_same g w hs a1 c1 l hN1 a2 c2 l hN2
          rw [sameI_refl] at this; exact this
        repeat' (first | ((first | refine WL.p rfl ?_ | refine WL.u ?_ | refine WL.g rfl rfl ?_ | refine WL.gu rfl ?_); first | (refine opk 1 rfl ?_; first | (refine ost_Sk H rfl (cLd _ H.sat) rfl ?_; clear H; rintro vk wk hfk Lk ⟨a2, c2, rfl, rfl, hI⟩ hle H; simp only [List.cons_append, List.nil_append] at H) | (refine ost_V H rfl (hsm _ _ (sat_full _) _ _ (hI.mono H.sat.le) _ _ ((hN8.mono hle).mono H.sat.le)) rfl ?_; clear H; intro wk H)) | refine pvQ ?_ | (refine opk 3 rfl ?_; (refine ost_cmp rfl rfl rfl rfl (fun hc => ?_) (fun hc => ?_) <;> (simp only [cmpP] at hc; try exact prIQ))) | (refine opk 4 rfl ?_; (refine ost_cmp rfl rfl rfl rfl (fun hc => ?_) (fun hc => ?_) <;> (simp only [cmpP] at hc; try exact prIQ))) | (refine opk 8 rfl ?_; (refine ost_storeW H rfl rfl rfl rfl lQ ixQ lQ okQ ?_; clear H; intro wk H; simp only [List.set_cons_zero, List.set_cons_succ, Nat.reduceAdd] at H)) | (refine opk 9 rfl ?_; first | (refine ost_boxq H rfl ?_; clear H; intro bk wk H) | (refine ost_allocA H rfl ?_; clear H; intro bk wk H))) | refine Wc.seq ?_ | refine then_n ?_ | refine WL.nil ?_ | refine Wc.region ?_ | refine Wc.block ?_ | refine then_r ?_ | refine then_e ?_ | refine inb_e rfl ?_ | refine inb_o rfl ?_ | refine inb_n ?_ | refine inb_r ?_ | refine Wc.skip ?_ | refine Wc.exit ?_ | refine Wc.ret ?_ | refine Wc.cond_true rfl ?_ | refine Wc.cond_false rfl ?_ | (refine Wc.drawn (id := 5) 14 (by kernel_rfl) ?_) | (refine Wc.drawn (id := 8) 7 (by kernel_rfl) ?_) | refine WL.skp rfl rfl ?_ | refine WL.sku rfl ?_ | (refine rgs_nil ?_; intro vs wk hE; replace H := H.ext hE; clear hE) | refine RGs.skp (fun _ => rfl) rfl ?_ | (refine RGs.bq (fun _ => rfl) rfl (by intro vs w hE hP; have H := H.ext hE; first | exact dbQ | fail) (fun hc => ?_) (fun hc => ?_) <;> ((try simp only [cmpP, decide_eq_true_eq, decide_eq_false_iff_not, dcd_iff, dcd_no] at hc); try exact prDQ)) | refine RGs.pq (fun _ => rfl) rfl (by intro vs w hE hP; have H := H.ext hE; first | exact dvQ | fail) ?_)
        all_goals first | ((first | refine fn_ret1 (v := .bool _) rfl rfl ⟨?_, H.fr⟩ | refine fn_ret1 (v := .int _ _) rfl rfl ⟨?_, H.fr⟩ | refine fn_ret1 (v := .string _) rfl rfl ⟨?_, H.fr⟩); rfl) | (exfalso; omega) | exact absurd rfl ‹¬ _ = _›
      · have hbad := dumpM_bad he (by omega)
        rw [hbad] at H ⊢
        dsimp only [List.length_nil] at H ⊢
        repeat' (first | ((first | refine WL.p rfl ?_ | refine WL.u ?_ | refine WL.g rfl rfl ?_ | refine WL.gu rfl ?_); first | refine pvQ ?_ | (refine opk 3 rfl ?_; (refine ost_cmp rfl rfl rfl rfl (fun hc => ?_) (fun hc => ?_) <;> (simp only [cmpP] at hc; try exact prIQ))) | (refine opk 4 rfl ?_; (refine ost_cmp rfl rfl rfl rfl (fun hc => ?_) (fun hc => ?_) <;> (simp only [cmpP] at hc; try exact prIQ))) | (refine opk 8 rfl ?_; (refine ost_storeW H rfl rfl rfl rfl lQ ixQ lQ okQ ?_; clear H; intro wk H; simp only [List.set_cons_zero, List.set_cons_succ, Nat.reduceAdd] at H)) | (refine opk 9 rfl ?_; first | (refine ost_boxq H rfl ?_; clear H; intro bk wk H) | (refine ost_allocA H rfl ?_; clear H; intro bk wk H))) | refine Wc.seq ?_ | refine then_n ?_ | refine WL.nil ?_ | refine Wc.region ?_ | refine Wc.block ?_ | refine then_r ?_ | refine then_e ?_ | refine inb_e rfl ?_ | refine inb_o rfl ?_ | refine inb_n ?_ | refine inb_r ?_ | refine Wc.skip ?_ | refine Wc.exit ?_ | refine Wc.ret ?_ | refine Wc.cond_true rfl ?_ | refine Wc.cond_false rfl ?_ | (refine Wc.drawn (id := 5) 14 (by kernel_rfl) ?_) | (refine Wc.drawn (id := 8) 7 (by kernel_rfl) ?_) | refine WL.skp rfl rfl ?_ | refine WL.sku rfl ?_ | (refine rgs_nil ?_; intro vs wk hE; replace H := H.ext hE; clear hE) | refine RGs.skp (fun _ => rfl) rfl ?_ | (refine RGs.bq (fun _ => rfl) rfl (by intro vs w hE hP; have H := H.ext hE; first | exact dbQ | fail) (fun hc => ?_) (fun hc => ?_) <;> ((try simp only [cmpP, decide_eq_true_eq, decide_eq_false_iff_not, dcd_iff, dcd_no] at hc); try exact prDQ)) | refine RGs.pq (fun _ => rfl) rfl (by intro vs w hE hP; have H := H.ext hE; first | exact dvQ | fail) ?_)
        all_goals first | ((first | refine fn_ret1 (v := .bool _) rfl rfl ⟨?_, H.fr⟩ | refine fn_ret1 (v := .int _ _) rfl rfl ⟨?_, H.fr⟩ | refine fn_ret1 (v := .string _) rfl rfl ⟨?_, H.fr⟩); rfl) | (exfalso; omega)
  · repeat' (first | ((first | refine WL.p rfl ?_ | refine WL.u ?_ | refine WL.g rfl rfl ?_ | refine WL.gu rfl ?_); first | (refine opk 1 rfl ?_; (refine ost_V H rfl (alive15 _ _ (sat_full _) (hT.full H)) rfl ?_; clear H; intro wk H)) | refine pvQ ?_ | (refine opk 3 rfl ?_; (refine ost_cmp rfl rfl rfl rfl (fun hc => ?_) (fun hc => ?_) <;> (simp only [cmpP] at hc; try exact prIQ))) | (refine opk 4 rfl ?_; (refine ost_cmp rfl rfl rfl rfl (fun hc => ?_) (fun hc => ?_) <;> (simp only [cmpP] at hc; try exact prIQ))) | (refine opk 8 rfl ?_; (refine ost_storeW H rfl rfl rfl rfl lQ ixQ lQ okQ ?_; clear H; intro wk H; simp only [List.set_cons_zero, List.set_cons_succ, Nat.reduceAdd] at H)) | (refine opk 9 rfl ?_; first | (refine ost_boxq H rfl ?_; clear H; intro bk wk H) | (refine ost_allocA H rfl ?_; clear H; intro bk wk H))) | refine Wc.seq ?_ | refine then_n ?_ | refine WL.nil ?_ | refine Wc.region ?_ | refine Wc.block ?_ | refine then_r ?_ | refine then_e ?_ | refine inb_e rfl ?_ | refine inb_o rfl ?_ | refine inb_n ?_ | refine inb_r ?_ | refine Wc.skip ?_ | refine Wc.exit ?_ | refine Wc.ret ?_ | refine Wc.cond_true rfl ?_ | refine Wc.cond_false rfl ?_ | (refine Wc.drawn (id := 8) 7 (by kernel_rfl) ?_) | refine WL.skp rfl rfl ?_ | refine WL.sku rfl ?_ | (refine rgs_nil ?_; intro vs wk hE; replace H := H.ext hE; clear hE) | refine RGs.skp (fun _ => rfl) rfl ?_ | (refine RGs.bq (fun _ => rfl) rfl (by intro vs w hE hP; have H := H.ext hE; first | exact dbQ | fail) (fun hc => ?_) (fun hc => ?_) <;> ((try simp only [cmpP, decide_eq_true_eq, decide_eq_false_iff_not, dcd_iff, dcd_no] at hc); try exact prDQ)) | refine RGs.pq (fun _ => rfl) rfl (by intro vs w hE hP; have H := H.ext hE; first | exact dvQ | fail) ?_)
    all_goals first | (exfalso; omega) | ((first | refine fn_ret1 (v := .bool _) rfl rfl ⟨?_, H.fr⟩ | refine fn_ret1 (v := .int _ _) rfl rfl ⟨?_, H.fr⟩ | refine fn_ret1 (v := .string _) rfl rfl ⟨?_, H.fr⟩); rfl)
end Go.Tg
namespace Go.Proofs.YtbfilhaigbebpaaDoor
open Go.ChangeShapes Go.WideShapes Go.ChangeAt Go.RowKit Go.Tg
theorem rootsBack_lifted (os : Os) (started : os.Started) (H : Type) (enc : TypeId × Value → H) :
    ReturnsInHanded {} Tryd.checked os 6 .any (fun w args => (Rows.rootsBackSpec.pre enc Tryd.prog Tryd.f6 Rows.rootsBackRow.domain false w args ∧ laidMetH Tryd.prog Rows.rootsBackRow.laid w) ∧ sizedMet enc Tryd.prog Tryd.f6 (OpenSpec.ofChange Rows.rootsBackSpec) false w args) (Rows.rootsBackSpec.post enc Tryd.prog Tryd.f6 false true false false) := by
  refine returnsInHanded_of_change_and (C := Tryd.checked) (X := fun w _ => laidMetH Tryd.prog Rows.rootsBackRow.laid w) (fun _ _ _ hh h => h.of_heap hh) own_ started (by kernel_rfl) Tryd.func6
    (ChangeSpec.witness_shaped (enc := enc) (C := Tryd.checked) (os := os) (X := fun w _ => laidMetH Tryd.prog Rows.rootsBackRow.laid w) false (World.laidAll Tryd.prog os Rows.rootsBackRow.laid) #[.slice none 0 0, .int .u64 0, .agg #[.slice none 0 0, .slice none 0 0]] 8 (World.laidAll_os _ _ _)
      (World.shaped_of_ZipB (by kernel_rfl) (by kernel_rfl)) (by kernel_rfl) (by kernel_rfl) (by kernel_rfl)
      (by rw [MakeChecks.laidMetH_plain _ _ _ (by kernel_rfl)]; exact laidMet_laidAll _ (by kernel_rfl) (by kernel_rfl))) ?_
  intro W base args ds gs before hval0 hW hcnd _ hLd _
  have hval : ∀ (j : Nat) t v, Tryd.f6.params[j]? = some t → args[j]? = some v → Value.okWide Tryd.prog W .any base t v := hval0
  have hT : Half (full W) := half_of (by rfl) hLd
  have hW' := hW
  obtain ⟨p, q, hA0, -, -, -, -⟩ := hW'
  have hA : DataW.TrodAll enc Tryd.prog W 0 (fun _ => true) true Tryd.f6.params.toList args.toList ds p := hA0
  rw [Tryd.params6] at hA hval
  obtain ⟨v0, v1, v2, d0, d1, d2, p0, p1, p2, rfl, rfl, rfl, h0, h1, h2⟩ := trodAll_three hA
  obtain ⟨ver, rfl⟩ := u64_ok (hval 1 _ v1 rfl rfl)
  obtain ⟨la, lc, l, e0, lr⟩ := items_of (Td.of h0)
  obtain rfl := val_of1 e0 (okWide_slice Tryd.underlying22 (hval 0 _ v0 rfl rfl))
  obtain ⟨xa, xc, x, xya, xyc, xy, e2, xr, xyr⟩ := pair_of (Td.of h2)
  obtain rfl := val_ofA e2 (okWide_arr Tryd.underlying51 (hval 2 _ v2 rfl rfl))
  refine (law_RootsBack la lc l ver xa xc x xya xyc xy W hT lr xr xyr).mono fun e W' ⟨v, he, hv, hE⟩ => ⟨v, he, ?_⟩
  subst hv
  exact law_post rfl hW hE rfl (by kernel_rfl) Tryd.underlying4 laid_ (by kernel_rfl)
theorem rootsBack_said : Rows.RootsBackSaid :=
  OpenClaim.holds_of_wide 6 Tryd.f6 rfl rfl rfl rfl rfl rfl rfl ⟨rfl, rfl, rfl, rfl, rfl⟩ rfl rfl rfl rfl rfl (by kernel_rfl) Tryd.func6 (by kernel_rfl)
    (of_decide_eq_true (by kernel_rfl)) (by unfold Func.isWrapper; first | (rw [if_pos (by decide +kernel)]; kernel_rfl) | (rw [if_neg (by decide +kernel)]; exact ⟨rfl, rfl⟩))
    (fun os started H enc _ => rootsBack_lifted os started H enc)
theorem rootsBack_holds : Rows.RootsBackCardSaid :=
  Claim7.holds_tied_plain_at .later [] [.data] true (true, "6266663437662ea72edc6a47c7bafabcd50b56fe735f93247bb89da89eddd568") false rootsBack_said (fun _ h => by cases h) (by kernel_rfl) (fun _ h => by cases h) rootsBack_row_tie rfl ⟨rfl, rfl⟩ (by kernel_rfl) rfl
    (fun f fn hf hfn => by
      obtain rfl : f = 6 := Option.some.inj ((show Tryd.prog.funcNamed "trug/truglaw15.RootsBack" = some 6 by kernel_rfl).symm.trans hf) |>.symm
      obtain rfl : fn = Tryd.f6 := (Option.some.inj (Tryd.func6.symm.trans hfn)).symm
      exact ⟨by kernel_rfl, fun j t ht => by
        have hm : t ∈ Tryd.f6.params.toList := by simpa using Array.mem_of_getElem? ht
        have hall : (Tryd.f6.params.toList.all fun u => !Tryd.prog.wantsStandIn u) = true := by kernel_rfl
        exact (show Tryd.prog.wantsStandIn t = false by simpa using List.all_eq_true.1 hall t hm)⟩)
    (by kernel_rfl)
end Go.Proofs.YtbfilhaigbebpaaDoor

