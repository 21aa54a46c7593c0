/- Contracts of Go functions that the laws reach: what each call answers and leaves in memory, for all arguments within the bounds that each theorem names. -/
import Derived.Test.YtajfhoeejeadkaaDoorInst
import Derived.Test.YtajfhoeejeadkaaDoorAuto
import Derived.Test.YtajfhoeejeadkaaDoorQ5
import Derived.Test.YtajfhoeejeadkaaDoorQ1
import Derived.Test.YtajfhoeejeadkaaDoorC3
import Derived.Test.YtajfhoeejeadkaaDoorVec3
set_option linter.unusedVariables false
set_option linter.unusedSimpArgs false
set_option maxRecDepth 100000
set_option maxHeartbeats 4000000
namespace Go.Tg
open Go Go.Proofs
def cN (l : List Nat) : List Value := l.map fun (n : Nat) => Value.int .u64 (n : Int)
theorem numsB_step (l : List Nat) {k : Nat} (h : k < l.length) : numsB (l.take (k + 1)) = numsB (l.take k) ++ putB l[k] := by
  rw [List.take_add_one, List.getElem?_eq_getElem h, numsB_app]; simp [numsB]
theorem r13_nums (av : Option Addr) (cv : Nat) (xs : List UInt8) (l : List Nat) (a : Option Addr) (c n : Nat) (g : FH) (w : World) (HO : St w (own8 (.slice av xs.length cv) 5 xs).fp g g [own8 (.slice av xs.length cv) 5 xs] w)
    (hr : RdC g a (cN l)) (hn : n = l.length) (hl : ∀ n, n ∈ l → n < 18446744073709551616) (hb : xs.length ≤ 100000) (hb2 : l.length ≤ 1000) :
    Spec Tryd.prog 118 #[.slice av xs.length cv, .slice a n c] w (own8 (.slice av xs.length cv) 5 xs).fp g (fun v h' L' => ∃ a' c', v = .slice a' (xs ++ numsB l).length c' ∧ L' = [own8 (.slice a' (xs ++ numsB l).length c') 5 (xs ++ numsB l)]) := by
  have H := HO
  subst hn
  unfold Spec
  refine calls_of Tryd.func118 rfl Tryd.ntmps118 (by simp) ?_
  repeat' (first | ((first | refine WL.p rfl ?_ | refine WL.u ?_); first | refine pvQ ?_ | (refine opk 3 rfl ?_; (refine ost_cmp rfl rfl rfl rfl (fun hc => ?_) (fun hc => ?_) <;> (simp only [cmpP] at hc; try exact prIQ))) | (refine opk 4 rfl ?_; (refine ost_cmp rfl rfl rfl rfl (fun hc => ?_) (fun hc => ?_) <;> (simp only [cmpP] at hc; try exact prIQ)))) | refine Wc.seq ?_ | refine then_n ?_ | refine WL.nil ?_ | refine Wc.region ?_ | refine Wc.block ?_ | refine then_r ?_ | refine then_e ?_ | refine inb_e rfl ?_ | refine inb_o rfl ?_ | refine inb_n ?_ | refine inb_r ?_ | refine Wc.skip ?_ | refine Wc.exit ?_ | refine Wc.ret ?_ | refine Wc.cond_true rfl ?_ | refine Wc.cond_false rfl ?_)
  refine Wc.loopE (fun s0 m s w' => ∃ (k : Nat) (a2 : Option Addr) (c2 : Nat), m = l.length - k ∧ k ≤ l.length ∧ Agree [0, 5, 6, 7, 8, 9, 10, 11, 12, 13, 14, 15, 16, 17, 18] s s0 ∧ s 5 = .int .i64 k ∧ s 0 = .slice a2 (xs ++ numsB (l.take k)).length c2 ∧
    St w (own8 (.slice av xs.length cv) 5 xs).fp g g [own8 (.slice a2 (xs ++ numsB (l.take k)).length c2) 5 (xs ++ numsB (l.take k))] w') l.length ⟨0, av, cv, rfl, by omega, Agree.refl _ _, rfl, by rw [List.take_zero, show numsB [] = [] from rfl, List.append_nil]; rfl, by simpa [numsB] using H⟩ ?_
  clear H
  rintro m s w' ⟨k, a2, c2, rfl, hk, hA, e1, e2, H⟩
  obtain ⟨j, rfl⟩ := hA.env2 e1 e2
  clear hA e1 e2
  have hL := numsB_len (l.take k)
  have hL2 : (l.take k).length ≤ l.length := by simp; omega
  have hL3 : (xs ++ numsB (l.take k)).length ≤ 200000 := by rw [List.length_append]; omega
  by_cases hlt : k < l.length
  · obtain ⟨b, off, ll, T, fr, rfl, eb, eg⟩ := hr.get (i := k) (by simp [cN]; exact hlt)
    have g1 : ll[off + (k : Int).toNat * 1]? = some (.int .u64 l[k]) := by
      rw [show off + (k : Int).toNat * 1 = off + k by omega, eg k (by simp [cN]; exact hlt)]; simp [cN, hlt]
    have hm := hl l[k] (List.getElem_mem hlt)
    have hs1 := numsB_step l hlt
    have hp := putB_len l[k]
    generalize l[k] = x at g1 hm hs1 hp
    repeat' (first | ((first | refine WL.p rfl ?_ | refine WL.u ?_); first | (refine opk 1 rfl ?_; first | (refine ost_C H rfl (r2_Put x hm _ _ (sat_full _)) rfl ?_; clear H; rintro vk wk hfk Lk ⟨a3, c3, rfl, _, rfl⟩ H; simp only [List.cons_append, List.nil_append] at H) | (refine ost_app8 (xs := xs ++ numsB (l.take k)) H rfl rfl rfl (by (exact ixQ)) (H.own8rd (i := 0) rfl) (by (try simp only [List.length_nil, List.length_append, List.length_cons, List.length_singleton]); omega) ?_; clear H; intro aa ca wk H; simp only [List.set_cons_zero, List.set_cons_succ, List.nil_append] at H)) | refine pvQ ?_ | (refine opk 3 rfl ?_; (refine ost_cmp rfl rfl rfl rfl (fun hc => ?_) (fun hc => ?_) <;> (simp only [cmpP] at hc; try exact prIQ))) | (refine opk 4 rfl ?_; (refine ost_cmp rfl rfl rfl rfl (fun hc => ?_) (fun hc => ?_) <;> (simp only [cmpP] at hc; try exact prIQ)))) | refine Wc.seq ?_ | refine then_n ?_ | refine WL.nil ?_ | refine Wc.region ?_ | refine Wc.block ?_ | refine then_r ?_ | refine then_e ?_ | refine inb_e rfl ?_ | refine inb_o rfl ?_ | refine inb_n ?_ | refine inb_r ?_ | refine Wc.skip ?_ | refine Wc.exit ?_ | refine Wc.ret ?_ | refine Wc.cond_true rfl ?_ | refine Wc.cond_false rfl ?_)
    refine ⟨l.length - (k + 1), by omega, k + 1, aa, ca, rfl, by omega, by (repeat' (first | exact Agree.refl _ _ | exact Agree.havoc | refine Agree.upd rfl ?_ | refine Agree.hav2 rfl ?_)), rfl, ?_, ?_⟩
    · rw [hs1, ← List.append_assoc]; rfl
    · rw [hs1, ← List.append_assoc]; exact H.tl
  · obtain rfl : k = l.length := by omega
    rw [List.take_length] at H ⊢
    repeat' (first | ((first | refine WL.p rfl ?_ | refine WL.u ?_); first | refine pvQ ?_ | (refine opk 3 rfl ?_; (refine ost_cmp rfl rfl rfl rfl (fun hc => ?_) (fun hc => ?_) <;> (simp only [cmpP] at hc; try exact prIQ))) | (refine opk 4 rfl ?_; (refine ost_cmp rfl rfl rfl rfl (fun hc => ?_) (fun hc => ?_) <;> (simp only [cmpP] at hc; try exact prIQ)))) | refine Wc.seq ?_ | refine then_n ?_ | refine WL.nil ?_ | refine Wc.region ?_ | refine Wc.block ?_ | refine then_r ?_ | refine then_e ?_ | refine inb_e rfl ?_ | refine inb_o rfl ?_ | refine inb_n ?_ | refine inb_r ?_ | refine Wc.skip ?_ | refine Wc.exit ?_ | refine Wc.ret ?_ | refine Wc.cond_true rfl ?_ | refine Wc.cond_false rfl ?_)
    exact fn_ret1 (v := .slice _ _ _) rfl rfl ⟨_, _, H, _, _, rfl, rfl⟩
theorem r13_bytes (p : PageT) (A : PAd) (h0 : FH) (w : World) (hs : Sat h0 w) (hP : PgR h0 p A) (hr : rightP p = true) :
    Spec Tryd.prog 68 #[.agg (pgV p A).toArray] w [] h0 (fun v h' L' => ∃ a' c', v = .slice a' (encP p).length c' ∧ h' = h0 ∧ L' = [own8 v 5 (encP p)]) := by
  have H := St.start hs
  obtain ⟨hs1, hs2⟩ := rightP_iff.1 hr
  clear hr
  obtain ⟨lf, ks, ls, ds⟩ := p
  obtain ⟨ak, ck, al, cl, ad, cd⟩ := A
  have e : pgV ⟨lf, ks, ls, ds⟩ ⟨ak, ck, al, cl, ad, cd⟩ = pgL lf ks.length ls.length ds.length ak ck al cl ad cd := rfl
  rw [e]
  have lp : (pgL lf ks.length ls.length ds.length ak ck al cl ad cd).length = 4 := rfl
  have q1 := hP.k.lenM
  have q2 := hP.l.lenM
  have q3 := hP.d.lenM
  dsimp only at q1 q2 q3
  unfold Spec
  refine calls_of Tryd.func68 rfl Tryd.ntmps68 (by simp) ?_
  cases lf with
  | true =>
    have hs2 := (shapeP_T _ _ _).1 hs2
    repeat' (first | ((first | refine WL.p rfl ?_ | refine WL.u ?_); first | (refine opk 1 rfl ?_; (refine ost_O H rfl idx1 (fun HO => r13_nums _ _ [] [1, ks.length] _ _ _ _ _ HO (H.lessRd idx1 idx0 (by decide)) rfl (by simp; omega) (by decide) (by simp)) rfl ?_; clear H; rintro vk wk hfk Lk ⟨a9, c9, rfl, rfl⟩ H; simp only [List.cons_append, List.nil_append, List.eraseIdx_cons_zero, List.eraseIdx_cons_succ] at H)) | refine pvQ ?_ | (refine opk 3 rfl ?_; (refine ost_cmp rfl rfl rfl rfl (fun hc => ?_) (fun hc => ?_) <;> (simp only [cmpP] at hc; try exact prIQ))) | (refine opk 4 rfl ?_; (refine ost_cmp rfl rfl rfl rfl (fun hc => ?_) (fun hc => ?_) <;> (simp only [cmpP] at hc; try exact prIQ))) | (refine opk 8 rfl ?_; (refine ost_storeW H rfl rfl rfl rfl lQ ixQ lQ okQ ?_; clear H; intro wk H; simp only [List.set_cons_zero, List.set_cons_succ, Nat.reduceAdd] at H)) | (refine opk 9 rfl ?_; first | (refine ost_boxq H rfl ?_; clear H; intro bk wk H) | (refine ost_allocA H rfl ?_; clear H; intro bk wk H) | (refine ost_build1 H rfl rfl rfl evQ lsQ rfl ?_; clear H; intro bk wk H))) | refine Wc.seq ?_ | refine then_n ?_ | refine WL.nil ?_ | refine Wc.region ?_ | refine Wc.block ?_ | refine then_r ?_ | refine then_e ?_ | refine inb_e rfl ?_ | refine inb_o rfl ?_ | refine inb_n ?_ | refine inb_r ?_ | refine Wc.skip ?_ | refine Wc.exit ?_ | refine Wc.ret ?_ | refine Wc.cond_true rfl ?_ | refine Wc.cond_false rfl ?_ | (refine Wc.drawn (id := 11) 16 (by kernel_rfl) ?_) | (refine rgs_nil ?_; intro vs wk hE; replace H := H.ext hE; clear hE) | (refine RGs.bq (fun _ => rfl) rfl (by intro vs w hE hP; have H := H.ext hE; first | exact dbQ | fail) (fun hc => ?_) (fun hc => ?_) <;> ((try simp only [cmpP, decide_eq_true_eq, decide_eq_false_iff_not, dcd_iff, dcd_no] at hc); try exact prDQ)) | refine RGs.pq (fun _ => rfl) rfl (by intro vs w hE hP; have H := H.ext hE; first | exact dvQ | fail) ?_)
    obtain ⟨bp, ebp⟩ := H.nameB idx2
    subst ebp
    have e0 : [] ++ numsB [1, ks.length] = numsB (1 :: ks.length :: rowsP true ks ls ds 0) := rfl
    simp only [List.nil_append] at e0
    refine Wc.loopE (fun s0 m s w' => ∃ (k : Nat) (a1 : Option Addr) (c1 : Nat), m = ks.length - k ∧ k ≤ ks.length ∧ Agree [4, 5, 6, 19, 20, 21, 22, 23, 24, 25, 26, 27, 28, 29, 30, 31, 32, 33, 34, 35, 36, 37, 38, 39, 40, 41, 42, 43, 44, 45, 46, 47, 48, 49, 50, 51, 52, 53, 54, 55, 56, 57, 58, 59, 60, 61, 62, 63, 64, 65, 66, 67, 68, 69, 70, 71, 72] s s0 ∧ s 5 = .int .i64 k ∧ s 4 = .slice a1 (numsB (1 :: ks.length :: rowsP true ks ls ds k)).length c1 ∧
      St w [] h0 h0 [own8 (.slice a1 (numsB (1 :: ks.length :: rowsP true ks ls ds k)).length c1) 5 (numsB (1 :: ks.length :: rowsP true ks ls ds k)), .blk bp (.cells (pgL true ks.length ls.length ds.length ak ck al cl ad cd).toArray 26 (0, 0))] w') ks.length ⟨0, a9, c9, rfl, by omega, Agree.refl _ _, rfl, rfl, H.pick2 0 2 rfl rfl (by decide)⟩ ?_
    clear H
    rintro m s w' ⟨k, a1, c1, rfl, hk, hA, e1, e2, H⟩
    obtain ⟨j, rfl⟩ := hA.env2 e1 e2
    clear hA e1 e2
    have hx := numsR_len 1 ks.length true ks ls ds (k := k) (by omega)
    by_cases hlt : k < ks.length
    · obtain ⟨b, off, l, T, fr, e2, eb, eg⟩ := hP.k.getM (by decide) (Nat.lt_of_le_of_lt (Nat.zero_le _) hlt)
      obtain ⟨b3, off3, l3, T3, fr3, e3, eb3, eg3⟩ := hP.l.getM (by decide) (Nat.lt_of_lt_of_le (Nat.lt_of_le_of_lt (Nat.zero_le _) hlt) (Nat.le_of_eq hs2.2.1.symm))
      dsimp only at e2 eg e3 eg3
      subst e2; subst e3
      have hlt3 : k < ls.length := by omega
      have g1 := eg (k : Int).toNat k hlt (by omega)
      have g3 := eg3 (k : Int).toNat k hlt3 (by omega)
      have hrow := rowP_leaf (ds := ds) hlt hlt3
      have hsucc := numsR_succ 1 ks.length true ks ls ds k
      rw [hrow] at hsucc
      clear hrow eg eg3
      have g4 : l3[off3 + (k : Int).toNat * 2 + 0]? = some (.int .u32 ls[k].seg.toNat) := row_cell g3 (q := 0) (by simp [cLoc])
      have g5 : l3[off3 + (k : Int).toNat * 2 + 1]? = some (.int .u32 ls[k].at_.toNat) := row_cell g3 (q := 1) (by simp [cLoc])
      generalize ks[k] = x at g1 hsucc
      generalize ls[k] = y at g4 g5 hsucc
      have u4 := y.seg.toNat_lt; have u5 := y.at_.toNat_lt
      have lx := cKey_len x
      have u1 := x.cart.toNat_lt; have u2 := x.dot.rep.toNat_lt; have u3 := x.dot.seq.toNat_lt
      rw [show [x.cart.toNat, x.dot.rep.toNat, x.dot.seq.toNat, y.seg.toNat, y.at_.toNat] = [x.cart.toNat, x.dot.rep.toNat, x.dot.seq.toNat] ++ [y.seg.toNat, y.at_.toNat] from rfl] at hsucc
      generalize hX : numsB (1 :: ks.length :: rowsP true ks ls ds k) = X at H hx hsucc
      have hl1 := numsB_len [x.cart.toNat, x.dot.rep.toNat, x.dot.seq.toNat]
      simp only [List.length_cons, List.length_nil] at hl1
      repeat' (first | ((first | refine WL.p rfl ?_ | refine WL.u ?_); first | (refine opk 1 rfl ?_; first | (refine ost_O H rfl idx2 (fun HO => r13_nums _ _ X [x.cart.toNat, x.dot.rep.toNat, x.dot.seq.toNat] _ _ _ _ _ HO (H.lessRd idx2 idx0 (by decide)) rfl (by simp; omega) (by omega) (by simp)) rfl ?_; clear H; rintro vk wk hfk Lk ⟨a8, c8, rfl, rfl⟩ H; simp only [List.cons_append, List.nil_append, List.eraseIdx_cons_zero, List.eraseIdx_cons_succ] at H) | (refine ost_O H rfl idx0 (fun HO => r13_nums _ _ (X ++ numsB [x.cart.toNat, x.dot.rep.toNat, x.dot.seq.toNat]) [y.seg.toNat, y.at_.toNat] _ _ _ _ _ HO (H.lessRd idx0 idx4 (by decide)) rfl (by simp; omega) (by simp only [List.length_append]; omega) (by simp)) rfl ?_; clear H; rintro vk wk hfk Lk ⟨a8, c8, rfl, rfl⟩ H; simp only [List.cons_append, List.nil_append, List.eraseIdx_cons_zero, List.eraseIdx_cons_succ] at H)) | refine pvQ ?_ | (refine opk 3 rfl ?_; (refine ost_cmp rfl rfl rfl rfl (fun hc => ?_) (fun hc => ?_) <;> (simp only [cmpP] at hc; try exact prIQ))) | (refine opk 4 rfl ?_; (refine ost_cmp rfl rfl rfl rfl (fun hc => ?_) (fun hc => ?_) <;> (simp only [cmpP] at hc; try exact prIQ))) | (refine opk 8 rfl ?_; (refine ost_storeW H rfl rfl rfl rfl lQ ixQ lQ okQ ?_; clear H; intro wk H; simp only [List.set_cons_zero, List.set_cons_succ, Nat.reduceAdd] at H)) | (refine opk 9 rfl ?_; first | (refine ost_boxq H rfl ?_; clear H; intro bk wk H) | (refine ost_allocA H rfl ?_; clear H; intro bk wk H) | (refine ost_build1 H rfl rfl rfl evQ lsQ rfl ?_; clear H; intro bk wk H))) | refine Wc.seq ?_ | refine then_n ?_ | refine WL.nil ?_ | refine Wc.region ?_ | refine Wc.block ?_ | refine then_r ?_ | refine then_e ?_ | refine inb_e rfl ?_ | refine inb_o rfl ?_ | refine inb_n ?_ | refine inb_r ?_ | refine Wc.skip ?_ | refine Wc.exit ?_ | refine Wc.ret ?_ | refine Wc.cond_true rfl ?_ | refine Wc.cond_false rfl ?_ | (refine Wc.drawM (id := 11) 16 [(15, [], fun v L' => ∃ b, v = Value.slice (some ⟨b, 0, none⟩) 2 2 ∧ L' = [.own (Value.slice (some ⟨b, 0, none⟩) 2 2) 91 1 2 (cN [y.seg.toNat, y.at_.toNat])])] [own8 _ _ _, .own _ _ _ _ _, .blk _ _, .blk _ _] [15] H (by kernel_rfl) rfl (by kernel_rfl) (by simp only [inpL, List.nil_append, List.cons_append, List.append_nil]; first | exact List.Perm.refl _ | exact List.Perm.swap _ _ _ | exact (List.Perm.swap _ _ _).trans ((List.Perm.swap _ _ _).cons _) | exact ((List.Perm.swap _ _ _).cons _) | exact ((List.Perm.swap _ _ _).cons _).trans (List.Perm.swap _ _ _)) ?_) | (refine rgm_nil ?_; intro vs wk outs HM hR; obtain ⟨v9, ⟨b9_15, e9, o9⟩, h9⟩ := hR 15 _ rfl; have hv9 : vs (0 + 1 + 1 + 1 + 1 + 1 + 1 + 1 + 1 + 1 + 1 + 1 + 1 + 1 + 1 + 1) = _ := (h9 (by kernel_rfl)).trans e9; simp only [outsL, o9, List.cons_append, List.nil_append, List.append_nil] at HM; (try dsimp only); rw [hv9]; replace H := HM; clear HM hR) | (refine RGm.bq (fun _ => rfl) rfl (by intro vs w TT hP H; simp only [List.cons_append, List.nil_append] at H; first | exact dbQ | fail) (fun hc => ?_) (fun hc => ?_) <;> ((try simp only [cmpP, decide_eq_true_eq, decide_eq_false_iff_not, dcd_iff, dcd_no] at hc); try exact prDQ)) | refine RGm.pq (fun _ => rfl) rfl (by intro vs w TT hP H; simp only [List.cons_append, List.nil_append] at H; first | exact dvQ | fail) ?_ | refine RGm.mq (fun _ => rfl) rfl (by intro vs w TT hP H; simp only [List.cons_append, List.nil_append] at H; first | (refine ost_build1 H rfl rfl rfl evQ lsQ rfl ?_; intro bk wk H2; exact ⟨[_], ⟨_, rfl, rfl⟩, H2⟩) | fail) ?_ | refine RGm.mu rfl (by intro vs w TT hP H; simp only [List.cons_append, List.nil_append] at H; first | (refine ost_build1 H rfl rfl rfl evQ lsQ rfl ?_; intro bk wk H2; exact ⟨[_], ⟨_, rfl, rfl⟩, H2⟩) | fail) ?_)
      refine ⟨ks.length - (k + 1), by omega, k + 1, a8, c8, rfl, by omega, by (repeat' (first | exact Agree.refl _ _ | exact Agree.havoc | refine Agree.upd rfl ?_ | refine Agree.hav2 rfl ?_)), rfl, ?_, ?_⟩
      · rw [hsucc, show numsB ([x.cart.toNat, x.dot.rep.toNat, x.dot.seq.toNat] ++ [y.seg.toNat, y.at_.toNat]) = numsB [x.cart.toNat, x.dot.rep.toNat, x.dot.seq.toNat] ++ numsB [y.seg.toNat, y.at_.toNat] from numsB_app _ _, ← List.append_assoc]; rfl
      · rw [hsucc, show numsB ([x.cart.toNat, x.dot.rep.toNat, x.dot.seq.toNat] ++ [y.seg.toNat, y.at_.toNat]) = numsB [x.cart.toNat, x.dot.rep.toNat, x.dot.seq.toNat] ++ numsB [y.seg.toNat, y.at_.toNat] from numsB_app _ _, ← List.append_assoc]; exact H.pick2 0 3 rfl rfl (by decide)
    · obtain rfl : k = ks.length := by omega
      have e9 : numsB (1 :: ks.length :: rowsP true ks ls ds ks.length) = numsB (natsP ⟨true, ks, ls, ds⟩) := rfl
      rw [e9] at H hx ⊢
      repeat' (first | ((first | refine WL.p rfl ?_ | refine WL.u ?_); first | (refine opk 1 rfl ?_; (refine ost_C H rfl (r10_Wrapn _ _ _ _ (numsB (natsP ⟨true, ks, ls, ds⟩)) _ (sat_full _) rfl (by omega) (H.own8rd (i := 0) rfl)) rfl ?_; clear H; rintro vk wk hfk Lk ⟨a5, c5, rfl, _, rfl⟩ H; simp only [List.cons_append, List.nil_append] at H)) | refine pvQ ?_ | (refine opk 3 rfl ?_; (refine ost_cmp rfl rfl rfl rfl (fun hc => ?_) (fun hc => ?_) <;> (simp only [cmpP] at hc; try exact prIQ))) | (refine opk 4 rfl ?_; (refine ost_cmp rfl rfl rfl rfl (fun hc => ?_) (fun hc => ?_) <;> (simp only [cmpP] at hc; try exact prIQ))) | (refine opk 8 rfl ?_; (refine ost_storeW H rfl rfl rfl rfl lQ ixQ lQ okQ ?_; clear H; intro wk H; simp only [List.set_cons_zero, List.set_cons_succ, Nat.reduceAdd] at H)) | (refine opk 9 rfl ?_; first | (refine ost_boxq H rfl ?_; clear H; intro bk wk H) | (refine ost_allocA H rfl ?_; clear H; intro bk wk H) | (refine ost_build1 H rfl rfl rfl evQ lsQ rfl ?_; clear H; intro bk wk H))) | refine Wc.seq ?_ | refine then_n ?_ | refine WL.nil ?_ | refine Wc.region ?_ | refine Wc.block ?_ | refine then_r ?_ | refine then_e ?_ | refine inb_e rfl ?_ | refine inb_o rfl ?_ | refine inb_n ?_ | refine inb_r ?_ | refine Wc.skip ?_ | refine Wc.exit ?_ | refine Wc.ret ?_ | refine Wc.cond_true rfl ?_ | refine Wc.cond_false rfl ?_ | (refine Wc.drawn (id := 11) 16 (by kernel_rfl) ?_) | (refine rgs_nil ?_; intro vs wk hE; replace H := H.ext hE; clear hE) | (refine RGs.bq (fun _ => rfl) rfl (by intro vs w hE hP; have H := H.ext hE; first | exact dbQ | fail) (fun hc => ?_) (fun hc => ?_) <;> ((try simp only [cmpP, decide_eq_true_eq, decide_eq_false_iff_not, dcd_iff, dcd_no] at hc); try exact prDQ)) | refine RGs.pq (fun _ => rfl) rfl (by intro vs w hE hP; have H := H.ext hE; first | exact dvQ | fail) ?_)
      exact fn_ret1 (v := .slice _ _ _) rfl rfl ⟨_, _, H.pick 0 rfl, _, _, rfl, rfl, rfl⟩
  | false =>
    have hs2 := (shapeP_F _ _ _).1 hs2
    repeat' (first | ((first | refine WL.p rfl ?_ | refine WL.u ?_); first | (refine opk 1 rfl ?_; (refine ost_O H rfl idx1 (fun HO => r13_nums _ _ [] [0, ks.length] _ _ _ _ _ HO (H.lessRd idx1 idx0 (by decide)) rfl (by simp; omega) (by decide) (by simp)) rfl ?_; clear H; rintro vk wk hfk Lk ⟨a9, c9, rfl, rfl⟩ H; simp only [List.cons_append, List.nil_append, List.eraseIdx_cons_zero, List.eraseIdx_cons_succ] at H)) | refine pvQ ?_ | (refine opk 3 rfl ?_; (refine ost_cmp rfl rfl rfl rfl (fun hc => ?_) (fun hc => ?_) <;> (simp only [cmpP] at hc; try exact prIQ))) | (refine opk 4 rfl ?_; (refine ost_cmp rfl rfl rfl rfl (fun hc => ?_) (fun hc => ?_) <;> (simp only [cmpP] at hc; try exact prIQ))) | (refine opk 8 rfl ?_; (refine ost_storeW H rfl rfl rfl rfl lQ ixQ lQ okQ ?_; clear H; intro wk H; simp only [List.set_cons_zero, List.set_cons_succ, Nat.reduceAdd] at H)) | (refine opk 9 rfl ?_; first | (refine ost_boxq H rfl ?_; clear H; intro bk wk H) | (refine ost_allocA H rfl ?_; clear H; intro bk wk H) | (refine ost_build1 H rfl rfl rfl evQ lsQ rfl ?_; clear H; intro bk wk H))) | refine Wc.seq ?_ | refine then_n ?_ | refine WL.nil ?_ | refine Wc.region ?_ | refine Wc.block ?_ | refine then_r ?_ | refine then_e ?_ | refine inb_e rfl ?_ | refine inb_o rfl ?_ | refine inb_n ?_ | refine inb_r ?_ | refine Wc.skip ?_ | refine Wc.exit ?_ | refine Wc.ret ?_ | refine Wc.cond_true rfl ?_ | refine Wc.cond_false rfl ?_ | (refine Wc.drawn (id := 11) 16 (by kernel_rfl) ?_) | (refine rgs_nil ?_; intro vs wk hE; replace H := H.ext hE; clear hE) | (refine RGs.bq (fun _ => rfl) rfl (by intro vs w hE hP; have H := H.ext hE; first | exact dbQ | fail) (fun hc => ?_) (fun hc => ?_) <;> ((try simp only [cmpP, decide_eq_true_eq, decide_eq_false_iff_not, dcd_iff, dcd_no] at hc); try exact prDQ)) | refine RGs.pq (fun _ => rfl) rfl (by intro vs w hE hP; have H := H.ext hE; first | exact dvQ | fail) ?_)
    obtain ⟨bp, ebp⟩ := H.nameB idx2
    subst ebp
    have e0 : [] ++ numsB [0, ks.length] = numsB (0 :: ks.length :: rowsP false ks ls ds 0) := rfl
    simp only [List.nil_append] at e0
    refine Wc.loopE (fun s0 m s w' => ∃ (k : Nat) (a1 : Option Addr) (c1 : Nat), m = ks.length - k ∧ k ≤ ks.length ∧ Agree [4, 5, 6, 19, 20, 21, 22, 23, 24, 25, 26, 27, 28, 29, 30, 31, 32, 33, 34, 35, 36, 37, 38, 39, 40, 41, 42, 43, 44, 45, 46, 47, 48, 49, 50, 51, 52, 53, 54, 55, 56, 57, 58, 59, 60, 61, 62, 63, 64, 65, 66, 67, 68, 69, 70, 71, 72] s s0 ∧ s 5 = .int .i64 k ∧ s 4 = .slice a1 (numsB (0 :: ks.length :: rowsP false ks ls ds k)).length c1 ∧
      St w [] h0 h0 [own8 (.slice a1 (numsB (0 :: ks.length :: rowsP false ks ls ds k)).length c1) 5 (numsB (0 :: ks.length :: rowsP false ks ls ds k)), .blk bp (.cells (pgL false ks.length ls.length ds.length ak ck al cl ad cd).toArray 26 (0, 0))] w') ks.length ⟨0, a9, c9, rfl, by omega, Agree.refl _ _, rfl, rfl, H.pick2 0 2 rfl rfl (by decide)⟩ ?_
    clear H
    rintro m s w' ⟨k, a1, c1, rfl, hk, hA, e1, e2, H⟩
    obtain ⟨j, rfl⟩ := hA.env2 e1 e2
    clear hA e1 e2
    have hx := numsR_len 0 ks.length false ks ls ds (k := k) (by omega)
    by_cases hlt : k < ks.length
    · obtain ⟨b, off, l, T, fr, e2, eb, eg⟩ := hP.k.getM (by decide) (Nat.lt_of_le_of_lt (Nat.zero_le _) hlt)
      obtain ⟨b3, off3, l3, T3, fr3, e3, eb3, eg3⟩ := hP.d.getM (by decide) (Nat.lt_of_lt_of_le (Nat.lt_of_le_of_lt (Nat.zero_le _) hlt) (Nat.le_of_eq hs2.2.2.1.symm))
      dsimp only at e2 eg e3 eg3
      subst e2; subst e3
      have hlt3 : k < ds.length := by omega
      have g1 := eg (k : Int).toNat k hlt (by omega)
      have g3 := eg3 (k : Int).toNat k hlt3 (by omega)
      have hrow := rowP_kid (ls := ls) hlt hlt3
      have hsucc := numsR_succ 0 ks.length false ks ls ds k
      rw [hrow] at hsucc
      clear hrow eg eg3
      have g4 : l3[off3 + (k : Int).toNat * 1]? = some (.int .u32 ds[k].toNat) := row_cell g3 (q := 0) (by simp [cKid])
      generalize ks[k] = x at g1 hsucc
      generalize ds[k] = y at g4 hsucc
      have u4 := y.toNat_lt
      have lx := cKey_len x
      have u1 := x.cart.toNat_lt; have u2 := x.dot.rep.toNat_lt; have u3 := x.dot.seq.toNat_lt
      rw [show [x.cart.toNat, x.dot.rep.toNat, x.dot.seq.toNat, y.toNat] = [x.cart.toNat, x.dot.rep.toNat, x.dot.seq.toNat] ++ [y.toNat] from rfl] at hsucc
      generalize hX : numsB (0 :: ks.length :: rowsP false ks ls ds k) = X at H hx hsucc
      have hl1 := numsB_len [x.cart.toNat, x.dot.rep.toNat, x.dot.seq.toNat]
      simp only [List.length_cons, List.length_nil] at hl1
      repeat' (first | ((first | refine WL.p rfl ?_ | refine WL.u ?_); first | (refine opk 1 rfl ?_; first | (refine ost_O H rfl idx2 (fun HO => r13_nums _ _ X [x.cart.toNat, x.dot.rep.toNat, x.dot.seq.toNat] _ _ _ _ _ HO (H.lessRd idx2 idx0 (by decide)) rfl (by simp; omega) (by omega) (by simp)) rfl ?_; clear H; rintro vk wk hfk Lk ⟨a8, c8, rfl, rfl⟩ H; simp only [List.cons_append, List.nil_append, List.eraseIdx_cons_zero, List.eraseIdx_cons_succ] at H) | (refine ost_O H rfl idx1 (fun HO => r13_nums _ _ (X ++ numsB [x.cart.toNat, x.dot.rep.toNat, x.dot.seq.toNat]) [y.toNat] _ _ _ _ _ HO (H.lessRd idx1 idx0 (by decide)) rfl (by simp; omega) (by simp only [List.length_append]; omega) (by simp)) rfl ?_; clear H; rintro vk wk hfk Lk ⟨a8, c8, rfl, rfl⟩ H; simp only [List.cons_append, List.nil_append, List.eraseIdx_cons_zero, List.eraseIdx_cons_succ] at H)) | refine pvQ ?_ | (refine opk 3 rfl ?_; (refine ost_cmp rfl rfl rfl rfl (fun hc => ?_) (fun hc => ?_) <;> (simp only [cmpP] at hc; try exact prIQ))) | (refine opk 4 rfl ?_; (refine ost_cmp rfl rfl rfl rfl (fun hc => ?_) (fun hc => ?_) <;> (simp only [cmpP] at hc; try exact prIQ))) | (refine opk 8 rfl ?_; (refine ost_storeW H rfl rfl rfl rfl lQ ixQ lQ okQ ?_; clear H; intro wk H; simp only [List.set_cons_zero, List.set_cons_succ, Nat.reduceAdd] at H)) | (refine opk 9 rfl ?_; first | (refine ost_boxq H rfl ?_; clear H; intro bk wk H) | (refine ost_allocA H rfl ?_; clear H; intro bk wk H) | (refine ost_build1 H rfl rfl rfl evQ lsQ rfl ?_; clear H; intro bk wk H))) | refine Wc.seq ?_ | refine then_n ?_ | refine WL.nil ?_ | refine Wc.region ?_ | refine Wc.block ?_ | refine then_r ?_ | refine then_e ?_ | refine inb_e rfl ?_ | refine inb_o rfl ?_ | refine inb_n ?_ | refine inb_r ?_ | refine Wc.skip ?_ | refine Wc.exit ?_ | refine Wc.ret ?_ | refine Wc.cond_true rfl ?_ | refine Wc.cond_false rfl ?_ | (refine Wc.drawn (id := 11) 16 (by kernel_rfl) ?_) | (refine rgs_nil ?_; intro vs wk hE; replace H := H.ext hE; clear hE) | (refine RGs.bq (fun _ => rfl) rfl (by intro vs w hE hP; have H := H.ext hE; first | exact dbQ | fail) (fun hc => ?_) (fun hc => ?_) <;> ((try simp only [cmpP, decide_eq_true_eq, decide_eq_false_iff_not, dcd_iff, dcd_no] at hc); try exact prDQ)) | refine RGs.pq (fun _ => rfl) rfl (by intro vs w hE hP; have H := H.ext hE; first | exact dvQ | fail) ?_)
      refine ⟨ks.length - (k + 1), by omega, k + 1, a8, c8, rfl, by omega, by (repeat' (first | exact Agree.refl _ _ | exact Agree.havoc | refine Agree.upd rfl ?_ | refine Agree.hav2 rfl ?_)), rfl, ?_, ?_⟩
      · rw [hsucc, show numsB ([x.cart.toNat, x.dot.rep.toNat, x.dot.seq.toNat] ++ [y.toNat]) = numsB [x.cart.toNat, x.dot.rep.toNat, x.dot.seq.toNat] ++ numsB [y.toNat] from numsB_app _ _, ← List.append_assoc]; rfl
      · rw [hsucc, show numsB ([x.cart.toNat, x.dot.rep.toNat, x.dot.seq.toNat] ++ [y.toNat]) = numsB [x.cart.toNat, x.dot.rep.toNat, x.dot.seq.toNat] ++ numsB [y.toNat] from numsB_app _ _, ← List.append_assoc]; exact H.pick2 0 4 rfl rfl (by decide)
    · obtain rfl : k = ks.length := by omega
      have e9 : numsB (0 :: ks.length :: rowsP false ks ls ds ks.length) = numsB (natsP ⟨false, ks, ls, ds⟩) := rfl
      rw [e9] at H hx ⊢
      repeat' (first | ((first | refine WL.p rfl ?_ | refine WL.u ?_); first | (refine opk 1 rfl ?_; (refine ost_C H rfl (r10_Wrapn _ _ _ _ (numsB (natsP ⟨false, ks, ls, ds⟩)) _ (sat_full _) rfl (by omega) (H.own8rd (i := 0) rfl)) rfl ?_; clear H; rintro vk wk hfk Lk ⟨a5, c5, rfl, _, rfl⟩ H; simp only [List.cons_append, List.nil_append] at H)) | refine pvQ ?_ | (refine opk 3 rfl ?_; (refine ost_cmp rfl rfl rfl rfl (fun hc => ?_) (fun hc => ?_) <;> (simp only [cmpP] at hc; try exact prIQ))) | (refine opk 4 rfl ?_; (refine ost_cmp rfl rfl rfl rfl (fun hc => ?_) (fun hc => ?_) <;> (simp only [cmpP] at hc; try exact prIQ))) | (refine opk 8 rfl ?_; (refine ost_storeW H rfl rfl rfl rfl lQ ixQ lQ okQ ?_; clear H; intro wk H; simp only [List.set_cons_zero, List.set_cons_succ, Nat.reduceAdd] at H)) | (refine opk 9 rfl ?_; first | (refine ost_boxq H rfl ?_; clear H; intro bk wk H) | (refine ost_allocA H rfl ?_; clear H; intro bk wk H) | (refine ost_build1 H rfl rfl rfl evQ lsQ rfl ?_; clear H; intro bk wk H))) | refine Wc.seq ?_ | refine then_n ?_ | refine WL.nil ?_ | refine Wc.region ?_ | refine Wc.block ?_ | refine then_r ?_ | refine then_e ?_ | refine inb_e rfl ?_ | refine inb_o rfl ?_ | refine inb_n ?_ | refine inb_r ?_ | refine Wc.skip ?_ | refine Wc.exit ?_ | refine Wc.ret ?_ | refine Wc.cond_true rfl ?_ | refine Wc.cond_false rfl ?_ | (refine Wc.drawn (id := 11) 16 (by kernel_rfl) ?_) | (refine rgs_nil ?_; intro vs wk hE; replace H := H.ext hE; clear hE) | (refine RGs.bq (fun _ => rfl) rfl (by intro vs w hE hP; have H := H.ext hE; first | exact dbQ | fail) (fun hc => ?_) (fun hc => ?_) <;> ((try simp only [cmpP, decide_eq_true_eq, decide_eq_false_iff_not, dcd_iff, dcd_no] at hc); try exact prDQ)) | refine RGs.pq (fun _ => rfl) rfl (by intro vs w hE hP; have H := H.ext hE; first | exact dvQ | fail) ?_)
      exact fn_ret1 (v := .slice _ _ _) rfl rfl ⟨_, _, H.pick 0 rfl, _, _, rfl, rfl, rfl⟩
end Go.Tg

set_option linter.unusedVariables false
set_option linter.unusedSimpArgs false
set_option maxRecDepth 100000
set_option maxHeartbeats 4000000
namespace Go.Tg
open Go Go.Proofs
def numsO (o : OpT) (k : Nat) : Nat := if k = 0 then o.dot.rep.toNat else if k = 1 then o.dot.seq.toNat else if k = 2 then o.kind.toNat else if k = 3 then o.cart.toNat else if k = 4 then o.item.toNat else if k = 5 then o.qty.toNat else o.tick.toNat
theorem numsO_lt (o : OpT) (k : Nat) : numsO o k < 4294967296 := by
  have h1 := o.dot.rep.toNat_lt; have h2 := o.dot.seq.toNat_lt; have h3 := o.kind.toNat_lt; have h4 := o.cart.toNat_lt; have h5 := o.item.toNat_lt; have h6 := o.qty.toNat_lt; have h7 := o.tick.toNat_lt
  unfold numsO; repeat' split
  all_goals omega
def putsO (o : OpT) (k : Nat) : List UInt8 := ((List.range k).map fun i => putB (numsO o i)).flatten
def encO (o : OpT) : List UInt8 := putsO o 7 ++ fieldB (encV o.ctx)
end Go.Tg

set_option linter.unusedVariables false
set_option linter.unusedSimpArgs false
set_option maxRecDepth 100000
set_option maxHeartbeats 4000000
namespace Go.Tg
open Go Go.Proofs
structure TkT where
  e : Int
  xs : List UInt8
  bad : Bool
def tkN (t : TkT) : Nat := (numE t.e t.xs).1
def tkS (t : TkT) (bits : Nat) : TkT := ⟨(numE t.e t.xs).2.2.1, (numE t.e t.xs).2.2.2, t.bad || !(decide ((numE t.e t.xs).2.1 = 0) && decide (tkN t / 2 ^ bits = 0))⟩
theorem tk_sound {t : TkT} {bits : Nat} (hb : (tkS t bits).bad = false) (he : (tkS t bits).e = 0) (hb9 : 0 < 2 ^ bits) : t.bad = false ∧ t.e = 0 ∧ t.xs = putB (tkN t) ++ (tkS t bits).xs ∧ tkN t < 2 ^ bits := by
  simp only [tkS, Bool.or_eq_false_iff, Bool.not_eq_false', Bool.and_eq_true, decide_eq_true_eq] at hb
  obtain ⟨h1, h2, h3⟩ := hb
  have h0 : t.e = 0 := Classical.byContradiction fun h => by rw [numE_err h] at h2; exact h h2
  refine ⟨h1, h0, ?_, by rcases Nat.div_eq_zero_iff.1 h3 with h | h <;> omega⟩
  have := numE_inv (xs := t.xs) (by rw [h0] at h2; exact h2)
  unfold tkN tkS; rw [h0]; exact this
theorem tk_full {t : TkT} {bits n : Nat} {r : List UInt8} (he : t.e = 0) (hb : t.bad = false) (hx : t.xs = putB n ++ r) (hn : n < 18446744073709551616) (hn2 : n < 2 ^ bits) : tkN t = n ∧ tkS t bits = ⟨0, r, false⟩ := by
  have h1 := numE_putB n hn r
  rw [← hx, ← he] at h1
  have h2 : tkN t = n := by unfold tkN; rw [h1]
  refine ⟨h2, ?_⟩
  unfold tkS; rw [h2, h1, hb, he, Nat.div_eq_of_lt hn2]; rfl
def zeroO : OpT := ⟨⟨0, 0⟩, 0, 0, 0, 0, 0, fun _ => 0⟩
def DecO (b : List UInt8) (x : OpT) (e : Int) : Prop := (e = 0 ∧ rightO x 16 = true ∧ encO x = b) ∨ (e = 5 ∧ x = zeroO ∧ ∀ u, rightO u 16 = true → encO u ≠ b)
theorem nums_inj {u v : OpT} : ∀ (d k : Nat), 7 - k = d → k ≤ 7 → (r s : List UInt8) → ((List.range (7 - k)).map fun i => putB (numsO u (k + i))).flatten ++ r = ((List.range (7 - k)).map fun i => putB (numsO v (k + i))).flatten ++ s → (∀ i, k ≤ i → i < 7 → numsO u i = numsO v i) ∧ r = s
  | 0, k, h1, h2, r, s, h => by
    obtain rfl : k = 7 := by omega
    exact ⟨fun i _ _ => by omega, h⟩
  | d + 1, k, h1, h2, r, s, h => by
    rw [h1, List.range_succ_eq_map] at h
    simp only [List.map_cons, List.map_map, List.flatten_cons, Nat.add_zero, List.append_assoc] at h
    have hu := numsO_lt u k; have hv := numsO_lt v k
    obtain ⟨h3, h4⟩ := putB_app_inj (by omega) (by omega) h
    obtain ⟨h5, h6⟩ := nums_inj d (k + 1) (by omega) (by omega) r s (by
      rw [show 7 - (k + 1) = d by omega]
      simpa [Function.comp_def, Nat.add_assoc, Nat.add_comm 1] using h4)
    exact ⟨fun i h7 h8 => by
      by_cases hik : i = k
      · subst hik; exact h3
      · exact h5 i (by omega) h8, h6⟩
theorem encO_inj {u v : OpT} (h : encO u = encO v) : u = v := by
  have h0 : ((List.range (7 - 0)).map fun i => putB (numsO u (0 + i))).flatten ++ fieldB (encV u.ctx) = ((List.range (7 - 0)).map fun i => putB (numsO v (0 + i))).flatten ++ fieldB (encV v.ctx) := by
    simpa [encO, putsO] using h
  obtain ⟨h1, h2⟩ := nums_inj 7 0 rfl (by omega) _ _ h0
  have hu := encV_len u.ctx; have hv := encV_len v.ctx
  obtain ⟨h3, h4⟩ := putB_app_inj (by omega) (by omega) h2
  have h5 := encV_inj h4
  have e0 := h1 0 (by omega) (by omega); have e1 := h1 1 (by omega) (by omega); have e2 := h1 2 (by omega) (by omega); have e3 := h1 3 (by omega) (by omega)
  have e4 := h1 4 (by omega) (by omega); have e5 := h1 5 (by omega) (by omega); have e6 := h1 6 (by omega) (by omega)
  simp only [numsO] at e0 e1 e2 e3 e4 e5 e6
  simp at e0 e1 e2 e3 e4 e5 e6
  obtain ⟨⟨_, _⟩, _, _, _, _, _, _⟩ := u
  obtain ⟨⟨_, _⟩, _, _, _, _, _, _⟩ := v
  simp_all [UInt8.toNat_inj, UInt16.toNat_inj, UInt32.toNat_inj]
theorem DecO.unique {b : List UInt8} {x y : OpT} {e f : Int} (h : DecO b x e) (k : DecO b y f) : x = y ∧ e = f := by
  rcases h with ⟨h1, h2, h3⟩ | ⟨h1, h2, h3⟩ <;> rcases k with ⟨k1, k2, k3⟩ | ⟨k1, k2, k3⟩
  · exact ⟨encO_inj (h3.trans k3.symm), h1.trans k1.symm⟩
  · exact absurd h3 (k3 _ h2)
  · exact absurd k3 (h3 _ k2)
  · exact ⟨h2.trans k2.symm, h1.trans k1.symm⟩
theorem u8_wrap (y : Nat) : Value.int .u8 (IntKind.u8.wrap y) = .int .u8 (UInt8.ofNat y).toNat := by
  simp [IntKind.wrap, IntKind.bits, IntKind.signed]
theorem u16_wrap (y : Nat) : Value.int .u16 (IntKind.u16.wrap y) = .int .u16 (UInt16.ofNat y).toNat := by
  simp [IntKind.wrap, IntKind.bits, IntKind.signed]
theorem u32_wrap2 (y : Nat) : Value.int .u32 (IntKind.u32.wrap y) = .int .u32 (UInt32.ofNat y).toNat := by
  simp [IntKind.wrap, IntKind.bits, IntKind.signed]
end Go.Tg

