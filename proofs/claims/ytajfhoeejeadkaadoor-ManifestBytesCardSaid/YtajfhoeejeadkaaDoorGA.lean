/- Contracts of Go functions that the laws reach: what each call answers and leaves in memory, for all arguments within the bounds that each theorem names. -/
import Derived.Test.YtajfhoeejeadkaaDoorInst
import Derived.Test.YtajfhoeejeadkaaDoorAuto
import Derived.Test.YtajfhoeejeadkaaDoorG6
import Derived.Test.YtajfhoeejeadkaaDoorH1
import Derived.Test.YtajfhoeejeadkaaDoorF3
set_option linter.unusedVariables false
set_option linter.unusedSimpArgs false
set_option maxRecDepth 100000
set_option maxHeartbeats 4000000
namespace Go.Tg
open Go Go.Proofs
theorem r16_nums (e0 : Int) (h0 : FH) (a : Option Addr) (c : Nat) (f : List UInt8) (w : World) (hs : Sat h0 w) (hr : BS h0 a c f) (hb : f.length ≤ 1000000) :
    Spec Tryd.prog 100 #[rr a f.length c e0] w [] h0 (fun v h' L' => ∃ (l : List Nat) (ok : Bool) (a' : Option Addr) (c' : Nat), (e0 = 0 → TakeR f l ok) ∧ v = .tuple #[.slice a' (l.map nV).length c', .bool ok] ∧ L' = [] ∧ Sl h' 1 a' c' (l.map nV)) := by
  have H := St.start hs
  unfold Spec
  refine calls_of Tryd.func100 rfl Tryd.ntmps100 (by simp) ?_
  by_cases he0 : e0 = 0
  · subst he0
    repeat' (first | ((first | refine WL.p rfl ?_ | refine WL.u ?_); first | refine pvQ ?_ | (refine opk 3 rfl ?_; (refine ost_cmp rfl rfl rfl rfl (fun hc => ?_) (fun hc => ?_) <;> (simp only [cmpP] at hc; try exact prIQ))) | (refine opk 4 rfl ?_; (refine ost_cmp rfl rfl rfl rfl (fun hc => ?_) (fun hc => ?_) <;> (simp only [cmpP] at hc; try exact prIQ))) | (refine opk 8 rfl ?_; (refine ost_storeW H rfl rfl rfl rfl lQ ixQ lQ okQ ?_; clear H; intro wk H; simp only [List.set_cons_zero, List.set_cons_succ, Nat.reduceAdd] at H)) | (refine opk 9 rfl ?_; first | (refine ost_boxq H rfl ?_; clear H; intro bk wk H) | (refine ost_allocA H rfl ?_; clear H; intro bk wk H) | (refine ost_build1 H rfl rfl rfl evQ lsQ rfl ?_; clear H; intro bk wk H))) | refine Wc.seq ?_ | refine then_n ?_ | refine WL.nil ?_ | refine Wc.region ?_ | refine Wc.block ?_ | refine then_r ?_ | refine then_e ?_ | refine inb_e rfl ?_ | refine inb_o rfl ?_ | refine inb_n ?_ | refine inb_r ?_ | refine Wc.skip ?_ | refine Wc.exit ?_ | refine Wc.ret ?_ | refine Wc.cond_true rfl ?_ | refine Wc.cond_false rfl ?_)
    obtain ⟨br, ebr⟩ := H.nameB idx0
    subst ebr
    replace H : St w [] h0 h0 [ownR (.slice none (([] : List Nat).map nV).length 0) 91 1 (([] : List Nat).map nV), .blk br (.cells [.slice a f.length c, .int .i64 0].toArray 162 (0, 0))] wk := H.nilOwn 91 1
    refine Wc.loopE (fun s0 m s w' => ∃ (l : List Nat) (r : List UInt8) (a1 : Option Addr) (c1 : Nat) (a2 : Option Addr) (c2 : Nat), m = r.length ∧ f = numsB l ++ r ∧ B64 l ∧ BS h0 a1 c1 r ∧ Agree [2, 3, 4, 5, 6, 7, 8, 9, 10, 11, 12, 13, 14, 15, 16, 17, 18, 19, 20, 21, 22, 23, 24] s s0 ∧ s 4 = .slice a2 (l.map nV).length c2 ∧
      St w [] h0 h0 [ownR (.slice a2 (l.map nV).length c2) 91 1 (l.map nV), .blk br (.cells [.slice a1 r.length c1, .int .i64 0].toArray 162 (0, 0))] w') f.length ⟨[], f, a, c, none, 0, rfl, rfl, fun _ h => (List.not_mem_nil h).elim, hr, Agree.refl _ _, rfl, H⟩ ?_
    clear H
    rintro m s w' ⟨l, r, a1, c1, a2, c2, rfl, hf, hl, hr1, hA, e1, H⟩
    obtain ⟨j, rfl⟩ := hA.env1 e1
    clear hA e1
    have hll : (l.map nV).length ≤ 1000000 := by
      have h1 := numsB_ge l
      have h2 := congrArg List.length hf
      rw [List.length_append] at h2
      rw [List.length_map]; omega
    by_cases hlt : 0 < r.length
    · by_cases hg : (getB r).2.2 = 0
      · obtain ⟨hf2, hl2⟩ := take_step hf hl hg
        have hk := getB_le r
        have hk1 : 0 < (getB r).2.1 := by
          have hi := getB_inv (b := r) (n := (getB r).1) (k := (getB r).2.1) (by rw [← hg])
          have := congrArg List.length hi
          have h9 := putB_pos (getB r).1
          rw [List.length_append, List.length_drop] at this; omega
        have hN : ∀ w, Sat h0 w → Spec Tryd.prog 97 #[rr a1 r.length c1 0] w [] h0 (fun v h' L' => ∃ a' c', v = .tuple #[rr a' (r.drop (getB r).2.1).length c' 0, .int .u64 ((getB r).1 : Nat), .int .i64 0] ∧ h' = h0 ∧ L' = [] ∧ BS h0 a' c' (r.drop (getB r).2.1)) := fun w hs => by
          have := r3_Num h0 w hs a1 c1 r 0 hr1
          have en : numE 0 r = ((getB r).1, 0, 0, r.drop (getB r).2.1) := by unfold numE; rw [if_neg (by simp), if_neg (by simpa using hg)]
          rw [en] at this; exact this
        have hm1 : (l.map nV) ++ [[Value.int .u64 (((getB r).1 : Nat) : Int)]] = (l ++ [(getB r).1]).map nV := by rw [List.map_append]; rfl
        have hd : (r.drop (getB r).2.1).length < r.length := by rw [List.length_drop]; omega
        generalize (getB r).1 = n at hN hf2 hl2 hm1
        generalize r.drop (getB r).2.1 = r' at hN hf2 hd
        repeat' (first | ((first | refine WL.p rfl ?_ | refine WL.u ?_); first | (refine opk 1 rfl ?_; first | (refine ost_Sk H rfl (hN _ H.sat) rfl ?_; clear H; rintro vk wk hfk Lk ⟨a4, c4, rfl, e9, rfl, hr4⟩ hle H; simp only [List.cons_append, List.nil_append] at H) | (refine ost_appR (rows := l.map nV) (row := [.int .u64 (n : Nat)]) H rfl rfl rfl (by (exact ixQ)) (by (exact ixQ)) (by rfl) (by first | simp; done | exact Nat.succ_pos _) rfl (allOne_of rfl) rfl (by omega) ?_; clear H; intro aa ca wk H; simp only [List.set_cons_zero, List.set_cons_succ] at H)) | (refine opk 9 rfl ?_; (refine ost_buildR (rows := [[.int .u64 (n : Nat)]]) H rfl (by decide) rfl (by rfl) (evP1 vxQ) (.cons rfl .nil) rfl (fun r hr => by rw [List.mem_singleton.1 hr]; rfl) ?_; clear H; intro bk wk H)) | refine pvQ ?_ | (refine opk 3 rfl ?_; (refine ost_cmp rfl rfl rfl rfl (fun hc => ?_) (fun hc => ?_) <;> (simp only [cmpP] at hc; try exact prIQ))) | (refine opk 4 rfl ?_; (refine ost_cmp rfl rfl rfl rfl (fun hc => ?_) (fun hc => ?_) <;> (simp only [cmpP] at hc; try exact prIQ))) | (refine opk 8 rfl ?_; (refine ost_storeW H rfl rfl rfl rfl lQ ixQ lQ okQ ?_; clear H; intro wk H; simp only [List.set_cons_zero, List.set_cons_succ, Nat.reduceAdd] at H)) | (refine opk 9 rfl ?_; first | (refine ost_boxq H rfl ?_; clear H; intro bk wk H) | (refine ost_allocA H rfl ?_; clear H; intro bk wk H) | (refine ost_build1 H rfl rfl rfl evQ lsQ rfl ?_; clear H; intro bk wk H))) | refine Wc.seq ?_ | refine then_n ?_ | refine WL.nil ?_ | refine Wc.region ?_ | refine Wc.block ?_ | refine then_r ?_ | refine then_e ?_ | refine inb_e rfl ?_ | refine inb_o rfl ?_ | refine inb_n ?_ | refine inb_r ?_ | refine Wc.skip ?_ | refine Wc.exit ?_ | refine Wc.ret ?_ | refine Wc.cond_true rfl ?_ | refine Wc.cond_false rfl ?_)
        subst e9
        exact ⟨r'.length, hd, l ++ [n], r', a4, c4, aa, ca, rfl, hf2, hl2, hr4, by (repeat' (first | exact Agree.refl _ _ | exact Agree.havoc | refine Agree.upd rfl ?_ | refine Agree.hav2 rfl ?_)), by rw [← hm1]; rfl, by rw [← hm1]; exact H.picks [2, 3] rfl (by decide)⟩
      · have hN : ∀ w, Sat h0 w → Spec Tryd.prog 97 #[rr a1 r.length c1 0] w [] h0 (fun v h' L' => ∃ a' c', v = .tuple #[rr a' r.length c' ((getB r).2.2 : Nat), .int .u64 0, .int .i64 ((getB r).2.2 : Nat)] ∧ h' = h0 ∧ L' = [] ∧ BS h0 a' c' r) := fun w hs => by
          have := r3_Num h0 w hs a1 c1 r 0 hr1
          have en : numE 0 r = (0, (((getB r).2.2 : Nat) : Int), (((getB r).2.2 : Nat) : Int), r) := by unfold numE; rw [if_neg (by simp), if_pos (by simpa using hg)]
          rw [en] at this; exact this
        have hT := take_bad hf hlt hl hg
        generalize (getB r).2.2 = e at hN hg
        repeat' (first | ((first | refine WL.p rfl ?_ | refine WL.u ?_); first | (refine opk 1 rfl ?_; (refine ost_Sk H rfl (hN _ H.sat) rfl ?_; clear H; rintro vk wk hfk Lk ⟨a4, c4, rfl, e9, rfl, hr4⟩ hle H; simp only [List.cons_append, List.nil_append] at H)) | refine pvQ ?_ | (refine opk 3 rfl ?_; (refine ost_cmp rfl rfl rfl rfl (fun hc => ?_) (fun hc => ?_) <;> (simp only [cmpP] at hc; try exact prIQ))) | (refine opk 4 rfl ?_; (refine ost_cmp rfl rfl rfl rfl (fun hc => ?_) (fun hc => ?_) <;> (simp only [cmpP] at hc; try exact prIQ))) | (refine opk 8 rfl ?_; (refine ost_storeW H rfl rfl rfl rfl lQ ixQ lQ okQ ?_; clear H; intro wk H; simp only [List.set_cons_zero, List.set_cons_succ, Nat.reduceAdd] at H)) | (refine opk 9 rfl ?_; first | (refine ost_boxq H rfl ?_; clear H; intro bk wk H) | (refine ost_allocA H rfl ?_; clear H; intro bk wk H) | (refine ost_build1 H rfl rfl rfl evQ lsQ rfl ?_; clear H; intro bk wk H))) | refine Wc.seq ?_ | refine then_n ?_ | refine WL.nil ?_ | refine Wc.region ?_ | refine Wc.block ?_ | refine then_r ?_ | refine then_e ?_ | refine inb_e rfl ?_ | refine inb_o rfl ?_ | refine inb_n ?_ | refine inb_r ?_ | refine Wc.skip ?_ | refine Wc.exit ?_ | refine Wc.ret ?_ | refine Wc.cond_true rfl ?_ | refine Wc.cond_false rfl ?_)
        exact fn_ret2 (v1 := .slice _ _ _) (v2 := .bool _) rfl rfl rfl ⟨_, _, H.pick0, [], false, _, _, fun _ => hT, rfl, rfl, Sl.nil _ _⟩
    · obtain rfl : r = [] := List.eq_nil_of_length_eq_zero (by omega)
      have hT := take_end hf hl
      obtain ⟨a7, c7, h7, e7, hle7, hL7, H⟩ := H.freezeR (rows_nV l)
      injection e7 with e71 e72 e73
      subst e71; subst e73
      repeat' (first | ((first | refine WL.p rfl ?_ | refine WL.u ?_); first | refine pvQ ?_ | (refine opk 3 rfl ?_; (refine ost_cmp rfl rfl rfl rfl (fun hc => ?_) (fun hc => ?_) <;> (simp only [cmpP] at hc; try exact prIQ))) | (refine opk 4 rfl ?_; (refine ost_cmp rfl rfl rfl rfl (fun hc => ?_) (fun hc => ?_) <;> (simp only [cmpP] at hc; try exact prIQ))) | (refine opk 8 rfl ?_; (refine ost_storeW H rfl rfl rfl rfl lQ ixQ lQ okQ ?_; clear H; intro wk H; simp only [List.set_cons_zero, List.set_cons_succ, Nat.reduceAdd] at H)) | (refine opk 9 rfl ?_; first | (refine ost_boxq H rfl ?_; clear H; intro bk wk H) | (refine ost_allocA H rfl ?_; clear H; intro bk wk H) | (refine ost_build1 H rfl rfl rfl evQ lsQ rfl ?_; clear H; intro bk wk H))) | refine Wc.seq ?_ | refine then_n ?_ | refine WL.nil ?_ | refine Wc.region ?_ | refine Wc.block ?_ | refine then_r ?_ | refine then_e ?_ | refine inb_e rfl ?_ | refine inb_o rfl ?_ | refine inb_n ?_ | refine inb_r ?_ | refine Wc.skip ?_ | refine Wc.exit ?_ | refine Wc.ret ?_ | refine Wc.cond_true rfl ?_ | refine Wc.cond_false rfl ?_)
      exact fn_ret2 (v1 := .slice _ _ _) (v2 := .bool _) rfl rfl rfl ⟨_, _, H.pick0, l, true, _, _, fun _ => hT, rfl, rfl, hL7⟩
  · have hN : ∀ w, Sat h0 w → Spec Tryd.prog 97 #[rr a f.length c e0] w [] h0 (fun v h' L' => ∃ a' c', v = .tuple #[rr a' f.length c' e0, .int .u64 0, .int .i64 e0] ∧ h' = h0 ∧ L' = [] ∧ BS h0 a' c' f) := fun w hs => by
      have := r3_Num h0 w hs a c f e0 hr
      rw [numE_err he0] at this; exact this
    repeat' (first | ((first | refine WL.p rfl ?_ | refine WL.u ?_); first | refine pvQ ?_ | (refine opk 3 rfl ?_; (refine ost_cmp rfl rfl rfl rfl (fun hc => ?_) (fun hc => ?_) <;> (simp only [cmpP] at hc; try exact prIQ))) | (refine opk 4 rfl ?_; (refine ost_cmp rfl rfl rfl rfl (fun hc => ?_) (fun hc => ?_) <;> (simp only [cmpP] at hc; try exact prIQ))) | (refine opk 8 rfl ?_; (refine ost_storeW H rfl rfl rfl rfl lQ ixQ lQ okQ ?_; clear H; intro wk H; simp only [List.set_cons_zero, List.set_cons_succ, Nat.reduceAdd] at H)) | (refine opk 9 rfl ?_; first | (refine ost_boxq H rfl ?_; clear H; intro bk wk H) | (refine ost_allocA H rfl ?_; clear H; intro bk wk H) | (refine ost_build1 H rfl rfl rfl evQ lsQ rfl ?_; clear H; intro bk wk H))) | refine Wc.seq ?_ | refine then_n ?_ | refine WL.nil ?_ | refine Wc.region ?_ | refine Wc.block ?_ | refine then_r ?_ | refine then_e ?_ | refine inb_e rfl ?_ | refine inb_o rfl ?_ | refine inb_n ?_ | refine inb_r ?_ | refine Wc.skip ?_ | refine Wc.exit ?_ | refine Wc.ret ?_ | refine Wc.cond_true rfl ?_ | refine Wc.cond_false rfl ?_)
    refine Wc.loopE (fun s0 m s w' => s = s0 ∧ w' = wk) 0 ⟨rfl, rfl⟩ ?_
    rintro m s w' ⟨rfl, rfl⟩
    by_cases hlt : 0 < f.length
    · repeat' (first | ((first | refine WL.p rfl ?_ | refine WL.u ?_); first | (refine opk 1 rfl ?_; (refine ost_Sk H rfl (hN _ H.sat) rfl ?_; clear H; rintro vk wk hfk Lk ⟨a4, c4, rfl, e9, rfl, hr4⟩ hle H; simp only [List.cons_append, List.nil_append] at H)) | refine pvQ ?_ | (refine opk 3 rfl ?_; (refine ost_cmp rfl rfl rfl rfl (fun hc => ?_) (fun hc => ?_) <;> (simp only [cmpP] at hc; try exact prIQ))) | (refine opk 4 rfl ?_; (refine ost_cmp rfl rfl rfl rfl (fun hc => ?_) (fun hc => ?_) <;> (simp only [cmpP] at hc; try exact prIQ))) | (refine opk 8 rfl ?_; (refine ost_storeW H rfl rfl rfl rfl lQ ixQ lQ okQ ?_; clear H; intro wk H; simp only [List.set_cons_zero, List.set_cons_succ, Nat.reduceAdd] at H)) | (refine opk 9 rfl ?_; first | (refine ost_boxq H rfl ?_; clear H; intro bk wk H) | (refine ost_allocA H rfl ?_; clear H; intro bk wk H) | (refine ost_build1 H rfl rfl rfl evQ lsQ rfl ?_; clear H; intro bk wk H))) | refine Wc.seq ?_ | refine then_n ?_ | refine WL.nil ?_ | refine Wc.region ?_ | refine Wc.block ?_ | refine then_r ?_ | refine then_e ?_ | refine inb_e rfl ?_ | refine inb_o rfl ?_ | refine inb_n ?_ | refine inb_r ?_ | refine Wc.skip ?_ | refine Wc.exit ?_ | refine Wc.ret ?_ | refine Wc.cond_true rfl ?_ | refine Wc.cond_false rfl ?_)
      exact fn_ret2 (v1 := .slice _ _ _) (v2 := .bool _) rfl rfl rfl ⟨_, _, H.pick0, [], false, _, _, fun h => absurd h he0, rfl, rfl, Sl.nil _ _⟩
    · repeat' (first | ((first | refine WL.p rfl ?_ | refine WL.u ?_); first | refine pvQ ?_ | (refine opk 3 rfl ?_; (refine ost_cmp rfl rfl rfl rfl (fun hc => ?_) (fun hc => ?_) <;> (simp only [cmpP] at hc; try exact prIQ))) | (refine opk 4 rfl ?_; (refine ost_cmp rfl rfl rfl rfl (fun hc => ?_) (fun hc => ?_) <;> (simp only [cmpP] at hc; try exact prIQ))) | (refine opk 8 rfl ?_; (refine ost_storeW H rfl rfl rfl rfl lQ ixQ lQ okQ ?_; clear H; intro wk H; simp only [List.set_cons_zero, List.set_cons_succ, Nat.reduceAdd] at H)) | (refine opk 9 rfl ?_; first | (refine ost_boxq H rfl ?_; clear H; intro bk wk H) | (refine ost_allocA H rfl ?_; clear H; intro bk wk H) | (refine ost_build1 H rfl rfl rfl evQ lsQ rfl ?_; clear H; intro bk wk H))) | refine Wc.seq ?_ | refine then_n ?_ | refine WL.nil ?_ | refine Wc.region ?_ | refine Wc.block ?_ | refine then_r ?_ | refine then_e ?_ | refine inb_e rfl ?_ | refine inb_o rfl ?_ | refine inb_n ?_ | refine inb_r ?_ | refine Wc.skip ?_ | refine Wc.exit ?_ | refine Wc.ret ?_ | refine Wc.cond_true rfl ?_ | refine Wc.cond_false rfl ?_)
      exact fn_ret2 (v1 := .slice _ _ _) (v2 := .bool _) rfl rfl rfl ⟨_, _, H.pick0, [], true, _, _, fun h => absurd h he0, rfl, rfl, Sl.nil _ _⟩
end Go.Tg

set_option linter.unusedVariables false
set_option linter.unusedSimpArgs false
set_option maxRecDepth 100000
set_option maxHeartbeats 4000000
namespace Go.Tg
open Go Go.Proofs
def segsN (l : List Nat) (k : Nat) : List UInt32 := (List.range (k - 2)).map fun i => UInt32.ofNat (l.getD (2 + i) 0)
theorem segsN_succ (l : List Nat) {k : Nat} (h : 2 ≤ k) : segsN l (k + 1) = segsN l k ++ [UInt32.ofNat (l.getD k 0)] := by
  unfold segsN
  rw [show k + 1 - 2 = (k - 2) + 1 by omega, List.range_succ, List.map_append, List.map_singleton, show 2 + (k - 2) = k by omega]
theorem segsN_len (l : List Nat) (k : Nat) : (segsN l k).length = k - 2 := by simp [segsN]
noncomputable def manN (f : List UInt8) (l : List Nat) : ManT := ⟨UInt64.ofNat (verF f), (decV (flrF f)).1, UInt32.ofNat (l.getD 0 0), segsN l (l.length - 1), UInt32.ofNat (l.getD (l.length - 1) 0)⟩
theorem manN_full {u : ManT} {f : List UInt8} (hr : rightM u = true) (hf : f = fldM u) : (numE 0 f).2.1 = 0 ∧ (bt2 f).2.1 = 0 ∧ (bt2 f).2.2.1 = 0 ∧ (decV (flrF f)).2 = 0 ∧ ∃ l, B64 l ∧ numsB l = (t0F f).xs ∧ 3 ≤ l.length ∧ manN f l = u := by
  obtain ⟨ver, flr, base, segs, next⟩ := u
  obtain ⟨⟨c1, c2, -⟩, -⟩ := rightM_iff.1 hr
  have c1 : 1 ≤ segs.length := c1
  have c2 : segs.length ≤ 64 := c2
  have q1 := encV_len flr
  have t1 := base.toNat_lt
  have hf2 : f = putB ver.toNat ++ (fieldB (encV flr) ++ numsB (base.toNat :: segs.length :: n32 (segs ++ [next]))) := by
    rw [hf]; unfold fldM; rw [numsB_cons, numsB_cons]; simp only [List.append_assoc]
  have e1 := numE_putB ver.toNat ver.toNat_lt (fieldB (encV flr) ++ numsB (base.toNat :: segs.length :: n32 (segs ++ [next])))
  rw [← hf2] at e1
  have e2 : bt2 f = (encV flr, 0, 0, numsB (base.toNat :: segs.length :: n32 (segs ++ [next]))) := by
    unfold bt2; rw [e1]
    exact bytesE_fieldB (encV flr) _ (by omega)
  have e3 : t0F f = ⟨0, numsB (base.toNat :: segs.length :: n32 (segs ++ [next])), false⟩ := by unfold t0F; rw [e2]
  have e4 : flrF f = encV flr := by unfold flrF; rw [e2]
  have hl : ∀ n, n ∈ base.toNat :: segs.length :: n32 (segs ++ [next]) → n < 18446744073709551616 := by
    intro n hn
    rw [List.mem_cons, List.mem_cons] at hn
    rcases hn with rfl | rfl | hn
    · omega
    · omega
    · have := n32_lt _ n hn; omega
  have hlen : (base.toNat :: segs.length :: n32 (segs ++ [next])).length = 3 + segs.length := by simp [n32]; omega
  refine ⟨by rw [e1], by rw [e2], by rw [e2], by rw [e4, decV_enc], _, hl, by rw [e3], by omega, ?_⟩
  unfold manN
  rw [hlen, e4, decV_enc]
  have f1 : UInt64.ofNat (verF f) = ver := by unfold verF; rw [e1]; simp
  have f4 : segsN (base.toNat :: segs.length :: n32 (segs ++ [next])) (3 + segs.length - 1) = segs := by
    apply List.ext_getElem
    · rw [segsN_len]; omega
    · intro i g1 g2
      simp [segsN, n32, List.getD_eq_getElem?_getD, show 2 + i = i + 1 + 1 by omega, List.getElem?_append_left, g2]
  have f3 : UInt32.ofNat ((base.toNat :: segs.length :: n32 (segs ++ [next])).getD (3 + segs.length - 1) 0) = next := by
    simp [n32, List.getD_eq_getElem?_getD, show 3 + segs.length - 1 = segs.length + 1 + 1 by omega]
  rw [f1, f3, f4]
  simp
theorem decM_N {b f : List UInt8} {k e : Nat} (hF : firstF b = (f, k, e)) (h : ∀ l, B64 l → e = 0 → (numE 0 f).2.1 = 0 → (bt2 f).2.1 = 0 → (bt2 f).2.2.1 = 0 → (decV (flrF f)).2 = 0 → numsB l = (t0F f).xs → 3 ≤ l.length → rightM (manN f l) = true → encM (manN f l) = b → False) : decM b = (zeroM, 5) :=
  decM_eq (.inr ⟨rfl, rfl, fun u hu e9 => by
    have h1 := firstF_encM hu e9
    rw [hF] at h1
    injection h1 with h2 h3
    injection h3 with h4 h5
    obtain ⟨g1, g2, g3, g4, l, g5, g6, g7, g8⟩ := manN_full hu h2
    exact h l g5 h5 g1 g2 g3 g4 g6 g7 (by rw [g8]; exact hu) (by rw [g8]; exact e9)⟩)
theorem bytesE_ok {e : Int} {xs : List UInt8} (h : (bytesE e xs).2.1 = 0) : (bytesE e xs).2.2.1 = 0 := by
  unfold bytesE at h ⊢
  split
  · rename_i h1; rw [if_pos h1] at h; exact absurd h h1
  · rename_i h1
    rw [if_neg h1] at h
    split
    · rename_i h2; rw [if_pos h2] at h; simp at h
    · rfl
theorem fill_man0 (n0 n2 n4 : Int) (x0 x1 x2 x3 x4 x5 x6 x7 x8 x9 x10 x11 x12 x13 x14 x15 : Value) : fillL [(0, 1), (1, 16), (17, 1), (18, 1), (19, 1)] (mnL 0 (fun _ => 0) 0 0 0 none 0) [(0, .int .u64 n0), (1, .agg [x0, x1, x2, x3, x4, x5, x6, x7, x8, x9, x10, x11, x12, x13, x14, x15].toArray), (2, .int .u32 n2), (4, .int .u32 n4)] = [.int .u64 n0, x0, x1, x2, x3, x4, x5, x6, x7, x8, x9, x10, x11, x12, x13, x14, x15, .int .u32 n2, .slice none 0 0, .int .u32 n4] := by simp [fillL, setMany, Value.cells, mnL, cV, List.ofFn_succ]
theorem fill_man (n0 n2 n4 : Int) (v : V16) : fillL [(0, 1), (1, 16), (17, 1), (18, 1), (19, 1)] (mnL 0 (fun _ => 0) 0 0 0 none 0) [(0, .int .u64 n0), (1, .agg (cV v).toArray), (2, .int .u32 n2), (4, .int .u32 n4)] = .int .u64 n0 :: (cV v ++ [.int .u32 n2, .slice none 0 0, .int .u32 n4]) := by
  have e : cV v = [u32 (v 0), u32 (v 1), u32 (v 2), u32 (v 3), u32 (v 4), u32 (v 5), u32 (v 6), u32 (v 7), u32 (v 8), u32 (v 9), u32 (v 10), u32 (v 11), u32 (v 12), u32 (v 13), u32 (v 14), u32 (v 15)] := by simp [cV, List.ofFn_succ]
  rw [e]; exact fill_man0 _ _ _ (u32 (v 0)) (u32 (v 1)) (u32 (v 2)) (u32 (v 3)) (u32 (v 4)) (u32 (v 5)) (u32 (v 6)) (u32 (v 7)) (u32 (v 8)) (u32 (v 9)) (u32 (v 10)) (u32 (v 11)) (u32 (v 12)) (u32 (v 13)) (u32 (v 14)) (u32 (v 15))
theorem fill_manok (n0 n2 n4 : Int) (v : V16) : fillOk [(0, 1), (1, 16), (17, 1), (18, 1), (19, 1)] 20 [(0, .int .u64 n0), (1, .agg (cV v).toArray), (2, .int .u32 n2), (4, .int .u32 n4)] = true := by
  have : (Value.agg (cV v).toArray).cells.toList.length = 16 := by rw [show (Value.agg (cV v).toArray).cells = (cV v).toArray from rfl]; simp [cV_len]
  simp only [fillOk, this]; rfl
theorem r16_Decode (h0 : FH) (a : Option Addr) (c : Nat) (b : List UInt8) (w : World) (hs : Sat h0 w) (hr : BS h0 a c b) (hb : b.length ≤ 1000000) :
    Spec Tryd.prog 50 #[.slice a b.length c] w [] h0 (fun v h' L' => ∃ A, v = .tuple #[.agg (mnV (decM b).1 A).toArray, .int .i64 (decM b).2] ∧ L' = [] ∧ MnR h' (decM b).1 A) := by
  have H := St.start hs
  have hFF : ∀ w, Sat h0 w → BS h0 a c b → Spec Tryd.prog 73 #[.slice a b.length c] w [] h0 (fun v h' L' => ∃ a' c', v = .tuple #[.slice a' (firstF b).1.length c', .int .i64 (firstF b).2.1, .int .i64 (firstF b).2.2] ∧ L' = [] ∧ BS h' a' c' (firstF b).1) := fun w hs hr =>
    (r10_First h0 a c b w hs hr (by omega)).mono fun v h' L' ⟨a', c', h1, h2, h3, h4⟩ => ⟨a', c', h1, h3, by rw [h2]; exact h4⟩
  have hN := @decM_N b
  have hfl := firstF_len b
  generalize firstF b = F at hFF hN hfl
  obtain ⟨f, k, e⟩ := F
  dsimp only at hFF hN hfl
  have hN := hN rfl
  have l1 := numE_len 0 f
  have l2 := bytesE_len (numE 0 f).2.2.1 (numE 0 f).2.2.2
  have l3 : (bytesE (numE 0 f).2.2.1 (numE 0 f).2.2.2).2.2.2.length ≤ f.length := by
    unfold bytesE
    split
    · dsimp only
      exact Nat.le_trans (numE_len _ _) l1
    · split
      · dsimp only
        exact Nat.le_trans (numE_len _ _) l1
      · dsimp only
        rw [List.length_drop]
        have := numE_len (numE 0 f).2.2.1 (numE 0 f).2.2.2
        omega
  have hNum : ∀ (h : FH) (a : Option Addr) (c : Nat) (w : World), Sat h w → BS h a c f → Spec Tryd.prog 97 #[rr a f.length c 0] w [] h (fun v h' L' => ∃ a' c', v = .tuple #[rr a' (numE 0 f).2.2.2.length c' (numE 0 f).2.2.1, .int .u64 (verF f), .int .i64 (numE 0 f).2.1] ∧ L' = [] ∧ BS h' a' c' (numE 0 f).2.2.2) := fun h a c w hs hr =>
    (r3_Num h w hs a c f 0 hr).mono fun v h' L' ⟨a', c', h1, h2, h3, h4⟩ => ⟨a', c', h1, h3, by rw [h2]; exact h4⟩
  have hByt : ∀ (h : FH) (a : Option Addr) (c : Nat) (w : World), Sat h w → BS h a c (numE 0 f).2.2.2 → Spec Tryd.prog 98 #[rr a (numE 0 f).2.2.2.length c (numE 0 f).2.2.1] w [] h (fun v h' L' => ∃ a' c' a2 c2, v = .tuple #[rr a' (t0F f).xs.length c' (bt2 f).2.2.1, .slice a2 (flrF f).length c2, .int .i64 (bt2 f).2.1] ∧ L' = [] ∧ BS h' a' c' (t0F f).xs ∧ BS h' a2 c2 (flrF f)) := fun h a c w hs hr =>
    (r3_Bytes h w hs a c _ _ hr (by omega)).mono fun v h' L' ⟨a', c', a2, c2, h1, h2, h3, h4, h5⟩ => ⟨a', c', a2, c2, h1, h3, by rw [h2]; exact h4, by rw [h2]; exact h5⟩
  replace l2 : (flrF f).length ≤ (numE 0 f).2.2.2.length := l2
  replace l3 : (t0F f).xs.length ≤ f.length := l3
  have hok2 : (bt2 f).2.1 = 0 → (bt2 f).2.2.1 = 0 := fun h => bytesE_ok h
  have hver : verF f < 18446744073709551616 := numE_lt 0 f
  have hmn : ∀ l, manN f l = ⟨UInt64.ofNat (verF f), (decV (flrF f)).1, UInt32.ofNat (l.getD 0 0), segsN l (l.length - 1), UInt32.ofNat (l.getD (l.length - 1) 0)⟩ := fun _ => rfl
  have hVD := fun h a c w hs hr => r4_Decode h a c (flrF f) w hs hr (by omega)
  generalize (numE 0 f).2.1 = g at *
  generalize (numE 0 f).2.2.1 = g2 at *
  generalize (numE 0 f).2.2.2 = fs at *
  generalize (bt2 f).2.1 = hh at *
  generalize (bt2 f).2.2.1 = hh2 at *
  generalize (t0F f).xs = xs at *
  generalize flrF f = cs at *
  generalize decV cs = D at *
  obtain ⟨V, i⟩ := D
  dsimp only at hVD hN hmn
  unfold Spec
  refine calls_of Tryd.func50 rfl Tryd.ntmps50 (by simp) ?_
  by_cases hall : e = 0 ∧ g = 0 ∧ hh = 0 ∧ i = 0
  · obtain ⟨rfl, rfl, rfl, rfl⟩ := hall
    obtain rfl : hh2 = 0 := hok2 rfl
    repeat' (first | ((first | refine WL.p rfl ?_ | refine WL.u ?_ | refine WL.g rfl rfl ?_ | refine WL.gu rfl ?_); first | (refine opk 1 rfl ?_; first | (refine ost_Sk H rfl (hFF _ H.sat hr) rfl ?_; clear H; rintro vk wk hfk Lk ⟨a1, c1, rfl, rfl, hr1⟩ hle H; simp only [List.cons_append, List.nil_append] at H) | (refine ost_Sk H rfl (hNum _ _ _ _ H.sat hr1) rfl ?_; clear H; rintro vk wk hfk Lk ⟨a2, c2, rfl, rfl, hr2⟩ hle H; simp only [List.cons_append, List.nil_append] at H) | (refine ost_Sk H rfl (hByt _ _ _ _ H.sat hr2) rfl ?_; clear H; rintro vk wk hfk Lk ⟨a3, c3, a4, c4, rfl, rfl, hr3, hr4⟩ hle H; simp only [List.cons_append, List.nil_append] at H) | (refine ost_V H rfl (hVD _ _ _ _ H.sat hr4) rfl ?_; clear H; intro wk H) | (refine ost_Sk H rfl (r16_nums _ _ _ _ _ _ H.sat hr3 (by omega)) rfl ?_; clear H; rintro vk wk hfk Lk ⟨l, ok, a5, c5, hTR, rfl, rfl, hL⟩ hle H; simp only [List.cons_append, List.nil_append] at H)) | refine pvQ ?_ | (refine opk 3 rfl ?_; first | (refine ost_cmp rfl rfl rfl rfl (fun hc => ?_) (fun hc => ?_) <;> (simp only [cmpP] at hc; try exact prIQ)) | (refine ost_streqB rfl rfl rfl (fun hc => ?_) (fun hc => ?_) <;> try exact prEQ) | (refine ost_strneB rfl rfl rfl (fun hc => ?_) (fun hc => ?_) <;> try exact prEQ) | (refine ost_streq rfl rfl rfl (fun hc => ?_) (fun hc => ?_) <;> try exact absurd rfl hc) | (refine ost_strne rfl rfl rfl (fun hc => ?_) (fun hc => ?_))) | (refine opk 4 rfl ?_; (refine ost_cmp rfl rfl rfl rfl (fun hc => ?_) (fun hc => ?_) <;> (simp only [cmpP] at hc; try exact prIQ))) | (refine opk 8 rfl ?_; first | (refine ost_store1 H rfl rfl vlQ gvQ ixQ (by first | decide | (simp; omega) | (simp; done) | omega) ?_; clear H; intro wk H; simp only [List.set_cons_zero, List.set_cons_succ, Nat.reduceAdd] at H) | (refine ost_storeW H rfl rfl rfl rfl lQ ixQ lQ okQ ?_; clear H; intro wk H; simp only [List.set_cons_zero, List.set_cons_succ, Nat.reduceAdd] at H)) | (refine opk 9 rfl ?_; first | (refine ost_allocA H rfl ?_; clear H; intro bk wk H) | (refine ost_build1 H rfl rfl rfl evQ lsQ rfl ?_; clear H; intro bk wk H))) | refine Wc.seq ?_ | refine then_n ?_ | refine WL.nil ?_ | refine Wc.region ?_ | refine Wc.block ?_ | refine then_r ?_ | refine then_e ?_ | refine inb_e rfl ?_ | refine inb_o rfl ?_ | refine inb_n ?_ | refine inb_r ?_ | refine Wc.skip ?_ | refine Wc.exit ?_ | refine Wc.ret ?_ | refine Wc.cond_true rfl ?_ | refine Wc.cond_false rfl ?_ | (refine Wc.drawn (id := 15) 9 (by kernel_rfl) ?_) | refine WL.skp rfl rfl ?_ | refine WL.sku rfl ?_ | (refine rgs_nil ?_; intro vs wk hE; replace H := H.ext hE; clear hE) | refine RGs.skp (fun _ => rfl) rfl ?_ | (refine RGs.bq (fun _ => rfl) rfl (by intro vs w hE hP; have H := H.ext hE; first | exact dbQ | fail) (fun hc => ?_) (fun hc => ?_) <;> ((try simp only [cmpP, decide_eq_true_eq, decide_eq_false_iff_not, dcd_iff, dcd_no] at hc); try exact prDQ)) | refine RGs.pq (fun _ => rfl) rfl (by intro vs w hE hP; have H := H.ext hE; first | exact dvQ | fail) ?_)
    obtain ⟨bv, ebv⟩ := H.nameB idx0
    subst ebv
    obtain ⟨br, ebr⟩ := H.nameB idx1
    subst ebr
    obtain ⟨b2, eb2⟩ := H.nameB idx2
    subst eb2
    have hTR := hTR rfl
    have hrz : BS hfk a c b := hr.mono (H.le hs)
    replace H : St w [] h0 hfk [.blk bv (.cells (cV V).toArray 65 (0, 0)), .blk br (.cells [Value.slice a3 xs.length c3, .int .i64 0].toArray 162 (0, 0)), .blk b2 (.cells (mnL 0 (fun _ => 0) 0 0 0 none 0).toArray 93 (0, 0))] wk := H
    have lz2 := mnL_len 0 (fun _ => 0) 0 0 0 none 0
    have lV := cV_len V
    cases ok with
    | false =>
      have hz : decM b = (zeroM, 5) := hN fun l' h1 _ _ _ _ _ h2 _ _ _ => by
        rcases hTR with ⟨h3, _⟩ | ⟨_, _, h3⟩
        · cases h3
        · exact h3 l' h1 h2
      repeat' (first | ((first | refine WL.p rfl ?_ | refine WL.u ?_ | refine WL.g rfl rfl ?_ | refine WL.gu rfl ?_); first | refine pvQ ?_ | (refine opk 3 rfl ?_; first | (refine ost_cmp rfl rfl rfl rfl (fun hc => ?_) (fun hc => ?_) <;> (simp only [cmpP] at hc; try exact prIQ)) | (refine ost_streqB rfl rfl rfl (fun hc => ?_) (fun hc => ?_) <;> try exact prEQ) | (refine ost_strneB rfl rfl rfl (fun hc => ?_) (fun hc => ?_) <;> try exact prEQ) | (refine ost_streq rfl rfl rfl (fun hc => ?_) (fun hc => ?_) <;> try exact absurd rfl hc) | (refine ost_strne rfl rfl rfl (fun hc => ?_) (fun hc => ?_))) | (refine opk 4 rfl ?_; (refine ost_cmp rfl rfl rfl rfl (fun hc => ?_) (fun hc => ?_) <;> (simp only [cmpP] at hc; try exact prIQ))) | (refine opk 8 rfl ?_; first | (refine ost_store1 H rfl rfl vlQ gvQ ixQ (by first | decide | (simp; omega) | (simp; done) | omega) ?_; clear H; intro wk H; simp only [List.set_cons_zero, List.set_cons_succ, Nat.reduceAdd] at H) | (refine ost_storeW H rfl rfl rfl rfl lQ ixQ lQ okQ ?_; clear H; intro wk H; simp only [List.set_cons_zero, List.set_cons_succ, Nat.reduceAdd] at H)) | (refine opk 9 rfl ?_; first | (refine ost_allocA H rfl ?_; clear H; intro bk wk H) | (refine ost_build1 H rfl rfl rfl evQ lsQ rfl ?_; clear H; intro bk wk H))) | refine Wc.seq ?_ | refine then_n ?_ | refine WL.nil ?_ | refine Wc.region ?_ | refine Wc.block ?_ | refine then_r ?_ | refine then_e ?_ | refine inb_e rfl ?_ | refine inb_o rfl ?_ | refine inb_n ?_ | refine inb_r ?_ | refine Wc.skip ?_ | refine Wc.exit ?_ | refine Wc.ret ?_ | refine Wc.cond_true rfl ?_ | refine Wc.cond_false rfl ?_ | (refine Wc.drawn (id := 15) 9 (by kernel_rfl) ?_) | refine WL.skp rfl rfl ?_ | refine WL.sku rfl ?_ | (refine rgs_nil ?_; intro vs wk hE; replace H := H.ext hE; clear hE) | refine RGs.skp (fun _ => rfl) rfl ?_ | (refine RGs.bq (fun _ => rfl) rfl (by intro vs w hE hP; have H := H.ext hE; first | exact dbQ | fail) (fun hc => ?_) (fun hc => ?_) <;> ((try simp only [cmpP, decide_eq_true_eq, decide_eq_false_iff_not, dcd_iff, dcd_no] at hc); try exact prDQ)) | refine RGs.pq (fun _ => rfl) rfl (by intro vs w hE hP; have H := H.ext hE; first | exact dvQ | fail) ?_)
      all_goals first | (exfalso; omega) | exact fn_ret2 (v2 := .int _ _) rfl (rv_cellA rfl rfl H.bI lQ) rfl ⟨_, _, H.pick0, zeroMA, by rw [hz]; rfl, rfl, by rw [hz]; exact zeroM_R _⟩
    | true =>
      obtain ⟨hl1, hl2⟩ : numsB l = xs ∧ B64 l := by
        rcases hTR with ⟨_, h1, h2⟩ | ⟨h3, _⟩
        · exact ⟨h1, h2⟩
        · cases h3
      have hlm : (l.map nV).length = l.length := List.length_map ..
      have hllm : l.length ≤ 1000000 := by
        have h1 := numsB_ge l
        rw [hl1] at h1; omega
      have hz : (3 ≤ l.length → rightM (manN f l) = true → encM (manN f l) = b → False) → decM b = (zeroM, 5) := fun hn => hN fun l' h1 _ _ _ _ _ h2 h3 h4 h5 => by
        have e9 := numsB_inj h1 hl2 (h2.trans hl1.symm)
        subst e9
        exact hn h3 h4 h5
      clear hN hTR
      by_cases hl3 : 3 ≤ l.length
      · have hok : rightM (manN f l) = true → encM (manN f l) = b → decM b = (manN f l, 0) := fun h1 h2 => decM_eq (.inl ⟨rfl, h1, h2⟩)
        have hz := fun (hn : rightM (manN f l) = true → encM (manN f l) = b → False) => hz fun _ => hn
        rw [hmn] at hz hok
        obtain ⟨bl, off, ll, T, fr, e1, ebl, eg⟩ := hL.getM (by decide) (show 0 < l.length by omega)
        subst e1
        have hget : ∀ i (q : Int), i < l.length → q.toNat = i → ll[off + q.toNat * 1]? = some (.int .u64 (l.getD i 0 : Nat)) := fun i q hi hq => by
          subst hq
          have := row_cell (eg q.toNat q.toNat hi rfl) (q := 0) (by simp [nV])
          rw [Nat.add_zero] at this
          rw [this]; simp [nV, List.getD_eq_getElem?_getD, List.getElem?_eq_getElem hi]
        have hlt9 : ∀ i, l.getD i 0 < 18446744073709551616 := fun i => by
          rw [List.getD_eq_getElem?_getD]
          by_cases hi : i < l.length
          · rw [List.getElem?_eq_getElem hi]; exact hl2 _ (List.getElem_mem hi)
          · rw [List.getElem?_eq_none (by omega)]; exact by decide
        rw [hlm]
        have g0 := hget 0 0 (by omega) rfl
        have g9 := hget (l.length - 1) ((l.length : Int) - 1) (by omega) (by omega)
        have t0 := hlt9 0; have t9 := hlt9 (l.length - 1)
        generalize hx0 : l.getD 0 0 = x0 at g0 t0 hz hok
        generalize hx9 : l.getD (l.length - 1) 0 = x9 at g9 t9 hz hok
        repeat' (first | ((first | refine WL.p rfl ?_ | refine WL.u ?_ | refine WL.g rfl rfl ?_ | refine WL.gu rfl ?_); first | refine pvQ ?_ | (refine opk 3 rfl ?_; first | (refine ost_cmp rfl rfl rfl rfl (fun hc => ?_) (fun hc => ?_) <;> (simp only [cmpP] at hc; try exact prIQ)) | (refine ost_streqB rfl rfl rfl (fun hc => ?_) (fun hc => ?_) <;> try exact prEQ) | (refine ost_strneB rfl rfl rfl (fun hc => ?_) (fun hc => ?_) <;> try exact prEQ) | (refine ost_streq rfl rfl rfl (fun hc => ?_) (fun hc => ?_) <;> try exact absurd rfl hc) | (refine ost_strne rfl rfl rfl (fun hc => ?_) (fun hc => ?_))) | (refine opk 4 rfl ?_; (refine ost_cmp rfl rfl rfl rfl (fun hc => ?_) (fun hc => ?_) <;> (simp only [cmpP] at hc; try exact prIQ))) | (refine opk 8 rfl ?_; first | (refine ost_store1 H rfl rfl vlQ gvQ ixQ (by first | decide | (simp; omega) | (simp; done) | omega) ?_; clear H; intro wk H; simp only [List.set_cons_zero, List.set_cons_succ, Nat.reduceAdd] at H) | (refine ost_storeW H rfl rfl rfl rfl lQ ixQ lQ okQ ?_; clear H; intro wk H; simp only [List.set_cons_zero, List.set_cons_succ, Nat.reduceAdd] at H)) | (refine opk 9 rfl ?_; first | (refine ost_allocA H rfl ?_; clear H; intro bk wk H) | (refine ost_build1 H rfl rfl rfl evQ lsQ rfl ?_; clear H; intro bk wk H))) | refine Wc.seq ?_ | refine then_n ?_ | refine WL.nil ?_ | refine Wc.region ?_ | refine Wc.block ?_ | refine then_r ?_ | refine then_e ?_ | refine inb_e rfl ?_ | refine inb_o rfl ?_ | refine inb_n ?_ | refine inb_r ?_ | refine Wc.skip ?_ | refine Wc.exit ?_ | refine Wc.ret ?_ | refine Wc.cond_true rfl ?_ | refine Wc.cond_false rfl ?_ | (refine Wc.drawn (id := 15) 9 (by kernel_rfl) ?_) | refine WL.skp rfl rfl ?_ | refine WL.sku rfl ?_ | (refine rgs_nil ?_; intro vs wk hE; replace H := H.ext hE; clear hE) | refine RGs.skp (fun _ => rfl) rfl ?_ | (refine RGs.bq (fun _ => rfl) rfl (by intro vs w hE hP; have H := H.ext hE; first | exact dbQ | fail) (fun hc => ?_) (fun hc => ?_) <;> ((try simp only [cmpP, decide_eq_true_eq, decide_eq_false_iff_not, dcd_iff, dcd_no] at hc); try exact prDQ)) | refine RGs.pq (fun _ => rfl) rfl (by intro vs w hE hP; have H := H.ext hE; first | (refine opk 9 rfl ?_; (refine ost_buildS rfl (evP_cons (rfl : _ = Value.int .u64 _) (evP_cons (rfl : _ = Value.agg _) (evP_cons (rfl : _ = Value.int .u32 _) (evP_cons (rfl : _ = Value.int .u32 _) evP_nil)))) (fill_manok _ _ _ V) (fill_man _ _ _ V) ?_; exact ⟨Fr.refl _ _, rfl⟩)) | exact dvQ | fail) ?_ | (refine Wc.drawM (id := 8) 15 [(14, [], fun v L' => ∃ b, v = pt b ∧ L' = [.blk b (.cells (mnL 0 (fun _ => 0) 0 0 0 none 0).toArray 93 (0, 0))])] [.blk _ _, .blk _ _, .blk _ _] [14] H (by kernel_rfl) rfl (by kernel_rfl) (by simp only [inpL, List.nil_append, List.cons_append, List.append_nil]; first | exact List.Perm.refl _ | exact List.Perm.swap _ _ _ | exact (List.Perm.swap _ _ _).trans ((List.Perm.swap _ _ _).cons _) | exact ((List.Perm.swap _ _ _).cons _) | exact ((List.Perm.swap _ _ _).cons _).trans (List.Perm.swap _ _ _)) ?_) | (refine rgm_nil ?_; intro vs wk outs HM hR; obtain ⟨v14, ⟨b14, e14, o14⟩, h14⟩ := hR 14 _ rfl; have hv14 : vs (0 + 1 + 1 + 1 + 1 + 1 + 1 + 1 + 1 + 1 + 1 + 1 + 1 + 1 + 1) = _ := (h14 (by kernel_rfl)).trans e14; simp only [outsL, o14, List.cons_append, List.nil_append, List.append_nil] at HM; (try dsimp only); rw [hv14]; replace H := HM; clear HM hR) | refine RGm.skp (fun _ => rfl) rfl ?_ | (refine RGm.bq (fun _ => rfl) rfl (by intro vs w TT hP H; simp only [List.cons_append, List.nil_append] at H; first | exact dbQ | fail) (fun hc => ?_) (fun hc => ?_) <;> ((try simp only [cmpP, decide_eq_true_eq, decide_eq_false_iff_not, dcd_iff, dcd_no] at hc); try exact prDQ)) | refine RGm.pq (fun _ => rfl) rfl (by intro vs w TT hP H; simp only [List.cons_append, List.nil_append] at H; first | (refine opk 9 rfl ?_; (refine ost_buildS rfl (evP_cons (rfl : _ = Value.int .u64 _) (evP_cons (rfl : _ = Value.agg _) (evP_cons (rfl : _ = Value.int .u32 _) (evP_cons (rfl : _ = Value.int .u32 _) evP_nil)))) (fill_manok _ _ _ V) (fill_man _ _ _ V) ?_; exact ⟨Fr.refl _ _, rfl⟩)) | exact dvQ | fail) ?_ | refine RGm.mq (fun _ => rfl) rfl (by intro vs w TT hP H; simp only [List.cons_append, List.nil_append] at H; first | (refine ost_allocA H rfl ?_; intro bk wk H2; exact ⟨[_], ⟨_, rfl, rfl⟩, H2⟩) | fail) ?_ | refine RGm.mu rfl (by intro vs w TT hP H; simp only [List.cons_append, List.nil_append] at H; first | (refine ost_allocA H rfl ?_; intro bk wk H2; exact ⟨[_], ⟨_, rfl, rfl⟩, H2⟩) | fail) ?_)
        have hme : Value.int .u64 ((verF f : Nat) : Int) :: (cV V ++ [Value.int .u32 (IntKind.u32.wrap (x0 : Nat)), Value.slice none 0 0, Value.int .u32 (IntKind.u32.wrap (x9 : Nat))]) = mnL (UInt64.ofNat (verF f)) V (UInt32.ofNat x0) 0 (UInt32.ofNat x9) none 0 := by
          unfold mnL
          rw [u32_wrap2, u32_wrap2, UInt64.toNat_ofNat', Nat.mod_eq_of_lt hver]
        rw [hme] at H
        have lz := fun n a c => mnL_len (UInt64.ofNat (verF f)) V (UInt32.ofNat x0) n (UInt32.ofNat x9) a c
        have lz1 := lz 0 none 0
        clear g0 g9 hme
        replace H : St w [] h0 hfk [ownR (.slice none ((segsN l 2).map cKid).length 0) 28 1 ((segsN l 2).map cKid), .blk bv (.cells (cV V).toArray 65 (0, 0)), .blk br (.cells [Value.slice a3 xs.length c3, .int .i64 0].toArray 162 (0, 0)), .blk b2 (.cells (mnL 0 (fun _ => 0) 0 0 0 none 0).toArray 93 (0, 0)), .blk b14 (.cells (mnL (UInt64.ofNat (verF f)) V (UInt32.ofNat x0) 0 (UInt32.ofNat x9) none 0).toArray 93 (0, 0))] wk := H.nilOwn 28 1
        refine Wc.loopE (fun s0 m s w' => ∃ (k : Nat) (ak : Option Addr) (ck : Nat), m = l.length - k ∧ 2 ≤ k ∧ k ≤ l.length - 1 ∧ Agree [17, 18, 86, 87, 88, 89, 90, 91, 92, 93, 94, 95, 96, 97, 98, 99, 100] s s0 ∧ s 18 = .int .i64 k ∧ s 17 = .slice ak ((segsN l k).map cKid).length ck ∧
          St w [] h0 hfk [ownR (.slice ak ((segsN l k).map cKid).length ck) 28 1 ((segsN l k).map cKid), .blk bv (.cells (cV V).toArray 65 (0, 0)), .blk br (.cells [Value.slice a3 xs.length c3, .int .i64 0].toArray 162 (0, 0)), .blk b2 (.cells (mnL 0 (fun _ => 0) 0 0 0 none 0).toArray 93 (0, 0)), .blk b14 (.cells (mnL (UInt64.ofNat (verF f)) V (UInt32.ofNat x0) 0 (UInt32.ofNat x9) none 0).toArray 93 (0, 0))] w') (l.length - 2) ⟨2, none, 0, rfl, Nat.le_refl _, by omega, Agree.refl _ _, rfl, rfl, H⟩ ?_
        clear H
        rintro m s w' ⟨k9, ak, ck, rfl, hk2, hk9, hA9, e1, e2, H⟩
        obtain ⟨j, rfl⟩ := hA9.env2 e1 e2
        clear hA9 e1 e2
        have hLl : ((segsN l k9).map cKid).length = k9 - 2 := by rw [List.length_map, segsN_len]
        by_cases hlt : k9 < l.length - 1
        · have gk := hget k9 (k9 : Int) (by omega) rfl
          have hL1 := segsN_succ l hk2
          have tk := hlt9 k9
          generalize l.getD k9 0 = y at gk hL1 tk
          have hLr : (segsN l (k9 + 1)).map cKid = (segsN l k9).map cKid ++ [[Value.int .u32 (IntKind.u32.wrap (y : Nat))]] := by rw [hL1, List.map_append]; simp only [u32_wrap2]; rfl
          have hrl := rows_len1 (segsN l k9)
          clear hL1
          generalize (segsN l k9).map cKid = LS at H hLr hLl hrl ⊢
          repeat' (first | ((first | refine WL.p rfl ?_ | refine WL.u ?_ | refine WL.g rfl rfl ?_ | refine WL.gu rfl ?_); first | (refine opk 1 rfl ?_; (refine ost_appR (rows := LS) (row := [Value.int .u32 (IntKind.u32.wrap (y : Nat))]) H rfl rfl rfl (by (exact ixQ)) (by (exact ixQ)) (by rfl) (by first | simp; done | exact Nat.succ_pos _) rfl (allOne_of rfl) rfl (by omega) ?_; clear H; intro aa ca wk H; simp only [List.set_cons_zero, List.set_cons_succ] at H)) | (refine opk 9 rfl ?_; (refine ost_buildR (rows := [[Value.int .u32 (IntKind.u32.wrap (y : Nat))]]) H rfl (by decide) rfl (by rfl) (evP1 vxQ) (.cons rfl .nil) rfl (fun r hr => by rw [List.mem_singleton.1 hr]; rfl) ?_; clear H; intro bk wk H)) | refine pvQ ?_ | (refine opk 3 rfl ?_; first | (refine ost_cmp rfl rfl rfl rfl (fun hc => ?_) (fun hc => ?_) <;> (simp only [cmpP] at hc; try exact prIQ)) | (refine ost_streqB rfl rfl rfl (fun hc => ?_) (fun hc => ?_) <;> try exact prEQ) | (refine ost_strneB rfl rfl rfl (fun hc => ?_) (fun hc => ?_) <;> try exact prEQ) | (refine ost_streq rfl rfl rfl (fun hc => ?_) (fun hc => ?_) <;> try exact absurd rfl hc) | (refine ost_strne rfl rfl rfl (fun hc => ?_) (fun hc => ?_))) | (refine opk 4 rfl ?_; (refine ost_cmp rfl rfl rfl rfl (fun hc => ?_) (fun hc => ?_) <;> (simp only [cmpP] at hc; try exact prIQ))) | (refine opk 8 rfl ?_; first | (refine ost_store1 H rfl rfl vlQ gvQ ixQ (by first | decide | (simp; omega) | (simp; done) | omega) ?_; clear H; intro wk H; simp only [List.set_cons_zero, List.set_cons_succ, Nat.reduceAdd] at H) | (refine ost_storeW H rfl rfl rfl rfl lQ ixQ lQ okQ ?_; clear H; intro wk H; simp only [List.set_cons_zero, List.set_cons_succ, Nat.reduceAdd] at H)) | (refine opk 9 rfl ?_; first | (refine ost_allocA H rfl ?_; clear H; intro bk wk H) | (refine ost_build1 H rfl rfl rfl evQ lsQ rfl ?_; clear H; intro bk wk H))) | refine Wc.seq ?_ | refine then_n ?_ | refine WL.nil ?_ | refine Wc.region ?_ | refine Wc.block ?_ | refine then_r ?_ | refine then_e ?_ | refine inb_e rfl ?_ | refine inb_o rfl ?_ | refine inb_n ?_ | refine inb_r ?_ | refine Wc.skip ?_ | refine Wc.exit ?_ | refine Wc.ret ?_ | refine Wc.cond_true rfl ?_ | refine Wc.cond_false rfl ?_ | (refine Wc.drawn (id := 8) 15 (by kernel_rfl) ?_) | (refine Wc.drawn (id := 15) 9 (by kernel_rfl) ?_) | refine WL.skp rfl rfl ?_ | refine WL.sku rfl ?_ | (refine rgs_nil ?_; intro vs wk hE; replace H := H.ext hE; clear hE) | refine RGs.skp (fun _ => rfl) rfl ?_ | (refine RGs.bq (fun _ => rfl) rfl (by intro vs w hE hP; have H := H.ext hE; first | exact dbQ | fail) (fun hc => ?_) (fun hc => ?_) <;> ((try simp only [cmpP, decide_eq_true_eq, decide_eq_false_iff_not, dcd_iff, dcd_no] at hc); try exact prDQ)) | refine RGs.pq (fun _ => rfl) rfl (by intro vs w hE hP; have H := H.ext hE; first | exact dvQ | fail) ?_)
          rw [← hLr] at H
          exact ⟨l.length - (k9 + 1), by omega, k9 + 1, _, _, rfl, by omega, by omega, by (repeat' (first | exact Agree.refl _ _ | exact Agree.havoc | refine Agree.upd rfl ?_ | refine Agree.hav2 rfl ?_)), rfl, by rw [hLr]; rfl, H.picks [1, 2, 3, 4, 5] rfl (by decide)⟩
        · obtain rfl : k9 = l.length - 1 := by omega
          obtain ⟨ak7, ck7, h7, e7, hle7, hK7, H9⟩ := H.freezeR (rows_len1 (segsN l (l.length - 1)))
          injection e7 with e71 e72 e73
          subst e71; subst e73
          clear H
          have H := H9
          clear H9
          have hrb := hrz.mono hle7
          have ebl := hle7 _ _ ebl
          repeat' (first | ((first | refine WL.p rfl ?_ | refine WL.u ?_ | refine WL.g rfl rfl ?_ | refine WL.gu rfl ?_); first | refine pvQ ?_ | (refine opk 3 rfl ?_; first | (refine ost_cmp rfl rfl rfl rfl (fun hc => ?_) (fun hc => ?_) <;> (simp only [cmpP] at hc; try exact prIQ)) | (refine ost_streqB rfl rfl rfl (fun hc => ?_) (fun hc => ?_) <;> try exact prEQ) | (refine ost_strneB rfl rfl rfl (fun hc => ?_) (fun hc => ?_) <;> try exact prEQ) | (refine ost_streq rfl rfl rfl (fun hc => ?_) (fun hc => ?_) <;> try exact absurd rfl hc) | (refine ost_strne rfl rfl rfl (fun hc => ?_) (fun hc => ?_))) | (refine opk 4 rfl ?_; (refine ost_cmp rfl rfl rfl rfl (fun hc => ?_) (fun hc => ?_) <;> (simp only [cmpP] at hc; try exact prIQ))) | (refine opk 8 rfl ?_; first | (refine ost_store1 H rfl rfl vlQ gvQ ixQ (by first | decide | (simp; omega) | (simp; done) | omega) ?_; clear H; intro wk H; simp only [List.set_cons_zero, List.set_cons_succ, Nat.reduceAdd] at H) | (refine ost_storeW H rfl rfl rfl rfl lQ ixQ lQ okQ ?_; clear H; intro wk H; simp only [List.set_cons_zero, List.set_cons_succ, Nat.reduceAdd] at H)) | (refine opk 9 rfl ?_; first | (refine ost_allocA H rfl ?_; clear H; intro bk wk H) | (refine ost_build1 H rfl rfl rfl evQ lsQ rfl ?_; clear H; intro bk wk H))) | refine Wc.seq ?_ | refine then_n ?_ | refine WL.nil ?_ | refine Wc.region ?_ | refine Wc.block ?_ | refine then_r ?_ | refine then_e ?_ | refine inb_e rfl ?_ | refine inb_o rfl ?_ | refine inb_n ?_ | refine inb_r ?_ | refine Wc.skip ?_ | refine Wc.exit ?_ | refine Wc.ret ?_ | refine Wc.cond_true rfl ?_ | refine Wc.cond_false rfl ?_ | (refine Wc.drawn (id := 8) 15 (by kernel_rfl) ?_) | refine WL.skp rfl rfl ?_ | refine WL.sku rfl ?_ | (refine rgs_nil ?_; intro vs wk hE; replace H := H.ext hE; clear hE) | refine RGs.skp (fun _ => rfl) rfl ?_ | (refine RGs.bq (fun _ => rfl) rfl (by intro vs w hE hP; have H := H.ext hE; first | exact dbQ | fail) (fun hc => ?_) (fun hc => ?_) <;> ((try simp only [cmpP, decide_eq_true_eq, decide_eq_false_iff_not, dcd_iff, dcd_no] at hc); try exact prDQ)) | refine RGs.pq (fun _ => rfl) rfl (by intro vs w hE hP; have H := H.ext hE; first | exact dvQ | fail) ?_)
          rw [mnL_set18] at H
          simp only [List.length_map] at H
          have hMn : MnR h7 ⟨UInt64.ofNat (verF f), V, UInt32.ofNat x0, segsN l (l.length - 1), UInt32.ofNat x9⟩ ⟨ak, ck⟩ := hK7
          have hRR := r16_Right ⟨UInt64.ofNat (verF f), V, UInt32.ofNat x0, segsN l (l.length - 1), UInt32.ofNat x9⟩ ⟨ak, ck⟩
          have hB := fun h w hs hP hr => r16_bytes ⟨UInt64.ofNat (verF f), V, UInt32.ofNat x0, segsN l (l.length - 1), UInt32.ofNat x9⟩ ⟨ak, ck⟩ h w hs hP hr
          replace H : St w [] h0 h7 [.blk bv (.cells (cV V).toArray 65 (0, 0)), .blk br (.cells [Value.slice a3 xs.length c3, .int .i64 0].toArray 162 (0, 0)), .blk b2 (.cells (mnL 0 (fun _ => 0) 0 0 0 none 0).toArray 93 (0, 0)), .blk b14 (.cells (mnV ⟨UInt64.ofNat (verF f), V, UInt32.ofNat x0, segsN l (l.length - 1), UInt32.ofNat x9⟩ ⟨ak, ck⟩).toArray 93 (0, 0))] _ := H
          have lp := mnV_len ⟨UInt64.ofNat (verF f), V, UInt32.ofNat x0, segsN l (l.length - 1), UInt32.ofNat x9⟩ ⟨ak, ck⟩
          generalize (⟨UInt64.ofNat (verF f), V, UInt32.ofNat x0, segsN l (l.length - 1), UInt32.ofNat x9⟩ : ManT) = p at hMn hRR hB lp hz hok H
          cases hrp : rightM p with
          | false =>
            rw [hrp] at hRR
            have hz := hz fun h => by rw [hrp] at h; cases h
            repeat' (first | ((first | refine WL.p rfl ?_ | refine WL.u ?_ | refine WL.g rfl rfl ?_ | refine WL.gu rfl ?_); first | refine pvQ ?_ | (refine opk 3 rfl ?_; first | (refine ost_cmp rfl rfl rfl rfl (fun hc => ?_) (fun hc => ?_) <;> (simp only [cmpP] at hc; try exact prIQ)) | (refine ost_streqB rfl rfl rfl (fun hc => ?_) (fun hc => ?_) <;> try exact prEQ) | (refine ost_strneB rfl rfl rfl (fun hc => ?_) (fun hc => ?_) <;> try exact prEQ) | (refine ost_streq rfl rfl rfl (fun hc => ?_) (fun hc => ?_) <;> try exact absurd rfl hc) | (refine ost_strne rfl rfl rfl (fun hc => ?_) (fun hc => ?_))) | (refine opk 4 rfl ?_; (refine ost_cmp rfl rfl rfl rfl (fun hc => ?_) (fun hc => ?_) <;> (simp only [cmpP] at hc; try exact prIQ))) | (refine opk 8 rfl ?_; first | (refine ost_store1 H rfl rfl vlQ gvQ ixQ (by first | decide | (simp; omega) | (simp; done) | omega) ?_; clear H; intro wk H; simp only [List.set_cons_zero, List.set_cons_succ, Nat.reduceAdd] at H) | (refine ost_storeW H rfl rfl rfl rfl lQ ixQ lQ okQ ?_; clear H; intro wk H; simp only [List.set_cons_zero, List.set_cons_succ, Nat.reduceAdd] at H)) | (refine opk 9 rfl ?_; first | (refine ost_allocA H rfl ?_; clear H; intro bk wk H) | (refine ost_build1 H rfl rfl rfl evQ lsQ rfl ?_; clear H; intro bk wk H))) | refine Wc.seq ?_ | refine then_n ?_ | refine WL.nil ?_ | refine Wc.region ?_ | refine Wc.block ?_ | refine then_r ?_ | refine then_e ?_ | refine inb_e rfl ?_ | refine inb_o rfl ?_ | refine inb_n ?_ | refine inb_r ?_ | refine Wc.skip ?_ | refine Wc.exit ?_ | refine Wc.ret ?_ | refine Wc.cond_true rfl ?_ | refine Wc.cond_false rfl ?_ | (refine Wc.drawn (id := 8) 15 (by kernel_rfl) ?_) | (refine Wc.drawn (id := 15) 9 (by kernel_rfl) ?_) | refine WL.skp rfl rfl ?_ | refine WL.sku rfl ?_ | (refine rgs_nil ?_; intro vs wk hE; replace H := H.ext hE; clear hE) | refine RGs.skp (fun _ => rfl) rfl ?_ | (refine RGs.bq (fun _ => rfl) rfl (by intro vs w hE hP; have H := H.ext hE; first | exact dbQ | fail) (fun hc => ?_) (fun hc => ?_) <;> ((try simp only [cmpP, decide_eq_true_eq, decide_eq_false_iff_not, dcd_iff, dcd_no] at hc); try exact prDQ)) | refine RGs.pq (fun _ => rfl) rfl (by intro vs w hE hP; have H := H.ext hE; first | (refine opk 1 rfl ?_; (exact ost_V0d rfl (hRR _ _ (sat_full _) (hMn.full H)) rfl)) | exact dvQ | fail) ?_)
            all_goals first | (exfalso; omega) | exact fn_ret2 (v2 := .int _ _) rfl (rv_cellA rfl rfl H.bI lQ) rfl ⟨_, _, H.pick0, zeroMA, by rw [hz]; rfl, rfl, by rw [hz]; exact zeroM_R _⟩
          | true =>
            rw [hrp] at hRR
            have hB := fun h w hs hP => hB h w hs hP hrp
            by_cases hcb : encM p = b
            · have hD := hok hrp hcb
              repeat' (first | ((first | refine WL.p rfl ?_ | refine WL.u ?_ | refine WL.g rfl rfl ?_ | refine WL.gu rfl ?_); first | refine pvQ ?_ | (refine opk 3 rfl ?_; first | (refine ost_cmp rfl rfl rfl rfl (fun hc => ?_) (fun hc => ?_) <;> (simp only [cmpP] at hc; try exact prIQ)) | (refine ost_streqB rfl rfl rfl (fun hc => ?_) (fun hc => ?_) <;> try exact prEQ) | (refine ost_strneB rfl rfl rfl (fun hc => ?_) (fun hc => ?_) <;> try exact prEQ) | (refine ost_streq rfl rfl rfl (fun hc => ?_) (fun hc => ?_) <;> try exact absurd rfl hc) | (refine ost_strne rfl rfl rfl (fun hc => ?_) (fun hc => ?_))) | (refine opk 4 rfl ?_; (refine ost_cmp rfl rfl rfl rfl (fun hc => ?_) (fun hc => ?_) <;> (simp only [cmpP] at hc; try exact prIQ))) | (refine opk 8 rfl ?_; first | (refine ost_store1 H rfl rfl vlQ gvQ ixQ (by first | decide | (simp; omega) | (simp; done) | omega) ?_; clear H; intro wk H; simp only [List.set_cons_zero, List.set_cons_succ, Nat.reduceAdd] at H) | (refine ost_storeW H rfl rfl rfl rfl lQ ixQ lQ okQ ?_; clear H; intro wk H; simp only [List.set_cons_zero, List.set_cons_succ, Nat.reduceAdd] at H)) | (refine opk 9 rfl ?_; first | (refine ost_allocA H rfl ?_; clear H; intro bk wk H) | (refine ost_build1 H rfl rfl rfl evQ lsQ rfl ?_; clear H; intro bk wk H))) | refine Wc.seq ?_ | refine then_n ?_ | refine WL.nil ?_ | refine Wc.region ?_ | refine Wc.block ?_ | refine then_r ?_ | refine then_e ?_ | refine inb_e rfl ?_ | refine inb_o rfl ?_ | refine inb_n ?_ | refine inb_r ?_ | refine Wc.skip ?_ | refine Wc.exit ?_ | refine Wc.ret ?_ | refine Wc.cond_true rfl ?_ | refine Wc.cond_false rfl ?_ | (refine Wc.drawn (id := 8) 15 (by kernel_rfl) ?_) | (refine Wc.drawnB (id := 15) 9 [(5, encM p)] (by kernel_rfl) ?_) | refine WL.skp rfl rfl ?_ | refine WL.sku rfl ?_ | (refine rgs_nil ?_; intro vs wk hE; replace H := H.ext hE; clear hE) | refine RGs.skp (fun _ => rfl) rfl ?_ | (refine RGs.bq (fun _ => rfl) rfl (by intro vs w hE hP; have H := H.ext hE; first | exact dbQ | fail) (fun hc => ?_) (fun hc => ?_) <;> ((try simp only [cmpP, decide_eq_true_eq, decide_eq_false_iff_not, dcd_iff, dcd_no] at hc); try exact prDQ)) | refine RGs.pq (fun _ => rfl) rfl (by intro vs w hE hP; have H := H.ext hE; first | (refine opk 1 rfl ?_; (exact ost_V0d rfl (hRR _ _ (sat_full _) (hMn.full H)) rfl)) | (refine opk 6 rfl ?_; (refine ost_toStrN (xs := b) rfl rfl (by first | rfl | (simp; omega)) (hrb.full H) ?_; exact ⟨Fr.refl _ _, rfl⟩)) | (refine ost_toStrV rfl (pf_B hP 5 (by kernel_rfl) rfl rfl) ?_; exact ⟨Fr.refl _ _, rfl⟩) | exact dvQ | fail) ?_ | refine RGs.sq (fun _ => rfl) rfl (by intro vs w hE hP; have H := H.ext hE; first | (refine ost_B rfl (hB _ _ (sat_full _) (hMn.full H)) rfl (fun _ _ _ ⟨_, _, _, _, e⟩ => e) ?_; intro vk wk hX hB; exact ⟨hX, hB⟩) | fail) ?_)
              all_goals exact fn_ret2 (v2 := .int _ _) rfl (rv_cellA rfl rfl H.bI lQ) rfl ⟨_, _, H.pick0, ⟨ak, ck⟩, by rw [hD], rfl, by rw [hD]; exact hMn⟩
            · have hz := hz fun _ h => hcb h
              repeat' (first | ((first | refine WL.p rfl ?_ | refine WL.u ?_ | refine WL.g rfl rfl ?_ | refine WL.gu rfl ?_); first | refine pvQ ?_ | (refine opk 3 rfl ?_; first | (refine ost_cmp rfl rfl rfl rfl (fun hc => ?_) (fun hc => ?_) <;> (simp only [cmpP] at hc; try exact prIQ)) | (refine ost_streqB rfl rfl rfl (fun hc => ?_) (fun hc => ?_) <;> try exact prEQ) | (refine ost_strneB rfl rfl rfl (fun hc => ?_) (fun hc => ?_) <;> try exact prEQ) | (refine ost_streq rfl rfl rfl (fun hc => ?_) (fun hc => ?_) <;> try exact absurd rfl hc) | (refine ost_strne rfl rfl rfl (fun hc => ?_) (fun hc => ?_))) | (refine opk 4 rfl ?_; (refine ost_cmp rfl rfl rfl rfl (fun hc => ?_) (fun hc => ?_) <;> (simp only [cmpP] at hc; try exact prIQ))) | (refine opk 8 rfl ?_; first | (refine ost_store1 H rfl rfl vlQ gvQ ixQ (by first | decide | (simp; omega) | (simp; done) | omega) ?_; clear H; intro wk H; simp only [List.set_cons_zero, List.set_cons_succ, Nat.reduceAdd] at H) | (refine ost_storeW H rfl rfl rfl rfl lQ ixQ lQ okQ ?_; clear H; intro wk H; simp only [List.set_cons_zero, List.set_cons_succ, Nat.reduceAdd] at H)) | (refine opk 9 rfl ?_; first | (refine ost_allocA H rfl ?_; clear H; intro bk wk H) | (refine ost_build1 H rfl rfl rfl evQ lsQ rfl ?_; clear H; intro bk wk H))) | refine Wc.seq ?_ | refine then_n ?_ | refine WL.nil ?_ | refine Wc.region ?_ | refine Wc.block ?_ | refine then_r ?_ | refine then_e ?_ | refine inb_e rfl ?_ | refine inb_o rfl ?_ | refine inb_n ?_ | refine inb_r ?_ | refine Wc.skip ?_ | refine Wc.exit ?_ | refine Wc.ret ?_ | refine Wc.cond_true rfl ?_ | refine Wc.cond_false rfl ?_ | (refine Wc.drawn (id := 8) 15 (by kernel_rfl) ?_) | (refine Wc.drawnB (id := 15) 9 [(5, encM p)] (by kernel_rfl) ?_) | refine WL.skp rfl rfl ?_ | refine WL.sku rfl ?_ | (refine rgs_nil ?_; intro vs wk hE; replace H := H.ext hE; clear hE) | refine RGs.skp (fun _ => rfl) rfl ?_ | (refine RGs.bq (fun _ => rfl) rfl (by intro vs w hE hP; have H := H.ext hE; first | exact dbQ | fail) (fun hc => ?_) (fun hc => ?_) <;> ((try simp only [cmpP, decide_eq_true_eq, decide_eq_false_iff_not, dcd_iff, dcd_no] at hc); try exact prDQ)) | refine RGs.pq (fun _ => rfl) rfl (by intro vs w hE hP; have H := H.ext hE; first | (refine opk 1 rfl ?_; (exact ost_V0d rfl (hRR _ _ (sat_full _) (hMn.full H)) rfl)) | (refine opk 6 rfl ?_; (refine ost_toStrN (xs := b) rfl rfl (by first | rfl | (simp; omega)) (hrb.full H) ?_; exact ⟨Fr.refl _ _, rfl⟩)) | (refine ost_toStrV rfl (pf_B hP 5 (by kernel_rfl) rfl rfl) ?_; exact ⟨Fr.refl _ _, rfl⟩) | exact dvQ | fail) ?_ | refine RGs.sq (fun _ => rfl) rfl (by intro vs w hE hP; have H := H.ext hE; first | (refine ost_B rfl (hB _ _ (sat_full _) (hMn.full H)) rfl (fun _ _ _ ⟨_, _, _, _, e⟩ => e) ?_; intro vk wk hX hB; exact ⟨hX, hB⟩) | fail) ?_)
              all_goals first | (exfalso; omega) | exact fn_ret2 (v2 := .int _ _) rfl (rv_cellA rfl rfl H.bI lQ) rfl ⟨_, _, H.pick0, zeroMA, by rw [hz]; rfl, rfl, by rw [hz]; exact zeroM_R _⟩
      · have hz := hz fun h => absurd h hl3
        repeat' (first | ((first | refine WL.p rfl ?_ | refine WL.u ?_ | refine WL.g rfl rfl ?_ | refine WL.gu rfl ?_); first | refine pvQ ?_ | (refine opk 3 rfl ?_; first | (refine ost_cmp rfl rfl rfl rfl (fun hc => ?_) (fun hc => ?_) <;> (simp only [cmpP] at hc; try exact prIQ)) | (refine ost_streqB rfl rfl rfl (fun hc => ?_) (fun hc => ?_) <;> try exact prEQ) | (refine ost_strneB rfl rfl rfl (fun hc => ?_) (fun hc => ?_) <;> try exact prEQ) | (refine ost_streq rfl rfl rfl (fun hc => ?_) (fun hc => ?_) <;> try exact absurd rfl hc) | (refine ost_strne rfl rfl rfl (fun hc => ?_) (fun hc => ?_))) | (refine opk 4 rfl ?_; (refine ost_cmp rfl rfl rfl rfl (fun hc => ?_) (fun hc => ?_) <;> (simp only [cmpP] at hc; try exact prIQ))) | (refine opk 8 rfl ?_; first | (refine ost_store1 H rfl rfl vlQ gvQ ixQ (by first | decide | (simp; omega) | (simp; done) | omega) ?_; clear H; intro wk H; simp only [List.set_cons_zero, List.set_cons_succ, Nat.reduceAdd] at H) | (refine ost_storeW H rfl rfl rfl rfl lQ ixQ lQ okQ ?_; clear H; intro wk H; simp only [List.set_cons_zero, List.set_cons_succ, Nat.reduceAdd] at H)) | (refine opk 9 rfl ?_; first | (refine ost_allocA H rfl ?_; clear H; intro bk wk H) | (refine ost_build1 H rfl rfl rfl evQ lsQ rfl ?_; clear H; intro bk wk H))) | refine Wc.seq ?_ | refine then_n ?_ | refine WL.nil ?_ | refine Wc.region ?_ | refine Wc.block ?_ | refine then_r ?_ | refine then_e ?_ | refine inb_e rfl ?_ | refine inb_o rfl ?_ | refine inb_n ?_ | refine inb_r ?_ | refine Wc.skip ?_ | refine Wc.exit ?_ | refine Wc.ret ?_ | refine Wc.cond_true rfl ?_ | refine Wc.cond_false rfl ?_ | (refine Wc.drawn (id := 15) 9 (by kernel_rfl) ?_) | refine WL.skp rfl rfl ?_ | refine WL.sku rfl ?_ | (refine rgs_nil ?_; intro vs wk hE; replace H := H.ext hE; clear hE) | refine RGs.skp (fun _ => rfl) rfl ?_ | (refine RGs.bq (fun _ => rfl) rfl (by intro vs w hE hP; have H := H.ext hE; first | exact dbQ | fail) (fun hc => ?_) (fun hc => ?_) <;> ((try simp only [cmpP, decide_eq_true_eq, decide_eq_false_iff_not, dcd_iff, dcd_no] at hc); try exact prDQ)) | refine RGs.pq (fun _ => rfl) rfl (by intro vs w hE hP; have H := H.ext hE; first | exact dvQ | fail) ?_)
        all_goals first | (exfalso; omega) | exact fn_ret2 (v2 := .int _ _) rfl (rv_cellA rfl rfl H.bI lQ) rfl ⟨_, _, H.pick0, zeroMA, by rw [hz]; rfl, rfl, by rw [hz]; exact zeroM_R _⟩
  · have hz : decM b = (zeroM, 5) := hN fun l h1 h2 h3 h4 h5 h6 h7 h8 h9 h10 => hall ⟨h2, h3, h4, h6⟩
    repeat' (first | ((first | refine WL.p rfl ?_ | refine WL.u ?_ | refine WL.g rfl rfl ?_ | refine WL.gu rfl ?_); first | (refine opk 1 rfl ?_; first | (refine ost_Sk H rfl (hFF _ H.sat hr) rfl ?_; clear H; rintro vk wk hfk Lk ⟨a1, c1, rfl, rfl, hr1⟩ hle H; simp only [List.cons_append, List.nil_append] at H) | (refine ost_Sk H rfl (hNum _ _ _ _ H.sat hr1) rfl ?_; clear H; rintro vk wk hfk Lk ⟨a2, c2, rfl, rfl, hr2⟩ hle H; simp only [List.cons_append, List.nil_append] at H) | (refine ost_Sk H rfl (hByt _ _ _ _ H.sat hr2) rfl ?_; clear H; rintro vk wk hfk Lk ⟨a3, c3, a4, c4, rfl, rfl, hr3, hr4⟩ hle H; simp only [List.cons_append, List.nil_append] at H) | (refine ost_V H rfl (hVD _ _ _ _ H.sat hr4) rfl ?_; clear H; intro wk H) | (refine ost_Sk H rfl (r16_nums _ _ _ _ _ _ H.sat hr3 (by omega)) rfl ?_; clear H; rintro vk wk hfk Lk ⟨l, ok, a5, c5, hTR, rfl, rfl, hL⟩ hle H; simp only [List.cons_append, List.nil_append] at H)) | refine pvQ ?_ | (refine opk 3 rfl ?_; first | (refine ost_cmp rfl rfl rfl rfl (fun hc => ?_) (fun hc => ?_) <;> (simp only [cmpP] at hc; try exact prIQ)) | (refine ost_streqB rfl rfl rfl (fun hc => ?_) (fun hc => ?_) <;> try exact prEQ) | (refine ost_strneB rfl rfl rfl (fun hc => ?_) (fun hc => ?_) <;> try exact prEQ) | (refine ost_streq rfl rfl rfl (fun hc => ?_) (fun hc => ?_) <;> try exact absurd rfl hc) | (refine ost_strne rfl rfl rfl (fun hc => ?_) (fun hc => ?_))) | (refine opk 4 rfl ?_; (refine ost_cmp rfl rfl rfl rfl (fun hc => ?_) (fun hc => ?_) <;> (simp only [cmpP] at hc; try exact prIQ))) | (refine opk 8 rfl ?_; first | (refine ost_store1 H rfl rfl vlQ gvQ ixQ (by first | decide | (simp; omega) | (simp; done) | omega) ?_; clear H; intro wk H; simp only [List.set_cons_zero, List.set_cons_succ, Nat.reduceAdd] at H) | (refine ost_storeW H rfl rfl rfl rfl lQ ixQ lQ okQ ?_; clear H; intro wk H; simp only [List.set_cons_zero, List.set_cons_succ, Nat.reduceAdd] at H)) | (refine opk 9 rfl ?_; first | (refine ost_allocA H rfl ?_; clear H; intro bk wk H) | (refine ost_build1 H rfl rfl rfl evQ lsQ rfl ?_; clear H; intro bk wk H))) | refine Wc.seq ?_ | refine then_n ?_ | refine WL.nil ?_ | refine Wc.region ?_ | refine Wc.block ?_ | refine then_r ?_ | refine then_e ?_ | refine inb_e rfl ?_ | refine inb_o rfl ?_ | refine inb_n ?_ | refine inb_r ?_ | refine Wc.skip ?_ | refine Wc.exit ?_ | refine Wc.ret ?_ | refine Wc.cond_true rfl ?_ | refine Wc.cond_false rfl ?_ | (refine Wc.drawn (id := 15) 9 (by kernel_rfl) ?_) | refine WL.skp rfl rfl ?_ | refine WL.sku rfl ?_ | (refine rgs_nil ?_; intro vs wk hE; replace H := H.ext hE; clear hE) | refine RGs.skp (fun _ => rfl) rfl ?_ | (refine RGs.bq (fun _ => rfl) rfl (by intro vs w hE hP; have H := H.ext hE; first | exact dbQ | fail) (fun hc => ?_) (fun hc => ?_) <;> ((try simp only [cmpP, decide_eq_true_eq, decide_eq_false_iff_not, dcd_iff, dcd_no] at hc); try exact prDQ)) | refine RGs.pq (fun _ => rfl) rfl (by intro vs w hE hP; have H := H.ext hE; first | exact dvQ | fail) ?_)
    all_goals first | (exfalso; omega) | exact fn_ret2 (v2 := .int _ _) rfl (rv_cellA rfl rfl H.bI lQ) rfl ⟨_, _, H.pick0, zeroMA, by rw [hz]; rfl, rfl, by rw [hz]; exact zeroM_R _⟩
end Go.Tg

set_option linter.unusedVariables false
set_option linter.unusedSimpArgs false
set_option maxRecDepth 100000
set_option maxHeartbeats 4000000
namespace Go.Tg
open Go Go.Proofs
theorem law16_theirs (m : ManT) (A : MAd) (w : World) : SpecV Tryd.prog 47 #[.agg (mnV m A).toArray] w (.agg (mnV m A).toArray) := by
  refine specV_of fun h0 hs H => ?_
  have lm := mnV_len m A
  refine calls_of Tryd.func47 rfl Tryd.ntmps47 (by simp) ?_
  repeat' (first | ((first | refine WL.p rfl ?_ | refine WL.u ?_); first | (refine opk 8 rfl ?_; (refine ost_storeW (vs := mnV m A) H rfl rfl rfl rfl (mnV_len _ _) (by (exact ixQ)) rfl (mnV_one _ _) ?_; clear H; intro wk H; simp only [List.set_cons_zero, List.set_cons_succ] at H)) | refine pvQ ?_ | (refine opk 8 rfl ?_; (refine ost_storeW H rfl rfl rfl rfl lQ ixQ lQ okQ ?_; clear H; intro wk H; simp only [List.set_cons_zero, List.set_cons_succ, Nat.reduceAdd] at H)) | (refine opk 9 rfl ?_; first | (refine ost_boxq H rfl ?_; clear H; intro bk wk H) | (refine ost_allocA H rfl ?_; clear H; intro bk wk H))) | refine Wc.seq ?_ | refine then_n ?_ | refine WL.nil ?_ | refine Wc.region ?_ | refine Wc.block ?_ | refine then_r ?_ | refine then_e ?_ | refine inb_e rfl ?_ | refine inb_o rfl ?_ | refine inb_n ?_ | refine inb_r ?_ | refine Wc.skip ?_ | refine Wc.exit ?_ | refine Wc.ret ?_ | refine Wc.cond_true rfl ?_ | refine Wc.cond_false rfl ?_)
  all_goals first | (refine fn_ret1 rfl (rv_cellA rfl rfl H.bI lQ) ⟨rfl, H.fr⟩)
theorem law16_ours (m : ManT) (A : MAd) (w : World) : SpecV Tryd.prog 54 #[.agg (mnV m A).toArray] w (.agg (mnV m A).toArray) := by
  refine specV_of fun h0 hs H => ?_
  have lm := mnV_len m A
  refine calls_of Tryd.func54 rfl Tryd.ntmps54 (by simp) ?_
  repeat' (first | ((first | refine WL.p rfl ?_ | refine WL.u ?_); first | (refine opk 8 rfl ?_; (refine ost_storeW (vs := mnV m A) H rfl rfl rfl rfl (mnV_len _ _) (by (exact ixQ)) rfl (mnV_one _ _) ?_; clear H; intro wk H; simp only [List.set_cons_zero, List.set_cons_succ] at H)) | refine pvQ ?_ | (refine opk 8 rfl ?_; (refine ost_storeW H rfl rfl rfl rfl lQ ixQ lQ okQ ?_; clear H; intro wk H; simp only [List.set_cons_zero, List.set_cons_succ, Nat.reduceAdd] at H)) | (refine opk 9 rfl ?_; first | (refine ost_boxq H rfl ?_; clear H; intro bk wk H) | (refine ost_allocA H rfl ?_; clear H; intro bk wk H))) | refine Wc.seq ?_ | refine then_n ?_ | refine WL.nil ?_ | refine Wc.region ?_ | refine Wc.block ?_ | refine then_r ?_ | refine then_e ?_ | refine inb_e rfl ?_ | refine inb_o rfl ?_ | refine inb_n ?_ | refine inb_r ?_ | refine Wc.skip ?_ | refine Wc.exit ?_ | refine Wc.ret ?_ | refine Wc.cond_true rfl ?_ | refine Wc.cond_false rfl ?_)
  all_goals first | (refine fn_ret1 rfl (rv_cellA rfl rfl H.bI lQ) ⟨rfl, H.fr⟩)
noncomputable def sameM (m n : ManT) : Bool := dcd (m = n)
theorem r16_Same (m n : ManT) (A B : MAd) (h0 : FH) (w : World) (hs : Sat h0 w) (hP : MnR h0 m A) (hQ : MnR h0 n B) : SpecV Tryd.prog 53 #[.agg (mnV m A).toArray, .agg (mnV n B).toArray] w (.bool (sameM m n)) := by
  have H := St.start hs
  obtain ⟨ver, flr, base, segs, next⟩ := m
  obtain ⟨a, c⟩ := A
  obtain ⟨ver', flr', base', segs', next'⟩ := n
  obtain ⟨a', c'⟩ := B
  rw [show mnV ⟨ver, flr, base, segs, next⟩ ⟨a, c⟩ = mnL ver flr base segs.length next a c from rfl, show mnV ⟨ver', flr', base', segs', next'⟩ ⟨a', c'⟩ = mnL ver' flr' base' segs'.length next' a' c' from rfl]
  have lm := mnL_len ver flr base segs.length next a c
  have qf := mnL_flr ver flr base segs.length next a c
  have q17 := mnL_17 ver flr base segs.length next a c
  have q18 := mnL_18 ver flr base segs.length next a c
  have q19 := mnL_19 ver flr base segs.length next a c
  have q0 : (mnL ver flr base segs.length next a c)[0 + 0]? = some (.int .u64 ver.toNat) := rfl
  have lm' := mnL_len ver' flr' base' segs'.length next' a' c'
  have qf' := mnL_flr ver' flr' base' segs'.length next' a' c'
  have q17' := mnL_17 ver' flr' base' segs'.length next' a' c'
  have q18' := mnL_18 ver' flr' base' segs'.length next' a' c'
  have q19' := mnL_19 ver' flr' base' segs'.length next' a' c'
  have q0' : (mnL ver' flr' base' segs'.length next' a' c')[0 + 0]? = some (.int .u64 ver'.toNat) := rfl
  have lf := cV_len flr
  have lf' := cV_len flr'
  have hP : Sl h0 1 a c (segs.map cKid) := hP
  have hQ : Sl h0 1 a' c' (segs'.map cKid) := hQ
  have qc := hP.lenM
  have qc' := hQ.lenM
  have hno : ¬ (ver.toNat = ver'.toNat ∧ flr = flr' ∧ base.toNat = base'.toNat ∧ next.toNat = next'.toNat ∧ segs.length = segs'.length) → sameM ⟨ver, flr, base, segs, next⟩ ⟨ver', flr', base', segs', next'⟩ = false := fun h => dcd_no.2 fun e => by
    injection e with e1 e2 e3 e4 e5
    subst e1; subst e2; subst e3; subst e4; subst e5
    exact h ⟨rfl, rfl, rfl, rfl, rfl⟩
  unfold SpecV
  refine calls_of Tryd.func53 rfl Tryd.ntmps53 (by simp) ?_
  by_cases hf : flr = flr'
  · subst hf
    have tf := typed_cV flr
    by_cases hA : ver.toNat = ver'.toNat ∧ base.toNat = base'.toNat ∧ next.toNat = next'.toNat ∧ segs.length = segs'.length
    · obtain ⟨h1, h2, h3, h4⟩ := hA
      repeat' (first | ((first | refine WL.p rfl ?_ | refine WL.u ?_ | refine WL.g rfl rfl ?_ | refine WL.gu rfl ?_); first | (refine opk 3 rfl ?_; (refine ost_neAS rfl (by decide) rfl rfl tf ?_)) | refine pvQ ?_ | (refine opk 3 rfl ?_; first | (refine ost_eqA rfl (by decide) rfl rfl tyQ tyQ (fun hc => ?_) (fun hc => ?_) <;> try exact prEQ) | (refine ost_neA rfl (by decide) rfl rfl tyQ tyQ (fun hc => ?_) (fun hc => ?_) <;> try exact prEQ) | (refine ost_cmp rfl rfl rfl rfl (fun hc => ?_) (fun hc => ?_) <;> (simp only [cmpP] at hc; try exact prIQ))) | (refine opk 4 rfl ?_; (refine ost_cmp rfl rfl rfl rfl (fun hc => ?_) (fun hc => ?_) <;> (simp only [cmpP] at hc; try exact prIQ))) | (refine opk 9 rfl ?_; (refine ost_boxq H rfl ?_; clear H; intro bk wk H))) | refine Wc.seq ?_ | refine then_n ?_ | refine WL.nil ?_ | refine Wc.region ?_ | refine Wc.block ?_ | refine then_r ?_ | refine then_e ?_ | refine inb_e rfl ?_ | refine inb_o rfl ?_ | refine inb_n ?_ | refine inb_r ?_ | refine Wc.skip ?_ | refine Wc.exit ?_ | refine Wc.ret ?_ | refine Wc.cond_true rfl ?_ | refine Wc.cond_false rfl ?_ | (refine Wc.drawn (id := 6) 10 (by kernel_rfl) ?_) | refine WL.skp rfl rfl ?_ | refine WL.sku rfl ?_ | (refine rgs_nil ?_; intro vs wk hE; replace H := H.ext hE; clear hE) | refine RGs.skp (fun _ => rfl) rfl ?_ | (refine RGs.bq (fun _ => rfl) rfl (by intro vs w hE hP; have H := H.ext hE; first | exact dbQ | fail) (fun hc => ?_) (fun hc => ?_) <;> ((try simp only [cmpP, decide_eq_true_eq, decide_eq_false_iff_not, dcd_iff, dcd_no] at hc); try exact prDQ)) | refine RGs.pq (fun _ => rfl) rfl (by intro vs w hE hP; have H := H.ext hE; first | exact dvQ | fail) ?_)
      obtain ⟨bQ, ebQ⟩ := H.nameB idx0
      subst ebQ
      obtain ⟨bP, ebP⟩ := H.nameB idx1
      subst ebP
      refine Wc.loopE (fun s0 m s w' => ∃ i : Nat, m = segs.length - i ∧ i ≤ segs.length ∧ Agree [4, 5, 41, 42, 43, 44, 45, 46, 47, 48, 49, 50, 51, 52, 53, 54, 55, 56, 57, 58] s s0 ∧ s 5 = .int .i64 i ∧ (∀ j (g1 : j < segs.length) (g2 : j < segs'.length), j < i → segs[j] = segs'[j]) ∧
        St w [] h0 h0 [.blk bQ (.cells (mnL ver' flr base' segs'.length next' a' c').toArray 93 (0, 0)), .blk bP (.cells (mnL ver flr base segs.length next a c).toArray 93 (0, 0))] w') segs.length ⟨0, rfl, by omega, Agree.refl _ _, rfl, fun j _ _ h => absurd h (by omega), H⟩ ?_
      clear H
      rintro m s w' ⟨i, rfl, hi, hA9, e1, hsame, H⟩
      obtain ⟨j, rfl⟩ := hA9.env1 e1
      clear hA9 e1
      by_cases hlt : i < segs.length
      · have hlt' : i < segs'.length := by omega
        obtain ⟨b, off, l, T, fr, e1, eb, eg⟩ := hP.getM (by decide) (Nat.lt_of_le_of_lt (Nat.zero_le _) hlt)
        subst e1
        have g1 : l[off + (i : Int).toNat * 1]? = some (.int .u32 segs[i].toNat) := row_cell (eg (i : Int).toNat i hlt (by omega)) (q := 0) (by simp [cKid])
        obtain ⟨b', off', l', T', fr', e1, eb', eg'⟩ := hQ.getM (by decide) (Nat.lt_of_le_of_lt (Nat.zero_le _) hlt')
        subst e1
        have g1' : l'[off' + (i : Int).toNat * 1]? = some (.int .u32 segs'[i].toNat) := row_cell (eg' (i : Int).toNat i hlt' (by omega)) (q := 0) (by simp [cKid])
        clear eg eg'
        by_cases hxy : segs[i] = segs'[i]
        · have hxn : segs[i].toNat = segs'[i].toNat := by rw [hxy]
          repeat' (first | ((first | refine WL.p rfl ?_ | refine WL.u ?_ | refine WL.g rfl rfl ?_ | refine WL.gu rfl ?_); first | refine pvQ ?_ | (refine opk 3 rfl ?_; first | (refine ost_eqA rfl (by decide) rfl rfl tyQ tyQ (fun hc => ?_) (fun hc => ?_) <;> try exact prEQ) | (refine ost_neA rfl (by decide) rfl rfl tyQ tyQ (fun hc => ?_) (fun hc => ?_) <;> try exact prEQ) | (refine ost_cmp rfl rfl rfl rfl (fun hc => ?_) (fun hc => ?_) <;> (simp only [cmpP] at hc; try exact prIQ))) | (refine opk 4 rfl ?_; (refine ost_cmp rfl rfl rfl rfl (fun hc => ?_) (fun hc => ?_) <;> (simp only [cmpP] at hc; try exact prIQ))) | (refine opk 9 rfl ?_; (refine ost_boxq H rfl ?_; clear H; intro bk wk H))) | refine Wc.seq ?_ | refine then_n ?_ | refine WL.nil ?_ | refine Wc.region ?_ | refine Wc.block ?_ | refine then_r ?_ | refine then_e ?_ | refine inb_e rfl ?_ | refine inb_o rfl ?_ | refine inb_n ?_ | refine inb_r ?_ | refine Wc.skip ?_ | refine Wc.exit ?_ | refine Wc.ret ?_ | refine Wc.cond_true rfl ?_ | refine Wc.cond_false rfl ?_ | (refine Wc.drawn (id := 6) 10 (by kernel_rfl) ?_) | refine WL.skp rfl rfl ?_ | refine WL.sku rfl ?_ | (refine rgs_nil ?_; intro vs wk hE; replace H := H.ext hE; clear hE) | refine RGs.skp (fun _ => rfl) rfl ?_ | (refine RGs.bq (fun _ => rfl) rfl (by intro vs w hE hP; have H := H.ext hE; first | exact dbQ | fail) (fun hc => ?_) (fun hc => ?_) <;> ((try simp only [cmpP, decide_eq_true_eq, decide_eq_false_iff_not, dcd_iff, dcd_no] at hc); try exact prDQ)) | refine RGs.pq (fun _ => rfl) rfl (by intro vs w hE hP; have H := H.ext hE; first | exact dvQ | fail) ?_)
          all_goals exact ⟨segs.length - (i + 1), by omega, i + 1, rfl, by omega, by (repeat' (first | exact Agree.refl _ _ | exact Agree.havoc | refine Agree.upd rfl ?_ | refine Agree.hav2 rfl ?_)), rfl, fun j h1 h2 h3 => (by
            by_cases e : j = i
            · subst e; exact hxy
            · exact hsame j h1 h2 (by omega)), H⟩
        · have hxn : segs[i].toNat ≠ segs'[i].toNat := fun h => hxy (UInt32.toNat_inj.1 h)
          repeat' (first | ((first | refine WL.p rfl ?_ | refine WL.u ?_ | refine WL.g rfl rfl ?_ | refine WL.gu rfl ?_); first | refine pvQ ?_ | (refine opk 3 rfl ?_; first | (refine ost_eqA rfl (by decide) rfl rfl tyQ tyQ (fun hc => ?_) (fun hc => ?_) <;> try exact prEQ) | (refine ost_neA rfl (by decide) rfl rfl tyQ tyQ (fun hc => ?_) (fun hc => ?_) <;> try exact prEQ) | (refine ost_cmp rfl rfl rfl rfl (fun hc => ?_) (fun hc => ?_) <;> (simp only [cmpP] at hc; try exact prIQ))) | (refine opk 4 rfl ?_; (refine ost_cmp rfl rfl rfl rfl (fun hc => ?_) (fun hc => ?_) <;> (simp only [cmpP] at hc; try exact prIQ))) | (refine opk 9 rfl ?_; (refine ost_boxq H rfl ?_; clear H; intro bk wk H))) | refine Wc.seq ?_ | refine then_n ?_ | refine WL.nil ?_ | refine Wc.region ?_ | refine Wc.block ?_ | refine then_r ?_ | refine then_e ?_ | refine inb_e rfl ?_ | refine inb_o rfl ?_ | refine inb_n ?_ | refine inb_r ?_ | refine Wc.skip ?_ | refine Wc.exit ?_ | refine Wc.ret ?_ | refine Wc.cond_true rfl ?_ | refine Wc.cond_false rfl ?_ | (refine Wc.drawn (id := 6) 10 (by kernel_rfl) ?_) | refine WL.skp rfl rfl ?_ | refine WL.sku rfl ?_ | (refine rgs_nil ?_; intro vs wk hE; replace H := H.ext hE; clear hE) | refine RGs.skp (fun _ => rfl) rfl ?_ | (refine RGs.bq (fun _ => rfl) rfl (by intro vs w hE hP; have H := H.ext hE; first | exact dbQ | fail) (fun hc => ?_) (fun hc => ?_) <;> ((try simp only [cmpP, decide_eq_true_eq, decide_eq_false_iff_not, dcd_iff, dcd_no] at hc); try exact prDQ)) | refine RGs.pq (fun _ => rfl) rfl (by intro vs w hE hP; have H := H.ext hE; first | exact dvQ | fail) ?_)
          all_goals ((first | refine fn_ret1 (v := .bool _) rfl rfl ⟨?_, H.fr⟩ | refine fn_ret1 (v := .int _ _) rfl rfl ⟨?_, H.fr⟩ | refine fn_ret1 (v := .string _) rfl rfl ⟨?_, H.fr⟩); congr 1; symm; exact dcd_no.2 fun e => by injection e with e1 e2 e3 e4 e5; exact hxy (by simp only [e4]))
      · have hss : segs = segs' := list_eq_of (by omega) fun j h1 h2 => hsame j h1 h2 (by omega)
        have hss2 : sameM ⟨ver, flr, base, segs, next⟩ ⟨ver', flr, base', segs', next'⟩ = true := dcd_iff.2 (by
          have e1 := UInt64.toNat_inj.1 h1; have e2 := UInt32.toNat_inj.1 h2; have e3 := UInt32.toNat_inj.1 h3
          rw [e1, e2, e3, hss])
        rw [hss2]
        repeat' (first | ((first | refine WL.p rfl ?_ | refine WL.u ?_ | refine WL.g rfl rfl ?_ | refine WL.gu rfl ?_); first | refine pvQ ?_ | (refine opk 3 rfl ?_; first | (refine ost_eqA rfl (by decide) rfl rfl tyQ tyQ (fun hc => ?_) (fun hc => ?_) <;> try exact prEQ) | (refine ost_neA rfl (by decide) rfl rfl tyQ tyQ (fun hc => ?_) (fun hc => ?_) <;> try exact prEQ) | (refine ost_cmp rfl rfl rfl rfl (fun hc => ?_) (fun hc => ?_) <;> (simp only [cmpP] at hc; try exact prIQ))) | (refine opk 4 rfl ?_; (refine ost_cmp rfl rfl rfl rfl (fun hc => ?_) (fun hc => ?_) <;> (simp only [cmpP] at hc; try exact prIQ))) | (refine opk 9 rfl ?_; (refine ost_boxq H rfl ?_; clear H; intro bk wk H))) | refine Wc.seq ?_ | refine then_n ?_ | refine WL.nil ?_ | refine Wc.region ?_ | refine Wc.block ?_ | refine then_r ?_ | refine then_e ?_ | refine inb_e rfl ?_ | refine inb_o rfl ?_ | refine inb_n ?_ | refine inb_r ?_ | refine Wc.skip ?_ | refine Wc.exit ?_ | refine Wc.ret ?_ | refine Wc.cond_true rfl ?_ | refine Wc.cond_false rfl ?_ | (refine Wc.drawn (id := 6) 10 (by kernel_rfl) ?_) | refine WL.skp rfl rfl ?_ | refine WL.sku rfl ?_ | (refine rgs_nil ?_; intro vs wk hE; replace H := H.ext hE; clear hE) | refine RGs.skp (fun _ => rfl) rfl ?_ | (refine RGs.bq (fun _ => rfl) rfl (by intro vs w hE hP; have H := H.ext hE; first | exact dbQ | fail) (fun hc => ?_) (fun hc => ?_) <;> ((try simp only [cmpP, decide_eq_true_eq, decide_eq_false_iff_not, dcd_iff, dcd_no] at hc); try exact prDQ)) | refine RGs.pq (fun _ => rfl) rfl (by intro vs w hE hP; have H := H.ext hE; first | exact dvQ | fail) ?_)
        (first | refine fn_ret1 (v := .bool _) rfl rfl ⟨?_, H.fr⟩ | refine fn_ret1 (v := .int _ _) rfl rfl ⟨?_, H.fr⟩ | refine fn_ret1 (v := .string _) rfl rfl ⟨?_, H.fr⟩); rfl
    · rw [hno fun h => hA ⟨h.1, h.2.2⟩]
      repeat' (first | ((first | refine WL.p rfl ?_ | refine WL.u ?_ | refine WL.g rfl rfl ?_ | refine WL.gu rfl ?_); first | (refine opk 3 rfl ?_; (refine ost_neAS rfl (by decide) rfl rfl tf ?_)) | refine pvQ ?_ | (refine opk 3 rfl ?_; first | (refine ost_eqA rfl (by decide) rfl rfl tyQ tyQ (fun hc => ?_) (fun hc => ?_) <;> try exact prEQ) | (refine ost_neA rfl (by decide) rfl rfl tyQ tyQ (fun hc => ?_) (fun hc => ?_) <;> try exact prEQ) | (refine ost_cmp rfl rfl rfl rfl (fun hc => ?_) (fun hc => ?_) <;> (simp only [cmpP] at hc; try exact prIQ))) | (refine opk 4 rfl ?_; (refine ost_cmp rfl rfl rfl rfl (fun hc => ?_) (fun hc => ?_) <;> (simp only [cmpP] at hc; try exact prIQ))) | (refine opk 9 rfl ?_; (refine ost_boxq H rfl ?_; clear H; intro bk wk H))) | refine Wc.seq ?_ | refine then_n ?_ | refine WL.nil ?_ | refine Wc.region ?_ | refine Wc.block ?_ | refine then_r ?_ | refine then_e ?_ | refine inb_e rfl ?_ | refine inb_o rfl ?_ | refine inb_n ?_ | refine inb_r ?_ | refine Wc.skip ?_ | refine Wc.exit ?_ | refine Wc.ret ?_ | refine Wc.cond_true rfl ?_ | refine Wc.cond_false rfl ?_ | (refine Wc.drawn (id := 6) 10 (by kernel_rfl) ?_) | refine WL.skp rfl rfl ?_ | refine WL.sku rfl ?_ | (refine rgs_nil ?_; intro vs wk hE; replace H := H.ext hE; clear hE) | refine RGs.skp (fun _ => rfl) rfl ?_ | (refine RGs.bq (fun _ => rfl) rfl (by intro vs w hE hP; have H := H.ext hE; first | exact dbQ | fail) (fun hc => ?_) (fun hc => ?_) <;> ((try simp only [cmpP, decide_eq_true_eq, decide_eq_false_iff_not, dcd_iff, dcd_no] at hc); try exact prDQ)) | refine RGs.pq (fun _ => rfl) rfl (by intro vs w hE hP; have H := H.ext hE; first | exact dvQ | fail) ?_)
      all_goals first | ((first | refine fn_ret1 (v := .bool _) rfl rfl ⟨?_, H.fr⟩ | refine fn_ret1 (v := .int _ _) rfl rfl ⟨?_, H.fr⟩ | refine fn_ret1 (v := .string _) rfl rfl ⟨?_, H.fr⟩); rfl) | (exfalso; omega)
  · rw [hno fun h => hf h.2.1]
    have tf := typed_cV flr
    have tf' := typed_cV flr'
    have hcv : cV flr ≠ cV flr' := fun e => hf (cV_inj.1 e)
    repeat' (first | ((first | refine WL.p rfl ?_ | refine WL.u ?_ | refine WL.g rfl rfl ?_ | refine WL.gu rfl ?_); first | (refine opk 3 rfl ?_; (refine ost_neAD (q := true) rfl (by decide) rfl rfl tf tf' (by simp [hcv]) ?_)) | refine pvQ ?_ | (refine opk 3 rfl ?_; first | (refine ost_eqA rfl (by decide) rfl rfl tyQ tyQ (fun hc => ?_) (fun hc => ?_) <;> try exact prEQ) | (refine ost_neA rfl (by decide) rfl rfl tyQ tyQ (fun hc => ?_) (fun hc => ?_) <;> try exact prEQ) | (refine ost_cmp rfl rfl rfl rfl (fun hc => ?_) (fun hc => ?_) <;> (simp only [cmpP] at hc; try exact prIQ))) | (refine opk 4 rfl ?_; (refine ost_cmp rfl rfl rfl rfl (fun hc => ?_) (fun hc => ?_) <;> (simp only [cmpP] at hc; try exact prIQ))) | (refine opk 9 rfl ?_; (refine ost_boxq H rfl ?_; clear H; intro bk wk H))) | refine Wc.seq ?_ | refine then_n ?_ | refine WL.nil ?_ | refine Wc.region ?_ | refine Wc.block ?_ | refine then_r ?_ | refine then_e ?_ | refine inb_e rfl ?_ | refine inb_o rfl ?_ | refine inb_n ?_ | refine inb_r ?_ | refine Wc.skip ?_ | refine Wc.exit ?_ | refine Wc.ret ?_ | refine Wc.cond_true rfl ?_ | refine Wc.cond_false rfl ?_ | (refine Wc.drawn (id := 6) 10 (by kernel_rfl) ?_) | refine WL.skp rfl rfl ?_ | refine WL.sku rfl ?_ | (refine rgs_nil ?_; intro vs wk hE; replace H := H.ext hE; clear hE) | refine RGs.skp (fun _ => rfl) rfl ?_ | (refine RGs.bq (fun _ => rfl) rfl (by intro vs w hE hP; have H := H.ext hE; first | exact dbQ | fail) (fun hc => ?_) (fun hc => ?_) <;> ((try simp only [cmpP, decide_eq_true_eq, decide_eq_false_iff_not, dcd_iff, dcd_no] at hc); try exact prDQ)) | refine RGs.pq (fun _ => rfl) rfl (by intro vs w hE hP; have H := H.ext hE; first | exact dvQ | fail) ?_)
    all_goals first | ((first | refine fn_ret1 (v := .bool _) rfl rfl ⟨?_, H.fr⟩ | refine fn_ret1 (v := .int _ _) rfl rfl ⟨?_, H.fr⟩ | refine fn_ret1 (v := .string _) rfl rfl ⟨?_, H.fr⟩); rfl) | (exfalso; omega)
end Go.Tg

