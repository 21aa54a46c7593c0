/- Contracts of Go functions that the laws reach: what each call answers and leaves in memory, for all arguments within the bounds that each theorem names. -/
import Derived.Test.YtbfilhaigbebpaaDoorInst
import Derived.Test.YtbfilhaigbebpaaDoorAuto
import Derived.Test.YtbfilhaigbebpaaDoorRX
import Derived.Test.YtbfilhaigbebpaaDoorQG
import Derived.Test.YtbfilhaigbebpaaDoorQ7
set_option linter.unusedVariables false
set_option linter.unusedSimpArgs false
set_option maxRecDepth 100000
set_option maxHeartbeats 4000000
namespace Go.Tg
open Go Go.Proofs
def arrS (t : TkT) (k : Nat) : List Value := (List.range 3).map fun i => Value.int .u64 ((if i < k then tkN (swL t i) else 0 : Nat) : Int)
theorem arrS_set (t : TkT) {k : Nat} (hk : k < 3) : (arrS t k).set k (.int .u64 (tkN (swL t k) : Nat)) = arrS t (k + 1) := by
  match k, hk with
  | 0, _ => rfl
  | 1, _ => rfl
  | 2, _ => rfl
theorem arrS_get (t : TkT) {k : Nat} (hk : k < 3) : (arrS t (k + 1))[k]? = some (.int .u64 (tkN (swL t k) : Nat)) := by
  match k, hk with
  | 0, _ => rfl
  | 1, _ => rfl
  | 2, _ => rfl
theorem arrS_len (t : TkT) (k : Nat) : (arrS t k).length = 3 := by simp [arrS]
theorem swS_bad (t : TkT) : (swS t).bad = (t.bad || !decide (tkN t / 4294967296 = 0)) := rfl
theorem ro_decode (h0 : FH) (a : Option Addr) (c : Nat) (b : List UInt8) (w : World) (hs : Sat h0 w) (hT : Half h0) (hr : BS h0 a c b) (hb : b.length ≤ 1000000) :
    Spec Tryd.prog 30 #[.slice a b.length c] w [] h0 (fun v h' L' => h' = h0 ∧ L' = [] ∧ ∃ x q, v = .tuple #[.agg (cSlot x).toArray, .bool q] ∧ DecS b x q) := by
  have H := St.start hs
  have hFF := frame_First h0 a c b
  have hA := @decS_F b
  have hN := fun x => @decS_no b x
  have hok := @firstF_ok b
  have lz : cSlot zeroS = [Value.int .u64 0, .int .u32 0, .int .u32 0, .int .u32 0] := rfl
  generalize firstF b = F at hFF hA hN hok
  obtain ⟨f, k, e⟩ := F
  dsimp only at hFF hN hok
  unfold Spec
  refine calls_of Tryd.func30 rfl Tryd.ntmps30 (by simp) ?_
  by_cases hg : e = 0 ∧ k = b.length
  · obtain ⟨rfl, hk⟩ := hg
    obtain ⟨hY, hZ⟩ := hA rfl hk
    clear hA hN
    obtain ⟨_, hf4, _⟩ := hok rfl
    have hfl : f.length ≤ 1000000 := by omega
    repeat' (first | ((first | refine WL.p rfl ?_ | refine WL.u ?_ | refine WL.g rfl rfl ?_ | refine WL.gu rfl ?_); first | (refine opk 1 rfl ?_; (refine ost_Sk H rfl (hFF _ H.sat hT hr (by omega)) rfl ?_; clear H; rintro vk wk hfk Lk ⟨a1, c1, rfl, e9, rfl⟩ hle H; simp only [List.cons_append, List.nil_append] at H)) | refine pvQ ?_ | (refine opk 3 rfl ?_; (refine ost_cmp rfl rfl rfl rfl (fun hc => ?_) (fun hc => ?_) <;> (simp only [cmpP] at hc; try exact prIQ))) | (refine opk 4 rfl ?_; (refine ost_cmp rfl rfl rfl rfl (fun hc => ?_) (fun hc => ?_) <;> (simp only [cmpP] at hc; try exact prIQ))) | (refine opk 8 rfl ?_; first | (refine ost_store1 H rfl rfl vlQ gvQ ixQ (by first | decide | (simp; omega) | (simp; done) | omega) ?_; clear H; intro wk H; simp only [List.set_cons_zero, List.set_cons_succ, Nat.reduceAdd] at H) | (refine ost_storeW H rfl rfl rfl rfl lQ ixQ lQ okQ ?_; clear H; intro wk H; simp only [List.set_cons_zero, List.set_cons_succ, Nat.reduceAdd] at H)) | (refine opk 9 rfl ?_; (refine ost_allocA H rfl ?_; clear H; intro bk wk H))) | refine Wc.seq ?_ | refine then_n ?_ | refine WL.nil ?_ | refine Wc.region ?_ | refine Wc.block ?_ | refine then_r ?_ | refine then_e ?_ | refine inb_e rfl ?_ | refine inb_o rfl ?_ | refine inb_n ?_ | refine inb_r ?_ | refine Wc.skip ?_ | refine Wc.exit ?_ | refine Wc.ret ?_ | refine Wc.cond_true rfl ?_ | refine Wc.cond_false rfl ?_ | (refine Wc.drawn (id := 14) 13 (by kernel_rfl) ?_) | refine WL.skp rfl rfl ?_ | refine WL.sku rfl ?_ | (refine rgs_nil ?_; intro vs wk hE; replace H := H.ext hE; clear hE) | refine RGs.skp (fun _ => rfl) rfl ?_ | (refine RGs.bq (fun _ => rfl) rfl (by intro vs w hE hP; have H := H.ext hE; first | exact dbQ | fail) (fun hc => ?_) (fun hc => ?_) <;> ((try simp only [cmpP, decide_eq_true_eq, decide_eq_false_iff_not, dcd_iff, dcd_no] at hc); try exact prDQ)) | refine RGs.pq (fun _ => rfl) rfl (by intro vs w hE hP; have H := H.ext hE; first | exact dvQ | fail) ?_)
    replace e9 := e9.symm
    subst e9
    obtain ⟨a6, c6, h6, e6, hle6, hr6, H⟩ := H.freeze8
    cases e6
    repeat' (first | ((first | refine WL.p rfl ?_ | refine WL.u ?_ | refine WL.g rfl rfl ?_ | refine WL.gu rfl ?_); first | (refine opk 1 rfl ?_; first | (refine ost_Sk H rfl (pack_Read _ _ _ _ _ H.sat hr6 (by omega)) rfl ?_; clear H; rintro vk wk hfk Lk ⟨b1, a2, c2, rfl, hr2, rfl⟩ hle H; simp only [List.cons_append, List.nil_append] at H) | (refine ost_H (A := rdr _ _ _ _ _ _) H rfl (by (exact ixQ)) (fun HO => rd_Num _ _ _ _ _ _ _ HO (by assumption)) rfl ?_; clear H; rintro vk wk hfk Lk ⟨rfl, rfl, a3, c3, hr3, rfl⟩ hle H; simp only [List.cons_append, List.nil_append, List.eraseIdx_cons_zero, List.eraseIdx_cons_succ] at H)) | refine pvQ ?_ | (refine opk 3 rfl ?_; (refine ost_cmp rfl rfl rfl rfl (fun hc => ?_) (fun hc => ?_) <;> (simp only [cmpP] at hc; try exact prIQ))) | (refine opk 4 rfl ?_; (refine ost_cmp rfl rfl rfl rfl (fun hc => ?_) (fun hc => ?_) <;> (simp only [cmpP] at hc; try exact prIQ))) | (refine opk 8 rfl ?_; first | (refine ost_store1 H rfl rfl vlQ gvQ ixQ (by first | decide | (simp; omega) | (simp; done) | omega) ?_; clear H; intro wk H; simp only [List.set_cons_zero, List.set_cons_succ, Nat.reduceAdd] at H) | (refine ost_storeW H rfl rfl rfl rfl lQ ixQ lQ okQ ?_; clear H; intro wk H; simp only [List.set_cons_zero, List.set_cons_succ, Nat.reduceAdd] at H)) | (refine opk 9 rfl ?_; (refine ost_allocA H rfl ?_; clear H; intro bk wk H))) | refine Wc.seq ?_ | refine then_n ?_ | refine WL.nil ?_ | refine Wc.region ?_ | refine Wc.block ?_ | refine then_r ?_ | refine then_e ?_ | refine inb_e rfl ?_ | refine inb_o rfl ?_ | refine inb_n ?_ | refine inb_r ?_ | refine Wc.skip ?_ | refine Wc.exit ?_ | refine Wc.ret ?_ | refine Wc.cond_true rfl ?_ | refine Wc.cond_false rfl ?_ | (refine Wc.drawn (id := 14) 13 (by kernel_rfl) ?_) | refine WL.skp rfl rfl ?_ | refine WL.sku rfl ?_ | (refine rgs_nil ?_; intro vs wk hE; replace H := H.ext hE; clear hE) | refine RGs.skp (fun _ => rfl) rfl ?_ | (refine RGs.bq (fun _ => rfl) rfl (by intro vs w hE hP; have H := H.ext hE; first | exact dbQ | fail) (fun hc => ?_) (fun hc => ?_) <;> ((try simp only [cmpP, decide_eq_true_eq, decide_eq_false_iff_not, dcd_iff, dcd_no] at hc); try exact prDQ)) | refine RGs.pq (fun _ => rfl) rfl (by intro vs w hE hP; have H := H.ext hE; first | exact dvQ | fail) ?_)
    obtain ⟨bk, ebk⟩ := H.nameB idx0
    subst ebk
    obtain ⟨bs, ebs⟩ := H.nameB idx2
    subst ebs
    replace hr3 : BS hfk a3 c3 (swL (tS f) 0).xs := hr3
    replace H : St w [] h0 hfk [.blk bk (.cells (arrS (tS f) 0).toArray 141 (0, 0)), rdr b1 true (swL (tS f) 0).e a3 (swL (tS f) 0).xs.length c3, .blk bs (.cells (cSlot zeroS).toArray 28 (0, 0))] wk := H
    have hv0 : Value.int .u64 ((numE 0 f).1 : Nat) = .int .u64 (UInt64.ofNat (vS f)).toNat := by
      have := numE_lt 0 f
      unfold vS; simp; omega
    rw [hv0]
    refine Wc.loopE (fun s0 m s w' => ∃ (k : Nat) (a3 : Option Addr) (c3 : Nat), m = 3 - k ∧ k ≤ 3 ∧ Agree [3, 11, 34, 35, 36, 37, 38, 39, 40, 41, 42, 43, 44, 45, 46, 47, 48, 49, 50] s s0 ∧ s 34 = .int .i64 k ∧ (swL (tS f) k).bad = false ∧ BS hfk a3 c3 (swL (tS f) k).xs ∧
      St w [] h0 hfk [.blk bk (.cells (arrS (tS f) k).toArray 141 (0, 0)), rdr b1 true (swL (tS f) k).e a3 (swL (tS f) k).xs.length c3, .blk bs (.cells (cSlot zeroS).toArray 28 (0, 0))] w') 3 ⟨0, _, _, rfl, by omega, Agree.refl _ _, rfl, rfl, hr3, H⟩ ?_
    clear H hr3
    rintro m s w' ⟨k, a3, c3, rfl, hk9, hA9, e1, hbad, hr3, H⟩
    obtain ⟨j, rfl⟩ := hA9.env1 e1
    clear hA9 e1
    have lar := arrS_len (tS f) k
    by_cases hlt : k < 3
    · have hset := arrS_set (tS f) hlt
      have hget := arrS_get (tS f) hlt
      have lar1 := arrS_len (tS f) (k + 1)
      have hsw : swL (tS f) (k + 1) = swS (swL (tS f) k) := rfl
      have hbd := swS_bad (swL (tS f) k)
      have hbig : tkN (swL (tS f) k) / 4294967296 ≠ 0 → okS f = false := fun h => by
        have h1 : (swL (tS f) (k + 1)).bad = true := by rw [hsw, hbd, hbad]; simp [h]
        have h2 : ∀ i, (swL (tS f) (k + 1 + i)).bad = true := fun i => by
          induction i with
          | zero => exact h1
          | succ i ih =>
            show (swS (swL (tS f) (k + 1 + i))).bad = true
            rw [swS_bad, ih]; rfl
        have h3 : (endS f).bad = true := by
          have := h2 (2 - k)
          rw [show k + 1 + (2 - k) = 3 by omega] at this
          exact this
        unfold okS; rw [h3]; rfl
      have hsb : swL (tS f) (k + 1) = swS (swL (tS f) k) := rfl
      generalize hU : swL (tS f) (k + 1) = U at *
      generalize hAR : arrS (tS f) (k + 1) = AR at *
      generalize arrS (tS f) k = AK at *
      generalize swL (tS f) k = T at *
      have hd : (tkN T : Int).fdiv (2 ^ min (32 : Int).toNat IntKind.u64.bits) = ((tkN T / 4294967296 : Nat) : Int) := by
        rw [show min (32 : Int).toNat IntKind.u64.bits = 32 by (have : IntKind.u64.bits = 64 := rfl); omega, Int.fdiv_eq_ediv_of_nonneg _ (by decide)]
        simp
      have hnu : ((numE T.e T.xs).1 : Int) = (tkN T : Int) := rfl
      have hk1 : 0 + (k : Int).toNat * 1 = k := by omega
      repeat' (first | ((first | refine WL.p rfl ?_ | refine WL.u ?_ | refine WL.g rfl rfl ?_ | refine WL.gu rfl ?_); first | (refine opk 1 rfl ?_; (refine ost_H (A := rdr _ _ _ _ _ _) H rfl (by (exact ixQ)) (fun HO => rd_Num _ _ _ _ _ _ _ HO (by assumption)) rfl ?_; clear H; rintro vk wk hfk Lk ⟨rfl, rfl, a4, c4, hr4, rfl⟩ hle H; simp only [List.cons_append, List.nil_append, List.eraseIdx_cons_zero, List.eraseIdx_cons_succ] at H)) | refine pvQ ?_ | (refine opk 3 rfl ?_; (refine ost_cmp rfl rfl rfl rfl (fun hc => ?_) (fun hc => ?_) <;> (simp only [cmpP] at hc; try exact prIQ))) | (refine opk 4 rfl ?_; (refine ost_cmp rfl rfl rfl rfl (fun hc => ?_) (fun hc => ?_) <;> (simp only [cmpP] at hc; try exact prIQ))) | (refine opk 8 rfl ?_; first | (refine ost_store1 H rfl rfl vlQ gvQ ixQ (by first | decide | (simp; omega) | (simp; done) | omega) ?_; clear H; intro wk H; simp only [List.set_cons_zero, List.set_cons_succ, Nat.reduceAdd] at H) | (refine ost_storeW H rfl rfl rfl rfl lQ ixQ lQ okQ ?_; clear H; intro wk H; simp only [List.set_cons_zero, List.set_cons_succ, Nat.reduceAdd] at H)) | (refine opk 9 rfl ?_; (refine ost_allocA H rfl ?_; clear H; intro bk wk H))) | refine Wc.seq ?_ | refine then_n ?_ | refine WL.nil ?_ | refine Wc.region ?_ | refine Wc.block ?_ | refine then_r ?_ | refine then_e ?_ | refine inb_e rfl ?_ | refine inb_o rfl ?_ | refine inb_n ?_ | refine inb_r ?_ | refine Wc.skip ?_ | refine Wc.exit ?_ | refine Wc.ret ?_ | refine Wc.cond_true rfl ?_ | refine Wc.cond_false rfl ?_ | (refine Wc.drawn (id := 14) 13 (by kernel_rfl) ?_) | refine WL.skp rfl rfl ?_ | refine WL.sku rfl ?_ | (refine rgs_nil ?_; intro vs wk hE; replace H := H.ext hE; clear hE) | refine RGs.skp (fun _ => rfl) rfl ?_ | (refine RGs.bq (fun _ => rfl) rfl (by intro vs w hE hP; have H := H.ext hE; first | exact dbQ | fail) (fun hc => ?_) (fun hc => ?_) <;> ((try simp only [cmpP, decide_eq_true_eq, decide_eq_false_iff_not, dcd_iff, dcd_no] at hc); try exact prDQ)) | refine RGs.pq (fun _ => rfl) rfl (by intro vs w hE hP; have H := H.ext hE; first | exact dvQ | fail) ?_)
      rw [hk1, hnu, hset] at H
      rw [hk1]
      repeat' (first | ((first | refine WL.p rfl ?_ | refine WL.u ?_ | refine WL.g rfl rfl ?_ | refine WL.gu rfl ?_); first | (refine opk 9 rfl ?_; (refine ost_buildS rfl evP_nil rfl (rfl : _ = [_, _, _, _]) ?_)) | refine pvQ ?_ | (refine opk 3 rfl ?_; (refine ost_cmp rfl rfl rfl rfl (fun hc => ?_) (fun hc => ?_) <;> (simp only [cmpP] at hc; try exact prIQ))) | (refine opk 4 rfl ?_; (refine ost_cmp rfl rfl rfl rfl (fun hc => ?_) (fun hc => ?_) <;> (simp only [cmpP] at hc; try exact prIQ))) | (refine opk 8 rfl ?_; first | (refine ost_store1 H rfl rfl vlQ gvQ ixQ (by first | decide | (simp; omega) | (simp; done) | omega) ?_; clear H; intro wk H; simp only [List.set_cons_zero, List.set_cons_succ, Nat.reduceAdd] at H) | (refine ost_storeW H rfl rfl rfl rfl lQ ixQ lQ okQ ?_; clear H; intro wk H; simp only [List.set_cons_zero, List.set_cons_succ, Nat.reduceAdd] at H)) | (refine opk 9 rfl ?_; (refine ost_allocA H rfl ?_; clear H; intro bk wk H))) | refine Wc.seq ?_ | refine then_n ?_ | refine WL.nil ?_ | refine Wc.region ?_ | refine Wc.block ?_ | refine then_r ?_ | refine then_e ?_ | refine inb_e rfl ?_ | refine inb_o rfl ?_ | refine inb_n ?_ | refine inb_r ?_ | refine Wc.skip ?_ | refine Wc.exit ?_ | refine Wc.ret ?_ | refine Wc.cond_true rfl ?_ | refine Wc.cond_false rfl ?_ | (refine Wc.drawn (id := 14) 13 (by kernel_rfl) ?_) | refine WL.skp rfl rfl ?_ | refine WL.sku rfl ?_ | (refine rgs_nil ?_; intro vs wk hE; replace H := H.ext hE; clear hE) | refine RGs.skp (fun _ => rfl) rfl ?_ | (refine RGs.bq (fun _ => rfl) rfl (by intro vs w hE hP; have H := H.ext hE; first | exact dbQ | fail) (fun hc => ?_) (fun hc => ?_) <;> ((try simp only [cmpP, decide_eq_true_eq, decide_eq_false_iff_not, dcd_iff, dcd_no] at hc); try exact prDQ)) | refine RGs.pq (fun _ => rfl) rfl (by intro vs w hE hP; have H := H.ext hE; first | exact dvQ | fail) ?_)
      all_goals rw [hd] at hc
      · have hz := hZ (hbig (by omega))
        exact fn_ret2 (v2 := .bool _) rfl (rv_cellA rfl rfl H.bI lQ) rfl ⟨h0, _, (H.forget (hle6.trans (by assumption)) fun _ _ _ => rfl).picks [] rfl (by decide), rfl, rfl, zeroS, false, rfl, .inr ⟨rfl, hz⟩⟩
      · have e8 : U.bad = false := by
          have : tkN T / 4294967296 = 0 := by omega
          rw [hsw, hbd, hbad, this]; rfl
        exact ⟨3 - (k + 1), by omega, k + 1, a4, c4, rfl, by omega, by (repeat' (first | exact Agree.refl _ _ | exact Agree.havoc | refine Agree.upd rfl ?_ | refine Agree.hav2 rfl ?_)), rfl, by rw [hU]; exact e8, by rw [hU, hsw]; exact hr4, by rw [hAR, hU, hsw]; exact H.picks [1, 0, 2] rfl (by decide)⟩
    · obtain rfl : k = 3 := by omega
      have e0 : (arrS (tS f) 3)[0 + (0 : Int).toNat * 1]? = some (.int .u64 (tkN (tS f) : Nat)) := rfl
      have e1 : (arrS (tS f) 3)[0 + (1 : Int).toNat * 1]? = some (.int .u64 (tkN (swL (tS f) 1) : Nat)) := rfl
      have e2 : (arrS (tS f) 3)[0 + (2 : Int).toNat * 1]? = some (.int .u64 (tkN (swL (tS f) 2) : Nat)) := rfl
      have hS : [Value.int .u64 (UInt64.ofNat (vS f)).toNat, .int .u32 (IntKind.u32.wrap (tkN (tS f) : Int)), .int .u32 (IntKind.u32.wrap (tkN (swL (tS f) 1) : Int)), .int .u32 (IntKind.u32.wrap (tkN (swL (tS f) 2) : Int))] = cSlot (slotF f) := by
        unfold cSlot slotF
        rw [u32_1, u32_1, u32_1]
      have hok9 : okS f = (decide ((endS f).e = 0) && decide ((endS f).xs.length = 0)) := by
        have : (endS f).bad = false := hbad
        unfold okS; rw [this]; rfl
      generalize arrS (tS f) 3 = AR at *
      have eE : swL (tS f) 3 = endS f := rfl
      rw [eE] at H hr3
      generalize endS f = T at *
      have lS := cSlot_len (slotF f)
      repeat' (first | ((first | refine WL.p rfl ?_ | refine WL.u ?_ | refine WL.g rfl rfl ?_ | refine WL.gu rfl ?_); first | refine pvQ ?_ | (refine opk 3 rfl ?_; (refine ost_cmp rfl rfl rfl rfl (fun hc => ?_) (fun hc => ?_) <;> (simp only [cmpP] at hc; try exact prIQ))) | (refine opk 4 rfl ?_; (refine ost_cmp rfl rfl rfl rfl (fun hc => ?_) (fun hc => ?_) <;> (simp only [cmpP] at hc; try exact prIQ))) | (refine opk 8 rfl ?_; first | (refine ost_store1 H rfl rfl vlQ gvQ ixQ (by first | decide | (simp; omega) | (simp; done) | omega) ?_; clear H; intro wk H; simp only [List.set_cons_zero, List.set_cons_succ, Nat.reduceAdd] at H) | (refine ost_storeW H rfl rfl rfl rfl lQ ixQ lQ okQ ?_; clear H; intro wk H; simp only [List.set_cons_zero, List.set_cons_succ, Nat.reduceAdd] at H)) | (refine opk 9 rfl ?_; (refine ost_allocA H rfl ?_; clear H; intro bk wk H))) | refine Wc.seq ?_ | refine then_n ?_ | refine WL.nil ?_ | refine Wc.region ?_ | refine Wc.block ?_ | refine then_r ?_ | refine then_e ?_ | refine inb_e rfl ?_ | refine inb_o rfl ?_ | refine inb_n ?_ | refine inb_r ?_ | refine Wc.skip ?_ | refine Wc.exit ?_ | refine Wc.ret ?_ | refine Wc.cond_true rfl ?_ | refine Wc.cond_false rfl ?_ | (refine Wc.drawn (id := 14) 13 (by kernel_rfl) ?_) | refine WL.skp rfl rfl ?_ | refine WL.sku rfl ?_ | (refine rgs_nil ?_; intro vs wk hE; replace H := H.ext hE; clear hE) | refine RGs.skp (fun _ => rfl) rfl ?_ | (refine RGs.bq (fun _ => rfl) rfl (by intro vs w hE hP; have H := H.ext hE; first | exact dbQ | fail) (fun hc => ?_) (fun hc => ?_) <;> ((try simp only [cmpP, decide_eq_true_eq, decide_eq_false_iff_not, dcd_iff, dcd_no] at hc); try exact prDQ)) | refine RGs.pq (fun _ => rfl) rfl (by intro vs w hE hP; have H := H.ext hE; first | (refine opk 1 rfl ?_; (exact ost_V0d rfl (rd_Done _ _ _ _ _ _ H.bI) rfl)) | exact dvQ | fail) ?_)
      rw [hS] at H
      refine fn_ret2 (v2 := .bool _) rfl (rv_cellA rfl rfl H.bI lQ) rfl ⟨h0, _, (H.forget (hle6.trans (by assumption)) fun _ _ _ => rfl).picks [] rfl (by decide), rfl, rfl, slotF f, _, rfl, ?_⟩
      rw [← hok9]
      cases h : okS f with
      | true => exact .inl ⟨rfl, hY h⟩
      | false => exact .inr ⟨rfl, hZ h⟩
  · repeat' (first | ((first | refine WL.p rfl ?_ | refine WL.u ?_ | refine WL.g rfl rfl ?_ | refine WL.gu rfl ?_); first | (refine opk 1 rfl ?_; (refine ost_Sk H rfl (hFF _ H.sat hT hr (by omega)) rfl ?_; clear H; rintro vk wk hfk Lk ⟨a1, c1, rfl, e9, rfl⟩ hle H; simp only [List.cons_append, List.nil_append] at H)) | (refine opk 9 rfl ?_; (refine ost_buildS rfl evP_nil rfl (rfl : _ = [_, _, _, _]) ?_)) | refine pvQ ?_ | (refine opk 3 rfl ?_; (refine ost_cmp rfl rfl rfl rfl (fun hc => ?_) (fun hc => ?_) <;> (simp only [cmpP] at hc; try exact prIQ))) | (refine opk 4 rfl ?_; (refine ost_cmp rfl rfl rfl rfl (fun hc => ?_) (fun hc => ?_) <;> (simp only [cmpP] at hc; try exact prIQ))) | (refine opk 8 rfl ?_; first | (refine ost_store1 H rfl rfl vlQ gvQ ixQ (by first | decide | (simp; omega) | (simp; done) | omega) ?_; clear H; intro wk H; simp only [List.set_cons_zero, List.set_cons_succ, Nat.reduceAdd] at H) | (refine ost_storeW H rfl rfl rfl rfl lQ ixQ lQ okQ ?_; clear H; intro wk H; simp only [List.set_cons_zero, List.set_cons_succ, Nat.reduceAdd] at H)) | (refine opk 9 rfl ?_; (refine ost_allocA H rfl ?_; clear H; intro bk wk H))) | refine Wc.seq ?_ | refine then_n ?_ | refine WL.nil ?_ | refine Wc.region ?_ | refine Wc.block ?_ | refine then_r ?_ | refine then_e ?_ | refine inb_e rfl ?_ | refine inb_o rfl ?_ | refine inb_n ?_ | refine inb_r ?_ | refine Wc.skip ?_ | refine Wc.exit ?_ | refine Wc.ret ?_ | refine Wc.cond_true rfl ?_ | refine Wc.cond_false rfl ?_ | (refine Wc.drawn (id := 14) 13 (by kernel_rfl) ?_) | refine WL.skp rfl rfl ?_ | refine WL.sku rfl ?_ | (refine rgs_nil ?_; intro vs wk hE; replace H := H.ext hE; clear hE) | refine RGs.skp (fun _ => rfl) rfl ?_ | (refine RGs.bq (fun _ => rfl) rfl (by intro vs w hE hP; have H := H.ext hE; first | exact dbQ | fail) (fun hc => ?_) (fun hc => ?_) <;> ((try simp only [cmpP, decide_eq_true_eq, decide_eq_false_iff_not, dcd_iff, dcd_no] at hc); try exact prDQ)) | refine RGs.pq (fun _ => rfl) rfl (by intro vs w hE hP; have H := H.ext hE; first | exact dvQ | fail) ?_)
    all_goals first | (exfalso; omega) | exact fn_ret2 (v2 := .bool _) rfl (rv_cellA rfl rfl H.bI lQ) rfl ⟨_, _, H.picks [] rfl (by decide), e9, rfl, zeroS, false, rfl, hN _ hg⟩
end Go.Tg

set_option linter.unusedVariables false
set_option linter.unusedSimpArgs false
set_option maxRecDepth 100000
set_option maxHeartbeats 4000000
namespace Go.Tg
open Go Go.Proofs
def PickS (a b : List UInt8) (r : SlotT) (e : Int) : Prop :=
  (∃ x, encS x = a ∧ (∀ y, encS y = b → y.ver.toNat ≤ x.ver.toNat) ∧ r = x ∧ e = 0) ∨
  (∃ y, encS y = b ∧ (∀ x, encS x = a → x.ver.toNat < y.ver.toNat) ∧ r = y ∧ e = 0) ∨
  ((∀ s, encS s ≠ a) ∧ (∀ s, encS s ≠ b) ∧ r = zeroS ∧ e = 7)
theorem PickS.unique {a b : List UInt8} {r r' : SlotT} {e e' : Int} (h : PickS a b r e) (k : PickS a b r' e') : r = r' ∧ e = e' := by
  rcases h with ⟨x, h1, h2, rfl, rfl⟩ | ⟨y, h1, h2, rfl, rfl⟩ | ⟨h1, h2, rfl, rfl⟩ <;> rcases k with ⟨x', k1, k2, rfl, rfl⟩ | ⟨y', k1, k2, rfl, rfl⟩ | ⟨k1, k2, rfl, rfl⟩
  · exact ⟨encS_inj (h1.trans k1.symm), rfl⟩
  · exact absurd (k2 _ h1) (Nat.not_lt.2 (h2 _ k1))
  · exact absurd h1 (k1 _)
  · exact absurd (h2 _ k1) (Nat.not_lt.2 (k2 _ h1))
  · exact ⟨encS_inj (h1.trans k1.symm), rfl⟩
  · exact absurd h1 (k2 _)
  · exact absurd k1 (h1 _)
  · exact absurd k1 (h2 _)
  · exact ⟨rfl, rfl⟩
theorem pickS_1 {a b : List UInt8} {x y : SlotT} {q : Bool} (hx : DecS a x true) (hy : DecS b y q) (h : q = true → y.ver.toNat ≤ x.ver.toNat) : PickS a b x 0 := by
  rcases hx with ⟨-, hx⟩ | ⟨hx, -⟩
  · refine .inl ⟨x, hx, fun z hz => ?_, rfl, rfl⟩
    rcases hy with ⟨h1, h2⟩ | ⟨h1, h2⟩
    · rw [encS_inj (hz.trans h2.symm)]; exact h h1
    · exact absurd hz (h2 _)
  · cases hx
theorem pickS_2 {a b : List UInt8} {x y : SlotT} {p : Bool} (hx : DecS a x p) (hy : DecS b y true) (h : p = true → x.ver.toNat < y.ver.toNat) : PickS a b y 0 := by
  rcases hy with ⟨-, hy⟩ | ⟨hy, -⟩
  · refine .inr (.inl ⟨y, hy, fun z hz => ?_, rfl, rfl⟩)
    rcases hx with ⟨h1, h2⟩ | ⟨h1, h2⟩
    · rw [encS_inj (hz.trans h2.symm)]; exact h h1
    · exact absurd hz (h2 _)
  · cases hy
theorem pickS_3 {a b : List UInt8} {x y : SlotT} (hx : DecS a x false) (hy : DecS b y false) : PickS a b zeroS 7 := by
  rcases hx with ⟨hx, -⟩ | ⟨-, hx⟩
  · cases hx
  rcases hy with ⟨hy, -⟩ | ⟨-, hy⟩
  · cases hy
  exact .inr (.inr ⟨hx, hy, rfl, rfl⟩)
theorem ro_Pick (h0 : FH) (a1 a2 : Option Addr) (c1 c2 : Nat) (a b : List UInt8) (w : World) (hs : Sat h0 w) (hT : Half h0) (hr1 : BS h0 a1 c1 a) (hr2 : BS h0 a2 c2 b) (ha : a.length ≤ 1000000) (hb : b.length ≤ 1000000) :
    Spec Tryd.prog 16 #[.slice a1 a.length c1, .slice a2 b.length c2] w [] h0 (fun v h' L' => h' = h0 ∧ L' = [] ∧ ∃ r e, v = .tuple #[.agg (cSlot r).toArray, .int .i64 e] ∧ PickS a b r e) := by
  have H := St.start hs
  have lz : cSlot zeroS = [Value.int .u64 0, .int .u32 0, .int .u32 0, .int .u32 0] := rfl
  have hd1 := fun w hs => ro_decode h0 a1 c1 a w hs hT hr1 ha
  have hd2 := fun w hs => ro_decode h0 a2 c2 b w hs hT hr2 hb
  unfold Spec
  refine calls_of Tryd.func16 rfl Tryd.ntmps16 (by simp) ?_
  repeat' (first | ((first | refine WL.p rfl ?_ | refine WL.u ?_ | refine WL.g rfl rfl ?_ | refine WL.gu rfl ?_); first | (refine opk 1 rfl ?_; first | (refine ost_Sk H rfl (hd1 _ H.sat) rfl ?_; clear H; rintro vk wk hfk Lk ⟨rfl, rfl, x, p, rfl, hx⟩ hle H; simp only [List.cons_append, List.nil_append] at H) | (refine ost_Sk H rfl (hd2 _ H.sat) rfl ?_; clear H; rintro vk wk hfk Lk ⟨rfl, rfl, y, q, rfl, hy⟩ hle H; simp only [List.cons_append, List.nil_append] at H)) | refine pvQ ?_ | (refine opk 3 rfl ?_; (refine ost_cmp rfl rfl rfl rfl (fun hc => ?_) (fun hc => ?_) <;> (simp only [cmpP] at hc; try exact prIQ))) | (refine opk 4 rfl ?_; (refine ost_cmp rfl rfl rfl rfl (fun hc => ?_) (fun hc => ?_) <;> (simp only [cmpP] at hc; try exact prIQ))) | (refine opk 8 rfl ?_; (refine ost_storeW H rfl rfl rfl rfl lQ ixQ lQ okQ ?_; clear H; intro wk H; simp only [List.set_cons_zero, List.set_cons_succ, Nat.reduceAdd] at H)) | (refine opk 9 rfl ?_; (refine ost_allocA H rfl ?_; clear H; intro bk wk H))) | refine Wc.seq ?_ | refine then_n ?_ | refine WL.nil ?_ | refine Wc.region ?_ | refine Wc.block ?_ | refine then_r ?_ | refine then_e ?_ | refine inb_e rfl ?_ | refine inb_o rfl ?_ | refine inb_n ?_ | refine inb_r ?_ | refine Wc.skip ?_ | refine Wc.exit ?_ | refine Wc.ret ?_ | refine Wc.cond_true rfl ?_ | refine Wc.cond_false rfl ?_ | refine WL.skp rfl rfl ?_ | refine WL.sku rfl ?_)
  cases p <;> cases q
  · repeat' (first | ((first | refine WL.p rfl ?_ | refine WL.u ?_ | refine WL.g rfl rfl ?_ | refine WL.gu rfl ?_); first | (refine opk 9 rfl ?_; (refine ost_buildS rfl evP_nil rfl (rfl : _ = [_, _, _, _]) ?_)) | refine pvQ ?_ | (refine opk 3 rfl ?_; (refine ost_cmp rfl rfl rfl rfl (fun hc => ?_) (fun hc => ?_) <;> (simp only [cmpP] at hc; try exact prIQ))) | (refine opk 4 rfl ?_; (refine ost_cmp rfl rfl rfl rfl (fun hc => ?_) (fun hc => ?_) <;> (simp only [cmpP] at hc; try exact prIQ))) | (refine opk 8 rfl ?_; (refine ost_storeW H rfl rfl rfl rfl lQ ixQ lQ okQ ?_; clear H; intro wk H; simp only [List.set_cons_zero, List.set_cons_succ, Nat.reduceAdd] at H)) | (refine opk 9 rfl ?_; (refine ost_allocA H rfl ?_; clear H; intro bk wk H))) | refine Wc.seq ?_ | refine then_n ?_ | refine WL.nil ?_ | refine Wc.region ?_ | refine Wc.block ?_ | refine then_r ?_ | refine then_e ?_ | refine inb_e rfl ?_ | refine inb_o rfl ?_ | refine inb_n ?_ | refine inb_r ?_ | refine Wc.skip ?_ | refine Wc.exit ?_ | refine Wc.ret ?_ | refine Wc.cond_true rfl ?_ | refine Wc.cond_false rfl ?_ | refine WL.skp rfl rfl ?_ | refine WL.sku rfl ?_)
    exact fn_ret2 (v2 := .int _ _) rfl (rv_cellA rfl rfl H.bI lQ) rfl ⟨_, _, H.picks [] rfl (by decide), rfl, rfl, _, _, rfl, pickS_3 hx hy⟩
  · repeat' (first | ((first | refine WL.p rfl ?_ | refine WL.u ?_ | refine WL.g rfl rfl ?_ | refine WL.gu rfl ?_); first | (refine opk 8 rfl ?_; (refine ost_storeW (i := 2) (vs := cSlot y) H rfl rfl rfl rfl rfl rfl rfl (allOne_of rfl) ?_; clear H; intro wk H; simp only [List.set_cons_zero, List.set_cons_succ] at H)) | refine pvQ ?_ | (refine opk 3 rfl ?_; (refine ost_cmp rfl rfl rfl rfl (fun hc => ?_) (fun hc => ?_) <;> (simp only [cmpP] at hc; try exact prIQ))) | (refine opk 4 rfl ?_; (refine ost_cmp rfl rfl rfl rfl (fun hc => ?_) (fun hc => ?_) <;> (simp only [cmpP] at hc; try exact prIQ))) | (refine opk 8 rfl ?_; (refine ost_storeW H rfl rfl rfl rfl lQ ixQ lQ okQ ?_; clear H; intro wk H; simp only [List.set_cons_zero, List.set_cons_succ, Nat.reduceAdd] at H)) | (refine opk 9 rfl ?_; (refine ost_allocA H rfl ?_; clear H; intro bk wk H))) | refine Wc.seq ?_ | refine then_n ?_ | refine WL.nil ?_ | refine Wc.region ?_ | refine Wc.block ?_ | refine then_r ?_ | refine then_e ?_ | refine inb_e rfl ?_ | refine inb_o rfl ?_ | refine inb_n ?_ | refine inb_r ?_ | refine Wc.skip ?_ | refine Wc.exit ?_ | refine Wc.ret ?_ | refine Wc.cond_true rfl ?_ | refine Wc.cond_false rfl ?_ | refine WL.skp rfl rfl ?_ | refine WL.sku rfl ?_)
    exact fn_ret2 (v2 := .int _ _) rfl (rv_cellA rfl rfl H.bI lQ) rfl ⟨_, _, H.picks [] rfl (by decide), rfl, rfl, _, _, rfl, pickS_2 hx hy (fun h => by cases h)⟩
  · repeat' (first | ((first | refine WL.p rfl ?_ | refine WL.u ?_ | refine WL.g rfl rfl ?_ | refine WL.gu rfl ?_); first | (refine opk 8 rfl ?_; (refine ost_storeW (i := 2) (vs := cSlot x) H rfl rfl rfl rfl rfl rfl rfl (allOne_of rfl) ?_; clear H; intro wk H; simp only [List.set_cons_zero, List.set_cons_succ] at H)) | refine pvQ ?_ | (refine opk 3 rfl ?_; (refine ost_cmp rfl rfl rfl rfl (fun hc => ?_) (fun hc => ?_) <;> (simp only [cmpP] at hc; try exact prIQ))) | (refine opk 4 rfl ?_; (refine ost_cmp rfl rfl rfl rfl (fun hc => ?_) (fun hc => ?_) <;> (simp only [cmpP] at hc; try exact prIQ))) | (refine opk 8 rfl ?_; (refine ost_storeW H rfl rfl rfl rfl lQ ixQ lQ okQ ?_; clear H; intro wk H; simp only [List.set_cons_zero, List.set_cons_succ, Nat.reduceAdd] at H)) | (refine opk 9 rfl ?_; (refine ost_allocA H rfl ?_; clear H; intro bk wk H))) | refine Wc.seq ?_ | refine then_n ?_ | refine WL.nil ?_ | refine Wc.region ?_ | refine Wc.block ?_ | refine then_r ?_ | refine then_e ?_ | refine inb_e rfl ?_ | refine inb_o rfl ?_ | refine inb_n ?_ | refine inb_r ?_ | refine Wc.skip ?_ | refine Wc.exit ?_ | refine Wc.ret ?_ | refine Wc.cond_true rfl ?_ | refine Wc.cond_false rfl ?_ | refine WL.skp rfl rfl ?_ | refine WL.sku rfl ?_)
    exact fn_ret2 (v2 := .int _ _) rfl (rv_cellA rfl rfl H.bI lQ) rfl ⟨_, _, H.picks [] rfl (by decide), rfl, rfl, _, _, rfl, pickS_1 hx hy (fun h => by cases h)⟩
  · by_cases hv : y.ver.toNat ≤ x.ver.toNat
    · repeat' (first | ((first | refine WL.p rfl ?_ | refine WL.u ?_ | refine WL.g rfl rfl ?_ | refine WL.gu rfl ?_); first | (refine opk 8 rfl ?_; (refine ost_storeW (i := 2) (vs := cSlot x) H rfl rfl rfl rfl rfl rfl rfl (allOne_of rfl) ?_; clear H; intro wk H; simp only [List.set_cons_zero, List.set_cons_succ] at H)) | refine pvQ ?_ | (refine opk 3 rfl ?_; (refine ost_cmp rfl rfl rfl rfl (fun hc => ?_) (fun hc => ?_) <;> (simp only [cmpP] at hc; try exact prIQ))) | (refine opk 4 rfl ?_; (refine ost_cmp rfl rfl rfl rfl (fun hc => ?_) (fun hc => ?_) <;> (simp only [cmpP] at hc; try exact prIQ))) | (refine opk 8 rfl ?_; (refine ost_storeW H rfl rfl rfl rfl lQ ixQ lQ okQ ?_; clear H; intro wk H; simp only [List.set_cons_zero, List.set_cons_succ, Nat.reduceAdd] at H)) | (refine opk 9 rfl ?_; (refine ost_allocA H rfl ?_; clear H; intro bk wk H))) | refine Wc.seq ?_ | refine then_n ?_ | refine WL.nil ?_ | refine Wc.region ?_ | refine Wc.block ?_ | refine then_r ?_ | refine then_e ?_ | refine inb_e rfl ?_ | refine inb_o rfl ?_ | refine inb_n ?_ | refine inb_r ?_ | refine Wc.skip ?_ | refine Wc.exit ?_ | refine Wc.ret ?_ | refine Wc.cond_true rfl ?_ | refine Wc.cond_false rfl ?_ | refine WL.skp rfl rfl ?_ | refine WL.sku rfl ?_)
      all_goals first | (exfalso; omega) | exact fn_ret2 (v2 := .int _ _) rfl (rv_cellA rfl rfl H.bI lQ) rfl ⟨_, _, H.picks [] rfl (by decide), rfl, rfl, _, _, rfl, pickS_1 hx hy (fun _ => hv)⟩
    · repeat' (first | ((first | refine WL.p rfl ?_ | refine WL.u ?_ | refine WL.g rfl rfl ?_ | refine WL.gu rfl ?_); first | (refine opk 8 rfl ?_; (refine ost_storeW (i := 2) (vs := cSlot y) H rfl rfl rfl rfl rfl rfl rfl (allOne_of rfl) ?_; clear H; intro wk H; simp only [List.set_cons_zero, List.set_cons_succ] at H)) | refine pvQ ?_ | (refine opk 3 rfl ?_; (refine ost_cmp rfl rfl rfl rfl (fun hc => ?_) (fun hc => ?_) <;> (simp only [cmpP] at hc; try exact prIQ))) | (refine opk 4 rfl ?_; (refine ost_cmp rfl rfl rfl rfl (fun hc => ?_) (fun hc => ?_) <;> (simp only [cmpP] at hc; try exact prIQ))) | (refine opk 8 rfl ?_; (refine ost_storeW H rfl rfl rfl rfl lQ ixQ lQ okQ ?_; clear H; intro wk H; simp only [List.set_cons_zero, List.set_cons_succ, Nat.reduceAdd] at H)) | (refine opk 9 rfl ?_; (refine ost_allocA H rfl ?_; clear H; intro bk wk H))) | refine Wc.seq ?_ | refine then_n ?_ | refine WL.nil ?_ | refine Wc.region ?_ | refine Wc.block ?_ | refine then_r ?_ | refine then_e ?_ | refine inb_e rfl ?_ | refine inb_o rfl ?_ | refine inb_n ?_ | refine inb_r ?_ | refine Wc.skip ?_ | refine Wc.exit ?_ | refine Wc.ret ?_ | refine Wc.cond_true rfl ?_ | refine Wc.cond_false rfl ?_ | refine WL.skp rfl rfl ?_ | refine WL.sku rfl ?_)
      all_goals first | (exfalso; omega) | exact fn_ret2 (v2 := .int _ _) rfl (rv_cellA rfl rfl H.bI lQ) rfl ⟨_, _, H.picks [] rfl (by decide), rfl, rfl, _, _, rfl, pickS_2 hx hy (fun _ => by omega)⟩
end Go.Tg

set_option linter.unusedVariables false
set_option linter.unusedSimpArgs false
set_option maxRecDepth 100000
set_option maxHeartbeats 4000000
namespace Go.Tg
open Go Go.Proofs
noncomputable def pageAt (b : List UInt8) (i : Nat) : Option PageT :=
  if i < b.length ∧ (firstF (b.drop i)).2.2 = 0 ∧ (decP ((b.drop i).take (firstF (b.drop i)).2.1)).2 = 0 then some (decP ((b.drop i).take (firstF (b.drop i)).2.1)).1 else none
def itemsP (p : PageT) : List ItemT := (p.keys.zip p.locs).map fun x => ⟨x.1, x.2⟩
theorem decP_shape {b : List UInt8} (h : (decP b).2 = 0) : (decP b).1.locs.length ≤ (decP b).1.keys.length ∧ (decP b).1.keys.length ≤ 8 ∧ (decP b).1.kids.length ≤ 8 := by
  rcases decP_spec b with ⟨h1, h2, h3⟩ | ⟨h1, h2, h3⟩
  · have hs := (rightP_iff.1 h2).2
    unfold shapeP at hs
    split at hs <;> omega
  · rw [h] at h1; cases h1
theorem itemsP_len {p : PageT} (h : p.locs.length ≤ p.keys.length) : (itemsP p).length = p.locs.length := by
  unfold itemsP; rw [List.length_map, List.length_zip]; omega
theorem itemsP_get {p : PageT} {i : Nat} (h1 : i < p.keys.length) (h2 : i < p.locs.length) : (itemsP p)[i]? = some ⟨p.keys[i], p.locs[i]⟩ := by
  unfold itemsP
  rw [List.getElem?_map, List.getElem?_eq_getElem (by rw [List.length_zip]; omega), List.getElem_zip]; rfl
theorem itemsP_take {p : PageT} {i : Nat} (h1 : i < p.keys.length) (h2 : i < p.locs.length) : (itemsP p).take (i + 1) = (itemsP p).take i ++ [⟨p.keys[i], p.locs[i]⟩] := by
  rw [List.take_add_one, itemsP_get h1 h2]; rfl
noncomputable def rdF (b : List UInt8) : Nat → List Nat → Option (List ItemT × Nat)
  | left, [] => some ([], left)
  | 0, _ :: _ => none
  | left + 1, i :: l => match pageAt b i with
    | none => none
    | some p => match rdF b left (p.kids.map (·.toNat) ++ l) with
      | none => none
      | some r => some (itemsP p ++ r.1, r.2)
theorem rdF_nil (b : List UInt8) (left : Nat) : rdF b left [] = some ([], left) := by cases left <;> simp [rdF]
theorem rdF_zero (b : List UInt8) (i : Nat) (l : List Nat) : rdF b 0 (i :: l) = none := by simp [rdF]
theorem rdF_no {b : List UInt8} {i : Nat} (h : pageAt b i = none) (left : Nat) (l : List Nat) : rdF b left (i :: l) = none := by
  cases left with
  | zero => exact rdF_zero b i l
  | succ n => simp [rdF, h]
theorem rdF_page {b : List UInt8} {i : Nat} {p : PageT} (h : pageAt b i = some p) (left : Nat) (l : List Nat) : rdF b (left + 1) (i :: l) = (rdF b left (p.kids.map (·.toNat) ++ l)).map fun r => (itemsP p ++ r.1, r.2) := by
  simp only [rdF, h]
  cases rdF b left (p.kids.map (·.toNat) ++ l) <;> rfl
theorem rdF_app (b : List UInt8) : ∀ (left : Nat) (xs ys : List Nat), rdF b left (xs ++ ys) = (rdF b left xs).bind fun r => (rdF b r.2 ys).map fun s => (r.1 ++ s.1, s.2)
  | left, [], ys => by
    rw [rdF_nil]
    cases h : rdF b left ys <;> simp [h]
  | 0, x :: xs, ys => by rw [List.cons_append, rdF_zero, rdF_zero]; rfl
  | left + 1, x :: xs, ys => by
    rw [List.cons_append]
    cases h : pageAt b x with
    | none => rw [rdF_no h, rdF_no h]; rfl
    | some p =>
      rw [rdF_page h, rdF_page h, ← List.append_assoc, rdF_app b left _ ys]
      cases rdF b left (p.kids.map (·.toNat) ++ xs) with
      | none => rfl
      | some r =>
        simp only [Option.bind_some, Option.map_some]
        cases rdF b r.2 ys with
        | none => rfl
        | some s => simp
theorem pageAt_shape {b : List UInt8} {i : Nat} {p : PageT} (h : pageAt b i = some p) : p.locs.length ≤ p.keys.length ∧ p.keys.length ≤ 8 ∧ p.kids.length ≤ 8 := by
  unfold pageAt at h
  split at h
  · rename_i h9
    cases h
    exact decP_shape h9.2.2
  · cases h
theorem rdF_len (b : List UInt8) : ∀ (left : Nat) (l : List Nat) (r : List ItemT × Nat), rdF b left l = some r → r.2 ≤ left ∧ r.1.length + 8 * r.2 ≤ 8 * left
  | left, [], r, h => by rw [rdF_nil] at h; cases h; simp
  | 0, x :: xs, r, h => by rw [rdF_zero] at h; cases h
  | left + 1, x :: xs, r, h => by
    cases hp : pageAt b x with
    | none => rw [rdF_no hp] at h; cases h
    | some p =>
      rw [rdF_page hp] at h
      cases hq : rdF b left (p.kids.map (·.toNat) ++ xs) with
      | none => rw [hq] at h; cases h
      | some s =>
        rw [hq] at h; cases h
        obtain ⟨h1, h2⟩ := rdF_len b left _ s hq
        obtain ⟨h3, h4, _⟩ := pageAt_shape hp
        have := itemsP_len h3
        simp only [List.length_append]
        omega
theorem pageAt_no1 {b : List UInt8} {i : Nat} (h : ¬ i < b.length) : pageAt b i = none := by unfold pageAt; rw [if_neg fun h9 => h h9.1]
theorem pageAt_no2 {b : List UInt8} {i : Nat} (h : (firstF (b.drop i)).2.2 ≠ 0) : pageAt b i = none := by unfold pageAt; rw [if_neg fun h9 => h h9.2.1]
theorem pageAt_no3 {b : List UInt8} {i : Nat} (h : (decP ((b.drop i).take (firstF (b.drop i)).2.1)).2 ≠ 0) : pageAt b i = none := by unfold pageAt; rw [if_neg fun h9 => h h9.2.2]
theorem pageAt_yes {b : List UInt8} {i : Nat} (h1 : i < b.length) (h2 : (firstF (b.drop i)).2.2 = 0) (h3 : (decP ((b.drop i).take (firstF (b.drop i)).2.1)).2 = 0) : pageAt b i = some (decP ((b.drop i).take (firstF (b.drop i)).2.1)).1 := by
  unfold pageAt; rw [if_pos ⟨h1, h2, h3⟩]
noncomputable def loadL (b : List UInt8) (s : SlotT) : List ItemT × Int :=
  if b.length < s.end_.toNat then ([], 4) else
  match rdF (b.take s.end_.toNat) 8192 [s.at_.toNat] with
  | none => ([], 15)
  | some r => if dcd (r.1.length ≤ 4096 ∧ ∃ base : Nat, base ≤ s.end_.toNat ∧ dumpM r.1 s.ver base = ((b.take s.end_.toNat).drop base, s, 0)) = true then (r.1, 0) else ([], 15)
theorem dumpM_err (l : List ItemT) (v v' : UInt64) {x y : Nat} (hx : x ≤ 1073741824) (hy : y ≤ 1073741824) : (dumpM l v x).2.2 = (dumpM l v' y).2.2 := by
  cases hr : riseL l with
  | false =>
    unfold dumpM
    rw [if_pos (.inr (.inr hr)), if_pos (.inr (.inr hr))]
  | true =>
    unfold dumpM
    have h1 : ¬ ((x : Int) < 0 ∨ 1073741824 < (x : Int) ∨ riseL l = false) := by rw [hr]; simp; omega
    have h2 : ¬ ((y : Int) < 0 ∨ 1073741824 < (y : Int) ∨ riseL l = false) := by rw [hr]; simp; omega
    simp only [if_neg h1, if_neg h2]
    split <;> rfl
theorem dumpM_ok {l : List ItemT} {v : UInt64} {x : Nat} (h : (dumpM l v x).2.2 = 0) : riseL l = true ∧ l.length ≤ 4096 := by
  unfold dumpM at h
  split at h
  · cases h
  · rename_i h9
    split at h
    · cases h
    · refine ⟨?_, by omega⟩
      cases hr : riseL l with
      | true => rfl
      | false => exact absurd (.inr (.inr hr)) h9
end Go.Tg

