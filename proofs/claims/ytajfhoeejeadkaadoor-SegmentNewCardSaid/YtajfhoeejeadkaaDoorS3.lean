/- Contracts of Go functions that the laws reach: what each call answers and leaves in memory, for all arguments within the bounds that each theorem names. -/
import Derived.Test.YtajfhoeejeadkaaDoorInst
import Derived.Test.YtajfhoeejeadkaaDoorAuto
import Derived.Test.YtajfhoeejeadkaaDoorQ8
import Derived.Test.YtajfhoeejeadkaaDoorS1
set_option linter.unusedVariables false
set_option linter.unusedSimpArgs false
set_option maxRecDepth 100000
set_option maxHeartbeats 4000000
namespace Go.Tg
open Go Go.Proofs
theorem op_Decode (h0 : FH) (a : Option Addr) (c : Nat) (b : List UInt8) (w : World) (hs : Sat h0 w) (hr : BS h0 a c b) (hb : b.length ≤ 1000000) :
    SpecV Tryd.prog 127 #[.slice a b.length c] w (.tuple #[.agg (cOp (decO b).1).toArray, .int .i64 (decO b).2]) := by
  have H := St.start hs
  unfold SpecV
  refine calls_of Tryd.func127 rfl Tryd.ntmps127 (by simp) ?_
  repeat' (first | ((first | refine WL.p rfl ?_ | refine WL.u ?_ | refine WL.g rfl rfl ?_ | refine WL.gu rfl ?_); first | refine pvQ ?_ | (refine opk 3 rfl ?_; (refine ost_cmp rfl rfl rfl rfl (fun hc => ?_) (fun hc => ?_) <;> (simp only [cmpP] at hc; try exact prIQ))) | (refine opk 4 rfl ?_; (refine ost_cmp rfl rfl rfl rfl (fun hc => ?_) (fun hc => ?_) <;> (simp only [cmpP] at hc; try exact prIQ))) | (refine opk 8 rfl ?_; first | (refine ost_store1 H rfl rfl vlQ gvQ ixQ (by first | decide | (simp; omega) | (simp; done) | omega) ?_; clear H; intro wk H; simp only [List.set_cons_zero, List.set_cons_succ, Nat.reduceAdd] at H) | (refine ost_storeW H rfl rfl rfl rfl lQ ixQ lQ okQ ?_; clear H; intro wk H; simp only [List.set_cons_zero, List.set_cons_succ, Nat.reduceAdd] at H)) | (refine opk 9 rfl ?_; first | (refine ost_boxq H rfl ?_; clear H; intro bk wk H) | (refine ost_allocA H rfl ?_; clear H; intro bk wk H))) | refine Wc.seq ?_ | refine then_n ?_ | refine WL.nil ?_ | refine Wc.region ?_ | refine Wc.block ?_ | refine then_r ?_ | refine then_e ?_ | refine inb_e rfl ?_ | refine inb_o rfl ?_ | refine inb_n ?_ | refine inb_r ?_ | refine Wc.skip ?_ | refine Wc.exit ?_ | refine Wc.ret ?_ | refine Wc.cond_true rfl ?_ | refine Wc.cond_false rfl ?_ | refine WL.skp rfl rfl ?_ | refine WL.sku rfl ?_)
  generalize bk = b2 at H ⊢
  repeat' (first | ((first | refine WL.p rfl ?_ | refine WL.u ?_ | refine WL.g rfl rfl ?_ | refine WL.gu rfl ?_); first | (refine opk 1 rfl ?_; (refine ost_Sk H rfl (pack_Read _ _ _ _ _ H.sat hr (by omega)) rfl ?_; clear H; rintro vk wk hfk Lk ⟨b1, a1, c1, rfl, hr1, rfl⟩ hle H; simp only [List.cons_append, List.nil_append] at H)) | refine pvQ ?_ | (refine opk 3 rfl ?_; (refine ost_cmp rfl rfl rfl rfl (fun hc => ?_) (fun hc => ?_) <;> (simp only [cmpP] at hc; try exact prIQ))) | (refine opk 4 rfl ?_; (refine ost_cmp rfl rfl rfl rfl (fun hc => ?_) (fun hc => ?_) <;> (simp only [cmpP] at hc; try exact prIQ))) | (refine opk 8 rfl ?_; first | (refine ost_store1 H rfl rfl vlQ gvQ ixQ (by first | decide | (simp; omega) | (simp; done) | omega) ?_; clear H; intro wk H; simp only [List.set_cons_zero, List.set_cons_succ, Nat.reduceAdd] at H) | (refine ost_storeW H rfl rfl rfl rfl lQ ixQ lQ okQ ?_; clear H; intro wk H; simp only [List.set_cons_zero, List.set_cons_succ, Nat.reduceAdd] at H)) | (refine opk 9 rfl ?_; first | (refine ost_boxq H rfl ?_; clear H; intro bk wk H) | (refine ost_allocA H rfl ?_; clear H; intro bk wk H))) | refine Wc.seq ?_ | refine then_n ?_ | refine WL.nil ?_ | refine Wc.region ?_ | refine Wc.block ?_ | refine then_r ?_ | refine then_e ?_ | refine inb_e rfl ?_ | refine inb_o rfl ?_ | refine inb_n ?_ | refine inb_r ?_ | refine Wc.skip ?_ | refine Wc.exit ?_ | refine Wc.ret ?_ | refine Wc.cond_true rfl ?_ | refine Wc.cond_false rfl ?_ | refine WL.skp rfl rfl ?_ | refine WL.sku rfl ?_)
  rename_i bt _
  replace H : St w [] h0 hfk [tkr bt b1 ⟨0, b, false⟩ a1 c1, .blk bk (.cells (cOp zeroO).toArray 67 (0, 0)), .blk b2 (.cells (cOp zeroO).toArray 67 (0, 0))] wk := (((H.front 1 rfl).front 2 rfl).front 1 rfl).join
  have z23 := cOp_len zeroO
  repeat' (first | ((first | refine WL.p rfl ?_ | refine WL.u ?_ | refine WL.g rfl rfl ?_ | refine WL.gu rfl ?_); first | (refine opk 1 rfl ?_; first | (refine ost_H (A := tkr _ _ _ _ _) H rfl (by (exact ixQ)) (fun HO => tk_num8 _ _ _ _ _ _ _ HO (by assumption)) rfl ?_; clear H; rintro vk wk hfk Lk ⟨rfl, rfl, a2, c2, hr2, rfl⟩ hle H; simp only [List.cons_append, List.nil_append, List.eraseIdx_cons_zero, List.eraseIdx_cons_succ] at H) | (refine ost_H (A := tkr _ _ _ _ _) H rfl (by (exact ixQ)) (fun HO => tk_num16 _ _ _ _ _ _ _ HO (by assumption)) rfl ?_; clear H; rintro vk wk hfk Lk ⟨rfl, rfl, a2, c2, hr2, rfl⟩ hle H; simp only [List.cons_append, List.nil_append, List.eraseIdx_cons_zero, List.eraseIdx_cons_succ] at H) | (refine ost_H (A := tkr _ _ _ _ _) H rfl (by (exact ixQ)) (fun HO => tk_num32 _ _ _ _ _ _ _ HO (by assumption)) rfl ?_; clear H; rintro vk wk hfk Lk ⟨rfl, rfl, a2, c2, hr2, rfl⟩ hle H; simp only [List.cons_append, List.nil_append, List.eraseIdx_cons_zero, List.eraseIdx_cons_succ] at H)) | refine pvQ ?_ | (refine opk 3 rfl ?_; (refine ost_cmp rfl rfl rfl rfl (fun hc => ?_) (fun hc => ?_) <;> (simp only [cmpP] at hc; try exact prIQ))) | (refine opk 4 rfl ?_; (refine ost_cmp rfl rfl rfl rfl (fun hc => ?_) (fun hc => ?_) <;> (simp only [cmpP] at hc; try exact prIQ))) | (refine opk 8 rfl ?_; first | (refine ost_store1 H rfl rfl vlQ gvQ ixQ (by first | decide | (simp; omega) | (simp; done) | omega) ?_; clear H; intro wk H; simp only [List.set_cons_zero, List.set_cons_succ, Nat.reduceAdd] at H) | (refine ost_storeW H rfl rfl rfl rfl lQ ixQ lQ okQ ?_; clear H; intro wk H; simp only [List.set_cons_zero, List.set_cons_succ, Nat.reduceAdd] at H)) | (refine opk 9 rfl ?_; first | (refine ost_boxq H rfl ?_; clear H; intro bk wk H) | (refine ost_allocA H rfl ?_; clear H; intro bk wk H))) | refine Wc.seq ?_ | refine then_n ?_ | refine WL.nil ?_ | refine Wc.region ?_ | refine Wc.block ?_ | refine then_r ?_ | refine then_e ?_ | refine inb_e rfl ?_ | refine inb_o rfl ?_ | refine inb_n ?_ | refine inb_r ?_ | refine Wc.skip ?_ | refine Wc.exit ?_ | refine Wc.ret ?_ | refine Wc.cond_true rfl ?_ | refine Wc.cond_false rfl ?_ | refine WL.skp rfl rfl ?_ | refine WL.sku rfl ?_)
  have h7 := tk7_len b 7
  have hF : ∀ u, rightO u 16 = true → encO u = b → (∀ v, opN (fun i => tkN (tk7 b i)) v = { u with ctx := v }) ∧ tk7 b 7 = ⟨0, fieldB (encV u.ctx), false⟩ := fun u _ hu => ⟨fun v => by
    have := opN_of { u with ctx := v } (f := fun i => tkN (tk7 b i)) (fun k hk => tk7_num hu hk)
    exact this, tk7_end hu⟩
  have hS : ∀ v, (tk7 b 7).bad = false → (tk7 b 7).e = 0 → (tk7 b 7).xs = fieldB (encV v) → encO (opN (fun i => tkN (tk7 b i)) v) = b := fun v hb he hx => by
    have h1 := tk7_sound hb he 7 (by omega)
    rw [hx] at h1
    rw [opN_enc (fun k hk => tk7_lt hb he hk)]
    exact h1.symm
  have no5 : (∀ u, rightO u 16 = true → encO u ≠ b) → Value.tuple #[.agg (cOp zeroO).toArray, .int .i64 5] = .tuple #[.agg (cOp (decO b).1).toArray, .int .i64 (decO b).2] := fun hu => decO_fin (.inr ⟨rfl, rfl, hu⟩) rfl
  replace H : St w [] h0 hfk [tkr bt b1 (tk7 b 7) a2 c2, .blk bk (.cells (cOp (opN (fun i => tkN (tk7 b i)) fun _ => 0)).toArray 67 (0, 0)), .blk b2 (.cells (cOp zeroO).toArray 67 (0, 0))] wk := by
    rw [u8_wrap, u8_wrap, u16_wrap, u16_wrap, u16_wrap, u32_wrap2, u32_wrap2] at H
    exact H
  replace hr2 : BS hfk a2 c2 (tk7 b 7).xs := hr2
  generalize tk7 b 7 = u7 at *
  generalize (fun i => tkN (tk7 b i)) = f at *
  clear hr1
  replace H := H.split
  have lx := cOp_len (opN f fun _ => 0)
  have hB : ∀ u, rightO u 16 = true → encO u = b → u7.bad = false ∧ bytesE u7.e u7.xs = (encV u.ctx, 0, 0, []) := fun u hr hu => by
    obtain ⟨-, h2⟩ := hF u hr hu
    have := bytesE_fieldB (encV u.ctx) [] (by have := encV_len u.ctx; omega)
    rw [List.append_nil] at this
    rw [h2]; exact ⟨rfl, this⟩
  have hI := bytesE_inv (xs := u7.xs)
  have hJ := bytesE_err (e := u7.e) (xs := u7.xs)
  have hK := bytesE_len u7.e u7.xs
  repeat' (first | ((first | refine WL.p rfl ?_ | refine WL.u ?_ | refine WL.g rfl rfl ?_ | refine WL.gu rfl ?_); first | (refine opk 1 rfl ?_; (refine ost_H (A := rdr _ _ _ _ _ _) H rfl (by (exact ixQ)) (fun HO => rd_Bytes _ _ _ _ _ _ _ HO hr2 (by omega)) rfl ?_; clear H; rintro vk wk hfk Lk ⟨a3, c3, a4, c4, rfl, rfl, hr5, rfl⟩ hle H; simp only [List.cons_append, List.nil_append, List.eraseIdx_cons_zero, List.eraseIdx_cons_succ] at H)) | refine pvQ ?_ | (refine opk 3 rfl ?_; (refine ost_cmp rfl rfl rfl rfl (fun hc => ?_) (fun hc => ?_) <;> (simp only [cmpP] at hc; try exact prIQ))) | (refine opk 4 rfl ?_; (refine ost_cmp rfl rfl rfl rfl (fun hc => ?_) (fun hc => ?_) <;> (simp only [cmpP] at hc; try exact prIQ))) | (refine opk 8 rfl ?_; first | (refine ost_store1 H rfl rfl vlQ gvQ ixQ (by first | decide | (simp; omega) | (simp; done) | omega) ?_; clear H; intro wk H; simp only [List.set_cons_zero, List.set_cons_succ, Nat.reduceAdd] at H) | (refine ost_storeW H rfl rfl rfl rfl lQ ixQ lQ okQ ?_; clear H; intro wk H; simp only [List.set_cons_zero, List.set_cons_succ, Nat.reduceAdd] at H)) | (refine opk 9 rfl ?_; first | (refine ost_boxq H rfl ?_; clear H; intro bk wk H) | (refine ost_allocA H rfl ?_; clear H; intro bk wk H))) | refine Wc.seq ?_ | refine then_n ?_ | refine WL.nil ?_ | refine Wc.region ?_ | refine Wc.block ?_ | refine then_r ?_ | refine then_e ?_ | refine inb_e rfl ?_ | refine inb_o rfl ?_ | refine inb_n ?_ | refine inb_r ?_ | refine Wc.skip ?_ | refine Wc.exit ?_ | refine Wc.ret ?_ | refine Wc.cond_true rfl ?_ | refine Wc.cond_false rfl ?_ | refine WL.skp rfl rfl ?_ | refine WL.sku rfl ?_)
  · refine fn_ret2 (v2 := .int _ _) rfl (rv_cellA rfl rfl H.bI lQ) rfl ⟨no5 fun u hr hu => ?_, H.fr⟩
    rw [(hB u hr hu).2] at hc; exact hc rfl
  · obtain ⟨a6, c6, h6, e6, hle6, hr6, H⟩ := H.freeze8
    cases e6
    have h9 : (bytesE u7.e u7.xs).2.1 = 0 := Classical.not_not.1 hc
    have he0 := hJ h9
    have hI : u7.xs = fieldB (bytesE u7.e u7.xs).1 ++ (bytesE u7.e u7.xs).2.2.2 := by
      rw [he0] at h9 ⊢; exact hI h9
    cases hbad : u7.bad with
    | true =>
      repeat' (first | ((first | refine WL.p rfl ?_ | refine WL.u ?_ | refine WL.g rfl rfl ?_ | refine WL.gu rfl ?_); first | refine pvQ ?_ | (refine opk 3 rfl ?_; (refine ost_cmp rfl rfl rfl rfl (fun hc => ?_) (fun hc => ?_) <;> (simp only [cmpP] at hc; try exact prIQ))) | (refine opk 4 rfl ?_; (refine ost_cmp rfl rfl rfl rfl (fun hc => ?_) (fun hc => ?_) <;> (simp only [cmpP] at hc; try exact prIQ))) | (refine opk 8 rfl ?_; first | (refine ost_store1 H rfl rfl vlQ gvQ ixQ (by first | decide | (simp; omega) | (simp; done) | omega) ?_; clear H; intro wk H; simp only [List.set_cons_zero, List.set_cons_succ, Nat.reduceAdd] at H) | (refine ost_storeW H rfl rfl rfl rfl lQ ixQ lQ okQ ?_; clear H; intro wk H; simp only [List.set_cons_zero, List.set_cons_succ, Nat.reduceAdd] at H)) | (refine opk 9 rfl ?_; first | (refine ost_boxq H rfl ?_; clear H; intro bk wk H) | (refine ost_allocA H rfl ?_; clear H; intro bk wk H))) | refine Wc.seq ?_ | refine then_n ?_ | refine WL.nil ?_ | refine Wc.region ?_ | refine Wc.block ?_ | refine then_r ?_ | refine then_e ?_ | refine inb_e rfl ?_ | refine inb_o rfl ?_ | refine inb_n ?_ | refine inb_r ?_ | refine Wc.skip ?_ | refine Wc.exit ?_ | refine Wc.ret ?_ | refine Wc.cond_true rfl ?_ | refine Wc.cond_false rfl ?_ | refine WL.skp rfl rfl ?_ | refine WL.sku rfl ?_)
      refine fn_ret2 (v2 := .int _ _) rfl (rv_cellA rfl rfl H.bI lQ) rfl ⟨no5 fun u hr hu => ?_, H.fr⟩
      rw [(hB u hr hu).1] at hbad; cases hbad
    | false =>
      have lo := fun v => cOp_len (opN f v)
      repeat' (first | ((first | refine WL.p rfl ?_ | refine WL.u ?_ | refine WL.g rfl rfl ?_ | refine WL.gu rfl ?_); first | (refine opk 1 rfl ?_; (refine ost_VB H rfl (rd_Done _ _ _ _ _ _ H.bI) rfl ?_ ?_ <;> (intro hc; (try (first | exact (bcon hc ‹_›).elim | exact (bcon ‹_› hc).elim)); try (clear H; intro wk H)))) | refine pvQ ?_ | (refine opk 3 rfl ?_; (refine ost_cmp rfl rfl rfl rfl (fun hc => ?_) (fun hc => ?_) <;> (simp only [cmpP] at hc; try exact prIQ))) | (refine opk 4 rfl ?_; (refine ost_cmp rfl rfl rfl rfl (fun hc => ?_) (fun hc => ?_) <;> (simp only [cmpP] at hc; try exact prIQ))) | (refine opk 8 rfl ?_; first | (refine ost_store1 H rfl rfl vlQ gvQ ixQ (by first | decide | (simp; omega) | (simp; done) | omega) ?_; clear H; intro wk H; simp only [List.set_cons_zero, List.set_cons_succ, Nat.reduceAdd] at H) | (refine ost_storeW H rfl rfl rfl rfl lQ ixQ lQ okQ ?_; clear H; intro wk H; simp only [List.set_cons_zero, List.set_cons_succ, Nat.reduceAdd] at H)) | (refine opk 9 rfl ?_; first | (refine ost_boxq H rfl ?_; clear H; intro bk wk H) | (refine ost_allocA H rfl ?_; clear H; intro bk wk H))) | refine Wc.seq ?_ | refine then_n ?_ | refine WL.nil ?_ | refine Wc.region ?_ | refine Wc.block ?_ | refine then_r ?_ | refine then_e ?_ | refine inb_e rfl ?_ | refine inb_o rfl ?_ | refine inb_n ?_ | refine inb_r ?_ | refine Wc.skip ?_ | refine Wc.exit ?_ | refine Wc.ret ?_ | refine Wc.cond_true rfl ?_ | refine Wc.cond_false rfl ?_ | refine WL.skp rfl rfl ?_ | refine WL.sku rfl ?_)
      · have hd : (bytesE u7.e u7.xs).2.2.1 = 0 ∧ (bytesE u7.e u7.xs).2.2.2 = [] := by
          simp only [Bool.and_eq_true, decide_eq_true_eq, List.length_eq_zero_iff] at hc; exact hc
        rw [hd.2, List.append_nil] at hI
        have hY : ∀ u, rightO u 16 = true → encO u = b → (bytesE u7.e u7.xs).1 = encV u.ctx := fun u hr hu => by rw [(hB u hr hu).2]
        generalize hys : (bytesE u7.e u7.xs).1 = ys
        rw [hys] at hI hY hK hr6
        have hD := decV_spec ys
        have hE : ∀ u, rightO u 16 = true → encO u = b → decV ys = (u.ctx, 0) := fun u hr hu => by rw [hY u hr hu]; exact decV_enc _
        have hv := vec_Decode h6 a3 c3 ys
        generalize hDD : decV ys = D
        rw [hDD] at hD hv
        simp only [hDD] at hE
        repeat' (first | ((first | refine WL.p rfl ?_ | refine WL.u ?_ | refine WL.g rfl rfl ?_ | refine WL.gu rfl ?_); first | (refine opk 1 rfl ?_; first | (refine ost_V H rfl (hv _ H.sat hr6 (by omega)) rfl ?_; clear H; intro wk H) | (refine ost_VB H rfl (op_Right _ _ _) rfl ?_ ?_ <;> (intro hc; (try (first | exact (bcon hc ‹_›).elim | exact (bcon ‹_› hc).elim)); try (clear H; intro wk H)))) | (refine opk 8 rfl ?_; (refine ost_storeA (vs := cV D.1) (l := cOp (opN f fun _ => 0)) H rfl rfl rfl (cV_one _) (cV_len _) idx2 (by rw [cV_len, cOp_len]; omega) ?_; clear H; intro wk H; simp only [List.set_cons_zero, List.set_cons_succ] at H; rw [cOp_put] at H)) | refine pvQ ?_ | (refine opk 3 rfl ?_; (refine ost_cmp rfl rfl rfl rfl (fun hc => ?_) (fun hc => ?_) <;> (simp only [cmpP] at hc; try exact prIQ))) | (refine opk 4 rfl ?_; (refine ost_cmp rfl rfl rfl rfl (fun hc => ?_) (fun hc => ?_) <;> (simp only [cmpP] at hc; try exact prIQ))) | (refine opk 8 rfl ?_; first | (refine ost_store1 H rfl rfl vlQ gvQ ixQ (by first | decide | (simp; omega) | (simp; done) | omega) ?_; clear H; intro wk H; simp only [List.set_cons_zero, List.set_cons_succ, Nat.reduceAdd] at H) | (refine ost_storeW H rfl rfl rfl rfl lQ ixQ lQ okQ ?_; clear H; intro wk H; simp only [List.set_cons_zero, List.set_cons_succ, Nat.reduceAdd] at H)) | (refine opk 9 rfl ?_; first | (refine ost_boxq H rfl ?_; clear H; intro bk wk H) | (refine ost_allocA H rfl ?_; clear H; intro bk wk H))) | refine Wc.seq ?_ | refine then_n ?_ | refine WL.nil ?_ | refine Wc.region ?_ | refine Wc.block ?_ | refine then_r ?_ | refine then_e ?_ | refine inb_e rfl ?_ | refine inb_o rfl ?_ | refine inb_n ?_ | refine inb_r ?_ | refine Wc.skip ?_ | refine Wc.exit ?_ | refine Wc.ret ?_ | refine Wc.cond_true rfl ?_ | refine Wc.cond_false rfl ?_ | refine WL.skp rfl rfl ?_ | refine WL.sku rfl ?_)
        · refine fn_ret2 (v2 := .int _ _) rfl (rv_cellA rfl rfl H.bI lQ) rfl ⟨no5 fun u hr hu => ?_, H.fr⟩
          have := hE u hr hu
          rw [this] at hc; exact hc rfl
        · have hc : rightO (opN f D.1) 16 = true := hc
          have hD2 : D.2 = 0 := Classical.not_not.1 ‹_›
          refine fn_ret2 (v2 := .int _ _) rfl (rv_cellA rfl rfl H.bI lQ) rfl ⟨decO_fin (.inl ⟨rfl, hc, hS D.1 hbad he0 ?_⟩) rfl, H.fr⟩
          rcases hD with ⟨-, h⟩ | ⟨h, -⟩
          · rw [h, hI]
          · rw [hD2] at h; exact absurd h (by decide)
        · refine fn_ret2 (v2 := .int _ _) rfl (rv_cellA rfl rfl H.bI lQ) rfl ⟨no5 fun u hr hu => ?_, H.fr⟩
          have hc : rightO (opN f D.1) 16 = false := hc
          have h1 := hE u hr hu
          have h2 := (hF u hr hu).1 D.1
          rw [h2, h1] at hc
          rw [show ({ u with ctx := (u.ctx, (0 : Int)).1 } : OpT) = u from rfl, hr] at hc
          cases hc
      · refine fn_ret2 (v2 := .int _ _) rfl (rv_cellA rfl rfl H.bI lQ) rfl ⟨no5 fun u hr hu => ?_, H.fr⟩
        rw [(hB u hr hu).2] at hc; simp at hc
end Go.Tg

set_option linter.unusedVariables false
set_option linter.unusedSimpArgs false
set_option maxRecDepth 100000
set_option maxHeartbeats 4000000
namespace Go.Tg
open Go Go.Proofs
theorem seg_wrapped (kind : Nat) (hk : kind < 1000) (fc bc : Nat) [Fun Tryd.prog fc] (F : List UInt8) (hF : F.length ≤ 4000) (h0 : FH) (w : World) (hs : Sat h0 w) (hT : Half h0)
    (hlay : ∀ (b : Nat) (v : Value) (xs : List UInt8) (g : FH) (w : World), FLe h0 g → xs.length ≤ 20 → St w (wr b true 0 v xs).fp g g [wr b true 0 v xs] w → Spec Tryd.prog fc #[pt b, pt bc] w (wr b true 0 v xs).fp g (fun v' h' L' => v' = .tuple #[] ∧ ∃ v2, L' = [wr b true 0 v2 (xs ++ F)])) :
    Spec Tryd.prog 76 #[.int .u64 kind, .func (.func fc) [].toArray [pt bc].toArray] w [] h0 (fun v h' L' => ∃ a' c', v = .slice a' (wrapB (putB kind ++ F)).length c' ∧ L' = [own8 v 5 (wrapB (putB kind ++ F))]) := by
  have H := St.start hs
  have hp := putB_len kind
  have hl : (putB kind ++ F).length ≤ 4011 := by rw [List.length_append]; omega
  unfold Spec
  refine calls_of Tryd.func76 rfl Tryd.ntmps76 (by simp) ?_
  repeat' (first | ((first | refine WL.p rfl ?_ | refine WL.u ?_); first | (refine opk 1 rfl ?_; first | (refine ost_C H rfl (pack_New _ _ (sat_full _)) rfl ?_; clear H; rintro vk wk hfk Lk ⟨b1, rfl, rfl⟩ H; simp only [List.cons_append, List.nil_append] at H) | (refine ost_O (A := wr _ _ _ _ _) H rfl (by (exact ixQ)) (fun HO => pack_NumK _ _ _ _ _ HO kind (by omega) (by decide)) rfl ?_; clear H; rintro vk wk hfk Lk ⟨rfl, v3, rfl⟩ H; simp only [List.cons_append, List.nil_append, List.eraseIdx_cons_zero, List.eraseIdx_cons_succ] at H) | (refine ost_OE (A := wr _ _ _ _ _) H (ent_v rfl rfl rfl) (by (exact ixQ)) (fun HO => hlay _ _ _ _ _ (H.less ixQ) (by (try simp only [List.nil_append]); omega) HO) ?_; clear H; rintro vk wk hfk Lk ⟨rfl, v4, rfl⟩ H; simp only [List.cons_append, List.nil_append, List.eraseIdx_cons_zero, List.eraseIdx_cons_succ] at H) | (refine ost_O (A := wr _ _ _ _ _) H rfl (by (exact ixQ)) (fun HO => pack_All0 _ _ _ _ _ _ HO (by (try simp only [List.nil_append]); omega) rfl) rfl ?_; clear H; rintro vk wk hfk Lk ⟨a4, c4, rfl, _, rfl⟩ H; simp only [List.cons_append, List.nil_append, List.eraseIdx_cons_zero, List.eraseIdx_cons_succ] at H) | (refine ost_C H rfl (frame_WrapK _ _ _ (putB kind ++ F) _ (sat_full _) (hT.full H) (H.own8rd (i := 0) rfl) (by omega)) rfl ?_; clear H; rintro vk wk hfk Lk ⟨a5, c5, rfl, _, rfl⟩ H; simp only [List.cons_append, List.nil_append] at H)) | refine pvQ ?_) | refine Wc.seq ?_ | refine then_n ?_ | refine WL.nil ?_ | refine Wc.region ?_ | refine Wc.block ?_ | refine then_r ?_ | refine then_e ?_ | refine inb_e rfl ?_ | refine inb_o rfl ?_ | refine inb_n ?_ | refine inb_r ?_ | refine Wc.skip ?_ | refine Wc.exit ?_ | refine Wc.ret ?_ | refine Wc.cond_true rfl ?_ | refine Wc.cond_false rfl ?_)
  exact fn_ret1 (v := .slice _ _ _) rfl rfl ⟨_, _, H.pick 0 rfl, _, _, rfl, rfl⟩
theorem seg_Head1 (id : UInt32) (b bc : Nat) (v : Value) (xs : List UInt8) (g : FH) (w : World) (HO : St w (wr b true 0 v xs).fp g g [wr b true 0 v xs] w) (hx : xs.length ≤ 20) {T : TypeId} {fr : Nat × Nat} (hb : g bc = some (.cells [.int .u32 id.toNat].toArray T fr)) :
    Spec Tryd.prog 83 #[pt b, pt bc] w (wr b true 0 v xs).fp g (fun v' h' L' => v' = .tuple #[] ∧ ∃ v2, L' = [wr b true 0 v2 (xs ++ putB id.toNat)]) := by
  have H := HO
  have hi := id.toNat_lt
  unfold Spec
  refine calls_of Tryd.func83 rfl Tryd.ntmps83 (by simp) ?_
  repeat' (first | ((first | refine WL.p rfl ?_ | refine WL.u ?_); first | (refine opk 1 rfl ?_; (refine ost_O (A := wr _ _ _ _ _) H rfl (by (exact ixQ)) (fun HO => pack_NumK _ _ _ _ _ HO id.toNat (by omega) (by omega)) rfl ?_; clear H; rintro vk wk hfk Lk ⟨rfl, v3, rfl⟩ H; simp only [List.cons_append, List.nil_append, List.eraseIdx_cons_zero, List.eraseIdx_cons_succ] at H)) | refine pvQ ?_) | refine Wc.seq ?_ | refine then_n ?_ | refine WL.nil ?_ | refine Wc.region ?_ | refine Wc.block ?_ | refine then_r ?_ | refine then_e ?_ | refine inb_e rfl ?_ | refine inb_o rfl ?_ | refine inb_n ?_ | refine inb_r ?_ | refine Wc.skip ?_ | refine Wc.exit ?_ | refine Wc.ret ?_ | refine Wc.cond_true rfl ?_ | refine Wc.cond_false rfl ?_)
  exact fn_end0 rfl ⟨_, _, H, rfl, _, rfl⟩
theorem seg_Foot1 (n : Nat) (hn : n ≤ 4096) (b bc : Nat) (v : Value) (xs : List UInt8) (g : FH) (w : World) (HO : St w (wr b true 0 v xs).fp g g [wr b true 0 v xs] w) (hx : xs.length ≤ 20) {T : TypeId} {fr : Nat × Nat} (hb : g bc = some (.cells [.int .i64 n].toArray T fr)) :
    Spec Tryd.prog 81 #[pt b, pt bc] w (wr b true 0 v xs).fp g (fun v' h' L' => v' = .tuple #[] ∧ ∃ v2, L' = [wr b true 0 v2 (xs ++ putB n)]) := by
  have H := HO
  unfold Spec
  refine calls_of Tryd.func81 rfl Tryd.ntmps81 (by simp) ?_
  repeat' (first | ((first | refine WL.p rfl ?_ | refine WL.u ?_); first | (refine opk 1 rfl ?_; (refine ost_O (A := wr _ _ _ _ _) H rfl (by (exact ixQ)) (fun HO => pack_NumK _ _ _ _ _ HO n (by omega) (by omega)) rfl ?_; clear H; rintro vk wk hfk Lk ⟨rfl, v3, rfl⟩ H; simp only [List.cons_append, List.nil_append, List.eraseIdx_cons_zero, List.eraseIdx_cons_succ] at H)) | refine pvQ ?_) | refine Wc.seq ?_ | refine then_n ?_ | refine WL.nil ?_ | refine Wc.region ?_ | refine Wc.block ?_ | refine then_r ?_ | refine then_e ?_ | refine inb_e rfl ?_ | refine inb_o rfl ?_ | refine inb_n ?_ | refine inb_r ?_ | refine Wc.skip ?_ | refine Wc.exit ?_ | refine Wc.ret ?_ | refine Wc.cond_true rfl ?_ | refine Wc.cond_false rfl ?_)
  exact fn_end0 rfl ⟨_, _, H, rfl, _, rfl⟩
theorem seg_Record1 (ys : List UInt8) (hy : ys.length ≤ 1000) (a : Option Addr) (c : Nat) (b bc : Nat) (v : Value) (xs : List UInt8) (g : FH) (w : World) (HO : St w (wr b true 0 v xs).fp g g [wr b true 0 v xs] w) (hx : xs.length ≤ 20) {T : TypeId} {fr : Nat × Nat} (hb : g bc = some (.cells [.slice a ys.length c].toArray T fr)) (hr : BS g a c ys) :
    Spec Tryd.prog 77 #[pt b, pt bc] w (wr b true 0 v xs).fp g (fun v' h' L' => v' = .tuple #[] ∧ ∃ v2, L' = [wr b true 0 v2 (xs ++ fieldB ys)]) := by
  have H := HO
  have hf := fieldB_len ys
  have hB : ∀ (b : Nat) (v : Value) (g : FH) (w : World) (HO : St w (wr b true 0 v xs).fp g g [wr b true 0 v xs] w) (hr : BS g a c ys), Spec Tryd.prog 78 #[pt b, .slice a ys.length c] w (wr b true 0 v xs).fp g (fun v' h' L' => v' = .int .i64 0 ∧ ∃ v2, L' = [wr b true 0 v2 (xs ++ fieldB ys)]) := fun b v g w HO hr => by
    have := pack_Bytes b true 0 v xs g w HO a c ys hr (by omega) (by omega)
    rw [layE_ok (by omega)] at this; exact this
  unfold Spec
  refine calls_of Tryd.func77 rfl Tryd.ntmps77 (by simp) ?_
  repeat' (first | ((first | refine WL.p rfl ?_ | refine WL.u ?_); first | (refine opk 1 rfl ?_; (refine ost_H (A := wr _ _ _ _ _) H rfl (by (exact ixQ)) (fun HO => hB _ _ _ _ HO hr) rfl ?_; clear H; rintro vk wk hfk Lk ⟨rfl, v3, rfl⟩ hle H; simp only [List.cons_append, List.nil_append, List.eraseIdx_cons_zero, List.eraseIdx_cons_succ] at H)) | refine pvQ ?_) | refine Wc.seq ?_ | refine then_n ?_ | refine WL.nil ?_ | refine Wc.region ?_ | refine Wc.block ?_ | refine then_r ?_ | refine then_e ?_ | refine inb_e rfl ?_ | refine inb_o rfl ?_ | refine inb_n ?_ | refine inb_r ?_ | refine Wc.skip ?_ | refine Wc.exit ?_ | refine Wc.ret ?_ | refine Wc.cond_true rfl ?_ | refine Wc.cond_false rfl ?_)
  exact fn_end0 rfl ⟨_, _, H, rfl, _, rfl⟩
theorem seg_Head (id : UInt32) (h0 : FH) (w : World) (hs : Sat h0 w) (hT : Half h0) :
    Spec Tryd.prog 38 #[.int .u32 id.toNat] w [] h0 (fun v h' L' => ∃ a' c', v = .slice a' (headB id).length c' ∧ L' = [own8 v 5 (headB id)]) := by
  have H := St.start hs
  have hl := putB_len id.toNat
  unfold Spec
  refine calls_of Tryd.func38 rfl Tryd.ntmps38 (by simp) ?_
  repeat' (first | ((first | refine WL.p rfl ?_ | refine WL.u ?_); first | refine pvQ ?_ | (refine opk 9 rfl ?_; (refine ost_boxq H rfl ?_; clear H; intro bk wk H))) | refine Wc.seq ?_ | refine then_n ?_ | refine WL.nil ?_ | refine Wc.region ?_ | refine Wc.block ?_ | refine then_r ?_ | refine then_e ?_ | refine inb_e rfl ?_ | refine inb_o rfl ?_ | refine inb_n ?_ | refine inb_r ?_ | refine Wc.skip ?_ | refine Wc.exit ?_ | refine Wc.ret ?_ | refine Wc.cond_true rfl ?_ | refine Wc.cond_false rfl ?_)
  obtain ⟨h1, hle1, hb1, H⟩ := H.freezeB
  repeat' (first | ((first | refine WL.p rfl ?_ | refine WL.u ?_); first | (refine opk 1 rfl ?_; (refine ost_Sk H rfl (seg_wrapped 1 (by decide) _ _ (putB id.toNat) (by omega) _ _ H.sat (hT.mono hle1) (fun b v xs g w hl hx HO => seg_Head1 id b _ v xs g w HO hx (hl _ _ hb1))) rfl ?_; clear H; rintro vk wk hfk Lk ⟨a5, c5, rfl, rfl⟩ hle H; simp only [List.cons_append, List.nil_append] at H)) | refine pvQ ?_ | (refine opk 9 rfl ?_; (refine ost_boxq H rfl ?_; clear H; intro bk wk H))) | refine Wc.seq ?_ | refine then_n ?_ | refine WL.nil ?_ | refine Wc.region ?_ | refine Wc.block ?_ | refine then_r ?_ | refine then_e ?_ | refine inb_e rfl ?_ | refine inb_o rfl ?_ | refine inb_n ?_ | refine inb_r ?_ | refine Wc.skip ?_ | refine Wc.exit ?_ | refine Wc.ret ?_ | refine Wc.cond_true rfl ?_ | refine Wc.cond_false rfl ?_)
  exact fn_ret1 (v := .slice _ _ _) rfl rfl ⟨_, _, H.pick 0 rfl, _, _, rfl, rfl⟩
noncomputable def outK (n : Int) : List UInt8 × Int := if 0 ≤ n ∧ n ≤ 4096 then (footB n.toNat, 0) else ([], 2)
theorem seg_Foot (n : Int) (n1 : -9223372036854775808 ≤ n) (n2 : n ≤ 9223372036854775807) (h0 : FH) (w : World) (hs : Sat h0 w) (hT : Half h0) :
    Spec Tryd.prog 36 #[.int .i64 n] w [] h0 (fun v h' L' => ∃ a' c', v = .tuple #[.slice a' (outK n).1.length c', .int .i64 (outK n).2] ∧ L' = [own8 (.slice a' (outK n).1.length c') 5 (outK n).1]) := by
  have H := St.start hs
  unfold Spec
  refine calls_of Tryd.func36 rfl Tryd.ntmps36 (by simp) ?_
  by_cases hn : 0 ≤ n ∧ n ≤ 4096
  · rw [show outK n = (footB n.toNat, 0) from if_pos hn]
    obtain ⟨m, rfl⟩ := Int.eq_ofNat_of_zero_le hn.1
    have hm : m ≤ 4096 := by omega
    have hl := putB_len m
    rw [show ((m : Int)).toNat = m from rfl]
    repeat' (first | ((first | refine WL.p rfl ?_ | refine WL.u ?_ | refine WL.g rfl rfl ?_ | refine WL.gu rfl ?_); first | refine pvQ ?_ | (refine opk 3 rfl ?_; (refine ost_cmp rfl rfl rfl rfl (fun hc => ?_) (fun hc => ?_) <;> (simp only [cmpP] at hc; try exact prIQ))) | (refine opk 4 rfl ?_; (refine ost_cmp rfl rfl rfl rfl (fun hc => ?_) (fun hc => ?_) <;> (simp only [cmpP] at hc; try exact prIQ))) | (refine opk 9 rfl ?_; (refine ost_boxq H rfl ?_; clear H; intro bk wk H))) | refine Wc.seq ?_ | refine then_n ?_ | refine WL.nil ?_ | refine Wc.region ?_ | refine Wc.block ?_ | refine then_r ?_ | refine then_e ?_ | refine inb_e rfl ?_ | refine inb_o rfl ?_ | refine inb_n ?_ | refine inb_r ?_ | refine Wc.skip ?_ | refine Wc.exit ?_ | refine Wc.ret ?_ | refine Wc.cond_true rfl ?_ | refine Wc.cond_false rfl ?_ | refine WL.skp rfl rfl ?_ | refine WL.sku rfl ?_)
    obtain ⟨h1, hle1, hb1, H⟩ := H.freezeB
    repeat' (first | ((first | refine WL.p rfl ?_ | refine WL.u ?_ | refine WL.g rfl rfl ?_ | refine WL.gu rfl ?_); first | (refine opk 1 rfl ?_; (refine ost_Sk H rfl (seg_wrapped 3 (by decide) _ _ (putB m) (by omega) _ _ H.sat (hT.mono hle1) (fun b v xs g w hl hx HO => seg_Foot1 m hm b _ v xs g w HO hx (hl _ _ hb1))) rfl ?_; clear H; rintro vk wk hfk Lk ⟨a5, c5, rfl, rfl⟩ hle H; simp only [List.cons_append, List.nil_append] at H)) | refine pvQ ?_ | (refine opk 3 rfl ?_; (refine ost_cmp rfl rfl rfl rfl (fun hc => ?_) (fun hc => ?_) <;> (simp only [cmpP] at hc; try exact prIQ))) | (refine opk 4 rfl ?_; (refine ost_cmp rfl rfl rfl rfl (fun hc => ?_) (fun hc => ?_) <;> (simp only [cmpP] at hc; try exact prIQ))) | (refine opk 9 rfl ?_; (refine ost_boxq H rfl ?_; clear H; intro bk wk H))) | refine Wc.seq ?_ | refine then_n ?_ | refine WL.nil ?_ | refine Wc.region ?_ | refine Wc.block ?_ | refine then_r ?_ | refine then_e ?_ | refine inb_e rfl ?_ | refine inb_o rfl ?_ | refine inb_n ?_ | refine inb_r ?_ | refine Wc.skip ?_ | refine Wc.exit ?_ | refine Wc.ret ?_ | refine Wc.cond_true rfl ?_ | refine Wc.cond_false rfl ?_ | refine WL.skp rfl rfl ?_ | refine WL.sku rfl ?_)
    exact fn_ret2 (v1 := .slice _ _ _) (v2 := .int _ _) rfl rfl rfl ⟨_, _, H.pick 0 rfl, _, _, rfl, rfl⟩
  · rw [show outK n = ([], 2) from if_neg hn]
    repeat' (first | ((first | refine WL.p rfl ?_ | refine WL.u ?_ | refine WL.g rfl rfl ?_ | refine WL.gu rfl ?_); first | refine pvQ ?_ | (refine opk 3 rfl ?_; (refine ost_cmp rfl rfl rfl rfl (fun hc => ?_) (fun hc => ?_) <;> (simp only [cmpP] at hc; try exact prIQ))) | (refine opk 4 rfl ?_; (refine ost_cmp rfl rfl rfl rfl (fun hc => ?_) (fun hc => ?_) <;> (simp only [cmpP] at hc; try exact prIQ))) | (refine opk 9 rfl ?_; (refine ost_boxq H rfl ?_; clear H; intro bk wk H))) | refine Wc.seq ?_ | refine then_n ?_ | refine WL.nil ?_ | refine Wc.region ?_ | refine Wc.block ?_ | refine then_r ?_ | refine then_e ?_ | refine inb_e rfl ?_ | refine inb_o rfl ?_ | refine inb_n ?_ | refine inb_r ?_ | refine Wc.skip ?_ | refine Wc.exit ?_ | refine Wc.ret ?_ | refine Wc.cond_true rfl ?_ | refine Wc.cond_false rfl ?_ | refine WL.skp rfl rfl ?_ | refine WL.sku rfl ?_)
    all_goals exact fn_ret2 (v1 := .slice _ _ _) (v2 := .int _ _) rfl rfl rfl ⟨_, _, (H.nil8 5).pick 0 rfl, _, _, rfl, rfl⟩
noncomputable def outC (o : OpT) : List UInt8 × Int := if rightO o 16 = true then (recB o, 0) else ([], 2)
theorem seg_Record (o : OpT) (h0 : FH) (w : World) (hs : Sat h0 w) (hT : Half h0) :
    Spec Tryd.prog 34 #[.agg (cOp o).toArray] w [] h0 (fun v h' L' => ∃ a' c', v = .tuple #[.slice a' (outC o).1.length c', .int .i64 (outC o).2] ∧ L' = [own8 (.slice a' (outC o).1.length c') 5 (outC o).1]) := by
  have H := St.start hs
  have lo := cOp_len o
  unfold Spec
  refine calls_of Tryd.func34 rfl Tryd.ntmps34 (by simp) ?_
  cases hr : rightO o 16 with
  | true =>
    have hl := encO_len o
    have hf := fieldB_len (encO o)
    have hE : ∀ w, Sat h0 w → Spec Tryd.prog 75 #[.agg (cOp o).toArray] w [] h0 (fun v h' L' => ∃ a' c', v = .tuple #[.slice a' (encO o).length c', .int .i64 0] ∧ h' = h0 ∧ L' = [own8 (.slice a' (encO o).length c') 5 (encO o)]) := fun w hs => by
      have := op_Encode h0 o w hs
      rw [show outO o = (encO o, 0) by unfold outO; rw [if_pos hr]] at this; exact this
    rw [show outC o = (recB o, 0) by unfold outC; rw [if_pos hr]]
    repeat' (first | ((first | refine WL.p rfl ?_ | refine WL.u ?_); first | (refine opk 1 rfl ?_; (refine ost_Sk H rfl (hE _ H.sat) rfl ?_; clear H; rintro vk wk hfk Lk ⟨a1, c1, rfl, e9, rfl⟩ hle H; simp only [List.cons_append, List.nil_append] at H)) | refine pvQ ?_ | (refine opk 3 rfl ?_; (refine ost_cmp rfl rfl rfl rfl (fun hc => ?_) (fun hc => ?_) <;> (simp only [cmpP] at hc; try exact prIQ))) | (refine opk 4 rfl ?_; (refine ost_cmp rfl rfl rfl rfl (fun hc => ?_) (fun hc => ?_) <;> (simp only [cmpP] at hc; try exact prIQ))) | (refine opk 8 rfl ?_; (refine ost_store1 H rfl rfl vlQ gvQ ixQ (by first | decide | (simp; omega) | (simp; done) | omega) ?_; clear H; intro wk H; simp only [List.set_cons_zero, List.set_cons_succ, Nat.reduceAdd] at H)) | (refine opk 9 rfl ?_; first | (refine ost_boxq H rfl ?_; clear H; intro bk wk H) | (refine ost_alloc1 H rfl rfl ?_; clear H; intro bk wk H))) | refine Wc.seq ?_ | refine then_n ?_ | refine WL.nil ?_ | refine Wc.region ?_ | refine Wc.block ?_ | refine then_r ?_ | refine then_e ?_ | refine inb_e rfl ?_ | refine inb_o rfl ?_ | refine inb_n ?_ | refine inb_r ?_ | refine Wc.skip ?_ | refine Wc.exit ?_ | refine Wc.ret ?_ | refine Wc.cond_true rfl ?_ | refine Wc.cond_false rfl ?_)
    replace e9 := e9.symm
    subst e9
    obtain ⟨h1, hle1, hb1, H⟩ := H.freezeB
    obtain ⟨a6, c6, h4, e6, hle4, hr6, H⟩ := H.freeze8
    cases e6
    repeat' (first | ((first | refine WL.p rfl ?_ | refine WL.u ?_); first | (refine opk 1 rfl ?_; (refine ost_Sk H rfl (seg_wrapped 2 (by decide) _ _ (fieldB (encO o)) (by omega) _ _ H.sat ((hT.mono hle1).mono hle4) (fun b v xs g w hl hx HO => seg_Record1 (encO o) (by omega) _ _ b _ v xs g w HO hx (hl _ _ (hle4 _ _ hb1)) (hr6.mono hl))) rfl ?_; clear H; rintro vk wk hfk Lk ⟨a5, c5, rfl, rfl⟩ hle H; simp only [List.cons_append, List.nil_append] at H)) | refine pvQ ?_ | (refine opk 3 rfl ?_; (refine ost_cmp rfl rfl rfl rfl (fun hc => ?_) (fun hc => ?_) <;> (simp only [cmpP] at hc; try exact prIQ))) | (refine opk 4 rfl ?_; (refine ost_cmp rfl rfl rfl rfl (fun hc => ?_) (fun hc => ?_) <;> (simp only [cmpP] at hc; try exact prIQ))) | (refine opk 8 rfl ?_; (refine ost_store1 H rfl rfl vlQ gvQ ixQ (by first | decide | (simp; omega) | (simp; done) | omega) ?_; clear H; intro wk H; simp only [List.set_cons_zero, List.set_cons_succ, Nat.reduceAdd] at H)) | (refine opk 9 rfl ?_; first | (refine ost_boxq H rfl ?_; clear H; intro bk wk H) | (refine ost_alloc1 H rfl rfl ?_; clear H; intro bk wk H))) | refine Wc.seq ?_ | refine then_n ?_ | refine WL.nil ?_ | refine Wc.region ?_ | refine Wc.block ?_ | refine then_r ?_ | refine then_e ?_ | refine inb_e rfl ?_ | refine inb_o rfl ?_ | refine inb_n ?_ | refine inb_r ?_ | refine Wc.skip ?_ | refine Wc.exit ?_ | refine Wc.ret ?_ | refine Wc.cond_true rfl ?_ | refine Wc.cond_false rfl ?_)
    exact fn_ret2 (v1 := .slice _ _ _) (v2 := .int _ _) rfl rfl rfl ⟨_, _, H.pick 0 rfl, _, _, rfl, rfl⟩
  | false =>
    have hE : ∀ w, Sat h0 w → Spec Tryd.prog 75 #[.agg (cOp o).toArray] w [] h0 (fun v h' L' => ∃ a' c', v = .tuple #[.slice a' ([] : List UInt8).length c', .int .i64 2] ∧ h' = h0 ∧ L' = [own8 (.slice a' ([] : List UInt8).length c') 5 []]) := fun w hs => by
      have := op_Encode h0 o w hs
      rw [show outO o = ([], 2) by unfold outO; rw [hr]; rfl] at this; exact this
    rw [show outC o = ([], 2) by unfold outC; rw [hr]; rfl]
    repeat' (first | ((first | refine WL.p rfl ?_ | refine WL.u ?_); first | (refine opk 1 rfl ?_; (refine ost_Sk H rfl (hE _ H.sat) rfl ?_; clear H; rintro vk wk hfk Lk ⟨a1, c1, rfl, e9, rfl⟩ hle H; simp only [List.cons_append, List.nil_append] at H)) | refine pvQ ?_ | (refine opk 3 rfl ?_; (refine ost_cmp rfl rfl rfl rfl (fun hc => ?_) (fun hc => ?_) <;> (simp only [cmpP] at hc; try exact prIQ))) | (refine opk 4 rfl ?_; (refine ost_cmp rfl rfl rfl rfl (fun hc => ?_) (fun hc => ?_) <;> (simp only [cmpP] at hc; try exact prIQ))) | (refine opk 8 rfl ?_; (refine ost_store1 H rfl rfl vlQ gvQ ixQ (by first | decide | (simp; omega) | (simp; done) | omega) ?_; clear H; intro wk H; simp only [List.set_cons_zero, List.set_cons_succ, Nat.reduceAdd] at H)) | (refine opk 9 rfl ?_; first | (refine ost_boxq H rfl ?_; clear H; intro bk wk H) | (refine ost_alloc1 H rfl rfl ?_; clear H; intro bk wk H))) | refine Wc.seq ?_ | refine then_n ?_ | refine WL.nil ?_ | refine Wc.region ?_ | refine Wc.block ?_ | refine then_r ?_ | refine then_e ?_ | refine inb_e rfl ?_ | refine inb_o rfl ?_ | refine inb_n ?_ | refine inb_r ?_ | refine Wc.skip ?_ | refine Wc.exit ?_ | refine Wc.ret ?_ | refine Wc.cond_true rfl ?_ | refine Wc.cond_false rfl ?_)
    exact fn_ret2 (v1 := .slice _ _ _) (v2 := .int _ _) rfl rfl rfl ⟨_, _, (H.nil8 5).pick 0 rfl, _, _, rfl, rfl⟩
end Go.Tg

set_option linter.unusedVariables false
set_option linter.unusedSimpArgs false
set_option maxRecDepth 100000
set_option maxHeartbeats 4000000
namespace Go.Tg
open Go Go.Proofs
def nm2 (f : List UInt8) : Nat := (numE (numE 0 f).2.2.1 (numE 0 f).2.2.2).1
def ok2 (f : List UInt8) (kind : Nat) : Bool := decide ((numE 0 f).1 = kind) && (decide ((numE (numE 0 f).2.2.1 (numE 0 f).2.2.2).2.2.1 = 0) && decide ((numE (numE 0 f).2.2.1 (numE 0 f).2.2.2).2.2.2.length = 0))
theorem nm2_lt (f : List UInt8) : nm2 f < 18446744073709551616 := numE_lt _ _
theorem numE_e0 {e : Int} {xs : List UInt8} (h : (numE e xs).2.2.1 = 0) : e = 0 ∧ (numE 0 xs).2.1 = 0 := by
  by_cases he : e = 0
  · subst he
    refine ⟨rfl, ?_⟩
    by_cases h2 : (numE 0 xs).2.1 = 0
    · exact h2
    · exact absurd h (numE_err2 h2).1
  · rw [numE_err he] at h; exact absurd h he
theorem ok2_iff {f : List UInt8} {kind : Nat} (hk : kind < 18446744073709551616) : ok2 f kind = true ↔ f = numF kind (nm2 f) := by
  unfold ok2
  simp only [Bool.and_eq_true, decide_eq_true_eq, List.length_eq_zero_iff]
  constructor
  · rintro ⟨h1, h2, h3⟩
    obtain ⟨h4, h5⟩ := numE_e0 h2
    rw [h4] at h2 h3
    obtain ⟨-, h6⟩ := numE_e0 (e := 0) h4
    have h7 := numE_inv h6
    have h8 := numE_inv (numE_e0 h2).2
    rw [h3, List.append_nil] at h8
    unfold numF nm2
    rw [h4]
    rw [h8, h1] at h7
    exact h7
  · intro h
    have hn := nm2_lt f
    generalize nm2 f = n at h hn
    subst h
    unfold numF
    rw [numE_putB kind hk]
    dsimp only
    have h2 := numE_putB n hn []
    rw [List.append_nil] at h2
    rw [h2]
    exact ⟨rfl, rfl, rfl⟩
theorem nm2_of {kind n : Nat} (hk : kind < 18446744073709551616) (hn : n < 18446744073709551616) : nm2 (numF kind n) = n := by
  unfold nm2 numF
  rw [numE_putB kind hk]
  dsimp only
  have h2 := numE_putB n hn []
  rw [List.append_nil] at h2
  rw [h2]
theorem ok2_of {kind n : Nat} (hk : kind < 18446744073709551616) (hn : n < 18446744073709551616) : ok2 (numF kind n) kind = true := (ok2_iff hk).2 (by rw [nm2_of hk hn])
theorem num_fin {f : List UInt8} {kind : Nat} {q : Bool} (h : ok2 f kind = q) : Value.tuple #[.int .u64 ((numE (numE 0 f).2.2.1 (numE 0 f).2.2.2).1 : Nat), .bool q] = .tuple #[.int .u64 (nm2 f), .bool (ok2 f kind)] := by rw [h]; rfl
theorem seg_number (h0 : FH) (a : Option Addr) (c : Nat) (f : List UInt8) (kind : Nat) (w : World) (hs : Sat h0 w) (hr : BS h0 a c f) (hb : f.length ≤ 1000000) :
    SpecV Tryd.prog 84 #[.slice a f.length c, .int .u64 kind] w (.tuple #[.int .u64 (nm2 f), .bool (ok2 f kind)]) := by
  have H := St.start hs
  have hl := numE_len 0 f
  unfold SpecV
  refine calls_of Tryd.func84 rfl Tryd.ntmps84 (by simp) ?_
  repeat' (first | ((first | refine WL.p rfl ?_ | refine WL.u ?_ | refine WL.g rfl rfl ?_ | refine WL.gu rfl ?_); first | (refine opk 1 rfl ?_; (refine ost_Sk H rfl (pack_Read _ _ _ _ _ H.sat hr (by omega)) rfl ?_; clear H; rintro vk wk hfk Lk ⟨b1, a1, c1, rfl, hr1, rfl⟩ hle H; simp only [List.cons_append, List.nil_append] at H)) | refine pvQ ?_ | (refine opk 3 rfl ?_; (refine ost_cmp rfl rfl rfl rfl (fun hc => ?_) (fun hc => ?_) <;> (simp only [cmpP] at hc; try exact prIQ))) | (refine opk 4 rfl ?_; (refine ost_cmp rfl rfl rfl rfl (fun hc => ?_) (fun hc => ?_) <;> (simp only [cmpP] at hc; try exact prIQ)))) | refine Wc.seq ?_ | refine then_n ?_ | refine WL.nil ?_ | refine Wc.region ?_ | refine Wc.block ?_ | refine then_r ?_ | refine then_e ?_ | refine inb_e rfl ?_ | refine inb_o rfl ?_ | refine inb_n ?_ | refine inb_r ?_ | refine Wc.skip ?_ | refine Wc.exit ?_ | refine Wc.ret ?_ | refine Wc.cond_true rfl ?_ | refine Wc.cond_false rfl ?_ | refine WL.skp rfl rfl ?_ | refine WL.sku rfl ?_)
  repeat' (first | ((first | refine WL.p rfl ?_ | refine WL.u ?_ | refine WL.g rfl rfl ?_ | refine WL.gu rfl ?_); first | (refine opk 1 rfl ?_; first | (refine ost_H (A := rdr _ _ _ _ _ _) H rfl (by (exact ixQ)) (fun HO => rd_Num _ _ _ _ _ _ _ HO (by assumption)) rfl ?_; clear H; rintro vk wk hfk Lk ⟨rfl, rfl, a2, c2, hr2, rfl⟩ hle H; simp only [List.cons_append, List.nil_append, List.eraseIdx_cons_zero, List.eraseIdx_cons_succ] at H) | (refine ost_VB H rfl (rd_Done _ _ _ _ _ _ H.bI) rfl ?_ ?_ <;> (intro hc; (try (first | exact (bcon hc ‹_›).elim | exact (bcon ‹_› hc).elim)); try (clear H; intro wk H)))) | refine pvQ ?_ | (refine opk 3 rfl ?_; (refine ost_cmp rfl rfl rfl rfl (fun hc => ?_) (fun hc => ?_) <;> (simp only [cmpP] at hc; try exact prIQ))) | (refine opk 4 rfl ?_; (refine ost_cmp rfl rfl rfl rfl (fun hc => ?_) (fun hc => ?_) <;> (simp only [cmpP] at hc; try exact prIQ)))) | refine Wc.seq ?_ | refine then_n ?_ | refine WL.nil ?_ | refine Wc.region ?_ | refine Wc.block ?_ | refine then_r ?_ | refine then_e ?_ | refine inb_e rfl ?_ | refine inb_o rfl ?_ | refine inb_n ?_ | refine inb_r ?_ | refine Wc.skip ?_ | refine Wc.exit ?_ | refine Wc.ret ?_ | refine Wc.cond_true rfl ?_ | refine Wc.cond_false rfl ?_ | refine WL.skp rfl rfl ?_ | refine WL.sku rfl ?_)
  · exact fn_ret2 (v1 := .int _ _) (v2 := .bool _) rfl rfl rfl ⟨num_fin (by unfold ok2; rw [hc, Bool.and_true]; exact decide_eq_true (by omega)), H.fr⟩
  · exact fn_ret2 (v1 := .int _ _) (v2 := .bool _) rfl rfl rfl ⟨num_fin (by unfold ok2; rw [hc, Bool.and_false]), H.fr⟩
  · exact fn_ret2 (v1 := .int _ _) (v2 := .bool _) rfl rfl rfl ⟨num_fin (by unfold ok2; rw [decide_eq_false (by omega), Bool.false_and]), H.fr⟩
noncomputable def opS (f : List UInt8) : OpT × Bool := match isOp f with
  | some o => (o, true)
  | none => (zeroO, false)
def bt2 (f : List UInt8) : List UInt8 × Int × Int × List UInt8 := bytesE (numE 0 f).2.2.1 (numE 0 f).2.2.2
def ok3 (f : List UInt8) : Bool := decide ((numE 0 f).1 = 2) && (decide ((bt2 f).2.2.1 = 0) && decide ((bt2 f).2.2.2.length = 0))
theorem bytesE_e0 {e : Int} {xs : List UInt8} (h : (bytesE e xs).2.2.1 = 0) : e = 0 ∧ (bytesE e xs).2.1 = 0 := by
  unfold bytesE at h ⊢
  by_cases h1 : (numE e xs).2.1 = 0
  · rw [if_neg (by simpa using h1)] at h ⊢
    have he : e = 0 := Classical.byContradiction fun he => by rw [numE_err he] at h1; exact he h1
    refine ⟨he, ?_⟩
    by_cases h2 : (numE e xs).2.2.2.length < (numE e xs).1
    · rw [if_pos h2] at h; cases h
    · rw [if_neg h2]
  · rw [if_pos h1] at h
    obtain ⟨h2, h3⟩ := numE_e0 h
    rw [h2] at h1; exact absurd h3 h1
theorem bt2_yes {f : List UInt8} (h : ok3 f = true) : f = putB 2 ++ fieldB (bt2 f).1 := by
  unfold ok3 at h
  simp only [Bool.and_eq_true, decide_eq_true_eq, List.length_eq_zero_iff] at h
  obtain ⟨h1, h2, h3⟩ := h
  obtain ⟨h4, h5⟩ := bytesE_e0 h2
  obtain ⟨-, h6⟩ := numE_e0 (e := 0) h4
  have h7 := numE_inv h6
  have h8 : (numE 0 f).2.2.2 = fieldB (bt2 f).1 ++ (bt2 f).2.2.2 := by
    unfold bt2 at h2 h3 ⊢
    rw [h4] at h2 h3 h5 ⊢
    exact bytesE_inv h5
  rw [h3, List.append_nil] at h8
  rw [h8, h1] at h7
  exact h7
theorem bt2_of (c : List UInt8) (hc : c.length < 18446744073709551616) : bt2 (putB 2 ++ fieldB c) = (c, 0, 0, []) ∧ ok3 (putB 2 ++ fieldB c) = true := by
  have e1 := numE_putB 2 (by decide) (fieldB c)
  have e2 : bt2 (putB 2 ++ fieldB c) = (c, 0, 0, []) := by
    unfold bt2
    rw [e1]
    have := bytesE_fieldB c [] hc
    rw [List.append_nil] at this; exact this
  refine ⟨e2, ?_⟩
  unfold ok3
  rw [e2, e1]; rfl
theorem opS_no {f : List UInt8} (h : ok3 f = false) : opS f = (zeroO, false) := by
  have : isOp f = none := isOp_none.2 fun u hu e => by
    have := (bt2_of (encO u) (by have := encO_len u; omega)).2
    rw [show putB 2 ++ fieldB (encO u) = f from e, h] at this; cases this
  unfold opS; rw [this]
theorem opS_yes {f : List UInt8} (h : ok3 f = true) : opS f = ((decO (bt2 f).1).1, decide ((decO (bt2 f).1).2 = 0)) := by
  have hf := bt2_yes h
  rcases decO_spec (bt2 f).1 with ⟨h1, h2, h3⟩ | ⟨h1, h2, h3⟩
  · have : isOp f = some (decO (bt2 f).1).1 := by
      rw [← isOp_rec h2, show recF (decO (bt2 f).1).1 = f by unfold recF; rw [h3]; exact hf.symm]
    unfold opS; rw [this, h1]; rfl
  · have : isOp f = none := isOp_none.2 fun u hu e => by
      have h4 := (bt2_of (encO u) (by have := encO_len u; omega)).1
      rw [show putB 2 ++ fieldB (encO u) = f from e] at h4
      exact h3 u hu (by rw [h4])
    unfold opS; rw [this, h1, h2]; rfl
theorem seg_operation (h0 : FH) (a : Option Addr) (c : Nat) (f : List UInt8) (w : World) (hs : Sat h0 w) (hr : BS h0 a c f) (hb : f.length ≤ 1000000) :
    SpecV Tryd.prog 85 #[.slice a f.length c] w (.tuple #[.agg (cOp (opS f).1).toArray, .bool (opS f).2]) := by
  have H := St.start hs
  have hl := numE_len 0 f
  have hK := bytesE_len (numE 0 f).2.2.1 (numE 0 f).2.2.2
  have hy := @opS_yes f
  have hn := @opS_no f
  have h3 : ok3 f = (decide ((numE 0 f).1 = 2) && (decide ((bt2 f).2.2.1 = 0) && decide ((bt2 f).2.2.2.length = 0))) := rfl
  have ob : bytesE (numE 0 f).2.2.1 (numE 0 f).2.2.2 = bt2 f := rfl
  unfold SpecV
  refine calls_of Tryd.func85 rfl Tryd.ntmps85 (by simp) ?_
  repeat' (first | ((first | refine WL.p rfl ?_ | refine WL.u ?_ | refine WL.g rfl rfl ?_ | refine WL.gu rfl ?_); first | (refine opk 1 rfl ?_; (refine ost_Sk H rfl (pack_Read _ _ _ _ _ H.sat hr (by omega)) rfl ?_; clear H; rintro vk wk hfk Lk ⟨b1, a1, c1, rfl, hr1, rfl⟩ hle H; simp only [List.cons_append, List.nil_append] at H)) | refine pvQ ?_ | (refine opk 3 rfl ?_; (refine ost_cmp rfl rfl rfl rfl (fun hc => ?_) (fun hc => ?_) <;> (simp only [cmpP] at hc; try exact prIQ))) | (refine opk 4 rfl ?_; (refine ost_cmp rfl rfl rfl rfl (fun hc => ?_) (fun hc => ?_) <;> (simp only [cmpP] at hc; try exact prIQ))) | (refine opk 8 rfl ?_; (refine ost_storeW H rfl rfl rfl rfl lQ ixQ lQ okQ ?_; clear H; intro wk H; simp only [List.set_cons_zero, List.set_cons_succ, Nat.reduceAdd] at H)) | (refine opk 9 rfl ?_; (refine ost_allocA H rfl ?_; clear H; intro bk wk H))) | refine Wc.seq ?_ | refine then_n ?_ | refine WL.nil ?_ | refine Wc.region ?_ | refine Wc.block ?_ | refine then_r ?_ | refine then_e ?_ | refine inb_e rfl ?_ | refine inb_o rfl ?_ | refine inb_n ?_ | refine inb_r ?_ | refine Wc.skip ?_ | refine Wc.exit ?_ | refine Wc.ret ?_ | refine Wc.cond_true rfl ?_ | refine Wc.cond_false rfl ?_ | refine WL.skp rfl rfl ?_ | refine WL.sku rfl ?_)
  have z23 := cOp_len zeroO
  repeat' (first | ((first | refine WL.p rfl ?_ | refine WL.u ?_ | refine WL.g rfl rfl ?_ | refine WL.gu rfl ?_); first | (refine opk 1 rfl ?_; first | (refine ost_H (A := rdr _ _ _ _ _ _) H rfl (by (exact ixQ)) (fun HO => rd_Num _ _ _ _ _ _ _ HO (by assumption)) rfl ?_; clear H; rintro vk wk hfk Lk ⟨rfl, rfl, a2, c2, hr2, rfl⟩ hle H; simp only [List.cons_append, List.nil_append, List.eraseIdx_cons_zero, List.eraseIdx_cons_succ] at H) | (refine ost_H (A := rdr _ _ _ _ _ _) H rfl (by (exact ixQ)) (fun HO => rd_Bytes _ _ _ _ _ _ _ HO hr2 (by omega)) rfl ?_; clear H; rintro vk wk hfk Lk ⟨a3, c3, a4, c4, rfl, rfl, hr5, rfl⟩ hle H; simp only [List.cons_append, List.nil_append, List.eraseIdx_cons_zero, List.eraseIdx_cons_succ] at H) | (refine ost_VB H rfl (rd_Done _ _ _ _ _ _ H.bI) rfl ?_ ?_ <;> (intro hc; (try (first | exact (bcon hc ‹_›).elim | exact (bcon ‹_› hc).elim)); try (clear H; intro wk H)))) | refine pvQ ?_ | (refine opk 3 rfl ?_; (refine ost_cmp rfl rfl rfl rfl (fun hc => ?_) (fun hc => ?_) <;> (simp only [cmpP] at hc; try exact prIQ))) | (refine opk 4 rfl ?_; (refine ost_cmp rfl rfl rfl rfl (fun hc => ?_) (fun hc => ?_) <;> (simp only [cmpP] at hc; try exact prIQ))) | (refine opk 8 rfl ?_; (refine ost_storeW H rfl rfl rfl rfl lQ ixQ lQ okQ ?_; clear H; intro wk H; simp only [List.set_cons_zero, List.set_cons_succ, Nat.reduceAdd] at H)) | (refine opk 9 rfl ?_; (refine ost_allocA H rfl ?_; clear H; intro bk wk H))) | refine Wc.seq ?_ | refine then_n ?_ | refine WL.nil ?_ | refine Wc.region ?_ | refine Wc.block ?_ | refine then_r ?_ | refine then_e ?_ | refine inb_e rfl ?_ | refine inb_o rfl ?_ | refine inb_n ?_ | refine inb_r ?_ | refine Wc.skip ?_ | refine Wc.exit ?_ | refine Wc.ret ?_ | refine Wc.cond_true rfl ?_ | refine Wc.cond_false rfl ?_ | refine WL.skp rfl rfl ?_ | refine WL.sku rfl ?_)
  · refine fn_ret2 (v2 := .bool _) rfl (rv_cellA rfl rfl H.bI lQ) rfl ⟨?_, H.fr⟩
    rw [hn (by rw [h3, decide_eq_false (by omega), Bool.false_and])]; rfl
  · rw [ob] at H hK hc
    have hyy := hy (by rw [h3, hc, Bool.and_true]; exact decide_eq_true (by omega))
    obtain ⟨a6, c6, h6, e6, hle6, hr6, H⟩ := H.freeze8
    injection e6 with e61 e62 e63
    rw [← e61, ← e63] at hr6
    rw [hyy]
    have hD := op_Decode h6 a3 c3 (bt2 f).1
    have lx := cOp_len (decO (bt2 f).1).1
    generalize decO (bt2 f).1 = D at hD lx ⊢
    repeat' (first | ((first | refine WL.p rfl ?_ | refine WL.u ?_ | refine WL.g rfl rfl ?_ | refine WL.gu rfl ?_); first | (refine opk 1 rfl ?_; (refine ost_V H rfl (hD _ H.sat hr6 (by omega)) rfl ?_; clear H; intro wk H)) | refine pvQ ?_ | (refine opk 3 rfl ?_; (refine ost_cmp rfl rfl rfl rfl (fun hc => ?_) (fun hc => ?_) <;> (simp only [cmpP] at hc; try exact prIQ))) | (refine opk 4 rfl ?_; (refine ost_cmp rfl rfl rfl rfl (fun hc => ?_) (fun hc => ?_) <;> (simp only [cmpP] at hc; try exact prIQ))) | (refine opk 8 rfl ?_; (refine ost_storeW H rfl rfl rfl rfl lQ ixQ lQ okQ ?_; clear H; intro wk H; simp only [List.set_cons_zero, List.set_cons_succ, Nat.reduceAdd] at H)) | (refine opk 9 rfl ?_; (refine ost_allocA H rfl ?_; clear H; intro bk wk H))) | refine Wc.seq ?_ | refine then_n ?_ | refine WL.nil ?_ | refine Wc.region ?_ | refine Wc.block ?_ | refine then_r ?_ | refine then_e ?_ | refine inb_e rfl ?_ | refine inb_o rfl ?_ | refine inb_n ?_ | refine inb_r ?_ | refine Wc.skip ?_ | refine Wc.exit ?_ | refine Wc.ret ?_ | refine Wc.cond_true rfl ?_ | refine Wc.cond_false rfl ?_ | refine WL.skp rfl rfl ?_ | refine WL.sku rfl ?_)
    · refine fn_ret2 (v2 := .bool _) rfl (rv_cellA rfl rfl H.bI lQ) rfl ⟨?_, H.fr⟩
      rw [decide_eq_true (by assumption)]
    · refine fn_ret2 (v2 := .bool _) rfl (rv_cellA rfl rfl H.bI lQ) rfl ⟨?_, H.fr⟩
      rw [decide_eq_false (by assumption)]
  · rw [ob] at hc
    refine fn_ret2 (v2 := .bool _) rfl (rv_cellA rfl rfl H.bI lQ) rfl ⟨?_, H.fr⟩
    rw [hn (by rw [h3, hc, Bool.and_false])]; rfl
end Go.Tg

